/- Plain laws of what CdtSound reaches, part P10TreeR. On no condition. -/
import Derived.Test.YtbhboofhcgkgfaaP10RepCdtSound
set_option linter.all false
/-! Slots in a tree: one takes another one's place. -/
set_option linter.unusedVariables false
namespace Go.Proofs
open Go.Sl
def rP (P : Int → Int) (a b : Int) : Int → Int := fun i => if i = b then P a else if i = a then -1 else if P i = a then b else P i
def rK (P : Int → Int) (K : Int → List Int) (a b : Int) : Int → List Int := fun i => if i = b then K a else if i = a then [] else if i = P a then rep a b (K i) else K i
section
variable {P : Int → Int} {K : Int → List Int}
theorem Tree.replace (t : Tree P K) {a b : Int} (ha : 0 ≤ a ∧ a < 96) (hb : 0 ≤ b ∧ b < 96) (hne : a ≠ b) (hPb : P b = -1) (hKb : K b = []) : Tree (rP P a b) (rK P K a b) := by
  have pa := t.par a ha.1 ha.2
  have ia := t.irr a ha.1 ha.2
  have pab : P a ≠ b := fun z => by have := t.all a ha.1 ha.2 (by omega); rw [z, hKb] at this; cases this
  have hbn : ∀ i, 0 ≤ i → i < 96 → b ∉ K i := fun i i0 i1 z => by have := (t.kid i i0 i1 b z).2.2; omega
  have eb : rP P a b b = P a := by unfold rP; rw [if_pos rfl]
  have ea : rP P a b a = -1 := by unfold rP; rw [if_neg hne, if_pos rfl]
  have eo : ∀ x, x ≠ b → x ≠ a → rP P a b x = if P x = a then b else P x := fun x h1 h2 => by unfold rP; rw [if_neg h1, if_neg h2]
  have kb : rK P K a b b = K a := by unfold rK; rw [if_pos rfl]
  have ka : rK P K a b a = [] := by unfold rK; rw [if_neg hne, if_pos rfl]
  have kp : ∀ i, i ≠ b → i ≠ a → i = P a → rK P K a b i = rep a b (K i) := fun i h1 h2 h3 => by unfold rK; rw [if_neg h1, if_neg h2, if_pos h3]
  have ko : ∀ i, i ≠ b → i ≠ a → i ≠ P a → rK P K a b i = K i := fun i h1 h2 h3 => by unfold rK; rw [if_neg h1, if_neg h2, if_neg h3]
  refine ⟨fun i i0 i1 => ?_, fun i i0 i1 x hx => ?_, fun x x0 x1 hx => ?_, fun i i0 i1 => ?_, fun i i0 i1 => ?_⟩
  · by_cases e : i = b
    · rw [e, eb]; exact pa
    · by_cases e2 : i = a
      · rw [e2, ea]; omega
      · rw [eo i e e2]; split
        · omega
        · exact t.par i i0 i1
  · by_cases e : i = b
    · rw [e, kb] at hx
      have := t.kid a ha.1 ha.2 x hx
      have xb : x ≠ b := fun z => by rw [z, hPb] at this; omega
      have xa : x ≠ a := fun z => by rw [z] at this; exact ia this.2.2
      rw [eo x xb xa, if_pos this.2.2, e]
      exact ⟨this.1, this.2.1, rfl⟩
    · by_cases e2 : i = a
      · rw [e2, ka] at hx; cases hx
      · by_cases e3 : i = P a
        · rw [kp i e e2 e3, rep_mem (hbn i i0 i1)] at hx
          rcases hx with ⟨rfl, _⟩ | ⟨xa, hx⟩
          · rw [eb]; exact ⟨hb.1, hb.2, e3.symm⟩
          · have := t.kid i i0 i1 x hx
            have xb : x ≠ b := fun z => by rw [z, hPb] at this; omega
            rw [eo x xb xa, if_neg (by omega)]; exact this
        · rw [ko i e e2 e3] at hx
          have := t.kid i i0 i1 x hx
          have xb : x ≠ b := fun z => by rw [z, hPb] at this; omega
          have xa : x ≠ a := fun z => by rw [z] at this; exact e3 this.2.2.symm
          rw [eo x xb xa, if_neg (by omega)]; exact this
  · by_cases e : x = b
    · subst e
      rw [eb] at hx ⊢
      have := t.all a ha.1 ha.2 hx
      rw [kp (P a) pab ia rfl, rep_mem (hbn _ hx pa.2)]
      exact .inl ⟨rfl, this⟩
    · by_cases e2 : x = a
      · rw [e2, ea] at hx; omega
      · rw [eo x e e2] at hx ⊢
        by_cases e3 : P x = a
        · rw [if_pos e3, kb]
          have := t.all x x0 x1 (by omega)
          rwa [e3] at this
        · rw [if_neg e3] at hx ⊢
          have := t.all x x0 x1 hx
          have nb : P x ≠ b := fun z => by rw [z, hKb] at this; cases this
          by_cases e4 : P x = P a
          · rw [kp _ nb e3 e4, rep_mem (hbn _ hx (t.par x x0 x1).2)]; exact .inr ⟨e2, this⟩
          · rw [ko _ nb e3 e4]; exact this
  · by_cases e : i = b
    · rw [e, kb]; exact t.nod a ha.1 ha.2
    · by_cases e2 : i = a
      · rw [e2, ka]; exact List.nodup_nil
      · by_cases e3 : i = P a
        · rw [kp i e e2 e3]; exact rep_nodup (hbn i i0 i1) (t.nod i i0 i1)
        · rw [ko i e e2 e3]; exact t.nod i i0 i1
  · by_cases e : i = b
    · rw [e, eb]; exact pab
    · by_cases e2 : i = a
      · rw [e2, ea]; omega
      · rw [eo i e e2]; split
        · exact fun z => e z.symm
        · exact t.irr i i0 i1
def moveTo (v : List Int) (a b : Int) : List Int := if sget v a 1 ≠ -1 then clearTo (besideTo (sput (sput (sput v b 1 (sget v a 1)) b 3 (sget v a 3)) b 4 (sget v a 4)) a b b) a else v
def adopt (v : List Int) (b : Int) (l : List Int) : List Int := l.foldl (fun s k => sput s k 1 b) v
def replaceTo (v : List Int) (a b : Int) (l : List Int) : List Int := sput (sput (adopt (moveTo v a b) b l) b 2 (sget (adopt (moveTo v a b) b l) a 2)) a 2 (-1)
theorem len_clearTo {v : List Int} (i : Int) : (clearTo v i).length = v.length := by unfold clearTo; rw [sput_len, sput_len, sput_len]
theorem len_moveTo {v : List Int} (a b : Int) : (moveTo v a b).length = v.length := by
  unfold moveTo; split
  · rw [len_clearTo, len_besideTo, sput_len, sput_len, sput_len]
  · rfl
theorem len_adopt (b : Int) : ∀ (l : List Int) (v : List Int), (adopt v b l).length = v.length
  | [], _ => rfl
  | c :: r, v => by
    show (adopt (sput v c 1 b) b r).length = _
    rw [len_adopt b r, sput_len]
theorem sget_adopt {b : Int} (hb : 0 ≤ b ∧ b < 96) : ∀ (l : List Int) {v : List Int}, v.length = 738 → (∀ y ∈ l, 0 ≤ y ∧ y < 96) → ∀ x f, sget (adopt v b l) x f = if f = 1 ∧ x ∈ l then b else sget v x f
  | [], v, _, _, x, f => by rw [if_neg (fun z => by cases z.2)]; rfl
  | c :: r, v, hl, hr, x, f => by
    have hc := hr c List.mem_cons_self
    show sget (adopt (sput v c 1 b) b r) x f = _
    rw [sget_adopt hb r (by rw [sput_len]; exact hl) (fun y hy => hr y (List.mem_cons_of_mem _ hy)) x f, sget_sput hl _ _ _ _ _ (by omega)]
    by_cases e : f = 1 ∧ x ∈ r
    · rw [if_pos e, if_pos ⟨e.1, List.mem_cons_of_mem _ e.2⟩]
    · rw [if_neg e]
      by_cases e2 : f = 1 ∧ x = c
      · rw [if_pos ⟨⟨hc.1, hc.2, by decide, by decide⟩, e2.2.symm, e2.1.symm⟩, if_pos ⟨e2.1, by rw [e2.2]; exact List.mem_cons_self⟩]
      · rw [if_neg (fun z => e2 ⟨z.2.2.symm, z.2.1.symm⟩), if_neg]
        rintro ⟨z1, z2⟩
        rcases List.mem_cons.1 z2 with z | z
        · exact e2 ⟨z1, z⟩
        · exact e ⟨z1, z⟩
theorem sget_put3 {v : List Int} (hl : v.length = 738) {b p n q : Int} (hb : 0 ≤ b ∧ b < 96) (hp : -1 ≤ p ∧ p < 96) (hn : -1 ≤ n ∧ n < 96) (hq : -1 ≤ q ∧ q < 96) (x f : Int) : sget (sput (sput (sput v b 1 p) b 3 n) b 4 q) x f = if b = x ∧ f = 4 then q else if b = x ∧ f = 3 then n else if b = x ∧ f = 1 then p else sget v x f := by
  have s1 : InSlot b 1 := ⟨hb.1, hb.2, by decide, by decide⟩
  have s3 : InSlot b 3 := ⟨hb.1, hb.2, by decide, by decide⟩
  have s4 : InSlot b 4 := ⟨hb.1, hb.2, by decide, by decide⟩
  rw [sget_sput (by simp [sput_len, hl]) _ _ _ _ _ hq, sget_sput (by simp [sput_len, hl]) _ _ _ _ _ hn, sget_sput hl _ _ _ _ _ hp]
  simp only [s1, s3, s4, true_and, @eq_comm _ _ f]
/-- The fields behind a move. -/
theorem sget_moveTo (t : Tree P K) {v : List Int} (hl : v.length = 738) (w : TW P K v) {a b p : Int} (ha : 0 ≤ a ∧ a < 96) (hb : 0 ≤ b ∧ b < 96) (hne : a ≠ b) (hP : P a = p) (hp : 0 ≤ p) (hKb : K b = []) (x f : Int) :
    sget (moveTo v a b) x f = if a = x ∧ (f = 1 ∨ f = 3 ∨ f = 4) then -1 else if InSlot (nextOf (K p) a - 1) 4 ∧ nextOf (K p) a - 1 = x ∧ 4 = f then b else if prv 0 (K p) a - 1 ≠ -1 then (if InSlot (prv 0 (K p) a - 1) 3 ∧ prv 0 (K p) a - 1 = x ∧ 3 = f then b else if b = x ∧ f = 4 then prv 0 (K p) a - 1 else if b = x ∧ f = 3 then nextOf (K p) a - 1 else if b = x ∧ f = 1 then p else sget v x f) else (if InSlot p 2 ∧ p = x ∧ 2 = f then b else if b = x ∧ f = 4 then prv 0 (K p) a - 1 else if b = x ∧ f = 3 then nextOf (K p) a - 1 else if b = x ∧ f = 1 then p else sget v x f) := by
  have hp1 := (t.par a ha.1 ha.2).2
  rw [hP] at hp1
  have hr : ∀ x ∈ K p, 0 ≤ x ∧ x < 96 := fun x hx => by have := t.kid p hp hp1 x hx; omega
  have g1 : sget v a 1 = p := by rw [w a 1 ha.1 ha.2 (by decide) (by decide)]; unfold slw; rw [if_pos rfl, hP]; omega
  have g3 : sget v a 3 = nextOf (K p) a - 1 := by rw [w a 3 ha.1 ha.2 (by decide) (by decide)]; unfold slw; rw [if_neg (by decide), if_neg (by decide), hP, if_pos hp, if_pos rfl]
  have g4 : sget v a 4 = prv 0 (K p) a - 1 := by rw [w a 4 ha.1 ha.2 (by decide) (by decide)]; unfold slw; rw [if_neg (by decide), if_neg (by decide), hP, if_pos hp, if_neg (by decide)]
  have r3 := nextOf_rg (n := 96) (by decide) a hr
  have r4 := prv_rg (n := 96) (by decide) a (a := 0) (by decide) (by decide) hr
  unfold moveTo
  rw [g1, g3, g4, if_pos (by omega)]
  have S := fun x f => sget_put3 hl (b := b) (p := p) (n := nextOf (K p) a - 1) (q := prv 0 (K p) a - 1) hb (by omega) (by omega) (by omega) x f
  have l3 : (sput (sput (sput v b 1 p) b 3 (nextOf (K p) a - 1)) b 4 (prv 0 (K p) a - 1)).length = 738 := by simp [sput_len, hl]
  generalize sput (sput (sput v b 1 p) b 3 (nextOf (K p) a - 1)) b 4 (prv 0 (K p) a - 1) = s at S l3
  have s1 : sget s a 1 = p := by rw [S, if_neg (by omega), if_neg (by omega), if_neg (by omega), g1]
  have s3 : sget s a 3 = nextOf (K p) a - 1 := by rw [S, if_neg (by omega), if_neg (by omega), if_neg (by omega), g3]
  have s4 : sget s a 4 = prv 0 (K p) a - 1 := by rw [S, if_neg (by omega), if_neg (by omega), if_neg (by omega), g4]
  rw [sget_clearTo (by rw [len_besideTo]; exact l3) ha, sget_besideTo l3 (by omega) (by omega), s1, s3, s4, S]
theorem rP_b (a b : Int) : rP P a b b = P a := by unfold rP; rw [if_pos rfl]
theorem rP_a {a b : Int} (hne : a ≠ b) : rP P a b a = -1 := by unfold rP; rw [if_neg hne, if_pos rfl]
theorem rP_o {a b x : Int} (h1 : x ≠ b) (h2 : x ≠ a) : rP P a b x = if P x = a then b else P x := by unfold rP; rw [if_neg h1, if_neg h2]
theorem rK_b (a b : Int) : rK P K a b b = K a := by unfold rK; rw [if_pos rfl]
theorem rK_a {a b : Int} (hne : a ≠ b) : rK P K a b a = [] := by unfold rK; rw [if_neg hne, if_pos rfl]
theorem rK_p {a b i : Int} (h1 : i ≠ b) (h2 : i ≠ a) (h3 : i = P a) : rK P K a b i = rep a b (K i) := by unfold rK; rw [if_neg h1, if_neg h2, if_pos h3]
theorem rK_o {a b i : Int} (h1 : i ≠ b) (h2 : i ≠ a) (h3 : i ≠ P a) : rK P K a b i = K i := by unfold rK; rw [if_neg h1, if_neg h2, if_neg h3]
theorem next_ne {a : Int} (a0 : 0 ≤ a) : ∀ {l : List Int}, l.Nodup → a ∈ l → nextOf l a ≠ a + 1
  | [], _, h => by cases h
  | c :: r, hn, h => by
    have hn2 := List.nodup_cons.1 hn
    show (if a = c then hd r else nextOf r a) ≠ a + 1
    by_cases e : a = c
    · rw [if_pos e]
      intro z
      apply hn2.1
      rw [← e]
      cases r with
      | nil => have : (0 : Int) = a + 1 := z; omega
      | cons d r => have : d + 1 = a + 1 := z; rw [show a = d by omega]; exact List.mem_cons_self
    · rw [if_neg e]
      exact next_ne a0 hn2.2 (by rcases List.mem_cons.1 h with z | z; exact absurd z e; exact z)
theorem prv_ne {a : Int} (a0 : 0 ≤ a) : ∀ {l : List Int} {m : Int}, m ≠ a + 1 → l.Nodup → a ∈ l → prv m l a ≠ a + 1
  | [], _, _, _, h => by cases h
  | c :: r, m, hm, hn, h => by
    have hn2 := List.nodup_cons.1 hn
    show (if a = c then m else prv (c + 1) r a) ≠ a + 1
    by_cases e : a = c
    · rw [if_pos e]; exact hm
    · rw [if_neg e]
      exact prv_ne a0 (by omega) hn2.2 (by rcases List.mem_cons.1 h with z | z; exact absurd z e; exact z)
theorem rq_zero {a b : Int} (a0 : 0 ≤ a) : rq a b 0 = 0 := by unfold rq; rw [if_neg (by omega)]
theorem TW.replace (t : Tree P K) {v : List Int} (hl : v.length = 738) (w : TW P K v) {a b : Int} (ha : 0 ≤ a ∧ a < 96) (hb : 0 ≤ b ∧ b < 96) (hne : a ≠ b) (hPb : P b = -1) (hKb : K b = []) : TW (rP P a b) (rK P K a b) (replaceTo v a b (K a)) := by
  have pa := t.par a ha.1 ha.2
  have ia := t.irr a ha.1 ha.2
  have pab : P a ≠ b := fun z => by have := t.all a ha.1 ha.2 (by omega); rw [z, hKb] at this; cases this
  have hbn : ∀ i, 0 ≤ i → i < 96 → b ∉ K i := fun i i0 i1 z => by have := (t.kid i i0 i1 b z).2.2; omega
  have ka : ∀ y ∈ K a, 0 ≤ y ∧ y < 96 := fun y hy => by have := t.kid a ha.1 ha.2 y hy; omega
  have lm : (moveTo v a b).length = 738 := by rw [len_moveTo]; exact hl
  have A := fun x f => sget_adopt hb (K a) lm ka x f
  have la : (adopt (moveTo v a b) b (K a)).length = 738 := by rw [len_adopt]; exact lm
  have b2 : InSlot b 2 := ⟨hb.1, hb.2, by decide, by decide⟩
  have a2 : InSlot a 2 := ⟨ha.1, ha.2, by decide, by decide⟩
  -- the kids are as they were
  have m2 : sget (moveTo v a b) a 2 = hd (K a) - 1 := by
    have e0 : sget v a 2 = hd (K a) - 1 := w a 2 ha.1 ha.2 (by decide) (by decide)
    by_cases hp : 0 ≤ P a
    · rw [sget_moveTo t hl w ha hb hne rfl hp hKb, if_neg (by omega), if_neg (by omega)]
      split
      · rw [if_neg (by omega), if_neg (by omega), if_neg (by omega), if_neg (by omega)]; exact e0
      · rw [if_neg (fun z => ia z.2.1), if_neg (by omega), if_neg (by omega), if_neg (by omega)]; exact e0
    · have g1 : sget v a 1 = P a := by rw [w a 1 ha.1 ha.2 (by decide) (by decide)]; unfold slw; rw [if_pos rfl]; omega
      unfold moveTo
      rw [if_neg (by omega)]; exact e0
  intro i f i0 i1 f0 f1
  unfold replaceTo
  have e2 : sget (adopt (moveTo v a b) b (K a)) a 2 = hd (K a) - 1 := by rw [A a 2, if_neg (fun z => by have := z.1; omega), m2]
  rw [sget_sput (by rw [sput_len]; exact la) _ _ _ _ _ (by decide), sget_sput la _ _ _ _ _ (sget_rg _ _ _), e2, A i f]
  have hka := fun z : i ∈ K a => (t.kid a ha.1 ha.2 i z).2.2
  have kai := fun z : P i = a => by have := t.all i i0 i1 (by omega); rw [z] at this; exact this
  have W := w i f i0 i1 f0 f1
  -- what was at the slot that takes the place
  have Wb : i = b → slw P K i f = 0 := fun e => by
    unfold slw; rw [e, hPb, hKb]
    split
    · decide
    · split
      · rfl
      · rw [if_neg (by decide)]
  by_cases hp : 0 ≤ P a
  · have hr : ∀ x ∈ K (P a), 0 ≤ x ∧ x < 96 := fun x hx => by have := t.kid (P a) hp pa.2 x hx; omega
    have h0 : ∀ x ∈ K (P a), 0 ≤ x := fun x hx => (hr x hx).1
    have hm : a ∈ K (P a) := t.all a ha.1 ha.2 hp
    have hn := t.nod (P a) hp pa.2
    have hbp := hbn (P a) hp pa.2
    have r3 := nextOf_rg (n := 96) (by decide) a hr
    have r4 := prv_rg (n := 96) (by decide) a (a := 0) (by decide) (by decide) hr
    have hz := prv_zero h0 hm
    have q4 : nextOf (K (P a)) a - 1 = i → i ∈ K (P a) := fun z => nextOf_mem i0 (x := a) (by omega)
    have q3 : prv 0 (K (P a)) a - 1 = i → i ∈ K (P a) := fun z => prv_mem i0 (x := a) (a := 0) (by omega) (by omega)
    have hPi : i ∈ K (P a) → P i = P a := fun z => (t.kid (P a) hp pa.2 i z).2.2
    have nn := next_ne ha.1 hn hm
    have pn := prv_ne ha.1 (m := 0) (by omega) hn hm
    have M := sget_moveTo t hl w ha hb hne rfl hp hKb i f
    rw [W] at M
    rw [M]; clear M
    rcases (by omega : f = 1 ∨ f = 2 ∨ f = 3 ∨ f = 4) with rfl | rfl | rfl | rfl
    · have eg : slw (rP P a b) (rK P K a b) i 1 = rP P a b i + 1 := rfl
      have ew : slw P K i 1 = P i + 1 := rfl
      rw [if_neg (fun z => by have := z.2.2; omega), if_neg (fun z => by have := z.2.2; omega), eg, ew]
      by_cases eb : i = b
      · rw [if_neg (fun z => by have := hka z.2; rw [eb, hPb] at this; omega), if_neg (fun z => hne (z.1.trans eb)), if_neg (fun z => by have := z.2.2; omega), eb, rP_b]
        split
        · rw [if_neg (fun z => by have := z.2.2; omega), if_neg (fun z => by have := z.2; omega), if_neg (fun z => by have := z.2; omega), if_pos ⟨rfl, rfl⟩]; omega
        · rw [if_neg (fun z => by have := z.2.2; omega), if_neg (fun z => by have := z.2; omega), if_neg (fun z => by have := z.2; omega), if_pos ⟨rfl, rfl⟩]; omega
      · by_cases ea : i = a
        · rw [if_neg (fun z => by have := hka z.2; rw [ea] at this; exact ia this), if_pos ⟨ea.symm, .inl rfl⟩, ea, rP_a hne]; rfl
        · rw [rP_o eb ea]
          by_cases c : P i = a
          · rw [if_pos ⟨rfl, kai c⟩, if_pos c]; omega
          · rw [if_neg (fun z => c (hka z.2)), if_neg (fun z => ea z.1.symm), if_neg (fun z => by have := z.2.2; omega), if_neg c]
            split
            · rw [if_neg (fun z => by have := z.2.2; omega), if_neg (fun z => eb z.1.symm), if_neg (fun z => eb z.1.symm), if_neg (fun z => eb z.1.symm)]
            · rw [if_neg (fun z => by have := z.2.2; omega), if_neg (fun z => eb z.1.symm), if_neg (fun z => eb z.1.symm), if_neg (fun z => eb z.1.symm)]
    · have eg : slw (rP P a b) (rK P K a b) i 2 = hd (rK P K a b i) := rfl
      have ew : slw P K i 2 = hd (K i) := rfl
      rw [eg, ew]
      by_cases ea : i = a
      · rw [if_pos ⟨a2, ea.symm, rfl⟩, ea, rK_a hne]; rfl
      · rw [if_neg (fun z => ea z.2.1.symm)]
        by_cases eb : i = b
        · rw [if_pos ⟨b2, eb.symm, rfl⟩, eb, rK_b]
        · rw [if_neg (fun z => eb z.2.1.symm), if_neg (fun z => by have := z.1; omega), if_neg (fun z => by have := z.2; omega), if_neg (fun z => by have := z.2.2; omega)]
          by_cases ep : i = P a
          · rw [rK_p eb ea ep, rep_hd ha.1, ep]
            unfold rq
            have hh := hd_pos h0 ha.1
            by_cases c : (K (P a)).head? = some a
            · rw [if_neg (by have := hz.2 c; omega), if_pos ⟨⟨hp, pa.2, by decide, by decide⟩, rfl, rfl⟩, if_pos (hh.2 c)]; omega
            · rw [if_pos (fun z => c (hz.1 (by omega))), if_neg (fun z => by have := z.2.2; omega), if_neg (fun z => by have := z.2; omega), if_neg (fun z => by have := z.2; omega), if_neg (fun z => by have := z.2; omega), if_neg (fun z => c (hh.1 z))]
          · rw [rK_o eb ea ep]
            split
            · rw [if_neg (fun z => by have := z.2.2; omega), if_neg (fun z => eb z.1.symm), if_neg (fun z => eb z.1.symm), if_neg (fun z => eb z.1.symm)]
            · rw [if_neg (fun z => ep z.2.1.symm), if_neg (fun z => eb z.1.symm), if_neg (fun z => eb z.1.symm), if_neg (fun z => eb z.1.symm)]
    · have eg : slw (rP P a b) (rK P K a b) i 3 = if 0 ≤ rP P a b i then nextOf (rK P K a b (rP P a b i)) i else 0 := rfl
      have ew : slw P K i 3 = if 0 ≤ P i then nextOf (K (P i)) i else 0 := rfl
      rw [if_neg (fun z => by have := z.2.2; omega), if_neg (fun z => by have := z.2.2; omega), if_neg (fun z => by have := z.1; omega), eg]
      by_cases ea : i = a
      · rw [if_pos ⟨ea.symm, .inr (.inl rfl)⟩, ea, rP_a hne, if_neg (by decide)]; rfl
      · rw [if_neg (fun z => ea z.1.symm), if_neg (fun z => by have := z.2.2; omega)]
        by_cases eb : i = b
        · have hv : (if 0 ≤ rP P a b i then nextOf (rK P K a b (rP P a b i)) i else 0) = nextOf (K (P a)) a := by
            rw [eb, rP_b, if_pos hp, rK_p pab ia rfl]
            have := rep_next ha.1 (x := a) hbp hm
            rw [show rp a b a = b from by unfold rp; rw [if_pos rfl]] at this
            rw [this]; unfold rq; rw [if_neg nn]
          rw [hv]
          split
          · rw [if_neg (fun z => by have := q3 z.2.1; rw [eb] at this; exact hbp this), if_neg (fun z => by have := z.2; omega), if_pos ⟨eb.symm, rfl⟩]
          · rw [if_neg (fun z => by have := z.2.2; omega), if_neg (fun z => by have := z.2; omega), if_pos ⟨eb.symm, rfl⟩]
        · have tail : ∀ y : Int, (if b = i ∧ (3 : Int) = 4 then prv 0 (K (P a)) a - 1 else if b = i ∧ (3 : Int) = 3 then nextOf (K (P a)) a - 1 else if b = i ∧ (3 : Int) = 1 then P a else y) = y := fun y => by
            rw [if_neg (fun z => eb z.1.symm), if_neg (fun z => eb z.1.symm), if_neg (fun z => eb z.1.symm)]
          rw [tail, if_neg (fun z => by have := z.2.2; omega : ¬ (InSlot (P a) 2 ∧ P a = i ∧ (2 : Int) = 3)), rP_o eb ea]
          by_cases c : P i = a
          · have hi := kai c
            have nq : ¬ prv 0 (K (P a)) a - 1 = i := fun z => by have := hPi (q3 z); rw [c] at this; exact ia this.symm
            rw [if_pos c, rK_b, if_pos hb.1, ew, c, if_pos ha.1]
            split
            · rw [if_neg (fun z => nq z.2.1)]
            · rfl
          · rw [if_neg c]
            by_cases c2 : P i = P a
            · have hi : i ∈ K (P a) := by have := t.all i i0 i1 (by omega); rwa [c2] at this
              have hpn := prv_next (k := a) (x := i) ha.1 i0 (a := 0) h0 hn hm hi (by omega)
              have := rep_next ha.1 (x := i) hbp hi
              rw [show rp a b i = i from by unfold rp; rw [if_neg ea]] at this
              rw [c2, if_pos hp, rK_p pab ia rfl, this, ew, c2, if_pos hp]
              unfold rq
              by_cases c3 : nextOf (K (P a)) i = a + 1
              · have := hpn.2 c3
                rw [if_pos (by omega), if_pos ⟨⟨by omega, by omega, by decide, by decide⟩, by omega, rfl⟩, if_pos c3]; omega
              · rw [if_neg c3]
                split
                · rw [if_neg (fun z => c3 (hpn.1 (by have := z.2.1; omega)))]
                · rfl
            · have nq : ¬ prv 0 (K (P a)) a - 1 = i := fun z => c2 (hPi (q3 z))
              have hk : (if 0 ≤ P i then nextOf (rK P K a b (P i)) i else 0) = slw P K i 3 := by
                rw [ew]
                by_cases z0 : 0 ≤ P i
                · have := t.all i i0 i1 z0
                  rw [if_pos z0, if_pos z0, rK_o (fun z => by rw [z, hKb] at this; cases this) c c2]
                · rw [if_neg z0, if_neg z0]
              rw [hk]
              split
              · rw [if_neg (fun z => nq z.2.1)]
              · rfl
    · have eg : slw (rP P a b) (rK P K a b) i 4 = if 0 ≤ rP P a b i then prv 0 (rK P K a b (rP P a b i)) i else 0 := rfl
      have ew : slw P K i 4 = if 0 ≤ P i then prv 0 (K (P i)) i else 0 := rfl
      rw [if_neg (fun z => by have := z.2.2; omega), if_neg (fun z => by have := z.2.2; omega), if_neg (fun z => by have := z.1; omega), eg]
      by_cases ea : i = a
      · rw [if_pos ⟨ea.symm, .inr (.inr rfl)⟩, ea, rP_a hne, if_neg (by decide)]; rfl
      · rw [if_neg (fun z => ea z.1.symm)]
        by_cases eb : i = b
        · have hv : (if 0 ≤ rP P a b i then prv 0 (rK P K a b (rP P a b i)) i else 0) = prv 0 (K (P a)) a := by
            rw [eb, rP_b, if_pos hp, rK_p pab ia rfl]
            have := rep_prv ha.1 (x := a) (m := 0) hbp hm
            rw [show rp a b a = b from by unfold rp; rw [if_pos rfl], rq_zero ha.1] at this
            rw [this]; unfold rq; rw [if_neg pn]
          rw [hv, if_neg (fun z => by have := q4 z.2.1; rw [eb] at this; exact hbp this)]
          split
          · rw [if_neg (fun z => by have := z.2.2; omega), if_pos ⟨eb.symm, rfl⟩]
          · rw [if_neg (fun z => by have := z.2.2; omega), if_pos ⟨eb.symm, rfl⟩]
        · have tail : ∀ y : Int, (if b = i ∧ (4 : Int) = 4 then prv 0 (K (P a)) a - 1 else if b = i ∧ (4 : Int) = 3 then nextOf (K (P a)) a - 1 else if b = i ∧ (4 : Int) = 1 then P a else y) = y := fun y => by
            rw [if_neg (fun z => eb z.1.symm), if_neg (fun z => eb z.1.symm), if_neg (fun z => eb z.1.symm)]
          rw [tail, if_neg (fun z => by have := z.2.2; omega : ¬ (InSlot (P a) 2 ∧ P a = i ∧ (2 : Int) = 4)), if_neg (fun z => by have := z.2.2; omega : ¬ (InSlot (prv 0 (K (P a)) a - 1) 3 ∧ prv 0 (K (P a)) a - 1 = i ∧ (3 : Int) = 4)), ite_self, rP_o eb ea]
          by_cases c : P i = a
          · have nq : ¬ nextOf (K (P a)) a - 1 = i := fun z => by have := hPi (q4 z); rw [c] at this; exact ia this.symm
            rw [if_pos c, rK_b, if_pos hb.1, ew, c, if_pos ha.1, if_neg (fun z => nq z.2.1)]
          · rw [if_neg c]
            by_cases c2 : P i = P a
            · have hi : i ∈ K (P a) := by have := t.all i i0 i1 (by omega); rwa [c2] at this
              have hpn := prv_next (k := i) (x := a) i0 ha.1 (a := 0) h0 hn hi hm (by omega)
              have := rep_prv ha.1 (x := i) (m := 0) hbp hi
              rw [show rp a b i = i from by unfold rp; rw [if_neg ea], rq_zero ha.1] at this
              rw [c2, if_pos hp, rK_p pab ia rfl, this, ew, c2, if_pos hp]
              unfold rq
              by_cases c3 : prv 0 (K (P a)) i = a + 1
              · have := hpn.1 c3
                rw [if_pos ⟨⟨by omega, by omega, by decide, by decide⟩, by omega, rfl⟩, if_pos c3]; omega
              · rw [if_neg c3, if_neg (fun z => c3 (hpn.2 (by have := z.2.1; omega)))]
            · have nq : ¬ nextOf (K (P a)) a - 1 = i := fun z => c2 (hPi (q4 z))
              have hk : (if 0 ≤ P i then prv 0 (rK P K a b (P i)) i else 0) = slw P K i 4 := by
                rw [ew]
                by_cases z0 : 0 ≤ P i
                · have := t.all i i0 i1 z0
                  rw [if_pos z0, if_pos z0, rK_o (fun z => by rw [z, hKb] at this; cases this) c c2]
                · rw [if_neg z0, if_neg z0]
              rw [hk, if_neg (fun z => nq z.2.1)]
  · have g1 : sget v a 1 = P a := by rw [w a 1 ha.1 ha.2 (by decide) (by decide)]; unfold slw; rw [if_pos rfl]; omega
    have hmv : moveTo v a b = v := by unfold moveTo; rw [if_neg (by omega)]
    have pm : P a = -1 := by omega
    rw [hmv, W]
    rcases (by omega : f = 1 ∨ f = 2 ∨ f = 3 ∨ f = 4) with rfl | rfl | rfl | rfl
    · have eg : slw (rP P a b) (rK P K a b) i 1 = rP P a b i + 1 := rfl
      have ew : slw P K i 1 = P i + 1 := rfl
      rw [if_neg (fun z => by have := z.2.2; omega), if_neg (fun z => by have := z.2.2; omega), eg, ew]
      by_cases eb : i = b
      · rw [if_neg (fun z => by have := hka z.2; rw [eb, hPb] at this; omega), eb, rP_b, hPb, pm]
      · by_cases ea : i = a
        · rw [if_neg (fun z => by have := hka z.2; rw [ea] at this; exact ia this), ea, rP_a hne, pm]
        · rw [rP_o eb ea]
          by_cases c : P i = a
          · rw [if_pos ⟨rfl, kai c⟩, if_pos c]; omega
          · rw [if_neg (fun z => c (hka z.2)), if_neg c]
    · have eg : slw (rP P a b) (rK P K a b) i 2 = hd (rK P K a b i) := rfl
      have ew : slw P K i 2 = hd (K i) := rfl
      rw [eg, ew]
      by_cases ea : i = a
      · rw [if_pos ⟨a2, ea.symm, rfl⟩, ea, rK_a hne]; rfl
      · rw [if_neg (fun z => ea z.2.1.symm)]
        by_cases eb : i = b
        · rw [if_pos ⟨b2, eb.symm, rfl⟩, eb, rK_b]
        · rw [if_neg (fun z => eb z.2.1.symm), if_neg (fun z => by have := z.1; omega), rK_o eb ea (by omega)]
    · have eg : slw (rP P a b) (rK P K a b) i 3 = if 0 ≤ rP P a b i then nextOf (rK P K a b (rP P a b i)) i else 0 := rfl
      have ew : slw P K i 3 = if 0 ≤ P i then nextOf (K (P i)) i else 0 := rfl
      rw [if_neg (fun z => by have := z.2.2; omega), if_neg (fun z => by have := z.2.2; omega), if_neg (fun z => by have := z.1; omega), eg, ew]
      by_cases ea : i = a
      · rw [ea, rP_a hne, pm, if_neg (by decide), if_neg (by decide)]
      · by_cases eb : i = b
        · rw [eb, rP_b, hPb, pm, if_neg (by decide), if_neg (by decide)]
        · rw [rP_o eb ea]
          by_cases c : P i = a
          · rw [if_pos c, rK_b, if_pos hb.1, c, if_pos ha.1]
          · rw [if_neg c]
            by_cases z0 : 0 ≤ P i
            · have := t.all i i0 i1 z0
              rw [if_pos z0, if_pos z0, rK_o (fun z => by rw [z, hKb] at this; cases this) c (by omega)]
            · rw [if_neg z0, if_neg z0]
    · have eg : slw (rP P a b) (rK P K a b) i 4 = if 0 ≤ rP P a b i then prv 0 (rK P K a b (rP P a b i)) i else 0 := rfl
      have ew : slw P K i 4 = if 0 ≤ P i then prv 0 (K (P i)) i else 0 := rfl
      rw [if_neg (fun z => by have := z.2.2; omega), if_neg (fun z => by have := z.2.2; omega), if_neg (fun z => by have := z.1; omega), eg, ew]
      by_cases ea : i = a
      · rw [ea, rP_a hne, pm, if_neg (by decide), if_neg (by decide)]
      · by_cases eb : i = b
        · rw [eb, rP_b, hPb, pm, if_neg (by decide), if_neg (by decide)]
        · rw [rP_o eb ea]
          by_cases c : P i = a
          · rw [if_pos c, rK_b, if_pos hb.1, c, if_pos ha.1]
          · rw [if_neg c]
            by_cases z0 : 0 ≤ P i
            · have := t.all i i0 i1 z0
              rw [if_pos z0, if_pos z0, rK_o (fun z => by rw [z, hKb] at this; cases this) c (by omega)]
            · rw [if_neg z0, if_neg z0]
end
end Go.Proofs
