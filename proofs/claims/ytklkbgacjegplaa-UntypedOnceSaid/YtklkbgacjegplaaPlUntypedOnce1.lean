/- Plain laws of what is reached, parts P13TreeR, P13SlSt, P13AppL, P13SlLk, P13Cap, P13CapSl, P13Slot, P13SlCap, P13StIs, P13View, P13NewObj, P13Cost, P13Has, P13Is, P13Rtp, P13Init, P13Boot, P13BootU, P13Pick. On no condition. -/
import Derived.Test.YtklkbgacjegplaaPlUntypedOnce0
import Derived.Test.YtklkbgacjegplaaFnUntypedOnce2
import Derived.Test.YtklkbgacjegplaaFnUntypedOnce1
import Derived.Test.YtklkbgacjegplaaFr1
import Derived.Test.YtklkbgacjegplaaFnUntypedOnce0
set_option linter.all false
/-! Slots in a tree: one takes another one's place. -/
set_option linter.unusedVariables false
namespace Go.Proofs
open Go.Sl
def rP (P : Int → Int) (a b : Int) : Int → Int := fun i => if i = b then P a else if i = a then -1 else if P i = a then b else P i
def rK (P : Int → Int) (K : Int → List Int) (a b : Int) : Int → List Int := fun i => if i = b then K a else if i = a then [] else if i = P a then rep a b (K i) else K i
section
variable {P : Int → Int} {K : Int → List Int}
theorem Tree.replace (t : Tree P K) {a b : Int} (ha : 0 ≤ a ∧ a < 96) (hb : 0 ≤ b ∧ b < 96) (hne : a ≠ b) (hPb : P b = -1) (hKb : K b = []) : Tree (rP P a b) (rK P K a b) := by
  have pa := t.par a ha.1 ha.2
  have ia := t.irr a ha.1 ha.2
  have pab : P a ≠ b := fun z => by have := t.all a ha.1 ha.2 (by omega); rw [z, hKb] at this; cases this
  have hbn : ∀ i, 0 ≤ i → i < 96 → b ∉ K i := fun i i0 i1 z => by have := (t.kid i i0 i1 b z).2.2; omega
  have eb : rP P a b b = P a := by unfold rP; rw [if_pos rfl]
  have ea : rP P a b a = -1 := by unfold rP; rw [if_neg hne, if_pos rfl]
  have eo : ∀ x, x ≠ b → x ≠ a → rP P a b x = if P x = a then b else P x := fun x h1 h2 => by unfold rP; rw [if_neg h1, if_neg h2]
  have kb : rK P K a b b = K a := by unfold rK; rw [if_pos rfl]
  have ka : rK P K a b a = [] := by unfold rK; rw [if_neg hne, if_pos rfl]
  have kp : ∀ i, i ≠ b → i ≠ a → i = P a → rK P K a b i = rep a b (K i) := fun i h1 h2 h3 => by unfold rK; rw [if_neg h1, if_neg h2, if_pos h3]
  have ko : ∀ i, i ≠ b → i ≠ a → i ≠ P a → rK P K a b i = K i := fun i h1 h2 h3 => by unfold rK; rw [if_neg h1, if_neg h2, if_neg h3]
  refine ⟨fun i i0 i1 => ?_, fun i i0 i1 x hx => ?_, fun x x0 x1 hx => ?_, fun i i0 i1 => ?_, fun i i0 i1 => ?_⟩
  · by_cases e : i = b
    · rw [e, eb]; exact pa
    · by_cases e2 : i = a
      · rw [e2, ea]; omega
      · rw [eo i e e2]; split
        · omega
        · exact t.par i i0 i1
  · by_cases e : i = b
    · rw [e, kb] at hx
      have := t.kid a ha.1 ha.2 x hx
      have xb : x ≠ b := fun z => by rw [z, hPb] at this; omega
      have xa : x ≠ a := fun z => by rw [z] at this; exact ia this.2.2
      rw [eo x xb xa, if_pos this.2.2, e]
      exact ⟨this.1, this.2.1, rfl⟩
    · by_cases e2 : i = a
      · rw [e2, ka] at hx; cases hx
      · by_cases e3 : i = P a
        · rw [kp i e e2 e3, rep_mem (hbn i i0 i1)] at hx
          rcases hx with ⟨rfl, _⟩ | ⟨xa, hx⟩
          · rw [eb]; exact ⟨hb.1, hb.2, e3.symm⟩
          · have := t.kid i i0 i1 x hx
            have xb : x ≠ b := fun z => by rw [z, hPb] at this; omega
            rw [eo x xb xa, if_neg (by omega)]; exact this
        · rw [ko i e e2 e3] at hx
          have := t.kid i i0 i1 x hx
          have xb : x ≠ b := fun z => by rw [z, hPb] at this; omega
          have xa : x ≠ a := fun z => by rw [z] at this; exact e3 this.2.2.symm
          rw [eo x xb xa, if_neg (by omega)]; exact this
  · by_cases e : x = b
    · subst e
      rw [eb] at hx ⊢
      have := t.all a ha.1 ha.2 hx
      rw [kp (P a) pab ia rfl, rep_mem (hbn _ hx pa.2)]
      exact .inl ⟨rfl, this⟩
    · by_cases e2 : x = a
      · rw [e2, ea] at hx; omega
      · rw [eo x e e2] at hx ⊢
        by_cases e3 : P x = a
        · rw [if_pos e3, kb]
          have := t.all x x0 x1 (by omega)
          rwa [e3] at this
        · rw [if_neg e3] at hx ⊢
          have := t.all x x0 x1 hx
          have nb : P x ≠ b := fun z => by rw [z, hKb] at this; cases this
          by_cases e4 : P x = P a
          · rw [kp _ nb e3 e4, rep_mem (hbn _ hx (t.par x x0 x1).2)]; exact .inr ⟨e2, this⟩
          · rw [ko _ nb e3 e4]; exact this
  · by_cases e : i = b
    · rw [e, kb]; exact t.nod a ha.1 ha.2
    · by_cases e2 : i = a
      · rw [e2, ka]; exact List.nodup_nil
      · by_cases e3 : i = P a
        · rw [kp i e e2 e3]; exact rep_nodup (hbn i i0 i1) (t.nod i i0 i1)
        · rw [ko i e e2 e3]; exact t.nod i i0 i1
  · by_cases e : i = b
    · rw [e, eb]; exact pab
    · by_cases e2 : i = a
      · rw [e2, ea]; omega
      · rw [eo i e e2]; split
        · exact fun z => e z.symm
        · exact t.irr i i0 i1
def moveTo (v : List Int) (a b : Int) : List Int := if sget v a 1 ≠ -1 then clearTo (besideTo (sput (sput (sput v b 1 (sget v a 1)) b 3 (sget v a 3)) b 4 (sget v a 4)) a b b) a else v
def adopt (v : List Int) (b : Int) (l : List Int) : List Int := l.foldl (fun s k => sput s k 1 b) v
def replaceTo (v : List Int) (a b : Int) (l : List Int) : List Int := sput (sput (adopt (moveTo v a b) b l) b 2 (sget (adopt (moveTo v a b) b l) a 2)) a 2 (-1)
theorem len_clearTo {v : List Int} (i : Int) : (clearTo v i).length = v.length := by unfold clearTo; rw [sput_len, sput_len, sput_len]
theorem len_moveTo {v : List Int} (a b : Int) : (moveTo v a b).length = v.length := by
  unfold moveTo; split
  · rw [len_clearTo, len_besideTo, sput_len, sput_len, sput_len]
  · rfl
theorem len_adopt (b : Int) : ∀ (l : List Int) (v : List Int), (adopt v b l).length = v.length
  | [], _ => rfl
  | c :: r, v => by
    show (adopt (sput v c 1 b) b r).length = _
    rw [len_adopt b r, sput_len]
theorem sget_adopt {b : Int} (hb : 0 ≤ b ∧ b < 96) : ∀ (l : List Int) {v : List Int}, v.length = 738 → (∀ y ∈ l, 0 ≤ y ∧ y < 96) → ∀ x f, sget (adopt v b l) x f = if f = 1 ∧ x ∈ l then b else sget v x f
  | [], v, _, _, x, f => by rw [if_neg (fun z => by cases z.2)]; rfl
  | c :: r, v, hl, hr, x, f => by
    have hc := hr c List.mem_cons_self
    show sget (adopt (sput v c 1 b) b r) x f = _
    rw [sget_adopt hb r (by rw [sput_len]; exact hl) (fun y hy => hr y (List.mem_cons_of_mem _ hy)) x f, sget_sput hl _ _ _ _ _ (by omega)]
    by_cases e : f = 1 ∧ x ∈ r
    · rw [if_pos e, if_pos ⟨e.1, List.mem_cons_of_mem _ e.2⟩]
    · rw [if_neg e]
      by_cases e2 : f = 1 ∧ x = c
      · rw [if_pos ⟨⟨hc.1, hc.2, by decide, by decide⟩, e2.2.symm, e2.1.symm⟩, if_pos ⟨e2.1, by rw [e2.2]; exact List.mem_cons_self⟩]
      · rw [if_neg (fun z => e2 ⟨z.2.2.symm, z.2.1.symm⟩), if_neg]
        rintro ⟨z1, z2⟩
        rcases List.mem_cons.1 z2 with z | z
        · exact e2 ⟨z1, z⟩
        · exact e ⟨z1, z⟩
theorem sget_put3 {v : List Int} (hl : v.length = 738) {b p n q : Int} (hb : 0 ≤ b ∧ b < 96) (hp : -1 ≤ p ∧ p < 96) (hn : -1 ≤ n ∧ n < 96) (hq : -1 ≤ q ∧ q < 96) (x f : Int) : sget (sput (sput (sput v b 1 p) b 3 n) b 4 q) x f = if b = x ∧ f = 4 then q else if b = x ∧ f = 3 then n else if b = x ∧ f = 1 then p else sget v x f := by
  have s1 : InSlot b 1 := ⟨hb.1, hb.2, by decide, by decide⟩
  have s3 : InSlot b 3 := ⟨hb.1, hb.2, by decide, by decide⟩
  have s4 : InSlot b 4 := ⟨hb.1, hb.2, by decide, by decide⟩
  rw [sget_sput (by simp [sput_len, hl]) _ _ _ _ _ hq, sget_sput (by simp [sput_len, hl]) _ _ _ _ _ hn, sget_sput hl _ _ _ _ _ hp]
  simp only [s1, s3, s4, true_and, @eq_comm _ _ f]
/-- The fields behind a move. -/
theorem sget_moveTo (t : Tree P K) {v : List Int} (hl : v.length = 738) (w : TW P K v) {a b p : Int} (ha : 0 ≤ a ∧ a < 96) (hb : 0 ≤ b ∧ b < 96) (hne : a ≠ b) (hP : P a = p) (hp : 0 ≤ p) (hKb : K b = []) (x f : Int) :
    sget (moveTo v a b) x f = if a = x ∧ (f = 1 ∨ f = 3 ∨ f = 4) then -1 else if InSlot (nextOf (K p) a - 1) 4 ∧ nextOf (K p) a - 1 = x ∧ 4 = f then b else if prv 0 (K p) a - 1 ≠ -1 then (if InSlot (prv 0 (K p) a - 1) 3 ∧ prv 0 (K p) a - 1 = x ∧ 3 = f then b else if b = x ∧ f = 4 then prv 0 (K p) a - 1 else if b = x ∧ f = 3 then nextOf (K p) a - 1 else if b = x ∧ f = 1 then p else sget v x f) else (if InSlot p 2 ∧ p = x ∧ 2 = f then b else if b = x ∧ f = 4 then prv 0 (K p) a - 1 else if b = x ∧ f = 3 then nextOf (K p) a - 1 else if b = x ∧ f = 1 then p else sget v x f) := by
  have hp1 := (t.par a ha.1 ha.2).2
  rw [hP] at hp1
  have hr : ∀ x ∈ K p, 0 ≤ x ∧ x < 96 := fun x hx => by have := t.kid p hp hp1 x hx; omega
  have g1 : sget v a 1 = p := by rw [w a 1 ha.1 ha.2 (by decide) (by decide)]; unfold slw; rw [if_pos rfl, hP]; omega
  have g3 : sget v a 3 = nextOf (K p) a - 1 := by rw [w a 3 ha.1 ha.2 (by decide) (by decide)]; unfold slw; rw [if_neg (by decide), if_neg (by decide), hP, if_pos hp, if_pos rfl]
  have g4 : sget v a 4 = prv 0 (K p) a - 1 := by rw [w a 4 ha.1 ha.2 (by decide) (by decide)]; unfold slw; rw [if_neg (by decide), if_neg (by decide), hP, if_pos hp, if_neg (by decide)]
  have r3 := nextOf_rg (n := 96) (by decide) a hr
  have r4 := prv_rg (n := 96) (by decide) a (a := 0) (by decide) (by decide) hr
  unfold moveTo
  rw [g1, g3, g4, if_pos (by omega)]
  have S := fun x f => sget_put3 hl (b := b) (p := p) (n := nextOf (K p) a - 1) (q := prv 0 (K p) a - 1) hb (by omega) (by omega) (by omega) x f
  have l3 : (sput (sput (sput v b 1 p) b 3 (nextOf (K p) a - 1)) b 4 (prv 0 (K p) a - 1)).length = 738 := by simp [sput_len, hl]
  generalize sput (sput (sput v b 1 p) b 3 (nextOf (K p) a - 1)) b 4 (prv 0 (K p) a - 1) = s at S l3
  have s1 : sget s a 1 = p := by rw [S, if_neg (by omega), if_neg (by omega), if_neg (by omega), g1]
  have s3 : sget s a 3 = nextOf (K p) a - 1 := by rw [S, if_neg (by omega), if_neg (by omega), if_neg (by omega), g3]
  have s4 : sget s a 4 = prv 0 (K p) a - 1 := by rw [S, if_neg (by omega), if_neg (by omega), if_neg (by omega), g4]
  rw [sget_clearTo (by rw [len_besideTo]; exact l3) ha, sget_besideTo l3 (by omega) (by omega), s1, s3, s4, S]
theorem rP_b (a b : Int) : rP P a b b = P a := by unfold rP; rw [if_pos rfl]
theorem rP_a {a b : Int} (hne : a ≠ b) : rP P a b a = -1 := by unfold rP; rw [if_neg hne, if_pos rfl]
theorem rP_o {a b x : Int} (h1 : x ≠ b) (h2 : x ≠ a) : rP P a b x = if P x = a then b else P x := by unfold rP; rw [if_neg h1, if_neg h2]
theorem rK_b (a b : Int) : rK P K a b b = K a := by unfold rK; rw [if_pos rfl]
theorem rK_a {a b : Int} (hne : a ≠ b) : rK P K a b a = [] := by unfold rK; rw [if_neg hne, if_pos rfl]
theorem rK_p {a b i : Int} (h1 : i ≠ b) (h2 : i ≠ a) (h3 : i = P a) : rK P K a b i = rep a b (K i) := by unfold rK; rw [if_neg h1, if_neg h2, if_pos h3]
theorem rK_o {a b i : Int} (h1 : i ≠ b) (h2 : i ≠ a) (h3 : i ≠ P a) : rK P K a b i = K i := by unfold rK; rw [if_neg h1, if_neg h2, if_neg h3]
theorem next_ne {a : Int} (a0 : 0 ≤ a) : ∀ {l : List Int}, l.Nodup → a ∈ l → nextOf l a ≠ a + 1
  | [], _, h => by cases h
  | c :: r, hn, h => by
    have hn2 := List.nodup_cons.1 hn
    show (if a = c then hd r else nextOf r a) ≠ a + 1
    by_cases e : a = c
    · rw [if_pos e]
      intro z
      apply hn2.1
      rw [← e]
      cases r with
      | nil => have : (0 : Int) = a + 1 := z; omega
      | cons d r => have : d + 1 = a + 1 := z; rw [show a = d by omega]; exact List.mem_cons_self
    · rw [if_neg e]
      exact next_ne a0 hn2.2 (by rcases List.mem_cons.1 h with z | z; exact absurd z e; exact z)
theorem prv_ne {a : Int} (a0 : 0 ≤ a) : ∀ {l : List Int} {m : Int}, m ≠ a + 1 → l.Nodup → a ∈ l → prv m l a ≠ a + 1
  | [], _, _, _, h => by cases h
  | c :: r, m, hm, hn, h => by
    have hn2 := List.nodup_cons.1 hn
    show (if a = c then m else prv (c + 1) r a) ≠ a + 1
    by_cases e : a = c
    · rw [if_pos e]; exact hm
    · rw [if_neg e]
      exact prv_ne a0 (by omega) hn2.2 (by rcases List.mem_cons.1 h with z | z; exact absurd z e; exact z)
theorem rq_zero {a b : Int} (a0 : 0 ≤ a) : rq a b 0 = 0 := by unfold rq; rw [if_neg (by omega)]
theorem TW.replace (t : Tree P K) {v : List Int} (hl : v.length = 738) (w : TW P K v) {a b : Int} (ha : 0 ≤ a ∧ a < 96) (hb : 0 ≤ b ∧ b < 96) (hne : a ≠ b) (hPb : P b = -1) (hKb : K b = []) : TW (rP P a b) (rK P K a b) (replaceTo v a b (K a)) := by
  have pa := t.par a ha.1 ha.2
  have ia := t.irr a ha.1 ha.2
  have pab : P a ≠ b := fun z => by have := t.all a ha.1 ha.2 (by omega); rw [z, hKb] at this; cases this
  have hbn : ∀ i, 0 ≤ i → i < 96 → b ∉ K i := fun i i0 i1 z => by have := (t.kid i i0 i1 b z).2.2; omega
  have ka : ∀ y ∈ K a, 0 ≤ y ∧ y < 96 := fun y hy => by have := t.kid a ha.1 ha.2 y hy; omega
  have lm : (moveTo v a b).length = 738 := by rw [len_moveTo]; exact hl
  have A := fun x f => sget_adopt hb (K a) lm ka x f
  have la : (adopt (moveTo v a b) b (K a)).length = 738 := by rw [len_adopt]; exact lm
  have b2 : InSlot b 2 := ⟨hb.1, hb.2, by decide, by decide⟩
  have a2 : InSlot a 2 := ⟨ha.1, ha.2, by decide, by decide⟩
  -- the kids are as they were
  have m2 : sget (moveTo v a b) a 2 = hd (K a) - 1 := by
    have e0 : sget v a 2 = hd (K a) - 1 := w a 2 ha.1 ha.2 (by decide) (by decide)
    by_cases hp : 0 ≤ P a
    · rw [sget_moveTo t hl w ha hb hne rfl hp hKb, if_neg (by omega), if_neg (by omega)]
      split
      · rw [if_neg (by omega), if_neg (by omega), if_neg (by omega), if_neg (by omega)]; exact e0
      · rw [if_neg (fun z => ia z.2.1), if_neg (by omega), if_neg (by omega), if_neg (by omega)]; exact e0
    · have g1 : sget v a 1 = P a := by rw [w a 1 ha.1 ha.2 (by decide) (by decide)]; unfold slw; rw [if_pos rfl]; omega
      unfold moveTo
      rw [if_neg (by omega)]; exact e0
  intro i f i0 i1 f0 f1
  unfold replaceTo
  have e2 : sget (adopt (moveTo v a b) b (K a)) a 2 = hd (K a) - 1 := by rw [A a 2, if_neg (fun z => by have := z.1; omega), m2]
  rw [sget_sput (by rw [sput_len]; exact la) _ _ _ _ _ (by decide), sget_sput la _ _ _ _ _ (sget_rg _ _ _), e2, A i f]
  have hka := fun z : i ∈ K a => (t.kid a ha.1 ha.2 i z).2.2
  have kai := fun z : P i = a => by have := t.all i i0 i1 (by omega); rw [z] at this; exact this
  have W := w i f i0 i1 f0 f1
  -- what was at the slot that takes the place
  have Wb : i = b → slw P K i f = 0 := fun e => by
    unfold slw; rw [e, hPb, hKb]
    split
    · decide
    · split
      · rfl
      · rw [if_neg (by decide)]
  by_cases hp : 0 ≤ P a
  · have hr : ∀ x ∈ K (P a), 0 ≤ x ∧ x < 96 := fun x hx => by have := t.kid (P a) hp pa.2 x hx; omega
    have h0 : ∀ x ∈ K (P a), 0 ≤ x := fun x hx => (hr x hx).1
    have hm : a ∈ K (P a) := t.all a ha.1 ha.2 hp
    have hn := t.nod (P a) hp pa.2
    have hbp := hbn (P a) hp pa.2
    have r3 := nextOf_rg (n := 96) (by decide) a hr
    have r4 := prv_rg (n := 96) (by decide) a (a := 0) (by decide) (by decide) hr
    have hz := prv_zero h0 hm
    have q4 : nextOf (K (P a)) a - 1 = i → i ∈ K (P a) := fun z => nextOf_mem i0 (x := a) (by omega)
    have q3 : prv 0 (K (P a)) a - 1 = i → i ∈ K (P a) := fun z => prv_mem i0 (x := a) (a := 0) (by omega) (by omega)
    have hPi : i ∈ K (P a) → P i = P a := fun z => (t.kid (P a) hp pa.2 i z).2.2
    have nn := next_ne ha.1 hn hm
    have pn := prv_ne ha.1 (m := 0) (by omega) hn hm
    have M := sget_moveTo t hl w ha hb hne rfl hp hKb i f
    rw [W] at M
    rw [M]; clear M
    rcases (by omega : f = 1 ∨ f = 2 ∨ f = 3 ∨ f = 4) with rfl | rfl | rfl | rfl
    · have eg : slw (rP P a b) (rK P K a b) i 1 = rP P a b i + 1 := rfl
      have ew : slw P K i 1 = P i + 1 := rfl
      rw [if_neg (fun z => by have := z.2.2; omega), if_neg (fun z => by have := z.2.2; omega), eg, ew]
      by_cases eb : i = b
      · rw [if_neg (fun z => by have := hka z.2; rw [eb, hPb] at this; omega), if_neg (fun z => hne (z.1.trans eb)), if_neg (fun z => by have := z.2.2; omega), eb, rP_b]
        split
        · rw [if_neg (fun z => by have := z.2.2; omega), if_neg (fun z => by have := z.2; omega), if_neg (fun z => by have := z.2; omega), if_pos ⟨rfl, rfl⟩]; omega
        · rw [if_neg (fun z => by have := z.2.2; omega), if_neg (fun z => by have := z.2; omega), if_neg (fun z => by have := z.2; omega), if_pos ⟨rfl, rfl⟩]; omega
      · by_cases ea : i = a
        · rw [if_neg (fun z => by have := hka z.2; rw [ea] at this; exact ia this), if_pos ⟨ea.symm, .inl rfl⟩, ea, rP_a hne]; rfl
        · rw [rP_o eb ea]
          by_cases c : P i = a
          · rw [if_pos ⟨rfl, kai c⟩, if_pos c]; omega
          · rw [if_neg (fun z => c (hka z.2)), if_neg (fun z => ea z.1.symm), if_neg (fun z => by have := z.2.2; omega), if_neg c]
            split
            · rw [if_neg (fun z => by have := z.2.2; omega), if_neg (fun z => eb z.1.symm), if_neg (fun z => eb z.1.symm), if_neg (fun z => eb z.1.symm)]
            · rw [if_neg (fun z => by have := z.2.2; omega), if_neg (fun z => eb z.1.symm), if_neg (fun z => eb z.1.symm), if_neg (fun z => eb z.1.symm)]
    · have eg : slw (rP P a b) (rK P K a b) i 2 = hd (rK P K a b i) := rfl
      have ew : slw P K i 2 = hd (K i) := rfl
      rw [eg, ew]
      by_cases ea : i = a
      · rw [if_pos ⟨a2, ea.symm, rfl⟩, ea, rK_a hne]; rfl
      · rw [if_neg (fun z => ea z.2.1.symm)]
        by_cases eb : i = b
        · rw [if_pos ⟨b2, eb.symm, rfl⟩, eb, rK_b]
        · rw [if_neg (fun z => eb z.2.1.symm), if_neg (fun z => by have := z.1; omega), if_neg (fun z => by have := z.2; omega), if_neg (fun z => by have := z.2.2; omega)]
          by_cases ep : i = P a
          · rw [rK_p eb ea ep, rep_hd ha.1, ep]
            unfold rq
            have hh := hd_pos h0 ha.1
            by_cases c : (K (P a)).head? = some a
            · rw [if_neg (by have := hz.2 c; omega), if_pos ⟨⟨hp, pa.2, by decide, by decide⟩, rfl, rfl⟩, if_pos (hh.2 c)]; omega
            · rw [if_pos (fun z => c (hz.1 (by omega))), if_neg (fun z => by have := z.2.2; omega), if_neg (fun z => by have := z.2; omega), if_neg (fun z => by have := z.2; omega), if_neg (fun z => by have := z.2; omega), if_neg (fun z => c (hh.1 z))]
          · rw [rK_o eb ea ep]
            split
            · rw [if_neg (fun z => by have := z.2.2; omega), if_neg (fun z => eb z.1.symm), if_neg (fun z => eb z.1.symm), if_neg (fun z => eb z.1.symm)]
            · rw [if_neg (fun z => ep z.2.1.symm), if_neg (fun z => eb z.1.symm), if_neg (fun z => eb z.1.symm), if_neg (fun z => eb z.1.symm)]
    · have eg : slw (rP P a b) (rK P K a b) i 3 = if 0 ≤ rP P a b i then nextOf (rK P K a b (rP P a b i)) i else 0 := rfl
      have ew : slw P K i 3 = if 0 ≤ P i then nextOf (K (P i)) i else 0 := rfl
      rw [if_neg (fun z => by have := z.2.2; omega), if_neg (fun z => by have := z.2.2; omega), if_neg (fun z => by have := z.1; omega), eg]
      by_cases ea : i = a
      · rw [if_pos ⟨ea.symm, .inr (.inl rfl)⟩, ea, rP_a hne, if_neg (by decide)]; rfl
      · rw [if_neg (fun z => ea z.1.symm), if_neg (fun z => by have := z.2.2; omega)]
        by_cases eb : i = b
        · have hv : (if 0 ≤ rP P a b i then nextOf (rK P K a b (rP P a b i)) i else 0) = nextOf (K (P a)) a := by
            rw [eb, rP_b, if_pos hp, rK_p pab ia rfl]
            have := rep_next ha.1 (x := a) hbp hm
            rw [show rp a b a = b from by unfold rp; rw [if_pos rfl]] at this
            rw [this]; unfold rq; rw [if_neg nn]
          rw [hv]
          split
          · rw [if_neg (fun z => by have := q3 z.2.1; rw [eb] at this; exact hbp this), if_neg (fun z => by have := z.2; omega), if_pos ⟨eb.symm, rfl⟩]
          · rw [if_neg (fun z => by have := z.2.2; omega), if_neg (fun z => by have := z.2; omega), if_pos ⟨eb.symm, rfl⟩]
        · have tail : ∀ y : Int, (if b = i ∧ (3 : Int) = 4 then prv 0 (K (P a)) a - 1 else if b = i ∧ (3 : Int) = 3 then nextOf (K (P a)) a - 1 else if b = i ∧ (3 : Int) = 1 then P a else y) = y := fun y => by
            rw [if_neg (fun z => eb z.1.symm), if_neg (fun z => eb z.1.symm), if_neg (fun z => eb z.1.symm)]
          rw [tail, if_neg (fun z => by have := z.2.2; omega : ¬ (InSlot (P a) 2 ∧ P a = i ∧ (2 : Int) = 3)), rP_o eb ea]
          by_cases c : P i = a
          · have hi := kai c
            have nq : ¬ prv 0 (K (P a)) a - 1 = i := fun z => by have := hPi (q3 z); rw [c] at this; exact ia this.symm
            rw [if_pos c, rK_b, if_pos hb.1, ew, c, if_pos ha.1]
            split
            · rw [if_neg (fun z => nq z.2.1)]
            · rfl
          · rw [if_neg c]
            by_cases c2 : P i = P a
            · have hi : i ∈ K (P a) := by have := t.all i i0 i1 (by omega); rwa [c2] at this
              have hpn := prv_next (k := a) (x := i) ha.1 i0 (a := 0) h0 hn hm hi (by omega)
              have := rep_next ha.1 (x := i) hbp hi
              rw [show rp a b i = i from by unfold rp; rw [if_neg ea]] at this
              rw [c2, if_pos hp, rK_p pab ia rfl, this, ew, c2, if_pos hp]
              unfold rq
              by_cases c3 : nextOf (K (P a)) i = a + 1
              · have := hpn.2 c3
                rw [if_pos (by omega), if_pos ⟨⟨by omega, by omega, by decide, by decide⟩, by omega, rfl⟩, if_pos c3]; omega
              · rw [if_neg c3]
                split
                · rw [if_neg (fun z => c3 (hpn.1 (by have := z.2.1; omega)))]
                · rfl
            · have nq : ¬ prv 0 (K (P a)) a - 1 = i := fun z => c2 (hPi (q3 z))
              have hk : (if 0 ≤ P i then nextOf (rK P K a b (P i)) i else 0) = slw P K i 3 := by
                rw [ew]
                by_cases z0 : 0 ≤ P i
                · have := t.all i i0 i1 z0
                  rw [if_pos z0, if_pos z0, rK_o (fun z => by rw [z, hKb] at this; cases this) c c2]
                · rw [if_neg z0, if_neg z0]
              rw [hk]
              split
              · rw [if_neg (fun z => nq z.2.1)]
              · rfl
    · have eg : slw (rP P a b) (rK P K a b) i 4 = if 0 ≤ rP P a b i then prv 0 (rK P K a b (rP P a b i)) i else 0 := rfl
      have ew : slw P K i 4 = if 0 ≤ P i then prv 0 (K (P i)) i else 0 := rfl
      rw [if_neg (fun z => by have := z.2.2; omega), if_neg (fun z => by have := z.2.2; omega), if_neg (fun z => by have := z.1; omega), eg]
      by_cases ea : i = a
      · rw [if_pos ⟨ea.symm, .inr (.inr rfl)⟩, ea, rP_a hne, if_neg (by decide)]; rfl
      · rw [if_neg (fun z => ea z.1.symm)]
        by_cases eb : i = b
        · have hv : (if 0 ≤ rP P a b i then prv 0 (rK P K a b (rP P a b i)) i else 0) = prv 0 (K (P a)) a := by
            rw [eb, rP_b, if_pos hp, rK_p pab ia rfl]
            have := rep_prv ha.1 (x := a) (m := 0) hbp hm
            rw [show rp a b a = b from by unfold rp; rw [if_pos rfl], rq_zero ha.1] at this
            rw [this]; unfold rq; rw [if_neg pn]
          rw [hv, if_neg (fun z => by have := q4 z.2.1; rw [eb] at this; exact hbp this)]
          split
          · rw [if_neg (fun z => by have := z.2.2; omega), if_pos ⟨eb.symm, rfl⟩]
          · rw [if_neg (fun z => by have := z.2.2; omega), if_pos ⟨eb.symm, rfl⟩]
        · have tail : ∀ y : Int, (if b = i ∧ (4 : Int) = 4 then prv 0 (K (P a)) a - 1 else if b = i ∧ (4 : Int) = 3 then nextOf (K (P a)) a - 1 else if b = i ∧ (4 : Int) = 1 then P a else y) = y := fun y => by
            rw [if_neg (fun z => eb z.1.symm), if_neg (fun z => eb z.1.symm), if_neg (fun z => eb z.1.symm)]
          rw [tail, if_neg (fun z => by have := z.2.2; omega : ¬ (InSlot (P a) 2 ∧ P a = i ∧ (2 : Int) = 4)), if_neg (fun z => by have := z.2.2; omega : ¬ (InSlot (prv 0 (K (P a)) a - 1) 3 ∧ prv 0 (K (P a)) a - 1 = i ∧ (3 : Int) = 4)), ite_self, rP_o eb ea]
          by_cases c : P i = a
          · have nq : ¬ nextOf (K (P a)) a - 1 = i := fun z => by have := hPi (q4 z); rw [c] at this; exact ia this.symm
            rw [if_pos c, rK_b, if_pos hb.1, ew, c, if_pos ha.1, if_neg (fun z => nq z.2.1)]
          · rw [if_neg c]
            by_cases c2 : P i = P a
            · have hi : i ∈ K (P a) := by have := t.all i i0 i1 (by omega); rwa [c2] at this
              have hpn := prv_next (k := i) (x := a) i0 ha.1 (a := 0) h0 hn hi hm (by omega)
              have := rep_prv ha.1 (x := i) (m := 0) hbp hi
              rw [show rp a b i = i from by unfold rp; rw [if_neg ea], rq_zero ha.1] at this
              rw [c2, if_pos hp, rK_p pab ia rfl, this, ew, c2, if_pos hp]
              unfold rq
              by_cases c3 : prv 0 (K (P a)) i = a + 1
              · have := hpn.1 c3
                rw [if_pos ⟨⟨by omega, by omega, by decide, by decide⟩, by omega, rfl⟩, if_pos c3]; omega
              · rw [if_neg c3, if_neg (fun z => c3 (hpn.2 (by have := z.2.1; omega)))]
            · have nq : ¬ nextOf (K (P a)) a - 1 = i := fun z => c2 (hPi (q4 z))
              have hk : (if 0 ≤ P i then prv 0 (rK P K a b (P i)) i else 0) = slw P K i 4 := by
                rw [ew]
                by_cases z0 : 0 ≤ P i
                · have := t.all i i0 i1 z0
                  rw [if_pos z0, if_pos z0, rK_o (fun z => by rw [z, hKb] at this; cases this) c c2]
                · rw [if_neg z0, if_neg z0]
              rw [hk, if_neg (fun z => nq z.2.1)]
  · have g1 : sget v a 1 = P a := by rw [w a 1 ha.1 ha.2 (by decide) (by decide)]; unfold slw; rw [if_pos rfl]; omega
    have hmv : moveTo v a b = v := by unfold moveTo; rw [if_neg (by omega)]
    have pm : P a = -1 := by omega
    rw [hmv, W]
    rcases (by omega : f = 1 ∨ f = 2 ∨ f = 3 ∨ f = 4) with rfl | rfl | rfl | rfl
    · have eg : slw (rP P a b) (rK P K a b) i 1 = rP P a b i + 1 := rfl
      have ew : slw P K i 1 = P i + 1 := rfl
      rw [if_neg (fun z => by have := z.2.2; omega), if_neg (fun z => by have := z.2.2; omega), eg, ew]
      by_cases eb : i = b
      · rw [if_neg (fun z => by have := hka z.2; rw [eb, hPb] at this; omega), eb, rP_b, hPb, pm]
      · by_cases ea : i = a
        · rw [if_neg (fun z => by have := hka z.2; rw [ea] at this; exact ia this), ea, rP_a hne, pm]
        · rw [rP_o eb ea]
          by_cases c : P i = a
          · rw [if_pos ⟨rfl, kai c⟩, if_pos c]; omega
          · rw [if_neg (fun z => c (hka z.2)), if_neg c]
    · have eg : slw (rP P a b) (rK P K a b) i 2 = hd (rK P K a b i) := rfl
      have ew : slw P K i 2 = hd (K i) := rfl
      rw [eg, ew]
      by_cases ea : i = a
      · rw [if_pos ⟨a2, ea.symm, rfl⟩, ea, rK_a hne]; rfl
      · rw [if_neg (fun z => ea z.2.1.symm)]
        by_cases eb : i = b
        · rw [if_pos ⟨b2, eb.symm, rfl⟩, eb, rK_b]
        · rw [if_neg (fun z => eb z.2.1.symm), if_neg (fun z => by have := z.1; omega), rK_o eb ea (by omega)]
    · have eg : slw (rP P a b) (rK P K a b) i 3 = if 0 ≤ rP P a b i then nextOf (rK P K a b (rP P a b i)) i else 0 := rfl
      have ew : slw P K i 3 = if 0 ≤ P i then nextOf (K (P i)) i else 0 := rfl
      rw [if_neg (fun z => by have := z.2.2; omega), if_neg (fun z => by have := z.2.2; omega), if_neg (fun z => by have := z.1; omega), eg, ew]
      by_cases ea : i = a
      · rw [ea, rP_a hne, pm, if_neg (by decide), if_neg (by decide)]
      · by_cases eb : i = b
        · rw [eb, rP_b, hPb, pm, if_neg (by decide), if_neg (by decide)]
        · rw [rP_o eb ea]
          by_cases c : P i = a
          · rw [if_pos c, rK_b, if_pos hb.1, c, if_pos ha.1]
          · rw [if_neg c]
            by_cases z0 : 0 ≤ P i
            · have := t.all i i0 i1 z0
              rw [if_pos z0, if_pos z0, rK_o (fun z => by rw [z, hKb] at this; cases this) c (by omega)]
            · rw [if_neg z0, if_neg z0]
    · have eg : slw (rP P a b) (rK P K a b) i 4 = if 0 ≤ rP P a b i then prv 0 (rK P K a b (rP P a b i)) i else 0 := rfl
      have ew : slw P K i 4 = if 0 ≤ P i then prv 0 (K (P i)) i else 0 := rfl
      rw [if_neg (fun z => by have := z.2.2; omega), if_neg (fun z => by have := z.2.2; omega), if_neg (fun z => by have := z.1; omega), eg, ew]
      by_cases ea : i = a
      · rw [ea, rP_a hne, pm, if_neg (by decide), if_neg (by decide)]
      · by_cases eb : i = b
        · rw [eb, rP_b, hPb, pm, if_neg (by decide), if_neg (by decide)]
        · rw [rP_o eb ea]
          by_cases c : P i = a
          · rw [if_pos c, rK_b, if_pos hb.1, c, if_pos ha.1]
          · rw [if_neg c]
            by_cases z0 : 0 ≤ P i
            · have := t.all i i0 i1 z0
              rw [if_pos z0, if_pos z0, rK_o (fun z => by rw [z, hKb] at this; cases this) c (by omega)]
            · rw [if_neg z0, if_neg z0]
end
end Go.Proofs
/-! States whose slots change: the state that may be, and its words. -/
set_option linter.unusedVariables false
namespace Go.Proofs
open Go.Sl
structure SlIs (st : ref10_State) (P : Int → Int) (K : Int → List Int) (C : Int → api_Cap) : Prop where
  len : st.Slots.length = 96
  par : ∀ i, 0 ≤ i → i < 96 → (slt st i).Parent = P i
  kid : ∀ i, 0 ≤ i → i < 96 → (slt st i).Kids = K i
  cap : ∀ i, 0 ≤ i → i < 96 → (slt st i).Cap = C i
def Pst (st : ref10_State) : Int → Int := fun i => (slt st i).Parent
def Kst (st : ref10_State) : Int → List Int := fun i => (slt st i).Kids
def Cst (st : ref10_State) : Int → api_Cap := fun i => (slt st i).Cap
theorem SlIs.self {st : ref10_State} (h : st.Slots.length = 96) : SlIs st (Pst st) (Kst st) (Cst st) := ⟨h, fun _ _ _ => rfl, fun _ _ _ => rfl, fun _ _ _ => rfl⟩
theorem WF.slots {st st' : ref10_State} (h : WF st) {P : Int → Int} {K : Int → List Int} {C : Int → api_Cap} (S : SlIs st' P K C) (t : Tree P K) (hc : ∀ i, 0 ≤ i → i < 96 → CapMay (C i)) (ho : st'.Objs = st.Objs) (h2 : st'.NS = st.NS) (h3 : st'.NO = st.NO) : WF st' := by
  have O : ∀ i, obt st' i = obt st i := fun i => by unfold obt; rw [ho]
  refine ⟨S.len, by rw [ho]; exact h.lo, fun i i0 i1 => by rw [S.cap i i0 i1]; exact hc i i0 i1, fun i i0 i1 => by rw [S.par i i0 i1]; exact t.par i i0 i1, fun i i0 i1 x hx => ?_, fun x x0 x1 hx => ?_, fun i i0 i1 => by rw [S.kid i i0 i1]; exact t.nod i i0 i1, fun i i0 i1 => by rw [S.par i i0 i1]; exact t.irr i i0 i1, fun i i0 i1 => by rw [O]; exact h.obj i i0 i1, fun i i0 i1 q hq => ?_, fun i i0 i1 hq => ?_, fun q q0 q1 k5 on => ?_, fun i i0 i1 => by rw [O]; exact h.nodq i i0 i1, by rw [h2]; exact h.ns, by rw [h3]; exact h.no⟩
  · rw [S.kid i i0 i1] at hx
    have := t.kid i i0 i1 x hx
    exact ⟨this.1, this.2.1, by rw [S.par x this.1 this.2.1]; exact this.2.2⟩
  · rw [S.par x x0 x1] at hx ⊢
    have := t.all x x0 x1 hx
    rw [S.kid _ hx (t.par x x0 x1).2]; exact this
  · simp only [O] at hq ⊢
    exact h.que i i0 i1 q hq
  · simp only [O] at hq ⊢; exact h.qk i i0 i1 hq
  · simp only [O] at k5 on ⊢
    exact h.onq q q0 q1 k5 on
theorem slw_congr {P P' : Int → Int} {K K' : Int → List Int} (t : Tree P K) (hP : ∀ i, 0 ≤ i → i < 96 → P' i = P i) (hK : ∀ i, 0 ≤ i → i < 96 → K' i = K i) {i : Int} (i0 : 0 ≤ i) (i1 : i < 96) (f : Int) : slw P' K' i f = slw P K i f := by
  unfold slw
  rw [hP i i0 i1, hK i i0 i1]
  split
  · rfl
  · split
    · rfl
    · by_cases c : 0 ≤ P i
      · rw [if_pos c, if_pos c, hK _ c (t.par i i0 i1).2]
      · rw [if_neg c, if_neg c]
/-- Only words of slots differ, but no capability; those of slots are small. -/
structure SLow (v v' : List Int) : Prop where
  len : v'.length = 738
  hi : ∀ j : Nat, 480 ≤ j → v'.getD j 0 = v.getD j 0
  cap : ∀ i : Int, 0 ≤ i → i < 96 → v'.getD (5 * i).toNat 0 = v.getD (5 * i).toNat 0
  sm : ∀ i f : Int, 0 ≤ i → i < 96 → 1 ≤ f → f < 5 → 0 ≤ v'.getD (5 * i + f).toNat 0 ∧ v'.getD (5 * i + f).toNat 0 ≤ 96
theorem SLow.refl {st : ref10_State} (h : WF st) {v : List Int} (hv : IsW st v) : SLow v v := ⟨hv.len, fun _ _ => rfl, fun _ _ _ => rfl, fun i f i0 i1 f0 f1 => by rw [hv.slot i f i0 i1 (by omega) f1]; exact sl_rg h ⟨i0, i1⟩ ⟨f0, f1⟩⟩
theorem SLow.sput {v v' : List Int} (s : SLow v v') (i f n : Int) (hf : 1 ≤ f) (hn : -1 ≤ n ∧ n < 96) : SLow v (sput v' i f n) := by
  refine ⟨by rw [sput_len]; exact s.len, fun j hj => ?_, fun k k0 k1 => ?_, fun k g k0 k1 g0 g1 => ?_⟩
  · rw [getD_sput s.len, if_neg]
    · exact s.hi j hj
    · rintro ⟨q, e⟩; unfold InSlot at q; omega
  · rw [getD_sput s.len, if_neg]
    · exact s.cap k k0 k1
    · rintro ⟨q, e⟩; unfold InSlot at q; omega
  · rw [getD_sput s.len]
    split
    · omega
    · exact s.sm k g k0 k1 g0 g1
theorem SLow.raw {v v' : List Int} (s : SLow v v') {i f : Int} (i0 : 0 ≤ i) (i1 : i < 96) (f0 : 1 ≤ f) (f1 : f < 5) : v'.getD (5 * i + f).toNat 0 = sget v' i f + 1 := by
  have := s.sm i f i0 i1 f0 f1
  unfold sget
  rw [if_pos ⟨i0, i1, by omega, f1⟩]
  split <;> omega
theorem SLow.link {v v' : List Int} (s : SLow v v') (kid par : Int) (hk : 0 ≤ kid ∧ kid < 96) (hp : 0 ≤ par ∧ par < 96) : SLow v (linkTo v' kid par) := by
  have := sget_rg v' par 2
  unfold linkTo
  exact ((((s.sput _ _ _ (by decide) (by omega)).sput _ _ _ (by decide) (by omega)).sput _ _ _ (by decide) (by omega)).sput _ _ _ (by decide) (by omega)).sput _ _ _ (by decide) (by omega)
theorem SLow.beside {v v' : List Int} (s : SLow v v') (i b e : Int) (hb : -1 ≤ b ∧ b < 96) (he : -1 ≤ e ∧ e < 96) : SLow v (besideTo v' i b e) := by
  unfold besideTo
  split
  · exact (s.sput _ _ _ (by decide) hb).sput _ _ _ (by decide) he
  · exact (s.sput _ _ _ (by decide) hb).sput _ _ _ (by decide) he
theorem SLow.clear {v v' : List Int} (s : SLow v v') (i : Int) : SLow v (clearTo v' i) := by
  unfold clearTo
  exact ((s.sput _ _ _ (by decide) (by decide)).sput _ _ _ (by decide) (by decide)).sput _ _ _ (by decide) (by decide)
theorem SLow.unlink {v v' : List Int} (s : SLow v v') (kid : Int) : SLow v (unlinkTo v' kid) := by
  unfold unlinkTo
  exact (s.beside _ _ _ (sget_rg _ _ _) (sget_rg _ _ _)).clear _
theorem SLow.move {v v' : List Int} (s : SLow v v') (a b : Int) (hb : 0 ≤ b ∧ b < 96) : SLow v (moveTo v' a b) := by
  unfold moveTo
  split
  · exact ((((s.sput _ _ _ (by decide) (sget_rg _ _ _)).sput _ _ _ (by decide) (sget_rg _ _ _)).sput _ _ _ (by decide) (sget_rg _ _ _)).beside _ _ _ (by omega) (by omega)).clear _
  · exact s
theorem SLow.adopt {v : List Int} (b : Int) (hb : 0 ≤ b ∧ b < 96) : ∀ (l : List Int) {v' : List Int}, SLow v v' → SLow v (adopt v' b l)
  | [], _, s => s
  | c :: r, v', s => SLow.adopt b hb r (s.sput c 1 b (by decide) (by omega))
theorem SLow.replace {v v' : List Int} (s : SLow v v') (a b : Int) (l : List Int) (hb : 0 ≤ b ∧ b < 96) : SLow v (replaceTo v' a b l) := by
  unfold replaceTo
  exact ((SLow.adopt b hb l (s.move a b hb)).sput _ _ _ (by decide) (sget_rg _ _ _)).sput _ _ _ (by decide) (by decide)
theorem IsW.slots {st st' : ref10_State} {v v' : List Int} (h : WF st) (hv : IsW st v) {P : Int → Int} {K : Int → List Int} {C : Int → api_Cap} (S : SlIs st' P K C) (t : Tree P K) (ho : st'.Objs = st.Objs) (h2 : st'.NS = st.NS) (h3 : st'.NO = st.NO) (s : SLow v v') (tw : TW P K v') (hc : ∀ i, 0 ≤ i → i < 96 → C i = (slt st i).Cap) : IsW st' v' := by
  have O : ∀ i, obt st' i = obt st i := fun i => by unfold obt; rw [ho]
  refine ⟨s.len, fun i f i0 i1 f0 f1 => ?_, fun i f i0 i1 f0 f1 => ?_, by rw [s.hi _ (by decide), h2]; exact hv.ns, by rw [s.hi _ (by decide), h3]; exact hv.no⟩
  · by_cases e : f = 0
    · subst e
      have a1 := hv.slot i 0 i0 i1 (by decide) (by decide)
      rw [show 5 * i + 0 = 5 * i by omega] at a1 ⊢
      rw [s.cap i i0 i1, a1]
      unfold sl
      rw [if_pos rfl, if_pos rfl, S.cap i i0 i1, hc i i0 i1]
    · rw [s.raw i0 i1 (by omega) f1, tw i f i0 i1 (by omega) f1, sl_slw st' i (by omega)]
      have : slw (fun i => (slt st' i).Parent) (fun i => (slt st' i).Kids) i f = slw P K i f := slw_congr t S.par S.kid i0 i1 f
      rw [this]; omega
  · rw [s.hi _ (by omega), hv.obj i f i0 i1 f0 f1]
    unfold ob
    simp only [O]
end Go.Proofs
/-! Appends. -/
set_option linter.unusedVariables false
namespace Go.Proofs
open Go.Sl
theorem app_ok {α : Type} {xs ys : List α} (h : xs.length + ys.length ≤ 4294967296) : app xs ys = some (xs ++ ys) := by
  unfold app; rw [decide_eq_true h, cond_true]
theorem app_one {l : List Int} {x : Int} (h : l.length < 4294967296) : app l [x] = some (l ++ [x]) := app_ok (by simp; omega)
end Go.Proofs
/-! Slots linked: the program's words are the state's. -/
set_option linter.unusedVariables false
namespace Go.Proofs
open Go.Sl
theorem rslot_ok (i : Int) : ref10_slot.f i = some (decide (InSlot i 0)) := by
  unfold ref10_slot.f InSlot
  congr 1
  by_cases h1 : 0 ≤ i <;> by_cases h2 : i < 96 <;> simp [h1, h2]
theorem at_slot {st : ref10_State} (h : st.Slots.length = 96) {a : Int} (ha : 0 ≤ a ∧ a < 96) : at_ st.Slots a = some (slt st a) := at_getD ha.1 (by rw [h]; omega)
theorem sg_set {S : List ref10_Slot} (h : S.length = 96) {a i : Int} (ha : 0 ≤ a ∧ a < 96) (hi : 0 ≤ i) (x : ref10_Slot) : (S.set a.toNat x).getD i.toNat default = if i = a then x else S.getD i.toNat default := by
  rw [getD_setD]
  by_cases e : i = a
  · rw [if_pos (by omega), if_pos e]
  · rw [if_neg (by omega), if_neg e]
theorem InSlot.rg {i : Int} (h : InSlot i 0) : 0 ≤ i ∧ i < 96 := ⟨h.1, h.2.1⟩
theorem InSlot.of {i f : Int} (h : 0 ≤ i ∧ i < 96) (hf : 0 ≤ f ∧ f < 5) : InSlot i f := ⟨h.1, h.2, hf.1, hf.2⟩
theorem Pst_sget {st : ref10_State} (h : WF st) {v : List Int} (hv : IsW st v) {i : Int} (hi : 0 ≤ i ∧ i < 96) : sget v i 1 = (slt st i).Parent := by
  have := hv.tw h i 1 hi.1 hi.2 (by decide) (by decide)
  rw [this]; show (slt st i).Parent + 1 - 1 = _; omega
theorem tree_st {st : ref10_State} (h : WF st) : Tree (Pst st) (Kst st) := h.tree
theorem tw_st {st : ref10_State} (h : WF st) {v : List Int} (hv : IsW st v) : TW (Pst st) (Kst st) v := hv.tw h
theorem Tree.klen {P : Int → Int} {K : Int → List Int} (t : Tree P K) {i : Int} (i0 : 0 ≤ i) (i1 : i < 96) : (K i).length ≤ 96 := nodup_len 96 (t.nod i i0 i1) fun x hx => by have := t.kid i i0 i1 x hx; omega
/-- The rest of a state. -/
structure Rest (st st' : ref10_State) : Prop where
  ob : st'.Objs = st.Objs
  ns : st'.NS = st.NS
  no : st'.NO = st.NO
theorem Rest.refl (st : ref10_State) : Rest st st := ⟨rfl, rfl, rfl⟩
theorem Rest.trans {a b c : ref10_State} (h : Rest a b) (k : Rest b c) : Rest a c := ⟨k.ob.trans h.ob, k.ns.trans h.ns, k.no.trans h.no⟩
def lP (P : Int → Int) (kid par : Int) : Int → Int := fun i => if i = kid then par else P i
def lK (K : Int → List Int) (kid par : Int) : Int → List Int := fun i => if i = par then kid :: K par else K i
def uP (P : Int → Int) (kid : Int) : Int → Int := fun i => if i = kid then -1 else P i
def uK (K : Int → List Int) (kid p : Int) : Int → List Int := fun i => if i = p then (K p).erase kid else K i
theorem link_pl {st : ref10_State} (h : WF st) {v : List Int} (hv : IsW st v) (kid par : Int) : ∃ n st' v', ref10_State_Link.f st kid par = some (n, st') ∧ VM.run plainI (cdt_Link.f kid par) v = some (eN' n, v') ∧ 0 ≤ n ∧ n ≤ 14 ∧ WF st' ∧ IsW st' v' ∧ Rest st st' ∧
    (n ≠ 0 → st' = st) ∧ (n = 0 → InSlot kid 0 ∧ InSlot par 0 ∧ Pst st kid = -1 ∧ kid ≠ par ∧ SlIs st' (lP (Pst st) kid par) (lK (Kst st) kid par) (Cst st)) ∧ (InSlot kid 0 → InSlot par 0 → Pst st kid = -1 → kid ≠ par → n = 0) ∧ (n = 2 ∨ n = 10 ∨ n = 0) ∧ n = linkBad v kid par := by
  have g := hv.good h
  rw [link_ok g]
  unfold ref10_State_Link.f
  rw [rslot_ok, rslot_ok, Option.bind_some, Option.bind_some]
  by_cases h1 : InSlot kid 0
  · by_cases h2 : InSlot par 0
    · have r1 := h1.rg
      have r2 := h2.rg
      rw [decide_eq_true h1, decide_eq_true h2]
      simp only [Bool.not_true, Bool.or_false, cond_false]
      rw [at_slot h.ls r1]
      have hp := Pst_sget h hv r1
      have pr := h.par kid r1.1 r1.2
      by_cases h3 : kid = par ∨ sget v kid 1 ≠ -1
      · have hb : linkBad v kid par = 10 := by unfold linkBad; rw [if_neg (fun q => q ⟨h1, h2⟩), if_pos h3]
        have key : (bif kid == par then some true else (some (slt st kid)).bind fun x14 => some (decide (0 ≤ x14.Parent))) = some true := by
          by_cases e : kid = par
          · have : (kid == par) = true := by simpa using e
            rw [this]; rfl
          · have e1 : (kid == par) = false := by simpa using e
            rw [e1, cond_false, Option.bind_some, decide_eq_true]
            rcases h3 with q | q
            · exact absurd q e
            · omega
        rw [key, Option.bind_some, cond_true, hb]
        refine ⟨10, st, v, rfl, rfl, by decide, by decide, h, hv, Rest.refl st, fun _ => rfl, fun z => absurd z (by decide), fun _ _ z1 z2 => ?_, by decide, rfl⟩
        exfalso
        rcases h3 with q | q
        · exact z2 q
        · unfold Pst at z1; omega
      · have hb : linkBad v kid par = 0 := by unfold linkBad; rw [if_neg (fun q => q ⟨h1, h2⟩), if_neg h3]
        have n1 : ¬ kid = par := fun e => h3 (.inl e)
        have n2 : (slt st kid).Parent = -1 := by
          rcases Int.lt_or_le (slt st kid).Parent 0 with q | q
          · omega
          · exact absurd (.inr (by omega)) h3
        have e1 : (kid == par) = false := by simpa using n1
        rw [e1, cond_false, Option.bind_some, n2, Option.bind_some, decide_eq_false (by decide), cond_false, Option.bind_some, hb]
        have l1 : (st.Slots.set kid.toNat ({ slt st kid with Parent := par } : ref10_Slot)).length = 96 := by simp [h.ls]
        have a1 : at_ (st.Slots.set kid.toNat ({ slt st kid with Parent := par } : ref10_Slot)) par = some (slt st par) := by
          rw [at_getD r2.1 (by rw [l1]; omega), sg_set h.ls r1 r2.1, if_neg (fun z => n1 z.symm)]; rfl
        have hkl := tree_st h |>.klen r2.1 r2.2
        unfold Kst at hkl
        rw [a1, Option.bind_some, app_ok (by simp only [List.length_cons, List.length_nil]; omega), Option.bind_some, Option.bind_some]
        have S : SlIs ({ st with Slots := (st.Slots.set kid.toNat ({ slt st kid with Parent := par } : ref10_Slot)).set par.toNat ({ slt st par with Kids := [kid] ++ (slt st par).Kids } : ref10_Slot) } : ref10_State) (lP (Pst st) kid par) (lK (Kst st) kid par) (Cst st) := by
          have E : ∀ i, 0 ≤ i → slt ({ st with Slots := (st.Slots.set kid.toNat ({ slt st kid with Parent := par } : ref10_Slot)).set par.toNat ({ slt st par with Kids := [kid] ++ (slt st par).Kids } : ref10_Slot) } : ref10_State) i = if i = par then ({ slt st par with Kids := [kid] ++ (slt st par).Kids } : ref10_Slot) else if i = kid then ({ slt st kid with Parent := par } : ref10_Slot) else slt st i := fun i i0 => by
            show (List.set _ _ _).getD i.toNat default = _
            rw [sg_set l1 r2 i0, sg_set h.ls r1 i0]; rfl
          refine ⟨by simp [h.ls], fun i i0 i1 => ?_, fun i i0 i1 => ?_, fun i i0 i1 => ?_⟩
          · rw [E i i0]; unfold lP Pst
            by_cases c : i = par
            · rw [if_pos c, if_neg (fun z => n1 (z.symm.trans c)), c]
            · rw [if_neg c]
              by_cases c2 : i = kid
              · rw [if_pos c2, if_pos c2]
              · rw [if_neg c2, if_neg c2]
          · rw [E i i0]; unfold lK Kst
            by_cases c : i = par
            · rw [if_pos c, if_pos c]; rfl
            · rw [if_neg c, if_neg c]
              split
              · rename_i e; rw [e]
              · rfl
          · rw [E i i0]; unfold Cst
            split
            · rename_i e; rw [e]
            · split
              · rename_i e; rw [e]
              · rfl
        have t := tree_st h
        have t' := t.link r1 r2 n2 n1
        have w' := TW.link t hv.len (tw_st h hv) r1 r2 n2 n1
        exact ⟨0, _, _, rfl, rfl, by decide, by decide, h.slots S t' h.cap rfl rfl rfl, hv.slots h S t' rfl rfl rfl ((SLow.refl h hv).link kid par r1 r2) w' (fun _ _ _ => rfl), ⟨rfl, rfl, rfl⟩, fun z => absurd rfl z, fun _ => ⟨h1, h2, n2, n1, S⟩, fun _ _ _ _ => rfl, by decide, rfl⟩
    · have hb : linkBad v kid par = 2 := by unfold linkBad; rw [if_pos (fun q => h2 q.2)]
      rw [hb, decide_eq_false h2, Bool.not_false, Bool.or_true, cond_true]
      exact ⟨2, st, v, rfl, rfl, by decide, by decide, h, hv, Rest.refl st, fun _ => rfl, fun z => absurd z (by decide), fun _ z => absurd z h2, by decide, rfl⟩
  · have hb : linkBad v kid par = 2 := by unfold linkBad; rw [if_pos (fun q => h1 q.1)]
    rw [hb, decide_eq_false h1, Bool.not_false, Bool.true_or, cond_true]
    exact ⟨2, st, v, rfl, rfl, by decide, by decide, h, hv, Rest.refl st, fun _ => rfl, fun z => absurd z (by decide), fun z => absurd z h1, by decide, rfl⟩
end Go.Proofs
/-! Packing and unpacking, plainly. -/
namespace Go.Proofs
open Go.Sl
theorem upto16 {P : Nat → Prop} {n : Nat} (h : n ≤ 16) (h0 : P 0) (h1 : P 1) (h2 : P 2) (h3 : P 3) (h4 : P 4) (h5 : P 5) (h6 : P 6) (h7 : P 7) (h8 : P 8) (h9 : P 9) (h10 : P 10) (h11 : P 11) (h12 : P 12) (h13 : P 13) (h14 : P 14) (h15 : P 15) (h16 : P 16) : P n := by
  have : n = 0 ∨ n = 1 ∨ n = 2 ∨ n = 3 ∨ n = 4 ∨ n = 5 ∨ n = 6 ∨ n = 7 ∨ n = 8 ∨ n = 9 ∨ n = 10 ∨ n = 11 ∨ n = 12 ∨ n = 13 ∨ n = 14 ∨ n = 15 ∨ n = 16 := by omega
  rcases this with rfl | rfl | rfl | rfl | rfl | rfl | rfl | rfl | rfl | rfl | rfl | rfl | rfl | rfl | rfl | rfl | rfl <;> assumption
theorem cond_some {α : Type} (c : Bool) (a b : α) : (bif c then some a else some b) = some (bif c then a else b) := by cases c <;> rfl
theorem cond_or (c a b : Bool) : (bif c then a else b) = ((c && a) || (!c && b)) := by cases c <;> simp
theorem may_pack (c : api_Cap) : ∃ b, pack_May.f c = some b ∧ (b = true ↔ CapMay c) := by
  unfold pack_May.f CapMay
  simp only [pack_May_1.f, Option.bind_some]
  obtain ⟨K, R, O, B, G, T⟩ := c
  simp only
  by_cases h5 : 0 ≤ T ∧ T ≤ 8
  · obtain ⟨n, rfl⟩ := Int.eq_ofNat_of_zero_le h5.1
    have hp := pow_lo n
    have hp2 := pow_le (show n ≤ 8 by omega)
    rw [bshl_i64 n (by omega) (by omega) (by omega), Int.one_mul]
    rw [show ((n : Int)).toNat = n by simp]
    generalize (2 : Int) ^ n = p at *
    rw [w64_id (by omega) (by omega)]
    have hc : chk (decide (0 ≤ (n : Int))) = some () := by simp [chk]
    simp only [hc, Option.bind_some, cond_some]
    refine ⟨_, rfl, ?_⟩
    simp only [Bool.cond_true_left, Bool.cond_false_left]
    simp only [cond_or]
    simp only [Bool.or_eq_true, Bool.and_eq_true, Bool.not_eq_true', decide_eq_true_eq, Bool.and_eq_false_iff, Bool.not_eq_false', decide_eq_false_iff_not, beq_iff_eq, bne_iff_ne, Bool.false_eq_true, reduceCtorEq, api_Cap.mk.injEq, Bool.or_eq_false_iff, beq_eq_false_iff_ne, bne_eq_false_iff_eq, ne_eq]
    omega
  · refine ⟨false, ?_, ?_⟩
    · have h6 : (decide (0 ≤ T) && decide (T ≤ 8)) = false := by simpa using h5
      by_cases hk : K = 0
      · have : ¬ ((⟨K, R, O, B, G, T⟩ : api_Cap) = ⟨0, 0, 0, 0, 0, 0⟩) := by
          simp only [api_Cap.mk.injEq]; omega
        simp [hk] at this ⊢
        omega
      · simp only [h6, Option.bind_some, cond_some]
        simp [hk]
    · simp only [Bool.false_eq_true, false_iff]; omega
theorem packPut_ok {k : Nat} {c : api_Cap} (h : CapMay c) : pack_Put.f (k + 40) c = some (capWord c, none) := by
  obtain ⟨b, hb, hb2⟩ := may_pack c
  have hg := guard_lt h
  rw [hb2.2 h] at hb
  unfold pack_Put.f
  rw [hb]
  obtain ⟨h1, h2, h3, h4, h5, h6, h7, h8, h9, h10, -, -, -, h14, h15⟩ := h
  obtain ⟨K, R, O, B, G, T⟩ := c
  simp only at *
  have e0 : bor .u64 0 (bshl .u64 (wu64 K) 0) = K := by
    rw [wu64_id (by omega) (by omega), show (0 : Int) = ((0 : Nat) : Int) from rfl, bshl_u64 0 (by omega) (by omega) (by omega)]
    rw [show ((0 : Nat) : Int) = 0 from rfl]
    rw [bor_add_u64 0 (by omega) (by omega) (by omega) (by omega) (by omega)]
    omega
  have e1 : bor .u64 K (bshl .u64 (wu64 R) 4) = K + R * 2 ^ 4 := by
    rw [wu64_id (by omega) (by omega), show (4 : Int) = ((4 : Nat) : Int) from rfl, bshl_u64 4 (by omega) (by omega) (by omega), bor_add_u64 4 (by omega) (by omega) (by omega) (by omega) (by omega)]
  have e2 : bor .u64 (K + R * 2 ^ 4) (bshl .u64 (wu64 O) 7) = K + R * 2 ^ 4 + O * 2 ^ 7 := by
    rw [wu64_id (by omega) (by omega), show (7 : Int) = ((7 : Nat) : Int) from rfl, bshl_u64 7 (by omega) (by omega) (by omega), bor_add_u64 7 (by omega) (by omega) (by omega) (by omega) (by omega)]
  have e3 : bor .u64 (K + R * 2 ^ 4 + O * 2 ^ 7) (bshl .u64 (wu64 B) 12) = K + R * 2 ^ 4 + O * 2 ^ 7 + B * 2 ^ 12 := by
    rw [wu64_id (by omega) (by omega), show (12 : Int) = ((12 : Nat) : Int) from rfl, bshl_u64 12 (by omega) (by omega) (by omega), bor_add_u64 12 (by omega) (by omega) (by omega) (by omega) (by omega)]
  have e4 : bor .u64 (K + R * 2 ^ 4 + O * 2 ^ 7 + B * 2 ^ 12) (bshl .u64 (wu64 T) 28) = K + R * 2 ^ 4 + O * 2 ^ 7 + B * 2 ^ 12 + T * 2 ^ 28 := by
    rw [wu64_id (by omega) (by omega), show (28 : Int) = ((28 : Nat) : Int) from rfl, bshl_u64 28 (by omega) (by omega) (by omega), bor_add_u64 28 (by omega) (by omega) (by omega) (by omega) (by omega)]
  have e5 : bor .u64 (K + R * 2 ^ 4 + O * 2 ^ 7 + B * 2 ^ 12 + T * 2 ^ 28) (bshl .u64 (wu64 G) 32) = K + R * 2 ^ 4 + O * 2 ^ 7 + B * 2 ^ 12 + T * 2 ^ 28 + G * 2 ^ 32 := by
    rw [wu64_id (by omega) (by omega), show (32 : Int) = ((32 : Nat) : Int) from rfl, bshl_u64 32 (by omega) (by omega) (by omega), bor_add_u64 32 (by omega) (by omega) (by omega) (by omega) (by omega)]
  have q : ∀ x y : Int, x = y → 0 ≤ y → y < 100 → w64 x = y := fun x y h _ _ => by subst h; exact w64_id (by omega) (by omega)
  have stp : ∀ (n : Nat) (i x s a b i' x' s' : Int), at_ [4, 3, 5, 16, 4, 8] i = some a → at_ [K, R, O, B, T, G] i = some b → decide (i < 6) = true → 0 ≤ s → i + 1 = i' → 0 ≤ i' → i' < 100 → s + a = s' → 0 ≤ s' → s' < 100 → bor .u64 x (bshl .u64 (wu64 b) s) = x' →
      pack_Put.l1 ⟨K, R, O, B, G, T⟩ [4, 3, 5, 16, 4, 8] (n + 1) (i, x, s) = pack_Put.l1 ⟨K, R, O, B, G, T⟩ [4, 3, 5, 16, 4, 8] n (i', x', s') := by
    intro n i x s a b i' x' s' h1 h2 h3 h4 h5 h6 h7 h8 h9 h10 h11
    have h12 : decide (i < (([4, 3, 5, 16, 4, 8] : List Int).length : Int)) = true := h3
    conv => lhs; unfold pack_Put.l1
    simp only [h12, h1, h2, Option.bind_some, cond_true, chk, decide_eq_true h4, q _ _ h5 h6 h7, q _ _ h8 h9 h10, h11]
  have hA : pack_Put.l1 ⟨K, R, O, B, G, T⟩ [4, 3, 5, 16, 4, 8] (k + 40) (0, 0, 0) = some (K + R * 2 ^ 4 + O * 2 ^ 7 + B * 2 ^ 12 + T * 2 ^ 28 + G * 2 ^ 32) := by
    refine (stp (k + 39) 0 0 0 4 K 1 _ 4 rfl rfl rfl (by decide) rfl (by decide) (by decide) rfl (by decide) (by decide) e0).trans ?_
    refine (stp (k + 38) 1 _ 4 3 R 2 _ 7 rfl rfl rfl (by decide) rfl (by decide) (by decide) rfl (by decide) (by decide) e1).trans ?_
    refine (stp (k + 37) 2 _ 7 5 O 3 _ 12 rfl rfl rfl (by decide) rfl (by decide) (by decide) rfl (by decide) (by decide) e2).trans ?_
    refine (stp (k + 36) 3 _ 12 16 B 4 _ 28 rfl rfl rfl (by decide) rfl (by decide) (by decide) rfl (by decide) (by decide) e3).trans ?_
    refine (stp (k + 35) 4 _ 28 4 T 5 _ 32 rfl rfl rfl (by decide) rfl (by decide) (by decide) rfl (by decide) (by decide) e4).trans ?_
    refine (stp (k + 34) 5 _ 32 8 G 6 _ 40 rfl rfl rfl (by decide) rfl (by decide) (by decide) rfl (by decide) (by decide) e5).trans ?_
    unfold pack_Put.l1
    rfl
  simp only [pack_widths.f, Option.bind_some, Bool.not_true, cond_false, hA, capWord]
theorem packPut_no {k : Nat} {c : api_Cap} (h : ¬ CapMay c) : pack_Put.f (k + 40) c = some (0, some 1) := by
  obtain ⟨b, hb, hb2⟩ := may_pack c
  have : b = false := by cases b <;> simp_all
  subst this
  unfold pack_Put.f
  rw [hb]; rfl
open Classical in
theorem packGet_ok {k : Nat} {w : Int} (h0 : 0 ≤ w) (h1 : w ≤ 18446744073709551615) : pack_Get.f (k + 40) w = some (if w / 2 ^ 4 / 2 ^ 3 / 2 ^ 5 / 2 ^ 16 / 2 ^ 4 / 2 ^ 8 = 0 ∧ CapMay (capOf w) then (capOf w, none) else (⟨0, 0, 0, 0, 0, 0⟩, some 1)) := by
  have q : ∀ x y : Int, x = y → 0 ≤ y → y < 100 → w64 x = y := fun x y h _ _ => by subst h; exact w64_id (by omega) (by omega)
  have stp : ∀ (n : Nat) (i x i' : Int) (m : Nat) (acc : List Int), at_ [4, 3, 5, 16, 4, 8] i = some (m : Int) → decide (i < 6) = true → 0 ≤ x → x ≤ 18446744073709551615 → m < 17 → i + 1 = i' → 0 ≤ i' → i' < 100 → acc.length < 10 →
      pack_Get.l1 [4, 3, 5, 16, 4, 8] (n + 1) (i, x, acc) = pack_Get.l1 [4, 3, 5, 16, 4, 8] n (i', x / 2 ^ m, acc ++ [x % 2 ^ m]) := by
    intro n i x i' m acc h1 h3 h4 h4b h5 h6 h7 h8 h9
    have h12 : decide (i < (([4, 3, 5, 16, 4, 8] : List Int).length : Int)) = true := h3
    have hm := pow_lo m
    have hm2 := pow_le (show m ≤ 17 by omega)
    have hx : x % 2 ^ m < 2 ^ m := Int.emod_lt_of_pos _ (by omega)
    have hx0 : 0 ≤ x % 2 ^ m := Int.emod_nonneg _ (by omega)
    have hmask : wu64 (bshl .u64 1 (m : Int) - 1) = 2 ^ m - 1 := by
      rw [bshl_u64 m (by omega) (by omega) (by omega), Int.one_mul]
      exact wu64_id (by omega) (by omega)
    have happ : app acc [x % 2 ^ m] = some (acc ++ [x % 2 ^ m]) := by
      unfold app
      have : decide (acc.length + [x % 2 ^ m].length ≤ 4294967296) = true := by simp; omega
      rw [this]; rfl
    conv => lhs; unfold pack_Get.l1
    simp only [h12, h1, Option.bind_some, cond_true, chk, decide_eq_true (show (0 : Int) ≤ (m : Int) by omega), hmask, band_mod_u64 m (by omega) h4 (by omega), w64_id (x := x % 2 ^ m) (by omega) (by omega), happ, q _ _ h6 h7 h8, bshr_nn (k := .u64) m (by show m ≤ 64; omega) h4]
  have hA : pack_Get.l1 [4, 3, 5, 16, 4, 8] (k + 40) (0, w, []) = some ([w % 2 ^ 4, w / 2 ^ 4 % 2 ^ 3, w / 2 ^ 4 / 2 ^ 3 % 2 ^ 5, w / 2 ^ 4 / 2 ^ 3 / 2 ^ 5 % 2 ^ 16, w / 2 ^ 4 / 2 ^ 3 / 2 ^ 5 / 2 ^ 16 % 2 ^ 4, w / 2 ^ 4 / 2 ^ 3 / 2 ^ 5 / 2 ^ 16 / 2 ^ 4 % 2 ^ 8], w / 2 ^ 4 / 2 ^ 3 / 2 ^ 5 / 2 ^ 16 / 2 ^ 4 / 2 ^ 8) := by
    refine (stp (k + 39) 0 _ 1 4 _ rfl (by decide) (by omega) (by omega) (by decide) rfl (by decide) (by decide) (by simp)).trans ?_
    refine (stp (k + 38) 1 _ 2 3 _ rfl (by decide) (by omega) (by omega) (by decide) rfl (by decide) (by decide) (by simp)).trans ?_
    refine (stp (k + 37) 2 _ 3 5 _ rfl (by decide) (by omega) (by omega) (by decide) rfl (by decide) (by decide) (by simp)).trans ?_
    refine (stp (k + 36) 3 _ 4 16 _ rfl (by decide) (by omega) (by omega) (by decide) rfl (by decide) (by decide) (by simp)).trans ?_
    refine (stp (k + 35) 4 _ 5 4 _ rfl (by decide) (by omega) (by omega) (by decide) rfl (by decide) (by decide) (by simp)).trans ?_
    refine (stp (k + 34) 5 _ 6 8 _ rfl (by decide) (by omega) (by omega) (by decide) rfl (by decide) (by decide) (by simp)).trans ?_
    unfold pack_Get.l1
    rfl
  obtain ⟨b, hb, hb2⟩ := may_pack (capOf w)
  unfold capOf at hb
  unfold pack_Get.f
  simp only [pack_widths.f, Option.bind_some, hA]
  simp only [at_, Int.le_refl, decide_true, cond_true, List.getElem?_cons_zero, Int.toNat_zero, Option.bind_some, show decide ((0 : Int) ≤ 1) = true from rfl, show decide ((0 : Int) ≤ 2) = true from rfl, show decide ((0 : Int) ≤ 3) = true from rfl, show decide ((0 : Int) ≤ 4) = true from rfl, show decide ((0 : Int) ≤ 5) = true from rfl,
    show (1 : Int).toNat = 1 from rfl, show (2 : Int).toNat = 2 from rfl, show (3 : Int).toNat = 3 from rfl, show (4 : Int).toNat = 4 from rfl, show (5 : Int).toNat = 5 from rfl, List.getElem?_cons_succ, hb]
  generalize hr : w / 2 ^ 4 / 2 ^ 3 / 2 ^ 5 / 2 ^ 16 / 2 ^ 4 / 2 ^ 8 = r
  cases b with
  | false =>
    have hn : ¬ CapMay (capOf w) := fun h => by simpa using hb2.2 h
    rw [if_neg (fun h => hn h.2)]
    by_cases hr0 : r = 0 <;> simp [hr0]
  | true =>
    have hy : CapMay (capOf w) := hb2.1 rfl
    by_cases hr0 : r = 0
    · rw [if_pos ⟨hr0, hy⟩]; simp [hr0, capOf]
    · rw [if_neg (fun h => hr0 h.1)]
      have : (r != 0) = true := by simpa using hr0
      simp only [this, cond_true, Option.bind_some]
end Go.Proofs
/-! A slot's capability. -/
set_option linter.unusedVariables false
namespace Go.Proofs
open Go.Sl
theorem cap_ok {s : List Int} (h : GoodU s) (k : Nat) (i : Int) : VM.run plainI (cspace_Cap.f (k + 40) i) s = some (capAt s i, s) := by
  unfold cspace_Cap.f capAt
  rw [runB, runO, slot_ok]
  by_cases hi : InSlot i 0
  · rw [if_pos hi, if_pos hi]
    have hi' := hi
    unfold InSlot at hi'
    simp only [Option.map_some, Option.bind_some, Bool.not_true, cond_false, Int.add_zero]
    rw [runRd _ (by rw [h.1.1]; omega), runB, runO, packGet_ok (h.1.2 _) (h.2 _)]
    unfold readCap
    by_cases q : s.getD (5 * i).toNat 0 / 2 ^ 4 / 2 ^ 3 / 2 ^ 5 / 2 ^ 16 / 2 ^ 4 / 2 ^ 8 = 0 ∧ CapMay (capOf (s.getD (5 * i).toNat 0))
    · rw [if_pos q, if_pos q]; rfl
    · rw [if_neg q, if_neg q]; rfl
  · rw [if_neg hi, if_neg hi]; rfl
end Go.Proofs
/-! Capabilities that are put into slots. -/
set_option linter.unusedVariables false
namespace Go.Proofs
open Go.Sl
/-- A capability is set. -/
def cset (s : List Int) (i : Int) (c : api_Cap) : List Int := s.set (5 * i).toNat (capWord c)
theorem cset_ok {s : List Int} (g : Good s) (k : Nat) (i : Int) (c : api_Cap) (hi : 0 ≤ i ∧ i < 96) (hc : CapMay c) : VM.run plainI (cspace_Set.f (k + 40) i c) s = some (none, cset s i c) := by
  unfold cspace_Set.f cset
  rw [runB, runO, slot_ok, if_pos ⟨hi.1, hi.2, by decide⟩]
  simp only [Option.map_some, Option.bind_some, Bool.not_true, cond_false, Int.add_zero, runB, runO, packPut_ok hc, Option.isSome_none]
  rw [runWr _ (by rw [g.1]; omega)]; rfl
theorem goodU_cset {s : List Int} (g : GoodU s) (i : Int) {c : api_Cap} (hc : CapMay c) : GoodU (cset s i c) := by
  obtain ⟨-, -, h3, h4⟩ := word_capOf hc
  refine ⟨⟨by simp [cset, g.1.1], fun j => ?_⟩, fun j => ?_⟩ <;> unfold cset <;> rw [getD_set] <;> split
  · exact h3
  · exact g.1.2 j
  · exact h4
  · exact g.2 j
theorem readCap_word {c : api_Cap} (hc : CapMay c) : readCap (capWord c) = c := by
  obtain ⟨h1, h2, -, -⟩ := word_capOf hc
  unfold readCap
  rw [if_pos ⟨h2, by rw [h1]; exact hc⟩, h1]
theorem capAt_cset {s : List Int} (hl : s.length = 738) (i k : Int) {c : api_Cap} (hi : 0 ≤ i ∧ i < 96) (hc : CapMay c) : capAt (cset s i c) k = if k = i then c else capAt s k := by
  unfold capAt cset
  by_cases hk : InSlot k 0
  · have hk' := hk
    unfold InSlot at hk'
    rw [if_pos hk, if_pos hk, getD_set]
    by_cases e : k = i
    · rw [if_pos ⟨by omega, by omega⟩, if_pos e, readCap_word hc]
    · rw [if_neg (by omega), if_neg e]
  · rw [if_neg hk, if_neg hk, if_neg]
    intro e; apply hk; rw [e]; exact ⟨hi.1, hi.2, by decide⟩
theorem fld_cset {s : List Int} (i : Int) (c : api_Cap) (hi : 0 ≤ i ∧ i < 96) (i' f' : Int) : fld (cset s i c) i' f' = fld s i' f' := by
  unfold fld cset
  split
  · rename_i h
    unfold InObj at h
    rw [getD_set, if_neg (by omega)]
  · rfl
theorem sget_cset {s : List Int} (i : Int) (c : api_Cap) (hi : 0 ≤ i ∧ i < 96) (i' f' : Int) (hf : f' ≠ 0) : sget (cset s i c) i' f' = sget s i' f' := by
  unfold sget
  split
  · rename_i h
    unfold InSlot at h
    have : (cset s i c).getD (5 * i' + f').toNat 0 = s.getD (5 * i' + f').toNat 0 := by
      unfold cset; rw [getD_set, if_neg (by omega)]
    rw [this]
  · rfl
end Go.Proofs
/-! Capabilities in slots of a state. -/
set_option linter.unusedVariables false
namespace Go.Proofs
open Go.Sl
def cupd (st : ref10_State) (i : Int) (c : api_Cap) : ref10_State := { st with Slots := st.Slots.set i.toNat ({ slt st i with Cap := c } : ref10_Slot) }
def cC (C : Int → api_Cap) (i : Int) (c : api_Cap) : Int → api_Cap := fun j => if j = i then c else C j
theorem slt_cupd {st : ref10_State} (h : st.Slots.length = 96) {i j : Int} (hi : 0 ≤ i ∧ i < 96) (hj : 0 ≤ j) (c : api_Cap) : slt (cupd st i c) j = if j = i then ({ slt st i with Cap := c } : ref10_Slot) else slt st j := by
  show (List.set _ _ _).getD j.toNat default = _
  rw [sg_set h hi hj]; rfl
theorem cupd_is {st : ref10_State} (h : st.Slots.length = 96) {i : Int} (hi : 0 ≤ i ∧ i < 96) (c : api_Cap) : SlIs (cupd st i c) (Pst st) (Kst st) (cC (Cst st) i c) := by
  refine ⟨by simp [cupd, h], fun j j0 j1 => ?_, fun j j0 j1 => ?_, fun j j0 j1 => ?_⟩
  · rw [slt_cupd h hi j0]; unfold Pst
    split
    · rename_i e; rw [e]
    · rfl
  · rw [slt_cupd h hi j0]; unfold Kst
    split
    · rename_i e; rw [e]
    · rfl
  · rw [slt_cupd h hi j0]; unfold cC Cst
    split <;> rfl
theorem WF.cupd {st : ref10_State} (h : WF st) {i : Int} (hi : 0 ≤ i ∧ i < 96) {c : api_Cap} (hc : CapMay c) : WF (cupd st i c) :=
  h.slots (cupd_is h.ls hi c) (tree_st h) (fun j j0 j1 => by unfold cC; split; exact hc; exact h.cap j j0 j1) rfl rfl rfl
theorem IsW.cset {st : ref10_State} (h : WF st) {v : List Int} (hv : IsW st v) {i : Int} (hi : 0 ≤ i ∧ i < 96) (c : api_Cap) : IsW (Go.Proofs.cupd st i c) (Go.Proofs.cset v i c) := by
  have S := cupd_is h.ls hi c
  have hl := hv.len
  refine ⟨by simp [Go.Proofs.cset, hl], fun j f j0 j1 f0 f1 => ?_, fun j f j0 j1 f0 f1 => ?_, ?_, ?_⟩
  · unfold Go.Proofs.cset
    rw [getD_set]
    by_cases e : f = 0
    · subst e
      unfold sl
      rw [if_pos rfl, S.cap j j0 j1]
      unfold cC
      by_cases q : j = i
      · rw [if_pos ⟨by omega, by omega⟩, if_pos q]
      · have a1 := hv.slot j 0 j0 j1 (by decide) (by decide)
        unfold sl at a1
        rw [if_pos rfl] at a1
        rw [if_neg (by omega), if_neg q]; exact a1
    · rw [if_neg (by omega), hv.slot j f j0 j1 f0 f1, sl_slw _ j (by omega), sl_slw _ j (by omega)]
      exact (slw_congr (tree_st h) S.par S.kid j0 j1 f).symm
  · unfold Go.Proofs.cset
    rw [getD_set, if_neg (by omega), hv.obj j f j0 j1 f0 f1]; rfl
  · unfold Go.Proofs.cset
    rw [getD_set, if_neg (by omega)]; exact hv.ns
  · unfold Go.Proofs.cset
    rw [getD_set, if_neg (by omega)]; exact hv.no
/-- A slot's capability, out of the words. -/
theorem IsW.capAt {st : ref10_State} (h : WF st) {v : List Int} (hv : IsW st v) {i : Int} (hi : 0 ≤ i ∧ i < 96) : Go.Proofs.capAt v i = (slt st i).Cap := by
  unfold Go.Proofs.capAt
  have a1 := hv.slot i 0 hi.1 hi.2 (by decide) (by decide)
  rw [show 5 * i + 0 = 5 * i by omega] at a1
  unfold sl at a1
  rw [if_pos rfl] at a1
  rw [if_pos ⟨hi.1, hi.2, by decide, by decide⟩, a1, readCap_word (h.cap i hi.1 hi.2)]
theorem capAt_out {v : List Int} {i : Int} (hi : ¬ InSlot i 0) : Go.Proofs.capAt v i = noCap := by unfold Go.Proofs.capAt; rw [if_neg hi]
theorem noCap_may : CapMay noCap := by decide
/-- A capability is set. -/
theorem cset_pl {st : ref10_State} (h : WF st) {v : List Int} (hv : IsW st v) {i : Int} (hi : 0 ≤ i ∧ i < 96) {c : api_Cap} (hc : CapMay c) {k : Nat} (hk : 40 ≤ k) : VM.run plainI (cspace_Set.f k i c) v = some (none, Go.Proofs.cset v i c) ∧ WF (Go.Proofs.cupd st i c) ∧ IsW (Go.Proofs.cupd st i c) (Go.Proofs.cset v i c) := by
  obtain ⟨k, rfl⟩ : ∃ q, k = q + 40 := ⟨k - 40, by omega⟩
  exact ⟨cset_ok (hv.good h).1 k i c hi hc, h.cupd hi hc, hv.cset h hi c⟩
theorem cap_pl {st : ref10_State} (h : WF st) {v : List Int} (hv : IsW st v) (i : Int) {k : Nat} (hk : 40 ≤ k) : VM.run plainI (cspace_Cap.f k i) v = some (if InSlot i 0 then (slt st i).Cap else noCap, v) := by
  obtain ⟨k, rfl⟩ : ∃ q, k = q + 40 := ⟨k - 40, by omega⟩
  rw [cap_ok (hv.good h)]
  by_cases c : InSlot i 0
  · rw [if_pos c, hv.capAt h c.rg]
  · rw [if_neg c, capAt_out c]
end Go.Proofs
/-! What an object is. -/
set_option linter.unusedVariables false
namespace Go.Proofs
open Go.Sl
theorem ris_ok {st : ref10_State} (h : WF st) (a k : Int) : ref10_State_is.f st a k = some (decide (0 ≤ a ∧ a < 32 ∧ (obt st a).Kind = k)) := by
  unfold ref10_State_is.f
  by_cases c : 0 ≤ a ∧ a < 32
  · have e : (decide (a < 0) || decide (31 < a)) = false := by simp; omega
    rw [e, cond_false, at_getD c.1 (by rw [h.lo]; omega), Option.bind_some]
    congr 1
    show (decide _ : Bool) = _
    simp [c.1, c.2]; rfl
  · have e : (decide (a < 0) || decide (31 < a)) = true := by rw [← Bool.not_eq_false]; simp; omega
    rw [e, cond_true, decide_eq_false (fun q => c ⟨q.1, q.2.1⟩)]
end Go.Proofs
/-! The fields of objects, in a list of words. -/
set_option linter.unusedVariables false
namespace Go.Proofs
open Go.Sl
theorem obj_ok (a b : Int) : lay_Obj.f a b = some (if InObj a b then (480 + 8 * a + b, true) else (0, false)) := by
  unfold lay_Obj.f InObj
  simp only [lay_in.f]
  by_cases h1 : 0 ≤ a <;> by_cases h2 : a < 32 <;> by_cases h3 : 0 ≤ b <;> by_cases h4 : b < 8 <;> simp [h1, h2, h3, h4]
  rw [w64_id (x := a * 8) (by omega) (by omega), w64_id (x := 480 + a * 8) (by omega) (by omega), w64_id (by omega) (by omega)]; omega
theorem field_ok {s : List Int} (h : Good s) (i f : Int) : VM.run plainI (lay_Field.f i f) s = some (fld s i f, s) := by
  unfold lay_Field.f fld
  rw [runB, runO, obj_ok]
  by_cases hi : InObj i f
  · rw [if_pos hi, if_pos hi]
    have hi' := hi
    unfold InObj at hi'
    have hg := h.2 (480 + 8 * i + f).toNat
    simp only [Option.map_some, Option.bind_some, Bool.not_true, cond_false]
    rw [runRd _ (by rw [h.1]; omega)]
    generalize s.getD (480 + 8 * i + f).toNat 0 = x at hg
    unfold numb
    by_cases hb : 4611686018427387904 < x
    · rw [decide_eq_true hb, if_pos hb]; rfl
    · rw [decide_eq_false hb, if_neg hb, w64_id (by omega) (by omega)]; rfl
  · rw [if_neg hi, if_neg hi]; rfl
theorem put_ok {s : List Int} (h : Good s) (i f n : Int) (hn : n ≤ 9223372036854775807) : VM.run plainI (lay_Put.f i f n) s = some ((), put s i f n) := by
  unfold lay_Put.f put
  rw [runB, runO, obj_ok]
  by_cases hi : InObj i f
  · rw [if_pos hi]
    have hi' := hi
    unfold InObj at hi'
    by_cases h0 : 0 ≤ n
    · simp only [Option.map_some, Option.bind_some, decide_eq_true h0, Bool.and_true, cond_true]
      rw [runWr _ (by rw [h.1]; omega), wu64_id h0 (by omega), if_pos ⟨hi, h0⟩]; rfl
    · simp only [Option.map_some, Option.bind_some, decide_eq_false h0, Bool.and_false, cond_false, runR]
      rw [if_neg (fun e => h0 e.2)]
  · rw [if_neg hi, if_neg (fun e => hi e.1)]; rfl
end Go.Proofs
/-! Objects that are made, objects of one's own words, how much is used. -/
set_option linter.unusedVariables false
namespace Go.Proofs
open Go.Sl
section
variable {st : ref10_State} (h : WF st)
include h
theorem noQ {i : Int} (hi : 0 ≤ i ∧ i < 32) (hk : (obt st i).Kind ≠ 3 ∧ (obt st i).Kind ≠ 4) : (obt st i).Queue = [] := by
  rcases Classical.em ((obt st i).Queue = []) with z | z
  · exact z
  · have := h.qk i hi.1 hi.2 z; omega
theorem noOn {a : Int} (ha : 0 ≤ a ∧ a < 32) (hk : (obt st a).Kind = 0) {t : Int} (ht : 0 ≤ t ∧ t < 32) (k5 : (obt st t).Kind = 5) : (obt st t).On ≠ a := fun e => by
  have q := noQ h ha (by omega)
  have := h.onq t ht.1 ht.2 k5 (by omega)
  rw [e, q] at this; cases this
/-- An object is made where there was none. -/
theorem WF.fresh {a : Int} (ha : 0 ≤ a ∧ a < 32) (hk : (obt st a).Kind = 0) {x : ref10_Obj} (hx : OW x) (hq : x.Queue = []) (ho : x.On = -1) : WF (Go.Proofs.upd st a x) := by
  have O := fun i (hi : 0 ≤ i) => obt_upd h.lo ha hi x
  have qa := noQ h ha (by omega)
  refine ⟨h.ls, by rw [upd_len]; exact h.lo, h.cap, h.par, h.kid, h.all, h.nodk, h.irr, fun i h0 h1 => ?_, fun i h0 h1 t ht => ?_, fun i h0 h1 hn => ?_, fun t h0 h1 k5 on => ?_, fun i h0 h1 => ?_, h.ns, h.no⟩
  · rw [O i h0]; split
    · exact hx
    · exact h.obj i h0 h1
  · rw [O i h0] at ht
    split at ht
    · rw [hq] at ht; cases ht
    · have y := h.que i h0 h1 t ht
      have ne : t ≠ a := fun e => by rw [e, hk] at y; omega
      rw [O t y.1, if_neg ne]; exact y
  · rw [O i h0] at hn ⊢
    split
    · rename_i e; rw [if_pos e] at hn; exact absurd hq hn
    · rename_i e; rw [if_neg e] at hn; exact h.qk i h0 h1 hn
  · rw [O t h0] at k5 on ⊢
    by_cases e : t = a
    · rw [if_pos e] at on; omega
    · rw [if_neg e] at k5 on ⊢
      have ne : (obt st t).On ≠ a := noOn h ha hk ⟨h0, h1⟩ k5
      rw [O _ on, if_neg ne]; exact h.onq t h0 h1 k5 on
  · rw [O i h0]; split
    · rw [hq]; exact List.nodup_nil
    · exact h.nodq i h0 h1
theorem ob_fresh {a : Int} (ha : 0 ≤ a ∧ a < 32) (hk : (obt st a).Kind = 0) {x : ref10_Obj} (hq : x.Queue = []) (ho : x.On = -1) {i f : Int} (hi : 0 ≤ i ∧ i < 32) : ob (upd st a x) i f = if i = a then own x f else ob st i f := by
  have O := fun i (hi : 0 ≤ i) => obt_upd h.lo ha hi x
  unfold ob
  rw [O i hi.1]
  by_cases e : i = a
  · simp only [if_pos e]
    rw [if_neg (by omega), if_neg (fun z => z.2 hq), if_neg (fun z => z.2 hq)]
  · simp only [if_neg e]
    by_cases c : f = 2 ∧ (obt st i).Kind = 5 ∧ 0 ≤ (obt st i).On
    · rw [if_pos c, if_pos c, O _ c.2.2, if_neg (noOn h ha hk hi c.2.1)]
    · rw [if_neg c, if_neg c]
theorem fresh_isw {v v' : List Int} (hv : IsW st v) {a : Int} (ha : 0 ≤ a ∧ a < 32) (hk : (obt st a).Kind = 0) {x : ref10_Obj} (hx : OW x) (hq : x.Queue = []) (ho : x.On = -1) (low : Low v v') (sm : Sm v') (hoth : ∀ i f, 0 ≤ i → i < 32 → 0 ≤ f → f < 8 → i ≠ a → fld v' i f = fld v i f) (hme : ∀ f, 0 ≤ f → f < 8 → fld v' a f = own x f) : IsW (upd st a x) v' ∧ WF (upd st a x) := by
  refine ⟨hv.of_fld low sm (fun _ _ => rfl) rfl rfl fun i f i0 i1 f0 f1 => ?_, h.fresh ha hk hx hq ho⟩
  rw [ob_fresh h ha hk hq ho ⟨i0, i1⟩]
  split
  · rename_i e; rw [e]; exact hme f f0 f1
  · rename_i e; rw [hoth i f i0 i1 f0 f1 e, hv.fv h ⟨i0, i1⟩ ⟨f0, f1⟩]
/-- An object that has no queue, and isn't a thread, changes. -/
theorem own_isw {v v' : List Int} (hv : IsW st v) {a : Int} (ha : 0 ≤ a ∧ a < 32) (hk : (obt st a).Kind ≠ 3 ∧ (obt st a).Kind ≠ 4 ∧ (obt st a).Kind ≠ 5) {x : ref10_Obj} (hx : OW x) (kx : x.Kind = (obt st a).Kind) (hq : x.Queue = (obt st a).Queue) (ho : x.On = (obt st a).On) (low : Low v v') (sm : Sm v') (hoth : ∀ i f, 0 ≤ i → i < 32 → 0 ≤ f → f < 8 → i ≠ a → fld v' i f = fld v i f) (hme : ∀ f, 0 ≤ f → f < 8 → fld v' a f = own x f) : IsW (upd st a x) v' ∧ WF (upd st a x) := by
  have qa := noQ h ha (by omega)
  refine ⟨hv.of_fld low sm (fun _ _ => rfl) rfl rfl fun i f i0 i1 f0 f1 => ?_, h.upd ha hx kx hq ho (.inr (.inr (by rw [kx]; exact hk.2.2)))⟩
  rw [ob_upd h ha hq ⟨i0, i1⟩]
  split
  · rename_i e
    rw [if_neg (by rw [kx]; omega), if_neg (fun z => z.2 qa), if_neg (fun z => z.2 qa), e]; exact hme f f0 f1
  · rename_i e; rw [hoth i f i0 i1 f0 f1 e, hv.fv h ⟨i0, i1⟩ ⟨f0, f1⟩]
end
/-- How much is used. -/
def nst (st : ref10_State) (a b : Int) : ref10_State := { st with NS := a, NO := b }
theorem WF.nst {st : ref10_State} (h : WF st) {a b : Int} (ha : 0 ≤ a ∧ a ≤ 1000) (hb : 0 ≤ b ∧ b ≤ 1000) : WF (Go.Proofs.nst st a b) := ⟨h.ls, h.lo, h.cap, h.par, h.kid, h.all, h.nodk, h.irr, h.obj, h.que, h.qk, h.onq, h.nodq, ha, hb⟩
theorem IsW.nst {st : ref10_State} {v : List Int} (hv : IsW st v) (a b : Int) : IsW (Go.Proofs.nst st a b) ((v.set 736 a).set 737 b) := by
  have hl := hv.len
  have G : ∀ j : Nat, ((v.set 736 a).set 737 b).getD j 0 = if 737 = j then b else if 736 = j then a else v.getD j 0 := fun j => by
    rw [getD_set, getD_set]
    by_cases e : 737 = j
    · rw [if_pos ⟨e, by simp; omega⟩, if_pos e]
    · rw [if_neg (fun z => e z.1), if_neg e]
      by_cases e2 : 736 = j
      · rw [if_pos ⟨e2, by omega⟩, if_pos e2]
      · rw [if_neg (fun z => e2 z.1), if_neg e2]
  refine ⟨by simp [hl], fun i f i0 i1 f0 f1 => ?_, fun i f i0 i1 f0 f1 => ?_, ?_, ?_⟩
  · rw [G, if_neg (by omega), if_neg (by omega)]; exact hv.slot i f i0 i1 f0 f1
  · rw [G, if_neg (by omega), if_neg (by omega)]; exact hv.obj i f i0 i1 f0 f1
  · rw [G]; rfl
  · rw [G]; rfl
end Go.Proofs
/-! What objects cost. -/
set_option linter.unusedVariables false
namespace Go.Proofs
open Go.Sl
def costOf (kind bits : Int) : Int := if 0 ≤ bits ∧ bits ≤ 8 then (if kind = 1 then 2 ^ bits.toNat + 1 else if kind = 2 ∧ bits ≤ 5 then 2 ^ bits.toNat else if 3 ≤ kind ∧ kind ≤ 7 ∧ bits = 0 then 4 else -1) else -1
theorem cost_l (k : Nat) (hk : 20 ≤ k) (b : Int) (h : 0 ≤ b ∧ b ≤ 8) : ref10_Cost.l1 b k (0, 1) = some (2 ^ b.toNat) := by
  obtain ⟨k, rfl⟩ : ∃ q, k = q + 20 := ⟨k - 20, by omega⟩
  rcases (by omega : b = 0 ∨ b = 1 ∨ b = 2 ∨ b = 3 ∨ b = 4 ∨ b = 5 ∨ b = 6 ∨ b = 7 ∨ b = 8) with rfl | rfl | rfl | rfl | rfl | rfl | rfl | rfl | rfl <;> rfl
theorem pow8 {b : Int} (h : 0 ≤ b ∧ b ≤ 8) : 1 ≤ (2 : Int) ^ b.toNat ∧ (2 : Int) ^ b.toNat ≤ 256 ∧ bshl .i64 1 b = 2 ^ b.toNat := by
  rcases (by omega : b = 0 ∨ b = 1 ∨ b = 2 ∨ b = 3 ∨ b = 4 ∨ b = 5 ∨ b = 6 ∨ b = 7 ∨ b = 8) with rfl | rfl | rfl | rfl | rfl | rfl | rfl | rfl | rfl <;> decide
theorem cost_rg (kind bits : Int) : -1 ≤ costOf kind bits ∧ costOf kind bits ≤ 257 := by
  unfold costOf
  split
  · rename_i h
    have := pow8 h
    repeat' split
    all_goals omega
  · omega
theorem rcost_ok (kind bits : Int) {k : Nat} (hk : 20 ≤ k) : ref10_Cost.f k kind bits = some (costOf kind bits) := by
  unfold ref10_Cost.f costOf
  by_cases h : 0 ≤ bits ∧ bits ≤ 8
  · have e1 : decide (bits < 0) = false := decide_eq_false (by omega)
    have e2 : decide (8 < bits) = false := decide_eq_false (by omega)
    have p := pow8 h
    rw [e1, e2, Bool.or_false, cond_false, cost_l k hk bits h, Option.bind_some, if_pos h]
    generalize (2 : Int) ^ bits.toNat = q at p
    by_cases c1 : kind = 1
    · have : (kind == 1) = true := by simpa using c1
      rw [this, cond_true, if_pos c1, w64_id (by omega) (by omega)]
    · have : (kind == 1) = false := by simpa using c1
      rw [this, cond_false, if_neg c1]
      by_cases c2 : kind = 2 ∧ bits ≤ 5
      · have : ((kind == 2) && decide (bits ≤ 5)) = true := by simp [c2]
        rw [this, cond_true, if_pos c2]
      · have : ((kind == 2) && decide (bits ≤ 5)) = false := by rw [← Bool.not_eq_true]; simpa using c2
        rw [this, cond_false, if_neg c2]
        by_cases c3 : 3 ≤ kind ∧ kind ≤ 7 ∧ bits = 0
        · have : (((decide (3 ≤ kind)) && (decide (kind ≤ 7))) && (bits == 0)) = true := by simp [c3]
          rw [this, if_pos c3]; rfl
        · have : (((decide (3 ≤ kind)) && (decide (kind ≤ 7))) && (bits == 0)) = false := by
            rw [← Bool.not_eq_true]; simp; omega
          rw [this, if_neg c3]; rfl
  · have e : (decide (bits < 0) || decide (8 < bits)) = true := by simp; omega
    rw [e, if_neg h]; rfl
theorem ucost_k (kind bits : Int) : untyped_Cost.f kind bits = some (if costOf kind bits < 0 then (0, false) else (costOf kind bits, true)) := by
  unfold untyped_Cost.f costOf
  by_cases h : 0 ≤ bits ∧ bits ≤ 8
  · have e1 : decide (bits < 0) = false := decide_eq_false (by omega)
    have e2 : decide (bits ≤ 8) = true := decide_eq_true (by omega)
    have hc : chk (decide (0 ≤ bits)) = some () := by rw [decide_eq_true h.1]; rfl
    have p := pow8 h
    rw [e1, e2, cond_false, Bool.and_true, hc, Option.bind_some, Option.bind_some, if_pos h, p.2.2]
    generalize (2 : Int) ^ bits.toNat = q at p
    by_cases c1 : kind = 1
    · have : (kind == 1) = true := by simpa using c1
      rw [this, cond_true, if_pos c1, w64_id (by omega) (by omega), if_neg (by omega)]
    · have : (kind == 1) = false := by simpa using c1
      rw [this, cond_false, if_neg c1]
      by_cases c2 : kind = 2 ∧ bits ≤ 5
      · have : ((kind == 2) && decide (bits ≤ 5)) = true := by simp [c2]
        rw [this, cond_true, if_pos c2, if_neg (by omega)]
      · have : ((kind == 2) && decide (bits ≤ 5)) = false := by rw [← Bool.not_eq_true]; simpa using c2
        rw [this, cond_false, if_neg c2]
        by_cases c3 : 3 ≤ kind ∧ kind ≤ 7 ∧ bits = 0
        · have : (((decide (3 ≤ kind)) && (decide (kind ≤ 7))) && (bits == 0)) = true := by simp [c3]
          rw [this, if_pos c3]; rfl
        · have : (((decide (3 ≤ kind)) && (decide (kind ≤ 7))) && (bits == 0)) = false := by
            rw [← Bool.not_eq_true]; simp; omega
          rw [this, if_neg c3]; rfl
  · rw [if_neg h, if_pos (by decide)]
    by_cases c : bits < 0
    · rw [decide_eq_true c]; rfl
    · have e2 : decide (bits ≤ 8) = false := decide_eq_false (by omega)
      have e3 : decide (bits ≤ 5) = false := decide_eq_false (by omega)
      have e4 : (bits == 0) = false := by simp; omega
      rw [decide_eq_false c, e2, e3, e4]
      simp only [Bool.and_false, cond_false]
theorem ucost_ok (kind bits : Int) : untyped_Cost.f kind bits = some (if costOf kind bits < 0 then 0 else costOf kind bits, decide (0 ≤ costOf kind bits)) := by
  have key : untyped_Cost.f kind bits = some (if costOf kind bits < 0 then (0, false) else (costOf kind bits, true)) := ucost_k kind bits
  rw [key]
  by_cases c : costOf kind bits < 0
  · rw [if_pos c, if_pos c, decide_eq_false (by omega)]
  · rw [if_neg c, if_neg c, decide_eq_true (by omega)]
end Go.Proofs
/-! Which rights a capability has. -/
set_option linter.unusedVariables false
namespace Go.Proofs
open Go.Sl
def hasB (r n : Int) : Bool := band .i64 r n == n
theorem has_ok {c : api_Cap} (h : CapMay c) {n : Int} (hn : 0 ≤ n ∧ n ≤ 7) {k : Nat} (hk : 10 ≤ k) : rights_Has.f c n = some (hasB c.Rights n) ∧ ref01_Has.f k c n = some (hasB c.Rights n) := by
  refine ⟨rfl, ?_⟩
  unfold ref01_Has.f
  obtain ⟨k, rfl⟩ : ∃ q, k = q + 10 := ⟨k - 10, by omega⟩
  have hr : 0 ≤ c.Rights ∧ c.Rights ≤ 7 := ⟨h.2.2.1, h.2.2.2.1⟩
  generalize c.Rights = r at hr
  rcases (by omega : n = 0 ∨ n = 1 ∨ n = 2 ∨ n = 3 ∨ n = 4 ∨ n = 5 ∨ n = 6 ∨ n = 7) with rfl | rfl | rfl | rfl | rfl | rfl | rfl | rfl <;>
    rcases (by omega : r = 0 ∨ r = 1 ∨ r = 2 ∨ r = 3 ∨ r = 4 ∨ r = 5 ∨ r = 6 ∨ r = 7) with rfl | rfl | rfl | rfl | rfl | rfl | rfl | rfl <;> rfl
end Go.Proofs
/-! Kinds of objects. -/
set_option linter.unusedVariables false
namespace Go.Proofs
open Go.Sl
theorem is_ok {s : List Int} (h : Good s) (i k : Int) (hk : 1 ≤ k ∧ k ≤ 4611686018427387904) : VM.run plainI (lay_Is.f i k) s = some (decide (fld s i 0 = k), s) := by
  unfold lay_Is.f fld
  rw [runB, runO, obj_ok]
  by_cases hi : InObj i 0
  · rw [if_pos hi, if_pos hi]
    have hi' := hi
    unfold InObj at hi'
    have hg := h.2 (480 + 8 * i + 0).toNat
    have h0 : decide (0 ≤ k) = true := decide_eq_true (by omega)
    simp only [Option.map_some, Option.bind_some, runB, h0, Bool.and_true, cond_true]
    rw [runRd _ (by rw [h.1]; omega), wu64_id (by omega) (by omega)]
    simp only [runR, Option.bind_some]
    generalize s.getD (480 + 8 * i + 0).toNat 0 = x at hg
    congr 2
    unfold numb
    rw [Bool.eq_iff_iff]
    simp only [beq_iff_eq, decide_eq_true_eq]
    split <;> omega
  · rw [if_neg hi, if_neg hi]
    have : decide ((0 : Int) = k) = false := decide_eq_false (by omega)
    simp only [Option.map_some, Option.bind_some, runB, Bool.false_and, cond_false, runR, this]
end Go.Proofs
/-! Memory made into objects: the program's words are the state's. -/
set_option linter.unusedVariables false
namespace Go.Proofs
open Go.Sl
structure FI (st : ref10_State) : Prop where
  ns : 0 ≤ st.NS ∧ st.NS ≤ 96
  no : 0 ≤ st.NO ∧ st.NO ≤ 32
  kind : ∀ i, st.NO ≤ i → i < 32 → (obt st i).Kind = 0
theorem left_ok {s : List Int} (g : Good s) (o : Int) : VM.run plainI (untyped_Left.f o) s = some (if fld s o 0 = 1 then (if fld s o 1 - fld s o 2 < 0 then 0 else fld s o 1 - fld s o 2) else 0, s) := by
  unfold untyped_Left.f
  rw [runB, is_ok g o 1 (by decide), Option.bind_some, runC]
  simp only []
  by_cases c : fld s o 0 = 1
  · have h1 := fld_nn g o 1
    have h2 := fld_nn g o 2
    have h3 := fld_le s o 1
    have h4 := fld_le s o 2
    rw [decide_eq_true c, if_pos c, Bool.not_true, cond_false, runB, field_ok g, Option.bind_some, runB]
    simp only []
    rw [field_ok g, Option.bind_some, runR, w64_id (by omega) (by omega)]
  · rw [decide_eq_false c, if_neg c]; rfl
/-- An object's fields are cleared. -/
theorem clear_l {a : Int} (ha : 0 ≤ a ∧ a < 32) : ∀ (m k : Nat) (f : Int) (s : List Int), 0 ≤ f → f + m = 8 → m < k → Good s → Sm s → ∃ s', VM.run plainI (untyped_Retype.l2 a k f) s = some ((), s') ∧ Good s' ∧ Sm s' ∧ (∀ v, Low v s → Low v s') ∧ (GoodU s → GoodU s') ∧ ∀ i g, fld s' i g = if i = a ∧ f ≤ g ∧ g < 8 then 0 else fld s i g := by
  intro m
  induction m with
  | zero =>
    intro k f s f0 f1 hk g sm
    obtain ⟨k, rfl⟩ : ∃ q, k = q + 1 := ⟨k - 1, by omega⟩
    unfold untyped_Retype.l2
    rw [decide_eq_false (by omega)]
    exact ⟨s, rfl, g, sm, fun _ q => q, id, fun i g => by rw [if_neg (by omega)]⟩
  | succ m ih =>
    intro k f s f0 f1 hk g sm
    obtain ⟨k, rfl⟩ : ∃ q, k = q + 1 := ⟨k - 1, by omega⟩
    unfold untyped_Retype.l2
    rw [decide_eq_true (by omega), cond_true, runB, put_ok g a f 0 (by decide), Option.bind_some, w64_id (by omega) (by omega)]
    obtain ⟨s', e, g', sm', low, gu, F⟩ := ih k (f + 1) (put s a f 0) (by omega) (by omega) (by omega) (good_put g a f 0) (sm_put sm (by decide))
    refine ⟨s', e, g', sm', fun v q => low v (q.put a f 0), fun q => gu (goodU_put q a f 0 (by decide)), fun i j => ?_⟩
    rw [F, fld_put g a f 0 i j (by decide)]
    have io : InObj a f := ⟨ha.1, ha.2, f0, by omega⟩
    by_cases e1 : i = a ∧ f + 1 ≤ j ∧ j < 8
    · rw [if_pos e1, if_pos (by omega)]
    · rw [if_neg e1]
      by_cases e2 : a = i ∧ f = j ∧ InObj a f ∧ (0 : Int) ≤ 0
      · rw [if_pos e2, if_pos (by omega)]
      · rw [if_neg e2, if_neg]
        intro z
        exact e2 ⟨by omega, by omega, io, by decide⟩
theorem min_96 {n : Int} (h : n ≤ 96) : (if 96 < n then (96 : Int) else n) = n := if_neg (by omega)
theorem min_32 {n : Int} (h : n ≤ 32) : (if 32 < n then (32 : Int) else n) = n := if_neg (by omega)
theorem take_ok {st : ref10_State} (h : WF st) {v : List Int} (hv : IsW st v) (fi : FI st) {n : Int} (hn : 0 ≤ n ∧ n ≤ 100) : VM.run plainI (lay_Take.f n 1) v = some (if 96 < st.NS + n ∨ 32 < st.NO + 1 then (0, 0, some 7) else (st.NS, st.NO, none), if 96 < st.NS + n ∨ 32 < st.NO + 1 then v else (v.set 736 (st.NS + n)).set 737 (st.NO + 1)) := by
  have l := hv.len
  have f1 := fi.ns
  have f2 := fi.no
  unfold lay_Take.f
  have e0 : (decide (n < 0) || decide ((1 : Int) < 0)) = false := by simp; omega
  rw [e0, cond_false, runB]
  have hu : VM.run plainI lay_Used.f v = some ((st.NS, st.NO), v) := by
    unfold lay_Used.f
    rw [runRd _ (by rw [l]; decide), runRd _ (by rw [l]; decide), show (736 : Int).toNat = 736 from rfl, show (737 : Int).toNat = 737 from rfl, hv.ns, hv.no, min_96 f1.2, min_32 f2.2, w64_id (by omega) (by omega), w64_id (by omega) (by omega)]; rfl
  rw [hu, Option.bind_some, runC]
  simp only []
  rw [w64_id (x := 96 - st.NS) (by omega) (by omega), w64_id (x := 32 - st.NO) (by omega) (by omega)]
  by_cases c : 96 < st.NS + n ∨ 32 < st.NO + 1
  · have e : (decide (96 - st.NS < n) || decide (32 - st.NO < 1)) = true := by simp; omega
    rw [e, if_pos c, if_pos c]; rfl
  · have e : (decide (96 - st.NS < n) || decide (32 - st.NO < 1)) = false := by simp; omega
    rw [e, if_neg c, if_neg c, cond_false, runWr _ (by rw [l]; decide), runWr _ (by simp [l]), w64_id (by omega) (by omega), wu64_id (by omega) (by omega), w64_id (by omega) (by omega), wu64_id (by omega) (by omega)]; rfl
/-- The object that is made. -/
def newObj (st : ref10_State) (kind bits : Int) : ref10_Obj := ⟨kind, if kind = 1 then 2 ^ bits.toNat else 0, 0, if kind = 2 then st.NS else 0, if kind = 2 then bits else 0, 0, [], 0, 0, -1, 0, 0, -1, -1, ⟨0, 0, 0, 0, 0, 0⟩, ⟨-1, -1, -1, -1⟩, ⟨0, 0, 0, 0⟩, -1, 0, -1, 0⟩
theorem nth_c (x p : Int) : (⟨x, x, x, x⟩ : A4).nth p = x := by unfold A4.nth; split; rfl; split; rfl; split <;> rfl
theorem newObj_ow {st : ref10_State} (fi : FI st) {kind bits : Int} (h : 0 ≤ costOf kind bits) : OW (newObj st kind bits) := by
  have fn := fi.ns
  unfold costOf at h
  split at h
  · rename_i hb
    have p := pow8 hb
    have kr : 1 ≤ kind ∧ kind ≤ 7 ∧ (kind = 2 → bits ≤ 5) := by
      split at h
      · omega
      · split at h
        · omega
        · split at h
          · omega
          · omega
    refine ⟨?_, ?_, ?_, ?_, ?_, ?_, ?_, ?_, ?_, ?_, ?_, ?_, ?_, ?_, ?_, ?_, ?_, ?_, ?_, ?_⟩ <;> unfold newObj <;> simp only []
    · omega
    · split <;> omega
    · split <;> omega
    · split <;> omega
    · split <;> omega
    · decide
    · decide
    · decide
    · decide
    · decide
    · decide
    · decide
    · decide
    · decide
    · intro p _ _; rw [nth_c]; decide
    · intro p _ _; rw [nth_c]; decide
    · decide
    · decide
    · decide
    · decide
  · omega
theorem kind_rg {kind bits : Int} (h : 0 ≤ costOf kind bits) : 1 ≤ kind ∧ kind ≤ 7 ∧ 0 ≤ bits ∧ bits ≤ 8 ∧ (kind = 1 → costOf kind bits = 2 ^ bits.toNat + 1) ∧ (kind = 2 → bits ≤ 5 ∧ costOf kind bits = 2 ^ bits.toNat) := by
  unfold costOf at h ⊢
  split at h
  · rename_i hb
    rw [if_pos hb]
    have p := pow8 hb
    by_cases c1 : kind = 1
    · rw [if_pos c1]; exact ⟨by omega, by omega, hb.1, hb.2, fun _ => rfl, fun z => by omega⟩
    · rw [if_neg c1] at h ⊢
      by_cases c2 : kind = 2 ∧ bits ≤ 5
      · rw [if_pos c2]; exact ⟨by omega, by omega, hb.1, hb.2, fun z => absurd z c1, fun _ => ⟨c2.2, rfl⟩⟩
      · rw [if_neg c2] at h ⊢
        by_cases c3 : 3 ≤ kind ∧ kind ≤ 7 ∧ bits = 0
        · exact ⟨by omega, by omega, hb.1, hb.2, fun z => absurd z c1, fun z => by omega⟩
        · rw [if_neg c3] at h; omega
  · omega
theorem newObj_own (st : ref10_State) (kind bits : Int) (f : Int) (hk : 1 ≤ kind ∧ kind ≤ 7) (hf : 0 ≤ f ∧ f < 8) : own (newObj st kind bits) f = if f = 0 then kind else if kind = 1 ∧ f = 1 then 2 ^ bits.toNat else if kind = 2 ∧ f = 1 then st.NS else if kind = 2 ∧ f = 2 then bits else 0 := by
  rcases (by omega : kind = 1 ∨ kind = 2 ∨ kind = 3 ∨ kind = 4 ∨ kind = 5 ∨ kind = 6 ∨ kind = 7) with rfl | rfl | rfl | rfl | rfl | rfl | rfl <;>
    rcases (by omega : f = 0 ∨ f = 1 ∨ f = 2 ∨ f = 3 ∨ f = 4 ∨ f = 5 ∨ f = 6 ∨ f = 7) with rfl | rfl | rfl | rfl | rfl | rfl | rfl | rfl <;> rfl
/-- Memory is made into an object. -/
structure Rt (st st' : ref10_State) (a b kind bits : Int) : Prop where
  cost : 0 ≤ costOf kind bits
  mem : 0 ≤ (slt st a).Cap.Obj ∧ (slt st a).Cap.Obj < 32 ∧ (obt st (slt st a).Cap.Obj).Kind = 1
  room : costOf kind bits ≤ (obt st (slt st a).Cap.Obj).Size - (obt st (slt st a).Cap.Obj).Used
  nol : st.NO < 32
  obj : ∀ i, 0 ≤ i → i < 32 → obt st' i = if i = st.NO then newObj st kind bits else if i = (slt st a).Cap.Obj then ({ obt st i with Used := (obt st i).Used + costOf kind bits } : ref10_Obj) else obt st i
  ns : st'.NS = st.NS + (if kind = 2 then costOf kind bits else 0)
  no : st'.NO = st.NO + 1
  ina : InSlot a 0
  inb : InSlot b 0
  ne : b ≠ a
  par : Pst st b = -1
  slots : SlIs st' (lP (Pst st) b a) (lK (Kst st) b a) (cC (Cst st) b ⟨kind, 7, st.NO, 0, 0, 0⟩)
theorem isSome_n {m : Int} (h : m ≠ 0) : (if m = 0 then (none : Option Int) else some m) = some m := if_neg h
theorem retype_pl {st : ref10_State} (h : WF st) {v : List Int} (hv : IsW st v) (fi : FI st) (a b kind bits : Int) {k : Nat} (hk : 200 ≤ k) : ∃ n m st' v', ref10_State_Retype.f k st a b kind bits = some (n, m, st') ∧ VM.run plainI (untyped_Retype.f k a b kind bits) v = some ((n, if m = 0 then none else some m), v') ∧ 0 ≤ m ∧ m ≤ 14 ∧ WF st' ∧ IsW st' v' ∧ FI st' ∧ (m ≠ 0 → st' = st ∧ n = 0) ∧ (m = 0 → n = st.NO ∧ Rt st st' a b kind bits) := by
  have g := hv.good h
  -- what the program's look comes to
  have may : ∀ r : Int × Option Int, VM.run plainI (untyped_may.f k a b kind bits) v = some (r, v) → ∀ m : Int, m ≠ 0 → r = (0, some m) → VM.run plainI (untyped_Retype.f k a b kind bits) v = some ((0, if m = 0 then none else some m), v) := by
    intro r hr m hm e
    unfold untyped_Retype.f
    rw [runB, hr, Option.bind_some, e, isSome_n hm]; rfl
  have fin : ∀ m : Int, m ≠ 0 → 0 ≤ m → m ≤ 14 → VM.run plainI (untyped_may.f k a b kind bits) v = some ((0, some m), v) → ref10_State_Retype.f k st a b kind bits = some (0, m, st) → ∃ n m st' v', ref10_State_Retype.f k st a b kind bits = some (n, m, st') ∧ VM.run plainI (untyped_Retype.f k a b kind bits) v = some ((n, if m = 0 then none else some m), v') ∧ 0 ≤ m ∧ m ≤ 14 ∧ WF st' ∧ IsW st' v' ∧ FI st' ∧ (m ≠ 0 → st' = st ∧ n = 0) ∧ (m = 0 → n = st.NO ∧ Rt st st' a b kind bits) := fun m m0 m1 m2 e1 e2 => ⟨0, m, st, v, e2, may _ e1 m m0 rfl, m1, m2, h, hv, fi, fun _ => ⟨rfl, rfl⟩, fun z => absurd z m0⟩
  have ma : VM.run plainI (untyped_may.f k a b kind bits) v = VM.run plainI (untyped_may.f k a b kind bits) v := rfl
  conv at ma => rhs; unfold untyped_may.f
  rw [runB, runO, slot_ok, Option.map_some, Option.bind_some, runB, runO, slot_ok, Option.map_some, Option.bind_some, runB, cap_pl h hv a (by omega), Option.bind_some, runB, runO, ucost_ok, Option.map_some, Option.bind_some] at ma
  have rf : ref10_State_Retype.f k st a b kind bits = ref10_State_Retype.f k st a b kind bits := rfl
  conv at rf => rhs; unfold ref10_State_Retype.f
  rw [rslot_ok, rslot_ok, Option.bind_some, Option.bind_some] at rf
  by_cases ia : InSlot a 0
  · by_cases ib : InSlot b 0
    · have ra := ia.rg
      have rb := ib.rg
      have cm := h.cap a ra.1 ra.2
      have cmb := h.cap b rb.1 rb.2
      rw [decide_eq_true ia, decide_eq_true ib, at_slot h.ls ra, at_slot h.ls rb] at rf
      simp only [if_pos ia, if_pos ib, Bool.not_true, Bool.or_false, cond_false, runC, Option.bind_some] at ma rf
      by_cases c1 : (slt st a).Cap.Kind = 1 ∧ (obt st (slt st a).Cap.Obj).Kind = 1
      · have or : 0 ≤ (slt st a).Cap.Obj ∧ (slt st a).Cap.Obj < 32 := by have := cm.2.2.2.2; omega
        have ek : ((slt st a).Cap.Kind != 1) = false := by simpa using c1.1
        have hk1 := (hv.kind h (i := (slt st a).Cap.Obj) (k := 1) (by decide)).2 ⟨or.1, or.2, c1.2⟩
        rw [ek, ris_ok h, decide_eq_true (show 0 ≤ (slt st a).Cap.Obj ∧ (slt st a).Cap.Obj < 32 ∧ (obt st (slt st a).Cap.Obj).Kind = 1 from ⟨or.1, or.2, c1.2⟩)] at rf
        rw [ek, runB, cond_false, runB, is_ok g.1 _ 1 (by decide), decide_eq_true hk1] at ma
        simp only [Bool.not_true, cond_false, Option.bind_some, runR, runB, runO, (has_ok cm (n := 2) (by decide) (k := k) (by omega)).1, Option.map_some, runC] at ma
        simp only [Bool.not_true, cond_false, Option.bind_some, (has_ok cm (n := 2) (by decide) (k := k) (by omega)).2] at rf
        cases c2 : hasB (slt st a).Cap.Rights 2 with
        | false =>
          rw [c2] at ma rf
          exact fin 6 (by decide) (by decide) (by decide) ma rf
        | true =>
          rw [c2] at ma rf
          simp only [Bool.not_true, cond_false, cap_pl h hv b (show 40 ≤ k by omega), if_pos ib, Option.bind_some] at ma rf
          have pb := Pst_sget h hv rb
          have pr := h.par b rb.1 rb.2
          by_cases c3 : (slt st b).Cap.Kind = 0 ∧ (slt st b).Parent = -1
          · have e3 : ((slt st b).Cap.Kind != 0) = false := by simpa using c3.1
            rw [e3, parent_ok g.1, pb, c3.2] at ma
            rw [e3, c3.2] at rf
            simp only [Bool.not_true, cond_false, Option.bind_some, decide_eq_false (show ¬ (0 : Int) ≤ -1 by decide)] at ma rf
            rw [rcost_ok kind bits (by omega), Option.bind_some] at rf
            by_cases c4 : costOf kind bits < 0
            · rw [decide_eq_false (show ¬ 0 ≤ costOf kind bits by omega)] at ma
              rw [decide_eq_true c4] at rf
              exact fin 1 (by decide) (by decide) (by decide) ma rf
            · have wo := h.obj (slt st a).Cap.Obj or.1 or.2
              have cr := cost_rg kind bits
              have kr := kind_rg (kind := kind) (bits := bits) (by omega)
              have pw := pow8 (b := bits) ⟨kr.2.2.1, kr.2.2.2.1⟩
              rw [if_neg c4, decide_eq_true (show 0 ≤ costOf kind bits by omega)] at ma
              rw [decide_eq_false c4, cond_false, at_obj h or, Option.bind_some] at rf
              have f1 : fld v (slt st a).Cap.Obj 1 = (obt st (slt st a).Cap.Obj).Size := by rw [hv.fv h or (by decide), ob_own h _ or (by omega), own1 c1.2]; rfl
              have f2 : fld v (slt st a).Cap.Obj 2 = (obt st (slt st a).Cap.Obj).Used := by rw [hv.fv h or (by decide), ob_own h _ or (by omega), own1 c1.2]; rfl
              simp only [Bool.not_true, cond_false, left_ok g.1, if_pos hk1, f1, f2, Option.bind_some, if_neg (show ¬ (obt st (slt st a).Cap.Obj).Size - (obt st (slt st a).Cap.Obj).Used < 0 by have := wo.used; omega)] at ma
              rw [w64_id (x := (obt st (slt st a).Cap.Obj).Size - (obt st (slt st a).Cap.Obj).Used) (by have := wo.used; have := wo.size; omega) (by have := wo.used; have := wo.size; omega)] at rf
              by_cases c5 : (obt st (slt st a).Cap.Obj).Size - (obt st (slt st a).Cap.Obj).Used < costOf kind bits
              · rw [decide_eq_true c5] at ma rf
                exact fin 14 (by decide) (by decide) (by decide) ma rf
              · rw [decide_eq_false c5] at ma rf
                have ma : VM.run plainI (untyped_may.f k a b kind bits) v = some ((costOf kind bits, none), v) := ma
                simp only [cond_false] at rf
                have fn := fi.ns
                have fo := fi.no
                have es : ∃ sl : Int, sl = (if kind = 2 then costOf kind bits else 0) ∧ (bif kind == 2 then some (costOf kind bits) else some 0) = some sl ∧ VM.run plainI (bif kind == 2 then ((VM.opt (chk (decide (0 ≤ bits)))).bind fun _ => VM.ret (bshl .i64 1 bits)) else (VM.ret 0)) v = some (sl, v) := by
                  by_cases q : kind = 2
                  · have e : (kind == 2) = true := by simpa using q
                    have hc : chk (decide (0 ≤ bits)) = some () := by rw [decide_eq_true kr.2.2.1]; rfl
                    refine ⟨_, rfl, ?_, ?_⟩
                    · rw [e, if_pos q]; rfl
                    · rw [e, cond_true, runB, runO, hc, Option.map_some, Option.bind_some, runR, if_pos q, (kr.2.2.2.2.2 q).2, pw.2.2]
                  · have e : (kind == 2) = false := by simpa using q
                    refine ⟨_, rfl, ?_, ?_⟩
                    · rw [e, if_neg q]; rfl
                    · rw [e, if_neg q]; rfl
                obtain ⟨sl, esl, e1, e2⟩ := es
                have slr : 0 ≤ sl ∧ sl ≤ 100 := by
                  rw [esl]; split
                  · rename_i q
                    have := kr.2.2.2.2.2 q
                    have p5 : (2 : Int) ^ bits.toNat ≤ 2 ^ 5 := pow_le (by omega)
                    omega
                  · omega
                have tk := take_ok h hv fi (n := sl) slr
                rw [e1, Option.bind_some, w64_id (x := st.NS + sl) (by omega) (by omega), w64_id (x := st.NO + 1) (by omega) (by omega)] at rf
                have pg : VM.run plainI (untyped_Retype.f k a b kind bits) v = VM.run plainI (untyped_Retype.f k a b kind bits) v := rfl
                conv at pg => rhs; unfold untyped_Retype.f
                rw [runB, ma, Option.bind_some] at pg
                simp only [Option.isSome_none, cond_false] at pg
                rw [runB, e2, Option.bind_some, runB] at pg
                simp only [] at pg
                rw [tk, Option.bind_some] at pg
                by_cases c6 : 96 < st.NS + sl ∨ 32 < st.NO + 1
                · have e6 : (decide (96 < st.NS + sl) || decide (32 < st.NO + 1)) = true := by simpa using c6
                  rw [e6] at rf
                  simp only [if_pos c6, Option.isSome_some, cond_true] at pg
                  exact ⟨0, 7, st, v, rf, pg, by decide, by decide, h, hv, fi, fun _ => ⟨rfl, rfl⟩, fun z => absurd z (by decide)⟩
                · have e6 : (decide (96 < st.NS + sl) || decide (32 < st.NO + 1)) = false := by simp; omega
                  rw [e6, cond_false, Option.bind_some] at rf
                  simp only [if_neg c6, Option.isSome_none, cond_false] at pg
                  -- how much is used
                  have h1 : WF (nst st (st.NS + sl) (st.NO + 1)) := h.nst (by omega) (by omega)
                  have hv1 := hv.nst (st.NS + sl) (st.NO + 1)
                  generalize (v.set 736 (st.NS + sl)).set 737 (st.NO + 1) = v1 at pg hv1
                  have g1 := hv1.good h1
                  rw [runB, cap_pl h1 hv1 a (by omega), Option.bind_some, if_pos ia] at pg
                  have es1 : ∀ i, slt (nst st (st.NS + sl) (st.NO + 1)) i = slt st i := fun _ => rfl
                  have eo1 : ∀ i, obt (nst st (st.NS + sl) (st.NO + 1)) i = obt st i := fun _ => rfl
                  simp only [es1] at pg
                  generalize ho : (slt st a).Cap.Obj = o at *
                  have f2' : fld v1 o 2 = (obt st o).Used := by rw [hv1.fv h1 or (by decide), ob_own h1 _ or (by rw [eo1]; omega), eo1, own1 c1.2]; rfl
                  rw [runB, field_ok g1.1, f2', Option.bind_some, runB] at pg
                  simp only [] at pg
                  have us := wo.used
                  have sz := wo.size
                  rw [w64_id (x := (obt st o).Used + costOf kind bits) (by omega) (by omega)] at pg rf
                  rw [put_ok g1.1 o 2 _ (by omega), Option.bind_some, runB] at pg
                  -- the memory
                  have io : InObj o 2 := ⟨or.1, or.2, by decide, by decide⟩
                  have sm1 := sm_put (hv1.sm h1) (i := o) (f := 2) (n := (obt st o).Used + costOf kind bits) (by omega)
                  obtain ⟨hv2, h2⟩ := own_isw h1 hv1 or (by rw [eo1]; omega) (x := ({ obt st o with Used := (obt st o).Used + costOf kind bits } : ref10_Obj)) { wo with used := by show 0 ≤ (obt st o).Used + _ ∧ (obt st o).Used + _ ≤ (obt st o).Size; omega } rfl rfl rfl ((Low.refl hv1.len).put o 2 ((obt st o).Used + costOf kind bits)) sm1 (fun i f i0 i1 f0 f1 ne => by rw [fld_put g1.1 _ _ _ _ _ (by omega), if_neg (fun z => ne z.1.symm)]) (fun f f0 f1 => by
                    have kx : ({ obt st o with Used := (obt st o).Used + costOf kind bits } : ref10_Obj).Kind = 1 := c1.2
                    rw [fld_put g1.1 _ _ _ _ _ (by omega), own1 kx]
                    by_cases q : f = 2
                    · rw [if_pos ⟨rfl, q.symm, io, by omega⟩, if_neg (by omega), if_neg (by omega), if_pos q]
                    · rw [if_neg (fun z => q z.2.1.symm), hv1.fv h1 or ⟨f0, f1⟩, ob_own h1 _ or (by rw [eo1]; omega), eo1, own1 c1.2, if_neg q, if_neg q])
                  simp only [] at pg
                  generalize put v1 o 2 ((obt st o).Used + costOf kind bits) = v2 at pg hv2
                  have g2 := hv2.good h2
                  have eo2 : ∀ i, 0 ≤ i → obt (upd (nst st (st.NS + sl) (st.NO + 1)) o ({ obt st o with Used := (obt st o).Used + costOf kind bits } : ref10_Obj)) i = if i = o then ({ obt st o with Used := (obt st o).Used + costOf kind bits } : ref10_Obj) else obt st i := fun i i0 => by rw [obt_upd h1.lo or i0]; rfl
                  -- the object that is made
                  have nr : 0 ≤ st.NO ∧ st.NO < 32 := by omega
                  have nk := fi.kind st.NO (Int.le_refl _) nr.2
                  have no : st.NO ≠ o := fun z => by rw [z] at nk; omega
                  obtain ⟨v3, e3', g3, sm3, lw3, gu3, F3⟩ := clear_l nr 8 k 0 v2 (by decide) (by decide) (by omega) g2.1 (hv2.sm h2)
                  rw [e3', Option.bind_some, runB] at pg
                  simp only [] at pg
                  rw [put_ok g3 _ 0 kind (by omega), Option.bind_some, runB] at pg
                  simp only [] at pg
                  obtain ⟨v5, e5, g5, sm5, lw5, F5⟩ : ∃ v5, VM.run plainI (bif kind == 1 then ((VM.opt (chk (decide (0 ≤ bits)))).bind fun _ => (lay_Put.f st.NO 1 (bshl .i64 1 bits)).bind fun _ => VM.ret ()) else (bif kind == 2 then ((lay_Put.f st.NO 1 st.NS).bind fun _ => (lay_Put.f st.NO 2 bits).bind fun _ => VM.ret ()) else (VM.ret ()))) (put v3 st.NO 0 kind) = some ((), v5) ∧ Good v5 ∧ Sm v5 ∧ Low v2 v5 ∧ ∀ i f, 0 ≤ i → i < 32 → 0 ≤ f → f < 8 → fld v5 i f = if i = st.NO then own (newObj st kind bits) f else fld v2 i f := by
                    have g4 := good_put g3 st.NO 0 kind
                    have sm4 := sm_put sm3 (i := st.NO) (f := 0) (n := kind) (by omega)
                    have lw4 := (lw3 v2 (Low.refl hv2.len)).put st.NO 0 kind
                    have i0' : InObj st.NO 0 := ⟨nr.1, nr.2, by decide, by decide⟩
                    have i1' : InObj st.NO 1 := ⟨nr.1, nr.2, by decide, by decide⟩
                    have i2' : InObj st.NO 2 := ⟨nr.1, nr.2, by decide, by decide⟩
                    have hc : chk (decide (0 ≤ bits)) = some () := by rw [decide_eq_true kr.2.2.1]; rfl
                    have F4 : ∀ i f, fld (put v3 st.NO 0 kind) i f = if i = st.NO ∧ f = 0 then kind else if i = st.NO ∧ 0 ≤ f ∧ f < 8 then 0 else fld v2 i f := fun i f => by
                      rw [fld_put g3 _ _ _ _ _ (by omega), F3]
                      by_cases q : i = st.NO ∧ f = 0
                      · rw [if_pos q, if_pos ⟨q.1.symm, q.2.symm, i0', by omega⟩]
                      · rw [if_neg q, if_neg (fun z => q ⟨z.1.symm, z.2.1.symm⟩)]
                    by_cases q1 : kind = 1
                    · have e : (kind == 1) = true := by simpa using q1
                      rw [e, cond_true, runB, runO, hc, Option.map_some, Option.bind_some, runB]
                      simp only []
                      rw [pw.2.2, put_ok g4 _ 1 _ (by omega), Option.bind_some]
                      refine ⟨_, rfl, good_put g4 _ _ _, sm_put sm4 (by omega), lw4.put _ _ _, fun i f a1 a2 a3 a4 => ?_⟩
                      rw [fld_put g4 _ _ _ _ _ (by omega), F4, newObj_own st kind bits f (by omega) ⟨a3, a4⟩]
                      by_cases ei : i = st.NO
                      · subst ei
                        rw [if_pos rfl]
                        rcases (by omega : f = 0 ∨ f = 1 ∨ 2 ≤ f) with ef | ef | ef
                        · rw [if_neg (by omega), if_pos ⟨rfl, ef⟩, if_pos ef]
                        · rw [if_pos ⟨rfl, ef.symm, i1', by omega⟩, if_neg (by omega), if_pos ⟨q1, ef⟩]
                        · rw [if_neg (by omega), if_neg (by omega), if_pos ⟨rfl, a3, a4⟩, if_neg (by omega), if_neg (by omega), if_neg (by omega), if_neg (by omega)]
                      · rw [if_neg (fun z => ei z.1.symm), if_neg (fun z => ei z.1), if_neg (fun z => ei z.1), if_neg ei]
                    · have e : (kind == 1) = false := by simpa using q1
                      rw [e, cond_false]
                      by_cases q2 : kind = 2
                      · have e : (kind == 2) = true := by simpa using q2
                        have b5 := (kr.2.2.2.2.2 q2).1
                        rw [e, cond_true, runB, put_ok g4 _ 1 _ (by omega), Option.bind_some, runB]
                        simp only []
                        rw [put_ok (good_put g4 _ _ _) _ 2 _ (by omega), Option.bind_some]
                        refine ⟨_, rfl, good_put (good_put g4 _ _ _) _ _ _, sm_put (sm_put sm4 (by omega)) (by omega), (lw4.put _ _ _).put _ _ _, fun i f a1 a2 a3 a4 => ?_⟩
                        rw [fld_put (good_put g4 _ _ _) _ _ _ _ _ (by omega), fld_put g4 _ _ _ _ _ (by omega), F4, newObj_own st kind bits f (by omega) ⟨a3, a4⟩]
                        by_cases ei : i = st.NO
                        · subst ei
                          rw [if_pos rfl]
                          rcases (by omega : f = 0 ∨ f = 1 ∨ f = 2 ∨ 3 ≤ f) with ef | ef | ef | ef
                          · rw [if_neg (by omega), if_neg (by omega), if_pos ⟨rfl, ef⟩, if_pos ef]
                          · rw [if_neg (by omega), if_pos ⟨rfl, ef.symm, i1', by omega⟩, if_neg (by omega), if_neg (by omega), if_pos ⟨q2, ef⟩]
                          · rw [if_pos ⟨rfl, ef.symm, i2', by omega⟩, if_neg (by omega), if_neg (by omega), if_neg (by omega), if_pos ⟨q2, ef⟩]
                          · rw [if_neg (by omega), if_neg (by omega), if_neg (by omega), if_pos ⟨rfl, a3, a4⟩, if_neg (by omega), if_neg (by omega), if_neg (by omega), if_neg (by omega)]
                        · rw [if_neg (fun z => ei z.1.symm), if_neg (fun z => ei z.1.symm), if_neg (fun z => ei z.1), if_neg (fun z => ei z.1), if_neg ei]
                      · have e : (kind == 2) = false := by simpa using q2
                        rw [e, cond_false]
                        refine ⟨_, rfl, g4, sm4, lw4, fun i f a1 a2 a3 a4 => ?_⟩
                        rw [F4, newObj_own st kind bits f (by omega) ⟨a3, a4⟩]
                        by_cases ei : i = st.NO
                        · subst ei
                          rw [if_pos rfl]
                          by_cases ef : f = 0
                          · rw [if_pos ⟨rfl, ef⟩, if_pos ef]
                          · rw [if_neg (fun z => ef z.2), if_pos ⟨rfl, a3, a4⟩, if_neg ef, if_neg (fun z => q1 z.1), if_neg (fun z => q2 z.1), if_neg (fun z => q2 z.1)]
                        · rw [if_neg (fun z => ei z.1), if_neg (fun z => ei z.1), if_neg ei]
                  rw [e5, Option.bind_some, runB] at pg
                  simp only [] at pg
                  obtain ⟨hv3, h3⟩ := fresh_isw h2 hv2 nr (by rw [eo2 _ nr.1, if_neg no]; exact nk) (newObj_ow fi (kind := kind) (bits := bits) (by omega)) rfl rfl lw5 sm5 (fun i f a1 a2 a3 a4 ne => by rw [F5 i f a1 a2 a3 a4, if_neg ne]) (fun f a3 a4 => by rw [F5 _ f nr.1 nr.2 a3 a4, if_pos rfl])
                  -- the state's
                  have ef : ref10_Fresh.f kind = some (⟨kind, 0, 0, 0, 0, 0, [], 0, 0, -1, 0, 0, -1, -1, (⟨0, 0, 0, 0, 0, 0⟩ : api_Cap), (⟨-1, -1, -1, -1⟩ : A4), (⟨0, 0, 0, 0⟩ : A4), -1, 0, -1, 0⟩ : ref10_Obj) := rfl
                  rw [ef, Option.bind_some] at rf
                  have ey : (bif kind == 1 then (some (w64 (costOf kind bits - 1))) else (some (0 : Int))) = some (if kind = 1 then 2 ^ bits.toNat else 0) := by
                    by_cases q1 : kind = 1
                    · have e : (kind == 1) = true := by simpa using q1
                      rw [e, cond_true, if_pos q1, kr.2.2.2.2.1 q1, w64_id (by omega) (by omega)]; congr 1; omega
                    · have e : (kind == 1) = false := by simpa using q1
                      rw [e, if_neg q1]; rfl
                  have ey2 : (bif kind == 2 then (some (st.NS, bits)) else (some ((0 : Int), (0 : Int)))) = some (if kind = 2 then st.NS else 0, if kind = 2 then bits else 0) := by
                    by_cases q1 : kind = 2
                    · have e : (kind == 2) = true := by simpa using q1
                      rw [e, if_pos q1, if_pos q1]; rfl
                    · have e : (kind == 2) = false := by simpa using q1
                      rw [e, if_neg q1, if_neg q1]; rfl
                  simp only [] at rf
                  rw [ey, Option.bind_some, ey2, Option.bind_some] at rf
                  simp only [] at rf
                  have lo2 : (st.Objs.set o.toNat ({ obt st o with Used := (obt st o).Used + costOf kind bits } : ref10_Obj)).length = 32 := by simp [h.lo]
                  rw [at_getD nr.1 (by rw [lo2]; omega), Option.bind_some] at rf
                  have eS : (⟨st.Slots, (st.Objs.set o.toNat ({ obt st o with Used := (obt st o).Used + costOf kind bits } : ref10_Obj)).set st.NO.toNat (newObj st kind bits), st.NS + sl, st.NO + 1⟩ : ref10_State) = upd (upd (nst st (st.NS + sl) (st.NO + 1)) o ({ obt st o with Used := (obt st o).Used + costOf kind bits } : ref10_Obj)) st.NO (newObj st kind bits) := rfl
                  have rf2 : ref10_State_Retype.f k st a b kind bits = (ref10_State_below.f (upd (upd (nst st (st.NS + sl) (st.NO + 1)) o ({ obt st o with Used := (obt st o).Used + costOf kind bits } : ref10_Obj)) st.NO (newObj st kind bits)) a b (⟨kind, 7, st.NO, 0, 0, 0⟩ : api_Cap)).bind fun (t92, p93) => some (st.NO, (0 : Int), p93) := rf
                  have eo3 : ∀ i, 0 ≤ i → obt (upd (upd (nst st (st.NS + sl) (st.NO + 1)) o ({ obt st o with Used := (obt st o).Used + costOf kind bits } : ref10_Obj)) st.NO (newObj st kind bits)) i = if i = st.NO then newObj st kind bits else if i = o then ({ obt st o with Used := (obt st o).Used + costOf kind bits } : ref10_Obj) else obt st i := fun i i0 => by rw [obt_upd h2.lo nr i0, eo2 i i0]
                  have es3 : ∀ i, slt (upd (upd (nst st (st.NS + sl) (st.NO + 1)) o ({ obt st o with Used := (obt st o).Used + costOf kind bits } : ref10_Obj)) st.NO (newObj st kind bits)) i = slt st i := fun _ => rfl
                  have en3 : (upd (upd (nst st (st.NS + sl) (st.NO + 1)) o ({ obt st o with Used := (obt st o).Used + costOf kind bits } : ref10_Obj)) st.NO (newObj st kind bits)).NS = st.NS + sl ∧ (upd (upd (nst st (st.NS + sl) (st.NO + 1)) o ({ obt st o with Used := (obt st o).Used + costOf kind bits } : ref10_Obj)) st.NO (newObj st kind bits)).NO = st.NO + 1 := ⟨rfl, rfl⟩
                  generalize upd (upd (nst st (st.NS + sl) (st.NO + 1)) o ({ obt st o with Used := (obt st o).Used + costOf kind bits } : ref10_Obj)) st.NO (newObj st kind bits) = st3 at rf2 hv3 h3 eo3 es3 en3
                  have eP : Pst st3 = Pst st := by funext i; unfold Pst; rw [es3]
                  have eK : Kst st3 = Kst st := by funext i; unfold Kst; rw [es3]
                  have eC : Cst st3 = Cst st := by funext i; unfold Cst; rw [es3]
                  have hne : b ≠ a := fun z => by rw [z] at c3; omega
                  obtain ⟨n, st4, v6, s1, s2, s3, s4, h4, hv4, rs, s8, s9, s10, _⟩ := link_pl h3 hv3 b a
                  have n0 := s10 ib ia (by rw [eP]; exact c3.2) hne
                  subst n0
                  obtain ⟨_, _, _, _, S4⟩ := s9 rfl
                  rw [eP, eK, eC] at S4
                  rw [s2, Option.bind_some] at pg
                  have z0 : eN' 0 = none := rfl
                  simp only [z0, Option.isSome_none, cond_false] at pg
                  have cmay : CapMay (⟨kind, 7, st.NO, 0, 0, 0⟩ : api_Cap) := by
                    show 0 ≤ kind ∧ kind ≤ 8 ∧ (0 : Int) ≤ 7 ∧ (7 : Int) ≤ 7 ∧ 0 ≤ st.NO ∧ st.NO ≤ 31 ∧ (0 : Int) ≤ 0 ∧ (0 : Int) ≤ 65535 ∧ (0 : Int) ≤ 0 ∧ (0 : Int) ≤ 8 ∧ (kind = 0 → (7 : Int) = 0 ∧ st.NO = 0) ∧ (kind = 3 ∨ kind = 4 ∨ (0 : Int) = 0) ∧ (kind = 2 ∨ ((0 : Int) = 0 ∧ (0 : Int) = 0)) ∧ (0 : Int) ≤ 0 ∧ (0 : Int) < 2 ^ (0 : Int).toNat
                    exact ⟨by omega, by omega, by decide, by decide, by omega, by omega, by decide, by decide, by decide, by decide, fun z => by omega, .inr (.inr rfl), .inr ⟨rfl, rfl⟩, by decide, by decide⟩
                  obtain ⟨p1, p2, p3⟩ := cset_pl h4 hv4 rb cmay (k := k) (by omega)
                  rw [runB, p1, Option.bind_some] at pg
                  simp only [runR] at pg
                  unfold ref10_State_below.f at rf2
                  rw [s1, Option.bind_some] at rf2
                  simp only [beq_self_eq_true, cond_true] at rf2
                  rw [at_slot h4.ls rb, Option.bind_some, Option.bind_some] at rf2
                  refine ⟨st.NO, 0, cupd st4 b ⟨kind, 7, st.NO, 0, 0, 0⟩, _, rf2, pg, by decide, by decide, p2, p3, ⟨?_, ?_, fun i i0 i1 => ?_⟩, fun z => absurd rfl z, fun _ => ⟨rfl, ?_⟩⟩
                  · show 0 ≤ st4.NS ∧ st4.NS ≤ 96; rw [rs.ns, en3.1]; omega
                  · show 0 ≤ st4.NO ∧ st4.NO ≤ 32; rw [rs.no, en3.2]; omega
                  · have i0 : st4.NO ≤ i := i0
                    rw [rs.no, en3.2] at i0
                    have : obt (cupd st4 b ⟨kind, 7, st.NO, 0, 0, 0⟩) i = obt st3 i := by show st4.Objs.getD _ _ = _; rw [rs.ob]; rfl
                    have ik := fi.kind i (by omega) i1
                    rw [this, eo3 i (by omega), if_neg (by omega), if_neg (fun z => by rw [z] at ik; omega)]; exact ik
                  · refine ⟨by omega, by rw [ho]; exact ⟨or.1, or.2, c1.2⟩, by rw [ho]; omega, nr.2, fun i i0 i1 => ?_, ?_, ?_, ia, ib, hne, c3.2, ?_⟩
                    · have : obt (cupd st4 b ⟨kind, 7, st.NO, 0, 0, 0⟩) i = obt st3 i := by show st4.Objs.getD _ _ = _; rw [rs.ob]; rfl
                      rw [this, eo3 i i0, ho]
                      by_cases q1 : i = st.NO
                      · rw [if_pos q1, if_pos q1]
                      · rw [if_neg q1, if_neg q1]
                        by_cases q2 : i = o
                        · rw [if_pos q2, if_pos q2, q2]
                        · rw [if_neg q2, if_neg q2]
                    · show st4.NS = _; rw [rs.ns, en3.1, esl]
                    · show st4.NO = _; rw [rs.no, en3.2]
                    · have C := cupd_is h4.ls rb (⟨kind, 7, st.NO, 0, 0, 0⟩ : api_Cap)
                      refine ⟨C.len, fun i i0 i1 => ?_, fun i i0 i1 => ?_, fun i i0 i1 => ?_⟩
                      · rw [C.par i i0 i1]; exact S4.par i i0 i1
                      · rw [C.kid i i0 i1]; exact S4.kid i i0 i1
                      · rw [C.cap i i0 i1]; unfold cC
                        split
                        · rfl
                        · exact S4.cap i i0 i1
          · have e : ∀ (T : Type) (x : T), (bif (slt st b).Cap.Kind != 0 then some (true, x) else some (decide (0 ≤ (slt st b).Parent), x)) = some (true, x) := fun T x => by
              by_cases q : (slt st b).Cap.Kind = 0
              · have e3 : ((slt st b).Cap.Kind != 0) = false := by simpa using q
                rw [e3, cond_false, decide_eq_true (by omega)]
              · have e3 : ((slt st b).Cap.Kind != 0) = true := by simpa using q
                rw [e3]; rfl
            have e' : (bif (slt st b).Cap.Kind != 0 then some true else some (decide (0 ≤ (slt st b).Parent))) = some true := by
              by_cases q : (slt st b).Cap.Kind = 0
              · have e3 : ((slt st b).Cap.Kind != 0) = false := by simpa using q
                rw [e3, cond_false, decide_eq_true (by omega)]
              · have e3 : ((slt st b).Cap.Kind != 0) = true := by simpa using q
                rw [e3]; rfl
            rw [parent_ok g.1, pb, Option.bind_some, e, Option.bind_some] at ma
            rw [e', Option.bind_some] at rf
            exact fin 8 (by decide) (by decide) (by decide) ma rf
      · by_cases q : (slt st a).Cap.Kind = 1
        · have ek : ((slt st a).Cap.Kind != 1) = false := by simpa using q
          have or : 0 ≤ (slt st a).Cap.Obj ∧ (slt st a).Cap.Obj < 32 := by have := cm.2.2.2.2; omega
          have hk1 : ¬ fld v (slt st a).Cap.Obj 0 = 1 := fun z => c1 ⟨q, ((hv.kind h (by decide)).1 z).2.2⟩
          rw [ek, ris_ok h, decide_eq_false (fun z => c1 ⟨q, z.2.2⟩)] at rf
          rw [ek, runB, cond_false, runB, is_ok g.1 _ 1 (by decide), decide_eq_false hk1] at ma
          exact fin 5 (by decide) (by decide) (by decide) ma rf
        · have ek : ((slt st a).Cap.Kind != 1) = true := by simpa using q
          rw [ek] at rf
          rw [ek, runB, cond_true, runR] at ma
          exact fin 5 (by decide) (by decide) (by decide) ma rf
    · rw [decide_eq_false ib, Bool.not_false, Bool.or_true, cond_true] at rf
      simp only [if_neg ib, Bool.not_false, Bool.or_true, cond_true] at ma
      exact fin 2 (by decide) (by decide) (by decide) ma rf
  · rw [decide_eq_false ia, Bool.not_false, Bool.true_or, cond_true] at rf
    simp only [if_neg ia, Bool.not_false, Bool.true_or, cond_true] at ma
    exact fin 2 (by decide) (by decide) (by decide) ma rf
end Go.Proofs
/-! States in which nothing is linked, blocked or mapped. -/
set_option linter.unusedVariables false
namespace Go.Proofs
open Go.Sl
def owB (o : ref10_Obj) : Bool := decide (0 ≤ o.Kind ∧ o.Kind ≤ 8) && decide (0 ≤ o.Size ∧ o.Size ≤ 1000000000000) && decide (0 ≤ o.Used ∧ o.Used ≤ o.Size) && decide (0 ≤ o.First ∧ o.First ≤ 1000) && decide (0 ≤ o.Radix ∧ o.Radix ≤ 5) && decide (0 ≤ o.Wait ∧ o.Wait ≤ 2) && decide (o.Word = 0) && decide (0 ≤ o.State ∧ o.State ≤ 6) && decide (o.Owing = -1) && decide (o.Badge = 0) && decide (0 ≤ o.Prio ∧ o.Prio < 256) && decide (o.On = -1) && decide (-1 ≤ o.Owes ∧ o.Owes < 32) && decide (CapMay o.Root) && decide (o.Pages = ⟨-1, -1, -1, -1⟩) && decide (o.Right = ⟨0, 0, 0, 0⟩) && decide (o.In = -1) && decide (0 ≤ o.Page ∧ o.Page < 4) && decide (o.Bound = -1) && decide (0 ≤ o.Mask ∧ o.Mask ≤ 1) && o.Queue.isEmpty
def slB (x : ref10_Slot) : Bool := decide (CapMay x.Cap) && decide (x.Parent = -1) && x.Kids.isEmpty
def wfB (st : ref10_State) : Bool := st.Slots.length == 96 && st.Objs.length == 32 && st.Slots.all slB && st.Objs.all owB && decide (0 ≤ st.NS ∧ st.NS ≤ 1000) && decide (0 ≤ st.NO ∧ st.NO ≤ 1000)
structure Fresh0 (st : ref10_State) : Prop where
  wf : WF st
  par : ∀ i, 0 ≤ i → i < 96 → (slt st i).Parent = -1 ∧ (slt st i).Kids = []
  que : ∀ i, 0 ≤ i → i < 32 → (obt st i).Queue = [] ∧ (obt st i).On = -1 ∧ (obt st i).In = -1 ∧ (∀ p, 0 ≤ p → p < 4 → (obt st i).Pages.nth p = -1)
  ext : ∀ i, 0 ≤ i → i < 32 → (obt st i).Owing = -1 ∧ (obt st i).Word = 0
  ext2 : ∀ i, 0 ≤ i → i < 32 → (obt st i).Badge = 0 ∧ (obt st i).Bound = -1
theorem fresh_of {st : ref10_State} (h : wfB st = true) : Fresh0 st := by
  simp only [wfB, Bool.and_eq_true, beq_iff_eq, List.all_eq_true, decide_eq_true_eq] at h
  obtain ⟨⟨⟨⟨⟨h1, h2⟩, h3⟩, h4⟩, h5⟩, h6⟩ := h
  have S : ∀ i, 0 ≤ i → i < 96 → CapMay (slt st i).Cap ∧ (slt st i).Parent = -1 ∧ (slt st i).Kids = [] := fun i i0 i1 => by
    have hm : slt st i ∈ st.Slots := by
      unfold slt
      rw [List.getD, List.getElem?_eq_getElem (by omega)]
      exact List.getElem_mem _
    have := h3 _ hm
    simp only [slB, Bool.and_eq_true, decide_eq_true_eq, List.isEmpty_iff] at this
    exact ⟨this.1.1, this.1.2, this.2⟩
  have O : ∀ i, 0 ≤ i → i < 32 → owB (obt st i) = true := fun i i0 i1 => by
    have hm : obt st i ∈ st.Objs := by
      unfold obt
      rw [List.getD, List.getElem?_eq_getElem (by omega)]
      exact List.getElem_mem _
    exact h4 _ hm
  have nth1 : ∀ p : Int, (⟨-1, -1, -1, -1⟩ : A4).nth p = -1 := fun p => by unfold A4.nth; split; rfl; split; rfl; split <;> rfl
  have nth0 : ∀ p : Int, (⟨0, 0, 0, 0⟩ : A4).nth p = 0 := fun p => by unfold A4.nth; split; rfl; split; rfl; split <;> rfl
  have W : ∀ i, 0 ≤ i → i < 32 → OW (obt st i) ∧ (obt st i).Queue = [] ∧ (obt st i).On = -1 ∧ (obt st i).In = -1 ∧ (∀ p, 0 ≤ p → p < 4 → (obt st i).Pages.nth p = -1) ∧ ((obt st i).Owing = -1 ∧ (obt st i).Word = 0) ∧ (obt st i).Badge = 0 ∧ (obt st i).Bound = -1 := fun i i0 i1 => by
    have := O i i0 i1
    simp only [owB, Bool.and_eq_true, decide_eq_true_eq, List.isEmpty_iff] at this
    obtain ⟨⟨⟨⟨⟨⟨⟨⟨⟨⟨⟨⟨⟨⟨⟨⟨⟨⟨⟨⟨w1, w2⟩, w3⟩, w4⟩, w5⟩, w6⟩, w7⟩, w8⟩, w9⟩, w10⟩, w11⟩, w12⟩, w13⟩, w14⟩, w15⟩, w16⟩, w17⟩, w18⟩, w19⟩, w20⟩, w21⟩ := this
    refine ⟨⟨w1, w2, w3, w4, w5, w6, by omega, w8, by omega, by omega, w11, by omega, w13, w14, fun p _ _ => ?_, fun p _ _ => ?_, by omega, w18, by omega, w20⟩, w21, w12, w17, fun p _ _ => ?_, ⟨w9, w7⟩, w10, w19⟩
    · rw [w15, nth1]; decide
    · rw [w16, nth0]; decide
    · rw [w15, nth1]
  refine ⟨⟨h1, h2, fun i a b => (S i a b).1, fun i a b => by rw [(S i a b).2.1]; decide, fun i a b x hx => ?_, fun x a b hx => ?_, fun i a b => ?_, fun i a b => by rw [(S i a b).2.1]; omega, fun i a b => (W i a b).1, fun i a b t ht => ?_, fun i a b hq => ?_, fun t a b _ on => ?_, fun i a b => ?_, h5, h6⟩, fun i a b => (S i a b).2, fun i a b => ⟨(W i a b).2.1, (W i a b).2.2.1, (W i a b).2.2.2.1, (W i a b).2.2.2.2.1⟩, fun i a b => (W i a b).2.2.2.2.2.1, fun i a b => (W i a b).2.2.2.2.2.2⟩
  · rw [(S i a b).2.2] at hx; cases hx
  · rw [(S x a b).2.1] at hx; omega
  · rw [(S i a b).2.2]; exact List.nodup_nil
  · rw [(W i a b).2.1] at ht; cases ht
  · exact absurd (W i a b).2.1 hq
  · rw [(W t a b).2.2.1] at on; omega
  · rw [(W i a b).2.1]; exact List.nodup_nil
end Go.Proofs
/-! The boot states. -/
set_option linter.unusedVariables false
namespace Go.Proofs
open Go.Sl
def kindAt (n i : Int) : Int := if i < n then 5 else if i = n then 2 else if i = n + 1 then 2 else if i = n + 2 then 1 else if i = n + 3 then 3 else if i = n + 4 then 4 else if i = n + 5 then 8 else if i = n + 6 then 7 else if i = n + 7 then 6 else 0
def bootB (n : Int) : Bool := match ref10_Boot.f 2000 n with
  | some t => wfB t && (List.range 32).all fun i => (obt t i).Kind == kindAt n i
  | none => false
theorem boot_0 : bootB 0 = true := by decide +kernel
theorem boot_1 : bootB 1 = true := by decide +kernel
theorem boot_2 : bootB 2 = true := by decide +kernel
theorem boot_3 : bootB 3 = true := by decide +kernel
theorem boot_4 : bootB 4 = true := by decide +kernel
theorem boot_5 : bootB 5 = true := by decide +kernel
theorem boot_6 : bootB 6 = true := by decide +kernel
theorem boot_7 : bootB 7 = true := by decide +kernel
theorem boot_ok {n : Int} (hn : 0 ≤ n ∧ n ≤ 7) : ∃ t, ref10_Boot.f 2000 n = some t ∧ Fresh0 t ∧ ∀ i, 0 ≤ i → i < 32 → (obt t i).Kind = kindAt n i := by
  have h : bootB n = true := by
    rcases (by omega : n = 0 ∨ n = 1 ∨ n = 2 ∨ n = 3 ∨ n = 4 ∨ n = 5 ∨ n = 6 ∨ n = 7) with rfl | rfl | rfl | rfl | rfl | rfl | rfl | rfl
    · exact boot_0
    · exact boot_1
    · exact boot_2
    · exact boot_3
    · exact boot_4
    · exact boot_5
    · exact boot_6
    · exact boot_7
  unfold bootB at h
  cases hB : ref10_Boot.f 2000 n with
  | none => simp [hB] at h
  | some t =>
    simp only [hB, Bool.and_eq_true, List.all_eq_true, List.mem_range, beq_iff_eq] at h
    refine ⟨t, rfl, fresh_of h.1, fun i i0 i1 => ?_⟩
    have := h.2 i.toNat (by omega)
    rwa [show ((i.toNat : Nat) : Int) = i by omega] at this
end Go.Proofs
/-! The boot states: what is used. -/
set_option linter.unusedVariables false
namespace Go.Proofs
open Go.Sl
def bootU (n : Int) : Bool := match ref10_Boot.f 2000 n with
  | some t => decide ((obt t (n + 2)).Used = 0 ∧ (obt t (n + 2)).Size = 200 ∧ t.NS = 40 ∧ t.NO = n + 8 ∧ (slt t 8).Cap = ⟨1, 7, n + 2, 0, 0, 0⟩)
  | none => false
theorem bootU_0 : bootU 0 = true := by decide +kernel
theorem bootU_1 : bootU 1 = true := by decide +kernel
theorem bootU_2 : bootU 2 = true := by decide +kernel
theorem bootU_3 : bootU 3 = true := by decide +kernel
theorem bootU_4 : bootU 4 = true := by decide +kernel
theorem bootU_5 : bootU 5 = true := by decide +kernel
theorem bootU_6 : bootU 6 = true := by decide +kernel
theorem bootU_7 : bootU 7 = true := by decide +kernel
theorem bootU_ok {n : Int} (hn : 0 ≤ n ∧ n ≤ 7) {t : ref10_State} (h : ref10_Boot.f 2000 n = some t) : (obt t (n + 2)).Used = 0 ∧ (obt t (n + 2)).Size = 200 ∧ t.NS = 40 ∧ t.NO = n + 8 ∧ (slt t 8).Cap = ⟨1, 7, n + 2, 0, 0, 0⟩ := by
  have hb : bootU n = true := by
    rcases (by omega : n = 0 ∨ n = 1 ∨ n = 2 ∨ n = 3 ∨ n = 4 ∨ n = 5 ∨ n = 6 ∨ n = 7) with rfl | rfl | rfl | rfl | rfl | rfl | rfl | rfl
    · exact bootU_0
    · exact bootU_1
    · exact bootU_2
    · exact bootU_3
    · exact bootU_4
    · exact bootU_5
    · exact bootU_6
    · exact bootU_7
  unfold bootU at hb
  rw [h] at hb
  exact of_decide_eq_true hb
end Go.Proofs
/-! Draws. -/
set_option linter.unusedVariables false
namespace Go.Proofs
open Go.Sl
/-- What is drawn of n, n > 0. -/
def pick (c n : Int) : Int := if c < 0 then (-(c + 1)) % n else c % n
theorem pick_ok {c n : Int} (h : (Lit.int .i64 c).wf = true) (hn : 0 < n) (hn2 : n ≤ 9223372036854775807) : law10_Pick.f c n = some (pick c n) := by
  obtain ⟨h1, h2⟩ := fits_i64 h
  unfold law10_Pick.f pick
  have hc : chk (decide (n ≠ 0)) = some () := by unfold chk; rw [decide_eq_true (by omega)]; rfl
  by_cases q : c < 0
  · rw [decide_eq_true q, if_pos q, cond_true, hc, Option.bind_some, w64_id (x := c + 1) (by omega) (by omega), w64_id (by omega) (by omega), Int.tmod_eq_emod_of_nonneg (by omega)]
    congr 2; omega
  · rw [decide_eq_false q, if_neg q, cond_false, hc, Option.bind_some, Int.tmod_eq_emod_of_nonneg (by omega)]
theorem pick_lt (c : Int) {n : Int} (hn : 0 < n) : 0 ≤ pick c n ∧ pick c n < n := by
  unfold pick; split
  · exact ⟨Int.emod_nonneg _ (by omega), Int.emod_lt_of_pos _ hn⟩
  · exact ⟨Int.emod_nonneg _ (by omega), Int.emod_lt_of_pos _ hn⟩
end Go.Proofs
