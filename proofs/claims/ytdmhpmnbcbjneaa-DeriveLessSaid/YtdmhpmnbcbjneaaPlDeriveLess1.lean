/- Plain laws of what is reached, parts P12TreeR, P12SlSt, P12AppL, P12SlLk, P12RUn, P12KidL, P12SlPl, P12SlRp, P12Cap, P12CapSl, P12Slot, P12SlCap, P12RDel, P12RightsP. On no condition. -/
import Derived.Test.YtdmhpmnbcbjneaaPlDeriveLess0
import Derived.Test.YtdmhpmnbcbjneaaFnDeriveLess3
import Derived.Test.YtdmhpmnbcbjneaaFnDeriveLess0
import Derived.Test.YtdmhpmnbcbjneaaFnDeriveLess1
set_option linter.all false
/-! Slots in a tree: one takes another one's place. -/
set_option linter.unusedVariables false
namespace Go.Proofs
open Go.Sl
def rP (P : Int → Int) (a b : Int) : Int → Int := fun i => if i = b then P a else if i = a then -1 else if P i = a then b else P i
def rK (P : Int → Int) (K : Int → List Int) (a b : Int) : Int → List Int := fun i => if i = b then K a else if i = a then [] else if i = P a then rep a b (K i) else K i
section
variable {P : Int → Int} {K : Int → List Int}
theorem Tree.replace (t : Tree P K) {a b : Int} (ha : 0 ≤ a ∧ a < 96) (hb : 0 ≤ b ∧ b < 96) (hne : a ≠ b) (hPb : P b = -1) (hKb : K b = []) : Tree (rP P a b) (rK P K a b) := by
  have pa := t.par a ha.1 ha.2
  have ia := t.irr a ha.1 ha.2
  have pab : P a ≠ b := fun z => by have := t.all a ha.1 ha.2 (by omega); rw [z, hKb] at this; cases this
  have hbn : ∀ i, 0 ≤ i → i < 96 → b ∉ K i := fun i i0 i1 z => by have := (t.kid i i0 i1 b z).2.2; omega
  have eb : rP P a b b = P a := by unfold rP; rw [if_pos rfl]
  have ea : rP P a b a = -1 := by unfold rP; rw [if_neg hne, if_pos rfl]
  have eo : ∀ x, x ≠ b → x ≠ a → rP P a b x = if P x = a then b else P x := fun x h1 h2 => by unfold rP; rw [if_neg h1, if_neg h2]
  have kb : rK P K a b b = K a := by unfold rK; rw [if_pos rfl]
  have ka : rK P K a b a = [] := by unfold rK; rw [if_neg hne, if_pos rfl]
  have kp : ∀ i, i ≠ b → i ≠ a → i = P a → rK P K a b i = rep a b (K i) := fun i h1 h2 h3 => by unfold rK; rw [if_neg h1, if_neg h2, if_pos h3]
  have ko : ∀ i, i ≠ b → i ≠ a → i ≠ P a → rK P K a b i = K i := fun i h1 h2 h3 => by unfold rK; rw [if_neg h1, if_neg h2, if_neg h3]
  refine ⟨fun i i0 i1 => ?_, fun i i0 i1 x hx => ?_, fun x x0 x1 hx => ?_, fun i i0 i1 => ?_, fun i i0 i1 => ?_⟩
  · by_cases e : i = b
    · rw [e, eb]; exact pa
    · by_cases e2 : i = a
      · rw [e2, ea]; omega
      · rw [eo i e e2]; split
        · omega
        · exact t.par i i0 i1
  · by_cases e : i = b
    · rw [e, kb] at hx
      have := t.kid a ha.1 ha.2 x hx
      have xb : x ≠ b := fun z => by rw [z, hPb] at this; omega
      have xa : x ≠ a := fun z => by rw [z] at this; exact ia this.2.2
      rw [eo x xb xa, if_pos this.2.2, e]
      exact ⟨this.1, this.2.1, rfl⟩
    · by_cases e2 : i = a
      · rw [e2, ka] at hx; cases hx
      · by_cases e3 : i = P a
        · rw [kp i e e2 e3, rep_mem (hbn i i0 i1)] at hx
          rcases hx with ⟨rfl, _⟩ | ⟨xa, hx⟩
          · rw [eb]; exact ⟨hb.1, hb.2, e3.symm⟩
          · have := t.kid i i0 i1 x hx
            have xb : x ≠ b := fun z => by rw [z, hPb] at this; omega
            rw [eo x xb xa, if_neg (by omega)]; exact this
        · rw [ko i e e2 e3] at hx
          have := t.kid i i0 i1 x hx
          have xb : x ≠ b := fun z => by rw [z, hPb] at this; omega
          have xa : x ≠ a := fun z => by rw [z] at this; exact e3 this.2.2.symm
          rw [eo x xb xa, if_neg (by omega)]; exact this
  · by_cases e : x = b
    · subst e
      rw [eb] at hx ⊢
      have := t.all a ha.1 ha.2 hx
      rw [kp (P a) pab ia rfl, rep_mem (hbn _ hx pa.2)]
      exact .inl ⟨rfl, this⟩
    · by_cases e2 : x = a
      · rw [e2, ea] at hx; omega
      · rw [eo x e e2] at hx ⊢
        by_cases e3 : P x = a
        · rw [if_pos e3, kb]
          have := t.all x x0 x1 (by omega)
          rwa [e3] at this
        · rw [if_neg e3] at hx ⊢
          have := t.all x x0 x1 hx
          have nb : P x ≠ b := fun z => by rw [z, hKb] at this; cases this
          by_cases e4 : P x = P a
          · rw [kp _ nb e3 e4, rep_mem (hbn _ hx (t.par x x0 x1).2)]; exact .inr ⟨e2, this⟩
          · rw [ko _ nb e3 e4]; exact this
  · by_cases e : i = b
    · rw [e, kb]; exact t.nod a ha.1 ha.2
    · by_cases e2 : i = a
      · rw [e2, ka]; exact List.nodup_nil
      · by_cases e3 : i = P a
        · rw [kp i e e2 e3]; exact rep_nodup (hbn i i0 i1) (t.nod i i0 i1)
        · rw [ko i e e2 e3]; exact t.nod i i0 i1
  · by_cases e : i = b
    · rw [e, eb]; exact pab
    · by_cases e2 : i = a
      · rw [e2, ea]; omega
      · rw [eo i e e2]; split
        · exact fun z => e z.symm
        · exact t.irr i i0 i1
def moveTo (v : List Int) (a b : Int) : List Int := if sget v a 1 ≠ -1 then clearTo (besideTo (sput (sput (sput v b 1 (sget v a 1)) b 3 (sget v a 3)) b 4 (sget v a 4)) a b b) a else v
def adopt (v : List Int) (b : Int) (l : List Int) : List Int := l.foldl (fun s k => sput s k 1 b) v
def replaceTo (v : List Int) (a b : Int) (l : List Int) : List Int := sput (sput (adopt (moveTo v a b) b l) b 2 (sget (adopt (moveTo v a b) b l) a 2)) a 2 (-1)
theorem len_clearTo {v : List Int} (i : Int) : (clearTo v i).length = v.length := by unfold clearTo; rw [sput_len, sput_len, sput_len]
theorem len_moveTo {v : List Int} (a b : Int) : (moveTo v a b).length = v.length := by
  unfold moveTo; split
  · rw [len_clearTo, len_besideTo, sput_len, sput_len, sput_len]
  · rfl
theorem len_adopt (b : Int) : ∀ (l : List Int) (v : List Int), (adopt v b l).length = v.length
  | [], _ => rfl
  | c :: r, v => by
    show (adopt (sput v c 1 b) b r).length = _
    rw [len_adopt b r, sput_len]
theorem sget_adopt {b : Int} (hb : 0 ≤ b ∧ b < 96) : ∀ (l : List Int) {v : List Int}, v.length = 738 → (∀ y ∈ l, 0 ≤ y ∧ y < 96) → ∀ x f, sget (adopt v b l) x f = if f = 1 ∧ x ∈ l then b else sget v x f
  | [], v, _, _, x, f => by rw [if_neg (fun z => by cases z.2)]; rfl
  | c :: r, v, hl, hr, x, f => by
    have hc := hr c List.mem_cons_self
    show sget (adopt (sput v c 1 b) b r) x f = _
    rw [sget_adopt hb r (by rw [sput_len]; exact hl) (fun y hy => hr y (List.mem_cons_of_mem _ hy)) x f, sget_sput hl _ _ _ _ _ (by omega)]
    by_cases e : f = 1 ∧ x ∈ r
    · rw [if_pos e, if_pos ⟨e.1, List.mem_cons_of_mem _ e.2⟩]
    · rw [if_neg e]
      by_cases e2 : f = 1 ∧ x = c
      · rw [if_pos ⟨⟨hc.1, hc.2, by decide, by decide⟩, e2.2.symm, e2.1.symm⟩, if_pos ⟨e2.1, by rw [e2.2]; exact List.mem_cons_self⟩]
      · rw [if_neg (fun z => e2 ⟨z.2.2.symm, z.2.1.symm⟩), if_neg]
        rintro ⟨z1, z2⟩
        rcases List.mem_cons.1 z2 with z | z
        · exact e2 ⟨z1, z⟩
        · exact e ⟨z1, z⟩
theorem sget_put3 {v : List Int} (hl : v.length = 738) {b p n q : Int} (hb : 0 ≤ b ∧ b < 96) (hp : -1 ≤ p ∧ p < 96) (hn : -1 ≤ n ∧ n < 96) (hq : -1 ≤ q ∧ q < 96) (x f : Int) : sget (sput (sput (sput v b 1 p) b 3 n) b 4 q) x f = if b = x ∧ f = 4 then q else if b = x ∧ f = 3 then n else if b = x ∧ f = 1 then p else sget v x f := by
  have s1 : InSlot b 1 := ⟨hb.1, hb.2, by decide, by decide⟩
  have s3 : InSlot b 3 := ⟨hb.1, hb.2, by decide, by decide⟩
  have s4 : InSlot b 4 := ⟨hb.1, hb.2, by decide, by decide⟩
  rw [sget_sput (by simp [sput_len, hl]) _ _ _ _ _ hq, sget_sput (by simp [sput_len, hl]) _ _ _ _ _ hn, sget_sput hl _ _ _ _ _ hp]
  simp only [s1, s3, s4, true_and, @eq_comm _ _ f]
/-- The fields behind a move. -/
theorem sget_moveTo (t : Tree P K) {v : List Int} (hl : v.length = 738) (w : TW P K v) {a b p : Int} (ha : 0 ≤ a ∧ a < 96) (hb : 0 ≤ b ∧ b < 96) (hne : a ≠ b) (hP : P a = p) (hp : 0 ≤ p) (hKb : K b = []) (x f : Int) :
    sget (moveTo v a b) x f = if a = x ∧ (f = 1 ∨ f = 3 ∨ f = 4) then -1 else if InSlot (nextOf (K p) a - 1) 4 ∧ nextOf (K p) a - 1 = x ∧ 4 = f then b else if prv 0 (K p) a - 1 ≠ -1 then (if InSlot (prv 0 (K p) a - 1) 3 ∧ prv 0 (K p) a - 1 = x ∧ 3 = f then b else if b = x ∧ f = 4 then prv 0 (K p) a - 1 else if b = x ∧ f = 3 then nextOf (K p) a - 1 else if b = x ∧ f = 1 then p else sget v x f) else (if InSlot p 2 ∧ p = x ∧ 2 = f then b else if b = x ∧ f = 4 then prv 0 (K p) a - 1 else if b = x ∧ f = 3 then nextOf (K p) a - 1 else if b = x ∧ f = 1 then p else sget v x f) := by
  have hp1 := (t.par a ha.1 ha.2).2
  rw [hP] at hp1
  have hr : ∀ x ∈ K p, 0 ≤ x ∧ x < 96 := fun x hx => by have := t.kid p hp hp1 x hx; omega
  have g1 : sget v a 1 = p := by rw [w a 1 ha.1 ha.2 (by decide) (by decide)]; unfold slw; rw [if_pos rfl, hP]; omega
  have g3 : sget v a 3 = nextOf (K p) a - 1 := by rw [w a 3 ha.1 ha.2 (by decide) (by decide)]; unfold slw; rw [if_neg (by decide), if_neg (by decide), hP, if_pos hp, if_pos rfl]
  have g4 : sget v a 4 = prv 0 (K p) a - 1 := by rw [w a 4 ha.1 ha.2 (by decide) (by decide)]; unfold slw; rw [if_neg (by decide), if_neg (by decide), hP, if_pos hp, if_neg (by decide)]
  have r3 := nextOf_rg (n := 96) (by decide) a hr
  have r4 := prv_rg (n := 96) (by decide) a (a := 0) (by decide) (by decide) hr
  unfold moveTo
  rw [g1, g3, g4, if_pos (by omega)]
  have S := fun x f => sget_put3 hl (b := b) (p := p) (n := nextOf (K p) a - 1) (q := prv 0 (K p) a - 1) hb (by omega) (by omega) (by omega) x f
  have l3 : (sput (sput (sput v b 1 p) b 3 (nextOf (K p) a - 1)) b 4 (prv 0 (K p) a - 1)).length = 738 := by simp [sput_len, hl]
  generalize sput (sput (sput v b 1 p) b 3 (nextOf (K p) a - 1)) b 4 (prv 0 (K p) a - 1) = s at S l3
  have s1 : sget s a 1 = p := by rw [S, if_neg (by omega), if_neg (by omega), if_neg (by omega), g1]
  have s3 : sget s a 3 = nextOf (K p) a - 1 := by rw [S, if_neg (by omega), if_neg (by omega), if_neg (by omega), g3]
  have s4 : sget s a 4 = prv 0 (K p) a - 1 := by rw [S, if_neg (by omega), if_neg (by omega), if_neg (by omega), g4]
  rw [sget_clearTo (by rw [len_besideTo]; exact l3) ha, sget_besideTo l3 (by omega) (by omega), s1, s3, s4, S]
theorem rP_b (a b : Int) : rP P a b b = P a := by unfold rP; rw [if_pos rfl]
theorem rP_a {a b : Int} (hne : a ≠ b) : rP P a b a = -1 := by unfold rP; rw [if_neg hne, if_pos rfl]
theorem rP_o {a b x : Int} (h1 : x ≠ b) (h2 : x ≠ a) : rP P a b x = if P x = a then b else P x := by unfold rP; rw [if_neg h1, if_neg h2]
theorem rK_b (a b : Int) : rK P K a b b = K a := by unfold rK; rw [if_pos rfl]
theorem rK_a {a b : Int} (hne : a ≠ b) : rK P K a b a = [] := by unfold rK; rw [if_neg hne, if_pos rfl]
theorem rK_p {a b i : Int} (h1 : i ≠ b) (h2 : i ≠ a) (h3 : i = P a) : rK P K a b i = rep a b (K i) := by unfold rK; rw [if_neg h1, if_neg h2, if_pos h3]
theorem rK_o {a b i : Int} (h1 : i ≠ b) (h2 : i ≠ a) (h3 : i ≠ P a) : rK P K a b i = K i := by unfold rK; rw [if_neg h1, if_neg h2, if_neg h3]
theorem next_ne {a : Int} (a0 : 0 ≤ a) : ∀ {l : List Int}, l.Nodup → a ∈ l → nextOf l a ≠ a + 1
  | [], _, h => by cases h
  | c :: r, hn, h => by
    have hn2 := List.nodup_cons.1 hn
    show (if a = c then hd r else nextOf r a) ≠ a + 1
    by_cases e : a = c
    · rw [if_pos e]
      intro z
      apply hn2.1
      rw [← e]
      cases r with
      | nil => have : (0 : Int) = a + 1 := z; omega
      | cons d r => have : d + 1 = a + 1 := z; rw [show a = d by omega]; exact List.mem_cons_self
    · rw [if_neg e]
      exact next_ne a0 hn2.2 (by rcases List.mem_cons.1 h with z | z; exact absurd z e; exact z)
theorem prv_ne {a : Int} (a0 : 0 ≤ a) : ∀ {l : List Int} {m : Int}, m ≠ a + 1 → l.Nodup → a ∈ l → prv m l a ≠ a + 1
  | [], _, _, _, h => by cases h
  | c :: r, m, hm, hn, h => by
    have hn2 := List.nodup_cons.1 hn
    show (if a = c then m else prv (c + 1) r a) ≠ a + 1
    by_cases e : a = c
    · rw [if_pos e]; exact hm
    · rw [if_neg e]
      exact prv_ne a0 (by omega) hn2.2 (by rcases List.mem_cons.1 h with z | z; exact absurd z e; exact z)
theorem rq_zero {a b : Int} (a0 : 0 ≤ a) : rq a b 0 = 0 := by unfold rq; rw [if_neg (by omega)]
theorem TW.replace (t : Tree P K) {v : List Int} (hl : v.length = 738) (w : TW P K v) {a b : Int} (ha : 0 ≤ a ∧ a < 96) (hb : 0 ≤ b ∧ b < 96) (hne : a ≠ b) (hPb : P b = -1) (hKb : K b = []) : TW (rP P a b) (rK P K a b) (replaceTo v a b (K a)) := by
  have pa := t.par a ha.1 ha.2
  have ia := t.irr a ha.1 ha.2
  have pab : P a ≠ b := fun z => by have := t.all a ha.1 ha.2 (by omega); rw [z, hKb] at this; cases this
  have hbn : ∀ i, 0 ≤ i → i < 96 → b ∉ K i := fun i i0 i1 z => by have := (t.kid i i0 i1 b z).2.2; omega
  have ka : ∀ y ∈ K a, 0 ≤ y ∧ y < 96 := fun y hy => by have := t.kid a ha.1 ha.2 y hy; omega
  have lm : (moveTo v a b).length = 738 := by rw [len_moveTo]; exact hl
  have A := fun x f => sget_adopt hb (K a) lm ka x f
  have la : (adopt (moveTo v a b) b (K a)).length = 738 := by rw [len_adopt]; exact lm
  have b2 : InSlot b 2 := ⟨hb.1, hb.2, by decide, by decide⟩
  have a2 : InSlot a 2 := ⟨ha.1, ha.2, by decide, by decide⟩
  -- the kids are as they were
  have m2 : sget (moveTo v a b) a 2 = hd (K a) - 1 := by
    have e0 : sget v a 2 = hd (K a) - 1 := w a 2 ha.1 ha.2 (by decide) (by decide)
    by_cases hp : 0 ≤ P a
    · rw [sget_moveTo t hl w ha hb hne rfl hp hKb, if_neg (by omega), if_neg (by omega)]
      split
      · rw [if_neg (by omega), if_neg (by omega), if_neg (by omega), if_neg (by omega)]; exact e0
      · rw [if_neg (fun z => ia z.2.1), if_neg (by omega), if_neg (by omega), if_neg (by omega)]; exact e0
    · have g1 : sget v a 1 = P a := by rw [w a 1 ha.1 ha.2 (by decide) (by decide)]; unfold slw; rw [if_pos rfl]; omega
      unfold moveTo
      rw [if_neg (by omega)]; exact e0
  intro i f i0 i1 f0 f1
  unfold replaceTo
  have e2 : sget (adopt (moveTo v a b) b (K a)) a 2 = hd (K a) - 1 := by rw [A a 2, if_neg (fun z => by have := z.1; omega), m2]
  rw [sget_sput (by rw [sput_len]; exact la) _ _ _ _ _ (by decide), sget_sput la _ _ _ _ _ (sget_rg _ _ _), e2, A i f]
  have hka := fun z : i ∈ K a => (t.kid a ha.1 ha.2 i z).2.2
  have kai := fun z : P i = a => by have := t.all i i0 i1 (by omega); rw [z] at this; exact this
  have W := w i f i0 i1 f0 f1
  -- what was at the slot that takes the place
  have Wb : i = b → slw P K i f = 0 := fun e => by
    unfold slw; rw [e, hPb, hKb]
    split
    · decide
    · split
      · rfl
      · rw [if_neg (by decide)]
  by_cases hp : 0 ≤ P a
  · have hr : ∀ x ∈ K (P a), 0 ≤ x ∧ x < 96 := fun x hx => by have := t.kid (P a) hp pa.2 x hx; omega
    have h0 : ∀ x ∈ K (P a), 0 ≤ x := fun x hx => (hr x hx).1
    have hm : a ∈ K (P a) := t.all a ha.1 ha.2 hp
    have hn := t.nod (P a) hp pa.2
    have hbp := hbn (P a) hp pa.2
    have r3 := nextOf_rg (n := 96) (by decide) a hr
    have r4 := prv_rg (n := 96) (by decide) a (a := 0) (by decide) (by decide) hr
    have hz := prv_zero h0 hm
    have q4 : nextOf (K (P a)) a - 1 = i → i ∈ K (P a) := fun z => nextOf_mem i0 (x := a) (by omega)
    have q3 : prv 0 (K (P a)) a - 1 = i → i ∈ K (P a) := fun z => prv_mem i0 (x := a) (a := 0) (by omega) (by omega)
    have hPi : i ∈ K (P a) → P i = P a := fun z => (t.kid (P a) hp pa.2 i z).2.2
    have nn := next_ne ha.1 hn hm
    have pn := prv_ne ha.1 (m := 0) (by omega) hn hm
    have M := sget_moveTo t hl w ha hb hne rfl hp hKb i f
    rw [W] at M
    rw [M]; clear M
    rcases (by omega : f = 1 ∨ f = 2 ∨ f = 3 ∨ f = 4) with rfl | rfl | rfl | rfl
    · have eg : slw (rP P a b) (rK P K a b) i 1 = rP P a b i + 1 := rfl
      have ew : slw P K i 1 = P i + 1 := rfl
      rw [if_neg (fun z => by have := z.2.2; omega), if_neg (fun z => by have := z.2.2; omega), eg, ew]
      by_cases eb : i = b
      · rw [if_neg (fun z => by have := hka z.2; rw [eb, hPb] at this; omega), if_neg (fun z => hne (z.1.trans eb)), if_neg (fun z => by have := z.2.2; omega), eb, rP_b]
        split
        · rw [if_neg (fun z => by have := z.2.2; omega), if_neg (fun z => by have := z.2; omega), if_neg (fun z => by have := z.2; omega), if_pos ⟨rfl, rfl⟩]; omega
        · rw [if_neg (fun z => by have := z.2.2; omega), if_neg (fun z => by have := z.2; omega), if_neg (fun z => by have := z.2; omega), if_pos ⟨rfl, rfl⟩]; omega
      · by_cases ea : i = a
        · rw [if_neg (fun z => by have := hka z.2; rw [ea] at this; exact ia this), if_pos ⟨ea.symm, .inl rfl⟩, ea, rP_a hne]; rfl
        · rw [rP_o eb ea]
          by_cases c : P i = a
          · rw [if_pos ⟨rfl, kai c⟩, if_pos c]; omega
          · rw [if_neg (fun z => c (hka z.2)), if_neg (fun z => ea z.1.symm), if_neg (fun z => by have := z.2.2; omega), if_neg c]
            split
            · rw [if_neg (fun z => by have := z.2.2; omega), if_neg (fun z => eb z.1.symm), if_neg (fun z => eb z.1.symm), if_neg (fun z => eb z.1.symm)]
            · rw [if_neg (fun z => by have := z.2.2; omega), if_neg (fun z => eb z.1.symm), if_neg (fun z => eb z.1.symm), if_neg (fun z => eb z.1.symm)]
    · have eg : slw (rP P a b) (rK P K a b) i 2 = hd (rK P K a b i) := rfl
      have ew : slw P K i 2 = hd (K i) := rfl
      rw [eg, ew]
      by_cases ea : i = a
      · rw [if_pos ⟨a2, ea.symm, rfl⟩, ea, rK_a hne]; rfl
      · rw [if_neg (fun z => ea z.2.1.symm)]
        by_cases eb : i = b
        · rw [if_pos ⟨b2, eb.symm, rfl⟩, eb, rK_b]
        · rw [if_neg (fun z => eb z.2.1.symm), if_neg (fun z => by have := z.1; omega), if_neg (fun z => by have := z.2; omega), if_neg (fun z => by have := z.2.2; omega)]
          by_cases ep : i = P a
          · rw [rK_p eb ea ep, rep_hd ha.1, ep]
            unfold rq
            have hh := hd_pos h0 ha.1
            by_cases c : (K (P a)).head? = some a
            · rw [if_neg (by have := hz.2 c; omega), if_pos ⟨⟨hp, pa.2, by decide, by decide⟩, rfl, rfl⟩, if_pos (hh.2 c)]; omega
            · rw [if_pos (fun z => c (hz.1 (by omega))), if_neg (fun z => by have := z.2.2; omega), if_neg (fun z => by have := z.2; omega), if_neg (fun z => by have := z.2; omega), if_neg (fun z => by have := z.2; omega), if_neg (fun z => c (hh.1 z))]
          · rw [rK_o eb ea ep]
            split
            · rw [if_neg (fun z => by have := z.2.2; omega), if_neg (fun z => eb z.1.symm), if_neg (fun z => eb z.1.symm), if_neg (fun z => eb z.1.symm)]
            · rw [if_neg (fun z => ep z.2.1.symm), if_neg (fun z => eb z.1.symm), if_neg (fun z => eb z.1.symm), if_neg (fun z => eb z.1.symm)]
    · have eg : slw (rP P a b) (rK P K a b) i 3 = if 0 ≤ rP P a b i then nextOf (rK P K a b (rP P a b i)) i else 0 := rfl
      have ew : slw P K i 3 = if 0 ≤ P i then nextOf (K (P i)) i else 0 := rfl
      rw [if_neg (fun z => by have := z.2.2; omega), if_neg (fun z => by have := z.2.2; omega), if_neg (fun z => by have := z.1; omega), eg]
      by_cases ea : i = a
      · rw [if_pos ⟨ea.symm, .inr (.inl rfl)⟩, ea, rP_a hne, if_neg (by decide)]; rfl
      · rw [if_neg (fun z => ea z.1.symm), if_neg (fun z => by have := z.2.2; omega)]
        by_cases eb : i = b
        · have hv : (if 0 ≤ rP P a b i then nextOf (rK P K a b (rP P a b i)) i else 0) = nextOf (K (P a)) a := by
            rw [eb, rP_b, if_pos hp, rK_p pab ia rfl]
            have := rep_next ha.1 (x := a) hbp hm
            rw [show rp a b a = b from by unfold rp; rw [if_pos rfl]] at this
            rw [this]; unfold rq; rw [if_neg nn]
          rw [hv]
          split
          · rw [if_neg (fun z => by have := q3 z.2.1; rw [eb] at this; exact hbp this), if_neg (fun z => by have := z.2; omega), if_pos ⟨eb.symm, rfl⟩]
          · rw [if_neg (fun z => by have := z.2.2; omega), if_neg (fun z => by have := z.2; omega), if_pos ⟨eb.symm, rfl⟩]
        · have tail : ∀ y : Int, (if b = i ∧ (3 : Int) = 4 then prv 0 (K (P a)) a - 1 else if b = i ∧ (3 : Int) = 3 then nextOf (K (P a)) a - 1 else if b = i ∧ (3 : Int) = 1 then P a else y) = y := fun y => by
            rw [if_neg (fun z => eb z.1.symm), if_neg (fun z => eb z.1.symm), if_neg (fun z => eb z.1.symm)]
          rw [tail, if_neg (fun z => by have := z.2.2; omega : ¬ (InSlot (P a) 2 ∧ P a = i ∧ (2 : Int) = 3)), rP_o eb ea]
          by_cases c : P i = a
          · have hi := kai c
            have nq : ¬ prv 0 (K (P a)) a - 1 = i := fun z => by have := hPi (q3 z); rw [c] at this; exact ia this.symm
            rw [if_pos c, rK_b, if_pos hb.1, ew, c, if_pos ha.1]
            split
            · rw [if_neg (fun z => nq z.2.1)]
            · rfl
          · rw [if_neg c]
            by_cases c2 : P i = P a
            · have hi : i ∈ K (P a) := by have := t.all i i0 i1 (by omega); rwa [c2] at this
              have hpn := prv_next (k := a) (x := i) ha.1 i0 (a := 0) h0 hn hm hi (by omega)
              have := rep_next ha.1 (x := i) hbp hi
              rw [show rp a b i = i from by unfold rp; rw [if_neg ea]] at this
              rw [c2, if_pos hp, rK_p pab ia rfl, this, ew, c2, if_pos hp]
              unfold rq
              by_cases c3 : nextOf (K (P a)) i = a + 1
              · have := hpn.2 c3
                rw [if_pos (by omega), if_pos ⟨⟨by omega, by omega, by decide, by decide⟩, by omega, rfl⟩, if_pos c3]; omega
              · rw [if_neg c3]
                split
                · rw [if_neg (fun z => c3 (hpn.1 (by have := z.2.1; omega)))]
                · rfl
            · have nq : ¬ prv 0 (K (P a)) a - 1 = i := fun z => c2 (hPi (q3 z))
              have hk : (if 0 ≤ P i then nextOf (rK P K a b (P i)) i else 0) = slw P K i 3 := by
                rw [ew]
                by_cases z0 : 0 ≤ P i
                · have := t.all i i0 i1 z0
                  rw [if_pos z0, if_pos z0, rK_o (fun z => by rw [z, hKb] at this; cases this) c c2]
                · rw [if_neg z0, if_neg z0]
              rw [hk]
              split
              · rw [if_neg (fun z => nq z.2.1)]
              · rfl
    · have eg : slw (rP P a b) (rK P K a b) i 4 = if 0 ≤ rP P a b i then prv 0 (rK P K a b (rP P a b i)) i else 0 := rfl
      have ew : slw P K i 4 = if 0 ≤ P i then prv 0 (K (P i)) i else 0 := rfl
      rw [if_neg (fun z => by have := z.2.2; omega), if_neg (fun z => by have := z.2.2; omega), if_neg (fun z => by have := z.1; omega), eg]
      by_cases ea : i = a
      · rw [if_pos ⟨ea.symm, .inr (.inr rfl)⟩, ea, rP_a hne, if_neg (by decide)]; rfl
      · rw [if_neg (fun z => ea z.1.symm)]
        by_cases eb : i = b
        · have hv : (if 0 ≤ rP P a b i then prv 0 (rK P K a b (rP P a b i)) i else 0) = prv 0 (K (P a)) a := by
            rw [eb, rP_b, if_pos hp, rK_p pab ia rfl]
            have := rep_prv ha.1 (x := a) (m := 0) hbp hm
            rw [show rp a b a = b from by unfold rp; rw [if_pos rfl], rq_zero ha.1] at this
            rw [this]; unfold rq; rw [if_neg pn]
          rw [hv, if_neg (fun z => by have := q4 z.2.1; rw [eb] at this; exact hbp this)]
          split
          · rw [if_neg (fun z => by have := z.2.2; omega), if_pos ⟨eb.symm, rfl⟩]
          · rw [if_neg (fun z => by have := z.2.2; omega), if_pos ⟨eb.symm, rfl⟩]
        · have tail : ∀ y : Int, (if b = i ∧ (4 : Int) = 4 then prv 0 (K (P a)) a - 1 else if b = i ∧ (4 : Int) = 3 then nextOf (K (P a)) a - 1 else if b = i ∧ (4 : Int) = 1 then P a else y) = y := fun y => by
            rw [if_neg (fun z => eb z.1.symm), if_neg (fun z => eb z.1.symm), if_neg (fun z => eb z.1.symm)]
          rw [tail, if_neg (fun z => by have := z.2.2; omega : ¬ (InSlot (P a) 2 ∧ P a = i ∧ (2 : Int) = 4)), if_neg (fun z => by have := z.2.2; omega : ¬ (InSlot (prv 0 (K (P a)) a - 1) 3 ∧ prv 0 (K (P a)) a - 1 = i ∧ (3 : Int) = 4)), ite_self, rP_o eb ea]
          by_cases c : P i = a
          · have nq : ¬ nextOf (K (P a)) a - 1 = i := fun z => by have := hPi (q4 z); rw [c] at this; exact ia this.symm
            rw [if_pos c, rK_b, if_pos hb.1, ew, c, if_pos ha.1, if_neg (fun z => nq z.2.1)]
          · rw [if_neg c]
            by_cases c2 : P i = P a
            · have hi : i ∈ K (P a) := by have := t.all i i0 i1 (by omega); rwa [c2] at this
              have hpn := prv_next (k := i) (x := a) i0 ha.1 (a := 0) h0 hn hi hm (by omega)
              have := rep_prv ha.1 (x := i) (m := 0) hbp hi
              rw [show rp a b i = i from by unfold rp; rw [if_neg ea], rq_zero ha.1] at this
              rw [c2, if_pos hp, rK_p pab ia rfl, this, ew, c2, if_pos hp]
              unfold rq
              by_cases c3 : prv 0 (K (P a)) i = a + 1
              · have := hpn.1 c3
                rw [if_pos ⟨⟨by omega, by omega, by decide, by decide⟩, by omega, rfl⟩, if_pos c3]; omega
              · rw [if_neg c3, if_neg (fun z => c3 (hpn.2 (by have := z.2.1; omega)))]
            · have nq : ¬ nextOf (K (P a)) a - 1 = i := fun z => c2 (hPi (q4 z))
              have hk : (if 0 ≤ P i then prv 0 (rK P K a b (P i)) i else 0) = slw P K i 4 := by
                rw [ew]
                by_cases z0 : 0 ≤ P i
                · have := t.all i i0 i1 z0
                  rw [if_pos z0, if_pos z0, rK_o (fun z => by rw [z, hKb] at this; cases this) c c2]
                · rw [if_neg z0, if_neg z0]
              rw [hk, if_neg (fun z => nq z.2.1)]
  · have g1 : sget v a 1 = P a := by rw [w a 1 ha.1 ha.2 (by decide) (by decide)]; unfold slw; rw [if_pos rfl]; omega
    have hmv : moveTo v a b = v := by unfold moveTo; rw [if_neg (by omega)]
    have pm : P a = -1 := by omega
    rw [hmv, W]
    rcases (by omega : f = 1 ∨ f = 2 ∨ f = 3 ∨ f = 4) with rfl | rfl | rfl | rfl
    · have eg : slw (rP P a b) (rK P K a b) i 1 = rP P a b i + 1 := rfl
      have ew : slw P K i 1 = P i + 1 := rfl
      rw [if_neg (fun z => by have := z.2.2; omega), if_neg (fun z => by have := z.2.2; omega), eg, ew]
      by_cases eb : i = b
      · rw [if_neg (fun z => by have := hka z.2; rw [eb, hPb] at this; omega), eb, rP_b, hPb, pm]
      · by_cases ea : i = a
        · rw [if_neg (fun z => by have := hka z.2; rw [ea] at this; exact ia this), ea, rP_a hne, pm]
        · rw [rP_o eb ea]
          by_cases c : P i = a
          · rw [if_pos ⟨rfl, kai c⟩, if_pos c]; omega
          · rw [if_neg (fun z => c (hka z.2)), if_neg c]
    · have eg : slw (rP P a b) (rK P K a b) i 2 = hd (rK P K a b i) := rfl
      have ew : slw P K i 2 = hd (K i) := rfl
      rw [eg, ew]
      by_cases ea : i = a
      · rw [if_pos ⟨a2, ea.symm, rfl⟩, ea, rK_a hne]; rfl
      · rw [if_neg (fun z => ea z.2.1.symm)]
        by_cases eb : i = b
        · rw [if_pos ⟨b2, eb.symm, rfl⟩, eb, rK_b]
        · rw [if_neg (fun z => eb z.2.1.symm), if_neg (fun z => by have := z.1; omega), rK_o eb ea (by omega)]
    · have eg : slw (rP P a b) (rK P K a b) i 3 = if 0 ≤ rP P a b i then nextOf (rK P K a b (rP P a b i)) i else 0 := rfl
      have ew : slw P K i 3 = if 0 ≤ P i then nextOf (K (P i)) i else 0 := rfl
      rw [if_neg (fun z => by have := z.2.2; omega), if_neg (fun z => by have := z.2.2; omega), if_neg (fun z => by have := z.1; omega), eg, ew]
      by_cases ea : i = a
      · rw [ea, rP_a hne, pm, if_neg (by decide), if_neg (by decide)]
      · by_cases eb : i = b
        · rw [eb, rP_b, hPb, pm, if_neg (by decide), if_neg (by decide)]
        · rw [rP_o eb ea]
          by_cases c : P i = a
          · rw [if_pos c, rK_b, if_pos hb.1, c, if_pos ha.1]
          · rw [if_neg c]
            by_cases z0 : 0 ≤ P i
            · have := t.all i i0 i1 z0
              rw [if_pos z0, if_pos z0, rK_o (fun z => by rw [z, hKb] at this; cases this) c (by omega)]
            · rw [if_neg z0, if_neg z0]
    · have eg : slw (rP P a b) (rK P K a b) i 4 = if 0 ≤ rP P a b i then prv 0 (rK P K a b (rP P a b i)) i else 0 := rfl
      have ew : slw P K i 4 = if 0 ≤ P i then prv 0 (K (P i)) i else 0 := rfl
      rw [if_neg (fun z => by have := z.2.2; omega), if_neg (fun z => by have := z.2.2; omega), if_neg (fun z => by have := z.1; omega), eg, ew]
      by_cases ea : i = a
      · rw [ea, rP_a hne, pm, if_neg (by decide), if_neg (by decide)]
      · by_cases eb : i = b
        · rw [eb, rP_b, hPb, pm, if_neg (by decide), if_neg (by decide)]
        · rw [rP_o eb ea]
          by_cases c : P i = a
          · rw [if_pos c, rK_b, if_pos hb.1, c, if_pos ha.1]
          · rw [if_neg c]
            by_cases z0 : 0 ≤ P i
            · have := t.all i i0 i1 z0
              rw [if_pos z0, if_pos z0, rK_o (fun z => by rw [z, hKb] at this; cases this) c (by omega)]
            · rw [if_neg z0, if_neg z0]
end
end Go.Proofs
/-! States whose slots change: the state that may be, and its words. -/
set_option linter.unusedVariables false
namespace Go.Proofs
open Go.Sl
structure SlIs (st : ref10_State) (P : Int → Int) (K : Int → List Int) (C : Int → api_Cap) : Prop where
  len : st.Slots.length = 96
  par : ∀ i, 0 ≤ i → i < 96 → (slt st i).Parent = P i
  kid : ∀ i, 0 ≤ i → i < 96 → (slt st i).Kids = K i
  cap : ∀ i, 0 ≤ i → i < 96 → (slt st i).Cap = C i
def Pst (st : ref10_State) : Int → Int := fun i => (slt st i).Parent
def Kst (st : ref10_State) : Int → List Int := fun i => (slt st i).Kids
def Cst (st : ref10_State) : Int → api_Cap := fun i => (slt st i).Cap
theorem SlIs.self {st : ref10_State} (h : st.Slots.length = 96) : SlIs st (Pst st) (Kst st) (Cst st) := ⟨h, fun _ _ _ => rfl, fun _ _ _ => rfl, fun _ _ _ => rfl⟩
theorem WF.slots {st st' : ref10_State} (h : WF st) {P : Int → Int} {K : Int → List Int} {C : Int → api_Cap} (S : SlIs st' P K C) (t : Tree P K) (hc : ∀ i, 0 ≤ i → i < 96 → CapMay (C i)) (ho : st'.Objs = st.Objs) (h2 : st'.NS = st.NS) (h3 : st'.NO = st.NO) : WF st' := by
  have O : ∀ i, obt st' i = obt st i := fun i => by unfold obt; rw [ho]
  refine ⟨S.len, by rw [ho]; exact h.lo, fun i i0 i1 => by rw [S.cap i i0 i1]; exact hc i i0 i1, fun i i0 i1 => by rw [S.par i i0 i1]; exact t.par i i0 i1, fun i i0 i1 x hx => ?_, fun x x0 x1 hx => ?_, fun i i0 i1 => by rw [S.kid i i0 i1]; exact t.nod i i0 i1, fun i i0 i1 => by rw [S.par i i0 i1]; exact t.irr i i0 i1, fun i i0 i1 => by rw [O]; exact h.obj i i0 i1, fun i i0 i1 q hq => ?_, fun i i0 i1 hq => ?_, fun q q0 q1 k5 on => ?_, fun i i0 i1 => by rw [O]; exact h.nodq i i0 i1, by rw [h2]; exact h.ns, by rw [h3]; exact h.no⟩
  · rw [S.kid i i0 i1] at hx
    have := t.kid i i0 i1 x hx
    exact ⟨this.1, this.2.1, by rw [S.par x this.1 this.2.1]; exact this.2.2⟩
  · rw [S.par x x0 x1] at hx ⊢
    have := t.all x x0 x1 hx
    rw [S.kid _ hx (t.par x x0 x1).2]; exact this
  · simp only [O] at hq ⊢
    exact h.que i i0 i1 q hq
  · simp only [O] at hq ⊢; exact h.qk i i0 i1 hq
  · simp only [O] at k5 on ⊢
    exact h.onq q q0 q1 k5 on
theorem slw_congr {P P' : Int → Int} {K K' : Int → List Int} (t : Tree P K) (hP : ∀ i, 0 ≤ i → i < 96 → P' i = P i) (hK : ∀ i, 0 ≤ i → i < 96 → K' i = K i) {i : Int} (i0 : 0 ≤ i) (i1 : i < 96) (f : Int) : slw P' K' i f = slw P K i f := by
  unfold slw
  rw [hP i i0 i1, hK i i0 i1]
  split
  · rfl
  · split
    · rfl
    · by_cases c : 0 ≤ P i
      · rw [if_pos c, if_pos c, hK _ c (t.par i i0 i1).2]
      · rw [if_neg c, if_neg c]
/-- Only words of slots differ, but no capability; those of slots are small. -/
structure SLow (v v' : List Int) : Prop where
  len : v'.length = 738
  hi : ∀ j : Nat, 480 ≤ j → v'.getD j 0 = v.getD j 0
  cap : ∀ i : Int, 0 ≤ i → i < 96 → v'.getD (5 * i).toNat 0 = v.getD (5 * i).toNat 0
  sm : ∀ i f : Int, 0 ≤ i → i < 96 → 1 ≤ f → f < 5 → 0 ≤ v'.getD (5 * i + f).toNat 0 ∧ v'.getD (5 * i + f).toNat 0 ≤ 96
theorem SLow.refl {st : ref10_State} (h : WF st) {v : List Int} (hv : IsW st v) : SLow v v := ⟨hv.len, fun _ _ => rfl, fun _ _ _ => rfl, fun i f i0 i1 f0 f1 => by rw [hv.slot i f i0 i1 (by omega) f1]; exact sl_rg h ⟨i0, i1⟩ ⟨f0, f1⟩⟩
theorem SLow.sput {v v' : List Int} (s : SLow v v') (i f n : Int) (hf : 1 ≤ f) (hn : -1 ≤ n ∧ n < 96) : SLow v (sput v' i f n) := by
  refine ⟨by rw [sput_len]; exact s.len, fun j hj => ?_, fun k k0 k1 => ?_, fun k g k0 k1 g0 g1 => ?_⟩
  · rw [getD_sput s.len, if_neg]
    · exact s.hi j hj
    · rintro ⟨q, e⟩; unfold InSlot at q; omega
  · rw [getD_sput s.len, if_neg]
    · exact s.cap k k0 k1
    · rintro ⟨q, e⟩; unfold InSlot at q; omega
  · rw [getD_sput s.len]
    split
    · omega
    · exact s.sm k g k0 k1 g0 g1
theorem SLow.raw {v v' : List Int} (s : SLow v v') {i f : Int} (i0 : 0 ≤ i) (i1 : i < 96) (f0 : 1 ≤ f) (f1 : f < 5) : v'.getD (5 * i + f).toNat 0 = sget v' i f + 1 := by
  have := s.sm i f i0 i1 f0 f1
  unfold sget
  rw [if_pos ⟨i0, i1, by omega, f1⟩]
  split <;> omega
theorem SLow.link {v v' : List Int} (s : SLow v v') (kid par : Int) (hk : 0 ≤ kid ∧ kid < 96) (hp : 0 ≤ par ∧ par < 96) : SLow v (linkTo v' kid par) := by
  have := sget_rg v' par 2
  unfold linkTo
  exact ((((s.sput _ _ _ (by decide) (by omega)).sput _ _ _ (by decide) (by omega)).sput _ _ _ (by decide) (by omega)).sput _ _ _ (by decide) (by omega)).sput _ _ _ (by decide) (by omega)
theorem SLow.beside {v v' : List Int} (s : SLow v v') (i b e : Int) (hb : -1 ≤ b ∧ b < 96) (he : -1 ≤ e ∧ e < 96) : SLow v (besideTo v' i b e) := by
  unfold besideTo
  split
  · exact (s.sput _ _ _ (by decide) hb).sput _ _ _ (by decide) he
  · exact (s.sput _ _ _ (by decide) hb).sput _ _ _ (by decide) he
theorem SLow.clear {v v' : List Int} (s : SLow v v') (i : Int) : SLow v (clearTo v' i) := by
  unfold clearTo
  exact ((s.sput _ _ _ (by decide) (by decide)).sput _ _ _ (by decide) (by decide)).sput _ _ _ (by decide) (by decide)
theorem SLow.unlink {v v' : List Int} (s : SLow v v') (kid : Int) : SLow v (unlinkTo v' kid) := by
  unfold unlinkTo
  exact (s.beside _ _ _ (sget_rg _ _ _) (sget_rg _ _ _)).clear _
theorem SLow.move {v v' : List Int} (s : SLow v v') (a b : Int) (hb : 0 ≤ b ∧ b < 96) : SLow v (moveTo v' a b) := by
  unfold moveTo
  split
  · exact ((((s.sput _ _ _ (by decide) (sget_rg _ _ _)).sput _ _ _ (by decide) (sget_rg _ _ _)).sput _ _ _ (by decide) (sget_rg _ _ _)).beside _ _ _ (by omega) (by omega)).clear _
  · exact s
theorem SLow.adopt {v : List Int} (b : Int) (hb : 0 ≤ b ∧ b < 96) : ∀ (l : List Int) {v' : List Int}, SLow v v' → SLow v (adopt v' b l)
  | [], _, s => s
  | c :: r, v', s => SLow.adopt b hb r (s.sput c 1 b (by decide) (by omega))
theorem SLow.replace {v v' : List Int} (s : SLow v v') (a b : Int) (l : List Int) (hb : 0 ≤ b ∧ b < 96) : SLow v (replaceTo v' a b l) := by
  unfold replaceTo
  exact ((SLow.adopt b hb l (s.move a b hb)).sput _ _ _ (by decide) (sget_rg _ _ _)).sput _ _ _ (by decide) (by decide)
theorem IsW.slots {st st' : ref10_State} {v v' : List Int} (h : WF st) (hv : IsW st v) {P : Int → Int} {K : Int → List Int} {C : Int → api_Cap} (S : SlIs st' P K C) (t : Tree P K) (ho : st'.Objs = st.Objs) (h2 : st'.NS = st.NS) (h3 : st'.NO = st.NO) (s : SLow v v') (tw : TW P K v') (hc : ∀ i, 0 ≤ i → i < 96 → C i = (slt st i).Cap) : IsW st' v' := by
  have O : ∀ i, obt st' i = obt st i := fun i => by unfold obt; rw [ho]
  refine ⟨s.len, fun i f i0 i1 f0 f1 => ?_, fun i f i0 i1 f0 f1 => ?_, by rw [s.hi _ (by decide), h2]; exact hv.ns, by rw [s.hi _ (by decide), h3]; exact hv.no⟩
  · by_cases e : f = 0
    · subst e
      have a1 := hv.slot i 0 i0 i1 (by decide) (by decide)
      rw [show 5 * i + 0 = 5 * i by omega] at a1 ⊢
      rw [s.cap i i0 i1, a1]
      unfold sl
      rw [if_pos rfl, if_pos rfl, S.cap i i0 i1, hc i i0 i1]
    · rw [s.raw i0 i1 (by omega) f1, tw i f i0 i1 (by omega) f1, sl_slw st' i (by omega)]
      have : slw (fun i => (slt st' i).Parent) (fun i => (slt st' i).Kids) i f = slw P K i f := slw_congr t S.par S.kid i0 i1 f
      rw [this]; omega
  · rw [s.hi _ (by omega), hv.obj i f i0 i1 f0 f1]
    unfold ob
    simp only [O]
end Go.Proofs
/-! Appends. -/
set_option linter.unusedVariables false
namespace Go.Proofs
open Go.Sl
theorem app_ok {α : Type} {xs ys : List α} (h : xs.length + ys.length ≤ 4294967296) : app xs ys = some (xs ++ ys) := by
  unfold app; rw [decide_eq_true h, cond_true]
theorem app_one {l : List Int} {x : Int} (h : l.length < 4294967296) : app l [x] = some (l ++ [x]) := app_ok (by simp; omega)
end Go.Proofs
/-! Slots linked: the program's words are the state's. -/
set_option linter.unusedVariables false
namespace Go.Proofs
open Go.Sl
theorem rslot_ok (i : Int) : ref10_slot.f i = some (decide (InSlot i 0)) := by
  unfold ref10_slot.f InSlot
  congr 1
  by_cases h1 : 0 ≤ i <;> by_cases h2 : i < 96 <;> simp [h1, h2]
theorem at_slot {st : ref10_State} (h : st.Slots.length = 96) {a : Int} (ha : 0 ≤ a ∧ a < 96) : at_ st.Slots a = some (slt st a) := at_getD ha.1 (by rw [h]; omega)
theorem sg_set {S : List ref10_Slot} (h : S.length = 96) {a i : Int} (ha : 0 ≤ a ∧ a < 96) (hi : 0 ≤ i) (x : ref10_Slot) : (S.set a.toNat x).getD i.toNat default = if i = a then x else S.getD i.toNat default := by
  rw [getD_setD]
  by_cases e : i = a
  · rw [if_pos (by omega), if_pos e]
  · rw [if_neg (by omega), if_neg e]
theorem InSlot.rg {i : Int} (h : InSlot i 0) : 0 ≤ i ∧ i < 96 := ⟨h.1, h.2.1⟩
theorem InSlot.of {i f : Int} (h : 0 ≤ i ∧ i < 96) (hf : 0 ≤ f ∧ f < 5) : InSlot i f := ⟨h.1, h.2, hf.1, hf.2⟩
theorem Pst_sget {st : ref10_State} (h : WF st) {v : List Int} (hv : IsW st v) {i : Int} (hi : 0 ≤ i ∧ i < 96) : sget v i 1 = (slt st i).Parent := by
  have := hv.tw h i 1 hi.1 hi.2 (by decide) (by decide)
  rw [this]; show (slt st i).Parent + 1 - 1 = _; omega
theorem tree_st {st : ref10_State} (h : WF st) : Tree (Pst st) (Kst st) := h.tree
theorem tw_st {st : ref10_State} (h : WF st) {v : List Int} (hv : IsW st v) : TW (Pst st) (Kst st) v := hv.tw h
theorem Tree.klen {P : Int → Int} {K : Int → List Int} (t : Tree P K) {i : Int} (i0 : 0 ≤ i) (i1 : i < 96) : (K i).length ≤ 96 := nodup_len 96 (t.nod i i0 i1) fun x hx => by have := t.kid i i0 i1 x hx; omega
/-- The rest of a state. -/
structure Rest (st st' : ref10_State) : Prop where
  ob : st'.Objs = st.Objs
  ns : st'.NS = st.NS
  no : st'.NO = st.NO
theorem Rest.refl (st : ref10_State) : Rest st st := ⟨rfl, rfl, rfl⟩
theorem Rest.trans {a b c : ref10_State} (h : Rest a b) (k : Rest b c) : Rest a c := ⟨k.ob.trans h.ob, k.ns.trans h.ns, k.no.trans h.no⟩
def lP (P : Int → Int) (kid par : Int) : Int → Int := fun i => if i = kid then par else P i
def lK (K : Int → List Int) (kid par : Int) : Int → List Int := fun i => if i = par then kid :: K par else K i
def uP (P : Int → Int) (kid : Int) : Int → Int := fun i => if i = kid then -1 else P i
def uK (K : Int → List Int) (kid p : Int) : Int → List Int := fun i => if i = p then (K p).erase kid else K i
theorem link_pl {st : ref10_State} (h : WF st) {v : List Int} (hv : IsW st v) (kid par : Int) : ∃ n st' v', ref10_State_Link.f st kid par = some (n, st') ∧ VM.run plainI (cdt_Link.f kid par) v = some (eN' n, v') ∧ 0 ≤ n ∧ n ≤ 14 ∧ WF st' ∧ IsW st' v' ∧ Rest st st' ∧
    (n ≠ 0 → st' = st) ∧ (n = 0 → InSlot kid 0 ∧ InSlot par 0 ∧ Pst st kid = -1 ∧ kid ≠ par ∧ SlIs st' (lP (Pst st) kid par) (lK (Kst st) kid par) (Cst st)) ∧ (InSlot kid 0 → InSlot par 0 → Pst st kid = -1 → kid ≠ par → n = 0) ∧ (n = 2 ∨ n = 10 ∨ n = 0) ∧ n = linkBad v kid par := by
  have g := hv.good h
  rw [link_ok g]
  unfold ref10_State_Link.f
  rw [rslot_ok, rslot_ok, Option.bind_some, Option.bind_some]
  by_cases h1 : InSlot kid 0
  · by_cases h2 : InSlot par 0
    · have r1 := h1.rg
      have r2 := h2.rg
      rw [decide_eq_true h1, decide_eq_true h2]
      simp only [Bool.not_true, Bool.or_false, cond_false]
      rw [at_slot h.ls r1]
      have hp := Pst_sget h hv r1
      have pr := h.par kid r1.1 r1.2
      by_cases h3 : kid = par ∨ sget v kid 1 ≠ -1
      · have hb : linkBad v kid par = 10 := by unfold linkBad; rw [if_neg (fun q => q ⟨h1, h2⟩), if_pos h3]
        have key : (bif kid == par then some true else (some (slt st kid)).bind fun x14 => some (decide (0 ≤ x14.Parent))) = some true := by
          by_cases e : kid = par
          · have : (kid == par) = true := by simpa using e
            rw [this]; rfl
          · have e1 : (kid == par) = false := by simpa using e
            rw [e1, cond_false, Option.bind_some, decide_eq_true]
            rcases h3 with q | q
            · exact absurd q e
            · omega
        rw [key, Option.bind_some, cond_true, hb]
        refine ⟨10, st, v, rfl, rfl, by decide, by decide, h, hv, Rest.refl st, fun _ => rfl, fun z => absurd z (by decide), fun _ _ z1 z2 => ?_, by decide, rfl⟩
        exfalso
        rcases h3 with q | q
        · exact z2 q
        · unfold Pst at z1; omega
      · have hb : linkBad v kid par = 0 := by unfold linkBad; rw [if_neg (fun q => q ⟨h1, h2⟩), if_neg h3]
        have n1 : ¬ kid = par := fun e => h3 (.inl e)
        have n2 : (slt st kid).Parent = -1 := by
          rcases Int.lt_or_le (slt st kid).Parent 0 with q | q
          · omega
          · exact absurd (.inr (by omega)) h3
        have e1 : (kid == par) = false := by simpa using n1
        rw [e1, cond_false, Option.bind_some, n2, Option.bind_some, decide_eq_false (by decide), cond_false, Option.bind_some, hb]
        have l1 : (st.Slots.set kid.toNat ({ slt st kid with Parent := par } : ref10_Slot)).length = 96 := by simp [h.ls]
        have a1 : at_ (st.Slots.set kid.toNat ({ slt st kid with Parent := par } : ref10_Slot)) par = some (slt st par) := by
          rw [at_getD r2.1 (by rw [l1]; omega), sg_set h.ls r1 r2.1, if_neg (fun z => n1 z.symm)]; rfl
        have hkl := tree_st h |>.klen r2.1 r2.2
        unfold Kst at hkl
        rw [a1, Option.bind_some, app_ok (by simp only [List.length_cons, List.length_nil]; omega), Option.bind_some, Option.bind_some]
        have S : SlIs ({ st with Slots := (st.Slots.set kid.toNat ({ slt st kid with Parent := par } : ref10_Slot)).set par.toNat ({ slt st par with Kids := [kid] ++ (slt st par).Kids } : ref10_Slot) } : ref10_State) (lP (Pst st) kid par) (lK (Kst st) kid par) (Cst st) := by
          have E : ∀ i, 0 ≤ i → slt ({ st with Slots := (st.Slots.set kid.toNat ({ slt st kid with Parent := par } : ref10_Slot)).set par.toNat ({ slt st par with Kids := [kid] ++ (slt st par).Kids } : ref10_Slot) } : ref10_State) i = if i = par then ({ slt st par with Kids := [kid] ++ (slt st par).Kids } : ref10_Slot) else if i = kid then ({ slt st kid with Parent := par } : ref10_Slot) else slt st i := fun i i0 => by
            show (List.set _ _ _).getD i.toNat default = _
            rw [sg_set l1 r2 i0, sg_set h.ls r1 i0]; rfl
          refine ⟨by simp [h.ls], fun i i0 i1 => ?_, fun i i0 i1 => ?_, fun i i0 i1 => ?_⟩
          · rw [E i i0]; unfold lP Pst
            by_cases c : i = par
            · rw [if_pos c, if_neg (fun z => n1 (z.symm.trans c)), c]
            · rw [if_neg c]
              by_cases c2 : i = kid
              · rw [if_pos c2, if_pos c2]
              · rw [if_neg c2, if_neg c2]
          · rw [E i i0]; unfold lK Kst
            by_cases c : i = par
            · rw [if_pos c, if_pos c]; rfl
            · rw [if_neg c, if_neg c]
              split
              · rename_i e; rw [e]
              · rfl
          · rw [E i i0]; unfold Cst
            split
            · rename_i e; rw [e]
            · split
              · rename_i e; rw [e]
              · rfl
        have t := tree_st h
        have t' := t.link r1 r2 n2 n1
        have w' := TW.link t hv.len (tw_st h hv) r1 r2 n2 n1
        exact ⟨0, _, _, rfl, rfl, by decide, by decide, h.slots S t' h.cap rfl rfl rfl, hv.slots h S t' rfl rfl rfl ((SLow.refl h hv).link kid par r1 r2) w' (fun _ _ _ => rfl), ⟨rfl, rfl, rfl⟩, fun z => absurd rfl z, fun _ => ⟨h1, h2, n2, n1, S⟩, fun _ _ _ _ => rfl, by decide, rfl⟩
    · have hb : linkBad v kid par = 2 := by unfold linkBad; rw [if_pos (fun q => h2 q.2)]
      rw [hb, decide_eq_false h2, Bool.not_false, Bool.or_true, cond_true]
      exact ⟨2, st, v, rfl, rfl, by decide, by decide, h, hv, Rest.refl st, fun _ => rfl, fun z => absurd z (by decide), fun _ z => absurd z h2, by decide, rfl⟩
  · have hb : linkBad v kid par = 2 := by unfold linkBad; rw [if_pos (fun q => h1 q.1)]
    rw [hb, decide_eq_false h1, Bool.not_false, Bool.true_or, cond_true]
    exact ⟨2, st, v, rfl, rfl, by decide, by decide, h, hv, Rest.refl st, fun _ => rfl, fun z => absurd z (by decide), fun z => absurd z h1, by decide, rfl⟩
end Go.Proofs
/-! Slots unlinked, of a state. -/
set_option linter.unusedVariables false
namespace Go.Proofs
open Go.Sl
theorem without_t (l : List Int) (n : Int) (hl : l.length ≤ 1000) : ∀ (m k : Nat) (i : Int) (acc : List Int), 0 ≤ i → i ≤ l.length → (l.length : Int) - i = m → m < k → acc.length + m ≤ 1000 → ref10_without.l1 l n k (i, true, acc) = some (acc ++ l.drop i.toNat) := by
  intro m
  induction m with
  | zero =>
    intro k i acc h0 h1 h2 hk ha
    obtain ⟨k, rfl⟩ : ∃ q, k = q + 1 := ⟨k - 1, by omega⟩
    unfold ref10_without.l1
    rw [decide_eq_false (by omega), cond_false, List.drop_eq_nil_of_le (by omega), List.append_nil]
  | succ m ih =>
    intro k i acc h0 h1 h2 hk ha
    obtain ⟨k, rfl⟩ : ∃ q, k = q + 1 := ⟨k - 1, by omega⟩
    unfold ref10_without.l1
    have hx : at_ l i = some (l[i.toNat]'(by omega)) := by unfold at_; rw [decide_eq_true h0, cond_true, List.getElem?_eq_getElem]
    rw [decide_eq_true (by omega), cond_true, hx, Option.bind_some, Bool.not_true, Bool.and_false, cond_false, Option.bind_some, app_one (by omega), Option.bind_some, w64_id (by omega) (by omega), ih k (i + 1) _ (by omega) (by omega) (by omega) (by omega) (by simp; omega)]
    rw [List.drop_eq_getElem_cons (show i.toNat < l.length by omega), List.append_assoc]
    congr 2
    show l[i.toNat] :: _ = _
    rw [show (i + 1).toNat = i.toNat + 1 by omega]; rfl
theorem without_f (l : List Int) (n : Int) (hl : l.length ≤ 1000) : ∀ (m k : Nat) (i : Int) (acc : List Int), 0 ≤ i → i ≤ l.length → (l.length : Int) - i = m → m + 1 < k → acc.length + m ≤ 1000 → ref10_without.l1 l n k (i, false, acc) = some (acc ++ (l.drop i.toNat).erase n) := by
  intro m
  induction m with
  | zero =>
    intro k i acc h0 h1 h2 hk ha
    obtain ⟨k, rfl⟩ : ∃ q, k = q + 1 := ⟨k - 1, by omega⟩
    unfold ref10_without.l1
    rw [decide_eq_false (by omega), cond_false, List.drop_eq_nil_of_le (by omega), List.erase_nil, List.append_nil]
  | succ m ih =>
    intro k i acc h0 h1 h2 hk ha
    obtain ⟨k, rfl⟩ : ∃ q, k = q + 1 := ⟨k - 1, by omega⟩
    unfold ref10_without.l1
    have hx : at_ l i = some (l[i.toNat]'(by omega)) := by unfold at_; rw [decide_eq_true h0, cond_true, List.getElem?_eq_getElem]
    rw [decide_eq_true (by omega), cond_true, hx, Option.bind_some, Bool.not_false, Bool.and_true, w64_id (by omega) (by omega)]
    rw [List.drop_eq_getElem_cons (show i.toNat < l.length by omega)]
    by_cases e : l[i.toNat] = n
    · have e1 : (l[i.toNat] == n) = true := by simpa using e
      rw [e1, cond_true, without_t l n hl m k (i + 1) acc (by omega) (by omega) (by omega) (by omega) (by omega), e, List.erase_cons_head, show (i + 1).toNat = i.toNat + 1 by omega]
    · have e1 : (l[i.toNat] == n) = false := by simpa using e
      rw [e1, cond_false, Option.bind_some, app_one (by omega), Option.bind_some, ih k (i + 1) _ (by omega) (by omega) (by omega) (by omega) (by simp; omega), List.erase_cons_tail (by simpa using e), List.append_assoc, show (i + 1).toNat = i.toNat + 1 by omega]
      rfl
theorem without_ok (l : List Int) (n : Int) (hl : l.length ≤ 1000) {k : Nat} (hk : l.length + 1 < k) : ref10_without.f k l n = some (l.erase n) := by
  unfold ref10_without.f
  rw [without_f l n hl l.length k 0 [] (by decide) (by omega) (by omega) (by omega) (by simpa using hl)]
  rfl
theorem runlink_ok {st : ref10_State} (h : WF st) (kid : Int) {k : Nat} (hk : 100 ≤ k) : ∃ n st', ref10_State_Unlink.f k st kid = some (n, st') ∧ 0 ≤ n ∧ n ≤ 14 ∧ WF st' ∧ Rest st st' ∧
    (¬ InSlot kid 0 → n = 2 ∧ st' = st) ∧ (InSlot kid 0 → n = 0 ∧ (Pst st kid = -1 → st' = st) ∧ (0 ≤ Pst st kid → SlIs st' (uP (Pst st) kid) (uK (Kst st) kid (Pst st kid)) (Cst st))) := by
  unfold ref10_State_Unlink.f
  rw [rslot_ok, Option.bind_some]
  by_cases h1 : InSlot kid 0
  · have r1 := h1.rg
    have pr := h.par kid r1.1 r1.2
    rw [decide_eq_true h1, Bool.not_true, cond_false, at_slot h.ls r1, Option.bind_some]
    by_cases c : 0 ≤ (slt st kid).Parent
    · rw [decide_eq_true c, cond_true]
      have ir := h.irr kid r1.1 r1.2
      have t := tree_st h
      have hkl := t.klen c pr.2
      unfold Kst at hkl
      rw [at_slot h.ls ⟨c, pr.2⟩, Option.bind_some, without_ok _ _ (by omega) (by omega), Option.bind_some, Option.bind_some]
      have l1 : (st.Slots.set (slt st kid).Parent.toNat ({ slt st (slt st kid).Parent with Kids := (slt st (slt st kid).Parent).Kids.erase kid } : ref10_Slot)).length = 96 := by simp [h.ls]
      have a1 : at_ (st.Slots.set (slt st kid).Parent.toNat ({ slt st (slt st kid).Parent with Kids := (slt st (slt st kid).Parent).Kids.erase kid } : ref10_Slot)) kid = some (slt st kid) := by
        rw [at_getD r1.1 (by rw [l1]; omega), sg_set h.ls ⟨c, pr.2⟩ r1.1, if_neg (fun z => ir z.symm)]; rfl
      rw [a1, Option.bind_some]
      generalize hq : (slt st kid).Parent = p at *
      have S : SlIs ({ st with Slots := (st.Slots.set p.toNat ({ slt st p with Kids := (slt st p).Kids.erase kid } : ref10_Slot)).set kid.toNat ({ slt st kid with Parent := -1 } : ref10_Slot) } : ref10_State) (uP (Pst st) kid) (uK (Kst st) kid p) (Cst st) := by
        have E : ∀ i, 0 ≤ i → slt ({ st with Slots := (st.Slots.set p.toNat ({ slt st p with Kids := (slt st p).Kids.erase kid } : ref10_Slot)).set kid.toNat ({ slt st kid with Parent := -1 } : ref10_Slot) } : ref10_State) i = if i = kid then ({ slt st kid with Parent := -1 } : ref10_Slot) else if i = p then ({ slt st p with Kids := (slt st p).Kids.erase kid } : ref10_Slot) else slt st i := fun i i0 => by
          show (List.set _ _ _).getD i.toNat default = _
          rw [sg_set l1 r1 i0, sg_set h.ls ⟨c, pr.2⟩ i0]; rfl
        refine ⟨by simp [h.ls], fun i i0 i1 => ?_, fun i i0 i1 => ?_, fun i i0 i1 => ?_⟩
        · rw [E i i0]; unfold uP Pst
          split
          · rfl
          · split
            · rename_i e; rw [e]
            · rfl
        · rw [E i i0]; unfold uK Kst
          by_cases c : i = kid
          · rw [if_pos c, if_neg (fun z => ir (z.symm.trans c)), c]
          · rw [if_neg c]
            by_cases c2 : i = p
            · rw [if_pos c2, if_pos c2]
            · rw [if_neg c2, if_neg c2]
        · rw [E i i0]; unfold Cst
          split
          · rename_i e; rw [e]
          · split
            · rename_i e; rw [e]
            · rfl
      have t' := t.unlink r1 hq c
      have hp2 : Pst st kid = p := hq
      exact ⟨0, _, rfl, by decide, by decide, h.slots S t' h.cap rfl rfl rfl, ⟨rfl, rfl, rfl⟩, fun z => absurd h1 z, fun _ => ⟨rfl, fun z => by unfold Pst at z; omega, fun _ => by rw [hp2]; exact S⟩⟩
    · rw [decide_eq_false c, cond_false]
      exact ⟨0, st, rfl, by decide, by decide, h, Rest.refl st, fun z => absurd h1 z, fun _ => ⟨rfl, fun _ => rfl, fun z => absurd z c⟩⟩
  · rw [decide_eq_false h1]
    exact ⟨2, st, rfl, by decide, by decide, h, Rest.refl st, fun _ => ⟨rfl, rfl⟩, fun z => absurd z h1⟩
end Go.Proofs
/-! The kids that words tell, and the leaf. -/
set_option linter.unusedVariables false
namespace Go.Proofs
open Go.Sl
/-- A row of slots, each the next one's, from x on. -/
def Ch (s : List Int) : Int → List Int → Prop
  | x, [] => x = -1
  | x, c :: r => x = c ∧ 0 ≤ c ∧ c < 96 ∧ Ch s (sget s c 3) r
theorem kids_l {s : List Int} (g : Good s) : ∀ (l : List Int) (x : Int) (acc : List Int) (k : Nat), Ch s x l → acc.length + l.length ≤ 96 → l.length < k → VM.run plainI (cdt_Kids.l1 k (x, acc)) s = some (acc ++ l, s)
  | [], x, acc, k, h, hl, hk => by
    obtain ⟨k, rfl⟩ : ∃ q, k = q + 1 := ⟨k - 1, by simp at hk; omega⟩
    have h : x = -1 := h
    subst h
    unfold cdt_Kids.l1
    rw [List.append_nil]; rfl
  | c :: r, x, acc, k, h, hl, hk => by
    obtain ⟨k, rfl⟩ : ∃ q, k = q + 1 := ⟨k - 1, by simp at hk; omega⟩
    obtain ⟨rfl, c0, c1, h⟩ := h
    simp only [List.length_cons] at hl hk
    unfold cdt_Kids.l1
    have e1 : (x != -1) = true := by simp; omega
    have e2 : decide ((acc.length : Int) < 96) = true := by simp; omega
    rw [e1, e2, Bool.and_self, cond_true, runB, runO, app_one (by omega), Option.map_some, Option.bind_some, runB, sget_ok g, Option.bind_some]
    simp only []
    rw [kids_l g r _ _ k h (by simp; omega) (by omega)]
    simp
theorem kidsw_ok {s : List Int} (g : Good s) {i : Int} {l : List Int} (h : Ch s (sget s i 2) l) (hl : l.length ≤ 96) {k : Nat} (hk : 100 ≤ k) : VM.run plainI (cdt_Kids.f k i) s = some (l, s) := by
  unfold cdt_Kids.f
  rw [runB, sget_ok g, Option.bind_some, runB]
  simp only []
  rw [kids_l g l _ [] k h (by simpa using hl) (by omega)]
  rfl
theorem kids_l_any {s : List Int} (g : Good s) : ∀ (m : Nat) (x : Int) (acc : List Int) (k : Nat), -1 ≤ x → x < 96 → acc.length + m = 96 → m < k → (∀ y ∈ acc, 0 ≤ y ∧ y < 96) → ∃ l, VM.run plainI (cdt_Kids.l1 k (x, acc)) s = some (l, s) ∧ l.length ≤ 96 ∧ ∀ y ∈ l, 0 ≤ y ∧ y < 96 := by
  intro m
  induction m with
  | zero =>
    intro x acc k x0 x1 hl hk ha
    obtain ⟨k, rfl⟩ : ∃ q, k = q + 1 := ⟨k - 1, by omega⟩
    unfold cdt_Kids.l1
    have e2 : decide ((acc.length : Int) < 96) = false := by simp; omega
    rw [e2, Bool.and_false]
    exact ⟨acc, rfl, by omega, ha⟩
  | succ m ih =>
    intro x acc k x0 x1 hl hk ha
    obtain ⟨k, rfl⟩ : ∃ q, k = q + 1 := ⟨k - 1, by omega⟩
    unfold cdt_Kids.l1
    have e2 : decide ((acc.length : Int) < 96) = true := by simp; omega
    rw [e2, Bool.and_true]
    by_cases c : x = -1
    · subst c
      exact ⟨acc, rfl, by omega, ha⟩
    · have e1 : (x != -1) = true := by simpa using c
      rw [e1, cond_true, runB, runO, app_one (by omega), Option.map_some, Option.bind_some, runB, sget_ok g, Option.bind_some]
      have hr := sget_rg s x 3
      exact ih _ _ k hr.1 hr.2 (by simp; omega) (by omega) (fun y hy => by
        rcases List.mem_append.1 hy with z | z
        · exact ha y z
        · rw [List.mem_singleton] at z; omega)
theorem kids_any {s : List Int} (g : Good s) (i : Int) {k : Nat} (hk : 100 ≤ k) : ∃ l, VM.run plainI (cdt_Kids.f k i) s = some (l, s) ∧ l.length ≤ 96 ∧ ∀ y ∈ l, 0 ≤ y ∧ y < 96 := by
  unfold cdt_Kids.f
  rw [runB, sget_ok g, Option.bind_some, runB]
  have hr := sget_rg s i 2
  obtain ⟨l, e, h1, h2⟩ := kids_l_any g 96 (sget s i 2) [] k hr.1 hr.2 (by simp) (by omega) (fun y hy => by cases hy)
  simp only []
  rw [e]
  exact ⟨l, rfl, h1, h2⟩
/-- The leaf, so many steps on. -/
def leafN (s : List Int) : Nat → Int → Int
  | 0, x => x
  | n + 1, x => if sget s x 2 = -1 then x else leafN s n (sget s x 2)
theorem leafN_rg (s : List Int) : ∀ (n : Nat) (x : Int), x < 96 → leafN s n x < 96
  | 0, x, h => h
  | n + 1, x, h => by
    unfold leafN
    split
    · exact h
    · exact leafN_rg s n _ (sget_rg s x 2).2
theorem leaf_l {s : List Int} (g : Good s) : ∀ (m k : Nat) (n x : Int), 0 ≤ n → n + m = 96 → m < k → VM.run plainI (cdt_Leaf.l1 k (n, x)) s = some (leafN s m x, s)
  | 0, k, n, x, h0, h1, hk => by
    obtain ⟨k, rfl⟩ : ∃ q, k = q + 1 := ⟨k - 1, by omega⟩
    unfold cdt_Leaf.l1
    rw [decide_eq_false (by omega)]; rfl
  | m + 1, k, n, x, h0, h1, hk => by
    obtain ⟨k, rfl⟩ : ∃ q, k = q + 1 := ⟨k - 1, by omega⟩
    unfold cdt_Leaf.l1
    rw [decide_eq_true (by omega), cond_true, runB, sget_ok g, Option.bind_some, runC]
    simp only []
    by_cases c : sget s x 2 = -1
    · have e : (sget s x 2 == -1) = true := by simpa using c
      rw [e, cond_true, runR]
      show _ = some (if sget s x 2 = -1 then x else _, s)
      rw [if_pos c]
    · have e : (sget s x 2 == -1) = false := by simpa using c
      rw [e, cond_false, w64_id (by omega) (by omega), leaf_l g m k (n + 1) _ (by omega) (by omega) (by omega)]
      show _ = some (if sget s x 2 = -1 then x else _, s)
      rw [if_neg c]
theorem leaf_ok {s : List Int} (g : Good s) (i : Int) {k : Nat} (hk : 100 ≤ k) : VM.run plainI (cdt_Leaf.f k i) s = some (if InSlot i 0 then leafN s 96 i else -1, s) := by
  unfold cdt_Leaf.f
  rw [runB, runO, sthere_ok, Option.map_some, Option.bind_some, runC]
  by_cases c : InSlot i 0
  · rw [decide_eq_true c, if_pos c, Bool.not_true, cond_false, runB, leaf_l g 96 k 0 i (by decide) (by decide) (by omega), Option.bind_some]; rfl
  · rw [decide_eq_false c, if_neg c]; rfl
end Go.Proofs
/-! Slots unlinked: the program's words are the state's. -/
set_option linter.unusedVariables false
namespace Go.Proofs
open Go.Sl
theorem beside_ok {s : List Int} (g : GoodU s) (i b e : Int) (hb : -1 ≤ b ∧ b < 96) (he : -1 ≤ e ∧ e < 96) : VM.run plainI (cdt_beside.f i b e) s = some ((), besideTo s i b e) := by
  unfold cdt_beside.f besideTo
  rw [runB, sget_ok g.1, Option.bind_some, runB, sget_ok g.1, Option.bind_some, runC]
  simp only []
  by_cases c : sget s i 4 = -1
  · have e1 : (sget s i 4 != -1) = false := by simpa using c
    rw [e1, cond_false, if_neg (fun z => z c), runB, parent_ok g.1, Option.bind_some, runB]
    simp only []
    have g1 := goodU_sput g (sget s i 1) 2 b (by omega)
    rw [sput_ok g.1 _ _ _ (by omega), Option.bind_some, runB, sput_ok g1.1 _ _ _ (by omega), Option.bind_some]; rfl
  · have e1 : (sget s i 4 != -1) = true := by simpa using c
    rw [e1, cond_true, if_pos c, runB]
    have g1 := goodU_sput g (sget s i 4) 3 b (by omega)
    rw [sput_ok g.1 _ _ _ (by omega), Option.bind_some, runB, sput_ok g1.1 _ _ _ (by omega), Option.bind_some]; rfl
theorem goodU_beside {s : List Int} (g : GoodU s) (i b e : Int) (hb : -1 ≤ b ∧ b < 96) (he : -1 ≤ e ∧ e < 96) : GoodU (besideTo s i b e) := by
  unfold besideTo
  split
  · exact goodU_sput (goodU_sput g _ _ _ (by omega)) _ _ _ (by omega)
  · exact goodU_sput (goodU_sput g _ _ _ (by omega)) _ _ _ (by omega)
theorem clear_ok {s : List Int} (g : GoodU s) (i : Int) : VM.run plainI (cdt_clear.f i) s = some ((), clearTo s i) := by
  unfold cdt_clear.f clearTo
  have g1 := goodU_sput g i 1 (-1) (by decide)
  have g2 := goodU_sput g1 i 3 (-1) (by decide)
  rw [runB, sput_ok g.1 _ _ _ (by decide), Option.bind_some, runB, sput_ok g1.1 _ _ _ (by decide), Option.bind_some, runB, sput_ok g2.1 _ _ _ (by decide), Option.bind_some]; rfl
theorem goodU_clear {s : List Int} (g : GoodU s) (i : Int) : GoodU (clearTo s i) := by
  unfold clearTo
  exact goodU_sput (goodU_sput (goodU_sput g _ _ _ (by decide)) _ _ _ (by decide)) _ _ _ (by decide)
theorem goodU_unlink {s : List Int} (g : GoodU s) (i : Int) : GoodU (unlinkTo s i) := goodU_clear (goodU_beside g _ _ _ (sget_rg _ _ _) (sget_rg _ _ _)) _
theorem unlink_ok {s : List Int} (g : GoodU s) (kid : Int) : VM.run plainI (cdt_Unlink.f kid) s = some (if InSlot kid 0 then none else some 2, if InSlot kid 0 ∧ sget s kid 1 ≠ -1 then unlinkTo s kid else s) := by
  unfold cdt_Unlink.f
  rw [runB, runO, sthere_ok, Option.map_some, Option.bind_some, runC]
  by_cases c : InSlot kid 0
  · rw [decide_eq_true c, if_pos c, Bool.not_true, cond_false, runB, parent_ok g.1, Option.bind_some, runC]
    simp only []
    by_cases c2 : sget s kid 1 = -1
    · have e1 : (sget s kid 1 == -1) = true := by simpa using c2
      rw [e1, cond_true, if_neg (fun z => z.2 c2)]; rfl
    · have e1 : (sget s kid 1 == -1) = false := by simpa using c2
      rw [e1, cond_false, if_pos ⟨c, c2⟩, runB, sget_ok g.1, Option.bind_some, runB, sget_ok g.1, Option.bind_some, runB]
      simp only []
      rw [beside_ok g _ _ _ (sget_rg _ _ _) (sget_rg _ _ _), Option.bind_some, runB, clear_ok (goodU_beside g _ _ _ (sget_rg _ _ _) (sget_rg _ _ _)), Option.bind_some]; rfl
  · rw [decide_eq_false c, if_neg c, if_neg (fun z => c z.1)]; rfl
theorem unlink_pl {st : ref10_State} (h : WF st) {v : List Int} (hv : IsW st v) (kid : Int) {k : Nat} (hk : 100 ≤ k) : ∃ n st' v', ref10_State_Unlink.f k st kid = some (n, st') ∧ VM.run plainI (cdt_Unlink.f kid) v = some (eN' n, v') ∧ 0 ≤ n ∧ n ≤ 14 ∧ WF st' ∧ IsW st' v' ∧ Rest st st' ∧
    (¬ InSlot kid 0 → n = 2 ∧ st' = st) ∧ (InSlot kid 0 → n = 0 ∧ (Pst st kid = -1 → st' = st) ∧ (0 ≤ Pst st kid → SlIs st' (uP (Pst st) kid) (uK (Kst st) kid (Pst st kid)) (Cst st))) := by
  have g := hv.good h
  obtain ⟨n, st', e, n0, n1, h', rs, e1, e2⟩ := runlink_ok h kid hk
  rw [unlink_ok g]
  by_cases h1 : InSlot kid 0
  · have r1 := h1.rg
    have hp := Pst_sget h hv r1
    have pr := h.par kid r1.1 r1.2
    obtain ⟨z0, z1, z2⟩ := e2 h1
    subst z0
    by_cases c : 0 ≤ (slt st kid).Parent
    · have t := tree_st h
      have S := z2 c
      rw [if_pos h1]
      refine ⟨0, st', _, e, rfl, n0, n1, h', ?_, rs, e1, e2⟩
      rw [if_pos ⟨h1, by omega⟩]
      exact hv.slots h S (t.unlink r1 rfl c) rs.ob rs.ns rs.no ((SLow.refl h hv).unlink kid) (TW.unlink t hv.len (tw_st h hv) r1 rfl c) (fun _ _ _ => rfl)
    · have S := z1 (by show (slt st kid).Parent = -1; omega)
      rw [if_pos h1]
      refine ⟨0, st', _, e, rfl, n0, n1, h', ?_, rs, e1, e2⟩
      rw [if_neg (fun z => z.2 (by omega)), S]; exact hv
  · obtain ⟨z0, z1⟩ := e1 h1
    subst z0
    rw [if_neg h1, if_neg (fun z => h1 z.1)]
    exact ⟨2, st', v, e, rfl, n0, n1, h', by rw [z1]; exact hv, rs, e1, e2⟩
end Go.Proofs
/-! One slot in another one's place, and leaves: the program's words are the state's. -/
set_option linter.unusedVariables false
namespace Go.Proofs
open Go.Sl
theorem goodU_move {s : List Int} (g : GoodU s) (a b : Int) (hb : 0 ≤ b ∧ b < 96) : GoodU (moveTo s a b) := by
  unfold moveTo
  have r1 := sget_rg s a 1
  have r3 := sget_rg s a 3
  have r4 := sget_rg s a 4
  split
  · exact goodU_clear (goodU_beside (goodU_sput (goodU_sput (goodU_sput g _ _ _ (by omega)) _ _ _ (by omega)) _ _ _ (by omega)) _ _ _ (by omega) (by omega)) _
  · exact g
theorem goodU_adopt (b : Int) (hb : 0 ≤ b ∧ b < 96) : ∀ (l : List Int) {s : List Int}, GoodU s → GoodU (adopt s b l)
  | [], s, g => g
  | c :: r, s, g => goodU_adopt b hb r (goodU_sput g c 1 b (by omega))
theorem goodU_replace {s : List Int} (g : GoodU s) (a b : Int) (l : List Int) (hb : 0 ≤ b ∧ b < 96) : GoodU (replaceTo s a b l) := by
  unfold replaceTo
  have g1 := goodU_adopt b hb l (goodU_move g a b hb)
  have r := sget_rg (adopt (moveTo s a b) b l) a 2
  exact goodU_sput (goodU_sput g1 _ _ _ (by omega)) _ _ _ (by decide)
theorem adopt_l (b : Int) (hb : 0 ≤ b ∧ b < 96) (l : List Int) (hl : l.length ≤ 1000) : ∀ (m k : Nat) (i : Int) (s : List Int), GoodU s → 0 ≤ i → i ≤ l.length → (l.length : Int) - i = m → m < k → VM.run plainI (cdt_Replace.l2 b l k i) s = some ((), adopt s b (l.drop i.toNat)) := by
  intro m
  induction m with
  | zero =>
    intro k i s g h0 h1 h2 hk
    obtain ⟨k, rfl⟩ : ∃ q, k = q + 1 := ⟨k - 1, by omega⟩
    unfold cdt_Replace.l2
    rw [decide_eq_false (by omega), cond_false, List.drop_eq_nil_of_le (by omega)]; rfl
  | succ m ih =>
    intro k i s g h0 h1 h2 hk
    obtain ⟨k, rfl⟩ : ∃ q, k = q + 1 := ⟨k - 1, by omega⟩
    unfold cdt_Replace.l2
    have hx : at_ l i = some (l[i.toNat]'(by omega)) := by unfold at_; rw [decide_eq_true h0, cond_true, List.getElem?_eq_getElem]
    rw [decide_eq_true (by omega), cond_true, runB, runO, hx, Option.map_some, Option.bind_some, runB, sput_ok g.1 _ _ _ (by omega), Option.bind_some, w64_id (by omega) (by omega)]
    simp only []
    rw [ih k (i + 1) _ (goodU_sput g _ _ _ (by omega)) (by omega) (by omega) (by omega) (by omega), List.drop_eq_getElem_cons (show i.toNat < l.length by omega), show (i + 1).toNat = i.toNat + 1 by omega]
    rfl
def repBad (s : List Int) (a b : Int) : Int := if ¬ (InSlot a 0 ∧ InSlot b 0) then 2 else if a = b ∨ sget s b 1 ≠ -1 ∨ sget s b 2 ≠ -1 then 10 else 0
theorem replace_ok {s : List Int} (g : GoodU s) (a b : Int) {k : Nat} (hk : 1100 ≤ k) {l : List Int} (hl : l.length ≤ 96) (hK : InSlot a 0 → InSlot b 0 → VM.run plainI (cdt_Kids.f k a) (moveTo s a b) = some (l, moveTo s a b)) : VM.run plainI (cdt_Replace.f k a b) s = some (eN' (repBad s a b), if repBad s a b = 0 then replaceTo s a b l else s) := by
  unfold cdt_Replace.f
  rw [runB, runO, sthere_ok, Option.map_some, Option.bind_some, runB]
  by_cases h1 : InSlot a 0
  · by_cases h2 : InSlot b 0
    · have r1 := h1.rg
      have r2 := h2.rg
      have hK := hK h1 h2
      rw [decide_eq_true h1, Bool.not_true, runC, cond_false, runB, runO, sthere_ok, Option.map_some, Option.bind_some, decide_eq_true h2, Bool.not_true, runR, Option.bind_some, runC, cond_false, runB]
      by_cases e0 : a = b
      · have hb : repBad s a b = 10 := by unfold repBad; rw [if_neg (fun q => q ⟨h1, h2⟩), if_pos (.inl e0)]
        have e : (a == b) = true := by simpa using e0
        rw [hb, e, runC, cond_true, runR, Option.bind_some, runB, runC, cond_true, runR, Option.bind_some]; rfl
      · have e : (a == b) = false := by simpa using e0
        rw [e, runC, cond_false, runB, parent_ok g.1, Option.bind_some, runR, Option.bind_some, runB, runC]
        simp only []
        by_cases c1 : sget s b 1 = -1
        · have e1 : (sget s b 1 != -1) = false := by simpa using c1
          rw [e1, cond_false, runB, sget_ok g.1, Option.bind_some, runR, Option.bind_some, runC]
          simp only []
          by_cases c2 : sget s b 2 = -1
          · have e2 : (sget s b 2 != -1) = false := by simpa using c2
            have hb : repBad s a b = 0 := by
              unfold repBad; rw [if_neg (fun q => q ⟨h1, h2⟩), if_neg]
              rintro (z | z | z)
              · exact e0 z
              · exact z c1
              · exact z c2
            rw [e2, cond_false, runB, parent_ok g.1, Option.bind_some, runB, hb, if_pos rfl]
            simp only []
            have mv : VM.run plainI (bif sget s a 1 != -1 then ((cdt_Parent.f a).bind fun t29 => (cdt_put.f b 1 t29).bind fun _ => (cdt_get.f a 3).bind fun t34 => (cdt_put.f b 3 t34).bind fun _ => (cdt_get.f a 4).bind fun t39 => (cdt_put.f b 4 t39).bind fun _ => (cdt_beside.f a b b).bind fun _ => (cdt_clear.f a).bind fun _ => VM.ret ()) else (VM.ret ())) s = some ((), moveTo s a b) := by
              rw [runC]
              unfold moveTo
              by_cases c3 : sget s a 1 = -1
              · have e3 : (sget s a 1 != -1) = false := by simpa using c3
                rw [e3, cond_false, if_neg (fun z => z c3)]; rfl
              · have e3 : (sget s a 1 != -1) = true := by simpa using c3
                have q1 := sget_rg s a 1
                have q3 := sget_rg s a 3
                have q4 := sget_rg s a 4
                have g1 := goodU_sput g b 1 (sget s a 1) (by omega)
                have g2 := goodU_sput g1 b 3 (sget s a 3) (by omega)
                have g3 := goodU_sput g2 b 4 (sget s a 4) (by omega)
                have w3 : sget (sput s b 1 (sget s a 1)) a 3 = sget s a 3 := by rw [sget_sput g.1.1 _ _ _ _ _ q1, if_neg (fun z => e0 z.2.1.symm)]
                have w4 : sget (sput (sput s b 1 (sget s a 1)) b 3 (sget s a 3)) a 4 = sget s a 4 := by rw [sget_sput g1.1.1 _ _ _ _ _ q3, if_neg (fun z => e0 z.2.1.symm), sget_sput g.1.1 _ _ _ _ _ q1, if_neg (fun z => e0 z.2.1.symm)]
                rw [e3, cond_true, if_pos c3, runB, parent_ok g.1, Option.bind_some, runB]
                simp only []
                rw [sput_ok g.1 _ _ _ (by omega), Option.bind_some, runB]
                simp only []
                rw [sget_ok g1.1, w3, Option.bind_some, runB]
                simp only []
                rw [sput_ok g1.1 _ _ _ (by omega), Option.bind_some, runB]
                simp only []
                rw [sget_ok g2.1, w4, Option.bind_some, runB]
                simp only []
                rw [sput_ok g2.1 _ _ _ (by omega), Option.bind_some, runB]
                simp only []
                rw [beside_ok g3 _ _ _ (by omega) (by omega), Option.bind_some, runB]
                simp only []
                rw [clear_ok (goodU_beside g3 _ _ _ (by omega) (by omega)), Option.bind_some]; rfl
            have gm := goodU_move g a b r2
            have ga := goodU_adopt b r2 l gm
            have qa := sget_rg (adopt (moveTo s a b) b l) a 2
            have gb := goodU_sput ga b 2 (sget (adopt (moveTo s a b) b l) a 2) (by omega)
            rw [mv, Option.bind_some, runB]
            simp only []
            rw [hK, Option.bind_some, runB]
            simp only []
            rw [adopt_l b r2 l (by omega) l.length k 0 _ gm (by decide) (by omega) (by omega) (by omega), Option.bind_some, runB]
            simp only [Int.toNat_zero, List.drop_zero]
            rw [sget_ok ga.1, Option.bind_some, runB]
            simp only []
            rw [sput_ok ga.1 _ _ _ (by omega), Option.bind_some, runB]
            simp only []
            rw [sput_ok gb.1 _ _ _ (by decide), Option.bind_some]; rfl
          · have e2 : (sget s b 2 != -1) = true := by simpa using c2
            have hb : repBad s a b = 10 := by unfold repBad; rw [if_neg (fun q => q ⟨h1, h2⟩), if_pos (.inr (.inr c2))]
            rw [e2, cond_true, hb]; rfl
        · have e1 : (sget s b 1 != -1) = true := by simpa using c1
          have hb : repBad s a b = 10 := by unfold repBad; rw [if_neg (fun q => q ⟨h1, h2⟩), if_pos (.inr (.inl c1))]
          rw [e1, cond_true, runR, Option.bind_some, hb]; rfl
    · have hb : repBad s a b = 2 := by unfold repBad; rw [if_pos (fun q => h2 q.2)]
      rw [decide_eq_true h1, Bool.not_true, runC, cond_false, runB, runO, sthere_ok, Option.map_some, Option.bind_some, decide_eq_false h2, Bool.not_false, runR, Option.bind_some, hb]; rfl
  · have hb : repBad s a b = 2 := by unfold repBad; rw [if_pos (fun q => h1 q.1)]
    rw [decide_eq_false h1, Bool.not_false, runC, cond_true, runR, Option.bind_some, hb]; rfl
/-- Of any words. -/
theorem replace_any {s : List Int} (g : GoodU s) (a b : Int) {k : Nat} (hk : 1100 ≤ k) : ∃ r s', VM.run plainI (cdt_Replace.f k a b) s = some (r, s') ∧ GoodU s' := by
  by_cases c : InSlot a 0 ∧ InSlot b 0
  · have r2 := c.2.rg
    have gm := goodU_move g a b r2
    obtain ⟨l, e, hl, _⟩ := kids_any gm.1 a (k := k) (by omega)
    refine ⟨_, _, replace_ok g a b hk hl (fun _ _ => e), ?_⟩
    split
    · exact goodU_replace g a b l r2
    · exact g
  · refine ⟨_, _, replace_ok g a b hk (l := []) (by simp) (fun z1 z2 => absurd ⟨z1, z2⟩ c), ?_⟩
    have hb : repBad s a b = 2 := by unfold repBad; rw [if_pos c]
    rw [hb, if_neg (by decide)]; exact g
/-! The state's. -/
theorem rep_l2 (a b : Int) : ∀ (m k : Nat) (i : Int) (l : List Int), l.length ≤ 1000 → 0 ≤ i → i ≤ l.length → (l.length : Int) - i = m → m < k → ref10_State_Replace.l2 a b k (i, l) = some (l.take i.toNat ++ rep a b (l.drop i.toNat)) := by
  intro m
  induction m with
  | zero =>
    intro k i l hl h0 h1 h2 hk
    obtain ⟨k, rfl⟩ : ∃ q, k = q + 1 := ⟨k - 1, by omega⟩
    unfold ref10_State_Replace.l2
    rw [decide_eq_false (by omega), cond_false, List.drop_eq_nil_of_le (by omega), List.take_of_length_le (by omega)]
    show _ = some (l ++ [])
    rw [List.append_nil]
  | succ m ih =>
    intro k i l hl h0 h1 h2 hk
    obtain ⟨k, rfl⟩ : ∃ q, k = q + 1 := ⟨k - 1, by omega⟩
    unfold ref10_State_Replace.l2
    have hlt : i.toNat < l.length := by omega
    have hx : at_ l i = some l[i.toNat] := by unfold at_; rw [decide_eq_true h0, cond_true, List.getElem?_eq_getElem]
    rw [decide_eq_true (by omega), cond_true, hx, Option.bind_some, Option.bind_some, w64_id (by omega) (by omega)]
    have ei : (i + 1).toNat = i.toNat + 1 := by omega
    have key : l.take i.toNat ++ rep a b (l.drop i.toNat) = l.take i.toNat ++ [rp a b l[i.toNat]] ++ rep a b (l.drop (i.toNat + 1)) := by
      rw [List.drop_eq_getElem_cons hlt, List.append_assoc]; rfl
    rw [key]
    by_cases e : l[i.toNat] = a
    · have e1 : (l[i.toNat] == a) = true := by simpa using e
      rw [e1, cond_true, ih k (i + 1) (l.set i.toNat b) (by simpa using hl) (by omega) (by simp; omega) (by simp; omega) (by omega), ei]
      have t1 : (l.set i.toNat b).take (i.toNat + 1) = l.take i.toNat ++ [b] := by
        rw [List.take_succ_eq_append_getElem (by simpa using hlt), List.take_set_of_le (by omega), List.getElem_set_self]
      have t2 : (l.set i.toNat b).drop (i.toNat + 1) = l.drop (i.toNat + 1) := List.drop_set_of_lt (by omega)
      rw [t1, t2]
      unfold rp
      rw [if_pos e]
    · have e1 : (l[i.toNat] == a) = false := by simpa using e
      rw [e1, cond_false, ih k (i + 1) l hl (by omega) (by omega) (by omega) (by omega), ei, List.take_succ_eq_append_getElem hlt]
      unfold rp
      rw [if_neg e]
theorem rep_l3 (b : Int) (hb : 0 ≤ b ∧ b < 96) (L : List Int) (hL : ∀ y ∈ L, 0 ≤ y ∧ y < 96) (hl : L.length ≤ 1000) : ∀ (m k : Nat) (i : Int) (S : List ref10_Slot), S.length = 96 → (S.getD b.toNat default).Kids = L → 0 ≤ i → i ≤ L.length → (L.length : Int) - i = m → m < k → ∃ S', ref10_State_Replace.l3 b k (i, S) = some S' ∧ S'.length = 96 ∧ ∀ x, 0 ≤ x → S'.getD x.toNat default = if x ∈ L.drop i.toNat then ({ S.getD x.toNat default with Parent := b } : ref10_Slot) else S.getD x.toNat default := by
  intro m
  induction m with
  | zero =>
    intro k i S hS hK h0 h1 h2 hk
    obtain ⟨k, rfl⟩ : ∃ q, k = q + 1 := ⟨k - 1, by omega⟩
    unfold ref10_State_Replace.l3
    rw [at_getD hb.1 (by rw [hS]; omega), Option.bind_some, hK, decide_eq_false (by omega), cond_false, List.drop_eq_nil_of_le (by omega)]
    exact ⟨S, rfl, hS, fun x _ => by rw [if_neg (fun z => by cases z)]⟩
  | succ m ih =>
    intro k i S hS hK h0 h1 h2 hk
    obtain ⟨k, rfl⟩ : ∃ q, k = q + 1 := ⟨k - 1, by omega⟩
    unfold ref10_State_Replace.l3
    have hlt : i.toNat < L.length := by omega
    have hx : at_ L i = some L[i.toNat] := by unfold at_; rw [decide_eq_true h0, cond_true, List.getElem?_eq_getElem]
    have hy := hL _ (List.getElem_mem hlt)
    rw [at_getD hb.1 (by rw [hS]; omega), Option.bind_some, hK, decide_eq_true (by omega), cond_true, Option.bind_some, hK, hx, Option.bind_some, at_getD hy.1 (by rw [hS]; omega), Option.bind_some, w64_id (by omega) (by omega)]
    generalize hc : L[i.toNat] = c at hy
    have G := fun x (hx : 0 ≤ x) => sg_set hS hy hx ({ S.getD c.toNat default with Parent := b } : ref10_Slot)
    obtain ⟨S', e, l', p⟩ := ih k (i + 1) (S.set c.toNat ({ S.getD c.toNat default with Parent := b } : ref10_Slot)) (by simp [hS]) (by
      rw [G b hb.1]
      split
      · rename_i q; rw [← q]; exact hK
      · exact hK) (by omega) (by omega) (by omega) (by omega)
    refine ⟨S', e, l', fun x x0 => ?_⟩
    rw [p x x0, G x x0, show (i + 1).toNat = i.toNat + 1 by omega, List.drop_eq_getElem_cons hlt, hc]
    by_cases q : x = c
    · rw [if_pos q, if_pos (show x ∈ c :: _ by rw [q]; exact List.mem_cons_self), q]
      split <;> rfl
    · rw [if_neg q]
      by_cases q2 : x ∈ L.drop (i.toNat + 1)
      · rw [if_pos q2, if_pos (List.mem_cons_of_mem _ q2)]
      · rw [if_neg q2, if_neg]
        intro z
        rcases List.mem_cons.1 z with z | z
        · exact q z
        · exact q2 z
theorem ch_kids {s : List Int} {l : List Int} (hr : ∀ x ∈ l, 0 ≤ x ∧ x < 96) (hn : l.Nodup) (h : ∀ x ∈ l, sget s x 3 = nextOf l x - 1) : ∀ x, x = hd l - 1 → Ch s x l := by
  have key : ∀ (q : List Int), (∀ x ∈ q, 0 ≤ x ∧ x < 96) → q.Nodup → (∀ x ∈ q, sget s x 3 = nextOf q x - 1) → Ch s (hd q - 1) q := by
    intro q
    induction q with
    | nil => intro _ _ _; exact rfl
    | cons c r ih =>
      intro hr hn h
      have hn2 := List.nodup_cons.1 hn
      have hc := hr c List.mem_cons_self
      refine ⟨by show c + 1 - 1 = c; omega, hc.1, hc.2, ?_⟩
      have e := h c List.mem_cons_self
      have e2 : nextOf (c :: r) c = hd r := by show (if c = c then hd r else _) = _; rw [if_pos rfl]
      rw [e, e2]
      refine ih (fun x hx => hr x (List.mem_cons_of_mem _ hx)) hn2.2 fun x hx => ?_
      rw [h x (List.mem_cons_of_mem _ hx)]
      show (if x = c then hd r else nextOf r x) - 1 = _
      rw [if_neg (fun z => hn2.1 (by rw [← z]; exact hx))]
  rintro x rfl
  exact key l hr hn h
theorem kids_tw {P : Int → Int} {K : Int → List Int} (t : Tree P K) {v : List Int} (g : Good v) (w : TW P K v) {i : Int} (hi : 0 ≤ i ∧ i < 96) {k : Nat} (hk : 100 ≤ k) : VM.run plainI (cdt_Kids.f k i) v = some (K i, v) := by
  have hr : ∀ x ∈ K i, 0 ≤ x ∧ x < 96 := fun x hx => by have := t.kid i hi.1 hi.2 x hx; omega
  refine kidsw_ok g (ch_kids hr (t.nod i hi.1 hi.2) (fun x hx => ?_) _ ?_) (t.klen hi.1 hi.2) hk
  · have hx2 := t.kid i hi.1 hi.2 x hx
    rw [w x 3 hx2.1 hx2.2.1 (by decide) (by decide)]
    unfold slw
    rw [if_neg (by decide), if_neg (by decide), hx2.2.2, if_pos hi.1, if_pos rfl]
  · rw [w i 2 hi.1 hi.2 (by decide) (by decide)]; rfl
theorem kids_moved {P : Int → Int} {K : Int → List Int} (t : Tree P K) {v : List Int} (g : GoodU v) (w : TW P K v) {a b : Int} (ha : 0 ≤ a ∧ a < 96) (hb : 0 ≤ b ∧ b < 96) (hne : a ≠ b) (hPb : P b = -1) (hKb : K b = []) {k : Nat} (hk : 100 ≤ k) : VM.run plainI (cdt_Kids.f k a) (moveTo v a b) = some (K a, moveTo v a b) := by
  have hr : ∀ x ∈ K a, 0 ≤ x ∧ x < 96 := fun x hx => by have := t.kid a ha.1 ha.2 x hx; omega
  have ia := t.irr a ha.1 ha.2
  by_cases hp : 0 ≤ P a
  · have pa := t.par a ha.1 ha.2
    have M := fun x f => sget_moveTo t g.1.1 w ha hb hne rfl hp hKb x f
    have hrp : ∀ x ∈ K (P a), 0 ≤ x ∧ x < 96 := fun x hx => by have := t.kid (P a) hp pa.2 x hx; omega
    refine kidsw_ok (goodU_move g a b hb).1 (ch_kids hr (t.nod a ha.1 ha.2) (fun x hx => ?_) _ ?_) (t.klen ha.1 ha.2) hk
    · have hx2 := t.kid a ha.1 ha.2 x hx
      have xa : a ≠ x := fun z => by rw [← z] at hx2; exact ia hx2.2.2
      have xb : b ≠ x := fun z => by rw [← z, hPb] at hx2; omega
      have W : sget v x 3 = nextOf (K a) x - 1 := by
        rw [w x 3 hx2.1 hx2.2.1 (by decide) (by decide)]
        unfold slw
        rw [if_neg (by decide), if_neg (by decide), hx2.2.2, if_pos ha.1, if_pos rfl]
      have nq : ¬ prv 0 (K (P a)) a - 1 = x := fun z => by
        have : x ∈ K (P a) := prv_mem hx2.1 (x := a) (a := 0) (by omega) (by omega)
        have := (t.kid (P a) hp pa.2 x this).2.2
        rw [hx2.2.2] at this; exact ia this.symm
      rw [M, if_neg (fun z => xa z.1), if_neg (by omega)]
      split
      · rw [if_neg (fun z => nq z.2.1), if_neg (by omega), if_neg (fun z => xb z.1), if_neg (by omega)]; exact W
      · rw [if_neg (by omega), if_neg (by omega), if_neg (fun z => xb z.1), if_neg (by omega)]; exact W
    · have W : sget v a 2 = hd (K a) - 1 := by rw [w a 2 ha.1 ha.2 (by decide) (by decide)]; rfl
      rw [M, if_neg (by omega), if_neg (by omega)]
      split
      · rw [if_neg (by omega), if_neg (by omega), if_neg (by omega), if_neg (by omega)]; exact W
      · rw [if_neg (fun z => ia z.2.1), if_neg (by omega), if_neg (by omega), if_neg (by omega)]; exact W
  · have g1 : sget v a 1 = P a := by rw [w a 1 ha.1 ha.2 (by decide) (by decide)]; unfold slw; rw [if_pos rfl]; omega
    have pa := (t.par a ha.1 ha.2).1
    have e : moveTo v a b = v := by unfold moveTo; rw [if_neg (by omega)]
    rw [e]
    exact kids_tw t g.1 w ha hk
theorem replace_pl {st : ref10_State} (h : WF st) {v : List Int} (hv : IsW st v) (a b : Int) {k : Nat} (hk : 1100 ≤ k) : ∃ n st' v', ref10_State_Replace.f k st a b = some (n, st') ∧ VM.run plainI (cdt_Replace.f k a b) v = some (eN' n, v') ∧ 0 ≤ n ∧ n ≤ 14 ∧ WF st' ∧ IsW st' v' ∧ Rest st st' ∧
    (n ≠ 0 → st' = st) ∧ (n = 0 → InSlot a 0 ∧ InSlot b 0 ∧ a ≠ b ∧ Pst st b = -1 ∧ Kst st b = [] ∧ SlIs st' (rP (Pst st) a b) (rK (Pst st) (Kst st) a b) (Cst st)) := by
  have g := hv.good h
  have t := tree_st h
  have w := tw_st h hv
  by_cases h1 : InSlot a 0
  · by_cases h2 : InSlot b 0
    · have r1 := h1.rg
      have r2 := h2.rg
      have hp := Pst_sget h hv r2
      have pr := h.par b r2.1 r2.2
      have k2 : sget v b 2 = hd (slt st b).Kids - 1 := by rw [w b 2 r2.1 r2.2 (by decide) (by decide)]; rfl
      have kr := hd_rg (n := 96) (by decide) (kids_rg h r2.1 r2.2)
      have kz : hd (slt st b).Kids = 0 ↔ (slt st b).Kids = [] := by
        cases hK : (slt st b).Kids with
        | nil => exact ⟨fun _ => rfl, fun _ => rfl⟩
        | cons c r =>
          have := kids_rg h r2.1 r2.2 c (by rw [hK]; exact List.mem_cons_self)
          exact ⟨fun z => by have : c + 1 = 0 := z; omega, fun z => by cases z⟩
      unfold ref10_State_Replace.f
      rw [rslot_ok, rslot_ok, Option.bind_some, Option.bind_some, decide_eq_true h1, decide_eq_true h2]
      simp only [Bool.not_true, Bool.or_false, cond_false]
      rw [at_slot h.ls r2]
      by_cases c : a = b ∨ sget v b 1 ≠ -1 ∨ sget v b 2 ≠ -1
      · have hb : repBad v a b = 10 := by unfold repBad; rw [if_neg (fun q => q ⟨h1, h2⟩), if_pos c]
        obtain ⟨r, s', e, _⟩ := replace_any g a b hk
        have e' : VM.run plainI (cdt_Replace.f k a b) v = some (eN' 10, v) := by
          have gm := goodU_move g a b r2
          obtain ⟨l, el, hl, _⟩ := kids_any gm.1 a (k := k) (by omega)
          rw [replace_ok g a b hk hl (fun _ _ => el), hb, if_neg (by decide)]
        rw [e']
        have key : ((bif a == b then some true else (some (slt st b)).bind fun x14 => some (decide (0 ≤ x14.Parent))).bind fun c12 => bif c12 then some true else (some (slt st b)).bind fun x26 => some (decide (0 < (x26.Kids.length : Int)))) = some true := by
          by_cases e0 : a = b
          · have : (a == b) = true := by simpa using e0
            rw [this]; rfl
          · have e1 : (a == b) = false := by simpa using e0
            rw [e1, cond_false, Option.bind_some, Option.bind_some]
            by_cases c1 : 0 ≤ (slt st b).Parent
            · rw [decide_eq_true c1]; rfl
            · rw [decide_eq_false c1, cond_false, Option.bind_some, decide_eq_true]
              rcases c with q | q | q
              · exact absurd q e0
              · omega
              · have : (slt st b).Kids ≠ [] := fun z => by have := kz.2 z; omega
                have := List.length_pos_iff.2 this; omega
        rw [← Option.bind_assoc, key, Option.bind_some, cond_true]
        exact ⟨10, st, v, rfl, rfl, by decide, by decide, h, hv, Rest.refl st, fun _ => rfl, fun z => absurd z (by decide)⟩
      · have e0 : a ≠ b := fun z => c (.inl z)
        have c1 : (slt st b).Parent = -1 := by
          rcases Int.lt_or_le (slt st b).Parent 0 with q | q
          · omega
          · exact absurd (.inr (.inl (by omega))) c
        have c2 : (slt st b).Kids = [] := by
          refine kz.1 ?_
          rcases Int.lt_or_le (hd (slt st b).Kids) 1 with q | q
          · omega
          · exact absurd (.inr (.inr (by omega))) c
        have hb : repBad v a b = 0 := by unfold repBad; rw [if_neg (fun q => q ⟨h1, h2⟩), if_neg c]
        rw [replace_ok g a b hk (t.klen r1.1 r1.2) (fun _ _ => kids_moved t g w r1 r2 e0 c1 c2 (by omega)), hb, if_pos rfl]
        have e1 : (a == b) = false := by simpa using e0
        rw [e1, cond_false, Option.bind_some, c1, Option.bind_some, decide_eq_false (by decide), cond_false, Option.bind_some, c2, Option.bind_some]
        simp only [List.length_nil]
        rw [decide_eq_false (by decide), cond_false, at_slot h.ls r1, Option.bind_some]
        have pa := h.par a r1.1 r1.2
        have ia := h.irr a r1.1 r1.2
        have pab : (slt st a).Parent ≠ b := fun z => by have := h.all a r1.1 r1.2 (by omega); rw [z, c2] at this; cases this
        -- the parent's list
        obtain ⟨S1, hS1, l1, p1⟩ : ∃ S1, (bif decide (0 ≤ (slt st a).Parent) then ((at_ st.Slots (slt st a).Parent).bind fun x43 => (app ([]) x43.Kids).bind fun zs51 => (ref10_State_Replace.l2 a b k (0, zs51)).bind fun qv53_e2 => (at_ st.Slots (slt st a).Parent).bind fun x64 => some (st.Slots.set (slt st a).Parent.toNat ({ x64 with Kids := qv53_e2 } : ref10_Slot))) else (some st.Slots)) = some S1 ∧ S1.length = 96 ∧ ∀ i, 0 ≤ i → S1.getD i.toNat default = if i = (slt st a).Parent then ({ slt st i with Kids := rep a b (slt st i).Kids } : ref10_Slot) else slt st i := by
          by_cases q : 0 ≤ (slt st a).Parent
          · have hkl := t.klen q pa.2
            unfold Kst at hkl
            rw [decide_eq_true q, cond_true, at_slot h.ls ⟨q, pa.2⟩, Option.bind_some, app_ok (by simp; omega), Option.bind_some, List.nil_append, rep_l2 a b (slt st (slt st a).Parent).Kids.length k 0 _ (by omega) (by decide) (by omega) (by omega) (by omega), Option.bind_some, Option.bind_some]
            refine ⟨_, rfl, by simp [h.ls], fun i i0 => ?_⟩
            rw [sg_set h.ls ⟨q, pa.2⟩ i0]
            split
            · rename_i e; rw [e]; simp
            · rfl
          · rw [decide_eq_false q]
            exact ⟨_, rfl, h.ls, fun i i0 => by rw [if_neg (by omega)]; rfl⟩
        rw [hS1, Option.bind_some]
        -- the two slots
        rw [at_getD r2.1 (by rw [l1]; omega), Option.bind_some, p1 b r2.1, if_neg (fun z => pab z.symm)]
        have l2 : (S1.set b.toNat ({ slt st b with Parent := (slt st a).Parent } : ref10_Slot)).length = 96 := by simp [l1]
        have p2 := fun i (i0 : 0 ≤ i) => sg_set l1 r2 i0 ({ slt st b with Parent := (slt st a).Parent } : ref10_Slot)
        generalize S1.set b.toNat ({ slt st b with Parent := (slt st a).Parent } : ref10_Slot) = S2 at l2 p2
        rw [at_getD r1.1 (by rw [l2]; omega), Option.bind_some, p2 a r1.1, if_neg e0, p1 a r1.1, if_neg (fun z => ia z.symm)]
        have l3 : (S2.set a.toNat ({ slt st a with Parent := -1 } : ref10_Slot)).length = 96 := by simp [l2]
        have p3 := fun i (i0 : 0 ≤ i) => sg_set l2 r1 i0 ({ slt st a with Parent := -1 } : ref10_Slot)
        generalize S2.set a.toNat ({ slt st a with Parent := -1 } : ref10_Slot) = S3 at l3 p3
        rw [at_getD r1.1 (by rw [l3]; omega), Option.bind_some, p3 a r1.1, if_pos rfl, at_getD r2.1 (by rw [l3]; omega), Option.bind_some, p3 b r2.1, if_neg (fun z => e0 z.symm), p2 b r2.1, if_pos rfl]
        simp only []
        have l4 : (S3.set b.toNat ({ slt st b with Parent := (slt st a).Parent, Kids := (slt st a).Kids } : ref10_Slot)).length = 96 := by simp [l3]
        have p4 := fun i (i0 : 0 ≤ i) => sg_set l3 r2 i0 ({ slt st b with Parent := (slt st a).Parent, Kids := (slt st a).Kids } : ref10_Slot)
        generalize S3.set b.toNat ({ slt st b with Parent := (slt st a).Parent, Kids := (slt st a).Kids } : ref10_Slot) = S4 at l4 p4
        rw [at_getD r1.1 (by rw [l4]; omega), Option.bind_some, p4 a r1.1, if_neg e0, p3 a r1.1, if_pos rfl]
        simp only []
        have l5 : (S4.set a.toNat ({ slt st a with Parent := -1, Kids := [] } : ref10_Slot)).length = 96 := by simp [l4]
        have p5 := fun i (i0 : 0 ≤ i) => sg_set l4 r1 i0 ({ slt st a with Parent := -1, Kids := [] } : ref10_Slot)
        generalize S4.set a.toNat ({ slt st a with Parent := -1, Kids := [] } : ref10_Slot) = S5 at l5 p5
        obtain ⟨S6, e6, l6, p6⟩ := rep_l3 b r2 (slt st a).Kids (kids_rg h r1.1 r1.2) (by have := t.klen r1.1 r1.2; unfold Kst at this; omega) (slt st a).Kids.length k 0 S5 l5 (by rw [p5 b r2.1, if_neg (fun z => e0 z.symm), p4 b r2.1, if_pos rfl]) (by decide) (by omega) (by omega) (by have := t.klen r1.1 r1.2; unfold Kst at this; omega)
        rw [e6, Option.bind_some]
        simp only [Int.toNat_zero, List.drop_zero] at p6
        have S : SlIs ({ st with Slots := S6 } : ref10_State) (rP (Pst st) a b) (rK (Pst st) (Kst st) a b) (Cst st) := by
          have na : a ∉ (slt st a).Kids := fun z => ia (h.kid a r1.1 r1.2 a z).2.2
          have nb : b ∉ (slt st a).Kids := fun z => by have := (h.kid a r1.1 r1.2 b z).2.2; omega
          have E : ∀ i, 0 ≤ i → slt ({ st with Slots := S6 } : ref10_State) i = if i ∈ (slt st a).Kids then ({ (if i = a then ({ slt st a with Parent := -1, Kids := [] } : ref10_Slot) else if i = b then ({ slt st b with Parent := (slt st a).Parent, Kids := (slt st a).Kids } : ref10_Slot) else if i = (slt st a).Parent then ({ slt st i with Kids := rep a b (slt st i).Kids } : ref10_Slot) else slt st i) with Parent := b } : ref10_Slot) else (if i = a then ({ slt st a with Parent := -1, Kids := [] } : ref10_Slot) else if i = b then ({ slt st b with Parent := (slt st a).Parent, Kids := (slt st a).Kids } : ref10_Slot) else if i = (slt st a).Parent then ({ slt st i with Kids := rep a b (slt st i).Kids } : ref10_Slot) else slt st i) := fun i i0 => by
            have e5 : S5.getD i.toNat default = (if i = a then ({ slt st a with Parent := -1, Kids := [] } : ref10_Slot) else if i = b then ({ slt st b with Parent := (slt st a).Parent, Kids := (slt st a).Kids } : ref10_Slot) else if i = (slt st a).Parent then ({ slt st i with Kids := rep a b (slt st i).Kids } : ref10_Slot) else slt st i) := by
              rw [p5 i i0]
              by_cases q : i = a
              · rw [if_pos q, if_pos q]
              · rw [if_neg q, if_neg q, p4 i i0]
                by_cases q2 : i = b
                · rw [if_pos q2, if_pos q2]
                · rw [if_neg q2, if_neg q2, p3 i i0, if_neg q, p2 i i0, if_neg q2, p1 i i0]
            have := p6 i i0
            rw [e5] at this
            exact this
          have mem : ∀ i, 0 ≤ i → i < 96 → (i ∈ (slt st a).Kids ↔ (slt st i).Parent = a) := fun i i0 i1 => ⟨fun z => (h.kid a r1.1 r1.2 i z).2.2, fun z => by have := h.all i i0 i1 (by omega); rwa [z] at this⟩
          refine ⟨l6, fun i i0 i1 => ?_, fun i i0 i1 => ?_, fun i i0 i1 => ?_⟩
          · rw [E i i0]; unfold rP Pst
            by_cases q : i = b
            · have hm : i ∉ (slt st a).Kids := fun z => nb (by rw [q] at z; exact z)
              have qa : ¬ i = a := fun z => e0 (z.symm.trans q)
              simp only [if_neg hm, if_neg qa, if_pos q]
            · by_cases q2 : i = a
              · have hm : i ∉ (slt st a).Kids := fun z => na (by rw [q2] at z; exact z)
                simp only [if_neg hm, if_pos q2, if_neg q]
              · by_cases q3 : (slt st i).Parent = a
                · simp only [if_pos ((mem i i0 i1).2 q3), if_pos q3, if_neg q, if_neg q2]
                · have hm : i ∉ (slt st a).Kids := fun z => q3 ((mem i i0 i1).1 z)
                  simp only [if_neg hm, if_neg q3, if_neg q, if_neg q2]
                  split <;> rfl
          · rw [E i i0]; unfold rK Kst Pst
            by_cases q : i = b
            · have hm : i ∉ (slt st a).Kids := fun z => nb (by rw [q] at z; exact z)
              have qa : ¬ i = a := fun z => e0 (z.symm.trans q)
              simp only [if_neg hm, if_neg qa, if_pos q]
            · by_cases q2 : i = a
              · have hm : i ∉ (slt st a).Kids := fun z => na (by rw [q2] at z; exact z)
                simp only [if_neg hm, if_pos q2, if_neg q]
              · by_cases q3 : i = (slt st a).Parent
                · simp only [if_neg q, if_neg q2, if_pos q3]; split <;> rfl
                · simp only [if_neg q, if_neg q2, if_neg q3]; split <;> rfl
          · rw [E i i0]; unfold Cst
            have : (if i = a then ({ slt st a with Parent := -1, Kids := [] } : ref10_Slot) else if i = b then ({ slt st b with Parent := (slt st a).Parent, Kids := (slt st a).Kids } : ref10_Slot) else if i = (slt st a).Parent then ({ slt st i with Kids := rep a b (slt st i).Kids } : ref10_Slot) else slt st i).Cap = (slt st i).Cap := by
              by_cases q2 : i = a
              · rw [if_pos q2, q2]
              · rw [if_neg q2]
                by_cases q : i = b
                · rw [if_pos q, q]
                · rw [if_neg q]; split <;> rfl
            split
            · exact this
            · exact this
        have t' := t.replace r1 r2 e0 c1 c2
        have w' := TW.replace t hv.len w r1 r2 e0 c1 c2
        exact ⟨0, _, _, rfl, rfl, by decide, by decide, h.slots S t' h.cap rfl rfl rfl, hv.slots h S t' rfl rfl rfl ((SLow.refl h hv).replace a b _ r2) w' (fun _ _ _ => rfl), ⟨rfl, rfl, rfl⟩, fun z => absurd rfl z, fun _ => ⟨h1, h2, e0, c1, c2, S⟩⟩
    · have hb : repBad v a b = 2 := by unfold repBad; rw [if_pos (fun q => h2 q.2)]
      rw [replace_ok g a b hk (l := []) (by simp) (fun _ z => absurd z h2), hb]
      unfold ref10_State_Replace.f
      rw [rslot_ok, rslot_ok, Option.bind_some, Option.bind_some, decide_eq_false h2, Bool.not_false, Bool.or_true, cond_true]
      exact ⟨2, st, v, rfl, rfl, by decide, by decide, h, hv, Rest.refl st, fun _ => rfl, fun z => absurd z (by decide)⟩
  · have hb : repBad v a b = 2 := by unfold repBad; rw [if_pos (fun q => h1 q.1)]
    rw [replace_ok g a b hk (l := []) (by simp) (fun z => absurd z h1), hb]
    unfold ref10_State_Replace.f
    rw [rslot_ok, rslot_ok, Option.bind_some, Option.bind_some, decide_eq_false h1, Bool.not_false, Bool.true_or, cond_true]
    exact ⟨2, st, v, rfl, rfl, by decide, by decide, h, hv, Rest.refl st, fun _ => rfl, fun z => absurd z (by decide)⟩
theorem rleaf_l {st : ref10_State} (h : WF st) {v : List Int} (hv : IsW st v) : ∀ (m k : Nat) (n x : Int), 0 ≤ n → n + m = 96 → m < k → 0 ≤ x → x < 96 → ref10_State_Leaf.l1 st k (n, x) = some (leafN v m x)
  | 0, k, n, x, h0, h1, hk, x0, x1 => by
    obtain ⟨k, rfl⟩ : ∃ q, k = q + 1 := ⟨k - 1, by omega⟩
    unfold ref10_State_Leaf.l1
    rw [decide_eq_false (by omega)]; rfl
  | m + 1, k, n, x, h0, h1, hk, x0, x1 => by
    obtain ⟨k, rfl⟩ : ∃ q, k = q + 1 := ⟨k - 1, by omega⟩
    unfold ref10_State_Leaf.l1
    have k2 : sget v x 2 = hd (slt st x).Kids - 1 := by rw [tw_st h hv x 2 x0 x1 (by decide) (by decide)]; rfl
    have kr := kids_rg h x0 x1
    rw [decide_eq_true (by omega), cond_true, at_slot h.ls ⟨x0, x1⟩, Option.bind_some]
    cases hK : (slt st x).Kids with
    | nil =>
      rw [hK] at k2
      have k2 : sget v x 2 = 0 - 1 := k2
      show (some (decide (0 < ((([] : List Int).length : Nat) : Int)))).bind _ = _
      rw [decide_eq_false (by decide), Option.bind_some, cond_false]
      show _ = some (if sget v x 2 = -1 then x else _)
      rw [if_pos (by omega)]
    | cons c r =>
      rw [hK] at k2
      have k2 : sget v x 2 = c + 1 - 1 := k2
      have hc := kr c (by rw [hK]; exact List.mem_cons_self)
      rw [decide_eq_true (by simp only [List.length_cons]; omega), Option.bind_some, cond_true, Option.bind_some, hK]
      have a0 : at_ (c :: r) 0 = some c := rfl
      rw [a0, Option.bind_some, w64_id (by omega) (by omega), rleaf_l h hv m k (n + 1) c (by omega) (by omega) (by omega) hc.1 hc.2]
      show _ = some (if sget v x 2 = -1 then x else leafN v m (sget v x 2))
      rw [if_neg (by omega), k2, show c + 1 - 1 = c by omega]
theorem leaf_pl {st : ref10_State} (h : WF st) {v : List Int} (hv : IsW st v) (i : Int) {k : Nat} (hk : 100 ≤ k) : ref10_State_Leaf.f k st i = some (if InSlot i 0 then leafN v 96 i else -1) ∧ VM.run plainI (cdt_Leaf.f k i) v = some (if InSlot i 0 then leafN v 96 i else -1, v) := by
  refine ⟨?_, leaf_ok (hv.good h).1 i hk⟩
  unfold ref10_State_Leaf.f
  rw [rslot_ok, Option.bind_some]
  by_cases c : InSlot i 0
  · rw [decide_eq_true c, if_pos c, Bool.not_true, cond_false, rleaf_l h hv 96 k 0 i (by decide) (by decide) (by omega) c.1 c.2.1]; rfl
  · rw [decide_eq_false c, if_neg c]; rfl
end Go.Proofs
/-! Packing and unpacking, plainly. -/
namespace Go.Proofs
open Go.Sl
theorem upto16 {P : Nat → Prop} {n : Nat} (h : n ≤ 16) (h0 : P 0) (h1 : P 1) (h2 : P 2) (h3 : P 3) (h4 : P 4) (h5 : P 5) (h6 : P 6) (h7 : P 7) (h8 : P 8) (h9 : P 9) (h10 : P 10) (h11 : P 11) (h12 : P 12) (h13 : P 13) (h14 : P 14) (h15 : P 15) (h16 : P 16) : P n := by
  have : n = 0 ∨ n = 1 ∨ n = 2 ∨ n = 3 ∨ n = 4 ∨ n = 5 ∨ n = 6 ∨ n = 7 ∨ n = 8 ∨ n = 9 ∨ n = 10 ∨ n = 11 ∨ n = 12 ∨ n = 13 ∨ n = 14 ∨ n = 15 ∨ n = 16 := by omega
  rcases this with rfl | rfl | rfl | rfl | rfl | rfl | rfl | rfl | rfl | rfl | rfl | rfl | rfl | rfl | rfl | rfl | rfl <;> assumption
theorem cond_some {α : Type} (c : Bool) (a b : α) : (bif c then some a else some b) = some (bif c then a else b) := by cases c <;> rfl
theorem cond_or (c a b : Bool) : (bif c then a else b) = ((c && a) || (!c && b)) := by cases c <;> simp
theorem may_pack (c : api_Cap) : ∃ b, pack_May.f c = some b ∧ (b = true ↔ CapMay c) := by
  unfold pack_May.f CapMay
  simp only [pack_May_1.f, Option.bind_some]
  obtain ⟨K, R, O, B, G, T⟩ := c
  simp only
  by_cases h5 : 0 ≤ T ∧ T ≤ 8
  · obtain ⟨n, rfl⟩ := Int.eq_ofNat_of_zero_le h5.1
    have hp := pow_lo n
    have hp2 := pow_le (show n ≤ 8 by omega)
    rw [bshl_i64 n (by omega) (by omega) (by omega), Int.one_mul]
    rw [show ((n : Int)).toNat = n by simp]
    generalize (2 : Int) ^ n = p at *
    rw [w64_id (by omega) (by omega)]
    have hc : chk (decide (0 ≤ (n : Int))) = some () := by simp [chk]
    simp only [hc, Option.bind_some, cond_some]
    refine ⟨_, rfl, ?_⟩
    simp only [Bool.cond_true_left, Bool.cond_false_left]
    simp only [cond_or]
    simp only [Bool.or_eq_true, Bool.and_eq_true, Bool.not_eq_true', decide_eq_true_eq, Bool.and_eq_false_iff, Bool.not_eq_false', decide_eq_false_iff_not, beq_iff_eq, bne_iff_ne, Bool.false_eq_true, reduceCtorEq, api_Cap.mk.injEq, Bool.or_eq_false_iff, beq_eq_false_iff_ne, bne_eq_false_iff_eq, ne_eq]
    omega
  · refine ⟨false, ?_, ?_⟩
    · have h6 : (decide (0 ≤ T) && decide (T ≤ 8)) = false := by simpa using h5
      by_cases hk : K = 0
      · have : ¬ ((⟨K, R, O, B, G, T⟩ : api_Cap) = ⟨0, 0, 0, 0, 0, 0⟩) := by
          simp only [api_Cap.mk.injEq]; omega
        simp [hk] at this ⊢
        omega
      · simp only [h6, Option.bind_some, cond_some]
        simp [hk]
    · simp only [Bool.false_eq_true, false_iff]; omega
theorem packPut_ok {k : Nat} {c : api_Cap} (h : CapMay c) : pack_Put.f (k + 40) c = some (capWord c, none) := by
  obtain ⟨b, hb, hb2⟩ := may_pack c
  have hg := guard_lt h
  rw [hb2.2 h] at hb
  unfold pack_Put.f
  rw [hb]
  obtain ⟨h1, h2, h3, h4, h5, h6, h7, h8, h9, h10, -, -, -, h14, h15⟩ := h
  obtain ⟨K, R, O, B, G, T⟩ := c
  simp only at *
  have e0 : bor .u64 0 (bshl .u64 (wu64 K) 0) = K := by
    rw [wu64_id (by omega) (by omega), show (0 : Int) = ((0 : Nat) : Int) from rfl, bshl_u64 0 (by omega) (by omega) (by omega)]
    rw [show ((0 : Nat) : Int) = 0 from rfl]
    rw [bor_add_u64 0 (by omega) (by omega) (by omega) (by omega) (by omega)]
    omega
  have e1 : bor .u64 K (bshl .u64 (wu64 R) 4) = K + R * 2 ^ 4 := by
    rw [wu64_id (by omega) (by omega), show (4 : Int) = ((4 : Nat) : Int) from rfl, bshl_u64 4 (by omega) (by omega) (by omega), bor_add_u64 4 (by omega) (by omega) (by omega) (by omega) (by omega)]
  have e2 : bor .u64 (K + R * 2 ^ 4) (bshl .u64 (wu64 O) 7) = K + R * 2 ^ 4 + O * 2 ^ 7 := by
    rw [wu64_id (by omega) (by omega), show (7 : Int) = ((7 : Nat) : Int) from rfl, bshl_u64 7 (by omega) (by omega) (by omega), bor_add_u64 7 (by omega) (by omega) (by omega) (by omega) (by omega)]
  have e3 : bor .u64 (K + R * 2 ^ 4 + O * 2 ^ 7) (bshl .u64 (wu64 B) 12) = K + R * 2 ^ 4 + O * 2 ^ 7 + B * 2 ^ 12 := by
    rw [wu64_id (by omega) (by omega), show (12 : Int) = ((12 : Nat) : Int) from rfl, bshl_u64 12 (by omega) (by omega) (by omega), bor_add_u64 12 (by omega) (by omega) (by omega) (by omega) (by omega)]
  have e4 : bor .u64 (K + R * 2 ^ 4 + O * 2 ^ 7 + B * 2 ^ 12) (bshl .u64 (wu64 T) 28) = K + R * 2 ^ 4 + O * 2 ^ 7 + B * 2 ^ 12 + T * 2 ^ 28 := by
    rw [wu64_id (by omega) (by omega), show (28 : Int) = ((28 : Nat) : Int) from rfl, bshl_u64 28 (by omega) (by omega) (by omega), bor_add_u64 28 (by omega) (by omega) (by omega) (by omega) (by omega)]
  have e5 : bor .u64 (K + R * 2 ^ 4 + O * 2 ^ 7 + B * 2 ^ 12 + T * 2 ^ 28) (bshl .u64 (wu64 G) 32) = K + R * 2 ^ 4 + O * 2 ^ 7 + B * 2 ^ 12 + T * 2 ^ 28 + G * 2 ^ 32 := by
    rw [wu64_id (by omega) (by omega), show (32 : Int) = ((32 : Nat) : Int) from rfl, bshl_u64 32 (by omega) (by omega) (by omega), bor_add_u64 32 (by omega) (by omega) (by omega) (by omega) (by omega)]
  have q : ∀ x y : Int, x = y → 0 ≤ y → y < 100 → w64 x = y := fun x y h _ _ => by subst h; exact w64_id (by omega) (by omega)
  have stp : ∀ (n : Nat) (i x s a b i' x' s' : Int), at_ [4, 3, 5, 16, 4, 8] i = some a → at_ [K, R, O, B, T, G] i = some b → decide (i < 6) = true → 0 ≤ s → i + 1 = i' → 0 ≤ i' → i' < 100 → s + a = s' → 0 ≤ s' → s' < 100 → bor .u64 x (bshl .u64 (wu64 b) s) = x' →
      pack_Put.l1 ⟨K, R, O, B, G, T⟩ [4, 3, 5, 16, 4, 8] (n + 1) (i, x, s) = pack_Put.l1 ⟨K, R, O, B, G, T⟩ [4, 3, 5, 16, 4, 8] n (i', x', s') := by
    intro n i x s a b i' x' s' h1 h2 h3 h4 h5 h6 h7 h8 h9 h10 h11
    have h12 : decide (i < (([4, 3, 5, 16, 4, 8] : List Int).length : Int)) = true := h3
    conv => lhs; unfold pack_Put.l1
    simp only [h12, h1, h2, Option.bind_some, cond_true, chk, decide_eq_true h4, q _ _ h5 h6 h7, q _ _ h8 h9 h10, h11]
  have hA : pack_Put.l1 ⟨K, R, O, B, G, T⟩ [4, 3, 5, 16, 4, 8] (k + 40) (0, 0, 0) = some (K + R * 2 ^ 4 + O * 2 ^ 7 + B * 2 ^ 12 + T * 2 ^ 28 + G * 2 ^ 32) := by
    refine (stp (k + 39) 0 0 0 4 K 1 _ 4 rfl rfl rfl (by decide) rfl (by decide) (by decide) rfl (by decide) (by decide) e0).trans ?_
    refine (stp (k + 38) 1 _ 4 3 R 2 _ 7 rfl rfl rfl (by decide) rfl (by decide) (by decide) rfl (by decide) (by decide) e1).trans ?_
    refine (stp (k + 37) 2 _ 7 5 O 3 _ 12 rfl rfl rfl (by decide) rfl (by decide) (by decide) rfl (by decide) (by decide) e2).trans ?_
    refine (stp (k + 36) 3 _ 12 16 B 4 _ 28 rfl rfl rfl (by decide) rfl (by decide) (by decide) rfl (by decide) (by decide) e3).trans ?_
    refine (stp (k + 35) 4 _ 28 4 T 5 _ 32 rfl rfl rfl (by decide) rfl (by decide) (by decide) rfl (by decide) (by decide) e4).trans ?_
    refine (stp (k + 34) 5 _ 32 8 G 6 _ 40 rfl rfl rfl (by decide) rfl (by decide) (by decide) rfl (by decide) (by decide) e5).trans ?_
    unfold pack_Put.l1
    rfl
  simp only [pack_widths.f, Option.bind_some, Bool.not_true, cond_false, hA, capWord]
theorem packPut_no {k : Nat} {c : api_Cap} (h : ¬ CapMay c) : pack_Put.f (k + 40) c = some (0, some 1) := by
  obtain ⟨b, hb, hb2⟩ := may_pack c
  have : b = false := by cases b <;> simp_all
  subst this
  unfold pack_Put.f
  rw [hb]; rfl
open Classical in
theorem packGet_ok {k : Nat} {w : Int} (h0 : 0 ≤ w) (h1 : w ≤ 18446744073709551615) : pack_Get.f (k + 40) w = some (if w / 2 ^ 4 / 2 ^ 3 / 2 ^ 5 / 2 ^ 16 / 2 ^ 4 / 2 ^ 8 = 0 ∧ CapMay (capOf w) then (capOf w, none) else (⟨0, 0, 0, 0, 0, 0⟩, some 1)) := by
  have q : ∀ x y : Int, x = y → 0 ≤ y → y < 100 → w64 x = y := fun x y h _ _ => by subst h; exact w64_id (by omega) (by omega)
  have stp : ∀ (n : Nat) (i x i' : Int) (m : Nat) (acc : List Int), at_ [4, 3, 5, 16, 4, 8] i = some (m : Int) → decide (i < 6) = true → 0 ≤ x → x ≤ 18446744073709551615 → m < 17 → i + 1 = i' → 0 ≤ i' → i' < 100 → acc.length < 10 →
      pack_Get.l1 [4, 3, 5, 16, 4, 8] (n + 1) (i, x, acc) = pack_Get.l1 [4, 3, 5, 16, 4, 8] n (i', x / 2 ^ m, acc ++ [x % 2 ^ m]) := by
    intro n i x i' m acc h1 h3 h4 h4b h5 h6 h7 h8 h9
    have h12 : decide (i < (([4, 3, 5, 16, 4, 8] : List Int).length : Int)) = true := h3
    have hm := pow_lo m
    have hm2 := pow_le (show m ≤ 17 by omega)
    have hx : x % 2 ^ m < 2 ^ m := Int.emod_lt_of_pos _ (by omega)
    have hx0 : 0 ≤ x % 2 ^ m := Int.emod_nonneg _ (by omega)
    have hmask : wu64 (bshl .u64 1 (m : Int) - 1) = 2 ^ m - 1 := by
      rw [bshl_u64 m (by omega) (by omega) (by omega), Int.one_mul]
      exact wu64_id (by omega) (by omega)
    have happ : app acc [x % 2 ^ m] = some (acc ++ [x % 2 ^ m]) := by
      unfold app
      have : decide (acc.length + [x % 2 ^ m].length ≤ 4294967296) = true := by simp; omega
      rw [this]; rfl
    conv => lhs; unfold pack_Get.l1
    simp only [h12, h1, Option.bind_some, cond_true, chk, decide_eq_true (show (0 : Int) ≤ (m : Int) by omega), hmask, band_mod_u64 m (by omega) h4 (by omega), w64_id (x := x % 2 ^ m) (by omega) (by omega), happ, q _ _ h6 h7 h8, bshr_nn (k := .u64) m (by show m ≤ 64; omega) h4]
  have hA : pack_Get.l1 [4, 3, 5, 16, 4, 8] (k + 40) (0, w, []) = some ([w % 2 ^ 4, w / 2 ^ 4 % 2 ^ 3, w / 2 ^ 4 / 2 ^ 3 % 2 ^ 5, w / 2 ^ 4 / 2 ^ 3 / 2 ^ 5 % 2 ^ 16, w / 2 ^ 4 / 2 ^ 3 / 2 ^ 5 / 2 ^ 16 % 2 ^ 4, w / 2 ^ 4 / 2 ^ 3 / 2 ^ 5 / 2 ^ 16 / 2 ^ 4 % 2 ^ 8], w / 2 ^ 4 / 2 ^ 3 / 2 ^ 5 / 2 ^ 16 / 2 ^ 4 / 2 ^ 8) := by
    refine (stp (k + 39) 0 _ 1 4 _ rfl (by decide) (by omega) (by omega) (by decide) rfl (by decide) (by decide) (by simp)).trans ?_
    refine (stp (k + 38) 1 _ 2 3 _ rfl (by decide) (by omega) (by omega) (by decide) rfl (by decide) (by decide) (by simp)).trans ?_
    refine (stp (k + 37) 2 _ 3 5 _ rfl (by decide) (by omega) (by omega) (by decide) rfl (by decide) (by decide) (by simp)).trans ?_
    refine (stp (k + 36) 3 _ 4 16 _ rfl (by decide) (by omega) (by omega) (by decide) rfl (by decide) (by decide) (by simp)).trans ?_
    refine (stp (k + 35) 4 _ 5 4 _ rfl (by decide) (by omega) (by omega) (by decide) rfl (by decide) (by decide) (by simp)).trans ?_
    refine (stp (k + 34) 5 _ 6 8 _ rfl (by decide) (by omega) (by omega) (by decide) rfl (by decide) (by decide) (by simp)).trans ?_
    unfold pack_Get.l1
    rfl
  obtain ⟨b, hb, hb2⟩ := may_pack (capOf w)
  unfold capOf at hb
  unfold pack_Get.f
  simp only [pack_widths.f, Option.bind_some, hA]
  simp only [at_, Int.le_refl, decide_true, cond_true, List.getElem?_cons_zero, Int.toNat_zero, Option.bind_some, show decide ((0 : Int) ≤ 1) = true from rfl, show decide ((0 : Int) ≤ 2) = true from rfl, show decide ((0 : Int) ≤ 3) = true from rfl, show decide ((0 : Int) ≤ 4) = true from rfl, show decide ((0 : Int) ≤ 5) = true from rfl,
    show (1 : Int).toNat = 1 from rfl, show (2 : Int).toNat = 2 from rfl, show (3 : Int).toNat = 3 from rfl, show (4 : Int).toNat = 4 from rfl, show (5 : Int).toNat = 5 from rfl, List.getElem?_cons_succ, hb]
  generalize hr : w / 2 ^ 4 / 2 ^ 3 / 2 ^ 5 / 2 ^ 16 / 2 ^ 4 / 2 ^ 8 = r
  cases b with
  | false =>
    have hn : ¬ CapMay (capOf w) := fun h => by simpa using hb2.2 h
    rw [if_neg (fun h => hn h.2)]
    by_cases hr0 : r = 0 <;> simp [hr0]
  | true =>
    have hy : CapMay (capOf w) := hb2.1 rfl
    by_cases hr0 : r = 0
    · rw [if_pos ⟨hr0, hy⟩]; simp [hr0, capOf]
    · rw [if_neg (fun h => hr0 h.1)]
      have : (r != 0) = true := by simpa using hr0
      simp only [this, cond_true, Option.bind_some]
end Go.Proofs
/-! A slot's capability. -/
set_option linter.unusedVariables false
namespace Go.Proofs
open Go.Sl
theorem cap_ok {s : List Int} (h : GoodU s) (k : Nat) (i : Int) : VM.run plainI (cspace_Cap.f (k + 40) i) s = some (capAt s i, s) := by
  unfold cspace_Cap.f capAt
  rw [runB, runO, slot_ok]
  by_cases hi : InSlot i 0
  · rw [if_pos hi, if_pos hi]
    have hi' := hi
    unfold InSlot at hi'
    simp only [Option.map_some, Option.bind_some, Bool.not_true, cond_false, Int.add_zero]
    rw [runRd _ (by rw [h.1.1]; omega), runB, runO, packGet_ok (h.1.2 _) (h.2 _)]
    unfold readCap
    by_cases q : s.getD (5 * i).toNat 0 / 2 ^ 4 / 2 ^ 3 / 2 ^ 5 / 2 ^ 16 / 2 ^ 4 / 2 ^ 8 = 0 ∧ CapMay (capOf (s.getD (5 * i).toNat 0))
    · rw [if_pos q, if_pos q]; rfl
    · rw [if_neg q, if_neg q]; rfl
  · rw [if_neg hi, if_neg hi]; rfl
end Go.Proofs
/-! Capabilities that are put into slots. -/
set_option linter.unusedVariables false
namespace Go.Proofs
open Go.Sl
/-- A capability is set. -/
def cset (s : List Int) (i : Int) (c : api_Cap) : List Int := s.set (5 * i).toNat (capWord c)
theorem cset_ok {s : List Int} (g : Good s) (k : Nat) (i : Int) (c : api_Cap) (hi : 0 ≤ i ∧ i < 96) (hc : CapMay c) : VM.run plainI (cspace_Set.f (k + 40) i c) s = some (none, cset s i c) := by
  unfold cspace_Set.f cset
  rw [runB, runO, slot_ok, if_pos ⟨hi.1, hi.2, by decide⟩]
  simp only [Option.map_some, Option.bind_some, Bool.not_true, cond_false, Int.add_zero, runB, runO, packPut_ok hc, Option.isSome_none]
  rw [runWr _ (by rw [g.1]; omega)]; rfl
theorem goodU_cset {s : List Int} (g : GoodU s) (i : Int) {c : api_Cap} (hc : CapMay c) : GoodU (cset s i c) := by
  obtain ⟨-, -, h3, h4⟩ := word_capOf hc
  refine ⟨⟨by simp [cset, g.1.1], fun j => ?_⟩, fun j => ?_⟩ <;> unfold cset <;> rw [getD_set] <;> split
  · exact h3
  · exact g.1.2 j
  · exact h4
  · exact g.2 j
theorem readCap_word {c : api_Cap} (hc : CapMay c) : readCap (capWord c) = c := by
  obtain ⟨h1, h2, -, -⟩ := word_capOf hc
  unfold readCap
  rw [if_pos ⟨h2, by rw [h1]; exact hc⟩, h1]
theorem capAt_cset {s : List Int} (hl : s.length = 738) (i k : Int) {c : api_Cap} (hi : 0 ≤ i ∧ i < 96) (hc : CapMay c) : capAt (cset s i c) k = if k = i then c else capAt s k := by
  unfold capAt cset
  by_cases hk : InSlot k 0
  · have hk' := hk
    unfold InSlot at hk'
    rw [if_pos hk, if_pos hk, getD_set]
    by_cases e : k = i
    · rw [if_pos ⟨by omega, by omega⟩, if_pos e, readCap_word hc]
    · rw [if_neg (by omega), if_neg e]
  · rw [if_neg hk, if_neg hk, if_neg]
    intro e; apply hk; rw [e]; exact ⟨hi.1, hi.2, by decide⟩
theorem fld_cset {s : List Int} (i : Int) (c : api_Cap) (hi : 0 ≤ i ∧ i < 96) (i' f' : Int) : fld (cset s i c) i' f' = fld s i' f' := by
  unfold fld cset
  split
  · rename_i h
    unfold InObj at h
    rw [getD_set, if_neg (by omega)]
  · rfl
theorem sget_cset {s : List Int} (i : Int) (c : api_Cap) (hi : 0 ≤ i ∧ i < 96) (i' f' : Int) (hf : f' ≠ 0) : sget (cset s i c) i' f' = sget s i' f' := by
  unfold sget
  split
  · rename_i h
    unfold InSlot at h
    have : (cset s i c).getD (5 * i' + f').toNat 0 = s.getD (5 * i' + f').toNat 0 := by
      unfold cset; rw [getD_set, if_neg (by omega)]
    rw [this]
  · rfl
end Go.Proofs
/-! Capabilities in slots of a state. -/
set_option linter.unusedVariables false
namespace Go.Proofs
open Go.Sl
def cupd (st : ref10_State) (i : Int) (c : api_Cap) : ref10_State := { st with Slots := st.Slots.set i.toNat ({ slt st i with Cap := c } : ref10_Slot) }
def cC (C : Int → api_Cap) (i : Int) (c : api_Cap) : Int → api_Cap := fun j => if j = i then c else C j
theorem slt_cupd {st : ref10_State} (h : st.Slots.length = 96) {i j : Int} (hi : 0 ≤ i ∧ i < 96) (hj : 0 ≤ j) (c : api_Cap) : slt (cupd st i c) j = if j = i then ({ slt st i with Cap := c } : ref10_Slot) else slt st j := by
  show (List.set _ _ _).getD j.toNat default = _
  rw [sg_set h hi hj]; rfl
theorem cupd_is {st : ref10_State} (h : st.Slots.length = 96) {i : Int} (hi : 0 ≤ i ∧ i < 96) (c : api_Cap) : SlIs (cupd st i c) (Pst st) (Kst st) (cC (Cst st) i c) := by
  refine ⟨by simp [cupd, h], fun j j0 j1 => ?_, fun j j0 j1 => ?_, fun j j0 j1 => ?_⟩
  · rw [slt_cupd h hi j0]; unfold Pst
    split
    · rename_i e; rw [e]
    · rfl
  · rw [slt_cupd h hi j0]; unfold Kst
    split
    · rename_i e; rw [e]
    · rfl
  · rw [slt_cupd h hi j0]; unfold cC Cst
    split <;> rfl
theorem WF.cupd {st : ref10_State} (h : WF st) {i : Int} (hi : 0 ≤ i ∧ i < 96) {c : api_Cap} (hc : CapMay c) : WF (cupd st i c) :=
  h.slots (cupd_is h.ls hi c) (tree_st h) (fun j j0 j1 => by unfold cC; split; exact hc; exact h.cap j j0 j1) rfl rfl rfl
theorem IsW.cset {st : ref10_State} (h : WF st) {v : List Int} (hv : IsW st v) {i : Int} (hi : 0 ≤ i ∧ i < 96) (c : api_Cap) : IsW (Go.Proofs.cupd st i c) (Go.Proofs.cset v i c) := by
  have S := cupd_is h.ls hi c
  have hl := hv.len
  refine ⟨by simp [Go.Proofs.cset, hl], fun j f j0 j1 f0 f1 => ?_, fun j f j0 j1 f0 f1 => ?_, ?_, ?_⟩
  · unfold Go.Proofs.cset
    rw [getD_set]
    by_cases e : f = 0
    · subst e
      unfold sl
      rw [if_pos rfl, S.cap j j0 j1]
      unfold cC
      by_cases q : j = i
      · rw [if_pos ⟨by omega, by omega⟩, if_pos q]
      · have a1 := hv.slot j 0 j0 j1 (by decide) (by decide)
        unfold sl at a1
        rw [if_pos rfl] at a1
        rw [if_neg (by omega), if_neg q]; exact a1
    · rw [if_neg (by omega), hv.slot j f j0 j1 f0 f1, sl_slw _ j (by omega), sl_slw _ j (by omega)]
      exact (slw_congr (tree_st h) S.par S.kid j0 j1 f).symm
  · unfold Go.Proofs.cset
    rw [getD_set, if_neg (by omega), hv.obj j f j0 j1 f0 f1]; rfl
  · unfold Go.Proofs.cset
    rw [getD_set, if_neg (by omega)]; exact hv.ns
  · unfold Go.Proofs.cset
    rw [getD_set, if_neg (by omega)]; exact hv.no
/-- A slot's capability, out of the words. -/
theorem IsW.capAt {st : ref10_State} (h : WF st) {v : List Int} (hv : IsW st v) {i : Int} (hi : 0 ≤ i ∧ i < 96) : Go.Proofs.capAt v i = (slt st i).Cap := by
  unfold Go.Proofs.capAt
  have a1 := hv.slot i 0 hi.1 hi.2 (by decide) (by decide)
  rw [show 5 * i + 0 = 5 * i by omega] at a1
  unfold sl at a1
  rw [if_pos rfl] at a1
  rw [if_pos ⟨hi.1, hi.2, by decide, by decide⟩, a1, readCap_word (h.cap i hi.1 hi.2)]
theorem capAt_out {v : List Int} {i : Int} (hi : ¬ InSlot i 0) : Go.Proofs.capAt v i = noCap := by unfold Go.Proofs.capAt; rw [if_neg hi]
theorem noCap_may : CapMay noCap := by decide
/-- A capability is set. -/
theorem cset_pl {st : ref10_State} (h : WF st) {v : List Int} (hv : IsW st v) {i : Int} (hi : 0 ≤ i ∧ i < 96) {c : api_Cap} (hc : CapMay c) {k : Nat} (hk : 40 ≤ k) : VM.run plainI (cspace_Set.f k i c) v = some (none, Go.Proofs.cset v i c) ∧ WF (Go.Proofs.cupd st i c) ∧ IsW (Go.Proofs.cupd st i c) (Go.Proofs.cset v i c) := by
  obtain ⟨k, rfl⟩ : ∃ q, k = q + 40 := ⟨k - 40, by omega⟩
  exact ⟨cset_ok (hv.good h).1 k i c hi hc, h.cupd hi hc, hv.cset h hi c⟩
theorem cap_pl {st : ref10_State} (h : WF st) {v : List Int} (hv : IsW st v) (i : Int) {k : Nat} (hk : 40 ≤ k) : VM.run plainI (cspace_Cap.f k i) v = some (if InSlot i 0 then (slt st i).Cap else noCap, v) := by
  obtain ⟨k, rfl⟩ : ∃ q, k = q + 40 := ⟨k - 40, by omega⟩
  rw [cap_ok (hv.good h)]
  by_cases c : InSlot i 0
  · rw [if_pos c, hv.capAt h c.rg]
  · rw [if_neg c, capAt_out c]
end Go.Proofs
/-! A slot deleted, of a state. -/
set_option linter.unusedVariables false
namespace Go.Proofs
open Go.Sl
def delBad (st : ref10_State) (a : Int) : Int := if ¬ InSlot a 0 then 2 else if Kst st a ≠ [] then 9 else 0
/-- The state behind a slot's deletion. -/
structure Dl (st st' : ref10_State) (a : Int) : Prop where
  ina : InSlot a 0
  kid : Kst st a = []
  rest : Rest st st'
  slots : SlIs st' (uP (Pst st) a) (if 0 ≤ Pst st a then uK (Kst st) a (Pst st a) else Kst st) (cC (Cst st) a noCap)
theorem uP_id {P : Int → Int} {a : Int} (h : P a = -1) : uP P a = P := by
  funext i; unfold uP; split
  · rename_i e; rw [e, h]
  · rfl
theorem rdel_ok {st : ref10_State} (h : WF st) (a : Int) {k : Nat} (hk : 100 ≤ k) : ∃ st', ref10_State_Delete.f k st a = some (delBad st a, st') ∧ WF st' ∧ Rest st st' ∧ (delBad st a ≠ 0 → st' = st) ∧ (delBad st a = 0 → Dl st st' a ∧ ∃ st1, ref10_State_Unlink.f k st a = some (0, st1) ∧ WF st1 ∧ st' = cupd st1 a noCap) := by
  unfold ref10_State_Delete.f
  rw [rslot_ok, Option.bind_some]
  by_cases ia : InSlot a 0
  · have ra := ia.rg
    rw [decide_eq_true ia, Bool.not_true, cond_false, at_slot h.ls ra, Option.bind_some]
    by_cases c : Kst st a = []
    · have hb : delBad st a = 0 := by unfold delBad; rw [if_neg (fun q => q ia), if_neg (fun q => q c)]
      have c' : (slt st a).Kids = [] := c
      obtain ⟨n, st1, e, _, _, h1, rs, _, e2⟩ := runlink_ok h a hk
      obtain ⟨n0, z1, z2⟩ := e2 ia
      subst n0
      rw [c']
      simp only [List.length_nil]
      rw [decide_eq_false (by decide), cond_false, e, Option.bind_some]
      simp only []
      rw [at_slot h1.ls ra, Option.bind_some, hb]
      refine ⟨cupd st1 a noCap, rfl, h1.cupd ra noCap_may, ⟨rs.ob, rs.ns, rs.no⟩, fun z => absurd rfl z, fun _ => ⟨⟨ia, c, ⟨rs.ob, rs.ns, rs.no⟩, ?_⟩, st1, rfl, h1, rfl⟩⟩
      have C := cupd_is h1.ls ra noCap
      have pr := h.par a ra.1 ra.2
      by_cases p : 0 ≤ Pst st a
      · have S := z2 p
        rw [if_pos p]
        exact ⟨C.len, fun i i0 i1 => by rw [C.par i i0 i1]; exact S.par i i0 i1, fun i i0 i1 => by rw [C.kid i i0 i1]; exact S.kid i i0 i1, fun i i0 i1 => by
          rw [C.cap i i0 i1]; unfold cC
          split
          · rfl
          · exact S.cap i i0 i1⟩
      · have pm : Pst st a = -1 := by have : -1 ≤ Pst st a := pr.1; omega
        have S := z1 pm
        subst S
        rw [if_neg p, uP_id pm]; exact C
    · have hb : delBad st a = 9 := by unfold delBad; rw [if_neg (fun q => q ia), if_pos c]
      have c' : (slt st a).Kids ≠ [] := c
      have := List.length_pos_iff.2 c'
      rw [decide_eq_true (by omega), cond_true, hb]
      exact ⟨st, rfl, h, Rest.refl st, fun _ => rfl, fun z => absurd z (by decide)⟩
  · have hb : delBad st a = 2 := by unfold delBad; rw [if_pos ia]
    rw [decide_eq_false ia, Bool.not_false, cond_true, hb]
    exact ⟨st, rfl, h, Rest.refl st, fun _ => rfl, fun z => absurd z (by decide)⟩
end Go.Proofs
/-! Rights, plainly: what is derived, minted, mutated. -/
set_option linter.unusedVariables false
namespace Go.Proofs
open Go.Sl
set_option maxRecDepth 100000 in
theorem two_ok (k : Nat) {n : Int} (h0 : 0 ≤ n) (h : n ≤ 16) : ref01_two.f (k + 40) n = some (2 ^ n.toNat) := by
  rcases (by omega : n = 0 ∨ n = 1 ∨ n = 2 ∨ n = 3 ∨ n = 4 ∨ n = 5 ∨ n = 6 ∨ n = 7 ∨ n = 8 ∨ n = 9 ∨ n = 10 ∨ n = 11 ∨ n = 12 ∨ n = 13 ∨ n = 14 ∨ n = 15 ∨ n = 16) with rfl | rfl | rfl | rfl | rfl | rfl | rfl | rfl | rfl | rfl | rfl | rfl | rfl | rfl | rfl | rfl | rfl <;> rfl
theorem may_ref (k : Nat) (c : api_Cap) : ∃ b, ref01_May.f (k + 40) c = some b ∧ (b = true ↔ CapMay c) := by
  unfold ref01_May.f CapMay
  simp only [ref01_in.f, Option.bind_some]
  obtain ⟨K, R, O, B, G, T⟩ := c
  simp only
  by_cases h5 : 0 ≤ T ∧ T ≤ 8
  · rw [two_ok k h5.1 (by omega)]
    generalize (2 : Int) ^ T.toNat = p
    simp only [Option.bind_some, Bool.cond_eq_ite]
    repeat' split
    all_goals refine ⟨_, rfl, ?_⟩
    all_goals simp only [Bool.or_eq_true, Bool.and_eq_true, Bool.not_eq_true', decide_eq_true_eq, Bool.and_eq_false_imp, decide_eq_false_iff_not, beq_iff_eq, bne_iff_ne, Bool.false_eq_true, true_iff, false_iff] at *
    all_goals omega
  · refine ⟨false, ?_, ?_⟩
    · have : (decide (0 ≤ T) && decide (T ≤ 8)) = false := by simpa using h5
      simp [this]
    · simp only [Bool.false_eq_true, false_iff]; omega
theorem all8 {P : Int → Prop} (h : ∀ i : Fin 8, P ((i.val : Nat) : Int)) {a : Int} (h0 : 0 ≤ a) (h1 : a ≤ 7) : P a := by
  have := h ⟨a.toNat, by omega⟩
  rwa [show ((a.toNat : Nat) : Int) = a by omega] at this
theorem all88 {P : Int → Int → Prop} (h : ∀ i j : Fin 8, P ((i.val : Nat) : Int) ((j.val : Nat) : Int)) {a b : Int} (h0 : 0 ≤ a) (h1 : a ≤ 7) (h2 : 0 ≤ b) (h3 : b ≤ 7) : P a b :=
  all8 (P := fun a => P a b) (fun i => all8 (P := fun b => P ((i.val : Nat) : Int) b) (fun j => h i j) h2 h3) h0 h1
set_option maxRecDepth 100000 in
theorem both_ok (k : Nat) {a b : Int} (h0 : 0 ≤ a) (h1 : a ≤ 7) (h2 : 0 ≤ b) (h3 : b ≤ 7) : ref01_both.f (k + 40) a b = some (band .i64 a b) := by
  rcases (by omega : a = 0 ∨ a = 1 ∨ a = 2 ∨ a = 3 ∨ a = 4 ∨ a = 5 ∨ a = 6 ∨ a = 7) with rfl | rfl | rfl | rfl | rfl | rfl | rfl | rfl <;>
    rcases (by omega : b = 0 ∨ b = 1 ∨ b = 2 ∨ b = 3 ∨ b = 4 ∨ b = 5 ∨ b = 6 ∨ b = 7) with rfl | rfl | rfl | rfl | rfl | rfl | rfl | rfl <;> rfl
theorem band_rg {a b : Int} (h0 : 0 ≤ a) (h1 : a ≤ 7) (h2 : 0 ≤ b) (h3 : b ≤ 7) : 0 ≤ band .i64 a b ∧ band .i64 a b ≤ 7 :=
  all88 (P := fun a b => 0 ≤ band .i64 a b ∧ band .i64 a b ≤ 7) (by decide +kernel) h0 h1 h2 h3
theorem bclr_band {a b : Int} (h0 : 0 ≤ a) (h1 : a ≤ 7) (h2 : 0 ≤ b) (h3 : b ≤ 7) : (bclr .i64 a b == 0) = (band .i64 a b == a) :=
  all88 (P := fun a b => (bclr .i64 a b == 0) = (band .i64 a b == a)) (by decide +kernel) h0 h1 h2 h3
theorem bclr_in {a b : Int} (h0 : 0 ≤ a) (h1 : a ≤ 7) (h2 : 0 ≤ b) (h3 : b ≤ 7) : bclr .i64 (band .i64 a b) a = 0 :=
  all88 (P := fun a b => bclr .i64 (band .i64 a b) a = 0) (by decide +kernel) h0 h1 h2 h3
theorem bclr_self {a : Int} (h0 : 0 ≤ a) (h1 : a ≤ 7) : bclr .i64 a a = 0 :=
  all8 (P := fun a => bclr .i64 a a = 0) (by decide +kernel) h0 h1
theorem band_comm3 {a b c : Int} (h0 : 0 ≤ a) (h1 : a ≤ 7) (h2 : 0 ≤ b) (h3 : b ≤ 7) (h4 : 0 ≤ c) (h5 : c ≤ 7) : band .i64 (band .i64 a b) c = band .i64 (band .i64 a c) b :=
  all8 (P := fun a => band .i64 (band .i64 a b) c = band .i64 (band .i64 a c) b) (fun i => all88 (P := fun b c => band .i64 (band .i64 ((i.val : Nat) : Int) b) c = band .i64 (band .i64 ((i.val : Nat) : Int) c) b) (by revert i; decide +kernel) h2 h3 h4 h5) h0 h1
theorem real_ok (c : api_Cap) : ∃ b, rights_real.f c = some b ∧ (b = true ↔ (c.Kind ≠ 0 ∧ CapMay c)) := by
  obtain ⟨b, hb, hb2⟩ := may_pack c
  unfold rights_real.f
  rw [hb]
  by_cases hk : c.Kind = 0
  · exact ⟨false, by simp [hk], by simp [hk]⟩
  · exact ⟨b, by simp [hk, Bool.cond_eq_ite], by simp [hk, hb2]⟩
theorem mask_ok (m : Int) : rights_mask.f m = some (decide (0 ≤ m ∧ m ≤ 7)) := by
  unfold rights_mask.f
  simp
open Classical in
/-- What both come to. -/
noncomputable def drv (c : api_Cap) (m : Int) : api_Cap × Int :=
  if c.Kind ≠ 0 ∧ CapMay c ∧ 0 ≤ m ∧ m ≤ 7 then (if c.Kind = 1 then (⟨0, 0, 0, 0, 0, 0⟩, 5) else (⟨c.Kind, band .i64 c.Rights m, c.Obj, c.Badge, c.Guard, c.Bits⟩, 0)) else (⟨0, 0, 0, 0, 0, 0⟩, 1)
open Classical in
noncomputable def mnt (c : api_Cap) (m b : Int) : api_Cap × Int :=
  if c.Kind ≠ 0 ∧ CapMay c ∧ 0 ≤ m ∧ m ≤ 7 ∧ 1 ≤ b ∧ b ≤ 65535 then (if c.Kind ≠ 3 ∧ c.Kind ≠ 4 then (⟨0, 0, 0, 0, 0, 0⟩, 5) else if c.Badge ≠ 0 then (⟨0, 0, 0, 0, 0, 0⟩, 10) else (⟨c.Kind, band .i64 c.Rights m, c.Obj, b, c.Guard, c.Bits⟩, 0)) else (⟨0, 0, 0, 0, 0, 0⟩, 1)
def eOf (n : Int) : Option Int := if n = 0 then none else some n
theorem derive_ok (c : api_Cap) (m : Int) : rights_Derive.f c m = some ((drv c m).1, eOf (drv c m).2) := by
  obtain ⟨b, hb, hb2⟩ := real_ok c
  unfold rights_Derive.f drv
  rw [hb, mask_ok]
  by_cases h : c.Kind ≠ 0 ∧ CapMay c
  · rw [hb2.2 h]
    by_cases hm : 0 ≤ m ∧ m ≤ 7
    · rw [if_pos ⟨h.1, h.2, hm⟩]
      by_cases hk : c.Kind = 1 <;> simp [hm, hk, eOf, Bool.cond_eq_ite]
    · rw [if_neg (fun x => hm x.2.2)]
      simp [hm, eOf]
  · have : b = false := by cases b <;> simp_all
    rw [this, if_neg (fun x => h ⟨x.1, x.2.1⟩)]
    simp [eOf]
theorem rderive_ok (k : Nat) (c : api_Cap) (m : Int) : ref01_Derive.f (k + 40) c m = some (drv c m) := by
  obtain ⟨b, hb, hb2⟩ := may_ref k c
  unfold ref01_Derive.f drv
  rw [hb]
  by_cases h : CapMay c
  · rw [hb2.2 h]
    by_cases hk : c.Kind = 0
    · rw [if_neg (fun x => x.1 hk)]; simp [hk]
    · by_cases hm : 0 ≤ m ∧ m ≤ 7
      · rw [if_pos ⟨hk, h, hm⟩]
        have h2 := h
        obtain ⟨-, -, h3, h4, -⟩ := h2
        rw [both_ok k h3 h4 hm.1 hm.2]
        have d1 : decide (m < 0) = false := by simpa using hm.1
        have d2 : decide (7 < m) = false := by simpa using hm.2
        by_cases hk1 : c.Kind = 1 <;> simp [hk, d1, d2, hk1, Bool.cond_eq_ite]
      · rw [if_neg (fun x => hm x.2.2)]
        have : (decide (m < 0) || decide (7 < m)) = true := by simp; omega
        simp [Bool.or_assoc, this]
  · have : b = false := by cases b <;> simp_all
    rw [this, if_neg (fun x => h x.2.1)]
    simp
theorem mint_ok (c : api_Cap) (m g : Int) : rights_Mint.f c m g = some ((mnt c m g).1, eOf (mnt c m g).2) := by
  obtain ⟨b, hb, hb2⟩ := real_ok c
  unfold rights_Mint.f mnt
  rw [hb, mask_ok]
  by_cases h : c.Kind ≠ 0 ∧ CapMay c
  · rw [hb2.2 h]
    by_cases hm : 0 ≤ m ∧ m ≤ 7
    · by_cases hg : 1 ≤ g ∧ g ≤ 65535
      · rw [if_pos ⟨h.1, h.2, hm.1, hm.2, hg⟩]
        have d1 : decide (g < 1) = false := by simp; omega
        have d2 : decide (65535 < g) = false := by simp; omega
        by_cases h3 : c.Kind = 3 <;> by_cases h4 : c.Kind = 4 <;> by_cases h5 : c.Badge = 0 <;> simp [hm, d1, d2, h3, h4, h5, eOf, Bool.cond_eq_ite]
      · rw [if_neg (fun x => hg x.2.2.2.2)]
        have : (decide (g < 1) || decide (65535 < g)) = true := by simp; omega
        simp [hm, Bool.or_assoc, this, eOf]
    · rw [if_neg (fun x => hm ⟨x.2.2.1, x.2.2.2.1⟩)]
      simp [hm, eOf]
  · have : b = false := by cases b <;> simp_all
    rw [this, if_neg (fun x => h ⟨x.1, x.2.1⟩)]
    simp [eOf]
theorem rmint_ok (k : Nat) (c : api_Cap) (m g : Int) : ref01_Mint.f (k + 40) c m g = some (mnt c m g) := by
  obtain ⟨b, hb, hb2⟩ := may_ref k c
  unfold ref01_Mint.f mnt
  rw [hb]
  by_cases h : CapMay c
  · rw [hb2.2 h]
    by_cases hk : c.Kind = 0
    · rw [if_neg (fun x => x.1 hk)]; simp [hk]
    · by_cases hm : 0 ≤ m ∧ m ≤ 7 ∧ 1 ≤ g ∧ g ≤ 65535
      · rw [if_pos ⟨hk, h, hm⟩]
        have h2 := h
        obtain ⟨-, -, h3, h4, -⟩ := h2
        rw [both_ok k h3 h4 hm.1 hm.2.1]
        have d1 : decide (m < 0) = false := by simpa using hm.1
        have d2 : decide (7 < m) = false := by simpa using hm.2.1
        have d3 : decide (g < 1) = false := by simp; omega
        have d4 : decide (65535 < g) = false := by simp; omega
        by_cases h3 : c.Kind = 3 <;> by_cases h4 : c.Kind = 4 <;> by_cases h5 : c.Badge = 0 <;> simp [hk, d1, d2, d3, d4, h3, h4, h5, Bool.cond_eq_ite]
      · rw [if_neg (fun x => hm x.2.2)]
        have : (decide (m < 0) || (decide (7 < m) || (decide (g < 1) || decide (65535 < g)))) = true := by simp; omega
        simp [Bool.or_assoc, this]
  · have : b = false := by cases b <;> simp_all
    rw [this, if_neg (fun x => h x.2.1)]
    simp
theorem mutate_ok (k : Nat) (c : api_Cap) (m g : Int) : ∃ x n, rights_Mutate.f c m g = some (x, eOf n) ∧ ref01_Mutate.f (k + 40) c m g = some (x, n) ∧ (n = 0 ∨ n = 1 ∨ n = 5) ∧ (n = 0 → c.Kind = 2 ∧ x = ⟨c.Kind, c.Rights, c.Obj, c.Badge, m, g⟩ ∧ CapMay x) := by
  obtain ⟨b, hb, hb2⟩ := real_ok c
  obtain ⟨b1, hb1, hb3⟩ := may_ref k c
  obtain ⟨b4, hb4, hb5⟩ := may_ref k ⟨c.Kind, c.Rights, c.Obj, c.Badge, m, g⟩
  obtain ⟨b6, hb6, hb7⟩ := may_pack ⟨c.Kind, c.Rights, c.Obj, c.Badge, m, g⟩
  have e64 : b6 = b4 := by cases b4 <;> cases b6 <;> simp_all
  subst e64
  have eb : b = (b1 && !(c.Kind == 0)) := by
    cases b <;> cases b1 <;> by_cases hk : c.Kind = 0 <;> simp_all
  unfold rights_Mutate.f ref01_Mutate.f
  rw [hb, hb1, hb4, hb6, eb]
  by_cases hk : c.Kind = 0 <;> by_cases hk2 : c.Kind = 2 <;> cases b1 <;> cases b6
  all_goals first
    | (refine ⟨⟨0, 0, 0, 0, 0, 0⟩, 1, ?_, ?_, by decide, fun z => absurd z (by decide)⟩ <;> simp [hk, hk2, eOf, Bool.cond_eq_ite] <;> done)
    | (refine ⟨⟨0, 0, 0, 0, 0, 0⟩, 5, ?_, ?_, by decide, fun z => absurd z (by decide)⟩ <;> simp [hk, hk2, eOf, Bool.cond_eq_ite] <;> done)
    | (refine ⟨⟨c.Kind, c.Rights, c.Obj, c.Badge, m, g⟩, 0, ?_, ?_, by decide, fun _ => ⟨hk2, rfl, hb5.1 rfl⟩⟩ <;> simp [hk, hk2, eOf, Bool.cond_eq_ite] <;> done)
    | exact absurd (hk.symm.trans hk2) (by decide)
end Go.Proofs
