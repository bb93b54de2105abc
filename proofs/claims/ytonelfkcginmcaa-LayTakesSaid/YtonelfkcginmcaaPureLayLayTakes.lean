/- Plain laws of what LayTakes reaches, part PureLay. On no condition. -/
import Derived.Test.YtonelfkcginmcaaFnLayTakes0
import Derived.Test.YtonelfkcginmcaaSlBits
set_option linter.all false
/-! The words of slots and objects, plainly. -/
namespace Go.Proofs
open Go.Sl
def InObj (i f : Int) : Prop := 0 ≤ i ∧ i < 32 ∧ 0 ≤ f ∧ f < 8
def InSlot (i f : Int) : Prop := 0 ≤ i ∧ i < 96 ∧ 0 ≤ f ∧ f < 5
instance (i f : Int) : Decidable (InObj i f) := inferInstanceAs (Decidable (_ ∧ _))
instance (i f : Int) : Decidable (InSlot i f) := inferInstanceAs (Decidable (_ ∧ _))
theorem slot_ok (a b : Int) : lay_Slot.f a b = some (if InSlot a b then (5 * a + b, true) else (0, false)) := by
  unfold lay_Slot.f InSlot
  simp only [lay_in.f]
  by_cases h1 : 0 ≤ a <;> by_cases h2 : a < 96 <;> by_cases h3 : 0 ≤ b <;> by_cases h4 : b < 5 <;> simp [h1, h2, h3, h4]
  rw [w64_id (x := a * 5) (by omega) (by omega), w64_id (by omega) (by omega)]; omega
theorem obj_ok (a b : Int) : lay_Obj.f a b = some (if InObj a b then (480 + 8 * a + b, true) else (0, false)) := by
  unfold lay_Obj.f InObj
  simp only [lay_in.f]
  by_cases h1 : 0 ≤ a <;> by_cases h2 : a < 32 <;> by_cases h3 : 0 ≤ b <;> by_cases h4 : b < 8 <;> simp [h1, h2, h3, h4]
  rw [w64_id (x := a * 8) (by omega) (by omega), w64_id (x := 480 + a * 8) (by omega) (by omega), w64_id (by omega) (by omega)]; omega
theorem up09 : law09_up.f = some true := by
  unfold law09_up.f
  simp [slot_ok, obj_ok, lay_Size.f, InSlot, InObj]
theorem words0 (k : Nat) : law09_words.f (k + 1) [] = some (List.replicate 738 0) := by
  unfold law09_words.f
  have : mk_ (0 : Int) 738 = some (List.replicate 738 0) := by unfold mk_; rfl
  rw [this]
  simp only [Option.bind_some]
  unfold law09_words.l1
  rfl
theorem prd {s : List Int} {i : Int} (h : 0 ≤ i ∧ i < (s.length : Int)) : plainI.rd s i = (s.getD i.toNat 0, s) := by
  show ((view_Plain_Read.f s i).getD 0, s) = _
  unfold view_Plain_Read.f view_Plain_has.f
  have h2 : s[i.toNat]? = some s[i.toNat] := List.getElem?_eq_getElem (by omega)
  have h1 : (decide (0 ≤ i) && decide (i < (s.length : Int))) = true := by simp; omega
  have h3 : at_ s i = some s[i.toNat] := by unfold at_; rw [decide_eq_true h.1, cond_true, h2]
  simp only [h1, Option.bind_some, Bool.not_true, cond_false, h3, Option.getD_some, List.getD, h2]
theorem pwr {s : List Int} {i x : Int} (h : 0 ≤ i ∧ i < (s.length : Int)) : plainI.wr s i x = s.set i.toNat x := by
  show (view_Plain_Write.f s i x).getD s = _
  unfold view_Plain_Write.f view_Plain_has.f
  have h2 : s[i.toNat]? = some s[i.toNat] := List.getElem?_eq_getElem (by omega)
  have h1 : (decide (0 ≤ i) && decide (i < (s.length : Int))) = true := by simp; omega
  have h3 : at_ s i = some s[i.toNat] := by unfold at_; rw [decide_eq_true h.1, cond_true, h2]
  simp only [h1, Option.bind_some, cond_true, h3, Option.getD_some]
theorem put_in {s : List Int} {i f n : Int} (h : InObj i f) (hn : 0 ≤ n) (hn2 : n ≤ 9223372036854775807) (hs : s.length = 738) : VM.run plainI (lay_Put.f i f n) s = some ((), s.set (480 + 8 * i + f).toNat n) := by
  unfold lay_Put.f
  rw [obj_ok, if_pos h]
  show VM.run plainI (bif true && decide (0 ≤ n) then (VM.wr (480 + 8 * i + f) (wu64 n) (VM.ret ())) else (VM.ret ())) s = _
  rw [decide_eq_true hn, Bool.and_true, cond_true]
  show some ((), plainI.wr s (480 + 8 * i + f) (wu64 n)) = _
  unfold InObj at h
  rw [pwr (by omega), wu64_id hn (by omega)]
theorem put_out {s : List Int} {i f n : Int} (h : ¬ InObj i f ∨ n < 0) : VM.run plainI (lay_Put.f i f n) s = some ((), s) := by
  unfold lay_Put.f
  rw [obj_ok]
  by_cases hi : InObj i f
  · rw [if_pos hi]
    show VM.run plainI (bif true && decide (0 ≤ n) then (VM.wr (480 + 8 * i + f) (wu64 n) (VM.ret ())) else (VM.ret ())) s = _
    have hn : ¬ (0 ≤ n) := by
      rcases h with h | h
      · exact absurd hi h
      · omega
    rw [decide_eq_false hn]
    rfl
  · rw [if_neg hi]; rfl
def numb (w : Int) : Int := if 4611686018427387904 < w then 0 else w
theorem field_in {s : List Int} {i f : Int} (h : InObj i f) (hs : s.length = 738) (hx : 0 ≤ s.getD (480 + 8 * i + f).toNat 0) : VM.run plainI (lay_Field.f i f) s = some (numb (s.getD (480 + 8 * i + f).toNat 0), s) := by
  unfold lay_Field.f
  rw [obj_ok, if_pos h]
  show VM.run plainI (bif decide (4611686018427387904 < (plainI.rd s (480 + 8 * i + f)).1) then (VM.ret 0) else (VM.ret (w64 (plainI.rd s (480 + 8 * i + f)).1))) (plainI.rd s (480 + 8 * i + f)).2 = _
  unfold InObj at h
  rw [prd (by omega)]
  show VM.run plainI (bif decide (4611686018427387904 < s.getD (480 + 8 * i + f).toNat 0) then (VM.ret 0) else (VM.ret (w64 (s.getD (480 + 8 * i + f).toNat 0)))) s = _
  generalize s.getD (480 + 8 * i + f).toNat 0 = x at hx
  unfold numb
  by_cases hb : 4611686018427387904 < x
  · rw [decide_eq_true hb, if_pos hb]; rfl
  · rw [decide_eq_false hb, if_neg hb, w64_id (by omega) (by omega)]; rfl
theorem field_out {s : List Int} {i f : Int} (h : ¬ InObj i f) : VM.run plainI (lay_Field.f i f) s = some (0, s) := by
  unfold lay_Field.f
  rw [obj_ok, if_neg h]; rfl
