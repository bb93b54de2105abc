/- Plain laws of what CdtSound reaches, part P10Small. On no condition. -/
import Derived.Test.YtbhboofhcgkgfaaP10VBCdtSound
set_option linter.all false
/-! Words that fields tell as they are. -/
set_option linter.unusedVariables false
namespace Go.Proofs
open Go.Sl
def Sm (s : List Int) : Prop := ∀ j, s.getD j 0 ≤ 4611686018427387904
theorem sm_put {s : List Int} (h : Sm s) {i f n : Int} (hn : n ≤ 4611686018427387904) : Sm (put s i f n) := by
  intro j; unfold put; split
  · rw [getD_set]; split
    · exact hn
    · exact h j
  · exact h j
theorem raw_fld {s : List Int} (h : Sm s) {i f : Int} (hi : InObj i f) : s.getD (480 + 8 * i + f).toNat 0 = fld s i f := by
  unfold fld; rw [if_pos hi, numb_id (h _)]
theorem raw_at {s : List Int} (g : Good s) (h : Sm s) {i f : Int} (hi : InObj i f) : at_ s (480 + 8 * i + f) = some (fld s i f) := by
  have hi' := hi
  unfold InObj at hi'
  have hlt : (480 + 8 * i + f).toNat < s.length := by rw [g.1]; omega
  have hr := raw_fld h hi
  unfold at_
  rw [decide_eq_true (by omega), cond_true, List.getElem?_eq_getElem hlt]
  rw [List.getD, List.getElem?_eq_getElem hlt] at hr
  simpa using hr
def smB (s : List Int) : Bool := s.all fun x => decide (x ≤ 4611686018427387904)
theorem sm_of {s : List Int} (h : smB s = true) : Sm s := by
  simp only [smB, List.all_eq_true, decide_eq_true_eq] at h
  intro j
  rw [List.getD]
  cases e : s[j]? with
  | none => simp
  | some x => simpa using h x (List.mem_of_getElem? e)
end Go.Proofs
