/- Plain laws of what CdtSound reaches, part P10SB. On no condition. -/
import Derived.Test.YtbhboofhcgkgfaaP10VBCdtSound
import Derived.Test.YtbhboofhcgkgfaaP10CapWCdtSound
set_option linter.all false
/-! The words of slots. -/
set_option linter.unusedVariables false
namespace Go.Proofs
open Go.Sl
def InSlot (i f : Int) : Prop := 0 ≤ i ∧ i < 96 ∧ 0 ≤ f ∧ f < 5
instance (i f : Int) : Decidable (InSlot i f) := inferInstanceAs (Decidable (_ ∧ _))
/-- Words that are words. -/
def GoodU (s : List Int) : Prop := Good s ∧ ∀ j, s.getD j 0 ≤ 18446744073709551615
def goodUB (s : List Int) : Bool := goodB s && s.all fun x => decide (x ≤ 18446744073709551615)
theorem goodU_of {s : List Int} (h : goodUB s = true) : GoodU s := by
  simp only [goodUB, Bool.and_eq_true, List.all_eq_true, decide_eq_true_eq] at h
  refine ⟨good_of h.1, fun j => ?_⟩
  rw [List.getD]
  cases e : s[j]? with
  | none => simp
  | some x => simpa using h.2 x (List.mem_of_getElem? e)
def noCap : api_Cap := ⟨0, 0, 0, 0, 0, 0⟩
def readCap (w : Int) : api_Cap := if w / 2 ^ 4 / 2 ^ 3 / 2 ^ 5 / 2 ^ 16 / 2 ^ 4 / 2 ^ 8 = 0 ∧ CapMay (capOf w) then capOf w else noCap
def capAt (s : List Int) (i : Int) : api_Cap := if InSlot i 0 then readCap (s.getD (5 * i).toNat 0) else noCap
end Go.Proofs
