/- Plain laws of what CdtSound reaches, part P10AppL. On no condition. -/
import Derived.Test.YtbhboofhcgkgfaaP10VBCdtSound
set_option linter.all false
/-! Appends. -/
set_option linter.unusedVariables false
namespace Go.Proofs
open Go.Sl
theorem app_ok {α : Type} {xs ys : List α} (h : xs.length + ys.length ≤ 4294967296) : app xs ys = some (xs ++ ys) := by
  unfold app; rw [decide_eq_true h, cond_true]
theorem app_one {l : List Int} {x : Int} (h : l.length < 4294967296) : app l [x] = some (l ++ [x]) := app_ok (by simp; omega)
end Go.Proofs
