/- Plain laws of what IrqPlays reaches, part P19Ref. On no condition. -/
import Derived.Test.YtehlmdihimmanaaP19ViewIrqPlays
import Derived.Test.YtehlmdihimmanaaFnIrqPlays0
set_option linter.all false
/-! References in fields. -/
set_option linter.unusedVariables false
namespace Go.Proofs
open Go.Sl
theorem ref_ok {s : List Int} (h : Good s) (i f : Int) : VM.run plainI (lay_Ref.f i f) s = some (if 1 ≤ fld s i f ∧ fld s i f ≤ 32 then (fld s i f - 1, true) else (0, false), s) := by
  unfold lay_Ref.f
  rw [runB, field_ok h]
  have h0 := fld_nn h i f
  have h1 := fld_le s i f
  simp only [Option.bind_some]
  by_cases q : 1 ≤ fld s i f ∧ fld s i f ≤ 32
  · have : (decide (fld s i f < 1) || decide (32 < fld s i f)) = false := by simp; omega
    rw [this, if_pos q, cond_false, w64_id (by omega) (by omega)]; rfl
  · have : (decide (fld s i f < 1) || decide (32 < fld s i f)) = true := by simp; omega
    rw [this, if_neg q, cond_true]; rfl
end Go.Proofs
