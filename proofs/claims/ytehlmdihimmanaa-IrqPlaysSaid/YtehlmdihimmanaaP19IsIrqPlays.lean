/- Plain laws of what IrqPlays reaches, part P19Is. On no condition. -/
import Derived.Test.YtehlmdihimmanaaP19ViewIrqPlays
import Derived.Test.YtehlmdihimmanaaFnIrqPlays0
set_option linter.all false
/-! Kinds of objects. -/
set_option linter.unusedVariables false
namespace Go.Proofs
open Go.Sl
theorem is_ok {s : List Int} (h : Good s) (i k : Int) (hk : 1 ≤ k ∧ k ≤ 4611686018427387904) : VM.run plainI (lay_Is.f i k) s = some (decide (fld s i 0 = k), s) := by
  unfold lay_Is.f fld
  rw [runB, runO, obj_ok]
  by_cases hi : InObj i 0
  · rw [if_pos hi, if_pos hi]
    have hi' := hi
    unfold InObj at hi'
    have hg := h.2 (480 + 8 * i + 0).toNat
    have h0 : decide (0 ≤ k) = true := decide_eq_true (by omega)
    simp only [Option.map_some, Option.bind_some, runB, h0, Bool.and_true, cond_true]
    rw [runRd _ (by rw [h.1]; omega), wu64_id (by omega) (by omega)]
    simp only [runR, Option.bind_some]
    generalize s.getD (480 + 8 * i + 0).toNat 0 = x at hg
    congr 2
    unfold numb
    rw [Bool.eq_iff_iff]
    simp only [beq_iff_eq, decide_eq_true_eq]
    split <;> omega
  · rw [if_neg hi, if_neg hi]
    have : decide ((0 : Int) = k) = false := decide_eq_false (by omega)
    simp only [Option.map_some, Option.bind_some, runB, Bool.false_and, cond_false, runR, this]
end Go.Proofs
