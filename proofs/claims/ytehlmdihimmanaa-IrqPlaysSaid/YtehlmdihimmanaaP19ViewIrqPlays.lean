/- Plain laws of what IrqPlays reaches, part P19View. On no condition. -/
import Derived.Test.YtehlmdihimmanaaP19VBIrqPlays
import Derived.Test.YtehlmdihimmanaaFnIrqPlays0
set_option linter.all false
/-! The fields of objects, in a list of words. -/
set_option linter.unusedVariables false
namespace Go.Proofs
open Go.Sl
theorem obj_ok (a b : Int) : lay_Obj.f a b = some (if InObj a b then (480 + 8 * a + b, true) else (0, false)) := by
  unfold lay_Obj.f InObj
  simp only [lay_in.f]
  by_cases h1 : 0 ≤ a <;> by_cases h2 : a < 32 <;> by_cases h3 : 0 ≤ b <;> by_cases h4 : b < 8 <;> simp [h1, h2, h3, h4]
  rw [w64_id (x := a * 8) (by omega) (by omega), w64_id (x := 480 + a * 8) (by omega) (by omega), w64_id (by omega) (by omega)]; omega
theorem field_ok {s : List Int} (h : Good s) (i f : Int) : VM.run plainI (lay_Field.f i f) s = some (fld s i f, s) := by
  unfold lay_Field.f fld
  rw [runB, runO, obj_ok]
  by_cases hi : InObj i f
  · rw [if_pos hi, if_pos hi]
    have hi' := hi
    unfold InObj at hi'
    have hg := h.2 (480 + 8 * i + f).toNat
    simp only [Option.map_some, Option.bind_some, Bool.not_true, cond_false]
    rw [runRd _ (by rw [h.1]; omega)]
    generalize s.getD (480 + 8 * i + f).toNat 0 = x at hg
    unfold numb
    by_cases hb : 4611686018427387904 < x
    · rw [decide_eq_true hb, if_pos hb]; rfl
    · rw [decide_eq_false hb, if_neg hb, w64_id (by omega) (by omega)]; rfl
  · rw [if_neg hi, if_neg hi]; rfl
theorem put_ok {s : List Int} (h : Good s) (i f n : Int) (hn : n ≤ 9223372036854775807) : VM.run plainI (lay_Put.f i f n) s = some ((), put s i f n) := by
  unfold lay_Put.f put
  rw [runB, runO, obj_ok]
  by_cases hi : InObj i f
  · rw [if_pos hi]
    have hi' := hi
    unfold InObj at hi'
    by_cases h0 : 0 ≤ n
    · simp only [Option.map_some, Option.bind_some, decide_eq_true h0, Bool.and_true, cond_true]
      rw [runWr _ (by rw [h.1]; omega), wu64_id h0 (by omega), if_pos ⟨hi, h0⟩]; rfl
    · simp only [Option.map_some, Option.bind_some, decide_eq_false h0, Bool.and_false, cond_false, runR]
      rw [if_neg (fun e => h0 e.2)]
  · rw [if_neg hi, if_neg (fun e => hi e.1)]; rfl
end Go.Proofs
