/- Plain laws of what IrqOnce reaches, part PureNtfn. On no condition. -/
import Derived.Test.YtehlmdihimmanaaPureViewIrqOnce
import Derived.Test.YtehlmdihimmanaaFnIrqOnce0
set_option linter.all false
/-! Notifications, plainly. -/
namespace Go.Proofs
open Go.Sl
theorem band_ok (n : Int) : 0 ≤ band .i64 n 65535 ∧ band .i64 n 65535 ≤ 65535 := by
  unfold band
  have h : (BitVec.ofInt IntKind.i64.bits n &&& BitVec.ofInt IntKind.i64.bits 65535).toNat ≤ 65535 := by
    rw [BitVec.toNat_and]
    exact Nat.le_trans Nat.and_le_right (by decide)
  have e : w64 ((BitVec.ofInt IntKind.i64.bits n &&& BitVec.ofInt IntKind.i64.bits 65535).toNat : Int) = _ := w64_id (by omega) (by omega)
  show 0 ≤ w64 _ ∧ w64 _ ≤ 65535
  rw [e]; omega
theorem bor_lt {x y : Int} (hx : 0 ≤ x ∧ x ≤ 65535) (hy : 0 ≤ y ∧ y ≤ 65535) : 0 ≤ bor .i64 x y ∧ bor .i64 x y ≤ 65535 := by
  obtain ⟨a, rfl⟩ := Int.eq_ofNat_of_zero_le hx.1
  obtain ⟨b, rfl⟩ := Int.eq_ofNat_of_zero_le hy.1
  rw [bor_i64 a b (by omega) (by omega)]
  have : a ||| b < 2 ^ 16 := Nat.or_lt_two_pow (by omega) (by omega)
  omega
/-- Nobody waits: the word gets more bits. -/
theorem signal_ok {s : List Int} (g : Good s) (h0 : fld s 5 0 = 4) (h2 : fld s 5 2 = 0) (n : Int) : ∃ r, VM.run plainI (ntfn_Signal.f 5 n) s = some (none, put s 5 1 r) ∧ 0 ≤ r ∧ r ≤ 65535 := by
  refine ⟨bor .i64 (band .i64 (fld s 5 1) 65535) (band .i64 n 65535), ?_, bor_lt (band_ok _) (band_ok _)⟩
  have hb := bor_lt (band_ok (fld s 5 1)) (band_ok n)
  unfold ntfn_Signal.f ntfn_there.f queue_Pop.f ntfn_word.f
  have ho : lay_Obj.f 5 0 = some (520, true) := by rw [obj_ok]; rfl
  simp [runB, runO, runC, runR, ho, ref_ok g, field_ok g, h2, put_ok g 5 1 _ (by omega : bor .i64 (band .i64 (fld s 5 1) 65535) (band .i64 n 65535) ≤ 9223372036854775807)]
end Go.Proofs
