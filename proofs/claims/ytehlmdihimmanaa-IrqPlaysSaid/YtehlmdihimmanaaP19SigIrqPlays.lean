/- Plain laws of what IrqPlays reaches, part P19Sig. On no condition. -/
import Derived.Test.YtehlmdihimmanaaP19EndpIrqPlays
import Derived.Test.YtehlmdihimmanaaFnIrqPlays0
import Derived.Test.YtehlmdihimmanaaFnIrqPlays1
set_option linter.all false
/-! Signals, waits, polls, plainly. -/
set_option linter.unusedVariables false
namespace Go.Proofs
open Go.Sl
theorem band_ok (n : Int) : 0 ≤ band .i64 n 65535 ∧ band .i64 n 65535 ≤ 65535 := by
  unfold band
  have h : (BitVec.ofInt IntKind.i64.bits n &&& BitVec.ofInt IntKind.i64.bits 65535).toNat ≤ 65535 := by
    rw [BitVec.toNat_and]
    exact Nat.le_trans Nat.and_le_right (by decide)
  have e : w64 ((BitVec.ofInt IntKind.i64.bits n &&& BitVec.ofInt IntKind.i64.bits 65535).toNat : Int) = _ := w64_id (by omega) (by omega)
  show 0 ≤ w64 _ ∧ w64 _ ≤ 65535
  rw [e]; omega
theorem bor_lt {x y : Int} (hx : 0 ≤ x ∧ x ≤ 65535) (hy : 0 ≤ y ∧ y ≤ 65535) : 0 ≤ bor .i64 x y ∧ bor .i64 x y ≤ 65535 := by
  obtain ⟨a, rfl⟩ := Int.eq_ofNat_of_zero_le hx.1
  obtain ⟨b, rfl⟩ := Int.eq_ofNat_of_zero_le hy.1
  rw [bor_i64 a b (by omega) (by omega)]
  have : a ||| b < 2 ^ 16 := Nat.or_lt_two_pow (by omega) (by omega)
  omega
theorem band_16 {x : Int} (h : 0 ≤ x ∧ x ≤ 65535) : band .i64 x 65535 = x := by
  rw [band_65535 h.1 (by omega)]; omega
theorem nthere_ok (i : Int) : ntfn_there.f i = some (decide (InObj i 0)) := by
  unfold ntfn_there.f
  rw [obj_ok]
  by_cases h : InObj i 0 <;> simp [h]
theorem nword_ok {s : List Int} (g : Good s) (o : Int) : VM.run plainI (ntfn_word.f o) s = some (fld s o 1 % 65536, s) := by
  have h0 := fld_nn g o 1
  have h1 := fld_le s o 1
  unfold ntfn_word.f
  rw [runB, field_ok g, Option.bind_some, band_65535 h0 (by omega)]; rfl
theorem signal_q {s : List Int} (g : Good s) {o b : Int} {l : List Int} (h : IsQ s o l) (ho : 0 ≤ o ∧ o < 32) (hr : ∀ x ∈ l, 0 ≤ x ∧ x < 32) (hb : 0 ≤ b ∧ b ≤ 65535) :
    VM.run plainI (ntfn_Signal.f o b) s = some (none, match l with | [] => put s o 1 (bor .i64 (fld s o 1 % 65536) b) | t :: _ => wakeTo (popTo s o t) t b 0) := by
  unfold ntfn_Signal.f
  have ho' : InObj o 0 := ⟨ho.1, ho.2, by decide⟩
  rw [runB, runO, nthere_ok, decide_eq_true ho', Option.map_some, Option.bind_some, band_16 hb]
  simp only [Bool.not_true, cond_false]
  rw [runB, pop_ok g, h.nxt hr]
  cases l with
  | nil =>
    have hl := bor_lt (x := fld s o 1 % 65536) (y := b) (by omega) hb
    simp only [List.head?_nil, Option.bind_some, cond_false, runB, nword_ok g, put_ok g o 1 _ (by omega : bor .i64 (fld s o 1 % 65536) b ≤ 9223372036854775807), runR]
  | cons t l =>
    simp only [List.head?_cons, Option.bind_some, cond_true, runB, wake_ok (good_popTo g o t) t b 0 (by omega) (by decide), runR]
theorem poll_ok {s : List Int} (g : Good s) {o : Int} (ho : 0 ≤ o ∧ o < 32) : VM.run plainI (ntfn_Poll.f o) s = some ((⟨0, fld s o 1 % 65536, 0⟩, none), put s o 1 0) := by
  unfold ntfn_Poll.f
  have ho' : InObj o 0 := ⟨ho.1, ho.2, by decide⟩
  rw [runB, runO, nthere_ok, decide_eq_true ho', Option.map_some, Option.bind_some]
  simp only [Bool.not_true, cond_false, runB, nword_ok g, Option.bind_some, put_ok g o 1 0 (by decide), runR]
theorem wait_ok {s : List Int} (g : Good s) {o t : Int} (ho : 0 ≤ o ∧ o < 32) (ht : 0 ≤ t ∧ t < 32) : VM.run plainI (ntfn_Wait.f o t) s = some (if fld s o 1 % 65536 = 0 then ((⟨0, 0, 0⟩, false, none), blockTo s o t 5) else ((⟨0, fld s o 1 % 65536, 0⟩, true, none), put s o 1 0)) := by
  unfold ntfn_Wait.f
  have ho' : InObj o 0 := ⟨ho.1, ho.2, by decide⟩
  have ht' : InObj t 0 := ⟨ht.1, ht.2, by decide⟩
  rw [runB, runO, nthere_ok, decide_eq_true ho', Option.map_some, Option.bind_some]
  simp only [Bool.not_true, cond_false, runB, runO, nthere_ok, decide_eq_true ht', Option.map_some, Option.bind_some, runR, nword_ok g]
  by_cases h : fld s o 1 % 65536 = 0
  · simp only [h, beq_self_eq_true, cond_true, runB, block_ok g ho ht (by decide : (5 : Int) ≤ 9223372036854775807), Option.bind_some, runR, if_true]
  · have e : (fld s o 1 % 65536 == 0) = false := by simpa using h
    simp only [e, cond_false, runB, poll_ok g ho, Option.bind_some, runR, if_neg h, Option.isNone_none]
end Go.Proofs
