/- The resource logic, part SlBits. On no condition. -/
import Derived.Test.YtbhboofhcgkgfaaSlNum
set_option linter.all false
/-! Bits of numbers that are not below 0. -/
namespace Go.Sl
theorem band_u64 (x y : Nat) (hx : x < 18446744073709551616) (hy : y < 18446744073709551616) : band .u64 (x : Int) (y : Int) = ((x &&& y : Nat) : Int) := by
  unfold band
  have h1 : (BitVec.ofInt IntKind.u64.bits (x : Int) &&& BitVec.ofInt IntKind.u64.bits (y : Int)).toNat = x &&& y := by
    rw [BitVec.toNat_and, BitVec.ofInt_natCast, BitVec.ofInt_natCast, BitVec.toNat_ofNat, BitVec.toNat_ofNat]
    rw [show IntKind.u64.bits = 64 from rfl, Nat.mod_eq_of_lt (by omega), Nat.mod_eq_of_lt (by omega)]
  rw [h1]
  have h2 : x &&& y ≤ x := Nat.and_le_left
  exact wu64_id (by omega) (by omega)
theorem bor_u64 (x y : Nat) (hx : x < 18446744073709551616) (hy : y < 18446744073709551616) : bor .u64 (x : Int) (y : Int) = ((x ||| y : Nat) : Int) := by
  unfold bor
  have h1 : (BitVec.ofInt IntKind.u64.bits (x : Int) ||| BitVec.ofInt IntKind.u64.bits (y : Int)).toNat = x ||| y := by
    rw [BitVec.toNat_or, BitVec.ofInt_natCast, BitVec.ofInt_natCast, BitVec.toNat_ofNat, BitVec.toNat_ofNat]
    rw [show IntKind.u64.bits = 64 from rfl, Nat.mod_eq_of_lt (by omega), Nat.mod_eq_of_lt (by omega)]
  rw [h1]
  have h2 : x ||| y < 2 ^ 64 := Nat.or_lt_two_pow (by omega) (by omega)
  exact wu64_id (by omega) (by omega)
theorem band_i64 (x y : Nat) (hx : x < 9223372036854775808) (hy : y < 9223372036854775808) : band .i64 (x : Int) (y : Int) = ((x &&& y : Nat) : Int) := by
  unfold band
  have h1 : (BitVec.ofInt IntKind.i64.bits (x : Int) &&& BitVec.ofInt IntKind.i64.bits (y : Int)).toNat = x &&& y := by
    rw [BitVec.toNat_and, BitVec.ofInt_natCast, BitVec.ofInt_natCast, BitVec.toNat_ofNat, BitVec.toNat_ofNat]
    rw [show IntKind.i64.bits = 64 from rfl, Nat.mod_eq_of_lt (by omega), Nat.mod_eq_of_lt (by omega)]
  rw [h1]
  have h2 : x &&& y ≤ x := Nat.and_le_left
  exact w64_id (by omega) (by omega)
theorem bor_i64 (x y : Nat) (hx : x < 9223372036854775808) (hy : y < 9223372036854775808) : bor .i64 (x : Int) (y : Int) = ((x ||| y : Nat) : Int) := by
  unfold bor
  have h1 : (BitVec.ofInt IntKind.i64.bits (x : Int) ||| BitVec.ofInt IntKind.i64.bits (y : Int)).toNat = x ||| y := by
    rw [BitVec.toNat_or, BitVec.ofInt_natCast, BitVec.ofInt_natCast, BitVec.toNat_ofNat, BitVec.toNat_ofNat]
    rw [show IntKind.i64.bits = 64 from rfl, Nat.mod_eq_of_lt (by omega), Nat.mod_eq_of_lt (by omega)]
  rw [h1]
  have h2 : x ||| y < 2 ^ 63 := Nat.or_lt_two_pow (by omega) (by omega)
  exact w64_id (by omega) (by omega)
/-- A number below 2 to n, put below a multiple of that. -/
theorem bor_add_u64 {x y : Int} (n : Nat) (hn : n < 64) (hx0 : 0 ≤ x) (hx : x < 2 ^ n) (hy : 0 ≤ y) (hb : y * 2 ^ n < 18446744073709551616) : bor .u64 x (y * 2 ^ n) = x + y * 2 ^ n := by
  obtain ⟨a, rfl⟩ := Int.eq_ofNat_of_zero_le hx0
  obtain ⟨b, rfl⟩ := Int.eq_ofNat_of_zero_le hy
  have e : (b : Int) * 2 ^ n = ((b * 2 ^ n : Nat) : Int) := by push_cast; rfl
  have ha : a < 2 ^ n := by exact_mod_cast hx
  have h64 : (2 : Nat) ^ n < 2 ^ 64 := Nat.pow_lt_pow_right (by decide) hn
  rw [e] at hb ⊢
  rw [bor_u64 a _ (by omega) (by omega)]
  have := Nat.shiftLeft_add_eq_or_of_lt ha b
  rw [Nat.shiftLeft_eq] at this
  rw [Nat.or_comm, ← this]
  push_cast
  omega
theorem bor_add_i64 {x y : Int} (n : Nat) (hn : n < 63) (hx0 : 0 ≤ x) (hx : x < 2 ^ n) (hy : 0 ≤ y) (hb : y * 2 ^ n < 9223372036854775808) : bor .i64 x (y * 2 ^ n) = x + y * 2 ^ n := by
  obtain ⟨a, rfl⟩ := Int.eq_ofNat_of_zero_le hx0
  obtain ⟨b, rfl⟩ := Int.eq_ofNat_of_zero_le hy
  have e : (b : Int) * 2 ^ n = ((b * 2 ^ n : Nat) : Int) := by push_cast; rfl
  have ha : a < 2 ^ n := by exact_mod_cast hx
  have h64 : (2 : Nat) ^ n < 2 ^ 63 := Nat.pow_lt_pow_right (by decide) hn
  rw [e] at hb ⊢
  rw [bor_i64 a _ (by omega) (by omega)]
  have := Nat.shiftLeft_add_eq_or_of_lt ha b
  rw [Nat.shiftLeft_eq] at this
  rw [Nat.or_comm, ← this]
  push_cast
  omega
theorem band_mod_u64 {x : Int} (n : Nat) (hn : n < 64) (hx0 : 0 ≤ x) (hx : x < 18446744073709551616) : band .u64 x (2 ^ n - 1) = x % 2 ^ n := by
  obtain ⟨a, rfl⟩ := Int.eq_ofNat_of_zero_le hx0
  have h64 : (2 : Nat) ^ n < 2 ^ 64 := Nat.pow_lt_pow_right (by decide) hn
  have hp : 0 < (2 : Nat) ^ n := Nat.two_pow_pos n
  have e : (2 : Int) ^ n - 1 = ((2 ^ n - 1 : Nat) : Int) := by rw [Int.ofNat_sub (by omega)]; push_cast; rfl
  rw [e, band_u64 a _ (by omega) (by omega), Nat.and_two_pow_sub_one_eq_mod]
  push_cast; rfl
theorem band_mod_i64 {x : Int} (n : Nat) (hn : n < 63) (hx0 : 0 ≤ x) (hx : x < 9223372036854775808) : band .i64 x (2 ^ n - 1) = x % 2 ^ n := by
  obtain ⟨a, rfl⟩ := Int.eq_ofNat_of_zero_le hx0
  have h64 : (2 : Nat) ^ n < 2 ^ 63 := Nat.pow_lt_pow_right (by decide) hn
  have hp : 0 < (2 : Nat) ^ n := Nat.two_pow_pos n
  have e : (2 : Int) ^ n - 1 = ((2 ^ n - 1 : Nat) : Int) := by rw [Int.ofNat_sub (by omega)]; push_cast; rfl
  rw [e, band_i64 a _ (by omega) (by omega), Nat.and_two_pow_sub_one_eq_mod]
  push_cast; rfl
theorem bshr_nn {k : IntKind} {x : Int} (n : Nat) (h : n ≤ k.bits) (hx : 0 ≤ x) : bshr k x n = x / 2 ^ n := by
  unfold bshr
  rw [show min (n : Int).toNat k.bits = n by simp; omega]
  rw [Int.fdiv_eq_ediv_of_nonneg]
  exact Int.le_of_lt (Int.pow_pos (by decide))
theorem bshl_u64 {x : Int} (n : Nat) (h : n ≤ 64) (hx : 0 ≤ x) (hb : x * 2 ^ n < 18446744073709551616) : bshl .u64 x n = x * 2 ^ n := by
  unfold bshl
  rw [show min (n : Int).toNat IntKind.u64.bits = n by simp [show IntKind.u64.bits = 64 from rfl]; omega]
  exact wu64_id (Int.mul_nonneg hx (Int.le_of_lt (Int.pow_pos (by decide)))) (by omega)
theorem bshl_i64 {x : Int} (n : Nat) (h : n ≤ 64) (hx : 0 ≤ x) (hb : x * 2 ^ n < 9223372036854775808) : bshl .i64 x n = x * 2 ^ n := by
  unfold bshl
  rw [show min (n : Int).toNat IntKind.i64.bits = n by simp [show IntKind.i64.bits = 64 from rfl]; omega]
  have h2 : (0 : Int) < 2 ^ n := Int.pow_pos (by decide)
  have := Int.mul_nonneg hx (Int.le_of_lt h2)
  exact w64_id (by omega) (by omega)
end Go.Sl
