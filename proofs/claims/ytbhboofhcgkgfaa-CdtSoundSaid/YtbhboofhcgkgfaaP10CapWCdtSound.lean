/- Plain laws of what CdtSound reaches, part P10CapW. On no condition. -/
import Derived.Test.YtbhboofhcgkgfaaFnCdtSound1
import Derived.Test.YtbhboofhcgkgfaaSlBits
set_option linter.all false
/-! The capability as a word. -/
namespace Go.Proofs
open Go.Sl
def CapMay (c : api_Cap) : Prop := 0 ≤ c.Kind ∧ c.Kind ≤ 8 ∧ 0 ≤ c.Rights ∧ c.Rights ≤ 7 ∧ 0 ≤ c.Obj ∧ c.Obj ≤ 31 ∧ 0 ≤ c.Badge ∧ c.Badge ≤ 65535 ∧ 0 ≤ c.Bits ∧ c.Bits ≤ 8 ∧
  (c.Kind = 0 → c.Rights = 0 ∧ c.Obj = 0) ∧ (c.Kind = 3 ∨ c.Kind = 4 ∨ c.Badge = 0) ∧ (c.Kind = 2 ∨ (c.Bits = 0 ∧ c.Guard = 0)) ∧ 0 ≤ c.Guard ∧ c.Guard < 2 ^ c.Bits.toNat
instance (c : api_Cap) : Decidable (CapMay c) := by unfold CapMay; exact inferInstance
theorem pow_lo (n : Nat) : (1 : Int) ≤ 2 ^ n := by have : (0 : Int) < 2 ^ n := Int.pow_pos (by decide); omega
theorem pow_le {n m : Nat} (h : n ≤ m) : (2 : Int) ^ n ≤ 2 ^ m := by
  have := Nat.pow_le_pow_right (n := 2) (by decide) h
  exact_mod_cast this
def capWord (c : api_Cap) : Int := c.Kind + c.Rights * 2 ^ 4 + c.Obj * 2 ^ 7 + c.Badge * 2 ^ 12 + c.Bits * 2 ^ 28 + c.Guard * 2 ^ 32
theorem guard_lt {c : api_Cap} (h : CapMay c) : c.Guard < 256 := by
  obtain ⟨-, -, -, -, -, -, -, -, -, h1, -, -, -, -, h2⟩ := h
  have := pow_le (show c.Bits.toNat ≤ 8 by omega)
  omega
theorem word_ok {c : api_Cap} (h : CapMay c) : ref01_Word.f c = some (capWord c) := by
  have hg := guard_lt h
  obtain ⟨h1, h2, h3, h4, h5, h6, h7, h8, h9, h10, -, -, -, h14, h15⟩ := h
  obtain ⟨K, R, O, B, G, T⟩ := c
  unfold ref01_Word.f capWord
  simp only at *
  rw [wu64_id (x := K) (by omega) (by omega), wu64_id (x := R) (by omega) (by omega), wu64_id (x := O) (by omega) (by omega), wu64_id (x := B) (by omega) (by omega), wu64_id (x := G) (by omega) (by omega), wu64_id (x := T) (by omega) (by omega),
    wu64_id (x := 16 * R) (by omega) (by omega), wu64_id (x := 128 * O) (by omega) (by omega), wu64_id (x := 4096 * B) (by omega) (by omega), wu64_id (x := 268435456 * T) (by omega) (by omega), wu64_id (x := 4294967296 * G) (by omega) (by omega)]
  rw [wu64_id (x := K + 16 * R) (by omega) (by omega), wu64_id (x := K + 16 * R + 128 * O) (by omega) (by omega), wu64_id (x := K + 16 * R + 128 * O + 4096 * B) (by omega) (by omega), wu64_id (x := K + 16 * R + 128 * O + 4096 * B + 268435456 * T) (by omega) (by omega), wu64_id (by omega) (by omega)]
  congr 1; omega
def capOf (w : Int) : api_Cap := ⟨w % 2 ^ 4, w / 2 ^ 4 % 2 ^ 3, w / 2 ^ 4 / 2 ^ 3 % 2 ^ 5, w / 2 ^ 4 / 2 ^ 3 / 2 ^ 5 % 2 ^ 16, w / 2 ^ 4 / 2 ^ 3 / 2 ^ 5 / 2 ^ 16 / 2 ^ 4 % 2 ^ 8, w / 2 ^ 4 / 2 ^ 3 / 2 ^ 5 / 2 ^ 16 % 2 ^ 4⟩
theorem capOf_word {w : Int} (h0 : 0 ≤ w) (h : w / 2 ^ 4 / 2 ^ 3 / 2 ^ 5 / 2 ^ 16 / 2 ^ 4 / 2 ^ 8 = 0) : capWord (capOf w) = w := by
  unfold capOf capWord; simp only; omega
theorem word_capOf {c : api_Cap} (h : CapMay c) : capOf (capWord c) = c ∧ capWord c / 2 ^ 4 / 2 ^ 3 / 2 ^ 5 / 2 ^ 16 / 2 ^ 4 / 2 ^ 8 = 0 ∧ 0 ≤ capWord c ∧ capWord c ≤ 18446744073709551615 := by
  have hg := guard_lt h
  obtain ⟨h1, h2, h3, h4, h5, h6, h7, h8, h9, h10, -, -, -, h14, h15⟩ := h
  obtain ⟨K, R, O, B, G, T⟩ := c
  unfold capOf capWord
  simp only [api_Cap.mk.injEq] at *
  clear h15
  refine ⟨⟨?_, ?_, ?_, ?_, ?_, ?_⟩, ?_, ?_, ?_⟩ <;> omega
end Go.Proofs
