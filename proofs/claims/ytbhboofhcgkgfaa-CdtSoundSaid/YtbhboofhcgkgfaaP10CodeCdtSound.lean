/- Plain laws of what CdtSound reaches, part P10Code. On no condition. -/
import Derived.Test.YtbhboofhcgkgfaaP10VBCdtSound
import Derived.Test.YtbhboofhcgkgfaaFnCdtSound2
set_option linter.all false
/-! The number of an error. -/
set_option linter.unusedVariables false
namespace Go.Proofs
open Go.Sl
theorem code_l1 {n : Int} (hn : 1 ≤ n ∧ n ≤ 14) : ∀ (m k : Nat) (i : Int), 1 ≤ i → i ≤ n → n - i = m → m < k → law00_Code.l1 (some n) k i = some (Brk.ret n) := by
  intro m
  induction m with
  | zero =>
    intro k i h1 h2 h3 hk
    obtain ⟨k, rfl⟩ : ∃ z, k = z + 1 := ⟨k - 1, by omega⟩
    obtain rfl : i = n := by omega
    unfold law00_Code.l1
    rw [decide_eq_true (by omega), cond_true]
    have : (some i == some i) = true := by simp
    rw [this, cond_true]
  | succ m ih =>
    intro k i h1 h2 h3 hk
    obtain ⟨k, rfl⟩ : ∃ z, k = z + 1 := ⟨k - 1, by omega⟩
    unfold law00_Code.l1
    rw [decide_eq_true (by omega), cond_true]
    have : (some n == some i) = false := by simp; omega
    rw [this, cond_false, w64_id (by omega) (by omega)]
    exact ih k (i + 1) (by omega) (by omega) (by omega) (by omega)
theorem code_ok {n : Int} (hn : 0 ≤ n ∧ n ≤ 14) {k : Nat} (hk : 20 ≤ k) : law00_Code.f k (if n = 0 then none else some n) = some n := by
  unfold law00_Code.f
  by_cases h : n = 0
  · rw [if_pos h, h]; rfl
  · rw [if_neg h, code_l1 (by omega) (n - 1).toNat k 1 (by decide) (by omega) (by omega) (by omega)]; rfl
end Go.Proofs
