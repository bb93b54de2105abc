/- Plain laws of what IrqPlays reaches, part P19Or. On no condition. -/
import Derived.Test.YtehlmdihimmanaaP19VBIrqPlays
import Derived.Test.YtehlmdihimmanaaP19SigIrqPlays
import Derived.Test.YtehlmdihimmanaaFnIrqPlays2
set_option linter.all false
/-! The bits of two numbers, as the reference adds them up. -/
set_option linter.unusedVariables false
namespace Go.Proofs
open Go.Sl
theorem or_l1 (a b : Nat) (ha : a < 65536) (hb : b < 65536) : ∀ (m k : Nat) (j : Nat), j + m = 16 → m < k → ref10_or.l1 (a : Int) (b : Int) k (((2 ^ j : Nat) : Int), (((a ||| b) % 2 ^ j : Nat) : Int)) = some ((a ||| b : Nat) : Int) := by
  intro m
  have hab : a ||| b < 2 ^ 16 := Nat.or_lt_two_pow (by omega) (by omega)
  induction m with
  | zero =>
    intro k j hj hk
    obtain ⟨k, rfl⟩ : ∃ z, k = z + 1 := ⟨k - 1, by omega⟩
    obtain rfl : j = 16 := by omega
    unfold ref10_or.l1
    rw [decide_eq_false (by decide), cond_false, Nat.mod_eq_of_lt hab]
  | succ m ih =>
    intro k j hj hk
    obtain ⟨k, rfl⟩ : ∃ z, k = z + 1 := ⟨k - 1, by omega⟩
    have hp : 2 ^ j ≤ 2 ^ 15 := Nat.pow_le_pow_right (by decide) (by omega)
    have hp0 : 0 < 2 ^ j := Nat.pow_pos (by decide)
    have hs : (2 : Nat) ^ (j + 1) = 2 * 2 ^ j := by rw [Nat.pow_succ]; omega
    have hmod : (a ||| b) % 2 ^ (j + 1) = (a ||| b) % 2 ^ j + 2 ^ j * ((a ||| b) / 2 ^ j % 2) := by
      rw [Nat.pow_succ, Nat.mod_mul]
    have hlt : (a ||| b) % 2 ^ j < 2 ^ j := Nat.mod_lt _ hp0
    have hbit : (a ||| b) / 2 ^ j % 2 = 1 ↔ a / 2 ^ j % 2 = 1 ∨ b / 2 ^ j % 2 = 1 := by
      have h1 : ∀ x : Nat, (x / 2 ^ j % 2 = 1) ↔ x.testBit j = true := fun x => by
        rw [Nat.testBit_eq_decide_div_mod_eq, decide_eq_true_eq]
      rw [h1, h1, h1, Nat.testBit_or, Bool.or_eq_true]
    have td : ∀ x : Nat, x < 65536 → w64 (((x : Int)).tdiv ((2 ^ j : Nat) : Int)) = ((x / 2 ^ j : Nat) : Int) := fun x hx => by
      rw [Int.tdiv_eq_ediv_of_nonneg (by omega), ← Int.natCast_ediv]
      have : x / 2 ^ j ≤ x := Nat.div_le_self _ _
      generalize x / 2 ^ j = y at this ⊢
      exact w64_id (by omega) (by omega)
    have tm : ∀ x : Nat, ((x : Int)).tmod 2 = ((x % 2 : Nat) : Int) := fun x => by
      rw [Int.tmod_eq_emod_of_nonneg (by omega)]; omega
    unfold ref10_or.l1
    rw [decide_eq_true (by omega), cond_true]
    have hc : chk (decide (((2 ^ j : Nat) : Int) ≠ 0)) = some () := by
      have : ((2 ^ j : Nat) : Int) ≠ 0 := by omega
      rw [decide_eq_true this]; rfl
    rw [hc, Option.bind_some, td a ha, td b hb, tm, tm]
    have hd : w64 (2 * ((2 ^ j : Nat) : Int)) = ((2 ^ (j + 1) : Nat) : Int) := by
      rw [hs, w64_id (by omega) (by omega)]; omega
    rw [hd]
    have key : ∀ c : Bool, (c = true ↔ (a ||| b) / 2 ^ j % 2 = 1) → (bif c then ref10_or.l1 (a : Int) (b : Int) k (((2 ^ (j + 1) : Nat) : Int), w64 ((((a ||| b) % 2 ^ j : Nat) : Int) + ((2 ^ j : Nat) : Int))) else ref10_or.l1 (a : Int) (b : Int) k (((2 ^ (j + 1) : Nat) : Int), (((a ||| b) % 2 ^ j : Nat) : Int))) = some ((a ||| b : Nat) : Int) := fun c hcc => by
      have I := ih k (j + 1) (by omega) (by omega)
      cases c with
      | true =>
        have h1 := hcc.1 rfl
        rw [h1, Nat.mul_one] at hmod
        rw [cond_true, w64_id (by omega) (by omega), show (((a ||| b) % 2 ^ j : Nat) : Int) + ((2 ^ j : Nat) : Int) = (((a ||| b) % 2 ^ (j + 1) : Nat) : Int) by omega]
        exact I
      | false =>
        have h1 : (a ||| b) / 2 ^ j % 2 = 0 := by
          rcases Nat.mod_two_eq_zero_or_one ((a ||| b) / 2 ^ j) with z | z
          · exact z
          · have := hcc.2 z; cases this
        have hm2 : (a ||| b) % 2 ^ (j + 1) = (a ||| b) % 2 ^ j := by rw [hmod, h1]; omega
        rw [cond_false, ← hm2]; exact I
    clear td
    generalize a / 2 ^ j = x at hbit ⊢
    generalize b / 2 ^ j = y at hbit ⊢
    by_cases h1 : x % 2 = 1
    · have e : (((x % 2 : Nat) : Int) == 1) = true := by rw [h1]; rfl
      rw [e, cond_true, Option.bind_some]
      exact key true ⟨fun _ => hbit.2 (.inl h1), fun _ => rfl⟩
    · have e : (((x % 2 : Nat) : Int) == 1) = false := by simp; omega
      rw [e, cond_false, Option.bind_some]
      refine key _ ⟨fun z => hbit.2 (.inr ?_), fun z => ?_⟩
      · simp at z; omega
      · rcases hbit.1 z with w | w
        · exact absurd w h1
        · rw [w]; rfl
theorem or_ok {a b : Int} (ha : 0 ≤ a ∧ a ≤ 65535) (hb : 0 ≤ b ∧ b ≤ 65535) {k : Nat} (hk : 20 ≤ k) : ref10_or.f k a b = some (bor .i64 a b) := by
  obtain ⟨x, rfl⟩ := Int.eq_ofNat_of_zero_le ha.1
  obtain ⟨y, rfl⟩ := Int.eq_ofNat_of_zero_le hb.1
  unfold ref10_or.f
  have := or_l1 x y (by omega) (by omega) 16 k 0 (by omega) (by omega)
  rw [show (2 ^ 0 : Nat) = 1 from rfl, Nat.mod_one] at this
  show (ref10_or.l1 (x : Int) (y : Int) k (((1 : Nat) : Int), ((0 : Nat) : Int))).bind _ = _
  rw [this, Option.bind_some, bor_i64 x y (by omega) (by omega)]
end Go.Proofs
