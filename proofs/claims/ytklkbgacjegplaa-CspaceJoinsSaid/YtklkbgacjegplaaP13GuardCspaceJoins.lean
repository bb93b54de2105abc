/- Plain laws of what CspaceJoins reaches, part P13Guard. On no condition. -/
import Derived.Test.YtklkbgacjegplaaFnCspaceJoins0
import Derived.Test.YtklkbgacjegplaaP13CapCspaceJoins
set_option linter.all false
/-! Guards, plainly. -/
namespace Go.Proofs
open Go.Sl
def topOf (a l b : Int) : Int × Int :=
  if 0 ≤ a ∧ a < 65536 ∧ 0 ≤ l ∧ l ≤ 16 ∧ 0 ≤ b then (if l < b then (0, 4) else (a % 2 ^ l.toNat / 2 ^ (l - b).toNat, 0)) else (0, 1)
def eN (n : Int) : Option Int := if n = 0 then none else some n
theorem top_ok (a l b : Int) : guard_Top.f a l b = some ((topOf a l b).1, eN (topOf a l b).2) := by
  unfold guard_Top.f guard_fits.f topOf
  by_cases h : 0 ≤ a ∧ a < 65536 ∧ 0 ≤ l ∧ l ≤ 16 ∧ 0 ≤ b
  · rw [if_pos h]
    obtain ⟨h1, h2, h3, h4, h5⟩ := h
    have e1 : (decide (0 ≤ a) && decide (a < 65536) && decide (0 ≤ l) && decide (l ≤ 16)) = true := by simp; omega
    have e2 : decide (b < 0) = false := by simpa using h5
    by_cases hl : l < b
    · simp [e1, e2, hl, eN]
    · obtain ⟨n, rfl⟩ := Int.eq_ofNat_of_zero_le h3
      obtain ⟨m, hm⟩ := Int.eq_ofNat_of_zero_le (show 0 ≤ (n : Int) - b by omega)
      have hp := pow_lo n
      have hp2 := pow_le (show n ≤ 16 by omega)
      have hr0 : 0 ≤ a % 2 ^ n := Int.emod_nonneg _ (by omega)
      have hd : decide ((n : Int) < b) = false := by simpa using hl
      have hs : w64 ((n : Int) - b) = (m : Int) := by rw [hm]; exact w64_id (by omega) (by omega)
      have hmask : w64 (bshl .i64 1 (n : Int) - 1) = 2 ^ n - 1 := by
        rw [bshl_i64 n (by omega) (by omega) (by omega), Int.one_mul]
        exact w64_id (by omega) (by omega)
      rw [if_neg hl]
      simp only [e1, e2, hd, Option.bind_some, Bool.not_true, Bool.or_self, cond_false, hs, hmask]
      simp only [chk, decide_eq_true (show (0 : Int) ≤ (n : Int) by omega), decide_eq_true (show (0 : Int) ≤ (m : Int) by omega), Option.bind_some, cond_true, band_mod_i64 n (by omega) h1 (by omega), bshr_nn (k := .i64) m (by show m ≤ 64; omega) hr0, hm, eN, if_true, Int.toNat_natCast]
  · rw [if_neg h]
    have : ((!(decide (0 ≤ a) && decide (a < 65536) && decide (0 ≤ l) && decide (l ≤ 16))) || decide (b < 0)) = true := by
      simp only [Bool.or_eq_true, Bool.not_eq_true', Bool.and_eq_false_iff, decide_eq_true_eq, decide_eq_false_iff_not]; omega
    simp only [Option.bind_some, this, cond_true, eN]
    rfl
def walkOf (a l own b r : Int) : Int × Int × Int :=
  if 0 ≤ a ∧ a < 65536 ∧ 0 ≤ l ∧ l ≤ 16 ∧ 0 ≤ b ∧ b ≤ 8 ∧ 0 ≤ r ∧ r ≤ 5 ∧ 0 ≤ own ∧ own < 2 ^ b.toNat then
    (if l < b + r then (0, 0, 4) else if (topOf a l b).1 ≠ own then (0, 0, 3) else ((topOf a (l - b) r).1, l - b - r, 0)) else (0, 0, 1)
theorem walk_ok (a l own b r : Int) : guard_Walk.f a l own b r = some ((walkOf a l own b r).1, (walkOf a l own b r).2.1, eN (walkOf a l own b r).2.2) := by
  unfold guard_Walk.f guard_fits.f walkOf
  by_cases hb : 0 ≤ b ∧ b ≤ 8 ∧ 0 ≤ own
  · obtain ⟨n, rfl⟩ := Int.eq_ofNat_of_zero_le hb.1
    have hp := pow_lo n
    have hp2 := pow_le (show n ≤ 8 by omega)
    have hs : bshl .i64 1 (n : Int) = 2 ^ n := by
      rw [bshl_i64 n (by omega) (by omega) (by omega), Int.one_mul]
    rw [show ((n : Int)).toNat = n by simp]
    have d1 : decide ((n : Int) < 0) = false := by simp
    have d2 : decide (8 < (n : Int)) = false := by simp; omega
    have d3 : decide (own < 0) = false := by simp; omega
    have d4 : chk (decide (0 ≤ (n : Int))) = some () := by simp [chk]
    simp only [d1, d2, d3, d4, Bool.or_false, Option.bind_some, hs]
    by_cases h : 0 ≤ a ∧ a < 65536 ∧ 0 ≤ l ∧ l ≤ 16 ∧ 0 ≤ r ∧ r ≤ 5 ∧ own < 2 ^ n
    · rw [if_pos ⟨h.1, h.2.1, h.2.2.1, h.2.2.2.1, hb.1, hb.2.1, h.2.2.2.2.1, h.2.2.2.2.2.1, hb.2.2, h.2.2.2.2.2.2⟩]
      obtain ⟨h1, h2, h3, h4, h5, h6, h7⟩ := h
      have e1 : (decide (0 ≤ a) && decide (a < 65536) && decide (0 ≤ l) && decide (l ≤ 16)) = true := by simp; omega
      have e2 : decide (2 ^ n ≤ own) = false := by simpa using h7
      have e3 : decide (r < 0) = false := by simpa using h5
      have e4 : decide (5 < r) = false := by simpa using h6
      simp only [e1, e2, e3, e4, Bool.not_true, cond_false, Option.bind_some, Bool.or_self]
      rw [w64_id (x := (n : Int) + r) (by omega) (by omega)]
      by_cases hl : l < n + r
      · simp [hl, eN]
      · have hd : decide (l < (n : Int) + r) = false := by simpa using hl
        rw [if_neg hl, top_ok, w64_id (x := l - n) (by omega) (by omega), top_ok, w64_id (x := l - n - r) (by omega) (by omega)]
        have t1 : (topOf a l n).2 = 0 := by unfold topOf; rw [if_pos ⟨h1, h2, h3, h4, hb.1⟩, if_neg (by omega)]
        have t2 : (topOf a (l - n) r).2 = 0 := by unfold topOf; rw [if_pos ⟨h1, h2, by omega, by omega, h5⟩, if_neg (by omega)]
        simp only [hd, cond_false, Option.bind_some, t1, t2, eN, if_true, Option.isSome_none, Bool.false_or]
        by_cases ho : (topOf a l n).1 = own
        · have : ((topOf a l n).1 != own) = false := by simpa using ho
          simp [this, ho]
        · have : ((topOf a l n).1 != own) = true := by simpa using ho
          simp [this, ho]
    · rw [if_neg (fun x => h ⟨x.1, x.2.1, x.2.2.1, x.2.2.2.1, x.2.2.2.2.2.2.1, x.2.2.2.2.2.2.2.1, x.2.2.2.2.2.2.2.2.2⟩)]
      generalize (2 : Int) ^ n = p at *
      cases hf : (decide (0 ≤ a) && decide (a < 65536) && decide (0 ≤ l) && decide (l ≤ 16)) with
      | false => simp [eN]
      | true =>
        have : ((decide (p ≤ own) || decide (r < 0)) || decide (5 < r)) = true := by
          simp only [Bool.and_eq_true, decide_eq_true_eq] at hf
          simp only [Bool.or_eq_true, decide_eq_true_eq]; omega
        simp only [Bool.not_true, cond_false, Option.bind_some, this, cond_true, eN]
        rfl
  · rw [if_neg (fun x => hb ⟨x.2.2.2.2.1, x.2.2.2.2.2.1, x.2.2.2.2.2.2.2.2.1⟩)]
    have : (decide (b < 0) || (decide (8 < b) || decide (own < 0))) = true := by
      simp only [Bool.or_eq_true, decide_eq_true_eq]; omega
    simp only [Bool.or_assoc, this, Bool.or_true, Option.bind_some, cond_true, Bool.true_or, eN]
    rfl
