/- Plain laws of what CspaceJoins reaches, part P13Cap. On no condition. -/
import Derived.Test.YtklkbgacjegplaaFnCspaceJoins2
import Derived.Test.YtklkbgacjegplaaFnCspaceJoins0
import Derived.Test.YtklkbgacjegplaaFnCspaceJoins1
import Derived.Test.YtklkbgacjegplaaSlBits
set_option linter.all false
/-! The capability as a word, plainly. -/
namespace Go.Proofs
open Go.Sl
def CapMay (c : api_Cap) : Prop := 0 ≤ c.Kind ∧ c.Kind ≤ 8 ∧ 0 ≤ c.Rights ∧ c.Rights ≤ 7 ∧ 0 ≤ c.Obj ∧ c.Obj ≤ 31 ∧ 0 ≤ c.Badge ∧ c.Badge ≤ 65535 ∧ 0 ≤ c.Bits ∧ c.Bits ≤ 8 ∧
  (c.Kind = 0 → c.Rights = 0 ∧ c.Obj = 0) ∧ (c.Kind = 3 ∨ c.Kind = 4 ∨ c.Badge = 0) ∧ (c.Kind = 2 ∨ (c.Bits = 0 ∧ c.Guard = 0)) ∧ 0 ≤ c.Guard ∧ c.Guard < 2 ^ c.Bits.toNat
instance (c : api_Cap) : Decidable (CapMay c) := by unfold CapMay; exact inferInstance
theorem pow_lo (n : Nat) : (1 : Int) ≤ 2 ^ n := by have : (0 : Int) < 2 ^ n := Int.pow_pos (by decide); omega
theorem pow_le {n m : Nat} (h : n ≤ m) : (2 : Int) ^ n ≤ 2 ^ m := by
  have := Nat.pow_le_pow_right (n := 2) (by decide) h
  exact_mod_cast this
theorem upto16 {P : Nat → Prop} {n : Nat} (h : n ≤ 16) (h0 : P 0) (h1 : P 1) (h2 : P 2) (h3 : P 3) (h4 : P 4) (h5 : P 5) (h6 : P 6) (h7 : P 7) (h8 : P 8) (h9 : P 9) (h10 : P 10) (h11 : P 11) (h12 : P 12) (h13 : P 13) (h14 : P 14) (h15 : P 15) (h16 : P 16) : P n := by
  have : n = 0 ∨ n = 1 ∨ n = 2 ∨ n = 3 ∨ n = 4 ∨ n = 5 ∨ n = 6 ∨ n = 7 ∨ n = 8 ∨ n = 9 ∨ n = 10 ∨ n = 11 ∨ n = 12 ∨ n = 13 ∨ n = 14 ∨ n = 15 ∨ n = 16 := by omega
  rcases this with rfl | rfl | rfl | rfl | rfl | rfl | rfl | rfl | rfl | rfl | rfl | rfl | rfl | rfl | rfl | rfl | rfl <;> assumption
theorem cond_some {α : Type} (c : Bool) (a b : α) : (bif c then some a else some b) = some (bif c then a else b) := by cases c <;> rfl
theorem cond_or (c a b : Bool) : (bif c then a else b) = ((c && a) || (!c && b)) := by cases c <;> simp
theorem may_pack (c : api_Cap) : ∃ b, pack_May.f c = some b ∧ (b = true ↔ CapMay c) := by
  unfold pack_May.f CapMay
  simp only [pack_May_1.f, Option.bind_some]
  obtain ⟨K, R, O, B, G, T⟩ := c
  simp only
  by_cases h5 : 0 ≤ T ∧ T ≤ 8
  · obtain ⟨n, rfl⟩ := Int.eq_ofNat_of_zero_le h5.1
    have hp := pow_lo n
    have hp2 := pow_le (show n ≤ 8 by omega)
    rw [bshl_i64 n (by omega) (by omega) (by omega), Int.one_mul]
    rw [show ((n : Int)).toNat = n by simp]
    generalize (2 : Int) ^ n = p at *
    rw [w64_id (by omega) (by omega)]
    have hc : chk (decide (0 ≤ (n : Int))) = some () := by simp [chk]
    simp only [hc, Option.bind_some, cond_some]
    refine ⟨_, rfl, ?_⟩
    simp only [Bool.cond_true_left, Bool.cond_false_left]
    simp only [cond_or]
    simp only [Bool.or_eq_true, Bool.and_eq_true, Bool.not_eq_true', decide_eq_true_eq, Bool.and_eq_false_iff, Bool.not_eq_false', decide_eq_false_iff_not, beq_iff_eq, bne_iff_ne, Bool.false_eq_true, reduceCtorEq, api_Cap.mk.injEq, Bool.or_eq_false_iff, beq_eq_false_iff_ne, bne_eq_false_iff_eq, ne_eq]
    omega
  · refine ⟨false, ?_, ?_⟩
    · have h6 : (decide (0 ≤ T) && decide (T ≤ 8)) = false := by simpa using h5
      by_cases hk : K = 0
      · have : ¬ ((⟨K, R, O, B, G, T⟩ : api_Cap) = ⟨0, 0, 0, 0, 0, 0⟩) := by
          simp only [api_Cap.mk.injEq]; omega
        simp [hk] at this ⊢
        omega
      · simp only [h6, Option.bind_some, cond_some]
        simp [hk]
    · simp only [Bool.false_eq_true, false_iff]; omega
def capWord (c : api_Cap) : Int := c.Kind + c.Rights * 2 ^ 4 + c.Obj * 2 ^ 7 + c.Badge * 2 ^ 12 + c.Bits * 2 ^ 28 + c.Guard * 2 ^ 32
theorem guard_lt {c : api_Cap} (h : CapMay c) : c.Guard < 256 := by
  obtain ⟨-, -, -, -, -, -, -, -, -, h1, -, -, -, -, h2⟩ := h
  have := pow_le (show c.Bits.toNat ≤ 8 by omega)
  omega
theorem packPut_ok {k : Nat} {c : api_Cap} (h : CapMay c) : pack_Put.f (k + 40) c = some (capWord c, none) := by
  obtain ⟨b, hb, hb2⟩ := may_pack c
  have hg := guard_lt h
  rw [hb2.2 h] at hb
  unfold pack_Put.f
  rw [hb]
  obtain ⟨h1, h2, h3, h4, h5, h6, h7, h8, h9, h10, -, -, -, h14, h15⟩ := h
  obtain ⟨K, R, O, B, G, T⟩ := c
  simp only at *
  have e0 : bor .u64 0 (bshl .u64 (wu64 K) 0) = K := by
    rw [wu64_id (by omega) (by omega), show (0 : Int) = ((0 : Nat) : Int) from rfl, bshl_u64 0 (by omega) (by omega) (by omega)]
    rw [show ((0 : Nat) : Int) = 0 from rfl]
    rw [bor_add_u64 0 (by omega) (by omega) (by omega) (by omega) (by omega)]
    omega
  have e1 : bor .u64 K (bshl .u64 (wu64 R) 4) = K + R * 2 ^ 4 := by
    rw [wu64_id (by omega) (by omega), show (4 : Int) = ((4 : Nat) : Int) from rfl, bshl_u64 4 (by omega) (by omega) (by omega), bor_add_u64 4 (by omega) (by omega) (by omega) (by omega) (by omega)]
  have e2 : bor .u64 (K + R * 2 ^ 4) (bshl .u64 (wu64 O) 7) = K + R * 2 ^ 4 + O * 2 ^ 7 := by
    rw [wu64_id (by omega) (by omega), show (7 : Int) = ((7 : Nat) : Int) from rfl, bshl_u64 7 (by omega) (by omega) (by omega), bor_add_u64 7 (by omega) (by omega) (by omega) (by omega) (by omega)]
  have e3 : bor .u64 (K + R * 2 ^ 4 + O * 2 ^ 7) (bshl .u64 (wu64 B) 12) = K + R * 2 ^ 4 + O * 2 ^ 7 + B * 2 ^ 12 := by
    rw [wu64_id (by omega) (by omega), show (12 : Int) = ((12 : Nat) : Int) from rfl, bshl_u64 12 (by omega) (by omega) (by omega), bor_add_u64 12 (by omega) (by omega) (by omega) (by omega) (by omega)]
  have e4 : bor .u64 (K + R * 2 ^ 4 + O * 2 ^ 7 + B * 2 ^ 12) (bshl .u64 (wu64 T) 28) = K + R * 2 ^ 4 + O * 2 ^ 7 + B * 2 ^ 12 + T * 2 ^ 28 := by
    rw [wu64_id (by omega) (by omega), show (28 : Int) = ((28 : Nat) : Int) from rfl, bshl_u64 28 (by omega) (by omega) (by omega), bor_add_u64 28 (by omega) (by omega) (by omega) (by omega) (by omega)]
  have e5 : bor .u64 (K + R * 2 ^ 4 + O * 2 ^ 7 + B * 2 ^ 12 + T * 2 ^ 28) (bshl .u64 (wu64 G) 32) = K + R * 2 ^ 4 + O * 2 ^ 7 + B * 2 ^ 12 + T * 2 ^ 28 + G * 2 ^ 32 := by
    rw [wu64_id (by omega) (by omega), show (32 : Int) = ((32 : Nat) : Int) from rfl, bshl_u64 32 (by omega) (by omega) (by omega), bor_add_u64 32 (by omega) (by omega) (by omega) (by omega) (by omega)]
  have q : ∀ x y : Int, x = y → 0 ≤ y → y < 100 → w64 x = y := fun x y h _ _ => by subst h; exact w64_id (by omega) (by omega)
  have stp : ∀ (n : Nat) (i x s a b i' x' s' : Int), at_ [4, 3, 5, 16, 4, 8] i = some a → at_ [K, R, O, B, T, G] i = some b → decide (i < 6) = true → 0 ≤ s → i + 1 = i' → 0 ≤ i' → i' < 100 → s + a = s' → 0 ≤ s' → s' < 100 → bor .u64 x (bshl .u64 (wu64 b) s) = x' →
      pack_Put.l1 ⟨K, R, O, B, G, T⟩ [4, 3, 5, 16, 4, 8] (n + 1) (i, x, s) = pack_Put.l1 ⟨K, R, O, B, G, T⟩ [4, 3, 5, 16, 4, 8] n (i', x', s') := by
    intro n i x s a b i' x' s' h1 h2 h3 h4 h5 h6 h7 h8 h9 h10 h11
    have h12 : decide (i < (([4, 3, 5, 16, 4, 8] : List Int).length : Int)) = true := h3
    conv => lhs; unfold pack_Put.l1
    simp only [h12, h1, h2, Option.bind_some, cond_true, chk, decide_eq_true h4, q _ _ h5 h6 h7, q _ _ h8 h9 h10, h11]
  have hA : pack_Put.l1 ⟨K, R, O, B, G, T⟩ [4, 3, 5, 16, 4, 8] (k + 40) (0, 0, 0) = some (K + R * 2 ^ 4 + O * 2 ^ 7 + B * 2 ^ 12 + T * 2 ^ 28 + G * 2 ^ 32) := by
    refine (stp (k + 39) 0 0 0 4 K 1 _ 4 rfl rfl rfl (by decide) rfl (by decide) (by decide) rfl (by decide) (by decide) e0).trans ?_
    refine (stp (k + 38) 1 _ 4 3 R 2 _ 7 rfl rfl rfl (by decide) rfl (by decide) (by decide) rfl (by decide) (by decide) e1).trans ?_
    refine (stp (k + 37) 2 _ 7 5 O 3 _ 12 rfl rfl rfl (by decide) rfl (by decide) (by decide) rfl (by decide) (by decide) e2).trans ?_
    refine (stp (k + 36) 3 _ 12 16 B 4 _ 28 rfl rfl rfl (by decide) rfl (by decide) (by decide) rfl (by decide) (by decide) e3).trans ?_
    refine (stp (k + 35) 4 _ 28 4 T 5 _ 32 rfl rfl rfl (by decide) rfl (by decide) (by decide) rfl (by decide) (by decide) e4).trans ?_
    refine (stp (k + 34) 5 _ 32 8 G 6 _ 40 rfl rfl rfl (by decide) rfl (by decide) (by decide) rfl (by decide) (by decide) e5).trans ?_
    unfold pack_Put.l1
    rfl
  simp only [pack_widths.f, Option.bind_some, Bool.not_true, cond_false, hA, capWord]
theorem packPut_no {k : Nat} {c : api_Cap} (h : ¬ CapMay c) : pack_Put.f (k + 40) c = some (0, some 1) := by
  obtain ⟨b, hb, hb2⟩ := may_pack c
  have : b = false := by cases b <;> simp_all
  subst this
  unfold pack_Put.f
  rw [hb]; rfl
theorem word_ok {c : api_Cap} (h : CapMay c) : ref01_Word.f c = some (capWord c) := by
  have hg := guard_lt h
  obtain ⟨h1, h2, h3, h4, h5, h6, h7, h8, h9, h10, -, -, -, h14, h15⟩ := h
  obtain ⟨K, R, O, B, G, T⟩ := c
  unfold ref01_Word.f capWord
  simp only at *
  rw [wu64_id (x := K) (by omega) (by omega), wu64_id (x := R) (by omega) (by omega), wu64_id (x := O) (by omega) (by omega), wu64_id (x := B) (by omega) (by omega), wu64_id (x := G) (by omega) (by omega), wu64_id (x := T) (by omega) (by omega),
    wu64_id (x := 16 * R) (by omega) (by omega), wu64_id (x := 128 * O) (by omega) (by omega), wu64_id (x := 4096 * B) (by omega) (by omega), wu64_id (x := 268435456 * T) (by omega) (by omega), wu64_id (x := 4294967296 * G) (by omega) (by omega)]
  rw [wu64_id (x := K + 16 * R) (by omega) (by omega), wu64_id (x := K + 16 * R + 128 * O) (by omega) (by omega), wu64_id (x := K + 16 * R + 128 * O + 4096 * B) (by omega) (by omega), wu64_id (x := K + 16 * R + 128 * O + 4096 * B + 268435456 * T) (by omega) (by omega), wu64_id (by omega) (by omega)]
  congr 1; omega
def capOf (w : Int) : api_Cap := ⟨w % 2 ^ 4, w / 2 ^ 4 % 2 ^ 3, w / 2 ^ 4 / 2 ^ 3 % 2 ^ 5, w / 2 ^ 4 / 2 ^ 3 / 2 ^ 5 % 2 ^ 16, w / 2 ^ 4 / 2 ^ 3 / 2 ^ 5 / 2 ^ 16 / 2 ^ 4 % 2 ^ 8, w / 2 ^ 4 / 2 ^ 3 / 2 ^ 5 / 2 ^ 16 % 2 ^ 4⟩
open Classical in
theorem packGet_ok {k : Nat} {w : Int} (h0 : 0 ≤ w) (h1 : w ≤ 18446744073709551615) : pack_Get.f (k + 40) w = some (if w / 2 ^ 4 / 2 ^ 3 / 2 ^ 5 / 2 ^ 16 / 2 ^ 4 / 2 ^ 8 = 0 ∧ CapMay (capOf w) then (capOf w, none) else (⟨0, 0, 0, 0, 0, 0⟩, some 1)) := by
  have q : ∀ x y : Int, x = y → 0 ≤ y → y < 100 → w64 x = y := fun x y h _ _ => by subst h; exact w64_id (by omega) (by omega)
  have stp : ∀ (n : Nat) (i x i' : Int) (m : Nat) (acc : List Int), at_ [4, 3, 5, 16, 4, 8] i = some (m : Int) → decide (i < 6) = true → 0 ≤ x → x ≤ 18446744073709551615 → m < 17 → i + 1 = i' → 0 ≤ i' → i' < 100 → acc.length < 10 →
      pack_Get.l1 [4, 3, 5, 16, 4, 8] (n + 1) (i, x, acc) = pack_Get.l1 [4, 3, 5, 16, 4, 8] n (i', x / 2 ^ m, acc ++ [x % 2 ^ m]) := by
    intro n i x i' m acc h1 h3 h4 h4b h5 h6 h7 h8 h9
    have h12 : decide (i < (([4, 3, 5, 16, 4, 8] : List Int).length : Int)) = true := h3
    have hm := pow_lo m
    have hm2 := pow_le (show m ≤ 17 by omega)
    have hx : x % 2 ^ m < 2 ^ m := Int.emod_lt_of_pos _ (by omega)
    have hx0 : 0 ≤ x % 2 ^ m := Int.emod_nonneg _ (by omega)
    have hmask : wu64 (bshl .u64 1 (m : Int) - 1) = 2 ^ m - 1 := by
      rw [bshl_u64 m (by omega) (by omega) (by omega), Int.one_mul]
      exact wu64_id (by omega) (by omega)
    have happ : app acc [x % 2 ^ m] = some (acc ++ [x % 2 ^ m]) := by
      unfold app
      have : decide (acc.length + [x % 2 ^ m].length ≤ 4294967296) = true := by simp; omega
      rw [this]; rfl
    conv => lhs; unfold pack_Get.l1
    simp only [h12, h1, Option.bind_some, cond_true, chk, decide_eq_true (show (0 : Int) ≤ (m : Int) by omega), hmask, band_mod_u64 m (by omega) h4 (by omega), w64_id (x := x % 2 ^ m) (by omega) (by omega), happ, q _ _ h6 h7 h8, bshr_nn (k := .u64) m (by show m ≤ 64; omega) h4]
  have hA : pack_Get.l1 [4, 3, 5, 16, 4, 8] (k + 40) (0, w, []) = some ([w % 2 ^ 4, w / 2 ^ 4 % 2 ^ 3, w / 2 ^ 4 / 2 ^ 3 % 2 ^ 5, w / 2 ^ 4 / 2 ^ 3 / 2 ^ 5 % 2 ^ 16, w / 2 ^ 4 / 2 ^ 3 / 2 ^ 5 / 2 ^ 16 % 2 ^ 4, w / 2 ^ 4 / 2 ^ 3 / 2 ^ 5 / 2 ^ 16 / 2 ^ 4 % 2 ^ 8], w / 2 ^ 4 / 2 ^ 3 / 2 ^ 5 / 2 ^ 16 / 2 ^ 4 / 2 ^ 8) := by
    refine (stp (k + 39) 0 _ 1 4 _ rfl (by decide) (by omega) (by omega) (by decide) rfl (by decide) (by decide) (by simp)).trans ?_
    refine (stp (k + 38) 1 _ 2 3 _ rfl (by decide) (by omega) (by omega) (by decide) rfl (by decide) (by decide) (by simp)).trans ?_
    refine (stp (k + 37) 2 _ 3 5 _ rfl (by decide) (by omega) (by omega) (by decide) rfl (by decide) (by decide) (by simp)).trans ?_
    refine (stp (k + 36) 3 _ 4 16 _ rfl (by decide) (by omega) (by omega) (by decide) rfl (by decide) (by decide) (by simp)).trans ?_
    refine (stp (k + 35) 4 _ 5 4 _ rfl (by decide) (by omega) (by omega) (by decide) rfl (by decide) (by decide) (by simp)).trans ?_
    refine (stp (k + 34) 5 _ 6 8 _ rfl (by decide) (by omega) (by omega) (by decide) rfl (by decide) (by decide) (by simp)).trans ?_
    unfold pack_Get.l1
    rfl
  obtain ⟨b, hb, hb2⟩ := may_pack (capOf w)
  unfold capOf at hb
  unfold pack_Get.f
  simp only [pack_widths.f, Option.bind_some, hA]
  simp only [at_, Int.le_refl, decide_true, cond_true, List.getElem?_cons_zero, Int.toNat_zero, Option.bind_some, show decide ((0 : Int) ≤ 1) = true from rfl, show decide ((0 : Int) ≤ 2) = true from rfl, show decide ((0 : Int) ≤ 3) = true from rfl, show decide ((0 : Int) ≤ 4) = true from rfl, show decide ((0 : Int) ≤ 5) = true from rfl,
    show (1 : Int).toNat = 1 from rfl, show (2 : Int).toNat = 2 from rfl, show (3 : Int).toNat = 3 from rfl, show (4 : Int).toNat = 4 from rfl, show (5 : Int).toNat = 5 from rfl, List.getElem?_cons_succ, hb]
  generalize hr : w / 2 ^ 4 / 2 ^ 3 / 2 ^ 5 / 2 ^ 16 / 2 ^ 4 / 2 ^ 8 = r
  cases b with
  | false =>
    have hn : ¬ CapMay (capOf w) := fun h => by simpa using hb2.2 h
    rw [if_neg (fun h => hn h.2)]
    by_cases hr0 : r = 0 <;> simp [hr0]
  | true =>
    have hy : CapMay (capOf w) := hb2.1 rfl
    by_cases hr0 : r = 0
    · rw [if_pos ⟨hr0, hy⟩]; simp [hr0, capOf]
    · rw [if_neg (fun h => hr0 h.1)]
      have : (r != 0) = true := by simpa using hr0
      simp only [this, cond_true, Option.bind_some]
theorem capOf_word {w : Int} (h0 : 0 ≤ w) (h : w / 2 ^ 4 / 2 ^ 3 / 2 ^ 5 / 2 ^ 16 / 2 ^ 4 / 2 ^ 8 = 0) : capWord (capOf w) = w := by
  unfold capOf capWord; simp only; omega
theorem word_capOf {c : api_Cap} (h : CapMay c) : capOf (capWord c) = c ∧ capWord c / 2 ^ 4 / 2 ^ 3 / 2 ^ 5 / 2 ^ 16 / 2 ^ 4 / 2 ^ 8 = 0 ∧ 0 ≤ capWord c ∧ capWord c ≤ 18446744073709551615 := by
  have hg := guard_lt h
  obtain ⟨h1, h2, h3, h4, h5, h6, h7, h8, h9, h10, -, -, -, h14, h15⟩ := h
  obtain ⟨K, R, O, B, G, T⟩ := c
  unfold capOf capWord
  simp only [api_Cap.mk.injEq] at *
  clear h15
  refine ⟨⟨?_, ?_, ?_, ?_, ?_, ?_⟩, ?_, ?_, ?_⟩ <;> omega
end Go.Proofs
