/- Plain laws of what CallBack reaches, part PureCall. On no condition. -/
import Derived.Test.YtnkgafjmladidaaFnCallBack0
import Derived.Test.YtnkgafjmladidaaSlBits
set_option linter.all false
/-! Calls and replies as numbers, plainly. -/
namespace Go.Proofs
open Go.Sl
def RepMay (r : api_Reply) : Prop := 0 ≤ r.Code ∧ r.Code ≤ 14 ∧ 0 ≤ r.Word ∧ r.Word ≤ 2147483647 ∧ 0 ≤ r.Badge ∧ r.Badge ≤ 65535
instance (r : api_Reply) : Decidable (RepMay r) := by unfold RepMay; exact inferInstance
theorem cond_some' {α : Type} (c : Bool) (a b : α) : (bif c then some a else some b) = some (bif c then a else b) := by cases c <;> rfl
theorem fits_ok (r : api_Reply) : call_fits.f r = some (decide (RepMay r)) := by
  unfold call_fits.f
  simp only [call_in.f, cond_some', Option.bind_some]
  congr 1
  rw [Bool.eq_iff_iff]
  simp only [Bool.cond_false_right, Bool.and_eq_true, decide_eq_true_eq]
  unfold RepMay
  omega
def repWord (r : api_Reply) : Int := r.Code + r.Word * 2 ^ 4 + r.Badge * 2 ^ 35
def repOf (n : Int) : api_Reply := ⟨n % 16, n / 2 ^ 4 % 2 ^ 31, n / 2 ^ 35⟩
theorem rpack_ok (r : api_Reply) : call_Pack.f r = some (if RepMay r then (repWord r, none) else (0, some 1)) := by
  unfold call_Pack.f
  rw [fits_ok]
  by_cases h : RepMay r
  · rw [if_pos h]
    obtain ⟨h1, h2, h3, h4, h5, h6⟩ := h
    rw [show (4 : Int) = ((4 : Nat) : Int) from rfl, show (35 : Int) = ((35 : Nat) : Int) from rfl]
    rw [bshl_i64 4 (by omega) h3 (by omega), bor_add_i64 4 (by omega) h1 (by omega) h3 (by omega), bshl_i64 35 (by omega) h5 (by omega), bor_add_i64 35 (by omega) (by omega) (by omega) h5 (by omega)]
    have : RepMay r := ⟨h1, h2, h3, h4, h5, h6⟩
    simp [this, repWord]
  · simp [h]
theorem runpack_ok {n : Int} (hn : n ≤ 9223372036854775807) : call_Unpack.f n = some (if 0 ≤ n ∧ RepMay (repOf n) then (repOf n, none) else (⟨0, 0, 0⟩, some 1)) := by
  unfold call_Unpack.f
  by_cases h : 0 ≤ n
  · have f1 : decide (n < 0) = false := by simpa using h
    have e1 : band .i64 n 15 = n % 16 := by
      have := band_mod_i64 (x := n) 4 (by decide) h (by omega)
      exact this
    have e2 : bshr .i64 n 4 = n / 2 ^ 4 := bshr_nn (k := .i64) 4 (by decide) h
    have e3 : bshr .i64 n 35 = n / 2 ^ 35 := bshr_nn (k := .i64) 35 (by decide) h
    have e4 : band .i64 (n / 2 ^ 4) 2147483647 = n / 2 ^ 4 % 2 ^ 31 := band_mod_i64 (x := n / 2 ^ 4) 31 (by decide) (by omega) (by omega)
    rw [e1, e2, e3, e4, fits_ok]
    simp only [f1, cond_false, Option.bind_some]
    have hr : (⟨n % 16, n / 2 ^ 4 % 2 ^ 31, n / 2 ^ 35⟩ : api_Reply) = repOf n := rfl
    rw [hr]
    by_cases hm : RepMay (repOf n)
    · rw [if_pos ⟨h, hm⟩, decide_eq_true hm]; rfl
    · rw [if_neg (fun x => hm x.2), decide_eq_false hm]; rfl
  · have f1 : decide (n < 0) = true := by simp; omega
    rw [if_neg (fun x => h x.1)]
    simp only [f1, cond_true]
def ClMay (c : api_Call) : Prop := 1 ≤ c.Op ∧ c.Op ≤ 22 ∧ 0 ≤ c.Cap ∧ c.Cap ≤ 65535 ∧ 0 ≤ c.A ∧ c.A ≤ 2147483647 ∧ 0 ≤ c.B ∧ c.B ≤ 2147483647 ∧ 0 ≤ c.C ∧ c.C ≤ 2147483647 ∧ 0 ≤ c.D ∧ c.D ≤ 2147483647
instance (c : api_Call) : Decidable (ClMay c) := by unfold ClMay; exact inferInstance
theorem cmay_ok (c : api_Call) : call_May.f c = some (decide (ClMay c)) := by
  unfold call_May.f
  simp only [call_in.f, cond_some', Option.bind_some]
  congr 1
  rw [Bool.eq_iff_iff]
  simp only [Bool.cond_false_right, Bool.and_eq_true, decide_eq_true_eq]
  unfold ClMay
  omega
theorem crmay_ok (c : api_Call) : ref10_May.f c = some (decide (ClMay c)) := by
  unfold ref10_May.f
  simp only [ref10_in.f, Option.bind_some]
  congr 1
  rw [Bool.eq_iff_iff]
  simp only [Bool.and_eq_true, decide_eq_true_eq]
  unfold ClMay
  omega
def cl0 (c : api_Call) : Int := c.Op + c.Cap * 2 ^ 8
def cl1 (c : api_Call) : Int := c.A + c.B * 2 ^ 32
def cl2 (c : api_Call) : Int := c.C + c.D * 2 ^ 32
theorem cput_ok (c : api_Call) : call_Put.f c = some (if ClMay c then ([cl0 c, cl1 c, cl2 c], none) else ([], some 1)) := by
  unfold call_Put.f
  rw [cmay_ok]
  by_cases h : ClMay c
  · rw [if_pos h, decide_eq_true h]
    obtain ⟨h1, h2, h3, h4, h5, h6, h7, h8, h9, h10, h11, h12⟩ := h
    rw [show (8 : Int) = ((8 : Nat) : Int) from rfl, show (32 : Int) = ((32 : Nat) : Int) from rfl]
    rw [wu64_id (x := c.Op) (by omega) (by omega), wu64_id (x := c.Cap) (by omega) (by omega), wu64_id (x := c.A) (by omega) (by omega), wu64_id (x := c.B) (by omega) (by omega), wu64_id (x := c.C) (by omega) (by omega), wu64_id (x := c.D) (by omega) (by omega)]
    rw [bshl_u64 8 (by omega) (by omega) (by omega), bshl_u64 32 (by omega) h7 (by omega), bshl_u64 32 (by omega) h11 (by omega)]
    rw [bor_add_u64 8 (by omega) (by omega) (by omega) (by omega) (by omega), bor_add_u64 32 (by omega) (by omega) (by omega) h7 (by omega), bor_add_u64 32 (by omega) (by omega) (by omega) h11 (by omega)]
    rfl
  · rw [if_neg h, decide_eq_false h]; rfl
def clOf (a b c : Int) : api_Call := ⟨a % 2 ^ 8, a / 2 ^ 8, b % 2 ^ 32, b / 2 ^ 32, c % 2 ^ 32, c / 2 ^ 32⟩
theorem cget_no {l : List Int} (h : l.length ≠ 3) : call_Get.f l = some (⟨0, 0, 0, 0, 0, 0⟩, some 1) := by
  unfold call_Get.f
  have : ((l.length : Int) != 3) = true := by simp; omega
  simp only [this, cond_true]
theorem cget_ok {a b c : Int} (ha : 0 ≤ a ∧ a ≤ 18446744073709551615) (hb : 0 ≤ b ∧ b ≤ 18446744073709551615) (hc : 0 ≤ c ∧ c ≤ 18446744073709551615) :
    call_Get.f [a, b, c] = some (if a < 16777216 ∧ ClMay (clOf a b c) then (clOf a b c, none) else (⟨0, 0, 0, 0, 0, 0⟩, some 1)) := by
  have f0 : (([a, b, c].length : Int) != 3) = false := rfl
  have g0 : at_ [a, b, c] 0 = some a := rfl
  have g1 : at_ [a, b, c] 1 = some b := rfl
  have g2 : at_ [a, b, c] 2 = some c := rfl
  have m1 : ∀ x : Int, 0 ≤ x ∧ x ≤ 18446744073709551615 → call_Get_1.f x = some (x % 2 ^ 32) := fun x hx => by
    unfold call_Get_1.f
    have : band .u64 x 4294967295 = x % 2 ^ 32 := band_mod_u64 (x := x) 32 (by decide) hx.1 (by omega)
    rw [this, w64_id (by omega) (by omega)]
  have m2 : ∀ x : Int, 0 ≤ x ∧ x ≤ 18446744073709551615 → call_Get_2.f x = some (x / 2 ^ 32) := fun x hx => by
    unfold call_Get_2.f
    have : bshr .u64 x 32 = x / 2 ^ 32 := bshr_nn (k := .u64) 32 (by decide) hx.1
    rw [this, w64_id (by omega) (by omega)]
  have e1 : band .u64 a 255 = a % 2 ^ 8 := band_mod_u64 (x := a) 8 (by decide) ha.1 (by omega)
  have e2 : bshr .u64 a 8 = a / 2 ^ 8 := bshr_nn (k := .u64) 8 (by decide) ha.1
  unfold call_Get.f
  simp only [f0, cond_false, g0, g1, g2, Option.bind_some, m1 b hb, m2 b hb, m1 c hc, m2 c hc, e1, e2]
  by_cases h : a < 16777216
  · have f1 : decide (65536 ≤ a / 2 ^ 8) = false := by simp; omega
    rw [w64_id (x := a % 2 ^ 8) (by omega) (by omega), w64_id (x := a / 2 ^ 8) (by omega) (by omega)]
    have hr : (⟨a % 2 ^ 8, a / 2 ^ 8, b % 2 ^ 32, b / 2 ^ 32, c % 2 ^ 32, c / 2 ^ 32⟩ : api_Call) = clOf a b c := rfl
    rw [hr, cmay_ok]
    simp only [f1, cond_false, Option.bind_some]
    by_cases hm : ClMay (clOf a b c)
    · rw [if_pos ⟨h, hm⟩, decide_eq_true hm]; rfl
    · rw [if_neg (fun x => hm x.2), decide_eq_false hm]; rfl
  · have f1 : decide (65536 ≤ a / 2 ^ 8) = true := by simp; omega
    rw [if_neg (fun x => h x.1)]
    simp only [f1, cond_true]
