/- Plain laws of what RightsTell reaches, part PureRights. On no condition. -/
import Derived.Test.YtnkgafjmladidaaPureCapRightsTell
import Derived.Test.YtnkgafjmladidaaFnRightsTell0
import Derived.Test.YtnkgafjmladidaaFnRightsTell1
set_option linter.all false
/-! Rights, plainly. -/
namespace Go.Proofs
open Go.Sl
theorem all8 {P : Int → Prop} (h : ∀ i : Fin 8, P ((i.val : Nat) : Int)) {a : Int} (h0 : 0 ≤ a) (h1 : a ≤ 7) : P a := by
  have := h ⟨a.toNat, by omega⟩
  rwa [show ((a.toNat : Nat) : Int) = a by omega] at this
theorem all88 {P : Int → Int → Prop} (h : ∀ i j : Fin 8, P ((i.val : Nat) : Int) ((j.val : Nat) : Int)) {a b : Int} (h0 : 0 ≤ a) (h1 : a ≤ 7) (h2 : 0 ≤ b) (h3 : b ≤ 7) : P a b :=
  all8 (P := fun a => P a b) (fun i => all8 (P := fun b => P ((i.val : Nat) : Int) b) (fun j => h i j) h2 h3) h0 h1
theorem both_ok {a b : Int} (h0 : 0 ≤ a) (h1 : a ≤ 7) (h2 : 0 ≤ b) (h3 : b ≤ 7) : ref01_both.f 40 a b = some (band .i64 a b) :=
  all88 (P := fun a b => ref01_both.f 40 a b = some (band .i64 a b)) (by decide +kernel) h0 h1 h2 h3
theorem band_rg {a b : Int} (h0 : 0 ≤ a) (h1 : a ≤ 7) (h2 : 0 ≤ b) (h3 : b ≤ 7) : 0 ≤ band .i64 a b ∧ band .i64 a b ≤ 7 :=
  all88 (P := fun a b => 0 ≤ band .i64 a b ∧ band .i64 a b ≤ 7) (by decide +kernel) h0 h1 h2 h3
theorem bclr_band {a b : Int} (h0 : 0 ≤ a) (h1 : a ≤ 7) (h2 : 0 ≤ b) (h3 : b ≤ 7) : (bclr .i64 a b == 0) = (band .i64 a b == a) :=
  all88 (P := fun a b => (bclr .i64 a b == 0) = (band .i64 a b == a)) (by decide +kernel) h0 h1 h2 h3
theorem bclr_in {a b : Int} (h0 : 0 ≤ a) (h1 : a ≤ 7) (h2 : 0 ≤ b) (h3 : b ≤ 7) : bclr .i64 (band .i64 a b) a = 0 :=
  all88 (P := fun a b => bclr .i64 (band .i64 a b) a = 0) (by decide +kernel) h0 h1 h2 h3
theorem bclr_self {a : Int} (h0 : 0 ≤ a) (h1 : a ≤ 7) : bclr .i64 a a = 0 :=
  all8 (P := fun a => bclr .i64 a a = 0) (by decide +kernel) h0 h1
theorem band_comm3 {a b c : Int} (h0 : 0 ≤ a) (h1 : a ≤ 7) (h2 : 0 ≤ b) (h3 : b ≤ 7) (h4 : 0 ≤ c) (h5 : c ≤ 7) : band .i64 (band .i64 a b) c = band .i64 (band .i64 a c) b :=
  all8 (P := fun a => band .i64 (band .i64 a b) c = band .i64 (band .i64 a c) b) (fun i => all88 (P := fun b c => band .i64 (band .i64 ((i.val : Nat) : Int) b) c = band .i64 (band .i64 ((i.val : Nat) : Int) c) b) (by revert i; decide +kernel) h2 h3 h4 h5) h0 h1
theorem real_ok (c : api_Cap) : ∃ b, rights_real.f c = some b ∧ (b = true ↔ (c.Kind ≠ 0 ∧ CapMay c)) := by
  obtain ⟨b, hb, hb2⟩ := may_pack c
  unfold rights_real.f
  rw [hb]
  by_cases hk : c.Kind = 0
  · exact ⟨false, by simp [hk], by simp [hk]⟩
  · exact ⟨b, by simp [hk, Bool.cond_eq_ite], by simp [hk, hb2]⟩
theorem mask_ok (m : Int) : rights_mask.f m = some (decide (0 ≤ m ∧ m ≤ 7)) := by
  unfold rights_mask.f
  simp
open Classical in
/-- What both come to. -/
noncomputable def drv (c : api_Cap) (m : Int) : api_Cap × Int :=
  if c.Kind ≠ 0 ∧ CapMay c ∧ 0 ≤ m ∧ m ≤ 7 then (if c.Kind = 1 then (⟨0, 0, 0, 0, 0, 0⟩, 5) else (⟨c.Kind, band .i64 c.Rights m, c.Obj, c.Badge, c.Guard, c.Bits⟩, 0)) else (⟨0, 0, 0, 0, 0, 0⟩, 1)
open Classical in
noncomputable def mnt (c : api_Cap) (m b : Int) : api_Cap × Int :=
  if c.Kind ≠ 0 ∧ CapMay c ∧ 0 ≤ m ∧ m ≤ 7 ∧ 1 ≤ b ∧ b ≤ 65535 then (if c.Kind ≠ 3 ∧ c.Kind ≠ 4 then (⟨0, 0, 0, 0, 0, 0⟩, 5) else if c.Badge ≠ 0 then (⟨0, 0, 0, 0, 0, 0⟩, 10) else (⟨c.Kind, band .i64 c.Rights m, c.Obj, b, c.Guard, c.Bits⟩, 0)) else (⟨0, 0, 0, 0, 0, 0⟩, 1)
def eOf (n : Int) : Option Int := if n = 0 then none else some n
theorem derive_ok (c : api_Cap) (m : Int) : rights_Derive.f c m = some ((drv c m).1, eOf (drv c m).2) := by
  obtain ⟨b, hb, hb2⟩ := real_ok c
  unfold rights_Derive.f drv
  rw [hb, mask_ok]
  by_cases h : c.Kind ≠ 0 ∧ CapMay c
  · rw [hb2.2 h]
    by_cases hm : 0 ≤ m ∧ m ≤ 7
    · rw [if_pos ⟨h.1, h.2, hm⟩]
      by_cases hk : c.Kind = 1 <;> simp [hm, hk, eOf, Bool.cond_eq_ite]
    · rw [if_neg (fun x => hm x.2.2)]
      simp [hm, eOf]
  · have : b = false := by cases b <;> simp_all
    rw [this, if_neg (fun x => h ⟨x.1, x.2.1⟩)]
    simp [eOf]
theorem rderive_ok (c : api_Cap) (m : Int) : ref01_Derive.f 40 c m = some (drv c m) := by
  obtain ⟨b, hb, hb2⟩ := may_ref c
  unfold ref01_Derive.f drv
  rw [hb]
  by_cases h : CapMay c
  · rw [hb2.2 h]
    by_cases hk : c.Kind = 0
    · rw [if_neg (fun x => x.1 hk)]; simp [hk]
    · by_cases hm : 0 ≤ m ∧ m ≤ 7
      · rw [if_pos ⟨hk, h, hm⟩]
        have h2 := h
        obtain ⟨-, -, h3, h4, -⟩ := h2
        rw [both_ok h3 h4 hm.1 hm.2]
        have d1 : decide (m < 0) = false := by simpa using hm.1
        have d2 : decide (7 < m) = false := by simpa using hm.2
        by_cases hk1 : c.Kind = 1 <;> simp [hk, d1, d2, hk1, Bool.cond_eq_ite]
      · rw [if_neg (fun x => hm x.2.2)]
        have : (decide (m < 0) || decide (7 < m)) = true := by simp; omega
        simp [Bool.or_assoc, this]
  · have : b = false := by cases b <;> simp_all
    rw [this, if_neg (fun x => h x.2.1)]
    simp
theorem mint_ok (c : api_Cap) (m g : Int) : rights_Mint.f c m g = some ((mnt c m g).1, eOf (mnt c m g).2) := by
  obtain ⟨b, hb, hb2⟩ := real_ok c
  unfold rights_Mint.f mnt
  rw [hb, mask_ok]
  by_cases h : c.Kind ≠ 0 ∧ CapMay c
  · rw [hb2.2 h]
    by_cases hm : 0 ≤ m ∧ m ≤ 7
    · by_cases hg : 1 ≤ g ∧ g ≤ 65535
      · rw [if_pos ⟨h.1, h.2, hm.1, hm.2, hg⟩]
        have d1 : decide (g < 1) = false := by simp; omega
        have d2 : decide (65535 < g) = false := by simp; omega
        by_cases h3 : c.Kind = 3 <;> by_cases h4 : c.Kind = 4 <;> by_cases h5 : c.Badge = 0 <;> simp [hm, d1, d2, h3, h4, h5, eOf, Bool.cond_eq_ite]
      · rw [if_neg (fun x => hg x.2.2.2.2)]
        have : (decide (g < 1) || decide (65535 < g)) = true := by simp; omega
        simp [hm, Bool.or_assoc, this, eOf]
    · rw [if_neg (fun x => hm ⟨x.2.2.1, x.2.2.2.1⟩)]
      simp [hm, eOf]
  · have : b = false := by cases b <;> simp_all
    rw [this, if_neg (fun x => h ⟨x.1, x.2.1⟩)]
    simp [eOf]
theorem rmint_ok (c : api_Cap) (m g : Int) : ref01_Mint.f 40 c m g = some (mnt c m g) := by
  obtain ⟨b, hb, hb2⟩ := may_ref c
  unfold ref01_Mint.f mnt
  rw [hb]
  by_cases h : CapMay c
  · rw [hb2.2 h]
    by_cases hk : c.Kind = 0
    · rw [if_neg (fun x => x.1 hk)]; simp [hk]
    · by_cases hm : 0 ≤ m ∧ m ≤ 7 ∧ 1 ≤ g ∧ g ≤ 65535
      · rw [if_pos ⟨hk, h, hm⟩]
        have h2 := h
        obtain ⟨-, -, h3, h4, -⟩ := h2
        rw [both_ok h3 h4 hm.1 hm.2.1]
        have d1 : decide (m < 0) = false := by simpa using hm.1
        have d2 : decide (7 < m) = false := by simpa using hm.2.1
        have d3 : decide (g < 1) = false := by simp; omega
        have d4 : decide (65535 < g) = false := by simp; omega
        by_cases h3 : c.Kind = 3 <;> by_cases h4 : c.Kind = 4 <;> by_cases h5 : c.Badge = 0 <;> simp [hk, d1, d2, d3, d4, h3, h4, h5, Bool.cond_eq_ite]
      · rw [if_neg (fun x => hm x.2.2)]
        have : (decide (m < 0) || (decide (7 < m) || (decide (g < 1) || decide (65535 < g)))) = true := by simp; omega
        simp [Bool.or_assoc, this]
  · have : b = false := by cases b <;> simp_all
    rw [this, if_neg (fun x => h x.2.1)]
    simp
theorem mutate_ok (c : api_Cap) (m g : Int) : ∃ x n, rights_Mutate.f c m g = some (x, eOf n) ∧ ref01_Mutate.f 40 c m g = some (x, n) ∧ (n = 0 ∨ n = 1 ∨ n = 5) := by
  obtain ⟨b, hb, hb2⟩ := real_ok c
  obtain ⟨b1, hb1, hb3⟩ := may_ref c
  obtain ⟨b4, hb4, hb5⟩ := may_ref ⟨c.Kind, c.Rights, c.Obj, c.Badge, m, g⟩
  obtain ⟨b6, hb6, hb7⟩ := may_pack ⟨c.Kind, c.Rights, c.Obj, c.Badge, m, g⟩
  have e64 : b6 = b4 := by cases b4 <;> cases b6 <;> simp_all
  subst e64
  have eb : b = (b1 && !(c.Kind == 0)) := by
    cases b <;> cases b1 <;> by_cases hk : c.Kind = 0 <;> simp_all
  unfold rights_Mutate.f ref01_Mutate.f
  rw [hb, hb1, hb4, hb6, eb]
  by_cases hk : c.Kind = 0 <;> by_cases hk2 : c.Kind = 2 <;> cases b1 <;> cases b6
  all_goals first
    | (refine ⟨⟨0, 0, 0, 0, 0, 0⟩, 1, ?_, ?_, by decide⟩ <;> simp [hk, hk2, eOf, Bool.cond_eq_ite] <;> done)
    | (refine ⟨⟨0, 0, 0, 0, 0, 0⟩, 5, ?_, ?_, by decide⟩ <;> simp [hk, hk2, eOf, Bool.cond_eq_ite] <;> done)
    | (refine ⟨⟨c.Kind, c.Rights, c.Obj, c.Badge, m, g⟩, 0, ?_, ?_, by decide⟩ <;> simp [hk, hk2, eOf, Bool.cond_eq_ite] <;> done)
    | exact absurd (hk.symm.trans hk2) (by decide)
