/- Plain laws of what CspaceJoins reaches, part P13Cspace. On no condition. -/
import Derived.Test.YtklkbgacjegplaaP13ViewCspaceJoins
import Derived.Test.YtklkbgacjegplaaP13GuardCspaceJoins
import Derived.Test.YtklkbgacjegplaaFnCspaceJoins0
set_option linter.all false
/-! CNodes, plainly. -/
set_option linter.unusedVariables false
namespace Go.Proofs
open Go.Sl
def InSlot (i f : Int) : Prop := 0 ≤ i ∧ i < 96 ∧ 0 ≤ f ∧ f < 5
instance (i f : Int) : Decidable (InSlot i f) := inferInstanceAs (Decidable (_ ∧ _))
theorem slot_ok (a b : Int) : lay_Slot.f a b = some (if InSlot a b then (5 * a + b, true) else (0, false)) := by
  unfold lay_Slot.f InSlot
  simp only [lay_in.f]
  by_cases h1 : 0 ≤ a <;> by_cases h2 : a < 96 <;> by_cases h3 : 0 ≤ b <;> by_cases h4 : b < 5 <;> simp [h1, h2, h3, h4]
  rw [w64_id (x := a * 5) (by omega) (by omega), w64_id (by omega) (by omega)]; omega
/-- Words that are words. -/
def GoodU (s : List Int) : Prop := Good s ∧ ∀ j, s.getD j 0 ≤ 18446744073709551615
def goodUB (s : List Int) : Bool := goodB s && s.all fun x => decide (x ≤ 18446744073709551615)
theorem goodU_of {s : List Int} (h : goodUB s = true) : GoodU s := by
  simp only [goodUB, Bool.and_eq_true, List.all_eq_true, decide_eq_true_eq] at h
  refine ⟨good_of h.1, fun j => ?_⟩
  rw [List.getD]
  cases e : s[j]? with
  | none => simp
  | some x => simpa using h.2 x (List.mem_of_getElem? e)
def noCap : api_Cap := ⟨0, 0, 0, 0, 0, 0⟩
def readCap (w : Int) : api_Cap := if w / 2 ^ 4 / 2 ^ 3 / 2 ^ 5 / 2 ^ 16 / 2 ^ 4 / 2 ^ 8 = 0 ∧ CapMay (capOf w) then capOf w else noCap
def capAt (s : List Int) (i : Int) : api_Cap := if InSlot i 0 then readCap (s.getD (5 * i).toNat 0) else noCap
theorem cap_ok {s : List Int} (h : GoodU s) (k : Nat) (i : Int) : VM.run plainI (cspace_Cap.f (k + 40) i) s = some (capAt s i, s) := by
  unfold cspace_Cap.f capAt
  rw [runB, runO, slot_ok]
  by_cases hi : InSlot i 0
  · rw [if_pos hi, if_pos hi]
    have hi' := hi
    unfold InSlot at hi'
    simp only [Option.map_some, Option.bind_some, Bool.not_true, cond_false, Int.add_zero]
    rw [runRd _ (by rw [h.1.1]; omega), runB, runO, packGet_ok (h.1.2 _) (h.2 _)]
    unfold readCap
    by_cases q : s.getD (5 * i).toNat 0 / 2 ^ 4 / 2 ^ 3 / 2 ^ 5 / 2 ^ 16 / 2 ^ 4 / 2 ^ 8 = 0 ∧ CapMay (capOf (s.getD (5 * i).toNat 0))
    · rw [if_pos q, if_pos q]; rfl
    · rw [if_neg q, if_neg q]; rfl
  · rw [if_neg hi, if_neg hi]; rfl
def Fine (s : List Int) (c : api_Cap) : Prop := c.Kind = 2 ∧ fld s c.Obj 0 = 2 ∧ fld s c.Obj 2 ≤ 5 ∧ fld s c.Obj 1 ≤ 96 - 2 ^ (fld s c.Obj 2).toNat
instance (s : List Int) (c : api_Cap) : Decidable (Fine s c) := inferInstanceAs (Decidable (_ ∧ _))
theorem two5 {n : Int} (h : 0 ≤ n) (h2 : n ≤ 5) : bshl .i64 1 n = 2 ^ n.toNat ∧ 1 ≤ (2 : Int) ^ n.toNat ∧ (2 : Int) ^ n.toNat ≤ 32 := by
  rcases (by omega : n = 0 ∨ n = 1 ∨ n = 2 ∨ n = 3 ∨ n = 4 ∨ n = 5) with rfl | rfl | rfl | rfl | rfl | rfl <;> decide
theorem fine_ok {s : List Int} (h : Good s) (c : api_Cap) : VM.run plainI (cspace_Fine.f c) s = some (decide (Fine s c), s) := by
  unfold cspace_Fine.f
  rw [runB, runC]
  by_cases h1 : c.Kind = 2
  · have e1 : (c.Kind != 2) = false := by simp [h1]
    rw [e1, cond_false, runB, is_ok h c.Obj 2 (by decide)]
    simp only [Option.bind_some, runR]
    by_cases h2 : fld s c.Obj 0 = 2
    · simp only [h2, decide_true, Bool.not_true, cond_false, runB, field_ok h, Option.bind_some, runC, runR]
      have h3 := fld_nn h c.Obj 2
      have h5 := fld_le s c.Obj 1
      have h6 := fld_nn h c.Obj 1
      by_cases h4 : fld s c.Obj 2 ≤ 5
      · obtain ⟨t1, t2, t3⟩ := two5 h3 h4
        simp only [decide_eq_true h4, cond_true, chk, decide_eq_true h3, runB, runO, Option.map_some, Option.bind_some, runR, t1]
        rw [w64_id (by omega) (by omega)]
        congr 2
        unfold Fine
        simp [h1, h2, h4]
      · simp only [decide_eq_false h4, cond_false]
        have : decide (Fine s c) = false := decide_eq_false (fun q => h4 q.2.2.1)
        rw [this]; rfl
    · have : decide (Fine s c) = false := decide_eq_false (fun q => h2 q.2.1)
      simp only [h2, decide_false, Bool.not_false, cond_true, this, runR]
  · have e1 : (c.Kind != 2) = true := by simpa using h1
    have : decide (Fine s c) = false := decide_eq_false (fun q => h1 q.1)
    rw [e1, cond_true, this]; rfl
theorem walk_rg {a l own b r : Int} (h : (walkOf a l own b r).2.2 = 0) : 0 ≤ (walkOf a l own b r).1 ∧ (walkOf a l own b r).1 < 2 ^ r.toNat ∧ (walkOf a l own b r).2.1 = l - b - r ∧ 0 ≤ b ∧ b ≤ 8 ∧ 0 ≤ r ∧ r ≤ 5 ∧ b + r ≤ l := by
  unfold walkOf at h ⊢
  split at h
  · rename_i q
    split at h
    · simp at h
    · split at h
      · simp at h
      · rename_i q2 q3
        rw [if_pos q, if_neg q2, if_neg q3]
        have e : topOf a (l - b) r = (a % 2 ^ (l - b).toNat / 2 ^ (l - b - r).toNat, 0) := by
          unfold topOf; rw [if_pos (by omega), if_neg (by omega)]
        rw [e]
        have p1 := pow_lo (l - b).toNat
        have p2 := pow_lo (l - b - r).toNat
        have m0 : 0 ≤ a % 2 ^ (l - b).toNat := Int.emod_nonneg _ (by omega)
        have m1 : a % 2 ^ (l - b).toNat < 2 ^ (l - b).toNat := Int.emod_lt_of_pos _ (by omega)
        refine ⟨Int.ediv_nonneg m0 (by omega), ?_, rfl, by omega, by omega, by omega, by omega, by omega⟩
        apply Int.ediv_lt_of_lt_mul (by omega)
        rw [← Int.pow_add, show r.toNat + (l - b - r).toNat = (l - b).toNat by omega]
        exact m1
  · simp at h
theorem eN_some {n : Int} : (eN n).isSome = decide (n ≠ 0) := by
  unfold eN; by_cases h : n = 0 <;> simp [h]
/-- What one step of a look-up comes to. -/
theorem look_step {s : List Int} (h : GoodU s) (a : Int) (k : Nat) (x left : Int) (c : api_Cap) (hx : 0 ≤ x ∧ x < 16) :
    VM.run plainI (cspace_Lookup.l1 a (k + 41) (x, left, c.Kind, c.Rights, c.Obj, c.Badge, c.Guard, c.Bits)) s =
      (let w := walkOf a left c.Guard c.Bits (fld s c.Obj 2)
       if w.2.2 ≠ 0 then some (Brk.ret (0, some w.2.2), s)
       else if w.2.1 = 0 then some (Brk.ret (w64 (fld s c.Obj 1 + w.1), none), s)
       else let d := capAt s (w64 (fld s c.Obj 1 + w.1))
         if Fine s d then VM.run plainI (cspace_Lookup.l1 a (k + 40) (x + 1, w.2.1, d.Kind, d.Rights, d.Obj, d.Badge, d.Guard, d.Bits)) s
         else some (Brk.nx (d.Kind, d.Rights, d.Obj, d.Badge, d.Guard, d.Bits), s)) := by
  conv => lhs; unfold cspace_Lookup.l1
  simp only [decide_eq_true hx.2, cond_true, runB, field_ok h.1, Option.bind_some, runO, walk_ok, Option.map_some, runC, runR, eN_some]
  generalize hw : walkOf a left c.Guard c.Bits (fld s c.Obj 2) = w
  by_cases h1 : w.2.2 = 0
  · simp only [h1, ne_eq, not_true, decide_false, cond_false, if_false]
    by_cases h2 : w.2.1 = 0
    · simp only [h2, beq_self_eq_true, cond_true, if_true]
    · have e : (w.2.1 == 0) = false := by simpa using h2
      simp only [e, cond_false, if_neg h2, cap_ok h, fine_ok h.1, Option.bind_some]
      by_cases h3 : Fine s (capAt s (w64 (fld s c.Obj 1 + w.1)))
      · rw [if_pos h3, decide_eq_true h3, Bool.not_true, cond_false, w64_id (x := x + 1) (by omega) (by omega)]
      · rw [if_neg h3, decide_eq_false h3, Bool.not_false, cond_true]
  · have e : eN w.2.2 = some w.2.2 := by unfold eN; rw [if_neg h1]
    simp only [ne_eq, h1, not_false_iff, decide_true, cond_true, if_true, e]
/-- A look-up of any words ends; what it finds is a slot. -/
theorem look_ends {s : List Int} (h : GoodU s) (a : Int) : ∀ (m k : Nat) (x left : Int) (c : api_Cap), 0 ≤ x → x ≤ 16 → 16 - x = m → Fine s c → ∃ r, VM.run plainI (cspace_Lookup.l1 a (m + k + 41) (x, left, c.Kind, c.Rights, c.Obj, c.Badge, c.Guard, c.Bits)) s = some (r, s) ∧ ∀ n, r = Brk.ret (n, none) → 0 ≤ n ∧ n ≤ 95 := by
  intro m
  induction m with
  | zero =>
    intro k x left c h0 h1 h2 hf
    obtain rfl : x = 16 := by omega
    rw [show 0 + k + 41 = (k + 40) + 1 by omega]
    refine ⟨Brk.nx (c.Kind, c.Rights, c.Obj, c.Badge, c.Guard, c.Bits), rfl, fun n e => by cases e⟩
  | succ m ih =>
    intro k x left c h0 h1 h2 hf
    rw [show m + 1 + k + 41 = (m + k + 1) + 41 by omega, look_step h a (m + k + 1) x left c ⟨h0, by omega⟩]
    simp only []
    by_cases h3 : (walkOf a left c.Guard c.Bits (fld s c.Obj 2)).2.2 = 0
    · obtain ⟨w1, w2, w3, w4⟩ := walk_rg h3
      obtain ⟨f1, f2, f3, f4⟩ := hf
      have f5 := fld_nn h.1 c.Obj 1
      rw [if_neg (fun q => q h3)]
      by_cases h4 : (walkOf a left c.Guard c.Bits (fld s c.Obj 2)).2.1 = 0
      · rw [if_pos h4]
        refine ⟨_, rfl, fun n e => ?_⟩
        injection e with e
        injection e with e
        rw [← e, w64_id (by omega) (by omega)]
        omega
      · rw [if_neg h4]
        by_cases h5 : Fine s (capAt s (w64 (fld s c.Obj 1 + (walkOf a left c.Guard c.Bits (fld s c.Obj 2)).1)))
        · rw [if_pos h5, show m + k + 1 + 40 = m + k + 41 by omega]
          exact ih k (x + 1) _ _ (by omega) (by omega) (by omega) h5
        · rw [if_neg h5]
          exact ⟨_, rfl, fun n e => by cases e⟩
    · rw [if_pos h3]
      refine ⟨_, rfl, fun n e => ?_⟩
      injection e with e
      injection e with _ e
      cases e
theorem lookup_ends {s : List Int} (h : GoodU s) (k : Nat) (c : api_Cap) (a : Int) : ∃ n e, VM.run plainI (cspace_Lookup.f (k + 100) c a) s = some ((n, e), s) ∧ (e = none → 0 ≤ n ∧ n ≤ 95 ∧ Fine s c) := by
  unfold cspace_Lookup.f
  by_cases h1 : 0 ≤ a ∧ a < 65536
  · have e1 : (decide (a < 0) || decide (65536 ≤ a)) = false := by simp; omega
    rw [e1, cond_false, runB, fine_ok h.1, Option.bind_some]
    by_cases h2 : Fine s c
    · rw [decide_eq_true h2, Bool.not_true, cond_false, runB]
      obtain ⟨r, hr, hn⟩ := look_ends h a 16 (k + 43) 0 16 c (by decide) (by decide) (by decide) h2
      rw [show 16 + (k + 43) + 41 = k + 100 by omega] at hr
      rw [hr, Option.bind_some]
      cases r with
      | ret q =>
        obtain ⟨n, e⟩ := q
        refine ⟨n, e, rfl, fun he => ?_⟩
        subst he
        have := hn n rfl
        exact ⟨this.1, this.2, h2⟩
      | nx q => exact ⟨0, some 4, rfl, fun he => by cases he⟩
    · rw [decide_eq_false h2, Bool.not_false, cond_true]
      exact ⟨0, some 5, rfl, fun he => by cases he⟩
  · have e1 : (decide (a < 0) || decide (65536 ≤ a)) = true := by
      rw [← Bool.not_eq_false]; simp; omega
    rw [e1, cond_true]
    exact ⟨0, some 1, rfl, fun he => by cases he⟩
end Go.Proofs
