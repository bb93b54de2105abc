/- The given statement 'LayTells' of the given program: whatever the input, the law answers true and the input reads as it did. On no condition. -/
import Derived.Test.YtnkgafjmladidaaFnLayTells0
import Derived.Test.YtnkgafjmladidaaSlLaw
import Derived.Test.YtnkgafjmladidaaSlNum
import Derived.Test.YtnkgafjmladidaaRows
set_option linter.all false
namespace Go.Proofs.Ytnkgafjmladidaa.layTells
open Go.ChangeShapes Go.WideShapes Go.ChangeAt Go.RowKit Go.Sl
theorem ok (a0 a1 : Int) (w0 : (Lit.int .i64 a0).wf = true) (w1 : (Lit.int .i64 a1).wf = true) : ∃ _k : Nat, law09_LayTells.f a0 a1 = some true := by
  refine ⟨0, ?_⟩
  have hin : ∀ i n, lay_in.f i n = some (decide (0 ≤ i) && decide (i < n)) := by intro i n; unfold lay_in.f; first | rfl | simp
  have hS : ∀ a b, lay_Slot.f a b = some (if 0 ≤ a ∧ a < 96 ∧ 0 ≤ b ∧ b < 5 then (5 * a + b, true) else (0, false)) := by
    intro a b
    unfold lay_Slot.f
    simp only [hin]
    by_cases h1 : 0 ≤ a <;> by_cases h2 : a < 96 <;> by_cases h3 : 0 ≤ b <;> by_cases h4 : b < 5 <;> simp [h1, h2, h3, h4]
    rw [w64_id (x := a * 5) (by omega) (by omega), w64_id (by omega) (by omega)]; omega
  have hO : ∀ a b, lay_Obj.f a b = some (if 0 ≤ a ∧ a < 32 ∧ 0 ≤ b ∧ b < 8 then (480 + 8 * a + b, true) else (0, false)) := by
    intro a b
    unfold lay_Obj.f
    simp only [hin]
    by_cases h1 : 0 ≤ a <;> by_cases h2 : a < 32 <;> by_cases h3 : 0 ≤ b <;> by_cases h4 : b < 8 <;> simp [h1, h2, h3, h4]
    rw [w64_id (x := a * 8) (by omega) (by omega), w64_id (x := 480 + a * 8) (by omega) (by omega), w64_id (by omega) (by omega)]; omega
  have hU : law09_up.f = some true := by
    unfold law09_up.f
    simp [hS, hO, lay_Size.f]
    try rfl
  have e1 : 0 ≤ a0 → a0 < 96 → 0 ≤ a1 → a1 < 5 → w64 (w64 (5 * a0) + a1) = 5 * a0 + a1 := fun h1 h2 h3 h4 => by
    rw [w64_id (x := 5 * a0) (by omega) (by omega), w64_id (by omega) (by omega)]
  have e2 : 0 ≤ a0 → a0 < 32 → 0 ≤ a1 → a1 < 8 → w64 (w64 (480 + w64 (8 * a0)) + a1) = 480 + 8 * a0 + a1 := fun h1 h2 h3 h4 => by
    rw [w64_id (x := 8 * a0) (by omega) (by omega), w64_id (x := 480 + 8 * a0) (by omega) (by omega), w64_id (by omega) (by omega)]
  unfold law09_LayTells.f
  simp only [hU, hS, hO, Option.bind_some]
  by_cases h1 : 0 ≤ a0 <;> by_cases h2 : a0 < 96 <;> by_cases h3 : 0 ≤ a1 <;> by_cases h4 : a1 < 5 <;> by_cases h5 : a0 < 32 <;> by_cases h6 : a1 < 8 <;> simp [h1, h2, h3, h4, h5, h6]
  all_goals first | omega | (simp only [e1 h1 h2 h3 h4]; done) | (simp only [e2 h1 h5 h3 h6]; done) | (simp only [e1 h1 h2 h3 h4, e2 h1 h5 h3 h6]; done) | simp_all

theorem own : ownKnob Try.prog.godebug = none := by kernel_rfl
theorem laidOut : laidOutB Try.prog = true := by kernel_rfl

set_option maxRecDepth 100000 in
theorem lifted (os : Os) (started : os.Started) (H : Type) (enc : TypeId × Value → H) :
    ReturnsInHanded {} Try.checked os 3 .any (Rows.layTellsSpec.pre6 enc Try.prog Try.f3 Rows.layTellsRow.domain false) (Rows.layTellsSpec.post enc Try.prog Try.f3 false true false false) := by
  refine returnsInHanded_of_change (C := Try.checked) own started (by kernel_rfl) Try.func3
    (ChangeSpec.witness6 (enc := enc) (C := Try.checked) false ⟨#[], #[.int .i64 0, .int .i64 0], []⟩ 8 (by kernel_rfl) (by kernel_rfl) (by kernel_rfl) (by kernel_rfl)) ?_
  intro W base args ds gs before hval0 hW hcnd _
  have hval : ∀ (j : Nat) t v, Try.f3.params[j]? = some t → args[j]? = some v → Value.okWide Try.prog W .any base t v := hval0
  have hW' := hW
  obtain ⟨p, q, hA0, hV, rfl, hfz, hnd⟩ := hW
  have hA : DataW.TrodAll enc Try.prog W 0 (fun _ => true) true Try.f3.params.toList args.toList ds p := hA0
  rw [Try.params3] at hA hval
  obtain ⟨v0, vs0, d0, ds0, p0, q0, hargs, rfl, rfl, h0, r0⟩ := trodAll_cons hA
  obtain ⟨v1, vs1, d1, ds1, p1, q1, rfl, rfl, rfl, h1, r1⟩ := trodAll_cons r0
  obtain ⟨rfl, rfl, rfl⟩ := trodAll_nil r1
  obtain rfl : args = #[v0, v1] := by cases args; simp_all
  obtain ⟨rfl, rfl⟩ := trodVars_none hV
  obtain ⟨a0, rfl, rfl, rfl, w0⟩ := open_int Try.underlying3 (hval 0 3 v0 rfl rfl) h0
  obtain ⟨a1, rfl, rfl, rfl, w1⟩ := open_int Try.underlying3 (hval 1 3 v1 rfl rfl) h1
  obtain ⟨k, hk⟩ := ok a0 a1 w0 w1
  refine (Ct.law (law09_LayTells.ct a0 a1 _ hk) (W := W) trivial).mono fun e W' ⟨he, hg⟩ => ?_
  subst he
  exact ⟨_, rfl, law_post hW' laidOut (by kernel_rfl) hg (by kernel_rfl) Try.underlying4 rfl rfl⟩
theorem over : Rows.layTellsRow.holds Try.pinned (OpenSpec.ofChange Rows.layTellsSpec) :=
  OpenClaim.holds_of_wide 3 Try.f3 rfl rfl rfl rfl rfl rfl rfl ⟨rfl, rfl, rfl, rfl, rfl⟩ rfl rfl rfl rfl rfl (by kernel_rfl) Try.func3 (by kernel_rfl)
    (of_decide_eq_true (by kernel_rfl)) (by unfold Func.isWrapper; first | (rw [if_pos (by decide +kernel)]; kernel_rfl) | (rw [if_neg (by decide +kernel)]; exact ⟨rfl, rfl⟩))
    (fun os started H enc _ => lifted os started H enc)
theorem proved : Rows.LayTellsSaid :=
  over
#print axioms proved
end Go.Proofs.Ytnkgafjmladidaa.layTells
