/- The given statement 'UntypedCosts' of the given program: whatever the input, the law answers true and the input reads as it did. On no condition. -/
import Derived.Test.YtklkbgacjegplaaFnUntypedCosts2
import Derived.Test.YtklkbgacjegplaaSlLaw
import Derived.Test.YtklkbgacjegplaaSlBits
import Derived.Test.YtklkbgacjegplaaRows
set_option linter.all false
namespace Go.Proofs.Ytklkbgacjegplaa.untypedCosts
open Go.ChangeShapes Go.WideShapes Go.ChangeAt Go.RowKit Go.Sl

theorem cost_ok (k : Nat) (hk : 20 ≤ k) (b : Int) (h : 0 ≤ b ∧ b ≤ 8) : ref10_Cost.l1 b k (0, 1) = some (2 ^ b.toNat) := by
  obtain ⟨k, rfl⟩ : ∃ q, k = q + 20 := ⟨k - 20, by omega⟩
  rcases (by omega : b = 0 ∨ b = 1 ∨ b = 2 ∨ b = 3 ∨ b = 4 ∨ b = 5 ∨ b = 6 ∨ b = 7 ∨ b = 8) with rfl | rfl | rfl | rfl | rfl | rfl | rfl | rfl | rfl <;> rfl
theorem ok (a0 a1 : Int) (w0 : (Lit.int .i64 a0).wf = true) (w1 : (Lit.int .i64 a1).wf = true) : ∃ k, law13_UntypedCosts.f k a0 a1 = some true := by
  refine ⟨1000, ?_⟩
  have hu : law13_up.f 1000 = some true := by decide +kernel
  unfold law13_UntypedCosts.f untyped_Cost.f ref10_Cost.f
  rw [hu, Option.bind_some]
  by_cases h : 0 ≤ a1 ∧ a1 ≤ 8
  · rw [cost_ok 1000 (by decide) a1 h]
    have e1 : decide (a1 < 0) = false := decide_eq_false (by omega)
    have e2 : decide (8 < a1) = false := decide_eq_false (by omega)
    simp only [e1, e2, Bool.or_false, cond_false, Option.bind_some]
    have hc : chk (decide (0 ≤ a1)) = some () := by rw [decide_eq_true h.1]; rfl
    simp only [hc, Option.bind_some]
    rcases (by omega : a1 = 0 ∨ a1 = 1 ∨ a1 = 2 ∨ a1 = 3 ∨ a1 = 4 ∨ a1 = 5 ∨ a1 = 6 ∨ a1 = 7 ∨ a1 = 8) with rfl | rfl | rfl | rfl | rfl | rfl | rfl | rfl | rfl <;>
      (generalize (a0 == 1) = c1; generalize (a0 == 2) = c2; generalize decide (3 ≤ a0) = c3; generalize decide (a0 ≤ 7) = c4; revert c1 c2 c3 c4; decide +kernel)
  · by_cases h1 : a1 < 0
    · simp [h1]
    · have h2 : 8 < a1 := by omega
      have e2 : ¬ (a1 ≤ 8) := by omega
      have e3 : ¬ (a1 ≤ 5) := by omega
      have e4 : ¬ (a1 = 0) := by omega
      have e5 : (a1 == 0) = false := by simpa using e4
      simp [h1, h2, e2, e3, e5]

theorem own : ownKnob Try.prog.godebug = none := by kernel_rfl
theorem laidOut : laidOutB Try.prog = true := by kernel_rfl
set_option maxRecDepth 100000 in
theorem lifted (os : Os) (started : os.Started) (H : Type) (enc : TypeId × Value → H) :
    ReturnsInHanded {} Try.checked os 4 .any (Rows.untypedCostsSpec.pre6 enc Try.prog Try.f4 Rows.untypedCostsRow.domain false) (Rows.untypedCostsSpec.post enc Try.prog Try.f4 false true false false) := by
  refine returnsInHanded_of_change (C := Try.checked) own started (by kernel_rfl) Try.func4
    (ChangeSpec.witness6 (enc := enc) (C := Try.checked) false ⟨#[], #[.int .i64 0, .int .i64 0], []⟩ 8 (by kernel_rfl) (by kernel_rfl) (by kernel_rfl) (by kernel_rfl)) ?_
  intro W base args ds gs before hval0 hW hcnd _
  have hval : ∀ (j : Nat) t v, Try.f4.params[j]? = some t → args[j]? = some v → Value.okWide Try.prog W .any base t v := hval0
  have hW' := hW
  obtain ⟨p, q, hA0, hV, rfl, hfz, hnd⟩ := hW
  have hA : DataW.TrodAll enc Try.prog W 0 (fun _ => true) true Try.f4.params.toList args.toList ds p := hA0
  rw [Try.params4] at hA hval
  obtain ⟨v0, vs0, d0, ds0, p0, q0, hargs, rfl, rfl, h0, r0⟩ := trodAll_cons hA
  obtain ⟨v1, vs1, d1, ds1, p1, q1, rfl, rfl, rfl, h1, r1⟩ := trodAll_cons r0
  obtain ⟨rfl, rfl, rfl⟩ := trodAll_nil r1
  obtain rfl : args = #[v0, v1] := by cases args; simp_all
  obtain ⟨rfl, rfl⟩ := trodVars_none hV
  obtain ⟨a0, rfl, rfl, rfl, w0⟩ := open_int Try.underlying3 (hval 0 3 v0 rfl rfl) h0
  obtain ⟨a1, rfl, rfl, rfl, w1⟩ := open_int Try.underlying3 (hval 1 3 v1 rfl rfl) h1
  obtain ⟨k, hk⟩ := ok a0 a1 w0 w1
  refine (Ct.law (law13_UntypedCosts.ct _ a0 a1 _ hk) (W := W) trivial).mono fun e W' ⟨he, hg⟩ => ?_
  subst he
  exact ⟨_, rfl, law_post hW' laidOut (by kernel_rfl) hg (by kernel_rfl) Try.underlying4 rfl rfl⟩
theorem over : Rows.untypedCostsRow.holds Try.pinned (OpenSpec.ofChange Rows.untypedCostsSpec) :=
  OpenClaim.holds_of_wide 4 Try.f4 rfl rfl rfl rfl rfl rfl rfl ⟨rfl, rfl, rfl, rfl, rfl⟩ rfl rfl rfl rfl rfl (by kernel_rfl) Try.func4 (by kernel_rfl)
    (of_decide_eq_true (by kernel_rfl)) (by unfold Func.isWrapper; first | (rw [if_pos (by decide +kernel)]; kernel_rfl) | (rw [if_neg (by decide +kernel)]; exact ⟨rfl, rfl⟩))
    (fun os started H enc _ => lifted os started H enc)
theorem proved : Rows.UntypedCostsSaid :=
  over
#print axioms proved
end Go.Proofs.Ytklkbgacjegplaa.untypedCosts
