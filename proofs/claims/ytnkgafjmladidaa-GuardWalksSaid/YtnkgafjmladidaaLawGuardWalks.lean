/- The given statement 'GuardWalks' of the given program: whatever the input, the law answers true and the input reads as it did. On no condition. -/
import Derived.Test.YtnkgafjmladidaaFnGuardWalks0
import Derived.Test.YtnkgafjmladidaaSlLaw
import Derived.Test.YtnkgafjmladidaaPureGuardGuardWalks
import Derived.Test.YtnkgafjmladidaaRows
set_option linter.all false
namespace Go.Proofs.Ytnkgafjmladidaa.guardWalks
open Go.ChangeShapes Go.WideShapes Go.ChangeAt Go.RowKit Go.Sl

open Go.Proofs
theorem up04 : law04_up.f 40 = some true := by decide +kernel
theorem code_ok {n : Int} (h : n = 0 ∨ n = 1 ∨ n = 3 ∨ n = 4) : law00_Code.f 40 (eN n) = some n := by
  rcases h with rfl | rfl | rfl | rfl <;> decide +kernel
theorem top_n (a l b : Int) : (topOf a l b).2 = 0 ∨ (topOf a l b).2 = 1 ∨ (topOf a l b).2 = 3 ∨ (topOf a l b).2 = 4 := by
  unfold topOf; split
  · split <;> simp
  · simp
theorem walk_n (a l o b r : Int) : (walkOf a l o b r).2.2 = 0 ∨ (walkOf a l o b r).2.2 = 1 ∨ (walkOf a l o b r).2.2 = 3 ∨ (walkOf a l o b r).2.2 = 4 := by
  unfold walkOf; split
  · split
    · simp
    · split <;> simp
  · simp
theorem ok (a0 a1 a2 a3 a4 : Int) (_w0 : (Lit.int .i64 a0).wf = true) (_w1 : (Lit.int .i64 a1).wf = true) (_w2 : (Lit.int .i64 a2).wf = true) (_w3 : (Lit.int .i64 a3).wf = true) (_w4 : (Lit.int .i64 a4).wf = true) : ∃ k, law04_GuardWalks.f k a0 a1 a2 a3 a4 = some true := by
  refine ⟨40, ?_⟩
  unfold law04_GuardWalks.f
  rw [up04, walk_ok, rwalk_ok, top_ok, rtop_ok]
  simp only [Option.bind_some, code_ok (walk_n _ _ _ _ _), code_ok (top_n _ _ _)]
  simp

theorem own : ownKnob Try.prog.godebug = none := by kernel_rfl
theorem laidOut : laidOutB Try.prog = true := by kernel_rfl
set_option maxRecDepth 100000 in
theorem lifted (os : Os) (started : os.Started) (H : Type) (enc : TypeId × Value → H) :
    ReturnsInHanded {} Try.checked os 9 .any (Rows.guardWalksSpec.pre6 enc Try.prog Try.f9 Rows.guardWalksRow.domain false) (Rows.guardWalksSpec.post enc Try.prog Try.f9 false true false false) := by
  refine returnsInHanded_of_change (C := Try.checked) own started (by kernel_rfl) Try.func9
    (ChangeSpec.witness6 (enc := enc) (C := Try.checked) false ⟨#[], #[.int .i64 0, .int .i64 0, .int .i64 0, .int .i64 0, .int .i64 0], []⟩ 8 (by kernel_rfl) (by kernel_rfl) (by kernel_rfl) (by kernel_rfl)) ?_
  intro W base args ds gs before hval0 hW hcnd _
  have hval : ∀ (j : Nat) t v, Try.f9.params[j]? = some t → args[j]? = some v → Value.okWide Try.prog W .any base t v := hval0
  have hW' := hW
  obtain ⟨p, q, hA0, hV, rfl, hfz, hnd⟩ := hW
  have hA : DataW.TrodAll enc Try.prog W 0 (fun _ => true) true Try.f9.params.toList args.toList ds p := hA0
  rw [Try.params9] at hA hval
  obtain ⟨v0, vs0, d0, ds0, p0, q0, hargs, rfl, rfl, h0, r0⟩ := trodAll_cons hA
  obtain ⟨v1, vs1, d1, ds1, p1, q1, rfl, rfl, rfl, h1, r1⟩ := trodAll_cons r0
  obtain ⟨v2, vs2, d2, ds2, p2, q2, rfl, rfl, rfl, h2, r2⟩ := trodAll_cons r1
  obtain ⟨v3, vs3, d3, ds3, p3, q3, rfl, rfl, rfl, h3, r3⟩ := trodAll_cons r2
  obtain ⟨v4, vs4, d4, ds4, p4, q4, rfl, rfl, rfl, h4, r4⟩ := trodAll_cons r3
  obtain ⟨rfl, rfl, rfl⟩ := trodAll_nil r4
  obtain rfl : args = #[v0, v1, v2, v3, v4] := by cases args; simp_all
  obtain ⟨rfl, rfl⟩ := trodVars_none hV
  obtain ⟨a0, rfl, rfl, rfl, w0⟩ := open_int Try.underlying3 (hval 0 3 v0 rfl rfl) h0
  obtain ⟨a1, rfl, rfl, rfl, w1⟩ := open_int Try.underlying3 (hval 1 3 v1 rfl rfl) h1
  obtain ⟨a2, rfl, rfl, rfl, w2⟩ := open_int Try.underlying3 (hval 2 3 v2 rfl rfl) h2
  obtain ⟨a3, rfl, rfl, rfl, w3⟩ := open_int Try.underlying3 (hval 3 3 v3 rfl rfl) h3
  obtain ⟨a4, rfl, rfl, rfl, w4⟩ := open_int Try.underlying3 (hval 4 3 v4 rfl rfl) h4
  obtain ⟨k, hk⟩ := ok a0 a1 a2 a3 a4 w0 w1 w2 w3 w4
  refine (Ct.law (law04_GuardWalks.ct _ a0 a1 a2 a3 a4 _ hk) (W := W) trivial).mono fun e W' ⟨he, hg⟩ => ?_
  subst he
  exact ⟨_, rfl, law_post hW' laidOut (by kernel_rfl) hg (by kernel_rfl) Try.underlying4 rfl rfl⟩
theorem over : Rows.guardWalksRow.holds Try.pinned (OpenSpec.ofChange Rows.guardWalksSpec) :=
  OpenClaim.holds_of_wide 9 Try.f9 rfl rfl rfl rfl rfl rfl rfl ⟨rfl, rfl, rfl, rfl, rfl⟩ rfl rfl rfl rfl rfl (by kernel_rfl) Try.func9 (by kernel_rfl)
    (of_decide_eq_true (by kernel_rfl)) (by unfold Func.isWrapper; first | (rw [if_pos (by decide +kernel)]; kernel_rfl) | (rw [if_neg (by decide +kernel)]; exact ⟨rfl, rfl⟩))
    (fun os started H enc _ => lifted os started H enc)
theorem proved : Rows.GuardWalksSaid :=
  over
#print axioms proved
end Go.Proofs.Ytnkgafjmladidaa.guardWalks
