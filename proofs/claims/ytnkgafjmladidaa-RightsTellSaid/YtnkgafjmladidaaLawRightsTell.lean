/- The given statement 'RightsTell' of the given program: whatever the input, the law answers true and the input reads as it did. On no condition. -/
import Derived.Test.YtnkgafjmladidaaFnRightsTell1
import Derived.Test.YtnkgafjmladidaaSlLaw
import Derived.Test.YtnkgafjmladidaaPureRightsRightsTell
import Derived.Test.YtnkgafjmladidaaRows
set_option linter.all false
namespace Go.Proofs.Ytnkgafjmladidaa.rightsTell
open Go.ChangeShapes Go.WideShapes Go.ChangeAt Go.RowKit Go.Sl
def wf_api_Cap (x : api_Cap) : Prop := (fits .i64) x.Kind ∧ (fits .i64) x.Rights ∧ (fits .i64) x.Obj ∧ (fits .i64) x.Badge ∧ (fits .i64) x.Guard ∧ (fits .i64) x.Bits
theorem pa_api_Cap : Parse Try.prog 53 (fun x : api_Cap => [.int .i64 x.Kind, .int .i64 x.Rights, .int .i64 x.Obj, .int .i64 x.Badge, .int .i64 x.Guard, .int .i64 x.Bits]) wf_api_Cap := by
  intro H enc w base sp hd n cs x h
  obtain ⟨xs, m, -, -, hl, hx, hf⟩ := DataW.trod_struct Try.underlying53 h
  rw [show Try.prog.cellsOf 53 = 6 by kernel_rfl] at hl
  obtain ⟨a0, e0, w0⟩ := parse_field (i := 0) (o := 0) (sz := 1) hx hf (parse_int Try.underlying3) rfl rfl rfl (by kernel_rfl)
  obtain ⟨a1, e1, w1⟩ := parse_field (i := 1) (o := 1) (sz := 1) hx hf (parse_int Try.underlying3) rfl rfl rfl (by kernel_rfl)
  obtain ⟨a2, e2, w2⟩ := parse_field (i := 2) (o := 2) (sz := 1) hx hf (parse_int Try.underlying3) rfl rfl rfl (by kernel_rfl)
  obtain ⟨a3, e3, w3⟩ := parse_field (i := 3) (o := 3) (sz := 1) hx hf (parse_int Try.underlying3) rfl rfl rfl (by kernel_rfl)
  obtain ⟨a4, e4, w4⟩ := parse_field (i := 4) (o := 4) (sz := 1) hx hf (parse_int Try.underlying3) rfl rfl rfl (by kernel_rfl)
  obtain ⟨a5, e5, w5⟩ := parse_field (i := 5) (o := 5) (sz := 1) hx hf (parse_int Try.underlying3) rfl rfl rfl (by kernel_rfl)
  clear hf hx h
  match cs, hl with
  | [c0, c1, c2, c3, c4, c5], _ =>
    simp at e0 e1 e2 e3 e4 e5
    subst e0 e1 e2 e3 e4 e5
    exact ⟨⟨a0, a1, a2, a3, a4, a5⟩, rfl, w0, w1, w2, w3, w4, w5⟩

open Go.Proofs
theorem code_ok {n : Int} (h : n = 0 ∨ n = 1 ∨ n = 5 ∨ n = 10) : law00_Code.f 40 (eOf n) = some n := by
  rcases h with rfl | rfl | rfl | rfl <;> decide
theorem drv_n (c : api_Cap) (m : Int) : (drv c m).2 = 0 ∨ (drv c m).2 = 1 ∨ (drv c m).2 = 5 ∨ (drv c m).2 = 10 := by
  unfold drv; split
  · split <;> simp
  · simp
theorem mnt_n (c : api_Cap) (m b : Int) : (mnt c m b).2 = 0 ∨ (mnt c m b).2 = 1 ∨ (mnt c m b).2 = 5 ∨ (mnt c m b).2 = 10 := by
  unfold mnt; split
  · split
    · simp
    · split <;> simp
  · simp
theorem up03 : law03_up.f = some true := by
  have h3 : CapMay ⟨3, 7, 1, 0, 0, 0⟩ := by unfold CapMay; decide
  have e1 : drv ⟨3, 7, 1, 0, 0, 0⟩ 3 = (⟨3, 3, 1, 0, 0, 0⟩, 0) := by
    unfold drv
    rw [if_pos ⟨by decide, h3, by decide⟩, if_neg (by decide)]
    rw [show band .i64 (⟨3, 7, 1, 0, 0, 0⟩ : api_Cap).Rights 3 = 3 by decide +kernel]
  have e2 : mnt ⟨3, 7, 1, 0, 0, 0⟩ 3 0 = (⟨0, 0, 0, 0, 0, 0⟩, 1) := by
    unfold mnt
    rw [if_neg (fun h => by have := h.2.2.2.2.1; revert this; decide)]
  unfold law03_up.f
  rw [derive_ok, mint_ok, e1, e2]
  unfold rights_Has.f rights_Within.f
  decide +kernel
theorem ok (a0 a1 : api_Cap) (a2 a3 a4 a5 : Int) (_w0 : wf_api_Cap a0) (_w1 : wf_api_Cap a1) (_w2 : (Lit.int .i64 a2).wf = true) (_w3 : (Lit.int .i64 a3).wf = true) (_w4 : (Lit.int .i64 a4).wf = true) (_w5 : (Lit.int .i64 a5).wf = true) : ∃ k, law03_RightsTell.f k a0 a1 a2 a3 a4 a5 = some true := by
  refine ⟨40, ?_⟩
  obtain ⟨x, n, m1, m2, m3⟩ := mutate_ok a0 a4 a5
  obtain ⟨b, hb, hb2⟩ := may_ref a0
  obtain ⟨b', hb', hb2'⟩ := may_ref a1
  unfold law03_RightsTell.f
  rw [up03, derive_ok, mint_ok, m1, rderive_ok, rmint_ok, m2, hb, hb']
  simp only [Option.bind_some, code_ok (drv_n a0 a2), code_ok (mnt_n a0 a2 a3), code_ok (show n = 0 ∨ n = 1 ∨ n = 5 ∨ n = 10 by omega)]
  simp only [bne_self_eq_false, cond_false, Option.bind_some, decide_true, Bool.not_true, cond_true]
  by_cases h : CapMay a0 ∧ CapMay a1 ∧ 0 ≤ a2 ∧ a2 ≤ 7
  · obtain ⟨p, q, r, s⟩ := h
    rw [hb2.2 p, hb2'.2 q]
    have p' := p
    have q' := q
    obtain ⟨-, -, p1, p2, -⟩ := p'
    obtain ⟨-, -, q1, q2, -⟩ := q'
    have d1 : decide (a2 < 0) = false := by simpa using r
    have d2 : decide (7 < a2) = false := by simpa using s
    unfold rights_Has.f ref01_Has.f rights_Within.f ref01_Within.f
    rw [both_ok p1 p2 r s, both_ok p1 p2 q1 q2, bclr_band p1 p2 q1 q2]
    simp only [d1, d2, Bool.not_true, Bool.or_self, cond_false, Option.bind_some, beq_self_eq_true, cond_true]
    by_cases c1 : a0.Kind = a1.Kind <;> by_cases c2 : a0.Obj = a1.Obj <;> by_cases c3 : band .i64 a0.Rights a1.Rights = a0.Rights <;> by_cases c4 : a1.Badge = 0 <;> simp [c1, c2, c3, c4, Bool.cond_eq_ite]
  · have : ((((!b) || (!b')) || (decide (a2 < 0))) || (decide (7 < a2))) = true := by
      cases b with
      | false => simp
      | true =>
        cases b' with
        | false => simp
        | true =>
          have hn : ¬ (0 ≤ a2 ∧ a2 ≤ 7) := fun x => h ⟨hb2.1 rfl, hb2'.1 rfl, x⟩
          have : (decide (a2 < 0) || decide (7 < a2)) = true := by simp; omega
          simpa using this
    rw [this]; rfl

theorem own : ownKnob Try.prog.godebug = none := by kernel_rfl
theorem laidOut : laidOutB Try.prog = true := by kernel_rfl
set_option maxRecDepth 100000 in
theorem lifted (os : Os) (started : os.Started) (H : Type) (enc : TypeId × Value → H) :
    ReturnsInHanded {} Try.checked os 15 .any (Rows.rightsTellSpec.pre6 enc Try.prog Try.f15 Rows.rightsTellRow.domain false) (Rows.rightsTellSpec.post enc Try.prog Try.f15 false true false false) := by
  refine returnsInHanded_of_change (C := Try.checked) own started (by kernel_rfl) Try.func15
    (ChangeSpec.witness6 (enc := enc) (C := Try.checked) false ⟨#[], #[.agg #[.int .i64 0, .int .i64 0, .int .i64 0, .int .i64 0, .int .i64 0, .int .i64 0], .agg #[.int .i64 0, .int .i64 0, .int .i64 0, .int .i64 0, .int .i64 0, .int .i64 0], .int .i64 0, .int .i64 0, .int .i64 0, .int .i64 0], []⟩ 8 (by kernel_rfl) (by kernel_rfl) (by kernel_rfl) (by kernel_rfl)) ?_
  intro W base args ds gs before hval0 hW hcnd _
  have hval : ∀ (j : Nat) t v, Try.f15.params[j]? = some t → args[j]? = some v → Value.okWide Try.prog W .any base t v := hval0
  have hW' := hW
  obtain ⟨p, q, hA0, hV, rfl, hfz, hnd⟩ := hW
  have hA : DataW.TrodAll enc Try.prog W 0 (fun _ => true) true Try.f15.params.toList args.toList ds p := hA0
  rw [Try.params15] at hA hval
  obtain ⟨v0, vs0, d0, ds0, p0, q0, hargs, rfl, rfl, h0, r0⟩ := trodAll_cons hA
  obtain ⟨v1, vs1, d1, ds1, p1, q1, rfl, rfl, rfl, h1, r1⟩ := trodAll_cons r0
  obtain ⟨v2, vs2, d2, ds2, p2, q2, rfl, rfl, rfl, h2, r2⟩ := trodAll_cons r1
  obtain ⟨v3, vs3, d3, ds3, p3, q3, rfl, rfl, rfl, h3, r3⟩ := trodAll_cons r2
  obtain ⟨v4, vs4, d4, ds4, p4, q4, rfl, rfl, rfl, h4, r4⟩ := trodAll_cons r3
  obtain ⟨v5, vs5, d5, ds5, p5, q5, rfl, rfl, rfl, h5, r5⟩ := trodAll_cons r4
  obtain ⟨rfl, rfl, rfl⟩ := trodAll_nil r5
  obtain rfl : args = #[v0, v1, v2, v3, v4, v5] := by cases args; simp_all
  obtain ⟨rfl, rfl⟩ := trodVars_none hV
  obtain ⟨a0, rfl, w0⟩ := open_st pa_api_Cap Try.underlying53 (hval 0 53 v0 rfl rfl) h0
  obtain ⟨a1, rfl, w1⟩ := open_st pa_api_Cap Try.underlying53 (hval 1 53 v1 rfl rfl) h1
  obtain ⟨a2, rfl, rfl, rfl, w2⟩ := open_int Try.underlying3 (hval 2 3 v2 rfl rfl) h2
  obtain ⟨a3, rfl, rfl, rfl, w3⟩ := open_int Try.underlying3 (hval 3 3 v3 rfl rfl) h3
  obtain ⟨a4, rfl, rfl, rfl, w4⟩ := open_int Try.underlying3 (hval 4 3 v4 rfl rfl) h4
  obtain ⟨a5, rfl, rfl, rfl, w5⟩ := open_int Try.underlying3 (hval 5 3 v5 rfl rfl) h5
  obtain ⟨k, hk⟩ := ok a0 a1 a2 a3 a4 a5 w0 w1 w2 w3 w4 w5
  refine (Ct.law (law03_RightsTell.ct _ a0 a1 a2 a3 a4 a5 _ hk) (W := W) trivial).mono fun e W' ⟨he, hg⟩ => ?_
  subst he
  exact ⟨_, rfl, law_post hW' laidOut (by kernel_rfl) hg (by kernel_rfl) Try.underlying4 rfl rfl⟩
theorem over : Rows.rightsTellRow.holds Try.pinned (OpenSpec.ofChange Rows.rightsTellSpec) :=
  OpenClaim.holds_of_wide 15 Try.f15 rfl rfl rfl rfl rfl rfl rfl ⟨rfl, rfl, rfl, rfl, rfl⟩ rfl rfl rfl rfl rfl (by kernel_rfl) Try.func15 (by kernel_rfl)
    (of_decide_eq_true (by kernel_rfl)) (by unfold Func.isWrapper; first | (rw [if_pos (by decide +kernel)]; kernel_rfl) | (rw [if_neg (by decide +kernel)]; exact ⟨rfl, rfl⟩))
    (fun os started H enc _ => lifted os started H enc)
theorem proved : Rows.RightsTellSaid :=
  over
#print axioms proved
end Go.Proofs.Ytnkgafjmladidaa.rightsTell
