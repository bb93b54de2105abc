/- The given statement 'PackBack' of the given program: whatever the input, the law answers true and the input reads as it did. On no condition. -/
import Derived.Test.YtnkgafjmladidaaFnPackBack0
import Derived.Test.YtnkgafjmladidaaSlLaw
import Derived.Test.YtnkgafjmladidaaPureCapPackBack
import Derived.Test.YtnkgafjmladidaaRows
set_option linter.all false
namespace Go.Proofs.Ytnkgafjmladidaa.packBack
open Go.ChangeShapes Go.WideShapes Go.ChangeAt Go.RowKit Go.Sl
def wf_api_Cap (x : api_Cap) : Prop := (fits .i64) x.Kind ∧ (fits .i64) x.Rights ∧ (fits .i64) x.Obj ∧ (fits .i64) x.Badge ∧ (fits .i64) x.Guard ∧ (fits .i64) x.Bits
theorem pa_api_Cap : Parse Try.prog 53 (fun x : api_Cap => [.int .i64 x.Kind, .int .i64 x.Rights, .int .i64 x.Obj, .int .i64 x.Badge, .int .i64 x.Guard, .int .i64 x.Bits]) wf_api_Cap := by
  intro H enc w base sp hd n cs x h
  obtain ⟨xs, m, -, -, hl, hx, hf⟩ := DataW.trod_struct Try.underlying53 h
  rw [show Try.prog.cellsOf 53 = 6 by kernel_rfl] at hl
  obtain ⟨a0, e0, w0⟩ := parse_field (i := 0) (o := 0) (sz := 1) hx hf (parse_int Try.underlying3) rfl rfl rfl (by kernel_rfl)
  obtain ⟨a1, e1, w1⟩ := parse_field (i := 1) (o := 1) (sz := 1) hx hf (parse_int Try.underlying3) rfl rfl rfl (by kernel_rfl)
  obtain ⟨a2, e2, w2⟩ := parse_field (i := 2) (o := 2) (sz := 1) hx hf (parse_int Try.underlying3) rfl rfl rfl (by kernel_rfl)
  obtain ⟨a3, e3, w3⟩ := parse_field (i := 3) (o := 3) (sz := 1) hx hf (parse_int Try.underlying3) rfl rfl rfl (by kernel_rfl)
  obtain ⟨a4, e4, w4⟩ := parse_field (i := 4) (o := 4) (sz := 1) hx hf (parse_int Try.underlying3) rfl rfl rfl (by kernel_rfl)
  obtain ⟨a5, e5, w5⟩ := parse_field (i := 5) (o := 5) (sz := 1) hx hf (parse_int Try.underlying3) rfl rfl rfl (by kernel_rfl)
  clear hf hx h
  match cs, hl with
  | [c0, c1, c2, c3, c4, c5], _ =>
    simp at e0 e1 e2 e3 e4 e5
    subst e0 e1 e2 e3 e4 e5
    exact ⟨⟨a0, a1, a2, a3, a4, a5⟩, rfl, w0, w1, w2, w3, w4, w5⟩

open Go.Proofs
theorem up02 : law02_up.f 40 = some true := by
  have h3 : CapMay ⟨3, 7, 1, 0, 0, 0⟩ := by unfold CapMay; decide
  have h4 : CapMay ⟨0, 0, 0, 0, 0, 0⟩ := by unfold CapMay; decide
  have h5 : ¬ CapMay ⟨9, 0, 0, 0, 0, 0⟩ := by unfold CapMay; decide
  obtain ⟨b1, e1, f1⟩ := may_pack ⟨0, 0, 0, 0, 0, 0⟩
  obtain ⟨b2, e2, f2⟩ := may_pack ⟨9, 0, 0, 0, 0, 0⟩
  have : b1 = true := f1.2 h4
  have : b2 = false := by cases b2 <;> simp_all
  subst_vars
  unfold law02_up.f
  rw [put_ok h3, get_ok (by decide) (by decide), if_neg (by decide)]
  simp [e1, e2, capWord]
theorem ok (a0 : api_Cap) (a1 : Int) (_w0 : wf_api_Cap a0) (w1 : (Lit.int .u64 a1).wf = true) : ∃ k, law02_PackBack.f k a0 a1 = some true := by
  refine ⟨40, ?_⟩
  obtain ⟨h0, h1⟩ := fits_u64 w1
  have tail : ∀ t2 : Bool, t2 = true → ((pack_Get.f 40 a1).bind fun (t21, t22) => bif t22.isSome then (some (t2 && (decide (t21 = (⟨0, 0, 0, 0, 0, 0⟩ : api_Cap))))) else ((pack_Put.f 40 t21).bind fun (t27, t28) => some ((t2 && t28.isNone) && (t27 == a1)))) = some true := by
    intro t2 ht
    rw [get_ok h0 h1]
    split
    · rename_i h
      simp only [Option.bind_some, put_ok h.2, capOf_word h0 h.1]
      simp [ht]
    · simp [ht]
  unfold law02_PackBack.f
  obtain ⟨b2, e2, f2⟩ := may_pack a0
  rw [up02, e2]
  cases b2 with
  | false =>
    rw [put_no (fun h => by simpa using f2.2 h)]
    simp only [Option.bind_some]
    simpa [Brk.go] using tail true rfl
  | true =>
    have hy := f2.1 rfl
    obtain ⟨e3, e4, e5, e6⟩ := word_capOf hy
    rw [put_ok hy]
    simp only [Option.bind_some]
    rw [get_ok e5 e6, e3, if_pos ⟨e4, hy⟩]
    simpa [Brk.go] using tail true rfl

theorem own : ownKnob Try.prog.godebug = none := by kernel_rfl
theorem laidOut : laidOutB Try.prog = true := by kernel_rfl
set_option maxRecDepth 100000 in
theorem lifted (os : Os) (started : os.Started) (H : Type) (enc : TypeId × Value → H) :
    ReturnsInHanded {} Try.checked os 8 .any (Rows.packBackSpec.pre6 enc Try.prog Try.f8 Rows.packBackRow.domain false) (Rows.packBackSpec.post enc Try.prog Try.f8 false true false false) := by
  refine returnsInHanded_of_change (C := Try.checked) own started (by kernel_rfl) Try.func8
    (ChangeSpec.witness6 (enc := enc) (C := Try.checked) false ⟨#[], #[.agg #[.int .i64 0, .int .i64 0, .int .i64 0, .int .i64 0, .int .i64 0, .int .i64 0], .int .u64 0], []⟩ 8 (by kernel_rfl) (by kernel_rfl) (by kernel_rfl) (by kernel_rfl)) ?_
  intro W base args ds gs before hval0 hW hcnd _
  have hval : ∀ (j : Nat) t v, Try.f8.params[j]? = some t → args[j]? = some v → Value.okWide Try.prog W .any base t v := hval0
  have hW' := hW
  obtain ⟨p, q, hA0, hV, rfl, hfz, hnd⟩ := hW
  have hA : DataW.TrodAll enc Try.prog W 0 (fun _ => true) true Try.f8.params.toList args.toList ds p := hA0
  rw [Try.params8] at hA hval
  obtain ⟨v0, vs0, d0, ds0, p0, q0, hargs, rfl, rfl, h0, r0⟩ := trodAll_cons hA
  obtain ⟨v1, vs1, d1, ds1, p1, q1, rfl, rfl, rfl, h1, r1⟩ := trodAll_cons r0
  obtain ⟨rfl, rfl, rfl⟩ := trodAll_nil r1
  obtain rfl : args = #[v0, v1] := by cases args; simp_all
  obtain ⟨rfl, rfl⟩ := trodVars_none hV
  obtain ⟨a0, rfl, w0⟩ := open_st pa_api_Cap Try.underlying53 (hval 0 53 v0 rfl rfl) h0
  obtain ⟨a1, rfl, rfl, rfl, w1⟩ := open_int Try.underlying27 (hval 1 27 v1 rfl rfl) h1
  obtain ⟨k, hk⟩ := ok a0 a1 w0 w1
  refine (Ct.law (law02_PackBack.ct _ a0 a1 _ hk) (W := W) trivial).mono fun e W' ⟨he, hg⟩ => ?_
  subst he
  exact ⟨_, rfl, law_post hW' laidOut (by kernel_rfl) hg (by kernel_rfl) Try.underlying4 rfl rfl⟩
theorem over : Rows.packBackRow.holds Try.pinned (OpenSpec.ofChange Rows.packBackSpec) :=
  OpenClaim.holds_of_wide 8 Try.f8 rfl rfl rfl rfl rfl rfl rfl ⟨rfl, rfl, rfl, rfl, rfl⟩ rfl rfl rfl rfl rfl (by kernel_rfl) Try.func8 (by kernel_rfl)
    (of_decide_eq_true (by kernel_rfl)) (by unfold Func.isWrapper; first | (rw [if_pos (by decide +kernel)]; kernel_rfl) | (rw [if_neg (by decide +kernel)]; exact ⟨rfl, rfl⟩))
    (fun os started H enc _ => lifted os started H enc)
theorem proved : Rows.PackBackSaid :=
  over
#print axioms proved
end Go.Proofs.Ytnkgafjmladidaa.packBack
