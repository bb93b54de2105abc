/- The given statement 'CallTells' of the given program: whatever the input, the law answers true and the input reads as it did. On no condition. -/
import Derived.Test.YtnkgafjmladidaaFnCallTells0
import Derived.Test.YtnkgafjmladidaaSlLaw
import Derived.Test.YtnkgafjmladidaaPureCallCallTells
import Derived.Test.YtnkgafjmladidaaRows
set_option linter.all false
namespace Go.Proofs.Ytnkgafjmladidaa.callTells
open Go.ChangeShapes Go.WideShapes Go.ChangeAt Go.RowKit Go.Sl
def wf_api_Call (x : api_Call) : Prop := (fits .i64) x.Op ∧ (fits .i64) x.Cap ∧ (fits .i64) x.A ∧ (fits .i64) x.B ∧ (fits .i64) x.C ∧ (fits .i64) x.D
theorem pa_api_Call : Parse Try.prog 42 (fun x : api_Call => [.int .i64 x.Op, .int .i64 x.Cap, .int .i64 x.A, .int .i64 x.B, .int .i64 x.C, .int .i64 x.D]) wf_api_Call := by
  intro H enc w base sp hd n cs x h
  obtain ⟨xs, m, -, -, hl, hx, hf⟩ := DataW.trod_struct Try.underlying42 h
  rw [show Try.prog.cellsOf 42 = 6 by kernel_rfl] at hl
  obtain ⟨a0, e0, w0⟩ := parse_field (i := 0) (o := 0) (sz := 1) hx hf (parse_int Try.underlying3) rfl rfl rfl (by kernel_rfl)
  obtain ⟨a1, e1, w1⟩ := parse_field (i := 1) (o := 1) (sz := 1) hx hf (parse_int Try.underlying3) rfl rfl rfl (by kernel_rfl)
  obtain ⟨a2, e2, w2⟩ := parse_field (i := 2) (o := 2) (sz := 1) hx hf (parse_int Try.underlying3) rfl rfl rfl (by kernel_rfl)
  obtain ⟨a3, e3, w3⟩ := parse_field (i := 3) (o := 3) (sz := 1) hx hf (parse_int Try.underlying3) rfl rfl rfl (by kernel_rfl)
  obtain ⟨a4, e4, w4⟩ := parse_field (i := 4) (o := 4) (sz := 1) hx hf (parse_int Try.underlying3) rfl rfl rfl (by kernel_rfl)
  obtain ⟨a5, e5, w5⟩ := parse_field (i := 5) (o := 5) (sz := 1) hx hf (parse_int Try.underlying3) rfl rfl rfl (by kernel_rfl)
  clear hf hx h
  match cs, hl with
  | [c0, c1, c2, c3, c4, c5], _ =>
    simp at e0 e1 e2 e3 e4 e5
    subst e0 e1 e2 e3 e4 e5
    exact ⟨⟨a0, a1, a2, a3, a4, a5⟩, rfl, w0, w1, w2, w3, w4, w5⟩

open Go.Proofs
theorem up20 : law20_up.f = some true := by decide +kernel
theorem tl (l : List Int) (w : ∀ x ∈ l, fits .u64 x) : ((call_Get.f l).bind fun (t29, t30) => bif (l.length : Int) != 3 then (some ((true && (t30 == some 1)) && (decide (t29 = (⟨0, 0, 0, 0, 0, 0⟩ : api_Call))))) else ((at_ l 0).bind fun x37 => (bif decide (x37 < 16777216) then ((at_ l 0).bind fun x40 => (at_ l 0).bind fun x42 => (at_ l 1).bind fun x44 => (at_ l 1).bind fun x46 => (at_ l 2).bind fun x48 => (at_ l 2).bind fun x50 => (ref10_May.f (⟨w64 (x40.tmod 256), w64 (wu64 (x42.tdiv 256)), w64 (x44.tmod 4294967296), w64 (wu64 (x46.tdiv 4294967296)), w64 (x48.tmod 4294967296), w64 (wu64 (x50.tdiv 4294967296))⟩ : api_Call)).bind fun t52 => some (t52, w64 (x40.tmod 256), w64 (wu64 (x42.tdiv 256)), w64 (x44.tmod 4294967296), w64 (wu64 (x46.tdiv 4294967296)), w64 (x48.tmod 4294967296), w64 (wu64 (x50.tdiv 4294967296)))) else (some (decide (x37 < 16777216), 0, 0, 0, 0, 0, 0))).bind fun (j12_3, y36_0_3, y36_1_3, y36_2_3, y36_3_3, y36_4_3, y36_5_3) => bif !j12_3 then ((bif true && (t30 == some 1) then (some (decide (t29 = (⟨0, 0, 0, 0, 0, 0⟩ : api_Call)))) else (some false)).bind fun c58 => some c58) else (some ((true && t30.isNone) && (decide (t29 = (⟨y36_0_3, y36_1_3, y36_2_3, y36_3_3, y36_4_3, y36_5_3⟩ : api_Call))))))) = some true := by
  by_cases hl : l.length = 3
  · match l, hl with
    | [a, b, c], _ =>
      have ha := fits_u64 (w a (by simp))
      have hb := fits_u64 (w b (by simp))
      have hc := fits_u64 (w c (by simp))
      have f0 : (([a, b, c].length : Int) != 3) = false := rfl
      have g0 : at_ [a, b, c] 0 = some a := rfl
      have g1 : at_ [a, b, c] 1 = some b := rfl
      have g2 : at_ [a, b, c] 2 = some c := rfl
      rw [cget_ok ha hb hc]
      simp only [f0, g0, g1, g2, Option.bind_some, cond_false]
      rw [Int.tdiv_eq_ediv_of_nonneg ha.1, Int.tdiv_eq_ediv_of_nonneg hb.1, Int.tdiv_eq_ediv_of_nonneg hc.1, Int.tmod_eq_emod_of_nonneg ha.1, Int.tmod_eq_emod_of_nonneg hb.1, Int.tmod_eq_emod_of_nonneg hc.1]
      by_cases h : a < 16777216
      · rw [wu64_id (x := a / 256) (by omega) (by omega), wu64_id (x := b / 4294967296) (by omega) (by omega), wu64_id (x := c / 4294967296) (by omega) (by omega)]
        rw [w64_id (x := a % 256) (by omega) (by omega), w64_id (x := a / 256) (by omega) (by omega), w64_id (x := b % 4294967296) (by omega) (by omega), w64_id (x := b / 4294967296) (by omega) (by omega), w64_id (x := c % 4294967296) (by omega) (by omega), w64_id (x := c / 4294967296) (by omega) (by omega)]
        have hr : (⟨a % 256, a / 256, b % 4294967296, b / 4294967296, c % 4294967296, c / 4294967296⟩ : api_Call) = clOf a b c := rfl
        simp only [decide_eq_true h, cond_true]
        rw [hr, crmay_ok]
        by_cases hm : ClMay (clOf a b c)
        · rw [if_pos ⟨h, hm⟩, decide_eq_true hm]
          simp [hr]
        · rw [if_neg (fun x => hm x.2), decide_eq_false hm]
          simp
      · rw [if_neg (fun x => h x.1)]
        simp only [decide_eq_false h, cond_false]
        simp
  · have f0 : ((l.length : Int) != 3) = true := by simp; omega
    rw [cget_no hl]
    simp [f0]
theorem ok (a0 : api_Call) (a1 : List Int) (_w0 : wf_api_Call a0) (w1 : ∀ x ∈ a1, fits .u64 x) : ∃ _k : Nat, law20_CallTells.f a0 a1 = some true := by
  refine ⟨0, ?_⟩
  unfold law20_CallTells.f
  rw [up20, crmay_ok, cput_ok, cmay_ok]
  by_cases hl : 100 < (a1.length : Int)
  · simp [hl]
  have f1 : decide (100 < (a1.length : Int)) = false := by simpa using hl
  simp only [f1, cond_false, Option.bind_some, bne_self_eq_false]
  by_cases h : ClMay a0
  · rw [if_pos h, decide_eq_true h]
    have hh := h
    obtain ⟨h1, h2, h3, h4, h5, h6, h7, h8, h9, h10, h11, h12⟩ := hh
    have e0 : wu64 (wu64 a0.Op + wu64 (256 * wu64 a0.Cap)) = cl0 a0 := by
      rw [wu64_id (x := a0.Op) (by omega) (by omega), wu64_id (x := a0.Cap) (by omega) (by omega), wu64_id (x := 256 * a0.Cap) (by omega) (by omega), wu64_id (by omega) (by omega)]
      unfold cl0; omega
    have e1 : wu64 (wu64 a0.A + wu64 (4294967296 * wu64 a0.B)) = cl1 a0 := by
      rw [wu64_id (x := a0.A) (by omega) (by omega), wu64_id (x := a0.B) (by omega) (by omega), wu64_id (x := 4294967296 * a0.B) (by omega) (by omega), wu64_id (by omega) (by omega)]
      unfold cl1; omega
    have e2 : wu64 (wu64 a0.C + wu64 (4294967296 * wu64 a0.D)) = cl2 a0 := by
      rw [wu64_id (x := a0.C) (by omega) (by omega), wu64_id (x := a0.D) (by omega) (by omega), wu64_id (x := 4294967296 * a0.D) (by omega) (by omega), wu64_id (by omega) (by omega)]
      unfold cl2; omega
    have g0 : at_ [cl0 a0, cl1 a0, cl2 a0] 0 = some (cl0 a0) := rfl
    have g1 : at_ [cl0 a0, cl1 a0, cl2 a0] 1 = some (cl1 a0) := rfl
    have g2 : at_ [cl0 a0, cl1 a0, cl2 a0] 2 = some (cl2 a0) := rfl
    have gl : (([cl0 a0, cl1 a0, cl2 a0].length : Int) != 3) = false := rfl
    simp only [Bool.not_true, cond_false, Option.isSome_none, gl, Bool.or_self, g0, g1, g2, Option.bind_some, e0, e1, e2, bne_self_eq_false, Brk.go]
    exact tl a1 w1
  · rw [if_neg h, decide_eq_false h]
    have gl : ((([] : List Int).length : Int) != 0) = false := rfl
    simp only [Bool.not_false, cond_true, bne_self_eq_false, gl, Bool.or_self, cond_false, Option.bind_some, Brk.go]
    exact tl a1 w1

theorem own : ownKnob Try.prog.godebug = none := by kernel_rfl
theorem laidOut : laidOutB Try.prog = true := by kernel_rfl
set_option maxRecDepth 100000 in
theorem lifted (os : Os) (started : os.Started) (H : Type) (enc : TypeId × Value → H) :
    ReturnsInHanded {} Try.checked os 6 .any (Rows.callTellsSpec.pre6 enc Try.prog Try.f6 Rows.callTellsRow.domain false) (Rows.callTellsSpec.post enc Try.prog Try.f6 false true false false) := by
  refine returnsInHanded_of_change (C := Try.checked) own started (by kernel_rfl) Try.func6
    (ChangeSpec.witness6 (enc := enc) (C := Try.checked) false ⟨#[], #[.agg #[.int .i64 0, .int .i64 0, .int .i64 0, .int .i64 0, .int .i64 0, .int .i64 0], .slice none 0 0], []⟩ 8 (by kernel_rfl) (by kernel_rfl) (by kernel_rfl) (by kernel_rfl)) ?_
  intro W base args ds gs before hval0 hW hcnd _
  have hval : ∀ (j : Nat) t v, Try.f6.params[j]? = some t → args[j]? = some v → Value.okWide Try.prog W .any base t v := hval0
  have hW' := hW
  obtain ⟨p, q, hA0, hV, rfl, hfz, hnd⟩ := hW
  have hA : DataW.TrodAll enc Try.prog W 0 (fun _ => true) true Try.f6.params.toList args.toList ds p := hA0
  rw [Try.params6] at hA hval
  obtain ⟨v0, vs0, d0, ds0, p0, q0, hargs, rfl, rfl, h0, r0⟩ := trodAll_cons hA
  obtain ⟨v1, vs1, d1, ds1, p1, q1, rfl, rfl, rfl, h1, r1⟩ := trodAll_cons r0
  obtain ⟨rfl, rfl, rfl⟩ := trodAll_nil r1
  obtain rfl : args = #[v0, v1] := by cases args; simp_all
  obtain ⟨rfl, rfl⟩ := trodVars_none hV
  obtain ⟨a0, rfl, w0⟩ := open_st pa_api_Call Try.underlying42 (hval 0 42 v0 rfl rfl) h0
  obtain ⟨a1, r1', w1, _⟩ := open_sl (K := ekI .u64) (parse_int Try.underlying27) Try.underlying26 (by kernel_rfl) (hval 1 26 v1 rfl rfl) h1
  obtain ⟨k, hk⟩ := ok a0 a1 w0 w1
  refine (Ct.law (law20_CallTells.ct _ a0 a1 _ hk) (W := W) r1').mono fun e W' ⟨he, hg⟩ => ?_
  subst he
  exact ⟨_, rfl, law_post hW' laidOut (by kernel_rfl) hg (by kernel_rfl) Try.underlying4 rfl rfl⟩
theorem over : Rows.callTellsRow.holds Try.pinned (OpenSpec.ofChange Rows.callTellsSpec) :=
  OpenClaim.holds_of_wide 6 Try.f6 rfl rfl rfl rfl rfl rfl rfl ⟨rfl, rfl, rfl, rfl, rfl⟩ rfl rfl rfl rfl rfl (by kernel_rfl) Try.func6 (by kernel_rfl)
    (of_decide_eq_true (by kernel_rfl)) (by unfold Func.isWrapper; first | (rw [if_pos (by decide +kernel)]; kernel_rfl) | (rw [if_neg (by decide +kernel)]; exact ⟨rfl, rfl⟩))
    (fun os started H enc _ => lifted os started H enc)
theorem proved : Rows.CallTellsSaid :=
  over
#print axioms proved
end Go.Proofs.Ytnkgafjmladidaa.callTells
