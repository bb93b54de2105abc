/- The given statement 'CallPacks' of the given program: whatever the input, the law answers true and the input reads as it did. On no condition. -/
import Derived.Test.YtnkgafjmladidaaFnCallPacks0
import Derived.Test.YtnkgafjmladidaaSlLaw
import Derived.Test.YtnkgafjmladidaaPureCallCallPacks
import Derived.Test.YtnkgafjmladidaaRows
set_option linter.all false
namespace Go.Proofs.Ytnkgafjmladidaa.callPacks
open Go.ChangeShapes Go.WideShapes Go.ChangeAt Go.RowKit Go.Sl
def wf_api_Reply (x : api_Reply) : Prop := (fits .i64) x.Code ∧ (fits .i64) x.Word ∧ (fits .i64) x.Badge
theorem pa_api_Reply : Parse Try.prog 82 (fun x : api_Reply => [.int .i64 x.Code, .int .i64 x.Word, .int .i64 x.Badge]) wf_api_Reply := by
  intro H enc w base sp hd n cs x h
  obtain ⟨xs, m, -, -, hl, hx, hf⟩ := DataW.trod_struct Try.underlying82 h
  rw [show Try.prog.cellsOf 82 = 3 by kernel_rfl] at hl
  obtain ⟨a0, e0, w0⟩ := parse_field (i := 0) (o := 0) (sz := 1) hx hf (parse_int Try.underlying3) rfl rfl rfl (by kernel_rfl)
  obtain ⟨a1, e1, w1⟩ := parse_field (i := 1) (o := 1) (sz := 1) hx hf (parse_int Try.underlying3) rfl rfl rfl (by kernel_rfl)
  obtain ⟨a2, e2, w2⟩ := parse_field (i := 2) (o := 2) (sz := 1) hx hf (parse_int Try.underlying3) rfl rfl rfl (by kernel_rfl)
  clear hf hx h
  match cs, hl with
  | [c0, c1, c2], _ =>
    simp at e0 e1 e2
    subst e0 e1 e2
    exact ⟨⟨a0, a1, a2⟩, rfl, w0, w1, w2⟩

open Go.Proofs
theorem up20 : law20_up.f = some true := by decide +kernel
theorem code_1 : law00_Code.f 40 (some 1) = some 1 := by decide +kernel
theorem ok (a0 : api_Reply) (a1 : Int) (_w0 : wf_api_Reply a0) (w1 : (Lit.int .i64 a1).wf = true) : ∃ k, law20_CallPacks.f k a0 a1 = some true := by
  refine ⟨40, ?_⟩
  obtain ⟨hlo, hhi⟩ := fits_i64 w1
  have tail : ∀ t2 : Bool, t2 = true → ((call_Unpack.f a1).bind fun (t17, t18) => bif !(((decide (0 ≤ a1)) && (decide ((a1.tmod 16) ≤ 14))) && (decide ((w64 (a1.tdiv 34359738368)) ≤ 65535))) then ((bif t2 then ((law00_Code.f 40 t18).bind fun t27 => some (t27 == 1)) else (some false)).bind fun c25 => some (c25 && (decide (t17 = (⟨0, 0, 0⟩ : api_Reply))))) else (some ((t2 && t18.isNone) && (decide (t17 = (⟨a1.tmod 16, (w64 (a1.tdiv 16)).tmod 2147483648, w64 (a1.tdiv 34359738368)⟩ : api_Reply)))))) = some true := by
    intro t2 ht
    subst ht
    rw [runpack_ok hhi]
    by_cases h0 : 0 ≤ a1
    · rw [Int.tdiv_eq_ediv_of_nonneg h0, Int.tdiv_eq_ediv_of_nonneg h0, Int.tmod_eq_emod_of_nonneg h0, w64_id (x := a1 / 34359738368) (by omega) (by omega), w64_id (x := a1 / 16) (by omega) (by omega), Int.tmod_eq_emod_of_nonneg (show 0 ≤ a1 / 16 by omega)]
      have hr : (⟨a1 % 16, a1 / 16 % 2147483648, a1 / 34359738368⟩ : api_Reply) = repOf a1 := rfl
      rw [hr]
      by_cases hm : RepMay (repOf a1)
      · have hc : (decide (0 ≤ a1) && decide (a1 % 16 ≤ 14) && decide (a1 / 34359738368 ≤ 65535)) = true := by
          unfold RepMay repOf at hm
          simp only at hm
          simp only [Bool.and_eq_true, decide_eq_true_eq]; omega
        rw [if_pos ⟨h0, hm⟩]
        simp [hc]
      · have hc : (decide (0 ≤ a1) && decide (a1 % 16 ≤ 14) && decide (a1 / 34359738368 ≤ 65535)) = false := by
          unfold RepMay repOf at hm
          simp only at hm
          simp only [Bool.and_eq_false_iff, decide_eq_false_iff_not]; omega
        rw [if_neg (fun x => hm x.2)]
        simp [hc, code_1]
    · rw [if_neg (fun x => h0 x.1)]
      have hd : decide (0 ≤ a1) = false := by simpa using h0
      simp [hd, code_1]
  unfold law20_CallPacks.f
  rw [up20, rpack_ok]
  by_cases h : RepMay a0
  · have hc : (decide (0 ≤ a0.Code) && decide (a0.Code ≤ 14) && decide (0 ≤ a0.Word) && decide (a0.Word ≤ 2147483647) && decide (0 ≤ a0.Badge) && decide (a0.Badge ≤ 65535)) = true := by
      unfold RepMay at h
      simp only [Bool.and_eq_true, decide_eq_true_eq]; omega
    have hw : w64 (w64 (a0.Code + w64 (16 * a0.Word)) + w64 (34359738368 * a0.Badge)) = repWord a0 := by
      unfold RepMay at h
      rw [w64_id (x := 16 * a0.Word) (by omega) (by omega), w64_id (x := 34359738368 * a0.Badge) (by omega) (by omega), w64_id (x := a0.Code + 16 * a0.Word) (by omega) (by omega), w64_id (by omega) (by omega)]
      unfold repWord; omega
    rw [if_pos h]
    simp only [hc, hw, Option.bind_some, Bool.not_true, cond_false, Option.isSome_none, bne_self_eq_false, Bool.or_self, Brk.go]
    exact tail true rfl
  · have hc : (decide (0 ≤ a0.Code) && decide (a0.Code ≤ 14) && decide (0 ≤ a0.Word) && decide (a0.Word ≤ 2147483647) && decide (0 ≤ a0.Badge) && decide (a0.Badge ≤ 65535)) = false := by
      unfold RepMay at h
      simp only [Bool.and_eq_false_iff, decide_eq_false_iff_not]; omega
    rw [if_neg h]
    simp only [hc, Option.bind_some, Bool.not_false, cond_true, bne_self_eq_false, Bool.or_self, Brk.go, cond_false]
    exact tail true rfl

theorem own : ownKnob Try.prog.godebug = none := by kernel_rfl
theorem laidOut : laidOutB Try.prog = true := by kernel_rfl
set_option maxRecDepth 100000 in
theorem lifted (os : Os) (started : os.Started) (H : Type) (enc : TypeId × Value → H) :
    ReturnsInHanded {} Try.checked os 13 .any (Rows.callPacksSpec.pre6 enc Try.prog Try.f13 Rows.callPacksRow.domain false) (Rows.callPacksSpec.post enc Try.prog Try.f13 false true false false) := by
  refine returnsInHanded_of_change (C := Try.checked) own started (by kernel_rfl) Try.func13
    (ChangeSpec.witness6 (enc := enc) (C := Try.checked) false ⟨#[], #[.agg #[.int .i64 0, .int .i64 0, .int .i64 0], .int .i64 0], []⟩ 8 (by kernel_rfl) (by kernel_rfl) (by kernel_rfl) (by kernel_rfl)) ?_
  intro W base args ds gs before hval0 hW hcnd _
  have hval : ∀ (j : Nat) t v, Try.f13.params[j]? = some t → args[j]? = some v → Value.okWide Try.prog W .any base t v := hval0
  have hW' := hW
  obtain ⟨p, q, hA0, hV, rfl, hfz, hnd⟩ := hW
  have hA : DataW.TrodAll enc Try.prog W 0 (fun _ => true) true Try.f13.params.toList args.toList ds p := hA0
  rw [Try.params13] at hA hval
  obtain ⟨v0, vs0, d0, ds0, p0, q0, hargs, rfl, rfl, h0, r0⟩ := trodAll_cons hA
  obtain ⟨v1, vs1, d1, ds1, p1, q1, rfl, rfl, rfl, h1, r1⟩ := trodAll_cons r0
  obtain ⟨rfl, rfl, rfl⟩ := trodAll_nil r1
  obtain rfl : args = #[v0, v1] := by cases args; simp_all
  obtain ⟨rfl, rfl⟩ := trodVars_none hV
  obtain ⟨a0, rfl, w0⟩ := open_st pa_api_Reply Try.underlying82 (hval 0 82 v0 rfl rfl) h0
  obtain ⟨a1, rfl, rfl, rfl, w1⟩ := open_int Try.underlying3 (hval 1 3 v1 rfl rfl) h1
  obtain ⟨k, hk⟩ := ok a0 a1 w0 w1
  refine (Ct.law (law20_CallPacks.ct _ a0 a1 _ hk) (W := W) trivial).mono fun e W' ⟨he, hg⟩ => ?_
  subst he
  exact ⟨_, rfl, law_post hW' laidOut (by kernel_rfl) hg (by kernel_rfl) Try.underlying4 rfl rfl⟩
theorem over : Rows.callPacksRow.holds Try.pinned (OpenSpec.ofChange Rows.callPacksSpec) :=
  OpenClaim.holds_of_wide 13 Try.f13 rfl rfl rfl rfl rfl rfl rfl ⟨rfl, rfl, rfl, rfl, rfl⟩ rfl rfl rfl rfl rfl (by kernel_rfl) Try.func13 (by kernel_rfl)
    (of_decide_eq_true (by kernel_rfl)) (by unfold Func.isWrapper; first | (rw [if_pos (by decide +kernel)]; kernel_rfl) | (rw [if_neg (by decide +kernel)]; exact ⟨rfl, rfl⟩))
    (fun os started H enc _ => lifted os started H enc)
theorem proved : Rows.CallPacksSaid :=
  over
#print axioms proved
end Go.Proofs.Ytnkgafjmladidaa.callPacks
