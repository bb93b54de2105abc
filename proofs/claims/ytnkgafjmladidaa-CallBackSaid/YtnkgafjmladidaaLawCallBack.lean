/- The given statement 'CallBack' of the given program: whatever the input, the law answers true and the input reads as it did. On no condition. -/
import Derived.Test.YtnkgafjmladidaaFnCallBack0
import Derived.Test.YtnkgafjmladidaaSlLaw
import Derived.Test.YtnkgafjmladidaaPureCallCallBack
import Derived.Test.YtnkgafjmladidaaRows
set_option linter.all false
namespace Go.Proofs.Ytnkgafjmladidaa.callBack
open Go.ChangeShapes Go.WideShapes Go.ChangeAt Go.RowKit Go.Sl
def wf_api_Call (x : api_Call) : Prop := (fits .i64) x.Op ∧ (fits .i64) x.Cap ∧ (fits .i64) x.A ∧ (fits .i64) x.B ∧ (fits .i64) x.C ∧ (fits .i64) x.D
theorem pa_api_Call : Parse Try.prog 42 (fun x : api_Call => [.int .i64 x.Op, .int .i64 x.Cap, .int .i64 x.A, .int .i64 x.B, .int .i64 x.C, .int .i64 x.D]) wf_api_Call := by
  intro H enc w base sp hd n cs x h
  obtain ⟨xs, m, -, -, hl, hx, hf⟩ := DataW.trod_struct Try.underlying42 h
  rw [show Try.prog.cellsOf 42 = 6 by kernel_rfl] at hl
  obtain ⟨a0, e0, w0⟩ := parse_field (i := 0) (o := 0) (sz := 1) hx hf (parse_int Try.underlying3) rfl rfl rfl (by kernel_rfl)
  obtain ⟨a1, e1, w1⟩ := parse_field (i := 1) (o := 1) (sz := 1) hx hf (parse_int Try.underlying3) rfl rfl rfl (by kernel_rfl)
  obtain ⟨a2, e2, w2⟩ := parse_field (i := 2) (o := 2) (sz := 1) hx hf (parse_int Try.underlying3) rfl rfl rfl (by kernel_rfl)
  obtain ⟨a3, e3, w3⟩ := parse_field (i := 3) (o := 3) (sz := 1) hx hf (parse_int Try.underlying3) rfl rfl rfl (by kernel_rfl)
  obtain ⟨a4, e4, w4⟩ := parse_field (i := 4) (o := 4) (sz := 1) hx hf (parse_int Try.underlying3) rfl rfl rfl (by kernel_rfl)
  obtain ⟨a5, e5, w5⟩ := parse_field (i := 5) (o := 5) (sz := 1) hx hf (parse_int Try.underlying3) rfl rfl rfl (by kernel_rfl)
  clear hf hx h
  match cs, hl with
  | [c0, c1, c2, c3, c4, c5], _ =>
    simp at e0 e1 e2 e3 e4 e5
    subst e0 e1 e2 e3 e4 e5
    exact ⟨⟨a0, a1, a2, a3, a4, a5⟩, rfl, w0, w1, w2, w3, w4, w5⟩

def wf_api_Reply (x : api_Reply) : Prop := (fits .i64) x.Code ∧ (fits .i64) x.Word ∧ (fits .i64) x.Badge
theorem pa_api_Reply : Parse Try.prog 82 (fun x : api_Reply => [.int .i64 x.Code, .int .i64 x.Word, .int .i64 x.Badge]) wf_api_Reply := by
  intro H enc w base sp hd n cs x h
  obtain ⟨xs, m, -, -, hl, hx, hf⟩ := DataW.trod_struct Try.underlying82 h
  rw [show Try.prog.cellsOf 82 = 3 by kernel_rfl] at hl
  obtain ⟨a0, e0, w0⟩ := parse_field (i := 0) (o := 0) (sz := 1) hx hf (parse_int Try.underlying3) rfl rfl rfl (by kernel_rfl)
  obtain ⟨a1, e1, w1⟩ := parse_field (i := 1) (o := 1) (sz := 1) hx hf (parse_int Try.underlying3) rfl rfl rfl (by kernel_rfl)
  obtain ⟨a2, e2, w2⟩ := parse_field (i := 2) (o := 2) (sz := 1) hx hf (parse_int Try.underlying3) rfl rfl rfl (by kernel_rfl)
  clear hf hx h
  match cs, hl with
  | [c0, c1, c2], _ =>
    simp at e0 e1 e2
    subst e0 e1 e2
    exact ⟨⟨a0, a1, a2⟩, rfl, w0, w1, w2⟩

open Go.Proofs
theorem up20 : law20_up.f = some true := by decide +kernel
theorem loop_ok (l : List Int) (hl : l.length < 1000) : ∀ (d k i : Nat), i + d = l.length → d < k → law20_CallBack.l3 l l k (i : Int) = some (Brk.nx ()) := by
  intro d
  induction d with
  | zero =>
    intro k i h hk
    obtain ⟨k, rfl⟩ : ∃ m, k = m + 1 := ⟨k - 1, by omega⟩
    have hd : decide ((i : Int) < (l.length : Int)) = false := by simp; omega
    unfold law20_CallBack.l3
    simp only [hd, cond_false]
  | succ d ih =>
    intro k i h hk
    obtain ⟨k, rfl⟩ : ∃ m, k = m + 1 := ⟨k - 1, by omega⟩
    have hd : decide ((i : Int) < (l.length : Int)) = true := by simp; omega
    have g1 : at_ l (i : Int) = some (l[i]'(by omega)) := by
      unfold at_
      rw [decide_eq_true (show (0 : Int) ≤ (i : Int) by omega), cond_true, Int.toNat_natCast, List.getElem?_eq_getElem (by omega)]
    have := ih k (i + 1) (by omega) (by omega)
    unfold law20_CallBack.l3
    simp only [hd, cond_true, g1, Option.bind_some, bne_self_eq_false, cond_false]
    rw [w64_id (x := (i : Int) + 1) (by omega) (by omega)]
    simpa using this
theorem cl_back {c : api_Call} (h : ClMay c) : clOf (cl0 c) (cl1 c) (cl2 c) = c ∧ cl0 c < 16777216 ∧ (0 ≤ cl0 c ∧ cl0 c ≤ 18446744073709551615) ∧ (0 ≤ cl1 c ∧ cl1 c ≤ 18446744073709551615) ∧ (0 ≤ cl2 c ∧ cl2 c ≤ 18446744073709551615) := by
  obtain ⟨Op, Cap, A, B, C, D⟩ := c
  unfold ClMay at h
  unfold clOf cl0 cl1 cl2
  simp only [api_Call.mk.injEq] at *
  refine ⟨⟨?_, ?_, ?_, ?_, ?_, ?_⟩, ?_, ?_, ?_, ?_⟩ <;> omega
theorem cl_fwd {a b c : Int} : [cl0 (clOf a b c), cl1 (clOf a b c), cl2 (clOf a b c)] = [a, b, c] := by
  unfold clOf cl0 cl1 cl2
  simp only [List.cons.injEq, and_true]
  refine ⟨?_, ?_, ?_⟩ <;> omega
theorem rep_back {r : api_Reply} (h : RepMay r) : repOf (repWord r) = r ∧ 0 ≤ repWord r ∧ repWord r ≤ 9223372036854775807 := by
  obtain ⟨C, W, B⟩ := r
  unfold RepMay at h
  unfold repOf repWord
  simp only [api_Reply.mk.injEq] at *
  refine ⟨⟨?_, ?_, ?_⟩, ?_, ?_⟩ <;> omega
theorem rep_fwd {n : Int} : repWord (repOf n) = n := by
  unfold repOf repWord
  simp only
  omega
theorem ok (a0 : api_Call) (a1 : List Int) (a2 : api_Reply) (a3 : Int) (_w0 : wf_api_Call a0) (w1 : ∀ x ∈ a1, fits .u64 x) (_w2 : wf_api_Reply a2) (w3 : (Lit.int .i64 a3).wf = true) : ∃ k, law20_CallBack.f k a0 a1 a2 a3 = some true := by
  refine ⟨200, ?_⟩
  obtain ⟨hlo, hhi⟩ := fits_i64 w3
  unfold law20_CallBack.f
  rw [up20]
  by_cases hl : 100 < (a1.length : Int)
  · simp [hl]
  have f1 : decide (100 < (a1.length : Int)) = false := by simpa using hl
  simp only [f1, cond_false, Option.bind_some]
  -- the call
  have A : (call_Put.f a0).bind (fun (t6, t7) => (((bif t7.isNone then ((call_Get.f t6).bind fun (t12, t13) => (bif t13.isSome then (some true) else (some (!decide (t12 = a0)))).bind fun c17 => bif c17 then (some (Brk.ret false)) else (some (Brk.nx ()))) else (some (Brk.nx ()))) : Option (Brk Bool Unit)))) = some (Brk.nx ()) := by
    rw [cput_ok]
    by_cases h : ClMay a0
    · obtain ⟨e1, e2, e3, e4, e5⟩ := cl_back h
      rw [if_pos h]
      simp only [Option.bind_some, Option.isNone_none, cond_true]
      rw [cget_ok e3 e4 e5, e1, if_pos ⟨e2, h⟩]
      simp
    · rw [if_neg h]; simp
  have B : (call_Get.f a1).bind (fun (t20, t21) => (((bif t21.isNone then ((call_Put.f t20).bind fun (t25, t26) => bif t26.isSome || ((t25.length : Int) != (a1.length : Int)) then (some (Brk.ret false)) else ((law20_CallBack.l3 a1 t25 200 0).bind fun o3 => Brk.go o3 (fun r => some (Brk.ret r)) (fun _ => some (Brk.nx ())))) else (some (Brk.nx ()))) : Option (Brk Bool Unit)))) = some (Brk.nx ()) := by
    by_cases h3 : a1.length = 3
    · have lp := loop_ok a1 (by omega) a1.length 200 0 (by omega) (by omega)
      match a1, h3 with
      | [a, b, c], _ =>
        have ha := fits_u64 (w1 a (by simp))
        have hb := fits_u64 (w1 b (by simp))
        have hc := fits_u64 (w1 c (by simp))
        rw [cget_ok ha hb hc]
        by_cases hm : a < 16777216 ∧ ClMay (clOf a b c)
        · rw [if_pos hm]
          simp only [Option.bind_some, Option.isNone_none, cond_true]
          rw [cput_ok, if_pos hm.2, cl_fwd]
          simp only [Option.bind_some, Option.isSome_none, bne_self_eq_false, Bool.or_self, cond_false]
          erw [lp]
          rfl
        · rw [if_neg hm]; simp
    · rw [cget_no h3]; simp
  have C : (call_Pack.f a2).bind (fun (t38, t39) => (((bif t39.isNone then ((call_Unpack.f t38).bind fun (t42, t43) => (bif t43.isSome then (some true) else (some (!decide (t42 = a2)))).bind fun c47 => bif c47 then (some (Brk.ret false)) else (some (Brk.nx ()))) else (some (Brk.nx ()))) : Option (Brk Bool Unit)))) = some (Brk.nx ()) := by
    rw [rpack_ok]
    by_cases h : RepMay a2
    · obtain ⟨e1, e2, e3⟩ := rep_back h
      rw [if_pos h]
      simp only [Option.bind_some, Option.isNone_none, cond_true]
      rw [runpack_ok e3, e1, if_pos ⟨e2, h⟩]
      simp
    · rw [if_neg h]; simp
  have D : (call_Unpack.f a3).bind (fun (t50, t51) => bif t51.isSome then (some true) else ((call_Pack.f t50).bind fun (t55, t56) => some ((true && t56.isNone) && (t55 == a3)))) = some true := by
    rw [runpack_ok hhi]
    by_cases h : 0 ≤ a3 ∧ RepMay (repOf a3)
    · rw [if_pos h]
      simp only [Option.bind_some, Option.isSome_none, cond_false]
      rw [rpack_ok, if_pos h.2, rep_fwd]
      simp
    · rw [if_neg h]; simp
  have key : ∀ {α β γ : Type} (x : Option α) (f : α → Option (Brk β Unit)) (g : Brk β Unit → Option γ), x.bind f = some (Brk.nx ()) → (x.bind fun t => (f t).bind g) = g (Brk.nx ()) := by
    intro α β γ x f g h
    cases x with
    | none => cases h
    | some t => simp only [Option.bind_some] at h ⊢; rw [h]; rfl
  refine (key _ _ _ A).trans ?_
  refine (key _ _ _ B).trans ?_
  refine (key _ _ _ C).trans ?_
  exact D

theorem own : ownKnob Try.prog.godebug = none := by kernel_rfl
theorem laidOut : laidOutB Try.prog = true := by kernel_rfl
set_option maxRecDepth 100000 in
theorem lifted (os : Os) (started : os.Started) (H : Type) (enc : TypeId × Value → H) :
    ReturnsInHanded {} Try.checked os 14 .any (Rows.callBackSpec.pre6 enc Try.prog Try.f14 Rows.callBackRow.domain false) (Rows.callBackSpec.post enc Try.prog Try.f14 false true false false) := by
  refine returnsInHanded_of_change (C := Try.checked) own started (by kernel_rfl) Try.func14
    (ChangeSpec.witness6 (enc := enc) (C := Try.checked) false ⟨#[], #[.agg #[.int .i64 0, .int .i64 0, .int .i64 0, .int .i64 0, .int .i64 0, .int .i64 0], .slice none 0 0, .agg #[.int .i64 0, .int .i64 0, .int .i64 0], .int .i64 0], []⟩ 8 (by kernel_rfl) (by kernel_rfl) (by kernel_rfl) (by kernel_rfl)) ?_
  intro W base args ds gs before hval0 hW hcnd _
  have hval : ∀ (j : Nat) t v, Try.f14.params[j]? = some t → args[j]? = some v → Value.okWide Try.prog W .any base t v := hval0
  have hW' := hW
  obtain ⟨p, q, hA0, hV, rfl, hfz, hnd⟩ := hW
  have hA : DataW.TrodAll enc Try.prog W 0 (fun _ => true) true Try.f14.params.toList args.toList ds p := hA0
  rw [Try.params14] at hA hval
  obtain ⟨v0, vs0, d0, ds0, p0, q0, hargs, rfl, rfl, h0, r0⟩ := trodAll_cons hA
  obtain ⟨v1, vs1, d1, ds1, p1, q1, rfl, rfl, rfl, h1, r1⟩ := trodAll_cons r0
  obtain ⟨v2, vs2, d2, ds2, p2, q2, rfl, rfl, rfl, h2, r2⟩ := trodAll_cons r1
  obtain ⟨v3, vs3, d3, ds3, p3, q3, rfl, rfl, rfl, h3, r3⟩ := trodAll_cons r2
  obtain ⟨rfl, rfl, rfl⟩ := trodAll_nil r3
  obtain rfl : args = #[v0, v1, v2, v3] := by cases args; simp_all
  obtain ⟨rfl, rfl⟩ := trodVars_none hV
  obtain ⟨a0, rfl, w0⟩ := open_st pa_api_Call Try.underlying42 (hval 0 42 v0 rfl rfl) h0
  obtain ⟨a1, r1', w1, _⟩ := open_sl (K := ekI .u64) (parse_int Try.underlying27) Try.underlying26 (by kernel_rfl) (hval 1 26 v1 rfl rfl) h1
  obtain ⟨a2, rfl, w2⟩ := open_st pa_api_Reply Try.underlying82 (hval 2 82 v2 rfl rfl) h2
  obtain ⟨a3, rfl, rfl, rfl, w3⟩ := open_int Try.underlying3 (hval 3 3 v3 rfl rfl) h3
  obtain ⟨k, hk⟩ := ok a0 a1 a2 a3 w0 w1 w2 w3
  refine (Ct.law (law20_CallBack.ct _ _ a0 a1 a2 a3 _ hk) (W := W) r1').mono fun e W' ⟨he, hg⟩ => ?_
  subst he
  exact ⟨_, rfl, law_post hW' laidOut (by kernel_rfl) hg (by kernel_rfl) Try.underlying4 rfl rfl⟩
theorem over : Rows.callBackRow.holds Try.pinned (OpenSpec.ofChange Rows.callBackSpec) :=
  OpenClaim.holds_of_wide 14 Try.f14 rfl rfl rfl rfl rfl rfl rfl ⟨rfl, rfl, rfl, rfl, rfl⟩ rfl rfl rfl rfl rfl (by kernel_rfl) Try.func14 (by kernel_rfl)
    (of_decide_eq_true (by kernel_rfl)) (by unfold Func.isWrapper; first | (rw [if_pos (by decide +kernel)]; kernel_rfl) | (rw [if_neg (by decide +kernel)]; exact ⟨rfl, rfl⟩))
    (fun os started H enc _ => lifted os started H enc)
theorem proved : Rows.CallBackSaid :=
  over
#print axioms proved
end Go.Proofs.Ytnkgafjmladidaa.callBack
