/- The given statement 'SpacePlays' of the given program: whatever the input, the law answers true and the input reads as it did. On no condition. -/
import Derived.Test.YtogpgphahnldmaaFnSpacePlays1
import Derived.Test.YtogpgphahnldmaaSlLaw
import Derived.Test.YtogpgphahnldmaaP18SpPlaySpacePlays
import Derived.Test.YtogpgphahnldmaaP18InitSpacePlays
import Derived.Test.YtogpgphahnldmaaP18CodeSpacePlays
import Derived.Test.YtogpgphahnldmaaRows
set_option linter.all false
namespace Go.Proofs.Ytogpgphahnldmaa.spacePlays
open Go.ChangeShapes Go.WideShapes Go.ChangeAt Go.RowKit Go.Sl
def wf_law18_Deed (x : law18_Deed) : Prop := (fun _ => True) x.Un ∧ (fits .i64) x.A ∧ (fits .i64) x.B ∧ (fits .i64) x.Page ∧ (fits .i64) x.Rights
theorem pa_law18_Deed : Parse Try.prog 30 (fun x : law18_Deed => [.bool x.Un, .int .i64 x.A, .int .i64 x.B, .int .i64 x.Page, .int .i64 x.Rights]) wf_law18_Deed := by
  intro H enc w base sp hd n cs x h
  obtain ⟨xs, m, -, -, hl, hx, hf⟩ := DataW.trod_struct Try.underlying30 h
  rw [show Try.prog.cellsOf 30 = 5 by kernel_rfl] at hl
  obtain ⟨a0, e0, w0⟩ := parse_field (i := 0) (o := 0) (sz := 1) hx hf (parse_bool Try.underlying4) rfl rfl rfl (by kernel_rfl)
  obtain ⟨a1, e1, w1⟩ := parse_field (i := 1) (o := 1) (sz := 1) hx hf (parse_int Try.underlying3) rfl rfl rfl (by kernel_rfl)
  obtain ⟨a2, e2, w2⟩ := parse_field (i := 2) (o := 2) (sz := 1) hx hf (parse_int Try.underlying3) rfl rfl rfl (by kernel_rfl)
  obtain ⟨a3, e3, w3⟩ := parse_field (i := 3) (o := 3) (sz := 1) hx hf (parse_int Try.underlying3) rfl rfl rfl (by kernel_rfl)
  obtain ⟨a4, e4, w4⟩ := parse_field (i := 4) (o := 4) (sz := 1) hx hf (parse_int Try.underlying3) rfl rfl rfl (by kernel_rfl)
  clear hf hx h
  match cs, hl with
  | [c0, c1, c2, c3, c4], _ =>
    simp at e0 e1 e2 e3 e4
    subst e0 e1 e2 e3 e4
    exact ⟨⟨a0, a1, a2, a3, a4⟩, rfl, w0, w1, w2, w3, w4⟩

open Go.Proofs
def KI (st : ref10_State) : Prop := ∀ i, 0 ≤ i → i < 32 → ((obt st i).Kind = 7 ↔ 4 ≤ i ∧ i < 6)
theorem loop_ok (a0 : List law18_Deed) (hl : a0.length ≤ 120) : ∀ (m k : Nat) (i : Int) (st : ref10_State) (v : List Int), 0 ≤ i → i ≤ a0.length → (a0.length : Int) - i = m → m + 1000 < k → WF st → WSp st → IsW st v → KI st → ∃ r, law18_SpacePlays.l1 a0 k (i, st.Slots, st.Objs, st.NS, st.NO, v) = some (Brk.nx r) := by
  intro m
  induction m with
  | zero =>
    intro k i st v h0 h1 h2 hk h hs hv hK
    obtain ⟨k, rfl⟩ : ∃ q, k = q + 1 := ⟨k - 1, by omega⟩
    unfold law18_SpacePlays.l1
    rw [decide_eq_false (by omega)]
    exact ⟨_, rfl⟩
  | succ m ih =>
    intro k i st v h0 h1 h2 hk h hs hv hK
    obtain ⟨k, rfl⟩ : ∃ q, k = q + 1 := ⟨k - 1, by omega⟩
    obtain ⟨x, hx, hm⟩ := at_some h0 (by omega : i < (a0.length : Int))
    have eta : (⟨st.Slots, st.Objs, st.NS, st.NO⟩ : ref10_State) = st := rfl
    -- a deed: the same answer, the same words
    have deed : ∃ n st' v', (bif x.Un then ((VM.run plainI (space_Unmap.f x.A) v).bind fun (t26, s28) => (ref10_State_Unmap.f (⟨st.Slots, st.Objs, st.NS, st.NO⟩ : ref10_State) x.A).bind fun (t30, p31) => some (t30, t26, p31.Slots, p31.Objs, p31.NS, p31.NO, s28)) else ((VM.run plainI (space_Map.f x.A x.B x.Page x.Rights) v).bind fun (t35, s37) => (ref10_State_Map.f (⟨st.Slots, st.Objs, st.NS, st.NO⟩ : ref10_State) x.A x.B x.Page x.Rights).bind fun (t39, p40) => some (t39, t35, p40.Slots, p40.Objs, p40.NS, p40.NO, s37))) = some (n, (if n = 0 then none else some n), st'.Slots, st'.Objs, st'.NS, st'.NO, v') ∧ 0 ≤ n ∧ n ≤ 14 ∧ WF st' ∧ WSp st' ∧ IsW st' v' ∧ KI st' := by
      cases hU : x.Un with
      | true =>
        obtain ⟨st', v', e1, e2, e3, e4, e5, e6⟩ := unmap_pl h hv hs x.A
        rw [cond_true, unmap_ok (hv.good h).1, Option.bind_some, eta, e1, e2]
        refine ⟨unBad v x.A, st', v', rfl, ?_, ?_, e4, e5, e3, fun i h0 h1 => by rw [e6 i h0]; exact hK i h0 h1⟩ <;> (unfold unBad; repeat' split) <;> decide
      | false =>
        obtain ⟨st', v', e1, e2, e3, e4, e5, e6⟩ := map_pl h hv hs x.A x.B x.Page x.Rights
        rw [cond_false, map_ok (hv.good h).1, Option.bind_some, eta, e1, e2]
        refine ⟨mapBad v x.A x.B x.Page x.Rights, st', v', rfl, ?_, ?_, e4, e5, e3, fun i h0 h1 => by rw [e6 i h0]; exact hK i h0 h1⟩ <;> (unfold mapBad; repeat' split) <;> decide
    obtain ⟨n, st', v', e1, n0, n1, h', hs', hv', hK'⟩ := deed
    have eta' : (⟨st'.Slots, st'.Objs, st'.NS, st'.NO⟩ : ref10_State) = st' := rfl
    unfold law18_SpacePlays.l1
    rw [decide_eq_true (by omega), cond_true, hx, Option.bind_some, e1, Option.bind_some]
    simp only []
    rw [code_ok ⟨n0, n1⟩ (by omega), Option.bind_some, bne_self_eq_false, cond_false, eta', words_is h' hv' (by omega), Option.bind_some, same_ok hv'.len (by omega), Option.bind_some, Bool.not_true, Option.bind_some, cond_false, page_ok (hv'.good h').1, Option.bind_some]
    obtain ⟨r, hr⟩ := ih k (i + 1) st' v' (by omega) (by omega) (by omega) (by omega) h' hs' hv' hK'
    refine ⟨r, ?_⟩
    simp only []
    rw [pgv_st h' hv']
    by_cases c : 4 ≤ x.B ∧ x.B < 6 ∧ 0 ≤ x.Page ∧ x.Page < 4
    · have e : ((((decide (4 ≤ x.B)) && (decide (x.B < 6))) && (decide (0 ≤ x.Page))) && (decide (x.Page < 4))) = true := by simp; omega
      have k7 := (hK' x.B (by omega) (by omega)).2 ⟨c.1, c.2.1⟩
      have hat : at_ st'.Objs x.B = some (obt st' x.B) := at_obj h' (by omega)
      simp only [e, cond_true, hat, Option.bind_some, A4.get_nth _ (show 0 ≤ x.Page ∧ x.Page < 4 by omega)]
      by_cases d : 0 ≤ (obt st' x.B).Pages.nth x.Page
      · rw [if_pos ⟨by omega, by omega, k7, c.2.2.1, c.2.2.2, d⟩]
        simp only [decide_eq_true d, bne_self_eq_false, Bool.false_or, Bool.and_false, Bool.not_true, Bool.false_and, Bool.or_self, Bool.not_false, Bool.true_and, cond_false]
        rw [w64_id (by omega) (by omega)]; exact hr
      · rw [if_neg (fun q => d q.2.2.2.2.2)]
        simp only [decide_eq_false d, bne_self_eq_false, Bool.false_or, Bool.and_false, Bool.not_true, Bool.false_and, Bool.or_self, Bool.not_false, Bool.true_and, cond_false]
        rw [w64_id (by omega) (by omega)]; exact hr
    · have e : ((((decide (4 ≤ x.B)) && (decide (x.B < 6))) && (decide (0 ≤ x.Page))) && (decide (x.Page < 4))) = false := by
        rw [← Bool.not_eq_true]; simp; omega
      rw [if_neg (fun q => by have := (hK' x.B q.1 q.2.1).1 q.2.2.1; omega), e, cond_false, Option.bind_some]
      simp only [show decide ((0 : Int) ≤ -1) = false from rfl, bne_self_eq_false, Bool.false_or, Bool.and_false, Bool.not_true, Bool.false_and, Bool.or_self, cond_false]
      rw [w64_id (by omega) (by omega)]; exact hr
def initB : Bool := match law18_begun.f 2000 with
  | some t => wfB t && (List.range 32).all fun i => ((obt t i).Kind == 7) == decide (4 ≤ (i : Int) ∧ (i : Int) < 6)
  | none => false
theorem init_ok : initB = true := by decide +kernel
theorem ok (a0 : List law18_Deed) (w0 : ∀ x ∈ a0, wf_law18_Deed x) : ∃ k, law18_SpacePlays.f k a0 = some true := by
  refine ⟨2000, ?_⟩
  have hu : law18_up.f 2000 = some true := by decide +kernel
  unfold law18_SpacePlays.f
  rw [hu, Option.bind_some]
  by_cases hl : (120 : Int) < (a0.length : Int)
  · rw [decide_eq_true hl]; rfl
  · rw [decide_eq_false hl, cond_false]
    have hi := init_ok
    unfold initB at hi
    cases hB : law18_begun.f 2000 with
    | none => simp [hB] at hi
    | some t =>
      simp only [hB, Option.bind_some, Bool.and_eq_true, List.all_eq_true, List.mem_range] at hi ⊢
      obtain ⟨hf, hk⟩ := hi
      have F := fresh_of hf
      obtain ⟨w, hw, hiw⟩ := words_ok F.wf (k := 2000) (by decide)
      have sp : WSp t := ⟨fun f a b _ z => by rw [(F.que f a b).2.2.1] at z; omega, fun b p a c _ p0 p1 z => by rw [(F.que b a c).2.2.2 p p0 p1] at z; omega⟩
      have hK : KI t := fun i a b => by
        have := hk i.toNat (by omega)
        rw [show ((i.toNat : Nat) : Int) = i by omega] at this
        rw [beq_iff_eq] at this
        by_cases c : 4 ≤ i ∧ i < 6
        · rw [decide_eq_true c, beq_iff_eq] at this
          exact ⟨fun _ => c, fun _ => this⟩
        · rw [decide_eq_false c] at this
          exact ⟨fun z => by rw [z] at this; simp at this, fun z => absurd z c⟩
      obtain ⟨r, hr⟩ := loop_ok a0 (by omega) a0.length 2000 0 t w (by decide) (by omega) (by omega) (by omega) F.wf sp hiw hK
      rw [hw, Option.bind_some, hr]; rfl

theorem own : ownKnob Try.prog.godebug = none := by kernel_rfl
theorem laidOut : laidOutB Try.prog = true := by kernel_rfl
set_option maxRecDepth 100000 in
theorem lifted (os : Os) (started : os.Started) (H : Type) (enc : TypeId × Value → H) :
    ReturnsInHanded {} Try.checked os 3 .any (Rows.spacePlaysSpec.pre6 enc Try.prog Try.f3 Rows.spacePlaysRow.domain false) (Rows.spacePlaysSpec.post enc Try.prog Try.f3 false true false false) := by
  refine returnsInHanded_of_change (C := Try.checked) own started (by kernel_rfl) Try.func3
    (ChangeSpec.witness6 (enc := enc) (C := Try.checked) false ⟨#[], #[.slice none 0 0], []⟩ 8 (by kernel_rfl) (by kernel_rfl) (by kernel_rfl) (by kernel_rfl)) ?_
  intro W base args ds gs before hval0 hW hcnd _
  have hval : ∀ (j : Nat) t v, Try.f3.params[j]? = some t → args[j]? = some v → Value.okWide Try.prog W .any base t v := hval0
  have hW' := hW
  obtain ⟨p, q, hA0, hV, rfl, hfz, hnd⟩ := hW
  have hA : DataW.TrodAll enc Try.prog W 0 (fun _ => true) true Try.f3.params.toList args.toList ds p := hA0
  rw [Try.params3] at hA hval
  obtain ⟨v0, vs0, d0, ds0, p0, q0, hargs, rfl, rfl, h0, r0⟩ := trodAll_cons hA
  obtain ⟨rfl, rfl, rfl⟩ := trodAll_nil r0
  obtain rfl : args = #[v0] := by cases args; simp_all
  obtain ⟨rfl, rfl⟩ := trodVars_none hV
  obtain ⟨a0, r0', w0, _⟩ := open_sl (K := ek_law18_Deed) pa_law18_Deed Try.underlying22 (by kernel_rfl) (hval 0 22 v0 rfl rfl) h0
  obtain ⟨k, hk⟩ := ok a0 w0
  refine (Ct.law (law18_SpacePlays.ct _ _ a0 _ hk) (W := W) r0').mono fun e W' ⟨he, hg⟩ => ?_
  subst he
  exact ⟨_, rfl, law_post hW' laidOut (by kernel_rfl) hg (by kernel_rfl) Try.underlying4 rfl rfl⟩
theorem over : Rows.spacePlaysRow.holds Try.pinned (OpenSpec.ofChange Rows.spacePlaysSpec) :=
  OpenClaim.holds_of_wide 3 Try.f3 rfl rfl rfl rfl rfl rfl rfl ⟨rfl, rfl, rfl, rfl, rfl⟩ rfl rfl rfl rfl rfl (by kernel_rfl) Try.func3 (by kernel_rfl)
    (of_decide_eq_true (by kernel_rfl)) (by unfold Func.isWrapper; first | (rw [if_pos (by decide +kernel)]; kernel_rfl) | (rw [if_neg (by decide +kernel)]; exact ⟨rfl, rfl⟩))
    (fun os started H enc _ => lifted os started H enc)
theorem proved : Rows.SpacePlaysSaid :=
  over
#print axioms proved
end Go.Proofs.Ytogpgphahnldmaa.spacePlays
