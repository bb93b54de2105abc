/- The given statement 'UntypedPlays' of the given program: whatever the input, the law answers true and the input reads as it did. On no condition. -/
import Derived.Test.YtklkbgacjegplaaFnUntypedPlays2
import Derived.Test.YtklkbgacjegplaaFr1
import Derived.Test.YtklkbgacjegplaaPlUntypedPlays1
import Derived.Test.YtklkbgacjegplaaRows
set_option linter.all false
namespace Go.Proofs.Ytklkbgacjegplaa.untypedPlays
open Go.ChangeShapes Go.WideShapes Go.ChangeAt Go.RowKit Go.Sl
def wf_law13_Deed (x : law13_Deed) : Prop := (fun _ => True) x.Delete ∧ (fits .i64) x.A ∧ (fits .i64) x.B ∧ (fits .i64) x.Kind ∧ (fits .i64) x.Bits
theorem pa_law13_Deed : Parse Try.prog 50 (fun x : law13_Deed => [.bool x.Delete, .int .i64 x.A, .int .i64 x.B, .int .i64 x.Kind, .int .i64 x.Bits]) wf_law13_Deed := by
  intro H enc w base sp hd n cs x h
  obtain ⟨xs, m, -, -, hl, hx, hf⟩ := DataW.trod_struct Try.underlying50 h
  rw [show Try.prog.cellsOf 50 = 5 by kernel_rfl] at hl
  obtain ⟨a0, e0, w0⟩ := parse_field (i := 0) (o := 0) (sz := 1) hx hf (parse_bool Try.underlying4) rfl rfl rfl (by kernel_rfl)
  obtain ⟨a1, e1, w1⟩ := parse_field (i := 1) (o := 1) (sz := 1) hx hf (parse_int Try.underlying3) rfl rfl rfl (by kernel_rfl)
  obtain ⟨a2, e2, w2⟩ := parse_field (i := 2) (o := 2) (sz := 1) hx hf (parse_int Try.underlying3) rfl rfl rfl (by kernel_rfl)
  obtain ⟨a3, e3, w3⟩ := parse_field (i := 3) (o := 3) (sz := 1) hx hf (parse_int Try.underlying3) rfl rfl rfl (by kernel_rfl)
  obtain ⟨a4, e4, w4⟩ := parse_field (i := 4) (o := 4) (sz := 1) hx hf (parse_int Try.underlying3) rfl rfl rfl (by kernel_rfl)
  clear hf hx h
  match cs, hl with
  | [c0, c1, c2, c3, c4], _ =>
    simp at e0 e1 e2 e3 e4
    subst e0 e1 e2 e3 e4
    exact ⟨⟨a0, a1, a2, a3, a4⟩, rfl, w0, w1, w2, w3, w4⟩

open Go.Proofs
structure II (st : ref10_State) (v : List Int) : Prop where
  h : WF st
  hv : IsW st v
  fi : FI st
theorem loop_ok (a2 : List law13_Deed) (hl : a2.length ≤ 60) : ∀ (m k : Nat) (i : Int) (st : ref10_State) (v : List Int), 0 ≤ i → i ≤ a2.length → (a2.length : Int) - i = m → m + 1000 < k → II st v → ∃ v' st', law13_UntypedPlays.l1 a2 k (i, v, st.Slots, st.Objs, st.NS, st.NO) = some (Brk.nx (v', st'.Slots, st'.Objs, st'.NS, st'.NO)) ∧ II st' v' := by
  intro m
  induction m with
  | zero =>
    intro k i st v h0 h1 h2 hk hI
    obtain ⟨k, rfl⟩ : ∃ q, k = q + 1 := ⟨k - 1, by omega⟩
    unfold law13_UntypedPlays.l1
    rw [decide_eq_false (by omega)]
    exact ⟨v, st, rfl, hI⟩
  | succ m ih =>
    intro k i st v h0 h1 h2 hk hI
    obtain ⟨k, rfl⟩ : ∃ q, k = q + 1 := ⟨k - 1, by omega⟩
    obtain ⟨x, hx, hm⟩ := at_some h0 (by omega : i < (a2.length : Int))
    obtain ⟨h, hv, fi⟩ := hI
    have eta : (⟨st.Slots, st.Objs, st.NS, st.NO⟩ : ref10_State) = st := rfl
    have e1 : w64 (i + 1) = i + 1 := w64_id (by omega) (by omega)
    unfold law13_UntypedPlays.l1
    rw [decide_eq_true (by omega), cond_true, hx, Option.bind_some, eta, e1]
    cases hD : x.Delete with
    | true =>
      obtain ⟨st', e, h', rs, _⟩ := rdel_ok h x.A (k := k) (by omega)
      obtain ⟨w, hw, iw⟩ := words_ok h' (k := k) (by omega)
      rw [cond_true, e, Option.bind_some]
      simp only []
      rw [hw, Option.bind_some]
      exact ih k (i + 1) st' w (by omega) (by omega) (by omega) (by omega) ⟨h', iw, by rw [rs.ns]; exact fi.ns, by rw [rs.no]; exact fi.no, fun j j0 j1 => by
        rw [rs.no] at j0
        have : obt st' j = obt st j := by unfold obt; rw [rs.ob]
        rw [this]; exact fi.kind j j0 j1⟩
    | false =>
      obtain ⟨n, q, st', v', s1, s2, s3, s4, h', hv', fi', _⟩ := retype_pl h hv fi x.A x.B x.Kind x.Bits (k := k) (by omega)
      rw [cond_false, s2, Option.bind_some]
      simp only []
      rw [s1, Option.bind_some]
      simp only []
      rw [code_ok ⟨s3, s4⟩ (by omega), Option.bind_some, bne_self_eq_false, bne_self_eq_false, Bool.or_self, cond_false, words_is h' hv' (by omega), Option.bind_some, same_ok hv'.len (by omega), Option.bind_some, Bool.not_true, Option.bind_some, cond_false]
      exact ih k (i + 1) st' v' (by omega) (by omega) (by omega) (by omega) ⟨h', hv', fi'⟩
theorem loop2_ok {st : ref10_State} {v : List Int} (h : WF st) (hv : IsW st v) : ∀ (m k : Nat) (i : Int), -1 ≤ i → i + m = 33 → m < k → law13_UntypedPlays.l2 st.Objs k (i, v) = some (Brk.nx v) := by
  have g := (hv.good h).1
  intro m
  induction m with
  | zero =>
    intro k i h0 h1 hk
    obtain ⟨k, rfl⟩ : ∃ q, k = q + 1 := ⟨k - 1, by omega⟩
    unfold law13_UntypedPlays.l2
    rw [decide_eq_false (by omega)]; rfl
  | succ m ih =>
    intro k i h0 h1 hk
    obtain ⟨k, rfl⟩ : ∃ q, k = q + 1 := ⟨k - 1, by omega⟩
    have nx := ih k (i + 1) (by omega) (by omega) (by omega)
    unfold law13_UntypedPlays.l2
    rw [decide_eq_true (by omega), cond_true, w64_id (x := i + 1) (by omega) (by omega), left_ok g]
    by_cases c : 0 ≤ i ∧ i < 32
    · have e : (decide (0 ≤ i) && decide (i < 32)) = true := by simp [c]
      rw [e, cond_true, at_obj h c, Option.bind_some, Option.bind_some, Option.bind_some]
      have hk1 := hv.kind h (i := i) (k := 1) (by decide)
      by_cases c1 : (obt st i).Kind = 1
      · have e : ((obt st i).Kind == 1) = true := by simpa using c1
        have wo := h.obj i c.1 c.2
        have us := wo.used
        have sz := wo.size
        have f1 : fld v i 1 = (obt st i).Size := by rw [hv.fv h c (by decide), ob_own h _ c (by omega), own1 c1]; rfl
        have f2 : fld v i 2 = (obt st i).Used := by rw [hv.fv h c (by decide), ob_own h _ c (by omega), own1 c1]; rfl
        rw [e, cond_true, if_pos (hk1.2 ⟨c.1, c.2, c1⟩), f1, f2, if_neg (by omega), Option.bind_some]
        simp only []
        rw [w64_id (by omega) (by omega), bne_self_eq_false, cond_false]
        exact nx
      · have e : ((obt st i).Kind == 1) = false := by simpa using c1
        rw [e, cond_false, if_neg (fun z => c1 (hk1.1 z).2.2), Option.bind_some]
        exact nx
    · have e : (decide (0 ≤ i) && decide (i < 32)) = false := by rw [← Bool.not_eq_true]; simpa using c
      have hk1 := hv.kind h (i := i) (k := 1) (by decide)
      rw [e, cond_false, if_neg (fun z => c ⟨(hk1.1 z).1, (hk1.1 z).2.1⟩), Option.bind_some]
      exact nx
theorem ok (a0 a1 : Int) (a2 : List law13_Deed) (w0 : (Lit.int .i64 a0).wf = true) (w1 : (Lit.int .i64 a1).wf = true) (w2 : ∀ x ∈ a2, wf_law13_Deed x) : ∃ k, law13_UntypedPlays.f k a0 a1 a2 = some true := by
  refine ⟨2000, ?_⟩
  have hu : law13_up.f 2000 = some true := by decide +kernel
  unfold law13_UntypedPlays.f
  rw [hu, Option.bind_some]
  by_cases h1 : 0 ≤ a0 ∧ a0 ≤ 7 ∧ 0 ≤ a1 ∧ a1 ≤ 1000 ∧ a2.length ≤ 60
  · have e : ((((decide (a0 < 0)) || (decide (7 < a0))) || (decide (a1 < 0))) || (decide (1000 < a1)) || (decide (60 < (a2.length : Int)))) = false := by simp; omega
    obtain ⟨t, hB, F, K⟩ := boot_ok (n := a0) (by omega)
    obtain ⟨u1, u2, u3, u4, _⟩ := bootU_ok (n := a0) (by omega) hB
    have rg : 0 ≤ a0 + 2 ∧ a0 + 2 < 32 := by omega
    have k1 : (obt t (a0 + 2)).Kind = 1 := by rw [K _ rg.1 rg.2]; unfold kindAt; rw [if_neg (by omega), if_neg (by omega), if_neg (by omega), if_pos rfl]
    have wo := F.wf.obj (a0 + 2) rg.1 rg.2
    have h' : WF (upd t (a0 + 2) ({ obt t (a0 + 2) with Size := a1 } : ref10_Obj)) := F.wf.upd rg { wo with size := by show 0 ≤ a1 ∧ a1 ≤ _; omega, used := by show 0 ≤ (obt t (a0 + 2)).Used ∧ (obt t (a0 + 2)).Used ≤ a1; omega } rfl rfl rfl (.inl rfl)
    obtain ⟨w, hw, iw⟩ := words_ok h' (k := 2000) (by decide)
    have fi : FI (upd t (a0 + 2) ({ obt t (a0 + 2) with Size := a1 } : ref10_Obj)) := by
      refine ⟨by show 0 ≤ t.NS ∧ t.NS ≤ 96; omega, by show 0 ≤ t.NO ∧ t.NO ≤ 32; omega, fun i i0 i1 => ?_⟩
      have i0 : t.NO ≤ i := i0
      rw [obt_upd F.wf.lo rg (by omega), if_neg (by omega), K i (by omega) i1]
      unfold kindAt
      rw [if_neg (by omega), if_neg (by omega), if_neg (by omega), if_neg (by omega), if_neg (by omega), if_neg (by omega), if_neg (by omega), if_neg (by omega), if_neg (by omega)]
    obtain ⟨v', st', hr, hI⟩ := loop_ok a2 h1.2.2.2.2 a2.length 2000 0 _ w (by decide) (by omega) (by omega) (by omega) ⟨h', iw, fi⟩
    rw [e, cond_false, hB, Option.bind_some, w64_id (x := a0 + 2) (by omega) (by omega), at_obj F.wf rg, Option.bind_some]
    have hw' : ref10_State_Words.f 2000 ({ t with Objs := t.Objs.set (a0 + 2).toNat ({ obt t (a0 + 2) with Size := a1 } : ref10_Obj) } : ref10_State) = some w := hw
    have hr' : law13_UntypedPlays.l1 a2 2000 (0, w, t.Slots, t.Objs.set (a0 + 2).toNat ({ obt t (a0 + 2) with Size := a1 } : ref10_Obj), t.NS, t.NO) = _ := hr
    rw [hw', Option.bind_some, hr', Option.bind_some]
    simp only [Brk.go]
    rw [loop2_ok hI.h hI.hv 34 2000 (-1) (by decide) (by decide) (by decide)]; rfl
  · have e : ((((decide (a0 < 0)) || (decide (7 < a0))) || (decide (a1 < 0))) || (decide (1000 < a1)) || (decide (60 < (a2.length : Int)))) = true := by
      rw [← Bool.not_eq_false]; simp; omega
    rw [e]; rfl

theorem own : ownKnob Try.prog.godebug = none := by kernel_rfl
theorem laidOut : laidOutB Try.prog = true := by kernel_rfl
set_option maxRecDepth 100000 in
theorem lifted (os : Os) (started : os.Started) (H : Type) (enc : TypeId × Value → H) :
    ReturnsInHanded {} Try.checked os 5 .any (Rows.untypedPlaysSpec.pre6 enc Try.prog Try.f5 Rows.untypedPlaysRow.domain false) (Rows.untypedPlaysSpec.post enc Try.prog Try.f5 false true false false) := by
  refine returnsInHanded_of_change (C := Try.checked) own started (by kernel_rfl) Try.func5
    (ChangeSpec.witness6 (enc := enc) (C := Try.checked) false ⟨#[], #[.int .i64 0, .int .i64 0, .slice none 0 0], []⟩ 8 (by kernel_rfl) (by kernel_rfl) (by kernel_rfl) (by kernel_rfl)) ?_
  intro W base args ds gs before hval0 hW hcnd _
  have hval : ∀ (j : Nat) t v, Try.f5.params[j]? = some t → args[j]? = some v → Value.okWide Try.prog W .any base t v := hval0
  have hW' := hW
  obtain ⟨p, q, hA0, hV, rfl, hfz, hnd⟩ := hW
  have hA : DataW.TrodAll enc Try.prog W 0 (fun _ => true) true Try.f5.params.toList args.toList ds p := hA0
  rw [Try.params5] at hA hval
  obtain ⟨v0, vs0, d0, ds0, p0, q0, hargs, rfl, rfl, h0, r0⟩ := trodAll_cons hA
  obtain ⟨v1, vs1, d1, ds1, p1, q1, rfl, rfl, rfl, h1, r1⟩ := trodAll_cons r0
  obtain ⟨v2, vs2, d2, ds2, p2, q2, rfl, rfl, rfl, h2, r2⟩ := trodAll_cons r1
  obtain ⟨rfl, rfl, rfl⟩ := trodAll_nil r2
  obtain rfl : args = #[v0, v1, v2] := by cases args; simp_all
  obtain ⟨rfl, rfl⟩ := trodVars_none hV
  obtain ⟨a0, rfl, rfl, rfl, w0⟩ := open_int Try.underlying3 (hval 0 3 v0 rfl rfl) h0
  obtain ⟨a1, rfl, rfl, rfl, w1⟩ := open_int Try.underlying3 (hval 1 3 v1 rfl rfl) h1
  obtain ⟨a2, r2', w2, _⟩ := open_sl (K := ek_law13_Deed) pa_law13_Deed Try.underlying48 (by kernel_rfl) (hval 2 48 v2 rfl rfl) h2
  obtain ⟨k, hk⟩ := ok a0 a1 a2 w0 w1 w2
  refine (Ct.law (law13_UntypedPlays.ct _ _ a0 a1 a2 _ hk) (W := W) r2').mono fun e W' ⟨he, hg⟩ => ?_
  subst he
  exact ⟨_, rfl, law_post hW' laidOut (by kernel_rfl) hg (by kernel_rfl) Try.underlying4 rfl rfl⟩
theorem over : Rows.untypedPlaysRow.holds Try.pinned (OpenSpec.ofChange Rows.untypedPlaysSpec) :=
  OpenClaim.holds_of_wide 5 Try.f5 rfl rfl rfl rfl rfl rfl rfl ⟨rfl, rfl, rfl, rfl, rfl⟩ rfl rfl rfl rfl rfl (by kernel_rfl) Try.func5 (by kernel_rfl)
    (of_decide_eq_true (by kernel_rfl)) (by unfold Func.isWrapper; first | (rw [if_pos (by decide +kernel)]; kernel_rfl) | (rw [if_neg (by decide +kernel)]; exact ⟨rfl, rfl⟩))
    (fun os started H enc _ => lifted os started H enc)
theorem proved : Rows.UntypedPlaysSaid :=
  over
#print axioms proved
end Go.Proofs.Ytklkbgacjegplaa.untypedPlays
