/- The given statement 'UntypedOnce' of the given program: whatever the input, the law answers true and the input reads as it did. On no condition. -/
import Derived.Test.YtklkbgacjegplaaFnUntypedOnce1
import Derived.Test.YtklkbgacjegplaaFr1
import Derived.Test.YtklkbgacjegplaaPlUntypedOnce1
import Derived.Test.YtklkbgacjegplaaRows
set_option linter.all false
namespace Go.Proofs.Ytklkbgacjegplaa.untypedOnce
open Go.ChangeShapes Go.WideShapes Go.ChangeAt Go.RowKit Go.Sl
def wf_law13_Deed (x : law13_Deed) : Prop := (fun _ => True) x.Delete ∧ (fits .i64) x.A ∧ (fits .i64) x.B ∧ (fits .i64) x.Kind ∧ (fits .i64) x.Bits
theorem pa_law13_Deed : Parse Try.prog 50 (fun x : law13_Deed => [.bool x.Delete, .int .i64 x.A, .int .i64 x.B, .int .i64 x.Kind, .int .i64 x.Bits]) wf_law13_Deed := by
  intro H enc w base sp hd n cs x h
  obtain ⟨xs, m, -, -, hl, hx, hf⟩ := DataW.trod_struct Try.underlying50 h
  rw [show Try.prog.cellsOf 50 = 5 by kernel_rfl] at hl
  obtain ⟨a0, e0, w0⟩ := parse_field (i := 0) (o := 0) (sz := 1) hx hf (parse_bool Try.underlying4) rfl rfl rfl (by kernel_rfl)
  obtain ⟨a1, e1, w1⟩ := parse_field (i := 1) (o := 1) (sz := 1) hx hf (parse_int Try.underlying3) rfl rfl rfl (by kernel_rfl)
  obtain ⟨a2, e2, w2⟩ := parse_field (i := 2) (o := 2) (sz := 1) hx hf (parse_int Try.underlying3) rfl rfl rfl (by kernel_rfl)
  obtain ⟨a3, e3, w3⟩ := parse_field (i := 3) (o := 3) (sz := 1) hx hf (parse_int Try.underlying3) rfl rfl rfl (by kernel_rfl)
  obtain ⟨a4, e4, w4⟩ := parse_field (i := 4) (o := 4) (sz := 1) hx hf (parse_int Try.underlying3) rfl rfl rfl (by kernel_rfl)
  clear hf hx h
  match cs, hl with
  | [c0, c1, c2, c3, c4], _ =>
    simp at e0 e1 e2 e3 e4
    subst e0 e1 e2 e3 e4
    exact ⟨⟨a0, a1, a2, a3, a4⟩, rfl, w0, w1, w2, w3, w4⟩

open Go.Proofs
structure II (a0 sp nx : Int) (st : ref10_State) (v : List Int) : Prop where
  h : WF st
  hv : IsW st v
  fi : FI st
  k3 : (obt st 3).Kind = 1
  sz : (obt st 3).Size = a0
  us : (obt st 3).Used = sp
  cap : (slt st 8).Cap = ⟨1, 7, 3, 0, 0, 0⟩
  no : st.NO = nx
theorem loop_ok (a0 : Int) (a1 : List law13_Deed) (hw : ∀ x ∈ a1, wf_law13_Deed x) (hl : a1.length ≤ 60) (ha : 0 ≤ a0 ∧ a0 ≤ 1000) : ∀ (m k : Nat) (i sp nx : Int) (st : ref10_State) (v : List Int), 0 ≤ i → i ≤ a1.length → (a1.length : Int) - i = m → m + 1000 < k → II a0 sp nx st v → ∃ sp' nx' v' st', law13_UntypedOnce.l1 a1 k (i, sp, nx, v) = some (Brk.nx (nx', sp', v')) ∧ II a0 sp' nx' st' v' := by
  intro m
  induction m with
  | zero =>
    intro k i sp nx st v h0 h1 h2 hk hI
    obtain ⟨k, rfl⟩ : ∃ q, k = q + 1 := ⟨k - 1, by omega⟩
    unfold law13_UntypedOnce.l1
    rw [decide_eq_false (by omega)]
    exact ⟨sp, nx, v, st, rfl, hI⟩
  | succ m ih =>
    intro k i sp nx st v h0 h1 h2 hk hI
    obtain ⟨k, rfl⟩ : ∃ q, k = q + 1 := ⟨k - 1, by omega⟩
    obtain ⟨x, hx, hm⟩ := at_some h0 (by omega : i < (a1.length : Int))
    obtain ⟨h, hv, fi, k3, sz, us, cap, no⟩ := hI
    have wf := hw x hm
    have e1 : w64 (i + 1) = i + 1 := w64_id (by omega) (by omega)
    have hp : law10_Pick.f x.B 80 = some (pick x.B 80) := pick_ok wf.2.2.1 (by decide) (by decide)
    have hr := pick_lt x.B (n := 80) (by decide)
    unfold law13_UntypedOnce.l1
    rw [decide_eq_true (by omega), cond_true, hx, Option.bind_some, hp, Option.bind_some, e1, w64_id (x := 14 + pick x.B 80) (by omega) (by omega)]
    generalize pick x.B 80 = p at hr
    obtain ⟨n, q, st', v', s1, s2, s3, s4, h', hv', fi', z1, z2⟩ := retype_pl h hv fi 8 (14 + p) x.Kind x.Bits (k := k) (by omega)
    rw [s2, Option.bind_some]
    simp only []
    by_cases c : q = 0
    · subst c
      obtain ⟨n0, R⟩ := z2 rfl
      have cr := cost_rg x.Kind x.Bits
      have rc := R.cost
      have wo := h.obj 3 (by decide) (by decide)
      have us' := wo.used
      have sz' := wo.size
      have rm := R.room
      have nl := R.nol
      have nk := fi.kind st.NO (Int.le_refl _) nl
      have fo := fi.no
      have n3 : (3 : Int) ≠ st.NO := fun e => by rw [← e] at nk; omega
      rw [if_pos rfl]
      simp only [Option.isSome_none, cond_false]
      rw [ucost_ok, Option.bind_some]
      simp only []
      have e2 : (n != nx) = false := by simp; omega
      rw [e2, decide_eq_true R.cost, if_neg (by omega)]
      simp only [Bool.not_true, Bool.or_self, cond_false]
      rw [cap] at rm
      have rm : costOf x.Kind x.Bits ≤ (obt st 3).Size - (obt st 3).Used := rm
      rw [w64_id (x := sp + costOf x.Kind x.Bits) (by omega) (by omega), w64_id (x := nx + 1) (by omega) (by omega)]
      have o3 : obt st' 3 = ({ obt st 3 with Used := (obt st 3).Used + costOf x.Kind x.Bits } : ref10_Obj) := by
        rw [R.obj 3 (by decide) (by decide), if_neg n3, cap, if_pos rfl]
      exact ih k (i + 1) _ _ st' v' (by omega) (by omega) (by omega) (by omega) ⟨h', hv', fi', by rw [o3]; exact k3, by rw [o3]; exact sz, by rw [o3]; show (obt st 3).Used + _ = _; rw [us], by
        rw [R.slots.cap 8 (by decide) (by decide)]; unfold cC
        rw [if_neg (by omega)]; exact cap, by rw [R.no, no]⟩
    · obtain ⟨e, n0⟩ := z1 c
      rw [if_neg c]
      simp only [Option.isSome_some, cond_true]
      rw [e] at hv'
      exact ih k (i + 1) sp nx st v' (by omega) (by omega) (by omega) (by omega) ⟨h, hv', fi, k3, sz, us, cap, no⟩
theorem ok (a0 : Int) (a1 : List law13_Deed) (w0 : (Lit.int .i64 a0).wf = true) (w1 : ∀ x ∈ a1, wf_law13_Deed x) : ∃ k, law13_UntypedOnce.f k a0 a1 = some true := by
  refine ⟨2000, ?_⟩
  have hu : law13_up.f 2000 = some true := by decide +kernel
  unfold law13_UntypedOnce.f
  rw [hu, Option.bind_some]
  by_cases h1 : 0 ≤ a0 ∧ a0 ≤ 1000 ∧ a1.length ≤ 60
  · have e : (((decide (a0 < 0)) || (decide (1000 < a0))) || (decide (60 < (a1.length : Int)))) = false := by simp; omega
    obtain ⟨t, hB, F, K⟩ := boot_ok (n := 1) (by decide)
    obtain ⟨u1, u2, u3, u4, u5⟩ := bootU_ok (n := 1) (by decide) hB
    have u1 : (obt t 3).Used = 0 := u1
    have u4 : t.NO = 9 := u4
    have rg : 0 ≤ (3 : Int) ∧ (3 : Int) < 32 := by decide
    have k1 : (obt t 3).Kind = 1 := by rw [K _ rg.1 rg.2]; rfl
    have wo := F.wf.obj 3 rg.1 rg.2
    have h' : WF (upd t 3 ({ obt t 3 with Size := a0 } : ref10_Obj)) := F.wf.upd rg { wo with size := by show 0 ≤ a0 ∧ a0 ≤ _; omega, used := by show 0 ≤ (obt t 3).Used ∧ (obt t 3).Used ≤ a0; omega } rfl rfl rfl (.inl rfl)
    obtain ⟨w, hw, iw⟩ := words_ok h' (k := 2000) (by decide)
    have o3 : obt (upd t 3 ({ obt t 3 with Size := a0 } : ref10_Obj)) 3 = ({ obt t 3 with Size := a0 } : ref10_Obj) := by rw [obt_upd F.wf.lo rg (by decide), if_pos rfl]
    have fi : FI (upd t 3 ({ obt t 3 with Size := a0 } : ref10_Obj)) := by
      refine ⟨by show 0 ≤ t.NS ∧ t.NS ≤ 96; omega, by show 0 ≤ t.NO ∧ t.NO ≤ 32; omega, fun i i0 i1 => ?_⟩
      have i0 : t.NO ≤ i := i0
      rw [obt_upd F.wf.lo rg (by omega), if_neg (by omega), K i (by omega) i1]
      unfold kindAt
      rw [if_neg (by omega), if_neg (by omega), if_neg (by omega), if_neg (by omega), if_neg (by omega), if_neg (by omega), if_neg (by omega), if_neg (by omega), if_neg (by omega)]
    obtain ⟨sp, nx, v', st', hr, hI⟩ := loop_ok a0 a1 w1 h1.2.2 ⟨h1.1, h1.2.1⟩ a1.length 2000 0 0 9 _ w (by decide) (by omega) (by omega) (by omega) ⟨h', iw, fi, by rw [o3]; exact k1, by rw [o3], by rw [o3]; exact u1, u5, u4⟩
    rw [e, cond_false, hB, Option.bind_some, at_obj F.wf rg, Option.bind_some]
    have hw' : ref10_State_Words.f 2000 ({ t with Objs := t.Objs.set (3 : Int).toNat ({ obt t 3 with Size := a0 } : ref10_Obj) } : ref10_State) = some w := hw
    rw [hw', Option.bind_some, hr, Option.bind_some]
    simp only [Brk.go]
    obtain ⟨h, hv, fi, k3, sz, us, cap, no⟩ := hI
    have wo := h.obj 3 (by decide) (by decide)
    have us' := wo.used
    have f1 : fld v' 3 1 = a0 := by rw [hv.fv h rg (by decide), ob_own h _ rg (by omega), own1 k3, ← sz]; rfl
    have f2 : fld v' 3 2 = sp := by rw [hv.fv h rg (by decide), ob_own h _ rg (by omega), own1 k3, ← us]; rfl
    have hk1 := (hv.kind h (i := 3) (k := 1) (by decide)).2 ⟨by decide, by decide, k3⟩
    rw [decide_eq_true (show sp ≤ a0 by omega), Bool.and_self, cond_true, left_ok (hv.good h).1, if_pos hk1, f1, f2, if_neg (by omega), Option.bind_some, Option.bind_some]
    simp only []
    rw [w64_id (by omega) (by omega), beq_self_eq_true, Bool.true_and, decide_eq_true (by have := fi.no; omega)]
  · have e : (((decide (a0 < 0)) || (decide (1000 < a0))) || (decide (60 < (a1.length : Int)))) = true := by
      rw [← Bool.not_eq_false]; simp; omega
    rw [e]; rfl

theorem own : ownKnob Try.prog.godebug = none := by kernel_rfl
theorem laidOut : laidOutB Try.prog = true := by kernel_rfl
set_option maxRecDepth 100000 in
theorem lifted (os : Os) (started : os.Started) (H : Type) (enc : TypeId × Value → H) :
    ReturnsInHanded {} Try.checked os 6 .any (Rows.untypedOnceSpec.pre6 enc Try.prog Try.f6 Rows.untypedOnceRow.domain false) (Rows.untypedOnceSpec.post enc Try.prog Try.f6 false true false false) := by
  refine returnsInHanded_of_change (C := Try.checked) own started (by kernel_rfl) Try.func6
    (ChangeSpec.witness6 (enc := enc) (C := Try.checked) false ⟨#[], #[.int .i64 0, .slice none 0 0], []⟩ 8 (by kernel_rfl) (by kernel_rfl) (by kernel_rfl) (by kernel_rfl)) ?_
  intro W base args ds gs before hval0 hW hcnd _
  have hval : ∀ (j : Nat) t v, Try.f6.params[j]? = some t → args[j]? = some v → Value.okWide Try.prog W .any base t v := hval0
  have hW' := hW
  obtain ⟨p, q, hA0, hV, rfl, hfz, hnd⟩ := hW
  have hA : DataW.TrodAll enc Try.prog W 0 (fun _ => true) true Try.f6.params.toList args.toList ds p := hA0
  rw [Try.params6] at hA hval
  obtain ⟨v0, vs0, d0, ds0, p0, q0, hargs, rfl, rfl, h0, r0⟩ := trodAll_cons hA
  obtain ⟨v1, vs1, d1, ds1, p1, q1, rfl, rfl, rfl, h1, r1⟩ := trodAll_cons r0
  obtain ⟨rfl, rfl, rfl⟩ := trodAll_nil r1
  obtain rfl : args = #[v0, v1] := by cases args; simp_all
  obtain ⟨rfl, rfl⟩ := trodVars_none hV
  obtain ⟨a0, rfl, rfl, rfl, w0⟩ := open_int Try.underlying3 (hval 0 3 v0 rfl rfl) h0
  obtain ⟨a1, r1', w1, _⟩ := open_sl (K := ek_law13_Deed) pa_law13_Deed Try.underlying48 (by kernel_rfl) (hval 1 48 v1 rfl rfl) h1
  obtain ⟨k, hk⟩ := ok a0 a1 w0 w1
  refine (Ct.law (law13_UntypedOnce.ct _ _ a0 a1 _ hk) (W := W) r1').mono fun e W' ⟨he, hg⟩ => ?_
  subst he
  exact ⟨_, rfl, law_post hW' laidOut (by kernel_rfl) hg (by kernel_rfl) Try.underlying4 rfl rfl⟩
theorem over : Rows.untypedOnceRow.holds Try.pinned (OpenSpec.ofChange Rows.untypedOnceSpec) :=
  OpenClaim.holds_of_wide 6 Try.f6 rfl rfl rfl rfl rfl rfl rfl ⟨rfl, rfl, rfl, rfl, rfl⟩ rfl rfl rfl rfl rfl (by kernel_rfl) Try.func6 (by kernel_rfl)
    (of_decide_eq_true (by kernel_rfl)) (by unfold Func.isWrapper; first | (rw [if_pos (by decide +kernel)]; kernel_rfl) | (rw [if_neg (by decide +kernel)]; exact ⟨rfl, rfl⟩))
    (fun os started H enc _ => lifted os started H enc)
theorem proved : Rows.UntypedOnceSaid :=
  over
#print axioms proved
end Go.Proofs.Ytklkbgacjegplaa.untypedOnce
