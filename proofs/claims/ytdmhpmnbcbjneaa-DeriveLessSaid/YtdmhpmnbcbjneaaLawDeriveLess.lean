/- The given statement 'DeriveLess' of the given program: whatever the input, the law answers true and the input reads as it did. On no condition. -/
import Derived.Test.YtdmhpmnbcbjneaaFnDeriveLess2
import Derived.Test.YtdmhpmnbcbjneaaFr1
import Derived.Test.YtdmhpmnbcbjneaaPlDeriveLess2
import Derived.Test.YtdmhpmnbcbjneaaRows
set_option linter.all false
namespace Go.Proofs.Ytdmhpmnbcbjneaa.deriveLess
open Go.ChangeShapes Go.WideShapes Go.ChangeAt Go.RowKit Go.Sl
def wf_law12_Deed (x : law12_Deed) : Prop := (fits .i64) x.What ∧ (fits .i64) x.A ∧ (fits .i64) x.B ∧ (fits .i64) x.M ∧ (fits .i64) x.N
theorem pa_law12_Deed : Parse Try.prog 30 (fun x : law12_Deed => [.int .i64 x.What, .int .i64 x.A, .int .i64 x.B, .int .i64 x.M, .int .i64 x.N]) wf_law12_Deed := by
  intro H enc w base sp hd n cs x h
  obtain ⟨xs, m, -, -, hl, hx, hf⟩ := DataW.trod_struct Try.underlying30 h
  rw [show Try.prog.cellsOf 30 = 5 by kernel_rfl] at hl
  obtain ⟨a0, e0, w0⟩ := parse_field (i := 0) (o := 0) (sz := 1) hx hf (parse_int Try.underlying3) rfl rfl rfl (by kernel_rfl)
  obtain ⟨a1, e1, w1⟩ := parse_field (i := 1) (o := 1) (sz := 1) hx hf (parse_int Try.underlying3) rfl rfl rfl (by kernel_rfl)
  obtain ⟨a2, e2, w2⟩ := parse_field (i := 2) (o := 2) (sz := 1) hx hf (parse_int Try.underlying3) rfl rfl rfl (by kernel_rfl)
  obtain ⟨a3, e3, w3⟩ := parse_field (i := 3) (o := 3) (sz := 1) hx hf (parse_int Try.underlying3) rfl rfl rfl (by kernel_rfl)
  obtain ⟨a4, e4, w4⟩ := parse_field (i := 4) (o := 4) (sz := 1) hx hf (parse_int Try.underlying3) rfl rfl rfl (by kernel_rfl)
  clear hf hx h
  match cs, hl with
  | [c0, c1, c2, c3, c4], _ =>
    simp at e0 e1 e2 e3 e4
    subst e0 e1 e2 e3 e4
    exact ⟨⟨a0, a1, a2, a3, a4⟩, rfl, w0, w1, w2, w3, w4⟩

open Go.Proofs
structure II (st : ref10_State) (v : List Int) : Prop where
  h : WF st
  hv : IsW st v
  di : DI st
/-- All capabilities from slot i on. -/
theorem had_ok {st : ref10_State} {v : List Int} (h : WF st) (hv : IsW st v) : ∀ (m k : Nat) (i : Int) (acc : List api_Cap), 0 ≤ i → i + m = 96 → m + 100 < k → acc.length = i.toNat → (∀ j : Nat, j < acc.length → acc[j]? = some (Cst st j)) → ∃ had, law12_DeriveLess.l2 k (i, acc, v) = some (had, v) ∧ had.length = 96 ∧ ∀ j : Nat, j < 96 → had[j]? = some (Cst st j) := by
  intro m
  induction m with
  | zero =>
    intro k i acc h0 h1 hk hl hc
    obtain ⟨k, rfl⟩ : ∃ q, k = q + 1 := ⟨k - 1, by omega⟩
    unfold law12_DeriveLess.l2
    rw [decide_eq_false (by omega)]
    exact ⟨acc, rfl, by omega, fun j hj => hc j (by omega)⟩
  | succ m ih =>
    intro k i acc h0 h1 hk hl hc
    obtain ⟨k, rfl⟩ : ∃ q, k = q + 1 := ⟨k - 1, by omega⟩
    unfold law12_DeriveLess.l2
    have ii : InSlot i 0 := ⟨h0, by omega, by decide, by decide⟩
    rw [decide_eq_true (by omega), cond_true, cap_pl h hv i (by omega), if_pos ii, Option.bind_some]
    simp only []
    rw [app_ok (by simp; omega), Option.bind_some, w64_id (by omega) (by omega)]
    refine ih k (i + 1) _ (by omega) (by omega) (by omega) (by simp; omega) fun j hj => ?_
    by_cases q : j < acc.length
    · rw [List.getElem?_append_left q]; exact hc j q
    · have e : j = acc.length := by simp at hj; omega
      rw [e, List.getElem?_append_right (Nat.le_refl _), Nat.sub_self, hl, show ((i.toNat : Nat) : Int) = i by omega]; rfl
theorem met_l (had : List api_Cap) (c : api_Cap) (hl : had.length = 96) : ∀ (m k : Nat) (i : Int) (b : Bool), 0 ≤ i → i + m = 96 → m < k → ∃ r, law12_DeriveLess.l4 had c k (i, b) = some r ∧ (b = true → r = true) ∧ ((∃ j : Nat, i ≤ j ∧ j < 96 ∧ ∃ d, had[j]? = some d ∧ d.Kind ≠ 0 ∧ within c d) → r = true) := by
  intro m
  induction m with
  | zero =>
    intro k i b h0 h1 hk
    obtain ⟨k, rfl⟩ : ∃ q, k = q + 1 := ⟨k - 1, by omega⟩
    unfold law12_DeriveLess.l4
    rw [decide_eq_false (by omega)]
    exact ⟨b, rfl, id, fun ⟨j, j0, j1, _⟩ => by omega⟩
  | succ m ih =>
    intro k i b h0 h1 hk
    obtain ⟨k, rfl⟩ : ∃ q, k = q + 1 := ⟨k - 1, by omega⟩
    unfold law12_DeriveLess.l4
    rw [decide_eq_true (by omega), cond_true, w64_id (by omega) (by omega)]
    have hx : at_ had i = some (had[i.toNat]'(by omega)) := by unfold at_; rw [decide_eq_true h0, cond_true, List.getElem?_eq_getElem]
    generalize hd : had[i.toNat]'(by omega) = d at hx
    have hd2 : had[i.toNat]? = some d := by rw [← hd]; exact List.getElem?_eq_getElem (by omega)
    rw [hx, Option.bind_some]
    cases b with
    | true =>
      rw [cond_true, Option.bind_some]
      obtain ⟨r, e, r1, r2⟩ := ih k (i + 1) true (by omega) (by omega) (by omega)
      exact ⟨r, e, r1, fun _ => r1 rfl⟩
    | false =>
      obtain ⟨w, hw, hw2⟩ := within_ok c d
      rw [cond_false, Option.bind_some, hw, Option.bind_some]
      by_cases kd : d.Kind = 0
      · have e : (d.Kind != 0) = false := by simpa using kd
        rw [e, cond_false, Option.bind_some]
        obtain ⟨r, e, r1, r2⟩ := ih k (i + 1) false (by omega) (by omega) (by omega)
        refine ⟨r, e, (fun z => by cases z), fun ⟨j, j0, j1, d', q1, q2, q3⟩ => ?_⟩
        by_cases ej : (j : Int) = i
        · rw [show j = i.toNat by omega, hd2] at q1
          injection q1 with q1
          rw [← q1] at q2; exact absurd kd q2
        · exact r2 ⟨j, by omega, j1, d', q1, q2, q3⟩
      · have e : (d.Kind != 0) = true := by simpa using kd
        rw [e, cond_true, Option.bind_some]
        obtain ⟨r, e, r1, r2⟩ := ih k (i + 1) w (by omega) (by omega) (by omega)
        refine ⟨r, e, (fun z => by cases z), fun ⟨j, j0, j1, d', q1, q2, q3⟩ => ?_⟩
        by_cases ej : (j : Int) = i
        · rw [show j = i.toNat by omega, hd2] at q1
          injection q1 with q1
          rw [← q1] at q3
          exact r1 (hw2 q3)
        · exact r2 ⟨j, by omega, j1, d', q1, q2, q3⟩
theorem l3_ok {st st' : ref10_State} {v : List Int} (h : WF st') (hv : IsW st' v) (le : Le st st') (had : List api_Cap) (hl : had.length = 96) (hh : ∀ j : Nat, j < 96 → had[j]? = some (Cst st j)) : ∀ (m k : Nat) (i : Int), 0 ≤ i → i + m = 96 → m + 200 < k → law12_DeriveLess.l3 had k (i, v) = some (Brk.nx v) := by
  intro m
  induction m with
  | zero =>
    intro k i h0 h1 hk
    obtain ⟨k, rfl⟩ : ∃ q, k = q + 1 := ⟨k - 1, by omega⟩
    unfold law12_DeriveLess.l3
    rw [decide_eq_false (by omega)]; rfl
  | succ m ih =>
    intro k i h0 h1 hk
    obtain ⟨k, rfl⟩ : ∃ q, k = q + 1 := ⟨k - 1, by omega⟩
    unfold law12_DeriveLess.l3
    have ii : InSlot i 0 := ⟨h0, by omega, by decide, by decide⟩
    have nx := ih k (i + 1) (by omega) (by omega) (by omega)
    rw [decide_eq_true (by omega), cond_true, cap_pl h hv i (by omega), if_pos ii, Option.bind_some, w64_id (x := i + 1) (by omega) (by omega)]
    simp only []
    by_cases kz : (slt st' i).Cap.Kind = 0
    · have e : ((slt st' i).Cap.Kind == 0) = true := by simpa using kz
      rw [e, cond_true]; exact nx
    · have e : ((slt st' i).Cap.Kind == 0) = false := by simpa using kz
      obtain ⟨j, j0, j1, jk, jw⟩ := le i h0 (by omega) kz
      obtain ⟨r, er, _, r2⟩ := met_l had (slt st' i).Cap hl 96 k 0 false (by decide) (by decide) (by omega)
      have rt : r = true := r2 ⟨j.toNat, by omega, by omega, Cst st j, by rw [hh j.toNat (by omega), show ((j.toNat : Nat) : Int) = j by omega], jk, jw⟩
      rw [e, cond_false, er, Option.bind_some, rt, Bool.not_true, cond_false]; exact nx
theorem loop_ok (a1 : List law12_Deed) (hw : ∀ x ∈ a1, wf_law12_Deed x) (hl : a1.length ≤ 100) : ∀ (m k : Nat) (i : Int) (st : ref10_State) (v : List Int), 0 ≤ i → i ≤ a1.length → (a1.length : Int) - i = m → m + 1500 < k → II st v → ∃ st' v', law12_DeriveLess.l1 a1 k (i, v) = some (Brk.nx v') ∧ II st' v' := by
  intro m
  induction m with
  | zero =>
    intro k i st v h0 h1 h2 hk hI
    obtain ⟨k, rfl⟩ : ∃ q, k = q + 1 := ⟨k - 1, by omega⟩
    unfold law12_DeriveLess.l1
    rw [decide_eq_false (by omega)]
    exact ⟨st, v, rfl, hI⟩
  | succ m ih =>
    intro k i st v h0 h1 h2 hk hI
    obtain ⟨k, rfl⟩ : ∃ q, k = q + 1 := ⟨k - 1, by omega⟩
    obtain ⟨x, hx, hm⟩ := at_some h0 (by omega : i < (a1.length : Int))
    obtain ⟨h, hv, di⟩ := hI
    have wf := hw x hm
    obtain ⟨n, is, st', v', s1, s2, D⟩ := do_pl h hv di x wf.1 (k := k) (by omega)
    obtain ⟨had, e1, e2, e3⟩ := had_ok h hv 96 k 0 [] (by decide) (by decide) (by omega) rfl (fun j hj => by simp at hj)
    unfold law12_DeriveLess.l1
    rw [decide_eq_true (by omega), cond_true, e1, Option.bind_some]
    simp only []
    rw [hx, Option.bind_some, s2, Option.bind_some]
    simp only []
    rw [l3_ok D.h D.hv D.le had e2 e3 96 k 0 (by decide) (by decide) (by omega), Option.bind_some, w64_id (by omega) (by omega)]
    exact ih k (i + 1) st' v' (by omega) (by omega) (by omega) (by omega) ⟨D.h, D.hv, D.di⟩
/-- How many slots are below another one. -/
def cnt (st : ref10_State) : Nat := (List.range 96).countP fun j : Nat => decide (0 ≤ Pst st j)
theorem cnt_lt {st st' : ref10_State} {L : Int} (hL : 0 ≤ Pst st L) (D : Dl st st' L) : cnt st' < cnt st := by
  have rl := D.ina.rg
  have S := D.slots
  have e : ∀ j : Nat, j < 96 → Pst st' j = uP (Pst st) L j := fun j hj => S.par j (by omega) (by omega)
  unfold cnt
  have key : (List.range 96).countP (fun j : Nat => decide (0 ≤ Pst st' j)) = (List.range 96).countP (fun j : Nat => decide (0 ≤ uP (Pst st) L j)) := List.countP_congr fun j hj => by
    rw [e j (List.mem_range.1 hj)]
  rw [key]
  refine countP_lt (fun j hj => ?_) L.toNat (List.mem_range.2 (by omega)) (by rw [show ((L.toNat : Nat) : Int) = L by omega]; simpa using hL) (by rw [show ((L.toNat : Nat) : Int) = L by omega]; unfold uP; rw [if_pos rfl]; rfl)
  unfold uP at hj
  split at hj
  · simp at hj
  · exact hj
theorem end_ok (a2 : Int) : ∀ (m k : Nat) (n : Int) (st : ref10_State) (v : List Int), 0 ≤ n → n + m = 97 → m + 1400 < k → II st v → cnt st < m → law12_DeriveLess.l6 a2 true k (n, v) = some (Brk.ret true) := by
  intro m
  induction m with
  | zero => intro k n st v h0 h1 hk hI hc; omega
  | succ m ih =>
    intro k n st v h0 h1 hk hI hc
    obtain ⟨k, rfl⟩ : ∃ q, k = q + 1 := ⟨k - 1, by omega⟩
    obtain ⟨h, hv, di⟩ := hI
    obtain ⟨is, q, st', v', s1, s2, D, o1, o2⟩ := one_pl h hv di a2 (k := k) (by omega)
    unfold law12_DeriveLess.l6
    rw [decide_eq_true (by omega), cond_true, s2, Option.bind_some]
    simp only []
    by_cases ia : InSlot a2 0
    · obtain ⟨q0, q1⟩ := o2 ia
      subst q0
      have z0 : eN' 0 = none := rfl
      rw [z0, Option.isSome_none, cond_false]
      cases is with
      | false => rfl
      | true =>
        obtain ⟨L, pL, dL⟩ := q1 rfl
        have := cnt_lt pL dL
        rw [Bool.not_true, cond_false, w64_id (by omega) (by omega)]
        exact ih k (n + 1) st' v' (by omega) (by omega) (by omega) ⟨D.h, D.hv, D.di⟩ (by omega)
    · obtain ⟨q0, q1⟩ := o1 ia
      subst q1
      have z0 : eN' 2 = some 2 := rfl
      have e : (decide (a2 < 0) || decide (95 < a2)) = true := by
        unfold InSlot at ia
        simp; omega
      rw [z0, e]; rfl
theorem ok (a0 : Int) (a1 : List law12_Deed) (a2 : Int) (w0 : (Lit.int .i64 a0).wf = true) (w1 : ∀ x ∈ a1, wf_law12_Deed x) (w2 : (Lit.int .i64 a2).wf = true) : ∃ k, law12_DeriveLess.f k a0 a1 a2 = some true := by
  refine ⟨2000, ?_⟩
  have hu : law12_up.f 2000 = some true := by decide +kernel
  unfold law12_DeriveLess.f
  rw [hu, Option.bind_some]
  by_cases h1 : 0 ≤ a0 ∧ a0 ≤ 7 ∧ a1.length ≤ 60
  · have e : (((decide (a0 < 0)) || (decide (7 < a0))) || (decide (60 < (a1.length : Int)))) = false := by simp; omega
    obtain ⟨t, hB, F, K⟩ := boot_ok (n := a0) (by omega)
    obtain ⟨w, hw, hiw⟩ := words_ok F.wf (k := 2000) (by decide)
    obtain ⟨st', v', hr, hI⟩ := loop_ok a1 w1 (by omega) a1.length 2000 0 t w (by decide) (by omega) (by omega) (by omega) ⟨F.wf, hiw, di_fresh F.par⟩
    have hc : cnt st' ≤ 96 := Nat.le_trans List.countP_le_length (by simp)
    rw [e, cond_false, hB, Option.bind_some, hw, Option.bind_some, hr, Option.bind_some]
    simp only [Brk.go]
    rw [end_ok a2 97 2000 0 st' v' (by decide) (by decide) (by decide) hI (by omega)]; rfl
  · have e : (((decide (a0 < 0)) || (decide (7 < a0))) || (decide (60 < (a1.length : Int)))) = true := by
      rw [← Bool.not_eq_false]; simp; omega
    rw [e]; rfl

theorem own : ownKnob Try.prog.godebug = none := by kernel_rfl
theorem laidOut : laidOutB Try.prog = true := by kernel_rfl
set_option maxRecDepth 100000 in
theorem lifted (os : Os) (started : os.Started) (H : Type) (enc : TypeId × Value → H) :
    ReturnsInHanded {} Try.checked os 4 .any (Rows.deriveLessSpec.pre6 enc Try.prog Try.f4 Rows.deriveLessRow.domain false) (Rows.deriveLessSpec.post enc Try.prog Try.f4 false true false false) := by
  refine returnsInHanded_of_change (C := Try.checked) own started (by kernel_rfl) Try.func4
    (ChangeSpec.witness6 (enc := enc) (C := Try.checked) false ⟨#[], #[.int .i64 0, .slice none 0 0, .int .i64 0], []⟩ 8 (by kernel_rfl) (by kernel_rfl) (by kernel_rfl) (by kernel_rfl)) ?_
  intro W base args ds gs before hval0 hW hcnd _
  have hval : ∀ (j : Nat) t v, Try.f4.params[j]? = some t → args[j]? = some v → Value.okWide Try.prog W .any base t v := hval0
  have hW' := hW
  obtain ⟨p, q, hA0, hV, rfl, hfz, hnd⟩ := hW
  have hA : DataW.TrodAll enc Try.prog W 0 (fun _ => true) true Try.f4.params.toList args.toList ds p := hA0
  rw [Try.params4] at hA hval
  obtain ⟨v0, vs0, d0, ds0, p0, q0, hargs, rfl, rfl, h0, r0⟩ := trodAll_cons hA
  obtain ⟨v1, vs1, d1, ds1, p1, q1, rfl, rfl, rfl, h1, r1⟩ := trodAll_cons r0
  obtain ⟨v2, vs2, d2, ds2, p2, q2, rfl, rfl, rfl, h2, r2⟩ := trodAll_cons r1
  obtain ⟨rfl, rfl, rfl⟩ := trodAll_nil r2
  obtain rfl : args = #[v0, v1, v2] := by cases args; simp_all
  obtain ⟨rfl, rfl⟩ := trodVars_none hV
  obtain ⟨a0, rfl, rfl, rfl, w0⟩ := open_int Try.underlying3 (hval 0 3 v0 rfl rfl) h0
  obtain ⟨a1, r1', w1, _⟩ := open_sl (K := ek_law12_Deed) pa_law12_Deed Try.underlying22 (by kernel_rfl) (hval 1 22 v1 rfl rfl) h1
  obtain ⟨a2, rfl, rfl, rfl, w2⟩ := open_int Try.underlying3 (hval 2 3 v2 rfl rfl) h2
  obtain ⟨k, hk⟩ := ok a0 a1 a2 w0 w1 w2
  refine (Ct.law (law12_DeriveLess.ct _ _ a0 a1 a2 _ hk) (W := W) r1').mono fun e W' ⟨he, hg⟩ => ?_
  subst he
  exact ⟨_, rfl, law_post hW' laidOut (by kernel_rfl) hg (by kernel_rfl) Try.underlying4 rfl rfl⟩
theorem over : Rows.deriveLessRow.holds Try.pinned (OpenSpec.ofChange Rows.deriveLessSpec) :=
  OpenClaim.holds_of_wide 4 Try.f4 rfl rfl rfl rfl rfl rfl rfl ⟨rfl, rfl, rfl, rfl, rfl⟩ rfl rfl rfl rfl rfl (by kernel_rfl) Try.func4 (by kernel_rfl)
    (of_decide_eq_true (by kernel_rfl)) (by unfold Func.isWrapper; first | (rw [if_pos (by decide +kernel)]; kernel_rfl) | (rw [if_neg (by decide +kernel)]; exact ⟨rfl, rfl⟩))
    (fun os started H enc _ => lifted os started H enc)
theorem proved : Rows.DeriveLessSaid :=
  over
#print axioms proved
end Go.Proofs.Ytdmhpmnbcbjneaa.deriveLess
