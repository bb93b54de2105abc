/- The given statement 'CdtSound' of the given program: whatever the input, the law answers true and the input reads as it did. On no condition. -/
import Derived.Test.YtbhboofhcgkgfaaFnCdtSound1
import Derived.Test.YtbhboofhcgkgfaaSlLaw
import Derived.Test.YtbhboofhcgkgfaaP10SlRpCdtSound
import Derived.Test.YtbhboofhcgkgfaaP10InitCdtSound
import Derived.Test.YtbhboofhcgkgfaaP10PickCdtSound
import Derived.Test.YtbhboofhcgkgfaaP10CodeCdtSound
import Derived.Test.YtbhboofhcgkgfaaFnCdtSound0
import Derived.Test.YtbhboofhcgkgfaaRows
set_option linter.all false
namespace Go.Proofs.Ytbhboofhcgkgfaa.cdtSound
open Go.ChangeShapes Go.WideShapes Go.ChangeAt Go.RowKit Go.Sl
def wf_law10_Deed (x : law10_Deed) : Prop := (fits .i64) x.What ∧ (fits .i64) x.A ∧ (fits .i64) x.B
theorem pa_law10_Deed : Parse Try.prog 29 (fun x : law10_Deed => [.int .i64 x.What, .int .i64 x.A, .int .i64 x.B]) wf_law10_Deed := by
  intro H enc w base sp hd n cs x h
  obtain ⟨xs, m, -, -, hl, hx, hf⟩ := DataW.trod_struct Try.underlying29 h
  rw [show Try.prog.cellsOf 29 = 3 by kernel_rfl] at hl
  obtain ⟨a0, e0, w0⟩ := parse_field (i := 0) (o := 0) (sz := 1) hx hf (parse_int Try.underlying3) rfl rfl rfl (by kernel_rfl)
  obtain ⟨a1, e1, w1⟩ := parse_field (i := 1) (o := 1) (sz := 1) hx hf (parse_int Try.underlying3) rfl rfl rfl (by kernel_rfl)
  obtain ⟨a2, e2, w2⟩ := parse_field (i := 2) (o := 2) (sz := 1) hx hf (parse_int Try.underlying3) rfl rfl rfl (by kernel_rfl)
  clear hf hx h
  match cs, hl with
  | [c0, c1, c2], _ =>
    simp at e0 e1 e2
    subst e0 e1 e2
    exact ⟨⟨a0, a1, a2⟩, rfl, w0, w1, w2⟩

open Go.Proofs
structure II (st : ref10_State) (v : List Int) : Prop where
  h : WF st
  hv : IsW st v
def newB : Bool := match ref10_New.f 2000 with
  | some t => wfB t && decide ((ref10_State_Words.f 2000 t).isSome) && (match ref10_State_Words.f 2000 t with | some w => w == List.replicate 738 0 | none => false)
  | none => false
theorem new_b : newB = true := by decide +kernel
theorem new_ok : ∃ t, ref10_New.f 2000 = some t ∧ II t (List.replicate 738 0) := by
  have h := new_b
  unfold newB at h
  cases hB : ref10_New.f 2000 with
  | none => simp [hB] at h
  | some t =>
    simp only [hB, Bool.and_eq_true] at h
    have F := fresh_of h.1.1
    obtain ⟨w, hw, hi⟩ := words_ok F.wf (k := 2000) (by decide)
    rw [hw] at h
    have e : w = List.replicate 738 0 := eq_of_beq h.2
    rw [e] at hi
    exact ⟨t, rfl, F.wf, hi⟩
theorem above_ok {st : ref10_State} (h : WF st) (a : Int) : ∀ (m k : Nat) (n b : Int), 0 ≤ n → n + m = 97 → m < k → -1 ≤ b → b < 96 → ∃ r, law10_above.l1 st a k (n, b) = some r ∧ (r = Brk.ret true ∨ r = Brk.nx ())
  | 0, k, n, b, h0, h1, hk, b0, b1 => by
    obtain ⟨k, rfl⟩ : ∃ q, k = q + 1 := ⟨k - 1, by omega⟩
    unfold law10_above.l1
    rw [decide_eq_false (by omega), Bool.false_and]
    exact ⟨_, rfl, .inr rfl⟩
  | m + 1, k, n, b, h0, h1, hk, b0, b1 => by
    obtain ⟨k, rfl⟩ : ∃ q, k = q + 1 := ⟨k - 1, by omega⟩
    unfold law10_above.l1
    rw [decide_eq_true (by omega), Bool.true_and]
    by_cases c : 0 ≤ b
    · rw [decide_eq_true c, cond_true]
      by_cases e : a = b
      · have e1 : (a == b) = true := by simpa using e
        rw [e1]
        exact ⟨_, rfl, .inl rfl⟩
      · have e1 : (a == b) = false := by simpa using e
        rw [e1, cond_false, at_slot h.ls ⟨c, b1⟩, Option.bind_some, w64_id (by omega) (by omega)]
        have p := h.par b c b1
        exact above_ok h a m k (n + 1) _ (by omega) (by omega) (by omega) p.1 p.2
    · rw [decide_eq_false c]
      exact ⟨_, rfl, .inr rfl⟩
theorem above_f {st : ref10_State} (h : WF st) (a b : Int) (hb : 0 ≤ b ∧ b < 96) {k : Nat} (hk : 100 ≤ k) : ∃ r, law10_above.f k st a b = some r := by
  unfold law10_above.f
  obtain ⟨r, e, c⟩ := above_ok h a 97 k 0 b (by decide) (by decide) (by omega) (by omega) hb.2
  rw [e, Option.bind_some]
  rcases c with rfl | rfl
  · exact ⟨_, rfl⟩
  · exact ⟨_, rfl⟩
theorem link_any {s : List Int} (g : GoodU s) (a b : Int) : ∃ r s', VM.run plainI (cdt_Link.f a b) s = some (r, s') ∧ GoodU s' := by
  refine ⟨_, _, link_ok g a b, ?_⟩
  split
  · rename_i c
    unfold linkBad at c
    by_cases q : InSlot a 0 ∧ InSlot b 0
    · exact goodU_linkTo g a b q.1 q.2
    · rw [if_pos q] at c; cases c
  · exact g
theorem unlink_any {s : List Int} (g : GoodU s) (a : Int) : ∃ r s', VM.run plainI (cdt_Unlink.f a) s = some (r, s') ∧ GoodU s' := by
  refine ⟨_, _, unlink_ok g a, ?_⟩
  split
  · exact goodU_unlink g a
  · exact g
theorem loop_ok (a1 : List law10_Deed) (hw : ∀ x ∈ a1, wf_law10_Deed x) (hl : a1.length ≤ 120) : ∀ (m k : Nat) (i : Int) (st : ref10_State) (v o : List Int), 0 ≤ i → i ≤ a1.length → (a1.length : Int) - i = m → m + 1500 < k → II st v → GoodU o → ∃ st' v' o', law10_CdtSound.l1 a1 k (i, st.Slots, st.Objs, st.NS, st.NO, v, o) = some (Brk.nx (st'.Slots, st'.Objs, st'.NS, st'.NO, v', o')) ∧ II st' v' := by
  intro m
  induction m with
  | zero =>
    intro k i st v o h0 h1 h2 hk hI go
    obtain ⟨k, rfl⟩ : ∃ q, k = q + 1 := ⟨k - 1, by omega⟩
    unfold law10_CdtSound.l1
    rw [decide_eq_false (by omega)]
    exact ⟨st, v, o, rfl, hI⟩
  | succ m ih =>
    intro k i st v o h0 h1 h2 hk hI go
    obtain ⟨k, rfl⟩ : ∃ q, k = q + 1 := ⟨k - 1, by omega⟩
    obtain ⟨x, hx, hm⟩ := at_some h0 (by omega : i < (a1.length : Int))
    obtain ⟨h, hv⟩ := hI
    have wf := hw x hm
    have eta : (⟨st.Slots, st.Objs, st.NS, st.NO⟩ : ref10_State) = st := rfl
    have hp : law10_Pick.f x.What 4 = some (pick x.What 4) := pick_ok wf.1 (by decide) (by decide)
    have hr := pick_lt x.What (n := 4) (by decide)
    have e1 : w64 (i + 1) = i + 1 := w64_id (by omega) (by omega)
    have inn : ((((decide (0 ≤ x.A)) && (decide (x.A < 96))) && (decide (0 ≤ x.B))) && (decide (x.B < 96))) = decide (InSlot x.A 0 ∧ InSlot x.B 0) := by
      unfold InSlot
      by_cases q1 : 0 ≤ x.A <;> by_cases q2 : x.A < 96 <;> by_cases q3 : 0 ≤ x.B <;> by_cases q4 : x.B < 96 <;> simp [q1, q2, q3, q4]
    have next : ∀ (st' : ref10_State) (v' o' : List Int), WF st' → IsW st' v' → GoodU o' → ∃ st2 v2 o2, law10_CdtSound.l1 a1 k (i + 1, st'.Slots, st'.Objs, st'.NS, st'.NO, v', o') = some (Brk.nx (st2.Slots, st2.Objs, st2.NS, st2.NO, v2, o2)) ∧ II st2 v2 := fun st' v' o' h' hv' g' => ih k (i + 1) st' v' o' (by omega) (by omega) (by omega) (by omega) ⟨h', hv'⟩ g'
    obtain ⟨l, k1, k2, _⟩ := kids_any go.1 x.B (k := k) (by omega)
    have lf := leaf_ok go.1 x.A (k := k) (by omega)
    unfold law10_CdtSound.l1
    rw [decide_eq_true (by omega), cond_true, hx, Option.bind_some, k1, Option.bind_some]
    simp only []
    rw [decide_eq_false (by omega : ¬ (96 : Int) < (l.length : Int)), cond_false, lf, Option.bind_some]
    simp only []
    have lr : ¬ (95 : Int) < (if InSlot x.A 0 then leafN o 96 x.A else -1) := by
      split
      · rename_i c
        have := leafN_rg o 96 x.A c.2.1; omega
      · omega
    rw [decide_eq_false lr, Option.bind_some]
    simp only [cond_false]
    rw [hp, Option.bind_some, eta, e1, inn]
    generalize pick x.What 4 = p at hr
    by_cases p0 : p < 2
    · rw [decide_eq_true p0, cond_true]
      obtain ⟨r1, o1, l1, g1⟩ := link_any go x.A x.B
      rw [l1, Option.bind_some]
      simp only []
      by_cases c : InSlot x.A 0 ∧ InSlot x.B 0
      · rw [decide_eq_true c, cond_true]
        obtain ⟨b, hb⟩ := above_f h x.A x.B c.2.rg (k := k) (by omega)
        rw [hb, Option.bind_some]
        cases b with
        | true => exact next st v o1 h hv g1
        | false =>
          obtain ⟨n, st', v', s1, s2, s3, s4, s5, s6, s7, _⟩ := link_pl h hv x.A x.B
          simp only [Bool.not_false, cond_true]
          rw [s2, Option.bind_some]
          simp only []
          rw [s1, Option.bind_some]
          exact next st' v' o1 s5 s6 g1
      · rw [decide_eq_false c, cond_false]
        exact next st v o1 h hv g1
    · rw [decide_eq_false p0, cond_false]
      by_cases p2 : p = 2
      · have e : (p == 2) = true := by simpa using p2
        obtain ⟨r1, o1, l1, g1⟩ := unlink_any go x.A
        obtain ⟨n, st', v', s1, s2, s3, s4, s5, s6, _⟩ := unlink_pl h hv x.A (k := k) (by omega)
        rw [e, cond_true, l1, Option.bind_some]
        simp only []
        rw [s2, Option.bind_some]
        simp only []
        rw [s1, Option.bind_some]
        exact next st' v' o1 s5 s6 g1
      · have e : (p == 2) = false := by simpa using p2
        obtain ⟨r1, o1, l1, g1⟩ := replace_any go x.A x.B (k := k) (by omega)
        obtain ⟨n, st', v', s1, s2, s3, s4, s5, s6, _⟩ := replace_pl h hv x.A x.B (k := k) (by omega)
        rw [e, cond_false, l1, Option.bind_some]
        simp only []
        rw [s2, Option.bind_some]
        simp only []
        rw [s1, Option.bind_some]
        exact next st' v' o1 s5 s6 g1
theorem l3_ok {st : ref10_State} {v : List Int} (h : WF st) (hv : IsW st v) {j : Int} (hj : 0 ≤ j ∧ j < 96) : ∀ (m k : Nat) (i : Int), 0 ≤ i → i ≤ (Kst st j).length → ((Kst st j).length : Int) - i = m → m < k → law10_CdtSound.l3 j (Kst st j) k (i, v) = some (Brk.nx v) := by
  have t := tree_st h
  have hl := t.klen hj.1 hj.2
  intro m
  induction m with
  | zero =>
    intro k i h0 h1 h2 hk
    obtain ⟨k, rfl⟩ : ∃ q, k = q + 1 := ⟨k - 1, by omega⟩
    unfold law10_CdtSound.l3
    rw [decide_eq_false (by omega)]; rfl
  | succ m ih =>
    intro k i h0 h1 h2 hk
    obtain ⟨k, rfl⟩ : ∃ q, k = q + 1 := ⟨k - 1, by omega⟩
    unfold law10_CdtSound.l3
    obtain ⟨x, hx, hm⟩ := at_some h0 (show i < ((Kst st j).length : Int) by omega)
    have hx2 := t.kid j hj.1 hj.2 x hm
    rw [decide_eq_true (by omega), cond_true, hx, Option.bind_some, parent_ok (hv.good h).1, Option.bind_some]
    simp only []
    have e : sget v x 1 = j := by rw [Pst_sget h hv ⟨hx2.1, hx2.2.1⟩]; exact hx2.2.2
    rw [e, bne_self_eq_false, cond_false, w64_id (by omega) (by omega)]
    exact ih k (i + 1) (by omega) (by omega) (by omega) (by omega)
theorem l2_ok {st : ref10_State} {v : List Int} (h : WF st) (hv : IsW st v) : ∀ (m k : Nat) (j : Int), 0 ≤ j → j + m = 96 → m + 200 < k → law10_CdtSound.l2 k (j, v) = some (Brk.nx v) := by
  have t := tree_st h
  intro m
  induction m with
  | zero =>
    intro k j h0 h1 hk
    obtain ⟨k, rfl⟩ : ∃ q, k = q + 1 := ⟨k - 1, by omega⟩
    unfold law10_CdtSound.l2
    rw [decide_eq_false (by omega)]; rfl
  | succ m ih =>
    intro k j h0 h1 hk
    obtain ⟨k, rfl⟩ : ∃ q, k = q + 1 := ⟨k - 1, by omega⟩
    unfold law10_CdtSound.l2
    have hl := t.klen h0 (show j < 96 by omega)
    rw [decide_eq_true (by omega), cond_true, kids_tw t (hv.good h).1 (tw_st h hv) ⟨h0, by omega⟩ (by omega), Option.bind_some]
    simp only []
    rw [l3_ok h hv ⟨h0, by omega⟩ (Kst st j).length k 0 (by decide) (by omega) (by omega) (by omega), Option.bind_some, w64_id (by omega) (by omega)]
    exact ih k (j + 1) (by omega) (by omega) (by omega)
/-- Linked and unlinked, all is as it was. -/
theorem back_ok {st : ref10_State} {v : List Int} (h : WF st) (hv : IsW st v) {a b : Int} (ha : 0 ≤ a ∧ a < 96) (hb : 0 ≤ b ∧ b < 96) (hp : sget v a 1 < 0) {k : Nat} (hk : 100 ≤ k) : (a = b ∧ ∃ e, VM.run plainI (cdt_Link.f a b) v = some (some e, v)) ∨ ∃ v', VM.run plainI (cdt_Link.f a b) v = some (none, v') ∧ VM.run plainI (cdt_Unlink.f a) v' = some (none, v) := by
  have i1 : InSlot a 0 := InSlot.of ha (by decide)
  have i2 : InSlot b 0 := InSlot.of hb (by decide)
  have p1 := Pst_sget h hv ha
  have pr := h.par a ha.1 ha.2
  have pm : (slt st a).Parent = -1 := by omega
  by_cases c : a = b
  · refine .inl ⟨c, ?_⟩
    have hb : linkBad v a b = 10 := by unfold linkBad; rw [if_neg (fun q => q ⟨i1, i2⟩), if_pos (.inl c)]
    rw [link_ok (hv.good h), hb]
    exact ⟨10, rfl⟩
  · obtain ⟨n, st1, v1, s1, s2, s3, s4, s5, s6, s7, s8, s9, s10, s11, s12⟩ := link_pl h hv a b
    have n0 := s10 i1 i2 pm c
    obtain ⟨_, _, _, _, S1⟩ := s9 n0
    obtain ⟨n2, st2, v2, t1, t2, t3, t4, t5, t6, t7, t8, t9⟩ := unlink_pl s5 s6 a hk
    obtain ⟨n20, _, S2⟩ := t9 i1
    have q1 : Pst st1 a = b := by show (slt st1 a).Parent = b; rw [S1.par a ha.1 ha.2]; unfold lP; rw [if_pos rfl]
    have S2 := S2 (by rw [q1]; exact hb.1)
    rw [q1] at S2
    refine .inr ⟨v1, by rw [s2, n0]; rfl, ?_⟩
    have key : IsW st2 v := by
      refine hv.slots h (P := Pst st) (K := Kst st) (C := Cst st) ⟨S2.len, fun i i0 i1' => ?_, fun i i0 i1' => ?_, fun i i0 i1' => ?_⟩ (tree_st h) (by rw [t7.ob, s7.ob]) (by rw [t7.ns, s7.ns]) (by rw [t7.no, s7.no]) (SLow.refl h hv) (tw_st h hv) (fun _ _ _ => rfl)
      · rw [S2.par i i0 i1']; unfold uP
        split
        · rename_i e; rw [e]; exact pm.symm
        · rename_i e
          show (slt st1 i).Parent = _
          rw [S1.par i i0 i1']; unfold lP; rw [if_neg e]
      · have kb : Kst st1 b = a :: Kst st b := by show (slt st1 b).Kids = _; rw [S1.kid b hb.1 hb.2]; unfold lK; rw [if_pos rfl]
        rw [S2.kid i i0 i1']; unfold uK
        rw [kb, List.erase_cons_head]
        split
        · rename_i e; rw [e]
        · rename_i e
          show (slt st1 i).Kids = _
          rw [S1.kid i i0 i1']; unfold lK; rw [if_neg e]
      · rw [S2.cap i i0 i1']
        show (slt st1 i).Cap = _
        rw [S1.cap i i0 i1']
    rw [t2, n20, t6.uniq key]; rfl
theorem ok (a0 : List Int) (a1 : List law10_Deed) (a2 a3 : Int) (w0 : ∀ x ∈ a0, fits .u64 x) (w1 : ∀ x ∈ a1, wf_law10_Deed x) (w2 : fits .i64 a2) (w3 : fits .i64 a3) : ∃ k, law10_CdtSound.f k a0 a1 a2 a3 = some true := by
  refine ⟨2000, ?_⟩
  have hu : law10_up.f 2000 = some true := by decide +kernel
  unfold law10_CdtSound.f
  rw [hu, Option.bind_some]
  by_cases h1 : (decide (738 < (a0.length : Int)) || decide (60 < (a1.length : Int))) = true
  · rw [h1]; rfl
  · have e1 := (Bool.not_eq_true _).mp h1
    rw [e1, cond_false]
    simp only [Bool.or_eq_true, decide_eq_true_eq, not_or] at h1
    obtain ⟨t, hB, hI⟩ := new_ok
    have hm : mk_ (0 : Int) 738 = some (List.replicate 738 0) := rfl
    have go : GoodU (cpy (List.replicate 738 (0 : Int)) a0) := by
      have hl : (cpy (List.replicate 738 (0 : Int)) a0).length = 738 := by unfold cpy; rw [List.length_append, List.length_take, List.length_drop, List.length_replicate]; omega
      have hm : ∀ x ∈ cpy (List.replicate 738 (0 : Int)) a0, 0 ≤ x ∧ x ≤ 18446744073709551615 := fun x hx => by
        unfold cpy at hx
        rcases List.mem_append.1 hx with z | z
        · have := fits_u64 (w0 x (List.mem_of_mem_take z))
          omega
        · have := List.eq_of_mem_replicate (List.mem_of_mem_drop z)
          omega
      have key : ∀ j : Nat, 0 ≤ (cpy (List.replicate 738 (0 : Int)) a0).getD j 0 ∧ (cpy (List.replicate 738 (0 : Int)) a0).getD j 0 ≤ 18446744073709551615 := fun j => by
        by_cases q : j < (cpy (List.replicate 738 (0 : Int)) a0).length
        · rw [List.getD, List.getElem?_eq_getElem q]
          exact hm _ (List.getElem_mem q)
        · rw [List.getD, List.getElem?_eq_none (by omega)]; decide
      exact ⟨⟨hl, fun j => (key j).1⟩, fun j => (key j).2⟩
    obtain ⟨st, v, o, hr, h, hv⟩ := loop_ok a1 w1 (by omega) a1.length 2000 0 t (List.replicate 738 0) _ (by decide) (by omega) (by omega) (by omega) hI go
    rw [hm, Option.bind_some, Option.bind_some, hB, Option.bind_some, hr, Option.bind_some]
    simp only [Brk.go]
    rw [l2_ok h hv 96 2000 0 (by decide) (by decide) (by decide), Option.bind_some]
    simp only [Brk.go]
    by_cases c : (((decide (a2 < 0)) || (decide (95 < a2))) || (decide (a3 < 0)) || (decide (95 < a3))) = true
    · rw [c]; rfl
    · have e := (Bool.not_eq_true _).mp c
      simp only [Bool.or_eq_true, decide_eq_true_eq, not_or] at c
      rw [e, cond_false, parent_ok (hv.good h).1, Option.bind_some, Option.bind_some]
      simp only []
      by_cases c2 : 0 ≤ sget v a2 1
      · rw [decide_eq_true c2]; rfl
      · rw [decide_eq_false c2, cond_false, app_ok (by simp [hv.len]), Option.bind_some, List.nil_append]
        rcases back_ok h hv (a := a2) (b := a3) (by omega) (by omega) (by omega) (k := 2000) (by decide) with ⟨q, e, l1⟩ | ⟨v', l1, l2⟩
        · rw [l1, Option.bind_some]
          have : (a2 == a3) = true := by simpa using q
          simp only [Option.isSome_some, cond_true, this, Bool.and_self]
          rw [same_ok hv.len (by decide)]; rfl
        · rw [l1, Option.bind_some]
          simp only [Option.isSome_none, cond_false]
          rw [l2, Option.bind_some]
          simp only [Option.isNone_none, Bool.and_self, cond_true]
          rw [same_ok hv.len (by decide)]; rfl

theorem own : ownKnob Try.prog.godebug = none := by kernel_rfl
theorem laidOut : laidOutB Try.prog = true := by kernel_rfl
set_option maxRecDepth 100000 in
theorem lifted (os : Os) (started : os.Started) (H : Type) (enc : TypeId × Value → H) :
    ReturnsInHanded {} Try.checked os 4 .any (Rows.cdtSoundSpec.pre6 enc Try.prog Try.f4 Rows.cdtSoundRow.domain false) (Rows.cdtSoundSpec.post enc Try.prog Try.f4 false true false false) := by
  refine returnsInHanded_of_change (C := Try.checked) own started (by kernel_rfl) Try.func4
    (ChangeSpec.witness6 (enc := enc) (C := Try.checked) false ⟨#[], #[.slice none 0 0, .slice none 0 0, .int .i64 0, .int .i64 0], []⟩ 8 (by kernel_rfl) (by kernel_rfl) (by kernel_rfl) (by kernel_rfl)) ?_
  intro W base args ds gs before hval0 hW hcnd _
  have hval : ∀ (j : Nat) t v, Try.f4.params[j]? = some t → args[j]? = some v → Value.okWide Try.prog W .any base t v := hval0
  have hW' := hW
  obtain ⟨p, q, hA0, hV, rfl, hfz, hnd⟩ := hW
  have hA : DataW.TrodAll enc Try.prog W 0 (fun _ => true) true Try.f4.params.toList args.toList ds p := hA0
  rw [Try.params4] at hA hval
  obtain ⟨v0, vs0, d0, ds0, p0, q0, hargs, rfl, rfl, h0, r0⟩ := trodAll_cons hA
  obtain ⟨v1, vs1, d1, ds1, p1, q1, rfl, rfl, rfl, h1, r1⟩ := trodAll_cons r0
  obtain ⟨v2, vs2, d2, ds2, p2, q2, rfl, rfl, rfl, h2, r2⟩ := trodAll_cons r1
  obtain ⟨v3, vs3, d3, ds3, p3, q3, rfl, rfl, rfl, h3, r3⟩ := trodAll_cons r2
  obtain ⟨rfl, rfl, rfl⟩ := trodAll_nil r3
  obtain rfl : args = #[v0, v1, v2, v3] := by cases args; simp_all
  obtain ⟨rfl, rfl⟩ := trodVars_none hV
  obtain ⟨a0, r0', w0, _⟩ := open_sl (K := ekI .u64) (parse_int Try.underlying65) Try.underlying26 (by kernel_rfl) (hval 0 26 v0 rfl rfl) h0
  obtain ⟨a1, r1', w1, _⟩ := open_sl (K := ek_law10_Deed) pa_law10_Deed Try.underlying22 (by kernel_rfl) (hval 1 22 v1 rfl rfl) h1
  obtain ⟨a2, rfl, rfl, rfl, w2⟩ := open_int Try.underlying3 (hval 2 3 v2 rfl rfl) h2
  obtain ⟨a3, rfl, rfl, rfl, w3⟩ := open_int Try.underlying3 (hval 3 3 v3 rfl rfl) h3
  obtain ⟨k, hk⟩ := ok a0 a1 a2 a3 w0 w1 w2 w3
  refine (Ct.law (law10_CdtSound.ct _ _ _ a0 a1 a2 a3 _ hk) (W := W) ⟨r0', r1'⟩).mono fun e W' ⟨he, hg⟩ => ?_
  subst he
  exact ⟨_, rfl, law_post hW' laidOut (by kernel_rfl) hg (by kernel_rfl) Try.underlying4 rfl rfl⟩
theorem over : Rows.cdtSoundRow.holds Try.pinned (OpenSpec.ofChange Rows.cdtSoundSpec) :=
  OpenClaim.holds_of_wide 4 Try.f4 rfl rfl rfl rfl rfl rfl rfl ⟨rfl, rfl, rfl, rfl, rfl⟩ rfl rfl rfl rfl rfl (by kernel_rfl) Try.func4 (by kernel_rfl)
    (of_decide_eq_true (by kernel_rfl)) (by unfold Func.isWrapper; first | (rw [if_pos (by decide +kernel)]; kernel_rfl) | (rw [if_neg (by decide +kernel)]; exact ⟨rfl, rfl⟩))
    (fun os started H enc _ => lifted os started H enc)
theorem proved : Rows.CdtSoundSaid :=
  over
#print axioms proved
end Go.Proofs.Ytbhboofhcgkgfaa.cdtSound
