/- The given statement 'CdtPlays' of the given program: whatever the input, the law answers true and the input reads as it did. On no condition. -/
import Derived.Test.YtbhboofhcgkgfaaFnCdtPlays2
import Derived.Test.YtbhboofhcgkgfaaFr1
import Derived.Test.YtbhboofhcgkgfaaPlCdtPlays1
import Derived.Test.YtbhboofhcgkgfaaFnCdtPlays0
import Derived.Test.YtbhboofhcgkgfaaRows
set_option linter.all false
namespace Go.Proofs.Ytbhboofhcgkgfaa.cdtPlays
open Go.ChangeShapes Go.WideShapes Go.ChangeAt Go.RowKit Go.Sl
def wf_law10_Deed (x : law10_Deed) : Prop := (fits .i64) x.What ∧ (fits .i64) x.A ∧ (fits .i64) x.B
theorem pa_law10_Deed : Parse Try.prog 29 (fun x : law10_Deed => [.int .i64 x.What, .int .i64 x.A, .int .i64 x.B]) wf_law10_Deed := by
  intro H enc w base sp hd n cs x h
  obtain ⟨xs, m, -, -, hl, hx, hf⟩ := DataW.trod_struct Try.underlying29 h
  rw [show Try.prog.cellsOf 29 = 3 by kernel_rfl] at hl
  obtain ⟨a0, e0, w0⟩ := parse_field (i := 0) (o := 0) (sz := 1) hx hf (parse_int Try.underlying3) rfl rfl rfl (by kernel_rfl)
  obtain ⟨a1, e1, w1⟩ := parse_field (i := 1) (o := 1) (sz := 1) hx hf (parse_int Try.underlying3) rfl rfl rfl (by kernel_rfl)
  obtain ⟨a2, e2, w2⟩ := parse_field (i := 2) (o := 2) (sz := 1) hx hf (parse_int Try.underlying3) rfl rfl rfl (by kernel_rfl)
  clear hf hx h
  match cs, hl with
  | [c0, c1, c2], _ =>
    simp at e0 e1 e2
    subst e0 e1 e2
    exact ⟨⟨a0, a1, a2⟩, rfl, w0, w1, w2⟩

open Go.Proofs
structure II (st : ref10_State) (v : List Int) : Prop where
  h : WF st
  hv : IsW st v
def newB : Bool := match ref10_New.f 2000 with
  | some t => wfB t && decide ((ref10_State_Words.f 2000 t).isSome) && (match ref10_State_Words.f 2000 t with | some w => w == List.replicate 738 0 | none => false)
  | none => false
theorem new_b : newB = true := by decide +kernel
theorem new_ok : ∃ t, ref10_New.f 2000 = some t ∧ II t (List.replicate 738 0) := by
  have h := new_b
  unfold newB at h
  cases hB : ref10_New.f 2000 with
  | none => simp [hB] at h
  | some t =>
    simp only [hB, Bool.and_eq_true] at h
    have F := fresh_of h.1.1
    obtain ⟨w, hw, hi⟩ := words_ok F.wf (k := 2000) (by decide)
    rw [hw] at h
    have e : w = List.replicate 738 0 := eq_of_beq h.2
    rw [e] at hi
    exact ⟨t, rfl, F.wf, hi⟩
theorem above_ok {st : ref10_State} (h : WF st) (a : Int) : ∀ (m k : Nat) (n b : Int), 0 ≤ n → n + m = 97 → m < k → -1 ≤ b → b < 96 → ∃ r, law10_above.l1 st a k (n, b) = some r ∧ (r = Brk.ret true ∨ r = Brk.nx ())
  | 0, k, n, b, h0, h1, hk, b0, b1 => by
    obtain ⟨k, rfl⟩ : ∃ q, k = q + 1 := ⟨k - 1, by omega⟩
    unfold law10_above.l1
    rw [decide_eq_false (by omega), Bool.false_and]
    exact ⟨_, rfl, .inr rfl⟩
  | m + 1, k, n, b, h0, h1, hk, b0, b1 => by
    obtain ⟨k, rfl⟩ : ∃ q, k = q + 1 := ⟨k - 1, by omega⟩
    unfold law10_above.l1
    rw [decide_eq_true (by omega), Bool.true_and]
    by_cases c : 0 ≤ b
    · rw [decide_eq_true c, cond_true]
      by_cases e : a = b
      · have e1 : (a == b) = true := by simpa using e
        rw [e1]
        exact ⟨_, rfl, .inl rfl⟩
      · have e1 : (a == b) = false := by simpa using e
        rw [e1, cond_false, at_slot h.ls ⟨c, b1⟩, Option.bind_some, w64_id (by omega) (by omega)]
        have p := h.par b c b1
        exact above_ok h a m k (n + 1) _ (by omega) (by omega) (by omega) p.1 p.2
    · rw [decide_eq_false c]
      exact ⟨_, rfl, .inr rfl⟩
theorem above_f {st : ref10_State} (h : WF st) (a b : Int) (hb : 0 ≤ b ∧ b < 96) {k : Nat} (hk : 100 ≤ k) : ∃ r, law10_above.f k st a b = some r := by
  unfold law10_above.f
  obtain ⟨r, e, c⟩ := above_ok h a 97 k 0 b (by decide) (by decide) (by omega) (by omega) hb.2
  rw [e, Option.bind_some]
  rcases c with rfl | rfl
  · exact ⟨_, rfl⟩
  · exact ⟨_, rfl⟩
/-- The answer, as told. -/
theorem eN_eq (n : Int) : eN' n = if n = 0 then none else some n := rfl
theorem kids_same (f : Nat → Int → Option (Brk Bool Unit)) (S : List ref10_Slot) (b : Int) (hb : 0 ≤ b ∧ b < (S.length : Int))
    (hf : ∀ k i, f (k + 1) i = bif decide (i < (((S.getD b.toNat default).Kids.length : Nat) : Int)) then ((at_ (S.getD b.toNat default).Kids i).bind fun x => (at_ S b).bind fun y => (at_ y.Kids i).bind fun z => bif x != z then (some (Brk.ret false)) else (f k (w64 (i + 1)))) else (some (Brk.nx ()))) (hl : (S.getD b.toNat default).Kids.length ≤ 96) : ∀ (m k : Nat) (i : Int), 0 ≤ i → i ≤ (S.getD b.toNat default).Kids.length → ((S.getD b.toNat default).Kids.length : Int) - i = m → m < k → f k i = some (Brk.nx ())
  | 0, k, i, h0, h1, h2, hk => by
    obtain ⟨k, rfl⟩ : ∃ q, k = q + 1 := ⟨k - 1, by omega⟩
    rw [hf, decide_eq_false (by omega)]; rfl
  | m + 1, k, i, h0, h1, h2, hk => by
    obtain ⟨k, rfl⟩ : ∃ q, k = q + 1 := ⟨k - 1, by omega⟩
    rw [hf, decide_eq_true (by omega), cond_true]
    obtain ⟨x, hx, _⟩ := at_some h0 (show i < ((S.getD b.toNat default).Kids.length : Int) by omega)
    rw [hx, Option.bind_some, at_getD hb.1 hb.2, Option.bind_some, hx, Option.bind_some, bne_self_eq_false, cond_false, w64_id (by omega) (by omega)]
    exact kids_same f S b hb hf hl m k (i + 1) (by omega) (by omega) (by omega) (by omega)
theorem loop_ok (a0 : List law10_Deed) (hw : ∀ x ∈ a0, wf_law10_Deed x) (hl : a0.length ≤ 120) : ∀ (m k : Nat) (i : Int) (st : ref10_State) (v : List Int), 0 ≤ i → i ≤ a0.length → (a0.length : Int) - i = m → m + 1500 < k → II st v → ∃ r, law10_CdtPlays.l1 a0 k (i, st.Slots, st.Objs, st.NS, st.NO, v) = some (Brk.nx r) := by
  intro m
  induction m with
  | zero =>
    intro k i st v h0 h1 h2 hk hI
    obtain ⟨k, rfl⟩ : ∃ q, k = q + 1 := ⟨k - 1, by omega⟩
    unfold law10_CdtPlays.l1
    rw [decide_eq_false (by omega)]
    exact ⟨_, rfl⟩
  | succ m ih =>
    intro k i st v h0 h1 h2 hk hI
    obtain ⟨k, rfl⟩ : ∃ q, k = q + 1 := ⟨k - 1, by omega⟩
    obtain ⟨x, hx, hm⟩ := at_some h0 (by omega : i < (a0.length : Int))
    obtain ⟨h, hv⟩ := hI
    have wf := hw x hm
    have eta : (⟨st.Slots, st.Objs, st.NS, st.NO⟩ : ref10_State) = st := rfl
    have hp : law10_Pick.f x.What 4 = some (pick x.What 4) := pick_ok wf.1 (by decide) (by decide)
    have hr := pick_lt x.What (n := 4) (by decide)
    have e1 : w64 (i + 1) = i + 1 := w64_id (by omega) (by omega)
    -- behind the deed
    have mid : ∀ (n : Int) (st' : ref10_State) (v' : List Int), 0 ≤ n → n ≤ 14 → WF st' → IsW st' v' → ((law00_Code.f k (eN' n)).bind fun t56 => bif t56 != n then (some (true, v')) else ((ref10_State_Words.f k st').bind fun t59 => (ref10_Same.f k v' t59).bind fun t64 => bif !t64 then (some (true, v')) else ((VM.run plainI (cdt_Leaf.f k x.A) v').bind fun (t68, s70) => (ref10_State_Leaf.f k st' x.A).bind fun t72 => some (t68 != t72, s70)))) = some (false, v') := by
      intro n st' v' n0 n1 h' hv'
      obtain ⟨f1, f2⟩ := leaf_pl h' hv' x.A (k := k) (by omega)
      rw [eN_eq, code_ok ⟨n0, n1⟩ (by omega), Option.bind_some, bne_self_eq_false, cond_false, words_is h' hv' (by omega), Option.bind_some, same_ok hv'.len (by omega), Option.bind_some, Bool.not_true, cond_false, f2, Option.bind_some]
      simp only []
      rw [f1, Option.bind_some, bne_self_eq_false]
    have tail : ∀ (S : List ref10_Slot) (st' : ref10_State) (v' : List Int), S = st'.Slots → InSlot x.A 0 → InSlot x.B 0 → WF st' → IsW st' v' → ∃ l, VM.run plainI (cdt_Kids.f k x.B) v' = some (l, v') ∧ l = (S.getD x.B.toNat default).Kids ∧ l.length ≤ 96 ∧ ((VM.run plainI (cdt_Parent.f x.A) v').bind fun (t85, s87) => (at_ S x.A).bind fun x89 => bif t85 != x89.Parent then (some (true, s87)) else ((at_ S x.B).bind fun x96 => some ((l.length : Int) != (x96.Kids.length : Int), s87))) = some (false, v') := by
      intro S st' v' hS ha hb h' hv'
      subst hS
      have g := hv'.good h'
      have t := tree_st h'
      refine ⟨_, kids_tw t g.1 (tw_st h' hv') hb.rg (by omega), rfl, t.klen hb.rg.1 hb.rg.2, ?_⟩
      rw [parent_ok g.1, Option.bind_some]
      simp only []
      rw [at_slot h'.ls ha.rg, Option.bind_some, Pst_sget h' hv' ha.rg, bne_self_eq_false, cond_false, at_slot h'.ls hb.rg, Option.bind_some]
      show some ((((slt st' x.B).Kids.length : Int) != _), v') = _
      rw [bne_self_eq_false]
    have inn : ((((decide (0 ≤ x.A)) && (decide (x.A < 96))) && (decide (0 ≤ x.B))) && (decide (x.B < 96))) = decide (InSlot x.A 0 ∧ InSlot x.B 0) := by
      unfold InSlot
      by_cases q1 : 0 ≤ x.A <;> by_cases q2 : x.A < 96 <;> by_cases q3 : 0 ≤ x.B <;> by_cases q4 : x.B < 96 <;> simp [q1, q2, q3, q4]
    have next : ∀ (st' : ref10_State) (v' : List Int), WF st' → IsW st' v' → ∃ r, law10_CdtPlays.l1 a0 k (i + 1, st'.Slots, st'.Objs, st'.NS, st'.NO, v') = some (Brk.nx r) := fun st' v' h' hv' => ih k (i + 1) st' v' (by omega) (by omega) (by omega) (by omega) ⟨h', hv'⟩
    unfold law10_CdtPlays.l1
    rw [decide_eq_true (by omega), cond_true, hx, Option.bind_some, hp, Option.bind_some, eta, e1, inn]
    generalize pick x.What 4 = p at hr
    by_cases p0 : p = 0 ∨ p = 1
    · have e : (bif p == 0 then some (p == 0) else some (p == 1)) = some true := by rcases p0 with rfl | rfl <;> rfl
      rw [e, Option.bind_some, cond_true]
      obtain ⟨n, st', v', s1, s2, s3, s4, s5, s6, s7, _⟩ := link_pl h hv x.A x.B
      by_cases c : InSlot x.A 0 ∧ InSlot x.B 0
      · rw [decide_eq_true c, cond_true]
        obtain ⟨b, hb⟩ : ∃ b, (bif x.A != x.B then ((law10_above.f k st x.A x.B).bind fun t36 => some t36) else (some false)) = some b := by
          by_cases q : x.A = x.B
          · have : (x.A != x.B) = false := by simpa using q
            rw [this]; exact ⟨_, rfl⟩
          · have : (x.A != x.B) = true := by simpa using q
            obtain ⟨r, hr⟩ := above_f h x.A x.B c.2.rg (k := k) (by omega)
            rw [this, cond_true, hr]; exact ⟨_, rfl⟩
        rw [hb, Option.bind_some]
        cases b with
        | true => rw [cond_true]; exact next st v h hv
        | false =>
          rw [cond_false, s2, Option.bind_some]
          simp only []
          rw [s1, Option.bind_some]
          simp only []
          rw [mid n st' v' s3 s4 s5 s6, Option.bind_some]
          simp only [cond_false, Bool.not_true]
          obtain ⟨l, k1, k2, k3, k4⟩ := tail st'.Slots st' v' rfl c.1 c.2 s5 s6
          rw [k1, Option.bind_some]
          simp only []
          rw [k4, Option.bind_some]
          simp only [cond_false]
          subst k2
          rw [kids_same (law10_CdtPlays.l5 x st' _) st'.Slots x.B (by rw [s5.ls]; exact c.2.rg) (fun k i => by rfl) k3 (st'.Slots.getD x.B.toNat default).Kids.length k 0 (by decide) (by omega) (by omega) (by omega), Option.bind_some]
          exact next st' v' s5 s6
      · rw [decide_eq_false c, cond_false, s2, Option.bind_some]
        simp only []
        rw [s1, Option.bind_some]
        simp only []
        rw [mid n st' v' s3 s4 s5 s6, Option.bind_some]
        simp only [cond_false, Bool.not_false, cond_true]
        exact next st' v' s5 s6
    · have e : (bif p == 0 then some (p == 0) else some (p == 1)) = some false := by
        have a1 : (p == 0) = false := by simp; omega
        have a2 : (p == 1) = false := by simp; omega
        rw [a1, a2]; rfl
      rw [e, Option.bind_some, cond_false]
      obtain ⟨n, st', v', s3, s4, s5, s6, s7⟩ : ∃ n st' v', 0 ≤ n ∧ n ≤ 14 ∧ WF st' ∧ IsW st' v' ∧ (bif p == 2 then ((VM.run plainI (cdt_Unlink.f x.A) v).bind fun (t205, s207) => (ref10_State_Unlink.f k st x.A).bind fun (t209, p210) => some (t209, t205, p210.Slots, p210.Objs, p210.NS, p210.NO, s207)) else ((VM.run plainI (cdt_Replace.f k x.A x.B) v).bind fun (t214, s216) => (ref10_State_Replace.f k st x.A x.B).bind fun (t218, p219) => some (t218, t214, p219.Slots, p219.Objs, p219.NS, p219.NO, s216))) = some (n, eN' n, st'.Slots, st'.Objs, st'.NS, st'.NO, v') := by
        by_cases p2 : p = 2
        · obtain ⟨n, st', v', s1, s2, s3, s4, s5, s6, _⟩ := unlink_pl h hv x.A (k := k) (by omega)
          have e : (p == 2) = true := by simpa using p2
          refine ⟨n, st', v', s3, s4, s5, s6, ?_⟩
          rw [e, cond_true, s2, Option.bind_some]
          simp only []
          rw [s1, Option.bind_some]
        · obtain ⟨n, st', v', s1, s2, s3, s4, s5, s6, _⟩ := replace_pl h hv x.A x.B (k := k) (by omega)
          have e : (p == 2) = false := by simpa using p2
          refine ⟨n, st', v', s3, s4, s5, s6, ?_⟩
          rw [e, cond_false, s2, Option.bind_some]
          simp only []
          rw [s1, Option.bind_some]
      have eta' : (⟨st'.Slots, st'.Objs, st'.NS, st'.NO⟩ : ref10_State) = st' := rfl
      rw [s7, Option.bind_some]
      simp only [eta']
      rw [mid n st' v' s3 s4 s5 s6, Option.bind_some]
      by_cases c : InSlot x.A 0 ∧ InSlot x.B 0
      · rw [decide_eq_true c]
        simp only [cond_false, Bool.not_true]
        obtain ⟨l, k1, k2, k3, k4⟩ := tail st'.Slots st' v' rfl c.1 c.2 s5 s6
        rw [k1, Option.bind_some]
        simp only []
        rw [k4, Option.bind_some]
        simp only [cond_false]
        subst k2
        rw [kids_same (law10_CdtPlays.l12 x st'.Slots _) st'.Slots x.B (by rw [s5.ls]; exact c.2.rg) (fun k i => by rfl) k3 (st'.Slots.getD x.B.toNat default).Kids.length k 0 (by decide) (by omega) (by omega) (by omega), Option.bind_some]
        exact next st' v' s5 s6
      · rw [decide_eq_false c]
        simp only [cond_false, Bool.not_false, cond_true]
        exact next st' v' s5 s6
theorem ok (a0 : List law10_Deed) (w0 : ∀ x ∈ a0, wf_law10_Deed x) : ∃ k, law10_CdtPlays.f k a0 = some true := by
  refine ⟨2000, ?_⟩
  have hu : law10_up.f 2000 = some true := by decide +kernel
  unfold law10_CdtPlays.f
  rw [hu, Option.bind_some]
  by_cases h1 : a0.length ≤ 120
  · obtain ⟨t, hB, hI⟩ := new_ok
    have hm : mk_ (0 : Int) 738 = some (List.replicate 738 0) := rfl
    obtain ⟨r, hr⟩ := loop_ok a0 w0 h1 a0.length 2000 0 t (List.replicate 738 0) (by decide) (by omega) (by omega) (by omega) hI
    rw [decide_eq_false (by omega), cond_false, hB, Option.bind_some, hm, Option.bind_some, hr]; rfl
  · rw [decide_eq_true (by omega)]; rfl

theorem own : ownKnob Try.prog.godebug = none := by kernel_rfl
theorem laidOut : laidOutB Try.prog = true := by kernel_rfl
set_option maxRecDepth 100000 in
theorem lifted (os : Os) (started : os.Started) (H : Type) (enc : TypeId × Value → H) :
    ReturnsInHanded {} Try.checked os 3 .any (Rows.cdtPlaysSpec.pre6 enc Try.prog Try.f3 Rows.cdtPlaysRow.domain false) (Rows.cdtPlaysSpec.post enc Try.prog Try.f3 false true false false) := by
  refine returnsInHanded_of_change (C := Try.checked) own started (by kernel_rfl) Try.func3
    (ChangeSpec.witness6 (enc := enc) (C := Try.checked) false ⟨#[], #[.slice none 0 0], []⟩ 8 (by kernel_rfl) (by kernel_rfl) (by kernel_rfl) (by kernel_rfl)) ?_
  intro W base args ds gs before hval0 hW hcnd _
  have hval : ∀ (j : Nat) t v, Try.f3.params[j]? = some t → args[j]? = some v → Value.okWide Try.prog W .any base t v := hval0
  have hW' := hW
  obtain ⟨p, q, hA0, hV, rfl, hfz, hnd⟩ := hW
  have hA : DataW.TrodAll enc Try.prog W 0 (fun _ => true) true Try.f3.params.toList args.toList ds p := hA0
  rw [Try.params3] at hA hval
  obtain ⟨v0, vs0, d0, ds0, p0, q0, hargs, rfl, rfl, h0, r0⟩ := trodAll_cons hA
  obtain ⟨rfl, rfl, rfl⟩ := trodAll_nil r0
  obtain rfl : args = #[v0] := by cases args; simp_all
  obtain ⟨rfl, rfl⟩ := trodVars_none hV
  obtain ⟨a0, r0', w0, _⟩ := open_sl (K := ek_law10_Deed) pa_law10_Deed Try.underlying22 (by kernel_rfl) (hval 0 22 v0 rfl rfl) h0
  obtain ⟨k, hk⟩ := ok a0 w0
  refine (Ct.law (law10_CdtPlays.ct _ _ a0 _ hk) (W := W) r0').mono fun e W' ⟨he, hg⟩ => ?_
  subst he
  exact ⟨_, rfl, law_post hW' laidOut (by kernel_rfl) hg (by kernel_rfl) Try.underlying4 rfl rfl⟩
theorem over : Rows.cdtPlaysRow.holds Try.pinned (OpenSpec.ofChange Rows.cdtPlaysSpec) :=
  OpenClaim.holds_of_wide 3 Try.f3 rfl rfl rfl rfl rfl rfl rfl ⟨rfl, rfl, rfl, rfl, rfl⟩ rfl rfl rfl rfl rfl (by kernel_rfl) Try.func3 (by kernel_rfl)
    (of_decide_eq_true (by kernel_rfl)) (by unfold Func.isWrapper; first | (rw [if_pos (by decide +kernel)]; kernel_rfl) | (rw [if_neg (by decide +kernel)]; exact ⟨rfl, rfl⟩))
    (fun os started H enc _ => lifted os started H enc)
theorem proved : Rows.CdtPlaysSaid :=
  over
#print axioms proved
end Go.Proofs.Ytbhboofhcgkgfaa.cdtPlays
