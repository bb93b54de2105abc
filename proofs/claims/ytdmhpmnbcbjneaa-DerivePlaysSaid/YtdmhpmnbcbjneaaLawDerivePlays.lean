/- The given statement 'DerivePlays' of the given program: whatever the input, the law answers true and the input reads as it did. On no condition. -/
import Derived.Test.YtdmhpmnbcbjneaaFnDerivePlays3
import Derived.Test.YtdmhpmnbcbjneaaFr1
import Derived.Test.YtdmhpmnbcbjneaaPlDerivePlays2
import Derived.Test.YtdmhpmnbcbjneaaRows
set_option linter.all false
namespace Go.Proofs.Ytdmhpmnbcbjneaa.derivePlays
open Go.ChangeShapes Go.WideShapes Go.ChangeAt Go.RowKit Go.Sl
def wf_law12_Deed (x : law12_Deed) : Prop := (fits .i64) x.What ∧ (fits .i64) x.A ∧ (fits .i64) x.B ∧ (fits .i64) x.M ∧ (fits .i64) x.N
theorem pa_law12_Deed : Parse Try.prog 30 (fun x : law12_Deed => [.int .i64 x.What, .int .i64 x.A, .int .i64 x.B, .int .i64 x.M, .int .i64 x.N]) wf_law12_Deed := by
  intro H enc w base sp hd n cs x h
  obtain ⟨xs, m, -, -, hl, hx, hf⟩ := DataW.trod_struct Try.underlying30 h
  rw [show Try.prog.cellsOf 30 = 5 by kernel_rfl] at hl
  obtain ⟨a0, e0, w0⟩ := parse_field (i := 0) (o := 0) (sz := 1) hx hf (parse_int Try.underlying3) rfl rfl rfl (by kernel_rfl)
  obtain ⟨a1, e1, w1⟩ := parse_field (i := 1) (o := 1) (sz := 1) hx hf (parse_int Try.underlying3) rfl rfl rfl (by kernel_rfl)
  obtain ⟨a2, e2, w2⟩ := parse_field (i := 2) (o := 2) (sz := 1) hx hf (parse_int Try.underlying3) rfl rfl rfl (by kernel_rfl)
  obtain ⟨a3, e3, w3⟩ := parse_field (i := 3) (o := 3) (sz := 1) hx hf (parse_int Try.underlying3) rfl rfl rfl (by kernel_rfl)
  obtain ⟨a4, e4, w4⟩ := parse_field (i := 4) (o := 4) (sz := 1) hx hf (parse_int Try.underlying3) rfl rfl rfl (by kernel_rfl)
  clear hf hx h
  match cs, hl with
  | [c0, c1, c2, c3, c4], _ =>
    simp at e0 e1 e2 e3 e4
    subst e0 e1 e2 e3 e4
    exact ⟨⟨a0, a1, a2, a3, a4⟩, rfl, w0, w1, w2, w3, w4⟩

open Go.Proofs
structure II (st : ref10_State) (v : List Int) : Prop where
  h : WF st
  hv : IsW st v
  di : DI st
theorem loop_ok (a1 : List law12_Deed) (hw : ∀ x ∈ a1, wf_law12_Deed x) (hl : a1.length ≤ 100) : ∀ (m k : Nat) (i : Int) (st : ref10_State) (v : List Int), 0 ≤ i → i ≤ a1.length → (a1.length : Int) - i = m → m + 1500 < k → II st v → ∃ r, law12_DerivePlays.l1 a1 k (i, st.Slots, st.Objs, st.NS, st.NO, v) = some (Brk.nx r) := by
  intro m
  induction m with
  | zero =>
    intro k i st v h0 h1 h2 hk hI
    obtain ⟨k, rfl⟩ : ∃ q, k = q + 1 := ⟨k - 1, by omega⟩
    unfold law12_DerivePlays.l1
    rw [decide_eq_false (by omega)]
    exact ⟨_, rfl⟩
  | succ m ih =>
    intro k i st v h0 h1 h2 hk hI
    obtain ⟨k, rfl⟩ : ∃ q, k = q + 1 := ⟨k - 1, by omega⟩
    obtain ⟨x, hx, hm⟩ := at_some h0 (by omega : i < (a1.length : Int))
    obtain ⟨h, hv, di⟩ := hI
    have wf := hw x hm
    have eta : (⟨st.Slots, st.Objs, st.NS, st.NO⟩ : ref10_State) = st := rfl
    have hp : law10_Pick.f x.What 8 = some (pick x.What 8) := pick_ok wf.1 (by decide) (by decide)
    have hr := pick_lt x.What (n := 8) (by decide)
    have e1 : w64 (i + 1) = i + 1 := w64_id (by omega) (by omega)
    obtain ⟨n, is, st', v', s1, s2, D⟩ := do_pl h hv di x wf.1 (k := k) (by omega)
    have s3 : ((bif pick x.What 8 == 0 then (some (pick x.What 8 == 0)) else (some (pick x.What 8 == 1))).bind fun j58_3 => bif j58_3 then ((ref10_State_Derive.f k st x.A x.B x.M 0 false).bind fun (t36, p37) => some (t36, false, p37.Slots, p37.Objs, p37.NS, p37.NO)) else ((bif pick x.What 8 == 2 then (some (pick x.What 8 == 2)) else (some (pick x.What 8 == 3))).bind fun j69_4 => bif j69_4 then ((ref10_State_Derive.f k st x.A x.B x.M x.N true).bind fun (t43, p44) => some (t43, false, p44.Slots, p44.Objs, p44.NS, p44.NO)) else (bif pick x.What 8 == 4 then ((ref10_State_Move.f k st x.A x.B 0 0 false).bind fun (t49, p50) => some (t49, false, p50.Slots, p50.Objs, p50.NS, p50.NO)) else (bif pick x.What 8 == 5 then ((ref10_State_Move.f k st x.A x.B x.M x.N true).bind fun (t55, p56) => some (t55, false, p56.Slots, p56.Objs, p56.NS, p56.NO)) else (bif pick x.What 8 == 6 then ((ref10_State_Delete.f k st x.A).bind fun (t61, p62) => some (t61, false, p62.Slots, p62.Objs, p62.NS, p62.NO)) else ((ref10_State_One.f k st x.A).bind fun (t66, t67, p68) => some (t67, t66, p68.Slots, p68.Objs, p68.NS, p68.NO))))))) = (refDo k st x (pick x.What 8)).bind fun (n, is, s) => some (n, is, s.Slots, s.Objs, s.NS, s.NO) := by
      unfold refDo
      generalize pick x.What 8 = p at hr
      have B1 : ∀ (o : Option (Int × ref10_State)), (o.bind fun (t36, p37) => some (t36, false, p37.Slots, p37.Objs, p37.NS, p37.NO)) = ((o.bind fun (n, s) => some (n, false, s)).bind fun (n, is, s) => some (n, is, s.Slots, s.Objs, s.NS, s.NO)) := fun o => by cases o <;> rfl
      by_cases p0 : p = 0 ∨ p = 1
      · have e : (bif p == 0 then (some (p == 0)) else (some (p == 1))) = some true := by rcases p0 with rfl | rfl <;> rfl
        rw [e, if_pos p0, Option.bind_some, cond_true]; exact B1 _
      · have a0 : (p == 0) = false := by simp; omega
        have a1 : (p == 1) = false := by simp; omega
        rw [a0, a1, cond_false, Option.bind_some, cond_false, if_neg p0]
        by_cases p2 : p = 2 ∨ p = 3
        · have e : (bif p == 2 then (some (p == 2)) else (some (p == 3))) = some true := by rcases p2 with rfl | rfl <;> rfl
          rw [e, if_pos p2, Option.bind_some, cond_true]; exact B1 _
        · have a2 : (p == 2) = false := by simp; omega
          have a3 : (p == 3) = false := by simp; omega
          rw [a2, a3, cond_false, Option.bind_some, cond_false, if_neg p2]
          by_cases p4 : p = 4
          · have e : (p == 4) = true := by simpa using p4
            rw [e, cond_true, if_pos p4]; exact B1 _
          · have e : (p == 4) = false := by simpa using p4
            rw [e, cond_false, if_neg p4]
            by_cases p5 : p = 5
            · have e : (p == 5) = true := by simpa using p5
              rw [e, cond_true, if_pos p5]; exact B1 _
            · have e : (p == 5) = false := by simpa using p5
              rw [e, cond_false, if_neg p5]
              by_cases p6 : p = 6
              · have e : (p == 6) = true := by simpa using p6
                rw [e, cond_true, if_pos p6]; exact B1 _
              · have e : (p == 6) = false := by simpa using p6
                rw [e, cond_false, if_neg p6]
                cases ref10_State_One.f k st x.A <;> rfl
    unfold law12_DerivePlays.l1
    rw [decide_eq_true (by omega), cond_true, hx, Option.bind_some, s2, Option.bind_some]
    simp only []
    rw [hp, Option.bind_some, eta, e1, s3, s1, Option.bind_some, Option.bind_some]
    have eta' : (⟨st'.Slots, st'.Objs, st'.NS, st'.NO⟩ : ref10_State) = st' := rfl
    have ec : eN' n = if n = 0 then none else some n := rfl
    simp only []
    rw [ec, code_ok ⟨D.n0, D.n1⟩ (by omega), Option.bind_some, bne_self_eq_false, bne_self_eq_false, Bool.or_self, cond_false, eta', words_is D.h D.hv (by omega), Option.bind_some, same_ok D.hv.len (by omega), Option.bind_some, Bool.not_true, Option.bind_some, cond_false]
    exact ih k (i + 1) st' v' (by omega) (by omega) (by omega) (by omega) ⟨D.h, D.hv, D.di⟩
theorem ok (a0 : Int) (a1 : List law12_Deed) (w0 : (Lit.int .i64 a0).wf = true) (w1 : ∀ x ∈ a1, wf_law12_Deed x) : ∃ k, law12_DerivePlays.f k a0 a1 = some true := by
  refine ⟨2000, ?_⟩
  have hu : law12_up.f 2000 = some true := by decide +kernel
  unfold law12_DerivePlays.f
  rw [hu, Option.bind_some]
  by_cases h1 : 0 ≤ a0 ∧ a0 ≤ 7 ∧ a1.length ≤ 100
  · have e : (((decide (a0 < 0)) || (decide (7 < a0))) || (decide (100 < (a1.length : Int)))) = false := by simp; omega
    obtain ⟨t, hB, F, K⟩ := boot_ok (n := a0) (by omega)
    obtain ⟨w, hw, hiw⟩ := words_ok F.wf (k := 2000) (by decide)
    obtain ⟨r, hr⟩ := loop_ok a1 w1 h1.2.2 a1.length 2000 0 t w (by decide) (by omega) (by omega) (by omega) ⟨F.wf, hiw, di_fresh F.par⟩
    rw [e, cond_false, hB, Option.bind_some, hw, Option.bind_some, hr]; rfl
  · have e : (((decide (a0 < 0)) || (decide (7 < a0))) || (decide (100 < (a1.length : Int)))) = true := by
      rw [← Bool.not_eq_false]; simp; omega
    rw [e]; rfl

theorem own : ownKnob Try.prog.godebug = none := by kernel_rfl
theorem laidOut : laidOutB Try.prog = true := by kernel_rfl
set_option maxRecDepth 100000 in
theorem lifted (os : Os) (started : os.Started) (H : Type) (enc : TypeId × Value → H) :
    ReturnsInHanded {} Try.checked os 3 .any (Rows.derivePlaysSpec.pre6 enc Try.prog Try.f3 Rows.derivePlaysRow.domain false) (Rows.derivePlaysSpec.post enc Try.prog Try.f3 false true false false) := by
  refine returnsInHanded_of_change (C := Try.checked) own started (by kernel_rfl) Try.func3
    (ChangeSpec.witness6 (enc := enc) (C := Try.checked) false ⟨#[], #[.int .i64 0, .slice none 0 0], []⟩ 8 (by kernel_rfl) (by kernel_rfl) (by kernel_rfl) (by kernel_rfl)) ?_
  intro W base args ds gs before hval0 hW hcnd _
  have hval : ∀ (j : Nat) t v, Try.f3.params[j]? = some t → args[j]? = some v → Value.okWide Try.prog W .any base t v := hval0
  have hW' := hW
  obtain ⟨p, q, hA0, hV, rfl, hfz, hnd⟩ := hW
  have hA : DataW.TrodAll enc Try.prog W 0 (fun _ => true) true Try.f3.params.toList args.toList ds p := hA0
  rw [Try.params3] at hA hval
  obtain ⟨v0, vs0, d0, ds0, p0, q0, hargs, rfl, rfl, h0, r0⟩ := trodAll_cons hA
  obtain ⟨v1, vs1, d1, ds1, p1, q1, rfl, rfl, rfl, h1, r1⟩ := trodAll_cons r0
  obtain ⟨rfl, rfl, rfl⟩ := trodAll_nil r1
  obtain rfl : args = #[v0, v1] := by cases args; simp_all
  obtain ⟨rfl, rfl⟩ := trodVars_none hV
  obtain ⟨a0, rfl, rfl, rfl, w0⟩ := open_int Try.underlying3 (hval 0 3 v0 rfl rfl) h0
  obtain ⟨a1, r1', w1, _⟩ := open_sl (K := ek_law12_Deed) pa_law12_Deed Try.underlying22 (by kernel_rfl) (hval 1 22 v1 rfl rfl) h1
  obtain ⟨k, hk⟩ := ok a0 a1 w0 w1
  refine (Ct.law (law12_DerivePlays.ct _ _ a0 a1 _ hk) (W := W) r1').mono fun e W' ⟨he, hg⟩ => ?_
  subst he
  exact ⟨_, rfl, law_post hW' laidOut (by kernel_rfl) hg (by kernel_rfl) Try.underlying4 rfl rfl⟩
theorem over : Rows.derivePlaysRow.holds Try.pinned (OpenSpec.ofChange Rows.derivePlaysSpec) :=
  OpenClaim.holds_of_wide 3 Try.f3 rfl rfl rfl rfl rfl rfl rfl ⟨rfl, rfl, rfl, rfl, rfl⟩ rfl rfl rfl rfl rfl (by kernel_rfl) Try.func3 (by kernel_rfl)
    (of_decide_eq_true (by kernel_rfl)) (by unfold Func.isWrapper; first | (rw [if_pos (by decide +kernel)]; kernel_rfl) | (rw [if_neg (by decide +kernel)]; exact ⟨rfl, rfl⟩))
    (fun os started H enc _ => lifted os started H enc)
theorem proved : Rows.DerivePlaysSaid :=
  over
#print axioms proved
end Go.Proofs.Ytdmhpmnbcbjneaa.derivePlays
