/- The given statement 'IrqPlays' of the given program: whatever the input, the law answers true and the input reads as it did. On no condition. -/
import Derived.Test.YtehlmdihimmanaaFnIrqPlays2
import Derived.Test.YtehlmdihimmanaaSlLaw
import Derived.Test.YtehlmdihimmanaaP19IrqPlayIrqPlays
import Derived.Test.YtehlmdihimmanaaP19BootIrqPlays
import Derived.Test.YtehlmdihimmanaaP19PickIrqPlays
import Derived.Test.YtehlmdihimmanaaP19CodeIrqPlays
import Derived.Test.YtehlmdihimmanaaRows
set_option linter.all false
namespace Go.Proofs.Ytehlmdihimmanaa.irqPlays
open Go.ChangeShapes Go.WideShapes Go.ChangeAt Go.RowKit Go.Sl
def wf_law19_Deed (x : law19_Deed) : Prop := (fits .i64) x.What ∧ (fits .i64) x.A ∧ (fits .i64) x.B ∧ (fits .i64) x.N
theorem pa_law19_Deed : Parse Try.prog 31 (fun x : law19_Deed => [.int .i64 x.What, .int .i64 x.A, .int .i64 x.B, .int .i64 x.N]) wf_law19_Deed := by
  intro H enc w base sp hd n cs x h
  obtain ⟨xs, m, -, -, hl, hx, hf⟩ := DataW.trod_struct Try.underlying31 h
  rw [show Try.prog.cellsOf 31 = 4 by kernel_rfl] at hl
  obtain ⟨a0, e0, w0⟩ := parse_field (i := 0) (o := 0) (sz := 1) hx hf (parse_int Try.underlying3) rfl rfl rfl (by kernel_rfl)
  obtain ⟨a1, e1, w1⟩ := parse_field (i := 1) (o := 1) (sz := 1) hx hf (parse_int Try.underlying3) rfl rfl rfl (by kernel_rfl)
  obtain ⟨a2, e2, w2⟩ := parse_field (i := 2) (o := 2) (sz := 1) hx hf (parse_int Try.underlying3) rfl rfl rfl (by kernel_rfl)
  obtain ⟨a3, e3, w3⟩ := parse_field (i := 3) (o := 3) (sz := 1) hx hf (parse_int Try.underlying3) rfl rfl rfl (by kernel_rfl)
  clear hf hx h
  match cs, hl with
  | [c0, c1, c2, c3], _ =>
    simp at e0 e1 e2 e3
    subst e0 e1 e2 e3
    exact ⟨⟨a0, a1, a2, a3⟩, rfl, w0, w1, w2, w3⟩

open Go.Proofs
structure II (st : ref10_State) (v : List Int) : Prop where
  h : WF st
  hv : IsW st v
  nw : NW st
  ri : RI st
  bi : BI st
  k4 : (obt st 5).Kind = 4
  k5 : (obt st 0).Kind = 5
theorem ready_ok {st : ref10_State} (h : WF st) {t : Int} (ht : 0 ≤ t ∧ t < 32) (k5 : (obt st t).Kind = 5) : ref10_State_Ready.f st t = some (decide ((obt st t).State = 1)) := by
  unfold ref10_State_Ready.f
  rw [ris_ok h, decide_eq_true ⟨ht.1, ht.2, k5⟩, Option.bind_some, Bool.not_true, cond_false, at_obj h ht, Option.bind_some]; rfl
theorem loop_ok (a0 : List law19_Deed) (hw : ∀ x ∈ a0, wf_law19_Deed x) (hl : a0.length ≤ 120) : ∀ (m k : Nat) (i : Int) (st : ref10_State) (v : List Int), 0 ≤ i → i ≤ a0.length → (a0.length : Int) - i = m → m + 1000 < k → II st v → ∃ r, law19_IrqPlays.l1 a0 k (i, st.Slots, st.Objs, st.NS, st.NO, v) = some (Brk.nx r) := by
  intro m
  induction m with
  | zero =>
    intro k i st v h0 h1 h2 hk hI
    obtain ⟨k, rfl⟩ : ∃ q, k = q + 1 := ⟨k - 1, by omega⟩
    unfold law19_IrqPlays.l1
    rw [decide_eq_false (by omega)]
    exact ⟨_, rfl⟩
  | succ m ih =>
    intro k i st v h0 h1 h2 hk hI
    obtain ⟨k, rfl⟩ : ∃ q, k = q + 1 := ⟨k - 1, by omega⟩
    obtain ⟨x, hx, hm⟩ := at_some h0 (by omega : i < (a0.length : Int))
    obtain ⟨h, hv, nw, ri, bi, k4, k5⟩ := hI
    have wf := hw x hm
    have eta : (⟨st.Slots, st.Objs, st.NS, st.NO⟩ : ref10_State) = st := rfl
    have hp : law10_Pick.f x.What 5 = some (pick x.What 5) := pick_ok wf.1 (by decide) (by decide)
    have hpn : law10_Pick.f x.N 65536 = some (pick x.N 65536) := pick_ok wf.2.2.2 (by decide) (by decide)
    have hrn := pick_lt x.N (n := 65536) (by decide)
    have hr := pick_lt x.What (n := 5) (by decide)
    have e1 : w64 (i + 1) = i + 1 := w64_id (by omega) (by omega)
    -- behind the deed
    have rest : ∀ (n : Int) (st' : ref10_State) (v' : List Int), 0 ≤ n → n ≤ 14 → II st' v' → ∃ r, (Brk.go (Brk.nx (n, (if n = 0 then none else some n), st'.Slots, st'.Objs, st'.NS, st'.NO, v') : Brk Bool (Int × (Option Int) × (List ref10_Slot) × (List ref10_Obj) × Int × Int × (List Int))) (fun r => some (Brk.ret r)) (fun (j8_2, j9_2, y6_0_2, y6_1_2, y6_2_2, y6_3_2, qv18_2) => (law00_Code.f k j9_2).bind fun t88 => (bif t88 != j8_2 then (some true) else ((ref10_State_Words.f k (⟨y6_0_2, y6_1_2, y6_2_2, y6_3_2⟩ : ref10_State)).bind fun t101 => (ref10_Same.f k qv18_2 t101).bind fun t105 => some (!t105))).bind fun c99 => bif c99 then (some (Brk.ret false)) else (law19_IrqPlays.l1 a0 k (i + 1, y6_0_2, y6_1_2, y6_2_2, y6_3_2, qv18_2)))) = some (Brk.nx r) := by
      intro n st' v' n0 n1 hI
      have eta' : (⟨st'.Slots, st'.Objs, st'.NS, st'.NO⟩ : ref10_State) = st' := rfl
      obtain ⟨r, hr⟩ := ih k (i + 1) st' v' (by omega) (by omega) (by omega) (by omega) hI
      refine ⟨r, ?_⟩
      simp only [Brk.go]
      rw [code_ok ⟨n0, n1⟩ (by omega), Option.bind_some, bne_self_eq_false, cond_false, eta', words_is hI.h hI.hv (by omega), Option.bind_some, same_ok hI.hv.len (by omega), Option.bind_some, Bool.not_true, Option.bind_some, cond_false]
      exact hr
    unfold law19_IrqPlays.l1
    rw [decide_eq_true (by omega), cond_true, hx, Option.bind_some, hp, Option.bind_some, eta, e1]
    generalize pick x.What 5 = p at hr
    by_cases p0 : p = 0
    · obtain ⟨n, st', v', s1, s2, s3, s4, s5, s6, s7, s8, s9, s10⟩ := bind_pl h hv x.A x.B (n := pick x.N 65536) (by omega)
      have e : (p == 0) = true := by simpa using p0
      rw [e, cond_true, hpn, Option.bind_some, s2, Option.bind_some]
      simp only []
      rw [s1, Option.bind_some, Option.bind_some]
      exact rest n st' v' s3 s4 ⟨s6, s5, s7 nw, s8 ri, s9 bi, by rw [s10 5 (by decide)]; exact k4, by rw [s10 0 (by decide)]; exact k5⟩
    · have e : (p == 0) = false := by simpa using p0
      rw [e, cond_false]
      by_cases p1 : p = 1 ∨ p = 2
      · obtain ⟨is, n, st', v', s1, s2, s3, s4, s5, s6, s7, s8, s9, s10⟩ := fire_pl h hv nw bi x.A (k := k) (by omega)
        have e : (bif p == 1 then some (p == 1) else some (p == 2)) = some true := by rcases p1 with rfl | rfl <;> rfl
        rw [e, Option.bind_some, cond_true, s2, Option.bind_some]
        simp only []
        rw [s1, Option.bind_some]
        simp only [bne_self_eq_false, cond_false, Option.bind_some]
        exact rest n st' v' s3 s4 ⟨s6, s5, s7, s8 ri, s9, by rw [s10 5 (by decide)]; exact k4, by rw [s10 0 (by decide)]; exact k5⟩
      · have e : (bif p == 1 then some (p == 1) else some (p == 2)) = some false := by
          have a1 : (p == 1) = false := by simp; omega
          have a2 : (p == 2) = false := by simp; omega
          rw [a1, a2]; rfl
        rw [e, Option.bind_some, cond_false]
        by_cases p3 : p = 3
        · obtain ⟨n, st', v', s1, s2, s3, s4, s5, s6, s7, s8, s9, s10⟩ := ack_pl h hv x.A
          have e : (p == 3) = true := by simpa using p3
          rw [e, cond_true, s2, Option.bind_some]
          simp only []
          rw [s1, Option.bind_some, Option.bind_some]
          exact rest n st' v' s3 s4 ⟨s6, s5, s7 nw, s8 ri, s9 bi, by rw [s10 5 (by decide)]; exact k4, by rw [s10 0 (by decide)]; exact k5⟩
        · have e : (p == 3) = false := by simpa using p3
          rw [e, cond_false, ready_ok h (by decide) k5, Option.bind_some]
          by_cases hs : (obt st 0).State = 1
          · obtain ⟨on, owg⟩ := ri 0 (by decide) (by decide) k5 hs
            obtain ⟨q, is, st', v', s1, s2, s3, s4, s5, s6, s7⟩ := wait_pl2 h hv nw (o := 5) (t := 0) (by decide) k4 (by decide) k5 on owg
            rw [decide_eq_true hs, cond_true, s2, Option.bind_some]
            simp only []
            rw [s1, Option.bind_some, Option.bind_some]
            have bi' : BI st' := fun i i0 i1 z => by
              rw [(s7 i i0).1] at z
              rw [(s7 i i0).2 (by omega) (by omega)]
              exact ⟨(bi i i0 i1 z).1, fun q => by rw [(s7 _ q).1]; exact (bi i i0 i1 z).2 q⟩
            exact rest 0 st' v' (by decide) (by decide) ⟨s4, s3, s5, s6 ri, bi', by rw [(s7 5 (by decide)).1]; exact k4, by rw [(s7 0 (by decide)).1]; exact k5⟩
          · rw [decide_eq_false hs, cond_false, Option.bind_some]
            exact rest 0 st v (by decide) (by decide) ⟨h, hv, nw, ri, bi, k4, k5⟩
theorem ok (a0 : List law19_Deed) (w0 : ∀ x ∈ a0, wf_law19_Deed x) : ∃ k, law19_IrqPlays.f k a0 = some true := by
  refine ⟨2000, ?_⟩
  have hu : law19_up.f 2000 = some true := by decide +kernel
  unfold law19_IrqPlays.f
  rw [hu, Option.bind_some]
  by_cases h1 : a0.length ≤ 120
  · obtain ⟨t, hB, F, K⟩ := boot_ok (n := 1) (by decide)
    obtain ⟨w, hw, hiw⟩ := words_ok F.wf (k := 2000) (by decide)
    have hI : II t w := ⟨F.wf, hiw, fun i i0 i1 _ => by rw [(F.ext i i0 i1).2]; decide, fun i i0 i1 _ _ => ⟨(F.que i i0 i1).2.1, (F.ext i i0 i1).1⟩, fun i i0 i1 z => ⟨by rw [(F.ext2 i i0 i1).1]; decide, fun q => by rw [(F.ext2 i i0 i1).2] at q; omega⟩, by rw [K 5 (by decide) (by decide)]; rfl, by rw [K 0 (by decide) (by decide)]; rfl⟩
    obtain ⟨r, hr⟩ := loop_ok a0 w0 h1 a0.length 2000 0 t w (by decide) (by omega) (by omega) (by omega) hI
    rw [decide_eq_false (by omega), cond_false, hB, Option.bind_some, hw, Option.bind_some, hr]; rfl
  · rw [decide_eq_true (by omega)]; rfl

theorem own : ownKnob Try.prog.godebug = none := by kernel_rfl
theorem laidOut : laidOutB Try.prog = true := by kernel_rfl
set_option maxRecDepth 100000 in
theorem lifted (os : Os) (started : os.Started) (H : Type) (enc : TypeId × Value → H) :
    ReturnsInHanded {} Try.checked os 4 .any (Rows.irqPlaysSpec.pre6 enc Try.prog Try.f4 Rows.irqPlaysRow.domain false) (Rows.irqPlaysSpec.post enc Try.prog Try.f4 false true false false) := by
  refine returnsInHanded_of_change (C := Try.checked) own started (by kernel_rfl) Try.func4
    (ChangeSpec.witness6 (enc := enc) (C := Try.checked) false ⟨#[], #[.slice none 0 0], []⟩ 8 (by kernel_rfl) (by kernel_rfl) (by kernel_rfl) (by kernel_rfl)) ?_
  intro W base args ds gs before hval0 hW hcnd _
  have hval : ∀ (j : Nat) t v, Try.f4.params[j]? = some t → args[j]? = some v → Value.okWide Try.prog W .any base t v := hval0
  have hW' := hW
  obtain ⟨p, q, hA0, hV, rfl, hfz, hnd⟩ := hW
  have hA : DataW.TrodAll enc Try.prog W 0 (fun _ => true) true Try.f4.params.toList args.toList ds p := hA0
  rw [Try.params4] at hA hval
  obtain ⟨v0, vs0, d0, ds0, p0, q0, hargs, rfl, rfl, h0, r0⟩ := trodAll_cons hA
  obtain ⟨rfl, rfl, rfl⟩ := trodAll_nil r0
  obtain rfl : args = #[v0] := by cases args; simp_all
  obtain ⟨rfl, rfl⟩ := trodVars_none hV
  obtain ⟨a0, r0', w0, _⟩ := open_sl (K := ek_law19_Deed) pa_law19_Deed Try.underlying22 (by kernel_rfl) (hval 0 22 v0 rfl rfl) h0
  obtain ⟨k, hk⟩ := ok a0 w0
  refine (Ct.law (law19_IrqPlays.ct _ _ a0 _ hk) (W := W) r0').mono fun e W' ⟨he, hg⟩ => ?_
  subst he
  exact ⟨_, rfl, law_post hW' laidOut (by kernel_rfl) hg (by kernel_rfl) Try.underlying4 rfl rfl⟩
theorem over : Rows.irqPlaysRow.holds Try.pinned (OpenSpec.ofChange Rows.irqPlaysSpec) :=
  OpenClaim.holds_of_wide 4 Try.f4 rfl rfl rfl rfl rfl rfl rfl ⟨rfl, rfl, rfl, rfl, rfl⟩ rfl rfl rfl rfl rfl (by kernel_rfl) Try.func4 (by kernel_rfl)
    (of_decide_eq_true (by kernel_rfl)) (by unfold Func.isWrapper; first | (rw [if_pos (by decide +kernel)]; kernel_rfl) | (rw [if_neg (by decide +kernel)]; exact ⟨rfl, rfl⟩))
    (fun os started H enc _ => lifted os started H enc)
theorem proved : Rows.IrqPlaysSaid :=
  over
#print axioms proved
end Go.Proofs.Ytehlmdihimmanaa.irqPlays
