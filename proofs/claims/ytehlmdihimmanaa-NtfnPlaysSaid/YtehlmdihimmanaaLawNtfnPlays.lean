/- The given statement 'NtfnPlays' of the given program: whatever the input, the law answers true and the input reads as it did. On no condition. -/
import Derived.Test.YtehlmdihimmanaaFnNtfnPlays2
import Derived.Test.YtehlmdihimmanaaSlLaw
import Derived.Test.YtehlmdihimmanaaP19SigPlayNtfnPlays
import Derived.Test.YtehlmdihimmanaaP19BootNtfnPlays
import Derived.Test.YtehlmdihimmanaaP19PickNtfnPlays
import Derived.Test.YtehlmdihimmanaaRows
set_option linter.all false
namespace Go.Proofs.Ytehlmdihimmanaa.ntfnPlays
open Go.ChangeShapes Go.WideShapes Go.ChangeAt Go.RowKit Go.Sl
def wf_law16_Deed (x : law16_Deed) : Prop := (fits .i64) x.What ∧ (fits .i64) x.T ∧ (fits .i64) x.B
theorem pa_law16_Deed : Parse Try.prog 54 (fun x : law16_Deed => [.int .i64 x.What, .int .i64 x.T, .int .i64 x.B]) wf_law16_Deed := by
  intro H enc w base sp hd n cs x h
  obtain ⟨xs, m, -, -, hl, hx, hf⟩ := DataW.trod_struct Try.underlying54 h
  rw [show Try.prog.cellsOf 54 = 3 by kernel_rfl] at hl
  obtain ⟨a0, e0, w0⟩ := parse_field (i := 0) (o := 0) (sz := 1) hx hf (parse_int Try.underlying3) rfl rfl rfl (by kernel_rfl)
  obtain ⟨a1, e1, w1⟩ := parse_field (i := 1) (o := 1) (sz := 1) hx hf (parse_int Try.underlying3) rfl rfl rfl (by kernel_rfl)
  obtain ⟨a2, e2, w2⟩ := parse_field (i := 2) (o := 2) (sz := 1) hx hf (parse_int Try.underlying3) rfl rfl rfl (by kernel_rfl)
  clear hf hx h
  match cs, hl with
  | [c0, c1, c2], _ =>
    simp at e0 e1 e2
    subst e0 e1 e2
    exact ⟨⟨a0, a1, a2⟩, rfl, w0, w1, w2⟩

open Go.Proofs
structure NI (n : Int) (st : ref10_State) (v : List Int) : Prop where
  h : WF st
  hv : IsW st v
  nw : NW st
  ri : RI st
  k4 : (obt st (n + 4)).Kind = 4
  k5 : ∀ t, 0 ≤ t → t < n → (obt st t).Kind = 5
theorem ready_ok {st : ref10_State} (h : WF st) {t : Int} (ht : 0 ≤ t ∧ t < 32) (k5 : (obt st t).Kind = 5) : ref10_State_Ready.f st t = some (decide ((obt st t).State = 1)) := by
  unfold ref10_State_Ready.f
  rw [ris_ok h, decide_eq_true ⟨ht.1, ht.2, k5⟩, Option.bind_some, Bool.not_true, cond_false, at_obj h ht, Option.bind_some]; rfl
theorem words_same {st : ref10_State} {v : List Int} (h : WF st) (hv : IsW st v) {k : Nat} (hk : 900 ≤ k) : ref10_State_Words.f k st = some v ∧ ref10_Same.f k v v = some true := ⟨words_is h hv (by omega), same_ok hv.len (by omega)⟩
theorem loop_ok (n : Int) (hn : 0 ≤ n ∧ n ≤ 7) (a1 : List law16_Deed) (hw : ∀ x ∈ a1, wf_law16_Deed x) (hl : a1.length ≤ 120) : ∀ (m k : Nat) (i : Int) (st : ref10_State) (v : List Int), 0 ≤ i → i ≤ a1.length → (a1.length : Int) - i = m → m + 1000 < k → NI n st v → ∃ st' v', law16_NtfnPlays.l1 n a1 k (i, st.Slots, st.Objs, st.NS, st.NO, v) = some (Brk.nx (st'.Slots, st'.Objs, st'.NS, st'.NO, v')) ∧ NI n st' v' := by
  intro m
  induction m with
  | zero =>
    intro k i st v h0 h1 h2 hk hI
    obtain ⟨k, rfl⟩ : ∃ q, k = q + 1 := ⟨k - 1, by omega⟩
    unfold law16_NtfnPlays.l1
    rw [decide_eq_false (by omega)]
    exact ⟨st, v, rfl, hI⟩
  | succ m ih =>
    intro k i st v h0 h1 h2 hk hI
    obtain ⟨k, rfl⟩ : ∃ q, k = q + 1 := ⟨k - 1, by omega⟩
    obtain ⟨x, hx, hm⟩ := at_some h0 (by omega : i < (a1.length : Int))
    obtain ⟨h, hv, nw, ri, k4, k5⟩ := hI
    have wf := hw x hm
    have eta : (⟨st.Slots, st.Objs, st.NS, st.NO⟩ : ref10_State) = st := rfl
    have hp : law10_Pick.f x.What 4 = some (pick x.What 4) := pick_ok wf.1 (by decide) (by decide)
    have hpb : law10_Pick.f x.B 65536 = some (pick x.B 65536) := pick_ok wf.2.2 (by decide) (by decide)
    have hrb := pick_lt x.B (n := 65536) (by decide)
    have e1 : w64 (i + 1) = i + 1 := w64_id (by omega) (by omega)
    have eo : w64 (n + 4) = n + 4 := w64_id (by omega) (by omega)
    have ho : 0 ≤ n + 4 ∧ n + 4 < 32 := by omega
    have next := fun st v (hI : NI n st v) => ih k (i + 1) st v (by omega) (by omega) (by omega) (by omega) hI
    unfold law16_NtfnPlays.l1
    rw [decide_eq_true (by omega), cond_true, hx, Option.bind_some, hpb, Option.bind_some, hp, Option.bind_some, eo, e1, eta]
    generalize pick x.What 4 = p
    generalize pick x.B 65536 = b at hrb
    by_cases hp2 : p < 2
    · obtain ⟨st', v', s1, s2, s3, s4, s5, s6, s7⟩ := sig_pl h hv nw ho k4 (b := b) (by omega) (n := k) (by omega)
      obtain ⟨w1, w2⟩ := words_same s4 s3 (k := k) (by omega)
      rw [decide_eq_true hp2, cond_true, s2, Option.bind_some]
      simp only [Option.isSome_none, cond_false]
      rw [s1, Option.bind_some, w1, Option.bind_some, w2, Option.bind_some, Bool.not_true, cond_false]
      exact next st' v' ⟨s4, s3, s5, s6 ri, by rw [s7 _ ho.1]; exact k4, fun t t0 t1 => by rw [s7 t t0]; exact k5 t t0 t1⟩
    · rw [decide_eq_false hp2, cond_false]
      by_cases hw : p = 2 ∧ 0 < n
      · have e2 : ((p == 2) && decide (0 < n)) = true := by simp; exact hw
        have hpt : law10_Pick.f x.T n = some (pick x.T n) := pick_ok wf.2.1 (by omega) (by omega)
        have hrt := pick_lt x.T (n := n) (by omega)
        rw [e2, cond_true, hpt, Option.bind_some]
        generalize pick x.T n = t at hrt
        have ht : 0 ≤ t ∧ t < 32 := by omega
        have kt := k5 t hrt.1 hrt.2
        rw [ready_ok h ht kt, Option.bind_some]
        by_cases hs : (obt st t).State = 1
        · obtain ⟨on, owg⟩ := ri t ht.1 ht.2 kt hs
          obtain ⟨q, is, st', v', s1, s2, s3, s4, s5, s6, s7⟩ := wait_pl h hv nw ho k4 ht kt on owg
          obtain ⟨w1, w2⟩ := words_same s4 s3 (k := k) (by omega)
          rw [decide_eq_true hs, Bool.not_true, cond_false, s2, Option.bind_some]
          simp only []
          rw [s1, Option.bind_some]
          simp only [Option.isSome_none, Bool.false_or, bne_self_eq_false, cond_false, decide_true, Bool.not_true, Option.bind_some]
          rw [w1, Option.bind_some, w2, Option.bind_some, Bool.not_true, cond_false]
          exact next st' v' ⟨s4, s3, s5, s6 ri, by rw [s7 _ ho.1]; exact k4, fun t t0 t1 => by rw [s7 t t0]; exact k5 t t0 t1⟩
        · rw [decide_eq_false hs, Bool.not_false, cond_true]
          exact next st v ⟨h, hv, nw, ri, k4, k5⟩
      · have e2 : ((p == 2) && decide (0 < n)) = false := by
          rw [← Bool.not_eq_true]; simp; intro z; omega
        obtain ⟨st', s1, s3, s4, s5, s6, s7⟩ := poll_pl h hv nw ho k4
        obtain ⟨w1, w2⟩ := words_same s4 s3 (k := k) (by omega)
        rw [e2, cond_false, poll_ok (hv.good h).1 ho, Option.bind_some]
        simp only [Option.isSome_none, cond_false]
        rw [s1, Option.bind_some]
        simp only [decide_true, Bool.not_true, Option.bind_some, cond_false]
        have eta' : (⟨st'.Slots, st'.Objs, st'.NS, st'.NO⟩ : ref10_State) = st' := rfl
        rw [eta', w1, Option.bind_some, w2, Option.bind_some, Bool.not_true, cond_false]
        exact next st' _ ⟨s4, s3, s5, s6 ri, by rw [s7 _ ho.1]; exact k4, fun t t0 t1 => by rw [s7 t t0]; exact k5 t t0 t1⟩
theorem ok (a0 : Int) (a1 : List law16_Deed) (w0 : (Lit.int .i64 a0).wf = true) (w1 : ∀ x ∈ a1, wf_law16_Deed x) : ∃ k, law16_NtfnPlays.f k a0 a1 = some true := by
  refine ⟨2000, ?_⟩
  have hu : law16_up.f 2000 = some true := by decide +kernel
  unfold law16_NtfnPlays.f
  rw [hu, Option.bind_some]
  by_cases h1 : 0 ≤ a0 ∧ a0 ≤ 7 ∧ a1.length ≤ 120
  · have e : (decide (a0 < 0) || decide (7 < a0) || decide (120 < (a1.length : Int))) = false := by simp; omega
    have hn : 0 ≤ a0 ∧ a0 ≤ 7 := ⟨h1.1, h1.2.1⟩
    obtain ⟨t, hB, F, K⟩ := boot_ok hn
    obtain ⟨w, hw, hiw⟩ := words_ok F.wf (k := 2000) (by decide)
    have hI : NI a0 t w := ⟨F.wf, hiw, fun i i0 i1 _ => by rw [(F.ext i i0 i1).2]; decide, fun i i0 i1 _ _ => ⟨(F.que i i0 i1).2.1, (F.ext i i0 i1).1⟩, by rw [K _ (by omega) (by omega)]; unfold kindAt; rw [if_neg (by omega), if_neg (by omega), if_neg (by omega), if_neg (by omega), if_neg (by omega), if_pos rfl], fun i i0 i1 => by rw [K i i0 (by omega)]; unfold kindAt; rw [if_pos i1]⟩
    obtain ⟨st', v', hr, hI'⟩ := loop_ok a0 hn a1 w1 h1.2.2 a1.length 2000 0 t w (by decide) (by omega) (by omega) (by omega) hI
    rw [e, cond_false, hB, Option.bind_some, hw, Option.bind_some, hr, Option.bind_some]
    have p1 : VM.run plainI (ntfn_Poll.f (-1)) v' = some ((⟨0, 0, 0⟩, some 2), v') := by
      unfold ntfn_Poll.f
      rw [runB, runO, nthere_ok, decide_eq_false (fun z => by unfold InObj at z; omega)]; rfl
    have p2 : VM.run plainI (ntfn_Wait.f (w64 (a0 + 4)) 32) v' = some ((⟨0, 0, 0⟩, false, some 2), v') := by
      have eo : w64 (a0 + 4) = a0 + 4 := w64_id (by omega) (by omega)
      have i1 : InObj (a0 + 4) 0 := ⟨by omega, by omega, by decide, by decide⟩
      have i2 : ¬ InObj 32 0 := fun z => by unfold InObj at z; omega
      unfold ntfn_Wait.f
      rw [eo]
      simp only [runB, runO, runC, runR, nthere_ok, decide_eq_true i1, decide_eq_false i2, Option.map_some, Option.bind_some, Bool.not_true, Bool.not_false, cond_false, cond_true]
    simp only [Brk.go]
    rw [p1, Option.bind_some]
    simp only []
    rw [p2, Option.bind_some]; rfl
  · have e : (decide (a0 < 0) || decide (7 < a0) || decide (120 < (a1.length : Int))) = true := by
      rw [← Bool.not_eq_false]; simp; omega
    rw [e]; rfl

theorem own : ownKnob Try.prog.godebug = none := by kernel_rfl
theorem laidOut : laidOutB Try.prog = true := by kernel_rfl
set_option maxRecDepth 100000 in
theorem lifted (os : Os) (started : os.Started) (H : Type) (enc : TypeId × Value → H) :
    ReturnsInHanded {} Try.checked os 5 .any (Rows.ntfnPlaysSpec.pre6 enc Try.prog Try.f5 Rows.ntfnPlaysRow.domain false) (Rows.ntfnPlaysSpec.post enc Try.prog Try.f5 false true false false) := by
  refine returnsInHanded_of_change (C := Try.checked) own started (by kernel_rfl) Try.func5
    (ChangeSpec.witness6 (enc := enc) (C := Try.checked) false ⟨#[], #[.int .i64 0, .slice none 0 0], []⟩ 8 (by kernel_rfl) (by kernel_rfl) (by kernel_rfl) (by kernel_rfl)) ?_
  intro W base args ds gs before hval0 hW hcnd _
  have hval : ∀ (j : Nat) t v, Try.f5.params[j]? = some t → args[j]? = some v → Value.okWide Try.prog W .any base t v := hval0
  have hW' := hW
  obtain ⟨p, q, hA0, hV, rfl, hfz, hnd⟩ := hW
  have hA : DataW.TrodAll enc Try.prog W 0 (fun _ => true) true Try.f5.params.toList args.toList ds p := hA0
  rw [Try.params5] at hA hval
  obtain ⟨v0, vs0, d0, ds0, p0, q0, hargs, rfl, rfl, h0, r0⟩ := trodAll_cons hA
  obtain ⟨v1, vs1, d1, ds1, p1, q1, rfl, rfl, rfl, h1, r1⟩ := trodAll_cons r0
  obtain ⟨rfl, rfl, rfl⟩ := trodAll_nil r1
  obtain rfl : args = #[v0, v1] := by cases args; simp_all
  obtain ⟨rfl, rfl⟩ := trodVars_none hV
  obtain ⟨a0, rfl, rfl, rfl, w0⟩ := open_int Try.underlying3 (hval 0 3 v0 rfl rfl) h0
  obtain ⟨a1, r1', w1, _⟩ := open_sl (K := ek_law16_Deed) pa_law16_Deed Try.underlying52 (by kernel_rfl) (hval 1 52 v1 rfl rfl) h1
  obtain ⟨k, hk⟩ := ok a0 a1 w0 w1
  refine (Ct.law (law16_NtfnPlays.ct _ _ a0 a1 _ hk) (W := W) r1').mono fun e W' ⟨he, hg⟩ => ?_
  subst he
  exact ⟨_, rfl, law_post hW' laidOut (by kernel_rfl) hg (by kernel_rfl) Try.underlying4 rfl rfl⟩
theorem over : Rows.ntfnPlaysRow.holds Try.pinned (OpenSpec.ofChange Rows.ntfnPlaysSpec) :=
  OpenClaim.holds_of_wide 5 Try.f5 rfl rfl rfl rfl rfl rfl rfl ⟨rfl, rfl, rfl, rfl, rfl⟩ rfl rfl rfl rfl rfl (by kernel_rfl) Try.func5 (by kernel_rfl)
    (of_decide_eq_true (by kernel_rfl)) (by unfold Func.isWrapper; first | (rw [if_pos (by decide +kernel)]; kernel_rfl) | (rw [if_neg (by decide +kernel)]; exact ⟨rfl, rfl⟩))
    (fun os started H enc _ => lifted os started H enc)
theorem proved : Rows.NtfnPlaysSaid :=
  over
#print axioms proved
end Go.Proofs.Ytehlmdihimmanaa.ntfnPlays
