/- Plain laws of what IrqPlays reaches, part P19IrqPlay. On no condition. -/
import Derived.Test.YtehlmdihimmanaaP19SigPlayIrqPlays
import Derived.Test.YtehlmdihimmanaaP19IsIrqPlays
import Derived.Test.YtehlmdihimmanaaP19RefIrqPlays
import Derived.Test.YtehlmdihimmanaaFnIrqPlays0
import Derived.Test.YtehlmdihimmanaaFnIrqPlays1
import Derived.Test.YtehlmdihimmanaaFnIrqPlays2
set_option linter.all false
/-! Interrupts: the program's words are the state's. -/
set_option linter.unusedVariables false
namespace Go.Proofs
open Go.Sl
def BI (st : ref10_State) : Prop := ∀ i, 0 ≤ i → i < 32 → (obt st i).Kind = 8 → (obt st i).Badge ≤ 65535 ∧ (0 ≤ (obt st i).Bound → (obt st (obt st i).Bound).Kind = 4)
section
variable {st : ref10_State} {v : List Int} (h : WF st) (hv : IsW st v)
include h hv
theorem irq_fv {a : Int} (ha : 0 ≤ a ∧ a < 32) (k : (obt st a).Kind = 8) : fld v a 1 = (obt st a).Bound + 1 ∧ fld v a 2 = (obt st a).Badge ∧ fld v a 3 = (obt st a).Mask := by
  refine ⟨?_, ?_, ?_⟩ <;> rw [hv.fv h ha (by decide), ob_own h _ ha (by omega), own8 k] <;> rfl
/-- An interrupt's mask is put. -/
theorem mask_pl {a n : Int} (ha : 0 ≤ a ∧ a < 32) (k : (obt st a).Kind = 8) (hn : 0 ≤ n ∧ n ≤ 1) : IsW (upd st a { obt st a with Mask := n }) (put v a 3 n) ∧ WF (upd st a { obt st a with Mask := n }) := by
  have gv := (hv.good h).1
  have F := fun i f => fld_put gv a 3 n i f (by omega)
  have io : InObj a 3 := ⟨ha.1, ha.2, by decide, by decide⟩
  refine upd_isw h hv ha (x := { obt st a with Mask := n }) (by omega) { h.obj a ha.1 ha.2 with mask := hn } rfl rfl rfl ((Low.refl hv.len).put a 3 n) (sm_put (hv.sm h) (by omega)) (fun i f i0 i1 f0 f1 c => ?_) (fun f f0 f1 c => ?_)
  · rw [F, if_neg (by rintro ⟨z1, z2, _⟩; omega)]
  · have K : ({ obt st a with Mask := n } : ref10_Obj).Kind = 8 := k
    rw [own8 K]
    by_cases e : f = 3
    · subst e; rw [F, if_pos ⟨rfl, rfl, io, hn.1⟩, if_neg (by decide), if_neg (by decide), if_neg (by decide), if_pos rfl]
    · rw [F, if_neg (fun z => e z.2.1.symm), hv.fv h ha ⟨f0, f1⟩, ob_own h _ ha (by omega), own8 k]
      simp only [e, if_false]
omit hv in
theorem mask_inv {a n : Int} (ha : 0 ≤ a ∧ a < 32) (k : (obt st a).Kind = 8) : (NW st → NW (upd st a { obt st a with Mask := n })) ∧ (RI st → RI (upd st a { obt st a with Mask := n })) ∧ (BI st → BI (upd st a { obt st a with Mask := n })) ∧ ∀ i, 0 ≤ i → (obt (upd st a { obt st a with Mask := n }) i).Kind = (obt st i).Kind := by
  have K := kind_upd h ha (x := { obt st a with Mask := n }) rfl
  refine ⟨fun hw i i0 i1 z => ?_, fun r => r.upd h ha (by show (obt st a).Kind ≠ 5; omega), fun hb i i0 i1 z => ?_, K⟩
  · rw [obt_upd h.lo ha i0] at z ⊢
    split
    · rename_i e; rw [if_pos e] at z; have : (obt st a).Kind = 4 := z; omega
    · rename_i e; rw [if_neg e] at z; exact hw i i0 i1 z
  · rw [K i i0] at z
    have := hb i i0 i1 z
    have e : (obt (upd st a { obt st a with Mask := n }) i).Badge = (obt st i).Badge ∧ (obt (upd st a { obt st a with Mask := n }) i).Bound = (obt st i).Bound := by
      rw [obt_upd h.lo ha i0]; split
      · rename_i e; rw [e]; exact ⟨rfl, rfl⟩
      · exact ⟨rfl, rfl⟩
    rw [e.1, e.2]
    exact ⟨this.1, fun q => by rw [K _ q]; exact this.2 q⟩
theorem ack_pl (a : Int) : ∃ n st' v', ref10_State_Ack.f st a = some (n, st') ∧ VM.run plainI (irq_Ack.f a) v = some (if n = 0 then none else some n, v') ∧ 0 ≤ n ∧ n ≤ 14 ∧ IsW st' v' ∧ WF st' ∧ (NW st → NW st') ∧ (RI st → RI st') ∧ (BI st → BI st') ∧ ∀ i, 0 ≤ i → (obt st' i).Kind = (obt st i).Kind := by
  have gv := (hv.good h).1
  have ha := hv.kind h (i := a) (k := 8) (by decide)
  unfold ref10_State_Ack.f irq_Ack.f
  rw [ris_ok h, Option.bind_some, runB, is_ok gv a 8 (by decide), Option.bind_some]
  by_cases c : fld v a 0 = 8
  · have a1 := ha.1 c
    obtain ⟨f1, f2, f3⟩ := irq_fv h hv ⟨a1.1, a1.2.1⟩ a1.2.2
    rw [decide_eq_true a1, decide_eq_true c]
    simp only [Bool.not_true, cond_false, runB, field_ok gv, Option.bind_some, at_obj h ⟨a1.1, a1.2.1⟩, f3, runC, runR]
    by_cases m : (obt st a).Mask = 0
    · have e : ((obt st a).Mask == 0) = true := by simpa using m
      rw [e]
      exact ⟨10, st, v, rfl, rfl, by decide, by decide, hv, h, id, id, id, fun _ _ => rfl⟩
    · have e : ((obt st a).Mask == 0) = false := by simpa using m
      obtain ⟨p1, p2⟩ := mask_pl h hv ⟨a1.1, a1.2.1⟩ a1.2.2 (n := 0) (by decide)
      obtain ⟨q1, q2, q3, q4⟩ := mask_inv h ⟨a1.1, a1.2.1⟩ a1.2.2 (n := 0)
      rw [e, cond_false, cond_false, put_ok gv a 3 0 (by decide), Option.bind_some]
      exact ⟨0, _, _, rfl, rfl, by decide, by decide, p1, p2, q1, q2, q3, q4⟩
  · rw [decide_eq_false (fun z => c (ha.2 z)), decide_eq_false c]
    exact ⟨2, st, v, rfl, rfl, by decide, by decide, hv, h, id, id, id, fun _ _ => rfl⟩
theorem bind_pl (a b : Int) {n : Int} (hn : 0 ≤ n ∧ n ≤ 65535) : ∃ m st' v', ref10_State_Bind.f st a b n = some (m, st') ∧ VM.run plainI (irq_Bind.f a b n) v = some (if m = 0 then none else some m, v') ∧ 0 ≤ m ∧ m ≤ 14 ∧ IsW st' v' ∧ WF st' ∧ (NW st → NW st') ∧ (RI st → RI st') ∧ (BI st → BI st') ∧ ∀ i, 0 ≤ i → (obt st' i).Kind = (obt st i).Kind := by
  have gv := (hv.good h).1
  have ha := hv.kind h (i := a) (k := 8) (by decide)
  have hb := hv.kind h (i := b) (k := 4) (by decide)
  unfold ref10_State_Bind.f irq_Bind.f
  rw [ris_ok h, ris_ok h, Option.bind_some, Option.bind_some, runB, is_ok gv a 8 (by decide), Option.bind_some]
  by_cases c : fld v a 0 = 8
  · have a1 := ha.1 c
    rw [decide_eq_true a1, decide_eq_true c]
    simp only [Bool.not_true, Bool.false_or, cond_false, runB, is_ok gv b 4 (by decide), Option.bind_some, runR, runC]
    by_cases c2 : fld v b 0 = 4
    · have b1 := hb.1 c2
      rw [decide_eq_true b1, decide_eq_true c2]
      simp only [Bool.not_true, cond_false, at_obj h ⟨a1.1, a1.2.1⟩, Option.bind_some]
      have la : a < (st.Objs.length : Int) := by rw [h.lo]; omega
      rw [at_set a1.1 la, if_pos rfl, Option.bind_some, List.set_set, at_set a1.1 la, if_pos rfl, Option.bind_some, List.set_set, w64_id (by omega) (by omega), band_16 hn]
      have g1 := good_put gv a 1 (b + 1)
      have g2 := good_put g1 a 2 n
      have g3 := good_put g2 a 3 0
      rw [put_ok gv a 1 (b + 1) (by omega), Option.bind_some]
      simp only []
      rw [put_ok g1 a 2 n (by omega), Option.bind_some]
      simp only []
      rw [put_ok g2 a 3 0 (by decide), Option.bind_some]
      have i1 : InObj a 1 := ⟨a1.1, a1.2.1, by decide, by decide⟩
      have i2 : InObj a 2 := ⟨a1.1, a1.2.1, by decide, by decide⟩
      have i3 : InObj a 3 := ⟨a1.1, a1.2.1, by decide, by decide⟩
      have K0 : ({ obt st a with Bound := b, Badge := n, Mask := 0 } : ref10_Obj).Kind = 8 := a1.2.2
      have wa := h.obj a a1.1 a1.2.1
      have key := upd_isw h hv ⟨a1.1, a1.2.1⟩ (x := { obt st a with Bound := b, Badge := n, Mask := 0 }) (by omega) { wa with badge := by show 0 ≤ n ∧ n ≤ _; omega, bound := by show _ ≤ b ∧ b < _; omega, mask := by show (0 : Int) ≤ 0 ∧ (0 : Int) ≤ 1; decide } rfl rfl rfl ((((Low.refl hv.len).put a 1 (b + 1)).put a 2 n).put a 3 0) (sm_put (sm_put (sm_put (hv.sm h) (by omega)) (by omega)) (by omega)) (fun i f i0 i1 f0 f1 c => by
          rw [fld_put g2 a 3 0 i f (by decide), fld_put g1 a 2 n i f (by omega), fld_put gv a 1 (b + 1) i f (by omega), if_neg (by rintro ⟨z1, z2, _⟩; omega), if_neg (by rintro ⟨z1, z2, _⟩; omega), if_neg (by rintro ⟨z1, z2, _⟩; omega)]) (fun f f0 f1 c => by
          rw [fld_put g2 a 3 0 a f (by decide), fld_put g1 a 2 n a f (by omega), fld_put gv a 1 (b + 1) a f (by omega), own8 K0]
          by_cases e3 : f = 3
          · subst e3; rw [if_pos ⟨rfl, rfl, i3, by decide⟩, if_neg (by decide), if_neg (by decide), if_neg (by decide), if_pos rfl]
          · rw [if_neg (fun z => e3 z.2.1.symm)]
            by_cases e2 : f = 2
            · subst e2; rw [if_pos ⟨rfl, rfl, i2, hn.1⟩, if_neg (by decide), if_neg (by decide), if_pos rfl]
            · rw [if_neg (fun z => e2 z.2.1.symm)]
              by_cases e1 : f = 1
              · subst e1; rw [if_pos ⟨rfl, rfl, i1, by omega⟩, if_neg (by decide), if_pos rfl]
              · rw [if_neg (fun z => e1 z.2.1.symm), hv.fv h ⟨a1.1, a1.2.1⟩ ⟨f0, f1⟩, ob_own h _ ⟨a1.1, a1.2.1⟩ (by omega), own8 a1.2.2]
                simp only [e1, e2, e3, if_false])
      have K := kind_upd h ⟨a1.1, a1.2.1⟩ (x := { obt st a with Bound := b, Badge := n, Mask := 0 }) rfl
      refine ⟨0, _, _, rfl, rfl, by decide, by decide, key.1, key.2, fun hw i i0 i1 z => ?_, fun r => r.upd h ⟨a1.1, a1.2.1⟩ (by rw [K0]; decide), fun hbi i i0 i1 z => ?_, K⟩
      · have z2 := z
        erw [K i i0] at z2
        erw [obt_upd h.lo ⟨a1.1, a1.2.1⟩ i0]
        split
        · rename_i e; rw [e] at z2; omega
        · exact hw i i0 i1 z2
      · have z2 := z
        erw [K i i0] at z2
        have hh := hbi i i0 i1 z2
        erw [obt_upd h.lo ⟨a1.1, a1.2.1⟩ i0]
        by_cases e : i = a
        · rw [if_pos e]
          refine ⟨hn.2, fun _ => ?_⟩
          have := K b b1.1
          erw [this]; exact b1.2.2
        · rw [if_neg e]
          refine ⟨hh.1, fun q => ?_⟩
          have := K _ q
          erw [this]; exact hh.2 q
    · rw [decide_eq_false (fun z => c2 (hb.2 z)), decide_eq_false c2]
      exact ⟨2, st, v, rfl, rfl, by decide, by decide, hv, h, id, id, id, fun _ _ => rfl⟩
  · rw [decide_eq_false (fun z => c (ha.2 z)), decide_eq_false c]
    exact ⟨2, st, v, rfl, rfl, by decide, by decide, hv, h, id, id, id, fun _ _ => rfl⟩
theorem fire_pl (nw : NW st) (bi : BI st) (a : Int) {k : Nat} (hk : 20 ≤ k) : ∃ is m st' v', ref10_State_Fire.f k st a = some (is, m, st') ∧ VM.run plainI (irq_Fire.f a) v = some ((is, if m = 0 then none else some m), v') ∧ 0 ≤ m ∧ m ≤ 14 ∧ IsW st' v' ∧ WF st' ∧ NW st' ∧ (RI st → RI st') ∧ BI st' ∧ ∀ i, 0 ≤ i → (obt st' i).Kind = (obt st i).Kind := by
  have gv := (hv.good h).1
  have ha := hv.kind h (i := a) (k := 8) (by decide)
  unfold ref10_State_Fire.f irq_Fire.f
  rw [ris_ok h, Option.bind_some, runB, is_ok gv a 8 (by decide), Option.bind_some]
  by_cases c : fld v a 0 = 8
  · have a1 := ha.1 c
    obtain ⟨f1, f2, f3⟩ := irq_fv h hv ⟨a1.1, a1.2.1⟩ a1.2.2
    have wa := h.obj a a1.1 a1.2.1
    have wb := wa.bound
    have wg := wa.badge
    have hbi := bi a a1.1 a1.2.1 a1.2.2
    rw [decide_eq_true a1, decide_eq_true c]
    simp only [Bool.not_true, cond_false, runB, ref_ok gv, Option.bind_some, at_obj h ⟨a1.1, a1.2.1⟩, f1, f3, runC, runR, field_ok gv]
    by_cases b0 : 0 ≤ (obt st a).Bound
    · rw [if_pos (by omega)]
      simp only [Bool.not_true, cond_false, Option.bind_some, decide_eq_false (show ¬ (obt st a).Bound < 0 by omega), Bool.false_or]
      by_cases m : (obt st a).Mask = 0
      · have e : ((obt st a).Mask != 0) = false := by simpa using m
        obtain ⟨p1, p2⟩ := mask_pl h hv ⟨a1.1, a1.2.1⟩ a1.2.2 (n := 1) (by decide)
        obtain ⟨q1, q2, q3, q4⟩ := mask_inv h ⟨a1.1, a1.2.1⟩ a1.2.2 (n := 1)
        have g1 := good_put gv a 3 1
        have f2' : fld (put v a 3 1) a 2 = (obt st a).Badge := by rw [fld_put gv a 3 1 a 2 (by decide), if_neg (fun z => by have := z.2.1; omega)]; exact f2
        have k4 : (obt (upd st a { obt st a with Mask := 1 }) (obt st a).Bound).Kind = 4 := by rw [q4 _ b0]; exact hbi.2 b0
        obtain ⟨st', v', s1, s2, s3, s4, s5, s6, s7⟩ := sig_pl2 p2 p1 (q1 nw) (o := (obt st a).Bound) (b := (obt st a).Badge) ⟨b0, wb.2⟩ k4 ⟨wg.1, hbi.1⟩ hk
        rw [e, cond_false, cond_false, put_ok gv a 3 1 (by decide), Option.bind_some]
        simp only [field_ok g1, Option.bind_some, f2']
        rw [show (obt st a).Bound + 1 - 1 = (obt st a).Bound by omega, s2, Option.bind_some]
        refine ⟨true, 0, st', v', ?_, rfl, by decide, by decide, s3, s4, s5, fun r => s6 (q2 r), ?_, fun i i0 => by rw [(s7 i i0).1]; exact q4 i i0⟩
        · show (ref10_State_Signal.f k (upd st a { obt st a with Mask := 1 }) _ _).bind _ = _
          rw [s1]; rfl
        · intro i i0 i1 z
          rw [(s7 i i0).1] at z
          rw [(s7 i i0).2 (by omega) (by omega)]
          have := q3 bi i i0 i1 z
          exact ⟨this.1, fun q => by rw [(s7 _ q).1]; exact this.2 q⟩
      · have e : ((obt st a).Mask != 0) = true := by simpa using m
        rw [e]
        exact ⟨false, 0, st, v, rfl, rfl, by decide, by decide, hv, h, nw, id, bi, fun _ _ => rfl⟩
    · rw [if_neg (by omega)]
      simp only [Bool.not_false, cond_true, Option.bind_some, decide_eq_true (show (obt st a).Bound < 0 by omega), Bool.true_or]
      exact ⟨false, 0, st, v, rfl, rfl, by decide, by decide, hv, h, nw, id, bi, fun _ _ => rfl⟩
  · rw [decide_eq_false (fun z => c (ha.2 z)), decide_eq_false c]
    exact ⟨false, 2, st, v, rfl, rfl, by decide, by decide, hv, h, nw, id, bi, fun _ _ => rfl⟩
end
end Go.Proofs
