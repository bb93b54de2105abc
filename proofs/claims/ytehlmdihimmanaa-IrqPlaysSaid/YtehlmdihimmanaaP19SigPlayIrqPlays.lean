/- Plain laws of what IrqPlays reaches, part P19SigPlay. On no condition. -/
import Derived.Test.YtehlmdihimmanaaP19QStIrqPlays
import Derived.Test.YtehlmdihimmanaaP19SigIrqPlays
import Derived.Test.YtehlmdihimmanaaP19OrIrqPlays
import Derived.Test.YtehlmdihimmanaaFnIrqPlays2
set_option linter.all false
/-! Notifications: the program's words are the state's. -/
set_option linter.unusedVariables false
namespace Go.Proofs
open Go.Sl
/-- Notifications hold 16 bits. -/
def NW (st : ref10_State) : Prop := ∀ i, 0 ≤ i → i < 32 → (obt st i).Kind = 4 → (obt st i).Word ≤ 65535
/-- Who is ready is blocked on nothing, and nobody owes it. -/
def RI (st : ref10_State) : Prop := ∀ t, 0 ≤ t → t < 32 → (obt st t).Kind = 5 → (obt st t).State = 1 → (obt st t).On = -1 ∧ (obt st t).Owing = -1
theorem RI.upd {st : ref10_State} (h : WF st) (hR : RI st) {o : Int} (ho : 0 ≤ o ∧ o < 32) {x : ref10_Obj} (hk : x.Kind ≠ 5) : RI (upd st o x) := fun t t0 t1 k s => by
  rw [obt_upd h.lo ho t0] at k s ⊢
  split
  · rename_i e; rw [if_pos e] at k; exact absurd k hk
  · rename_i e; rw [if_neg e] at k s; exact hR t t0 t1 k s
theorem QCh.ri {st : ref10_State} (h : WF st) (hR : RI st) {o t : Int} {xo xt : ref10_Obj} (c : QCh st o t xo xt) (hx : xt.State = 1 → xt.On = -1 ∧ xt.Owing = -1) : RI (Go.Proofs.upd (Go.Proofs.upd st o xo) t xt) := fun i i0 i1 k s => by
  rw [c.obt h i i0] at k s ⊢
  split
  · rename_i e; rw [if_pos e] at s; exact hx s
  · rename_i e
    rw [if_neg e] at k s
    split
    · rename_i e2; rw [if_pos e2, c.ko'] at k; have := c.ko; omega
    · rename_i e2; rw [if_neg e2] at k s; exact hR i i0 i1 k s
section
variable {st : ref10_State} {v : List Int} (h : WF st) (hv : IsW st v)
include h hv
/-- An object that isn't a thread and keeps its queue. -/
theorem upd_isw {o : Int} (ho : 0 ≤ o ∧ o < 32) {x : ref10_Obj} (hk5 : (obt st o).Kind ≠ 5) (hx : OW x) (hk : x.Kind = (obt st o).Kind) (hq : x.Queue = (obt st o).Queue) (hon : x.On = (obt st o).On) {v' : List Int} (low : Low v v') (sm : Sm v') (hoth : ∀ i f, 0 ≤ i → i < 32 → 0 ≤ f → f < 8 → i ≠ o ∨ f = 2 ∧ ((obt st o).Kind = 3 ∨ (obt st o).Kind = 4) ∨ f = 3 ∧ ((obt st o).Kind = 3 ∨ (obt st o).Kind = 4) → fld v' i f = fld v i f) (hme : ∀ f, 0 ≤ f → f < 8 → ¬ ((f = 2 ∨ f = 3) ∧ ((obt st o).Kind = 3 ∨ (obt st o).Kind = 4)) → fld v' o f = own x f) : IsW (upd st o x) v' ∧ WF (upd st o x) := by
  refine ⟨hv.of_fld low sm (fun _ _ => rfl) rfl rfl fun i f i0 i1 f0 f1 => ?_, h.upd ho hx hk hq hon (.inr (.inr (by rw [hk]; exact hk5)))⟩
  rw [ob_upd h ho hq ⟨i0, i1⟩]
  by_cases e : i = o
  · subst e
    rw [if_pos rfl, if_neg (by rw [hk]; exact fun z => hk5 z.2.1)]
    by_cases c : (f = 2 ∨ f = 3) ∧ ((obt st i).Kind = 3 ∨ (obt st i).Kind = 4)
    · rw [hoth i f i0 i1 f0 f1 (.inr (by rcases c.1 with z | z; exact .inl ⟨z, c.2⟩; exact .inr ⟨z, c.2⟩)), hv.fv h ho ⟨f0, f1⟩]
      unfold ob
      rw [if_neg (fun z => hk5 z.2.1)]
      by_cases q2 : f = 2 ∧ (obt st i).Queue ≠ []
      · rw [if_pos q2, if_pos q2]
      · rw [if_neg q2, if_neg q2]
        by_cases q3 : f = 3 ∧ (obt st i).Queue ≠ []
        · rw [if_pos q3, if_pos q3]
        · rw [if_neg q3, if_neg q3]
          rcases c.2 with k | k
          · rw [own3 k, own3 (hk.trans k)]; rcases c.1 with z | z <;> rw [z] <;> rfl
          · rw [own4 k, own4 (hk.trans k)]; rcases c.1 with z | z <;> rw [z] <;> rfl
    · have hqn : ∀ z : f = 2 ∨ f = 3, (obt st i).Queue = [] := fun z => noq h ho ⟨fun k => c ⟨z, .inl k⟩, fun k => c ⟨z, .inr k⟩⟩
      rw [if_neg (fun z => z.2 (hqn (.inl z.1))), if_neg (fun z => z.2 (hqn (.inr z.1)))]
      exact hme f f0 f1 c
  · rw [if_neg e, hoth i f i0 i1 f0 f1 (.inl e), hv.fv h ⟨i0, i1⟩ ⟨f0, f1⟩]
theorem word_fv {o : Int} (ho : 0 ≤ o ∧ o < 32) (k : (obt st o).Kind = 4) : fld v o 1 = (obt st o).Word := by
  rw [hv.fv h ho (by decide), ob_q (.inr k), if_neg (by decide), if_neg (by decide), own4 k]; rfl
/-- A notification's word is put. -/
theorem nput_pl {o : Int} (ho : 0 ≤ o ∧ o < 32) (k : (obt st o).Kind = 4) {n : Int} (hn : 0 ≤ n ∧ n ≤ 65535) : IsW (upd st o { obt st o with Word := n }) (put v o 1 n) ∧ WF (upd st o { obt st o with Word := n }) := by
  have gv := (hv.good h).1
  have F := fun i f => fld_put gv o 1 n i f (by omega)
  have io : InObj o 1 := ⟨ho.1, ho.2, by decide, by decide⟩
  have wo := h.obj o ho.1 ho.2
  refine upd_isw h hv ho (x := { obt st o with Word := n }) (by omega) { wo with word := by show 0 ≤ n ∧ n ≤ _; omega } rfl rfl rfl ((Low.refl hv.len).put o 1 n) (sm_put (hv.sm h) (by omega)) (fun i f i0 i1 f0 f1 c => ?_) (fun f f0 f1 c => ?_)
  · rw [F, if_neg (by rintro ⟨z1, z2, _⟩; omega)]
  · have K : ({ obt st o with Word := n } : ref10_Obj).Kind = 4 := k
    rw [own4 K]
    by_cases e : f = 1
    · subst e; rw [F, if_pos ⟨rfl, rfl, io, hn.1⟩, if_neg (by decide), if_pos rfl]
    · rw [F, if_neg (fun z => e z.2.1.symm), hv.fv h ho ⟨f0, f1⟩, ob_q (.inr k), if_neg (fun z => c ⟨.inl z, .inr k⟩), if_neg (fun z => c ⟨.inr z, .inr k⟩), own4 k, if_neg e]
      rw [if_neg e]
omit hv in
theorem nw_upd (hw : NW st) {o : Int} (ho : 0 ≤ o ∧ o < 32) {n : Int} (hn : n ≤ 65535) : NW (upd st o { obt st o with Word := n }) := fun i i0 i1 k => by
  rw [obt_upd h.lo ho i0] at k ⊢
  split
  · exact hn
  · rename_i e; rw [if_neg e] at k; exact hw i i0 i1 k
omit hv in
theorem kind_upd {o : Int} (ho : 0 ≤ o ∧ o < 32) {x : ref10_Obj} (hk : x.Kind = (obt st o).Kind) : ∀ i, 0 ≤ i → (obt (upd st o x) i).Kind = (obt st i).Kind := fun i i0 => by
  rw [obt_upd h.lo ho i0]; split
  · rename_i e; rw [hk, e]
  · rfl
theorem poll_pl2 (hw : NW st) {o : Int} (ho : 0 ≤ o ∧ o < 32) (k : (obt st o).Kind = 4) : ∃ st', ref10_State_Poll.f st o = some (fld v o 1 % 65536, st') ∧ IsW st' (put v o 1 0) ∧ WF st' ∧ NW st' ∧ (RI st → RI st') ∧ ∀ i, 0 ≤ i → ((obt st' i).Kind = (obt st i).Kind) ∧ ((obt st i).Kind ≠ 4 → (obt st i).Kind ≠ 5 → obt st' i = obt st i) := by
  have wo := h.obj o ho.1 ho.2
  have := hw o ho.1 ho.2 k
  have w2 := wo.word
  obtain ⟨a1, a2⟩ := nput_pl h hv ho k (n := 0) (by decide)
  refine ⟨_, ?_, a1, a2, nw_upd h hw ho (by decide), fun r => r.upd h ho (by show (obt st o).Kind ≠ 5; omega), fun i i0 => ⟨kind_upd h ho (x := { obt st o with Word := 0 }) rfl i i0, fun z1 z2 => by rw [obt_upd h.lo ho i0, if_neg (fun e => by rw [e] at z1; exact z1 k)]⟩⟩
  unfold ref10_State_Poll.f
  rw [at_obj h ho, Option.bind_some, Option.bind_some, word_fv h hv ho k, show (obt st o).Word % 65536 = (obt st o).Word by omega]
  rfl
theorem poll_pl (hw : NW st) {o : Int} (ho : 0 ≤ o ∧ o < 32) (k : (obt st o).Kind = 4) : ∃ st', ref10_State_Poll.f st o = some (fld v o 1 % 65536, st') ∧ IsW st' (put v o 1 0) ∧ WF st' ∧ NW st' ∧ (RI st → RI st') ∧ ∀ i, 0 ≤ i → (obt st' i).Kind = (obt st i).Kind := by
  obtain ⟨st', s1, s2, s3, s4, s5, s6⟩ := poll_pl2 h hv hw ho k
  exact ⟨st', s1, s2, s3, s4, s5, fun i i0 => (s6 i i0).1⟩
omit hv in
theorem QCh.nw {o t : Int} {xo xt : ref10_Obj} (c : QCh st o t xo xt) (hw : NW st) (hx : xo.Word = (Go.Proofs.obt st o).Word) : NW (upd (upd st o xo) t xt) := fun i i0 i1 k => by
  rw [c.obt h i i0] at k ⊢
  split
  · rename_i e; rw [if_pos e, c.kt'] at k; omega
  · rename_i e
    rw [if_neg e] at k
    split
    · rename_i e2
      rw [if_pos e2, c.ko'] at k
      rw [hx]; exact hw o c.ho.1 c.ho.2 k
    · rename_i e2; rw [if_neg e2] at k; exact hw i i0 i1 k
theorem sig_pl2 (hw : NW st) {o b : Int} (ho : 0 ≤ o ∧ o < 32) (k : (obt st o).Kind = 4) (hb : 0 ≤ b ∧ b ≤ 65535) {n : Nat} (hn : 20 ≤ n) : ∃ st' v', ref10_State_Signal.f n st o b = some st' ∧ VM.run plainI (ntfn_Signal.f o b) v = some (none, v') ∧ IsW st' v' ∧ WF st' ∧ NW st' ∧ (RI st → RI st') ∧ ∀ i, 0 ≤ i → ((obt st' i).Kind = (obt st i).Kind) ∧ ((obt st i).Kind ≠ 4 → (obt st i).Kind ≠ 5 → obt st' i = obt st i) := by
  have gv := (hv.good h).1
  have iq := hv.isq h ho (.inr k)
  have wo := h.obj o ho.1 ho.2
  have w2 := wo.word
  have w3 := hw o ho.1 ho.2 k
  have hr := queue_rg h ho.1 ho.2
  have hwm : fld v o 1 % 65536 = (obt st o).Word := by rw [word_fv h hv ho k]; omega
  unfold ref10_State_Signal.f
  cases hq : (obt st o).Queue with
  | nil =>
    have iq' := iq
    have hr' := hr
    rw [hq] at iq' hr'
    have S := signal_q gv iq' ho hr' hb
    have hl := bor_lt ⟨w2.1, w3⟩ hb
    obtain ⟨a1, a2⟩ := nput_pl h hv ho k hl
    refine ⟨_, _, ?_, S, ?_, ?_, nw_upd h hw ho hl.2, fun r => r.upd h ho (by show (obt st o).Kind ≠ 5; omega), fun i i0 => ⟨kind_upd h ho (x := { obt st o with Word := bor .i64 (obt st o).Word b }) rfl i i0, fun z1 z2 => by rw [obt_upd h.lo ho i0, if_neg (fun e => by rw [e] at z1; exact z1 k)]⟩⟩
    · rw [pop_nil h.lo ho hq, Option.bind_some]
      simp only [show decide ((0 : Int) ≤ -1) = false from rfl, cond_false, at_obj h ho, Option.bind_some, or_ok ⟨w2.1, w3⟩ hb hn]
      rfl
    · simp only [hwm]; exact a1
    · exact a2
  | cons t l =>
    have iq' := iq
    have hr' := hr
    rw [hq] at iq' hr'
    have S := signal_q gv iq' ho hr' hb
    have hm : t ∈ (obt st o).Queue := by rw [hq]; exact List.mem_cons_self
    obtain ⟨t0, t1, k5, on, owg⟩ := h.que o ho.1 ho.2 t hm
    have hlen := nodup_len 32 (h.nodq o ho.1 ho.2) hr
    rw [hq] at hlen
    obtain ⟨c, hi⟩ := popwake_pl h hv ho (.inr k) hq (w := b) (b := 0) (by omega) (by decide)
    refine ⟨_, _, ?_, S, hi, c.wf h, c.nw h hw rfl, fun r => c.ri h r (fun _ => ⟨rfl, owg⟩), fun i i0 => ⟨c.kind h i i0, fun z1 z2 => by rw [c.obt h i i0, if_neg (fun e => by rw [e] at z2; exact z2 k5), if_neg (fun e => by rw [e] at z1; exact z1 k)]⟩⟩
    rw [pop_cons h.lo ho hq (by simp at hlen; omega), Option.bind_some]
    simp only [decide_eq_true t0, cond_true]
    rw [wake_st (by rw [upd_len]; exact h.lo) ⟨t0, t1⟩, Option.bind_some]
    have hne := c.ne h
    rw [obt_upd h.lo ho t0, if_neg (fun z => hne z.symm)]
theorem sig_pl (hw : NW st) {o b : Int} (ho : 0 ≤ o ∧ o < 32) (k : (obt st o).Kind = 4) (hb : 0 ≤ b ∧ b ≤ 65535) {n : Nat} (hn : 20 ≤ n) : ∃ st' v', ref10_State_Signal.f n st o b = some st' ∧ VM.run plainI (ntfn_Signal.f o b) v = some (none, v') ∧ IsW st' v' ∧ WF st' ∧ NW st' ∧ (RI st → RI st') ∧ ∀ i, 0 ≤ i → (obt st' i).Kind = (obt st i).Kind := by
  obtain ⟨st', v', s1, s2, s3, s4, s5, s6, s7⟩ := sig_pl2 h hv hw ho k hb hn
  exact ⟨st', v', s1, s2, s3, s4, s5, s6, fun i i0 => (s7 i i0).1⟩
theorem wait_pl2 (hw : NW st) {o t : Int} (ho : 0 ≤ o ∧ o < 32) (k : (obt st o).Kind = 4) (ht : 0 ≤ t ∧ t < 32) (k5 : (obt st t).Kind = 5) (on : (obt st t).On = -1) (owg : (obt st t).Owing = -1) : ∃ n is st' v', ref10_State_Wait.f st o t = some (n, is, st') ∧ VM.run plainI (ntfn_Wait.f o t) v = some ((⟨0, n, 0⟩, is, none), v') ∧ IsW st' v' ∧ WF st' ∧ NW st' ∧ (RI st → RI st') ∧ ∀ i, 0 ≤ i → ((obt st' i).Kind = (obt st i).Kind) ∧ ((obt st i).Kind ≠ 4 → (obt st i).Kind ≠ 5 → obt st' i = obt st i) := by
  have gv := (hv.good h).1
  have wo := h.obj o ho.1 ho.2
  have w2 := wo.word
  have w3 := hw o ho.1 ho.2 k
  have hwm : fld v o 1 % 65536 = (obt st o).Word := by rw [word_fv h hv ho k]; omega
  have S := wait_ok gv ho ht
  rw [hwm] at S
  unfold ref10_State_Wait.f
  rw [at_obj h ho, Option.bind_some]
  by_cases e : (obt st o).Word = 0
  · rw [if_pos e] at S
    have e2 : ((obt st o).Word == 0) = true := by simpa using e
    have hlen := nodup_len 32 (h.nodq o ho.1 ho.2) (queue_rg h ho.1 ho.2)
    obtain ⟨c, hi⟩ := block_pl h hv ho (.inr k) ht k5 on owg (x := 5) (by decide)
    refine ⟨0, false, _, _, ?_, S, hi, c.wf h, c.nw h hw rfl, fun r => c.ri h r (fun z => by have : (5 : Int) = 1 := z; omega), fun i i0 => ⟨c.kind h i i0, fun z1 z2 => by rw [c.obt h i i0, if_neg (fun e => by rw [e] at z2; exact z2 k5), if_neg (fun e => by rw [e] at z1; exact z1 k)]⟩⟩
    rw [e2, cond_true, block_st h.lo ho ht (c.ne h) (by omega)]; rfl
  · rw [if_neg e] at S
    have e2 : ((obt st o).Word == 0) = false := by simpa using e
    obtain ⟨st', p1, p2, p3, p4, p5, p6⟩ := poll_pl2 h hv hw ho k
    rw [hwm] at p1
    refine ⟨_, true, st', _, ?_, S, p2, p3, p4, p5, p6⟩
    rw [e2, cond_false, p1]; rfl
theorem wait_pl (hw : NW st) {o t : Int} (ho : 0 ≤ o ∧ o < 32) (k : (obt st o).Kind = 4) (ht : 0 ≤ t ∧ t < 32) (k5 : (obt st t).Kind = 5) (on : (obt st t).On = -1) (owg : (obt st t).Owing = -1) : ∃ n is st' v', ref10_State_Wait.f st o t = some (n, is, st') ∧ VM.run plainI (ntfn_Wait.f o t) v = some ((⟨0, n, 0⟩, is, none), v') ∧ IsW st' v' ∧ WF st' ∧ NW st' ∧ (RI st → RI st') ∧ ∀ i, 0 ≤ i → (obt st' i).Kind = (obt st i).Kind := by
  obtain ⟨n, is, st', v', s1, s2, s3, s4, s5, s6, s7⟩ := wait_pl2 h hv hw ho k ht k5 on owg
  exact ⟨n, is, st', v', s1, s2, s3, s4, s5, s6, fun i i0 => (s7 i i0).1⟩
end
end Go.Proofs
