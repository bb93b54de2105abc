/- Plain laws of what is reached, parts P17TcbP, P17Init, P17Boot, P17BootE, P17Pick, P17Code. On no condition. -/
import Derived.Test.YtoccfjmgbcbbkaaPlTcbPlays1
import Derived.Test.YtoccfjmgbcbbkaaPlTcbPlays0
import Derived.Test.YtoccfjmgbcbbkaaFnTcbPlays2
import Derived.Test.YtoccfjmgbcbbkaaFnTcbPlays1
import Derived.Test.YtoccfjmgbcbbkaaFnTcbPlays3
import Derived.Test.YtoccfjmgbcbbkaaFnTcbPlays0
import Derived.Test.YtoccfjmgbcbbkaaFr1
set_option linter.all false
/-! Threads: stopped, gone on with, their priority, their root; who runs. -/
set_option linter.unusedVariables false
namespace Go.Proofs
open Go.Sl
def IsT (st : ref10_State) (t : Int) : Prop := 0 ≤ t ∧ t < 32 ∧ (obt st t).Kind = 5
instance (st : ref10_State) (t : Int) : Decidable (IsT st t) := inferInstanceAs (Decidable (_ ∧ _))
theorem isT_ok {st : ref10_State} {v : List Int} (h : WF st) (hv : IsW st v) (t : Int) : VM.run plainI (lay_Is.f t 5) v = some (decide (IsT st t), v) := by
  rw [is_ok (hv.good h).1 t 5 (by decide)]
  have := hv.kind h (i := t) (k := 5) (by decide)
  by_cases c : IsT st t
  · rw [decide_eq_true c, decide_eq_true (this.2 c)]
  · rw [decide_eq_false c, decide_eq_false (fun z => c (this.1 z))]
theorem risT_ok {st : ref10_State} (h : WF st) (t : Int) : ref10_State_is.f st t 5 = some (decide (IsT st t)) := ris_ok h t 5
/-- What an operation comes to: its answer on both sides, and the state. -/
structure Op (st : ref10_State) (n : Int) (st' : ref10_State) (v' : List Int) : Prop where
  S : ES st' v'
  K : KS st st'
  F : Fx st st'
  n0 : 0 ≤ n ∧ n ≤ 14
theorem Op.same {st : ref10_State} {v : List Int} (S : ES st v) {n : Int} (hn : 0 ≤ n ∧ n ≤ 14) : Op st n st v := ⟨S, KS.refl st, Fx.refl st, hn⟩
theorem suspend_pl {st : ref10_State} {v : List Int} (S : ES st v) (t : Int) {k : Nat} (hk : 60 ≤ k) : ∃ n st' v', VM.run plainI (tcb_Suspend.f k t) v = some (if n = 0 then none else some n, v') ∧ ref10_State_Suspend.f k st t = some (n, st') ∧ Op st n st' v' := by
  unfold tcb_Suspend.f ref10_State_Suspend.f
  rw [runB, isT_ok S.h S.hv, Option.bind_some, risT_ok S.h, Option.bind_some]
  simp only [runC]
  by_cases c : IsT st t
  · rw [decide_eq_true c, Bool.not_true, cond_false, cond_false, runB, state_fv S.h S.hv ⟨c.1, c.2.1⟩ c.2.2, Option.bind_some, at_ob S.h.lo ⟨c.1, c.2.1⟩, Option.bind_some]
    simp only [runC]
    by_cases z : (obt st t).State = 0
    · rw [show ((obt st t).State == 0) = true by simpa using z]
      exact ⟨10, st, v, rfl, rfl, Op.same S (by decide)⟩
    · obtain ⟨st', v', c1, c2, c3, c4, _, _, c7⟩ := cancel_pl S ⟨c.1, c.2.1⟩ c.2.2 (k := k) hk
      rw [show ((obt st t).State == 0) = false by simpa using z, cond_false, cond_false, runB, c2, Option.bind_some, c1]
      exact ⟨0, st', v', rfl, rfl, c3, c4, c7, by decide⟩
  · rw [decide_eq_false c]
    exact ⟨2, st, v, rfl, rfl, Op.same S (by decide)⟩
theorem fx_thr {st : ref10_State} (h : WF st) {t : Int} (ht : 0 ≤ t ∧ t < 32) (k5 : (obt st t).Kind = 5) (x : ref10_Obj) : Fx st (upd st t x) := fun i i0 i1 k => by
  rw [obt_upd h.lo ht i0, if_neg (fun e => k (by rw [e]; exact k5))]; exact ⟨rfl, rfl, rfl⟩
theorem ks_thr {st : ref10_State} (h : WF st) {t : Int} (ht : 0 ≤ t ∧ t < 32) (k5 : (obt st t).Kind = 5) {x : ref10_Obj} (kx : x.Kind = 5) : KS st (upd st t x) := ⟨fun i i0 => by
  rw [obt_upd h.lo ht i0]; split
  · rename_i e; rw [e, kx, k5]
  · rfl, rfl, rfl, rfl⟩
theorem resume_pl {st : ref10_State} {v : List Int} (S : ES st v) (t : Int) : ∃ n st' v', VM.run plainI (tcb_Resume.f t) v = some (if n = 0 then none else some n, v') ∧ ref10_State_Resume.f st t = some (n, st') ∧ Op st n st' v' := by
  unfold tcb_Resume.f ref10_State_Resume.f
  rw [runB, isT_ok S.h S.hv, Option.bind_some, risT_ok S.h, Option.bind_some]
  simp only [runC]
  by_cases c : IsT st t
  · have ht : 0 ≤ t ∧ t < 32 := ⟨c.1, c.2.1⟩
    rw [decide_eq_true c, Bool.not_true, cond_false, cond_false, runB, state_fv S.h S.hv ht c.2.2, Option.bind_some, at_ob S.h.lo ht, Option.bind_some]
    simp only [runC]
    by_cases z : (obt st t).State = 0
    · obtain ⟨on, owg⟩ := S.T.ready S.h ht c.2.2 (.inr z)
      obtain ⟨iw, h'⟩ := woke_pl S.h S.hv ht c.2.2 on (w := 0) (b := 0) (by decide) (by decide)
      rw [show ((obt st t).State != 0) = false by simpa using z, cond_false, cond_false, runB, wake_ok (S.hv.good S.h).1 t 0 0 (by decide) (by decide), Option.bind_some, wake_st S.h.lo ht, Option.bind_some]
      refine ⟨0, _, _, rfl, rfl, ⟨h', iw, S.T.thr S.h ht c.2.2 (x := wokeO (obt st t) 0 0) c.2.2 rfl rfl on.symm (.inr ⟨by omega, by omega, .inr rfl⟩), S.E.upd S.h ht (fun q => by have : (obt st t).Kind = 3 := q; have := c.2.2; omega)⟩, ks_thr S.h ht c.2.2 c.2.2, fx_thr S.h ht c.2.2 _, by decide⟩
    · rw [show ((obt st t).State != 0) = true by simpa using z]
      exact ⟨10, st, v, rfl, rfl, Op.same S (by decide)⟩
  · rw [decide_eq_false c]
    exact ⟨2, st, v, rfl, rfl, Op.same S (by decide)⟩
theorem prio_pl {st : ref10_State} {v : List Int} (S : ES st v) (t p : Int) : ∃ n st' v', VM.run plainI (tcb_Prio.f t p) v = some (if n = 0 then none else some n, v') ∧ ref10_State_Prio.f st t p = some (n, st') ∧ Op st n st' v' := by
  unfold tcb_Prio.f ref10_State_Prio.f
  rw [runB, isT_ok S.h S.hv, Option.bind_some, risT_ok S.h, Option.bind_some]
  simp only [runC]
  by_cases c : IsT st t
  · have ht : 0 ≤ t ∧ t < 32 := ⟨c.1, c.2.1⟩
    have k5 := c.2.2
    rw [decide_eq_true c, Bool.not_true, cond_false, cond_false]
    by_cases z : 0 ≤ p ∧ p ≤ 255
    · have ez : (decide (p < 0) || decide (255 < p)) = false := by simp; omega
      have wt := S.h.obj t ht.1 ht.2
      have wp := wt.prio
      have won := wt.on
      have e5 : fld v t 5 = (obt st t).Prio + 256 * ((obt st t).On + 1) := by rw [fv_t S.h S.hv ht k5 (by decide) (.inl (by decide)), own5 k5]; rfl
      have ed : w64 ((w64 ((w64 ((fld v t 5).tdiv 256)) * 256)) + p) = p + 256 * ((obt st t).On + 1) := by
        have : (fld v t 5).tdiv 256 = (obt st t).On + 1 := by rw [e5, Int.tdiv_eq_ediv_of_nonneg (by omega)]; omega
        rw [this, w64_id (x := (obt st t).On + 1) (by omega) (by omega), w64_id (x := ((obt st t).On + 1) * 256) (by omega) (by omega), w64_id (by omega) (by omega)]; omega
      obtain ⟨iw, h'⟩ := thr_put S.h S.hv ht k5 (x := { obt st t with Prio := p }) { wt with prio := by show 0 ≤ p ∧ p < 256; omega } k5 rfl rfl (.inl rfl) (g := 5) (n := p + 256 * ((obt st t).On + 1)) (by decide) (by omega) (fun q => absurd q (by decide)) (fun f f0 f1 => by
        rw [own5 k5, own5 (o := { obt st t with Prio := p }) k5]
        by_cases f5 : f = 5
        · subst f5; rfl
        · rw [if_neg f5, if_neg f5, if_neg f5])
      rw [ez, cond_false, cond_false, runB, field_ok (S.hv.good S.h).1, Option.bind_some]
      simp only []
      rw [runB, ed, put_ok (S.hv.good S.h).1 t 5 _ (by omega), Option.bind_some, at_ob S.h.lo ht, Option.bind_some]
      exact ⟨0, _, _, rfl, rfl, ⟨h', iw, S.T.thr S.h ht k5 (x := { obt st t with Prio := p }) k5 rfl rfl rfl (.inl rfl), S.E.upd S.h ht (fun q => by have : (obt st t).Kind = 3 := q; omega)⟩, ks_thr S.h ht k5 k5, fx_thr S.h ht k5 _, by decide⟩
    · have ez : (decide (p < 0) || decide (255 < p)) = true := by
        rw [← Bool.not_eq_false]; simp; omega
      rw [ez]
      exact ⟨1, st, v, rfl, rfl, Op.same S (by decide)⟩
  · rw [decide_eq_false c]
    exact ⟨2, st, v, rfl, rfl, Op.same S (by decide)⟩
theorem capWord_le {c : api_Cap} (h : CapMay c) : 0 ≤ capWord c ∧ capWord c ≤ 1099511627776 := by
  obtain ⟨_, h2, h3, _⟩ := word_capOf h
  refine ⟨h3, ?_⟩
  have e : (capWord c) / 2 ^ 4 / 2 ^ 3 / 2 ^ 5 / 2 ^ 16 / 2 ^ 4 / 2 ^ 8 = capWord c / 1099511627776 := by
    rw [Int.ediv_ediv_of_nonneg (by decide), Int.ediv_ediv_of_nonneg (by decide), Int.ediv_ediv_of_nonneg (by decide), Int.ediv_ediv_of_nonneg (by decide), Int.ediv_ediv_of_nonneg (by decide)]
    rfl
  rw [e] at h2
  omega
theorem fine_pl {st : ref10_State} {v : List Int} (h : WF st) (hv : IsW st v) (cn : CN st) (c : api_Cap) : ref10_State_Fine.f st c = some (decide (Fine v c)) := by
  unfold ref10_State_Fine.f
  by_cases k : c.Kind = 2
  · rw [show (c.Kind == 2) = true by simpa using k, cond_true, ris_ok h, Option.bind_some, Option.bind_some]
    have kd := hv.kind h (i := c.Obj) (k := 2) (by decide)
    by_cases q : 0 ≤ c.Obj ∧ c.Obj < 32 ∧ (obt st c.Obj).Kind = 2
    · have ho : 0 ≤ c.Obj ∧ c.Obj < 32 := ⟨q.1, q.2.1⟩
      have nq : (obt st c.Obj).Queue = [] := noq h ho (by omega)
      have fo : ∀ f, 0 ≤ f → f < 8 → fld v c.Obj f = own (obt st c.Obj) f := fun f f0 f1 => by
        rw [hv.fv h ho ⟨f0, f1⟩]; unfold ob
        rw [if_neg (fun z => by omega), if_neg (fun z => z.2 nq), if_neg (fun z => z.2 nq)]
      have f1 : fld v c.Obj 1 = (obt st c.Obj).First := by rw [fo 1 (by decide) (by decide), own2 q.2.2]; rfl
      have f2 : fld v c.Obj 2 = (obt st c.Obj).Radix := by rw [fo 2 (by decide) (by decide), own2 q.2.2]; rfl
      have F : Fine v c := ⟨k, kd.2 q, by rw [f2]; exact (h.obj _ ho.1 ho.2).radix.2, by rw [f1, f2]; exact cn _ ho.1 ho.2 q.2.2⟩
      rw [decide_eq_true q, decide_eq_true F]
    · rw [decide_eq_false q, decide_eq_false (fun F : Fine v c => q (kd.1 F.2.1))]
  · rw [show (c.Kind == 2) = false by simpa using k, decide_eq_false (fun F : Fine v c => k F.1)]; rfl
theorem setroot_pl {st : ref10_State} {v : List Int} (S : ES st v) (cn : CN st) (t : Int) (c : api_Cap) {k : Nat} (hk : 40 ≤ k) : ∃ n st' v', VM.run plainI (tcb_SetRoot.f k t c) v = some (if n = 0 then none else some n, v') ∧ ref10_State_SetRoot.f k st t c = some (n, st') ∧ Op st n st' v' := by
  obtain ⟨k, rfl⟩ : ∃ q, k = q + 40 := ⟨k - 40, by omega⟩
  have gv := (S.hv.good S.h).1
  obtain ⟨b, hb, hb2⟩ := may_ref k c
  unfold tcb_SetRoot.f ref10_State_SetRoot.f
  rw [risT_ok S.h, Option.bind_some, runB, runO]
  by_cases m : CapMay c
  · obtain ⟨w0, w1⟩ := capWord_le m
    have eb : b = true := hb2.2 m
    rw [packPut_ok m, Option.map_some, Option.bind_some]
    simp only []
    rw [runB, isT_ok S.h S.hv, Option.bind_some]
    simp only [runC]
    by_cases ct : IsT st t
    · have ht : 0 ≤ t ∧ t < 32 := ⟨ct.1, ct.2.1⟩
      have k5 := ct.2.2
      have wt := S.h.obj t ht.1 ht.2
      rw [decide_eq_true ct, Bool.not_true, cond_false, cond_false, hb, Option.bind_some, fine_pl S.h S.hv cn, Option.bind_some, eb, runB]
      simp only [Option.isSome_none, runC, cond_false]
      rw [runB, fine_ok gv, Option.bind_some]
      simp only [runR, Option.bind_some, Bool.not_true, Bool.false_or]
      by_cases F : Fine v c
      · obtain ⟨iw, h'⟩ := thr_put S.h S.hv ht k5 (x := { obt st t with Root := c }) { wt with root := m } k5 rfl rfl (.inl rfl) (g := 7) (n := capWord c) (by decide) (by omega) (fun q => absurd q (by decide)) (fun f f0 f1 => by
          rw [own5 k5, own5 (o := { obt st t with Root := c }) k5]
          by_cases f7 : f = 7
          · subst f7; rfl
          · rw [if_neg f7]
            have : f = 0 ∨ f = 1 ∨ f = 2 ∨ f = 3 ∨ f = 4 ∨ f = 5 ∨ f = 6 := by omega
            rcases this with z | z | z | z | z | z | z <;> subst z <;> rfl)
        rw [decide_eq_true F, Bool.not_true, cond_false, cond_false, runB, w64_id (by omega) (by omega), put_ok gv t 7 _ (by omega), Option.bind_some, at_ob S.h.lo ht, Option.bind_some]
        exact ⟨0, _, _, rfl, rfl, ⟨h', iw, S.T.thr S.h ht k5 (x := { obt st t with Root := c }) k5 rfl rfl rfl (.inl rfl), S.E.upd S.h ht (fun q => by have : (obt st t).Kind = 3 := q; omega)⟩, ks_thr S.h ht k5 k5, fx_thr S.h ht k5 _, by decide⟩
      · rw [decide_eq_false F]
        exact ⟨5, st, v, rfl, rfl, Op.same S (by decide)⟩
    · rw [decide_eq_false ct]
      exact ⟨2, st, v, rfl, rfl, Op.same S (by decide)⟩
  · have eb : b = false := by
      cases e : b with
      | false => rfl
      | true => exact absurd (hb2.1 e) m
    rw [packPut_no m, Option.map_some, Option.bind_some]
    simp only []
    rw [runB, isT_ok S.h S.hv, Option.bind_some]
    simp only [runC]
    by_cases ct : IsT st t
    · rw [decide_eq_true ct, Bool.not_true, cond_false, cond_false, hb, Option.bind_some, fine_pl S.h S.hv cn, Option.bind_some, eb, runB]
      exact ⟨5, st, v, rfl, rfl, Op.same S (by decide)⟩
    · rw [decide_eq_false ct]
      exact ⟨2, st, v, rfl, rfl, Op.same S (by decide)⟩
/-- A thread's root. -/
theorem root_pl {st : ref10_State} {v : List Int} (h : WF st) (hv : IsW st v) (t : Int) {k : Nat} (hk : 40 ≤ k) : VM.run plainI (tcb_Root.f k t) v = some (if IsT st t then (obt st t).Root else ⟨0, 0, 0, 0, 0, 0⟩, v) := by
  obtain ⟨k, rfl⟩ : ∃ q, k = q + 40 := ⟨k - 40, by omega⟩
  unfold tcb_Root.f
  rw [runB, isT_ok h hv, Option.bind_some]
  simp only [runC]
  by_cases ct : IsT st t
  · have ht : 0 ≤ t ∧ t < 32 := ⟨ct.1, ct.2.1⟩
    have m := (h.obj t ht.1 ht.2).root
    obtain ⟨g1, g2, g3, g4⟩ := word_capOf m
    have e7 : fld v t 7 = capWord (obt st t).Root := by rw [fv_t h hv ht ct.2.2 (by decide) (.inl (by decide)), own5 ct.2.2]; rfl
    rw [decide_eq_true ct, Bool.not_true, cond_false, runB, field_ok (hv.good h).1, Option.bind_some, if_pos ct]
    simp only []
    rw [runB, runO, e7, wu64_id g3 g4, packGet_ok g3 g4, if_pos ⟨g2, by rw [g1]; exact m⟩, g1, Option.map_some, Option.bind_some]
    rfl
  · rw [decide_eq_false ct, if_neg ct]; rfl
/-- Who runs next: both sides say the same. -/
theorem highest_l {st : ref10_State} {v : List Int} (h : WF st) (hv : IsW st v) : ∀ (m k : Nat) (i x3 x5 x4 : Int) (x6 : Bool), 0 ≤ i → i + m = 32 → m < k → -1 ≤ x3 → x3 < 32 → x6 = decide (0 ≤ x3) → (0 ≤ x3 → x4 = x3 ∧ x5 = (obt st x3).Prio) →
    ∃ r4 r, VM.run plainI (tcb_Highest.l1 k (i, x6, x5, x4)) v = some ((r4, decide (0 ≤ r)), v) ∧ ref10_State_Highest.l1 st k (i, x3) = some r ∧ (0 ≤ r → r4 = r) := by
  intro m
  induction m with
  | zero =>
    intro k i x3 x5 x4 x6 h0 h1 hk a1 a2 a3 a4
    obtain ⟨k, rfl⟩ : ∃ q, k = q + 1 := ⟨k - 1, by omega⟩
    unfold tcb_Highest.l1 ref10_State_Highest.l1
    rw [decide_eq_false (by omega), a3]
    exact ⟨x4, x3, rfl, rfl, fun z => (a4 z).1⟩
  | succ m ih =>
    intro k i x3 x5 x4 x6 h0 h1 hk a1 a2 a3 a4
    obtain ⟨k, rfl⟩ : ∃ q, k = q + 1 := ⟨k - 1, by omega⟩
    have hi : 0 ≤ i ∧ i < 32 := by omega
    have e1 : w64 (i + 1) = i + 1 := w64_id (by omega) (by omega)
    unfold tcb_Highest.l1 ref10_State_Highest.l1
    rw [decide_eq_true (by omega : i < 32), cond_true, cond_true, e1, at_ob h.lo hi, Option.bind_some, runB, isT_ok h hv, Option.bind_some, runB]
    simp only [runC]
    by_cases k5 : (obt st i).Kind = 5
    · have ct : IsT st i := ⟨hi.1, hi.2, k5⟩
      rw [decide_eq_true ct, Bool.not_true, cond_false, runB, state_fv h hv hi k5, Option.bind_some]
      simp only [runR, Option.bind_some]
      have ek : ((obt st i).Kind != 5) = false := by simpa using k5
      rw [ek, Bool.false_or]
      by_cases z : (obt st i).State = 1
      · have ez : ((obt st i).State != 1) = false := by simpa using z
        have wt := h.obj i hi.1 hi.2
        have wp := wt.prio
        have won := wt.on
        have e5 : fld v i 5 = (obt st i).Prio + 256 * ((obt st i).On + 1) := by rw [fv_t h hv hi k5 (by decide) (.inl (by decide)), own5 k5]; rfl
        have em : (fld v i 5).tmod 256 = (obt st i).Prio := by rw [e5, Int.tmod_eq_emod_of_nonneg (by omega)]; omega
        rw [ez, cond_false, cond_false, runB, field_ok (hv.good h).1, Option.bind_some]
        simp only [runC]
        rw [em, a3]
        by_cases q : 0 ≤ x3
        · obtain ⟨b1, b2⟩ := a4 q
          rw [decide_eq_true q, decide_eq_false (by omega : ¬ x3 < 0), cond_false, at_ob h.lo ⟨q, a2⟩, Option.bind_some, b2, Bool.not_true, Bool.false_or]
          by_cases w : (obt st x3).Prio < (obt st i).Prio
          · rw [decide_eq_true w, cond_true, cond_true]
            exact ih k (i + 1) i _ i true (by omega) (by omega) (by omega) (by omega) (by omega) (decide_eq_true hi.1).symm (fun _ => ⟨rfl, rfl⟩)
          · rw [decide_eq_false w, cond_false, cond_false, b1]
            exact ih k (i + 1) x3 _ x3 true (by omega) (by omega) (by omega) a1 a2 (decide_eq_true q).symm (fun _ => ⟨rfl, rfl⟩)
        · rw [decide_eq_false q, decide_eq_true (by omega : x3 < 0), cond_true, Bool.not_false, Bool.true_or, cond_true]
          exact ih k (i + 1) i _ i true (by omega) (by omega) (by omega) (by omega) (by omega) (decide_eq_true hi.1).symm (fun _ => ⟨rfl, rfl⟩)
      · have ez : ((obt st i).State != 1) = true := by simpa using z
        rw [ez, cond_true, cond_true]
        exact ih k (i + 1) x3 x5 x4 x6 (by omega) (by omega) (by omega) a1 a2 a3 a4
    · have ct : ¬ IsT st i := fun z => k5 z.2.2
      have ek : ((obt st i).Kind != 5) = true := by simpa using k5
      rw [decide_eq_false ct, ek]
      simp only [Bool.not_false, cond_true, runR, Option.bind_some, Bool.true_or]
      exact ih k (i + 1) x3 x5 x4 x6 (by omega) (by omega) (by omega) a1 a2 a3 a4
theorem highest_pl {st : ref10_State} {v : List Int} (h : WF st) (hv : IsW st v) {k : Nat} (hk : 40 ≤ k) : ∃ r4 r, VM.run plainI (tcb_Highest.f k) v = some ((r4, decide (0 ≤ r)), v) ∧ ref10_State_Highest.f k st = some r ∧ (0 ≤ r → r4 = r) := by
  obtain ⟨r4, r, e1, e2, e3⟩ := highest_l h hv 32 k 0 (-1) 0 0 false (by decide) (by decide) (by omega) (by decide) (by decide) rfl (fun z => absurd z (by decide))
  unfold tcb_Highest.f ref10_State_Highest.f
  rw [runB, e1, e2]
  exact ⟨r4, r, rfl, rfl, e3⟩
theorem readyT_ok {st : ref10_State} (h : WF st) {t : Int} (ht : 0 ≤ t ∧ t < 32) (k5 : (obt st t).Kind = 5) : ref10_State_Ready.f st t = some (decide ((obt st t).State = 1)) := by
  unfold ref10_State_Ready.f
  rw [ris_ok h, decide_eq_true ⟨ht.1, ht.2, k5⟩, Option.bind_some, Bool.not_true, cond_false, at_obj h ht, Option.bind_some]; rfl
end Go.Proofs
/-! States in which nothing is linked, blocked or mapped. -/
set_option linter.unusedVariables false
namespace Go.Proofs
open Go.Sl
def owB (o : ref10_Obj) : Bool := decide (0 ≤ o.Kind ∧ o.Kind ≤ 8) && decide (0 ≤ o.Size ∧ o.Size ≤ 1000000000000) && decide (0 ≤ o.Used ∧ o.Used ≤ o.Size) && decide (0 ≤ o.First ∧ o.First ≤ 1000) && decide (0 ≤ o.Radix ∧ o.Radix ≤ 5) && decide (0 ≤ o.Wait ∧ o.Wait ≤ 2) && decide (o.Word = 0) && decide (0 ≤ o.State ∧ o.State ≤ 6) && decide (o.Owing = -1) && decide (o.Badge = 0) && decide (0 ≤ o.Prio ∧ o.Prio < 256) && decide (o.On = -1) && decide (-1 ≤ o.Owes ∧ o.Owes < 32) && decide (CapMay o.Root) && decide (o.Pages = ⟨-1, -1, -1, -1⟩) && decide (o.Right = ⟨0, 0, 0, 0⟩) && decide (o.In = -1) && decide (0 ≤ o.Page ∧ o.Page < 4) && decide (o.Bound = -1) && decide (0 ≤ o.Mask ∧ o.Mask ≤ 1) && o.Queue.isEmpty
def slB (x : ref10_Slot) : Bool := decide (CapMay x.Cap) && decide (x.Parent = -1) && x.Kids.isEmpty
def wfB (st : ref10_State) : Bool := st.Slots.length == 96 && st.Objs.length == 32 && st.Slots.all slB && st.Objs.all owB && decide (0 ≤ st.NS ∧ st.NS ≤ 1000) && decide (0 ≤ st.NO ∧ st.NO ≤ 1000)
structure Fresh0 (st : ref10_State) : Prop where
  wf : WF st
  par : ∀ i, 0 ≤ i → i < 96 → (slt st i).Parent = -1 ∧ (slt st i).Kids = []
  que : ∀ i, 0 ≤ i → i < 32 → (obt st i).Queue = [] ∧ (obt st i).On = -1 ∧ (obt st i).In = -1 ∧ (∀ p, 0 ≤ p → p < 4 → (obt st i).Pages.nth p = -1)
  ext : ∀ i, 0 ≤ i → i < 32 → (obt st i).Owing = -1 ∧ (obt st i).Word = 0
  ext2 : ∀ i, 0 ≤ i → i < 32 → (obt st i).Badge = 0 ∧ (obt st i).Bound = -1
theorem fresh_of {st : ref10_State} (h : wfB st = true) : Fresh0 st := by
  simp only [wfB, Bool.and_eq_true, beq_iff_eq, List.all_eq_true, decide_eq_true_eq] at h
  obtain ⟨⟨⟨⟨⟨h1, h2⟩, h3⟩, h4⟩, h5⟩, h6⟩ := h
  have S : ∀ i, 0 ≤ i → i < 96 → CapMay (slt st i).Cap ∧ (slt st i).Parent = -1 ∧ (slt st i).Kids = [] := fun i i0 i1 => by
    have hm : slt st i ∈ st.Slots := by
      unfold slt
      rw [List.getD, List.getElem?_eq_getElem (by omega)]
      exact List.getElem_mem _
    have := h3 _ hm
    simp only [slB, Bool.and_eq_true, decide_eq_true_eq, List.isEmpty_iff] at this
    exact ⟨this.1.1, this.1.2, this.2⟩
  have O : ∀ i, 0 ≤ i → i < 32 → owB (obt st i) = true := fun i i0 i1 => by
    have hm : obt st i ∈ st.Objs := by
      unfold obt
      rw [List.getD, List.getElem?_eq_getElem (by omega)]
      exact List.getElem_mem _
    exact h4 _ hm
  have nth1 : ∀ p : Int, (⟨-1, -1, -1, -1⟩ : A4).nth p = -1 := fun p => by unfold A4.nth; split; rfl; split; rfl; split <;> rfl
  have nth0 : ∀ p : Int, (⟨0, 0, 0, 0⟩ : A4).nth p = 0 := fun p => by unfold A4.nth; split; rfl; split; rfl; split <;> rfl
  have W : ∀ i, 0 ≤ i → i < 32 → OW (obt st i) ∧ (obt st i).Queue = [] ∧ (obt st i).On = -1 ∧ (obt st i).In = -1 ∧ (∀ p, 0 ≤ p → p < 4 → (obt st i).Pages.nth p = -1) ∧ ((obt st i).Owing = -1 ∧ (obt st i).Word = 0) ∧ (obt st i).Badge = 0 ∧ (obt st i).Bound = -1 := fun i i0 i1 => by
    have := O i i0 i1
    simp only [owB, Bool.and_eq_true, decide_eq_true_eq, List.isEmpty_iff] at this
    obtain ⟨⟨⟨⟨⟨⟨⟨⟨⟨⟨⟨⟨⟨⟨⟨⟨⟨⟨⟨⟨w1, w2⟩, w3⟩, w4⟩, w5⟩, w6⟩, w7⟩, w8⟩, w9⟩, w10⟩, w11⟩, w12⟩, w13⟩, w14⟩, w15⟩, w16⟩, w17⟩, w18⟩, w19⟩, w20⟩, w21⟩ := this
    refine ⟨⟨w1, w2, w3, w4, w5, w6, by omega, w8, by omega, by omega, w11, by omega, w13, w14, fun p _ _ => ?_, fun p _ _ => ?_, by omega, w18, by omega, w20⟩, w21, w12, w17, fun p _ _ => ?_, ⟨w9, w7⟩, w10, w19⟩
    · rw [w15, nth1]; decide
    · rw [w16, nth0]; decide
    · rw [w15, nth1]
  refine ⟨⟨h1, h2, fun i a b => (S i a b).1, fun i a b => by rw [(S i a b).2.1]; decide, fun i a b x hx => ?_, fun x a b hx => ?_, fun i a b => ?_, fun i a b => by rw [(S i a b).2.1]; omega, fun i a b => (W i a b).1, fun i a b t ht => ?_, fun i a b hq => ?_, fun t a b _ on => ?_, fun i a b => ?_, h5, h6⟩, fun i a b => (S i a b).2, fun i a b => ⟨(W i a b).2.1, (W i a b).2.2.1, (W i a b).2.2.2.1, (W i a b).2.2.2.2.1⟩, fun i a b => (W i a b).2.2.2.2.2.1, fun i a b => (W i a b).2.2.2.2.2.2⟩
  · rw [(S i a b).2.2] at hx; cases hx
  · rw [(S x a b).2.1] at hx; omega
  · rw [(S i a b).2.2]; exact List.nodup_nil
  · rw [(W i a b).2.1] at ht; cases ht
  · exact absurd (W i a b).2.1 hq
  · rw [(W t a b).2.2.1] at on; omega
  · rw [(W i a b).2.1]; exact List.nodup_nil
end Go.Proofs
/-! The boot states. -/
set_option linter.unusedVariables false
namespace Go.Proofs
open Go.Sl
def kindAt (n i : Int) : Int := if i < n then 5 else if i = n then 2 else if i = n + 1 then 2 else if i = n + 2 then 1 else if i = n + 3 then 3 else if i = n + 4 then 4 else if i = n + 5 then 8 else if i = n + 6 then 7 else if i = n + 7 then 6 else 0
def bootB (n : Int) : Bool := match ref10_Boot.f 2000 n with
  | some t => wfB t && (List.range 32).all fun i => (obt t i).Kind == kindAt n i
  | none => false
theorem boot_0 : bootB 0 = true := by decide +kernel
theorem boot_1 : bootB 1 = true := by decide +kernel
theorem boot_2 : bootB 2 = true := by decide +kernel
theorem boot_3 : bootB 3 = true := by decide +kernel
theorem boot_4 : bootB 4 = true := by decide +kernel
theorem boot_5 : bootB 5 = true := by decide +kernel
theorem boot_6 : bootB 6 = true := by decide +kernel
theorem boot_7 : bootB 7 = true := by decide +kernel
theorem boot_ok {n : Int} (hn : 0 ≤ n ∧ n ≤ 7) : ∃ t, ref10_Boot.f 2000 n = some t ∧ Fresh0 t ∧ ∀ i, 0 ≤ i → i < 32 → (obt t i).Kind = kindAt n i := by
  have h : bootB n = true := by
    rcases (by omega : n = 0 ∨ n = 1 ∨ n = 2 ∨ n = 3 ∨ n = 4 ∨ n = 5 ∨ n = 6 ∨ n = 7) with rfl | rfl | rfl | rfl | rfl | rfl | rfl | rfl
    · exact boot_0
    · exact boot_1
    · exact boot_2
    · exact boot_3
    · exact boot_4
    · exact boot_5
    · exact boot_6
    · exact boot_7
  unfold bootB at h
  cases hB : ref10_Boot.f 2000 n with
  | none => simp [hB] at h
  | some t =>
    simp only [hB, Bool.and_eq_true, List.all_eq_true, List.mem_range, beq_iff_eq] at h
    refine ⟨t, rfl, fresh_of h.1, fun i i0 i1 => ?_⟩
    have := h.2 i.toNat (by omega)
    rwa [show ((i.toNat : Nat) : Int) = i by omega] at this
end Go.Proofs
/-! The boot states' threads run, owe nothing, and nobody waits. -/
set_option linter.unusedVariables false
namespace Go.Proofs
open Go.Sl
def bootE (n : Int) : Bool := match ref10_Boot.f 2000 n with
  | some t => (List.range 32).all fun i => decide ((obt t i).Owes = -1) && decide ((obt t i).Wait = 0) && decide ((obt t i).Kind = 5 → (obt t i).State = 1) && decide ((obt t i).Kind = 2 → (obt t i).First ≤ 96 - 2 ^ (obt t i).Radix.toNat)
  | none => false
theorem bootE_0 : bootE 0 = true := by decide +kernel
theorem bootE_1 : bootE 1 = true := by decide +kernel
theorem bootE_2 : bootE 2 = true := by decide +kernel
theorem bootE_3 : bootE 3 = true := by decide +kernel
theorem bootE_4 : bootE 4 = true := by decide +kernel
theorem bootE_5 : bootE 5 = true := by decide +kernel
theorem bootE_6 : bootE 6 = true := by decide +kernel
theorem bootE_7 : bootE 7 = true := by decide +kernel
theorem bootE_ok {n : Int} (hn : 0 ≤ n ∧ n ≤ 7) {t : ref10_State} (h : ref10_Boot.f 2000 n = some t) : ∀ i, 0 ≤ i → i < 32 → (obt t i).Owes = -1 ∧ (obt t i).Wait = 0 ∧ ((obt t i).Kind = 5 → (obt t i).State = 1) ∧ ((obt t i).Kind = 2 → (obt t i).First ≤ 96 - 2 ^ (obt t i).Radix.toNat) := by
  have hb : bootE n = true := by
    rcases (by omega : n = 0 ∨ n = 1 ∨ n = 2 ∨ n = 3 ∨ n = 4 ∨ n = 5 ∨ n = 6 ∨ n = 7) with rfl | rfl | rfl | rfl | rfl | rfl | rfl | rfl
    · exact bootE_0
    · exact bootE_1
    · exact bootE_2
    · exact bootE_3
    · exact bootE_4
    · exact bootE_5
    · exact bootE_6
    · exact bootE_7
  unfold bootE at hb
  simp only [h, List.all_eq_true, List.mem_range, Bool.and_eq_true, decide_eq_true_eq] at hb
  intro i i0 i1
  have := hb i.toNat (by omega)
  rw [show ((i.toNat : Nat) : Int) = i by omega] at this
  exact ⟨this.1.1.1, this.1.1.2, this.1.2, this.2⟩
end Go.Proofs
/-! Draws. -/
set_option linter.unusedVariables false
namespace Go.Proofs
open Go.Sl
/-- What is drawn of n, n > 0. -/
def pick (c n : Int) : Int := if c < 0 then (-(c + 1)) % n else c % n
theorem pick_ok {c n : Int} (h : (Lit.int .i64 c).wf = true) (hn : 0 < n) (hn2 : n ≤ 9223372036854775807) : law10_Pick.f c n = some (pick c n) := by
  obtain ⟨h1, h2⟩ := fits_i64 h
  unfold law10_Pick.f pick
  have hc : chk (decide (n ≠ 0)) = some () := by unfold chk; rw [decide_eq_true (by omega)]; rfl
  by_cases q : c < 0
  · rw [decide_eq_true q, if_pos q, cond_true, hc, Option.bind_some, w64_id (x := c + 1) (by omega) (by omega), w64_id (by omega) (by omega), Int.tmod_eq_emod_of_nonneg (by omega)]
    congr 2; omega
  · rw [decide_eq_false q, if_neg q, cond_false, hc, Option.bind_some, Int.tmod_eq_emod_of_nonneg (by omega)]
theorem pick_lt (c : Int) {n : Int} (hn : 0 < n) : 0 ≤ pick c n ∧ pick c n < n := by
  unfold pick; split
  · exact ⟨Int.emod_nonneg _ (by omega), Int.emod_lt_of_pos _ hn⟩
  · exact ⟨Int.emod_nonneg _ (by omega), Int.emod_lt_of_pos _ hn⟩
end Go.Proofs
/-! The number of an error. -/
set_option linter.unusedVariables false
namespace Go.Proofs
open Go.Sl
theorem code_l1 {n : Int} (hn : 1 ≤ n ∧ n ≤ 14) : ∀ (m k : Nat) (i : Int), 1 ≤ i → i ≤ n → n - i = m → m < k → law00_Code.l1 (some n) k i = some (Brk.ret n) := by
  intro m
  induction m with
  | zero =>
    intro k i h1 h2 h3 hk
    obtain ⟨k, rfl⟩ : ∃ z, k = z + 1 := ⟨k - 1, by omega⟩
    obtain rfl : i = n := by omega
    unfold law00_Code.l1
    rw [decide_eq_true (by omega), cond_true]
    have : (some i == some i) = true := by simp
    rw [this, cond_true]
  | succ m ih =>
    intro k i h1 h2 h3 hk
    obtain ⟨k, rfl⟩ : ∃ z, k = z + 1 := ⟨k - 1, by omega⟩
    unfold law00_Code.l1
    rw [decide_eq_true (by omega), cond_true]
    have : (some n == some i) = false := by simp; omega
    rw [this, cond_false, w64_id (by omega) (by omega)]
    exact ih k (i + 1) (by omega) (by omega) (by omega) (by omega)
theorem code_ok {n : Int} (hn : 0 ≤ n ∧ n ≤ 14) {k : Nat} (hk : 20 ≤ k) : law00_Code.f k (if n = 0 then none else some n) = some n := by
  unfold law00_Code.f
  by_cases h : n = 0
  · rw [if_pos h, h]; rfl
  · rw [if_neg h, code_l1 (by omega) (n - 1).toNat k 1 (by decide) (by omega) (by omega) (by omega)]; rfl
end Go.Proofs
