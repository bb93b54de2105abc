/- Plain laws of what is reached, parts P17IsQR, P17Is, P17EpW, P17EpTI, P17EpPl, P17SendPl, P17RecvPl, P17AppL, P17Wout, P17CanPl, P17CancPl, P17WaitP, P17Cap, P17MayR, P17FineP. On no condition. -/
import Derived.Test.YtoccfjmgbcbbkaaPlTcbPlays0
import Derived.Test.YtoccfjmgbcbbkaaFnTcbPlays1
import Derived.Test.YtoccfjmgbcbbkaaFnTcbPlays0
import Derived.Test.YtoccfjmgbcbbkaaFnTcbPlays2
import Derived.Test.YtoccfjmgbcbbkaaFnTcbPlays4
import Derived.Test.YtoccfjmgbcbbkaaFnTcbPlays3
set_option linter.all false
/-! One is removed: the queue then. -/
set_option linter.unusedVariables false
namespace Go.Proofs
open Go.Sl
theorem layQ_fld : ∀ (l : List Int) (s : List Int), Good s → l.Nodup → (∀ x ∈ l, 0 ≤ x ∧ x < 32) → Lnk (fun t => fld (layQ s l) t 2) l ∧ ∀ i f, ¬ (i ∈ l ∧ f = 2) → fld (layQ s l) i f = fld s i f
  | [], s, g, _, _ => ⟨trivial, fun _ _ _ => rfl⟩
  | [t], s, g, _, hr => by
    have ht := hr t List.mem_cons_self
    have it : InObj t 2 := ⟨ht.1, ht.2, by omega, by omega⟩
    refine ⟨?_, fun i f h => ?_⟩
    · show fld (put s t 2 0) t 2 = 0
      rw [fld_put g t 2 0 t 2 (by omega), if_pos ⟨rfl, rfl, it, by omega⟩]
    · show fld (put s t 2 0) i f = _
      rw [fld_put g t 2 0 i f (by omega), if_neg]
      rintro ⟨rfl, rfl, _⟩; exact h ⟨List.mem_cons_self, rfl⟩
  | t :: u :: l, s, g, hn, hr => by
    have ht := hr t List.mem_cons_self
    have hu := hr u (by simp)
    have it : InObj t 2 := ⟨ht.1, ht.2, by omega, by omega⟩
    have g1 := good_put g t 2 (u + 1)
    have hn' := List.nodup_cons.1 hn
    obtain ⟨h1, h2⟩ := layQ_fld (u :: l) (put s t 2 (u + 1)) g1 hn'.2 (fun x hx => hr x (List.mem_cons_of_mem _ hx))
    refine ⟨⟨?_, h1⟩, fun i f h => ?_⟩
    · show fld (layQ (put s t 2 (u + 1)) (u :: l)) t 2 = u + 1
      rw [h2 t 2 (fun q => hn'.1 q.1), fld_put g t 2 (u + 1) t 2 (by omega), if_pos ⟨rfl, rfl, it, by omega⟩]
    · show fld (layQ (put s t 2 (u + 1)) (u :: l)) i f = _
      rw [h2 i f (fun q => h ⟨List.mem_cons_of_mem _ q.1, q.2⟩), fld_put g t 2 (u + 1) i f (by omega), if_neg]
      rintro ⟨rfl, rfl, _⟩; exact h ⟨List.mem_cons_self, rfl⟩
theorem la_rg32 {l : List Int} (hr : ∀ x ∈ l, 0 ≤ x ∧ x < 32) : 0 ≤ la l ∧ la l ≤ 32 := by
  unfold la
  cases hz : l.getLast? with
  | none => exact ⟨Int.le_refl _, by decide⟩
  | some z => have := hr z (List.mem_of_getLast? hz); show 0 ≤ z + 1 ∧ z + 1 ≤ 32; omega
theorem hd_rg32 {l : List Int} (hr : ∀ x ∈ l, 0 ≤ x ∧ x < 32) : 0 ≤ hd l ∧ hd l ≤ 32 := by
  cases l with
  | nil => exact ⟨Int.le_refl _, by decide⟩
  | cons t l => have := hr t List.mem_cons_self; show 0 ≤ t + 1 ∧ t + 1 ≤ 32; omega
theorem qput_eq (s : List Int) (o : Int) (l : List Int) : qput s o l = put (put (layQ s l) o 2 (hd l)) o 3 (la l) := by
  cases l with
  | nil => rfl
  | cons t r =>
    have : la (t :: r) = (t :: r).getLast (by simp) + 1 := by unfold la; rw [List.getLast?_eq_some_getLast (by simp)]
    rw [this]; rfl
theorem fld_qput {s : List Int} (g : Good s) {o : Int} {l : List Int} (ho : 0 ≤ o ∧ o < 32) (hn : l.Nodup) (hr : ∀ x ∈ l, 0 ≤ x ∧ x < 32) (i f : Int) : fld (qput s o l) i f = if i = o ∧ f = 3 then la l else if i = o ∧ f = 2 then hd l else fld (layQ s l) i f := by
  have h1 := la_rg32 hr
  have h2 := hd_rg32 hr
  have g1 := good_layQ (l := l) g
  have i2 : InObj o 2 := ⟨ho.1, ho.2, by omega, by omega⟩
  have i3 : InObj o 3 := ⟨ho.1, ho.2, by omega, by omega⟩
  rw [qput_eq, fld_put (good_put g1 _ _ _) o 3 (la l) i f (by omega), fld_put g1 o 2 (hd l) i f (by omega)]
  simp only [i2, i3, h1.1, h2.1, true_and, and_true, eq_comm (a := o) (b := i), eq_comm (a := (3 : Int)) (b := f), eq_comm (a := (2 : Int)) (b := f)]
/-- The fields behind a removal. -/
theorem fld_removeTo {s : List Int} (g : Good s) {o t : Int} {l : List Int} (h : IsQ s o l) (ho : 0 ≤ o ∧ o < 32) (hr : ∀ x ∈ l, 0 ≤ x ∧ x < 32) (hl : l.length ≤ 32) (hn : l.Nodup) (ht : t ∈ l) (hol : o ∉ l) :
    (∀ i f, ¬ (i ∈ l ∧ f = 2) → fld (removeTo s o t) i f = if i = o ∧ f = 3 then la (l.erase t) else if i = o ∧ f = 2 then hd (l.erase t) else fld s i f) ∧ fld (removeTo s o t) t 2 = 0 ∧ IsQ (removeTo s o t) o (l.erase t) := by
  have htr := hr t ht
  have it : InObj t 2 := ⟨htr.1, htr.2, by omega, by omega⟩
  have hto : t ≠ o := fun e => hol (e ▸ ht)
  have hrem : removeTo s o t = put (qput s o (l.erase t)) t 2 0 := by
    unfold removeTo
    rw [h.list hr hl, List.erase_eq_eraseIdx_of_idxOf rfl]
  have hn' : (l.erase t).Nodup := hn.erase t
  have hr' : ∀ x ∈ l.erase t, 0 ≤ x ∧ x < 32 := fun x hx => hr x (List.mem_of_mem_erase hx)
  have hte : t ∉ l.erase t := fun q => by
    rw [List.Nodup.mem_erase_iff hn] at q; exact q.1 rfl
  obtain ⟨lk, lf⟩ := layQ_fld (l.erase t) s g hn' hr'
  have F := fld_qput g ho hn' hr'
  have gq := good_qput g o (l.erase t)
  have P : ∀ i f, fld (removeTo s o t) i f = if t = i ∧ 2 = f then 0 else fld (qput s o (l.erase t)) i f := fun i f => by
    rw [hrem, fld_put gq t 2 0 i f (by omega)]
    simp only [it, Int.le_refl, and_true]
  refine ⟨fun i f hif => ?_, ?_, ⟨?_, ?_, ?_⟩⟩
  · rw [P, if_neg (by rintro ⟨rfl, rfl⟩; exact hif ⟨ht, rfl⟩), F]
    by_cases e1 : i = o ∧ f = 3
    · rw [if_pos e1, if_pos e1]
    · rw [if_neg e1, if_neg e1]
      by_cases e2 : i = o ∧ f = 2
      · rw [if_pos e2, if_pos e2]
      · rw [if_neg e2, if_neg e2, lf i f (fun q => hif ⟨List.mem_of_mem_erase q.1, q.2⟩)]
  · rw [P, if_pos ⟨rfl, rfl⟩]
  · rw [P, if_neg (fun q => hto q.1), F, if_neg (by omega), if_pos ⟨rfl, rfl⟩]
  · rw [P, if_neg (by omega), F, if_pos ⟨rfl, rfl⟩]
  · refine lk.congr fun x hx => ?_
    show fld (removeTo s o t) x 2 = _
    rw [P, if_neg (by rintro ⟨rfl, _⟩; exact hte hx), F, if_neg (by omega), if_neg]
    rintro ⟨rfl, _⟩; exact hol (List.mem_of_mem_erase hx)
end Go.Proofs
/-! Kinds of objects. -/
set_option linter.unusedVariables false
namespace Go.Proofs
open Go.Sl
theorem is_ok {s : List Int} (h : Good s) (i k : Int) (hk : 1 ≤ k ∧ k ≤ 4611686018427387904) : VM.run plainI (lay_Is.f i k) s = some (decide (fld s i 0 = k), s) := by
  unfold lay_Is.f fld
  rw [runB, runO, obj_ok]
  by_cases hi : InObj i 0
  · rw [if_pos hi, if_pos hi]
    have hi' := hi
    unfold InObj at hi'
    have hg := h.2 (480 + 8 * i + 0).toNat
    have h0 : decide (0 ≤ k) = true := decide_eq_true (by omega)
    simp only [Option.map_some, Option.bind_some, runB, h0, Bool.and_true, cond_true]
    rw [runRd _ (by rw [h.1]; omega), wu64_id (by omega) (by omega)]
    simp only [runR, Option.bind_some]
    generalize s.getD (480 + 8 * i + 0).toNat 0 = x at hg
    congr 2
    unfold numb
    rw [Bool.eq_iff_iff]
    simp only [beq_iff_eq, decide_eq_true_eq]
    split <;> omega
  · rw [if_neg hi, if_neg hi]
    have : decide ((0 : Int) = k) = false := decide_eq_false (by omega)
    simp only [Option.map_some, Option.bind_some, runB, Bool.false_and, cond_false, runR, this]
end Go.Proofs
/-! Threads and Endpoints: words behind changes. -/
set_option linter.unusedVariables false
namespace Go.Proofs
open Go.Sl
section
variable {st : ref10_State} {v : List Int} (h : WF st) (hv : IsW st v)
include h hv
/-- A thread changes, but not what it is blocked on. -/
theorem thr_isw {t : Int} (ht : 0 ≤ t ∧ t < 32) (k5 : (obt st t).Kind = 5) {x : ref10_Obj} (hx : OW x) (kx : x.Kind = 5) (hq : x.Queue = (obt st t).Queue) (ho : x.On = (obt st t).On) (hw : x.Owing = (obt st t).Owing ∨ x.On = -1) {v' : List Int} (low : Low v v') (sm : Sm v') (hoth : ∀ i f, 0 ≤ i → i < 32 → 0 ≤ f → f < 8 → i ≠ t → fld v' i f = fld v i f) (hme : ∀ f, 0 ≤ f → f < 8 → f ≠ 2 ∨ x.On = -1 → fld v' t f = own x f) (h2 : x.On ≠ -1 → fld v' t 2 = fld v t 2) : IsW (upd st t x) v' ∧ WF (upd st t x) := by
  have wo := hx.on
  refine ⟨hv.of_fld low sm (fun _ _ => rfl) rfl rfl fun i f i0 i1 f0 f1 => ?_, h.upd ht hx (by rw [kx, k5]) hq ho (by
    rcases hw with z | z
    · exact .inl z
    · exact .inr (.inl ⟨kx, by omega⟩))⟩
  rw [ob_upd h ht hq ⟨i0, i1⟩]
  by_cases e : i = t
  · subst e
    have qn := noq h ht (by omega)
    rw [if_pos rfl]
    by_cases c : f = 2 ∧ x.Kind = 5 ∧ 0 ≤ x.On
    · rw [if_pos c, c.1, h2 (by omega), hv.fv h ht (by decide), ob_t h ht k5, if_pos ⟨rfl, by rw [← ho]; exact c.2.2⟩, ← ho]
    · rw [if_neg c, if_neg (fun z => z.2 qn), if_neg (fun z => z.2 qn)]
      refine hme f f0 f1 ?_
      by_cases f2 : f = 2
      · right; have : ¬ 0 ≤ x.On := fun z => c ⟨f2, kx, z⟩
        omega
      · exact .inl f2
  · rw [if_neg e, hoth i f i0 i1 f0 f1 e, hv.fv h ⟨i0, i1⟩ ⟨f0, f1⟩]
/-- One field of a thread is put. -/
theorem thr_put {t : Int} (ht : 0 ≤ t ∧ t < 32) (k5 : (obt st t).Kind = 5) {x : ref10_Obj} (hx : OW x) (kx : x.Kind = 5) (hq : x.Queue = (obt st t).Queue) (ho : x.On = (obt st t).On) (hw : x.Owing = (obt st t).Owing ∨ x.On = -1) {g n : Int} (hg : 0 ≤ g ∧ g < 8) (hn : 0 ≤ n ∧ n ≤ 4611686018427387904) (h2 : g = 2 → x.On = -1) (hme : ∀ f, 0 ≤ f → f < 8 → own x f = if f = g then n else own (obt st t) f) : IsW (upd st t x) (put v t g n) ∧ WF (upd st t x) := by
  have gv := (hv.good h).1
  have io : InObj t g := ⟨ht.1, ht.2, hg.1, hg.2⟩
  refine thr_isw h hv ht k5 hx kx hq ho hw ((Low.refl hv.len).put t g n) (sm_put (hv.sm h) hn.2) (fun i f i0 i1 f0 f1 ne => ?_) (fun f f0 f1 c => ?_) (fun c => ?_)
  · rw [fld_put gv t g n i f hn.2, if_neg (fun z => ne z.1.symm)]
  · rw [fld_put gv t g n t f hn.2, hme f f0 f1]
    by_cases e : f = g
    · rw [if_pos ⟨rfl, e.symm, io, hn.1⟩, if_pos e]
    · rw [if_neg (fun z => e z.2.1.symm), if_neg e]
      exact fv_t h hv ht k5 ⟨f0, f1⟩ (by rw [← ho]; exact c)
  · rw [fld_put gv t g n t 2 hn.2, if_neg (fun z => c (h2 z.2.1))]
/-- The first of a queue leaves it, and is as told then. -/
theorem pop_isw {o t : Int} {l : List Int} (ho : 0 ≤ o ∧ o < 32) (hk : (obt st o).Kind = 3 ∨ (obt st o).Kind = 4) (hq : (obt st o).Queue = t :: l) {xt : ref10_Obj} (wt : OW xt) (kt : xt.Kind = 5) (qt : xt.Queue = []) (on : xt.On = -1) {v' : List Int} (low : Low v v') (sm : Sm v') (F : ∀ i f, 0 ≤ i → i < 32 → 0 ≤ f → f < 8 → i ≠ t → fld v' i f = fld (popTo v o t) i f) (Ft : ∀ f, 0 ≤ f → f < 8 → fld v' t f = own xt f) :
    QCh st o t { obt st o with Queue := l } xt ∧ IsW (upd (upd st o { obt st o with Queue := l }) t xt) v' := by
  have hm : t ∈ (obt st o).Queue := by rw [hq]; exact List.mem_cons_self
  obtain ⟨t0, t1, k5, on', owg⟩ := h.que o ho.1 ho.2 t hm
  have hnd := h.nodq o ho.1 ho.2
  rw [hq] at hnd
  have hnd2 := List.nodup_cons.1 hnd
  have c : QCh st o t { obt st o with Queue := l } xt := {
    ho := ho, ht := ⟨t0, t1⟩, ko := hk, kt := k5, wo := { h.obj o ho.1 ho.2 with }, ko' := rfl, kt' := kt, qt := qt, nd := hnd2.2
    wt := wt
    mem := fun y hy => by rw [hq]; exact ⟨List.mem_cons_of_mem _, fun z => by rcases List.mem_cons.1 z with q | q; exact absurd q hy; exact q⟩
    mt := ⟨fun z => absurd z hnd2.1, fun z => by omega⟩
    on := .inr on
    ow := fun z => by omega
    was := .inr on' }
  refine ⟨c, ?_⟩
  have hne := c.ne h
  have gv := (hv.good h).1
  have iq := hv.isq h ho hk
  rw [hq] at iq
  have hr : ∀ x ∈ t :: l, 0 ≤ x ∧ x < 32 := fun x hx => by rw [← hq] at hx; exact queue_rg h ho.1 ho.2 x hx
  have hol : o ∉ t :: l := fun z => by rw [← hq] at z; have := (h.que o ho.1 ho.2 o z).2.2.1; omega
  have P := fld_popTo gv iq ho hr (fun z => hne z.symm)
  have iqp := iq.pop gv ho hr hol hnd
  refine c.isw h hv low sm (iqp.congr (F o 2 ho.1 ho.2 (by decide) (by decide) hne) (F o 3 ho.1 ho.2 (by decide) (by decide) hne) fun x hx => ?_) (fun i f io it i0 i1 f0 f1 hc => ?_) (fun f f0 f1 e2 e3 => ?_) (fun f f0 f1 hc => Ft f f0 f1)
  · have := hr x (List.mem_cons_of_mem _ hx)
    exact F x 2 this.1 this.2 (by decide) (by decide) (fun z => hnd2.1 (by rw [← z]; exact hx))
  · rw [F i f i0 i1 f0 f1 it, P, if_neg (by omega), if_neg (by omega), if_neg (by omega)]
  · rw [F o f ho.1 ho.2 f0 f1 hne, P, if_neg (by omega), if_neg (by omega), if_neg (by omega), fv_o h hv ho hk ⟨f0, f1⟩ e2 e3]
    rcases hk with k | k
    · rw [own3 k, own3 (o := { obt st o with Queue := l }) k]
    · rw [own4 k, own4 (o := { obt st o with Queue := l }) k]
/-- An Endpoint's word is put. -/
theorem ep_isw {o : Int} (ho : 0 ≤ o ∧ o < 32) (k3 : (obt st o).Kind = 3) {n : Int} (hn : 0 ≤ n ∧ n ≤ 2) : IsW (upd st o { obt st o with Wait := n }) (put v o 1 n) ∧ WF (upd st o { obt st o with Wait := n }) := by
  have gv := (hv.good h).1
  have io : InObj o 1 := ⟨ho.1, ho.2, by decide, by decide⟩
  have wo := h.obj o ho.1 ho.2
  have hx : OW ({ obt st o with Wait := n } : ref10_Obj) := { wo with wait := hn }
  refine ⟨hv.of_fld ((Low.refl hv.len).put o 1 n) (sm_put (hv.sm h) (by omega)) (fun _ _ => rfl) rfl rfl fun i f i0 i1 f0 f1 => ?_, h.upd ho hx rfl rfl rfl (.inl rfl)⟩
  have kx : ({ obt st o with Wait := n } : ref10_Obj).Kind = 3 := k3
  rw [ob_upd h ho (x := ({ obt st o with Wait := n } : ref10_Obj)) rfl ⟨i0, i1⟩]
  by_cases e : i = o
  · subst e
    rw [if_pos rfl, if_neg (by rw [kx]; omega), fld_put gv i 1 n i f (by omega)]
    by_cases e1 : f = 1
    · rw [if_pos ⟨rfl, e1.symm, io, hn.1⟩, if_neg (by omega), if_neg (by omega), own3 kx, if_neg (by omega), if_pos e1]
    · rw [if_neg (fun z => e1 z.2.1.symm), hv.fv h ho ⟨f0, f1⟩]
      unfold ob
      rw [if_neg (by omega), own3 kx, own3 k3, if_neg e1, if_neg e1]
  · rw [if_neg e, fld_put gv o 1 n i f (by omega), if_neg (fun z => e z.1.symm), hv.fv h ⟨i0, i1⟩ ⟨f0, f1⟩]
theorem ep_fv {o : Int} (ho : 0 ≤ o ∧ o < 32) (k3 : (obt st o).Kind = 3) : fld v o 1 = (obt st o).Wait := by
  rw [fv_o h hv ho (.inl k3) (by decide) (by decide) (by decide), own3 k3]; rfl
/-- All who wait, out of the words. -/
theorem q_list {o : Int} (ho : 0 ≤ o ∧ o < 32) (hk : (obt st o).Kind = 3 ∨ (obt st o).Kind = 4) {k : Nat} (hkk : 40 ≤ k) : VM.run plainI (queue_List.f k o) v = some ((obt st o).Queue, v) := by
  have hr := queue_rg h ho.1 ho.2
  rw [list_ok (hv.good h).1 k hkk o, (hv.isq h ho hk).list hr (nodup_len 32 (h.nodq o ho.1 ho.2) hr)]
/-- Nobody waits, if that is so. -/
theorem rest_pl {o : Int} (ho : 0 ≤ o ∧ o < 32) (k3 : (obt st o).Kind = 3) {k : Nat} (hk : 40 ≤ k) : ∃ v', VM.run plainI (endp_rest.f k o) v = some ((), v') ∧ IsW (if (obt st o).Queue = [] then upd st o { obt st o with Wait := 0 } else st) v' ∧ WF (if (obt st o).Queue = [] then upd st o { obt st o with Wait := 0 } else st) ∧ ref10_State_rest.f st o = some (if (obt st o).Queue = [] then upd st o { obt st o with Wait := 0 } else st) := by
  obtain ⟨e1, e2⟩ := ep_isw h hv ho k3 (n := 0) (by decide)
  unfold endp_rest.f ref10_State_rest.f
  rw [runB, q_list h hv ho (.inl k3) hk, Option.bind_some, runC, at_obj h ho, Option.bind_some]
  simp only []
  by_cases c : (obt st o).Queue = []
  · have e : (((obt st o).Queue.length : Int) == 0) = true := by rw [c]; rfl
    rw [if_pos c, e, cond_true, cond_true, runB, put_ok (hv.good h).1 o 1 0 (by decide), Option.bind_some]
    exact ⟨_, rfl, e1, e2, rfl⟩
  · have e : (((obt st o).Queue.length : Int) == 0) = false := by
      have := List.length_pos_iff.2 c
      simp; exact c
    rw [if_neg c, e, cond_false, cond_false]
    exact ⟨v, rfl, hv, h, rfl⟩
end
end Go.Proofs
/-! Threads: what is so of all, and stays. -/
set_option linter.unusedVariables false
namespace Go.Proofs
open Go.Sl
def OnC (k w s e : Int) : Prop := k = 3 ∧ w = 1 ∧ (s = 2 ∨ s = 6) ∨ k = 3 ∧ w = 2 ∧ s = 3 ∧ e < 0 ∨ k = 4 ∧ s = 5
structure TI (st : ref10_State) : Prop where
  g : ∀ c, 0 ≤ c → c < 32 → (obt st c).Kind = 5 → 0 ≤ (obt st c).Owing → (obt st (obt st c).Owing).Kind = 5 ∧ (obt st (obt st c).Owing).Owes = c ∧ (obt st c).State = 4
  e : ∀ s, 0 ≤ s → s < 32 → (obt st s).Kind = 5 → 0 ≤ (obt st s).Owes → (obt st (obt st s).Owes).Kind = 5 ∧ (obt st (obt st s).Owes).Owing = s
  s4 : ∀ c, 0 ≤ c → c < 32 → (obt st c).Kind = 5 → (obt st c).State = 4 → 0 ≤ (obt st c).Owing ∧ (obt st c).On < 0
  on : ∀ t, 0 ≤ t → t < 32 → (obt st t).Kind = 5 → 0 ≤ (obt st t).On → OnC (obt st (obt st t).On).Kind (obt st (obt st t).On).Wait (obt st t).State (obt st t).Owes
  off : ∀ t, 0 ≤ t → t < 32 → (obt st t).Kind = 5 → (obt st t).On < 0 → (obt st t).State = 0 ∨ (obt st t).State = 1 ∨ (obt st t).State = 4
theorem TI.two {st : ref10_State} (h : WF st) (T : TI st) {o r : Int} {xo xr : ref10_Obj} (c : QCh st o r xo xr) (hG : xr.Owing = (obt st r).Owing) (hE : xr.Owes = (obt st r).Owes) (hS : (obt st r).State ≠ 4) (hx : xr.State ≠ 4) (hr : xr.On = -1 → xr.State = 0 ∨ xr.State = 1) (hro : xr.On = o → OnC xo.Kind xo.Wait xr.State xr.Owes) (hW : xo.Wait = (obt st o).Wait ∨ ∀ y, 0 ≤ y → y < 32 → (obt st y).Kind = 5 → y ≠ r → (obt st y).On ≠ o) : TI (upd (upd st o xo) r xr) := by
  have O := c.obt h
  have K := c.kind h
  have hne := c.ne h
  have ko := c.ko
  have kr := c.kt
  have no : ∀ i, (obt st i).Kind = 5 → i ≠ o := fun i k e => by rw [e] at k; omega
  -- a thread's own
  have G : ∀ i, 0 ≤ i → (obt st i).Kind = 5 → (obt (upd (upd st o xo) r xr) i).Owing = (obt st i).Owing ∧ (obt (upd (upd st o xo) r xr) i).Owes = (obt st i).Owes := fun i i0 k => by
    rw [O i i0]
    by_cases e : i = r
    · rw [if_pos e, e]; exact ⟨hG, hE⟩
    · rw [if_neg e, if_neg (no i k)]; exact ⟨rfl, rfl⟩
  refine ⟨fun i i0 i1 k p => ?_, fun i i0 i1 k p => ?_, fun i i0 i1 k p => ?_, fun i i0 i1 k p => ?_, fun i i0 i1 k p => ?_⟩
  · rw [K i i0] at k
    rw [(G i i0 k).1] at p ⊢
    obtain ⟨g1, g2, g3⟩ := T.g i i0 i1 k p
    have ir : i ≠ r := fun e => by rw [e] at g3; exact hS g3
    rw [K _ p, (G _ p g1).2, O i i0, if_neg ir, if_neg (no i k)]
    exact ⟨g1, g2, g3⟩
  · rw [K i i0] at k
    rw [(G i i0 k).2] at p ⊢
    obtain ⟨g1, g2⟩ := T.e i i0 i1 k p
    rw [K _ p, (G _ p g1).1]
    exact ⟨g1, g2⟩
  · rw [K i i0] at k
    rw [(G i i0 k).1]
    rw [O i i0] at p ⊢
    by_cases e : i = r
    · rw [if_pos e] at p; exact absurd p hx
    · rw [if_neg e, if_neg (no i k)] at p ⊢; exact T.s4 i i0 i1 k p
  · rw [K i i0] at k
    rw [(G i i0 k).2]
    rw [O i i0] at p ⊢
    by_cases e : i = r
    · rw [if_pos e] at p ⊢
      have po : xr.On = o := by rcases c.on with z | z; exact z; omega
      rw [po, O o c.ho.1, if_neg hne, if_pos rfl, e, ← hE]; exact hro po
    · rw [if_neg e, if_neg (no i k)] at p ⊢
      have oc := T.on i i0 i1 k p
      have nr : (obt st i).On ≠ r := fun z => by rw [z, kr] at oc; unfold OnC at oc; omega
      rw [O _ p, if_neg nr]
      by_cases z : (obt st i).On = o
      · rcases hW with w | w
        · rw [if_pos z, c.ko', w, ← z]; exact oc
        · exact absurd z (w i i0 i1 k e)
      · rw [if_neg z]; exact oc
  · rw [K i i0] at k
    rw [O i i0] at p ⊢
    by_cases e : i = r
    · rw [if_pos e] at p ⊢
      rcases c.on with z | z
      · have := c.ho; omega
      · rcases hr z with q | q
        · exact .inl q
        · exact .inr (.inl q)
    · rw [if_neg e, if_neg (no i k)] at p ⊢; exact T.off i i0 i1 k p
/-- A thread changes, but for what it owes, and is blocked on. -/
theorem TI.thr {st : ref10_State} (h : WF st) (T : TI st) {r : Int} (hr : 0 ≤ r ∧ r < 32) (kr : (obt st r).Kind = 5) {x : ref10_Obj} (kx : x.Kind = 5) (hG : x.Owing = (obt st r).Owing) (hE : x.Owes = (obt st r).Owes) (hN : x.On = (obt st r).On) (hS : x.State = (obt st r).State ∨ (obt st r).State ≠ 4 ∧ (obt st r).On < 0 ∧ (x.State = 0 ∨ x.State = 1)) : TI (upd st r x) := by
  have O := fun i (hi : 0 ≤ i) => obt_upd h.lo hr hi x
  have K : ∀ i, 0 ≤ i → (obt (upd st r x) i).Kind = (obt st i).Kind := fun i i0 => by
    rw [O i i0]; split
    · rename_i e; rw [e, kx, kr]
    · rfl
  have G : ∀ i, 0 ≤ i → (obt (upd st r x) i).Owing = (obt st i).Owing ∧ (obt (upd st r x) i).Owes = (obt st i).Owes ∧ (obt (upd st r x) i).On = (obt st i).On := fun i i0 => by
    rw [O i i0]
    split
    · rename_i e; rw [e]; exact ⟨hG, hE, hN⟩
    · exact ⟨rfl, rfl, rfl⟩
  have Sx : ∀ i, 0 ≤ i → i < 32 → (obt st i).Kind = 5 → ((obt (upd st r x) i).State = (obt st i).State ∨ i = r ∧ (obt st r).State ≠ 4 ∧ (obt st r).On < 0 ∧ (x.State = 0 ∨ x.State = 1)) := fun i i0 i1 k => by
    rw [O i i0]
    by_cases e : i = r
    · rw [if_pos e]
      rcases hS with z | z
      · left; rw [z, e]
      · exact .inr ⟨e, z⟩
    · rw [if_neg e]; exact .inl rfl
  refine ⟨fun i i0 i1 k p => ?_, fun i i0 i1 k p => ?_, fun i i0 i1 k p => ?_, fun i i0 i1 k p => ?_, fun i i0 i1 k p => ?_⟩
  · rw [K i i0] at k
    rw [(G i i0).1] at p ⊢
    obtain ⟨g1, g2, g3⟩ := T.g i i0 i1 k p
    rw [K _ p, (G _ p).2.1]
    refine ⟨g1, g2, ?_⟩
    rcases Sx i i0 i1 k with z | ⟨z1, z2, _⟩
    · rw [z]; exact g3
    · rw [z1] at g3; exact absurd g3 z2
  · rw [K i i0] at k
    rw [(G i i0).2.1] at p ⊢
    obtain ⟨g1, g2⟩ := T.e i i0 i1 k p
    rw [K _ p, (G _ p).1]
    exact ⟨g1, g2⟩
  · rw [K i i0] at k
    rw [(G i i0).1, (G i i0).2.2]
    rcases Sx i i0 i1 k with z | ⟨z1, z2, z3, z4⟩
    · rw [z] at p; exact T.s4 i i0 i1 k p
    · rw [O i i0, if_pos z1] at p; omega
  · rw [K i i0] at k
    rw [(G i i0).2.2] at p ⊢
    rw [(G i i0).2.1]
    have oc := T.on i i0 i1 k p
    have nr : (obt st i).On ≠ r := fun z => by rw [z, kr] at oc; unfold OnC at oc; omega
    rcases Sx i i0 i1 k with z | ⟨z1, z2, z3, z4⟩
    · rw [z, O _ p, if_neg nr]; exact oc
    · rw [z1] at p; omega
  · rw [K i i0] at k
    rw [(G i i0).2.2] at p
    rcases Sx i i0 i1 k with z | ⟨z1, z2, z3, z4⟩
    · rw [z]; exact T.off i i0 i1 k p
    · rw [O i i0, if_pos z1]; omega
/-- An Endpoint's word changes that nobody waits at, or doesn't. -/
theorem TI.wait {st : ref10_State} (h : WF st) (T : TI st) {o : Int} (ho : 0 ≤ o ∧ o < 32) (k3 : (obt st o).Kind = 3) {n : Int} (hW : n = (obt st o).Wait ∨ ∀ y, 0 ≤ y → y < 32 → (obt st y).Kind = 5 → (obt st y).On ≠ o) : TI (upd st o { obt st o with Wait := n }) := by
  have O := fun i (hi : 0 ≤ i) => obt_upd h.lo ho hi ({ obt st o with Wait := n } : ref10_Obj)
  have S : ∀ i, 0 ≤ i → (obt st i).Kind ≠ 3 → obt (upd st o { obt st o with Wait := n }) i = obt st i := fun i i0 k => by
    rw [O i i0, if_neg (fun e => k (by rw [e]; exact k3))]
  have K : ∀ i, 0 ≤ i → (obt (upd st o { obt st o with Wait := n }) i).Kind = (obt st i).Kind := fun i i0 => by
    rw [O i i0]; split
    · rename_i e; rw [e]
    · rfl
  refine ⟨fun i i0 i1 k p => ?_, fun i i0 i1 k p => ?_, fun i i0 i1 k p => ?_, fun i i0 i1 k p => ?_, fun i i0 i1 k p => ?_⟩
  · rw [K i i0] at k
    rw [S i i0 (by omega)] at p ⊢
    obtain ⟨g1, g2, g3⟩ := T.g i i0 i1 k p
    rw [S _ p (by omega)]; exact ⟨g1, g2, g3⟩
  · rw [K i i0] at k
    rw [S i i0 (by omega)] at p ⊢
    obtain ⟨g1, g2⟩ := T.e i i0 i1 k p
    rw [S _ p (by omega)]; exact ⟨g1, g2⟩
  · rw [K i i0] at k
    rw [S i i0 (by omega)] at p ⊢
    exact T.s4 i i0 i1 k p
  · rw [K i i0] at k
    rw [S i i0 (by omega)] at p ⊢
    have oc := T.on i i0 i1 k p
    rw [O _ p]
    by_cases z : (obt st i).On = o
    · rcases hW with w | w
      · rw [if_pos z, w]
        show OnC (obt st o).Kind (obt st o).Wait _ _
        rw [← z]; exact oc
      · exact absurd z (w i i0 i1 k)
    · rw [if_neg z]; exact oc
  · rw [K i i0] at k
    rw [S i i0 (by omega)] at p ⊢
    exact T.off i i0 i1 k p
/-- One owes another one a reply, or does no more. -/
theorem TI.pair {st st' : ref10_State} (h : WF st) (T : TI st) {s c : Int} (hs : 0 ≤ s ∧ s < 32) (hc : 0 ≤ c ∧ c < 32) (hne : c ≠ s) (ks : (obt st s).Kind = 5) (kc : (obt st c).Kind = 5) {xs xc : ref10_Obj} (O : ∀ i, 0 ≤ i → obt st' i = if i = c then xc else if i = s then xs else obt st i) (kxs : xs.Kind = 5) (kxc : xc.Kind = 5)
    (s1 : xs.Owing = (obt st s).Owing) (s2 : xs.On = (obt st s).On) (s3 : xs.State = (obt st s).State) (c1 : xc.Owes = (obt st c).Owes) (c2 : (obt st c).On < 0) (c3 : xc.On < 0)
    (hq : (obt st s).Owes < 0 ∧ (obt st c).Owing < 0 ∧ (obt st s).On < 0 ∧ xs.Owes = c ∧ xc.Owing = s ∧ xc.State = 4 ∨ (obt st s).Owes = c ∧ (obt st c).Owing = s ∧ xs.Owes < 0 ∧ xc.Owing < 0 ∧ (xc.State = 0 ∨ xc.State = 1)) : TI st' := by
  have K : ∀ i, 0 ≤ i → (obt st' i).Kind = (obt st i).Kind := fun i i0 => by
    rw [O i i0]; split
    · rename_i e; rw [e, kxc, kc]
    · split
      · rename_i e; rw [e, kxs, ks]
      · rfl
  have Oc : obt st' c = xc := by rw [O c hc.1, if_pos rfl]
  have Os : obt st' s = xs := by rw [O s hs.1, if_neg (fun z => hne z.symm), if_pos rfl]
  have Oo : ∀ i, 0 ≤ i → i ≠ c → i ≠ s → obt st' i = obt st i := fun i i0 h1 h2 => by rw [O i i0, if_neg h1, if_neg h2]
  refine ⟨fun i i0 i1 k p => ?_, fun i i0 i1 k p => ?_, fun i i0 i1 k p => ?_, fun i i0 i1 k p => ?_, fun i i0 i1 k p => ?_⟩
  · rw [K i i0] at k
    by_cases ec : i = c
    · rw [ec, Oc] at p ⊢
      rcases hq with ⟨q1, q2, q3, q4, q5, q6⟩ | ⟨q1, q2, q3, q4, q5⟩
      · rw [q5, Os]; exact ⟨kxs, q4, q6⟩
      · omega
    · have pold : (obt st' i).Owing = (obt st i).Owing ∧ (obt st' i).State = (obt st i).State := by
        by_cases es : i = s
        · rw [es, Os]; exact ⟨s1, s3⟩
        · rw [Oo i i0 ec es]; exact ⟨rfl, rfl⟩
      rw [pold.1] at p ⊢
      obtain ⟨g1, g2, g3⟩ := T.g i i0 i1 k p
      rw [K _ p, pold.2]
      refine ⟨g1, ?_, g3⟩
      by_cases e1 : (obt st i).Owing = c
      · rw [e1, Oc, c1, ← e1]; exact g2
      · by_cases e2 : (obt st i).Owing = s
        · exfalso
          rw [e2] at g2
          rcases hq with ⟨q1, _⟩ | ⟨q1, _⟩ <;> omega
        · rw [Oo _ p e1 e2]; exact g2
  · rw [K i i0] at k
    by_cases es : i = s
    · rw [es, Os] at p ⊢
      rcases hq with ⟨q1, q2, q3, q4, q5, q6⟩ | ⟨q1, q2, q3, q4, q5⟩
      · rw [q4, Oc]; exact ⟨kxc, q5⟩
      · omega
    · have pold : (obt st' i).Owes = (obt st i).Owes := by
        by_cases ec : i = c
        · rw [ec, Oc]; exact c1
        · rw [Oo i i0 ec es]
      rw [pold] at p ⊢
      obtain ⟨g1, g2⟩ := T.e i i0 i1 k p
      rw [K _ p]
      refine ⟨g1, ?_⟩
      by_cases e1 : (obt st i).Owes = c
      · exfalso
        rw [e1] at g2
        rcases hq with ⟨_, q2, _⟩ | ⟨_, q2, _⟩ <;> omega
      · by_cases e2 : (obt st i).Owes = s
        · rw [e2, Os, s1, ← e2]; exact g2
        · rw [Oo _ p e1 e2]; exact g2
  · rw [K i i0] at k
    by_cases ec : i = c
    · rw [ec, Oc] at p ⊢
      rcases hq with ⟨q1, q2, q3, q4, q5, q6⟩ | ⟨q1, q2, q3, q4, q5⟩
      · exact ⟨by omega, c3⟩
      · omega
    · by_cases es : i = s
      · rw [es, Os, s3] at p
        rw [es, Os, s1, s2]; exact T.s4 s hs.1 hs.2 ks p
      · rw [Oo i i0 ec es] at p ⊢; exact T.s4 i i0 i1 k p
  · rw [K i i0] at k
    by_cases ec : i = c
    · rw [ec, Oc] at p; omega
    · have pold : (obt st' i).On = (obt st i).On ∧ (obt st' i).State = (obt st i).State := by
        by_cases es : i = s
        · rw [es, Os]; exact ⟨s2, s3⟩
        · rw [Oo i i0 ec es]; exact ⟨rfl, rfl⟩
      rw [pold.1] at p ⊢
      rw [pold.2]
      have oc := T.on i i0 i1 k p
      have n1 : (obt st i).On ≠ c := fun z => by rw [z, kc] at oc; unfold OnC at oc; omega
      have n2 : (obt st i).On ≠ s := fun z => by rw [z, ks] at oc; unfold OnC at oc; omega
      rw [Oo _ p n1 n2]
      by_cases es : i = s
      · rcases hq with ⟨q1, q2, q3, q4, q5, q6⟩ | ⟨q1, q2, q3, q4, q5⟩
        · rw [es] at p; omega
        · have e1 : (obt st' i).Owes = xs.Owes := by rw [es, Os]
          rw [e1]
          have e2 : (obt st i).Owes = c := by rw [es]; exact q1
          unfold OnC at oc ⊢; omega
      · rw [Oo i i0 ec es]; exact oc
  · rw [K i i0] at k
    by_cases ec : i = c
    · rw [ec, Oc]
      rcases hq with ⟨q1, q2, q3, q4, q5, q6⟩ | ⟨q1, q2, q3, q4, q5⟩
      · exact .inr (.inr q6)
      · omega
    · by_cases es : i = s
      · rw [es, Os, s2] at p
        rw [es, Os, s3]; exact T.off s hs.1 hs.2 ks p
      · rw [Oo i i0 ec es] at p ⊢; exact T.off i i0 i1 k p
/-- At an Endpoint where nobody waits, nothing is waited for. -/
def EP (st : ref10_State) : Prop := ∀ o, 0 ≤ o → o < 32 → (obt st o).Kind = 3 → (obt st o).Queue = [] → (obt st o).Wait = 0
theorem upd_comm (st : ref10_State) {a b : Int} (ha : 0 ≤ a) (hb : 0 ≤ b) (hne : a ≠ b) (x y : ref10_Obj) : upd (upd st a x) b y = upd (upd st b y) a x := by
  unfold upd
  simp only []
  rw [List.set_comm _ _ (by omega)]
theorem EP.upd {st : ref10_State} (h : WF st) (E : EP st) {a : Int} (ha : 0 ≤ a ∧ a < 32) {x : ref10_Obj} (hk : x.Kind = 3 → x.Queue = [] → x.Wait = 0) : EP (Go.Proofs.upd st a x) := fun o o0 o1 k q => by
  rw [obt_upd h.lo ha o0] at k q ⊢
  by_cases e : o = a
  · rw [if_pos e] at k q ⊢; exact hk k q
  · rw [if_neg e] at k q ⊢; exact E o o0 o1 k q
/-- Who is ready. -/
theorem TI.ready {st : ref10_State} (h : WF st) (T : TI st) {t : Int} (ht : 0 ≤ t ∧ t < 32) (k5 : (obt st t).Kind = 5) (hs : (obt st t).State = 1 ∨ (obt st t).State = 0) : (obt st t).On = -1 ∧ (obt st t).Owing = -1 := by
  have wo := h.obj t ht.1 ht.2
  have := wo.on
  have := wo.owing
  constructor
  · rcases Int.lt_or_le (obt st t).On 0 with q | q
    · omega
    · have := T.on t ht.1 ht.2 k5 q; unfold OnC at this; omega
  · rcases Int.lt_or_le (obt st t).Owing 0 with q | q
    · omega
    · have := (T.g t ht.1 ht.2 k5 q).2.2; omega
end Go.Proofs
/-! Threads that send, receive, answer: the program's words are the state's. -/
set_option linter.unusedVariables false
namespace Go.Proofs
open Go.Sl
structure ES (st : ref10_State) (v : List Int) : Prop where
  h : WF st
  hv : IsW st v
  T : TI st
  E : EP st
/-- What stays: kinds, slots, what is used. -/
structure KS (st st' : ref10_State) : Prop where
  k : ∀ i, 0 ≤ i → (obt st' i).Kind = (obt st i).Kind
  s : st'.Slots = st.Slots
  n : st'.NS = st.NS
  o : st'.NO = st.NO
theorem KS.refl (st : ref10_State) : KS st st := ⟨fun _ _ => rfl, rfl, rfl, rfl⟩
theorem ethere_ok (i : Int) : endp_there.f i = some (decide (InObj i 0)) := by
  unfold endp_there.f
  rw [obj_ok]
  by_cases h : InObj i 0 <;> simp [h]
def owedC (o : ref10_Obj) (s : Int) : ref10_Obj := { o with State := 4, On := -1, Owing := s }
def owesS (o : ref10_Obj) (c : Int) : ref10_Obj := { o with Owes := c }
theorem owe_st {st : ref10_State} (hl : st.Objs.length = 32) {s c : Int} (hs : 0 ≤ s ∧ s < 32) (hc : 0 ≤ c ∧ c < 32) (hne : c ≠ s) : ref10_State_owe.f st s c = some (upd (upd st c (owedC (obt st c) s)) s (owesS (obt st s) c)) := by
  unfold ref10_State_owe.f
  have lt : c < (st.Objs.length : Int) := by rw [hl]; omega
  rw [at_ob hl hc, Option.bind_some, at_set hc.1 lt, if_pos rfl, Option.bind_some, List.set_set, at_set hc.1 lt, if_pos rfl, Option.bind_some, List.set_set, at_set hc.1 lt, if_neg (fun z => hne z.symm), at_ob hl hs, Option.bind_some]
  rfl
def oweTo1 (v : List Int) (s c : Int) : List Int := put (onTo (put v c 1 4) c 0) c 2 (s + 1)
def oweTo (v : List Int) (s c : Int) : List Int := put (oweTo1 v s c) s 6 (c + 1)
theorem good_oweTo1 {v : List Int} (g : Good v) (s c : Int) : Good (oweTo1 v s c) := good_put (good_onTo (good_put g _ _ _) _ _) _ _ _
theorem sm_oweTo1 {v : List Int} (g : Sm v) {s : Int} (hs : s < 32) (c : Int) : Sm (oweTo1 v s c) := sm_put (sm_onTo (sm_put g (by decide)) (by decide)) (by omega)
theorem owe_ok {v : List Int} (g : Good v) {s c : Int} (hs : 0 ≤ s ∧ s < 32) (hc : 0 ≤ c ∧ c < 32) : VM.run plainI (endp_owe.f s c) v = some ((), oweTo v s c) := by
  unfold endp_owe.f oweTo oweTo1
  have g1 := good_put g c 1 4
  have g2 := good_onTo g1 c 0
  have g3 := good_put g2 c 2 (s + 1)
  rw [runB, put_ok g c 1 4 (by decide), Option.bind_some, runB, on_ok g1 c 0 (by decide), Option.bind_some, runB, w64_id (by omega) (by omega), put_ok g2 c 2 (s + 1) (by omega), Option.bind_some, runB, w64_id (by omega) (by omega), put_ok g3 s 6 (c + 1) (by omega), Option.bind_some]
  rfl
theorem fld_oweTo1 {v : List Int} (g : Good v) {s c : Int} (hs : 0 ≤ s ∧ s < 32) (hc : 0 ≤ c ∧ c < 32) (i f : Int) : fld (oweTo1 v s c) i f = if i = c ∧ f = 2 then s + 1 else if i = c ∧ f = 5 then fld v c 5 % 256 else if i = c ∧ f = 1 then 4 else fld v i f := by
  unfold oweTo1
  have g1 := good_put g c 1 4
  have g2 := good_onTo g1 c 0
  have i1 : InObj c 1 := ⟨hc.1, hc.2, by decide, by decide⟩
  have i2 : InObj c 2 := ⟨hc.1, hc.2, by decide, by decide⟩
  have e5 : fld (put v c 1 4) c 5 = fld v c 5 := by rw [fld_put g c 1 4 c 5 (by decide), if_neg (by omega)]
  rw [fld_put g2 c 2 (s + 1) i f (by omega), fld_onTo g1 (by decide) hc, fld_put g c 1 4 i f (by decide), e5]
  by_cases e : i = c
  · subst e
    rcases (by omega : f = 1 ∨ f = 2 ∨ f = 5 ∨ (f ≠ 1 ∧ f ≠ 2 ∧ f ≠ 5)) with f1 | f1 | f1 | f1
    · subst f1; rw [if_neg (by omega), if_neg (by omega), if_pos ⟨rfl, rfl, i1, by decide⟩, if_neg (by omega), if_neg (by omega), if_pos ⟨rfl, rfl⟩]
    · subst f1; rw [if_pos ⟨rfl, rfl, i2, by omega⟩, if_pos ⟨rfl, rfl⟩]
    · subst f1; rw [if_neg (by omega), if_pos ⟨rfl, rfl⟩, if_neg (by omega), if_pos ⟨rfl, rfl⟩]; omega
    · rw [if_neg (by omega), if_neg (by omega), if_neg (by omega), if_neg (by omega), if_neg (by omega), if_neg (by omega)]
  · rw [if_neg (fun z => e z.1.symm), if_neg (fun z => e z.1), if_neg (fun z => e z.1.symm), if_neg (fun z => e z.1), if_neg (fun z => e z.1), if_neg (fun z => e z.1)]
theorem owed_ow {o : ref10_Obj} (w : OW o) {s : Int} (hs : 0 ≤ s ∧ s < 32) : OW (owedC o s) := { w with state := by show (0 : Int) ≤ 4 ∧ (4 : Int) ≤ 6; decide, on := by show (-1 : Int) ≤ -1 ∧ (-1 : Int) < 32; decide, owing := by show -1 ≤ s ∧ s < 32; omega }
theorem owes_ow {o : ref10_Obj} (w : OW o) {c : Int} (hc : -1 ≤ c ∧ c < 32) : OW (owesS o c) := { w with owes := hc }
/-- The words of one that is owed a reply. -/
theorem owed_own {o : ref10_Obj} (w : OW o) (k : o.Kind = 5) (s f : Int) : own (owedC o s) f = if f = 2 then s + 1 else if f = 5 then o.Prio else if f = 1 then 4 else own o f := by
  have k' : (owedC o s).Kind = 5 := k
  rw [own5 k', own5 k]
  unfold owedC
  simp only []
  by_cases f0 : f = 0
  · rw [if_pos f0, if_neg (by omega), if_neg (by omega), if_neg (by omega), if_pos f0]
  · rw [if_neg f0]
    by_cases f1 : f = 1
    · rw [if_pos f1, if_neg (by omega), if_neg (by omega), if_pos f1]
    · rw [if_neg f1]
      by_cases f2 : f = 2
      · rw [if_pos f2, if_pos f2]
      · rw [if_neg f2, if_neg f2, if_neg f1, if_neg f0, if_neg f1, if_neg f2]
        by_cases f5 : f = 5
        · rw [if_neg (by omega), if_neg (by omega), if_pos f5, if_pos f5]; omega
        · rw [if_neg f5, if_neg f5, if_neg f5]
theorem owes_own {o : ref10_Obj} (k : o.Kind = 5) (c f : Int) : own (owesS o c) f = if f = 6 then c + 1 else own o f := by
  have k' : (owesS o c).Kind = 5 := k
  rw [own5 k', own5 k]
  unfold owesS
  simp only []
  by_cases f6 : f = 6
  · rw [if_neg (by omega), if_neg (by omega), if_neg (by omega), if_neg (by omega), if_neg (by omega), if_neg (by omega), if_pos f6, if_pos f6]
  · rw [if_neg f6, if_neg f6, if_neg f6]
section
variable {st : ref10_State} {v : List Int} (h : WF st) (hv : IsW st v)
include h hv
theorem prio_fv {t : Int} (ht : 0 ≤ t ∧ t < 32) (k5 : (obt st t).Kind = 5) : fld v t 5 % 256 = (obt st t).Prio := by
  have w := (h.obj t ht.1 ht.2).prio
  have o := (h.obj t ht.1 ht.2).on
  rw [fv_t h hv ht k5 (by decide) (.inl (by decide)), own5 k5]
  show ((obt st t).Prio + 256 * ((obt st t).On + 1)) % 256 = _
  omega
/-- One owes another one, both running. -/
theorem owe_pl {s c : Int} (hs : 0 ≤ s ∧ s < 32) (hc : 0 ≤ c ∧ c < 32) (hne : c ≠ s) (ks : (obt st s).Kind = 5) (kc : (obt st c).Kind = 5) (on : (obt st c).On = -1) : IsW (upd (upd st c (owedC (obt st c) s)) s (owesS (obt st s) c)) (oweTo v s c) ∧ WF (upd (upd st c (owedC (obt st c) s)) s (owesS (obt st s) c)) := by
  have gv := (hv.good h).1
  have wc := h.obj c hc.1 hc.2
  have F := fld_oweTo1 gv hs hc
  have pr := prio_fv h hv hc kc
  obtain ⟨a1, a2⟩ := thr_isw h hv hc kc (x := owedC (obt st c) s) (owed_ow wc hs) kc rfl on.symm (.inr rfl) (v' := oweTo1 v s c) ((((Low.refl hv.len).put _ _ _).onTo _ _).put _ _ _) (sm_oweTo1 (hv.sm h) hs.2 c) (fun i f i0 i1 f0 f1 ne => by rw [F, if_neg (fun z => ne z.1), if_neg (fun z => ne z.1), if_neg (fun z => ne z.1)]) (fun f f0 f1 _ => by
    rw [F, owed_own wc kc, pr]
    by_cases f2 : f = 2
    · rw [if_pos ⟨rfl, f2⟩, if_pos f2]
    · rw [if_neg (fun z => f2 z.2), if_neg f2]
      by_cases f5 : f = 5
      · rw [if_pos ⟨rfl, f5⟩, if_pos f5]
      · rw [if_neg (fun z => f5 z.2), if_neg f5]
        by_cases f1' : f = 1
        · rw [if_pos ⟨rfl, f1'⟩, if_pos f1']
        · rw [if_neg (fun z => f1' z.2), if_neg f1']
          exact fv_t h hv hc kc ⟨f0, f1⟩ (.inl f2)) (fun z => absurd rfl z)
  have os : obt (upd st c (owedC (obt st c) s)) s = obt st s := by rw [obt_upd h.lo hc hs.1, if_neg (fun z => hne z.symm)]
  have ks' : (obt (upd st c (owedC (obt st c) s)) s).Kind = 5 := by rw [os]; exact ks
  have ws := h.obj s hs.1 hs.2
  exact thr_put a2 a1 hs ks' (x := owesS (obt st s) c) (owes_ow ws (by omega)) ks (by rw [os]; rfl) (by rw [os]; rfl) (.inl (by rw [os]; rfl)) (g := 6) (n := c + 1) (by decide) (by omega) (fun z => absurd z (by decide)) (fun f f0 f1 => by rw [owes_own ks, os])
/-- A thread is woken that nothing holds. -/
theorem woke_pl {t : Int} (ht : 0 ≤ t ∧ t < 32) (k5 : (obt st t).Kind = 5) (on : (obt st t).On = -1) {w b : Int} (hw : 0 ≤ w ∧ w ≤ 1000000000000) (hb : 0 ≤ b ∧ b ≤ 1000000000000) : IsW (upd st t (wokeO (obt st t) w b)) (wakeTo v t w b) ∧ WF (upd st t (wokeO (obt st t) w b)) := by
  have gv := (hv.good h).1
  have wt := h.obj t ht.1 ht.2
  have W := fld_wakeTo gv (w := w) (b := b) (t := t) (by omega) (by omega) ht
  have pr := prio_fv h hv ht k5
  refine thr_isw h hv ht k5 (x := wokeO (obt st t) w b) { wt with word := hw, badge := hb, state := by show (0 : Int) ≤ 1 ∧ (1 : Int) ≤ 6; decide, on := by show (-1 : Int) ≤ -1 ∧ (-1 : Int) < 32; decide } k5 rfl on.symm (.inl rfl) ((Low.refl hv.len).wakeTo t w b) (sm_wakeTo (hv.sm h) (by omega) (by omega)) (fun i f i0 i1 f0 f1 ne => by rw [W, if_neg (fun z => ne z.1), if_neg (fun z => ne z.1), if_neg (fun z => ne z.1), if_neg (fun z => ne z.1)]) (fun f f0 f1 _ => ?_) (fun z => absurd rfl z)
  have k' : (wokeO (obt st t) w b).Kind = 5 := k5
  have e0 := fv_t h hv ht k5 ⟨f0, f1⟩ (.inr on)
  rw [own5 k5] at e0
  rw [W, own5 k', pr]
  unfold wokeO
  simp only []
  rcases (by omega : f = 0 ∨ f = 1 ∨ f = 2 ∨ f = 3 ∨ f = 4 ∨ f = 5 ∨ f = 6 ∨ f = 7) with rfl | rfl | rfl | rfl | rfl | rfl | rfl | rfl
  · simpa using e0
  · simp
  · simpa using e0
  · simp
  · simp
  · simp
  · simpa using e0
  · simpa using e0
end
end Go.Proofs
/-! Sent, received, answered: the program's words are the state's. -/
set_option linter.unusedVariables false
namespace Go.Proofs
open Go.Sl
theorem TI.congr {st st' : ref10_State} (T : TI st) (O : ∀ i, 0 ≤ i → obt st' i = obt st i) : TI st' := by
  refine ⟨fun i i0 i1 k p => ?_, fun i i0 i1 k p => ?_, fun i i0 i1 k p => ?_, fun i i0 i1 k p => ?_, fun i i0 i1 k p => ?_⟩
  · rw [O i i0] at k p ⊢
    rw [O _ p]; exact T.g i i0 i1 k p
  · rw [O i i0] at k p ⊢
    rw [O _ p]; exact T.e i i0 i1 k p
  · rw [O i i0] at k p ⊢; exact T.s4 i i0 i1 k p
  · rw [O i i0] at k p ⊢
    rw [O _ p]; exact T.on i i0 i1 k p
  · rw [O i i0] at k p ⊢; exact T.off i i0 i1 k p
/-- Who was popped, and perhaps is owed to. -/
def sentR (o : ref10_Obj) (w b : Int) (call : Bool) (t : Int) : ref10_Obj := bif call then owesS (wokeO o w b) t else wokeO o w b
structure SendA (st st' : ref10_State) (ep t w b : Int) (call is : Bool) (r : Int) (l : List Int) : Prop where
  wt : (obt st ep).Wait = 2
  q : (obt st ep).Queue = r :: l
  is : is = call
  rt : r ≠ t
  o : ∀ i, 0 ≤ i → obt st' i = if i = r then sentR (obt st r) w b call t else if i = t ∧ call = true then owedC (obt st t) r else if i = ep then { obt st ep with Queue := l, Wait := if l = [] then 0 else 2 } else obt st i
structure SendB (st st' : ref10_State) (ep t w b : Int) (call is : Bool) : Prop where
  wt : (obt st ep).Wait ≠ 2
  is : is = true
  o : ∀ i, 0 ≤ i → obt st' i = if i = t then { obt st t with State := if call then 6 else 2, On := ep, Word := w, Badge := b } else if i = ep then { obt st ep with Queue := (obt st ep).Queue ++ [t], Wait := 1 } else obt st i
theorem q_nonempty {st : ref10_State} (E : EP st) {ep : Int} (he : 0 ≤ ep ∧ ep < 32) (k3 : (obt st ep).Kind = 3) (hw : (obt st ep).Wait ≠ 0) : ∃ r l, (obt st ep).Queue = r :: l := by
  cases hq : (obt st ep).Queue with
  | nil => exact absurd (E ep he.1 he.2 k3 hq) hw
  | cons r l => exact ⟨r, l, rfl⟩
theorem qlen {st : ref10_State} (h : WF st) {o : Int} (ho : 0 ≤ o ∧ o < 32) : (obt st o).Queue.length ≤ 32 := nodup_len 32 (h.nodq o ho.1 ho.2) (queue_rg h ho.1 ho.2)
theorem send_pl {st : ref10_State} {v : List Int} (S : ES st v) {ep t w b : Int} (he : 0 ≤ ep ∧ ep < 32) (k3 : (obt st ep).Kind = 3) (ht : 0 ≤ t ∧ t < 32) (k5 : (obt st t).Kind = 5) (rdy : (obt st t).State = 1) (hw : 0 ≤ w ∧ w ≤ 1000000000000) (hb : 0 ≤ b ∧ b ≤ 1000000000000) (call : Bool) {k : Nat} (hk : 40 ≤ k) :
    ∃ is st' v', ref10_State_Send.f st ep t b w call = some (is, st') ∧ VM.run plainI (endp_Send.f k ep t b w call) v = some ((is, none), v') ∧ ES st' v' ∧ KS st st' ∧ ((∃ r l, SendA st st' ep t w b call is r l) ∨ SendB st st' ep t w b call is) := by
  obtain ⟨h, hv, T, E⟩ := S
  have gv := (hv.good h).1
  obtain ⟨on, owg⟩ := T.ready h ht k5 (.inl rdy)
  have te : t ≠ ep := fun e => by rw [e] at k5; omega
  unfold ref10_State_Send.f endp_Send.f
  have ie : InObj ep 0 := ⟨he.1, he.2, by decide, by decide⟩
  have it : InObj t 0 := ⟨ht.1, ht.2, by decide, by decide⟩
  rw [at_obj h he, Option.bind_some, runB, runO, ethere_ok, decide_eq_true ie, Option.map_some, Option.bind_some, runB]
  simp only [Bool.not_true, runC, cond_false, runB, runO, ethere_ok, decide_eq_true it, Option.map_some, Option.bind_some, runR]
  rw [field_ok gv, Option.bind_some, ep_fv h hv he k3]
  simp only []
  by_cases c2 : (obt st ep).Wait = 2
  · have e2 : ((obt st ep).Wait == 2) = true := by rw [beq_iff_eq]; exact c2
    obtain ⟨r, l, hq⟩ := q_nonempty E he k3 (by omega)
    have hm : r ∈ (obt st ep).Queue := by rw [hq]; exact List.mem_cons_self
    obtain ⟨r0, r1, kr, onr, owr⟩ := h.que ep he.1 he.2 r hm
    have ocr := T.on r r0 r1 kr (by omega)
    rw [onr, k3, c2] at ocr
    have sr : (obt st r).State = 3 ∧ (obt st r).Owes < 0 := by unfold OnC at ocr; omega
    have rt : r ≠ t := fun e => by rw [e] at sr; omega
    have re : r ≠ ep := fun e => by rw [e] at kr; omega
    have ll : l.length ≤ 1000 := by have := qlen h he; rw [hq] at this; simp at this; omega
    have hr := queue_rg h he.1 he.2
    -- popped and woken
    obtain ⟨c, iw1⟩ := popwake_pl h hv he (.inl k3) hq hw hb
    have h1 := c.wf h
    have O1 := c.obt h
    have T1 := T.two h c rfl rfl (by omega) (by show (1 : Int) ≠ 4; decide) (fun _ => .inr rfl) (fun z => by have : (-1 : Int) = ep := z; omega) (.inl rfl)
    have K1 := c.kind h
    have kq1 : (obt (upd (upd st ep { obt st ep with Queue := l }) r (wokeO (obt st r) w b)) ep) = ({ obt st ep with Queue := l } : ref10_Obj) := by rw [O1 ep he.1, if_neg (fun z => re z.symm), if_pos rfl]
    have k31 : (obt (upd (upd st ep { obt st ep with Queue := l }) r (wokeO (obt st r) w b)) ep).Kind = 3 := by rw [kq1]; exact k3
    have iq := hv.isq h he (.inl k3)
    rw [hq] at iq
    have hr' : ∀ x ∈ r :: l, 0 ≤ x ∧ x < 32 := fun x hx => hr x (by rw [hq]; exact hx)
    have nx : nxt v ep = some r := iq.nxt hr'
    have gp := good_popTo gv ep r
    -- nobody waits, if that is so
    obtain ⟨v2, p2, iw2, h2, rr2⟩ := rest_pl h1 iw1 he k31 (k := k) hk
    have q1 : (obt (upd (upd st ep { obt st ep with Queue := l }) r (wokeO (obt st r) w b)) ep).Queue = l := by rw [kq1]
    rw [q1] at iw2 h2 rr2
    have O2 : ∀ i, 0 ≤ i → obt (if l = [] then upd (upd (upd st ep { obt st ep with Queue := l }) r (wokeO (obt st r) w b)) ep { obt (upd (upd st ep { obt st ep with Queue := l }) r (wokeO (obt st r) w b)) ep with Wait := 0 } else upd (upd st ep { obt st ep with Queue := l }) r (wokeO (obt st r) w b)) i = if i = r then wokeO (obt st r) w b else if i = ep then { obt st ep with Queue := l, Wait := if l = [] then 0 else 2 } else obt st i := fun i i0 => by
      by_cases ln : l = []
      · rw [if_pos ln, obt_upd h1.lo he i0, if_pos ln, kq1]
        by_cases ei : i = ep
        · rw [if_pos ei, if_neg (fun z => re (z.symm.trans ei)), if_pos ei]
        · rw [if_neg ei, if_neg ei, O1 i i0, if_neg ei]
      · rw [if_neg ln, if_neg ln, O1 i i0]
        split
        · rfl
        · split
          · rw [← c2]
          · rfl
    have T2 : TI (if l = [] then upd (upd (upd st ep { obt st ep with Queue := l }) r (wokeO (obt st r) w b)) ep { obt (upd (upd st ep { obt st ep with Queue := l }) r (wokeO (obt st r) w b)) ep with Wait := 0 } else upd (upd st ep { obt st ep with Queue := l }) r (wokeO (obt st r) w b)) := by
      by_cases ln : l = []
      · rw [if_pos ln]
        refine T1.wait h1 he k31 (.inr fun y y0 y1 ky e => ?_)
        have := h1.onq y y0 y1 ky (by omega)
        rw [e, q1, ln] at this; cases this
      · rw [if_neg ln]; exact T1
    have K2 : ∀ i, 0 ≤ i → (obt (if l = [] then upd (upd (upd st ep { obt st ep with Queue := l }) r (wokeO (obt st r) w b)) ep { obt (upd (upd st ep { obt st ep with Queue := l }) r (wokeO (obt st r) w b)) ep with Wait := 0 } else upd (upd st ep { obt st ep with Queue := l }) r (wokeO (obt st r) w b)) i).Kind = (obt st i).Kind := fun i i0 => by
      rw [O2 i i0]
      split
      · rename_i e; rw [e]; rfl
      · split
        · rename_i e; rw [e]
        · rfl
    have KS2 : KS st (if l = [] then upd (upd (upd st ep { obt st ep with Queue := l }) r (wokeO (obt st r) w b)) ep { obt (upd (upd st ep { obt st ep with Queue := l }) r (wokeO (obt st r) w b)) ep with Wait := 0 } else upd (upd st ep { obt st ep with Queue := l }) r (wokeO (obt st r) w b)) := ⟨K2, by split <;> rfl, by split <;> rfl, by split <;> rfl⟩
    have wk : wake_st (st := upd st ep { obt st ep with Queue := l }) (by rw [upd_len]; exact h.lo) ⟨r0, r1⟩ w b = wake_st (st := upd st ep { obt st ep with Queue := l }) (by rw [upd_len]; exact h.lo) ⟨r0, r1⟩ w b := rfl
    have wk := wake_st (st := upd st ep { obt st ep with Queue := l }) (by rw [upd_len]; exact h.lo) ⟨r0, r1⟩ w b
    rw [show obt (upd st ep { obt st ep with Queue := l }) r = obt st r by rw [obt_upd h.lo he r0, if_neg re]] at wk
    rw [e2, cond_true, pop_cons h.lo he hq ll, Option.bind_some]
    simp only []
    rw [wk, Option.bind_some, rr2, Option.bind_some]
    simp only [cond_true]
    have popk : VM.run plainI (queue_Pop.f ep) v = some ((r, true), popTo v ep r) := by rw [pop_ok gv ep, nx]
    rw [popk, Option.bind_some]
    simp only [cond_true]
    rw [wake_ok gp r w b (by omega) (by omega), Option.bind_some]
    simp only []
    rw [p2, Option.bind_some]
    simp only []
    generalize (if l = [] then upd (upd (upd st ep { obt st ep with Queue := l }) r (wokeO (obt st r) w b)) ep { obt (upd (upd st ep { obt st ep with Queue := l }) r (wokeO (obt st r) w b)) ep with Wait := 0 } else upd (upd st ep { obt st ep with Queue := l }) r (wokeO (obt st r) w b)) = st2 at *
    have eta2 : (⟨st2.Slots, st2.Objs, st2.NS, st2.NO⟩ : ref10_State) = st2 := rfl
    have E2 : EP st2 := fun o o0 o1 ko qo => by
      rw [K2 o o0] at ko
      rw [O2 o o0] at qo ⊢
      have nr : o ≠ r := fun e => by rw [e, kr] at ko; omega
      rw [if_neg nr] at qo ⊢
      by_cases ee : o = ep
      · rw [if_pos ee] at qo ⊢
        have qo : l = [] := qo
        show (if l = [] then (0 : Int) else 2) = 0
        rw [if_pos qo]
      · rw [if_neg ee] at qo ⊢; exact E o o0 o1 ko qo
    cases call with
    | false =>
      rw [cond_false, Option.bind_some, cond_false, Option.bind_some]
      simp only [Brk.go]
      refine ⟨false, st2, v2, rfl, rfl, ⟨h2, iw2, T2, E2⟩, KS2, .inl ⟨r, l, c2, hq, rfl, rt, fun i i0 => ?_⟩⟩
      rw [O2 i i0, if_neg (show ¬ (i = t ∧ false = true) from fun z => by cases z.2)]; rfl
    | true =>
      have o2t : obt st2 t = obt st t := by rw [O2 t ht.1, if_neg (fun z => rt z.symm), if_neg te]
      have o2r : obt st2 r = wokeO (obt st r) w b := by rw [O2 r r0, if_pos rfl]
      obtain ⟨iw3, h3⟩ := owe_pl h2 iw2 (s := r) (c := t) ⟨r0, r1⟩ ht (fun z => rt z.symm) (by rw [o2r]; exact kr) (by rw [o2t]; exact k5) (by rw [o2t]; exact on)
      have os := owe_st h2.lo (s := r) (c := t) ⟨r0, r1⟩ ht (fun z => rt z.symm)
      have O3 : ∀ i, 0 ≤ i → obt (upd (upd st2 t (owedC (obt st2 t) r)) r (owesS (obt st2 r) t)) i = if i = t then owedC (obt st t) r else if i = r then owesS (wokeO (obt st r) w b) t else obt st2 i := fun i i0 => by
        rw [obt_upd (by rw [upd_len]; exact h2.lo) ⟨r0, r1⟩ i0, obt_upd h2.lo ht i0, o2t, o2r]
        by_cases e : i = r
        · rw [if_pos e, if_neg (fun z => rt (e.symm.trans z)), if_pos e]
        · rw [if_neg e, if_neg e]
      have T3 : TI (upd (upd st2 t (owedC (obt st2 t) r)) r (owesS (obt st2 r) t)) := T2.pair h2 (s := r) (c := t) ⟨r0, r1⟩ ht (fun z => rt z.symm) (by rw [o2r]; exact kr) (by rw [o2t]; exact k5) O3 kr k5 (by rw [o2r]; rfl) (by rw [o2r]; rfl) (by rw [o2r]; rfl) (by rw [o2t]; rfl) (by rw [o2t]; omega) (by show (-1 : Int) < 0; decide) (.inl ⟨by rw [o2r]; exact sr.2, by rw [o2t]; omega, by rw [o2r]; show (-1 : Int) < 0; decide, rfl, rfl, rfl⟩)
      have E3 : EP (upd (upd st2 t (owedC (obt st2 t) r)) r (owesS (obt st2 r) t)) := fun o o0 o1 ko qo => by
        rw [O3 o o0] at ko qo ⊢
        have n1 : o ≠ t := fun e => by
          rw [if_pos e] at ko
          have : (obt st t).Kind = 3 := ko
          omega
        rw [if_neg n1] at ko qo ⊢
        have n2 : o ≠ r := fun e => by
          rw [if_pos e] at ko
          have : (obt st r).Kind = 3 := ko
          omega
        rw [if_neg n2] at ko qo ⊢
        exact E2 o o0 o1 ko qo
      rw [cond_true, os, Option.bind_some, Option.bind_some, cond_true, owe_ok (iw2.good h2).1 ⟨r0, r1⟩ ht, Option.bind_some, Option.bind_some]
      simp only [Brk.go]
      refine ⟨true, _, _, rfl, rfl, ⟨h3, iw3, T3, E3⟩, ⟨fun i i0 => ?_, KS2.s, KS2.n, KS2.o⟩, .inl ⟨r, l, c2, hq, rfl, rt, fun i i0 => ?_⟩⟩
      · rw [O3 i i0]
        split
        · rename_i e; rw [e]; rfl
        · split
          · rename_i e; rw [e]; rfl
          · exact K2 i i0
      · rw [O3 i i0, O2 i i0]
        by_cases e : i = t
        · rw [if_pos e, if_neg (fun z => rt (z.symm.trans e)), if_pos ⟨e, rfl⟩]
        · rw [if_neg e, if_neg (show ¬ (i = t ∧ true = true) from fun z => e z.1)]
          by_cases er : i = r
          · rw [if_pos er, if_pos er]; rfl
          · rw [if_neg er, if_neg er, if_neg er]
  · have e2 : ((obt st ep).Wait == 2) = false := by rw [beq_eq_false_iff_ne]; exact c2
    obtain ⟨c, iw1⟩ := block_pl h hv he (.inl k3) ht k5 on owg (x := if call then 6 else 2) (by split <;> decide)
    have h1 := c.wf h
    have O1 := c.obt h
    have bs := block_st h.lo he ht (fun z => te z.symm) (by have := qlen h he; omega) (if call then 6 else 2)
    have o1t : obt (upd (upd st ep { obt st ep with Queue := (obt st ep).Queue ++ [t] }) t (blockO (obt st t) (if call then 6 else 2) ep)) t = blockO (obt st t) (if call then 6 else 2) ep := by rw [O1 t ht.1, if_pos rfl]
    have wt1 := h1.obj t ht.1 ht.2
    rw [o1t] at wt1
    -- its word
    have kx1 : (blockO (obt st t) (if call then 6 else 2) ep).Kind = 5 := k5
    obtain ⟨iw2, h2⟩ := thr_put h1 iw1 ht (by rw [o1t]; exact k5) (x := { blockO (obt st t) (if call then 6 else 2) ep with Word := w }) { wt1 with word := hw } k5 (by rw [o1t]) (by rw [o1t]) (.inl (by rw [o1t])) (g := 3) (n := w) (by decide) (by omega) (fun z => absurd z (by decide)) (fun f f0 f1 => by
      rw [o1t, own5 kx1, own5 (o := { blockO (obt st t) (if call then 6 else 2) ep with Word := w }) k5]
      by_cases e : f = 3
      · subst e; rw [if_neg (by decide), if_neg (by decide), if_neg (by decide), if_pos rfl, if_pos rfl]
      · rw [if_neg e, if_neg e, if_neg e])
    rw [upd_upd] at iw2 h2
    have o2t : obt (upd (upd st ep { obt st ep with Queue := (obt st ep).Queue ++ [t] }) t { blockO (obt st t) (if call then 6 else 2) ep with Word := w }) t = { blockO (obt st t) (if call then 6 else 2) ep with Word := w } := by rw [obt_upd (by rw [upd_len]; exact h.lo) ht ht.1, if_pos rfl]
    obtain ⟨iw3, h3⟩ := thr_put h2 iw2 ht (by rw [o2t]; exact k5) (x := { blockO (obt st t) (if call then 6 else 2) ep with Word := w, Badge := b }) { wt1 with word := hw, badge := hb } k5 (by rw [o2t]) (by rw [o2t]) (.inl (by rw [o2t])) (g := 4) (n := b) (by decide) (by omega) (fun z => absurd z (by decide)) (fun f f0 f1 => by
      rw [o2t, own5 (o := { blockO (obt st t) (if call then 6 else 2) ep with Word := w }) k5, own5 (o := { blockO (obt st t) (if call then 6 else 2) ep with Word := w, Badge := b }) k5]
      by_cases e : f = 4
      · subst e; rw [if_neg (by decide), if_neg (by decide), if_neg (by decide), if_neg (by decide), if_pos rfl, if_pos rfl]
      · rw [if_neg e, if_neg e, if_neg e])
    rw [upd_upd] at iw3 h3
    have O3 : ∀ i, 0 ≤ i → obt (upd (upd st ep { obt st ep with Queue := (obt st ep).Queue ++ [t] }) t { blockO (obt st t) (if call then 6 else 2) ep with Word := w, Badge := b }) i = if i = t then { blockO (obt st t) (if call then 6 else 2) ep with Word := w, Badge := b } else if i = ep then { obt st ep with Queue := (obt st ep).Queue ++ [t] } else obt st i := fun i i0 => by
      rw [obt_upd (by rw [upd_len]; exact h.lo) ht i0, obt_upd h.lo he i0]
    have o3e : obt (upd (upd st ep { obt st ep with Queue := (obt st ep).Queue ++ [t] }) t { blockO (obt st t) (if call then 6 else 2) ep with Word := w, Badge := b }) ep = { obt st ep with Queue := (obt st ep).Queue ++ [t] } := by rw [O3 ep he.1, if_neg (fun z => te z.symm), if_pos rfl]
    obtain ⟨iw4, h4⟩ := ep_isw h3 iw3 he (by rw [o3e]; exact k3) (n := 1) (by decide)
    rw [o3e] at iw4 h4
    have O4 : ∀ i, 0 ≤ i → obt (upd (upd (upd st ep { obt st ep with Queue := (obt st ep).Queue ++ [t] }) t { blockO (obt st t) (if call then 6 else 2) ep with Word := w, Badge := b }) ep { obt st ep with Queue := (obt st ep).Queue ++ [t], Wait := 1 }) i = if i = t then { obt st t with State := if call then 6 else 2, On := ep, Word := w, Badge := b } else if i = ep then { obt st ep with Queue := (obt st ep).Queue ++ [t], Wait := 1 } else obt st i := fun i i0 => by
      rw [obt_upd h3.lo he i0, O3 i i0]
      by_cases e : i = ep
      · rw [if_pos e, if_neg (fun z => te (z.symm.trans e)), if_pos e]
      · simp only [if_neg e]; split <;> rfl
    have c' : QCh st ep t { obt st ep with Queue := (obt st ep).Queue ++ [t], Wait := 1 } { obt st t with State := if call then 6 else 2, On := ep, Word := w, Badge := b } := { c with wo := { c.wo with wait := by show (0 : Int) ≤ 1 ∧ (1 : Int) ≤ 2; decide }, wt := { c.wt with word := hw, badge := hb } }
    have T4 : TI (upd (upd (upd st ep { obt st ep with Queue := (obt st ep).Queue ++ [t] }) t { blockO (obt st t) (if call then 6 else 2) ep with Word := w, Badge := b }) ep { obt st ep with Queue := (obt st ep).Queue ++ [t], Wait := 1 }) := by
      have := T.two h c' rfl rfl (by omega) (by show (if call then (6 : Int) else 2) ≠ 4; split <;> decide) (fun z => by have : ep = -1 := z; omega) (fun _ => by
        show OnC (obt st ep).Kind 1 (if call then (6 : Int) else 2) _
        unfold OnC
        left
        refine ⟨k3, rfl, ?_⟩
        cases call
        · exact .inl rfl
        · exact .inr rfl) (by
        by_cases w1 : (obt st ep).Wait = 1
        · exact .inl w1.symm
        · right
          intro y y0 y1 ky yr e
          have := T.on y y0 y1 ky (by omega)
          rw [e, k3] at this
          unfold OnC at this; omega)
      refine this.congr fun i i0 => ?_
      rw [O4 i i0, c'.obt h i i0]
    have E4 : EP (upd (upd (upd st ep { obt st ep with Queue := (obt st ep).Queue ++ [t] }) t { blockO (obt st t) (if call then 6 else 2) ep with Word := w, Badge := b }) ep { obt st ep with Queue := (obt st ep).Queue ++ [t], Wait := 1 }) := fun o o0 o1 ko qo => by
      rw [O4 o o0] at ko qo ⊢
      have n1 : o ≠ t := fun e => by
        rw [if_pos e] at ko
        have : (obt st t).Kind = 3 := ko
        omega
      rw [if_neg n1] at ko qo ⊢
      by_cases e : o = ep
      · rw [if_pos e] at qo
        have qo : (obt st ep).Queue ++ [t] = [] := qo
        simp at qo
      · rw [if_neg e] at ko qo ⊢; exact E o o0 o1 ko qo
    have eb : (bif call then some (6 : Int) else some 2) = some (if call then 6 else 2) := by cases call <;> rfl
    have ebv : VM.run plainI (bif call then (VM.ret (6 : Int)) else (VM.ret 2)) v = some ((if call then 6 else 2), v) := by cases call <;> rfl
    have xr : (if call then (6 : Int) else 2) ≤ 9223372036854775807 := by split <;> decide
    rw [e2, cond_false, eb, Option.bind_some, bs, Option.bind_some]
    simp only [runR, Option.bind_some, cond_false, Brk.go]
    rw [runB, ebv, Option.bind_some, runB]
    simp only []
    rw [block_ok gv he ht xr, Option.bind_some, runB]
    simp only []
    have g1 := (iw1.good h1).1
    have g2 := (iw2.good h2).1
    have g3 := (iw3.good h3).1
    rw [put_ok g1 t 3 w (by omega), Option.bind_some, runB]
    simp only []
    rw [put_ok g2 t 4 b (by omega), Option.bind_some, runB]
    simp only []
    rw [put_ok g3 ep 1 1 (by decide), Option.bind_some]
    have lt : t < (st.Objs.length : Int) := by rw [h.lo]; omega
    have lo1 : (upd (upd st ep { obt st ep with Queue := (obt st ep).Queue ++ [t] }) t (blockO (obt st t) (if call then 6 else 2) ep)).Objs.length = 32 := h1.lo
    have lt1 : t < ((upd (upd st ep { obt st ep with Queue := (obt st ep).Queue ++ [t] }) t (blockO (obt st t) (if call then 6 else 2) ep)).Objs.length : Int) := by rw [lo1]; omega
    rw [at_ob h1.lo ht, o1t, Option.bind_some, at_set ht.1 lt1, if_pos rfl, Option.bind_some, List.set_set, at_set ht.1 lt1, if_neg (fun z => te z.symm)]
    have o1e : obt (upd (upd st ep { obt st ep with Queue := (obt st ep).Queue ++ [t] }) t (blockO (obt st t) (if call then 6 else 2) ep)) ep = { obt st ep with Queue := (obt st ep).Queue ++ [t] } := by rw [O1 ep he.1, if_neg (fun z => te z.symm), if_pos rfl]
    rw [at_ob h1.lo he, o1e, Option.bind_some]
    have fin : ({ upd (upd st ep { obt st ep with Queue := (obt st ep).Queue ++ [t] }) t (blockO (obt st t) (if call then 6 else 2) ep) with Objs := ((upd (upd st ep { obt st ep with Queue := (obt st ep).Queue ++ [t] }) t (blockO (obt st t) (if call then 6 else 2) ep)).Objs.set t.toNat ({ blockO (obt st t) (if call then 6 else 2) ep with Word := w, Badge := b } : ref10_Obj)).set ep.toNat ({ obt st ep with Queue := (obt st ep).Queue ++ [t], Wait := 1 } : ref10_Obj) } : ref10_State) = upd (upd (upd st ep { obt st ep with Queue := (obt st ep).Queue ++ [t] }) t { blockO (obt st t) (if call then 6 else 2) ep with Word := w, Badge := b }) ep { obt st ep with Queue := (obt st ep).Queue ++ [t], Wait := 1 } := by
      unfold upd
      simp only [List.set_set]
    refine ⟨true, _, _, congrArg (fun s => some (true, s)) fin, rfl, ⟨h4, iw4, T4, E4⟩, ⟨fun i i0 => ?_, rfl, rfl, rfl⟩, .inr ⟨c2, rfl, O4⟩⟩
    rw [O4 i i0]
    split
    · rename_i e; rw [e]
    · split
      · rename_i e; rw [e]
      · rfl
end Go.Proofs
/-! Received and answered: the program's words are the state's. -/
set_option linter.unusedVariables false
namespace Go.Proofs
open Go.Sl
/-- Nobody waits, if that is so: all that is kept. -/
theorem restT {st1 : ref10_State} {v1 : List Int} (h1 : WF st1) (iw1 : IsW st1 v1) (T1 : TI st1) {ep : Int} (he : 0 ≤ ep ∧ ep < 32) (k31 : (obt st1 ep).Kind = 3) (E1 : ∀ o, 0 ≤ o → o < 32 → o ≠ ep → (obt st1 o).Kind = 3 → (obt st1 o).Queue = [] → (obt st1 o).Wait = 0) {k : Nat} (hk : 40 ≤ k) : ∃ st2 v2, ref10_State_rest.f st1 ep = some st2 ∧ VM.run plainI (endp_rest.f k ep) v1 = some ((), v2) ∧ ES st2 v2 ∧ KS st1 st2 ∧ ∀ i, 0 ≤ i → obt st2 i = if i = ep then { obt st1 ep with Wait := if (obt st1 ep).Queue = [] then 0 else (obt st1 ep).Wait } else obt st1 i := by
  obtain ⟨v2, p2, iw2, h2, rr2⟩ := rest_pl h1 iw1 he k31 (k := k) hk
  have O2 : ∀ i, 0 ≤ i → obt (if (obt st1 ep).Queue = [] then upd st1 ep { obt st1 ep with Wait := 0 } else st1) i = if i = ep then { obt st1 ep with Wait := if (obt st1 ep).Queue = [] then 0 else (obt st1 ep).Wait } else obt st1 i := fun i i0 => by
    by_cases ln : (obt st1 ep).Queue = []
    · rw [if_pos ln, obt_upd h1.lo he i0, if_pos ln]
    · rw [if_neg ln, if_neg ln]
      split
      · rename_i e; rw [e]
      · rfl
  refine ⟨_, v2, rr2, p2, ⟨h2, iw2, ?_, fun o o0 o1 ko qo => ?_⟩, ⟨fun i i0 => ?_, by split <;> rfl, by split <;> rfl, by split <;> rfl⟩, O2⟩
  · by_cases ln : (obt st1 ep).Queue = []
    · rw [if_pos ln]
      refine T1.wait h1 he k31 (.inr fun y y0 y1 ky e => ?_)
      have := h1.onq y y0 y1 ky (by omega)
      rw [e, ln] at this; cases this
    · rw [if_neg ln]; exact T1
  · rw [O2 o o0] at ko qo ⊢
    by_cases ee : o = ep
    · rw [if_pos ee] at qo ⊢
      have qo : (obt st1 ep).Queue = [] := qo
      show (if (obt st1 ep).Queue = [] then (0 : Int) else (obt st1 ep).Wait) = 0
      rw [if_pos qo]
    · rw [if_neg ee] at ko qo ⊢; exact E1 o o0 o1 ee ko qo
  · rw [O2 i i0]
    split
    · rename_i e; rw [e]
    · rfl
def gotX (o : ref10_Obj) (t : Int) : ref10_Obj := if o.State = 6 then owedC o t else wokeO o 0 0
structure RecvA (st st' : ref10_State) (ep t : Int) (rp : api_Reply) (is : Bool) (n x : Int) (l : List Int) : Prop where
  ow : (obt st t).Owes < 0
  wt : (obt st ep).Wait = 1
  q : (obt st ep).Queue = x :: l
  sx : (obt st x).State = 2 ∨ (obt st x).State = 6
  xt : x ≠ t
  ans : rp = ⟨0, (obt st x).Word, (obt st x).Badge⟩ ∧ is = true ∧ n = 0
  o : ∀ i, 0 ≤ i → obt st' i = if i = x then gotX (obt st x) t else if i = t ∧ (obt st x).State = 6 then owesS (obt st t) x else if i = ep then { obt st ep with Queue := l, Wait := if l = [] then 0 else 1 } else obt st i
structure RecvB (st st' : ref10_State) (ep t : Int) (rp : api_Reply) (is : Bool) (n : Int) : Prop where
  ow : (obt st t).Owes < 0
  wt : (obt st ep).Wait ≠ 1
  ans : rp = ⟨0, 0, 0⟩ ∧ is = false ∧ n = 0
  o : ∀ i, 0 ≤ i → obt st' i = if i = t then { obt st t with State := 3, On := ep } else if i = ep then { obt st ep with Queue := (obt st ep).Queue ++ [t], Wait := 2 } else obt st i
structure RecvC (st st' : ref10_State) (t : Int) (rp : api_Reply) (is : Bool) (n : Int) : Prop where
  ow : 0 ≤ (obt st t).Owes
  ans : rp = ⟨0, 0, 0⟩ ∧ is = false ∧ n = 10
  o : st' = st
theorem owes_fv {st : ref10_State} {v : List Int} (h : WF st) (hv : IsW st v) {t : Int} (ht : 0 ≤ t ∧ t < 32) (k5 : (obt st t).Kind = 5) : VM.run plainI (lay_Ref.f t 6) v = some (if 0 ≤ (obt st t).Owes then ((obt st t).Owes, true) else (0, false), v) := by
  have wo := (h.obj t ht.1 ht.2).owes
  have e : fld v t 6 = (obt st t).Owes + 1 := by rw [fv_t h hv ht k5 (by decide) (.inl (by decide)), own5 k5]; rfl
  rw [ref_ok (hv.good h).1, e]
  by_cases c : 0 ≤ (obt st t).Owes
  · rw [if_pos (by omega), if_pos c, show (obt st t).Owes + 1 - 1 = (obt st t).Owes by omega]
  · rw [if_neg (by omega), if_neg c]
theorem recv_pl {st : ref10_State} {v : List Int} (S : ES st v) {ep t : Int} (he : 0 ≤ ep ∧ ep < 32) (k3 : (obt st ep).Kind = 3) (ht : 0 ≤ t ∧ t < 32) (k5 : (obt st t).Kind = 5) (rdy : (obt st t).State = 1) {k : Nat} (hk : 40 ≤ k) :
    ∃ rp is n st' v', ref10_State_Recv.f st ep t = some (rp, is, n, st') ∧ VM.run plainI (endp_Recv.f k ep t) v = some ((rp, is, if n = 0 then none else some n), v') ∧ ES st' v' ∧ KS st st' ∧ ((∃ x l, RecvA st st' ep t rp is n x l) ∨ RecvB st st' ep t rp is n ∨ RecvC st st' t rp is n) := by
  have S0 := S
  obtain ⟨h, hv, T, E⟩ := S
  have gv := (hv.good h).1
  obtain ⟨on, owg⟩ := T.ready h ht k5 (.inl rdy)
  have te : t ≠ ep := fun e => by rw [e] at k5; omega
  unfold ref10_State_Recv.f endp_Recv.f
  have ie : InObj ep 0 := ⟨he.1, he.2, by decide, by decide⟩
  have it : InObj t 0 := ⟨ht.1, ht.2, by decide, by decide⟩
  rw [at_obj h ht, Option.bind_some, runB, runO, ethere_ok, decide_eq_true ie, Option.map_some, Option.bind_some, runB]
  simp only [Bool.not_true, runC, cond_false, runB, runO, ethere_ok, decide_eq_true it, Option.map_some, Option.bind_some, runR]
  rw [owes_fv h hv ht k5, Option.bind_some]
  by_cases co : 0 ≤ (obt st t).Owes
  · rw [decide_eq_true co, cond_true, if_pos co]
    simp only [cond_true]
    exact ⟨_, _, 10, st, v, rfl, rfl, S0, KS.refl st, .inr (.inr ⟨co, ⟨rfl, rfl, rfl⟩, rfl⟩)⟩
  rw [decide_eq_false co, cond_false, if_neg co]
  simp only [cond_false]
  rw [field_ok gv, Option.bind_some, ep_fv h hv he k3, at_obj h he, Option.bind_some]
  simp only []
  by_cases c1 : (obt st ep).Wait = 1
  · have e1 : ((obt st ep).Wait == 1) = true := by rw [beq_iff_eq]; exact c1
    obtain ⟨x, l, hq⟩ := q_nonempty E he k3 (by omega)
    have hm : x ∈ (obt st ep).Queue := by rw [hq]; exact List.mem_cons_self
    obtain ⟨x0, x1, kx, onx, owx⟩ := h.que ep he.1 he.2 x hm
    have ocx := T.on x x0 x1 kx (by omega)
    rw [onx, k3, c1] at ocx
    have sx : (obt st x).State = 2 ∨ (obt st x).State = 6 := by unfold OnC at ocx; omega
    have xt : x ≠ t := fun e => by rw [e] at sx; omega
    have xe : x ≠ ep := fun e => by rw [e] at kx; omega
    have ll : l.length ≤ 1000 := by have := qlen h he; rw [hq] at this; simp at this; omega
    have hr := queue_rg h he.1 he.2
    have wx := h.obj x x0 x1
    have iq := hv.isq h he (.inl k3)
    rw [hq] at iq
    have hr' : ∀ y ∈ x :: l, 0 ≤ y ∧ y < 32 := fun y hy => hr y (by rw [hq]; exact hy)
    have nx : nxt v ep = some x := iq.nxt hr'
    have gp := good_popTo gv ep x
    have P := fld_popTo gv iq he hr' xe
    have popk : VM.run plainI (queue_Pop.f ep) v = some ((x, true), popTo v ep x) := by rw [pop_ok gv ep, nx]
    -- as if it were woken
    obtain ⟨c, iw1⟩ := popwake_pl h hv he (.inl k3) hq (w := 0) (b := 0) (by decide) (by decide)
    have T1 := T.two h c rfl rfl (by omega) (by show (1 : Int) ≠ 4; decide) (fun _ => .inr rfl) (fun z => by have : (-1 : Int) = ep := z; omega) (.inl rfl)
    have O1 := c.obt h
    have f3 : fld (popTo v ep x) x 3 = (obt st x).Word := by rw [P, if_neg (fun z => xe z.1), if_neg (fun z => xe z.2.1), if_neg (by omega), fv_t h hv ⟨x0, x1⟩ kx (by decide) (.inl (by decide)), own5 kx]; rfl
    have f4 : fld (popTo v ep x) x 4 = (obt st x).Badge := by rw [P, if_neg (fun z => xe z.1), if_neg (fun z => xe z.2.1), if_neg (by omega), fv_t h hv ⟨x0, x1⟩ kx (by decide) (.inl (by decide)), own5 kx]; rfl
    have f1 : fld (popTo v ep x) x 1 = (obt st x).State := by rw [P, if_neg (fun z => xe z.1), if_neg (fun z => xe z.2.1), if_neg (by omega), fv_t h hv ⟨x0, x1⟩ kx (by decide) (.inl (by decide)), own5 kx]; rfl
    have f5 : fld (popTo v ep x) x 5 = (obt st x).Prio + 256 * ((obt st x).On + 1) := by rw [P, if_neg (fun z => xe z.1), if_neg (fun z => xe z.2.1), if_neg (by omega), fv_t h hv ⟨x0, x1⟩ kx (by decide) (.inl (by decide)), own5 kx]; rfl
    have op : ∀ i, 0 ≤ i → obt (upd st ep { obt st ep with Queue := l }) i = if i = ep then { obt st ep with Queue := l } else obt st i := fun i i0 => obt_upd h.lo he i0 _
    have lop : (upd st ep { obt st ep with Queue := l }).Objs.length = 32 := by rw [upd_len]; exact h.lo
    have opx : obt (upd st ep { obt st ep with Queue := l }) x = obt st x := by rw [op x x0, if_neg xe]
    have opt : obt (upd st ep { obt st ep with Queue := l }) t = obt st t := by rw [op t ht.1, if_neg te]
    -- it is owed to, or woken
    obtain ⟨st1, v1, r1, pr1, h1, iw1', T1', K1, O1', S1⟩ : ∃ st1 v1, (bif (obt st x).State == 6 then ((ref10_State_owe.f (upd st ep { obt st ep with Queue := l }) t x).bind fun p43 => some (p43.Slots, p43.Objs, p43.NS, p43.NO)) else ((ref10_State_Wake.f (upd st ep { obt st ep with Queue := l }) x 0 0).bind fun p46 => some (p46.Slots, p46.Objs, p46.NS, p46.NO))) = some (st1.Slots, st1.Objs, st1.NS, st1.NO) ∧ VM.run plainI (bif (obt st x).State == 6 then ((endp_owe.f t x).bind fun _ => VM.ret ()) else ((endp_Wake.f x 0 0).bind fun _ => VM.ret ())) (popTo v ep x) = some ((), v1) ∧ WF st1 ∧ IsW st1 v1 ∧ TI st1 ∧ (∀ i, 0 ≤ i → (obt st1 i).Kind = (obt st i).Kind) ∧ (∀ i, 0 ≤ i → obt st1 i = if i = x then gotX (obt st x) t else if i = t ∧ (obt st x).State = 6 then owesS (obt st t) x else if i = ep then { obt st ep with Queue := l } else obt st i) ∧ st1.Slots = st.Slots ∧ st1.NS = st.NS ∧ st1.NO = st.NO := by
      by_cases c6 : (obt st x).State = 6
      · have e6 : ((obt st x).State == 6) = true := by rw [beq_iff_eq]; exact c6
        have F := fld_oweTo1 gp (s := t) (c := x) ht ⟨x0, x1⟩
        obtain ⟨cq, iwq⟩ := pop_isw h hv he (.inl k3) hq (xt := owedC (obt st x) t) (owed_ow wx ht) kx (noq h ⟨x0, x1⟩ (by omega)) rfl (v' := oweTo1 (popTo v ep x) t x) (((((Low.refl hv.len).popTo ep x).put _ _ _).onTo _ _).put _ _ _) (sm_oweTo1 (sm_popTo (hv.sm h) _ _) ht.2 x) (fun i f i0 i1 f0 f1 ne => by rw [F, if_neg (fun z => ne z.1), if_neg (fun z => ne z.1), if_neg (fun z => ne z.1)]) (fun f f0 f1' => by
          have wp := wx.prio
          rw [F, owed_own wx kx, f5]
          by_cases f2 : f = 2
          · rw [if_pos ⟨rfl, f2⟩, if_pos f2]
          · rw [if_neg (fun z => f2 z.2), if_neg f2]
            by_cases f5' : f = 5
            · rw [if_pos ⟨rfl, f5'⟩, if_pos f5']; omega
            · rw [if_neg (fun z => f5' z.2), if_neg f5']
              by_cases f1'' : f = 1
              · rw [if_pos ⟨rfl, f1''⟩, if_pos f1'']
              · rw [if_neg (fun z => f1'' z.2), if_neg f1'', P, if_neg (fun z => xe z.1), if_neg (fun z => xe z.2.1), if_neg (fun z => f2 z.2)]
                exact fv_t h hv ⟨x0, x1⟩ kx ⟨f0, f1'⟩ (.inl f2))
        have hq1 := cq.wf h
        have Oq := cq.obt h
        have oqt : obt (upd (upd st ep { obt st ep with Queue := l }) x (owedC (obt st x) t)) t = obt st t := by rw [Oq t ht.1, if_neg (fun z => xt z.symm), if_neg te]
        obtain ⟨iw2, h2⟩ := thr_put hq1 iwq ht (by rw [oqt]; exact k5) (x := owesS (obt st t) x) (owes_ow (h.obj t ht.1 ht.2) (by omega)) k5 (by rw [oqt]; rfl) (by rw [oqt]; rfl) (.inl (by rw [oqt]; rfl)) (g := 6) (n := x + 1) (by decide) (by omega) (fun z => absurd z (by decide)) (fun f f0 f1 => by rw [owes_own k5, oqt])
        have O2 : ∀ i, 0 ≤ i → obt (upd (upd (upd st ep { obt st ep with Queue := l }) x (owedC (obt st x) t)) t (owesS (obt st t) x)) i = if i = x then owedC (obt st x) t else if i = t then owesS (obt st t) x else if i = ep then { obt st ep with Queue := l } else obt st i := fun i i0 => by
          rw [obt_upd hq1.lo ht i0, Oq i i0]
          by_cases e : i = t
          · rw [if_pos e, if_neg (fun z => xt (z.symm.trans e)), if_pos e]
          · rw [if_neg e, if_neg e]
        have os := owe_st lop (s := t) (c := x) ht ⟨x0, x1⟩ xt
        rw [opx, opt] at os
        refine ⟨_, _, by rw [e6, cond_true, os]; rfl, by rw [e6, cond_true, runB, owe_ok gp ht ⟨x0, x1⟩, Option.bind_some]; rfl, h2, iw2, ?_, fun i i0 => ?_, fun i i0 => ?_, rfl, rfl, rfl⟩
        · refine T1.pair (c.wf h) (s := t) (c := x) ht ⟨x0, x1⟩ xt (by rw [O1 t ht.1, if_neg (fun z => xt z.symm), if_neg te]; exact k5) (by rw [O1 x x0, if_pos rfl]; exact kx) (xs := owesS (obt st t) x) (xc := owedC (obt st x) t) (fun i i0 => ?_) k5 kx ?_ ?_ ?_ ?_ ?_ (by show (-1 : Int) < 0; decide) (.inl ⟨?_, ?_, ?_, rfl, rfl, rfl⟩)
          · rw [O2 i i0, O1 i i0]
            by_cases e : i = x
            · rw [if_pos e, if_pos e]
            · rw [if_neg e, if_neg e, if_neg e]
          · rw [O1 t ht.1, if_neg (fun z => xt z.symm), if_neg te]; rfl
          · rw [O1 t ht.1, if_neg (fun z => xt z.symm), if_neg te]; rfl
          · rw [O1 t ht.1, if_neg (fun z => xt z.symm), if_neg te]; rfl
          · rw [O1 x x0, if_pos rfl]; rfl
          · rw [O1 x x0, if_pos rfl]; show (-1 : Int) < 0; decide
          · rw [O1 t ht.1, if_neg (fun z => xt z.symm), if_neg te]; omega
          · rw [O1 x x0, if_pos rfl]; show (obt st x).Owing < 0; omega
          · rw [O1 t ht.1, if_neg (fun z => xt z.symm), if_neg te]; omega
        · rw [O2 i i0]
          split
          · rename_i e; rw [e]; rfl
          · split
            · rename_i e; rw [e]; rfl
            · split
              · rename_i e; rw [e]
              · rfl
        · rw [O2 i i0]
          have eg : gotX (obt st x) t = owedC (obt st x) t := if_pos c6
          rw [eg]
          by_cases e : i = x
          · rw [if_pos e, if_pos e]
          · rw [if_neg e, if_neg e]
            by_cases e2 : i = t
            · rw [if_pos e2, if_pos ⟨e2, c6⟩]
            · have n2 : ¬ (i = t ∧ (obt st x).State = 6) := fun z => e2 z.1
              simp only [if_neg e2, if_neg n2]
      · have e6 : ((obt st x).State == 6) = false := by rw [beq_eq_false_iff_ne]; exact c6
        have wk := wake_st lop ⟨x0, x1⟩ 0 0
        rw [opx] at wk
        refine ⟨_, _, by rw [e6, cond_false, wk]; rfl, by rw [e6, cond_false, runB, wake_ok gp x 0 0 (by decide) (by decide), Option.bind_some]; rfl, c.wf h, iw1, T1, c.kind h, fun i i0 => ?_, rfl, rfl, rfl⟩
        rw [O1 i i0]
        have eg : gotX (obt st x) t = wokeO (obt st x) 0 0 := if_neg c6
        rw [eg, if_neg (show ¬ (i = t ∧ (obt st x).State = 6) from fun z => c6 z.2)]
    have o1e : obt st1 ep = ({ obt st ep with Queue := l } : ref10_Obj) := by rw [O1' ep he.1, if_neg (fun z => xe z.symm), if_neg (fun z => te z.1.symm), if_pos rfl]
    obtain ⟨st2, v2, r2, pr2, S2, K2, O2⟩ := restT h1 iw1' T1' he (by rw [o1e]; exact k3) (fun o o0 o1 oe ko qo => by
      rw [O1' o o0] at ko qo ⊢
      have n1 : o ≠ x := fun e => by
        rw [if_pos e] at ko
        have e9 : (gotX (obt st x) t).Kind = 5 := by unfold gotX; split <;> exact kx
        omega
      have n2 : ¬ (o = t ∧ (obt st x).State = 6) := fun e => by
        rw [if_neg n1, if_pos e] at ko
        have : (obt st t).Kind = 3 := ko
        omega
      rw [if_neg n1, if_neg n2, if_neg oe] at ko qo ⊢
      exact E o o0 o1 ko qo) hk
    rw [e1, cond_true, pop_cons h.lo he hq ll, Option.bind_some]
    simp only []
    have ax : at_ (upd st ep { obt st ep with Queue := l }).Objs x = some (obt st x) := by rw [at_ob lop ⟨x0, x1⟩, opx]
    rw [ax, Option.bind_some, Option.bind_some, Option.bind_some, r1, Option.bind_some]
    have eta1 : (⟨st1.Slots, st1.Objs, st1.NS, st1.NO⟩ : ref10_State) = st1 := rfl
    simp only []
    rw [eta1, r2, Option.bind_some]
    simp only [cond_true]
    rw [popk, Option.bind_some]
    simp only [cond_true]
    rw [field_ok gp, Option.bind_some]
    simp only []
    rw [field_ok gp, Option.bind_some]
    simp only []
    rw [state_ok gp, Option.bind_some]
    simp only []
    have pr1' := pr1
    rw [runC] at pr1'
    rw [f1, f3, f4]
    simp only [runB, runR] at pr1' ⊢
    rw [pr1', Option.bind_some]
    simp only []
    rw [pr2, Option.bind_some]
    refine ⟨⟨0, (obt st x).Word, (obt st x).Badge⟩, true, 0, st2, v2, rfl, rfl, S2, ⟨fun i i0 => by rw [K2.k i i0, K1 i i0], by rw [K2.s, S1.1], by rw [K2.n, S1.2.1], by rw [K2.o, S1.2.2]⟩, .inl ⟨x, l, by omega, c1, hq, sx, xt, ⟨rfl, rfl, rfl⟩, fun i i0 => ?_⟩⟩
    rw [O2 i i0, o1e]
    by_cases e : i = ep
    · have n1 : ¬ i = x := fun z => xe (z.symm.trans e)
      have n2 : ¬ (i = t ∧ (obt st x).State = 6) := fun z => te (z.1.symm.trans e)
      simp only [if_pos e, if_neg n1, if_neg n2, c1]
    · rw [if_neg e, O1' i i0]
      simp only [if_neg e]
  · have e1 : ((obt st ep).Wait == 1) = false := by rw [beq_eq_false_iff_ne]; exact c1
    obtain ⟨c, iw1⟩ := block_pl h hv he (.inl k3) ht k5 on owg (x := 3) (by decide)
    have h1 := c.wf h
    have O1 := c.obt h
    have bs := block_st h.lo he ht (fun z => te z.symm) (by have := qlen h he; omega) 3
    have o1e : obt (upd (upd st ep { obt st ep with Queue := (obt st ep).Queue ++ [t] }) t (blockO (obt st t) 3 ep)) ep = { obt st ep with Queue := (obt st ep).Queue ++ [t] } := by rw [O1 ep he.1, if_neg (fun z => te z.symm), if_pos rfl]
    obtain ⟨iw4, h4⟩ := ep_isw h1 iw1 he (by rw [o1e]; exact k3) (n := 2) (by decide)
    rw [o1e] at iw4 h4
    have O4 : ∀ i, 0 ≤ i → obt (upd (upd (upd st ep { obt st ep with Queue := (obt st ep).Queue ++ [t] }) t (blockO (obt st t) 3 ep)) ep { obt st ep with Queue := (obt st ep).Queue ++ [t], Wait := 2 }) i = if i = t then { obt st t with State := 3, On := ep } else if i = ep then { obt st ep with Queue := (obt st ep).Queue ++ [t], Wait := 2 } else obt st i := fun i i0 => by
      rw [obt_upd h1.lo he i0, O1 i i0]
      by_cases e : i = ep
      · rw [if_pos e, if_neg (fun z => te (z.symm.trans e)), if_pos e]
      · simp only [if_neg e]; split <;> rfl
    have c' : QCh st ep t { obt st ep with Queue := (obt st ep).Queue ++ [t], Wait := 2 } { obt st t with State := 3, On := ep } := { c with wo := { c.wo with wait := by show (0 : Int) ≤ 2 ∧ (2 : Int) ≤ 2; decide } }
    have T4 : TI (upd (upd (upd st ep { obt st ep with Queue := (obt st ep).Queue ++ [t] }) t (blockO (obt st t) 3 ep)) ep { obt st ep with Queue := (obt st ep).Queue ++ [t], Wait := 2 }) := by
      have := T.two h c' rfl rfl (by omega) (by show (3 : Int) ≠ 4; decide) (fun z => by have : ep = -1 := z; omega) (fun _ => by
        show OnC (obt st ep).Kind 2 3 (obt st t).Owes
        unfold OnC
        right; left
        exact ⟨k3, rfl, rfl, by omega⟩) (by
        by_cases w1 : (obt st ep).Wait = 2
        · exact .inl w1.symm
        · right
          intro y y0 y1 ky yr e
          have := T.on y y0 y1 ky (by omega)
          rw [e, k3] at this
          unfold OnC at this; omega)
      refine this.congr fun i i0 => ?_
      rw [O4 i i0, c'.obt h i i0]
    have E4 : EP (upd (upd (upd st ep { obt st ep with Queue := (obt st ep).Queue ++ [t] }) t (blockO (obt st t) 3 ep)) ep { obt st ep with Queue := (obt st ep).Queue ++ [t], Wait := 2 }) := fun o o0 o1 ko qo => by
      rw [O4 o o0] at ko qo ⊢
      have n1 : o ≠ t := fun e => by
        rw [if_pos e] at ko
        have : (obt st t).Kind = 3 := ko
        omega
      rw [if_neg n1] at ko qo ⊢
      by_cases e : o = ep
      · rw [if_pos e] at qo
        have qo : (obt st ep).Queue ++ [t] = [] := qo
        simp at qo
      · rw [if_neg e] at ko qo ⊢; exact E o o0 o1 ko qo
    rw [e1, cond_false, bs, Option.bind_some]
    simp only [cond_false]
    rw [block_ok gv he ht (by decide), Option.bind_some]
    simp only []
    rw [put_ok (iw1.good h1).1 ep 1 2 (by decide), Option.bind_some]
    rw [at_ob h1.lo he, o1e, Option.bind_some]
    exact ⟨⟨0, 0, 0⟩, false, 0, _, _, rfl, rfl, ⟨h4, iw4, T4, E4⟩, ⟨fun i i0 => (congrArg ref10_Obj.Kind (O4 i i0)).trans (by
      split
      · rename_i e; rw [e]
      · split
        · rename_i e; rw [e]
        · rfl), rfl, rfl, rfl⟩, .inr (.inl ⟨by omega, c1, ⟨rfl, rfl, rfl⟩, O4⟩)⟩
/-- A call is answered. -/
structure AnsA (st st' : ref10_State) (t w c : Int) : Prop where
  ow : (obt st t).Owes = c
  c0 : 0 ≤ c
  c1 : c < 32
  kc : (obt st c).Kind = 5
  sc : (obt st c).State = 4
  ne : c ≠ t
  o : ∀ i, 0 ≤ i → obt st' i = if i = c then { wokeO (obt st c) w 0 with Owing := -1 } else if i = t then owesS (obt st t) (-1) else obt st i
theorem answer_pl {st : ref10_State} {v : List Int} (S : ES st v) {t w : Int} (ht : 0 ≤ t ∧ t < 32) (k5 : (obt st t).Kind = 5) (rdy : (obt st t).State = 1) (hw : 0 ≤ w ∧ w ≤ 1000000000000) : ∃ n st' v', VM.run plainI (endp_Answer.f t w) v = some (if n = 0 then none else some n, v') ∧ ES st' v' ∧ KS st st' ∧ ((n = 0 ∧ ∃ c, AnsA st st' t w c) ∨ (n = 10 ∧ st' = st ∧ v' = v ∧ (obt st t).Owes < 0)) := by
  have S0 := S
  obtain ⟨h, hv, T, E⟩ := S
  have gv := (hv.good h).1
  have it : InObj t 0 := ⟨ht.1, ht.2, by decide, by decide⟩
  unfold endp_Answer.f
  rw [runB, runO, ethere_ok, decide_eq_true it, Option.map_some, Option.bind_some, runC, Bool.not_true, cond_false, runB, owes_fv h hv ht k5, Option.bind_some]
  by_cases co : 0 ≤ (obt st t).Owes
  · rw [if_pos co]
    simp only [Bool.not_true, cond_false]
    have wo := (h.obj t ht.1 ht.2).owes
    have ec := T.e t ht.1 ht.2 k5 co
    generalize hc : (obt st t).Owes = c at co wo ec
    obtain ⟨kc, gc⟩ := ec
    have gcc := T.g c co wo.2 kc (by omega)
    have s4 := T.s4 c co wo.2 kc gcc.2.2
    have wc := h.obj c co wo.2
    have woc := wc.on
    have onc : (obt st c).On = -1 := by omega
    have ne : c ≠ t := fun e => by
      have := gcc.2.2
      rw [e] at this; omega
    obtain ⟨iw1, h1⟩ := thr_put h hv ht k5 (x := owesS (obt st t) (-1)) (owes_ow (h.obj t ht.1 ht.2) (by decide)) k5 rfl rfl (.inl rfl) (g := 6) (n := 0) (by decide) (by decide) (fun z => absurd z (by decide)) (fun f f0 f1 => by rw [owes_own k5]; rfl)
    have O1 : ∀ i, 0 ≤ i → obt (upd st t (owesS (obt st t) (-1))) i = if i = t then owesS (obt st t) (-1) else obt st i := fun i i0 => obt_upd h.lo ht i0 _
    have o1c : obt (upd st t (owesS (obt st t) (-1))) c = obt st c := by rw [O1 c co, if_neg ne]
    have wx : OW ({ obt st c with Owing := -1 } : ref10_Obj) := { wc with owing := by show (-1 : Int) ≤ -1 ∧ (-1 : Int) < 32; decide }
    obtain ⟨iw2, h2⟩ := thr_put h1 iw1 ⟨co, wo.2⟩ (by rw [o1c]; exact kc) (x := { obt st c with Owing := -1 }) wx kc (by rw [o1c]) (by rw [o1c]) (.inr onc) (g := 2) (n := 0) (by decide) (by decide) (fun _ => onc) (fun f f0 f1 => by
      rw [o1c, own5 kc, own5 (o := { obt st c with Owing := -1 }) kc]
      by_cases e : f = 2
      · subst e; rfl
      · rw [if_neg e, if_neg e, if_neg e])
    have O2 : ∀ i, 0 ≤ i → obt (upd (upd st t (owesS (obt st t) (-1))) c { obt st c with Owing := -1 }) i = if i = c then { obt st c with Owing := -1 } else if i = t then owesS (obt st t) (-1) else obt st i := fun i i0 => by rw [obt_upd h1.lo ⟨co, wo.2⟩ i0, O1 i i0]
    have o2c : obt (upd (upd st t (owesS (obt st t) (-1))) c { obt st c with Owing := -1 }) c = { obt st c with Owing := -1 } := by rw [O2 c co, if_pos rfl]
    obtain ⟨iw3, h3⟩ := woke_pl h2 iw2 ⟨co, wo.2⟩ (by rw [o2c]; exact kc) (by rw [o2c]; exact onc) hw (b := 0) (by decide)
    rw [o2c] at iw3 h3
    have O3 : ∀ i, 0 ≤ i → obt (upd (upd (upd st t (owesS (obt st t) (-1))) c { obt st c with Owing := -1 }) c (wokeO { obt st c with Owing := -1 } w 0)) i = if i = c then { wokeO (obt st c) w 0 with Owing := -1 } else if i = t then owesS (obt st t) (-1) else obt st i := fun i i0 => by
      rw [obt_upd h2.lo ⟨co, wo.2⟩ i0, O2 i i0]
      by_cases e : i = c
      · rw [if_pos e, if_pos e]; rfl
      · rw [if_neg e, if_neg e, if_neg e]
    rw [runB, put_ok gv t 6 0 (by decide), Option.bind_some, runB]
    simp only []
    rw [put_ok (iw1.good h1).1 c 2 0 (by decide), Option.bind_some, runB]
    simp only []
    rw [wake_ok (iw2.good h2).1 c w 0 (by omega) (by decide), Option.bind_some]
    refine ⟨0, _, _, rfl, ⟨h3, iw3, ?_, ?_⟩, ⟨fun i i0 => ?_, rfl, rfl, rfl⟩, .inl ⟨rfl, c, hc, co, wo.2, kc, gcc.2.2, ne, O3⟩⟩
    · exact T.pair h (s := t) (c := c) ht ⟨co, wo.2⟩ ne k5 kc O3 k5 kc rfl rfl rfl rfl (by omega) (by show (-1 : Int) < 0; decide) (.inr ⟨hc, gc, by show (-1 : Int) < 0; decide, by show (-1 : Int) < 0; decide, .inr rfl⟩)
    · intro o o0 o1 ko qo
      rw [O3 o o0] at ko qo ⊢
      have n1 : o ≠ c := fun e => by
        rw [if_pos e] at ko
        have : (obt st c).Kind = 3 := ko
        omega
      have n2 : o ≠ t := fun e => by
        rw [if_neg n1, if_pos e] at ko
        have : (obt st t).Kind = 3 := ko
        omega
      rw [if_neg n1, if_neg n2] at ko qo ⊢
      exact E o o0 o1 ko qo
    · rw [O3 i i0]
      split
      · rename_i e; rw [e]; rfl
      · split
        · rename_i e; rw [e]; rfl
        · rfl
  · rw [if_neg co]
    simp only [Bool.not_false, cond_true]
    exact ⟨10, st, v, rfl, S0, KS.refl st, .inr ⟨rfl, rfl, rfl, by omega⟩⟩
end Go.Proofs
/-! Appends. -/
set_option linter.unusedVariables false
namespace Go.Proofs
open Go.Sl
theorem app_ok {α : Type} {xs ys : List α} (h : xs.length + ys.length ≤ 4294967296) : app xs ys = some (xs ++ ys) := by
  unfold app; rw [decide_eq_true h, cond_true]
theorem app_one {l : List Int} {x : Int} (h : l.length < 4294967296) : app l [x] = some (l ++ [x]) := app_ok (by simp; omega)
end Go.Proofs
/-! One is taken out of a list. -/
set_option linter.unusedVariables false
namespace Go.Proofs
open Go.Sl
theorem without_t (l : List Int) (n : Int) (hl : l.length ≤ 1000) : ∀ (m k : Nat) (i : Int) (acc : List Int), 0 ≤ i → i ≤ l.length → (l.length : Int) - i = m → m < k → acc.length + m ≤ 1000 → ref10_without.l1 l n k (i, true, acc) = some (acc ++ l.drop i.toNat) := by
  intro m
  induction m with
  | zero =>
    intro k i acc h0 h1 h2 hk ha
    obtain ⟨k, rfl⟩ : ∃ q, k = q + 1 := ⟨k - 1, by omega⟩
    unfold ref10_without.l1
    rw [decide_eq_false (by omega), cond_false, List.drop_eq_nil_of_le (by omega), List.append_nil]
  | succ m ih =>
    intro k i acc h0 h1 h2 hk ha
    obtain ⟨k, rfl⟩ : ∃ q, k = q + 1 := ⟨k - 1, by omega⟩
    unfold ref10_without.l1
    have hx : at_ l i = some (l[i.toNat]'(by omega)) := by unfold at_; rw [decide_eq_true h0, cond_true, List.getElem?_eq_getElem]
    rw [decide_eq_true (by omega), cond_true, hx, Option.bind_some, Bool.not_true, Bool.and_false, cond_false, Option.bind_some, app_one (by omega), Option.bind_some, w64_id (by omega) (by omega), ih k (i + 1) _ (by omega) (by omega) (by omega) (by omega) (by simp; omega)]
    rw [List.drop_eq_getElem_cons (show i.toNat < l.length by omega), List.append_assoc]
    congr 2
    show l[i.toNat] :: _ = _
    rw [show (i + 1).toNat = i.toNat + 1 by omega]; rfl
theorem without_f (l : List Int) (n : Int) (hl : l.length ≤ 1000) : ∀ (m k : Nat) (i : Int) (acc : List Int), 0 ≤ i → i ≤ l.length → (l.length : Int) - i = m → m + 1 < k → acc.length + m ≤ 1000 → ref10_without.l1 l n k (i, false, acc) = some (acc ++ (l.drop i.toNat).erase n) := by
  intro m
  induction m with
  | zero =>
    intro k i acc h0 h1 h2 hk ha
    obtain ⟨k, rfl⟩ : ∃ q, k = q + 1 := ⟨k - 1, by omega⟩
    unfold ref10_without.l1
    rw [decide_eq_false (by omega), cond_false, List.drop_eq_nil_of_le (by omega), List.erase_nil, List.append_nil]
  | succ m ih =>
    intro k i acc h0 h1 h2 hk ha
    obtain ⟨k, rfl⟩ : ∃ q, k = q + 1 := ⟨k - 1, by omega⟩
    unfold ref10_without.l1
    have hx : at_ l i = some (l[i.toNat]'(by omega)) := by unfold at_; rw [decide_eq_true h0, cond_true, List.getElem?_eq_getElem]
    rw [decide_eq_true (by omega), cond_true, hx, Option.bind_some, Bool.not_false, Bool.and_true, w64_id (by omega) (by omega)]
    rw [List.drop_eq_getElem_cons (show i.toNat < l.length by omega)]
    by_cases e : l[i.toNat] = n
    · have e1 : (l[i.toNat] == n) = true := by simpa using e
      rw [e1, cond_true, without_t l n hl m k (i + 1) acc (by omega) (by omega) (by omega) (by omega) (by omega), e, List.erase_cons_head, show (i + 1).toNat = i.toNat + 1 by omega]
    · have e1 : (l[i.toNat] == n) = false := by simpa using e
      rw [e1, cond_false, Option.bind_some, app_one (by omega), Option.bind_some, ih k (i + 1) _ (by omega) (by omega) (by omega) (by omega) (by simp; omega), List.erase_cons_tail (by simpa using e), List.append_assoc, show (i + 1).toNat = i.toNat + 1 by omega]
      rfl
theorem without_ok (l : List Int) (n : Int) (hl : l.length ≤ 1000) {k : Nat} (hk : l.length + 1 < k) : ref10_without.f k l n = some (l.erase n) := by
  unfold ref10_without.f
  rw [without_f l n hl l.length k 0 [] (by decide) (by omega) (by omega) (by omega) (by simpa using hl)]
  rfl
end Go.Proofs
/-! A thread is cancelled: the program's words are the state's. -/
set_option linter.unusedVariables false
namespace Go.Proofs
open Go.Sl
def offO (o : ref10_Obj) : ref10_Obj := { o with State := 0, On := -1, Owing := -1 }
def offTo (s : List Int) (t : Int) : List Int := onTo (put s t 1 0) t 0
theorem fld_offTo {s : List Int} (g : Good s) {t : Int} (ht : 0 ≤ t ∧ t < 32) (i f : Int) : fld (offTo s t) i f = if i = t ∧ f = 5 then fld s t 5 % 256 else if i = t ∧ f = 1 then 0 else fld s i f := by
  unfold offTo
  have i1 : InObj t 1 := ⟨ht.1, ht.2, by decide, by decide⟩
  rw [fld_onTo (good_put g t 1 0) (by decide) ht, fld_put g t 1 0 i f (by decide), fld_put g t 1 0 t 5 (by decide), if_neg (by omega : ¬ (t = t ∧ (1 : Int) = 5 ∧ InObj t 1 ∧ (0 : Int) ≤ 0))]
  by_cases e : i = t
  · subst e
    by_cases f5 : f = 5
    · rw [if_pos ⟨rfl, f5⟩, if_pos ⟨rfl, f5⟩]; omega
    · rw [if_neg (fun z => f5 z.2)]
      by_cases f1 : f = 1
      · rw [if_pos ⟨rfl, f1.symm, i1, by decide⟩, if_neg (fun z => f5 z.2), if_pos ⟨rfl, f1⟩]
      · rw [if_neg (fun z => f1 z.2.1.symm), if_neg (fun z => f5 z.2), if_neg (fun z => f1 z.2)]
  · rw [if_neg (fun z => e z.1), if_neg (fun z => e z.1.symm), if_neg (fun z => e z.1), if_neg (fun z => e z.1)]
theorem off_ow {o : ref10_Obj} (w : OW o) : OW (offO o) := { w with state := by show (0 : Int) ≤ 0 ∧ (0 : Int) ≤ 6; decide, on := by show (-1 : Int) ≤ -1 ∧ (-1 : Int) < 32; decide, owing := by show (-1 : Int) ≤ -1 ∧ (-1 : Int) < 32; decide }
theorem off_own {o : ref10_Obj} (w : OW o) (k : o.Kind = 5) (f : Int) : own (offO o) f = if f = 2 then 0 else if f = 5 then o.Prio else if f = 1 then 0 else own o f := by
  have k' : (offO o).Kind = 5 := k
  rw [own5 k', own5 k]
  unfold offO
  simp only []
  by_cases f0 : f = 0
  · rw [if_pos f0, if_neg (by omega), if_neg (by omega), if_neg (by omega), if_pos f0]
  · rw [if_neg f0]
    by_cases f1 : f = 1
    · rw [if_pos f1, if_neg (by omega), if_neg (by omega), if_pos f1]
    · rw [if_neg f1]
      by_cases f2 : f = 2
      · rw [if_pos f2, if_pos f2]; rfl
      · rw [if_neg f2, if_neg f2, if_neg f1, if_neg f0, if_neg f1, if_neg f2]
        by_cases f5 : f = 5
        · rw [if_neg (by omega), if_neg (by omega), if_pos f5, if_pos f5]; omega
        · rw [if_neg f5, if_neg f5, if_neg f5]
section
variable {st : ref10_State} {v : List Int} (h : WF st) (hv : IsW st v)
include h hv
/-- A thread that nothing holds is stopped. -/
theorem off_thr {t : Int} (ht : 0 ≤ t ∧ t < 32) (k5 : (obt st t).Kind = 5) (on : (obt st t).On = -1) {V : List Int} (low : Low v V) (sm : Sm V) (gV : Good V) (F : ∀ i f, 0 ≤ i → i < 32 → 0 ≤ f → f < 8 → fld V i f = if i = t ∧ f = 2 then 0 else fld v i f) : IsW (upd st t (offO (obt st t))) (offTo V t) ∧ WF (upd st t (offO (obt st t))) := by
  have wt := h.obj t ht.1 ht.2
  have W := fld_offTo gV ht
  have pr := prio_fv h hv ht k5
  refine thr_isw h hv ht k5 (x := offO (obt st t)) (off_ow wt) k5 rfl on.symm (.inr rfl) ((low.put _ _ _).onTo _ _) (sm_onTo (sm_put sm (by decide)) (by decide)) (fun i f i0 i1 f0 f1 ne => by rw [W, if_neg (fun z => ne z.1), if_neg (fun z => ne z.1), F i f i0 i1 f0 f1, if_neg (fun z => ne z.1)]) (fun f f0 f1 _ => ?_) (fun z => absurd rfl z)
  rw [W, off_own wt k5, F t f ht.1 ht.2 f0 f1, F t 5 ht.1 ht.2 (by decide) (by decide), if_neg (by omega : ¬ (t = t ∧ (5 : Int) = 2)), pr]
  by_cases f2 : f = 2
  · rw [if_neg (by omega), if_neg (by omega), if_pos ⟨rfl, f2⟩, if_pos f2]
  · rw [if_neg f2]
    by_cases f5 : f = 5
    · rw [if_pos ⟨rfl, f5⟩, if_pos f5]
    · rw [if_neg (fun z => f5 z.2), if_neg f5]
      by_cases f1' : f = 1
      · rw [if_pos ⟨rfl, f1'⟩, if_pos f1']
      · rw [if_neg (fun z => f1' z.2), if_neg f1', if_neg (fun z => f2 z.2)]
        exact fv_t h hv ht k5 ⟨f0, f1⟩ (.inl f2)
theorem on_fv {t : Int} (ht : 0 ≤ t ∧ t < 32) (k5 : (obt st t).Kind = 5) : VM.run plainI (endp_On.f t) v = some (if 0 ≤ (obt st t).On then ((obt st t).On, true) else (0, false), v) := by
  have w := (h.obj t ht.1 ht.2).prio
  have o := (h.obj t ht.1 ht.2).on
  have e5 : fld v t 5 = (obt st t).Prio + 256 * ((obt st t).On + 1) := by rw [fv_t h hv ht k5 (by decide) (.inl (by decide)), own5 k5]; rfl
  unfold endp_On.f
  rw [runB, field_ok (hv.good h).1, Option.bind_some]
  simp only []
  have ed : w64 ((fld v t 5).tdiv 256) = (obt st t).On + 1 := by
    rw [e5, Int.tdiv_eq_ediv_of_nonneg (by omega), w64_id (by omega) (by omega)]; omega
  rw [ed, w64_id (x := (obt st t).On + 1 - 1) (by omega) (by omega)]
  by_cases c : 0 ≤ (obt st t).On
  · have : (decide ((obt st t).On + 1 < 1) || decide (32 < (obt st t).On + 1)) = false := by simp; omega
    rw [this, cond_false, if_pos c, show (obt st t).On + 1 - 1 = (obt st t).On by omega]; rfl
  · have : (decide ((obt st t).On + 1 < 1) || decide (32 < (obt st t).On + 1)) = true := by simp; omega
    rw [this, cond_true, if_neg c]; rfl
theorem owing_fv {t : Int} (ht : 0 ≤ t ∧ t < 32) (k5 : (obt st t).Kind = 5) (on : (obt st t).On = -1) (owg : 0 ≤ (obt st t).Owing) : VM.run plainI (lay_Ref.f t 2) v = some (((obt st t).Owing, true), v) := by
  have wo := (h.obj t ht.1 ht.2).owing
  have e : fld v t 2 = (obt st t).Owing + 1 := by rw [fv_t h hv ht k5 (by decide) (.inr on), own5 k5]; rfl
  rw [ref_ok (hv.good h).1, e, if_pos (by omega), show (obt st t).Owing + 1 - 1 = (obt st t).Owing by omega]
end
/-- What stays of all but threads. -/
def Fx (st st' : ref10_State) : Prop := ∀ i, 0 ≤ i → i < 32 → (obt st i).Kind ≠ 5 → (obt st' i).Word = (obt st i).Word ∧ (obt st' i).First = (obt st i).First ∧ (obt st' i).Radix = (obt st i).Radix
/-- One that owes itself a reply owes it no more. -/
theorem TI.self {st : ref10_State} (h : WF st) (T : TI st) {t : Int} (ht : 0 ≤ t ∧ t < 32) (k5 : (obt st t).Kind = 5) (s4 : (obt st t).State = 4) (ow : (obt st t).Owes = t) {x : ref10_Obj} (kx : x.Kind = 5) (x1 : x.Owing < 0) (x2 : x.Owes < 0) (x3 : x.On < 0) (x4 : x.State = 0) : TI (upd st t x) := by
  have O := fun i (hi : 0 ≤ i) => obt_upd h.lo ht hi x
  have K : ∀ i, 0 ≤ i → (obt (upd st t x) i).Kind = (obt st i).Kind := fun i i0 => by
    rw [O i i0]; split
    · rename_i e; rw [e, kx, k5]
    · rfl
  have on := (T.s4 t ht.1 ht.2 k5 s4).2
  refine ⟨fun i i0 i1 k p => ?_, fun i i0 i1 k p => ?_, fun i i0 i1 k p => ?_, fun i i0 i1 k p => ?_, fun i i0 i1 k p => ?_⟩
  · rw [K i i0] at k
    by_cases e : i = t
    · rw [O i i0, if_pos e] at p; omega
    · rw [O i i0, if_neg e] at p ⊢
      obtain ⟨g1, g2, g3⟩ := T.g i i0 i1 k p
      have ne : (obt st i).Owing ≠ t := fun z => by rw [z] at g2; omega
      rw [O _ p, if_neg ne]; exact ⟨g1, g2, g3⟩
  · rw [K i i0] at k
    by_cases e : i = t
    · rw [O i i0, if_pos e] at p; omega
    · rw [O i i0, if_neg e] at p ⊢
      obtain ⟨g1, g2⟩ := T.e i i0 i1 k p
      have ne : (obt st i).Owes ≠ t := fun z => by
        rw [z] at g2
        have := T.g t ht.1 ht.2 k5 (by omega)
        have := T.e t ht.1 ht.2 k5 (by omega)
        rw [ow] at this
        omega
      rw [O _ p, if_neg ne]; exact ⟨g1, g2⟩
  · rw [K i i0] at k
    by_cases e : i = t
    · rw [O i i0, if_pos e] at p; omega
    · rw [O i i0, if_neg e] at p ⊢; exact T.s4 i i0 i1 k p
  · rw [K i i0] at k
    by_cases e : i = t
    · rw [O i i0, if_pos e] at p; omega
    · rw [O i i0, if_neg e] at p ⊢
      have oc := T.on i i0 i1 k p
      have ne : (obt st i).On ≠ t := fun z => by rw [z, k5] at oc; unfold OnC at oc; omega
      rw [O _ p, if_neg ne]; exact oc
  · rw [K i i0] at k
    by_cases e : i = t
    · rw [O i i0, if_pos e]; exact .inl x4
    · rw [O i i0, if_neg e] at p ⊢; exact T.off i i0 i1 k p
theorem sm_layQ : ∀ {l s : List Int}, Sm s → (∀ x ∈ l, 0 ≤ x ∧ x < 32) → Sm (layQ s l)
  | [], _, h, _ => h
  | [_], _, h, _ => sm_put h (by decide)
  | _ :: u :: l, _, h, hr => sm_layQ (l := u :: l) (sm_put h (by have := hr u (List.mem_cons_of_mem _ List.mem_cons_self); omega)) fun x hx => hr x (List.mem_cons_of_mem _ hx)
theorem Low.layQ {v : List Int} : ∀ {l s : List Int}, Low v s → Low v (layQ s l)
  | [], _, h => h
  | [_], _, h => h.put _ _ _
  | _ :: u :: l, _, h => Low.layQ (l := u :: l) (h.put _ _ _)
theorem sm_removeTo {s : List Int} (sm : Sm s) {o t : Int} {l : List Int} (h : IsQ s o l) (hr : ∀ x ∈ l, 0 ≤ x ∧ x < 32) (hl : l.length ≤ 32) : Sm (removeTo s o t) := by
  unfold removeTo
  rw [h.list hr hl, qput_eq]
  have hr' : ∀ x ∈ l.eraseIdx (l.idxOf t), 0 ≤ x ∧ x < 32 := fun x hx => hr x (List.mem_of_mem_eraseIdx hx)
  have := la_rg32 hr'
  have := hd_rg32 hr'
  exact sm_put (sm_put (sm_put (sm_layQ sm hr') (by omega)) (by omega)) (by decide)
theorem Low.removeTo {v s : List Int} (lw : Low v s) (o t : Int) : Low v (removeTo s o t) := by
  unfold Go.Proofs.removeTo
  rw [qput_eq]
  exact (((Low.layQ lw).put _ _ _).put _ _ _).put _ _ _
/-- A blocked one is taken out of its queue. -/
theorem take_pl {st : ref10_State} {v : List Int} (S : ES st v) {t : Int} (ht : 0 ≤ t ∧ t < 32) (k5 : (obt st t).Kind = 5) (on : 0 ≤ (obt st t).On) {k : Nat} (hk : 40 ≤ k) :
    ∃ V st', ((VM.run plainI (queue_Remove.f k (obt st t).On t) v).bind fun p => (VM.run plainI (lay_Is.f (obt st t).On 3) p.2).bind fun q => if q.1 = true then (VM.run plainI (endp_rest.f k (obt st t).On) q.2).map (fun r => r.2) else some q.2) = some V ∧
      st' = upd (upd st (obt st t).On { obt st (obt st t).On with Queue := (obt st (obt st t).On).Queue.erase t, Wait := if (obt st (obt st t).On).Kind = 3 ∧ (obt st (obt st t).On).Queue.erase t = [] then 0 else (obt st (obt st t).On).Wait }) t (offO (obt st t)) ∧ Good V ∧ ES st' (offTo V t) ∧ KS st st' := by
  obtain ⟨h, hv, T, E⟩ := S
  have wt := h.obj t ht.1 ht.2
  have won := wt.on
  generalize hoe : (obt st t).On = o at *
  have ho : 0 ≤ o ∧ o < 32 := ⟨on, won.2⟩
  have hm : t ∈ (obt st o).Queue := by have := h.onq t ht.1 ht.2 k5 (by omega); rwa [hoe] at this
  have hk34 := h.qk o ho.1 ho.2 (List.ne_nil_of_mem hm)
  obtain ⟨_, _, _, _, owg⟩ := h.que o ho.1 ho.2 t hm
  have hr := queue_rg h ho.1 ho.2
  have hn := h.nodq o ho.1 ho.2
  have hl := nodup_len 32 hn hr
  have wo := h.obj o ho.1 ho.2
  have hol : o ∉ (obt st o).Queue := fun z => by have := (h.que o ho.1 ho.2 o z).2.2.1; omega
  have iq := hv.isq h ho hk34
  have gv := (hv.good h).1
  have nt : t ∉ (obt st o).Queue.erase t := fun z => ((List.Nodup.mem_erase_iff hn).1 z).1 rfl
  obtain ⟨R, R2, Rq⟩ := fld_removeTo gv iq ho hr hl hn hm hol
  have gR := good_removeTo gv o t
  have lR : Low v (removeTo v o t) := (Low.refl hv.len).removeTo o t
  have sR := sm_removeTo (hv.sm h) (o := o) (t := t) iq hr hl
  have hr' : ∀ x ∈ (obt st o).Queue.erase t, 0 ≤ x ∧ x < 32 := fun x hx => hr x (List.mem_of_mem_erase hx)
  have hl' : ((obt st o).Queue.erase t).length ≤ 32 := by rw [List.length_erase_of_mem hm]; omega
  have lq : qlist v o = (obt st o).Queue := iq.list hr hl
  have hne : o ≠ t := fun e => hol (by rw [e]; rw [e] at hm; exact hm)
  have r0 : fld (removeTo v o t) o 0 = (obt st o).Kind := by
    rw [R o 0 (fun z => by omega), if_neg (by omega), if_neg (by omega), fv_o h hv ho hk34 (by decide) (by decide) (by decide)]
    rcases hk34 with k | k
    · rw [own3 k, k]; rfl
    · rw [own4 k, k]; rfl
  -- the words
  have words : ∃ V, ((VM.run plainI (queue_Remove.f k o t) v).bind fun p => (VM.run plainI (lay_Is.f o 3) p.2).bind fun q => if q.1 = true then (VM.run plainI (endp_rest.f k o) q.2).map (fun r => r.2) else some q.2) = some V ∧ Good V ∧ Low v V ∧ Sm V ∧ ∀ i f, 0 ≤ i → i < 32 → 0 ≤ f → f < 8 → fld V i f = if i = o ∧ f = 1 ∧ (obt st o).Kind = 3 ∧ (obt st o).Queue.erase t = [] then 0 else fld (removeTo v o t) i f := by
    rw [remove_ok gv k o t hk, lq, if_pos hm, Option.bind_some]
    simp only []
    rw [is_ok gR o 3 (by decide), r0, Option.bind_some]
    simp only [decide_eq_true_eq]
    by_cases k3 : (obt st o).Kind = 3
    · rw [if_pos k3]
      unfold endp_rest.f
      rw [runB, list_ok gR k hk o, Rq.list hr' hl', Option.bind_some, runC]
      by_cases c : (obt st o).Queue.erase t = []
      · have e : (((obt st o).Queue.erase t).length : Int) == 0 := by rw [c]; rfl
        rw [e, cond_true, runB, put_ok gR o 1 0 (by decide), Option.bind_some]
        refine ⟨_, rfl, good_put gR o 1 0, lR.put o 1 0, sm_put sR (by decide), fun i f i0 i1 f0 f1 => ?_⟩
        rw [fld_put gR o 1 0 i f (by decide)]
        by_cases e : i = o ∧ f = 1
        · rw [if_pos ⟨e.1.symm, e.2.symm, ⟨ho.1, ho.2, by decide, by decide⟩, by decide⟩, if_pos ⟨e.1, e.2, k3, c⟩]
        · rw [if_neg (fun z => e ⟨z.1.symm, z.2.1.symm⟩), if_neg (fun z => e ⟨z.1, z.2.1⟩)]
      · have e : ((((obt st o).Queue.erase t).length : Int) == 0) = false := by
          have := List.length_pos_iff.2 c
          rw [Bool.eq_false_iff]; intro z
          have := eq_of_beq z
          omega
        rw [e, cond_false]
        exact ⟨_, rfl, gR, lR, sR, fun i f i0 i1 f0 f1 => by rw [if_neg (fun z => c z.2.2.2)]⟩
    · rw [if_neg k3]
      exact ⟨_, rfl, gR, lR, sR, fun i f i0 i1 f0 f1 => by rw [if_neg (fun z => k3 z.2.2.1)]⟩
  obtain ⟨V, e1, gV, lV, sV, FV⟩ := words
  generalize hw' : (if (obt st o).Kind = 3 ∧ (obt st o).Queue.erase t = [] then (0 : Int) else (obt st o).Wait) = w'
  have hww : 0 ≤ w' ∧ w' ≤ 2 := by rw [← hw']; have := wo.wait; split <;> omega
  have c : QCh st o t { obt st o with Queue := (obt st o).Queue.erase t, Wait := w' } (offO (obt st t)) := {
    ho := ho, ht := ht, ko := hk34, kt := k5, wo := { wo with wait := hww }, ko' := rfl, kt' := k5, qt := noq h ht (by omega), nd := hn.erase t
    wt := off_ow wt
    mem := fun y hy => ⟨fun z => List.mem_of_mem_erase z, fun z => (List.Nodup.mem_erase_iff hn).2 ⟨hy, z⟩⟩
    mt := ⟨fun z => absurd z nt, fun z => by have : (-1 : Int) = o := z; omega⟩
    on := .inr rfl
    ow := fun z => by have : (-1 : Int) = o := z; omega
    was := .inr hoe }
  have W := fld_offTo gV ht
  have pr := prio_fv h hv ht k5
  have Fo : ∀ f, 0 ≤ f → f < 8 → f ≠ 1 → fld (offTo V t) o f = fld (removeTo v o t) o f := fun f f0 f1 ne => by
    rw [W, if_neg (fun z => hne z.1), if_neg (fun z => hne z.1), FV o f ho.1 ho.2 f0 f1, if_neg (fun z => ne z.2.1)]
  have oc := T.on t ht.1 ht.2 k5 (by omega)
  rw [hoe] at oc
  refine ⟨V, _, e1, rfl, gV, ⟨c.wf h, ?_, ?_, ?_⟩, ⟨fun i i0 => c.kind h i i0, rfl, rfl, rfl⟩⟩
  · refine c.isw h hv ((lV.put _ _ _).onTo _ _) (sm_onTo (sm_put sV (by decide)) (by decide)) (Rq.congr (Fo 2 (by decide) (by decide) (by decide)) (Fo 3 (by decide) (by decide) (by decide)) fun x hx => ?_) (fun i f io it i0 i1 f0 f1 hc => ?_) (fun f f0 f1 e2 e3 => ?_) (fun f f0 f1 hc => ?_)
    · have r := hr' x hx
      have xt : x ≠ t := fun z => by subst z; exact nt hx
      have xo : x ≠ o := fun z => by subst z; exact hol (List.mem_of_mem_erase hx)
      rw [W, if_neg (fun z => xt z.1), if_neg (fun z => xt z.1), FV x 2 r.1 r.2 (by decide) (by decide), if_neg (fun z => xo z.1)]
    · rw [W, if_neg (fun z => it z.1), if_neg (fun z => it z.1), FV i f i0 i1 f0 f1, if_neg (fun z => io z.1), R i f, if_neg (fun z => io z.1), if_neg (fun z => io z.1)]
      rintro ⟨z1, z2⟩
      rcases hc with q | q
      · exact q z2
      · exact q ((List.Nodup.mem_erase_iff hn).2 ⟨it, z1⟩)
    · by_cases f1' : f = 1
      · subst f1'
        have e1' : fld (removeTo v o t) o 1 = own (obt st o) 1 := by
          rw [R o 1 (fun z => by omega), if_neg (by omega), if_neg (by omega), fv_o h hv ho hk34 (by decide) (by decide) (by decide)]
        have e2' : fld (offTo V t) o 1 = if o = o ∧ (1 : Int) = 1 ∧ (obt st o).Kind = 3 ∧ (obt st o).Queue.erase t = [] then 0 else own (obt st o) 1 := by
          rw [W, if_neg (fun z => hne z.1), if_neg (fun z => hne z.1), FV o 1 ho.1 ho.2 (by decide) (by decide), e1']
        rw [e2', ← hw']
        rcases hk34 with k | k
        · rw [own3 k, own3 (o := { obt st o with Queue := (obt st o).Queue.erase t, Wait := _ }) k]
          by_cases q : (obt st o).Queue.erase t = []
          · rw [if_pos ⟨rfl, rfl, k, q⟩]
            simp only [if_pos (show (obt st o).Kind = 3 ∧ (obt st o).Queue.erase t = [] from ⟨k, q⟩)]
            rfl
          · rw [if_neg (fun z => q z.2.2.2)]
            simp only [if_neg (fun z : (obt st o).Kind = 3 ∧ (obt st o).Queue.erase t = [] => q z.2)]
        · rw [own4 k, own4 (o := { obt st o with Queue := (obt st o).Queue.erase t, Wait := _ }) k, if_neg (fun z => by omega)]
      · rw [Fo f f0 f1 f1', R o f (fun z => e2 z.2), if_neg (fun z => e3 z.2), if_neg (fun z => e2 z.2), fv_o h hv ho hk34 ⟨f0, f1⟩ e2 e3]
        rcases hk34 with k | k
        · rw [own3 k, own3 (o := { obt st o with Queue := (obt st o).Queue.erase t, Wait := _ }) k, if_neg f1', if_neg f1']
        · rw [own4 k, own4 (o := { obt st o with Queue := (obt st o).Queue.erase t, Wait := _ }) k]
    · have Ft : ∀ f, 0 ≤ f → f < 8 → fld V t f = if f = 2 then 0 else fld v t f := fun f f0 f1 => by
        rw [FV t f ht.1 ht.2 f0 f1, if_neg (fun z => hne z.1.symm)]
        by_cases f2 : f = 2
        · rw [f2, R2, if_pos rfl]
        · rw [R t f (fun z => f2 z.2), if_neg (fun z => hne z.1.symm), if_neg (fun z => hne z.1.symm), if_neg f2]
      rw [W, off_own wt k5, Ft f f0 f1, Ft 5 (by decide) (by decide), if_neg (by decide : ¬ (5 : Int) = 2), pr]
      by_cases f2 : f = 2
      · rw [if_neg (by omega), if_neg (by omega), if_pos f2, if_pos f2]
      · rw [if_neg f2, if_neg f2]
        by_cases f5 : f = 5
        · rw [if_pos ⟨rfl, f5⟩, if_pos f5]
        · rw [if_neg (fun z => f5 z.2), if_neg f5]
          by_cases f1' : f = 1
          · rw [if_pos ⟨rfl, f1'⟩, if_pos f1']
          · rw [if_neg (fun z => f1' z.2), if_neg f1']
            exact fv_t h hv ht k5 ⟨f0, f1⟩ (.inl f2)
  · refine T.two h c owg.symm rfl (fun z => by unfold OnC at oc; omega) (by show (0 : Int) ≠ 4; decide) (fun _ => .inl rfl) (fun z => by have : (-1 : Int) = o := z; omega) ?_
    show w' = _ ∨ _
    rw [← hw']
    by_cases q : (obt st o).Kind = 3 ∧ (obt st o).Queue.erase t = []
    · refine .inr fun y y0 y1 ky yt yo => ?_
      have my := h.onq y y0 y1 ky (by omega)
      rw [yo] at my
      have := (List.Nodup.mem_erase_iff hn).2 ⟨yt, my⟩
      rw [q.2] at this
      cases this
    · rw [if_neg q]; exact .inl rfl
  · intro i i0 i1 ki qi
    rw [c.obt h i i0] at ki qi ⊢
    by_cases e : i = t
    · rw [if_pos e] at ki
      have : (obt st t).Kind = 3 := ki
      omega
    · rw [if_neg e] at ki qi ⊢
      by_cases e2 : i = o
      · rw [if_pos e2] at ki qi ⊢
        show w' = 0
        rw [← hw', if_pos ⟨ki, qi⟩]
      · rw [if_neg e2] at ki qi ⊢; exact E i i0 i1 ki qi
end Go.Proofs
/-! Cancelled: all cases. -/
set_option linter.unusedVariables false
namespace Go.Proofs
open Go.Sl
theorem off_tail {st : ref10_State} (hl : st.Objs.length = 32) {t : Int} (ht : 0 ≤ t ∧ t < 32) : ((at_ st.Objs t).bind fun x89 => (at_ (st.Objs.set t.toNat ({ x89 with State := 0 } : ref10_Obj)) t).bind fun x101 => some (⟨st.Slots, (st.Objs.set t.toNat ({ x89 with State := 0 } : ref10_Obj)).set t.toNat ({ x101 with On := -1 } : ref10_Obj), st.NS, st.NO⟩ : ref10_State)) = some (upd st t { obt st t with State := 0, On := -1 }) := by
  have lt : t < (st.Objs.length : Int) := by rw [hl]; omega
  rw [at_ob hl ht, Option.bind_some, at_set ht.1 lt, if_pos rfl, Option.bind_some, List.set_set]
  rfl
theorem off_eq {o : ref10_Obj} (g : o.Owing = -1) : ({ o with State := 0, On := -1 } : ref10_Obj) = offO o := by
  unfold offO; rw [← g]
theorem there_t {t : Int} (ht : 0 ≤ t ∧ t < 32) : endp_there.f t = some true := by rw [ethere_ok, decide_eq_true ⟨ht.1, ht.2, by decide, by decide⟩]
theorem state_fv {st : ref10_State} {v : List Int} (h : WF st) (hv : IsW st v) {t : Int} (ht : 0 ≤ t ∧ t < 32) (k5 : (obt st t).Kind = 5) : VM.run plainI (endp_State.f t) v = some ((obt st t).State, v) := by
  have fv : fld v t 1 = (obt st t).State := by rw [fv_t h hv ht k5 (by decide) (.inl (by decide)), own5 k5]; rfl
  rw [state_ok (hv.good h).1, fv]
theorem off_run {V : List Int} (g : Good V) (t : Int) : VM.run plainI ((lay_Put.f t 1 0).bind fun _ => (endp_on.f t 0).bind fun _ => VM.ret ()) V = some ((), offTo V t) := by
  rw [runB, put_ok g t 1 0 (by decide), Option.bind_some, runB, on_ok (good_put g t 1 0) t 0 (by decide), Option.bind_some]; rfl
theorem upd2 (st : ref10_State) (a : Int) (x y : ref10_Obj) : upd (upd st a x) a y = upd st a y := by unfold upd; simp only [List.set_set]
theorem cancel_pl {st : ref10_State} {v : List Int} (S : ES st v) {t : Int} (ht : 0 ≤ t ∧ t < 32) (k5 : (obt st t).Kind = 5) {k : Nat} (hk : 60 ≤ k) :
    ∃ st' v', ref10_State_Cancel.f k st t = some st' ∧ VM.run plainI (endp_Cancel.f k t) v = some ((), v') ∧ ES st' v' ∧ KS st st' ∧ (obt st' t).State = 0 ∧ (obt st' t).On = -1 ∧ Fx st st' := by
  have S0 := S
  obtain ⟨h, hv, T, E⟩ := S
  have wt := h.obj t ht.1 ht.2
  have gv := (hv.good h).1
  unfold endp_Cancel.f ref10_State_Cancel.f
  rw [runB, runO, there_t ht, Option.map_some, Option.bind_some, Bool.not_true, runC, cond_false, runB, on_fv h hv ht k5, Option.bind_some, at_ob h.lo ht, Option.bind_some]
  simp only []
  by_cases s4 : (obt st t).State = 4
  · obtain ⟨og, on⟩ := T.s4 t ht.1 ht.2 k5 s4
    have won := wt.on
    have on' : (obt st t).On = -1 := by omega
    obtain ⟨g1, g2, _⟩ := T.g t ht.1 ht.2 k5 og
    have wog := wt.owing
    have e4 : ((obt st t).State == 4) = true := by simpa using s4
    generalize hs : (obt st t).Owing = s at *
    have hs' : 0 ≤ s ∧ s < 32 := ⟨og, wog.2⟩
    have ws := h.obj s hs'.1 hs'.2
    obtain ⟨iw1, h1⟩ := thr_put h hv hs' g1 (x := owesS (obt st s) (-1)) (owes_ow ws (by decide)) g1 rfl rfl (.inl rfl) (g := 6) (n := 0) (by decide) (by decide) (fun z => absurd z (by decide)) (fun f f0 f1 => by rw [owes_own g1]; rfl)
    have O1 : ∀ i, 0 ≤ i → obt (upd st s (owesS (obt st s) (-1))) i = if i = s then owesS (obt st s) (-1) else obt st i := fun i i0 => obt_upd h.lo hs' i0 _
    have gv1 := (iw1.good h1).1
    have ot : (obt (upd st s (owesS (obt st s) (-1))) t).Kind = 5 ∧ (obt (upd st s (owesS (obt st s) (-1))) t).On = -1 := by
      rw [O1 t ht.1]; split
      · rename_i e; rw [e] at on' k5; exact ⟨k5, on'⟩
      · exact ⟨k5, on'⟩
    generalize hst1 : upd st s (owesS (obt st s) (-1)) = st1 at iw1 h1 O1 ot
    have i2 : InObj t 2 := ⟨ht.1, ht.2, by decide, by decide⟩
    obtain ⟨iw2, h2⟩ := off_thr h1 iw1 ht ot.1 ot.2 (V := put (put v s 6 0) t 2 0) ((Low.refl (iw1.len)).put _ _ _) (sm_put (iw1.sm h1) (by decide)) (good_put gv1 t 2 0) (fun i f i0 i1 f0 f1 => by
      rw [fld_put gv1 t 2 0 i f (by decide)]
      by_cases e : i = t ∧ f = 2
      · rw [if_pos ⟨e.1.symm, e.2.symm, i2, by decide⟩, if_pos e]
      · rw [if_neg (fun z => e ⟨z.1.symm, z.2.1.symm⟩), if_neg e])
    have O2 : ∀ i, 0 ≤ i → obt (upd st1 t (offO (obt st1 t))) i = if i = t then offO (obt st1 t) else obt st1 i := fun i i0 => obt_upd h1.lo ht i0 _
    refine ⟨upd st1 t (offO (obt st1 t)), _, ?_, ?_, ⟨h2, iw2, ?_, ?_⟩, ⟨fun i i0 => ?_, ?_, ?_, ?_⟩, ?_, ?_, fun i i0 i1 ki => ?_⟩
    · have lt1 : t < ((st.Objs.set s.toNat (owesS (obt st s) (-1))).length : Int) := by rw [List.length_set, h.lo]; omega
      rw [e4, cond_true, decide_eq_true og, cond_true, at_ob h.lo hs', Option.bind_some]
      have e5 : at_ (st.Objs.set s.toNat ({ obt st s with Owes := -1 } : ref10_Obj)) t = some (obt st1 t) := by
        rw [← hst1]; exact at_ob (st := upd st s (owesS (obt st s) (-1))) (by rw [upd_len]; exact h.lo) ht
      rw [e5, Option.bind_some, Option.bind_some]
      simp only []
      have := off_tail (st := upd st1 t { obt st1 t with Owing := -1 }) (by rw [upd_len]; exact h1.lo) ht
      rw [obt_upd h1.lo ht ht.1, if_pos rfl, upd2] at this
      rw [← hst1] at this ⊢
      exact this
    · rw [runB, state_fv h hv ht k5, Option.bind_some]
      simp only [e4, runC, cond_true]
      rw [runB, owing_fv h hv ht k5 on' (by rw [hs]; exact og), Option.bind_some]
      simp only [hs, runC, cond_true]
      rw [runB, put_ok gv s 6 0 (by decide), Option.bind_some, runB, put_ok gv1 t 2 0 (by decide), Option.bind_some]
      exact off_run (good_put gv1 t 2 0) t
    · by_cases e : s = t
      · have : upd st1 t (offO (obt st1 t)) = upd st t (offO (owesS (obt st t) (-1))) := by
          rw [← hst1, e, upd2, obt_upd h.lo ht ht.1, if_pos rfl]
        rw [this]
        rw [e] at g2
        exact T.self h ht k5 s4 g2 (x := offO (owesS (obt st t) (-1))) k5 (by show (-1 : Int) < 0; decide) (by show (-1 : Int) < 0; decide) (by show (-1 : Int) < 0; decide) rfl
      · have e1 : obt st1 t = obt st t := by rw [O1 t ht.1, if_neg (fun z => e z.symm)]
        refine T.pair h (s := s) (c := t) hs' ht (fun z => e z.symm) g1 k5 (xs := owesS (obt st s) (-1)) (xc := offO (obt st t)) (fun i i0 => ?_) g1 k5 rfl rfl rfl rfl on (by show (-1 : Int) < 0; decide) (.inr ⟨g2, hs, by show (-1 : Int) < 0; decide, by show (-1 : Int) < 0; decide, .inl rfl⟩)
        rw [O2 i i0, O1 i i0, e1]
    · intro o o0 o1 ko qo
      rw [O2 o o0] at ko qo ⊢
      have n1 : o ≠ t := fun e => by
        rw [if_pos e] at ko
        have : (obt st1 t).Kind = 3 := ko
        omega
      rw [if_neg n1, O1 o o0] at ko qo ⊢
      have n2 : o ≠ s := fun e => by
        rw [if_pos e] at ko
        have : (obt st s).Kind = 3 := ko
        omega
      rw [if_neg n2] at ko qo ⊢
      exact E o o0 o1 ko qo
    · have k1 : (obt st1 i).Kind = (obt st i).Kind := by
        rw [O1 i i0]; split
        · rename_i e; rw [e]; rfl
        · rfl
      rw [O2 i i0]; split
      · rename_i e; rw [← e]; exact k1
      · exact k1
    · rw [← hst1]; rfl
    · rw [← hst1]; rfl
    · rw [← hst1]; rfl
    · rw [O2 t ht.1, if_pos rfl]; rfl
    · rw [O2 t ht.1, if_pos rfl]; rfl
    · rw [O2 i i0, if_neg (fun e => ki (by rw [e]; exact k5)), O1 i i0, if_neg (fun e => ki (by rw [e]; exact g1))]
      exact ⟨rfl, rfl, rfl⟩
  · have e4 : ((obt st t).State == 4) = false := by simpa using s4
    rw [e4, cond_false]
    by_cases on : 0 ≤ (obt st t).On
    · obtain ⟨V, st', e1, e2, gV, S', K⟩ := take_pl S0 ht k5 on (k := k) (by omega)
      have won := wt.on
      have hq := h.onq t ht.1 ht.2 k5 on
      have ho : 0 ≤ (obt st t).On ∧ (obt st t).On < 32 := ⟨on, won.2⟩
      have owg := (h.que _ ho.1 ho.2 t hq).2.2.2.2
      have hr := queue_rg h ho.1 ho.2
      have hl := nodup_len 32 (h.nodq _ ho.1 ho.2) hr
      generalize hoe : (obt st t).On = o at *
      have hne : t ≠ o := fun e => by
        have := (h.que o ho.1 ho.2 t hq).2.2.1
        have := h.qk o ho.1 ho.2 (List.ne_nil_of_mem hq)
        rw [← e] at this; omega
      refine ⟨st', offTo V t, ?_, ?_, S', K, ?_, ?_, fun i i0 i1 ki => ?_⟩
      · rw [decide_eq_true on, cond_true, at_ob h.lo ho, Option.bind_some, without_ok _ t (by omega) (by omega), Option.bind_some, Option.bind_some]
        have lt : o < (st.Objs.length : Int) := by rw [h.lo]; omega
        rw [at_set on lt, if_pos rfl, Option.bind_some]
        generalize hst1 : upd st o { obt st o with Queue := (obt st o).Queue.erase t } = st1
        have O1 : ∀ i, 0 ≤ i → obt st1 i = if i = o then { obt st o with Queue := (obt st o).Queue.erase t } else obt st i := fun i i0 => by rw [← hst1]; exact obt_upd h.lo ho i0 _
        have l1 : st1.Objs.length = 32 := by rw [← hst1, upd_len]; exact h.lo
        have ob1 : st.Objs.set o.toNat ({ obt st o with Queue := (obt st o).Queue.erase t } : ref10_Obj) = st1.Objs := by rw [← hst1]; rfl
        have p1 : st1.Slots = st.Slots ∧ st1.NS = st.NS ∧ st1.NO = st.NO := by rw [← hst1]; exact ⟨rfl, rfl, rfl⟩
        -- the state ahead of the tail
        have tail : ∀ st2 : ref10_State, st2.Objs.length = 32 → obt st2 t = obt st t → ((at_ st2.Objs t).bind fun x89 => (at_ (st2.Objs.set t.toNat ({ x89 with State := 0 } : ref10_Obj)) t).bind fun x101 => some (⟨st2.Slots, (st2.Objs.set t.toNat ({ x89 with State := 0 } : ref10_Obj)).set t.toNat ({ x101 with On := -1 } : ref10_Obj), st2.NS, st2.NO⟩ : ref10_State)) = some (upd st2 t (offO (obt st t))) := fun st2 l2 e => by
          rw [off_tail l2 ht, e, off_eq owg]
        rw [ob1]
        by_cases k3 : (obt st o).Kind = 3
        · have ek : ((obt st o).Kind == 3) = true := by simpa using k3
          simp only [ek, cond_true]
          unfold ref10_State_rest.f
          simp only []
          rw [at_ob l1 ho, O1 o on, if_pos rfl, Option.bind_some, Option.bind_some]
          simp only []
          by_cases c : (obt st o).Queue.erase t = []
          · have e : ((((obt st o).Queue.erase t).length : Int) == 0) = true := by rw [c]; rfl
            simp only [e, cond_true, Option.bind_some]
            have := tail (upd st1 o { obt st o with Queue := (obt st o).Queue.erase t, Wait := 0 }) (by rw [upd_len]; exact l1) (by rw [obt_upd l1 ho ht.1, if_neg hne, O1 t ht.1, if_neg hne])
            rw [e2, if_pos ⟨k3, c⟩]
            rw [← hst1] at this ⊢
            refine this.trans ?_
            rw [upd2]
          · have e : ((((obt st o).Queue.erase t).length : Int) == 0) = false := by
              have := List.length_pos_iff.2 c
              rw [Bool.eq_false_iff]; intro z
              have := eq_of_beq z
              omega
            simp only [e, cond_false, Option.bind_some]
            have := tail st1 l1 (by rw [O1 t ht.1, if_neg hne])
            rw [e2, if_neg (fun z => c z.2)]
            rw [p1.1, p1.2.1, p1.2.2] at this
            rw [← hst1] at this ⊢
            exact this
        · have ek : ((obt st o).Kind == 3) = false := by simpa using k3
          simp only [ek, cond_false, Option.bind_some]
          have := tail st1 l1 (by rw [O1 t ht.1, if_neg hne])
          rw [e2, if_neg (fun z => k3 z.1)]
          rw [p1.1, p1.2.1, p1.2.2] at this
          rw [← hst1] at this ⊢
          exact this
      · rw [runB, state_fv h hv ht k5, Option.bind_some]
        simp only [e4, runC, cond_false, if_pos on, cond_true]
        cases hR : VM.run plainI (queue_Remove.f k o t) v with
        | none => rw [hR] at e1; cases e1
        | some p =>
          rw [hR, Option.bind_some] at e1
          cases hI : VM.run plainI (lay_Is.f o 3) p.2 with
          | none => rw [hI] at e1; cases e1
          | some q =>
            rw [hI, Option.bind_some] at e1
            rw [runB, hR, Option.bind_some, runB, hI, Option.bind_some, runC]
            cases hq1 : q.1 with
            | true =>
              rw [hq1, if_pos rfl] at e1
              rw [cond_true, runB]
              cases hr1 : VM.run plainI (endp_rest.f k o) q.2 with
              | none => rw [hr1] at e1; cases e1
              | some r =>
                rw [hr1] at e1
                rw [Option.bind_some]
                have : r.2 = V := by injection e1
                rw [this]
                exact off_run gV t
            | false =>
              rw [hq1, if_neg (by decide)] at e1
              rw [cond_false]
              have : q.2 = V := by injection e1
              rw [this]
              exact off_run gV t
      · rw [e2, obt_upd (by rw [upd_len]; exact h.lo) ht ht.1, if_pos rfl]; rfl
      · rw [e2, obt_upd (by rw [upd_len]; exact h.lo) ht ht.1, if_pos rfl]; rfl
      · rw [e2, obt_upd (by rw [upd_len]; exact h.lo) ht i0, if_neg (fun e => ki (by rw [e]; exact k5)), obt_upd h.lo ho i0]
        split
        · rename_i e; rw [e]; exact ⟨rfl, rfl, rfl⟩
        · exact ⟨rfl, rfl, rfl⟩
    · have won := wt.on
      have on' : (obt st t).On = -1 := by omega
      have owg : (obt st t).Owing = -1 := by
        have := wt.owing
        rcases Int.lt_or_le (obt st t).Owing 0 with z | z
        · omega
        · exact absurd (T.g t ht.1 ht.2 k5 z).2.2 s4
      have f2 : fld v t 2 = 0 := by
        rw [fv_t h hv ht k5 (by decide) (.inr on'), own5 k5]
        show (obt st t).Owing + 1 = 0
        omega
      obtain ⟨iw, h'⟩ := off_thr h hv ht k5 on' (V := v) (Low.refl hv.len) (hv.sm h) gv (fun i f i0 i1 f0 f1 => by
        by_cases e : i = t ∧ f = 2
        · rw [if_pos e, e.1, e.2, f2]
        · rw [if_neg e])
      have O := fun i (i0 : 0 ≤ i) => obt_upd h.lo ht i0 (offO (obt st t))
      refine ⟨_, _, ?_, ?_, ⟨h', iw, T.thr h ht k5 (x := offO (obt st t)) k5 owg.symm rfl on'.symm (.inr ⟨s4, by omega, .inl rfl⟩), E.upd h ht (fun z => by have : (obt st t).Kind = 3 := z; omega)⟩, ⟨fun i i0 => ?_, rfl, rfl, rfl⟩, ?_, ?_, fun i i0 i1 ki => ?_⟩
      · rw [decide_eq_false on, cond_false, Option.bind_some]
        simp only []
        rw [off_tail h.lo ht, off_eq owg]
      · rw [runB, state_fv h hv ht k5, Option.bind_some]
        simp only [e4, runC, cond_false, if_neg on]
        exact off_run gv t
      · rw [O i i0]; split
        · rename_i e; rw [e]; rfl
        · rfl
      · rw [O t ht.1, if_pos rfl]; rfl
      · rw [O t ht.1, if_pos rfl]; rfl
      · rw [O i i0, if_neg (fun e => ki (by rw [e]; exact k5))]
        exact ⟨rfl, rfl, rfl⟩
end Go.Proofs
/-! A notification is waited for, of which there is none; what stays. -/
set_option linter.unusedVariables false
namespace Go.Proofs
open Go.Sl
/-- No notification is there. -/
def N0 (st : ref10_State) : Prop := ∀ i, 0 ≤ i → i < 32 → (obt st i).Kind = 4 → (obt st i).Word = 0
/-- CNodes lie within the slots. -/
def CN (st : ref10_State) : Prop := ∀ i, 0 ≤ i → i < 32 → (obt st i).Kind = 2 → (obt st i).First ≤ 96 - 2 ^ (obt st i).Radix.toNat
theorem N0.of {st st' : ref10_State} (n : N0 st) (K : KS st st') (w : Fx st st') : N0 st' := fun i i0 i1 k => by
  rw [K.k i i0] at k; rw [(w i i0 i1 (by omega)).1]; exact n i i0 i1 k
theorem CN.of {st st' : ref10_State} (n : CN st) (K : KS st st') (w : Fx st st') : CN st' := fun i i0 i1 k => by
  rw [K.k i i0] at k; obtain ⟨_, w1, w2⟩ := w i i0 i1 (by omega); rw [w1, w2]; exact n i i0 i1 k
theorem n_there {t : Int} (ht : 0 ≤ t ∧ t < 32) : ntfn_there.f t = some true := by
  unfold ntfn_there.f
  rw [obj_ok, if_pos ⟨ht.1, ht.2, by decide, by decide⟩]; rfl
theorem wait0_pl {st : ref10_State} {v : List Int} (S : ES st v) (n0 : N0 st) {o t : Int} (ho : 0 ≤ o ∧ o < 32) (k4 : (obt st o).Kind = 4) (ht : 0 ≤ t ∧ t < 32) (k5 : (obt st t).Kind = 5) (rdy : (obt st t).State = 1) :
    ∃ st' v', ref10_State_Wait.f st o t = some (0, false, st') ∧ VM.run plainI (ntfn_Wait.f o t) v = some ((⟨0, 0, 0⟩, false, none), v') ∧ ES st' v' ∧ KS st st' ∧ Fx st st' := by
  obtain ⟨h, hv, T, E⟩ := S
  obtain ⟨on, owg⟩ := T.ready h ht k5 (.inl rdy)
  have gv := (hv.good h).1
  have w0 := n0 o ho.1 ho.2 k4
  obtain ⟨c, iw⟩ := block_pl h hv ho (.inr k4) ht k5 on owg (x := 5) (by decide)
  have hr := queue_rg h ho.1 ho.2
  have hl := nodup_len 32 (h.nodq o ho.1 ho.2) hr
  have hne : o ≠ t := c.ne h
  have f1 : fld v o 1 = 0 := by rw [fv_o h hv ho (.inr k4) (by decide) (by decide) (by decide), own4 k4]; exact w0
  have K : KS st (upd (upd st o { obt st o with Queue := (obt st o).Queue ++ [t] }) t (blockO (obt st t) 5 o)) := ⟨fun i i0 => c.kind h i i0, rfl, rfl, rfl⟩
  refine ⟨_, _, ?_, ?_, ⟨c.wf h, iw, T.two h c rfl rfl (by omega) (by show (5 : Int) ≠ 4; decide) (fun z => by have : o = -1 := z; omega) (fun _ => .inr (.inr ⟨k4, rfl⟩)) (.inl rfl), fun i i0 i1 ki qi => ?_⟩, K, fun i i0 i1 ki => ?_⟩
  · unfold ref10_State_Wait.f
    rw [at_ob h.lo ho, Option.bind_some, w0]
    simp only [beq_self_eq_true, cond_true]
    rw [block_st h.lo ho ht hne (by omega) 5, Option.bind_some]
  · unfold ntfn_Wait.f ntfn_word.f
    have eb : band .i64 (0 : Int) 65535 = 0 := by decide
    rw [runB, runO, n_there ho, Option.map_some, Option.bind_some, Bool.not_true, runB, cond_false, runB, runO, n_there ht, Option.map_some, Option.bind_some]
    simp only [runR, Bool.not_true, Option.bind_some, cond_false]
    rw [runB, runB, field_ok gv, f1, Option.bind_some]
    simp only [runR, eb, Option.bind_some, beq_self_eq_true, cond_true]
    rw [runB, block_ok gv ho ht (by decide), Option.bind_some]
    rfl
  · rw [c.obt h i i0] at ki qi ⊢
    by_cases e : i = t
    · rw [if_pos e] at ki; have : (obt st t).Kind = 3 := ki; omega
    · rw [if_neg e] at ki qi ⊢
      by_cases e2 : i = o
      · rw [if_pos e2] at ki; have : (obt st o).Kind = 3 := ki; omega
      · rw [if_neg e2] at ki qi ⊢; exact E i i0 i1 ki qi
  · rw [c.obt h i i0, if_neg (fun e => by rw [e, k5] at ki; omega)]
    by_cases e2 : i = o
    · rw [if_pos e2, e2]; exact ⟨rfl, rfl, rfl⟩
    · rw [if_neg e2]; exact ⟨rfl, rfl, rfl⟩
theorem SendA.fx {st st' : ref10_State} {ep t w b r : Int} {call is : Bool} {l : List Int} (A : SendA st st' ep t w b call is r l) (kr : (obt st r).Kind = 5) (kt : (obt st t).Kind = 5) : Fx st st' := fun i i0 i1 k => by
  rw [A.o i i0, if_neg (fun e => by rw [e, kr] at k; omega), if_neg (fun e => by rw [e.1, kt] at k; omega)]
  split
  · rename_i e; rw [e]; exact ⟨rfl, rfl, rfl⟩
  · exact ⟨rfl, rfl, rfl⟩
theorem SendB.fx {st st' : ref10_State} {ep t w b : Int} {call is : Bool} (B : SendB st st' ep t w b call is) (kt : (obt st t).Kind = 5) : Fx st st' := fun i i0 i1 k => by
  rw [B.o i i0, if_neg (fun e => by rw [e, kt] at k; omega)]
  split
  · rename_i e; rw [e]; exact ⟨rfl, rfl, rfl⟩
  · exact ⟨rfl, rfl, rfl⟩
theorem RecvA.fx {st st' : ref10_State} {ep t m x : Int} {rp : api_Reply} {is : Bool} {l : List Int} (A : RecvA st st' ep t rp is m x l) (kx : (obt st x).Kind = 5) (kt : (obt st t).Kind = 5) : Fx st st' := fun i i0 i1 k => by
  rw [A.o i i0, if_neg (fun e => by rw [e, kx] at k; omega), if_neg (fun e => by rw [e.1, kt] at k; omega)]
  split
  · rename_i e; rw [e]; exact ⟨rfl, rfl, rfl⟩
  · exact ⟨rfl, rfl, rfl⟩
theorem RecvB.fx {st st' : ref10_State} {ep t m : Int} {rp : api_Reply} {is : Bool} (B : RecvB st st' ep t rp is m) (kt : (obt st t).Kind = 5) : Fx st st' := fun i i0 i1 k => by
  rw [B.o i i0, if_neg (fun e => by rw [e, kt] at k; omega)]
  split
  · rename_i e; rw [e]; exact ⟨rfl, rfl, rfl⟩
  · exact ⟨rfl, rfl, rfl⟩
theorem AnsA.fx {st st' : ref10_State} {t w c : Int} (A : AnsA st st' t w c) (kt : (obt st t).Kind = 5) : Fx st st' := fun i i0 i1 k => by
  rw [A.o i i0, if_neg (fun e => by rw [e, A.kc] at k; omega), if_neg (fun e => by rw [e, kt] at k; omega)]
  exact ⟨rfl, rfl, rfl⟩
theorem Fx.refl (st : ref10_State) : Fx st st := fun _ _ _ _ => ⟨rfl, rfl, rfl⟩
theorem q_kind {st : ref10_State} (h : WF st) {ep r : Int} {l : List Int} (he : 0 ≤ ep ∧ ep < 32) (hq : (obt st ep).Queue = r :: l) : (obt st r).Kind = 5 := (h.que ep he.1 he.2 r (by rw [hq]; exact List.mem_cons_self)).2.2.1
end Go.Proofs
/-! Packing and unpacking, plainly. -/
namespace Go.Proofs
open Go.Sl
theorem upto16 {P : Nat → Prop} {n : Nat} (h : n ≤ 16) (h0 : P 0) (h1 : P 1) (h2 : P 2) (h3 : P 3) (h4 : P 4) (h5 : P 5) (h6 : P 6) (h7 : P 7) (h8 : P 8) (h9 : P 9) (h10 : P 10) (h11 : P 11) (h12 : P 12) (h13 : P 13) (h14 : P 14) (h15 : P 15) (h16 : P 16) : P n := by
  have : n = 0 ∨ n = 1 ∨ n = 2 ∨ n = 3 ∨ n = 4 ∨ n = 5 ∨ n = 6 ∨ n = 7 ∨ n = 8 ∨ n = 9 ∨ n = 10 ∨ n = 11 ∨ n = 12 ∨ n = 13 ∨ n = 14 ∨ n = 15 ∨ n = 16 := by omega
  rcases this with rfl | rfl | rfl | rfl | rfl | rfl | rfl | rfl | rfl | rfl | rfl | rfl | rfl | rfl | rfl | rfl | rfl <;> assumption
theorem cond_some {α : Type} (c : Bool) (a b : α) : (bif c then some a else some b) = some (bif c then a else b) := by cases c <;> rfl
theorem cond_or (c a b : Bool) : (bif c then a else b) = ((c && a) || (!c && b)) := by cases c <;> simp
theorem may_pack (c : api_Cap) : ∃ b, pack_May.f c = some b ∧ (b = true ↔ CapMay c) := by
  unfold pack_May.f CapMay
  simp only [pack_May_1.f, Option.bind_some]
  obtain ⟨K, R, O, B, G, T⟩ := c
  simp only
  by_cases h5 : 0 ≤ T ∧ T ≤ 8
  · obtain ⟨n, rfl⟩ := Int.eq_ofNat_of_zero_le h5.1
    have hp := pow_lo n
    have hp2 := pow_le (show n ≤ 8 by omega)
    rw [bshl_i64 n (by omega) (by omega) (by omega), Int.one_mul]
    rw [show ((n : Int)).toNat = n by simp]
    generalize (2 : Int) ^ n = p at *
    rw [w64_id (by omega) (by omega)]
    have hc : chk (decide (0 ≤ (n : Int))) = some () := by simp [chk]
    simp only [hc, Option.bind_some, cond_some]
    refine ⟨_, rfl, ?_⟩
    simp only [Bool.cond_true_left, Bool.cond_false_left]
    simp only [cond_or]
    simp only [Bool.or_eq_true, Bool.and_eq_true, Bool.not_eq_true', decide_eq_true_eq, Bool.and_eq_false_iff, Bool.not_eq_false', decide_eq_false_iff_not, beq_iff_eq, bne_iff_ne, Bool.false_eq_true, reduceCtorEq, api_Cap.mk.injEq, Bool.or_eq_false_iff, beq_eq_false_iff_ne, bne_eq_false_iff_eq, ne_eq]
    omega
  · refine ⟨false, ?_, ?_⟩
    · have h6 : (decide (0 ≤ T) && decide (T ≤ 8)) = false := by simpa using h5
      by_cases hk : K = 0
      · have : ¬ ((⟨K, R, O, B, G, T⟩ : api_Cap) = ⟨0, 0, 0, 0, 0, 0⟩) := by
          simp only [api_Cap.mk.injEq]; omega
        simp [hk] at this ⊢
        omega
      · simp only [h6, Option.bind_some, cond_some]
        simp [hk]
    · simp only [Bool.false_eq_true, false_iff]; omega
theorem packPut_ok {k : Nat} {c : api_Cap} (h : CapMay c) : pack_Put.f (k + 40) c = some (capWord c, none) := by
  obtain ⟨b, hb, hb2⟩ := may_pack c
  have hg := guard_lt h
  rw [hb2.2 h] at hb
  unfold pack_Put.f
  rw [hb]
  obtain ⟨h1, h2, h3, h4, h5, h6, h7, h8, h9, h10, -, -, -, h14, h15⟩ := h
  obtain ⟨K, R, O, B, G, T⟩ := c
  simp only at *
  have e0 : bor .u64 0 (bshl .u64 (wu64 K) 0) = K := by
    rw [wu64_id (by omega) (by omega), show (0 : Int) = ((0 : Nat) : Int) from rfl, bshl_u64 0 (by omega) (by omega) (by omega)]
    rw [show ((0 : Nat) : Int) = 0 from rfl]
    rw [bor_add_u64 0 (by omega) (by omega) (by omega) (by omega) (by omega)]
    omega
  have e1 : bor .u64 K (bshl .u64 (wu64 R) 4) = K + R * 2 ^ 4 := by
    rw [wu64_id (by omega) (by omega), show (4 : Int) = ((4 : Nat) : Int) from rfl, bshl_u64 4 (by omega) (by omega) (by omega), bor_add_u64 4 (by omega) (by omega) (by omega) (by omega) (by omega)]
  have e2 : bor .u64 (K + R * 2 ^ 4) (bshl .u64 (wu64 O) 7) = K + R * 2 ^ 4 + O * 2 ^ 7 := by
    rw [wu64_id (by omega) (by omega), show (7 : Int) = ((7 : Nat) : Int) from rfl, bshl_u64 7 (by omega) (by omega) (by omega), bor_add_u64 7 (by omega) (by omega) (by omega) (by omega) (by omega)]
  have e3 : bor .u64 (K + R * 2 ^ 4 + O * 2 ^ 7) (bshl .u64 (wu64 B) 12) = K + R * 2 ^ 4 + O * 2 ^ 7 + B * 2 ^ 12 := by
    rw [wu64_id (by omega) (by omega), show (12 : Int) = ((12 : Nat) : Int) from rfl, bshl_u64 12 (by omega) (by omega) (by omega), bor_add_u64 12 (by omega) (by omega) (by omega) (by omega) (by omega)]
  have e4 : bor .u64 (K + R * 2 ^ 4 + O * 2 ^ 7 + B * 2 ^ 12) (bshl .u64 (wu64 T) 28) = K + R * 2 ^ 4 + O * 2 ^ 7 + B * 2 ^ 12 + T * 2 ^ 28 := by
    rw [wu64_id (by omega) (by omega), show (28 : Int) = ((28 : Nat) : Int) from rfl, bshl_u64 28 (by omega) (by omega) (by omega), bor_add_u64 28 (by omega) (by omega) (by omega) (by omega) (by omega)]
  have e5 : bor .u64 (K + R * 2 ^ 4 + O * 2 ^ 7 + B * 2 ^ 12 + T * 2 ^ 28) (bshl .u64 (wu64 G) 32) = K + R * 2 ^ 4 + O * 2 ^ 7 + B * 2 ^ 12 + T * 2 ^ 28 + G * 2 ^ 32 := by
    rw [wu64_id (by omega) (by omega), show (32 : Int) = ((32 : Nat) : Int) from rfl, bshl_u64 32 (by omega) (by omega) (by omega), bor_add_u64 32 (by omega) (by omega) (by omega) (by omega) (by omega)]
  have q : ∀ x y : Int, x = y → 0 ≤ y → y < 100 → w64 x = y := fun x y h _ _ => by subst h; exact w64_id (by omega) (by omega)
  have stp : ∀ (n : Nat) (i x s a b i' x' s' : Int), at_ [4, 3, 5, 16, 4, 8] i = some a → at_ [K, R, O, B, T, G] i = some b → decide (i < 6) = true → 0 ≤ s → i + 1 = i' → 0 ≤ i' → i' < 100 → s + a = s' → 0 ≤ s' → s' < 100 → bor .u64 x (bshl .u64 (wu64 b) s) = x' →
      pack_Put.l1 ⟨K, R, O, B, G, T⟩ [4, 3, 5, 16, 4, 8] (n + 1) (i, x, s) = pack_Put.l1 ⟨K, R, O, B, G, T⟩ [4, 3, 5, 16, 4, 8] n (i', x', s') := by
    intro n i x s a b i' x' s' h1 h2 h3 h4 h5 h6 h7 h8 h9 h10 h11
    have h12 : decide (i < (([4, 3, 5, 16, 4, 8] : List Int).length : Int)) = true := h3
    conv => lhs; unfold pack_Put.l1
    simp only [h12, h1, h2, Option.bind_some, cond_true, chk, decide_eq_true h4, q _ _ h5 h6 h7, q _ _ h8 h9 h10, h11]
  have hA : pack_Put.l1 ⟨K, R, O, B, G, T⟩ [4, 3, 5, 16, 4, 8] (k + 40) (0, 0, 0) = some (K + R * 2 ^ 4 + O * 2 ^ 7 + B * 2 ^ 12 + T * 2 ^ 28 + G * 2 ^ 32) := by
    refine (stp (k + 39) 0 0 0 4 K 1 _ 4 rfl rfl rfl (by decide) rfl (by decide) (by decide) rfl (by decide) (by decide) e0).trans ?_
    refine (stp (k + 38) 1 _ 4 3 R 2 _ 7 rfl rfl rfl (by decide) rfl (by decide) (by decide) rfl (by decide) (by decide) e1).trans ?_
    refine (stp (k + 37) 2 _ 7 5 O 3 _ 12 rfl rfl rfl (by decide) rfl (by decide) (by decide) rfl (by decide) (by decide) e2).trans ?_
    refine (stp (k + 36) 3 _ 12 16 B 4 _ 28 rfl rfl rfl (by decide) rfl (by decide) (by decide) rfl (by decide) (by decide) e3).trans ?_
    refine (stp (k + 35) 4 _ 28 4 T 5 _ 32 rfl rfl rfl (by decide) rfl (by decide) (by decide) rfl (by decide) (by decide) e4).trans ?_
    refine (stp (k + 34) 5 _ 32 8 G 6 _ 40 rfl rfl rfl (by decide) rfl (by decide) (by decide) rfl (by decide) (by decide) e5).trans ?_
    unfold pack_Put.l1
    rfl
  simp only [pack_widths.f, Option.bind_some, Bool.not_true, cond_false, hA, capWord]
theorem packPut_no {k : Nat} {c : api_Cap} (h : ¬ CapMay c) : pack_Put.f (k + 40) c = some (0, some 1) := by
  obtain ⟨b, hb, hb2⟩ := may_pack c
  have : b = false := by cases b <;> simp_all
  subst this
  unfold pack_Put.f
  rw [hb]; rfl
open Classical in
theorem packGet_ok {k : Nat} {w : Int} (h0 : 0 ≤ w) (h1 : w ≤ 18446744073709551615) : pack_Get.f (k + 40) w = some (if w / 2 ^ 4 / 2 ^ 3 / 2 ^ 5 / 2 ^ 16 / 2 ^ 4 / 2 ^ 8 = 0 ∧ CapMay (capOf w) then (capOf w, none) else (⟨0, 0, 0, 0, 0, 0⟩, some 1)) := by
  have q : ∀ x y : Int, x = y → 0 ≤ y → y < 100 → w64 x = y := fun x y h _ _ => by subst h; exact w64_id (by omega) (by omega)
  have stp : ∀ (n : Nat) (i x i' : Int) (m : Nat) (acc : List Int), at_ [4, 3, 5, 16, 4, 8] i = some (m : Int) → decide (i < 6) = true → 0 ≤ x → x ≤ 18446744073709551615 → m < 17 → i + 1 = i' → 0 ≤ i' → i' < 100 → acc.length < 10 →
      pack_Get.l1 [4, 3, 5, 16, 4, 8] (n + 1) (i, x, acc) = pack_Get.l1 [4, 3, 5, 16, 4, 8] n (i', x / 2 ^ m, acc ++ [x % 2 ^ m]) := by
    intro n i x i' m acc h1 h3 h4 h4b h5 h6 h7 h8 h9
    have h12 : decide (i < (([4, 3, 5, 16, 4, 8] : List Int).length : Int)) = true := h3
    have hm := pow_lo m
    have hm2 := pow_le (show m ≤ 17 by omega)
    have hx : x % 2 ^ m < 2 ^ m := Int.emod_lt_of_pos _ (by omega)
    have hx0 : 0 ≤ x % 2 ^ m := Int.emod_nonneg _ (by omega)
    have hmask : wu64 (bshl .u64 1 (m : Int) - 1) = 2 ^ m - 1 := by
      rw [bshl_u64 m (by omega) (by omega) (by omega), Int.one_mul]
      exact wu64_id (by omega) (by omega)
    have happ : app acc [x % 2 ^ m] = some (acc ++ [x % 2 ^ m]) := by
      unfold app
      have : decide (acc.length + [x % 2 ^ m].length ≤ 4294967296) = true := by simp; omega
      rw [this]; rfl
    conv => lhs; unfold pack_Get.l1
    simp only [h12, h1, Option.bind_some, cond_true, chk, decide_eq_true (show (0 : Int) ≤ (m : Int) by omega), hmask, band_mod_u64 m (by omega) h4 (by omega), w64_id (x := x % 2 ^ m) (by omega) (by omega), happ, q _ _ h6 h7 h8, bshr_nn (k := .u64) m (by show m ≤ 64; omega) h4]
  have hA : pack_Get.l1 [4, 3, 5, 16, 4, 8] (k + 40) (0, w, []) = some ([w % 2 ^ 4, w / 2 ^ 4 % 2 ^ 3, w / 2 ^ 4 / 2 ^ 3 % 2 ^ 5, w / 2 ^ 4 / 2 ^ 3 / 2 ^ 5 % 2 ^ 16, w / 2 ^ 4 / 2 ^ 3 / 2 ^ 5 / 2 ^ 16 % 2 ^ 4, w / 2 ^ 4 / 2 ^ 3 / 2 ^ 5 / 2 ^ 16 / 2 ^ 4 % 2 ^ 8], w / 2 ^ 4 / 2 ^ 3 / 2 ^ 5 / 2 ^ 16 / 2 ^ 4 / 2 ^ 8) := by
    refine (stp (k + 39) 0 _ 1 4 _ rfl (by decide) (by omega) (by omega) (by decide) rfl (by decide) (by decide) (by simp)).trans ?_
    refine (stp (k + 38) 1 _ 2 3 _ rfl (by decide) (by omega) (by omega) (by decide) rfl (by decide) (by decide) (by simp)).trans ?_
    refine (stp (k + 37) 2 _ 3 5 _ rfl (by decide) (by omega) (by omega) (by decide) rfl (by decide) (by decide) (by simp)).trans ?_
    refine (stp (k + 36) 3 _ 4 16 _ rfl (by decide) (by omega) (by omega) (by decide) rfl (by decide) (by decide) (by simp)).trans ?_
    refine (stp (k + 35) 4 _ 5 4 _ rfl (by decide) (by omega) (by omega) (by decide) rfl (by decide) (by decide) (by simp)).trans ?_
    refine (stp (k + 34) 5 _ 6 8 _ rfl (by decide) (by omega) (by omega) (by decide) rfl (by decide) (by decide) (by simp)).trans ?_
    unfold pack_Get.l1
    rfl
  obtain ⟨b, hb, hb2⟩ := may_pack (capOf w)
  unfold capOf at hb
  unfold pack_Get.f
  simp only [pack_widths.f, Option.bind_some, hA]
  simp only [at_, Int.le_refl, decide_true, cond_true, List.getElem?_cons_zero, Int.toNat_zero, Option.bind_some, show decide ((0 : Int) ≤ 1) = true from rfl, show decide ((0 : Int) ≤ 2) = true from rfl, show decide ((0 : Int) ≤ 3) = true from rfl, show decide ((0 : Int) ≤ 4) = true from rfl, show decide ((0 : Int) ≤ 5) = true from rfl,
    show (1 : Int).toNat = 1 from rfl, show (2 : Int).toNat = 2 from rfl, show (3 : Int).toNat = 3 from rfl, show (4 : Int).toNat = 4 from rfl, show (5 : Int).toNat = 5 from rfl, List.getElem?_cons_succ, hb]
  generalize hr : w / 2 ^ 4 / 2 ^ 3 / 2 ^ 5 / 2 ^ 16 / 2 ^ 4 / 2 ^ 8 = r
  cases b with
  | false =>
    have hn : ¬ CapMay (capOf w) := fun h => by simpa using hb2.2 h
    rw [if_neg (fun h => hn h.2)]
    by_cases hr0 : r = 0 <;> simp [hr0]
  | true =>
    have hy : CapMay (capOf w) := hb2.1 rfl
    by_cases hr0 : r = 0
    · rw [if_pos ⟨hr0, hy⟩]; simp [hr0, capOf]
    · rw [if_neg (fun h => hr0 h.1)]
      have : (r != 0) = true := by simpa using hr0
      simp only [this, cond_true, Option.bind_some]
end Go.Proofs
/-! What may be a capability, for the reference. -/
set_option linter.unusedVariables false
namespace Go.Proofs
open Go.Sl
set_option maxRecDepth 100000 in
theorem two_ok (k : Nat) {n : Int} (h0 : 0 ≤ n) (h : n ≤ 16) : ref01_two.f (k + 40) n = some (2 ^ n.toNat) := by
  rcases (by omega : n = 0 ∨ n = 1 ∨ n = 2 ∨ n = 3 ∨ n = 4 ∨ n = 5 ∨ n = 6 ∨ n = 7 ∨ n = 8 ∨ n = 9 ∨ n = 10 ∨ n = 11 ∨ n = 12 ∨ n = 13 ∨ n = 14 ∨ n = 15 ∨ n = 16) with rfl | rfl | rfl | rfl | rfl | rfl | rfl | rfl | rfl | rfl | rfl | rfl | rfl | rfl | rfl | rfl | rfl <;> rfl
theorem may_ref (k : Nat) (c : api_Cap) : ∃ b, ref01_May.f (k + 40) c = some b ∧ (b = true ↔ CapMay c) := by
  unfold ref01_May.f CapMay
  simp only [ref01_in.f, Option.bind_some]
  obtain ⟨K, R, O, B, G, T⟩ := c
  simp only
  by_cases h5 : 0 ≤ T ∧ T ≤ 8
  · rw [two_ok k h5.1 (by omega)]
    generalize (2 : Int) ^ T.toNat = p
    simp only [Option.bind_some, Bool.cond_eq_ite]
    repeat' split
    all_goals refine ⟨_, rfl, ?_⟩
    all_goals simp only [Bool.or_eq_true, Bool.and_eq_true, Bool.not_eq_true', decide_eq_true_eq, Bool.and_eq_false_imp, decide_eq_false_iff_not, beq_iff_eq, bne_iff_ne, Bool.false_eq_true, true_iff, false_iff] at *
    all_goals omega
  · refine ⟨false, ?_, ?_⟩
    · have : (decide (0 ≤ T) && decide (T ≤ 8)) = false := by simpa using h5
      simp [this]
    · simp only [Bool.false_eq_true, false_iff]; omega
end Go.Proofs
/-! CNodes that may be walked. -/
set_option linter.unusedVariables false
namespace Go.Proofs
open Go.Sl
def Fine (s : List Int) (c : api_Cap) : Prop := c.Kind = 2 ∧ fld s c.Obj 0 = 2 ∧ fld s c.Obj 2 ≤ 5 ∧ fld s c.Obj 1 ≤ 96 - 2 ^ (fld s c.Obj 2).toNat
instance (s : List Int) (c : api_Cap) : Decidable (Fine s c) := inferInstanceAs (Decidable (_ ∧ _))
theorem two5 {n : Int} (h : 0 ≤ n) (h2 : n ≤ 5) : bshl .i64 1 n = 2 ^ n.toNat ∧ 1 ≤ (2 : Int) ^ n.toNat ∧ (2 : Int) ^ n.toNat ≤ 32 := by
  rcases (by omega : n = 0 ∨ n = 1 ∨ n = 2 ∨ n = 3 ∨ n = 4 ∨ n = 5) with rfl | rfl | rfl | rfl | rfl | rfl <;> decide
theorem fine_ok {s : List Int} (h : Good s) (c : api_Cap) : VM.run plainI (cspace_Fine.f c) s = some (decide (Fine s c), s) := by
  unfold cspace_Fine.f
  rw [runB, runC]
  by_cases h1 : c.Kind = 2
  · have e1 : (c.Kind != 2) = false := by simp [h1]
    rw [e1, cond_false, runB, is_ok h c.Obj 2 (by decide)]
    simp only [Option.bind_some, runR]
    by_cases h2 : fld s c.Obj 0 = 2
    · simp only [h2, decide_true, Bool.not_true, cond_false, runB, field_ok h, Option.bind_some, runC, runR]
      have h3 := fld_nn h c.Obj 2
      have h5 := fld_le s c.Obj 1
      have h6 := fld_nn h c.Obj 1
      by_cases h4 : fld s c.Obj 2 ≤ 5
      · obtain ⟨t1, t2, t3⟩ := two5 h3 h4
        simp only [decide_eq_true h4, cond_true, chk, decide_eq_true h3, runB, runO, Option.map_some, Option.bind_some, runR, t1]
        rw [w64_id (by omega) (by omega)]
        congr 2
        unfold Fine
        simp [h1, h2, h4]
      · simp only [decide_eq_false h4, cond_false]
        have : decide (Fine s c) = false := decide_eq_false (fun q => h4 q.2.2.1)
        rw [this]; rfl
    · have : decide (Fine s c) = false := decide_eq_false (fun q => h2 q.2.1)
      simp only [h2, decide_false, Bool.not_false, cond_true, this, runR]
  · have e1 : (c.Kind != 2) = true := by simpa using h1
    have : decide (Fine s c) = false := decide_eq_false (fun q => h1 q.1)
    rw [e1, cond_true, this]; rfl
end Go.Proofs
