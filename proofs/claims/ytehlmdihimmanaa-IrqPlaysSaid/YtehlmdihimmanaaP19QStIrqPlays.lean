/- Plain laws of what IrqPlays reaches, part P19QSt. On no condition. -/
import Derived.Test.YtehlmdihimmanaaP19SqIrqPlays
import Derived.Test.YtehlmdihimmanaaP19EndpIrqPlays
import Derived.Test.YtehlmdihimmanaaFnIrqPlays2
set_option linter.all false
/-! Blocking and waking, in the state and in the words. -/
set_option linter.unusedVariables false
namespace Go.Proofs
open Go.Sl
theorem Low.onTo {v s : List Int} (h : Low v s) (t x : Int) : Low v (onTo s t x) := h.put _ _ _
theorem Low.wakeTo {v s : List Int} (h : Low v s) (t w b : Int) : Low v (wakeTo s t w b) := (((h.put _ _ _).put _ _ _).put _ _ _).onTo _ _
theorem Low.pushTo {v s : List Int} (h : Low v s) (o t : Int) : Low v (pushTo s o t) := by
  unfold Go.Proofs.pushTo; split <;> exact ((h.put _ _ _).put _ _ _).put _ _ _
theorem Low.popTo {v s : List Int} (h : Low v s) (o t : Int) : Low v (popTo s o t) := by
  unfold Go.Proofs.popTo; simp only []; split
  · exact (((h.put _ _ _).put _ _ _).put _ _ _).put _ _ _
  · exact ((h.put _ _ _).put _ _ _)
theorem Low.blockTo {v s : List Int} (h : Low v s) (o t x : Int) : Low v (blockTo s o t x) := ((h.pushTo o t).put _ _ _).onTo _ _
theorem at_ob {st : ref10_State} (hl : st.Objs.length = 32) {a : Int} (ha : 0 ≤ a ∧ a < 32) : at_ st.Objs a = some (obt st a) := at_getD ha.1 (by rw [hl]; omega)
def wokeO (o : ref10_Obj) (w b : Int) : ref10_Obj := { o with State := 1, Word := w, Badge := b, On := -1 }
theorem wake_st {st : ref10_State} (hl : st.Objs.length = 32) {t : Int} (ht : 0 ≤ t ∧ t < 32) (w b : Int) : ref10_State_Wake.f st t w b = some (upd st t (wokeO (obt st t) w b)) := by
  unfold ref10_State_Wake.f
  have lt : t < (st.Objs.length : Int) := by rw [hl]; omega
  rw [at_ob hl ht, Option.bind_some, at_set ht.1 lt, if_pos rfl, Option.bind_some, List.set_set, at_set ht.1 lt, if_pos rfl, Option.bind_some, List.set_set, at_set ht.1 lt, if_pos rfl, Option.bind_some, List.set_set]
  rfl
theorem pop_nil {st : ref10_State} (hl : st.Objs.length = 32) {o : Int} (ho : 0 ≤ o ∧ o < 32) (hq : (obt st o).Queue = []) : ref10_State_pop.f st o = some (-1, st) := by
  unfold ref10_State_pop.f
  rw [at_ob hl ho, Option.bind_some, hq]; rfl
theorem pop_cons {st : ref10_State} (hl : st.Objs.length = 32) {o t : Int} {l : List Int} (ho : 0 ≤ o ∧ o < 32) (hq : (obt st o).Queue = t :: l) (hll : l.length ≤ 1000) : ref10_State_pop.f st o = some (t, upd st o { obt st o with Queue := l }) := by
  unfold ref10_State_pop.f
  have e : (((t :: l).length : Int) == 0) = false := by simp; omega
  have e1 : at_ (t :: l) 0 = some t := rfl
  have e2 : slcF (t :: l) 1 = some l := by
    unfold slcF
    have : (decide ((0 : Int) ≤ 1) && decide ((1 : Int) ≤ ((t :: l).length : Int))) = true := by simp; omega
    rw [this]; rfl
  have e3 : app ([] : List Int) l = some l := by
    unfold app
    rw [decide_eq_true (by simp; omega)]; rfl
  simp only [at_ob hl ho, Option.bind_some, hq, e, cond_false, e1, e2, e3]
  rfl
def blockO (o : ref10_Obj) (x on : Int) : ref10_Obj := { o with State := x, On := on }
theorem block_st {st : ref10_State} (hl : st.Objs.length = 32) {o t : Int} (ho : 0 ≤ o ∧ o < 32) (ht : 0 ≤ t ∧ t < 32) (hne : o ≠ t) (hq : (obt st o).Queue.length ≤ 1000) (x : Int) : ref10_State_Block.f st o t x = some (upd (upd st o { obt st o with Queue := (obt st o).Queue ++ [t] }) t (blockO (obt st t) x o)) := by
  unfold ref10_State_Block.f
  have lo : o < (st.Objs.length : Int) := by rw [hl]; omega
  have lt : t < (st.Objs.length : Int) := by rw [hl]; omega
  have e3 : app ([] : List Int) (obt st o).Queue = some (obt st o).Queue := by
    unfold app
    rw [decide_eq_true (by simp; omega)]; rfl
  have e4 : app (obt st o).Queue [t] = some ((obt st o).Queue ++ [t]) := by
    unfold app
    rw [decide_eq_true (by simp; omega)]; rfl
  rw [at_ob hl ho, Option.bind_some, e3, Option.bind_some, e4, Option.bind_some, Option.bind_some, at_set ho.1 lo, if_neg (fun z => hne z.symm), at_ob hl ht, Option.bind_some, at_set ht.1 (by rw [List.length_set]; exact lt), if_pos rfl, Option.bind_some, List.set_set]
  rfl
section
variable {st : ref10_State} {v : List Int} (h : WF st) (hv : IsW st v)
include h hv
theorem fv_t {t : Int} (ht : 0 ≤ t ∧ t < 32) (hk : (obt st t).Kind = 5) {f : Int} (hf : 0 ≤ f ∧ f < 8) (hc : f ≠ 2 ∨ (obt st t).On = -1) : fld v t f = own (obt st t) f := by
  rw [hv.fv h ht hf, ob_t h ht hk, if_neg]
  rintro ⟨a, b⟩
  rcases hc with z | z
  · exact z a
  · omega
omit h hv in
theorem fv_o {st : ref10_State} (h : WF st) {v : List Int} (hv : IsW st v) {o : Int} (ho : 0 ≤ o ∧ o < 32) (hk : (obt st o).Kind = 3 ∨ (obt st o).Kind = 4) {f : Int} (hf : 0 ≤ f ∧ f < 8) (h2 : f ≠ 2) (h3 : f ≠ 3) : fld v o f = own (obt st o) f := by
  rw [hv.fv h ho hf, ob_q hk, if_neg h2, if_neg h3]
/-- The first one is woken: its queue's object may change its first word besides. -/
theorem popwake_pl {o t : Int} {l : List Int} (ho : 0 ≤ o ∧ o < 32) (hk : (obt st o).Kind = 3 ∨ (obt st o).Kind = 4) (hq : (obt st o).Queue = t :: l) {w b : Int} (hw : 0 ≤ w ∧ w ≤ 1000000000000) (hb : 0 ≤ b ∧ b ≤ 1000000000000) :
    QCh st o t { obt st o with Queue := l } (wokeO (obt st t) w b) ∧ IsW (upd (upd st o { obt st o with Queue := l }) t (wokeO (obt st t) w b)) (wakeTo (popTo v o t) t w b) := by
  have hm : t ∈ (obt st o).Queue := by rw [hq]; exact List.mem_cons_self
  obtain ⟨t0, t1, k5, on, owg⟩ := h.que o ho.1 ho.2 t hm
  have hnd := h.nodq o ho.1 ho.2
  rw [hq] at hnd
  have hnd2 := List.nodup_cons.1 hnd
  have wt := h.obj t t0 t1
  have c : QCh st o t { obt st o with Queue := l } (wokeO (obt st t) w b) := {
    ho := ho, ht := ⟨t0, t1⟩, ko := hk, kt := k5, wo := { h.obj o ho.1 ho.2 with }, ko' := rfl, kt' := k5, qt := noq h ⟨t0, t1⟩ (by omega), nd := hnd2.2
    wt := { wt with word := hw, badge := hb, state := by show (0 : Int) ≤ 1 ∧ (1 : Int) ≤ 6; decide, on := by show (-1 : Int) ≤ -1 ∧ (-1 : Int) < 32; decide }
    mem := fun y hy => by rw [hq]; exact ⟨List.mem_cons_of_mem _, fun z => by rcases List.mem_cons.1 z with q | q; exact absurd q hy; exact q⟩
    mt := ⟨fun z => absurd z hnd2.1, fun z => by have : (-1 : Int) = o := z; omega⟩
    on := .inr rfl
    ow := fun z => by have : (-1 : Int) = o := z; omega
    was := .inr on }
  refine ⟨c, ?_⟩
  have hne := c.ne h
  have gv := (hv.good h).1
  have iq := hv.isq h ho hk
  rw [hq] at iq
  have hr : ∀ x ∈ t :: l, 0 ≤ x ∧ x < 32 := fun x hx => by rw [← hq] at hx; exact queue_rg h ho.1 ho.2 x hx
  have hol : o ∉ t :: l := fun z => by rw [← hq] at z; have := (h.que o ho.1 ho.2 o z).2.2.1; omega
  have gp := good_popTo gv o t
  have P := fld_popTo gv iq ho hr (fun z => hne z.symm)
  have W := fld_wakeTo gp (w := w) (b := b) (t := t) (by omega) (by omega) ⟨t0, t1⟩
  refine c.isw h hv (((Low.refl hv.len).popTo o t).wakeTo t w b) (sm_wakeTo (sm_popTo (hv.sm h) _ _) (by omega) (by omega)) ((iq.pop gv ho hr hol hnd).wake gp (by omega) (by omega) ⟨t0, t1⟩ (fun z => hne z.symm)) (fun i f io it i0 i1 f0 f1 hc => ?_) (fun f f0 f1 e2 e3 => ?_) (fun f f0 f1 hc => ?_)
  · rw [W, if_neg (by omega), if_neg (by omega), if_neg (by omega), if_neg (by omega), P, if_neg (by omega), if_neg (by omega), if_neg (by omega)]
  · rw [W, if_neg (by omega), if_neg (by omega), if_neg (by omega), if_neg (by omega), P, if_neg (by omega), if_neg (by omega), if_neg (by omega), fv_o h hv ho hk ⟨f0, f1⟩ e2 e3]
    rcases hk with k | k
    · rw [own3 k, own3 (o := { obt st o with Queue := l }) k]
    · rw [own4 k, own4 (o := { obt st o with Queue := l }) k]
  · rw [W, own5 (o := wokeO (obt st t) w b) k5]
    have e5 := fv_t h hv ⟨t0, t1⟩ k5 (f := 5) (by decide) (.inl (by decide))
    rw [own5 k5] at e5
    have hp := wt.prio
    by_cases f1 : f = 1
    · subst f1; rw [if_pos ⟨rfl, rfl⟩, if_neg (by decide), if_pos rfl]; rfl
    · rw [if_neg (fun z => f1 z.2)]
      by_cases f3 : f = 3
      · subst f3; rw [if_pos ⟨rfl, rfl⟩, if_neg (by decide), if_neg (by decide), if_neg (by decide), if_pos rfl]; rfl
      · rw [if_neg (fun z => f3 z.2)]
        by_cases f4 : f = 4
        · subst f4; rw [if_pos ⟨rfl, rfl⟩, if_neg (by decide), if_neg (by decide), if_neg (by decide), if_neg (by decide), if_pos rfl]; rfl
        · rw [if_neg (fun z => f4 z.2)]
          by_cases f5 : f = 5
          · subst f5
            rw [if_pos ⟨rfl, rfl⟩, P, if_neg (by omega), if_neg (by omega), if_neg (by omega), e5]
            show ((obt st t).Prio + 256 * ((obt st t).On + 1)) % 256 = (obt st t).Prio + 256 * (-1 + 1)
            omega
          · rw [if_neg (fun z => f5 z.2), P, if_neg (fun z => hne z.1.symm), if_neg (fun z => hne z.2.1.symm)]
            by_cases f2 : f = 2
            · subst f2
              rw [if_pos ⟨rfl, rfl⟩, if_neg (by decide), if_neg (by decide), if_pos rfl]
              show 0 = (obt st t).Owing + 1
              omega
            · rw [if_neg (fun z => f2 z.2), fv_t h hv ⟨t0, t1⟩ k5 ⟨f0, by assumption⟩ (.inl f2), own5 k5]
              simp only [f1, f2, f3, f4, f5, if_false]
              rfl
/-- One is blocked. -/
theorem block_pl {o t : Int} (ho : 0 ≤ o ∧ o < 32) (hk : (obt st o).Kind = 3 ∨ (obt st o).Kind = 4) (ht : 0 ≤ t ∧ t < 32) (k5 : (obt st t).Kind = 5) (on : (obt st t).On = -1) (owg : (obt st t).Owing = -1) {x : Int} (hx : 0 ≤ x ∧ x ≤ 6) :
    QCh st o t { obt st o with Queue := (obt st o).Queue ++ [t] } (blockO (obt st t) x o) ∧ IsW (upd (upd st o { obt st o with Queue := (obt st o).Queue ++ [t] }) t (blockO (obt st t) x o)) (blockTo v o t x) := by
  obtain ⟨t0, t1⟩ := ht
  have htq : t ∉ (obt st o).Queue := fun z => by have := (h.que o ho.1 ho.2 t z).2.2.2.1; omega
  have hnd0 := h.nodq o ho.1 ho.2
  have hnd : ((obt st o).Queue ++ [t]).Nodup := by
    rw [List.nodup_append]
    refine ⟨hnd0, by simp, fun a ha b hb => ?_⟩
    rw [List.mem_singleton] at hb; subst hb
    intro e; subst e; exact htq ha
  have wt := h.obj t t0 t1
  have c : QCh st o t { obt st o with Queue := (obt st o).Queue ++ [t] } (blockO (obt st t) x o) := {
    ho := ho, ht := ⟨t0, t1⟩, ko := hk, kt := k5, wo := { h.obj o ho.1 ho.2 with }, ko' := rfl, kt' := k5, qt := noq h ⟨t0, t1⟩ (by omega), nd := hnd
    wt := { wt with state := hx, on := by show (-1 : Int) ≤ o ∧ o < 32; omega }
    mem := fun y hy => ⟨fun z => by rcases List.mem_append.1 z with q | q; exact q; exact absurd (List.mem_singleton.1 q) hy, fun z => List.mem_append_left _ z⟩
    mt := ⟨fun _ => rfl, fun _ => List.mem_append_right _ (List.mem_singleton.2 rfl)⟩
    on := .inl rfl
    ow := fun _ => owg
    was := .inl on }
  refine ⟨c, ?_⟩
  have hne := c.ne h
  have gv := (hv.good h).1
  have iq := hv.isq h ho hk
  have hr := queue_rg h ho.1 ho.2
  have hol : o ∉ (obt st o).Queue := fun z => by have := (h.que o ho.1 ho.2 o z).2.2.1; omega
  have P := fld_pushTo gv iq ho ⟨t0, t1⟩ hr
  have B := fld_blockTo gv (x := x) iq ho ⟨t0, t1⟩ (by omega) hr
  refine c.isw h hv ((Low.refl hv.len).blockTo o t x) (sm_blockTo (hv.sm h) t1 ho.2 (by omega)) (iq.block gv ho ⟨t0, t1⟩ (by omega) hr hol (fun z => hne z.symm) hnd) (fun i f io it i0 i1 f0 f1 hc => ?_) (fun f f0 f1 e2 e3 => ?_) (fun f f0 f1 hc => ?_)
  · rw [B, if_neg (by omega), if_neg (by omega), P, if_neg (by omega), if_neg (by omega), if_neg, if_neg (by omega)]
    rintro ⟨z1, z2⟩
    rcases hc with z | z
    · exact z z2
    · exact z (List.mem_append_left _ (List.mem_of_getLast? z1))
  · rw [B, if_neg (by omega), if_neg (by omega), P, if_neg (by omega), if_neg (by omega), if_neg (by omega), if_neg (by omega), fv_o h hv ho hk ⟨f0, f1⟩ e2 e3]
    rcases hk with k | k
    · rw [own3 k, own3 (o := { obt st o with Queue := (obt st o).Queue ++ [t] }) k]
    · rw [own4 k, own4 (o := { obt st o with Queue := (obt st o).Queue ++ [t] }) k]
  · have f2 : f ≠ 2 := by
      rcases hc with z | z
      · exact z
      · have : o = -1 := z; omega
    rw [B, own5 (o := blockO (obt st t) x o) k5]
    have e5 := fv_t h hv ⟨t0, t1⟩ k5 (f := 5) (by decide) (.inl (by decide))
    rw [own5 k5] at e5
    have hp := wt.prio
    by_cases e1 : f = 1
    · subst e1; rw [if_pos ⟨rfl, rfl⟩, if_neg (by decide), if_pos rfl]; rfl
    · rw [if_neg (fun z => e1 z.2)]
      by_cases f5 : f = 5
      · subst f5
        rw [if_pos ⟨rfl, rfl⟩, e5]
        show ((obt st t).Prio + 256 * ((obt st t).On + 1)) % 256 + 256 * (o + 1) = (obt st t).Prio + 256 * (o + 1)
        omega
      · rw [if_neg (fun z => f5 z.2), P, if_neg (fun z => hne z.1.symm), if_neg (fun z => f2 z.2.2), if_neg (fun z => f2 z.2), if_neg (fun z => f2 z.2), fv_t h hv ⟨t0, t1⟩ k5 ⟨f0, f1⟩ (.inl f2), own5 k5]
        simp only [e1, f2, f5, if_false]
        rfl
end
end Go.Proofs
