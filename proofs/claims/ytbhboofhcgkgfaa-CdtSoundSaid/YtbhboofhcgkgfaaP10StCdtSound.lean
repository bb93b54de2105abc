/- Plain laws of what CdtSound reaches, part P10St. On no condition. -/
import Derived.Test.YtbhboofhcgkgfaaP10IsWCdtSound
import Derived.Test.YtbhboofhcgkgfaaP10SmallCdtSound
set_option linter.all false
/-! Objects of a state that are changed, and their words. -/
set_option linter.unusedVariables false
namespace Go.Proofs
open Go.Sl
def upd (st : ref10_State) (a : Int) (x : ref10_Obj) : ref10_State := { st with Objs := st.Objs.set a.toNat x }
theorem getD_setD {α : Type} [Inhabited α] (l : List α) (a b : Nat) (v : α) : (l.set a v).getD b default = if a = b ∧ b < l.length then v else l.getD b default := by
  simp only [List.getD]
  by_cases e : a = b
  · subst e
    by_cases h : a < l.length
    · rw [List.getElem?_set_self h]; simp [h]
    · rw [List.getElem?_eq_none (by simpa using h), List.getElem?_eq_none (by omega)]; simp [h]
  · rw [List.getElem?_set_ne e]; simp [e]
theorem obt_upd {st : ref10_State} (hl : st.Objs.length = 32) {a i : Int} (ha : 0 ≤ a ∧ a < 32) (hi : 0 ≤ i) (x : ref10_Obj) : obt (upd st a x) i = if i = a then x else obt st i := by
  unfold obt upd
  simp only []
  rw [getD_setD]
  by_cases e : i = a
  · rw [if_pos (by omega), if_pos e]
  · rw [if_neg (by omega), if_neg e]
theorem obt_up2 {st : ref10_State} (hl : st.Objs.length = 32) {a i : Int} (ha : 0 ≤ a ∧ a < 32) (hi : 0 ≤ i) (x : ref10_Obj) : (st.Objs.set a.toNat x).getD i.toNat default = if i = a then x else obt st i := obt_upd hl ha hi x
theorem slt_upd (st : ref10_State) (a i : Int) (x : ref10_Obj) : slt (upd st a x) i = slt st i := rfl
theorem upd_len (st : ref10_State) (a : Int) (x : ref10_Obj) : (upd st a x).Objs.length = st.Objs.length := by simp [upd]
theorem upd_upd (st : ref10_State) (a : Int) (x y : ref10_Obj) : upd (upd st a x) a y = upd st a y := by unfold upd; simp
/-- An object changes, but not what it is, nor what waits. -/
theorem WF.upd {st : ref10_State} (h : WF st) {a : Int} (ha : 0 ≤ a ∧ a < 32) {x : ref10_Obj} (hx : OW x) (hk : x.Kind = (obt st a).Kind) (hq : x.Queue = (obt st a).Queue) (ho : x.On = (obt st a).On) (hw : x.Owing = (obt st a).Owing ∨ x.Kind = 5 ∧ x.On < 0 ∨ x.Kind ≠ 5) : WF (upd st a x) := by
  have O := fun i (hi : 0 ≤ i) => obt_upd h.lo ha hi x
  have e1 : ∀ i, 0 ≤ i → (obt (Go.Proofs.upd st a x) i).Kind = (obt st i).Kind := fun i hi => by rw [O i hi]; split <;> simp_all
  have e2 : ∀ i, 0 ≤ i → (obt (Go.Proofs.upd st a x) i).Queue = (obt st i).Queue := fun i hi => by rw [O i hi]; split <;> simp_all
  have e3 : ∀ i, 0 ≤ i → (obt (Go.Proofs.upd st a x) i).On = (obt st i).On := fun i hi => by rw [O i hi]; split <;> simp_all
  refine ⟨h.ls, by rw [upd_len]; exact h.lo, h.cap, h.par, h.kid, h.all, h.nodk, h.irr, fun i h0 h1 => ?_, fun i h0 h1 t ht => ?_, fun i h0 h1 hn => ?_, fun t h0 h1 k5 on => ?_, fun i h0 h1 => ?_, h.ns, h.no⟩
  · rw [O i h0]; split
    · exact hx
    · exact h.obj i h0 h1
  · rw [e2 i h0] at ht
    obtain ⟨y1, y2, y3, y4, y5⟩ := h.que i h0 h1 t ht
    refine ⟨y1, y2, by rw [e1 t y1]; exact y3, by rw [e3 t y1]; exact y4, ?_⟩
    rw [O t y1]; split
    · rename_i e; subst e
      rcases hw with z | z | z
      · rw [z]; exact y5
      · rw [ho, y4] at z; omega
      · rw [hk] at z; exact absurd y3 z
    · exact y5
  · rw [e2 i h0] at hn; rw [e1 i h0]; exact h.qk i h0 h1 hn
  · rw [e1 t h0] at k5; rw [e3 t h0] at on ⊢
    rw [e2 _ on]; exact h.onq t h0 h1 k5 on
  · rw [e2 i h0]; exact h.nodq i h0 h1
/-- An object's own words, behind a change. -/
theorem ob_upd {st : ref10_State} (h : WF st) {a : Int} (ha : 0 ≤ a ∧ a < 32) {x : ref10_Obj} (hq : x.Queue = (obt st a).Queue) {i f : Int} (hi : 0 ≤ i ∧ i < 32) : ob (upd st a x) i f = if i = a then (if f = 2 ∧ x.Kind = 5 ∧ 0 ≤ x.On then nextOf (obt st x.On).Queue a else if f = 2 ∧ (obt st a).Queue ≠ [] then hd (obt st a).Queue else if f = 3 ∧ (obt st a).Queue ≠ [] then la (obt st a).Queue else own x f) else ob st i f := by
  have O := fun i (hi : 0 ≤ i) => obt_upd h.lo ha hi x
  have e2 : ∀ i, 0 ≤ i → (obt (Go.Proofs.upd st a x) i).Queue = (obt st i).Queue := fun i hi => by rw [O i hi]; split <;> simp_all
  unfold ob
  rw [e2 i hi.1]
  by_cases e : i = a
  · subst e
    rw [if_pos rfl, O i hi.1, if_pos rfl]
    by_cases c : f = 2 ∧ x.Kind = 5 ∧ 0 ≤ x.On
    · rw [if_pos c, if_pos c, e2 _ c.2.2]
    · rw [if_neg c, if_neg c]
  · rw [if_neg e, O i hi.1, if_neg e]
    by_cases c : f = 2 ∧ (obt st i).Kind = 5 ∧ 0 ≤ (obt st i).On
    · rw [if_pos c, if_pos c, e2 _ c.2.2]
    · rw [if_neg c, if_neg c]
/-- Only words of objects differ. -/
def Low (v v' : List Int) : Prop := v'.length = 738 ∧ ∀ j : Nat, j < 480 ∨ 736 ≤ j → v'.getD j 0 = v.getD j 0
theorem Low.refl {v : List Int} (h : v.length = 738) : Low v v := ⟨h, fun _ _ => rfl⟩
theorem Low.put {v v' : List Int} (h : Low v v') (i f n : Int) : Low v (put v' i f n) := by
  refine ⟨by rw [put_len]; exact h.1, fun j hj => ?_⟩
  unfold Go.Proofs.put
  split
  · rename_i c
    have c := c.1
    unfold InObj at c
    rw [getD_set, if_neg (by omega)]; exact h.2 j hj
  · exact h.2 j hj
theorem IsW.sm {st : ref10_State} (h : WF st) {v : List Int} (hv : IsW st v) : Sm v := by
  intro j
  by_cases q : j < 480
  · have e := hv.slot (j / 5 : Nat) (j % 5 : Nat) (by omega) (by omega) (by omega) (by omega)
    rw [show (5 * ((j / 5 : Nat) : Int) + ((j % 5 : Nat) : Int)).toNat = j by omega] at e
    rw [e]
    by_cases f0 : j % 5 = 0
    · rw [f0]
      exact (capWord_rg (h.cap (j / 5 : Nat) (by omega) (by omega))).2
    · have := sl_rg h (i := (j / 5 : Nat)) (f := (j % 5 : Nat)) (by omega) (by omega); omega
  · by_cases q2 : j < 736
    · have e := hv.obj ((j - 480) / 8 : Nat) ((j - 480) % 8 : Nat) (by omega) (by omega) (by omega) (by omega)
      rw [show (480 + 8 * (((j - 480) / 8 : Nat) : Int) + (((j - 480) % 8 : Nat) : Int)).toNat = j by omega] at e
      rw [e]; exact (ob_rg h (by omega) (by omega)).2
    · by_cases q3 : j < 738
      · have : j = 736 ∨ j = 737 := by omega
        have h1 := h.ns
        have h2 := h.no
        rcases this with rfl | rfl
        · rw [hv.ns]; omega
        · rw [hv.no]; omega
      · have := hv.len
        rw [List.getD, List.getElem?_eq_none (by omega)]; decide
theorem IsW.of_fld {st st' : ref10_State} {v v' : List Int} (hv : IsW st v) (hl : Low v v') (hs : Sm v') (h1 : ∀ i f, sl st' i f = sl st i f) (h2 : st'.NS = st.NS) (h3 : st'.NO = st.NO) (hf : ∀ i f, 0 ≤ i → i < 32 → 0 ≤ f → f < 8 → fld v' i f = ob st' i f) : IsW st' v' := by
  refine ⟨hl.1, fun i f a b c d => ?_, fun i f a b c d => ?_, ?_, ?_⟩
  · rw [hl.2 _ (by omega), h1]; exact hv.slot i f a b c d
  · rw [raw_fld hs ⟨a, b, c, d⟩]; exact hf i f a b c d
  · rw [hl.2 _ (by omega), h2]; exact hv.ns
  · rw [hl.2 _ (by omega), h3]; exact hv.no
theorem at_set {α : Type} {l : List α} {i : Int} (h0 : 0 ≤ i) (h1 : i < (l.length : Int)) (v : α) (j : Int) : at_ (l.set i.toNat v) j = if j = i then some v else at_ l j := by
  unfold at_
  by_cases e : j = i
  · subst e
    rw [if_pos rfl, decide_eq_true h0, cond_true, List.getElem?_set_self (by omega)]
  · rw [if_neg e]
    by_cases q : 0 ≤ j
    · rw [decide_eq_true q, cond_true, cond_true, List.getElem?_set_ne (by omega)]
    · rw [decide_eq_false q, cond_false, cond_false]
theorem _root_.Go.Sl.A4.nth_put (a : A4) {i j : Int} (x : Int) (hi : 0 ≤ i ∧ i < 4) (hj : 0 ≤ j ∧ j < 4) : (A4.put a i x).nth j = if j = i then x else a.nth j := by
  have h1 : i = 0 ∨ i = 1 ∨ i = 2 ∨ i = 3 := by omega
  have h2 : j = 0 ∨ j = 1 ∨ j = 2 ∨ j = 3 := by omega
  rcases h1 with rfl | rfl | rfl | rfl <;> rcases h2 with rfl | rfl | rfl | rfl <;> rfl
/-- Own words, of what has no queue and is no thread. -/
theorem ob_own {st : ref10_State} (h : WF st) {i : Int} (f : Int) (hi : 0 ≤ i ∧ i < 32) (hk : (obt st i).Kind ≠ 3 ∧ (obt st i).Kind ≠ 4 ∧ (obt st i).Kind ≠ 5) : ob st i f = own (obt st i) f := by
  have hq : (obt st i).Queue = [] := by
    rcases Classical.em ((obt st i).Queue = []) with z | z
    · exact z
    · have := h.qk i hi.1 hi.2 z; omega
  unfold ob
  rw [if_neg (by omega), if_neg (fun q => q.2 hq), if_neg (fun q => q.2 hq)]
theorem ob_kind {st : ref10_State} (i : Int) : ob st i 0 = (obt st i).Kind := by
  unfold ob
  rw [if_neg (by omega), if_neg (by omega), if_neg (by omega)]; rfl
/-- What an object is, out of the words. -/
theorem IsW.kind {st : ref10_State} (h : WF st) {v : List Int} (hv : IsW st v) {i k : Int} (hk : k ≠ 0) : Go.Proofs.fld v i 0 = k ↔ 0 ≤ i ∧ i < 32 ∧ (obt st i).Kind = k := by
  by_cases hi : 0 ≤ i ∧ i < 32
  · rw [hv.fv h hi (by decide), ob_kind]
    exact ⟨fun e => ⟨hi.1, hi.2, e⟩, fun e => e.2.2⟩
  · unfold Go.Proofs.fld
    rw [if_neg (fun q => hi ⟨q.1, q.2.1⟩)]
    exact ⟨fun e => absurd e.symm hk, fun e => absurd ⟨e.1, e.2.1⟩ hi⟩
theorem at_obj {st : ref10_State} (h : WF st) {a : Int} (ha : 0 ≤ a ∧ a < 32) : at_ st.Objs a = some (obt st a) := at_getD ha.1 (by rw [h.lo]; omega)
end Go.Proofs
