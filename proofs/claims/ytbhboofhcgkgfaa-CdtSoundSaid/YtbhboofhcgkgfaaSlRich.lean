/- The resource logic, part SlRich. On no condition. -/
import Derived.Test.YtbhboofhcgkgfaaSlDraw
set_option linter.all false
/-! Rows whose elements hold slices of their own: the inner slices are never written, only put. -/
set_option linter.unusedVariables false
namespace Go.Sl
open Go.RowKit

/-- What a cell of an element holds: a value, or a slice of its own. -/
inductive CellP where
  | val (v : Value)
  | sl {β : Type} (K : EK β) (xs : List β)
def CellP.ok (A : HProp) (u : Value) : CellP → Prop
  | .val v => u = v
  | .sl K xs => Rd K u xs A
def cellsOk (A : HProp) : List Value → List CellP → Prop
  | [], [] => True
  | u :: us, p :: ps => p.ok A u ∧ cellsOk A us ps
  | _, _ => False
/-- A' holds all that A holds. -/
def Cov (A' A : HProp) : Prop := ∀ m, A' m → ∃ m', PH.Sub m' m ∧ A m'
theorem Cov.refl (A : HProp) : Cov A A := fun m h => ⟨m, .refl _, h⟩
theorem Cov.head {A : HProp} {l : List HProp} : Cov (stars (A :: l)) A := fun _ ⟨m1, _, _, s1, _, a, _⟩ => ⟨m1, s1, a⟩
theorem Cov.tail {A : HProp} {l : List HProp} : Cov (stars (A :: l)) (stars l) := fun m h => ⟨m, .refl _, stars_drop h⟩
theorem Cov.trans {A B C : HProp} (h : Cov A B) (k : Cov B C) : Cov A C := fun m hm => by
  obtain ⟨m1, s1, h1⟩ := h m hm
  obtain ⟨m2, s2, h2⟩ := k m1 h1
  exact ⟨m2, s2.trans s1, h2⟩
theorem Rd.cov {α : Type} {K : EK α} {v : Value} {xs : List α} {A A' : HProp} (h : Rd K v xs A) (c : Cov A' A) : Rd K v xs A' := by
  obtain ⟨a, cap, hv, h⟩ := h
  refine ⟨a, cap, hv, fun i x hx => ?_⟩
  obtain ⟨b, off, ha, h⟩ := h i x hx
  refine ⟨b, off, ha, fun m hm => ?_⟩
  obtain ⟨m', s, hm'⟩ := c m hm
  obtain ⟨all, E, fr, hb, hc⟩ := h m' hm'
  exact ⟨all, E, fr, s _ _ hb, hc⟩
theorem Rd.nil0 {α : Type} {K : EK α} {A : HProp} : Rd K (.slice none 0 0) ([] : List α) A := ⟨none, 0, ⟨rfl, Nat.le_refl _⟩, fun _ _ h => by simp at h⟩
theorem Rd.one {α : Type} {K : EK α} {v : Value} {xs : List α} {A : HProp} (h : Rd K v xs A) : v.oneCell' = true := by
  obtain ⟨a, cap, ⟨rfl, _⟩, _⟩ := h; rfl
theorem CellP.ok.cov {A A' : HProp} {u : Value} {p : CellP} (h : p.ok A u) (c : Cov A' A) : p.ok A' u := by
  cases p with
  | val v => exact h
  | sl K xs => exact Rd.cov h c
theorem cellsOk.cov {A A' : HProp} (c : Cov A' A) : ∀ {us : List Value} {ps : List CellP}, cellsOk A us ps → cellsOk A' us ps
  | [], [], _ => trivial
  | _ :: _, _ :: _, ⟨h, k⟩ => ⟨h.cov c, cellsOk.cov c k⟩
  | [], _ :: _, h => h.elim
  | _ :: _, [], h => h.elim
theorem cellsOk.length {A : HProp} : ∀ {us : List Value} {ps : List CellP}, cellsOk A us ps → us.length = ps.length
  | [], [], _ => rfl
  | _ :: _, _ :: _, ⟨_, k⟩ => by simp [cellsOk.length k]
  | [], _ :: _, h => h.elim
  | _ :: _, [], h => h.elim
theorem cellsOk.get {A : HProp} : ∀ {us : List Value} {ps : List CellP}, cellsOk A us ps → ∀ {j : Nat} {p : CellP}, ps[j]? = some p → ∃ u, us[j]? = some u ∧ p.ok A u
  | u :: us, p :: ps, ⟨h, k⟩, 0, q, e => by simp at e; subst e; exact ⟨u, rfl, h⟩
  | u :: us, p :: ps, ⟨h, k⟩, j + 1, q, e => by simp at e; simpa using cellsOk.get k e
  | [], [], _, _, _, e => by simp at e
  | [], _ :: _, h, _, _, _ => h.elim
  | _ :: _, [], h, _, _, _ => h.elim
theorem cellsOk.val {A : HProp} {us : List Value} {ps : List CellP} (h : cellsOk A us ps) {j : Nat} {v : Value} (e : ps[j]? = some (.val v)) : us[j]? = some v := by
  obtain ⟨u, h1, h2⟩ := h.get e
  rw [h1]; congr 1
theorem cellsOk.sl {A : HProp} {us : List Value} {ps : List CellP} (h : cellsOk A us ps) {β : Type} {K : EK β} {xs : List β} (j : Nat) (e : ps[j]? = some (.sl K xs)) : ∃ u, us[j]? = some u ∧ Rd K u xs A := h.get e
theorem cellsOk.set {A : HProp} : ∀ {us : List Value} {ps : List CellP}, cellsOk A us ps → ∀ {j : Nat} {u : Value} {p : CellP}, p.ok A u → cellsOk A (us.set j u) (ps.set j p)
  | u :: us, p :: ps, ⟨h, k⟩, 0, _, _, e => ⟨e, k⟩
  | u :: us, p :: ps, ⟨h, k⟩, j + 1, _, _, e => ⟨h, cellsOk.set k e⟩
  | [], [], _, _, _, _, _ => trivial
  | [], _ :: _, h, _, _, _, _ => h.elim
  | _ :: _, [], h, _, _, _, _ => h.elim
/-- For all slices that may lie in these cells. -/
def AllC (A : HProp) : List CellP → (List Value → Prop) → Prop
  | [], Q => Q []
  | .val v :: ps, Q => AllC A ps fun us => Q (v :: us)
  | .sl K xs :: ps, Q => ∀ u, Rd K u xs A → AllC A ps fun us => Q (u :: us)
theorem AllC.of {A : HProp} : ∀ (ps : List CellP) (Q : List Value → Prop) (us : List Value), AllC A ps Q → cellsOk A us ps → Q us
  | [], _, [], h, _ => h
  | .val _ :: ps, Q, _ :: us, h, ⟨e, k⟩ => by cases e; exact AllC.of ps (fun us => Q (_ :: us)) us h k
  | .sl _ _ :: ps, Q, u :: us, h, ⟨e, k⟩ => AllC.of ps (fun us => Q (u :: us)) us (h u e) k
  | [], _, _ :: _, _, h => h.elim
  | _ :: _, _, [], _, h => h.elim
theorem cellsOk.rip {A : HProp} {us : List Value} {ps : List CellP} {G : Prop} (h : cellsOk A us ps) (k : AllC A ps fun l => us = l → G) : G := AllC.of ps _ us k h rfl

/-- How an element lies in cells, some of which are slices. -/
structure EKR (α : Type) where
  sz : Nat
  pat : α → List CellP
  len : ∀ x, (pat x).length = sz
  one : ∀ x v, CellP.val v ∈ pat x → v.oneCell' = true
  pos : 0 < sz
/-- So many cells. -/
abbrev Raw (n : Nat) := {l : List Value // l.length = n ∧ ∀ v ∈ l, v.oneCell' = true}
def ekRaw (n : Nat) (h : 0 < n) : EK (Raw n) := ⟨n, fun x => x.1, fun x => x.2.1, fun x => x.2.2, h⟩
abbrev EKR.ek {α : Type} (K : EKR α) : EK (Raw K.sz) := ekRaw K.sz K.pos
/-- Slices as elements. -/
def krS {β : Type} (K : EK β) : EKR (List β) := ⟨1, fun x => [.sl K x], fun _ => rfl, fun _ _ h => by simp at h, by decide⟩
theorem cellsOk.ones {A : HProp} : ∀ {us : List Value} {ps : List CellP}, cellsOk A us ps → (∀ v, CellP.val v ∈ ps → v.oneCell' = true) → ∀ v ∈ us, v.oneCell' = true
  | [], _, _, _ => by simp
  | u :: us, p :: ps, ⟨h, k⟩, h1 => by
    intro v hv
    rcases List.mem_cons.1 hv with rfl | hv
    · cases p with
      | val w => cases h; exact h1 _ List.mem_cons_self
      | sl K xs => exact Rd.one h
    · exact cellsOk.ones k (fun v hv => h1 v (List.mem_cons_of_mem _ hv)) v hv
  | _ :: _, [], h, _ => h.elim
def EKR.raw {α : Type} (K : EKR α) {A : HProp} {us : List Value} {y : α} (h : cellsOk A us (K.pat y)) : Raw K.sz := ⟨us, by rw [h.length, K.len], h.ones (K.one y)⟩
def relR {α : Type} (K : EKR α) (A : HProp) (raws : List (Raw K.sz)) (ys : List α) : Prop :=
  raws.length = ys.length ∧ ∀ (i : Nat) (x : Raw K.sz) (y : α), raws[i]? = some x → ys[i]? = some y → cellsOk A x.1 (K.pat y)
/-- Such a row of one's own, its cells named. -/
def OwnO {α : Type} (E : TypeId) (K : EKR α) (v : Value) (raws : List (Raw K.sz)) (A : HProp) (ys : List α) : HProp := fun m => stars [Own E K.ek v raws, A] m ∧ relR K A raws ys
def OwnR {α : Type} (E : TypeId) (K : EKR α) (v : Value) (ys : List α) : HProp := fun m => ∃ raws A, OwnO E K v raws A ys m
section
variable {α : Type} {K : EKR α} {E : TypeId} {v : Value} {raws : List (Raw K.sz)} {A : HProp} {ys : List α}
theorem relR.cov {A' : HProp} (h : relR K A raws ys) (c : Cov A' A) : relR K A' raws ys := ⟨h.1, fun i x y h1 h2 => (h.2 i x y h1 h2).cov c⟩
theorem relR.at {i : Int} {y : α} (h : relR K A raws ys) (hy : at_ ys i = some y) : ∃ x : Raw K.sz, at_ raws i = some x ∧ cellsOk A x.1 (K.pat y) := by
  obtain ⟨h1, h2, h3⟩ := at_spec hy
  have hl := h.1
  have h4 : raws[i.toNat]? = some (raws[i.toNat]'(by omega)) := List.getElem?_eq_getElem (by omega)
  refine ⟨raws[i.toNat]'(by omega), ?_, h.2 _ _ _ h4 h3⟩
  unfold Go.Sl.at_
  rw [decide_eq_true h1, cond_true, h4]
theorem relR.set {i : Nat} {x : Raw K.sz} {y : α} (h : relR K A raws ys) (hx : cellsOk A x.1 (K.pat y)) : relR K A (raws.set i x) (ys.set i y) := by
  refine ⟨by simp [h.1], fun j a b h1 h2 => ?_⟩
  by_cases e : i = j
  · subst e
    have hl : i < raws.length := by
      rcases Nat.lt_or_ge i raws.length with h' | h'
      · exact h'
      · rw [List.getElem?_eq_none (by simpa using h')] at h1; cases h1
    rw [List.getElem?_set_self hl] at h1
    rw [List.getElem?_set_self (by rw [← h.1]; exact hl)] at h2
    cases h1; cases h2; exact hx
  · rw [List.getElem?_set_ne e] at h1 h2
    exact h.2 j a b h1 h2
theorem OwnO.rdO {m : PH} (h : OwnO E K v raws A ys m) : Rd K.ek v raws (OwnO E K v raws A ys) := by
  obtain ⟨⟨m1, m2, d, s1, s2, a, b⟩, hr⟩ := h
  exact a.rd.cov fun m h => Cov.head m h.1
theorem covP : Cov (OwnO E K v raws A ys) A := fun m h => (Cov.tail.trans (Cov.head (l := []))) m h.1
theorem Rd.pool {β : Type} {K' : EK β} {u : Value} {xs : List β} (h : Rd K' u xs A) : Rd K' u xs (OwnO E K v raws A ys) := h.cov covP
theorem opv_lenO {B : HProp} {P : Program} {ρ : Env} {x : Operand} {tys : Array TypeId} {t e : TypeId} (ht0 : tys[0]? = some t) (ht : P.underlying t = some (.slice e)) (hR : Rd K.ek v raws B) (hr : relR K A raws ys) (hx : ev ρ x = some v) :
    OpV P ρ (.call ⟨.builtin .len, #[x], tys⟩) (.int .i64 ys.length) := by
  rw [← hr.1]; exact opv_lenR ht0 ht hR hx
end
theorem stars_singleton {A : HProp} {m : PH} (h : A m) : stars [A] m := ⟨m, fun _ => none, fun _ => .inr rfl, .refl _, fun _ _ e => by simp at e, h, trivial⟩
/-- Of the first resources: others that hold where these do. -/
theorem Sat.swapN {w : World} {l1 l1' l2 : List HProp} (h : Sat w (l1 ++ l2)) (k : ∀ m, stars l1 m → stars l1' m) : Sat w (l1' ++ l2) := by
  obtain ⟨m1, m2, d, s1, s2, a, b⟩ := (stars_append _ _ _).1 h
  exact (stars_append _ _ _).2 ⟨m1, m2, d, s1, s2, k _ a, b⟩

section
variable {P : Program} {f : FuncId} {n : Nat} {Z : Act → World → Prop} {R : Ending → World → Prop} {w0 : World} {k : List Item} {ρ ρ' : Env} {H H' pre rest : List HProp} {ops : Array Oper} {l : List Oper}
variable {α : Type} {K : EKR α} {E : TypeId} {v : Value} {raws : List (Raw K.sz)} {A : HProp} {ys : List α}

theorem sat_open {w : World} (h : Sat w (OwnR E K v ys :: rest)) : ∃ raws A, relR K A raws ys ∧ Rd K.ek v raws (OwnO E K v raws A ys) ∧ Sat w (OwnO E K v raws A ys :: rest) := by
  obtain ⟨m1, m2, d, s1, s2, ⟨raws, A, a⟩, b⟩ := h
  exact ⟨raws, A, a.2, a.rdO, m1, m2, d, s1, s2, a, b⟩
theorem SO.openR (h : ∀ raws A, relR K A raws ys → Rd K.ek v raws (OwnO E K v raws A ys) → SO P n Z w0 ops l ρ (OwnO E K v raws A ys :: rest)) : SO P n Z w0 ops l ρ (OwnR E K v ys :: rest) := by
  intro a w h1 h2 h3 h4 h5
  obtain ⟨raws, A, hr, hR, hs⟩ := sat_open h4
  exact h raws A hr hR a w h1 h2 h3 hs h5
theorem S.openR (h : ∀ raws A, relR K A raws ys → Rd K.ek v raws (OwnO E K v raws A ys) → S P f n R w0 k ρ (OwnO E K v raws A ys :: rest)) : S P f n R w0 k ρ (OwnR E K v ys :: rest) := by
  intro a w h1 h2 h3 h4 h5
  obtain ⟨raws, A, hr, hR, hs⟩ := sat_open h4
  exact h raws A hr hR a w h1 h2 h3 hs h5
theorem SO.closeR (h : SO P n Z w0 ops l ρ (OwnR E K v ys :: rest)) : SO P n Z w0 ops l ρ (OwnO E K v raws A ys :: rest) := h.sat fun _ s => s.weaken fun _ h => ⟨_, _, h⟩
theorem S.closeR (h : S P f n R w0 k ρ (OwnR E K v ys :: rest)) : S P f n R w0 k ρ (OwnO E K v raws A ys :: rest) := h.sat fun _ s => s.weaken fun _ h => ⟨_, _, h⟩
theorem OwnR.nil (m : PH) : OwnR E K (.slice none 0 0) ([] : List α) m := ⟨[], fun _ => True, ⟨fun _ => none, fun _ => none, fun _ => .inl rfl, fun _ _ e => by simp at e, fun _ _ e => by simp at e, Own.nil _ _ _, stars_singleton trivial⟩, rfl, fun _ _ _ h => by simp at h⟩
theorem S.newOwnR (E : TypeId) (K : EKR α) (h : S P f n R w0 k ρ (OwnR E K (.slice none 0 0) ([] : List α) :: H)) : S P f n R w0 k ρ H :=
  h.sat fun w s => show stars (OwnR E K (.slice none 0 0) ([] : List α) :: H) (hp w) from ⟨fun _ => none, hp w, fun _ => .inl rfl, fun _ _ e => by simp at e, .refl _, OwnR.nil _, s⟩
theorem SO.newOwnR (E : TypeId) (K : EKR α) (h : SO P n Z w0 ops l ρ (OwnR E K (.slice none 0 0) ([] : List α) :: H)) : SO P n Z w0 ops l ρ H :=
  h.sat fun w s => show stars (OwnR E K (.slice none 0 0) ([] : List α) :: H) (hp w) from ⟨fun _ => none, hp w, fun _ => .inl rfl, fun _ _ e => by simp at e, .refl _, OwnR.nil _, s⟩
/-- A slice of one's own becomes one that others may hold: it is read only, from here on. -/
theorem SO.freeze {E' : TypeId} {β : Type} {K' : EK β} {u : Value} {xs : List β} (hr : relR K A raws ys)
    (h : ∀ A', Cov A' A → Rd K' u xs A' → relR K A' raws ys → Rd K.ek v raws (OwnO E K v raws A' ys) → SO P n Z w0 ops l ρ (OwnO E K v raws A' ys :: rest)) : SO P n Z w0 ops l ρ (Own E' K' u xs :: OwnO E K v raws A ys :: rest) := by
  intro a w h1 h2 h3 h4 h5
  have h6 : Sat w ([OwnO E K v raws (stars [Own E' K' u xs, A]) ys] ++ rest) := Sat.swapN (l1 := [Own E' K' u xs, OwnO E K v raws A ys]) h4 fun m hm => by
    obtain ⟨m1, m2, d, s1, s2, a, n1, n2, e, t1, t2, ⟨⟨p1, p2, pd, q1, q2, c1, r1, r2, rd, u1, u2, c2, _⟩, hr⟩, _⟩ := hm
    refine stars_singleton ⟨⟨p1, m1.un r1, ?_, q1.trans (t1.trans s2), PH.un_sub s1 (u1.trans (q2.trans (t1.trans s2))), c1, stars_singleton ⟨m1, r1, ?_, PH.sub_un_l _ _, PH.sub_un_r ?_, a, stars_singleton c2⟩⟩, hr.cov (Cov.tail.trans (Cov.head (l := [])))⟩
    · refine PH.Dj.symm (PH.Dj.un ?_ ?_)
      · exact d.sub (.refl _) (q1.trans t1)
      · exact (pd.sub (.refl _) u1).symm
    · exact d.sub (.refl _) (u1.trans (q2.trans t1))
    · exact d.sub (.refl _) (u1.trans (q2.trans t1))
  have hR : Rd K' u xs (stars [Own E' K' u xs, A]) := by
    obtain ⟨m1, _, a⟩ := h4.head
    exact Rd.head a.rd
  have hc : Cov (stars [Own E' K' u xs, A]) A := Cov.tail.trans (Cov.head (l := []))
  obtain ⟨m, _, hm⟩ := h6.head
  exact h _ hc hR (hr.cov hc) hm.rdO a w h1 h2 h3 h6 h5
/-- The same resource, other elements. -/
theorem so_put {raws' : List (Raw K.sz)} {ys' : List α} (hr : relR K A raws' ys') (h : SO P n Z w0 ops l ρ (OwnO E K v raws' A ys' :: rest)) : SO P n Z w0 ops l ρ (Own E K.ek v raws' :: A :: rest) :=
  h.sat fun w s => Sat.swapN (l1 := [Own E K.ek v raws', A]) (l1' := [OwnO E K v raws' A ys']) s fun m hm => stars_singleton ⟨hm, hr⟩
theorem so_take (h : SO P n Z w0 ops l ρ (Own E K.ek v raws :: A :: rest)) : SO P n Z w0 ops l ρ (OwnO E K v raws A ys :: rest) :=
  h.sat fun w s => Sat.swapN (l1 := [OwnO E K v raws A ys]) (l1' := [Own E K.ek v raws, A]) s fun m hm => by
    obtain ⟨m1, m2, d, s1, s2, a, _⟩ := hm
    exact stars_mono _ s1 a.1
theorem SO.storeO1 {t ty m j : Nat} {x y : Operand} {p : String} {af : Array Edge} {u : Value} {q : CellP} {i : Int} {z z' : α} (hz : ∀ w, (sizeOf t).run P w = .ok 1 w) (hr : relR K A raws ys) (hi : at_ ys i = some z) (hx : ev ρ x = some (idxp v m)) (hy : ev ρ y = some u) (h1 : u.oneCell' = true) (hm : i.toNat * K.sz + j = m) (hj : Nat.blt j K.sz = true) (hu : K.pat z' = (K.pat z).set j q) (hq : q.ok A u)
    (h : ∀ raws', relR K A raws' (ys.set i.toNat z') → Rd K.ek v raws' (OwnO E K v raws' A (ys.set i.toNat z')) → SO P n Z w0 ops l ρ (OwnO E K v raws' A (ys.set i.toNat z') :: rest)) : SO P n Z w0 ops (⟨none, .store t x y, ty, p, af, none⟩ :: l) ρ (OwnO E K v raws A ys :: rest) := by
  obtain ⟨r, hri, hc⟩ := hr.at hi
  have hc' : cellsOk A (r.1.set j u) (K.pat z') := by rw [hu]; exact hc.set hq
  have hr' := hr.set (i := i.toNat) (x := K.raw hc') hc'
  refine so_take (SO.storeI1 (K := K.ek) (z := r) (z' := K.raw hc') hz hri hx hy h1 hm hj rfl (so_put hr' ?_))
  intro a w h1 h2 h3 h4 h5
  obtain ⟨m, _, hmm⟩ := h4.head
  exact h _ hr' hmm.rdO a w h1 h2 h3 h4 h5
theorem SO.storeON {t ty m : Nat} {x y : Operand} {p : String} {af : Array Edge} {us : List Value} {i : Int} {z z' : α} (hz : ∀ w, (sizeOf t).run P w = .ok K.sz w) (hr : relR K A raws ys) (hi : at_ ys i = some z) (hx : ev ρ x = some (idxp v m)) (hy : ev ρ y = some (.agg us.toArray)) (hm : i.toNat * K.sz = m) (hu : cellsOk A us (K.pat z'))
    (h : ∀ raws', relR K A raws' (ys.set i.toNat z') → Rd K.ek v raws' (OwnO E K v raws' A (ys.set i.toNat z')) → SO P n Z w0 ops l ρ (OwnO E K v raws' A (ys.set i.toNat z') :: rest)) : SO P n Z w0 ops (⟨none, .store t x y, ty, p, af, none⟩ :: l) ρ (OwnO E K v raws A ys :: rest) := by
  obtain ⟨r, hri, hc⟩ := hr.at hi
  have hr' := hr.set (i := i.toNat) (x := K.raw hu) hu
  refine so_take (SO.storeIN (K := K.ek) (z := r) (z' := K.raw hu) hz hri hx hy hm rfl (so_put hr' ?_))
  intro a w h1 h2 h3 h4 h5
  obtain ⟨m, _, hmm⟩ := h4.head
  exact h _ hr' hmm.rdO a w h1 h2 h3 h4 h5
theorem relR.append {zs : List α} {raws2 : List (Raw K.sz)} (h1 : relR K A raws ys) (h2 : relR K A raws2 zs) : relR K A (raws ++ raws2) (ys ++ zs) := by
  refine ⟨by simp [h1.1, h2.1], fun i x y e1 e2 => ?_⟩
  rcases Nat.lt_or_ge i raws.length with h | h
  · rw [List.getElem?_append_left h] at e1
    rw [List.getElem?_append_left (by rw [← h1.1]; exact h)] at e2
    exact h1.2 i x y e1 e2
  · rw [List.getElem?_append_right h] at e1
    rw [List.getElem?_append_right (by rw [← h1.1]; exact h), ← h1.1] at e2
    exact h2.2 _ x y e1 e2
/-- An append of such a row to another one. -/
theorem SO.appendR {zs out : List α} {d t ty e : Nat} {x y : Operand} {p : String} {af : Array Edge} {i : TypeInfo} {z : Value} {bytes : Nat} {u : Value} (hd : Nat.blt d n = true) (ht : P.underlying t = some (.slice e)) (hi : P.info? e = some i) (hz : i.zero = some z) (hsize : i.size = K.sz) (hby : i.bytes = bytes) (hbl : bytes ≤ 4096) (hzs : z.cells.size = K.sz)
    (hx : ev ρ x = some v) (hy : ev ρ y = some u) (ha : app ys zs = some out)
    (h : ∀ v', SO P n Z w0 ops l ((d, v') :: ρ) (OwnR e K v' out :: rest)) : SO P n Z w0 ops (⟨some d, .call ⟨.builtin .append, #[x, y], #[t, t]⟩, ty, p, af, none⟩ :: l) ρ (OwnR e K v ys :: OwnR E K u zs :: rest) := by
  refine SO.openR fun raws A hr hR => SO.b1 (SO.openR fun raws2 A2 hr2 hR2 => SO.b1 ?_)
  obtain ⟨hlen, rfl⟩ := app_spec ha
  have hl1 := hr.1
  have hl2 := hr2.1
  have ha2 : app raws raws2 = some (raws ++ raws2) := by
    unfold app; rw [decide_eq_true (by omega : raws.length + raws2.length ≤ 4294967296)]; rfl
  have key : SO P n Z w0 ops (⟨some d, .call ⟨.builtin .append, #[x, y], #[t, t]⟩, ty, p, af, none⟩ :: l) ρ (Own e K.ek v raws :: A :: OwnO E K u raws2 A2 zs :: rest) := by
    refine SO.append (K := K.ek) (ys := raws2) hd ht ht hi hz hsize hby hbl hzs hx hy (Rd.tail (Rd.head hR2)) ha2 fun v' => ?_
    refine (h v').sat fun w s => Sat.swapN (l1 := [Own e K.ek v' (raws ++ raws2), A, OwnO E K u raws2 A2 zs]) (l1' := [OwnR e K v' (ys ++ zs)]) s fun m hm => ?_
    refine stars_singleton ⟨raws ++ raws2, stars [A, OwnO E K u raws2 A2 zs], ?_, ?_⟩
    · obtain ⟨m1, m2, d, s1, s2, a, b⟩ := hm
      exact ⟨m1, m2, d, s1, s2, a, stars_singleton b⟩
    · exact (hr.cov Cov.head).append (hr2.cov ((Cov.tail.trans Cov.head).trans covP))
  exact so_take key
theorem relR.nil : relR K A [] [] := ⟨rfl, fun _ _ _ h => by simp at h⟩
/-- A row built of elements; the pool: what lies behind their slices. -/
theorem SO.buildSliceR {d t ty nn : Nat} {parts : List (Nat × Operand)} {ps : List (Nat × Value)} {p : String} {af : Array Edge} {z : Value} {cs : List Value} {raws : List (Raw K.sz)} (hd : Nat.blt d n = true) (ht : P.underlying t = some (.slice E)) (hs : ∀ w, (sizeOf E).run P w = .ok K.sz w) (hz : ∀ w, (zeroValue E).run P w = .ok z w)
    (hp : evp ρ parts = some ps) (hsmall : Nat.ble (nn * K.sz) 16777216 = true) (hpos : Nat.blt 0 nn = true) (hfill : Instr.fill (fun i => some (i * K.sz, K.sz)) ((Array.range (nn * K.sz)).map (z.cells[· % z.cells.size]!)) ps = some cs.toArray) (hcl : cs.length = nn * K.sz) (hcs : raws.flatMap (·.1) = cs) (hl : raws.length = nn) (hrel : relR K A raws ys)
    (h : ∀ v, SO P n Z w0 ops l ((d, v) :: ρ) (OwnR E K v ys :: rest)) : SO P n Z w0 ops (⟨some d, .buildSlice t nn parts.toArray, ty, p, af, none⟩ :: l) ρ (A :: rest) := by
  refine SO.buildSlice (K := K.ek) (xs := raws) hd ht hs hz hp hsmall hpos hfill hcl hcs hl fun v _ => ?_
  refine (h v).sat fun w s => Sat.swapN (l1 := [Own E K.ek v raws, A]) (l1' := [OwnR E K v ys]) s fun m hm => stars_singleton ⟨raws, A, hm, hrel⟩
theorem SO.emp (h : SO P n Z w0 ops l ρ ((fun _ => True) :: rest)) : SO P n Z w0 ops l ρ rest :=
  h.sat fun w s => show stars ((fun _ => True) :: rest) (hp w) from ⟨fun _ => none, hp w, fun _ => .inl rfl, fun _ _ e => by simp at e, .refl _, trivial, s⟩
theorem SO.makeSliceR {d t ty e : Nat} {x y : Operand} {p : String} {af : Array Edge} {i : TypeInfo} {z : Value} {bytes : Nat} {zx : α} {zc : List Value} {nn : Int} {kl kc : IntKind} (hd : Nat.blt d n = true) (ht : P.underlying t = some (.slice e)) (hi : P.info? e = some i) (hz : i.zero = some z) (hsize : i.size = K.sz) (hby : i.bytes = bytes) (hbl : bytes ≤ 4096) (hzx : z.cells = zc.toArray) (hok : cellsOk (fun _ => True) zc (K.pat zx))
    (hx : ev ρ x = some (.int kl nn)) (hy : ev ρ y = some (.int kc nn)) (ha : mk_ zx nn = some ys)
    (h : ∀ v, SO P n Z w0 ops l ((d, v) :: ρ) (OwnR e K v ys :: H)) : SO P n Z w0 ops (⟨some d, .makeSlice t x y, ty, p, af, none⟩ :: l) ρ H := by
  obtain ⟨h0, h1, rfl⟩ := mk_spec ha
  have ha2 : mk_ (K.raw hok) nn = some (List.replicate nn.toNat (K.raw hok)) := by
    unfold mk_; rw [decide_eq_true h0, decide_eq_true h1]; rfl
  refine SO.emp ?_
  refine SO.makeSlice (K := K.ek) (zx := K.raw hok) hd ht hi hz hsize hby hbl hzx hx hy ha2 fun v _ => ?_
  refine (h v).sat fun w s => Sat.swapN (l1 := [Own e K.ek v _, fun _ => True]) (l1' := [OwnR e K v _]) s fun m hm => stars_singleton ⟨_, _, hm, by simp, fun i x y h1 h2 => ?_⟩
  rw [List.getElem?_replicate] at h1 h2
  split at h1 <;> simp at h1 h2
  subst h1; obtain ⟨_, rfl⟩ := h2
  exact hok
end
end Go.Sl
namespace Go.Sl
open Go.RowKit
/-! Parts of elements. -/
section
variable {P : Program} {f : FuncId} {n : Nat} {Z : Act → World → Prop} {R : Ending → World → Prop} {w0 : World} {k : List Item} {ρ ρ' : Env} {H H' pre rest : List HProp} {ops : Array Oper} {l : List Oper}
theorem SO.loadIP {α : Type} {K : EK α} {v : Value} {xs : List α} {d t ty m j sz : Nat} {x : Operand} {p : String} {af : Array Edge} {us : List Value} {i : Int} {z : α} (hd : Nat.blt d n = true) (ha : ∀ w, (isAgg t).run P w = .ok true w) (hz : ∀ w, (sizeOf t).run P w = .ok sz w) (hR : Rd K v xs (stars H)) (hi : at_ xs i = some z) (hx : ev ρ x = some (idxp v m)) (hm : i.toNat * K.sz + j = m) (hj : Nat.ble (j + sz) K.sz = true) (hu : ((K.enc z).drop j).take sz = us)
    (h : SO P n Z w0 ops l ((d, .agg us.toArray) :: ρ) H) : SO P n Z w0 ops (⟨some d, .load t x, ty, p, af, none⟩ :: l) ρ H := by
  have hj' : j + sz ≤ K.sz := by simpa using hj
  refine .raw hd fun r w hr hs => ⟨_, _, ρ, _, ?_, hs, .refl w, h, fun _ h => h⟩
  obtain ⟨a, cap, ⟨rfl, _⟩, hR⟩ := hR
  obtain ⟨b, off, rfl, hR2⟩ := hR _ _ (at_spec hi).2.2
  obtain ⟨all, E, fr, hb, hc⟩ := hR2 _ hs
  have hl : us.length = sz := by rw [← hu, List.length_take, List.length_drop, K.len]; omega
  have hc : ∀ q, q < sz → w.cell? ⟨b, off + m + q, none⟩ = us[q]? := fun q hq => by
    rw [cell_of_blk hb, ← hu, List.getElem?_take_of_lt hq, List.getElem?_drop, ← hc (j + q) (by omega), ← hm]; congr 1; omega
  simp [execOp, hr x _ hx, Instr.loadAt, idxp, Instr.sureAddr, loadVar, ha, hz, loadCells_run hl hc]
theorem cellsOk.part {A : HProp} {us : List Value} {ps : List CellP} (h : cellsOk A us ps) {j sz : Nat} {vs : List Value} (e : (ps.drop j).take sz = vs.map .val) : (us.drop j).take sz = vs := by
  apply List.ext_getElem?
  intro q
  have hl := h.length
  have hlen := congrArg List.length e
  simp only [List.length_take, List.length_drop, List.length_map] at hlen
  rcases Nat.lt_or_ge q vs.length with hq | hq
  · have h1 : (vs.map CellP.val)[q]? = some (.val vs[q]) := by simp [hq]
    rw [← e, List.getElem?_take_of_lt (by omega), List.getElem?_drop] at h1
    rw [List.getElem?_take_of_lt (by omega), List.getElem?_drop, h.val h1, List.getElem?_eq_getElem hq]
  · rw [List.getElem?_eq_none (by simp; omega), List.getElem?_eq_none hq]
theorem take_splice {β : Type} (L : List β) (m o : Nat) (vs : List β) (h : o + vs.length ≤ m) (hm : m ≤ L.length) : (L.take o ++ (vs ++ L.drop (o + vs.length))).take m = (L.take m).take o ++ (vs ++ (L.take m).drop (o + vs.length)) := by
  apply List.ext_getElem?
  intro q
  have e1 : (L.take o).length = o := by simp; omega
  have e2 : ((L.take m).take o).length = o := by simp; omega
  rcases Nat.lt_or_ge q m with hq | hq
  · rw [List.getElem?_take_of_lt hq]
    rcases Nat.lt_or_ge q o with h1 | h1
    · rw [List.getElem?_append_left (by omega), List.getElem?_append_left (by omega), List.getElem?_take_of_lt h1, List.getElem?_take_of_lt h1, List.getElem?_take_of_lt hq]
    · rw [List.getElem?_append_right (by omega : (L.take o).length ≤ q), List.getElem?_append_right (by omega : ((L.take m).take o).length ≤ q), e1, e2]
      rcases Nat.lt_or_ge (q - o) vs.length with h2 | h2
      · rw [List.getElem?_append_left h2, List.getElem?_append_left h2]
      · rw [List.getElem?_append_right h2, List.getElem?_append_right h2, List.getElem?_drop, List.getElem?_drop, List.getElem?_take_of_lt (by omega)]
  · rw [List.getElem?_eq_none (by simp; omega), List.getElem?_eq_none (by simp; omega)]
theorem EK.flat_splice {α : Type} (K : EK α) : ∀ (xs : List α) (i : Nat) (x x' : α) (j : Nat) (us : List Value), xs[i]? = some x → j + us.length ≤ K.sz → K.enc x' = splice (K.enc x) j us → K.flat (xs.set i x') = splice (K.flat xs) (i * K.sz + j) us
  | [], i, x, x', j, us, h, _, _ => by simp at h
  | y :: l, 0, x, x', j, us, h, hj, he => by
    simp at h; subst h
    have hl := K.len y
    simp only [EK.flat, List.set_cons_zero, List.flatMap_cons, Nat.zero_mul, Nat.zero_add, splice] at *
    rw [he, List.take_append_of_le_length (by omega), List.drop_append_of_le_length (by omega), List.append_assoc, List.append_assoc]
  | y :: l, i + 1, x, x', j, us, h, hj, he => by
    simp only [List.getElem?_cons_succ] at h
    have := EK.flat_splice K l i x x' j us h hj he
    have hl := K.len y
    have e1 : (i + 1) * K.sz + j = (K.enc y).length + (i * K.sz + j) := by rw [hl, Nat.add_mul]; omega
    simp only [EK.flat, List.set_cons_succ, List.flatMap_cons, splice] at *
    rw [this, e1, List.take_length_add_append, Nat.add_assoc (K.enc y).length, List.drop_length_add_append, List.append_assoc]
theorem SO.storeIP {α : Type} {K : EK α} {v : Value} {xs : List α} {E t ty m j sz : Nat} {x y : Operand} {p : String} {af : Array Edge} {us : List Value} {i : Int} {z z' : α} (hz : ∀ w, (sizeOf t).run P w = .ok sz w) (hi : at_ xs i = some z) (hx : ev ρ x = some (idxp v m)) (hy : ev ρ y = some (.agg us.toArray)) (hl : us.length = sz) (hm : i.toNat * K.sz + j = m) (hj : Nat.ble (j + sz) K.sz = true) (h1 : ∀ u ∈ us, u.oneCell' = true) (hu : K.enc z' = splice (K.enc z) j us)
    (h : SO P n Z w0 ops l ρ (Own E K v (xs.set i.toNat z') :: rest)) : SO P n Z w0 ops (⟨none, .store t x y, ty, p, af, none⟩ :: l) ρ (Own E K v xs :: rest) := by
  have hj' : j + sz ≤ K.sz := by simpa using hj
  obtain ⟨h0, hlt, hget⟩ := at_spec hi
  have hne : xs ≠ [] := by intro e; subst e; simp at hget
  have hb : i.toNat * K.sz + K.sz ≤ xs.length * K.sz := by
    have : (i.toNat + 1) * K.sz ≤ xs.length * K.sz := Nat.mul_le_mul_right _ (by omega)
    rw [Nat.add_mul] at this; omega
  refine .raw0 fun r w hr hs => ?_
  obtain ⟨mm, hmm, hown⟩ := hs.head
  rcases hown with ⟨_, rfl⟩ | ⟨g, cap, cur, rfl, hg, hle, hcap, hsz, hcur⟩
  · exact absurd rfl hne
  have hg := hmm _ _ hg
  have hszl : xs.length * K.sz ≤ cap * K.sz := Nat.mul_le_mul_right _ hle
  obtain ⟨w', c', hrun, hb', hs', ho, hn, hq, hk⟩ := storeCells_run (P := P) (b := g) (o := m) us 0 w cur E hg h1 (by omega)
  refine ⟨w', _, ?_, ?_, hk, h⟩
  · simp only [execOp, hr x _ hx, hr y _ hy, Instr.storeAt, idxp, Instr.sureAddr, storeVar, Nat.zero_add]
    simp only [Value.cells, Sem.run_bind, Sem.run_pure, Result.andThen_ok, hz]
    simp [hl, hrun]
  · refine Own.put hs (fun g2 cap2 cur2 hv2 hg2 _ hsz2 hcur2 => ?_) (by simp) hne
    injection hv2 with e1 _ _; injection e1 with e1; injection e1 with e1 _ _; subst e1
    have : cur2 = cur := by
      have h9 : some (Obj.cells cur2 E) = some (Obj.cells cur E) := hg2.symm.trans hg
      injection h9 with h9; injection h9
    subst this
    refine ⟨c', hb', hs', ?_, hq⟩
    have hcc : c'.toList = splice cur2.toList m us := by
      apply List.ext_getElem?
      intro q
      simp only [Array.getElem?_toList, splice]
      rcases Nat.lt_or_ge q m with hq1 | hq1
      · rw [ho q (by omega), List.getElem?_append_left (by simp; omega), List.getElem?_take_of_lt hq1]; simp
      · rw [List.getElem?_append_right (by simp; omega), List.length_take, Nat.min_eq_left (by simp; omega)]
        rcases Nat.lt_or_ge (q - m) us.length with hq2 | hq2
        · rw [List.getElem?_append_left hq2]
          have := hn (q - m) hq2
          rw [← this]; congr 1; omega
        · rw [List.getElem?_append_right hq2, List.getElem?_drop, ho q (by omega)]
          simp only [Array.getElem?_toList]; congr 1; omega
    rw [hcc, splice, take_splice _ _ _ _ (by omega) (by simp; omega), hcur2, ← hm, EK.flat_splice K xs _ z z' j us hget (by omega) hu, splice]
theorem cellsOk.splice {A : HProp} {us : List Value} {ps : List CellP} (h : cellsOk A us ps) {j : Nat} {vs : List Value} (hj : j + vs.length ≤ ps.length) : cellsOk A (Go.Sl.splice us j vs) (ps.take j ++ (vs.map .val ++ ps.drop (j + vs.length))) := by
  have take : ∀ (us : List Value) (ps : List CellP) (j : Nat), cellsOk A us ps → cellsOk A (us.take j) (ps.take j) := by
    intro us
    induction us with
    | nil => intro ps j h; cases ps with | nil => simp [cellsOk] | cons _ _ => exact h.elim
    | cons u us ih => intro ps j h; cases ps with
      | nil => exact h.elim
      | cons p ps => cases j with
        | zero => exact trivial
        | succ j => exact ⟨h.1, ih ps j h.2⟩
  have drop : ∀ (us : List Value) (ps : List CellP) (j : Nat), cellsOk A us ps → cellsOk A (us.drop j) (ps.drop j) := by
    intro us
    induction us with
    | nil => intro ps j h; cases ps with | nil => simp [cellsOk] | cons _ _ => exact h.elim
    | cons u us ih => intro ps j h; cases ps with
      | nil => exact h.elim
      | cons p ps => cases j with
        | zero => exact h
        | succ j => exact ih ps j h.2
  have app : ∀ (us us' : List Value) (ps ps' : List CellP), cellsOk A us ps → cellsOk A us' ps' → cellsOk A (us ++ us') (ps ++ ps') := by
    intro us
    induction us with
    | nil => intro us' ps ps' h k; cases ps with | nil => exact k | cons _ _ => exact h.elim
    | cons u us ih => intro us' ps ps' h k; cases ps with
      | nil => exact h.elim
      | cons p ps => exact ⟨h.1, ih us' ps ps' h.2 k⟩
  have vals : ∀ vs : List Value, cellsOk A vs (vs.map .val) := by
    intro vs
    induction vs with
    | nil => exact trivial
    | cons v vs ih => exact ⟨rfl, ih⟩
  exact app _ _ _ _ (take _ _ _ h) (app _ _ _ _ (vals vs) (drop _ _ _ h))
theorem SO.storeOP {α : Type} {K : EKR α} {E : TypeId} {v : Value} {raws : List (Raw K.sz)} {A : HProp} {ys : List α} {t ty m j sz : Nat} {x y : Operand} {p : String} {af : Array Edge} {us : List Value} {i : Int} {z z' : α} (hz : ∀ w, (sizeOf t).run P w = .ok sz w) (hr : relR K A raws ys) (hi : at_ ys i = some z) (hx : ev ρ x = some (idxp v m)) (hy : ev ρ y = some (.agg us.toArray)) (hl : us.length = sz) (hm : i.toNat * K.sz + j = m) (hj : Nat.ble (j + sz) K.sz = true) (h1 : (us.all Value.oneCell') = true) (hu : K.pat z' = (K.pat z).take j ++ (us.map .val ++ (K.pat z).drop (j + us.length)))
    (h : ∀ raws', relR K A raws' (ys.set i.toNat z') → Rd K.ek v raws' (OwnO E K v raws' A (ys.set i.toNat z')) → SO P n Z w0 ops l ρ (OwnO E K v raws' A (ys.set i.toNat z') :: rest)) : SO P n Z w0 ops (⟨none, .store t x y, ty, p, af, none⟩ :: l) ρ (OwnO E K v raws A ys :: rest) := by
  have hj' : j + sz ≤ K.sz := by simpa using hj
  obtain ⟨r, hri, hc⟩ := hr.at hi
  have hc' : cellsOk A (splice r.1 j us) (K.pat z') := by rw [hu]; exact hc.splice (by rw [K.len]; omega)
  have hr' := hr.set (i := i.toNat) (x := K.raw hc') hc'
  refine so_take (SO.storeIP (K := K.ek) (z := r) (z' := K.raw hc') hz hri hx hy hl hm hj (fun u hu => List.all_eq_true.1 h1 u hu) rfl (so_put hr' ?_))
  intro a w h1 h2 h3 h4 h5
  obtain ⟨m, _, hmm⟩ := h4.head
  exact h _ hr' hmm.rdO a w h1 h2 h3 h4 h5
/-- One element, of which a row is built. -/
theorem SO.buildSliceR1 {α : Type} {K : EKR α} {E : TypeId} {A : HProp} {y : α} {d t ty : Nat} {parts : List (Nat × Operand)} {ps : List (Nat × Value)} {p : String} {af : Array Edge} {z : Value} {cs : List Value} (hd : Nat.blt d n = true) (ht : P.underlying t = some (.slice E)) (hs : ∀ w, (sizeOf E).run P w = .ok K.sz w) (hz : ∀ w, (zeroValue E).run P w = .ok z w)
    (hp : evp ρ parts = some ps) (hsmall : Nat.ble (1 * K.sz) 16777216 = true) (hfill : Instr.fill (fun i => some (i * K.sz, K.sz)) ((Array.range (1 * K.sz)).map (z.cells[· % z.cells.size]!)) ps = some cs.toArray) (hu : cellsOk A cs (K.pat y))
    (h : ∀ v, SO P n Z w0 ops l ((d, v) :: ρ) (OwnR E K v [y] :: rest)) : SO P n Z w0 ops (⟨some d, .buildSlice t 1 parts.toArray, ty, p, af, none⟩ :: l) ρ (A :: rest) :=
  SO.buildSliceR (raws := [K.raw hu]) hd ht hs hz hp hsmall rfl hfill (by rw [hu.length, K.len, Nat.one_mul]) (by simp [EKR.raw]) rfl ⟨rfl, fun i x y' h1 h2 => by
    cases i with
    | zero => simp at h1 h2; subst h1; subst h2; exact hu
    | succ i => simp at h1⟩ h
end
/-! Lists of lists that came in. -/
abbrev SV := {v : Value // v.oneCell' = true}
def ekS : EK SV := ⟨1, fun x => [x.1], fun _ => rfl, fun x v hv => by simp at hv; subst hv; exact x.2, by decide⟩
/-- A list of lists that may be read. -/
def Rd2 {α : Type} (K : EK α) (v : Value) (xss : List (List α)) (A : HProp) : Prop :=
  ∃ vs : List SV, Rd ekS v vs A ∧ vs.length = xss.length ∧ ∀ (i : Nat) (x : SV) (l : List α), vs[i]? = some x → xss[i]? = some l → Rd K x.1 l A
theorem Rd2.at_ {α : Type} {K : EK α} {xss : List (List α)} {A : HProp} {vs : List SV} {i : Int} {l : List α} (hl : vs.length = xss.length) (hR : ∀ (i : Nat) (x : SV) (l : List α), vs[i]? = some x → xss[i]? = some l → Rd K x.1 l A) (h : Go.Sl.at_ xss i = some l) : ∃ y : SV, Go.Sl.at_ vs i = some y ∧ Rd K y.1 l A := by
  obtain ⟨h1, h2, h3⟩ := at_spec h
  have h4 : vs[i.toNat]? = some (vs[i.toNat]'(by omega)) := List.getElem?_eq_getElem (by omega)
  refine ⟨vs[i.toNat]'(by omega), ?_, hR _ _ _ h4 h3⟩
  unfold Go.Sl.at_
  rw [decide_eq_true h1, cond_true, h4]
theorem opv_len2 {P : Program} {ρ : Env} {α : Type} {A : HProp} {vs : List SV} {xss : List (List α)} {v : Value} {x : Operand} {tys : Array TypeId} {t e : TypeId} (ht0 : tys[0]? = some t) (ht : P.underlying t = some (.slice e)) (hR : Rd ekS v vs A) (hl : vs.length = xss.length) (hx : ev ρ x = some v) :
    OpV P ρ (.call ⟨.builtin .len, #[x], tys⟩) (.int .i64 (xss.length : Int)) := by
  rw [← hl]; exact opv_lenR ht0 ht hR hx
theorem opv_pickB {P : Program} {ρ : Env} {c a b : Operand} {x y z : Bool} (hc : ev ρ c = some (.bool x)) (ha : ev ρ a = some (.bool y)) (hb : ev ρ b = some (.bool z)) : OpV P ρ (.pick c a b) (.bool (bif x then y else z)) := by
  cases x with
  | true => exact opv_pick_t' rfl hc ha
  | false => exact opv_pick_f' rfl hc hb
theorem opv_pickTF {P : Program} {ρ : Env} {c a b : Operand} {x : Bool} (hc : ev ρ c = some (.bool x)) (ha : ev ρ a = some (.bool true)) (hb : ev ρ b = some (.bool false)) : OpV P ρ (.pick c a b) (.bool x) := by
  cases x with
  | true => exact opv_pick_t' rfl hc ha
  | false => exact opv_pick_f' rfl hc hb
theorem Rd2.cov2 {α : Type} {K : EK α} {v : Value} {xss : List (List α)} {A A' : HProp} (h : Rd2 K v xss A) (c : Cov A' A) : Rd2 K v xss A' := by
  obtain ⟨vs, h1, h2, h3⟩ := h
  exact ⟨vs, h1.cov c, h2, fun i x l e1 e2 => (h3 i x l e1 e2).cov c⟩
/-- A row of lists, opened, may be read as such. -/
theorem Rd2.ofO {α : Type} {K : EK α} {E : TypeId} {v : Value} {raws : List (Raw (krS K).sz)} {A : HProp} {ys : List (List α)} (hr : relR (krS K) A raws ys) (hR : Rd (krS K).ek v raws (OwnO E (krS K) v raws A ys)) : Rd2 K v ys (OwnO E (krS K) v raws A ys) := by
  have one : ∀ r : Raw (krS K).sz, ∃ u, r.1 = [u] ∧ u.oneCell' = true := by
    intro r
    obtain ⟨l, hl, h1⟩ := r
    match l, hl with
    | [u], _ => exact ⟨u, rfl, h1 u List.mem_cons_self⟩
  let g : Raw (krS K).sz → SV := fun r => ⟨Classical.choose (one r), (Classical.choose_spec (one r)).2⟩
  have hg : ∀ r, r.1 = [(g r).1] := fun r => (Classical.choose_spec (one r)).1
  refine ⟨raws.map g, ?_, by simp [hr.1], fun i x l h1 h2 => ?_⟩
  · obtain ⟨a, cap, hv, h⟩ := hR
    refine ⟨a, cap, by simpa using hv, fun i x hx => ?_⟩
    simp only [List.getElem?_map, Option.map_eq_some_iff] at hx
    obtain ⟨r, hr1, rfl⟩ := hx
    obtain ⟨b, off, ha, h⟩ := h i r hr1
    refine ⟨b, off, ha, fun m hm => ?_⟩
    obtain ⟨all, E, fr, hb, hc⟩ := h m hm
    refine ⟨all, E, fr, hb, fun j hj => ?_⟩
    have := hc j hj
    rw [show ((krS K).ek.enc r) = r.1 from rfl, hg r] at this
    exact this
  · simp only [List.getElem?_map, Option.map_eq_some_iff] at h1
    obtain ⟨r, hr1, rfl⟩ := h1
    have := hr.2 i r l hr1 h2
    rw [hg r] at this
    exact Rd.pool this.1
theorem Rd2.head {α : Type} {K : EK α} {v : Value} {xss : List (List α)} {A : HProp} {l : List HProp} (h : Rd2 K v xss A) : Rd2 K v xss (stars (A :: l)) := Rd2.cov2 h Cov.head
theorem Rd2.tail {α : Type} {K : EK α} {v : Value} {xss : List (List α)} {A : HProp} {l : List HProp} (h : Rd2 K v xss (stars l)) : Rd2 K v xss (stars (A :: l)) := Rd2.cov2 h Cov.tail

/-! Arrays of four whole numbers. -/
structure A4 where
  a0 : Int
  a1 : Int
  a2 : Int
  a3 : Int
  deriving DecidableEq, Inhabited
def A4.get (a : A4) (i : Int) : Option Int := bif i == 0 then some a.a0 else bif i == 1 then some a.a1 else bif i == 2 then some a.a2 else bif i == 3 then some a.a3 else none
def A4.put (a : A4) (i x : Int) : A4 := bif i == 0 then { a with a0 := x } else bif i == 1 then { a with a1 := x } else bif i == 2 then { a with a2 := x } else { a with a3 := x }
theorem A4.get_cases {a : A4} {i x : Int} (h : a.get i = some x) : i = 0 ∧ x = a.a0 ∨ i = 1 ∧ x = a.a1 ∨ i = 2 ∧ x = a.a2 ∨ i = 3 ∧ x = a.a3 := by
  unfold A4.get at h
  cases h0 : i == 0 with
  | true => simp [h0] at h; left; simp at h0; exact ⟨h0, h.symm⟩
  | false =>
    simp only [h0, cond_false] at h
    cases h1 : i == 1 with
    | true => simp [h1] at h; right; left; simp at h1; exact ⟨h1, h.symm⟩
    | false =>
      simp only [h1, cond_false] at h
      cases h2 : i == 2 with
      | true => simp [h2] at h; right; right; left; simp at h2; exact ⟨h2, h.symm⟩
      | false =>
        simp only [h2, cond_false] at h
        cases h3 : i == 3 with
        | true => simp [h3] at h; right; right; right; simp at h3; exact ⟨h3, h.symm⟩
        | false => simp [h3] at h
def A4.chk (a : A4) (i : Int) : Option Unit := (a.get i).map fun _ => ()
theorem A4.range {a : A4} {i x : Int} (h : a.get i = some x) : 0 ≤ i ∧ i < 4 := by
  rcases A4.get_cases h with ⟨rfl, _⟩ | ⟨rfl, _⟩ | ⟨rfl, _⟩ | ⟨rfl, _⟩ <;> decide
section
variable {P : Program} {ρ : Env}
theorem opv_idxA {x y : Operand} {t e : TypeId} {ki : IntKind} {i z : Int} {b o : Nat} {a : A4} (ht : P.underlying t = some (.array 4 e)) (hz : ∀ w, (sizeOf e).run P w = .ok 1 w) (hx : ev ρ x = some (bp b o)) (hy : ev ρ y = some (.int ki i)) (ha : a.get i = some z) :
    OpV P ρ (.indexAddr t x y) (bp b (o + i.toNat)) := by
  obtain ⟨h0, h1⟩ := A4.range ha
  intro r w d t' p af g hr
  simp only [execOp, hr x _ hx, hr y _ hy, Instr.indexAt]
  simp only [Sem.run_bind, asIntOf, Sem.run_pure, Result.andThen_ok, run_underlying ht, bp, Instr.sureAddr]
  have h1' : i < ((4 : Nat) : Int) := h1
  simp only [h0, h1', and_self, if_true, Sem.run_bind, hz, Result.andThen_ok, Sem.run_pure, Addr.add]
  split
  · rename_i h; simp at h; simp [h]
  · simp
theorem opv_idxAI {α : Type} {K : EK α} {A : HProp} {v : Value} {xs : List α} {x y : Operand} {t e m : Nat} {ki : IntKind} {i z q : Int} {zz : α} {a : A4} (ht : P.underlying t = some (.array 4 e)) (hz : ∀ w, (sizeOf e).run P w = .ok 1 w) (hR : Rd K v xs A) (hq : at_ xs q = some zz) (hx : ev ρ x = some (idxp v m)) (hy : ev ρ y = some (.int ki i)) (ha : a.get i = some z) :
    OpV P ρ (.indexAddr t x y) (idxp v (m + i.toNat)) := by
  obtain ⟨a', cap, ⟨rfl, _⟩, hR⟩ := hR
  obtain ⟨b, off, rfl, _⟩ := hR _ _ (at_spec hq).2.2
  have := opv_idxA (b := b) (o := off + m) ht hz hx hy ha
  rw [Nat.add_assoc] at this
  exact this
end
/-! A slice's end, from a place on. -/
def slcV (v : Value) (lo sz : Nat) : Value :=
  match v with
  | .slice a len cap => .slice (if cap = lo then a else a.map (·.add (lo * sz))) (len - lo) (cap - lo)
  | _ => undef
def slcF {α : Type} (xs : List α) (lo : Int) : Option (List α) := bif decide (0 ≤ lo) && decide (lo ≤ (xs.length : Int)) then some (xs.drop lo.toNat) else none
theorem slcF_spec {α : Type} {xs zs : List α} {lo : Int} (h : slcF xs lo = some zs) : 0 ≤ lo ∧ lo ≤ (xs.length : Int) ∧ zs = xs.drop lo.toNat := by
  unfold slcF at h
  cases hd : (decide (0 ≤ lo) && decide (lo ≤ (xs.length : Int))) with
  | false => simp [hd] at h
  | true =>
    simp only [hd, cond_true] at h
    simp only [Bool.and_eq_true, decide_eq_true_eq] at hd
    injection h with h
    exact ⟨hd.1, hd.2, h.symm⟩
theorem Rd.slc {α : Type} {K : EK α} {v : Value} {xs zs : List α} {A : HProp} {lo : Int} (h : Rd K v xs A) (hz : slcF xs lo = some zs) : Rd K (slcV v lo.toNat K.sz) zs A := by
  obtain ⟨h0, h1, rfl⟩ := slcF_spec hz
  obtain ⟨a, cap, ⟨rfl, hle⟩, h⟩ := h
  refine ⟨(if cap = lo.toNat then a else a.map (·.add (lo.toNat * K.sz))), cap - lo.toNat, ⟨by simp only [slcV, List.length_drop], by simp only [List.length_drop]; omega⟩, fun i x hx => ?_⟩
  rw [List.getElem?_drop] at hx
  have hi : lo.toNat + i < xs.length := by
    rcases Nat.lt_or_ge (lo.toNat + i) xs.length with h' | h'
    · exact h'
    · rw [List.getElem?_eq_none h'] at hx; cases hx
  obtain ⟨b, off, rfl, h9⟩ := h _ x hx
  refine ⟨b, off + lo.toNat * K.sz, ?_, fun m hm => ?_⟩
  · rw [if_neg (by omega), Option.map_some, Addr.add]
    split
    · rename_i h; simp [h]
    · rfl
  · obtain ⟨all, E, fr, hb, hc⟩ := h9 m hm
    refine ⟨all, E, fr, hb, fun j hj => ?_⟩
    rw [← hc j hj]; congr 1; rw [Nat.add_mul]; omega
theorem opv_slcLo {P : Program} {ρ : Env} {α : Type} {K : EK α} {v : Value} {xs zs : List α} {A : HProp} {lo : Int} {ki : IntKind} {x y : Operand} {t e : TypeId} (ht : P.underlying t = some (.slice e)) (hs : ∀ w, (sizeOf e).run P w = .ok K.sz w) (hR : Rd K v xs A) (hz : slcF xs lo = some zs) (hx : ev ρ x = some v) (hy : ev ρ y = some (.int ki lo)) :
    OpV P ρ (.slice t x (some y) none none) (slcV v lo.toNat K.sz) := by
  obtain ⟨h0, h1, rfl⟩ := slcF_spec hz
  obtain ⟨a, cap, ⟨rfl, hle⟩, _⟩ := hR
  intro r w d t' p af g hr
  simp [execOp, hr x _ hx, hr y _ hy, Instr.sliceAt, Instr.slice, Instr.sliceBounds, Instr.sliceBound, run_underlying ht, hs, asIntOf, h0, h1, slcV]
theorem all1 {v : Value} {l : List Value} (h : v.oneCell' = true) (k : l.all Value.oneCell' = true) : (v :: l).all Value.oneCell' = true := by
  rw [List.all_cons, h, k]; rfl
section
variable {P : Program} {f : FuncId} {n : Nat} {Z : Act → World → Prop} {w0 : World} {ρ : Env} {rest : List HProp} {ops : Array Oper} {l : List Oper}
variable {α : Type} {K : EKR α} {E : TypeId} {v : Value} {raws : List (Raw K.sz)} {A : HProp} {ys : List α}
theorem SO.oneO (h : v.oneCell' = true → SO P n Z w0 ops l ρ (OwnO E K v raws A ys :: rest)) : SO P n Z w0 ops l ρ (OwnO E K v raws A ys :: rest) := by
  intro a w h1 h2 h3 h4 h5
  obtain ⟨m, _, hm⟩ := h4.head
  exact h (Rd.one hm.rdO) a w h1 h2 h3 h4 h5
theorem S.rdO {f : FuncId} {R : Ending → World → Prop} {k : List Item} (h : relR K A raws ys → Rd K.ek v raws (OwnO E K v raws A ys) → S P f n R w0 k ρ (OwnO E K v raws A ys :: rest)) : S P f n R w0 k ρ (OwnO E K v raws A ys :: rest) := by
  intro a w h1 h2 h3 h4 h5
  obtain ⟨m, _, hm⟩ := h4.head
  exact h hm.2 hm.rdO a w h1 h2 h3 h4 h5
theorem SO.oneR (h : v.oneCell' = true → SO P n Z w0 ops l ρ (OwnR E K v ys :: rest)) : SO P n Z w0 ops l ρ (OwnR E K v ys :: rest) := by
  intro a w h1 h2 h3 h4 h5
  obtain ⟨raws, A, hr, hR, hs⟩ := sat_open h4
  exact h (Rd.one hR) a w h1 h2 h3 h4 h5
theorem opv_eqlP {b : Nat} {x : Operand} {t t2 : TypeId} {e : TypeId} (ht : P.underlying t = some (.pointer e)) (hx : ev ρ x = some (bp b 0)) : OpV P ρ (.binOp .eql t x (.const (.pointer none)) t2) (.bool false) :=
  fun r w d t' p af g hr => by
    have h0 : r (.const (.pointer none)) = .pointer none := hr _ _ rfl
    have key : ∀ d, (Op.equalIn (d + 2) t (bp b 0) (.pointer none)).run P w = .ok false w := fun d => by simp [Op.equalIn, run_underlying ht, bp]
    simp [execOp, hr x _ hx, h0, eqGuard, binOp, eql_run w key]
theorem opv_neqP {b : Nat} {x : Operand} {t t2 : TypeId} {e : TypeId} (ht : P.underlying t = some (.pointer e)) (hx : ev ρ x = some (bp b 0)) : OpV P ρ (.binOp .neq t x (.const (.pointer none)) t2) (.bool true) :=
  fun r w d t' p af g hr => by
    have h0 : r (.const (.pointer none)) = .pointer none := hr _ _ rfl
    have key : ∀ d, (Op.equalIn (d + 2) t (bp b 0) (.pointer none)).run P w = .ok false w := fun d => by simp [Op.equalIn, run_underlying ht, bp]
    simp [execOp, hr x _ hx, h0, eqGuard, binOp, eql_run w key]
end
theorem SO.cutG {P : Program} {n : Nat} {Z : Act → World → Prop} {w0 : World} {ρ : Env} {H : List HProp} {ops : Array Oper} {l : List Oper} {G : Type} (m : Nat) (d : Nat) (v : Value) (H2 : G → List HProp) (h1 : ∀ l2, (∀ g, SO P n Z w0 ops l2 ((d, v) :: ρ) (H2 g)) → SO P n Z w0 ops (l.take m ++ l2) ρ H) (h2 : ∀ g, SO P n Z w0 ops (l.drop m) ((d, v) :: ρ) (H2 g)) : SO P n Z w0 ops l ρ H := by
  have := h1 _ h2
  rwa [List.take_append_drop] at this
/-! 'copy': the first elements of another slice. -/
def cpy {α : Type} (xs ys : List α) : List α := ys.take xs.length ++ xs.drop ys.length
theorem EK.flat_take {α : Type} (K : EK α) : ∀ (xs : List α) (n : Nat), K.flat (xs.take n) = (K.flat xs).take (n * K.sz)
  | [], n => by simp [EK.flat]
  | x :: l, 0 => by simp [EK.flat]
  | x :: l, n + 1 => by
    have ih := EK.flat_take K l n
    have hl := K.len x
    simp only [EK.flat, List.take_succ_cons, List.flatMap_cons] at *
    rw [ih, show (n + 1) * K.sz = (K.enc x).length + n * K.sz by rw [hl, Nat.add_mul]; omega, List.take_length_add_append]
theorem EK.flat_drop {α : Type} (K : EK α) : ∀ (xs : List α) (n : Nat), K.flat (xs.drop n) = (K.flat xs).drop (n * K.sz)
  | [], n => by simp [EK.flat]
  | x :: l, 0 => by simp [EK.flat]
  | x :: l, n + 1 => by
    have ih := EK.flat_drop K l n
    have hl := K.len x
    simp only [EK.flat, List.drop_succ_cons, List.flatMap_cons] at *
    rw [ih, show (n + 1) * K.sz = (K.enc x).length + n * K.sz by rw [hl, Nat.add_mul]; omega, List.drop_length_add_append]
theorem Rd.cells {α : Type} {K : EK α} {u : Value} {ys : List α} {l : List HProp} {w : World} (hR : Rd K u ys (stars l)) (hs : Sat w l) : ∃ a cap, u = .slice a ys.length cap ∧ (ys ≠ [] → ∃ b off, a = some ⟨b, off, none⟩ ∧ ∀ j, j < ys.length * K.sz → w.cell? ⟨b, off + j, none⟩ = (K.flat ys)[j]?) := by
  obtain ⟨a, cap, ⟨rfl, _⟩, hR⟩ := hR
  refine ⟨a, cap, rfl, fun hy0 => ?_⟩
  obtain ⟨y0, hy1⟩ : ∃ y0, ys[0]? = some y0 := by cases ys with | nil => exact absurd rfl hy0 | cons a l => exact ⟨a, rfl⟩
  obtain ⟨b, off, rfl, _⟩ := hR 0 y0 hy1
  refine ⟨b, off, rfl, fun j hjl => ?_⟩
  have hdm : j = (j / K.sz) * K.sz + j % K.sz := by rw [Nat.mul_comm]; exact (Nat.div_add_mod j K.sz).symm
  have hmod : j % K.sz < K.sz := Nat.mod_lt _ K.pos
  have hdl : j / K.sz < ys.length := Nat.div_lt_of_lt_mul (by rw [Nat.mul_comm]; exact hjl)
  obtain ⟨b', off', e1, hR1⟩ := hR (j / K.sz) ys[j / K.sz] (List.getElem?_eq_getElem hdl)
  injection e1 with e1; injection e1 with e1 e2 _; subst e1; subst e2
  obtain ⟨all, E, fr, hb, hc⟩ := hR1 _ hs
  have hc1 := hc (j % K.sz) hmod
  rw [← EK.flat_get K ys _ _ _ (List.getElem?_eq_getElem hdl) hmod, ← hdm] at hc1
  have hbw : w.heap[b]? = some (.cells all E fr) := hb
  rw [cell_of_blk hbw, hc1]
section
variable {P : Program} {n : Nat} {Z : Act → World → Prop} {w0 : World} {ρ : Env} {rest : List HProp} {ops : Array Oper} {l : List Oper}
theorem copy_run {α : Type} {K : EK α} {v u : Value} {xs ys : List α} {E t s ty : TypeId} {w : World} (ht : P.underlying t = some (.slice E)) (hz : ∀ w, (sizeOf E).run P w = .ok K.sz w) (hR : Rd K u ys (stars rest)) (hs : Sat w (Own E K v xs :: rest)) :
    ∃ w', (Builtin.copy_ #[t, s] ty #[v, u]).run P w = .ok (.int .i64 (min ys.length xs.length : Nat)) w' ∧ Sat w' (Own E K v (cpy xs ys) :: rest) ∧ Keep w w' := by
  obtain ⟨a, cap, rfl, hcell⟩ := hR.cells hs.drop
  by_cases hne : xs = []
  · subst hne
    have e0 : cpy ([] : List α) ys = [] := by simp [cpy]
    rw [e0]
    refine ⟨w, ?_, hs, .refl w⟩
    obtain ⟨m, hm, hown⟩ := hs.head
    have hv : ∃ d c, v = .slice d 0 c := by
      rcases hown with ⟨rfl, _⟩ | ⟨g, c, cur, rfl, _⟩
      · exact ⟨_, _, rfl⟩
      · exact ⟨_, _, rfl⟩
    obtain ⟨d, c, rfl⟩ := hv
    cases a <;> cases d <;> simp [Builtin.copy_, run_underlying ht, Builtin.lenOf, Builtin.firstCells, hz, storeCells, loadCells, loadCellsFrom, goInt]
  · obtain ⟨mm, hmm, hown⟩ := hs.head
    rcases hown with ⟨_, rfl⟩ | ⟨g, cp, cur, rfl, hg, hle, hcap, hsz, hcur⟩
    · exact absurd rfl hne
    have hg := hmm _ _ hg
    have hszl : xs.length * K.sz ≤ cp * K.sz := Nat.mul_le_mul_right _ hle
    let k := Nat.min ys.length xs.length
    let vs := K.flat (ys.take xs.length)
    have hvl : vs.length = k * K.sz := by
      show (K.flat (ys.take xs.length)).length = _
      rw [EK.length_flat, List.length_take]; congr 1; exact Nat.min_comm _ _
    have hkx : k * K.sz ≤ xs.length * K.sz := Nat.mul_le_mul_right _ (Nat.min_le_right _ _)
    have hky : k * K.sz ≤ ys.length * K.sz := Nat.mul_le_mul_right _ (Nat.min_le_left _ _)
    obtain ⟨w', c', hrun, hb', hs', ho, hn, hq, hk⟩ := storeCells_run (P := P) (b := g) (o := 0) vs 0 w cur E hg (fun u hu => K.flat_one u hu) (by omega)
    have hfirst : (Builtin.firstCells K.sz k (.slice a ys.length cap)).run P w = .ok vs.toArray w := by
      by_cases hy0 : ys = []
      · subst hy0
        have hk0 : k = 0 := by show Nat.min 0 _ = 0; simp
        have hv0 : vs = [] := List.eq_nil_of_length_eq_zero (by rw [hvl, hk0, Nat.zero_mul])
        rw [hv0, hk0]
        cases a <;> simp [Builtin.firstCells, loadCells, loadCellsFrom]
      · obtain ⟨b, off, rfl, hc⟩ := hcell hy0
        simp only [Builtin.firstCells]
        refine loadCells_run hvl fun j hj => ?_
        rw [hc j (by omega)]
        show _ = (K.flat (ys.take xs.length))[j]?
        rw [EK.flat_take, List.getElem?_take_of_lt (by omega)]
    refine ⟨w', ?_, ?_, hk⟩
    · have hk2 : min ys.length xs.length = k := rfl
      have hk3 : Nat.min ys.length xs.length = k := rfl
      have hst : (storeCells ⟨g, 0, none⟩ vs).run P w = .ok () w' := hrun
      simp [Builtin.copy_, run_underlying ht, Builtin.lenOf, hz, hk3, hfirst, hst, goInt, hk2]
    · refine Own.put hs (fun g2 cap2 cur2 hv2 hg2 _ hsz2 hcur2 => ?_) (by simp [cpy]; omega) hne
      injection hv2 with e1 _ _; injection e1 with e1; injection e1 with e1 _ _; subst e1
      have : cur2 = cur := by
        have h9 : some (Obj.cells cur2 E) = some (Obj.cells cur E) := hg2.symm.trans hg
        injection h9 with h9; injection h9
      subst this
      refine ⟨c', hb', hs', ?_, hq⟩
      rw [cpy, EK.flat_append, EK.flat_drop, ← hcur2]
      apply List.ext_getElem?
      intro q
      rcases Nat.lt_or_ge q (k * K.sz) with hq1 | hq1
      · rw [List.getElem?_take_of_lt (by omega), List.getElem?_append_left (by show q < vs.length; omega)]
        simp only [Array.getElem?_toList]
        rw [← hn q (by omega)]; congr 1; omega
      · rw [List.getElem?_append_right (by show vs.length ≤ q; omega)]
        have hlen : (K.flat (ys.take xs.length)).length = k * K.sz := hvl
        rw [hlen]
        rcases Nat.lt_or_ge q (xs.length * K.sz) with hq2 | hq2
        · have hkeq : k = ys.length := by
            rcases Nat.lt_or_ge ys.length xs.length with h | h
            · exact Nat.min_eq_left (Nat.le_of_lt h)
            · have : k = xs.length := Nat.min_eq_right h
              rw [this] at hq1; omega
          rw [List.getElem?_take_of_lt hq2, List.getElem?_drop, ← hkeq, List.getElem?_take_of_lt (by omega)]
          simp only [Array.getElem?_toList]
          rw [ho q (by omega)]; congr 1; omega
        · rw [List.getElem?_eq_none (by simp; omega), List.getElem?_eq_none (by simp; omega)]
theorem SO.copy0 {α : Type} {K : EK α} {v u : Value} {xs ys : List α} {E t s ty : TypeId} {x y : Operand} {p : String} {af : Array Edge} (ht : P.underlying t = some (.slice E)) (hz : ∀ w, (sizeOf E).run P w = .ok K.sz w) (hx : ev ρ x = some v) (hy : ev ρ y = some u) (hR : Rd K u ys (stars rest))
    (h : SO P n Z w0 ops l ρ (Own E K v (cpy xs ys) :: rest)) : SO P n Z w0 ops (⟨none, .call ⟨.builtin .copy, #[x, y], #[t, s]⟩, ty, p, af, none⟩ :: l) ρ (Own E K v xs :: rest) := by
  intro a w h1 h2 h3 h4 h5
  obtain ⟨w', hr, hs, hk⟩ := copy_run (P := P) (s := s) (ty := ty) ht hz hR h4
  refine wpList_plain rfl fun Q hQ => ?_
  unfold Oper.wp
  have : (execOp a.eval ⟨none, .call ⟨.builtin .copy, #[x, y], #[t, s]⟩, ty, p, af, none⟩).run P w = .ok (.value (.int .i64 (min ys.length xs.length : Nat))) w' := by
    simp [execOp, resolve, Go.invoke, Go.builtin, h2.ev hx, h2.ev hy, hr]
  rw [this]
  exact hQ _ _ (h a w' h1 h2 h3 hs (h5.trans hk))
theorem SO.copy {α : Type} {K : EK α} {v u : Value} {xs ys : List α} {d E t s ty : TypeId} {x y : Operand} {p : String} {af : Array Edge} (hd : Nat.blt d n = true) (ht : P.underlying t = some (.slice E)) (hz : ∀ w, (sizeOf E).run P w = .ok K.sz w) (hx : ev ρ x = some v) (hy : ev ρ y = some u) (hR : Rd K u ys (stars rest))
    (h : SO P n Z w0 ops l ((d, .int .i64 (min ys.length xs.length : Nat)) :: ρ) (Own E K v (cpy xs ys) :: rest)) : SO P n Z w0 ops (⟨some d, .call ⟨.builtin .copy, #[x, y], #[t, s]⟩, ty, p, af, none⟩ :: l) ρ (Own E K v xs :: rest) := by
  refine .raw hd fun r w hr hs => ?_
  obtain ⟨w', hrun, hs', hk⟩ := copy_run (P := P) (s := s) (ty := ty) ht hz hR hs
  refine ⟨_, w', ρ, _, ?_, hs', hk, h, fun _ h => h⟩
  simp [execOp, resolve, Go.invoke, Go.builtin, hr x _ hx, hr y _ hy, hrun]
end
end Go.Sl
