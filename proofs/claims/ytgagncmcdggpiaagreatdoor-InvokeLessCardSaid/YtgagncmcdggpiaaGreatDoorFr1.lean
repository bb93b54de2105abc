/- The resource logic, parts SlRich, SlDel, SlNil, SlMap, SlRange, SlKeys, SlMapO, SlPtr, SlDr2, SlMapL, SlShort, SlLaw, SlNum, SlBits, Pz5MapL. On no condition. -/
import Derived.Test.YtgagncmcdggpiaaGreatDoorFr0
import Derived.MapKept
import Derived.Carry
import Derived.Shelf.SlIterI.Sorted
import Derived.ProofKit
import Derived.OpenShut
import Derived.JoinedOf
set_option linter.all false
namespace Go.Sl
open Go.RowKit
inductive CellP where
 | val (v : Value)
 | sl {β : Type} (K : EK β) (xs : List β)
def CellP.ok (A : HProp) (u : Value) : CellP → Prop
 | .val v => u = v
 | .sl K xs => Rd K u xs A
def cellsOk (A : HProp) : List Value → List CellP → Prop
 | [], [] => True
 | u :: us, p :: ps => p.ok A u ∧ cellsOk A us ps
 | _, _ => False
def Cov (A' A : HProp) : Prop := ∀ m, A' m → ∃ m', PH.Sub m' m ∧ A m'
theorem Cov.head {A : HProp} {l : List HProp} : Cov (stars (A :: l)) A := fun _ ⟨m1, _, _, s1, _, a, _⟩ => ⟨m1, s1, a⟩
theorem Cov.tail {A : HProp} {l : List HProp} : Cov (stars (A :: l)) (stars l) := fun m h => ⟨m, .refl _, stars_drop h⟩
theorem Cov.trans {A B C : HProp} (h : Cov A B) (k : Cov B C) : Cov A C := fun m hm => by
 obtain ⟨m1, s1, h1⟩ := h m hm
 obtain ⟨m2, s2, h2⟩ := k m1 h1
 exact ⟨m2, s2.trans s1, h2⟩
theorem Rd.cov {α : Type} {K : EK α} {v : Value} {xs : List α} {A A' : HProp} (h : Rd K v xs A) (c : Cov A' A) : Rd K v xs A' := by
 obtain ⟨a, cap, hv, h⟩ := h
 refine ⟨a, cap, hv, fun i x hx => ?_⟩
 obtain ⟨b, off, ha, h⟩ := h i x hx
 refine ⟨b, off, ha, fun m hm => ?_⟩
 obtain ⟨m', s, hm'⟩ := c m hm
 obtain ⟨all, E, fr, hb, hc⟩ := h m' hm'
 exact ⟨all, E, fr, s _ _ hb, hc⟩
theorem Rd.nil0 {α : Type} {K : EK α} {A : HProp} : Rd K (.slice none 0 0) ([] : List α) A := ⟨none, 0, ⟨rfl, Nat.le_refl _⟩, fun _ _ h => by simp at h⟩
theorem Rd.one {α : Type} {K : EK α} {v : Value} {xs : List α} {A : HProp} (h : Rd K v xs A) : v.oneCell' = true := by
 obtain ⟨a, cap, ⟨rfl, _⟩, _⟩ := h; rfl
theorem CellP.ok.cov {A A' : HProp} {u : Value} {p : CellP} (h : p.ok A u) (c : Cov A' A) : p.ok A' u := by
 cases p with
 | val v => exact h
 | sl K xs => exact Rd.cov h c
theorem cellsOk.cov {A A' : HProp} (c : Cov A' A) : ∀ {us : List Value} {ps : List CellP}, cellsOk A us ps → cellsOk A' us ps
 | [], [], _ => trivial
 | _ :: _, _ :: _, ⟨h, k⟩ => ⟨h.cov c, cellsOk.cov c k⟩
 | [], _ :: _, h => h.elim
 | _ :: _, [], h => h.elim
theorem cellsOk.length {A : HProp} : ∀ {us : List Value} {ps : List CellP}, cellsOk A us ps → us.length = ps.length
 | [], [], _ => rfl
 | _ :: _, _ :: _, ⟨_, k⟩ => by simp [cellsOk.length k]
 | [], _ :: _, h => h.elim
 | _ :: _, [], h => h.elim
theorem cellsOk.set {A : HProp} : ∀ {us : List Value} {ps : List CellP}, cellsOk A us ps → ∀ {j : Nat} {u : Value} {p : CellP}, p.ok A u → cellsOk A (us.set j u) (ps.set j p)
 | u :: us, p :: ps, ⟨h, k⟩, 0, _, _, e => ⟨e, k⟩
 | u :: us, p :: ps, ⟨h, k⟩, j + 1, _, _, e => ⟨h, cellsOk.set k e⟩
 | [], [], _, _, _, _, _ => trivial
 | [], _ :: _, h, _, _, _, _ => h.elim
 | _ :: _, [], h, _, _, _, _ => h.elim
def AllC (A : HProp) : List CellP → (List Value → Prop) → Prop
 | [], Q => Q []
 | .val v :: ps, Q => AllC A ps fun us => Q (v :: us)
 | .sl K xs :: ps, Q => ∀ u, Rd K u xs A → AllC A ps fun us => Q (u :: us)
theorem AllC.of {A : HProp} : ∀ (ps : List CellP) (Q : List Value → Prop) (us : List Value), AllC A ps Q → cellsOk A us ps → Q us
 | [], _, [], h, _ => h
 | .val _ :: ps, Q, _ :: us, h, ⟨e, k⟩ => by cases e; exact AllC.of ps (fun us => Q (_ :: us)) us h k
 | .sl _ _ :: ps, Q, u :: us, h, ⟨e, k⟩ => AllC.of ps (fun us => Q (u :: us)) us (h u e) k
 | [], _, _ :: _, _, h => h.elim
 | _ :: _, _, [], _, h => h.elim
theorem cellsOk.rip {A : HProp} {us : List Value} {ps : List CellP} {G : Prop} (h : cellsOk A us ps) (k : AllC A ps fun l => us = l → G) : G := AllC.of ps _ us k h rfl
structure EKR (α : Type) where
 sz : Nat
 pat : α → List CellP
 len : ∀ x, (pat x).length = sz
 one : ∀ x v, CellP.val v ∈ pat x → v.oneCell' = true
 pos : 0 < sz
abbrev Raw (n : Nat) := {l : List Value // l.length = n ∧ ∀ v ∈ l, v.oneCell' = true}
def ekRaw (n : Nat) (h : 0 < n) : EK (Raw n) := ⟨n, fun x => x.1, fun x => x.2.1, fun x => x.2.2, h⟩
abbrev EKR.ek {α : Type} (K : EKR α) : EK (Raw K.sz) := ekRaw K.sz K.pos
theorem cellsOk.ones {A : HProp} : ∀ {us : List Value} {ps : List CellP}, cellsOk A us ps → (∀ v, CellP.val v ∈ ps → v.oneCell' = true) → ∀ v ∈ us, v.oneCell' = true
 | [], _, _, _ => by simp
 | u :: us, p :: ps, ⟨h, k⟩, h1 => by
  intro v hv
  rcases List.mem_cons.1 hv with rfl | hv
  ·cases p with
   | val w => cases h; exact h1 _ List.mem_cons_self
   | sl K xs => exact Rd.one h
  ·exact cellsOk.ones k (fun v hv => h1 v (List.mem_cons_of_mem _ hv)) v hv
 | _ :: _, [], h, _ => h.elim
def EKR.raw {α : Type} (K : EKR α) {A : HProp} {us : List Value} {y : α} (h : cellsOk A us (K.pat y)) : Raw K.sz := ⟨us, by rw [h.length, K.len], h.ones (K.one y)⟩
def relR {α : Type} (K : EKR α) (A : HProp) (raws : List (Raw K.sz)) (ys : List α) : Prop :=
 raws.length = ys.length ∧ ∀ (i : Nat) (x : Raw K.sz) (y : α), raws[i]? = some x → ys[i]? = some y → cellsOk A x.1 (K.pat y)
def OwnO {α : Type} (E : TypeId) (K : EKR α) (v : Value) (raws : List (Raw K.sz)) (A : HProp) (ys : List α) : HProp := fun m => stars [Own E K.ek v raws, A] m ∧ relR K A raws ys
def OwnR {α : Type} (E : TypeId) (K : EKR α) (v : Value) (ys : List α) : HProp := fun m => ∃ raws A, OwnO E K v raws A ys m
section
variable {α : Type} {K : EKR α} {E : TypeId} {v : Value} {raws : List (Raw K.sz)} {A : HProp} {ys : List α}
theorem relR.cov {A' : HProp} (h : relR K A raws ys) (c : Cov A' A) : relR K A' raws ys := ⟨h.1, fun i x y h1 h2 => (h.2 i x y h1 h2).cov c⟩
theorem relR.at {i : Int} {y : α} (h : relR K A raws ys) (hy : at_ ys i = some y) : ∃ x : Raw K.sz, at_ raws i = some x ∧ cellsOk A x.1 (K.pat y) := by
 obtain ⟨h1, h2, h3⟩ := at_spec hy
 have hl := h.1
 have h4 : raws[i.toNat]? = some (raws[i.toNat]'(by omega)) := List.getElem?_eq_getElem (by omega)
 refine ⟨raws[i.toNat]'(by omega), ?_, h.2 _ _ _ h4 h3⟩
 unfold Go.Sl.at_
 rw [decide_eq_true h1, cond_true, h4]
theorem relR.set {i : Nat} {x : Raw K.sz} {y : α} (h : relR K A raws ys) (hx : cellsOk A x.1 (K.pat y)) : relR K A (raws.set i x) (ys.set i y) := by
 refine ⟨by simp [h.1], fun j a b h1 h2 => ?_⟩
 by_cases e : i = j
 ·subst e
  have hl : i < raws.length := by
   rcases Nat.lt_or_ge i raws.length with h' | h'
   ·exact h'
   ·rw [List.getElem?_eq_none (by simpa using h')] at h1; cases h1
  rw [List.getElem?_set_self hl] at h1
  rw [List.getElem?_set_self (by rw [← h.1]; exact hl)] at h2
  cases h1; cases h2; exact hx
 ·rw [List.getElem?_set_ne e] at h1 h2
  exact h.2 j a b h1 h2
theorem OwnO.rdO {m : PH} (h : OwnO E K v raws A ys m) : Rd K.ek v raws (OwnO E K v raws A ys) := by
 obtain ⟨⟨m1, m2, d, s1, s2, a, b⟩, hr⟩ := h
 exact a.rd.cov fun m h => Cov.head m h.1
theorem covP : Cov (OwnO E K v raws A ys) A := fun m h => (Cov.tail.trans (Cov.head (l := []))) m h.1
theorem Rd.pool {β : Type} {K' : EK β} {u : Value} {xs : List β} (h : Rd K' u xs A) : Rd K' u xs (OwnO E K v raws A ys) := h.cov covP
end
theorem stars_singleton {A : HProp} {m : PH} (h : A m) : stars [A] m := ⟨m, fun _ => none, fun _ => .inr rfl, .refl _, fun _ _ e => by simp at e, h, trivial⟩
theorem Sat.swapN {w : World} {l1 l1' l2 : List HProp} (h : Sat w (l1 ++ l2)) (k : ∀ m, stars l1 m → stars l1' m) : Sat w (l1' ++ l2) := by
 obtain ⟨m1, m2, d, s1, s2, a, b⟩ := (stars_append _ _ _).1 h
 exact (stars_append _ _ _).2 ⟨m1, m2, d, s1, s2, k _ a, b⟩
section
variable {P : Program} {f : FuncId} {n : Nat} {Z : Act → World → Prop} {R : Ending → World → Prop} {w0 : Beg} {k : List Item} {ρ ρ' : Env} {H H' pre rest : List HProp} {ops : Array Oper} {l : List Oper}
variable {α : Type} {K : EKR α} {E : TypeId} {v : Value} {raws : List (Raw K.sz)} {A : HProp} {ys : List α}
theorem sat_open {w : World} (h : Sat w (OwnR E K v ys :: rest)) : ∃ raws A, relR K A raws ys ∧ Rd K.ek v raws (OwnO E K v raws A ys) ∧ Sat w (OwnO E K v raws A ys :: rest) := by
 obtain ⟨m1, m2, d, s1, s2, ⟨raws, A, a⟩, b⟩ := h
 exact ⟨raws, A, a.2, a.rdO, m1, m2, d, s1, s2, a, b⟩
theorem SO.openR (h : ∀ raws A, relR K A raws ys → Rd K.ek v raws (OwnO E K v raws A ys) → SO P n Z w0 ops l ρ (OwnO E K v raws A ys :: rest)) : SO P n Z w0 ops l ρ (OwnR E K v ys :: rest) := by
 intro a w h1 h2 h3 h4 h5
 obtain ⟨raws, A, hr, hR, hs⟩ := sat_open h4
 exact h raws A hr hR a w h1 h2 h3 hs h5
theorem S.openR (h : ∀ raws A, relR K A raws ys → Rd K.ek v raws (OwnO E K v raws A ys) → S P f n R w0 k ρ (OwnO E K v raws A ys :: rest)) : S P f n R w0 k ρ (OwnR E K v ys :: rest) := by
 intro a w h1 h2 h3 h4 h5
 obtain ⟨raws, A, hr, hR, hs⟩ := sat_open h4
 exact h raws A hr hR a w h1 h2 h3 hs h5
theorem SO.closeR (h : SO P n Z w0 ops l ρ (OwnR E K v ys :: rest)) : SO P n Z w0 ops l ρ (OwnO E K v raws A ys :: rest) := h.sat fun _ s => s.weaken fun _ h => ⟨_, _, h⟩
theorem S.closeR (h : S P f n R w0 k ρ (OwnR E K v ys :: rest)) : S P f n R w0 k ρ (OwnO E K v raws A ys :: rest) := h.sat fun _ s => s.weaken fun _ h => ⟨_, _, h⟩
theorem OwnR.nil (m : PH) : OwnR E K (.slice none 0 0) ([] : List α) m := ⟨[], fun _ => True, ⟨fun _ => none, fun _ => none, fun _ => .inl rfl, fun _ _ e => by simp at e, fun _ _ e => by simp at e, Own.nil _ _ _, stars_singleton trivial⟩, rfl, fun _ _ _ h => by simp at h⟩
theorem S.newOwnR (E : TypeId) (K : EKR α) (h : S P f n R w0 k ρ (OwnR E K (.slice none 0 0) ([] : List α) :: H)) : S P f n R w0 k ρ H :=
 h.sat fun w s => show stars (OwnR E K (.slice none 0 0) ([] : List α) :: H) (hp w) from ⟨fun _ => none, hp w, fun _ => .inl rfl, fun _ _ e => by simp at e, .refl _, OwnR.nil _, s⟩
theorem SO.freeze {E' : TypeId} {β : Type} {K' : EK β} {u : Value} {xs : List β} (hr : relR K A raws ys)
  (h : ∀ A', Cov A' A → Rd K' u xs A' → relR K A' raws ys → Rd K.ek v raws (OwnO E K v raws A' ys) → SO P n Z w0 ops l ρ (OwnO E K v raws A' ys :: rest)) : SO P n Z w0 ops l ρ (Own E' K' u xs :: OwnO E K v raws A ys :: rest) := by
 intro a w h1 h2 h3 h4 h5
 have h6 : Sat w ([OwnO E K v raws (stars [Own E' K' u xs, A]) ys] ++ rest) := Sat.swapN (l1 := [Own E' K' u xs, OwnO E K v raws A ys]) h4 fun m hm => by
  obtain ⟨m1, m2, d, s1, s2, a, n1, n2, e, t1, t2, ⟨⟨p1, p2, pd, q1, q2, c1, r1, r2, rd, u1, u2, c2, _⟩, hr⟩, _⟩ := hm
  refine stars_singleton ⟨⟨p1, m1.un r1, ?_, q1.trans (t1.trans s2), PH.un_sub s1 (u1.trans (q2.trans (t1.trans s2))), c1, stars_singleton ⟨m1, r1, ?_, PH.sub_un_l _ _, PH.sub_un_r ?_, a, stars_singleton c2⟩⟩, hr.cov (Cov.tail.trans (Cov.head (l := [])))⟩
  ·refine PH.Dj.symm (PH.Dj.un ?_ ?_)
   ·exact d.sub (.refl _) (q1.trans t1)
   ·exact (pd.sub (.refl _) u1).symm
  ·exact d.sub (.refl _) (u1.trans (q2.trans t1))
  ·exact d.sub (.refl _) (u1.trans (q2.trans t1))
 have hR : Rd K' u xs (stars [Own E' K' u xs, A]) := by
  obtain ⟨m1, _, a⟩ := h4.head
  exact Rd.head a.rd
 have hc : Cov (stars [Own E' K' u xs, A]) A := Cov.tail.trans (Cov.head (l := []))
 obtain ⟨m, _, hm⟩ := h6.head
 exact h _ hc hR (hr.cov hc) hm.rdO a w h1 h2 h3 h6 h5
theorem so_put {raws' : List (Raw K.sz)} {ys' : List α} (hr : relR K A raws' ys') (h : SO P n Z w0 ops l ρ (OwnO E K v raws' A ys' :: rest)) : SO P n Z w0 ops l ρ (Own E K.ek v raws' :: A :: rest) :=
 h.sat fun w s => Sat.swapN (l1 := [Own E K.ek v raws', A]) (l1' := [OwnO E K v raws' A ys']) s fun m hm => stars_singleton ⟨hm, hr⟩
theorem so_take (h : SO P n Z w0 ops l ρ (Own E K.ek v raws :: A :: rest)) : SO P n Z w0 ops l ρ (OwnO E K v raws A ys :: rest) :=
 h.sat fun w s => Sat.swapN (l1 := [OwnO E K v raws A ys]) (l1' := [Own E K.ek v raws, A]) s fun m hm => by
  obtain ⟨m1, m2, d, s1, s2, a, _⟩ := hm
  exact stars_mono _ s1 a.1
theorem SO.storeO1 {t ty m j : Nat} {x y : Operand} {p : String} {af : Array Edge} {u : Value} {q : CellP} {i : Int} {z z' : α} (hz : ∀ w, (sizeOf t).run P w = .ok 1 w) (hr : relR K A raws ys) (hi : at_ ys i = some z) (hx : ev ρ x = some (idxp v m)) (hy : ev ρ y = some u) (h1 : u.oneCell' = true) (hm : i.toNat * K.sz + j = m) (hj : Nat.blt j K.sz = true) (hu : K.pat z' = (K.pat z).set j q) (hq : q.ok A u)
  (h : ∀ raws', relR K A raws' (ys.set i.toNat z') → Rd K.ek v raws' (OwnO E K v raws' A (ys.set i.toNat z')) → SO P n Z w0 ops l ρ (OwnO E K v raws' A (ys.set i.toNat z') :: rest)) : SO P n Z w0 ops (⟨none, .store t x y, ty, p, af, none⟩ :: l) ρ (OwnO E K v raws A ys :: rest) := by
 obtain ⟨r, hri, hc⟩ := hr.at hi
 have hc' : cellsOk A (r.1.set j u) (K.pat z') := by rw [hu]; exact hc.set hq
 have hr' := hr.set (i := i.toNat) (x := K.raw hc') hc'
 refine so_take (SO.storeI1 (K := K.ek) (z := r) (z' := K.raw hc') hz hri hx hy h1 hm hj rfl (so_put hr' ?_))
 intro a w h1 h2 h3 h4 h5
 obtain ⟨m, _, hmm⟩ := h4.head
 exact h _ hr' hmm.rdO a w h1 h2 h3 h4 h5
theorem SO.storeON {t ty m : Nat} {x y : Operand} {p : String} {af : Array Edge} {us : List Value} {i : Int} {z z' : α} (hz : ∀ w, (sizeOf t).run P w = .ok K.sz w) (hr : relR K A raws ys) (hi : at_ ys i = some z) (hx : ev ρ x = some (idxp v m)) (hy : ev ρ y = some (.agg us.toArray)) (hm : i.toNat * K.sz = m) (hu : cellsOk A us (K.pat z'))
  (h : ∀ raws', relR K A raws' (ys.set i.toNat z') → Rd K.ek v raws' (OwnO E K v raws' A (ys.set i.toNat z')) → SO P n Z w0 ops l ρ (OwnO E K v raws' A (ys.set i.toNat z') :: rest)) : SO P n Z w0 ops (⟨none, .store t x y, ty, p, af, none⟩ :: l) ρ (OwnO E K v raws A ys :: rest) := by
 obtain ⟨r, hri, hc⟩ := hr.at hi
 have hr' := hr.set (i := i.toNat) (x := K.raw hu) hu
 refine so_take (SO.storeIN (K := K.ek) (z := r) (z' := K.raw hu) hz hri hx hy hm rfl (so_put hr' ?_))
 intro a w h1 h2 h3 h4 h5
 obtain ⟨m, _, hmm⟩ := h4.head
 exact h _ hr' hmm.rdO a w h1 h2 h3 h4 h5
theorem relR.append {zs : List α} {raws2 : List (Raw K.sz)} (h1 : relR K A raws ys) (h2 : relR K A raws2 zs) : relR K A (raws ++ raws2) (ys ++ zs) := by
 refine ⟨by simp [h1.1, h2.1], fun i x y e1 e2 => ?_⟩
 rcases Nat.lt_or_ge i raws.length with h | h
 ·rw [List.getElem?_append_left h] at e1
  rw [List.getElem?_append_left (by rw [← h1.1]; exact h)] at e2
  exact h1.2 i x y e1 e2
 ·rw [List.getElem?_append_right h] at e1
  rw [List.getElem?_append_right (by rw [← h1.1]; exact h), ← h1.1] at e2
  exact h2.2 _ x y e1 e2
theorem SO.appendR {zs out : List α} {d t ty e : Nat} {x y : Operand} {p : String} {af : Array Edge} {i : TypeInfo} {z : Value} {bytes : Nat} {u : Value} (hd : Nat.blt d n = true) (ht : P.underlying t = some (.slice e)) (hi : P.info? e = some i) (hz : i.zero = some z) (hsize : i.size = K.sz) (hby : i.bytes = bytes) (hbl : bytes ≤ 4096) (hzs : z.cells.size = K.sz)
  (hx : ev ρ x = some v) (hy : ev ρ y = some u) (ha : app ys zs = some out)
  (h : ∀ v', SO P n Z w0 ops l ((d, v') :: ρ) (OwnR e K v' out :: rest)) : SO P n Z w0 ops (⟨some d, .call ⟨.builtin .append, #[x, y], #[t, t]⟩, ty, p, af, none⟩ :: l) ρ (OwnR e K v ys :: OwnR E K u zs :: rest) := by
 refine SO.openR fun raws A hr hR => SO.b1 (SO.openR fun raws2 A2 hr2 hR2 => SO.b1 ?_)
 obtain ⟨hlen, rfl⟩ := app_spec ha
 have hl1 := hr.1
 have hl2 := hr2.1
 have ha2 : app raws raws2 = some (raws ++ raws2) := by
  unfold app; rw [decide_eq_true (by omega : raws.length + raws2.length ≤ 4294967296)]; rfl
 have key : SO P n Z w0 ops (⟨some d, .call ⟨.builtin .append, #[x, y], #[t, t]⟩, ty, p, af, none⟩ :: l) ρ (Own e K.ek v raws :: A :: OwnO E K u raws2 A2 zs :: rest) := by
  refine SO.append (K := K.ek) (ys := raws2) hd ht ht hi hz hsize hby hbl hzs hx hy (Rd.tail (Rd.head hR2)) ha2 fun v' => ?_
  refine (h v').sat fun w s => Sat.swapN (l1 := [Own e K.ek v' (raws ++ raws2), A, OwnO E K u raws2 A2 zs]) (l1' := [OwnR e K v' (ys ++ zs)]) s fun m hm => ?_
  refine stars_singleton ⟨raws ++ raws2, stars [A, OwnO E K u raws2 A2 zs], ?_, ?_⟩
  ·obtain ⟨m1, m2, d, s1, s2, a, b⟩ := hm
   exact ⟨m1, m2, d, s1, s2, a, stars_singleton b⟩
  ·exact (hr.cov Cov.head).append (hr2.cov ((Cov.tail.trans Cov.head).trans covP))
 exact so_take key
theorem SO.buildSliceR {d t ty nn : Nat} {parts : List (Nat × Operand)} {ps : List (Nat × Value)} {p : String} {af : Array Edge} {z : Value} {cs : List Value} {raws : List (Raw K.sz)} (hd : Nat.blt d n = true) (ht : P.underlying t = some (.slice E)) (hs : ∀ w, (sizeOf E).run P w = .ok K.sz w) (hz : ∀ w, (zeroValue E).run P w = .ok z w)
  (hp : evp ρ parts = some ps) (hsmall : Nat.ble (nn * K.sz) 16777216 = true) (hpos : Nat.blt 0 nn = true) (hfill : Instr.fill (fun i => some (i * K.sz, K.sz)) ((Array.range (nn * K.sz)).map (z.cells[· % z.cells.size]!)) ps = some cs.toArray) (hcl : cs.length = nn * K.sz) (hcs : raws.flatMap (·.1) = cs) (hl : raws.length = nn) (hrel : relR K A raws ys)
  (h : ∀ v, SO P n Z w0 ops l ((d, v) :: ρ) (OwnR E K v ys :: rest)) : SO P n Z w0 ops (⟨some d, .buildSlice t nn parts.toArray, ty, p, af, none⟩ :: l) ρ (A :: rest) := by
 refine SO.buildSlice (K := K.ek) (xs := raws) hd ht hs hz hp hsmall hpos hfill hcl hcs hl fun v _ => ?_
 refine (h v).sat fun w s => Sat.swapN (l1 := [Own E K.ek v raws, A]) (l1' := [OwnR E K v ys]) s fun m hm => stars_singleton ⟨raws, A, hm, hrel⟩
theorem SO.emp (h : SO P n Z w0 ops l ρ ((fun _ => True) :: rest)) : SO P n Z w0 ops l ρ rest :=
 h.sat fun w s => show stars ((fun _ => True) :: rest) (hp w) from ⟨fun _ => none, hp w, fun _ => .inl rfl, fun _ _ e => by simp at e, .refl _, trivial, s⟩
end
end Go.Sl
namespace Go.Sl
open Go.RowKit
section
variable {P : Program} {f : FuncId} {n : Nat} {Z : Act → World → Prop} {R : Ending → World → Prop} {w0 : Beg} {k : List Item} {ρ ρ' : Env} {H H' pre rest : List HProp} {ops : Array Oper} {l : List Oper}
theorem SO.loadIP {α : Type} {K : EK α} {v : Value} {xs : List α} {d t ty m j sz : Nat} {x : Operand} {p : String} {af : Array Edge} {us : List Value} {i : Int} {z : α} (hd : Nat.blt d n = true) (ha : ∀ w, (isAgg t).run P w = .ok true w) (hz : ∀ w, (sizeOf t).run P w = .ok sz w) (hR : Rd K v xs (stars H)) (hi : at_ xs i = some z) (hx : ev ρ x = some (idxp v m)) (hm : i.toNat * K.sz + j = m) (hj : Nat.ble (j + sz) K.sz = true) (hu : ((K.enc z).drop j).take sz = us)
  (h : SO P n Z w0 ops l ((d, .agg us.toArray) :: ρ) H) : SO P n Z w0 ops (⟨some d, .load t x, ty, p, af, none⟩ :: l) ρ H := by
 have hj' : j + sz ≤ K.sz := by simpa using hj
 refine .raw hd fun r w hr hs => ⟨_, _, ρ, _, ?_, hs, .refl w, h, fun _ h => h⟩
 obtain ⟨a, cap, ⟨rfl, _⟩, hR⟩ := hR
 obtain ⟨b, off, rfl, hR2⟩ := hR _ _ (at_spec hi).2.2
 obtain ⟨all, E, fr, hb, hc⟩ := hR2 _ hs
 have hl : us.length = sz := by rw [← hu, List.length_take, List.length_drop, K.len]; omega
 have hc : ∀ q, q < sz → w.cell? ⟨b, off + m + q, none⟩ = us[q]? := fun q hq => by
  rw [cell_of_blk hb, ← hu, List.getElem?_take_of_lt hq, List.getElem?_drop, ← hc (j + q) (by omega), ← hm]; congr 1; omega
 simp [execOp, hr x _ hx, Instr.loadAt, idxp, Instr.sureAddr, loadVar, ha, hz, loadCells_run hl hc]
theorem take_splice {β : Type} (L : List β) (m o : Nat) (vs : List β) (h : o + vs.length ≤ m) (hm : m ≤ L.length) : (L.take o ++ (vs ++ L.drop (o + vs.length))).take m = (L.take m).take o ++ (vs ++ (L.take m).drop (o + vs.length)) := by
 apply List.ext_getElem?
 intro q
 have e1 : (L.take o).length = o := by simp; omega
 have e2 : ((L.take m).take o).length = o := by simp; omega
 rcases Nat.lt_or_ge q m with hq | hq
 ·rw [List.getElem?_take_of_lt hq]
  rcases Nat.lt_or_ge q o with h1 | h1
  ·rw [List.getElem?_append_left (by omega), List.getElem?_append_left (by omega), List.getElem?_take_of_lt h1, List.getElem?_take_of_lt h1, List.getElem?_take_of_lt hq]
  ·rw [List.getElem?_append_right (by omega : (L.take o).length ≤ q), List.getElem?_append_right (by omega : ((L.take m).take o).length ≤ q), e1, e2]
   rcases Nat.lt_or_ge (q - o) vs.length with h2 | h2
   ·rw [List.getElem?_append_left h2, List.getElem?_append_left h2]
   ·rw [List.getElem?_append_right h2, List.getElem?_append_right h2, List.getElem?_drop, List.getElem?_drop, List.getElem?_take_of_lt (by omega)]
 ·rw [List.getElem?_eq_none (by simp; omega), List.getElem?_eq_none (by simp; omega)]
theorem EK.flat_splice {α : Type} (K : EK α) : ∀ (xs : List α) (i : Nat) (x x' : α) (j : Nat) (us : List Value), xs[i]? = some x → j + us.length ≤ K.sz → K.enc x' = splice (K.enc x) j us → K.flat (xs.set i x') = splice (K.flat xs) (i * K.sz + j) us
 | [], i, x, x', j, us, h, _, _ => by simp at h
 | y :: l, 0, x, x', j, us, h, hj, he => by
  simp at h; subst h
  have hl := K.len y
  simp only [EK.flat, List.set_cons_zero, List.flatMap_cons, Nat.zero_mul, Nat.zero_add, splice] at *
  rw [he, List.take_append_of_le_length (by omega), List.drop_append_of_le_length (by omega), List.append_assoc, List.append_assoc]
 | y :: l, i + 1, x, x', j, us, h, hj, he => by
  simp only [List.getElem?_cons_succ] at h
  have := EK.flat_splice K l i x x' j us h hj he
  have hl := K.len y
  have e1 : (i + 1) * K.sz + j = (K.enc y).length + (i * K.sz + j) := by rw [hl, Nat.add_mul]; omega
  simp only [EK.flat, List.set_cons_succ, List.flatMap_cons, splice] at *
  rw [this, e1, List.take_length_add_append, Nat.add_assoc (K.enc y).length, List.drop_length_add_append, List.append_assoc]
theorem SO.storeIP {α : Type} {K : EK α} {v : Value} {xs : List α} {E t ty m j sz : Nat} {x y : Operand} {p : String} {af : Array Edge} {us : List Value} {i : Int} {z z' : α} (hz : ∀ w, (sizeOf t).run P w = .ok sz w) (hi : at_ xs i = some z) (hx : ev ρ x = some (idxp v m)) (hy : ev ρ y = some (.agg us.toArray)) (hl : us.length = sz) (hm : i.toNat * K.sz + j = m) (hj : Nat.ble (j + sz) K.sz = true) (h1 : ∀ u ∈ us, u.oneCell' = true) (hu : K.enc z' = splice (K.enc z) j us)
  (h : SO P n Z w0 ops l ρ (Own E K v (xs.set i.toNat z') :: rest)) : SO P n Z w0 ops (⟨none, .store t x y, ty, p, af, none⟩ :: l) ρ (Own E K v xs :: rest) := by
 have hj' : j + sz ≤ K.sz := by simpa using hj
 obtain ⟨h0, hlt, hget⟩ := at_spec hi
 have hne : xs ≠ [] := by intro e; subst e; simp at hget
 have hb : i.toNat * K.sz + K.sz ≤ xs.length * K.sz := by
  have : (i.toNat + 1) * K.sz ≤ xs.length * K.sz := Nat.mul_le_mul_right _ (by omega)
  rw [Nat.add_mul] at this; omega
 refine .raw0 fun r w hr hs => ?_
 obtain ⟨mm, hmm, hown⟩ := hs.head
 rcases hown with ⟨_, rfl⟩ | ⟨g, cap, cur, rfl, hg, hle, hcap, hsz, hcur⟩
 ·exact absurd rfl hne
 have hg := hmm _ _ hg
 have hszl : xs.length * K.sz ≤ cap * K.sz := Nat.mul_le_mul_right _ hle
 obtain ⟨w', c', hrun, hb', hs', ho, hn, hq, hk⟩ := storeCells_run (P := P) (b := g) (o := m) us 0 w cur E hg h1 (by omega)
 refine ⟨w', _, ?_, ?_, hk, h⟩
 ·simp only [execOp, hr x _ hx, hr y _ hy, Instr.storeAt, idxp, Instr.sureAddr, storeVar, Nat.zero_add]
  simp only [Value.cells, Sem.run_bind, Sem.run_pure, Result.andThen_ok, hz]
  simp [hl, hrun]
 ·refine Own.put hs (fun g2 cap2 cur2 hv2 hg2 _ hsz2 hcur2 => ?_) (by simp) hne
  injection hv2 with e1 _ _; injection e1 with e1; injection e1 with e1 _ _; subst e1
  have : cur2 = cur := by
   have h9 : some (Obj.cells cur2 E) = some (Obj.cells cur E) := hg2.symm.trans hg
   injection h9 with h9; injection h9
  subst this
  refine ⟨c', hb', hs', ?_, hq⟩
  have hcc : c'.toList = splice cur2.toList m us := by
   apply List.ext_getElem?
   intro q
   simp only [Array.getElem?_toList, splice]
   rcases Nat.lt_or_ge q m with hq1 | hq1
   ·rw [ho q (by omega), List.getElem?_append_left (by simp; omega), List.getElem?_take_of_lt hq1]; simp
   ·rw [List.getElem?_append_right (by simp; omega), List.length_take, Nat.min_eq_left (by simp; omega)]
    rcases Nat.lt_or_ge (q - m) us.length with hq2 | hq2
    ·rw [List.getElem?_append_left hq2]
     have := hn (q - m) hq2
     rw [← this]; congr 1; omega
    ·rw [List.getElem?_append_right hq2, List.getElem?_drop, ho q (by omega)]
     simp only [Array.getElem?_toList]; congr 1; omega
  rw [hcc, splice, take_splice _ _ _ _ (by omega) (by simp; omega), hcur2, ← hm, EK.flat_splice K xs _ z z' j us hget (by omega) hu, splice]
theorem cellsOk.splice {A : HProp} {us : List Value} {ps : List CellP} (h : cellsOk A us ps) {j : Nat} {vs : List Value} (hj : j + vs.length ≤ ps.length) : cellsOk A (Go.Sl.splice us j vs) (ps.take j ++ (vs.map .val ++ ps.drop (j + vs.length))) := by
 have take : ∀ (us : List Value) (ps : List CellP) (j : Nat), cellsOk A us ps → cellsOk A (us.take j) (ps.take j) := by
  intro us
  induction us with
  | nil => intro ps j h; cases ps with | nil => simp [cellsOk] | cons _ _ => exact h.elim
  | cons u us ih => intro ps j h; cases ps with
   | nil => exact h.elim
   | cons p ps => cases j with
    | zero => exact trivial
    | succ j => exact ⟨h.1, ih ps j h.2⟩
 have drop : ∀ (us : List Value) (ps : List CellP) (j : Nat), cellsOk A us ps → cellsOk A (us.drop j) (ps.drop j) := by
  intro us
  induction us with
  | nil => intro ps j h; cases ps with | nil => simp [cellsOk] | cons _ _ => exact h.elim
  | cons u us ih => intro ps j h; cases ps with
   | nil => exact h.elim
   | cons p ps => cases j with
    | zero => exact h
    | succ j => exact ih ps j h.2
 have app : ∀ (us us' : List Value) (ps ps' : List CellP), cellsOk A us ps → cellsOk A us' ps' → cellsOk A (us ++ us') (ps ++ ps') := by
  intro us
  induction us with
  | nil => intro us' ps ps' h k; cases ps with | nil => exact k | cons _ _ => exact h.elim
  | cons u us ih => intro us' ps ps' h k; cases ps with
   | nil => exact h.elim
   | cons p ps => exact ⟨h.1, ih us' ps ps' h.2 k⟩
 have vals : ∀ vs : List Value, cellsOk A vs (vs.map .val) := by
  intro vs
  induction vs with
  | nil => exact trivial
  | cons v vs ih => exact ⟨rfl, ih⟩
 exact app _ _ _ _ (take _ _ _ h) (app _ _ _ _ (vals vs) (drop _ _ _ h))
theorem SO.storeOP {α : Type} {K : EKR α} {E : TypeId} {v : Value} {raws : List (Raw K.sz)} {A : HProp} {ys : List α} {t ty m j sz : Nat} {x y : Operand} {p : String} {af : Array Edge} {us : List Value} {i : Int} {z z' : α} (hz : ∀ w, (sizeOf t).run P w = .ok sz w) (hr : relR K A raws ys) (hi : at_ ys i = some z) (hx : ev ρ x = some (idxp v m)) (hy : ev ρ y = some (.agg us.toArray)) (hl : us.length = sz) (hm : i.toNat * K.sz + j = m) (hj : Nat.ble (j + sz) K.sz = true) (h1 : (us.all Value.oneCell') = true) (hu : K.pat z' = (K.pat z).take j ++ (us.map .val ++ (K.pat z).drop (j + us.length)))
  (h : ∀ raws', relR K A raws' (ys.set i.toNat z') → Rd K.ek v raws' (OwnO E K v raws' A (ys.set i.toNat z')) → SO P n Z w0 ops l ρ (OwnO E K v raws' A (ys.set i.toNat z') :: rest)) : SO P n Z w0 ops (⟨none, .store t x y, ty, p, af, none⟩ :: l) ρ (OwnO E K v raws A ys :: rest) := by
 have hj' : j + sz ≤ K.sz := by simpa using hj
 obtain ⟨r, hri, hc⟩ := hr.at hi
 have hc' : cellsOk A (splice r.1 j us) (K.pat z') := by rw [hu]; exact hc.splice (by rw [K.len]; omega)
 have hr' := hr.set (i := i.toNat) (x := K.raw hc') hc'
 refine so_take (SO.storeIP (K := K.ek) (z := r) (z' := K.raw hc') hz hri hx hy hl hm hj (fun u hu => List.all_eq_true.1 h1 u hu) rfl (so_put hr' ?_))
 intro a w h1 h2 h3 h4 h5
 obtain ⟨m, _, hmm⟩ := h4.head
 exact h _ hr' hmm.rdO a w h1 h2 h3 h4 h5
theorem SO.buildSliceR1 {α : Type} {K : EKR α} {E : TypeId} {A : HProp} {y : α} {d t ty : Nat} {parts : List (Nat × Operand)} {ps : List (Nat × Value)} {p : String} {af : Array Edge} {z : Value} {cs : List Value} (hd : Nat.blt d n = true) (ht : P.underlying t = some (.slice E)) (hs : ∀ w, (sizeOf E).run P w = .ok K.sz w) (hz : ∀ w, (zeroValue E).run P w = .ok z w)
  (hp : evp ρ parts = some ps) (hsmall : Nat.ble (1 * K.sz) 16777216 = true) (hfill : Instr.fill (fun i => some (i * K.sz, K.sz)) ((Array.range (1 * K.sz)).map (z.cells[· % z.cells.size]!)) ps = some cs.toArray) (hu : cellsOk A cs (K.pat y))
  (h : ∀ v, SO P n Z w0 ops l ((d, v) :: ρ) (OwnR E K v [y] :: rest)) : SO P n Z w0 ops (⟨some d, .buildSlice t 1 parts.toArray, ty, p, af, none⟩ :: l) ρ (A :: rest) :=
 SO.buildSliceR (raws := [K.raw hu]) hd ht hs hz hp hsmall rfl hfill (by rw [hu.length, K.len, Nat.one_mul]) (by simp [EKR.raw]) rfl ⟨rfl, fun i x y' h1 h2 => by
  cases i with
  | zero => simp at h1 h2; subst h1; subst h2; exact hu
  | succ i => simp at h1⟩ h
end
structure A4 where
 a0 : Int
 a1 : Int
 a2 : Int
 a3 : Int
 deriving DecidableEq, Inhabited
def A4.get (a : A4) (i : Int) : Option Int := bif i == 0 then some a.a0 else bif i == 1 then some a.a1 else bif i == 2 then some a.a2 else bif i == 3 then some a.a3 else none
theorem A4.get_cases {a : A4} {i x : Int} (h : a.get i = some x) : i = 0 ∧ x = a.a0 ∨ i = 1 ∧ x = a.a1 ∨ i = 2 ∧ x = a.a2 ∨ i = 3 ∧ x = a.a3 := by
 unfold A4.get at h
 cases h0 : i == 0 with
 | true => simp [h0] at h; left; simp at h0; exact ⟨h0, h.symm⟩
 | false =>
  simp only [h0, cond_false] at h
  cases h1 : i == 1 with
  | true => simp [h1] at h; right; left; simp at h1; exact ⟨h1, h.symm⟩
  | false =>
   simp only [h1, cond_false] at h
   cases h2 : i == 2 with
   | true => simp [h2] at h; right; right; left; simp at h2; exact ⟨h2, h.symm⟩
   | false =>
    simp only [h2, cond_false] at h
    cases h3 : i == 3 with
    | true => simp [h3] at h; right; right; right; simp at h3; exact ⟨h3, h.symm⟩
    | false => simp [h3] at h
theorem A4.range {a : A4} {i x : Int} (h : a.get i = some x) : 0 ≤ i ∧ i < 4 := by
 rcases A4.get_cases h with ⟨rfl, _⟩ | ⟨rfl, _⟩ | ⟨rfl, _⟩ | ⟨rfl, _⟩ <;> decide
section
variable {P : Program} {ρ : Env}
theorem opv_idxA {x y : Operand} {t e : TypeId} {ki : IntKind} {i z : Int} {b o : Nat} {a : A4} (ht : P.underlying t = some (.array 4 e)) (hz : ∀ w, (sizeOf e).run P w = .ok 1 w) (hx : ev ρ x = some (bp b o)) (hy : ev ρ y = some (.int ki i)) (ha : a.get i = some z) :
  OpV P ρ (.indexAddr t x y) (bp b (o + i.toNat)) := by
 obtain ⟨h0, h1⟩ := A4.range ha
 intro r w d t' p af g hr
 simp only [execOp, hr x _ hx, hr y _ hy, Instr.indexAt]
 simp only [Sem.run_bind, asIntOf, Sem.run_pure, Result.andThen_ok, run_underlying ht, bp, Instr.sureAddr]
 have h1' : i < ((4 : Nat) : Int) := h1
 simp only [h0, h1', and_self, if_true, Sem.run_bind, hz, Result.andThen_ok, Sem.run_pure, Addr.add]
 split
 ·rename_i h; simp at h; simp [h]
 ·simp
end
def slcV (v : Value) (lo sz : Nat) : Value :=
 match v with
 | .slice a len cap => .slice (if cap = lo then a else a.map (·.add (lo * sz))) (len - lo) (cap - lo)
 | _ => undef
def slcF {α : Type} (xs : List α) (lo : Int) : Option (List α) := bif decide (0 ≤ lo) && decide (lo ≤ (xs.length : Int)) then some (xs.drop lo.toNat) else none
theorem slcF_spec {α : Type} {xs zs : List α} {lo : Int} (h : slcF xs lo = some zs) : 0 ≤ lo ∧ lo ≤ (xs.length : Int) ∧ zs = xs.drop lo.toNat := by
 unfold slcF at h
 cases hd : (decide (0 ≤ lo) && decide (lo ≤ (xs.length : Int))) with
 | false => simp [hd] at h
 | true =>
  simp only [hd, cond_true] at h
  simp only [Bool.and_eq_true, decide_eq_true_eq] at hd
  injection h with h
  exact ⟨hd.1, hd.2, h.symm⟩
theorem opv_slcLo {P : Program} {ρ : Env} {α : Type} {K : EK α} {v : Value} {xs zs : List α} {A : HProp} {lo : Int} {ki : IntKind} {x y : Operand} {t e : TypeId} (ht : P.underlying t = some (.slice e)) (hs : ∀ w, (sizeOf e).run P w = .ok K.sz w) (hR : Rd K v xs A) (hz : slcF xs lo = some zs) (hx : ev ρ x = some v) (hy : ev ρ y = some (.int ki lo)) :
  OpV P ρ (.slice t x (some y) none none) (slcV v lo.toNat K.sz) := by
 obtain ⟨h0, h1, rfl⟩ := slcF_spec hz
 obtain ⟨a, cap, ⟨rfl, hle⟩, _⟩ := hR
 intro r w d t' p af g hr
 simp [execOp, hr x _ hx, hr y _ hy, Instr.sliceAt, Instr.slice, Instr.sliceBounds, Instr.sliceBound, run_underlying ht, hs, asIntOf, h0, h1, slcV]
theorem all1 {v : Value} {l : List Value} (h : v.oneCell' = true) (k : l.all Value.oneCell' = true) : (v :: l).all Value.oneCell' = true := by
 rw [List.all_cons, h, k]; rfl
section
variable {P : Program} {f : FuncId} {n : Nat} {Z : Act → World → Prop} {w0 : Beg} {ρ : Env} {rest : List HProp} {ops : Array Oper} {l : List Oper}
variable {α : Type} {K : EKR α} {E : TypeId} {v : Value} {raws : List (Raw K.sz)} {A : HProp} {ys : List α}
theorem S.rdO {f : FuncId} {R : Ending → World → Prop} {k : List Item} (h : relR K A raws ys → Rd K.ek v raws (OwnO E K v raws A ys) → S P f n R w0 k ρ (OwnO E K v raws A ys :: rest)) : S P f n R w0 k ρ (OwnO E K v raws A ys :: rest) := by
 intro a w h1 h2 h3 h4 h5
 obtain ⟨m, _, hm⟩ := h4.head
 exact h hm.2 hm.rdO a w h1 h2 h3 h4 h5
theorem SO.oneR (h : v.oneCell' = true → SO P n Z w0 ops l ρ (OwnR E K v ys :: rest)) : SO P n Z w0 ops l ρ (OwnR E K v ys :: rest) := by
 intro a w h1 h2 h3 h4 h5
 obtain ⟨raws, A, hr, hR, hs⟩ := sat_open h4
 exact h (Rd.one hR) a w h1 h2 h3 h4 h5
end
def cpy {α : Type} (xs ys : List α) : List α := ys.take xs.length ++ xs.drop ys.length
theorem EK.flat_take {α : Type} (K : EK α) : ∀ (xs : List α) (n : Nat), K.flat (xs.take n) = (K.flat xs).take (n * K.sz)
 | [], n => by simp [EK.flat]
 | x :: l, 0 => by simp [EK.flat]
 | x :: l, n + 1 => by
  have ih := EK.flat_take K l n
  have hl := K.len x
  simp only [EK.flat, List.take_succ_cons, List.flatMap_cons] at *
  rw [ih, show (n + 1) * K.sz = (K.enc x).length + n * K.sz by rw [hl, Nat.add_mul]; omega, List.take_length_add_append]
theorem EK.flat_drop {α : Type} (K : EK α) : ∀ (xs : List α) (n : Nat), K.flat (xs.drop n) = (K.flat xs).drop (n * K.sz)
 | [], n => by simp [EK.flat]
 | x :: l, 0 => by simp [EK.flat]
 | x :: l, n + 1 => by
  have ih := EK.flat_drop K l n
  have hl := K.len x
  simp only [EK.flat, List.drop_succ_cons, List.flatMap_cons] at *
  rw [ih, show (n + 1) * K.sz = (K.enc x).length + n * K.sz by rw [hl, Nat.add_mul]; omega, List.drop_length_add_append]
theorem Rd.cells {α : Type} {K : EK α} {u : Value} {ys : List α} {l : List HProp} {w : World} (hR : Rd K u ys (stars l)) (hs : Sat w l) : ∃ a cap, u = .slice a ys.length cap ∧ (ys ≠ [] → ∃ b off, a = some ⟨b, off, none⟩ ∧ ∀ j, j < ys.length * K.sz → w.cell? ⟨b, off + j, none⟩ = (K.flat ys)[j]?) := by
 obtain ⟨a, cap, ⟨rfl, _⟩, hR⟩ := hR
 refine ⟨a, cap, rfl, fun hy0 => ?_⟩
 obtain ⟨y0, hy1⟩ : ∃ y0, ys[0]? = some y0 := by cases ys with | nil => exact absurd rfl hy0 | cons a l => exact ⟨a, rfl⟩
 obtain ⟨b, off, rfl, _⟩ := hR 0 y0 hy1
 refine ⟨b, off, rfl, fun j hjl => ?_⟩
 have hdm : j = (j / K.sz) * K.sz + j % K.sz := by rw [Nat.mul_comm]; exact (Nat.div_add_mod j K.sz).symm
 have hmod : j % K.sz < K.sz := Nat.mod_lt _ K.pos
 have hdl : j / K.sz < ys.length := Nat.div_lt_of_lt_mul (by rw [Nat.mul_comm]; exact hjl)
 obtain ⟨b', off', e1, hR1⟩ := hR (j / K.sz) ys[j / K.sz] (List.getElem?_eq_getElem hdl)
 injection e1 with e1; injection e1 with e1 e2 _; subst e1; subst e2
 obtain ⟨all, E, fr, hb, hc⟩ := hR1 _ hs
 have hc1 := hc (j % K.sz) hmod
 rw [← EK.flat_get K ys _ _ _ (List.getElem?_eq_getElem hdl) hmod, ← hdm] at hc1
 have hbw : w.heap[b]? = some (.cells all E fr) := hb
 rw [cell_of_blk hbw, hc1]
section
variable {P : Program} {n : Nat} {Z : Act → World → Prop} {w0 : Beg} {ρ : Env} {rest : List HProp} {ops : Array Oper} {l : List Oper}
theorem copy_run {α : Type} {K : EK α} {v u : Value} {xs ys : List α} {E t s ty : TypeId} {w : World} (ht : P.underlying t = some (.slice E)) (hz : ∀ w, (sizeOf E).run P w = .ok K.sz w) (hR : Rd K u ys (stars rest)) (hs : Sat w (Own E K v xs :: rest)) :
  ∃ w', (Builtin.copy_ #[t, s] ty #[v, u]).run P w = .ok (.int .i64 (min ys.length xs.length : Nat)) w' ∧ Sat w' (Own E K v (cpy xs ys) :: rest) ∧ Keep w w' := by
 obtain ⟨a, cap, rfl, hcell⟩ := hR.cells hs.drop
 by_cases hne : xs = []
 ·subst hne
  have e0 : cpy ([] : List α) ys = [] := by simp [cpy]
  rw [e0]
  refine ⟨w, ?_, hs, .refl w⟩
  obtain ⟨m, hm, hown⟩ := hs.head
  have hv : ∃ d c, v = .slice d 0 c := by
   rcases hown with ⟨rfl, _⟩ | ⟨g, c, cur, rfl, _⟩
   ·exact ⟨_, _, rfl⟩
   ·exact ⟨_, _, rfl⟩
  obtain ⟨d, c, rfl⟩ := hv
  cases a <;> cases d <;> simp [Builtin.copy_, run_underlying ht, Builtin.lenOf, Builtin.firstCells, hz, storeCells, loadCells, loadCellsFrom, goInt]
 ·obtain ⟨mm, hmm, hown⟩ := hs.head
  rcases hown with ⟨_, rfl⟩ | ⟨g, cp, cur, rfl, hg, hle, hcap, hsz, hcur⟩
  ·exact absurd rfl hne
  have hg := hmm _ _ hg
  have hszl : xs.length * K.sz ≤ cp * K.sz := Nat.mul_le_mul_right _ hle
  let k := Nat.min ys.length xs.length
  let vs := K.flat (ys.take xs.length)
  have hvl : vs.length = k * K.sz := by
   show (K.flat (ys.take xs.length)).length = _
   rw [EK.length_flat, List.length_take]; congr 1; exact Nat.min_comm _ _
  have hkx : k * K.sz ≤ xs.length * K.sz := Nat.mul_le_mul_right _ (Nat.min_le_right _ _)
  have hky : k * K.sz ≤ ys.length * K.sz := Nat.mul_le_mul_right _ (Nat.min_le_left _ _)
  obtain ⟨w', c', hrun, hb', hs', ho, hn, hq, hk⟩ := storeCells_run (P := P) (b := g) (o := 0) vs 0 w cur E hg (fun u hu => K.flat_one u hu) (by omega)
  have hfirst : (Builtin.firstCells K.sz k (.slice a ys.length cap)).run P w = .ok vs.toArray w := by
   by_cases hy0 : ys = []
   ·subst hy0
    have hk0 : k = 0 := by show Nat.min 0 _ = 0; simp
    have hv0 : vs = [] := List.eq_nil_of_length_eq_zero (by rw [hvl, hk0, Nat.zero_mul])
    rw [hv0, hk0]
    cases a <;> simp [Builtin.firstCells, loadCells, loadCellsFrom]
   ·obtain ⟨b, off, rfl, hc⟩ := hcell hy0
    simp only [Builtin.firstCells]
    refine loadCells_run hvl fun j hj => ?_
    rw [hc j (by omega)]
    show _ = (K.flat (ys.take xs.length))[j]?
    rw [EK.flat_take, List.getElem?_take_of_lt (by omega)]
  refine ⟨w', ?_, ?_, hk⟩
  ·have hk2 : min ys.length xs.length = k := rfl
   have hk3 : Nat.min ys.length xs.length = k := rfl
   have hst : (storeCells ⟨g, 0, none⟩ vs).run P w = .ok () w' := hrun
   simp [Builtin.copy_, run_underlying ht, Builtin.lenOf, hz, hk3, hfirst, hst, goInt, hk2]
  ·refine Own.put hs (fun g2 cap2 cur2 hv2 hg2 _ hsz2 hcur2 => ?_) (by simp [cpy]; omega) hne
   injection hv2 with e1 _ _; injection e1 with e1; injection e1 with e1 _ _; subst e1
   have : cur2 = cur := by
    have h9 : some (Obj.cells cur2 E) = some (Obj.cells cur E) := hg2.symm.trans hg
    injection h9 with h9; injection h9
   subst this
   refine ⟨c', hb', hs', ?_, hq⟩
   rw [cpy, EK.flat_append, EK.flat_drop, ← hcur2]
   apply List.ext_getElem?
   intro q
   rcases Nat.lt_or_ge q (k * K.sz) with hq1 | hq1
   ·rw [List.getElem?_take_of_lt (by omega), List.getElem?_append_left (by show q < vs.length; omega)]
    simp only [Array.getElem?_toList]
    rw [← hn q (by omega)]; congr 1; omega
   ·rw [List.getElem?_append_right (by show vs.length ≤ q; omega)]
    have hlen : (K.flat (ys.take xs.length)).length = k * K.sz := hvl
    rw [hlen]
    rcases Nat.lt_or_ge q (xs.length * K.sz) with hq2 | hq2
    ·have hkeq : k = ys.length := by
      rcases Nat.lt_or_ge ys.length xs.length with h | h
      ·exact Nat.min_eq_left (Nat.le_of_lt h)
      ·have : k = xs.length := Nat.min_eq_right h
       rw [this] at hq1; omega
     rw [List.getElem?_take_of_lt hq2, List.getElem?_drop, ← hkeq, List.getElem?_take_of_lt (by omega)]
     simp only [Array.getElem?_toList]
     rw [ho q (by omega)]; congr 1; omega
    ·rw [List.getElem?_eq_none (by simp; omega), List.getElem?_eq_none (by simp; omega)]
theorem SO.copy {α : Type} {K : EK α} {v u : Value} {xs ys : List α} {d E t s ty : TypeId} {x y : Operand} {p : String} {af : Array Edge} (hd : Nat.blt d n = true) (ht : P.underlying t = some (.slice E)) (hz : ∀ w, (sizeOf E).run P w = .ok K.sz w) (hx : ev ρ x = some v) (hy : ev ρ y = some u) (hR : Rd K u ys (stars rest))
  (h : SO P n Z w0 ops l ((d, .int .i64 (min ys.length xs.length : Nat)) :: ρ) (Own E K v (cpy xs ys) :: rest)) : SO P n Z w0 ops (⟨some d, .call ⟨.builtin .copy, #[x, y], #[t, s]⟩, ty, p, af, none⟩ :: l) ρ (Own E K v xs :: rest) := by
 refine .raw hd fun r w hr hs => ?_
 obtain ⟨w', hrun, hs', hk⟩ := copy_run (P := P) (s := s) (ty := ty) ht hz hR hs
 refine ⟨_, w', ρ, _, ?_, hs', hk, h, fun _ h => h⟩
 simp [execOp, resolve, Go.invoke, Go.builtin, hr x _ hx, hr y _ hy, hrun]
end
def slc3 (v : Value) (lo hi mx sz : Nat) : Value :=
 match v with
 | .slice a _ _ => .slice (if mx = lo then a else a.map (·.add (lo * sz))) (hi - lo) (mx - lo)
 | _ => undef
def slcHi (v : Value) (n : Nat) : Value :=
 match v with
 | .slice a _ cap => .slice a n cap
 | _ => undef
def delN {α : Type} (xs : List α) (i j : Int) : Nat := xs.length - (j.toNat - i.toNat)
def delz {α : Type} (xs : List α) (i j : Int) : List α := xs.take i.toNat ++ xs.drop j.toNat ++ xs.drop (delN xs i j)
def delOk {α : Type} (xs : List α) (i j : Int) : Bool := decide (0 ≤ i) && decide (i ≤ j) && decide (j ≤ (xs.length : Int))
theorem delOk_spec {α : Type} {xs : List α} {i j : Int} (h : delOk xs i j = true) : 0 ≤ i ∧ i ≤ j ∧ j ≤ (xs.length : Int) := by
 simpa [delOk, and_assoc] using h
theorem slcF_of {α : Type} {xs : List α} {i j : Int} (h : delOk xs i j = true) : slcF xs j = some (xs.drop j.toNat) := by
 obtain ⟨h1, h2, h3⟩ := delOk_spec h
 unfold slcF
 rw [decide_eq_true (by omega : 0 ≤ j), decide_eq_true h3]; rfl
theorem len_delz {α : Type} {xs : List α} {i j : Int} (h : delOk xs i j = true) : (delz xs i j).length = xs.length := by
 obtain ⟨h1, h2, h3⟩ := delOk_spec h
 simp only [delz, delN, List.length_append, List.length_take, List.length_drop]; omega
theorem lt_of_del {α : Type} {xs : List α} {i j : Int} (h : delOk xs i j = true) (hb : (i == j) = false) : i < j := by
 obtain ⟨h1, h2, h3⟩ := delOk_spec h
 have : i ≠ j := by simpa using hb
 omega
theorem delN_lt {α : Type} {xs : List α} {i j : Int} (h : delOk xs i j = true) (hlt : i < j) : delN xs i j < xs.length := by
 obtain ⟨h1, h2, h3⟩ := delOk_spec h
 unfold delN; omega
section
variable {P : Program} {f : FuncId} {n : Nat} {Z : Act → World → Prop} {R : Ending → World → Prop} {w0 : Beg} {k : List Item} {ρ ρ' : Env} {H H' pre rest : List HProp} {ops : Array Oper} {l : List Oper}
variable {α : Type} {K : EK α} {v : Value} {xs : List α}
theorem opv_slc3 {A : HProp} {i j : Int} {ki kj km : IntKind} {x a b c : Operand} {t e : TypeId} (ht : P.underlying t = some (.slice e)) (hs : ∀ w, (sizeOf e).run P w = .ok K.sz w) (hR : Rd K v xs A) (hc : delOk xs i j = true) (hx : ev ρ x = some v) (ha : ev ρ a = some (.int ki i)) (hb : ev ρ b = some (.int kj j)) (hm : ev ρ c = some (.int km (xs.length : Int))) :
  OpV P ρ (.slice t x (some a) (some b) (some c)) (slc3 v i.toNat j.toNat xs.length K.sz) := by
 obtain ⟨h1, h2, h3⟩ := delOk_spec hc
 obtain ⟨ad, cap, ⟨rfl, hle⟩, _⟩ := hR
 intro r w d t' p af g hr
 have h4 : ((xs.length : Int)) ≤ (cap : Int) := by omega
 have h5 : i ≤ ((j.toNat : Nat) : Int) := by omega
 have h6 : (0 : Int) ≤ (xs.length : Int) := by omega
 have h7 : 0 ≤ j := by omega
 simp [execOp, hr x _ hx, hr a _ ha, hr b _ hb, hr c _ hm, Instr.sliceAt, Instr.slice, Instr.sliceBounds, Instr.sliceBound, run_underlying ht, hs, asIntOf, h1, h3, h4, h7, slc3, hle, show i ≤ max j 0 by omega]
theorem add_zero' (a : Option Addr) (sz : Nat) : a.map (·.add (0 * sz)) = a := by
 cases a with
 | none => rfl
 | some a => simp [Addr.add]
theorem opv_slcHi {A : HProp} {i j : Int} {ki : IntKind} {x a : Operand} {t e : TypeId} (ht : P.underlying t = some (.slice e)) (hs : ∀ w, (sizeOf e).run P w = .ok K.sz w) (hR : Rd K v xs A) (hc : delOk xs i j = true) (hx : ev ρ x = some v) (ha : ev ρ a = some (.int ki i)) :
  OpV P ρ (.slice t x none (some a) none) (slcHi v i.toNat) := by
 obtain ⟨h1, h2, h3⟩ := delOk_spec hc
 obtain ⟨ad, cap, ⟨rfl, hle⟩, _⟩ := hR
 intro r w d t' p af g hr
 have h4 : i ≤ (cap : Int) := by omega
 have e0 := add_zero' ad K.sz
 simp only [Nat.zero_mul] at e0
 simp [execOp, hr x _ hx, hr a _ ha, Instr.sliceAt, Instr.slice, Instr.sliceBounds, Instr.sliceBound, run_underlying ht, hs, asIntOf, h1, h4, slcHi, e0]
theorem opv_slcT {A : HProp} {m L : Nat} {kl kh : IntKind} {x a b : Operand} {t e : TypeId} (ht : P.underlying t = some (.slice e)) (hs : ∀ w, (sizeOf e).run P w = .ok K.sz w) (hR : Rd K v xs A) (hL : xs.length = L) (hm : m ≤ xs.length) (hx : ev ρ x = some (slcHi v m)) (ha : ev ρ a = some (.int kl (m : Int))) (hb : ev ρ b = some (.int kh (L : Int))) :
  OpV P ρ (.slice t x (some a) (some b) none) (slcV v m K.sz) := by
 subst hL
 obtain ⟨ad, cap, ⟨rfl, hle⟩, _⟩ := hR
 intro r w d t' p af g hr
 have h1 : (0 : Int) ≤ (m : Int) := by omega
 have h2 : ((xs.length : Int)) ≤ (cap : Int) := by omega
 have h3 : (m : Int) ≤ (xs.length : Int) := by omega
 have h4 : (0 : Int) ≤ (xs.length : Int) := by omega
 simp [execOp, hr x _ hx, hr a _ ha, hr b _ hb, slcHi, Instr.sliceAt, Instr.slice, Instr.sliceBounds, Instr.sliceBound, run_underlying ht, hs, asIntOf, h2, h3, slcV, hle, hm]
theorem opv_lenHi {A : HProp} {m : Nat} {x : Operand} {tys : Array TypeId} {t e : TypeId} (ht0 : tys[0]? = some t) (ht : P.underlying t = some (.slice e)) (hR : Rd K v xs A) (hx : ev ρ x = some (slcHi v m)) :
  OpV P ρ (.call ⟨.builtin .len, #[x], tys⟩) (.int .i64 (m : Int)) := by
 obtain ⟨a, cap, ⟨rfl, _⟩, _⟩ := hR
 exact opv_len ht0 ht hx
theorem S.shrink {E : TypeId} {m : Nat} (hm : m ≤ xs.length) (h : S P f n R w0 k ρ (Own E K (slcHi v m) (xs.take m) :: rest)) : S P f n R w0 k ρ (Own E K v xs :: rest) :=
 h.sat fun w s => s.weaken fun pm hp => by
  rcases hp with ⟨rfl, rfl⟩ | ⟨g, cap, cur, rfl, hg, hle, hcap, hsz, hcur⟩
  ·left
   have : m = 0 := by simpa using hm
   subst this; exact ⟨rfl, rfl⟩
  ·right
   refine ⟨g, cap, cur, ?_, hg, ?_, hcap, hsz, ?_⟩
   ·simp only [slcHi, List.length_take, Nat.min_eq_left hm]
   ·simp only [List.length_take]; omega
   ·simp only [List.length_take, Nat.min_eq_left hm]
    rw [EK.flat_take, ← hcur, List.take_take]
    congr 1
    have : m * K.sz ≤ xs.length * K.sz := Nat.mul_le_mul_right _ hm
    omega
theorem row_put {E : TypeId} {w w' : World} {xs' : List α} {o : Nat} {us : List Value} (hs : Sat w (Own E K v xs :: rest)) (hne : xs ≠ []) (hl : xs'.length = xs.length) (hfit : o + us.length ≤ xs.length * K.sz) (hflat : K.flat xs' = splice (K.flat xs) o us)
  (hrun : ∀ g cap cur, v = .slice (some ⟨g, 0, none⟩) xs.length cap → w.heap[g]? = some (.cells cur E (0, 0)) → ∃ c', w'.heap[g]? = some (.cells c' E (0, 0)) ∧ c'.size = cur.size ∧ (∀ j, j < o ∨ o + us.length ≤ j → c'[j]? = cur[j]?) ∧ (∀ j, j < us.length → c'[o + j]? = us[j]?) ∧ ∀ q, q ≠ g → w'.heap[q]? = w.heap[q]?) : Sat w' (Own E K v xs' :: rest) := by
 refine Own.put hs (fun g cap cur hv hg hle hsz hcur => ?_) hl hne
 obtain ⟨c', h1, h2, h3, h4, h5⟩ := hrun g cap cur hv hg
 have hszl : xs.length * K.sz ≤ cap * K.sz := Nat.mul_le_mul_right _ hle
 refine ⟨c', h1, h2, ?_, h5⟩
 have hcc : c'.toList = splice cur.toList o us := by
  apply List.ext_getElem?
  intro q
  simp only [Array.getElem?_toList, splice]
  rcases Nat.lt_or_ge q o with hq1 | hq1
  ·rw [h3 q (by omega), List.getElem?_append_left (by simp; omega), List.getElem?_take_of_lt hq1]; simp
  ·rw [List.getElem?_append_right (by simp; omega), List.length_take, Nat.min_eq_left (by simp; omega)]
   rcases Nat.lt_or_ge (q - o) us.length with hq2 | hq2
   ·rw [List.getElem?_append_left hq2, ← h4 (q - o) hq2]; congr 1; omega
   ·rw [List.getElem?_append_right hq2, List.getElem?_drop, h3 q (by omega)]
    simp only [Array.getElem?_toList]; congr 1; omega
 rw [hcc, splice, take_splice _ _ _ _ hfit (by simp; omega), hcur, hflat, splice]
theorem flat_delz {i j : Int} (h : delOk xs i j = true) : K.flat (delz xs i j) = splice (K.flat xs) (i.toNat * K.sz) (K.flat (xs.drop j.toNat)) := by
 obtain ⟨h1, h2, h3⟩ := delOk_spec h
 have e1 : (K.flat (xs.drop j.toNat)).length = (xs.length - j.toNat) * K.sz := by rw [EK.length_flat, List.length_drop]
 simp only [delz, EK.flat_append, splice]
 rw [EK.flat_take, EK.flat_drop K xs (delN xs i j), e1, List.append_assoc]
 congr 3
 unfold delN
 rw [← Nat.add_mul]; congr 1; omega
theorem SO.appendDel {E d t ty : Nat} {x y : Operand} {p : String} {af : Array Edge} {i : Int} {j : Int} {inf : TypeInfo} (hd : Nat.blt d n = true) (ht : P.underlying t = some (.slice E)) (hi : P.info? E = some inf) (hsize : inf.size = K.sz) (hc : delOk xs i j = true) (hlt : i < j)
  (hx : ev ρ x = some (slcHi v i.toNat)) (hy : ev ρ y = some (slcV v j.toNat K.sz))
  (h : SO P n Z w0 ops l ((d, slcHi v (delN xs i j)) :: ρ) (Own E K v (delz xs i j) :: rest)) : SO P n Z w0 ops (⟨some d, .call ⟨.builtin .append, #[x, y], #[t, t]⟩, ty, p, af, none⟩ :: l) ρ (Own E K v xs :: rest) := by
 obtain ⟨h1, h2, h3⟩ := delOk_spec hc
 refine .raw hd fun r w hr hs => ?_
 obtain ⟨mm, hmm, hown⟩ := hs.head
 rcases hown with ⟨_, rfl⟩ | ⟨g, cap, cur, rfl, hg, hle, hcap, hsz, hcur⟩
 ·simp at h3; omega
 have hg := hmm _ _ hg
 have hszl : xs.length * K.sz ≤ cap * K.sz := Nat.mul_le_mul_right _ hle
 have hjl : j.toNat ≤ xs.length := by omega
 have e1 : (K.flat (xs.drop j.toNat)).length = (xs.length - j.toNat) * K.sz := by rw [EK.length_flat, List.length_drop]
 have hroom : i.toNat + (xs.length - j.toNat) ≤ cap := by omega
 have hfit : i.toNat * K.sz + (K.flat (xs.drop j.toNat)).length ≤ xs.length * K.sz := by
  rw [e1, ← Nat.add_mul]; exact Nat.mul_le_mul_right _ (by omega)
 obtain ⟨w', c', hrun, hb', hs', ho, hn, hq, hk⟩ := storeCells_run (P := P) (b := g) (o := i.toNat * K.sz) (K.flat (xs.drop j.toNat)) 0 w cur E hg (fun u hu => K.flat_one u hu) (by omega)
 have hfc : (Builtin.firstCells K.sz (xs.length - j.toNat) (slcV (.slice (some ⟨g, 0, none⟩) xs.length cap) j.toNat K.sz)).run P w = .ok (K.flat (xs.drop j.toNat)).toArray w := by
  by_cases q : xs.length = j.toNat
  ·have e0 : K.flat (xs.drop j.toNat) = [] := List.eq_nil_of_length_eq_zero (by rw [e1, q, Nat.sub_self, Nat.zero_mul])
   rw [e0, show xs.length - j.toNat = 0 by omega]
   simp only [slcV]
   split <;> simp [Builtin.firstCells, loadCells, loadCellsFrom]
  ·simp only [slcV, if_neg (by omega : ¬ cap = j.toNat), Option.map_some, Builtin.firstCells]
   have ea : (⟨g, 0, none⟩ : Addr).add (j.toNat * K.sz) = ⟨g, j.toNat * K.sz, none⟩ := by
    unfold Addr.add; split
    ·rename_i h; simp [h]
    ·simp
   rw [ea]
   refine loadCells_run e1 fun q hq' => ?_
   have hb1 : (xs.length - j.toNat) * K.sz + j.toNat * K.sz = xs.length * K.sz := by rw [← Nat.add_mul]; congr 1; omega
   rw [cell_of_blk hg, EK.flat_drop, List.getElem?_drop, ← hcur, List.getElem?_take_of_lt (by omega)]; simp
 refine ⟨_, w', ρ, _, ?_, ?_, hk, h, fun _ h => h⟩
 ·have hst : (storeCells ⟨g, i.toNat * K.sz, none⟩ (K.flat (xs.drop j.toNat))).run P w = .ok () w' := hrun
  have ea : (⟨g, 0, none⟩ : Addr).add (i.toNat * K.sz) = ⟨g, i.toNat * K.sz, none⟩ := by
   unfold Addr.add; split
   ·rename_i h; simp [h]
   ·simp
  have hlen : ∀ w, (Builtin.lenOf (slcV (.slice (some ⟨g, 0, none⟩) xs.length cap) j.toNat K.sz)).run P w = .ok (xs.length - j.toNat) w := fun w => by simp [slcV, Builtin.lenOf]
  have hdn : i.toNat + (xs.length - j.toNat) = delN xs i j := by unfold delN; omega
  have hroom' : delN xs i j ≤ cap := by rw [← hdn]; exact hroom
  simp only [execOp, resolve]
  simp only [Sem.run_bind, Sem.run_pure, Result.andThen_ok, Go.invoke, Go.builtin]
  simp [hr x _ hx, hr y _ hy, slcHi, Builtin.append_, run_underlying ht, sizeOf, typeInfo, hi, hlen, hsize, hroom', hfc, ea, hst, hdn]
 ·refine row_put hs (by intro e; subst e; simp at h3; omega) (len_delz hc) hfit (flat_delz hc) fun g2 cap2 cur2 hv2 hg2 => ?_
  injection hv2 with e1 _ _; injection e1 with e1; injection e1 with e1 _ _; subst e1
  have : cur2 = cur := by
   have h9 : some (Obj.cells cur2 E) = some (Obj.cells cur E) := hg2.symm.trans hg
   injection h9 with h9; injection h9
  subst this
  exact ⟨c', hb', hs', fun j hj => ho j (by omega), fun j hj => by have := hn j hj; simpa using this, hq⟩
theorem SO.clearT {E t ty m : Nat} {x : Operand} {p : String} {af : Array Edge} {z : Value} {zx : α} (ht : P.underlying t = some (.slice E)) (hz : ∀ w, (zeroValue E).run P w = .ok z w) (hzx : z.cells = (K.enc zx).toArray) (hm : m < xs.length) (hx : ev ρ x = some (slcV v m K.sz))
  (h : SO P n Z w0 ops l ρ (Own E K v (xs.take m ++ List.replicate (xs.length - m) zx) :: rest)) : SO P n Z w0 ops (⟨none, .call ⟨.builtin .clear, #[x], #[t]⟩, ty, p, af, none⟩ :: l) ρ (Own E K v xs :: rest) := by
 have e1 : (K.flat (List.replicate (xs.length - m) zx)).length = (xs.length - m) * K.sz := by rw [EK.length_flat, List.length_replicate]
 intro a w h1 h2 h3 h4 h5
 obtain ⟨mm, hmm, hown⟩ := h4.head
 rcases hown with ⟨_, rfl⟩ | ⟨g, cap, cur, rfl, hg, hle, hcap, hsz, hcur⟩
 ·simp at hm
 have hg := hmm _ _ hg
 have hszl : xs.length * K.sz ≤ cap * K.sz := Nat.mul_le_mul_right _ hle
 have hb1 : (xs.length - m) * K.sz + m * K.sz = xs.length * K.sz := by rw [← Nat.add_mul]; congr 1; omega
 obtain ⟨w', c', hrun, hb', hs', ho, hn, hq, hk⟩ := storeCells_run (P := P) (b := g) (o := m * K.sz) (K.flat (List.replicate (xs.length - m) zx)) 0 w cur E hg (fun u hu => K.flat_one u hu) (by omega)
 have hzc : (Builtin.zeroCells z.cells (xs.length - m)).toList = K.flat (List.replicate (xs.length - m) zx) := by
  have hs : z.cells.size = K.sz := by rw [hzx]; simp [K.len]
  have : Builtin.zeroCells z.cells (xs.length - m) = madeCells z.cells ((xs.length - m) * K.sz) := by simp only [Builtin.zeroCells, madeCells, hs]
  rw [this, made_flat K zx z hzx]
 have ea : (⟨g, 0, none⟩ : Addr).add (m * K.sz) = ⟨g, m * K.sz, none⟩ := by
  unfold Addr.add; split
  ·rename_i h; simp [h]
  ·simp
 have hst : (storeCells ⟨g, m * K.sz, none⟩ (K.flat (List.replicate (xs.length - m) zx))).run P w = .ok () w' := hrun
 have hsat : Sat w' (Own E K (.slice (some ⟨g, 0, none⟩) xs.length cap) (xs.take m ++ List.replicate (xs.length - m) zx) :: rest) := by
  refine row_put (o := m * K.sz) (us := K.flat (List.replicate (xs.length - m) zx)) h4 (by intro e; subst e; simp at hm) (by simp; omega) (by omega) ?_ fun g2 cap2 cur2 hv2 hg2 => ?_
  ·rw [EK.flat_append, EK.flat_take, splice, List.drop_eq_nil_of_le (by rw [EK.length_flat]; omega), List.append_nil]
  ·injection hv2 with e1 _ _; injection e1 with e1; injection e1 with e1 _ _; subst e1
   have : cur2 = cur := by
    have h9 : some (Obj.cells cur2 E) = some (Obj.cells cur E) := hg2.symm.trans hg
    injection h9 with h9; injection h9
   subst this
   exact ⟨c', hb', hs', fun j hj => ho j (by omega), fun j hj => by have := hn j hj; simpa using this, hq⟩
 have hv : a.eval x = slcV (.slice (some ⟨g, 0, none⟩) xs.length cap) m K.sz := h2.ev hx
 have hvv : slcV (.slice (some ⟨g, 0, none⟩) xs.length cap) m K.sz = .slice (some ⟨g, m * K.sz, none⟩) (xs.length - m) (cap - m) := by
  simp only [slcV, if_neg (by omega : ¬ cap = m), Option.map_some, ea]
 obtain ⟨q, hq0⟩ : ∃ q, xs.length - m = q + 1 := ⟨xs.length - m - 1, by omega⟩
 have : (execOp a.eval ⟨none, .call ⟨.builtin .clear, #[x], #[t]⟩, ty, p, af, none⟩).run P w = .ok (.value (.tuple #[])) w' := by
  rw [hq0] at hvv hzc hst
  simp [execOp, resolve, Go.invoke, Go.builtin, hv, hvv, Builtin.clear_, run_underlying ht, hz, hzc, hst]
 exact wpl_value rfl this (h a w' h1 h2 h3 hsat (h5.trans hk))
end
variable {P : Program} {ρ : Env}
open Go.RowKit Go.MapKept
section
variable {α : Type}
def mfind : List (Int × α) → Int → Option α
 | [], _ => none
 | p :: l, k => if p.1 = k then some p.2 else mfind l k
def mset : List (Int × α) → Int → α → List (Int × α)
 | [], k, v => [(k, v)]
 | p :: l, k, v => if p.1 = k then (k, v) :: l else p :: mset l k v
def ents (enc : α → Value) (l : List (Int × α)) : List (Value × Value) := l.map fun p => (Value.int .i64 p.1, enc p.2)
def MapB (enc : α → Value) (b : Nat) (l : List (Int × α)) : HProp := fun m => ∃ es clock, m b = some (.map es clock) ∧ Stamped es clock ∧ es.toList.map (fun e => (e.key, e.val)) = ents enc l ∧ (∀ p ∈ l, (Lit.int .i64 p.1).wf = true) ∧ l.length ≤ 4294967296
theorem mset_mem : ∀ (l : List (Int × α)) (k : Int) (v : α) (p : Int × α), p ∈ mset l k v → p ∈ l ∨ p = (k, v)
 | [], _, _, _, h => by simp [mset] at h; exact .inr h
 | q :: l, k, v, p, h => by
  unfold mset at h; split at h
  ·rcases List.mem_cons.1 h with z | z
   ·exact .inr z
   ·exact .inl (List.mem_cons_of_mem _ z)
  ·rcases List.mem_cons.1 h with z | z
   ·exact .inl (by rw [z]; exact List.mem_cons_self)
   ·rcases mset_mem l k v p z with y | y
    ·exact .inl (List.mem_cons_of_mem _ y)
    ·exact .inr y
theorem findNow_ents (enc : α → Value) (k : Int) : ∀ (es : List MapEntry) (l : List (Int × α)) (i : Nat), es.map (fun e => (e.key, e.val)) = ents enc l →
  (∃ j x, Instr.findNow (.int .i64) (.int .i64 k) es i = some (some (i + j, enc x)) ∧ mfind l k = some x ∧ (es[j]?).map (·.key) = some (.int .i64 k) ∧ ∀ v, mset l k v = l.set j (k, v)) ∨
  (Instr.findNow (.int .i64) (.int .i64 k) es i = some none ∧ mfind l k = none ∧ (∀ e ∈ es, e.key ≠ .int .i64 k) ∧ ∀ v, mset l k v = l ++ [(k, v)])
 | [], [], i, _ => .inr ⟨rfl, rfl, fun _ h => (by cases h), fun _ => rfl⟩
 | [], _ :: _, _, h => by simp [ents] at h
 | _ :: _, [], _, h => by simp [ents] at h
 | e :: es, p :: l, i, h => by
  simp only [ents, List.map_cons, List.cons.injEq, Prod.mk.injEq] at h
  obtain ⟨⟨h1, h2⟩, h3⟩ := h
  unfold Instr.findNow
  rw [h1]
  by_cases c : k = p.1
  ·have : Instr.sameNow (.int .i64) (.int .i64 k) (.int .i64 p.1) = some true := by simp [Instr.sameNow, c]
   rw [this]
   refine .inl ⟨0, p.2, by simp [h2], by unfold mfind; rw [if_pos c.symm], by simp [h1, c], fun v => by unfold mset; rw [if_pos c.symm]; rfl⟩
  ·have : Instr.sameNow (.int .i64) (.int .i64 k) (.int .i64 p.1) = some false := by simp [Instr.sameNow, c]
   rw [this]
   rcases findNow_ents enc k es l (i + 1) h3 with ⟨j, x, a1, a2, a3, a4⟩ | ⟨a1, a2, a3, a4⟩
   ·refine .inl ⟨j + 1, x, by rw [show i + (j + 1) = i + 1 + j by omega]; exact a1, by unfold mfind; rw [if_neg (fun z => c z.symm)]; exact a2, by simpa using a3, fun v => by unfold mset; rw [if_neg (fun z => c z.symm), a4 v]; rfl⟩
   ·refine .inr ⟨a1, by unfold mfind; rw [if_neg (fun z => c z.symm)]; exact a2, fun e' he => ?_, fun v => by unfold mset; rw [if_neg (fun z => c z.symm), a4 v]; rfl⟩
    rcases List.mem_cons.1 he with z | z
    ·rw [z, h1]; intro y; injection y with _ y; exact c y.symm
    ·exact a3 e' z
end
section
variable {P : Program} {n : Nat} {Z : Act → World → Prop} {w0 : Beg} {ρ : Env} {H rest : List HProp} {ops : Array Oper} {l : List Oper} {α : Type}
theorem SO.makeMap {d t ty : Nat} {p : String} {af : Array Edge} (enc : α → Value) (hd : Nat.blt d n = true)
  (h : ∀ b, SO P n Z w0 ops l ((d, .map (some b)) :: ρ) (MapB enc b [] :: H)) : SO P n Z w0 ops (⟨some d, .makeMap t none, ty, p, af, none⟩ :: l) ρ H := by
 refine .raw hd fun r w hr hs => ⟨_, w.alloc (.map #[] 0), ρ, MapB enc w.heap.size [] :: H, ?_, ?_, ?_, h w.heap.size, fun _ h => h⟩
 ·simp only [execOp, Option.map_none]
  simp [run_makeMap]
 ·refine hs.alloc _ _ ⟨#[], 0, by simp, stamped_empty 0, rfl, by simp, by simp⟩
 ·exact .alloc _ _
theorem lookup_run {enc : α → Value} {b : Nat} {xs : List (Int × α)} {m : PH} {w : World} {t kt et : TypeId} {k : Int} {z : Value} (hm : m.Sub (hp w)) (hb : MapB enc b xs m) (ht : P.underlying t = some (.map kt et)) (hk : P.underlying kt = some (.int .i64)) (hz : ∀ w, (zeroValue et).run P w = .ok z w) (ok : Bool) :
  (Instr.lookup t (.map (some b)) (.int .i64 k) ok).run P w = .ok (if ok then .tuple #[((mfind xs k).map enc).getD z, .bool (mfind xs k).isSome] else ((mfind xs k).map enc).getD z) w := by
 obtain ⟨es, clock, e1, e2, e3, e4, e5⟩ := hb
 have hh : w.heap[b]? = some (.map es clock) := hm b _ e1
 have kk : IsKey (.int .i64) (.int .i64 k) := rfl
 have ck := fun e => MapKept.run_checkKey (w := w) hk kk e 9999
 rcases findNow_ents enc k es.toList xs 0 e3 with ⟨j, x, a1, a2, _⟩ | ⟨a1, a2, _⟩
 ·have fk := MapKept.run_findKey (w := w) hk a1
  cases ok <;> simp [Instr.lookup.eq_1, run_underlying ht, MapKept.run_getObj_map hh, ck, fk, a2]
 ·have fk := MapKept.run_findKey (w := w) hk a1
  cases ok <;> simp [Instr.lookup.eq_1, run_underlying ht, MapKept.run_getObj_map hh, ck, fk, a2, hz]
theorem SO.lookup1 {d t ty : Nat} {kt et : TypeId} {x ix : Operand} {p : String} {af : Array Edge} {enc : α → Value} {b : Nat} {xs : List (Int × α)} {k : Int} {z : Value} (hd : Nat.blt d n = true) (ht : P.underlying t = some (.map kt et)) (hk : P.underlying kt = some (.int .i64)) (hz : ∀ w, (zeroValue et).run P w = .ok z w) (hx : ev ρ x = some (.map (some b))) (hi : ev ρ ix = some (.int .i64 k))
  (h : SO P n Z w0 ops l ((d, ((mfind xs k).map enc).getD z) :: ρ) (MapB enc b xs :: rest)) : SO P n Z w0 ops (⟨some d, .lookup t x ix false, ty, p, af, none⟩ :: l) ρ (MapB enc b xs :: rest) := by
 refine .raw hd fun r w hr hs => ⟨_, _, ρ, _, ?_, hs, .refl w, h, fun _ h => h⟩
 obtain ⟨m, hm, hb⟩ := hs.head
 simp [execOp, hr x _ hx, hr ix _ hi, lookup_run hm hb ht hk hz false]
theorem Sat.putObj {w : World} {A A' : HProp} {l : List HProp} {b : Nat} {o' : Obj} (h : Sat w (A :: l))
  (hA : ∀ m, A m → PH.Sub m (hp w) → (∃ o, m b = some o) ∧ A' (fun j => if j = b then some o' else m j)) : Sat { w with heap := w.heap.setIfInBounds b o' } (A' :: l) := by
 refine h.update fun m1 ha hs hbig => ?_
 obtain ⟨⟨o, hb⟩, hA'⟩ := hA m1 ha hs
 have hlt : b < w.heap.size := by
  have : w.heap[b]? = some o := hs b o hb
  exact (Array.getElem?_eq_some_iff.1 this).1
 refine ⟨_, hA', fun j q e => ?_, fun j hj _ => ?_, fun j hj hn => ?_⟩
 ·show (w.heap.setIfInBounds b o')[j]? = some q
  have e' : (if j = b then some o' else m1 j) = some q := e
  clear e
  split at e'
  ·rename_i z; subst z
   rw [Array.getElem?_setIfInBounds_self_of_lt hlt]; exact e'
  ·rename_i z
   rw [Array.getElem?_setIfInBounds_ne (fun y => z y.symm)]; exact hs j q e'
 ·show (if j = b then some o' else m1 j) = none
  split
  ·rename_i h2; subst h2; simp [hb] at hj
  ·exact hj
 ·show (w.heap.setIfInBounds b o')[j]? = w.heap[j]?
  exact Array.getElem?_setIfInBounds_ne (fun e => by subst e; simp [hb] at hn)
theorem Keep.putObj (w : World) (b : Nat) (o' : Obj) : Keep w { w with heap := w.heap.setIfInBounds b o' } := ⟨rfl, rfl, rfl, by simp⟩
end
section
variable {P : Program} {f : FuncId} {n : Nat} {Z : Act → World → Prop} {R : Ending → World → Prop} {w0 : Beg} {k : List Item} {ρ ρ' : Env} {H H' pre rest : List HProp} {ops : Array Oper} {l : List Oper}
end
open Go.RowKit Go.MapKept
section
variable {α : Type}
def skeys (l : List (Int × α)) : List Int := (l.map (·.1)).mergeSort fun x y => decide (x ≤ y)
theorem insert_perm {H : Type} (x : Lit × DataW H) : ∀ l : List (Lit × DataW H), (DataW.insert x l).Perm (x :: l)
 | [] => .refl _
 | y :: l => by
  unfold DataW.insert; split
  ·exact .refl _
  ·exact (List.Perm.cons y (insert_perm x l)).trans (.swap _ _ _)
theorem inserts_perm {H : Type} : ∀ l : List (Lit × DataW H), (l.foldr DataW.insert []).Perm l
 | [] => .refl _
 | x :: l => (insert_perm x _).trans (.cons x (inserts_perm l))
abbrev anyR : Value → Option (DataW Unit × List MemPlace) := fun _ => some (.map [], [])
theorem MapB.owns {P : Program} {k : TypeId} {enc : α → Value} {b : Nat} {l : List (Int × α)} {m : PH} {w : World} (h : MapB enc b l m) (hs : PH.Sub m (hp w)) (hk : P.underlying k = some (.int .i64)) :
  ∃ D0 : DataW Unit, w.ownsMap P k anyR b l.length D0 ∧ (intKeys D0).Perm (l.map (·.1)) ∧ Maps.size D0 ≤ 4294967296 := by
 obtain ⟨es, clock, e1, e2, e3, e4, e5⟩ := h
 have hl : es.size = l.length := by
  have := congrArg List.length e3
  simpa [ents] using this
 have hkey : ∀ e ∈ es.toList, ∃ p ∈ l, e.key = .int .i64 p.1 := fun e he => by
  have : (e.key, e.val) ∈ ents enc l := by rw [← e3]; exact List.mem_map.2 ⟨e, he, rfl⟩
  obtain ⟨p, hp, hpe⟩ := List.mem_map.1 this
  exact ⟨p, hp, by injection hpe with h1 _; exact h1.symm⟩
 have hrd : ∀ e ∈ es.toList, ∃ p ∈ l, e.key = .int .i64 p.1 ∧ Go.WideElems.rd P k anyR e = some (.int .i64 p.1, .map []) := fun e he => by
  obtain ⟨p, hp, hpe⟩ := hkey e he
  refine ⟨p, hp, hpe, ?_⟩
  unfold Go.WideElems.rd
  rw [hpe, Maps.keyOf_int_mk hk (e4 p hp)]; rfl
 refine ⟨_, ⟨es, clock, hs _ _ e1, ⟨by rw [hl]; simp only [maxLen]; omega, e2, fun e he => ?_⟩, by omega, rfl⟩, ?_, ?_⟩
 ·obtain ⟨p, _, _, h⟩ := hrd e he
  exact ⟨_, h⟩
 ·show (((es.toList.map (Go.WideElems.rg P k anyR)).foldr DataW.insert []).map fun p => intOf p.1).Perm _
  refine ((inserts_perm _).map _).trans ?_
  have : (es.toList.map (Go.WideElems.rg P k anyR)).map (fun p => intOf p.1) = l.map (·.1) := by
   have h9 := congrArg (List.map (fun p : Value × Value => match p.1 with | .int _ a => a | _ => 0)) e3
   simp only [ents, List.map_map] at h9
   rw [List.map_map]
   refine Eq.trans (List.map_congr_left fun e he => ?_) (h9.trans (List.map_congr_left fun p _ => rfl))
   obtain ⟨p, _, hpe, hr⟩ := hrd e he
   simp only [Function.comp_apply, Go.WideElems.rg, hr, Option.getD_some, hpe]
   rfl
  rw [this]
 ·show ((es.toList.map (Go.WideElems.rg P k anyR)).foldr DataW.insert []).length ≤ _
  rw [length_sorted, List.length_map, Array.length_toList]; omega
theorem Box.cellAt {w : World} {b : Nat} {v : Value} {cs : List Value} {H : List HProp} (h : Sat w (Box b (v :: cs) :: H)) : w.cell? ⟨b, 0, none⟩ = some v ∧ b < w.heap.size := by
 obtain ⟨m, hm, hb⟩ := h.head
 obtain ⟨E, hb⟩ := hb.blk hm
 exact ⟨by rw [cell_of_blk hb]; simp, (Array.getElem?_eq_some_iff.1 hb).1⟩
theorem Keep.below {w w' : World} (h : Below w.heap.size w w') : Keep w w' := ⟨h.os, h.tape, h.output, h.size⟩
theorem Ct.sorted {P : Program} {n : Nat} {g gk : FuncId} {E : TypeId} {k : TypeId} {enc : α → Value} (hk : P.underlying k = some (.int .i64))
  (c : ∀ (w : World) (bm b nn : Nat) (D0 : DataW Unit), bm < w.heap.size → w.cell? ⟨bm, 0, none⟩ = some (.map (some b)) → w.ownsMap P k anyR b nn D0 → Maps.size D0 ≤ 4294967296 →
   CallsIn Fence.wide n P g #[.func (.func gk) #[] #[.pointer (some ⟨bm, 0, none⟩)]] w fun e w' => ∃ (v : Value) (ss : List Int), e = .returned v ∧ ss.Perm (intKeys D0) ∧ w'.ownsRow w.heap.size E 1 v ss.length ((ss.mergeSort (fun x y => decide (x ≤ y))).map encZ) ∧ (v = .slice none 0 0 ↔ ss = []) ∧ Below w.heap.size w w')
  (bm b : Nat) (l : List (Int × α)) : Ct P g [.func (.func gk) #[] #[bp bm 0]] (fun _ => True) [Box bm [.map (some b)], MapB enc b l] (fun u H' => ∃ v, u = v ∧ H' = [Own E (ekI .i64) v (skeys l), Box bm [.map (some b)], MapB enc b l]) := by
 intro w F _ hs
 obtain ⟨hc, hlt⟩ := Box.cellAt (cs := []) hs
 obtain ⟨m, hm, hB⟩ := (hs.drop).head
 obtain ⟨D0, ho, hp0, hsz⟩ := hB.owns hm hk
 refine (callsIn_wide (n := n)).1 ((c w bm b _ D0 hlt hc ho hsz).mono ?_)
 rintro e w' ⟨v, ss, rfl, hperm, hrow, hnil, hbel⟩
 refine ⟨v, _, rfl, ⟨v, rfl, rfl⟩, ?_, Keep.below hbel⟩
 have hsort : ss.mergeSort (fun x y => decide (x ≤ y)) = skeys l := mergeSort_of_perm_i (hperm.trans hp0)
 have hlen : ss.length = (skeys l).length := by rw [← hsort]; exact (List.mergeSort_perm ss _).length_eq.symm
 have hrow2 : w'.ownsRow w.heap.size E (ekI .i64).sz v (skeys l).length ((ekI .i64).flat (skeys l)) := by
  rw [hsort, hlen] at hrow
  have : (ekI .i64).flat (skeys l) = (skeys l).map encZ := by
   unfold EK.flat; generalize skeys l = L; induction L with
   | nil => rfl
   | cons a L ih => rw [List.flatMap_cons, ih]; rfl
  rw [this]; exact hrow
 have hO := Own.of_row hrow2
 have hs1 : Sat w' ([Box bm [.map (some b)], MapB enc b l] ++ [F]) := hs.same hbel.block
 have hs0 : Sat w ((fun m : PH => ∀ q o, m q = some o → w.heap.size ≤ q) :: ([Box bm [.map (some b)], MapB enc b l] ++ [F])) :=
  ⟨fun _ => none, hp w, fun _ => .inl rfl, fun _ _ e => by simp at e, .refl _, fun _ _ e => by simp at e, hs⟩
 refine hs0.update fun m1 hm1 hsub hbig => ⟨_, hO, fun q o e1 => ?_, fun q hq hlt' => ?_, fun q hlt' hq => hbel.block q hlt'⟩
 ·have e' : (if some q = v.ownBlock then w'.heap[q]? else none) = some o := e1
  split at e'
  ·exact e'
  ·cases e'
 ·show (if some q = v.ownBlock then w'.heap[q]? else none) = none
  split
  ·rename_i hb'
   exfalso
   rcases hrow2.2 with ⟨rfl, _⟩ | ⟨gg, cap, cur, rfl, hbase, _⟩
   ·simp [Value.ownBlock] at hb'
   ·simp only [Value.ownBlock, Option.some.injEq] at hb'; omega
  ·rfl
end
open Go.RowKit Go.MapKept
section
variable {α : Type}
def MapO (enc : α → Value) (v : Value) (o : Option (List (Int × α))) : HProp := fun m => match o with
 | none => v = .map none
 | some l => ∃ b, v = .map (some b) ∧ MapB enc b l m
def mfindO (o : Option (List (Int × α))) (k : Int) : Option α := o.bind fun l => mfind l k
def lk1 (o : Option (List (Int × α))) (k : Int) (z : α) : Option α := some ((mfindO o k).getD z)
end
section
variable {P : Program} {f : FuncId} {R : Ending → World → Prop} {k : List Item} {n : Nat} {Z : Act → World → Prop} {w0 : Beg} {ρ : Env} {H rest : List HProp} {ops : Array Oper} {l : List Oper} {α : Type} {enc : α → Value} {v : Value} {o ys : Option (List (Int × α))}
theorem MapO.cases_SO {A : HProp} (h0 : o = none → v = .map none → SO P n Z w0 ops l ρ (MapO enc v o :: rest)) (h1 : ∀ b xs, o = some xs → v = .map (some b) → SO P n Z w0 ops l ρ (MapB enc b xs :: rest)) : SO P n Z w0 ops l ρ (MapO enc v o :: rest) := by
 intro a w q1 q2 q3 q4 q5
 cases o with
 | none =>
  obtain ⟨m, hm, hB⟩ := q4.head
  exact h0 rfl hB a w q1 q2 q3 q4 q5
 | some xs =>
  obtain ⟨m1, m2, d, s1, s2, ⟨b, hv, hB⟩, hr⟩ := q4
  exact h1 b xs rfl hv a w q1 q2 q3 ⟨m1, m2, d, s1, s2, hB, hr⟩ q5
theorem lookup_nil {w : World} {t kt et : TypeId} {k : Int} {z : Value} (ht : P.underlying t = some (.map kt et)) (hk : P.underlying kt = some (.int .i64)) (hz : ∀ w, (zeroValue et).run P w = .ok z w) (ok : Bool) :
  (Instr.lookup t (.map none) (.int .i64 k) ok).run P w = .ok (if ok then .tuple #[z, .bool false] else z) w := by
 have kk : IsKey (.int .i64) (.int .i64 k) := rfl
 have ck := fun e => MapKept.run_checkKey (w := w) hk kk e 9999
 have fk := MapKept.run_findKey (w := w) (l := []) hk (show Instr.findNow (.int .i64) (.int .i64 k) [] 0 = some none from rfl)
 cases ok <;> simp [Instr.lookup.eq_1, run_underlying ht, ck, hz, fk]
theorem MapO.toB {b : Nat} {xs : List (Int × α)} (h : SO P n Z w0 ops l ρ (MapO enc (.map (some b)) (some xs) :: rest)) : SO P n Z w0 ops l ρ (MapB enc b xs :: rest) := h.sat fun _ s => s.weaken fun _ q => ⟨b, rfl, q⟩
theorem SO.lookup1O {d t ty : Nat} {kt et : TypeId} {x ix : Operand} {p : String} {af : Array Edge} {k : Int} {zx u : α} (hd : Nat.blt d n = true) (ht : P.underlying t = some (.map kt et)) (hk : P.underlying kt = some (.int .i64)) (hz : ∀ w, (zeroValue et).run P w = .ok (enc zx) w) (hx : ev ρ x = some v) (hi : ev ρ ix = some (.int .i64 k)) (hl : lk1 o k zx = some u)
  (h : SO P n Z w0 ops l ((d, enc u) :: ρ) (MapO enc v o :: rest)) : SO P n Z w0 ops (⟨some d, .lookup t x ix false, ty, p, af, none⟩ :: l) ρ (MapO enc v o :: rest) := by
 injection hl with hl
 subst hl
 refine MapO.cases_SO (A := fun _ => True) ?_ ?_
 ·rintro rfl rfl
  refine .raw hd fun r w hr hs => ⟨_, _, ρ, _, ?_, hs, .refl w, h, fun _ h => h⟩
  simp [execOp, hr x _ hx, hr ix _ hi, lookup_nil ht hk hz false, mfindO]
 ·rintro b xs rfl rfl
  refine SO.lookup1 hd ht hk hz hx hi ?_
  refine MapO.toB ?_
  have e : ((mfind xs k).map enc).getD (enc zx) = enc ((mfindO (some xs) k).getD zx) := by
   simp only [mfindO, Option.bind_some]; cases mfind xs k <;> rfl
  rw [e]; exact h
end
section
variable {α : Type}
def skeysO (o : Option (List (Int × α))) : Option (List Int) := o.map skeys
theorem Ct.keysO {P : Program} {n : Nat} {g gk : FuncId} {T : TypeId} {enc : α → Value} (c : ∀ mb W, CallsIn Fence.wide n P g #[.map mb] W fun e w' => e = .returned (.func (.func gk) #[] #[.pointer (some ⟨W.heap.size, 0, none⟩)]) ∧ w' = W.alloc (.cells #[.map mb] T)) (v : Value) (o : Option (List (Int × α))) :
  Ct P g [v] (fun _ => True) [MapO enc v o] (fun u H' => ∃ bm, u = .func (.func gk) #[] #[bp bm 0] ∧ H' = [Box bm [v], MapO enc v o]) := by
 intro w F _ hs
 obtain ⟨mb, rfl⟩ : ∃ mb, v = .map mb := by
  obtain ⟨m, hm, hB⟩ := hs.head
  cases o with
  | none => exact ⟨none, hB⟩
  | some l => obtain ⟨b, hb, _⟩ := hB; exact ⟨some b, hb⟩
 refine (callsIn_wide (n := n)).1 ((c mb w).mono ?_)
 rintro e w' ⟨rfl, rfl⟩
 refine ⟨_, [Box w.heap.size [.map mb], MapO enc (.map mb) o], rfl, ⟨w.heap.size, rfl, rfl⟩, ?_, .alloc _ _⟩
 exact Sat.alloc hs _ _ ⟨T, by simp⟩
theorem Ct.sortedO {P : Program} {n : Nat} {g gk : FuncId} {E : TypeId} {k : TypeId} {enc : α → Value} (hk : P.underlying k = some (.int .i64))
  (c : ∀ (w : World) (bm b nn : Nat) (D0 : DataW Unit), bm < w.heap.size → w.cell? ⟨bm, 0, none⟩ = some (.map (some b)) → w.ownsMap P k anyR b nn D0 → Maps.size D0 ≤ 4294967296 →
   CallsIn Fence.wide n P g #[.func (.func gk) #[] #[.pointer (some ⟨bm, 0, none⟩)]] w fun e w' => ∃ (v : Value) (ss : List Int), e = .returned v ∧ ss.Perm (intKeys D0) ∧ w'.ownsRow w.heap.size E 1 v ss.length ((ss.mergeSort (fun x y => decide (x ≤ y))).map encZ) ∧ (v = .slice none 0 0 ↔ ss = []) ∧ Below w.heap.size w w')
  (bm : Nat) (v : Value) (o : Option (List (Int × α))) (ys : List Int) (ho : skeysO o = some ys) : Ct P g [.func (.func gk) #[] #[bp bm 0]] (fun _ => True) [Box bm [v], MapO enc v o] (fun u H' => ∃ r, u = r ∧ H' = [Own E (ekI .i64) r ys, Box bm [v], MapO enc v o]) := by
 cases o with
 | none => cases ho
 | some l =>
  injection ho with ho
  subst ho
  intro w F _ hs
  obtain ⟨m, hm, b, rfl, hB⟩ := (hs.drop).head
  have hs' : Sat w ([Box bm [.map (some b)], MapB enc b l] ++ [F]) := by
   refine (((hs.perm (.swap _ _ _)).weaken (B := MapB enc b l) fun m q => ?_).perm (.swap _ _ _))
   obtain ⟨b', e, q⟩ := q
   injection e with e; injection e with e; subst e; exact q
  refine (Ct.sorted hk c bm b l w F trivial hs').mono ?_
  rintro e w' ⟨u, H', rfl, ⟨r, rfl, rfl⟩, hs2, hk2⟩
  refine ⟨u, _, rfl, ⟨u, rfl, rfl⟩, ?_, hk2⟩
  have hs3 : Sat w' ([MapB enc b l] ++ [Own E (ekI .i64) u (skeys l), Box bm [.map (some b)], F]) := hs2.perm ((List.Perm.cons _ (.swap _ _ _)).trans (.swap _ _ _))
  exact (hs3.weaken (B := MapO enc (.map (some b)) (some l)) fun m q => ⟨b, rfl, q⟩).perm ((List.Perm.swap _ _ _).trans (.cons _ (.swap _ _ _)))
end
section
variable {α : Type} (R : Nat → α → HProp)
end
section
variable {α : Type} {R : Nat → α → HProp} {E : TypeId} {v : Value} {xs : List α} {w : World} {H : List HProp}
end
section
variable {P : Program} {f : FuncId} {Rr : Ending → World → Prop} {k : List Item} {n : Nat} {Z : Act → World → Prop} {w0 : Beg} {ρ : Env} {H rest : List HProp} {ops : Array Oper} {l : List Oper} {α : Type} {R : Nat → α → HProp} {E : TypeId} {v : Value} {xs : List α}
end
section
variable {P : Program} {f : FuncId} {n : Nat} {R : Ending → World → Prop} {w0 : Beg} {k : List Item} {ρ : Env} {H : List HProp} {l : List Oper} {T : List Tok} {D : List Dat} {ini fin : List Nat} {bf : List (List Nat)}
theorem S.draw2 {Y Z : (Env → List HProp → Prop) → Prop} {rid : Nat} (hm : P.follows .mixedOrders = true) (hok : okD l T D ini fin bf = true) (hI : ∀ Q, postQ T Q ini [] [] = Y Q) (hini : ∀ x w, EnvOk x ρ → Sat w H → Y (fun ρ' H' => EnvAll x ρ' ∧ Sat w (H' ++ [])))
  (hE : ∀ Q, preQ T Q fin [] [] = Z Q) (hsp : Specs P l.toArray T n w0 l D) (hfin : Z (fun ρ' H' => S P f n R w0 k ρ' H')) (hu : w0.rd = none := by rfl) : S P f n R w0 (.code (.region rid l.toArray true) :: k) ρ H :=
 S.draw' hm hok (fun x w h1 h2 => by rw [hI]; exact hini x w h1 h2) hE hsp hfin hu
theorem spec2 {ops : Array Oper} {o : Oper} {d : Dat} {L : List Nat} {X : (Env → List HProp → Prop) → Prop} (hX : ∀ Q, preQ T Q L [] [] = X Q) (h : ∀ Fr, X (fun ρ H => SO P n (PZ T d n w0 Fr) w0 ops [o] ρ (H ++ [Fr]))) :
  ∀ Fr, preQ T (fun ρ H => SO P n (PZ T d n w0 Fr) w0 ops [o] ρ (H ++ [Fr])) L [] [] := fun Fr => by rw [hX]; exact h Fr
theorem PZ.of2 {d : Dat} {Fr : HProp} {a : Act} {w : World} {Y : (Env → List HProp → Prop) → Prop} (hY : ∀ Q, postQ T Q d.post [] [] = Y Q) (h1 : a.tmps.size = n) (h3 : a.defers = w0.ds) (h5 : Keep w0.w w) (h : Y (fun ρ H => EnvAll a.tmps ρ ∧ Sat w (H ++ [Fr]))) : PZ T d n w0 Fr a w := .of h1 h3 h5 (by rw [hY]; exact h)
end
open Go.RowKit Go.MapKept
section
variable {α : Type}
def MapL (enc : α → Value) (b : Nat) (l : List (Int × α)) : HProp := fun m => ∃ es clock, m b = some (.map es clock) ∧ Stamped es clock ∧ es.toList.map (fun e => (e.key, e.val)) = ents enc l
theorem MapB.toL {enc : α → Value} {b : Nat} {l : List (Int × α)} {m : PH} (h : MapB enc b l m) : MapL enc b l m := by
 obtain ⟨es, clock, e1, e2, e3, _, _⟩ := h
 exact ⟨es, clock, e1, e2, e3⟩
def fewB (l : List (Int × α)) : Bool := (l.all fun p => (Lit.int .i64 p.1).wf) && decide (l.length ≤ 4294967296)
theorem MapL.toB {enc : α → Value} {b : Nat} {l : List (Int × α)} {m : PH} (h : MapL enc b l m) (hf : fewB l = true) : MapB enc b l m := by
 obtain ⟨es, clock, e1, e2, e3⟩ := h
 simp only [fewB, Bool.and_eq_true, List.all_eq_true, decide_eq_true_eq] at hf
 exact ⟨es, clock, e1, e2, e3, hf.1, hf.2⟩
end
section
variable {P : Program} {n : Nat} {Z : Act → World → Prop} {w0 : Beg} {ρ : Env} {H rest : List HProp} {ops : Array Oper} {l : List Oper} {α : Type}
theorem lookup_runL {enc : α → Value} {b : Nat} {xs : List (Int × α)} {m : PH} {w : World} {t kt et : TypeId} {k : Int} {z : Value} (hm : m.Sub (hp w)) (hb : MapL enc b xs m) (ht : P.underlying t = some (.map kt et)) (hk : P.underlying kt = some (.int .i64)) (hz : ∀ w, (zeroValue et).run P w = .ok z w) (ok : Bool) :
  (Instr.lookup t (.map (some b)) (.int .i64 k) ok).run P w = .ok (if ok then .tuple #[((mfind xs k).map enc).getD z, .bool (mfind xs k).isSome] else ((mfind xs k).map enc).getD z) w := by
 obtain ⟨es, clock, e1, e2, e3⟩ := hb
 have hh : w.heap[b]? = some (.map es clock) := hm b _ e1
 have kk : IsKey (.int .i64) (.int .i64 k) := rfl
 have ck := fun e => MapKept.run_checkKey (w := w) hk kk e 9999
 rcases findNow_ents enc k es.toList xs 0 e3 with ⟨j, x, a1, a2, _⟩ | ⟨a1, a2, _⟩
 ·have fk := MapKept.run_findKey (w := w) hk a1
  cases ok <;> simp [Instr.lookup.eq_1, run_underlying ht, MapKept.run_getObj_map hh, ck, fk, a2]
 ·have fk := MapKept.run_findKey (w := w) hk a1
  cases ok <;> simp [Instr.lookup.eq_1, run_underlying ht, MapKept.run_getObj_map hh, ck, fk, a2, hz]
theorem SO.lookupOkL {d t ty : Nat} {kt et : TypeId} {x ix : Operand} {p : String} {af : Array Edge} {enc : α → Value} {b : Nat} {xs : List (Int × α)} {k : Int} {z : Value} (hd : Nat.blt d n = true) (ht : P.underlying t = some (.map kt et)) (hk : P.underlying kt = some (.int .i64)) (hz : ∀ w, (zeroValue et).run P w = .ok z w) (hx : ev ρ x = some (.map (some b))) (hi : ev ρ ix = some (.int .i64 k))
  (h : SO P n Z w0 ops l ((d, .tuple #[((mfind xs k).map enc).getD z, .bool (mfind xs k).isSome]) :: ρ) (MapL enc b xs :: rest)) : SO P n Z w0 ops (⟨some d, .lookup t x ix true, ty, p, af, none⟩ :: l) ρ (MapL enc b xs :: rest) := by
 refine .raw hd fun r w hr hs => ⟨_, _, ρ, _, ?_, hs, .refl w, h, fun _ h => h⟩
 obtain ⟨m, hm, hb⟩ := hs.head
 simp [execOp, hr x _ hx, hr ix _ hi, lookup_runL hm hb ht hk hz true]
theorem update_runL {enc : α → Value} {b : Nat} {xs : List (Int × α)} {m : PH} {w : World} {t kt et : TypeId} {k : Int} {v : α} (hm : m.Sub (hp w)) (hb : MapL enc b xs m) (ht : P.underlying t = some (.map kt et)) (hk : P.underlying kt = some (.int .i64)) :
  ∃ es clock, (Instr.mapUpdate t (.map (some b)) (.int .i64 k) (enc v)).run P w = .ok () { w with heap := w.heap.setIfInBounds b (.map es clock) } ∧ Stamped es clock ∧ es.toList.map (fun e => (e.key, e.val)) = ents enc (mset xs k v) := by
 obtain ⟨es, clock, e1, e2, e3⟩ := hb
 have hh : w.heap[b]? = some (.map es clock) := hm b _ e1
 have kk : IsKey (.int .i64) (.int .i64 k) := rfl
 have ck := fun e => MapKept.run_checkKey (w := w) hk kk e 9999
 rcases findNow_ents enc k es.toList xs 0 e3 with ⟨j, x, a1, a2, a3, a4⟩ | ⟨a1, a2, a3, a4⟩
 ·have fk := MapKept.run_findKey (w := w) hk a1
  rw [Array.getElem?_toList] at a3
  have ks : ∀ w, (Instr.keyThatStays (.int .i64 k) (.int .i64 k)).run P w = .ok (.int .i64 k) w := fun w => by
   simp [Instr.keyThatStays, Instr.sameBits]
  refine ⟨es.modify j fun e => { e with key := .int .i64 k, val := enc v }, clock, ?_, ?_, ?_⟩
  ·have so := MapKept.run_setObj_map (P := P) (.map (es.modify j fun e => { e with key := .int .i64 k, val := enc v }) clock) hh
   simp [Instr.mapUpdate.eq_1, run_underlying ht, MapKept.run_getObj_map hh, ck, fk, a3, ks, so]
  ·refine stamped_modify e2 j _ (fun _ _ => rfl) (fun e _ he => ?_)
   rw [he] at a3
   injection a3 with a3
   exact a3.symm
  ·rw [a4 v]
   have hj : j < es.size := by
    rcases Nat.lt_or_ge j es.size with z | z
    ·exact z
    ·rw [Array.getElem?_eq_none z] at a3; cases a3
   apply List.ext_getElem?
   intro q
   have e3q := congrArg (fun l => l[q]?) e3
   simp only [ents, List.getElem?_map, Array.getElem?_toList] at e3q
   simp only [ents, List.getElem?_map, Array.getElem?_toList, Array.getElem?_modify, List.getElem?_set]
   by_cases c : j = q
   ·subst c
    have hl : j < xs.length := by
     have := congrArg List.length e3
     simp [ents] at this
     omega
    rw [if_pos rfl, if_pos rfl, if_pos hl, Array.getElem?_eq_getElem hj]; rfl
   ·rw [if_neg c, if_neg c]; exact e3q
 ·have fk := MapKept.run_findKey (w := w) hk a1
  refine ⟨es.push { key := .int .i64 k, val := enc v, born := clock }, clock + 1, ?_, stamped_push e2 a3, ?_⟩
  ·have so := MapKept.run_setObj_map (P := P) (.map (es.push { key := .int .i64 k, val := enc v, born := clock }) (clock + 1)) hh
   simp [Instr.mapUpdate.eq_1, run_underlying ht, MapKept.run_getObj_map hh, ck, fk, so]
  ·rw [a4 v]
   simp [ents, e3]
theorem SO.mapUpdateL {t ty : Nat} {kt et : TypeId} {x ix y : Operand} {p : String} {af : Array Edge} {enc : α → Value} {b : Nat} {xs : List (Int × α)} {k : Int} {v : α} (ht : P.underlying t = some (.map kt et)) (hk : P.underlying kt = some (.int .i64)) (hx : ev ρ x = some (.map (some b))) (hi : ev ρ ix = some (.int .i64 k)) (hy : ev ρ y = some (enc v))
  (h : SO P n Z w0 ops l ρ (MapL enc b (mset xs k v) :: rest)) : SO P n Z w0 ops (⟨none, .mapUpdate t x ix y, ty, p, af, none⟩ :: l) ρ (MapL enc b xs :: rest) := by
 refine .raw0 fun r w hr hs => ?_
 obtain ⟨m, hm', hb⟩ := hs.head
 obtain ⟨es, clock, hrun, hst, hen⟩ := update_runL (v := v) hm' hb ht hk (k := k)
 refine ⟨_, MapL enc b (mset xs k v) :: rest, ?_, ?_, Keep.putObj w b (.map es clock), h⟩
 ·simp [execOp, hr x _ hx, hr ix _ hi, hr y _ hy, hrun]
 ·refine Sat.putObj hs fun q hq _ => ?_
  obtain ⟨es0, c0, f1, f2, f3⟩ := hq
  exact ⟨⟨_, f1⟩, es, clock, by simp, hst, hen⟩
end
def lks (ρ : Env) : Env → List (Option Value)
 | [] => []
 | (t, _) :: l => look ρ t :: lks ρ l
def vls : Env → List (Option Value)
 | [] => []
 | (_, v) :: l => some v :: vls l
theorem fitl_of {ρ : Env} : ∀ {L : Env}, lks ρ L = vls L → fitl ρ L
 | [], _ => trivial
 | (t, v) :: l, h => by
  injection h with h1 h2
  exact ⟨h1, fitl_of h2⟩
section
variable {P : Program} {f : FuncId} {n : Nat} {Z : Act → World → Prop} {R : Ending → World → Prop} {w0 : Beg} {k : List Item} {ρ ρ' : Env} {H rest : List HProp} {ops : Array Oper} {l : List Oper} {d t : Nat} {p : String} {af : Array Edge} {v : Value} {x : Operand}
theorem vv {o : Op} (ho : OpV P ρ o v) (h : SO P n Z w0 ops l ((d, v) :: ρ) H) (hd : Nat.blt d n = true := by rfl) : SO P n Z w0 ops (⟨some d, o, t, p, af, none⟩ :: l) ρ H := SO.v hd ho h
theorem mv (hx : ev ρ x = some v) (h : SO P n Z w0 ops l ((d, v) :: ρ) H) (hd : Nat.blt d n = true := by rfl) : SO P n Z w0 ops (⟨some d, .move x, t, p, af, none⟩ :: l) ρ H := SO.v hd (opv_move hx) h
theorem ag (hx : ev ρ x = some v) (h : SO P n Z w0 ops l ((d, v) :: ρ) H) (hd : Nat.blt d n = true := by rfl) : SO P n Z w0 ops (⟨some d, .assign x, t, p, af, none⟩ :: l) ρ H := SO.v hd (opv_assign hx) h
theorem nc {a : Addr} (hx : ev ρ x = some (.pointer (some a))) (h : SO P n Z w0 ops l ((d, .pointer (some a)) :: ρ) H) (hd : Nat.blt d n = true := by rfl) : SO P n Z w0 ops (⟨some d, .nilCheck x, t, p, af, none⟩ :: l) ρ H := SO.v hd (opv_nilCheck hx) h
theorem fa {s b o o' : Nat} {fl : Nat} {fs : Array Field} {fd : Field} {sz : Nat} (hs : P.underlying s = some (.struct fs)) (hf : fs[fl]? = some fd) (hz : ∀ w, (sizeOf fd.type).run P w = .ok (sz + 1) w) (hx : ev ρ x = some (bp b o)) (ho : o + fd.offset = o') (h : SO P n Z w0 ops l ((d, bp b o') :: ρ) H) (hd : Nat.blt d n = true := by rfl) : SO P n Z w0 ops (⟨some d, .fieldAddr s x fl, t, p, af, none⟩ :: l) ρ H := SO.v hd (opv_fieldAddr hs hf hz hx ho) h
theorem ld {u ty b o : Nat} {cs : List Value} (ha : ∀ w, (isAgg u).run P w = .ok false w) (hx : ev ρ x = some (bp b o)) (hv : cs[o]? = some v)
  (h : SO P n Z w0 ops l ((d, v) :: ρ) (Box b cs :: rest)) (hd : Nat.blt d n = true := by rfl) : SO P n Z w0 ops (⟨some d, .load u x, ty, p, af, none⟩ :: l) ρ (Box b cs :: rest) := SO.load1 hd ha hx hv h
theorem pf {t : TypeId} {o : Op} {j : Nat} {b c e : Bool} {oj : Oper} {dj : Tmp} (hj : ops[j]? = some oj) (hdj : oj.dst = some dj) (hv : look ρ dj = some (.bool c)) (hc : c = e) (h : SO P n Z w0 ops l ((d, undef) :: ρ) H) (hbc : (e == b) = false := by rfl) (hd : Nat.blt d n = true := by rfl) :
  SO P n Z w0 ops (⟨some d, o, t, p, af, some (j, b)⟩ :: l) ρ H := SO.passF hj hdj hv hc hbc hd h
theorem tt (L : Env) (hf : lks ρ L = vls L) (h : S P f n R w0 k L H) : S P f n R w0 k ρ H := S.to (fitl_of hf) h
end
section
variable {P : Program} {n : Nat} {w0 : Beg} {ops : Array Oper} {T : List Tok} {d : Dat} {Fr : HProp} {ρ : Env} {H : List HProp} {i1 i2 i3 i4 i5 i6 : Nat}
theorem nz1 (hd : d.post = [i1]) (g1 : (T.getD i1 tdum).G) (hf : lks ρ ([] ++ (T.getD i1 tdum).env g1) = vls ([] ++ (T.getD i1 tdum).env g1)) (hH : [] ++ (T.getD i1 tdum).H g1 ++ [Fr] = H := by rfl) : SO P n (PZ T d n w0 Fr) w0 ops [] ρ H :=
 SO.nilZ fun a w h1 h2 h3 h4 h5 => PZ.of h1 h3 h5 (by rw [hd]; exact .cons g1 (.nil ⟨EnvAll.of h2 (fitl_of hf), by rw [hH]; exact h4⟩))
theorem nz2 (hd : d.post = [i1, i2]) (g1 : (T.getD i1 tdum).G) (g2 : (T.getD i2 tdum).G) (hf : lks ρ ([] ++ (T.getD i1 tdum).env g1 ++ (T.getD i2 tdum).env g2) = vls ([] ++ (T.getD i1 tdum).env g1 ++ (T.getD i2 tdum).env g2)) (hH : [] ++ (T.getD i1 tdum).H g1 ++ (T.getD i2 tdum).H g2 ++ [Fr] = H := by rfl) : SO P n (PZ T d n w0 Fr) w0 ops [] ρ H :=
 SO.nilZ fun a w h1 h2 h3 h4 h5 => PZ.of h1 h3 h5 (by rw [hd]; exact .cons g1 (.cons g2 (.nil ⟨EnvAll.of h2 (fitl_of hf), by rw [hH]; exact h4⟩)))
theorem nz3 (hd : d.post = [i1, i2, i3]) (g1 : (T.getD i1 tdum).G) (g2 : (T.getD i2 tdum).G) (g3 : (T.getD i3 tdum).G) (hf : lks ρ ([] ++ (T.getD i1 tdum).env g1 ++ (T.getD i2 tdum).env g2 ++ (T.getD i3 tdum).env g3) = vls ([] ++ (T.getD i1 tdum).env g1 ++ (T.getD i2 tdum).env g2 ++ (T.getD i3 tdum).env g3)) (hH : [] ++ (T.getD i1 tdum).H g1 ++ (T.getD i2 tdum).H g2 ++ (T.getD i3 tdum).H g3 ++ [Fr] = H := by rfl) : SO P n (PZ T d n w0 Fr) w0 ops [] ρ H :=
 SO.nilZ fun a w h1 h2 h3 h4 h5 => PZ.of h1 h3 h5 (by rw [hd]; exact .cons g1 (.cons g2 (.cons g3 (.nil ⟨EnvAll.of h2 (fitl_of hf), by rw [hH]; exact h4⟩))))
theorem nz4 (hd : d.post = [i1, i2, i3, i4]) (g1 : (T.getD i1 tdum).G) (g2 : (T.getD i2 tdum).G) (g3 : (T.getD i3 tdum).G) (g4 : (T.getD i4 tdum).G) (hf : lks ρ ([] ++ (T.getD i1 tdum).env g1 ++ (T.getD i2 tdum).env g2 ++ (T.getD i3 tdum).env g3 ++ (T.getD i4 tdum).env g4) = vls ([] ++ (T.getD i1 tdum).env g1 ++ (T.getD i2 tdum).env g2 ++ (T.getD i3 tdum).env g3 ++ (T.getD i4 tdum).env g4)) (hH : [] ++ (T.getD i1 tdum).H g1 ++ (T.getD i2 tdum).H g2 ++ (T.getD i3 tdum).H g3 ++ (T.getD i4 tdum).H g4 ++ [Fr] = H := by rfl) : SO P n (PZ T d n w0 Fr) w0 ops [] ρ H :=
 SO.nilZ fun a w h1 h2 h3 h4 h5 => PZ.of h1 h3 h5 (by rw [hd]; exact .cons g1 (.cons g2 (.cons g3 (.cons g4 (.nil ⟨EnvAll.of h2 (fitl_of hf), by rw [hH]; exact h4⟩)))))
end
open Go.RowKit Go.ChangeShapes Go.WideShapes Go.ChangeAt
def Whole (W : World) : HProp := fun m => ∀ b o, W.heap[b]? = some o → m b = some o
theorem Sat.whole (W : World) : Sat W [Whole W] := ⟨hp W, fun _ => none, fun _ => .inr rfl, .refl _, fun _ _ e => by simp at e, fun _ _ h => h, trivial⟩
theorem Ct.law {P : Program} {g : FuncId} {vals : List Value} {rd : HProp → Prop} {v : Value} (h : Ct P g vals rd [] (fun u H' => u = v ∧ H' = [])) {W : World} (hr : rd (Whole W)) :
  Calls P g vals.toArray W (fun e w' => e = .returned v ∧ Below W.heap.size W w') := by
 refine (h W _ hr (Sat.whole W)).mono ?_
 rintro e w' ⟨u, H', rfl, ⟨rfl, rfl⟩, hs, hk⟩
 refine ⟨rfl, hk.os, hk.tape, hk.output, hk.size, fun k hk' => ?_⟩
 obtain ⟨m, hm, ha⟩ := Sat.head hs
 rw [Array.getElem?_eq_getElem hk']
 exact hm _ _ (ha k _ (Array.getElem?_eq_getElem hk'))
section
variable {H : Type} {enc : TypeId × Value → H} {P : Program}
theorem carryAll (hl : laidOutB P = true) {W W' : World} (hb : Below W.heap.size W W') {sp : Nat → Bool} : ∀ {ts : List TypeId} {vs : List Value} {ds : List (DataW H)} {ps : List MemPlace}, (∀ t ∈ ts, P.readableRec t = true ∧ t < P.types.size) →
  DataW.TrodAll enc P W 0 (fun _ => true) true ts vs ds ps → (∀ x ∈ ps, x.block < W.heap.size) → (∀ x ∈ ps, sp x.block = true) → DataW.TrodAll enc P W' 0 sp true ts vs ds ps
 | [], [], [], _, _, h, _, _ => h
 | _ :: _, _ :: _, _ :: _, _, hT, ⟨p, q, h1, h2, e⟩, hlt, hs =>
  ⟨p, q, WideElems.Trod_stays hl (hT _ (List.mem_cons.2 (Or.inl rfl))).1 (hT _ (List.mem_cons.2 (Or.inl rfl))).2 h1 (fun x hx => hb.same (hlt x (by rw [e]; exact List.mem_append_left _ hx))) (fun x hx => hs x (by rw [e]; exact List.mem_append_left _ hx)),
   carryAll hl hb (fun t ht => hT t (List.mem_cons.2 (Or.inr ht))) h2 (fun x hx => hlt x (by rw [e]; exact List.mem_append_right _ hx)) (fun x hx => hs x (by rw [e]; exact List.mem_append_right _ hx)), e⟩
theorem law_post {f : Func} {s : ChangeSpec} {apart : Bool} {W W' : World} {args : Array Value} {ds : List (DataW H)} {before : List MemPlace} {t : TypeId}
  (hW : DataW.Whole enc P f.params.toList s.vars apart W args.toList ds [] before) (hl : laidOutB P = true) (hts : (f.params.toList.all fun t => P.readableRec t && decide (t < P.types.size)) = true)
  (hb : Below W.heap.size W W') (hr : f.resultTypes = #[t]) (ht : P.underlying t = some .bool) (hv : s.vars = [])
  (hfn : s.fn H (ds ++ []) = { results := [.lit (.bool true)], args := ds }) : s.post enc P f apart true false false W args (.bool true) W' := by
 have hlt : ∀ p ∈ before, p.block < W.heap.size := fun p hp => by simpa using hW.lt p hp
 have hold : ∀ p ∈ before, (fun b => decide (b < W.heap.size)) p.block = true := fun p hp => by simpa using hW.lt p hp
 have hW2 := hW
 obtain ⟨p, q, hA, hV, rfl, hz, hn⟩ := hW
 rw [hv] at hV
 obtain ⟨-, rfl⟩ := trodVars_none hV
 simp only [List.append_nil] at hlt hold hz hn hW2
 have hT : ∀ t ∈ f.params.toList, P.readableRec t = true ∧ t < P.types.size := fun t ht => by
  have := List.all_eq_true.1 hts t ht
  simpa using this
 have ha : ∀ sp : Nat → Bool, (∀ x ∈ p, sp x.block = true) → DataW.TrodAll enc P W' 0 sp true f.params.toList args.toList (s.fn H (ds ++ [])).args p := fun sp hs => by
  rw [hfn]; exact carryAll hl hb hT hA hlt hs
 have hvv : ∀ sp : Nat → Bool, DataW.TrodVars enc P W' sp s.vars (s.fn H (ds ++ [])).vars [] := fun sp => by rw [hfn, hv]; rfl
 have hres : ∀ (b : Nat) (sp : Nat → Bool) (hd : Bool), DataW.TrodAll enc P W' b sp hd f.resultTypes.toList ((Value.bool true).resultList f.resultTypes.size) (s.fn H (ds ++ [])).results [] := fun b sp hd => by
  rw [hfn, hr]; exact trodAll_mk1 (shut_bool ht true)
 refine ⟨ds, [], p, [], p, [], hW2, hres _ _ _, ha _ hold, hvv _, hb.frame _, fun _ => ?_⟩
 refine ⟨ok_one hr rfl (okWide_bool_mk ht true), _, _, ([] ++ p) ++ [], ⟨[] ++ p, [], trodAll_append (ha _ (fun _ _ => rfl)) (hres _ _ _), hvv _, rfl, ?_, ?_⟩, ?_⟩
 ·intro b off hp
  have hp' : MemPlace.cell b off ∈ p := by simpa using hp
  rw [hb.frozen (p := ⟨b, off, none⟩) (hlt _ hp')]
  exact hz b off hp'
 ·intro h
  simpa using hn h
 ·intro x hx _
  simpa using hx
end
def Parse {α : Type} (P : Program) (t : TypeId) (en : α → List Value) (wf : α → Prop) : Prop :=
 ∀ {H : Type} (enc : TypeId × Value → H) (w : World) (base : Nat) (sp : Nat → Bool) (hd : Bool) (n : Nat) (cs : List Value) (x : DataW H × List MemPlace), DataW.trod enc P w base sp hd n t cs = some x → ∃ a, cs = en a ∧ wf a
def fits (k : IntKind) (n : Int) : Prop := (Lit.int k n).wf = true
theorem parse_int {P : Program} {t : TypeId} {k : IntKind} (ht : P.underlying t = some (.int k)) : Parse P t (fun x => [Value.int k x]) (fits k) := by
 intro H enc w base sp hd n cs x h
 obtain ⟨a, h1, -, h2⟩ := DataW.trod_int ht h
 exact ⟨a, h1, h2⟩
theorem parse_field {α H : Type} {P : Program} {enc : TypeId × Value → H} {w : World} {base : Nat} {sp : Nat → Bool} {hd : Bool} {n i o sz : Nat} {cs : List Value} {fs : Array Field} {fd : Field} {xs : List (DataW H × List MemPlace)} {en : α → List Value} {wf : α → Prop}
  (hx : xs.length = fs.size) (hall : ∀ (i : Nat) (f : Field), fs[i]? = some f → DataW.trod enc P w base sp hd n f.type ((cs.drop f.offset).take (P.cellsOf f.type)) = xs[i]?)
  {tt : TypeId} (hp : Parse P tt en wf) (hi : fs[i]? = some fd) (ht : fd.type = tt) (ho : fd.offset = o) (hc : P.cellsOf tt = sz) : ∃ a, (cs.drop o).take sz = en a ∧ wf a := by
 subst ht ho hc
 have h := hall i fd hi
 have hlt : i < fs.size := (Array.getElem?_eq_some_iff.1 hi).1
 rw [List.getElem?_eq_getElem (by omega : i < xs.length)] at h
 exact hp _ _ _ _ _ _ _ _ h
section
variable {H : Type} {enc : TypeId × Value → H} {P : Program} {W : World} {b0 : Nat} {sp : Nat → Bool} {hd : Bool} {r : Reach} {t e : TypeId} {v : Value} {d : DataW H} {ps : List MemPlace}
theorem cell_whole {a : Addr} {u : Value} (h : W.cell? a = some u) : a.spot = none ∧ ∃ all E fr, W.heap[a.block]? = some (.cells all E fr) ∧ all[a.off]? = some u := by
 unfold World.cell? at h
 split at h
 ·rename_i c E fr hc
  split at h
  ·cases h
  ·rename_i hs
   exact ⟨by simpa using hs, c, E, fr, hc, h⟩
 ·cases h
theorem open_slW {α : Type} {K : EK α} {wf : α → Prop} {n : Nat} {x : DataW H × List MemPlace} (hp : ∀ n cs x, DataW.trod enc P W 0 sp hd n e cs = some x → ∃ a, cs = K.enc a ∧ wf a) (ht : P.underlying t = some (.slice e)) (hc : P.cellsOf e = K.sz) (h : DataW.trod enc P W 0 sp hd n t [v] = some x) :
  ∃ xs : List α, Rd K v xs (Whole W) ∧ (∀ x ∈ xs, wf x) ∧ xs.length ≤ maxLen := by
 rcases DataW.trod_slice ht h with ⟨h0, -⟩ | ⟨a, len, cap, elems, rest, m, -, h0, -, -, hl, hm, hlen, hel, -, -⟩
 ·injection h0 with h0; subst h0
  exact ⟨[], ⟨none, 0, ⟨rfl, Nat.le_refl _⟩, fun i x hx => by simp at hx⟩, fun x hx => by simp at hx, by simp⟩
 ·injection h0 with h0; subst h0
  have each : ∀ i, i < len → ∃ z, W.cells? 0 (a.add (i * P.cellsOf e)) (P.cellsOf e) = some (K.enc z) ∧ wf z := by
   intro i hi
   have h1 := hel i hi
   rw [List.getElem?_eq_getElem (by omega : i < elems.length)] at h1
   simp only [Option.bind_eq_some_iff] at h1
   obtain ⟨cs, h1, h2⟩ := h1
   obtain ⟨z, rfl, hz⟩ := hp _ _ _ h2
   exact ⟨z, h1, hz⟩
  let F : Fin len → α := fun i => Classical.choose (each i i.2)
  have hF : ∀ (i : Nat) (hi : i < len), W.cells? 0 (a.add (i * P.cellsOf e)) (P.cellsOf e) = some (K.enc (F ⟨i, hi⟩)) ∧ wf (F ⟨i, hi⟩) := fun i hi => Classical.choose_spec (each i hi)
  refine ⟨List.ofFn F, ⟨some a, cap, ⟨by simp, by simp; omega⟩, fun i x hx => ?_⟩, fun x hx => ?_, by simp; omega⟩
  ·rw [List.getElem?_eq_some_iff] at hx
   obtain ⟨hi, hx⟩ := hx
   simp only [List.length_ofFn] at hi
   simp only [List.getElem_ofFn] at hx
   obtain ⟨hcs, -⟩ := hF i hi
   rw [hx] at hcs
   obtain ⟨-, hlen', hcell⟩ := World.cells?_some hcs
   have key : ∀ j, j < K.sz → ∃ u, (K.enc x)[j]? = some u ∧ W.cell? ((a.add (i * P.cellsOf e)).add j) = some u := fun j hj => by
    have := hcell j (by omega)
    have hj2 : j < (K.enc x).length := by rw [K.len]; exact hj
    rw [List.getElem?_eq_getElem hj2] at this
    exact ⟨_, List.getElem?_eq_getElem hj2, this⟩
   have hspot : a.spot = none := by
    obtain ⟨hcs0, -⟩ := hF 0 (by omega)
    obtain ⟨-, -, hcell0⟩ := World.cells?_some hcs0
    have h0 := hcell0 0 (by rw [hc]; exact K.pos)
    have hj2 : 0 < (K.enc (F ⟨0, by omega⟩)).length := by rw [K.len]; exact K.pos
    rw [List.getElem?_eq_getElem hj2] at h0
    have := (cell_whole h0).1
    simpa [Addr.add] using this
   obtain ⟨blk, off, spot⟩ := a
   simp only at hspot
   subst hspot
   obtain ⟨u0, -, hu0⟩ := key 0 K.pos
   rw [add_plain, add_plain] at hu0
   obtain ⟨-, all, E, fr, hall, -⟩ := cell_whole hu0
   refine ⟨blk, off, rfl, fun mm hmm => ⟨all, E, fr, hmm _ _ hall, fun j hj => ?_⟩⟩
   obtain ⟨u, hu1, hu2⟩ := key j hj
   rw [add_plain, add_plain] at hu2
   obtain ⟨-, all2, E2, fr2, hall2, hu3⟩ := cell_whole hu2
   have : all2 = all := by
    have e1 : W.heap[blk]? = some (.cells all2 E2 fr2) := hall2
    have e2 : W.heap[blk]? = some (.cells all E fr) := hall
    rw [e1] at e2; injection e2 with e2; injection e2
   subst this
   rw [hu1, ← hu3, hc]
   simp [Nat.add_assoc]
  ·obtain ⟨i, rfl⟩ := List.mem_ofFn.1 hx
   exact (hF i.1 i.2).2
theorem open_sl {α : Type} {K : EK α} {wf : α → Prop} (hp : Parse P e K.enc wf) (ht : P.underlying t = some (.slice e)) (hc : P.cellsOf e = K.sz) (hval : Value.okWide P W r b0 t v) (h : DataW.Trod enc P W 0 sp hd t v d ps) :
  ∃ xs : List α, Rd K v xs (Whole W) ∧ (∀ x ∈ xs, wf x) ∧ xs.length ≤ maxLen := by
 obtain ⟨n, h⟩ := h
 have hv1 : v.cells.toList = [v] := by
  cases v <;> first | rfl | (simp [Value.okWide, ht, Cell.okWide, Cell.ok] at hval)
 rw [hv1] at h
 exact open_slW (fun _ _ _ h => hp _ _ _ _ _ _ _ _ h) ht hc h
end
theorem w64_id {x : Int} (h1 : -9223372036854775808 ≤ x) (h2 : x ≤ 9223372036854775807) : w64 x = x := by
 simp only [IntKind.wrap, IntKind.signed, IntKind.bits]; simp; omega
theorem wu64_id {x : Int} (h1 : 0 ≤ x) (h2 : x ≤ 18446744073709551615) : wu64 x = x := by
 simp only [IntKind.wrap, IntKind.signed, IntKind.bits]; simp; omega
theorem fits_u64 {n : Int} (h : (Lit.int .u64 n).wf = true) : 0 ≤ n ∧ n ≤ 18446744073709551615 := bounds_u64 h
theorem band_u64 (x y : Nat) (hx : x < 18446744073709551616) (hy : y < 18446744073709551616) : band .u64 (x : Int) (y : Int) = ((x &&& y : Nat) : Int) := by
 unfold band
 have h1 : (BitVec.ofInt IntKind.u64.bits (x : Int) &&& BitVec.ofInt IntKind.u64.bits (y : Int)).toNat = x &&& y := by
  rw [BitVec.toNat_and, BitVec.ofInt_natCast, BitVec.ofInt_natCast, BitVec.toNat_ofNat, BitVec.toNat_ofNat]
  rw [show IntKind.u64.bits = 64 from rfl, Nat.mod_eq_of_lt (by omega), Nat.mod_eq_of_lt (by omega)]
 rw [h1]
 have h2 : x &&& y ≤ x := Nat.and_le_left
 exact wu64_id (by omega) (by omega)
theorem bor_u64 (x y : Nat) (hx : x < 18446744073709551616) (hy : y < 18446744073709551616) : bor .u64 (x : Int) (y : Int) = ((x ||| y : Nat) : Int) := by
 unfold bor
 have h1 : (BitVec.ofInt IntKind.u64.bits (x : Int) ||| BitVec.ofInt IntKind.u64.bits (y : Int)).toNat = x ||| y := by
  rw [BitVec.toNat_or, BitVec.ofInt_natCast, BitVec.ofInt_natCast, BitVec.toNat_ofNat, BitVec.toNat_ofNat]
  rw [show IntKind.u64.bits = 64 from rfl, Nat.mod_eq_of_lt (by omega), Nat.mod_eq_of_lt (by omega)]
 rw [h1]
 have h2 : x ||| y < 2 ^ 64 := Nat.or_lt_two_pow (by omega) (by omega)
 exact wu64_id (by omega) (by omega)
theorem band_i64 (x y : Nat) (hx : x < 9223372036854775808) (hy : y < 9223372036854775808) : band .i64 (x : Int) (y : Int) = ((x &&& y : Nat) : Int) := by
 unfold band
 have h1 : (BitVec.ofInt IntKind.i64.bits (x : Int) &&& BitVec.ofInt IntKind.i64.bits (y : Int)).toNat = x &&& y := by
  rw [BitVec.toNat_and, BitVec.ofInt_natCast, BitVec.ofInt_natCast, BitVec.toNat_ofNat, BitVec.toNat_ofNat]
  rw [show IntKind.i64.bits = 64 from rfl, Nat.mod_eq_of_lt (by omega), Nat.mod_eq_of_lt (by omega)]
 rw [h1]
 have h2 : x &&& y ≤ x := Nat.and_le_left
 exact w64_id (by omega) (by omega)
theorem bor_add_u64 {x y : Int} (n : Nat) (hn : n < 64) (hx0 : 0 ≤ x) (hx : x < 2 ^ n) (hy : 0 ≤ y) (hb : y * 2 ^ n < 18446744073709551616) : bor .u64 x (y * 2 ^ n) = x + y * 2 ^ n := by
 obtain ⟨a, rfl⟩ := Int.eq_ofNat_of_zero_le hx0
 obtain ⟨b, rfl⟩ := Int.eq_ofNat_of_zero_le hy
 have e : (b : Int) * 2 ^ n = ((b * 2 ^ n : Nat) : Int) := by push_cast; rfl
 have ha : a < 2 ^ n := by exact_mod_cast hx
 have h64 : (2 : Nat) ^ n < 2 ^ 64 := Nat.pow_lt_pow_right (by decide) hn
 rw [e] at hb ⊢
 rw [bor_u64 a _ (by omega) (by omega)]
 have := Nat.shiftLeft_add_eq_or_of_lt ha b
 rw [Nat.shiftLeft_eq] at this
 rw [Nat.or_comm, ← this]
 push_cast
 omega
theorem band_mod_u64 {x : Int} (n : Nat) (hn : n < 64) (hx0 : 0 ≤ x) (hx : x < 18446744073709551616) : band .u64 x (2 ^ n - 1) = x % 2 ^ n := by
 obtain ⟨a, rfl⟩ := Int.eq_ofNat_of_zero_le hx0
 have h64 : (2 : Nat) ^ n < 2 ^ 64 := Nat.pow_lt_pow_right (by decide) hn
 have hp : 0 < (2 : Nat) ^ n := Nat.two_pow_pos n
 have e : (2 : Int) ^ n - 1 = ((2 ^ n - 1 : Nat) : Int) := by rw [Int.ofNat_sub (by omega)]; push_cast; rfl
 rw [e, band_u64 a _ (by omega) (by omega), Nat.and_two_pow_sub_one_eq_mod]
 push_cast; rfl
theorem band_mod_i64 {x : Int} (n : Nat) (hn : n < 63) (hx0 : 0 ≤ x) (hx : x < 9223372036854775808) : band .i64 x (2 ^ n - 1) = x % 2 ^ n := by
 obtain ⟨a, rfl⟩ := Int.eq_ofNat_of_zero_le hx0
 have h64 : (2 : Nat) ^ n < 2 ^ 63 := Nat.pow_lt_pow_right (by decide) hn
 have hp : 0 < (2 : Nat) ^ n := Nat.two_pow_pos n
 have e : (2 : Int) ^ n - 1 = ((2 ^ n - 1 : Nat) : Int) := by rw [Int.ofNat_sub (by omega)]; push_cast; rfl
 rw [e, band_i64 a _ (by omega) (by omega), Nat.and_two_pow_sub_one_eq_mod]
 push_cast; rfl
theorem bshr_nn {k : IntKind} {x : Int} (n : Nat) (h : n ≤ k.bits) (hx : 0 ≤ x) : bshr k x n = x / 2 ^ n := by
 unfold bshr
 rw [show min (n : Int).toNat k.bits = n by simp; omega]
 rw [Int.fdiv_eq_ediv_of_nonneg]
 exact Int.le_of_lt (Int.pow_pos (by decide))
theorem bshl_u64 {x : Int} (n : Nat) (h : n ≤ 64) (hx : 0 ≤ x) (hb : x * 2 ^ n < 18446744073709551616) : bshl .u64 x n = x * 2 ^ n := by
 unfold bshl
 rw [show min (n : Int).toNat IntKind.u64.bits = n by simp [show IntKind.u64.bits = 64 from rfl]; omega]
 exact wu64_id (Int.mul_nonneg hx (Int.le_of_lt (Int.pow_pos (by decide)))) (by omega)
theorem bshl_i64 {x : Int} (n : Nat) (h : n ≤ 64) (hx : 0 ≤ x) (hb : x * 2 ^ n < 9223372036854775808) : bshl .i64 x n = x * 2 ^ n := by
 unfold bshl
 rw [show min (n : Int).toNat IntKind.i64.bits = n by simp [show IntKind.i64.bits = 64 from rfl]; omega]
 have h2 : (0 : Int) < 2 ^ n := Int.pow_pos (by decide)
 have := Int.mul_nonneg hx (Int.le_of_lt h2)
 exact w64_id (by omega) (by omega)
end Go.Sl
namespace Go.Proofs
open Go.Sl
section
variable {α : Type}
def MOk (l : List (Int × α)) : Prop := (l.map (·.1)).Nodup
theorem msetKeys : ∀ (l : List (Int × α)) (k : Int) (v : α), (mset l k v).map (·.1) = if k ∈ l.map (·.1) then l.map (·.1) else l.map (·.1) ++ [k]
 | [], k, v => by simp [mset]
 | p :: l, k, v => by
  unfold mset
  by_cases h : p.1 = k
  ·rw [if_pos h, if_pos (by simp [h])]; simp [h]
  ·rw [if_neg h, List.map_cons, msetKeys l k v]
   have : (k ∈ (p :: l).map (·.1)) ↔ k ∈ l.map (·.1) := by
    rw [List.map_cons, List.mem_cons]
    exact ⟨fun z => z.resolve_left (fun e => h e.symm), .inr⟩
   by_cases c : k ∈ l.map (·.1)
   ·rw [if_pos c, if_pos (this.2 c)]; rfl
   ·rw [if_neg c, if_neg (fun z => c (this.1 z))]; rfl
theorem MOk.nil : MOk ([] : List (Int × α)) := List.nodup_nil
theorem MOk.set {l : List (Int × α)} (h : MOk l) (k : Int) (v : α) : MOk (mset l k v) := by
 unfold MOk; rw [msetKeys]; split
 ·exact h
 ·rename_i hni
  exact List.nodup_append.2 ⟨h, by simp, fun a ha b hb => by simp at hb; subst hb; exact fun e => hni (e ▸ ha)⟩
theorem mfind_keys : ∀ (l : List (Int × α)) (k : Int), k ∈ l.map (·.1) ↔ ∃ v, mfind l k = some v
 | [], k => by simp [mfind]
 | p :: l, k => by
  unfold mfind
  by_cases h : p.1 = k
  ·rw [if_pos h]; simp [h]
  ·rw [if_neg h, List.map_cons, List.mem_cons, mfind_keys l k]
   exact ⟨fun z => z.resolve_left (fun e => h e.symm), .inr⟩
theorem skeys_perm (l : List (Int × α)) : (skeys l).Perm (l.map (·.1)) := List.mergeSort_perm _ _
theorem skeys_mem (l : List (Int × α)) (k : Int) : k ∈ skeys l ↔ ∃ v, mfind l k = some v := by
 rw [(skeys_perm l).mem_iff, mfind_keys]
theorem skeys_len (l : List (Int × α)) : (skeys l).length = l.length := by rw [(skeys_perm l).length_eq, List.length_map]
end
end Go.Proofs

