/- The resource logic, part SlSeq. On no condition. -/
import Derived.Test.YtbhboofhcgkgfaaSlCall
import Derived.Laws.MakeOwn
import Derived.Laws.OwnMore
set_option linter.all false
namespace Go.Sl
open Go.RowKit

/-- How an element lies in cells. -/
structure EK (α : Type) where
  sz : Nat
  enc : α → List Value
  len : ∀ x, (enc x).length = sz
  one : ∀ x, ∀ v ∈ enc x, v.oneCell' = true
  pos : 0 < sz
def EK.flat {α : Type} (K : EK α) (xs : List α) : List Value := xs.flatMap K.enc
def ekI (k : IntKind) : EK Int := ⟨1, fun x => [.int k x], fun _ => rfl, fun _ v hv => by simp at hv; subst hv; rfl, by decide⟩
def ekB : EK Bool := ⟨1, fun x => [.bool x], fun _ => rfl, fun _ v hv => by simp at hv; subst hv; rfl, by decide⟩
section
variable {α : Type} (K : EK α)
theorem EK.length_flat (xs : List α) : (K.flat xs).length = xs.length * K.sz := by
  induction xs with
  | nil => simp [EK.flat]
  | cons x l ih => simp only [EK.flat, List.flatMap_cons, List.length_append, K.len, List.length_cons, Nat.add_mul, Nat.one_mul] at *; omega
theorem EK.flat_append (xs ys : List α) : K.flat (xs ++ ys) = K.flat xs ++ K.flat ys := by simp [EK.flat]
theorem EK.flat_one {xs : List α} : ∀ v ∈ K.flat xs, v.oneCell' = true := by
  intro v hv
  obtain ⟨x, _, h⟩ := List.mem_flatMap.1 hv
  exact K.one x v h
theorem EK.flat_get : ∀ (xs : List α) (i : Nat) (x : α) (j : Nat), xs[i]? = some x → j < K.sz → (K.flat xs)[i * K.sz + j]? = (K.enc x)[j]?
  | [], i, x, j, h, _ => by simp at h
  | y :: l, 0, x, j, h, hj => by
    simp at h; subst h
    simp only [EK.flat, List.flatMap_cons, Nat.zero_mul, Nat.zero_add]
    rw [List.getElem?_append_left (by rw [K.len]; exact hj)]
  | y :: l, i + 1, x, j, h, hj => by
    simp only [List.getElem?_cons_succ] at h
    have := EK.flat_get l i x j h hj
    simp only [EK.flat, List.flatMap_cons] at *
    rw [List.getElem?_append_right (by rw [K.len, Nat.add_mul]; omega), K.len, ← this]
    congr 1; rw [Nat.add_mul]; omega
theorem EK.flat_set1 : ∀ (xs : List α) (i : Nat) (x x' : α) (j : Nat) (u : Value), xs[i]? = some x → j < K.sz → K.enc x' = (K.enc x).set j u → K.flat (xs.set i x') = (K.flat xs).set (i * K.sz + j) u
  | [], i, x, x', j, u, h, _, _ => by simp at h
  | y :: l, 0, x, x', j, u, h, hj, he => by
    simp at h; subst h
    simp only [EK.flat, List.set_cons_zero, List.flatMap_cons, Nat.zero_mul, Nat.zero_add]
    rw [List.set_append_left _ _ (by rw [K.len]; exact hj), he]
  | y :: l, i + 1, x, x', j, u, h, hj, he => by
    simp only [List.getElem?_cons_succ] at h
    have := EK.flat_set1 l i x x' j u h hj he
    simp only [EK.flat, List.set_cons_succ, List.flatMap_cons] at *
    rw [List.set_append_right _ _ (by rw [K.len, Nat.add_mul]; omega), K.len, this]
    congr 2; rw [Nat.add_mul]; omega
end

/-- A slice of one's own: its elements, in a block of one's own, from its head on. -/
def Own {α : Type} (E : TypeId) (K : EK α) (v : Value) (xs : List α) : HProp := fun m =>
  (v = .slice none 0 0 ∧ xs = []) ∨
  ∃ g cap cur, v = .slice (some ⟨g, 0, none⟩) xs.length cap ∧ m g = some (.cells cur E (0, 0)) ∧ xs.length ≤ cap ∧ cap ≤ maxLen ∧ cur.size = cap * K.sz ∧ cur.toList.take (xs.length * K.sz) = K.flat xs
/-- A slice that may be read, by a resource. -/
def Rd {α : Type} (K : EK α) (v : Value) (xs : List α) (A : HProp) : Prop :=
  ∃ a cap, (v = .slice a xs.length cap ∧ xs.length ≤ cap) ∧ ∀ i x, xs[i]? = some x → ∃ b off, a = some ⟨b, off, none⟩ ∧ ∀ m, A m → ∃ all E fr, m b = some (.cells all E fr) ∧ ∀ j, j < K.sz → all[off + (i * K.sz + j)]? = (K.enc x)[j]?
theorem Rd.head {α : Type} {K : EK α} {v : Value} {xs : List α} {A : HProp} {l : List HProp} (h : Rd K v xs A) : Rd K v xs (stars (A :: l)) := by
  obtain ⟨a, cap, hv, h⟩ := h
  refine ⟨a, cap, hv, fun i x hx => ?_⟩
  obtain ⟨b, off, ha, h⟩ := h i x hx
  refine ⟨b, off, ha, fun m ⟨m1, m2, d, s1, s2, hA, hB⟩ => ?_⟩
  obtain ⟨all, E, fr, hm, hc⟩ := h m1 hA
  exact ⟨all, E, fr, s1 _ _ hm, hc⟩
theorem Rd.tail {α : Type} {K : EK α} {v : Value} {xs : List α} {A : HProp} {l : List HProp} (h : Rd K v xs (stars l)) : Rd K v xs (stars (A :: l)) := by
  obtain ⟨a, cap, hv, h⟩ := h
  refine ⟨a, cap, hv, fun i x hx => ?_⟩
  obtain ⟨b, off, ha, h⟩ := h i x hx
  refine ⟨b, off, ha, fun m hm => h m (stars_drop hm)⟩
theorem Own.rd {α : Type} {E : TypeId} {K : EK α} {v : Value} {xs : List α} {m0 : PH} (h : Own E K v xs m0) : Rd K v xs (Own E K v xs) := by
  rcases h with ⟨rfl, rfl⟩ | ⟨g, cap, cur, rfl, hg, hle, hcap, hsz, hcur⟩
  · exact ⟨none, 0, ⟨rfl, Nat.le_refl _⟩, fun i x hx => by simp at hx⟩
  · refine ⟨_, cap, ⟨rfl, hle⟩, fun i x hx => ⟨g, 0, rfl, fun m hm => ?_⟩⟩
    have hi : i < xs.length := by
      rcases Nat.lt_or_ge i xs.length with h | h
      · exact h
      · simp [List.getElem?_eq_none h] at hx
    rcases hm with ⟨hv, _⟩ | ⟨g', cap', cur', hv, hg', _, _, _, hcur'⟩
    · simp at hv
    · injection hv with h1 _ _; injection h1 with h1; injection h1 with h1 _ _; subst h1
      refine ⟨cur', E, _, hg', fun j hj => ?_⟩
      rw [← EK.flat_get K xs i x j hx hj, ← hcur']
      have hb : i * K.sz + j < xs.length * K.sz := by
        have : (i + 1) * K.sz ≤ xs.length * K.sz := Nat.mul_le_mul_right _ hi
        rw [Nat.add_mul] at this; omega
      rw [List.getElem?_take_of_lt hb]; simp
theorem Own.nil {α : Type} (E : TypeId) (K : EK α) (m : PH) : Own E K (.slice none 0 0) ([] : List α) m := .inl ⟨rfl, rfl⟩
theorem Own.of_row {α : Type} {E : TypeId} {K : EK α} {w : World} {v : Value} {xs : List α} {base : Nat} (h : w.ownsRow base E K.sz v xs.length (K.flat xs)) : Own E K v xs (fun b => if some b = v.ownBlock then w.heap[b]? else none) := by
  rcases h.2 with ⟨rfl, h0⟩ | ⟨g, cap, cur, rfl, _, hg, hle, hcap, hsz, hcur⟩
  · exact .inl ⟨rfl, List.eq_nil_of_length_eq_zero h0⟩
  · exact .inr ⟨g, cap, cur, rfl, by simp [Value.ownBlock, hg], hle, hcap, hsz, hcur⟩
theorem Own.row {α : Type} {E : TypeId} {K : EK α} {w : World} {v : Value} {xs : List α} {m : PH} (h : Own E K v xs m) (hs : PH.Sub m (hp w)) : w.ownsRow 0 E K.sz v xs.length (K.flat xs) := by
  refine ⟨K.length_flat xs, ?_⟩
  rcases h with ⟨rfl, rfl⟩ | ⟨g, cap, cur, rfl, hg, hle, hcap, hsz, hcur⟩
  · exact .inl ⟨rfl, rfl⟩
  · exact .inr ⟨g, cap, cur, rfl, Nat.zero_le _, hs _ _ hg, hle, hcap, hsz, hcur⟩

/-- The place of a cell of a slice's. -/
def idxp (v : Value) (n : Nat) : Value :=
  match v with
  | .slice (some a) _ _ => .pointer (some ⟨a.block, a.off + n, none⟩)
  | _ => undef
/-- An element: none outside. -/
def at_ {α : Type} (xs : List α) (i : Int) : Option α := bif decide (0 ≤ i) then xs[i.toNat]? else none
theorem at_spec {α : Type} {xs : List α} {i : Int} {x : α} (h : at_ xs i = some x) : 0 ≤ i ∧ i < (xs.length : Int) ∧ xs[i.toNat]? = some x := by
  unfold at_ at h
  cases hd : decide (0 ≤ i) with
  | false => simp [hd] at h
  | true =>
    simp only [hd, cond_true] at h
    have h0 : 0 ≤ i := by simpa using hd
    have : i.toNat < xs.length := by
      rcases Nat.lt_or_ge i.toNat xs.length with h' | h'
      · exact h'
      · simp [List.getElem?_eq_none h'] at h
    exact ⟨h0, by omega, h⟩
/-- An append, of lists that are not too long. -/
def app {α : Type} (xs ys : List α) : Option (List α) := bif decide (xs.length + ys.length ≤ 4294967296) then some (xs ++ ys) else none
theorem app_spec {α : Type} {xs ys zs : List α} (h : app xs ys = some zs) : xs.length + ys.length ≤ 4294967296 ∧ zs = xs ++ ys := by
  unfold app at h
  cases hd : decide (xs.length + ys.length ≤ 4294967296) with
  | false => simp [hd] at h
  | true => simp [hd] at h; exact ⟨by simpa using hd, h.symm⟩
/-- A list of one element, so often. -/
def mk_ {α : Type} (z : α) (n : Int) : Option (List α) := bif decide (0 ≤ n) && decide (n ≤ 4294967296) then some (List.replicate n.toNat z) else none
theorem mk_spec {α : Type} {z : α} {n : Int} {zs : List α} (h : mk_ z n = some zs) : 0 ≤ n ∧ n ≤ 4294967296 ∧ zs = List.replicate n.toNat z := by
  unfold mk_ at h
  cases hd : (decide (0 ≤ n) && decide (n ≤ 4294967296)) with
  | false => simp only [hd, cond_false] at h; cases h
  | true =>
    simp only [hd, cond_true] at h
    simp only [Bool.and_eq_true, decide_eq_true_eq] at hd
    injection h with h
    exact ⟨hd.1, hd.2, h.symm⟩

theorem append_block {P : Program} (w : World) (t ty e : TypeId) (i : TypeInfo) (z : Value) (size bytes : Nat) (ht : P.underlying t = some (.slice e)) (hi : P.info? e = some i) (hz : i.zero = some z)
    (hsize : i.size = size) (hby : i.bytes = bytes) (hzs : z.cells.size = size) (hsz : 0 < size)
    (v : Value) (n : Nat) (xs : List Value) (hown : w.ownsRow 0 e size v n xs)
    (a : Addr) (m c : Nat) (news : List Value) (hl : news.length = m * size) (hnews : ∀ j u, news[j]? = some u → w.cell? (a.add j) = some u) (h1 : ∀ u ∈ news, u.oneCell' = true)
    (h63 : n + m ≤ maxLen) (hbytes : (n + m) * bytes ≤ 140737488355328) :
    ∃ v' w', (Builtin.append_ #[t, t] ty #[v, .slice (some a) m c]).run P w = .ok v' w' ∧ w'.ownsRow 0 e size v' (n + m) (xs ++ news) ∧ w.grownBy w' v.ownBlock ∧
      ∀ g, v'.ownBlock = some g → v.ownBlock = some g ∨ w.heap.size ≤ g := by
  obtain ⟨v', w', hr, ho, hg, hn⟩ := run_append_own (P := P) w 0 t ty e i z size bytes ht hi hz hsize hby hzs hsz v n xs hown a m c news hl hnews h1 h63 hbytes (Nat.zero_le _)
  refine ⟨v', w', hr, ho, hg, ?_⟩
  subst hsize
  subst hby
  have h63' : n + m ≤ 9223372036854775807 := by simp only [maxLen] at h63; omega
  rcases hown.2 with ⟨rfl, rfl⟩ | ⟨g, cap, cur, rfl, hbg, hgg, hnc, hcm, hcs, htake⟩
  · obtain ⟨v2, w2, hr2, ho2, _, _⟩ := run_append_own (P := P) w w.heap.size t ty e i z i.size i.bytes ht hi hz rfl rfl hzs hsz _ 0 xs ⟨hown.1, .inl ⟨rfl, rfl⟩⟩ a m c news hl hnews h1 h63 hbytes (Nat.le_refl _)
    rw [hr] at hr2
    injection hr2 with e1 e2
    subst e1
    intro q hq
    rcases ho2.2 with ⟨h, _⟩ | ⟨g2, _, _, h, hb, _⟩
    · rw [h] at hq; simp [Value.ownBlock] at hq
    · rw [h] at hq; simp only [Value.ownBlock, Option.some.injEq] at hq; omega
  · by_cases hroom : n + m ≤ cap
    · have hfit : n * i.size + news.length ≤ cur.size := by rw [hl, hcs, ← Nat.add_mul]; exact Nat.mul_le_mul_right _ hroom
      have hr2 := run_append_room (P := P) w t ty e i ht hi g n cap cur hgg a m c news hl hnews h1 hroom hfit
      rw [hr] at hr2
      injection hr2 with e1 e2
      subst e1
      intro q hq
      exact .inl hq
    · have holds : ∀ j u, xs[j]? = some u → w.cell? ((⟨g, 0, none⟩ : Addr).add j) = some u := hown.cells (g := g) rfl
      have hr2 := run_append_grow (P := P) w t ty e i z ht hi hz ⟨g, 0, none⟩ n cap xs hown.1 holds a m c news hl hnews (by omega) (by omega) (growslice_fits (by omega) hbytes)
      rw [hr] at hr2
      injection hr2 with e1 e2
      subst e1
      intro q hq
      simp only [Value.ownBlock, Option.some.injEq] at hq
      exact .inr (by omega)

section
variable {P : Program} {f : FuncId} {n : Nat} {Z : Act → World → Prop} {R : Ending → World → Prop} {w0 : World} {k : List Item} {ρ ρ' : Env} {H H' pre rest : List HProp} {ops : Array Oper} {l : List Oper}
variable {α : Type} {K : EK α} {v : Value} {xs : List α}

theorem SO.rd {E : TypeId} (h : Rd K v xs (Own E K v xs) → SO P n Z w0 ops l ρ (Own E K v xs :: rest)) : SO P n Z w0 ops l ρ (Own E K v xs :: rest) := by
  intro a w h1 h2 h3 h4 h5
  obtain ⟨m, _, hm⟩ := h4.head
  exact h hm.rd a w h1 h2 h3 h4 h5
theorem S.rd {E : TypeId} (h : Rd K v xs (Own E K v xs) → S P f n R w0 k ρ (Own E K v xs :: rest)) : S P f n R w0 k ρ (Own E K v xs :: rest) := by
  intro a w h1 h2 h3 h4 h5
  obtain ⟨m, _, hm⟩ := h4.head
  exact h hm.rd a w h1 h2 h3 h4 h5
theorem SO.newOwn (E : TypeId) (K : EK α) (h : SO P n Z w0 ops l ρ (Own E K (.slice none 0 0) ([] : List α) :: H)) : SO P n Z w0 ops l ρ H :=
  h.sat fun w s => show stars (Own E K (.slice none 0 0) ([] : List α) :: H) (hp w) from ⟨fun _ => none, hp w, fun _ => .inl rfl, fun _ _ e => by simp at e, .refl _, Own.nil E K _, s⟩
theorem opv_lenR {A : HProp} {x : Operand} {tys : Array TypeId} {t e : TypeId} (ht0 : tys[0]? = some t) (ht : P.underlying t = some (.slice e)) (hR : Rd K v xs A) (hx : ev ρ x = some v) :
    OpV P ρ (.call ⟨.builtin .len, #[x], tys⟩) (.int .i64 xs.length) := by
  obtain ⟨a, cap, ⟨rfl, _⟩, _⟩ := hR
  exact opv_len ht0 ht hx
theorem opv_idx {A : HProp} {x y : Operand} {t e : TypeId} {ki : IntKind} {i : Int} {z : α} (ht : P.underlying t = some (.slice e)) (hz : ∀ w, (sizeOf e).run P w = .ok K.sz w) (hR : Rd K v xs A) (hx : ev ρ x = some v) (hy : ev ρ y = some (.int ki i)) (ha : at_ xs i = some z) :
    OpV P ρ (.indexAddr t x y) (idxp v (i.toNat * K.sz)) := by
  obtain ⟨a, cap, ⟨rfl, _⟩, hR⟩ := hR
  obtain ⟨h0, h1, h2⟩ := at_spec ha
  obtain ⟨b, off, rfl, _⟩ := hR _ _ h2
  intro r w d t' p af g hr
  simp only [execOp, hr x _ hx, hr y _ hy, Instr.indexAt]
  simp only [Sem.run_bind, asIntOf, Sem.run_pure, Result.andThen_ok, run_underlying ht]
  simp only [h0, h1, and_self, if_true, Sem.run_bind, hz, Result.andThen_ok, Sem.run_pure, idxp, Addr.add]
  split
  · rename_i h; simp [h]
  · rfl
theorem opv_fieldIdx {A : HProp} {s m m' : Nat} {x : Operand} {fl : Nat} {fs : Array Field} {fd : Field} {sz : Nat} {i : Int} {z : α} (hs : P.underlying s = some (.struct fs)) (hf : fs[fl]? = some fd) (hz : ∀ w, (sizeOf fd.type).run P w = .ok (sz + 1) w) (hR : Rd K v xs A) (ha : at_ xs i = some z) (hx : ev ρ x = some (idxp v m)) (ho : m + fd.offset = m') :
    OpV P ρ (.fieldAddr s x fl) (idxp v m') := by
  obtain ⟨a, cap, ⟨rfl, _⟩, hR⟩ := hR
  obtain ⟨b, off, rfl, _⟩ := hR _ _ (at_spec ha).2.2
  have := opv_fieldAddr (b := b) (o := off + m) (o' := off + m') hs hf hz hx (by omega)
  exact this
theorem SO.loadI1 {d t ty m j : Nat} {x : Operand} {p : String} {af : Array Edge} {u : Value} {i : Int} {z : α} (hd : Nat.blt d n = true) (ha : ∀ w, (isAgg t).run P w = .ok false w) (hR : Rd K v xs (stars H)) (hi : at_ xs i = some z) (hx : ev ρ x = some (idxp v m)) (hm : i.toNat * K.sz + j = m) (hj : Nat.blt j K.sz = true) (hu : (K.enc z)[j]? = some u)
    (h : SO P n Z w0 ops l ((d, u) :: ρ) H) : SO P n Z w0 ops (⟨some d, .load t x, ty, p, af, none⟩ :: l) ρ H := by
  refine .raw hd fun r w hr hs => ⟨_, _, ρ, _, ?_, hs, .refl w, h, fun _ h => h⟩
  obtain ⟨a, cap, ⟨rfl, _⟩, hR⟩ := hR
  obtain ⟨b, off, rfl, hR2⟩ := hR _ _ (at_spec hi).2.2
  obtain ⟨all, E, fr, hb, hc⟩ := hR2 _ hs
  have hc : w.cell? ⟨b, off + m, none⟩ = some u := by
    rw [cell_of_blk hb, ← hm, hc j (by simpa using hj), hu]
  simp [execOp, hr x _ hx, Instr.loadAt, idxp, Instr.sureAddr, loadVar, ha, hc]
theorem SO.loadIN {d t ty m : Nat} {x : Operand} {p : String} {af : Array Edge} {us : List Value} {i : Int} {z : α} (hd : Nat.blt d n = true) (ha : ∀ w, (isAgg t).run P w = .ok true w) (hz : ∀ w, (sizeOf t).run P w = .ok K.sz w) (hR : Rd K v xs (stars H)) (hi : at_ xs i = some z) (hx : ev ρ x = some (idxp v m)) (hm : i.toNat * K.sz = m) (hu : K.enc z = us)
    (h : SO P n Z w0 ops l ((d, .agg us.toArray) :: ρ) H) : SO P n Z w0 ops (⟨some d, .load t x, ty, p, af, none⟩ :: l) ρ H := by
  refine .raw hd fun r w hr hs => ⟨_, _, ρ, _, ?_, hs, .refl w, h, fun _ h => h⟩
  obtain ⟨a, cap, ⟨rfl, _⟩, hR⟩ := hR
  obtain ⟨b, off, rfl, hR2⟩ := hR _ _ (at_spec hi).2.2
  obtain ⟨all, E, fr, hb, hc⟩ := hR2 _ hs
  have hc : ∀ j, j < K.sz → w.cell? ⟨b, off + m + j, none⟩ = us[j]? := fun j hj => by
    rw [cell_of_blk hb, ← hu, ← hc j hj]; congr 1; omega
  have hl : us.length = K.sz := by rw [← hu, K.len]
  simp [execOp, hr x _ hx, Instr.loadAt, idxp, Instr.sureAddr, loadVar, ha, hz, loadCells_run hl hc]

theorem Own.put {E : TypeId} {w w' : World} {xs' : List α} (hs : Sat w (Own E K v xs :: rest)) (h : ∀ g cap cur, v = .slice (some ⟨g, 0, none⟩) xs.length cap → w.heap[g]? = some (.cells cur E (0, 0)) → xs.length ≤ cap → cur.size = cap * K.sz → cur.toList.take (xs.length * K.sz) = K.flat xs →
      ∃ cur', w'.heap[g]? = some (.cells cur' E (0, 0)) ∧ cur'.size = cur.size ∧ cur'.toList.take (xs.length * K.sz) = K.flat xs' ∧ ∀ q, q ≠ g → w'.heap[q]? = w.heap[q]?) (hl : xs'.length = xs.length) (hne : xs ≠ []) : Sat w' (Own E K v xs' :: rest) := by
  refine hs.update fun m hm hsub _ => ?_
  rcases hm with ⟨_, rfl⟩ | ⟨g, cap, cur, hv, hg, hle, hcap, hsz, hcur⟩
  · exact absurd rfl hne
  · obtain ⟨cur', hg', hs', ht', ho⟩ := h g cap cur hv (hsub _ _ hg) hle hsz hcur
    refine ⟨fun b => if b = g then some (.cells cur' E (0, 0)) else none, .inr ⟨g, cap, cur', by rw [hl]; exact hv, by simp, by rw [hl]; exact hle, hcap, by rw [hs', hsz], by rw [hl]; exact ht'⟩, fun b o e => ?_, fun b hb _ => ?_, fun b _ hb => ?_⟩
    · have e' : (if b = g then some (Obj.cells cur' E (0, 0)) else none) = some o := e
      clear e
      split at e'
      · rename_i h; subst h; injection e' with e; subst e; exact hg'
      · cases e'
    · show (if b = g then some (Obj.cells cur' E (0, 0)) else none) = none
      rw [if_neg (fun e => by subst e; simp [hg] at hb)]
    · exact ho b (fun e => by subst e; simp [hg] at hb)
theorem take_set_lt {β : Type} (L : List β) (m j : Nat) (u : β) (hj : j < m) : (L.set j u).take m = (L.take m).set j u := by
  apply List.ext_getElem?
  intro q
  rcases Nat.lt_or_ge q m with h | h
  · rw [List.getElem?_take_of_lt h]
    by_cases e : j = q
    · subst e
      rcases Nat.lt_or_ge j L.length with h2 | h2
      · rw [List.getElem?_set_self h2, List.getElem?_set_self (by simp; omega)]
      · rw [List.getElem?_eq_none (by simpa using h2), List.getElem?_eq_none (by simp; omega)]
    · rw [List.getElem?_set_ne e, List.getElem?_set_ne e, List.getElem?_take_of_lt h]
  · rw [List.getElem?_eq_none (by simp; omega), List.getElem?_eq_none (by simp; omega)]
theorem SO.storeI1 {E t ty m j : Nat} {x y : Operand} {p : String} {af : Array Edge} {u : Value} {i : Int} {z z' : α} (hz : ∀ w, (sizeOf t).run P w = .ok 1 w) (hi : at_ xs i = some z) (hx : ev ρ x = some (idxp v m)) (hy : ev ρ y = some u) (h1 : u.oneCell' = true) (hm : i.toNat * K.sz + j = m) (hj : Nat.blt j K.sz = true) (hu : K.enc z' = (K.enc z).set j u)
    (h : SO P n Z w0 ops l ρ (Own E K v (xs.set i.toNat z') :: rest)) : SO P n Z w0 ops (⟨none, .store t x y, ty, p, af, none⟩ :: l) ρ (Own E K v xs :: rest) := by
  have hj' : j < K.sz := by simpa using hj
  obtain ⟨h0, hlt, hget⟩ := at_spec hi
  have hne : xs ≠ [] := by intro e; subst e; simp at hget
  have hb : i.toNat * K.sz + j < xs.length * K.sz := by
    have : (i.toNat + 1) * K.sz ≤ xs.length * K.sz := Nat.mul_le_mul_right _ (by omega)
    rw [Nat.add_mul] at this; omega
  refine .raw0 fun r w hr hs => ?_
  obtain ⟨mm, hmm, hown⟩ := hs.head
  rcases hown with ⟨_, rfl⟩ | ⟨g, cap, cur, rfl, hg, hle, hcap, hsz, hcur⟩
  · exact absurd rfl hne
  have hg := hmm _ _ hg
  have hsz' : m < cur.size := by
    have : xs.length * K.sz ≤ cap * K.sz := Nat.mul_le_mul_right _ hle
    omega
  have hcell : w.cell? ⟨g, m, none⟩ = some cur[m] := by rw [cell_of_blk hg]; exact Array.getElem?_eq_getElem hsz'
  have hf : w.frozen? ⟨g, m, none⟩ = false := frozen_of_blk hg
  have hcs : u.cells = #[u] := by cases u <;> first | rfl | simp [Value.oneCell'] at h1
  refine ⟨w.setCell ⟨g, m, none⟩ u, _, ?_, ?_, .setCell _ _ _, h⟩
  · simp only [execOp, hr x _ hx, hr y _ hy, Instr.storeAt, idxp, Instr.sureAddr, storeVar, Nat.zero_add]
    simp [hz, hcs, storeCells, Addr.add, run_store P w ⟨g, m, none⟩ u .plain h1, hcell, hf]
  · refine Own.put hs (fun g2 cap2 cur2 hv2 hg2 _ hsz2 hcur2 => ?_) (by simp) hne
    injection hv2 with e1 _ _; injection e1 with e1; injection e1 with e1 _ _; subst e1
    have : cur2 = cur := by
      have h9 : some (Obj.cells cur2 E) = some (Obj.cells cur E) := hg2.symm.trans hg
      injection h9 with h9; injection h9
    subst this
    refine ⟨_, setCell_blk u hg, by simp, ?_, fun q hq => setCell_other u hq⟩
    rw [Array.toList_setIfInBounds, take_set_lt _ _ _ _ (by omega), hcur2, ← hm, EK.flat_set1 K xs _ z z' j u hget hj' hu]
theorem SO.storeIN {E t ty m : Nat} {x y : Operand} {p : String} {af : Array Edge} {us : List Value} {i : Int} {z z' : α} (hz : ∀ w, (sizeOf t).run P w = .ok K.sz w) (hi : at_ xs i = some z) (hx : ev ρ x = some (idxp v m)) (hy : ev ρ y = some (.agg us.toArray)) (hm : i.toNat * K.sz = m) (hu : K.enc z' = us)
    (h : SO P n Z w0 ops l ρ (Own E K v (xs.set i.toNat z') :: rest)) : SO P n Z w0 ops (⟨none, .store t x y, ty, p, af, none⟩ :: l) ρ (Own E K v xs :: rest) := by
  obtain ⟨h0, hlt, hget⟩ := at_spec hi
  have hne : xs ≠ [] := by intro e; subst e; simp at hget
  have hl : us.length = K.sz := by rw [← hu, K.len]
  have hb : m + K.sz ≤ xs.length * K.sz := by
    have : (i.toNat + 1) * K.sz ≤ xs.length * K.sz := Nat.mul_le_mul_right _ (by omega)
    rw [Nat.add_mul] at this; omega
  refine .raw0 fun r w hr hs => ?_
  obtain ⟨mm, hmm, hown⟩ := hs.head
  rcases hown with ⟨_, rfl⟩ | ⟨g, cap, cur, rfl, hg, hle, hcap, hsz, hcur⟩
  · exact absurd rfl hne
  have hg := hmm _ _ hg
  have hszl : xs.length * K.sz ≤ cap * K.sz := Nat.mul_le_mul_right _ hle
  obtain ⟨w', c', hrun, hb', hs', ho, hn, hq, hk⟩ := storeCells_run (P := P) (b := g) (o := m) us 0 w cur E hg (fun u hu' => K.one z' u (by rw [hu]; exact hu')) (by omega)
  refine ⟨w', _, ?_, ?_, hk, h⟩
  · simp only [execOp, hr x _ hx, hr y _ hy, Instr.storeAt, idxp, Instr.sureAddr, storeVar, Nat.zero_add]
    simp only [Value.cells, Sem.run_bind, Sem.run_pure, Result.andThen_ok, hz]
    simp [hl, hrun]
  · refine Own.put hs (fun g2 cap2 cur2 hv2 hg2 _ hsz2 hcur2 => ?_) (by simp) hne
    injection hv2 with e1 _ _; injection e1 with e1; injection e1 with e1 _ _; subst e1
    have : cur2 = cur := by
      have h9 : some (Obj.cells cur2 E) = some (Obj.cells cur E) := hg2.symm.trans hg
      injection h9 with h9; injection h9
    subst this
    refine ⟨c', hb', hs', ?_, hq⟩
    apply List.ext_getElem?
    intro q
    have hxl : (xs.set i.toNat z').length = xs.length := by simp
    rcases Nat.lt_or_ge q (xs.length * K.sz) with hq1 | hq1
    · rw [List.getElem?_take_of_lt hq1]
      have hdm : q = (q / K.sz) * K.sz + q % K.sz := by rw [Nat.mul_comm]; exact (Nat.div_add_mod q K.sz).symm
      have hmod : q % K.sz < K.sz := Nat.mod_lt _ K.pos
      have hdl : q / K.sz < xs.length := Nat.div_lt_of_lt_mul (by rw [Nat.mul_comm]; exact hq1)
      by_cases e : q / K.sz = i.toNat
      · have hx' : (xs.set i.toNat z')[q / K.sz]? = some z' := by rw [e, List.getElem?_set_self (by omega)]
        have e2 : (K.flat (xs.set i.toNat z'))[q]? = us[q % K.sz]? := by
          conv => lhs; rw [hdm]
          rw [EK.flat_get K _ _ z' _ hx' hmod, hu]
        have e3 : c'[m + 0 + q % K.sz]? = us[q % K.sz]? := hn _ (by omega)
        rw [e2, ← e3]; simp only [Array.getElem?_toList]; congr 1; rw [← hm, ← e]; omega
      · have hx' : (xs.set i.toNat z')[q / K.sz]? = some xs[q / K.sz] := by rw [List.getElem?_set_ne (Ne.symm e)]; exact List.getElem?_eq_getElem hdl
        have e2 : (K.flat (xs.set i.toNat z'))[q]? = (K.enc xs[q / K.sz])[q % K.sz]? := by
          conv => lhs; rw [hdm]
          rw [EK.flat_get K _ _ _ _ hx' hmod]
        have e4 : (K.flat xs)[q]? = (K.enc xs[q / K.sz])[q % K.sz]? := by
          conv => lhs; rw [hdm]
          rw [EK.flat_get K _ _ _ _ (List.getElem?_eq_getElem hdl) hmod]
        have hout : q < m + 0 ∨ m + 0 + us.length ≤ q := by
          rcases Nat.lt_or_gt_of_ne e with h | h
          · left
            have : (q / K.sz + 1) * K.sz ≤ i.toNat * K.sz := Nat.mul_le_mul_right _ h
            rw [Nat.add_mul] at this; omega
          · right
            have : (i.toNat + 1) * K.sz ≤ (q / K.sz) * K.sz := Nat.mul_le_mul_right _ h
            rw [Nat.add_mul] at this; omega
        rw [e2, ← e4, ← hcur2, List.getElem?_take_of_lt hq1]
        simp only [Array.getElem?_toList]
        exact ho q hout
    · rw [List.getElem?_eq_none (by simp; omega), List.getElem?_eq_none (by rw [EK.length_flat, hxl]; omega)]

theorem append_ty {P : Program} {t t2 e e2 ty : Nat} {a : Array Value} {w : World} {i : TypeInfo} (ht : P.underlying t = some (.slice e)) (ht2 : P.underlying t2 = some (.slice e2)) (hi : P.info? e = some i) : (Builtin.append_ #[t, t2] ty a).run P w = (Builtin.append_ #[t, t] ty a).run P w := by
  cases h1 : a[0]? with
  | none => simp [Builtin.append_, h1]
  | some s =>
    cases h2 : a[1]? with
    | none => simp [Builtin.append_, h1, h2]
    | some x => cases s <;> simp [Builtin.append_, h1, h2, run_underlying ht, run_underlying ht2, sizeOf, typeInfo, hi]
/-- An append to a slice of one's own, of another slice's elements. -/
theorem SO.append {ys : List α} {d t t2 e2 ty e : Nat} {x y : Operand} {p : String} {af : Array Edge} {i : TypeInfo} {z : Value} {bytes : Nat} {u : Value} {zs : List α} (hd : Nat.blt d n = true) (ht : P.underlying t = some (.slice e)) (ht2 : P.underlying t2 = some (.slice e2)) (hi : P.info? e = some i) (hz : i.zero = some z) (hsize : i.size = K.sz) (hby : i.bytes = bytes) (hbl : bytes ≤ 4096) (hzs : z.cells.size = K.sz)
    (hx : ev ρ x = some v) (hy : ev ρ y = some u) (hR : Rd K u ys (stars rest)) (ha : app xs ys = some zs)
    (h : ∀ v', SO P n Z w0 ops l ((d, v') :: ρ) (Own e K v' zs :: rest)) : SO P n Z w0 ops (⟨some d, .call ⟨.builtin .append, #[x, y], #[t, t2]⟩, ty, p, af, none⟩ :: l) ρ (Own e K v xs :: rest) := by
  obtain ⟨hlen, rfl⟩ := app_spec ha
  refine .raw hd fun r w hr hs => ?_
  obtain ⟨m, hm, hown⟩ := hs.head
  have hrow := hown.row hm
  obtain ⟨ua, ucap, ⟨rfl, _⟩, hR⟩ := hR
  have hrun : ∀ v' w', (Builtin.append_ #[t, t] ty #[v, .slice ua ys.length ucap]).run P w = .ok v' w' → (execOp r ⟨some d, .call ⟨.builtin .append, #[x, y], #[t, t2]⟩, ty, p, af, none⟩).run P w = .ok (.value v') w' := by
    intro v' w' h
    simp [execOp, resolve, Go.invoke, Go.builtin, hr x _ hx, hr y _ hy, append_ty ht ht2 hi, h]
  have key : ∃ v' w', (Builtin.append_ #[t, t] ty #[v, .slice ua ys.length ucap]).run P w = .ok v' w' ∧ w'.ownsRow 0 e K.sz v' (xs ++ ys).length (K.flat (xs ++ ys)) ∧ w.grownBy w' v.ownBlock ∧ ∀ g, v'.ownBlock = some g → v.ownBlock = some g ∨ w.heap.size ≤ g := by
    by_cases hy0 : ys = []
    · subst hy0
      cases ua with
      | none =>
        refine ⟨v, w, ?_, by simpa using hrow, ⟨rfl, rfl, rfl, Nat.le_refl _, fun _ _ _ => rfl⟩, fun _ h => .inl h⟩
        rcases hrow.2 with ⟨rfl, h0⟩ | ⟨g, cap, cur, rfl, _, _, hnc, _⟩
        · simp [Builtin.append_, run_underlying ht, sizeOf, typeInfo, hi, Builtin.lenOf, Builtin.firstCells, h0]
        · simp [Builtin.append_, run_underlying ht, sizeOf, typeInfo, hi, Builtin.lenOf, Builtin.firstCells, hnc, storeCells]
      | some a =>
        obtain ⟨v', w', h1, h2, h3, h4⟩ := append_block (P := P) w t ty e i z K.sz bytes ht hi hz hsize hby hzs K.pos v xs.length (K.flat xs) hrow a 0 ucap [] (by simp) (by simp) (by simp) (by simp only [maxLen]; simp at hlen; omega) (by
            have : (xs.length + 0) * bytes ≤ 4294967296 * 4096 := Nat.mul_le_mul (by simpa using hlen) hbl
            omega)
        exact ⟨v', w', h1, by simpa using h2, h3, h4⟩
    · obtain ⟨y0, hy1⟩ : ∃ y0, ys[0]? = some y0 := by cases ys with | nil => exact absurd rfl hy0 | cons a l => exact ⟨a, rfl⟩
      obtain ⟨b, off, rfl, _⟩ := hR 0 y0 hy1
      have hnews : ∀ j q, (K.flat ys)[j]? = some q → w.cell? ((⟨b, off, none⟩ : Addr).add j) = some q := by
        intro j q hj
        have hjl : j < ys.length * K.sz := by
          rcases Nat.lt_or_ge j (ys.length * K.sz) with h | h
          · exact h
          · rw [List.getElem?_eq_none (by rw [EK.length_flat]; exact h)] at hj; cases hj
        have hdm : j = (j / K.sz) * K.sz + j % K.sz := by rw [Nat.mul_comm]; exact (Nat.div_add_mod j K.sz).symm
        have hmod : j % K.sz < K.sz := Nat.mod_lt _ K.pos
        have hdl : j / K.sz < ys.length := Nat.div_lt_of_lt_mul (by rw [Nat.mul_comm]; exact hjl)
        obtain ⟨b', off', e1, hR1⟩ := hR (j / K.sz) ys[j / K.sz] (List.getElem?_eq_getElem hdl)
        injection e1 with e1; injection e1 with e1 e2 _; subst e1; subst e2
        obtain ⟨m1, m2, dj, s1, s2, _, hrest⟩ := hs
        obtain ⟨all, E, fr, hb, hc⟩ := hR1 _ hrest
        have hc1 := hc (j % K.sz) hmod
        rw [← EK.flat_get K ys _ _ _ (List.getElem?_eq_getElem hdl) hmod, ← hdm, hj] at hc1
        have hbw : w.heap[b]? = some (.cells all E fr) := s2 _ _ hb
        have : (⟨b, off, none⟩ : Addr).add j = ⟨b, off + j, none⟩ := by
          unfold Addr.add; split
          · rename_i h; simp [h]
          · rfl
        rw [this, cell_of_blk hbw, hc1]
      obtain ⟨v', w', h1, h2, h3, h4⟩ := append_block (P := P) w t ty e i z K.sz bytes ht hi hz hsize hby hzs K.pos v xs.length (K.flat xs) hrow ⟨b, off, none⟩ ys.length ucap (K.flat ys) (K.length_flat ys) hnews K.flat_one (by simp only [maxLen]; omega) (by
            have : (xs.length + ys.length) * bytes ≤ 4294967296 * 4096 := Nat.mul_le_mul hlen hbl
            omega)
      exact ⟨v', w', h1, by rw [K.flat_append, List.length_append]; exact h2, h3, h4⟩
  obtain ⟨v', w', hr1, hrow', hg, hblk⟩ := key
  refine ⟨v', w', ρ, Own e K v' (xs ++ ys) :: rest, hrun _ _ hr1, ?_, ⟨hg.os, hg.tape, hg.output, hg.size⟩, h v', fun _ h => h⟩
  refine hs.update fun m1 hm1 hsub hbig => ⟨_, Own.of_row hrow', fun b o e1 => ?_, fun b hb hlt => ?_, fun b hlt hb => ?_⟩
  · have e' : (if some b = v'.ownBlock then w'.heap[b]? else none) = some o := e1
    split at e'
    · exact e'
    · cases e'
  · show (if some b = v'.ownBlock then w'.heap[b]? else none) = none
    split
    · rename_i hb'
      exfalso
      rcases hblk b hb'.symm with h9 | h9
      · rcases hm1 with ⟨rfl, _⟩ | ⟨g, cap, cur, rfl, hgm, _⟩
        · simp [Value.ownBlock] at h9
        · simp only [Value.ownBlock, Option.some.injEq] at h9; subst h9; simp [hgm] at hb
      · omega
    · rfl
  · refine hg.block b hlt fun e1 => ?_
    rcases hm1 with ⟨rfl, _⟩ | ⟨g, cap, cur, rfl, hgm, _⟩
    · simp [Value.ownBlock] at e1
    · simp only [Value.ownBlock, Option.some.injEq] at e1; subst e1; simp [hgm] at hb
end
end Go.Sl
