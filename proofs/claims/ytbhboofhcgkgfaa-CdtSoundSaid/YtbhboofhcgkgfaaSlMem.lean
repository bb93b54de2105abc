/- The resource logic, part SlMem. On no condition. -/
import Derived.Test.YtbhboofhcgkgfaaSlOps
set_option linter.all false
namespace Go.Sl
open Go.RowKit

/-- A pointer to a cell of a block. -/
def bp (b o : Nat) : Value := .pointer (some ⟨b, o, none⟩)
/-- A block of cells that is one's own. -/
def Box (b : Nat) (cs : List Value) : HProp := fun m => ∃ E, m b = some (.cells cs.toArray E (0, 0))
theorem Box.blk {w : World} {b : Nat} {cs : List Value} {m : PH} (h : Box b cs m) (hs : PH.Sub m (hp w)) : ∃ E, w.heap[b]? = some (.cells cs.toArray E (0, 0)) := by
  obtain ⟨E, e⟩ := h
  exact ⟨E, hs b _ e⟩
theorem lt_of_blk {w : World} {b : Nat} {o : Obj} (h : w.heap[b]? = some o) : b < w.heap.size := by
  rcases Nat.lt_or_ge b w.heap.size with hb | hb
  · exact hb
  · simp [Array.getElem?_eq_none hb] at h
theorem cell_of_blk {w : World} {b i : Nat} {c : Array Value} {E : TypeId} {fr : Nat × Nat} (h : w.heap[b]? = some (.cells c E fr)) : w.cell? ⟨b, i, none⟩ = c[i]? := by
  simp [World.cell?, h]
theorem frozen_of_blk {w : World} {b i : Nat} {c : Array Value} {E : TypeId} (h : w.heap[b]? = some (.cells c E (0, 0))) : w.frozen? ⟨b, i, none⟩ = false := by
  simp [World.frozen?, h]
theorem setCell_blk {w : World} {b i : Nat} {c : Array Value} {E : TypeId} {fr : Nat × Nat} (v : Value) (h : w.heap[b]? = some (.cells c E fr)) : (w.setCell ⟨b, i, none⟩ v).heap[b]? = some (.cells (c.setIfInBounds i v) E fr) := by
  simp [World.setCell, Array.getElem?_modify, h]
theorem setCell_other {w : World} {b i j : Nat} (v : Value) (h : j ≠ b) : (w.setCell ⟨b, i, none⟩ v).heap[j]? = w.heap[j]? := by
  simp only [World.setCell, Array.getElem?_modify]
  rw [if_neg (fun e => h e.symm)]
theorem Keep.setCell (w : World) (a : Addr) (v : Value) : Keep w (w.setCell a v) := ⟨rfl, rfl, rfl, by simp⟩
theorem Keep.alloc (w : World) (o : Obj) : Keep w (w.alloc o) := ⟨rfl, rfl, rfl, by simp⟩
theorem Keep.drew (w : World) : Keep w w.drew := ⟨rfl, rfl, rfl, Nat.le_refl _⟩
theorem Sat.drew {w : World} {l : List HProp} (h : Sat w l) : Sat w.drew l := h
theorem alloc_old {w : World} {o : Obj} {b : Nat} (h : b < w.heap.size) : (w.alloc o).heap[b]? = w.heap[b]? := by
  simp only [World.alloc, Array.getElem?_push]; rw [if_neg (by omega)]
theorem alloc_new (w : World) (o : Obj) : (w.alloc o).heap[w.heap.size]? = some o := by simp only [World.alloc, Array.getElem?_push]; simp

/-- A new block. -/
theorem Sat.alloc {w : World} {l : List HProp} (h : Sat w l) (o : Obj) (A : HProp) (hA : A (fun b => if b = w.heap.size then some o else none)) : Sat (w.alloc o) (A :: l) := by
  have h0 : Sat w ((fun _ => True) :: l) := ⟨fun _ => none, hp w, fun _ => .inl rfl, fun _ _ e => by simp at e, .refl _, trivial, h⟩
  refine h0.update fun m1 _ _ _ => ⟨_, hA, fun b x e => ?_, fun b _ hb => ?_, fun b hb _ => alloc_old hb⟩
  · have e' : (if b = w.heap.size then some o else none) = some x := e
    clear e
    split at e'
    · rename_i hb; subst hb; injection e' with e; subst e; exact alloc_new w o
    · cases e'
  · show (if b = w.heap.size then some o else none) = none
    rw [if_neg (by omega)]
/-- A store into a block of cells that is one's own. -/
theorem Sat.setCell {w : World} {A A' : HProp} {l : List HProp} {b i : Nat} {v : Value} (h : Sat w (A :: l))
    (hA : ∀ m, A m → PH.Sub m (hp w) → ∃ c E fr, m b = some (.cells c E fr) ∧ A' (fun j => if j = b then some (.cells (c.setIfInBounds i v) E fr) else m j)) : Sat (w.setCell ⟨b, i, none⟩ v) (A' :: l) := by
  refine h.update fun m1 ha hs hbig => ?_
  obtain ⟨c, E, fr, hb, hA'⟩ := hA m1 ha hs
  refine ⟨_, hA', fun j o e => ?_, fun j hj _ => ?_, fun j hj hn => ?_⟩
  · have e' : (if j = b then some (Obj.cells (c.setIfInBounds i v) E fr) else m1 j) = some o := e
    clear e
    split at e'
    · rename_i hj; subst hj; injection e' with e; subst e; exact setCell_blk v (hs _ _ hb)
    · rename_i hj; show (w.setCell ⟨b, i, none⟩ v).heap[j]? = some o; rw [setCell_other v hj]; exact hs j o e'
  · show (if j = b then some (Obj.cells (c.setIfInBounds i v) E fr) else m1 j) = none
    split
    · rename_i h2; subst h2; simp [hb] at hj
    · exact hj
  · exact setCell_other v (fun e => by subst e; simp [hb] at hn)

section
variable {P : Program} {f : FuncId} {n : Nat} {Z : Act → World → Prop} {R : Ending → World → Prop} {w0 : World} {k : List Item} {ρ ρ' : Env} {H H' rest : List HProp} {ops : Array Oper} {l : List Oper}

/-- One operation in its place, by hand. -/
theorem SO.raw {d t : Nat} {o : Op} {p : String} {af : Array Edge} (hd : Nat.blt d n = true)
    (ho : ∀ (r : Operand → Value) (w : World), (∀ x u, ev ρ x = some u → r x = u) → Sat w H → ∃ v w' ρ' H', (execOp r ⟨some d, o, t, p, af, none⟩).run P w = .ok (.value v) w' ∧ Sat w' H' ∧ Keep w w' ∧ SO P n Z w0 ops l ((d, v) :: ρ') H' ∧ (∀ tm, EnvOk tm ρ → EnvOk tm ρ')) :
    SO P n Z w0 ops (⟨some d, o, t, p, af, none⟩ :: l) ρ H := by
  intro a w h1 h2 h3 h4 h5
  obtain ⟨v, w', ρ', H', hr, hs, hk, h, he⟩ := ho a.eval w (fun x u => h2.ev) h4
  refine wpList_plain rfl fun K hK => ?_
  unfold Oper.wp
  rw [hr]
  have hd' : d < n := by simpa using hd
  exact hK _ _ (h _ w' (by simpa [Act.put] using h1) ((he _ h2).put v (by omega)) h3 hs (h5.trans hk))
theorem SO.raw0 {t : Nat} {o : Op} {p : String} {af : Array Edge}
    (ho : ∀ (r : Operand → Value) (w : World), (∀ x u, ev ρ x = some u → r x = u) → Sat w H → ∃ w' H', (execOp r ⟨none, o, t, p, af, none⟩).run P w = .ok .skip w' ∧ Sat w' H' ∧ Keep w w' ∧ SO P n Z w0 ops l ρ H') :
    SO P n Z w0 ops (⟨none, o, t, p, af, none⟩ :: l) ρ H := by
  intro a w h1 h2 h3 h4 h5
  obtain ⟨w', H', hr, hs, hk, h⟩ := ho a.eval w (fun x u => h2.ev) h4
  refine wpList_plain rfl fun K hK => ?_
  unfold Oper.wp
  rw [hr]
  exact hK _ _ (h _ w' h1 h2 h3 hs (h5.trans hk))

theorem SO.bring {H' : List HProp} (p : H.Perm H') (h : SO P n Z w0 ops l ρ H') : SO P n Z w0 ops l ρ H := h.sat fun _ s => s.perm p
theorem S.bring {H' : List HProp} (p : H.Perm H') (h : S P f n R w0 k ρ H') : S P f n R w0 k ρ H := h.sat fun _ s => s.perm p

theorem SO.box {d E t : Nat} {x : Operand} {p : String} {af : Array Edge} {v : Value} {cs : List Value} (hd : Nat.blt d n = true) (hx : ev ρ x = some v) (hc : v.cells.toList = cs)
    (h : ∀ b, SO P n Z w0 ops l ((d, bp b 0) :: ρ) (Box b cs :: H)) : SO P n Z w0 ops (⟨some d, .box E x, t, p, af, none⟩ :: l) ρ H := by
  refine .raw hd fun r w hr hs => ⟨_, w.alloc (.cells v.cells E), ρ, Box w.heap.size cs :: H, ?_, ?_, ?_, h w.heap.size, fun _ h => h⟩
  · simp only [execOp, hr x v hx, Instr.box, newVar, newRow]
    simp [bp]
  · refine hs.alloc _ _ ⟨E, ?_⟩
    simp [← hc]
  · exact .alloc _ _
theorem SO.alloc {d E t : Nat} {p : String} {af : Array Edge} {v : Value} {cs : List Value} (hd : Nat.blt d n = true) (hz : ∀ w, (zeroValue E).run P w = .ok v w) (hc : v.cells.toList = cs)
    (h : ∀ b, SO P n Z w0 ops l ((d, bp b 0) :: ρ) (Box b cs :: H)) : SO P n Z w0 ops (⟨some d, .alloc E, t, p, af, none⟩ :: l) ρ H := by
  refine .raw hd fun r w hr hs => ⟨_, w.alloc (.cells v.cells E), ρ, Box w.heap.size cs :: H, ?_, ?_, ?_, h w.heap.size, fun _ h => h⟩
  · simp only [execOp, Instr.alloc]
    simp [hz, newVar, newRow, bp]
  · refine hs.alloc _ _ ⟨E, ?_⟩
    simp [← hc]
  · exact .alloc _ _
theorem SO.load1 {d t ty b o : Nat} {x : Operand} {p : String} {af : Array Edge} {v : Value} {cs : List Value} (hd : Nat.blt d n = true) (ha : ∀ w, (isAgg t).run P w = .ok false w) (hx : ev ρ x = some (bp b o)) (hv : cs[o]? = some v)
    (h : SO P n Z w0 ops l ((d, v) :: ρ) (Box b cs :: rest)) : SO P n Z w0 ops (⟨some d, .load t x, ty, p, af, none⟩ :: l) ρ (Box b cs :: rest) := by
  refine .raw hd fun r w hr hs => ⟨_, _, ρ, _, ?_, hs, .refl w, h, fun _ h => h⟩
  obtain ⟨m, hm, hb⟩ := hs.head
  obtain ⟨E, hb⟩ := hb.blk hm
  have hc : w.cell? ⟨b, o, none⟩ = some v := by rw [cell_of_blk hb]; simpa using hv
  simp [execOp, hr x _ hx, Instr.loadAt, bp, Instr.sureAddr, loadVar, ha, hc]
theorem loadCellsFrom_run {w : World} {b o : Nat} {vs : List Value} : ∀ (i m : Nat) (acc : Array Value), i + m ≤ vs.length → (∀ j, i ≤ j → j < i + m → w.cell? ⟨b, o + j, none⟩ = vs[j]?) →
    (loadCellsFrom ⟨b, o, none⟩ i m acc).run P w = .ok (acc ++ ((vs.drop i).take m).toArray) w
  | i, 0, acc, _, _ => by simp [loadCellsFrom]
  | i, m + 1, acc, hl, hc => by
    have h1 : w.cell? (Addr.add ⟨b, o, none⟩ i) = vs[i]? := by
      rw [← hc i (Nat.le_refl _) (by omega)]
      unfold Addr.add; split
      · rename_i h; subst h; rfl
      · rfl
    have hi : vs[i]? = some vs[i] := List.getElem?_eq_getElem (by omega)
    simp only [loadCellsFrom]
    rw [Sem.run_bind, run_load, h1, hi]
    simp only [Result.andThen_ok]
    rw [loadCellsFrom_run (vs := vs) (i + 1) m _ (by omega) (fun j h2 h3 => hc j (by omega) (by omega))]
    congr 1
    apply Array.ext'
    simp only [Array.toList_append, Array.toList_push, List.append_assoc]
    congr 1
    have hi' : i < vs.length := by omega
    rw [List.drop_eq_getElem_cons hi']; rfl
theorem loadCells_run {w : World} {b o m : Nat} {vs : List Value} (hl : vs.length = m) (hc : ∀ j, j < m → w.cell? ⟨b, o + j, none⟩ = vs[j]?) :
    (loadCells ⟨b, o, none⟩ m).run P w = .ok vs.toArray w := by
  unfold loadCells
  rw [loadCellsFrom_run (vs := vs) 0 m #[] (by omega) (fun j _ h => hc j (by omega))]
  simp [hl ▸ List.take_length]
theorem SO.loadN {d t ty b o sz : Nat} {x : Operand} {p : String} {af : Array Edge} {vs cs : List Value} (hd : Nat.blt d n = true) (ha : ∀ w, (isAgg t).run P w = .ok true w) (hz : ∀ w, (sizeOf t).run P w = .ok sz w) (hx : ev ρ x = some (bp b o))
    (hv : (cs.drop o).take sz = vs) (hl : vs.length = sz)
    (h : SO P n Z w0 ops l ((d, .agg vs.toArray) :: ρ) (Box b cs :: rest)) : SO P n Z w0 ops (⟨some d, .load t x, ty, p, af, none⟩ :: l) ρ (Box b cs :: rest) := by
  refine .raw hd fun r w hr hs => ⟨_, _, ρ, _, ?_, hs, .refl w, h, fun _ h => h⟩
  obtain ⟨m, hm, hb⟩ := hs.head
  obtain ⟨E, hb⟩ := hb.blk hm
  have hc : ∀ j, j < sz → w.cell? ⟨b, o + j, none⟩ = vs[j]? := fun j hj => by
    rw [cell_of_blk hb, ← hv, List.getElem?_take_of_lt hj, List.getElem?_drop]; simp
  simp [execOp, hr x _ hx, Instr.loadAt, bp, Instr.sureAddr, loadVar, ha, hz, loadCells_run hl hc]
theorem SO.store1 {t ty b o : Nat} {x y : Operand} {p : String} {af : Array Edge} {v u : Value} {cs : List Value} (hz : ∀ w, (sizeOf t).run P w = .ok 1 w) (hx : ev ρ x = some (bp b o)) (hy : ev ρ y = some v) (h1 : v.oneCell' = true) (hv : cs[o]? = some u)
    (h : SO P n Z w0 ops l ρ (Box b (cs.set o v) :: rest)) : SO P n Z w0 ops (⟨none, .store t x y, ty, p, af, none⟩ :: l) ρ (Box b cs :: rest) := by
  refine .raw0 fun r w hr hs => ⟨w.setCell ⟨b, o, none⟩ v, _, ?_, ?_, .setCell _ _ _, h⟩
  · obtain ⟨m, hm, hb⟩ := hs.head
    obtain ⟨E, hb⟩ := hb.blk hm
    have hc : w.cell? ⟨b, o, none⟩ = some u := by rw [cell_of_blk hb]; simpa using hv
    have hf : w.frozen? ⟨b, o, none⟩ = false := frozen_of_blk hb
    have hcs : v.cells = #[v] := by cases v <;> first | rfl | simp [Value.oneCell'] at h1
    simp only [execOp, hr x _ hx, hr y _ hy, Instr.storeAt, bp, Instr.sureAddr, storeVar]
    simp [hz, hcs, storeCells, Addr.add, run_store P w ⟨b, o, none⟩ v .plain h1, hc, hf]
  · refine hs.setCell fun m hA _ => ?_
    obtain ⟨E, e⟩ := hA
    refine ⟨_, _, _, e, E, ?_⟩
    simp
theorem storeCells_run {b o : Nat} : ∀ (vs : List Value) (i : Nat) (w : World) (c : Array Value) (E : TypeId), w.heap[b]? = some (.cells c E (0, 0)) → (∀ v ∈ vs, v.oneCell' = true) → o + i + vs.length ≤ c.size →
    ∃ w' c', (storeCells ⟨b, o, none⟩ vs i).run P w = .ok () w' ∧ w'.heap[b]? = some (.cells c' E (0, 0)) ∧ c'.size = c.size ∧ (∀ j, j < o + i ∨ o + i + vs.length ≤ j → c'[j]? = c[j]?) ∧ (∀ j, j < vs.length → c'[o + i + j]? = vs[j]?) ∧
      (∀ q, q ≠ b → w'.heap[q]? = w.heap[q]?) ∧ Keep w w'
  | [], i, w, c, E, hb, _, _ => ⟨w, c, by simp [storeCells], hb, rfl, fun _ _ => rfl, fun j hj => by simp at hj, fun _ _ => rfl, .refl w⟩
  | v :: vs, i, w, c, E, hb, h1, hl => by
    simp only [List.length_cons] at hl
    have e0 : Addr.add ⟨b, o, none⟩ i = ⟨b, o + i, none⟩ := by
      unfold Addr.add; split
      · rename_i h; subst h; rfl
      · rfl
    have hv1 := h1 v List.mem_cons_self
    have hcell : w.cell? ⟨b, o + i, none⟩ = some c[o + i] := by rw [cell_of_blk hb]; exact Array.getElem?_eq_getElem (by omega)
    have hf : w.frozen? ⟨b, o + i, none⟩ = false := frozen_of_blk hb
    obtain ⟨w', c', hr, hb', hs', ho, hn, hq, hk⟩ := storeCells_run (b := b) (o := o) vs (i + 1) (w.setCell ⟨b, o + i, none⟩ v) (c.setIfInBounds (o + i) v) E (setCell_blk v hb) (fun u hu => h1 u (List.mem_cons_of_mem _ hu)) (by rw [Array.size_setIfInBounds]; omega)
    refine ⟨w', c', ?_, hb', by simpa using hs', fun j hj => ?_, fun j hj => ?_, fun q hq' => (hq q hq').trans (setCell_other v hq'), (Keep.setCell _ _ _).trans hk⟩
    · simp only [storeCells, e0]
      rw [Sem.run_bind, run_store P w _ v .plain hv1, hcell, hf]
      simpa using hr
    · simp only [List.length_cons] at hj
      rw [ho j (by omega), Array.getElem?_setIfInBounds_ne (by omega)]
    · cases j with
      | zero => rw [ho (o + i + 0) (by omega)]; rw [Nat.add_zero, Array.getElem?_setIfInBounds_self_of_lt (by omega)]; rfl
      | succ j => have := hn j (by simpa using hj); simpa [Nat.add_assoc, Nat.add_comm 1 j] using this
/-- The cells from o on, put anew. -/
def splice (cs : List Value) (o : Nat) (vs : List Value) : List Value := cs.take o ++ (vs ++ cs.drop (o + vs.length))
theorem SO.storeN {t ty b o : Nat} {x y : Operand} {p : String} {af : Array Edge} {vs cs cs' : List Value} {sz : Nat} (hz : ∀ w, (sizeOf t).run P w = .ok sz w) (hx : ev ρ x = some (bp b o)) (hy : ev ρ y = some (.agg vs.toArray)) (h1 : (vs.all Value.oneCell') = true) (hsz : vs.length = sz) (hv : Nat.ble (o + vs.length) cs.length = true) (hcs : splice cs o vs = cs')
    (h : SO P n Z w0 ops l ρ (Box b cs' :: rest)) : SO P n Z w0 ops (⟨none, .store t x y, ty, p, af, none⟩ :: l) ρ (Box b cs :: rest) := by
  refine .raw0 fun r w hr hs => ?_
  have hle : o + vs.length ≤ cs.length := by simpa using hv
  obtain ⟨m, hm, hb⟩ := hs.head
  obtain ⟨E, hb⟩ := hb.blk hm
  obtain ⟨w', c', hrun, hb', hs', ho, hn, hq, hk⟩ := storeCells_run (P := P) (b := b) (o := o) vs 0 w cs.toArray E hb (fun v hv => by simpa using List.all_eq_true.1 h1 v hv) (by simpa using hle)
  have hcc : c' = cs'.toArray := by
    apply Array.ext'
    apply List.ext_getElem?
    intro j
    simp only [Array.getElem?_toList]
    rw [← hcs, splice]
    rcases Nat.lt_or_ge j o with hj | hj
    · rw [ho j (by omega), List.getElem?_append_left (by simp; omega), List.getElem?_take_of_lt hj]; simp
    · rcases Nat.lt_or_ge j (o + vs.length) with hj2 | hj2
      · have := hn (j - o) (by omega)
        rw [show o + 0 + (j - o) = j by omega] at this
        rw [this, List.getElem?_append_right (by simp; omega), List.getElem?_append_left (by simp; omega)]
        simp [Nat.min_eq_left (by omega : o ≤ cs.length)]
      · rw [ho j (by omega), List.getElem?_append_right (by simp; omega), List.getElem?_append_right (by simp; omega), List.getElem?_drop]
        simp only [List.getElem?_toArray, List.length_take]
        congr 1; omega
  subst hcc
  refine ⟨w', _, ?_, ?_, hk, h⟩
  · simp only [execOp, hr x _ hx, hr y _ hy, Instr.storeAt, bp, Instr.sureAddr, storeVar]
    simp only [Value.cells, Sem.run_bind, Sem.run_pure, Result.andThen_ok, hz]
    simp [hsz, hrun]
  · refine hs.update fun m1 ha hs1 _ => ?_
    obtain ⟨E1, e1⟩ := ha
    have : E1 = E := by have := hs1 b _ e1; simp only [hp, hb] at this; injection this with this; injection this with _ h2; exact h2.symm
    subst this
    refine ⟨fun j => if j = b then some (.cells cs'.toArray E1 (0, 0)) else m1 j, ⟨E1, by simp⟩, fun j o' e => ?_, fun j hj _ => ?_, fun j hj hn' => ?_⟩
    · have e' : (if j = b then some (Obj.cells cs'.toArray E1 (0, 0)) else m1 j) = some o' := e
      clear e
      split at e'
      · rename_i hj; subst hj; injection e' with e; subst e; exact hb'
      · rename_i hj; show w'.heap[j]? = some o'; rw [hq j hj]; exact hs1 j o' e'
    · show (if j = b then some (Obj.cells cs'.toArray E1 (0, 0)) else m1 j) = none
      split
      · rename_i h2; subst h2; simp [e1] at hj
      · exact hj
    · exact hq j (fun e => by subst e; simp [e1] at hn')
theorem opv_fieldAddr {s b o o' : Nat} {x : Operand} {fl : Nat} {fs : Array Field} {fd : Field} {sz : Nat} (hs : P.underlying s = some (.struct fs)) (hf : fs[fl]? = some fd) (hz : ∀ w, (sizeOf fd.type).run P w = .ok (sz + 1) w) (hx : ev ρ x = some (bp b o)) (ho : o + fd.offset = o') :
    OpV P ρ (.fieldAddr s x fl) (bp b o') := fun r w d t p af g hr => by
  subst ho
  simp only [execOp, hr x _ hx, Instr.fieldAt, bp]
  simp only [Sem.run_bind, run_underlying hs, Result.andThen_ok, hf, Instr.sureAddr, Sem.run_pure, fieldPlace, hz]
  rw [if_neg (by omega)]
  simp only [Sem.run_pure, Result.andThen_ok, Addr.add]
  split
  · rename_i h; simp [h]
  · rfl
end
end Go.Sl
