/- The resource logic, part SlDel. On no condition. -/
import Derived.Test.YtbhboofhcgkgfaaSlRich
set_option linter.all false
/-! What slices.Delete does: parts of a row of one's own, put forward in the row itself. -/
set_option linter.unusedVariables false
namespace Go.Sl
open Go.RowKit
def slc3 (v : Value) (lo hi mx sz : Nat) : Value :=
  match v with
  | .slice a _ _ => .slice (if mx = lo then a else a.map (·.add (lo * sz))) (hi - lo) (mx - lo)
  | _ => undef
def slcHi (v : Value) (n : Nat) : Value :=
  match v with
  | .slice a _ cap => .slice a n cap
  | _ => undef
def delN {α : Type} (xs : List α) (i j : Int) : Nat := xs.length - (j.toNat - i.toNat)
/-- The row behind the step forward. -/
def delz {α : Type} (xs : List α) (i j : Int) : List α := xs.take i.toNat ++ xs.drop j.toNat ++ xs.drop (delN xs i j)
def delOk {α : Type} (xs : List α) (i j : Int) : Bool := decide (0 ≤ i) && decide (i ≤ j) && decide (j ≤ (xs.length : Int))
theorem delOk_spec {α : Type} {xs : List α} {i j : Int} (h : delOk xs i j = true) : 0 ≤ i ∧ i ≤ j ∧ j ≤ (xs.length : Int) := by
  simpa [delOk, and_assoc] using h
theorem slcF_of {α : Type} {xs : List α} {i j : Int} (h : delOk xs i j = true) : slcF xs j = some (xs.drop j.toNat) := by
  obtain ⟨h1, h2, h3⟩ := delOk_spec h
  unfold slcF
  rw [decide_eq_true (by omega : 0 ≤ j), decide_eq_true h3]; rfl
theorem len_delz {α : Type} {xs : List α} {i j : Int} (h : delOk xs i j = true) : (delz xs i j).length = xs.length := by
  obtain ⟨h1, h2, h3⟩ := delOk_spec h
  simp only [delz, delN, List.length_append, List.length_take, List.length_drop]; omega
theorem lt_of_del {α : Type} {xs : List α} {i j : Int} (h : delOk xs i j = true) (hb : (i == j) = false) : i < j := by
  obtain ⟨h1, h2, h3⟩ := delOk_spec h
  have : i ≠ j := by simpa using hb
  omega
theorem delN_lt {α : Type} {xs : List α} {i j : Int} (h : delOk xs i j = true) (hlt : i < j) : delN xs i j < xs.length := by
  obtain ⟨h1, h2, h3⟩ := delOk_spec h
  unfold delN; omega
section
variable {P : Program} {f : FuncId} {n : Nat} {Z : Act → World → Prop} {R : Ending → World → Prop} {w0 : World} {k : List Item} {ρ ρ' : Env} {H H' pre rest : List HProp} {ops : Array Oper} {l : List Oper}
variable {α : Type} {K : EK α} {v : Value} {xs : List α}
theorem opv_slc3 {A : HProp} {i j : Int} {ki kj km : IntKind} {x a b c : Operand} {t e : TypeId} (ht : P.underlying t = some (.slice e)) (hs : ∀ w, (sizeOf e).run P w = .ok K.sz w) (hR : Rd K v xs A) (hc : delOk xs i j = true) (hx : ev ρ x = some v) (ha : ev ρ a = some (.int ki i)) (hb : ev ρ b = some (.int kj j)) (hm : ev ρ c = some (.int km (xs.length : Int))) :
    OpV P ρ (.slice t x (some a) (some b) (some c)) (slc3 v i.toNat j.toNat xs.length K.sz) := by
  obtain ⟨h1, h2, h3⟩ := delOk_spec hc
  obtain ⟨ad, cap, ⟨rfl, hle⟩, _⟩ := hR
  intro r w d t' p af g hr
  have h4 : ((xs.length : Int)) ≤ (cap : Int) := by omega
  have h5 : i ≤ ((j.toNat : Nat) : Int) := by omega
  have h6 : (0 : Int) ≤ (xs.length : Int) := by omega
  have h7 : 0 ≤ j := by omega
  simp [execOp, hr x _ hx, hr a _ ha, hr b _ hb, hr c _ hm, Instr.sliceAt, Instr.slice, Instr.sliceBounds, Instr.sliceBound, run_underlying ht, hs, asIntOf, h1, h3, h4, h7, slc3, hle, show i ≤ max j 0 by omega]
theorem add_zero' (a : Option Addr) (sz : Nat) : a.map (·.add (0 * sz)) = a := by
  cases a with
  | none => rfl
  | some a => simp [Addr.add]
theorem opv_slcHi {A : HProp} {i j : Int} {ki : IntKind} {x a : Operand} {t e : TypeId} (ht : P.underlying t = some (.slice e)) (hs : ∀ w, (sizeOf e).run P w = .ok K.sz w) (hR : Rd K v xs A) (hc : delOk xs i j = true) (hx : ev ρ x = some v) (ha : ev ρ a = some (.int ki i)) :
    OpV P ρ (.slice t x none (some a) none) (slcHi v i.toNat) := by
  obtain ⟨h1, h2, h3⟩ := delOk_spec hc
  obtain ⟨ad, cap, ⟨rfl, hle⟩, _⟩ := hR
  intro r w d t' p af g hr
  have h4 : i ≤ (cap : Int) := by omega
  have e0 := add_zero' ad K.sz
  simp only [Nat.zero_mul] at e0
  simp [execOp, hr x _ hx, hr a _ ha, Instr.sliceAt, Instr.slice, Instr.sliceBounds, Instr.sliceBound, run_underlying ht, hs, asIntOf, h1, h4, slcHi, e0]
/-- The row's end, behind what is left. -/
theorem opv_slcT {A : HProp} {m L : Nat} {kl kh : IntKind} {x a b : Operand} {t e : TypeId} (ht : P.underlying t = some (.slice e)) (hs : ∀ w, (sizeOf e).run P w = .ok K.sz w) (hR : Rd K v xs A) (hL : xs.length = L) (hm : m ≤ xs.length) (hx : ev ρ x = some (slcHi v m)) (ha : ev ρ a = some (.int kl (m : Int))) (hb : ev ρ b = some (.int kh (L : Int))) :
    OpV P ρ (.slice t x (some a) (some b) none) (slcV v m K.sz) := by
  subst hL
  obtain ⟨ad, cap, ⟨rfl, hle⟩, _⟩ := hR
  intro r w d t' p af g hr
  have h1 : (0 : Int) ≤ (m : Int) := by omega
  have h2 : ((xs.length : Int)) ≤ (cap : Int) := by omega
  have h3 : (m : Int) ≤ (xs.length : Int) := by omega
  have h4 : (0 : Int) ≤ (xs.length : Int) := by omega
  simp [execOp, hr x _ hx, hr a _ ha, hr b _ hb, slcHi, Instr.sliceAt, Instr.slice, Instr.sliceBounds, Instr.sliceBound, run_underlying ht, hs, asIntOf, h2, h3, slcV, hle, hm]
theorem opv_lenHi {A : HProp} {m : Nat} {x : Operand} {tys : Array TypeId} {t e : TypeId} (ht0 : tys[0]? = some t) (ht : P.underlying t = some (.slice e)) (hR : Rd K v xs A) (hx : ev ρ x = some (slcHi v m)) :
    OpV P ρ (.call ⟨.builtin .len, #[x], tys⟩) (.int .i64 (m : Int)) := by
  obtain ⟨a, cap, ⟨rfl, _⟩, _⟩ := hR
  exact opv_len ht0 ht hx
theorem S.shrink {E : TypeId} {m : Nat} (hm : m ≤ xs.length) (h : S P f n R w0 k ρ (Own E K (slcHi v m) (xs.take m) :: rest)) : S P f n R w0 k ρ (Own E K v xs :: rest) :=
  h.sat fun w s => s.weaken fun pm hp => by
    rcases hp with ⟨rfl, rfl⟩ | ⟨g, cap, cur, rfl, hg, hle, hcap, hsz, hcur⟩
    · left
      have : m = 0 := by simpa using hm
      subst this; exact ⟨rfl, rfl⟩
    · right
      refine ⟨g, cap, cur, ?_, hg, ?_, hcap, hsz, ?_⟩
      · simp only [slcHi, List.length_take, Nat.min_eq_left hm]
      · simp only [List.length_take]; omega
      · simp only [List.length_take, Nat.min_eq_left hm]
        rw [EK.flat_take, ← hcur, List.take_take]
        congr 1
        have : m * K.sz ≤ xs.length * K.sz := Nat.mul_le_mul_right _ hm
        omega
/-- Cells of an owned row, put anew. -/
theorem row_put {E : TypeId} {w w' : World} {xs' : List α} {o : Nat} {us : List Value} (hs : Sat w (Own E K v xs :: rest)) (hne : xs ≠ []) (hl : xs'.length = xs.length) (hfit : o + us.length ≤ xs.length * K.sz) (hflat : K.flat xs' = splice (K.flat xs) o us)
    (hrun : ∀ g cap cur, v = .slice (some ⟨g, 0, none⟩) xs.length cap → w.heap[g]? = some (.cells cur E (0, 0)) → ∃ c', w'.heap[g]? = some (.cells c' E (0, 0)) ∧ c'.size = cur.size ∧ (∀ j, j < o ∨ o + us.length ≤ j → c'[j]? = cur[j]?) ∧ (∀ j, j < us.length → c'[o + j]? = us[j]?) ∧ ∀ q, q ≠ g → w'.heap[q]? = w.heap[q]?) : Sat w' (Own E K v xs' :: rest) := by
  refine Own.put hs (fun g cap cur hv hg hle hsz hcur => ?_) hl hne
  obtain ⟨c', h1, h2, h3, h4, h5⟩ := hrun g cap cur hv hg
  have hszl : xs.length * K.sz ≤ cap * K.sz := Nat.mul_le_mul_right _ hle
  refine ⟨c', h1, h2, ?_, h5⟩
  have hcc : c'.toList = splice cur.toList o us := by
    apply List.ext_getElem?
    intro q
    simp only [Array.getElem?_toList, splice]
    rcases Nat.lt_or_ge q o with hq1 | hq1
    · rw [h3 q (by omega), List.getElem?_append_left (by simp; omega), List.getElem?_take_of_lt hq1]; simp
    · rw [List.getElem?_append_right (by simp; omega), List.length_take, Nat.min_eq_left (by simp; omega)]
      rcases Nat.lt_or_ge (q - o) us.length with hq2 | hq2
      · rw [List.getElem?_append_left hq2, ← h4 (q - o) hq2]; congr 1; omega
      · rw [List.getElem?_append_right hq2, List.getElem?_drop, h3 q (by omega)]
        simp only [Array.getElem?_toList]; congr 1; omega
  rw [hcc, splice, take_splice _ _ _ _ hfit (by simp; omega), hcur, hflat, splice]
theorem flat_delz {i j : Int} (h : delOk xs i j = true) : K.flat (delz xs i j) = splice (K.flat xs) (i.toNat * K.sz) (K.flat (xs.drop j.toNat)) := by
  obtain ⟨h1, h2, h3⟩ := delOk_spec h
  have e1 : (K.flat (xs.drop j.toNat)).length = (xs.length - j.toNat) * K.sz := by rw [EK.length_flat, List.length_drop]
  simp only [delz, EK.flat_append, splice]
  rw [EK.flat_take, EK.flat_drop K xs (delN xs i j), e1, List.append_assoc]
  congr 3
  unfold delN
  rw [← Nat.add_mul]; congr 1; omega
theorem SO.appendDel {E d t ty : Nat} {x y : Operand} {p : String} {af : Array Edge} {i : Int} {j : Int} {inf : TypeInfo} (hd : Nat.blt d n = true) (ht : P.underlying t = some (.slice E)) (hi : P.info? E = some inf) (hsize : inf.size = K.sz) (hc : delOk xs i j = true) (hlt : i < j)
    (hx : ev ρ x = some (slcHi v i.toNat)) (hy : ev ρ y = some (slcV v j.toNat K.sz))
    (h : SO P n Z w0 ops l ((d, slcHi v (delN xs i j)) :: ρ) (Own E K v (delz xs i j) :: rest)) : SO P n Z w0 ops (⟨some d, .call ⟨.builtin .append, #[x, y], #[t, t]⟩, ty, p, af, none⟩ :: l) ρ (Own E K v xs :: rest) := by
  obtain ⟨h1, h2, h3⟩ := delOk_spec hc
  refine .raw hd fun r w hr hs => ?_
  obtain ⟨mm, hmm, hown⟩ := hs.head
  rcases hown with ⟨_, rfl⟩ | ⟨g, cap, cur, rfl, hg, hle, hcap, hsz, hcur⟩
  · simp at h3; omega
  have hg := hmm _ _ hg
  have hszl : xs.length * K.sz ≤ cap * K.sz := Nat.mul_le_mul_right _ hle
  have hjl : j.toNat ≤ xs.length := by omega
  have e1 : (K.flat (xs.drop j.toNat)).length = (xs.length - j.toNat) * K.sz := by rw [EK.length_flat, List.length_drop]
  have hroom : i.toNat + (xs.length - j.toNat) ≤ cap := by omega
  have hfit : i.toNat * K.sz + (K.flat (xs.drop j.toNat)).length ≤ xs.length * K.sz := by
    rw [e1, ← Nat.add_mul]; exact Nat.mul_le_mul_right _ (by omega)
  obtain ⟨w', c', hrun, hb', hs', ho, hn, hq, hk⟩ := storeCells_run (P := P) (b := g) (o := i.toNat * K.sz) (K.flat (xs.drop j.toNat)) 0 w cur E hg (fun u hu => K.flat_one u hu) (by omega)
  have hfc : (Builtin.firstCells K.sz (xs.length - j.toNat) (slcV (.slice (some ⟨g, 0, none⟩) xs.length cap) j.toNat K.sz)).run P w = .ok (K.flat (xs.drop j.toNat)).toArray w := by
    by_cases q : xs.length = j.toNat
    · have e0 : K.flat (xs.drop j.toNat) = [] := List.eq_nil_of_length_eq_zero (by rw [e1, q, Nat.sub_self, Nat.zero_mul])
      rw [e0, show xs.length - j.toNat = 0 by omega]
      simp only [slcV]
      split <;> simp [Builtin.firstCells, loadCells, loadCellsFrom]
    · simp only [slcV, if_neg (by omega : ¬ cap = j.toNat), Option.map_some, Builtin.firstCells]
      have ea : (⟨g, 0, none⟩ : Addr).add (j.toNat * K.sz) = ⟨g, j.toNat * K.sz, none⟩ := by
        unfold Addr.add; split
        · rename_i h; simp [h]
        · simp
      rw [ea]
      refine loadCells_run e1 fun q hq' => ?_
      have hb1 : (xs.length - j.toNat) * K.sz + j.toNat * K.sz = xs.length * K.sz := by rw [← Nat.add_mul]; congr 1; omega
      rw [cell_of_blk hg, EK.flat_drop, List.getElem?_drop, ← hcur, List.getElem?_take_of_lt (by omega)]; simp
  refine ⟨_, w', ρ, _, ?_, ?_, hk, h, fun _ h => h⟩
  · have hst : (storeCells ⟨g, i.toNat * K.sz, none⟩ (K.flat (xs.drop j.toNat))).run P w = .ok () w' := hrun
    have ea : (⟨g, 0, none⟩ : Addr).add (i.toNat * K.sz) = ⟨g, i.toNat * K.sz, none⟩ := by
      unfold Addr.add; split
      · rename_i h; simp [h]
      · simp
    have hlen : ∀ w, (Builtin.lenOf (slcV (.slice (some ⟨g, 0, none⟩) xs.length cap) j.toNat K.sz)).run P w = .ok (xs.length - j.toNat) w := fun w => by simp [slcV, Builtin.lenOf]
    have hdn : i.toNat + (xs.length - j.toNat) = delN xs i j := by unfold delN; omega
    have hroom' : delN xs i j ≤ cap := by rw [← hdn]; exact hroom
    simp only [execOp, resolve]
    simp only [Sem.run_bind, Sem.run_pure, Result.andThen_ok, Go.invoke, Go.builtin]
    simp [hr x _ hx, hr y _ hy, slcHi, Builtin.append_, run_underlying ht, sizeOf, typeInfo, hi, hlen, hsize, hroom', hfc, ea, hst, hdn]
  · refine row_put hs (by intro e; subst e; simp at h3; omega) (len_delz hc) hfit (flat_delz hc) fun g2 cap2 cur2 hv2 hg2 => ?_
    injection hv2 with e1 _ _; injection e1 with e1; injection e1 with e1 _ _; subst e1
    have : cur2 = cur := by
      have h9 : some (Obj.cells cur2 E) = some (Obj.cells cur E) := hg2.symm.trans hg
      injection h9 with h9; injection h9
    subst this
    exact ⟨c', hb', hs', fun j hj => ho j (by omega), fun j hj => by have := hn j hj; simpa using this, hq⟩
theorem SO.clearT {E t ty m : Nat} {x : Operand} {p : String} {af : Array Edge} {z : Value} {zx : α} (ht : P.underlying t = some (.slice E)) (hz : ∀ w, (zeroValue E).run P w = .ok z w) (hzx : z.cells = (K.enc zx).toArray) (hm : m < xs.length) (hx : ev ρ x = some (slcV v m K.sz))
    (h : SO P n Z w0 ops l ρ (Own E K v (xs.take m ++ List.replicate (xs.length - m) zx) :: rest)) : SO P n Z w0 ops (⟨none, .call ⟨.builtin .clear, #[x], #[t]⟩, ty, p, af, none⟩ :: l) ρ (Own E K v xs :: rest) := by
  have e1 : (K.flat (List.replicate (xs.length - m) zx)).length = (xs.length - m) * K.sz := by rw [EK.length_flat, List.length_replicate]
  intro a w h1 h2 h3 h4 h5
  obtain ⟨mm, hmm, hown⟩ := h4.head
  rcases hown with ⟨_, rfl⟩ | ⟨g, cap, cur, rfl, hg, hle, hcap, hsz, hcur⟩
  · simp at hm
  have hg := hmm _ _ hg
  have hszl : xs.length * K.sz ≤ cap * K.sz := Nat.mul_le_mul_right _ hle
  have hb1 : (xs.length - m) * K.sz + m * K.sz = xs.length * K.sz := by rw [← Nat.add_mul]; congr 1; omega
  obtain ⟨w', c', hrun, hb', hs', ho, hn, hq, hk⟩ := storeCells_run (P := P) (b := g) (o := m * K.sz) (K.flat (List.replicate (xs.length - m) zx)) 0 w cur E hg (fun u hu => K.flat_one u hu) (by omega)
  have hzc : (Builtin.zeroCells z.cells (xs.length - m)).toList = K.flat (List.replicate (xs.length - m) zx) := by
    have hs : z.cells.size = K.sz := by rw [hzx]; simp [K.len]
    have : Builtin.zeroCells z.cells (xs.length - m) = madeCells z.cells ((xs.length - m) * K.sz) := by simp only [Builtin.zeroCells, madeCells, hs]
    rw [this, made_flat K zx z hzx]
  have ea : (⟨g, 0, none⟩ : Addr).add (m * K.sz) = ⟨g, m * K.sz, none⟩ := by
    unfold Addr.add; split
    · rename_i h; simp [h]
    · simp
  have hst : (storeCells ⟨g, m * K.sz, none⟩ (K.flat (List.replicate (xs.length - m) zx))).run P w = .ok () w' := hrun
  have hsat : Sat w' (Own E K (.slice (some ⟨g, 0, none⟩) xs.length cap) (xs.take m ++ List.replicate (xs.length - m) zx) :: rest) := by
    refine row_put (o := m * K.sz) (us := K.flat (List.replicate (xs.length - m) zx)) h4 (by intro e; subst e; simp at hm) (by simp; omega) (by omega) ?_ fun g2 cap2 cur2 hv2 hg2 => ?_
    · rw [EK.flat_append, EK.flat_take, splice, List.drop_eq_nil_of_le (by rw [EK.length_flat]; omega), List.append_nil]
    · injection hv2 with e1 _ _; injection e1 with e1; injection e1 with e1 _ _; subst e1
      have : cur2 = cur := by
        have h9 : some (Obj.cells cur2 E) = some (Obj.cells cur E) := hg2.symm.trans hg
        injection h9 with h9; injection h9
      subst this
      exact ⟨c', hb', hs', fun j hj => ho j (by omega), fun j hj => by have := hn j hj; simpa using this, hq⟩
  refine wpList_plain rfl fun Q hQ => ?_
  unfold Oper.wp
  have hv : a.eval x = slcV (.slice (some ⟨g, 0, none⟩) xs.length cap) m K.sz := h2.ev hx
  have hvv : slcV (.slice (some ⟨g, 0, none⟩) xs.length cap) m K.sz = .slice (some ⟨g, m * K.sz, none⟩) (xs.length - m) (cap - m) := by
    simp only [slcV, if_neg (by omega : ¬ cap = m), Option.map_some, ea]
  obtain ⟨q, hq0⟩ : ∃ q, xs.length - m = q + 1 := ⟨xs.length - m - 1, by omega⟩
  have : (execOp a.eval ⟨none, .call ⟨.builtin .clear, #[x], #[t]⟩, ty, p, af, none⟩).run P w = .ok (.value (.tuple #[])) w' := by
    rw [hq0] at hvv hzc hst
    simp [execOp, resolve, Go.invoke, Go.builtin, hv, hvv, Builtin.clear_, run_underlying ht, hz, hzc, hst]
  rw [this]
  exact hQ _ _ (h a w' h1 h2 h3 hsat (h5.trans hk))
end
end Go.Sl
