/- The resource logic, part SlMore. On no condition. -/
import Derived.Test.YtbhboofhcgkgfaaSlSeq
set_option linter.all false
namespace Go.Sl
open Go.RowKit

/-! ### Structs as values -/
def eqI : List Int → List Int → Bool
  | a :: l, b :: m => (a == b) && eqI l m
  | _, _ => true
def encI : List IntKind → List Int → List Value
  | k :: ks, a :: l => .int k a :: encI ks l
  | _, _ => []
/-- Fields of whole numbers, one cell each, from place o on. -/
def FI (P : Program) : List Field → Nat → List IntKind → Prop
  | [], _, [] => True
  | f :: fs, o, k :: ks => f.name ≠ "_" ∧ P.underlying f.type = some (.int k) ∧ f.offset = o ∧ FI P fs (o + 1) ks
  | _, _, _ => False
theorem encI_get : ∀ (ks : List IntKind) (as : List Int) (i : Nat) (k : IntKind) (a : Int), ks[i]? = some k → as[i]? = some a → (encI ks as)[i]? = some (.int k a)
  | [], _, _, _, _, h, _ => by simp at h
  | _ :: _, [], _, _, _, _, h => by simp at h
  | k :: ks, a :: as, 0, _, _, h1, h2 => by simp at h1 h2; subst h1; subst h2; rfl
  | k :: ks, a :: as, i + 1, k', a', h1, h2 => by simp at h1 h2; simpa [encI] using encI_get ks as i k' a' h1 h2
theorem eqFields_int {P : Program} (w : World) (d : Nat) (xs ys : Array Value) : ∀ (fs : List Field) (o : Nat) (ks : List IntKind) (as bs : List Int), FI P fs o ks → as.length = ks.length → bs.length = ks.length →
    (∀ i k a, ks[i]? = some k → as[i]? = some a → xs[o + i]? = some (.int k a)) → (∀ i k a, ks[i]? = some k → bs[i]? = some a → ys[o + i]? = some (.int k a)) → (Op.eqFields (d + 1) xs ys fs).run P w = .ok (eqI as bs) w
  | [], o, [], as, bs, _, ha, hb, _, _ => by
    obtain rfl : as = [] := List.eq_nil_of_length_eq_zero ha
    simp [Op.eqFields, eqI]
  | [], _, _ :: _, _, _, h, _, _, _, _ => by simp [FI] at h
  | _ :: _, _, [], _, _, h, _, _, _, _ => by simp [FI] at h
  | f :: fs, o, k :: ks, [], _, _, ha, _, _, _ => by simp at ha
  | f :: fs, o, k :: ks, _ :: _, [], _, _, hb, _, _ => by simp at hb
  | f :: fs, o, k :: ks, a :: as, b :: bs, ⟨h1, h2, h3, h4⟩, ha, hb, hx, hy => by
    have ih := eqFields_int w d xs ys fs (o + 1) ks as bs h4 (by simpa using ha) (by simpa using hb)
      (fun i k' a' h5 h6 => by have := hx (i + 1) k' a' (by simpa using h5) (by simpa using h6); rwa [show o + (i + 1) = o + 1 + i by omega] at this)
      (fun i k' a' h5 h6 => by have := hy (i + 1) k' a' (by simpa using h5) (by simpa using h6); rwa [show o + (i + 1) = o + 1 + i by omega] at this)
    have x0 := hx 0 k a rfl rfl
    have y0 := hy 0 k b rfl rfl
    have hag : (isAgg f.type).run P w = .ok false w := by simp [isAgg, run_underlying h2]
    simp only [Nat.add_zero] at x0 y0
    have px : (part f.type xs f.offset).run P w = .ok (.int k a) w := by simp [part, hag, h3, x0]
    have py : (part f.type ys f.offset).run P w = .ok (.int k b) w := by simp [part, hag, h3, y0]
    simp only [Op.eqFields, if_pos h1]
    simp only [Sem.run_bind, px, py, Result.andThen_ok, run_equalIn_int w d f.type k k a b h2]
    cases hab : (a == b)
    · simp [eqI, hab]
    · simpa [eqI, hab] using ih
theorem eqStruct_run {P : Program} (w : World) {t : TypeId} {fs : Array Field} {ks : List IntKind} {as bs : List Int} (ht : P.underlying t = some (.struct fs)) (hp : P.stoodInHeld t = false) (hf : FI P fs.toList 0 ks) (ha : as.length = ks.length) (hb : bs.length = ks.length) :
    (Op.equalIn 10000 t (.agg (encI ks as).toArray) (.agg (encI ks bs).toArray)).run P w = .ok (eqI as bs) w := by
  have e1 : P.fieldsOf t = fs := by simp [Program.fieldsOf, ht]
  rw [run_equalIn_struct w 9999 t _ _ (by rw [e1]; exact ht) hp, e1]
  exact eqFields_int w 9998 _ _ fs.toList 0 ks as bs hf ha hb (fun i k a h1 h2 => by simpa using encI_get ks as i k a h1 h2) (fun i k a h1 h2 => by simpa using encI_get ks bs i k a h1 h2)
section
variable {P : Program} {ρ : Env}
theorem opv_eqlS {t t2 : TypeId} {x y : Operand} {fs : Array Field} {ks : List IntKind} {as bs : List Int} {b : Bool} (ht : P.underlying t = some (.struct fs)) (hp : P.stoodInHeld t = false) (hg : P.eqGuardType P.depth t = false) (hf : FI P fs.toList 0 ks) (ha : as.length = ks.length) (hb : bs.length = ks.length)
    (hx : ev ρ x = some (.agg (encI ks as).toArray)) (hy : ev ρ y = some (.agg (encI ks bs).toArray)) (he : eqI as bs = b) : OpV P ρ (.binOp .eql t x y t2) (.bool b) :=
  fun r w d t' p af g hr => by
    simp only [execOp, hr x _ hx, hr y _ hy]
    simp only [Sem.run_bind, run_eqGuard_agg w .eql t x y _ _ hg, Result.andThen_ok, run_eql_struct, eqStruct_run w ht hp hf ha hb, Sem.run_pure, he]
theorem opv_neqS {t t2 : TypeId} {x y : Operand} {fs : Array Field} {ks : List IntKind} {as bs : List Int} {b : Bool} (ht : P.underlying t = some (.struct fs)) (hp : P.stoodInHeld t = false) (hg : P.eqGuardType P.depth t = false) (hf : FI P fs.toList 0 ks) (ha : as.length = ks.length) (hb : bs.length = ks.length)
    (hx : ev ρ x = some (.agg (encI ks as).toArray)) (hy : ev ρ y = some (.agg (encI ks bs).toArray)) (he : (!eqI as bs) = b) : OpV P ρ (.binOp .neq t x y t2) (.bool b) :=
  fun r w d t' p af g hr => by
    simp only [execOp, hr x _ hx, hr y _ hy]
    simp only [Sem.run_bind, run_eqGuard_agg w .neq t x y _ _ hg, Result.andThen_ok, run_neq_struct, eqStruct_run w ht hp hf ha hb, Sem.run_pure, he]
def evp (ρ : Env) : List (Nat × Operand) → Option (List (Nat × Value))
  | [] => some []
  | (i, x) :: l => match ev ρ x with
    | some v => match evp ρ l with
      | some vs => some ((i, v) :: vs)
      | none => none
    | none => none
theorem evp_map {r : Operand → Value} (hr : ∀ x u, ev ρ x = some u → r x = u) : ∀ {l : List (Nat × Operand)} {vs : List (Nat × Value)}, evp ρ l = some vs → l.map (fun (i, x) => (i, r x)) = vs
  | [], vs, h => by simp [evp] at h; simp [h]
  | (i, x) :: l, vs, h => by
    simp only [evp] at h
    split at h
    · rename_i v hv
      split at h
      · rename_i us hu; injection h with h; subst h; simp [hr x v hv, evp_map hr hu]
      · cases h
    · cases h
theorem opv_build {t : TypeId} {parts : List (Nat × Operand)} {ps : List (Nat × Value)} {v : Value} (hp : evp ρ parts = some ps) (hb : ∀ w, (Instr.build t ps.toArray).run P w = .ok v w) : OpV P ρ (.build t parts.toArray) v :=
  fun r w d t' p af g hr => by
    have := evp_map hr hp
    simp only [execOp, List.map_toArray, this]
    simp [hb]
theorem opv_field {t : TypeId} {x : Operand} {fs : Array Field} {fd : Field} {fl : Nat} {cs : List Value} {u : Value} (ht : P.underlying t = some (.struct fs)) (hf : fs[fl]? = some fd) (ha : ∀ w, (isAgg fd.type).run P w = .ok false w) (hx : ev ρ x = some (.agg cs.toArray)) (hc : cs[fd.offset]? = some u) : OpV P ρ (.field t x fl) u :=
  fun r w d t' p af g hr => by
    have hc' : (cs.toArray)[fd.offset]? = some u := by simpa using hc
    simp only [execOp, hr x _ hx, Instr.field]
    simp [run_underlying ht, hf, asAgg, part, ha, hc]
theorem opv_makeFunc {fn : Fn} {first captured : List Operand} {vs us : List Value} (h1 : evs ρ first = some vs) (h2 : evs ρ captured = some us) : OpV P ρ (.makeFunc fn first.toArray captured.toArray) (.func fn vs.toArray us.toArray) :=
  fun r w d t' p af g hr => by
    simp [execOp, Instr.makeFunc, evs_map hr h1, evs_map hr h2]
end

section
variable {P : Program} {f : FuncId} {n : Nat} {Z : Act → World → Prop} {R : Ending → World → Prop} {w0 : World} {k : List Item} {ρ ρ' : Env} {H H' pre rest : List HProp} {ops : Array Oper} {l : List Oper}
variable {α : Type} {K : EK α} {v : Value} {xs : List α}

theorem Own.fresh {E : TypeId} {w : World} {cs : Array Value} {nn : Nat} {xs : List α} (hs : Sat w H) (hl : xs.length = nn) (hn : nn ≤ maxLen) (hsz : cs.size = nn * K.sz) (hc : K.flat xs = cs.toList) :
    Sat (w.alloc (.cells cs E)) (Own E K (.slice (some ⟨w.heap.size, 0, none⟩) nn nn) xs :: H) := by
  refine hs.alloc _ _ (.inr ⟨w.heap.size, nn, cs, by rw [hl], by simp, by omega, hn, hsz, ?_⟩)
  rw [hl, hc]
  exact List.take_of_length_le (by simp [hsz])
theorem SO.buildSlice {d t ty E nn : Nat} {parts : List (Nat × Operand)} {ps : List (Nat × Value)} {p : String} {af : Array Edge} {z : Value} {cs : List Value} (hd : Nat.blt d n = true) (ht : P.underlying t = some (.slice E)) (hs : ∀ w, (sizeOf E).run P w = .ok K.sz w) (hz : ∀ w, (zeroValue E).run P w = .ok z w)
    (hp : evp ρ parts = some ps) (hsmall : Nat.ble (nn * K.sz) 16777216 = true) (hpos : Nat.blt 0 nn = true) (hfill : Instr.fill (fun i => some (i * K.sz, K.sz)) ((Array.range (nn * K.sz)).map (z.cells[· % z.cells.size]!)) ps = some cs.toArray) (hcl : cs.length = nn * K.sz) (hcs : K.flat xs = cs) (hl : xs.length = nn)
    (h : ∀ v, Rd K v xs (Own E K v xs) → SO P n Z w0 ops l ((d, v) :: ρ) (Own E K v xs :: H)) : SO P n Z w0 ops (⟨some d, .buildSlice t nn parts.toArray, ty, p, af, none⟩ :: l) ρ H := by
  have hpos' : 0 < nn := by simpa using hpos
  have hsm : nn * K.sz ≤ 16777216 := by simpa using hsmall
  have hkp := K.pos
  have hne : nn * K.sz ≠ 0 := Nat.pos_iff_ne_zero.1 (Nat.mul_pos hpos' hkp)
  have hnn : nn ≤ 16777216 := Nat.le_trans (Nat.le_mul_of_pos_right nn hkp) hsm
  refine .raw hd fun r w hr hsat => ⟨.slice (some ⟨w.heap.size, 0, none⟩) nn nn, w.alloc (.cells cs.toArray E), ρ, _, ?_, Own.fresh (K := K) (xs := xs) (E := E) hsat hl (by simp only [maxLen]; omega) (by simpa using hcl) (by simpa using hcs), .alloc _ _, h _ ?_, fun _ h => h⟩
  · have hps := evp_map hr hp
    simp only [execOp, List.map_toArray, hps, Instr.buildSlice]
    have h24 : ¬ (nn * K.sz > 2 ^ 24) := by omega
    simp [run_underlying ht, hs, hz, hne, hfill, newRow, h24]
  · have hfr := Own.fresh (w := w) (K := K) (xs := xs) (E := E) (cs := cs.toArray) hsat hl (by simp only [maxLen]; omega) (by simpa using hcl) (by simpa using hcs)
    obtain ⟨m, _, hm⟩ := hfr.head
    exact hm.rd
theorem SO.buildSlice0 {d t ty E : Nat} (K : EK α) {p : String} {af : Array Edge} (hd : Nat.blt d n = true) (ht : P.underlying t = some (.slice E)) (hs : ∀ w, (sizeOf E).run P w = .ok K.sz w)
    (h : ∀ v, Rd K v [] (Own E K v []) → SO P n Z w0 ops l ((d, v) :: ρ) (Own E K v [] :: H)) : SO P n Z w0 ops (⟨some d, .buildSlice t 0 #[], ty, p, af, none⟩ :: l) ρ H := by
  have hfr : ∀ w, Sat w H → Sat (w.alloc (.cells #[] E)) (Own E K (.slice (some ⟨w.heap.size, 0, none⟩) 0 0) [] :: H) := fun w hsat => Own.fresh (K := K) (xs := []) (E := E) (cs := #[]) hsat rfl (by simp [maxLen]) (by simp) (by simp [EK.flat])
  refine .raw hd fun r w hr hsat => ⟨.slice (some ⟨w.heap.size, 0, none⟩) 0 0, w.alloc (.cells #[] E), ρ, _, ?_, hfr w hsat, .alloc _ _, h _ ?_, fun _ h => h⟩
  · simp [execOp, Instr.buildSlice, run_underlying ht, hs, Instr.fill, newRow]
    rw [show (Array.range 0) = (#[] : Array Nat) from by decide]
    simp
  · obtain ⟨m, _, hm⟩ := (hfr w hsat).head
    exact hm.rd
theorem flat_replicate (K : EK α) (x : α) : ∀ m, K.flat (List.replicate m x) = (List.replicate m (K.enc x)).flatten
  | 0 => rfl
  | m + 1 => by
    have ih := flat_replicate K x m
    simp only [List.replicate_succ, EK.flat, List.flatMap_cons, List.flatten_cons] at *
    rw [ih]
theorem made_flat (K : EK α) (x : α) (z : Value) (hz : z.cells = (K.enc x).toArray) (m : Nat) : (madeCells z.cells (m * K.sz)).toList = K.flat (List.replicate m x) := by
  apply List.ext_getElem?
  intro q
  rcases Nat.lt_or_ge q (m * K.sz) with h | h
  · have hdm : q = (q / K.sz) * K.sz + q % K.sz := by rw [Nat.mul_comm]; exact (Nat.div_add_mod q K.sz).symm
    have hmod : q % K.sz < K.sz := Nat.mod_lt _ K.pos
    have hdl : q / K.sz < m := Nat.div_lt_of_lt_mul (by rw [Nat.mul_comm]; exact h)
    have : (K.flat (List.replicate m x))[q]? = (K.enc x)[q % K.sz]? := by
      conv => lhs; rw [hdm]
      exact EK.flat_get K _ _ x _ (by simp [hdl]) hmod
    rw [this]
    have hs : z.cells.size = K.sz := by rw [hz]; simp [K.len]
    have hlt : q % K.sz < (K.enc x).length := by rw [K.len]; exact hmod
    simp only [madeCells, Array.getElem?_toList, Array.getElem?_map, hs]
    rw [Array.getElem?_eq_getElem (by simpa using h)]
    simp [hz, hlt]
  · rw [List.getElem?_eq_none (by simpa [size_madeCells] using h), List.getElem?_eq_none (by rw [EK.length_flat]; simpa using h)]
theorem SO.makeSlice {d t ty e : Nat} {x y : Operand} {p : String} {af : Array Edge} {i : TypeInfo} {z : Value} {bytes : Nat} {zx : α} {nn : Int} {kl kc : IntKind} (hd : Nat.blt d n = true) (ht : P.underlying t = some (.slice e)) (hi : P.info? e = some i) (hz : i.zero = some z) (hsize : i.size = K.sz) (hby : i.bytes = bytes) (hbl : bytes ≤ 4096) (hzx : z.cells = (K.enc zx).toArray)
    (hx : ev ρ x = some (.int kl nn)) (hy : ev ρ y = some (.int kc nn)) (ha : mk_ zx nn = some xs)
    (h : ∀ v, Rd K v xs (Own e K v xs) → SO P n Z w0 ops l ((d, v) :: ρ) (Own e K v xs :: H)) : SO P n Z w0 ops (⟨some d, .makeSlice t x y, ty, p, af, none⟩ :: l) ρ H := by
  obtain ⟨h0, h1, rfl⟩ := mk_spec ha
  have hfr : ∀ w, Sat w H → Sat (w.alloc (.cells (madeCells z.cells (nn.toNat * i.size)) e)) (Own e K (.slice (some ⟨w.heap.size, 0, none⟩) nn.toNat nn.toNat) (List.replicate nn.toNat zx) :: H) := fun w hsat => Own.fresh (K := K) (E := e) hsat (by simp) (by simp only [maxLen]; omega) (by rw [size_madeCells, hsize]) (by rw [hsize, made_flat K zx z hzx])
  refine .raw hd fun r w hr hsat => ⟨_, _, ρ, _, ?_, hfr w hsat, .alloc _ _, h _ ?_, fun _ h => h⟩
  · have hb' : (i.bytes : Int) * nn ≤ 281474976710656 := by
      have e1 : ((i.bytes : Int)) ≤ 4096 := by rw [hby]; omega
      have : (i.bytes : Int) * nn ≤ 4096 * 4294967296 := Int.le_trans (Int.mul_le_mul_of_nonneg_right e1 h0) (Int.mul_le_mul_of_nonneg_left h1 (by decide))
      omega
    have := run_make (P := P) w t e i z ht hi hz kl kc nn nn h0 (Int.le_refl _) hb' (by omega)
    simp [execOp, hr x _ hx, hr y _ hy, this]
  · obtain ⟨m, _, hm⟩ := (hfr w hsat).head
    exact hm.rd

/-! ### Results that lie in cells -/
theorem load_box {w : World} {b o sz : Nat} {t : TypeId} {vs cs : List Value} (hs : Sat w (Box b cs :: rest)) (ha : ∀ w, (isAgg t).run P w = .ok true w) (hz : ∀ w, (sizeOf t).run P w = .ok sz w) (hv : (cs.drop o).take sz = vs) (hl : vs.length = sz) : (loadVar t ⟨b, o, none⟩).run P w = .ok (.agg vs.toArray) w := by
  obtain ⟨m, hm, hb⟩ := hs.head
  obtain ⟨E, hb⟩ := hb.blk hm
  have hc : ∀ j, j < sz → w.cell? ⟨b, o + j, none⟩ = vs[j]? := fun j hj => by
    rw [cell_of_blk hb, ← hv, List.getElem?_take_of_lt hj, List.getElem?_drop]; simp
  simp [loadVar, ha, hz, loadCells_run hl hc]
theorem S.retC {fn : Func} {t : TypeId} {s b sz : Nat} {cs vs : List Value} (hf : P.funcs[f]? = some fn) (hr : fn.results = #[.cell s t]) (hs : look ρ s = some (bp b 0)) (ha : ∀ w, (isAgg t).run P w = .ok true w) (hz : ∀ w, (sizeOf t).run P w = .ok sz w) (hv : cs.take sz = vs) (hl : vs.length = sz)
    (hR : ∀ w, Sat w (Box b cs :: rest) → Keep w0 w → R (.returned (.agg vs.toArray)) w) : S P f n R w0 (.code .ret :: k) ρ (Box b cs :: rest) := by
  intro a w h1 h2 h3 h4 h5
  refine .ret hf h3 ?_ (hR w h4 h5)
  have := load_box (P := P) (o := 0) h4 ha hz (by simpa using hv) hl
  simp [results, hr, h2 s _ hs, bp, asAddr, this]
theorem S.retC1 {fn : Func} {t : TypeId} {s u b sz : Nat} {cs vs : List Value} {x : Value} (hf : P.funcs[f]? = some fn) (hr : fn.results = #[.cell s t, .tmp u]) (hs : look ρ s = some (bp b 0)) (hx : look ρ u = some x) (ha : ∀ w, (isAgg t).run P w = .ok true w) (hz : ∀ w, (sizeOf t).run P w = .ok sz w) (hv : cs.take sz = vs) (hl : vs.length = sz)
    (hR : ∀ w, Sat w (Box b cs :: rest) → Keep w0 w → R (.returned (.tuple #[.agg vs.toArray, x])) w) : S P f n R w0 (.code .ret :: k) ρ (Box b cs :: rest) := by
  intro a w h1 h2 h3 h4 h5
  refine .ret hf h3 ?_ (hR w h4 h5)
  have := load_box (P := P) (o := 0) h4 ha hz (by simpa using hv) hl
  simp [results, hr, h2 s _ hs, h2 u _ hx, bp, asAddr, this]
theorem S.retC2 {fn : Func} {t : TypeId} {s u q b sz : Nat} {cs vs : List Value} {x y : Value} (hf : P.funcs[f]? = some fn) (hr : fn.results = #[.cell s t, .tmp u, .tmp q]) (hs : look ρ s = some (bp b 0)) (hx : look ρ u = some x) (hy : look ρ q = some y) (ha : ∀ w, (isAgg t).run P w = .ok true w) (hz : ∀ w, (sizeOf t).run P w = .ok sz w) (hv : cs.take sz = vs) (hl : vs.length = sz)
    (hR : ∀ w, Sat w (Box b cs :: rest) → Keep w0 w → R (.returned (.tuple #[.agg vs.toArray, x, y])) w) : S P f n R w0 (.code .ret :: k) ρ (Box b cs :: rest) := by
  intro a w h1 h2 h3 h4 h5
  refine .ret hf h3 ?_ (hR w h4 h5)
  have := load_box (P := P) (o := 0) h4 ha hz (by simpa using hv) hl
  simp [results, hr, h2 s _ hs, h2 u _ hx, h2 q _ hy, bp, asAddr, this]
end
end Go.Sl
