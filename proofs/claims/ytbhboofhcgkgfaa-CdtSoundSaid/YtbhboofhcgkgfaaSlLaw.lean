/- The resource logic, part SlLaw. On no condition. -/
import Derived.Test.YtbhboofhcgkgfaaSlDraw
import Derived.Carry
import Derived.ProofKit
import Derived.OpenShut
import Derived.JoinedOf
set_option linter.all false
/-! From a contract to a row that says 'true, whatever the input'. -/
namespace Go.Sl
open Go.RowKit Go.ChangeShapes Go.WideShapes Go.ChangeAt

/-- All that lies in a world. -/
def Whole (W : World) : HProp := fun m => ∀ b o, W.heap[b]? = some o → m b = some o
theorem Sat.whole (W : World) : Sat W [Whole W] := ⟨hp W, fun _ => none, fun _ => .inr rfl, .refl _, fun _ _ e => by simp at e, fun _ _ h => h, trivial⟩
theorem Ct.law {P : Program} {g : FuncId} {vals : List Value} {rd : HProp → Prop} {v : Value} (h : Ct P g vals rd [] (fun u H' => u = v ∧ H' = [])) {W : World} (hr : rd (Whole W)) :
    Calls P g vals.toArray W (fun e w' => e = .returned v ∧ Below W.heap.size W w') := by
  refine (h W _ hr (Sat.whole W)).mono ?_
  rintro e w' ⟨u, H', rfl, ⟨rfl, rfl⟩, hs, hk⟩
  refine ⟨rfl, hk.os, hk.tape, hk.output, hk.size, fun k hk' => ?_⟩
  obtain ⟨m, hm, ha⟩ := Sat.head hs
  rw [Array.getElem?_eq_getElem hk']
  exact hm _ _ (ha k _ (Array.getElem?_eq_getElem hk'))

section
variable {H : Type} {enc : TypeId × Value → H} {P : Program}
theorem carryAll (hl : laidOutB P = true) {W W' : World} (hb : Below W.heap.size W W') {sp : Nat → Bool} : ∀ {ts : List TypeId} {vs : List Value} {ds : List (DataW H)} {ps : List MemPlace}, (∀ t ∈ ts, P.readableRec t = true ∧ t < P.types.size) →
    DataW.TrodAll enc P W 0 (fun _ => true) true ts vs ds ps → (∀ x ∈ ps, x.block < W.heap.size) → (∀ x ∈ ps, sp x.block = true) → DataW.TrodAll enc P W' 0 sp true ts vs ds ps
  | [], [], [], _, _, h, _, _ => h
  | _ :: _, _ :: _, _ :: _, _, hT, ⟨p, q, h1, h2, e⟩, hlt, hs =>
    ⟨p, q, WideElems.Trod_stays hl (hT _ (List.mem_cons.2 (Or.inl rfl))).1 (hT _ (List.mem_cons.2 (Or.inl rfl))).2 h1 (fun x hx => hb.same (hlt x (by rw [e]; exact List.mem_append_left _ hx))) (fun x hx => hs x (by rw [e]; exact List.mem_append_left _ hx)),
      carryAll hl hb (fun t ht => hT t (List.mem_cons.2 (Or.inr ht))) h2 (fun x hx => hlt x (by rw [e]; exact List.mem_append_right _ hx)) (fun x hx => hs x (by rw [e]; exact List.mem_append_right _ hx)), e⟩

theorem law_post {f : Func} {s : ChangeSpec} {apart : Bool} {W W' : World} {args : Array Value} {ds : List (DataW H)} {before : List MemPlace} {t : TypeId}
    (hW : DataW.Whole enc P f.params.toList s.vars apart W args.toList ds [] before) (hl : laidOutB P = true) (hts : (f.params.toList.all fun t => P.readableRec t && decide (t < P.types.size)) = true)
    (hb : Below W.heap.size W W') (hr : f.resultTypes = #[t]) (ht : P.underlying t = some .bool) (hv : s.vars = [])
    (hfn : s.fn H (ds ++ []) = { results := [.lit (.bool true)], args := ds }) : s.post enc P f apart true false false W args (.bool true) W' := by
  have hlt : ∀ p ∈ before, p.block < W.heap.size := fun p hp => by simpa using hW.lt p hp
  have hold : ∀ p ∈ before, (fun b => decide (b < W.heap.size)) p.block = true := fun p hp => by simpa using hW.lt p hp
  have hW2 := hW
  obtain ⟨p, q, hA, hV, rfl, hz, hn⟩ := hW
  rw [hv] at hV
  obtain ⟨-, rfl⟩ := trodVars_none hV
  simp only [List.append_nil] at hlt hold hz hn hW2
  have hT : ∀ t ∈ f.params.toList, P.readableRec t = true ∧ t < P.types.size := fun t ht => by
    have := List.all_eq_true.1 hts t ht
    simpa using this
  have ha : ∀ sp : Nat → Bool, (∀ x ∈ p, sp x.block = true) → DataW.TrodAll enc P W' 0 sp true f.params.toList args.toList (s.fn H (ds ++ [])).args p := fun sp hs => by
    rw [hfn]; exact carryAll hl hb hT hA hlt hs
  have hvv : ∀ sp : Nat → Bool, DataW.TrodVars enc P W' sp s.vars (s.fn H (ds ++ [])).vars [] := fun sp => by rw [hfn, hv]; rfl
  have hres : ∀ (b : Nat) (sp : Nat → Bool) (hd : Bool), DataW.TrodAll enc P W' b sp hd f.resultTypes.toList ((Value.bool true).resultList f.resultTypes.size) (s.fn H (ds ++ [])).results [] := fun b sp hd => by
    rw [hfn, hr]; exact trodAll_mk1 (shut_bool ht true)
  refine ⟨ds, [], p, [], p, [], hW2, hres _ _ _, ha _ hold, hvv _, hb.frame _, fun _ => ?_⟩
  refine ⟨ok_one hr rfl (okWide_bool_mk ht true), _, _, ([] ++ p) ++ [], ⟨[] ++ p, [], trodAll_append (ha _ (fun _ _ => rfl)) (hres _ _ _), hvv _, rfl, ?_, ?_⟩, ?_⟩
  · intro b off hp
    have hp' : MemPlace.cell b off ∈ p := by simpa using hp
    rw [hb.frozen (p := ⟨b, off, none⟩) (hlt _ hp')]
    exact hz b off hp'
  · intro h
    simpa using hn h
  · intro x hx _
    simpa using hx
end

/-! ### Arguments, opened -/
/-- What reads as data at this type has these cells. -/
def Parse {α : Type} (P : Program) (t : TypeId) (en : α → List Value) (wf : α → Prop) : Prop :=
  ∀ {H : Type} (enc : TypeId × Value → H) (w : World) (base : Nat) (sp : Nat → Bool) (hd : Bool) (n : Nat) (cs : List Value) (x : DataW H × List MemPlace), DataW.trod enc P w base sp hd n t cs = some x → ∃ a, cs = en a ∧ wf a
def fits (k : IntKind) (n : Int) : Prop := (Lit.int k n).wf = true
theorem parse_int {P : Program} {t : TypeId} {k : IntKind} (ht : P.underlying t = some (.int k)) : Parse P t (fun x => [Value.int k x]) (fits k) := by
  intro H enc w base sp hd n cs x h
  obtain ⟨a, h1, -, h2⟩ := DataW.trod_int ht h
  exact ⟨a, h1, h2⟩
theorem parse_bool {P : Program} {t : TypeId} (ht : P.underlying t = some .bool) : Parse P t (fun x => [Value.bool x]) (fun _ => True) := by
  intro H enc w base sp hd n cs x h
  obtain ⟨a, h1, -⟩ := DataW.trod_bool ht h
  exact ⟨a, h1, trivial⟩
/-- A field of a struct. -/
theorem parse_field {α H : Type} {P : Program} {enc : TypeId × Value → H} {w : World} {base : Nat} {sp : Nat → Bool} {hd : Bool} {n i o sz : Nat} {cs : List Value} {fs : Array Field} {fd : Field} {xs : List (DataW H × List MemPlace)} {en : α → List Value} {wf : α → Prop}
    (hx : xs.length = fs.size) (hall : ∀ (i : Nat) (f : Field), fs[i]? = some f → DataW.trod enc P w base sp hd n f.type ((cs.drop f.offset).take (P.cellsOf f.type)) = xs[i]?)
    {tt : TypeId} (hp : Parse P tt en wf) (hi : fs[i]? = some fd) (ht : fd.type = tt) (ho : fd.offset = o) (hc : P.cellsOf tt = sz) : ∃ a, (cs.drop o).take sz = en a ∧ wf a := by
  subst ht ho hc
  have h := hall i fd hi
  have hlt : i < fs.size := (Array.getElem?_eq_some_iff.1 hi).1
  rw [List.getElem?_eq_getElem (by omega : i < xs.length)] at h
  exact hp _ _ _ _ _ _ _ _ h

section
variable {H : Type} {enc : TypeId × Value → H} {P : Program} {W : World} {b0 : Nat} {sp : Nat → Bool} {hd : Bool} {r : Reach} {t e : TypeId} {v : Value} {d : DataW H} {ps : List MemPlace}
theorem open_st {α : Type} {en : α → List Value} {wf : α → Prop} {fs : Array Field} (hp : Parse P t en wf) (ht : P.underlying t = some (.struct fs)) (hval : Value.okWide P W r b0 t v) (h : DataW.Trod enc P W 0 sp hd t v d ps) : ∃ a, v = .agg (en a).toArray ∧ wf a := by
  obtain ⟨cs, rfl, -⟩ := okWide_struct ht hval
  obtain ⟨n, h⟩ := h
  obtain ⟨a, h1, h2⟩ := hp _ _ _ _ _ _ _ _ h
  refine ⟨a, ?_, h2⟩
  rw [← h1]; simp [Value.cells]
theorem cell_whole {a : Addr} {u : Value} (h : W.cell? a = some u) : a.spot = none ∧ ∃ all E fr, W.heap[a.block]? = some (.cells all E fr) ∧ all[a.off]? = some u := by
  unfold World.cell? at h
  split at h
  · rename_i c E fr hc
    split at h
    · cases h
    · rename_i hs
      exact ⟨by simpa using hs, c, E, fr, hc, h⟩
  · cases h
theorem open_slW {α : Type} {K : EK α} {wf : α → Prop} {n : Nat} {x : DataW H × List MemPlace} (hp : ∀ n cs x, DataW.trod enc P W 0 sp hd n e cs = some x → ∃ a, cs = K.enc a ∧ wf a) (ht : P.underlying t = some (.slice e)) (hc : P.cellsOf e = K.sz) (h : DataW.trod enc P W 0 sp hd n t [v] = some x) :
    ∃ xs : List α, Rd K v xs (Whole W) ∧ (∀ x ∈ xs, wf x) ∧ xs.length ≤ maxLen := by
  rcases DataW.trod_slice ht h with ⟨h0, -⟩ | ⟨a, len, cap, elems, rest, m, -, h0, -, -, hl, hm, hlen, hel, -, -⟩
  · injection h0 with h0; subst h0
    exact ⟨[], ⟨none, 0, ⟨rfl, Nat.le_refl _⟩, fun i x hx => by simp at hx⟩, fun x hx => by simp at hx, by simp⟩
  · injection h0 with h0; subst h0
    have each : ∀ i, i < len → ∃ z, W.cells? 0 (a.add (i * P.cellsOf e)) (P.cellsOf e) = some (K.enc z) ∧ wf z := by
      intro i hi
      have h1 := hel i hi
      rw [List.getElem?_eq_getElem (by omega : i < elems.length)] at h1
      simp only [Option.bind_eq_some_iff] at h1
      obtain ⟨cs, h1, h2⟩ := h1
      obtain ⟨z, rfl, hz⟩ := hp _ _ _ h2
      exact ⟨z, h1, hz⟩
    let F : Fin len → α := fun i => Classical.choose (each i i.2)
    have hF : ∀ (i : Nat) (hi : i < len), W.cells? 0 (a.add (i * P.cellsOf e)) (P.cellsOf e) = some (K.enc (F ⟨i, hi⟩)) ∧ wf (F ⟨i, hi⟩) := fun i hi => Classical.choose_spec (each i hi)
    refine ⟨List.ofFn F, ⟨some a, cap, ⟨by simp, by simp; omega⟩, fun i x hx => ?_⟩, fun x hx => ?_, by simp; omega⟩
    · rw [List.getElem?_eq_some_iff] at hx
      obtain ⟨hi, hx⟩ := hx
      simp only [List.length_ofFn] at hi
      simp only [List.getElem_ofFn] at hx
      obtain ⟨hcs, -⟩ := hF i hi
      rw [hx] at hcs
      obtain ⟨-, hlen', hcell⟩ := World.cells?_some hcs
      have key : ∀ j, j < K.sz → ∃ u, (K.enc x)[j]? = some u ∧ W.cell? ((a.add (i * P.cellsOf e)).add j) = some u := fun j hj => by
        have := hcell j (by omega)
        have hj2 : j < (K.enc x).length := by rw [K.len]; exact hj
        rw [List.getElem?_eq_getElem hj2] at this
        exact ⟨_, List.getElem?_eq_getElem hj2, this⟩
      have hspot : a.spot = none := by
        obtain ⟨hcs0, -⟩ := hF 0 (by omega)
        obtain ⟨-, -, hcell0⟩ := World.cells?_some hcs0
        have h0 := hcell0 0 (by rw [hc]; exact K.pos)
        have hj2 : 0 < (K.enc (F ⟨0, by omega⟩)).length := by rw [K.len]; exact K.pos
        rw [List.getElem?_eq_getElem hj2] at h0
        have := (cell_whole h0).1
        simpa [Addr.add] using this
      obtain ⟨blk, off, spot⟩ := a
      simp only at hspot
      subst hspot
      obtain ⟨u0, -, hu0⟩ := key 0 K.pos
      rw [add_plain, add_plain] at hu0
      obtain ⟨-, all, E, fr, hall, -⟩ := cell_whole hu0
      refine ⟨blk, off, rfl, fun mm hmm => ⟨all, E, fr, hmm _ _ hall, fun j hj => ?_⟩⟩
      obtain ⟨u, hu1, hu2⟩ := key j hj
      rw [add_plain, add_plain] at hu2
      obtain ⟨-, all2, E2, fr2, hall2, hu3⟩ := cell_whole hu2
      have : all2 = all := by
        have e1 : W.heap[blk]? = some (.cells all2 E2 fr2) := hall2
        have e2 : W.heap[blk]? = some (.cells all E fr) := hall
        rw [e1] at e2; injection e2 with e2; injection e2
      subst this
      rw [hu1, ← hu3, hc]
      simp [Nat.add_assoc]
    · obtain ⟨i, rfl⟩ := List.mem_ofFn.1 hx
      exact (hF i.1 i.2).2
theorem open_sl {α : Type} {K : EK α} {wf : α → Prop} (hp : Parse P e K.enc wf) (ht : P.underlying t = some (.slice e)) (hc : P.cellsOf e = K.sz) (hval : Value.okWide P W r b0 t v) (h : DataW.Trod enc P W 0 sp hd t v d ps) :
    ∃ xs : List α, Rd K v xs (Whole W) ∧ (∀ x ∈ xs, wf x) ∧ xs.length ≤ maxLen := by
  obtain ⟨n, h⟩ := h
  have hv1 : v.cells.toList = [v] := by
    cases v <;> first | rfl | (simp [Value.okWide, ht, Cell.okWide, Cell.ok] at hval)
  rw [hv1] at h
  exact open_slW (fun _ _ _ h => hp _ _ _ _ _ _ _ _ h) ht hc h
end
end Go.Sl
