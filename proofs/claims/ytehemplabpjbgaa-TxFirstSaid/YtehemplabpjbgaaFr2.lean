/- The resource logic, parts SlLaw, SlNum, SlBits, P06MapL. On no condition. -/
import Derived.Test.YtehemplabpjbgaaFr1
import Derived.Carry
import Derived.ProofKit
import Derived.OpenShut
import Derived.JoinedOf
set_option linter.all false
/-! From a contract to a row that says 'true, whatever the input'. -/
namespace Go.Sl
open Go.RowKit Go.ChangeShapes Go.WideShapes Go.ChangeAt

/-- All that lies in a world. -/
def Whole (W : World) : HProp := fun m => ∀ b o, W.heap[b]? = some o → m b = some o
theorem Sat.whole (W : World) : Sat W [Whole W] := ⟨hp W, fun _ => none, fun _ => .inr rfl, .refl _, fun _ _ e => by simp at e, fun _ _ h => h, trivial⟩
theorem Ct.law {P : Program} {g : FuncId} {vals : List Value} {rd : HProp → Prop} {v : Value} (h : Ct P g vals rd [] (fun u H' => u = v ∧ H' = [])) {W : World} (hr : rd (Whole W)) :
    Calls P g vals.toArray W (fun e w' => e = .returned v ∧ Below W.heap.size W w') := by
  refine (h W _ hr (Sat.whole W)).mono ?_
  rintro e w' ⟨u, H', rfl, ⟨rfl, rfl⟩, hs, hk⟩
  refine ⟨rfl, hk.os, hk.tape, hk.output, hk.size, fun k hk' => ?_⟩
  obtain ⟨m, hm, ha⟩ := Sat.head hs
  rw [Array.getElem?_eq_getElem hk']
  exact hm _ _ (ha k _ (Array.getElem?_eq_getElem hk'))

section
variable {H : Type} {enc : TypeId × Value → H} {P : Program}
theorem carryAll (hl : laidOutB P = true) {W W' : World} (hb : Below W.heap.size W W') {sp : Nat → Bool} : ∀ {ts : List TypeId} {vs : List Value} {ds : List (DataW H)} {ps : List MemPlace}, (∀ t ∈ ts, P.readableRec t = true ∧ t < P.types.size) →
    DataW.TrodAll enc P W 0 (fun _ => true) true ts vs ds ps → (∀ x ∈ ps, x.block < W.heap.size) → (∀ x ∈ ps, sp x.block = true) → DataW.TrodAll enc P W' 0 sp true ts vs ds ps
  | [], [], [], _, _, h, _, _ => h
  | _ :: _, _ :: _, _ :: _, _, hT, ⟨p, q, h1, h2, e⟩, hlt, hs =>
    ⟨p, q, WideElems.Trod_stays hl (hT _ (List.mem_cons.2 (Or.inl rfl))).1 (hT _ (List.mem_cons.2 (Or.inl rfl))).2 h1 (fun x hx => hb.same (hlt x (by rw [e]; exact List.mem_append_left _ hx))) (fun x hx => hs x (by rw [e]; exact List.mem_append_left _ hx)),
      carryAll hl hb (fun t ht => hT t (List.mem_cons.2 (Or.inr ht))) h2 (fun x hx => hlt x (by rw [e]; exact List.mem_append_right _ hx)) (fun x hx => hs x (by rw [e]; exact List.mem_append_right _ hx)), e⟩

theorem law_post {f : Func} {s : ChangeSpec} {apart : Bool} {W W' : World} {args : Array Value} {ds : List (DataW H)} {before : List MemPlace} {t : TypeId}
    (hW : DataW.Whole enc P f.params.toList s.vars apart W args.toList ds [] before) (hl : laidOutB P = true) (hts : (f.params.toList.all fun t => P.readableRec t && decide (t < P.types.size)) = true)
    (hb : Below W.heap.size W W') (hr : f.resultTypes = #[t]) (ht : P.underlying t = some .bool) (hv : s.vars = [])
    (hfn : s.fn H (ds ++ []) = { results := [.lit (.bool true)], args := ds }) : s.post enc P f apart true false false W args (.bool true) W' := by
  have hlt : ∀ p ∈ before, p.block < W.heap.size := fun p hp => by simpa using hW.lt p hp
  have hold : ∀ p ∈ before, (fun b => decide (b < W.heap.size)) p.block = true := fun p hp => by simpa using hW.lt p hp
  have hW2 := hW
  obtain ⟨p, q, hA, hV, rfl, hz, hn⟩ := hW
  rw [hv] at hV
  obtain ⟨-, rfl⟩ := trodVars_none hV
  simp only [List.append_nil] at hlt hold hz hn hW2
  have hT : ∀ t ∈ f.params.toList, P.readableRec t = true ∧ t < P.types.size := fun t ht => by
    have := List.all_eq_true.1 hts t ht
    simpa using this
  have ha : ∀ sp : Nat → Bool, (∀ x ∈ p, sp x.block = true) → DataW.TrodAll enc P W' 0 sp true f.params.toList args.toList (s.fn H (ds ++ [])).args p := fun sp hs => by
    rw [hfn]; exact carryAll hl hb hT hA hlt hs
  have hvv : ∀ sp : Nat → Bool, DataW.TrodVars enc P W' sp s.vars (s.fn H (ds ++ [])).vars [] := fun sp => by rw [hfn, hv]; rfl
  have hres : ∀ (b : Nat) (sp : Nat → Bool) (hd : Bool), DataW.TrodAll enc P W' b sp hd f.resultTypes.toList ((Value.bool true).resultList f.resultTypes.size) (s.fn H (ds ++ [])).results [] := fun b sp hd => by
    rw [hfn, hr]; exact trodAll_mk1 (shut_bool ht true)
  refine ⟨ds, [], p, [], p, [], hW2, hres _ _ _, ha _ hold, hvv _, hb.frame _, fun _ => ?_⟩
  refine ⟨ok_one hr rfl (okWide_bool_mk ht true), _, _, ([] ++ p) ++ [], ⟨[] ++ p, [], trodAll_append (ha _ (fun _ _ => rfl)) (hres _ _ _), hvv _, rfl, ?_, ?_⟩, ?_⟩
  · intro b off hp
    have hp' : MemPlace.cell b off ∈ p := by simpa using hp
    rw [hb.frozen (p := ⟨b, off, none⟩) (hlt _ hp')]
    exact hz b off hp'
  · intro h
    simpa using hn h
  · intro x hx _
    simpa using hx
end

/-! ### Arguments, opened -/
/-- What reads as data at this type has these cells. -/
def Parse {α : Type} (P : Program) (t : TypeId) (en : α → List Value) (wf : α → Prop) : Prop :=
  ∀ {H : Type} (enc : TypeId × Value → H) (w : World) (base : Nat) (sp : Nat → Bool) (hd : Bool) (n : Nat) (cs : List Value) (x : DataW H × List MemPlace), DataW.trod enc P w base sp hd n t cs = some x → ∃ a, cs = en a ∧ wf a
def fits (k : IntKind) (n : Int) : Prop := (Lit.int k n).wf = true
theorem parse_int {P : Program} {t : TypeId} {k : IntKind} (ht : P.underlying t = some (.int k)) : Parse P t (fun x => [Value.int k x]) (fits k) := by
  intro H enc w base sp hd n cs x h
  obtain ⟨a, h1, -, h2⟩ := DataW.trod_int ht h
  exact ⟨a, h1, h2⟩
theorem parse_bool {P : Program} {t : TypeId} (ht : P.underlying t = some .bool) : Parse P t (fun x => [Value.bool x]) (fun _ => True) := by
  intro H enc w base sp hd n cs x h
  obtain ⟨a, h1, -⟩ := DataW.trod_bool ht h
  exact ⟨a, h1, trivial⟩
/-- A field of a struct. -/
theorem parse_field {α H : Type} {P : Program} {enc : TypeId × Value → H} {w : World} {base : Nat} {sp : Nat → Bool} {hd : Bool} {n i o sz : Nat} {cs : List Value} {fs : Array Field} {fd : Field} {xs : List (DataW H × List MemPlace)} {en : α → List Value} {wf : α → Prop}
    (hx : xs.length = fs.size) (hall : ∀ (i : Nat) (f : Field), fs[i]? = some f → DataW.trod enc P w base sp hd n f.type ((cs.drop f.offset).take (P.cellsOf f.type)) = xs[i]?)
    {tt : TypeId} (hp : Parse P tt en wf) (hi : fs[i]? = some fd) (ht : fd.type = tt) (ho : fd.offset = o) (hc : P.cellsOf tt = sz) : ∃ a, (cs.drop o).take sz = en a ∧ wf a := by
  subst ht ho hc
  have h := hall i fd hi
  have hlt : i < fs.size := (Array.getElem?_eq_some_iff.1 hi).1
  rw [List.getElem?_eq_getElem (by omega : i < xs.length)] at h
  exact hp _ _ _ _ _ _ _ _ h

section
variable {H : Type} {enc : TypeId × Value → H} {P : Program} {W : World} {b0 : Nat} {sp : Nat → Bool} {hd : Bool} {r : Reach} {t e : TypeId} {v : Value} {d : DataW H} {ps : List MemPlace}
theorem open_st {α : Type} {en : α → List Value} {wf : α → Prop} {fs : Array Field} (hp : Parse P t en wf) (ht : P.underlying t = some (.struct fs)) (hval : Value.okWide P W r b0 t v) (h : DataW.Trod enc P W 0 sp hd t v d ps) : ∃ a, v = .agg (en a).toArray ∧ wf a := by
  obtain ⟨cs, rfl, -⟩ := okWide_struct ht hval
  obtain ⟨n, h⟩ := h
  obtain ⟨a, h1, h2⟩ := hp _ _ _ _ _ _ _ _ h
  refine ⟨a, ?_, h2⟩
  rw [← h1]; simp [Value.cells]
theorem cell_whole {a : Addr} {u : Value} (h : W.cell? a = some u) : a.spot = none ∧ ∃ all E fr, W.heap[a.block]? = some (.cells all E fr) ∧ all[a.off]? = some u := by
  unfold World.cell? at h
  split at h
  · rename_i c E fr hc
    split at h
    · cases h
    · rename_i hs
      exact ⟨by simpa using hs, c, E, fr, hc, h⟩
  · cases h
theorem open_slW {α : Type} {K : EK α} {wf : α → Prop} {n : Nat} {x : DataW H × List MemPlace} (hp : ∀ n cs x, DataW.trod enc P W 0 sp hd n e cs = some x → ∃ a, cs = K.enc a ∧ wf a) (ht : P.underlying t = some (.slice e)) (hc : P.cellsOf e = K.sz) (h : DataW.trod enc P W 0 sp hd n t [v] = some x) :
    ∃ xs : List α, Rd K v xs (Whole W) ∧ (∀ x ∈ xs, wf x) ∧ xs.length ≤ maxLen := by
  rcases DataW.trod_slice ht h with ⟨h0, -⟩ | ⟨a, len, cap, elems, rest, m, -, h0, -, -, hl, hm, hlen, hel, -, -⟩
  · injection h0 with h0; subst h0
    exact ⟨[], ⟨none, 0, ⟨rfl, Nat.le_refl _⟩, fun i x hx => by simp at hx⟩, fun x hx => by simp at hx, by simp⟩
  · injection h0 with h0; subst h0
    have each : ∀ i, i < len → ∃ z, W.cells? 0 (a.add (i * P.cellsOf e)) (P.cellsOf e) = some (K.enc z) ∧ wf z := by
      intro i hi
      have h1 := hel i hi
      rw [List.getElem?_eq_getElem (by omega : i < elems.length)] at h1
      simp only [Option.bind_eq_some_iff] at h1
      obtain ⟨cs, h1, h2⟩ := h1
      obtain ⟨z, rfl, hz⟩ := hp _ _ _ h2
      exact ⟨z, h1, hz⟩
    let F : Fin len → α := fun i => Classical.choose (each i i.2)
    have hF : ∀ (i : Nat) (hi : i < len), W.cells? 0 (a.add (i * P.cellsOf e)) (P.cellsOf e) = some (K.enc (F ⟨i, hi⟩)) ∧ wf (F ⟨i, hi⟩) := fun i hi => Classical.choose_spec (each i hi)
    refine ⟨List.ofFn F, ⟨some a, cap, ⟨by simp, by simp; omega⟩, fun i x hx => ?_⟩, fun x hx => ?_, by simp; omega⟩
    · rw [List.getElem?_eq_some_iff] at hx
      obtain ⟨hi, hx⟩ := hx
      simp only [List.length_ofFn] at hi
      simp only [List.getElem_ofFn] at hx
      obtain ⟨hcs, -⟩ := hF i hi
      rw [hx] at hcs
      obtain ⟨-, hlen', hcell⟩ := World.cells?_some hcs
      have key : ∀ j, j < K.sz → ∃ u, (K.enc x)[j]? = some u ∧ W.cell? ((a.add (i * P.cellsOf e)).add j) = some u := fun j hj => by
        have := hcell j (by omega)
        have hj2 : j < (K.enc x).length := by rw [K.len]; exact hj
        rw [List.getElem?_eq_getElem hj2] at this
        exact ⟨_, List.getElem?_eq_getElem hj2, this⟩
      have hspot : a.spot = none := by
        obtain ⟨hcs0, -⟩ := hF 0 (by omega)
        obtain ⟨-, -, hcell0⟩ := World.cells?_some hcs0
        have h0 := hcell0 0 (by rw [hc]; exact K.pos)
        have hj2 : 0 < (K.enc (F ⟨0, by omega⟩)).length := by rw [K.len]; exact K.pos
        rw [List.getElem?_eq_getElem hj2] at h0
        have := (cell_whole h0).1
        simpa [Addr.add] using this
      obtain ⟨blk, off, spot⟩ := a
      simp only at hspot
      subst hspot
      obtain ⟨u0, -, hu0⟩ := key 0 K.pos
      rw [add_plain, add_plain] at hu0
      obtain ⟨-, all, E, fr, hall, -⟩ := cell_whole hu0
      refine ⟨blk, off, rfl, fun mm hmm => ⟨all, E, fr, hmm _ _ hall, fun j hj => ?_⟩⟩
      obtain ⟨u, hu1, hu2⟩ := key j hj
      rw [add_plain, add_plain] at hu2
      obtain ⟨-, all2, E2, fr2, hall2, hu3⟩ := cell_whole hu2
      have : all2 = all := by
        have e1 : W.heap[blk]? = some (.cells all2 E2 fr2) := hall2
        have e2 : W.heap[blk]? = some (.cells all E fr) := hall
        rw [e1] at e2; injection e2 with e2; injection e2
      subst this
      rw [hu1, ← hu3, hc]
      simp [Nat.add_assoc]
    · obtain ⟨i, rfl⟩ := List.mem_ofFn.1 hx
      exact (hF i.1 i.2).2
theorem open_sl {α : Type} {K : EK α} {wf : α → Prop} (hp : Parse P e K.enc wf) (ht : P.underlying t = some (.slice e)) (hc : P.cellsOf e = K.sz) (hval : Value.okWide P W r b0 t v) (h : DataW.Trod enc P W 0 sp hd t v d ps) :
    ∃ xs : List α, Rd K v xs (Whole W) ∧ (∀ x ∈ xs, wf x) ∧ xs.length ≤ maxLen := by
  obtain ⟨n, h⟩ := h
  have hv1 : v.cells.toList = [v] := by
    cases v <;> first | rfl | (simp [Value.okWide, ht, Cell.okWide, Cell.ok] at hval)
  rw [hv1] at h
  exact open_slW (fun _ _ _ h => hp _ _ _ _ _ _ _ _ h) ht hc h
end
end Go.Sl
/-! Numbers: wraps that change nothing. -/
namespace Go.Sl
theorem w64_id {x : Int} (h1 : -9223372036854775808 ≤ x) (h2 : x ≤ 9223372036854775807) : w64 x = x := by
  simp only [IntKind.wrap, IntKind.signed, IntKind.bits]; simp; omega
theorem wu64_id {x : Int} (h1 : 0 ≤ x) (h2 : x ≤ 18446744073709551615) : wu64 x = x := by
  simp only [IntKind.wrap, IntKind.signed, IntKind.bits]; simp; omega
theorem wu32_id {x : Int} (h1 : 0 ≤ x) (h2 : x ≤ 4294967295) : wu32 x = x := by
  simp only [IntKind.wrap, IntKind.signed, IntKind.bits]; simp; omega
theorem fits_i64 {n : Int} (h : (Lit.int .i64 n).wf = true) : -9223372036854775808 ≤ n ∧ n ≤ 9223372036854775807 := bounds_i64 h
theorem fits_u64 {n : Int} (h : (Lit.int .u64 n).wf = true) : 0 ≤ n ∧ n ≤ 18446744073709551615 := bounds_u64 h
end Go.Sl
/-! Bits of numbers that are not below 0. -/
namespace Go.Sl
theorem band_u64 (x y : Nat) (hx : x < 18446744073709551616) (hy : y < 18446744073709551616) : band .u64 (x : Int) (y : Int) = ((x &&& y : Nat) : Int) := by
  unfold band
  have h1 : (BitVec.ofInt IntKind.u64.bits (x : Int) &&& BitVec.ofInt IntKind.u64.bits (y : Int)).toNat = x &&& y := by
    rw [BitVec.toNat_and, BitVec.ofInt_natCast, BitVec.ofInt_natCast, BitVec.toNat_ofNat, BitVec.toNat_ofNat]
    rw [show IntKind.u64.bits = 64 from rfl, Nat.mod_eq_of_lt (by omega), Nat.mod_eq_of_lt (by omega)]
  rw [h1]
  have h2 : x &&& y ≤ x := Nat.and_le_left
  exact wu64_id (by omega) (by omega)
theorem bor_u64 (x y : Nat) (hx : x < 18446744073709551616) (hy : y < 18446744073709551616) : bor .u64 (x : Int) (y : Int) = ((x ||| y : Nat) : Int) := by
  unfold bor
  have h1 : (BitVec.ofInt IntKind.u64.bits (x : Int) ||| BitVec.ofInt IntKind.u64.bits (y : Int)).toNat = x ||| y := by
    rw [BitVec.toNat_or, BitVec.ofInt_natCast, BitVec.ofInt_natCast, BitVec.toNat_ofNat, BitVec.toNat_ofNat]
    rw [show IntKind.u64.bits = 64 from rfl, Nat.mod_eq_of_lt (by omega), Nat.mod_eq_of_lt (by omega)]
  rw [h1]
  have h2 : x ||| y < 2 ^ 64 := Nat.or_lt_two_pow (by omega) (by omega)
  exact wu64_id (by omega) (by omega)
theorem band_i64 (x y : Nat) (hx : x < 9223372036854775808) (hy : y < 9223372036854775808) : band .i64 (x : Int) (y : Int) = ((x &&& y : Nat) : Int) := by
  unfold band
  have h1 : (BitVec.ofInt IntKind.i64.bits (x : Int) &&& BitVec.ofInt IntKind.i64.bits (y : Int)).toNat = x &&& y := by
    rw [BitVec.toNat_and, BitVec.ofInt_natCast, BitVec.ofInt_natCast, BitVec.toNat_ofNat, BitVec.toNat_ofNat]
    rw [show IntKind.i64.bits = 64 from rfl, Nat.mod_eq_of_lt (by omega), Nat.mod_eq_of_lt (by omega)]
  rw [h1]
  have h2 : x &&& y ≤ x := Nat.and_le_left
  exact w64_id (by omega) (by omega)
theorem bor_i64 (x y : Nat) (hx : x < 9223372036854775808) (hy : y < 9223372036854775808) : bor .i64 (x : Int) (y : Int) = ((x ||| y : Nat) : Int) := by
  unfold bor
  have h1 : (BitVec.ofInt IntKind.i64.bits (x : Int) ||| BitVec.ofInt IntKind.i64.bits (y : Int)).toNat = x ||| y := by
    rw [BitVec.toNat_or, BitVec.ofInt_natCast, BitVec.ofInt_natCast, BitVec.toNat_ofNat, BitVec.toNat_ofNat]
    rw [show IntKind.i64.bits = 64 from rfl, Nat.mod_eq_of_lt (by omega), Nat.mod_eq_of_lt (by omega)]
  rw [h1]
  have h2 : x ||| y < 2 ^ 63 := Nat.or_lt_two_pow (by omega) (by omega)
  exact w64_id (by omega) (by omega)
/-- A number below 2 to n, put below a multiple of that. -/
theorem bor_add_u64 {x y : Int} (n : Nat) (hn : n < 64) (hx0 : 0 ≤ x) (hx : x < 2 ^ n) (hy : 0 ≤ y) (hb : y * 2 ^ n < 18446744073709551616) : bor .u64 x (y * 2 ^ n) = x + y * 2 ^ n := by
  obtain ⟨a, rfl⟩ := Int.eq_ofNat_of_zero_le hx0
  obtain ⟨b, rfl⟩ := Int.eq_ofNat_of_zero_le hy
  have e : (b : Int) * 2 ^ n = ((b * 2 ^ n : Nat) : Int) := by push_cast; rfl
  have ha : a < 2 ^ n := by exact_mod_cast hx
  have h64 : (2 : Nat) ^ n < 2 ^ 64 := Nat.pow_lt_pow_right (by decide) hn
  rw [e] at hb ⊢
  rw [bor_u64 a _ (by omega) (by omega)]
  have := Nat.shiftLeft_add_eq_or_of_lt ha b
  rw [Nat.shiftLeft_eq] at this
  rw [Nat.or_comm, ← this]
  push_cast
  omega
theorem bor_add_i64 {x y : Int} (n : Nat) (hn : n < 63) (hx0 : 0 ≤ x) (hx : x < 2 ^ n) (hy : 0 ≤ y) (hb : y * 2 ^ n < 9223372036854775808) : bor .i64 x (y * 2 ^ n) = x + y * 2 ^ n := by
  obtain ⟨a, rfl⟩ := Int.eq_ofNat_of_zero_le hx0
  obtain ⟨b, rfl⟩ := Int.eq_ofNat_of_zero_le hy
  have e : (b : Int) * 2 ^ n = ((b * 2 ^ n : Nat) : Int) := by push_cast; rfl
  have ha : a < 2 ^ n := by exact_mod_cast hx
  have h64 : (2 : Nat) ^ n < 2 ^ 63 := Nat.pow_lt_pow_right (by decide) hn
  rw [e] at hb ⊢
  rw [bor_i64 a _ (by omega) (by omega)]
  have := Nat.shiftLeft_add_eq_or_of_lt ha b
  rw [Nat.shiftLeft_eq] at this
  rw [Nat.or_comm, ← this]
  push_cast
  omega
theorem band_mod_u64 {x : Int} (n : Nat) (hn : n < 64) (hx0 : 0 ≤ x) (hx : x < 18446744073709551616) : band .u64 x (2 ^ n - 1) = x % 2 ^ n := by
  obtain ⟨a, rfl⟩ := Int.eq_ofNat_of_zero_le hx0
  have h64 : (2 : Nat) ^ n < 2 ^ 64 := Nat.pow_lt_pow_right (by decide) hn
  have hp : 0 < (2 : Nat) ^ n := Nat.two_pow_pos n
  have e : (2 : Int) ^ n - 1 = ((2 ^ n - 1 : Nat) : Int) := by rw [Int.ofNat_sub (by omega)]; push_cast; rfl
  rw [e, band_u64 a _ (by omega) (by omega), Nat.and_two_pow_sub_one_eq_mod]
  push_cast; rfl
theorem band_mod_i64 {x : Int} (n : Nat) (hn : n < 63) (hx0 : 0 ≤ x) (hx : x < 9223372036854775808) : band .i64 x (2 ^ n - 1) = x % 2 ^ n := by
  obtain ⟨a, rfl⟩ := Int.eq_ofNat_of_zero_le hx0
  have h64 : (2 : Nat) ^ n < 2 ^ 63 := Nat.pow_lt_pow_right (by decide) hn
  have hp : 0 < (2 : Nat) ^ n := Nat.two_pow_pos n
  have e : (2 : Int) ^ n - 1 = ((2 ^ n - 1 : Nat) : Int) := by rw [Int.ofNat_sub (by omega)]; push_cast; rfl
  rw [e, band_i64 a _ (by omega) (by omega), Nat.and_two_pow_sub_one_eq_mod]
  push_cast; rfl
theorem bshr_nn {k : IntKind} {x : Int} (n : Nat) (h : n ≤ k.bits) (hx : 0 ≤ x) : bshr k x n = x / 2 ^ n := by
  unfold bshr
  rw [show min (n : Int).toNat k.bits = n by simp; omega]
  rw [Int.fdiv_eq_ediv_of_nonneg]
  exact Int.le_of_lt (Int.pow_pos (by decide))
theorem bshl_u64 {x : Int} (n : Nat) (h : n ≤ 64) (hx : 0 ≤ x) (hb : x * 2 ^ n < 18446744073709551616) : bshl .u64 x n = x * 2 ^ n := by
  unfold bshl
  rw [show min (n : Int).toNat IntKind.u64.bits = n by simp [show IntKind.u64.bits = 64 from rfl]; omega]
  exact wu64_id (Int.mul_nonneg hx (Int.le_of_lt (Int.pow_pos (by decide)))) (by omega)
theorem bshl_i64 {x : Int} (n : Nat) (h : n ≤ 64) (hx : 0 ≤ x) (hb : x * 2 ^ n < 9223372036854775808) : bshl .i64 x n = x * 2 ^ n := by
  unfold bshl
  rw [show min (n : Int).toNat IntKind.i64.bits = n by simp [show IntKind.i64.bits = 64 from rfl]; omega]
  have h2 : (0 : Int) < 2 ^ n := Int.pow_pos (by decide)
  have := Int.mul_nonneg hx (Int.le_of_lt h2)
  exact w64_id (by omega) (by omega)
end Go.Sl
/-! Lists that are maps. -/
set_option linter.unusedVariables false
namespace Go.Proofs
open Go.Sl
section
variable {α : Type}
def MOk (l : List (Int × α)) : Prop := (l.map (·.1)).Nodup
theorem msetKeys : ∀ (l : List (Int × α)) (k : Int) (v : α), (mset l k v).map (·.1) = if k ∈ l.map (·.1) then l.map (·.1) else l.map (·.1) ++ [k]
  | [], k, v => by simp [mset]
  | p :: l, k, v => by
    unfold mset
    by_cases h : p.1 = k
    · rw [if_pos h, if_pos (by simp [h])]; simp [h]
    · rw [if_neg h, List.map_cons, msetKeys l k v]
      have : (k ∈ (p :: l).map (·.1)) ↔ k ∈ l.map (·.1) := by
        rw [List.map_cons, List.mem_cons]
        exact ⟨fun z => z.resolve_left (fun e => h e.symm), .inr⟩
      by_cases c : k ∈ l.map (·.1)
      · rw [if_pos c, if_pos (this.2 c)]; rfl
      · rw [if_neg c, if_neg (fun z => c (this.1 z))]; rfl
theorem MOk.nil : MOk ([] : List (Int × α)) := List.nodup_nil
theorem MOk.set {l : List (Int × α)} (h : MOk l) (k : Int) (v : α) : MOk (mset l k v) := by
  unfold MOk; rw [msetKeys]; split
  · exact h
  · rename_i hni
    exact List.nodup_append.2 ⟨h, by simp, fun a ha b hb => by simp at hb; subst hb; exact fun e => hni (e ▸ ha)⟩
theorem mfind_set : ∀ (l : List (Int × α)) (k : Int) (v : α) (j : Int), mfind (mset l k v) j = if j = k then some v else mfind l j
  | [], k, v, j => by
    by_cases h : j = k
    · subst h; simp [mset, mfind]
    · simp [mset, mfind, h, Ne.symm h]
  | p :: l, k, v, j => by
    unfold mset
    by_cases h : p.1 = k
    · rw [if_pos h]
      by_cases c : j = k
      · subst c; simp [mfind]
      · rw [if_neg c]; simp [mfind, h, Ne.symm c]
    · rw [if_neg h]
      unfold mfind
      by_cases c : p.1 = j
      · rw [if_pos c, if_pos c, if_neg (by rintro rfl; exact h c)]
      · rw [if_neg c, if_neg c, mfind_set l k v j]
theorem mfind_keys : ∀ (l : List (Int × α)) (k : Int), k ∈ l.map (·.1) ↔ ∃ v, mfind l k = some v
  | [], k => by simp [mfind]
  | p :: l, k => by
    unfold mfind
    by_cases h : p.1 = k
    · rw [if_pos h]; simp [h]
    · rw [if_neg h, List.map_cons, List.mem_cons, mfind_keys l k]
      exact ⟨fun z => z.resolve_left (fun e => h e.symm), .inr⟩
theorem skeys_perm (l : List (Int × α)) : (skeys l).Perm (l.map (·.1)) := List.mergeSort_perm _ _
theorem skeys_mem (l : List (Int × α)) (k : Int) : k ∈ skeys l ↔ ∃ v, mfind l k = some v := by
  rw [(skeys_perm l).mem_iff, mfind_keys]
theorem skeys_len (l : List (Int × α)) : (skeys l).length = l.length := by rw [(skeys_perm l).length_eq, List.length_map]
theorem skeys_sorted {l : List (Int × α)} (h : MOk l) : (skeys l).Pairwise (· < ·) := by
  have tr : ∀ a b c : Int, decide (a ≤ b) = true → decide (b ≤ c) = true → decide (a ≤ c) = true := fun a b c h1 h2 => by simp only [decide_eq_true_eq] at *; omega
  have to : ∀ a b : Int, (decide (a ≤ b) || decide (b ≤ a)) = true := fun a b => by simp only [Bool.or_eq_true, decide_eq_true_eq]; omega
  have h1 : (skeys l).Pairwise fun a b => decide (a ≤ b) = true := List.pairwise_mergeSort tr to _
  have h2 : (skeys l).Nodup := (skeys_perm l).nodup_iff.2 h
  exact (h1.and h2).imp fun {a b} q => by
    obtain ⟨q1, q2⟩ := q
    simp only [decide_eq_true_eq] at q1
    omega
end
end Go.Proofs
