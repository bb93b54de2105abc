/- Plain laws of what is reached, parts P07Sl2, P07Dsc, P07DscR. On no condition. -/
import Derived.Test.YtlglafdeponjmaaFnDescSteps0
import Derived.Test.YtlglafdeponjmaaFr2
import Derived.Test.YtlglafdeponjmaaFnDescSteps2
import Derived.Test.YtlglafdeponjmaaFnDescSteps1
set_option linter.all false
/-! A list of lists, opened. -/
namespace Go.Proofs
open Go.Sl Go.RowKit Go.ChangeShapes Go.WideShapes Go.ChangeAt
theorem open_sl2 {H : Type} {enc : TypeId × Value → H} {P : Program} {W : World} {b0 : Nat} {sp : Nat → Bool} {hd : Bool} {r : Reach} {t t1 e : TypeId} {v : Value} {d : DataW H} {ps : List MemPlace} {α : Type} {K : EK α} {wf : α → Prop}
    (hp : Parse P e K.enc wf) (ht : P.underlying t = some (.slice t1)) (ht1 : P.underlying t1 = some (.slice e)) (hc1 : P.cellsOf t1 = 1) (hc : P.cellsOf e = K.sz) (hval : Value.okWide P W r b0 t v) (h : DataW.Trod enc P W 0 sp hd t v d ps) :
    ∃ xss : List (List α), Rd2 K v xss (Whole W) := by
  obtain ⟨n, h⟩ := h
  have hv1 : v.cells.toList = [v] := by
    cases v <;> first | rfl | (simp [Value.okWide, ht, Cell.okWide, Cell.ok] at hval)
  rw [hv1] at h
  obtain ⟨vs, h1, h2, -⟩ := open_slW (K := ekS) (wf := fun x => ∃ xs, Rd K x.1 xs (Whole W)) (fun n cs x hx => by
    have key : ∀ u : Value, u.oneCell' = true → cs = [u] → ∃ a : SV, cs = ekS.enc a ∧ ∃ xs, Rd K a.1 xs (Whole W) := fun u hu e => by
      subst e
      obtain ⟨xs, h3, -⟩ := open_slW (fun _ _ _ h => hp _ _ _ _ _ _ _ _ h) ht1 hc hx
      exact ⟨⟨u, hu⟩, rfl, xs, h3⟩
    rcases DataW.trod_slice ht1 hx with ⟨h0, -⟩ | ⟨a, len, cap, elems, rest, m, -, h0, -⟩
    · exact key _ rfl h0
    · exact key _ rfl h0) ht hc1 h
  classical
  let f : SV → List α := fun x => if hh : ∃ xs, Rd K x.1 xs (Whole W) then Classical.choose hh else []
  have hf : ∀ x : SV, (∃ xs, Rd K x.1 xs (Whole W)) → Rd K x.1 (f x) (Whole W) := fun x hh => by
    show Rd K x.1 (if hh : ∃ xs, Rd K x.1 xs (Whole W) then Classical.choose hh else []) _
    rw [dif_pos hh]; exact Classical.choose_spec hh
  refine ⟨vs.map f, vs, h1, by simp, fun i x l e1 e2 => ?_⟩
  rw [List.getElem?_map, e1] at e2
  injection e2 with e2
  subst e2
  exact hf x (h2 x (List.mem_of_getElem? e1))
end Go.Proofs
/-! A descriptor's step, told plainly. -/
set_option linter.unusedVariables false
namespace Go.Proofs
open Go.Sl
theorem atn {α : Type} {l : List α} {i : Nat} (h : i < l.length) : at_ l (i : Int) = some l[i] := by
  unfold at_; rw [decide_eq_true (by omega), cond_true]; exact List.getElem?_eq_getElem h
theorem at_none {α : Type} {l : List α} {i : Int} (h : ¬ (0 ≤ i ∧ i < (l.length : Int))) : at_ l i = none := by
  unfold at_
  by_cases h0 : 0 ≤ i
  · rw [decide_eq_true h0, cond_true]; exact List.getElem?_eq_none (by omega)
  · rw [decide_eq_false h0]; rfl
theorem at_val {α : Type} {l : List α} {i : Int} {x : α} (h : at_ l i = some x) : 0 ≤ i ∧ i < (l.length : Int) ∧ l[i.toNat]? = some x := at_spec h
theorem at_of {α : Type} {l : List α} {i : Int} {x : α} (h0 : 0 ≤ i) (h : l[i.toNat]? = some x) : at_ l i = some x := by
  unfold at_; rw [decide_eq_true h0, cond_true, h]
theorem at_set {α : Type} {l : List α} {i : Int} {x : α} (h : at_ l i = some x) (y : α) (j : Int) : at_ (l.set i.toNat y) j = if j = i then some y else at_ l j := by
  obtain ⟨h0, h1, h2⟩ := at_val h
  by_cases e : j = i
  · subst e
    rw [if_pos rfl]; exact at_of h0 (List.getElem?_set_self (by omega))
  · rw [if_neg e]
    by_cases hj : 0 ≤ j
    · unfold at_; rw [decide_eq_true hj, cond_true, cond_true, List.getElem?_set_ne (by omega)]
    · unfold at_; rw [decide_eq_false hj]; rfl
/-- What a release leaves of a cell. -/
def relC (d : desc_Desc) (e : tx_Entry) (c : api_Cell) : api_Cell := if d.status = 1 ∧ e.Write = true then ⟨e.New, wu32 (c.Version + 1), 0⟩ else { c with Mark := 0 }
def dstep (lim : Int) (d : desc_Desc) (L : List api_Cell) : Int × desc_Desc × List api_Cell :=
  if d.status ≠ 0 then
    match at_ d.l d.at_ with
    | none => (0, d, L)
    | some e =>
      match at_ L e.Cell with
      | none => (0, { d with at_ := d.at_ + 1 }, L)
      | some c => if c.Mark = d.mark then (0, { d with at_ := d.at_ + 1 }, L.set e.Cell.toNat (relC d e c)) else (0, { d with at_ := d.at_ + 1 }, L)
  else
    match at_ d.l d.at_ with
    | none => (0, { d with status := 1, at_ := 0 }, L)
    | some e =>
      match at_ L e.Cell with
      | none => (0, { d with status := 2, at_ := 0 }, L)
      | some c =>
        if c.Mark ≠ 0 ∧ c.Mark ≠ d.mark then (c.Mark, d, L)
        else if c.Version ≠ e.Version then (0, { d with status := 2, at_ := 0 }, L)
        else if e.Write = true ∧ c.Version = lim then (0, { d with status := 3, at_ := 0 }, L)
        else (0, { d with at_ := d.at_ + 1 }, L.set e.Cell.toNat { c with Mark := d.mark })
/-- What holds of a descriptor, beside the cells. -/
structure DI (lim : Int) (d : desc_Desc) (L : List api_Cell) : Prop where
  mark : 1 ≤ d.mark
  at0 : 0 ≤ d.at_
  at1 : d.at_ ≤ (d.l.length : Int)
  len : d.l.length ≤ 100000
  st : d.status = 0 ∨ d.status = 1 ∨ d.status = 2 ∨ d.status = 3
  opn : d.status = 0 → ∀ (j : Nat) e, (j : Int) < d.at_ → d.l[j]? = some e → ∃ c, at_ L e.Cell = some c ∧ c.Mark = d.mark ∧ c.Version = e.Version ∧ (e.Write = true → c.Version ≠ lim)
  don : d.status = 1 → ∀ (j : Nat) e c, d.at_ ≤ (j : Int) → d.l[j]? = some e → at_ L e.Cell = some c → c.Mark = d.mark → c.Version = e.Version ∧ (e.Write = true → c.Version ≠ lim)
theorem DI.atE {lim : Int} {d : desc_Desc} {L : List api_Cell} (h : DI lim d L) : (at_ d.l d.at_ = none ∧ d.at_ = d.l.length) ∨ ∃ e, at_ d.l d.at_ = some e ∧ d.at_ < (d.l.length : Int) ∧ d.l[d.at_.toNat]? = some e := by
  have h0 := h.at0
  have h1 := h.at1
  by_cases c : d.at_ = d.l.length
  · exact .inl ⟨at_none (by omega), c⟩
  · have hl : d.at_.toNat < d.l.length := by omega
    exact .inr ⟨d.l[d.at_.toNat], at_of h0 (List.getElem?_eq_getElem hl), by omega, List.getElem?_eq_getElem hl⟩
theorem has_ok (L : List api_Cell) (lim i : Int) : word_Store_has.f ⟨L, lim⟩ i = some (decide (0 ≤ i ∧ i < (L.length : Int))) := by
  unfold word_Store_has.f
  by_cases h : 0 ≤ i
  · simp [h]
  · simp [h]
theorem read_in {L : List api_Cell} (lim : Int) {i : Int} {c : api_Cell} (hc : at_ L i = some c) : word_Store_Read.f ⟨L, lim⟩ i = some (c, none) := by
  obtain ⟨h0, h1, _⟩ := at_val hc
  unfold word_Store_Read.f
  rw [has_ok, decide_eq_true ⟨h0, h1⟩, Option.bind_some, Bool.not_true, cond_false, hc]; rfl
theorem read_out {L : List api_Cell} (lim : Int) {i : Int} (hc : at_ L i = none) : word_Store_Read.f ⟨L, lim⟩ i = some (⟨0, 0, 0⟩, some 2) := by
  unfold word_Store_Read.f
  have : ¬ (0 ≤ i ∧ i < (L.length : Int)) := fun h => by
    have : i.toNat < L.length := by omega
    rw [at_of h.1 (List.getElem?_eq_getElem this)] at hc; cases hc
  rw [has_ok, decide_eq_false this]; rfl
theorem step_ok {lim : Int} {d : desc_Desc} {L : List api_Cell} (h : DI lim d L) : desc_Desc_Step.f d ⟨L, lim⟩ = some ((dstep lim d L).1, (dstep lim d L).2.1, ⟨(dstep lim d L).2.2, lim⟩) := by
  have hm := h.mark
  have h0 := h.at0
  have hl := h.len
  have hover : desc_Desc_Over.f d = some (decide (d.status ≠ 0 ∧ d.at_ = d.l.length)) := by
    unfold desc_Desc_Over.f
    by_cases hs : d.status = 0
    · rw [hs]; simp
    · have : (d.status != 0) = true := by simpa using hs
      rw [this, cond_true, Option.bind_some]
      by_cases ha : d.at_ = d.l.length
      · rw [decide_eq_true ⟨hs, ha⟩, ha]; simp
      · rw [decide_eq_false (fun z => ha z.2), beq_false_of_ne ha]
  unfold desc_Desc_Step.f
  rw [hover, Option.bind_some]
  unfold dstep
  by_cases hs : d.status = 0
  · have hsb : (d.status != 0) = false := by rw [hs]; rfl
    rw [decide_eq_false (fun z => z.1 hs), cond_false, hsb, cond_false, if_neg (fun z => z hs)]
    rcases h.atE with ⟨e1, e2⟩ | ⟨e, e1, e2, e3⟩
    · rw [e2, beq_self_eq_true, cond_true]
      rw [e2] at e1
      rw [e1]; rfl
    · rw [beq_false_of_ne (by omega), cond_false, e1]
      dsimp only
      unfold desc_Desc_reserve.f
      rw [e1, Option.bind_some]
      cases hc : at_ L e.Cell with
      | none =>
        rw [read_out lim hc]; rfl
      | some c =>
        have hc' := hc
        obtain ⟨i0, i1, i2⟩ := at_val hc
        rw [read_in lim hc]
        dsimp only
        simp only [Option.bind_some, Option.isNone_none, cond_true, Option.isSome_none, cond_false]
        by_cases k1 : c.Mark ≠ 0 ∧ c.Mark ≠ d.mark
        · have b1 : (c.Mark != 0) = true := by simpa using k1.1
          have b2 : (c.Mark != d.mark) = true := by simpa using k1.2
          rw [b1, b2, if_pos k1]; rfl
        · have hb : (bif c.Mark != 0 then (some (c.Mark != d.mark)) else (some false)) = some false := by
            by_cases q : c.Mark = 0
            · rw [q]; rfl
            · have : c.Mark = d.mark := by
                by_cases q2 : c.Mark = d.mark
                · exact q2
                · exact absurd ⟨q, q2⟩ k1
              rw [this]; simp
          rw [hb, if_neg k1, Option.bind_some, cond_false]
          by_cases k2 : c.Version = e.Version
          · have b2 : (c.Version != e.Version) = false := by rw [k2]; exact bne_self_eq_false _
            rw [b2, cond_false, if_neg (fun z => z k2)]
            by_cases k3 : e.Write = true ∧ c.Version = lim
            · rw [k3.1, if_pos ⟨rfl, k3.2⟩]
              simp only [cond_true, word_Store_Limit.f, Option.bind_some, k3.2, beq_self_eq_true, desc_Desc_turn.f]
            · have hb3 : (bif e.Write then ((word_Store_Limit.f ⟨L, lim⟩).bind fun t22 => some (c.Version == t22)) else (some false)) = some false := by
                cases hw : e.Write with
                | false => rfl
                | true =>
                  have : c.Version ≠ lim := fun z => k3 ⟨hw, z⟩
                  simp only [cond_true, word_Store_Limit.f, Option.bind_some, beq_false_of_ne this]
              rw [hb3, if_neg k3, Option.bind_some, cond_false]
              have hres : word_Store_Reserve.f ⟨L, lim⟩ e.Cell e.Version d.mark = some (none, ⟨L.set e.Cell.toNat { c with Mark := d.mark }, lim⟩) := by
                unfold word_Store_Reserve.f
                rw [has_ok, decide_eq_true ⟨i0, i1⟩, Option.bind_some, Bool.not_true, cond_false, decide_eq_false (by omega), cond_false]
                simp only [hc', Option.bind_some, hb, cond_false, b2]
              have ew : w64 (d.at_ + 1) = d.at_ + 1 := w64_id (by omega) (by omega)
              rw [hres, Option.bind_some]
              simp only [Option.isSome_none, cond_false, ew, Option.bind_some]
          · have b2 : (c.Version != e.Version) = true := by simpa using k2
            rw [b2, cond_true, if_pos k2]; rfl
  · have hsb : (d.status != 0) = true := by simpa using hs
    rw [if_pos hs]
    rcases h.atE with ⟨e1, e2⟩ | ⟨e, e1, e2, e3⟩
    · rw [decide_eq_true ⟨hs, e2⟩, cond_true, e1]
    · rw [decide_eq_false (fun z => by have := z.2; omega), cond_false, hsb, cond_true, e1]
      dsimp only
      unfold desc_Desc_release.f
      have ew : w64 (d.at_ + 1) = d.at_ + 1 := w64_id (by omega) (by omega)
      rw [e1, Option.bind_some, ew]
      cases hc : at_ L e.Cell with
      | none => rw [read_out lim hc]; rfl
      | some c =>
        obtain ⟨i0, i1, i2⟩ := at_val hc
        rw [read_in lim hc]
        dsimp only
        simp only [Option.bind_some, Option.isSome_none, cond_false, decide_eq_false (show ¬ d.mark < 1 by omega)]
        by_cases k1 : c.Mark = d.mark
        · have b1 : (c.Mark != d.mark) = false := by rw [k1]; exact bne_self_eq_false _
          have hown : word_Store_own.f ⟨L, lim⟩ e.Cell d.mark = some none := by
            unfold word_Store_own.f
            rw [has_ok, decide_eq_true ⟨i0, i1⟩, Option.bind_some, Bool.not_true, cond_false, decide_eq_false (by omega), cond_false]
            simp only [hc, Option.bind_some, b1, cond_false]
          rw [b1, if_pos k1, cond_false]
          by_cases k2 : d.status = 1 ∧ e.Write = true
          · have hb : (bif d.status == 1 then (some e.Write) else (some false)) = some true := by rw [k2.1, k2.2]; rfl
            rw [hb, Option.bind_some, cond_true]
            have hv := (h.don k2.1 d.at_.toNat e c (by omega) e3 hc k1).2 k2.2
            have hput : desc_Desc_release_2.f ⟨L, lim⟩ e { d with at_ := d.at_ + 1 } = some (none, ⟨L.set e.Cell.toNat (relC d e c), lim⟩) := by
              unfold desc_Desc_release_2.f word_Store_Put.f
              simp only [hown, Option.bind_some, Option.isSome_none, cond_false, hc, beq_false_of_ne hv]
              rw [show relC d e c = ⟨e.New, wu32 (c.Version + 1), 0⟩ from if_pos k2]
            rw [hput]; rfl
          · have hb : (bif d.status == 1 then (some e.Write) else (some false)) = some false := by
              by_cases q : d.status = 1
              · have : e.Write = false := by
                  cases hw : e.Write with
                  | false => rfl
                  | true => exact absurd ⟨q, hw⟩ k2
                rw [q, this]; rfl
              · rw [beq_false_of_ne q]; rfl
            rw [hb, Option.bind_some, cond_false]
            have hrel : desc_Desc_release_1.f ⟨L, lim⟩ e { d with at_ := d.at_ + 1 } = some (none, ⟨L.set e.Cell.toNat (relC d e c), lim⟩) := by
              unfold desc_Desc_release_1.f word_Store_Release.f
              simp only [hown, Option.bind_some, Option.isSome_none, cond_false, hc]
              rw [show relC d e c = { c with Mark := 0 } from if_neg k2]
            rw [hrel]; rfl
        · have b1 : (c.Mark != d.mark) = true := by simpa using k1
          rw [b1, if_neg k1]; rfl
/-- Only cells without a mark, or with the mark m, have turned; they have it, or none. -/
def Fr (m : Int) (L L' : List api_Cell) : Prop := L'.length = L.length ∧ ∀ i, at_ L' i = at_ L i ∨ ∃ c c', at_ L i = some c ∧ at_ L' i = some c' ∧ (c.Mark = 0 ∨ c.Mark = m) ∧ (c'.Mark = 0 ∨ c'.Mark = m)
theorem Fr.refl (m : Int) (L : List api_Cell) : Fr m L L := ⟨rfl, fun _ => .inl rfl⟩
theorem Fr.set {m : Int} {L : List api_Cell} {i : Int} {c c' : api_Cell} (h : at_ L i = some c) (h1 : c.Mark = 0 ∨ c.Mark = m) (h2 : c'.Mark = 0 ∨ c'.Mark = m) : Fr m L (L.set i.toNat c') := by
  refine ⟨List.length_set, fun j => ?_⟩
  rw [at_set h]
  by_cases e : j = i
  · rw [if_pos e]; exact .inr ⟨c, c', by rw [e]; exact h, rfl, h1, h2⟩
  · rw [if_neg e]; exact .inl rfl
theorem relC_mark (d : desc_Desc) (e : tx_Entry) (c : api_Cell) : (relC d e c).Mark = 0 := by unfold relC; split <;> rfl
theorem dstep_fr (lim : Int) (d : desc_Desc) (L : List api_Cell) : Fr d.mark L (dstep lim d L).2.2 := by
  unfold dstep
  by_cases hs : d.status ≠ 0
  · rw [if_pos hs]
    cases at_ d.l d.at_ with
    | none => exact .refl _ _
    | some e =>
      dsimp only
      cases hc : at_ L e.Cell with
      | none => exact .refl _ _
      | some c =>
        dsimp only
        by_cases k : c.Mark = d.mark
        · rw [if_pos k]; exact .set hc (.inr k) (.inl (relC_mark _ _ _))
        · rw [if_neg k]; exact .refl _ _
  · rw [if_neg hs]
    cases at_ d.l d.at_ with
    | none => exact .refl _ _
    | some e =>
      dsimp only
      cases hc : at_ L e.Cell with
      | none => exact .refl _ _
      | some c =>
        dsimp only
        by_cases k1 : c.Mark ≠ 0 ∧ c.Mark ≠ d.mark
        · rw [if_pos k1]; exact .refl _ _
        · rw [if_neg k1]
          split
          · exact .refl _ _
          · split
            · exact .refl _ _
            · refine .set hc ?_ (.inr rfl)
              by_cases q : c.Mark = 0
              · exact .inl q
              · by_cases q2 : c.Mark = d.mark
                · exact .inr q2
                · exact absurd ⟨q, q2⟩ k1
theorem DI.frame {lim m : Int} {d : desc_Desc} {L L' : List api_Cell} (h : DI lim d L) (hm : d.mark ≠ m) (hf : Fr m L L') : DI lim d L' := by
  have h1 := h.mark
  refine ⟨h.mark, h.at0, h.at1, h.len, h.st, fun hs j e hj he => ?_, fun hs j e c hj he hc hcm => ?_⟩
  · obtain ⟨c, q1, q2, q3⟩ := h.opn hs j e hj he
    rcases hf.2 e.Cell with k | ⟨c1, c2, k1, _, k3, _⟩
    · exact ⟨c, by rw [k]; exact q1, q2, q3⟩
    · rw [q1] at k1; injection k1 with k1; subst k1; omega
  · rcases hf.2 e.Cell with k | ⟨c1, c2, _, k2, _, k4⟩
    · exact h.don hs j e c hj he (by rw [← k]; exact hc) hcm
    · rw [hc] at k2; injection k2 with k2; subst k2; omega
theorem dstep_keeps (lim : Int) (d : desc_Desc) (L : List api_Cell) : (dstep lim d L).2.1.mark = d.mark ∧ (dstep lim d L).2.1.l = d.l := by
  unfold dstep
  repeat' split
  all_goals exact ⟨rfl, rfl⟩
theorem DI.step {lim : Int} {d : desc_Desc} {L : List api_Cell} (h : DI lim d L) : DI lim (dstep lim d L).2.1 (dstep lim d L).2.2 := by
  have h0 := h.at0
  have h1 := h.at1
  have hm := h.mark
  unfold dstep
  by_cases hs : d.status ≠ 0
  · rw [if_pos hs]
    rcases h.atE with ⟨e1, e2⟩ | ⟨e, e1, e2, e3⟩
    · rw [e1]; exact h
    · rw [e1]
      dsimp only
      have adv : ∀ L', (∀ i c, at_ L' i = some c → c.Mark = d.mark → at_ L i = some c) → DI lim { d with at_ := d.at_ + 1 } L' := fun L' hL => by
        refine ⟨h.mark, by dsimp only; omega, by dsimp only; omega, h.len, h.st, fun z => absurd z hs, fun z j e' c hj he' hc hcm => ?_⟩
        dsimp only at hj
        exact h.don z j e' c (by omega) he' (hL _ _ hc hcm) hcm
      cases hc : at_ L e.Cell with
      | none => exact adv L fun i c q _ => q
      | some c =>
        dsimp only
        by_cases k : c.Mark = d.mark
        · rw [if_pos k]
          refine adv _ fun i c' q qm => ?_
          rw [at_set hc] at q
          by_cases ei : i = e.Cell
          · rw [if_pos ei] at q; injection q with q; subst q; rw [relC_mark] at qm; omega
          · rw [if_neg ei] at q; exact q
        · rw [if_neg k]; exact adv L fun i c q _ => q
  · have hs0 : d.status = 0 := Decidable.byContradiction hs
    rw [if_neg hs]
    have turn : ∀ s, s = 2 ∨ s = 3 → DI lim { d with status := s, at_ := 0 } L := fun s hs' => by
      refine ⟨h.mark, Int.le_refl _, by dsimp only; omega, h.len, by dsimp only; omega, fun z => by dsimp only at z; omega, fun z => by dsimp only at z; omega⟩
    rcases h.atE with ⟨e1, e2⟩ | ⟨e, e1, e2, e3⟩
    · rw [e1]
      refine ⟨h.mark, Int.le_refl _, by dsimp only; omega, h.len, .inr (.inl rfl), fun z => (by cases z), fun _ j e' c _ he' hc hcm => ?_⟩
      have hj : j < d.l.length := (List.getElem?_eq_some_iff.1 he').1
      obtain ⟨c', q1, q2, q3⟩ := h.opn hs0 j e' (by omega) he'
      rw [hc] at q1; injection q1 with q1; subst q1
      exact q3
    · rw [e1]
      dsimp only
      cases hc : at_ L e.Cell with
      | none => exact turn 2 (.inl rfl)
      | some c =>
        dsimp only
        by_cases k1 : c.Mark ≠ 0 ∧ c.Mark ≠ d.mark
        · rw [if_pos k1]; exact h
        · rw [if_neg k1]
          by_cases k2 : c.Version = e.Version
          · rw [if_neg (fun z => z k2)]
            by_cases k3 : e.Write = true ∧ c.Version = lim
            · rw [if_pos k3]; exact turn 3 (.inr rfl)
            · rw [if_neg k3]
              refine ⟨h.mark, by dsimp only; omega, by dsimp only; omega, h.len, h.st, fun _ j e' hj he' => ?_, fun z => by dsimp only at z; omega⟩
              dsimp only at hj he' ⊢
              rw [at_set hc]
              by_cases hjl : (j : Int) < d.at_
              · obtain ⟨c', q1, q2, q3⟩ := h.opn hs0 j e' hjl he'
                by_cases ei : e'.Cell = e.Cell
                · rw [if_pos ei]
                  rw [ei, hc] at q1; injection q1 with q1; subst q1
                  exact ⟨_, rfl, rfl, q3⟩
                · rw [if_neg ei]; exact ⟨c', q1, q2, q3⟩
              · have : j = d.at_.toNat := by omega
                subst this
                rw [e3] at he'; injection he' with he'; subst he'
                rw [if_pos rfl]
                exact ⟨_, rfl, rfl, k2, fun hw z => k3 ⟨hw, z⟩⟩
          · rw [if_pos k2]; exact turn 2 (.inl rfl)
end Go.Proofs
/-! The reference's step, likewise. -/
set_option linter.unusedVariables false
namespace Go.Proofs
open Go.Sl
def convE (e : tx_Entry) : ref07_Entry := ⟨e.Cell, e.Version, e.New, e.Write⟩
def asR (d : desc_Desc) : ref07_Desc := ⟨d.mark, d.l.map convE, d.status, d.at_⟩
theorem rhas_ok (L : List api_Cell) (lim i : Int) : ref01_Store_has.f ⟨L, lim⟩ i = some (decide (0 ≤ i ∧ i < (L.length : Int))) := by
  unfold ref01_Store_has.f
  by_cases h : 0 ≤ i
  · simp [h]
  · simp [h]
theorem at_map {α β : Type} (f : α → β) (l : List α) (i : Int) : at_ (l.map f) i = (at_ l i).map f := by
  unfold at_
  cases decide (0 ≤ i) with
  | false => rfl
  | true => rw [cond_true, cond_true, List.getElem?_map]
theorem at_isin {L : List api_Cell} {i : Int} : (at_ L i = none) ↔ ¬ (0 ≤ i ∧ i < (L.length : Int)) := by
  constructor
  · intro h z
    have : i.toNat < L.length := by omega
    rw [at_of z.1 (List.getElem?_eq_getElem this)] at h; cases h
  · exact at_none
theorem rover_ok {lim : Int} {d : desc_Desc} {L : List api_Cell} (h : DI lim d L) : ref07_Desc_Over.f (asR d) = some (decide (d.status ≠ 0 ∧ d.at_ = d.l.length)) := by
  have hst := h.st
  unfold ref07_Desc_Over.f asR
  dsimp only
  rw [List.length_map]
  by_cases hs : d.status = 0
  · rw [hs]; simp
  · rw [decide_eq_true (by omega), cond_true, Option.bind_some]
    by_cases ha : d.at_ = d.l.length
    · rw [decide_eq_true ⟨hs, ha⟩, ha, beq_self_eq_true]
    · rw [decide_eq_false (fun z => ha z.2), beq_false_of_ne ha]
theorem over_ok {lim : Int} {d : desc_Desc} {L : List api_Cell} (h : DI lim d L) : desc_Desc_Over.f d = some (decide (d.status ≠ 0 ∧ d.at_ = d.l.length)) := by
  unfold desc_Desc_Over.f
  by_cases hs : d.status = 0
  · rw [hs]; simp
  · have : (d.status != 0) = true := by simpa using hs
    rw [this, cond_true, Option.bind_some]
    by_cases ha : d.at_ = d.l.length
    · rw [decide_eq_true ⟨hs, ha⟩, ha]; simp
    · rw [decide_eq_false (fun z => ha z.2), beq_false_of_ne ha]
theorem rstep_ok {lim : Int} {d : desc_Desc} {L : List api_Cell} (h : DI lim d L) : ref07_Desc_Step.f (asR d) ⟨L, lim⟩ = some ((dstep lim d L).1, asR (dstep lim d L).2.1, ⟨(dstep lim d L).2.2, lim⟩) := by
  have hm := h.mark
  have h0 := h.at0
  have hl := h.len
  have hst := h.st
  unfold ref07_Desc_Step.f
  rw [rover_ok h, Option.bind_some]
  have hbad : ∀ (c : Int), (bif decide (c < 0) then (some true) else (some (decide ((L.length : Int) ≤ c)))) = some (at_ L c).isNone := fun c => by
    by_cases z : at_ L c = none
    · rw [z]
      have := at_isin.1 z
      by_cases q : c < 0
      · rw [decide_eq_true q]; rfl
      · rw [decide_eq_false q, decide_eq_true (by omega)]; rfl
    · have := fun w => z (at_isin.2 w)
      have w : 0 ≤ c ∧ c < (L.length : Int) := Decidable.byContradiction this
      obtain ⟨y, hy⟩ := Option.ne_none_iff_exists'.1 z
      rw [hy, decide_eq_false (by omega), decide_eq_false (by omega)]; rfl
  have hE : ∀ e, at_ d.l d.at_ = some e → at_ (asR d).L (asR d).At = some (convE e) := fun e he => by
    show at_ (d.l.map convE) d.at_ = _
    rw [at_map, he]; rfl
  have ew : w64 ((asR d).At + 1) = d.at_ + 1 := w64_id (by show _ ≤ d.at_ + 1; omega) (by have := h.at1; show d.at_ + 1 ≤ _; omega)
  unfold dstep
  by_cases hs : d.status = 0
  · rw [decide_eq_false (fun z => z.1 hs), cond_false, decide_eq_false (show ¬ 0 < (asR d).Status by show ¬ 0 < d.status; omega), cond_false, if_neg (fun z => z hs)]
    rcases h.atE with ⟨e1, e2⟩ | ⟨e, e1, e2, e3⟩
    · have : ((asR d).At == ((asR d).L.length : Int)) = true := by
        show (d.at_ == ((d.l.map convE).length : Int)) = true
        rw [List.length_map, e2]; exact beq_self_eq_true _
      rw [this, cond_true, e1]; rfl
    · have : ((asR d).At == ((asR d).L.length : Int)) = false := by
        show (d.at_ == ((d.l.map convE).length : Int)) = false
        rw [List.length_map]; exact beq_false_of_ne (by omega)
      rw [this, cond_false, e1, hE e e1, Option.bind_some]
      dsimp only
      rw [hbad, Option.bind_some]
      cases hc : at_ L e.Cell with
      | none =>
        have : at_ L (convE e).Cell = none := hc
        rw [this]; rfl
      | some c =>
        obtain ⟨i0, i1, i2⟩ := at_val hc
        have hc' : at_ L (convE e).Cell = some c := hc
        rw [hc']
        dsimp only
        simp only [Option.isNone_some, Bool.not_false, cond_true, Option.bind_some]
        by_cases k1 : c.Mark ≠ 0 ∧ c.Mark ≠ d.mark
        · have b1 : (c.Mark != 0) = true := by simpa using k1.1
          have b2 : (c.Mark != (asR d).Mark) = true := by simpa [asR] using k1.2
          rw [b1, b2, if_pos k1]; rfl
        · have hb : (bif c.Mark != 0 then (some (c.Mark != (asR d).Mark)) else (some false)) = some false := by
            by_cases q : c.Mark = 0
            · rw [q]; rfl
            · have : c.Mark = d.mark := by
                by_cases q2 : c.Mark = d.mark
                · exact q2
                · exact absurd ⟨q, q2⟩ k1
              rw [this]; simp [asR]
          rw [hb, if_neg k1, Option.bind_some, cond_false]
          by_cases k2 : c.Version = e.Version
          · have b2 : (c.Version != (convE e).Version) = false := by rw [k2]; exact bne_self_eq_false _
            rw [b2, if_neg (fun z => z k2)]
            simp only [Bool.not_false, cond_true]
            by_cases k3 : e.Write = true ∧ c.Version = lim
            · have : (bif (convE e).Write then (some (c.Version == lim)) else (some false)) = some true := by
                rw [show (convE e).Write = true from k3.1, cond_true, k3.2, beq_self_eq_true]
              rw [this, if_pos k3]; rfl
            · have hb3 : (bif (convE e).Write then (some (c.Version == lim)) else (some false)) = some false := by
                cases hw : (convE e).Write with
                | false => rfl
                | true =>
                  have : c.Version ≠ lim := fun z => k3 ⟨hw, z⟩
                  rw [cond_true, beq_false_of_ne this]
              rw [hb3, if_neg k3]
              simp only [Option.bind_some, cond_false, Brk.go, Bool.not_false, cond_true]
              have hres : ref01_Store_Reserve.f ⟨L, lim⟩ (convE e).Cell (convE e).Version (asR d).Mark = some (0, ⟨L.set e.Cell.toNat { c with Mark := d.mark }, lim⟩) := by
                unfold ref01_Store_Reserve.f
                have hb9 : ((c.Mark != 0) && (c.Mark != (asR d).Mark)) = false := by
                  by_cases q : c.Mark = 0
                  · rw [q]; rfl
                  · have : c.Mark = d.mark := by
                      by_cases q2 : c.Mark = d.mark
                      · exact q2
                      · exact absurd ⟨q, q2⟩ k1
                    rw [this]; simp [asR]
                rw [rhas_ok, decide_eq_true (show 0 ≤ (convE e).Cell ∧ (convE e).Cell < (L.length : Int) from ⟨i0, i1⟩), Option.bind_some, Bool.not_true, cond_false, decide_eq_false (show ¬ (asR d).Mark < 1 by show ¬ d.mark < 1; omega), cond_false]
                simp only [hc', Option.bind_some, hb9, cond_false, b2]; rfl
              rw [hres]
              simp only [Option.bind_some, bne_self_eq_false, cond_false, ew]; rfl
          · have b2 : (c.Version != (convE e).Version) = true := by simpa [convE] using k2
            rw [b2, if_pos k2]
            rfl
  · rw [if_pos hs]
    rcases h.atE with ⟨e1, e2⟩ | ⟨e, e1, e2, e3⟩
    · rw [decide_eq_true ⟨hs, e2⟩, cond_true, e1]
    · rw [decide_eq_false (fun z => by have := z.2; omega), cond_false, decide_eq_true (show 0 < (asR d).Status by show 0 < d.status; omega), cond_true, e1, hE e e1, Option.bind_some, ew]
      dsimp only
      rw [hbad, Option.bind_some]
      cases hc : at_ L e.Cell with
      | none =>
        have : at_ L (convE e).Cell = none := hc
        rw [this]; rfl
      | some c =>
        obtain ⟨i0, i1, i2⟩ := at_val hc
        have hc' : at_ L (convE e).Cell = some c := hc
        rw [hc']
        dsimp only
        simp only [Option.isNone_some, cond_false, Option.bind_some]
        by_cases k1 : c.Mark = d.mark
        · have b1 : (c.Mark != (asR d).Mark) = false := by rw [k1]; exact bne_self_eq_false _
          have hown : (bif decide ((asR d).Mark < 1) then (some true) else ((at_ L (convE e).Cell).bind fun x8 => some (x8.Mark != (asR d).Mark))) = some false := by
            rw [decide_eq_false (show ¬ (asR d).Mark < 1 by show ¬ d.mark < 1; omega), cond_false, hc', Option.bind_some, b1]
          have hdec : decide (0 ≤ (convE e).Cell ∧ (convE e).Cell < (L.length : Int)) = true := decide_eq_true ⟨i0, i1⟩
          rw [b1, if_pos k1, cond_false]
          by_cases k2 : d.status = 1 ∧ e.Write = true
          · have hb : (bif (asR d).Status == 1 then (some (convE e).Write) else (some false)) = some true := by
              rw [show (asR d).Status = 1 from k2.1, show (convE e).Write = true from k2.2]; rfl
            rw [hb, Option.bind_some, cond_true]
            have hv := (h.don k2.1 d.at_.toNat e c (by omega) e3 hc k1).2 k2.2
            have hput : ref01_Store_Put.f ⟨L, lim⟩ (convE e).Cell (asR d).Mark (convE e).New = some (0, ⟨L.set e.Cell.toNat (relC d e c), lim⟩) := by
              unfold ref01_Store_Put.f
              rw [rhas_ok, hdec, Option.bind_some, Bool.not_true, cond_false]
              dsimp only
              rw [hown, Option.bind_some, cond_false]
              simp only [hc', Option.bind_some, beq_false_of_ne hv, cond_false]
              have s1 : at_ (L.set e.Cell.toNat { c with Mark := 0 }) (convE e).Cell = some { c with Mark := 0 } := by rw [show (convE e).Cell = e.Cell from rfl, at_set hc, if_pos rfl]
              rw [show (convE e).Cell.toNat = e.Cell.toNat from rfl, s1]
              simp only [Option.bind_some]
              have s2 : at_ ((L.set e.Cell.toNat { c with Mark := 0 }).set e.Cell.toNat { c with Mark := 0, Value := (convE e).New }) (convE e).Cell = some { c with Mark := 0, Value := (convE e).New } := by
                rw [List.set_set, show (convE e).Cell = e.Cell from rfl, at_set hc, if_pos rfl]
              rw [s2]
              simp only [Option.bind_some, List.set_set]
              rw [show relC d e c = ⟨e.New, wu32 (c.Version + 1), 0⟩ from if_pos k2]; rfl
            rw [hput]; rfl
          · have hb : (bif (asR d).Status == 1 then (some (convE e).Write) else (some false)) = some false := by
              by_cases q : d.status = 1
              · have : e.Write = false := by
                  cases hw : e.Write with
                  | false => rfl
                  | true => exact absurd ⟨q, hw⟩ k2
                rw [show (asR d).Status = 1 from q, show (convE e).Write = false from this]; rfl
              · rw [show ((asR d).Status == 1) = false from beq_false_of_ne q]; rfl
            rw [hb, Option.bind_some, cond_false]
            have hrel : ref01_Store_Release.f ⟨L, lim⟩ (convE e).Cell (asR d).Mark = some (0, ⟨L.set e.Cell.toNat (relC d e c), lim⟩) := by
              unfold ref01_Store_Release.f
              rw [rhas_ok, hdec, Option.bind_some, Bool.not_true, cond_false]
              dsimp only
              rw [hown, Option.bind_some, cond_false]
              simp only [hc', Option.bind_some]
              rw [show relC d e c = { c with Mark := 0 } from if_neg k2]; rfl
            rw [hrel]; rfl
        · have b1 : (c.Mark != (asR d).Mark) = true := by simpa [asR] using k1
          rw [b1, if_neg k1]; rfl
end Go.Proofs
