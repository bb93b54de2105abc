/- Plain laws of what LayTakes reaches, part PureRows. On no condition. -/
import Derived.Test.YtonelfkcginmcaaFnLayTakes0
import Derived.Test.YtonelfkcginmcaaSlLaw
set_option linter.all false
/-! A list of lists, opened. -/
namespace Go.Proofs
open Go.Sl Go.RowKit Go.ChangeShapes Go.WideShapes Go.ChangeAt
theorem open_sl2 {H : Type} {enc : TypeId × Value → H} {P : Program} {W : World} {b0 : Nat} {sp : Nat → Bool} {hd : Bool} {r : Reach} {t t1 e : TypeId} {v : Value} {d : DataW H} {ps : List MemPlace} {α : Type} {K : EK α} {wf : α → Prop}
    (hp : Parse P e K.enc wf) (ht : P.underlying t = some (.slice t1)) (ht1 : P.underlying t1 = some (.slice e)) (hc1 : P.cellsOf t1 = 1) (hc : P.cellsOf e = K.sz) (hval : Value.okWide P W r b0 t v) (h : DataW.Trod enc P W 0 sp hd t v d ps) :
    ∃ xss : List (List α), Rd2 K v xss (Whole W) := by
  obtain ⟨n, h⟩ := h
  have hv1 : v.cells.toList = [v] := by
    cases v <;> first | rfl | (simp [Value.okWide, ht, Cell.okWide, Cell.ok] at hval)
  rw [hv1] at h
  obtain ⟨vs, h1, h2, -⟩ := open_slW (K := ekS) (wf := fun x => ∃ xs, Rd K x.1 xs (Whole W)) (fun n cs x hx => by
    have key : ∀ u : Value, u.oneCell' = true → cs = [u] → ∃ a : SV, cs = ekS.enc a ∧ ∃ xs, Rd K a.1 xs (Whole W) := fun u hu e => by
      subst e
      obtain ⟨xs, h3, -⟩ := open_slW (fun _ _ _ h => hp _ _ _ _ _ _ _ _ h) ht1 hc hx
      exact ⟨⟨u, hu⟩, rfl, xs, h3⟩
    rcases DataW.trod_slice ht1 hx with ⟨h0, -⟩ | ⟨a, len, cap, elems, rest, m, -, h0, -⟩
    · exact key _ rfl h0
    · exact key _ rfl h0) ht hc1 h
  classical
  let f : SV → List α := fun x => if hh : ∃ xs, Rd K x.1 xs (Whole W) then Classical.choose hh else []
  have hf : ∀ x : SV, (∃ xs, Rd K x.1 xs (Whole W)) → Rd K x.1 (f x) (Whole W) := fun x hh => by
    show Rd K x.1 (if hh : ∃ xs, Rd K x.1 xs (Whole W) then Classical.choose hh else []) _
    rw [dif_pos hh]; exact Classical.choose_spec hh
  refine ⟨vs.map f, vs, h1, by simp, fun i x l e1 e2 => ?_⟩
  rw [List.getElem?_map, e1] at e2
  injection e2 with e2
  subst e2
  exact hf x (h2 x (List.mem_of_getElem? e1))
end Go.Proofs
