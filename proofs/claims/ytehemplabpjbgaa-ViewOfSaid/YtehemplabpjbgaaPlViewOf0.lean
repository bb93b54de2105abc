/- Plain laws of what is reached, parts P06VB. On no condition. -/
import Derived.Test.YtehemplabpjbgaaFnViewOf0
import Derived.Test.YtehemplabpjbgaaFr2
import Derived.Test.YtehemplabpjbgaaFr1
set_option linter.all false
/-! Lists of words: fields, views run on a list. -/
set_option linter.unusedVariables false
namespace Go.Proofs
open Go.Sl
def InObj (i f : Int) : Prop := 0 ≤ i ∧ i < 32 ∧ 0 ≤ f ∧ f < 8
instance (i f : Int) : Decidable (InObj i f) := inferInstanceAs (Decidable (_ ∧ _))
theorem prd {s : List Int} {i : Int} (h : 0 ≤ i ∧ i < (s.length : Int)) : plainI.rd s i = (s.getD i.toNat 0, s) := by
  show ((view_Plain_Read.f s i).getD 0, s) = _
  unfold view_Plain_Read.f view_Plain_has.f
  have h2 : s[i.toNat]? = some s[i.toNat] := List.getElem?_eq_getElem (by omega)
  have h1 : (decide (0 ≤ i) && decide (i < (s.length : Int))) = true := by simp; omega
  have h3 : at_ s i = some s[i.toNat] := by unfold at_; rw [decide_eq_true h.1, cond_true, h2]
  simp only [h1, Option.bind_some, Bool.not_true, cond_false, h3, Option.getD_some, List.getD, h2]
theorem pwr {s : List Int} {i x : Int} (h : 0 ≤ i ∧ i < (s.length : Int)) : plainI.wr s i x = s.set i.toNat x := by
  show (view_Plain_Write.f s i x).getD s = _
  unfold view_Plain_Write.f view_Plain_has.f
  have h2 : s[i.toNat]? = some s[i.toNat] := List.getElem?_eq_getElem (by omega)
  have h1 : (decide (0 ≤ i) && decide (i < (s.length : Int))) = true := by simp; omega
  have h3 : at_ s i = some s[i.toNat] := by unfold at_; rw [decide_eq_true h.1, cond_true, h2]
  simp only [h1, Option.bind_some, cond_true, h3, Option.getD_some]
theorem runB {α β : Type} (x : VM α) (g : α → VM β) (s : List Int) : VM.run plainI (x.bind g) s = (VM.run plainI x s).bind fun p => VM.run plainI (g p.1) p.2 := VM.run_bind plainI x g s
theorem runR {α : Type} (a : α) (s : List Int) : VM.run plainI (VM.ret a) s = some (a, s) := rfl
theorem runO {α : Type} (x : Option α) (s : List Int) : VM.run plainI (VM.opt x) s = x.map fun a => (a, s) := by cases x <;> rfl
theorem runC {α : Type} (c : Bool) (x y : VM α) (s : List Int) : VM.run plainI (bif c then x else y) s = bif c then VM.run plainI x s else VM.run plainI y s := by cases c <;> rfl
theorem runRd {α : Type} {i : Int} (g : Int → VM α) {s : List Int} (h : 0 ≤ i ∧ i < (s.length : Int)) : VM.run plainI (VM.rd i g) s = VM.run plainI (g (s.getD i.toNat 0)) s := by
  show VM.run plainI (g (plainI.rd s i).1) (plainI.rd s i).2 = _
  have e := prd h
  exact congrArg (fun p : Int × List Int => VM.run plainI (g p.1) p.2) e
theorem runWr {α : Type} {i x : Int} (g : VM α) {s : List Int} (h : 0 ≤ i ∧ i < (s.length : Int)) : VM.run plainI (VM.wr i x g) s = VM.run plainI g (s.set i.toNat x) := by
  show VM.run plainI g (plainI.wr s i x) = _
  exact congrArg (fun p : List Int => VM.run plainI g p) (pwr h)
/-- As many words as there are, none below 0. -/
def Good (s : List Int) : Prop := s.length = 738 ∧ ∀ j, 0 ≤ s.getD j 0
def goodB (s : List Int) : Bool := s.length == 738 && s.all fun x => decide (0 ≤ x)
theorem good_of {s : List Int} (h : goodB s = true) : Good s := by
  simp only [goodB, Bool.and_eq_true, beq_iff_eq, List.all_eq_true, decide_eq_true_eq] at h
  refine ⟨h.1, fun j => ?_⟩
  rw [List.getD]
  cases e : s[j]? with
  | none => simp
  | some x => simpa using h.2 x (List.mem_of_getElem? e)
def numb (w : Int) : Int := if 4611686018427387904 < w then 0 else w
theorem numb_nn {w : Int} (h : 0 ≤ w) : 0 ≤ numb w := by unfold numb; split <;> omega
theorem numb_le {w : Int} : numb w ≤ 4611686018427387904 := by unfold numb; split <;> omega
theorem numb_id {w : Int} (h : w ≤ 4611686018427387904) : numb w = w := by unfold numb; rw [if_neg (by omega)]
def fld (s : List Int) (i f : Int) : Int := if InObj i f then numb (s.getD (480 + 8 * i + f).toNat 0) else 0
def put (s : List Int) (i f n : Int) : List Int := if InObj i f ∧ 0 ≤ n then s.set (480 + 8 * i + f).toNat n else s
theorem fld_nn {s : List Int} (h : Good s) (i f : Int) : 0 ≤ fld s i f := by
  unfold fld; split
  · exact numb_nn (h.2 _)
  · omega
theorem fld_le (s : List Int) (i f : Int) : fld s i f ≤ 4611686018427387904 := by
  unfold fld; split
  · exact numb_le
  · omega
theorem getD_set (s : List Int) (a b : Nat) (v : Int) : (s.set a v).getD b 0 = if a = b ∧ b < s.length then v else s.getD b 0 := by
  simp only [List.getD]
  by_cases e : a = b
  · subst e
    by_cases h : a < s.length
    · rw [List.getElem?_set_self h]; simp [h]
    · rw [List.getElem?_eq_none (by simpa using h)]
      rw [List.getElem?_eq_none (by omega)]; simp [h]
  · rw [List.getElem?_set_ne e]; simp [e]
theorem put_len (s : List Int) (i f n : Int) : (put s i f n).length = s.length := by unfold put; split <;> simp
theorem good_put {s : List Int} (h : Good s) (i f n : Int) : Good (put s i f n) := by
  refine ⟨by rw [put_len]; exact h.1, fun j => ?_⟩
  unfold put
  split
  · rename_i hn
    rw [getD_set]; split
    · omega
    · exact h.2 j
  · exact h.2 j
theorem fld_put {s : List Int} (h : Good s) (i f n i' f' : Int) (hn : n ≤ 4611686018427387904) : fld (put s i f n) i' f' = if i = i' ∧ f = f' ∧ InObj i f ∧ 0 ≤ n then n else fld s i' f' := by
  unfold put fld
  by_cases h1 : InObj i f ∧ 0 ≤ n
  · rw [if_pos h1]
    by_cases h2 : InObj i' f'
    · rw [if_pos h2, if_pos h2, getD_set, h.1]
      have a := h1.1
      unfold InObj at a h2
      by_cases e : i = i' ∧ f = f'
      · obtain ⟨rfl, rfl⟩ := e
        rw [if_pos ⟨rfl, by omega⟩, if_pos ⟨rfl, rfl, h1.1, h1.2⟩, numb_id hn]
      · rw [if_neg (by omega), if_neg (fun e' => e ⟨e'.1, e'.2.1⟩)]
    · rw [if_neg h2, if_neg h2, if_neg]
      rintro ⟨rfl, rfl, q, _⟩; exact h2 q
  · rw [if_neg h1]
    have : ¬ (i = i' ∧ f = f' ∧ InObj i f ∧ 0 ≤ n) := fun e => h1 e.2.2
    rw [if_neg this]
theorem band_65535 {x : Int} (h : 0 ≤ x) (h2 : x < 9223372036854775808) : band .i64 x 65535 = x % 65536 := by
  have := band_mod_i64 (x := x) 16 (by decide) h (by omega)
  simpa using this
theorem at_some {α : Type} {l : List α} {i : Int} (h : 0 ≤ i) (h2 : i < (l.length : Int)) : ∃ x, at_ l i = some x ∧ x ∈ l := by
  have h3 : l[i.toNat]? = some (l[i.toNat]'(by omega)) := List.getElem?_eq_getElem (by omega)
  refine ⟨l[i.toNat]'(by omega), ?_, List.getElem_mem _⟩
  unfold at_; rw [decide_eq_true h, cond_true, h3]
def hd : List Int → Int
  | [] => 0
  | t :: _ => t + 1
def la (l : List Int) : Int := match l.getLast? with | none => 0 | some t => t + 1
end Go.Proofs
