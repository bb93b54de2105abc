/- Plain laws of what is reached, parts P05VB, P05VC. On no condition. -/
import Derived.Test.YtakhollbclkdkaaFnViewTells0
import Derived.Test.YtakhollbclkdkaaFr1
set_option linter.all false
/-! Lists of words: fields, views run on a list. -/
set_option linter.unusedVariables false
namespace Go.Proofs
open Go.Sl
def InObj (i f : Int) : Prop := 0 ≤ i ∧ i < 32 ∧ 0 ≤ f ∧ f < 8
instance (i f : Int) : Decidable (InObj i f) := inferInstanceAs (Decidable (_ ∧ _))
theorem prd {s : List Int} {i : Int} (h : 0 ≤ i ∧ i < (s.length : Int)) : plainI.rd s i = (s.getD i.toNat 0, s) := by
  show ((view_Plain_Read.f s i).getD 0, s) = _
  unfold view_Plain_Read.f view_Plain_has.f
  have h2 : s[i.toNat]? = some s[i.toNat] := List.getElem?_eq_getElem (by omega)
  have h1 : (decide (0 ≤ i) && decide (i < (s.length : Int))) = true := by simp; omega
  have h3 : at_ s i = some s[i.toNat] := by unfold at_; rw [decide_eq_true h.1, cond_true, h2]
  simp only [h1, Option.bind_some, Bool.not_true, cond_false, h3, Option.getD_some, List.getD, h2]
theorem pwr {s : List Int} {i x : Int} (h : 0 ≤ i ∧ i < (s.length : Int)) : plainI.wr s i x = s.set i.toNat x := by
  show (view_Plain_Write.f s i x).getD s = _
  unfold view_Plain_Write.f view_Plain_has.f
  have h2 : s[i.toNat]? = some s[i.toNat] := List.getElem?_eq_getElem (by omega)
  have h1 : (decide (0 ≤ i) && decide (i < (s.length : Int))) = true := by simp; omega
  have h3 : at_ s i = some s[i.toNat] := by unfold at_; rw [decide_eq_true h.1, cond_true, h2]
  simp only [h1, Option.bind_some, cond_true, h3, Option.getD_some]
theorem runB {α β : Type} (x : VM α) (g : α → VM β) (s : List Int) : VM.run plainI (x.bind g) s = (VM.run plainI x s).bind fun p => VM.run plainI (g p.1) p.2 := VM.run_bind plainI x g s
theorem runR {α : Type} (a : α) (s : List Int) : VM.run plainI (VM.ret a) s = some (a, s) := rfl
theorem runO {α : Type} (x : Option α) (s : List Int) : VM.run plainI (VM.opt x) s = x.map fun a => (a, s) := by cases x <;> rfl
theorem runC {α : Type} (c : Bool) (x y : VM α) (s : List Int) : VM.run plainI (bif c then x else y) s = bif c then VM.run plainI x s else VM.run plainI y s := by cases c <;> rfl
theorem runRd {α : Type} {i : Int} (g : Int → VM α) {s : List Int} (h : 0 ≤ i ∧ i < (s.length : Int)) : VM.run plainI (VM.rd i g) s = VM.run plainI (g (s.getD i.toNat 0)) s := by
  show VM.run plainI (g (plainI.rd s i).1) (plainI.rd s i).2 = _
  have e := prd h
  exact congrArg (fun p : Int × List Int => VM.run plainI (g p.1) p.2) e
theorem runWr {α : Type} {i x : Int} (g : VM α) {s : List Int} (h : 0 ≤ i ∧ i < (s.length : Int)) : VM.run plainI (VM.wr i x g) s = VM.run plainI g (s.set i.toNat x) := by
  show VM.run plainI g (plainI.wr s i x) = _
  exact congrArg (fun p : List Int => VM.run plainI g p) (pwr h)
/-- As many words as there are, none below 0. -/
def Good (s : List Int) : Prop := s.length = 738 ∧ ∀ j, 0 ≤ s.getD j 0
def goodB (s : List Int) : Bool := s.length == 738 && s.all fun x => decide (0 ≤ x)
theorem good_of {s : List Int} (h : goodB s = true) : Good s := by
  simp only [goodB, Bool.and_eq_true, beq_iff_eq, List.all_eq_true, decide_eq_true_eq] at h
  refine ⟨h.1, fun j => ?_⟩
  rw [List.getD]
  cases e : s[j]? with
  | none => simp
  | some x => simpa using h.2 x (List.mem_of_getElem? e)
def numb (w : Int) : Int := if 4611686018427387904 < w then 0 else w
theorem numb_nn {w : Int} (h : 0 ≤ w) : 0 ≤ numb w := by unfold numb; split <;> omega
theorem numb_le {w : Int} : numb w ≤ 4611686018427387904 := by unfold numb; split <;> omega
theorem numb_id {w : Int} (h : w ≤ 4611686018427387904) : numb w = w := by unfold numb; rw [if_neg (by omega)]
def fld (s : List Int) (i f : Int) : Int := if InObj i f then numb (s.getD (480 + 8 * i + f).toNat 0) else 0
def put (s : List Int) (i f n : Int) : List Int := if InObj i f ∧ 0 ≤ n then s.set (480 + 8 * i + f).toNat n else s
theorem fld_nn {s : List Int} (h : Good s) (i f : Int) : 0 ≤ fld s i f := by
  unfold fld; split
  · exact numb_nn (h.2 _)
  · omega
theorem fld_le (s : List Int) (i f : Int) : fld s i f ≤ 4611686018427387904 := by
  unfold fld; split
  · exact numb_le
  · omega
theorem getD_set (s : List Int) (a b : Nat) (v : Int) : (s.set a v).getD b 0 = if a = b ∧ b < s.length then v else s.getD b 0 := by
  simp only [List.getD]
  by_cases e : a = b
  · subst e
    by_cases h : a < s.length
    · rw [List.getElem?_set_self h]; simp [h]
    · rw [List.getElem?_eq_none (by simpa using h)]
      rw [List.getElem?_eq_none (by omega)]; simp [h]
  · rw [List.getElem?_set_ne e]; simp [e]
theorem put_len (s : List Int) (i f n : Int) : (put s i f n).length = s.length := by unfold put; split <;> simp
theorem good_put {s : List Int} (h : Good s) (i f n : Int) : Good (put s i f n) := by
  refine ⟨by rw [put_len]; exact h.1, fun j => ?_⟩
  unfold put
  split
  · rename_i hn
    rw [getD_set]; split
    · omega
    · exact h.2 j
  · exact h.2 j
theorem fld_put {s : List Int} (h : Good s) (i f n i' f' : Int) (hn : n ≤ 4611686018427387904) : fld (put s i f n) i' f' = if i = i' ∧ f = f' ∧ InObj i f ∧ 0 ≤ n then n else fld s i' f' := by
  unfold put fld
  by_cases h1 : InObj i f ∧ 0 ≤ n
  · rw [if_pos h1]
    by_cases h2 : InObj i' f'
    · rw [if_pos h2, if_pos h2, getD_set, h.1]
      have a := h1.1
      unfold InObj at a h2
      by_cases e : i = i' ∧ f = f'
      · obtain ⟨rfl, rfl⟩ := e
        rw [if_pos ⟨rfl, by omega⟩, if_pos ⟨rfl, rfl, h1.1, h1.2⟩, numb_id hn]
      · rw [if_neg (by omega), if_neg (fun e' => e ⟨e'.1, e'.2.1⟩)]
    · rw [if_neg h2, if_neg h2, if_neg]
      rintro ⟨rfl, rfl, q, _⟩; exact h2 q
  · rw [if_neg h1]
    have : ¬ (i = i' ∧ f = f' ∧ InObj i f ∧ 0 ≤ n) := fun e => h1 e.2.2
    rw [if_neg this]
theorem band_65535 {x : Int} (h : 0 ≤ x) (h2 : x < 9223372036854775808) : band .i64 x 65535 = x % 65536 := by
  have := band_mod_i64 (x := x) 16 (by decide) h (by omega)
  simpa using this
theorem at_some {α : Type} {l : List α} {i : Int} (h : 0 ≤ i) (h2 : i < (l.length : Int)) : ∃ x, at_ l i = some x ∧ x ∈ l := by
  have h3 : l[i.toNat]? = some (l[i.toNat]'(by omega)) := List.getElem?_eq_getElem (by omega)
  refine ⟨l[i.toNat]'(by omega), ?_, List.getElem_mem _⟩
  unfold at_; rw [decide_eq_true h, cond_true, h3]
def hd : List Int → Int
  | [] => 0
  | t :: _ => t + 1
def la (l : List Int) : Int := match l.getLast? with | none => 0 | some t => t + 1
end Go.Proofs
/-! Lists as views; where lists are unlike. -/
set_option linter.unusedVariables false
namespace Go.Proofs
open Go.Sl
theorem rd_in {s : List Int} {i : Int} (h0 : 0 ≤ i) (h1 : i < (s.length : Int)) : rd_ s i = s.getD i.toNat 0 := congrArg Prod.fst (prd (s := s) ⟨h0, h1⟩)
theorem rd_out {s : List Int} {i : Int} (h : i < 0 ∨ (s.length : Int) ≤ i) : rd_ s i = 0 := by
  unfold rd_ view_Plain_Read.f view_Plain_has.f
  have : (decide (0 ≤ i) && decide (i < (s.length : Int))) = false := by
    rcases h with h | h
    · rw [decide_eq_false (by omega), Bool.false_and]
    · rw [decide_eq_false (p := i < _) (by omega), Bool.and_false]
  rw [this]; rfl
theorem rd_nat (s : List Int) (j : Nat) : rd_ s j = s.getD j 0 := by
  rcases Nat.lt_or_ge j s.length with h | h
  · rw [rd_in (by omega) (by omega)]; rfl
  · rw [rd_out (.inr (by omega)), List.getD, List.getElem?_eq_none h]; rfl
theorem lat_ok (s : List Int) (i : Int) : law05_at.f s i = some (rd_ s i) := by
  unfold law05_at.f
  by_cases h : 0 ≤ i ∧ i < (s.length : Int)
  · rw [decide_eq_false (by omega), decide_eq_false (by omega), Bool.or_false, cond_false, rd_in h.1 h.2]
    have h2 : s[i.toNat]? = some (s[i.toNat]'(by omega)) := List.getElem?_eq_getElem (by omega)
    unfold at_
    rw [decide_eq_true h.1, cond_true, h2, List.getD, h2]; rfl
  · rw [rd_out (by omega)]
    have : (decide (i < 0) || decide ((s.length : Int) ≤ i)) = true := by
      rcases (by omega : i < 0 ∨ (s.length : Int) ≤ i) with h | h
      · rw [decide_eq_true h]; rfl
      · rw [decide_eq_true (p := (s.length : Int) ≤ i) h, Bool.or_true]
    rw [this]; rfl
def wr_ (s : List Int) (i x : Int) : List Int := if 0 ≤ i ∧ i < (s.length : Int) then s.set i.toNat x else s
theorem wr_some (s : List Int) (i x : Int) : view_Plain_Write.f s i x = some (wr_ s i x) := by
  obtain ⟨r, h⟩ := write_ok s i x
  rw [h]; congr 1
  unfold wr_
  by_cases c : 0 ≤ i ∧ i < (s.length : Int)
  · have := pwr (x := x) c
    have e : plainI.wr s i x = (view_Plain_Write.f s i x).getD s := rfl
    rw [e, h] at this
    rw [if_pos c]; exact this
  · rw [if_neg c]
    unfold view_Plain_Write.f view_Plain_has.f at h
    have : (decide (0 ≤ i) && decide (i < (s.length : Int))) = false := by
      rcases (by omega : ¬ 0 ≤ i ∨ ¬ i < (s.length : Int)) with h | h
      · rw [decide_eq_false h, Bool.false_and]
      · rw [decide_eq_false (p := i < _) h, Bool.and_false]
    rw [this] at h
    injection h with h; exact h.symm
theorem wr_len (s : List Int) (i x : Int) : (wr_ s i x).length = s.length := by unfold wr_; split <;> simp
theorem wr_get (s : List Int) (i x : Int) (j : Nat) : (wr_ s i x).getD j 0 = if i = (j : Int) ∧ j < s.length then x else s.getD j 0 := by
  unfold wr_; split
  · rw [getD_set]
    by_cases e : i = (j : Int)
    · subst e; simp
    · rw [if_neg (by omega), if_neg (by omega)]
  · rw [if_neg (by omega)]
theorem chg_mem (a b : List Int) : ∀ (n : Nat) (e : view_Pair_uint64), e ∈ chgL a b n → ∃ j : Nat, e.At = j ∧ j < n ∧ e.Val = rd_ b j ∧ rd_ b j ≠ rd_ a j
  | 0, e, h => by cases h
  | n + 1, e, h => by
    unfold chgL at h; split at h
    · obtain ⟨j, a1, a2, a3⟩ := chg_mem a b n e h
      exact ⟨j, a1, by omega, a3⟩
    · rename_i hne
      rcases List.mem_append.1 h with h | h
      · obtain ⟨j, a1, a2, a3⟩ := chg_mem a b n e h
        exact ⟨j, a1, by omega, a3⟩
      · have : e = ⟨n, rd_ b n⟩ := by simpa using h
        subst this
        exact ⟨n, rfl, by omega, rfl, hne⟩
theorem chg_has (a b : List Int) : ∀ (n j : Nat), j < n → rd_ b j ≠ rd_ a j → (⟨j, rd_ b j⟩ : view_Pair_uint64) ∈ chgL a b n
  | 0, j, h, _ => by omega
  | n + 1, j, h, hne => by
    unfold chgL; split
    · rename_i he
      rcases (by omega : j < n ∨ j = n) with h | rfl
      · exact chg_has a b n j h hne
      · exact absurd he hne
    · rcases (by omega : j < n ∨ j = n) with h | rfl
      · exact List.mem_append_left _ (chg_has a b n j h hne)
      · exact List.mem_append_right _ (by simp)
theorem chg_sorted (a b : List Int) : ∀ n, (chgL a b n).Pairwise fun x y => x.At < y.At
  | 0 => .nil
  | n + 1 => by
    unfold chgL; split
    · exact chg_sorted a b n
    · refine List.pairwise_append.2 ⟨chg_sorted a b n, by simp, fun x hx y hy => ?_⟩
      obtain ⟨j, a1, a2, _⟩ := chg_mem a b n x hx
      have : y = ⟨n, rd_ b n⟩ := by simpa using hy
      subst this
      show x.At < (n : Int)
      omega
theorem changed_ok (a b : List Int) (ha : a.length < 1000) (hb : b.length < 1000) : view_Changed.f a b = some (chgL a b (max a.length b.length)) := by
  unfold view_Changed.f
  rw [decide_eq_true (by omega), decide_eq_true (by omega)]; rfl
end Go.Proofs
