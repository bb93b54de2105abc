/- Plain laws of what QueuePlays reaches, part P14Remove. On no condition. -/
import Derived.Test.YtaiipbflnnfaaaaP14QueueQueuePlays
import Derived.Test.YtaiipbflnnfaaaaFnQueuePlays0
set_option linter.all false
/-! One is removed from a queue. -/
set_option linter.unusedVariables false
namespace Go.Proofs
open Go.Sl
def idx (l : List Int) (x : Int) : Int := if x ∈ l then (l.idxOf x : Int) else -1
theorem at_drop {l : List Int} {i : Nat} (h : i < l.length) : at_ l (i : Int) = some l[i] := by
  unfold at_
  rw [decide_eq_true (by omega), cond_true, show ((i : Int)).toNat = i by omega, List.getElem?_eq_getElem h]
theorem index_l1 (l : List Int) (x : Int) (hl : l.length ≤ 1000) : ∀ (n k i : Nat), i + n = l.length → n < k → x ∉ l.take i → slices_Index_int_int.l1 l x k (i : Int) = some (if x ∈ l then Brk.ret (l.idxOf x : Int) else Brk.nx ()) := by
  intro n
  induction n with
  | zero =>
    intro k i h hk hx
    obtain ⟨k, rfl⟩ : ∃ q, k = q + 1 := ⟨k - 1, by omega⟩
    unfold slices_Index_int_int.l1
    rw [decide_eq_false (by omega), cond_false]
    rw [List.take_of_length_le (by omega)] at hx
    rw [if_neg hx]
  | succ n ih =>
    intro k i h hk hx
    obtain ⟨k, rfl⟩ : ∃ q, k = q + 1 := ⟨k - 1, by omega⟩
    have hi : i < l.length := by omega
    unfold slices_Index_int_int.l1
    rw [decide_eq_true (by omega), cond_true, at_drop hi, Option.bind_some]
    by_cases e : x = l[i]
    · have hm : x ∈ l := by rw [e]; exact List.getElem_mem hi
      have hidx : l.idxOf x = i := by
        have h1 : l = l.take i ++ l[i] :: l.drop (i + 1) := by rw [← List.drop_eq_getElem_cons hi, List.take_append_drop]
        rw [h1, List.idxOf_append, if_neg hx, ← e, List.idxOf_cons_self]; simp; omega
      have : (x == l[i]) = true := by simpa using e
      rw [this, cond_true, if_pos hm, hidx]
    · have : (x == l[i]) = false := by simpa using e
      rw [this, cond_false, w64_id (by omega) (by omega)]
      have := ih k (i + 1) (by omega) (by omega) (by
        rw [List.take_succ_eq_append_getElem hi, List.mem_append]
        rintro (q | q)
        · exact hx q
        · exact e (by simpa using q))
      rw [show ((i : Int) + 1) = ((i + 1 : Nat) : Int) by omega]; exact this
theorem index_ok (l : List Int) (x : Int) (hl : l.length ≤ 32) (k : Nat) (hk : 40 ≤ k) : slices_Index_int_int.f k l x = some (idx l x) := by
  unfold slices_Index_int_int.f idx
  have := index_l1 l x (by omega) l.length k 0 (by omega) (by omega) (by simp)
  rw [show ((0 : Nat) : Int) = 0 from rfl] at this
  rw [this, Option.bind_some]
  by_cases h : x ∈ l
  · rw [if_pos h, if_pos h]; rfl
  · rw [if_neg h, if_neg h]; rfl
theorem delete_ok (l : List Int) (i : Nat) (hi : i < l.length) : slices_Delete_int_int.f l (i : Int) ((i : Int) + 1) = some (l.eraseIdx i) := by
  unfold slices_Delete_int_int.f
  have hc : delOk l (i : Int) ((i : Int) + 1) = true := by simp [delOk]; omega
  rw [hc]
  have e0 : ((i : Int) == (i : Int) + 1) = false := by simp; omega
  simp only [chk, cond_true, Option.bind_some, e0, cond_false]
  have hz := len_delz hc
  have hN : delN l (i : Int) ((i : Int) + 1) = l.length - 1 := by unfold delN; omega
  congr 1
  rw [hN]
  rw [List.take_append_of_le_length (by rw [List.length_take, hz]; omega), List.take_take, Nat.min_self]
  unfold delz
  rw [hN, show ((i : Int)).toNat = i by omega, show ((i : Int) + 1).toNat = i + 1 by omega, List.eraseIdx_eq_take_drop_succ]
  rw [List.take_append_of_le_length (by simp; omega), List.take_of_length_le (by simp; omega)]
/-- A queue is laid anew. -/
def layQ (s : List Int) : List Int → List Int
  | [] => s
  | [t] => put s t 2 0
  | t :: u :: l => layQ (put s t 2 (u + 1)) (u :: l)
def qput (s : List Int) (obj : Int) (l : List Int) : List Int :=
  match l with
  | [] => put (put (layQ s []) obj 2 0) obj 3 0
  | t :: r => put (put (layQ s (t :: r)) obj 2 (t + 1)) obj 3 ((t :: r).getLast (by simp) + 1)
theorem good_layQ : ∀ {l s : List Int}, Good s → Good (layQ s l)
  | [], _, g => g
  | [_], _, g => good_put g _ _ _
  | _ :: u :: l, _, g => good_layQ (l := u :: l) (good_put g _ _ _)
theorem good_qput {s : List Int} (g : Good s) (obj : Int) (l : List Int) : Good (qput s obj l) := by
  cases l with
  | nil => exact good_put (good_put g _ _ _) _ _ _
  | cons t r => exact good_put (good_put (good_layQ g) _ _ _) _ _ _
theorem put_l1 (l : List Int) (hl : l.length ≤ 1000) (hr : ∀ x ∈ l, 0 ≤ x ∧ x < 32) : ∀ (n k i : Nat) (s : List Int), Good s → i + n = l.length → n < k → VM.run plainI (queue_put.l1 l k (i : Int)) s = some ((), layQ s (l.drop i)) := by
  intro n
  induction n with
  | zero =>
    intro k i s g h hk
    obtain ⟨k, rfl⟩ : ∃ q, k = q + 1 := ⟨k - 1, by omega⟩
    unfold queue_put.l1
    rw [decide_eq_false (by omega), cond_false, List.drop_of_length_le (by omega)]; rfl
  | succ n ih =>
    intro k i s g h hk
    obtain ⟨k, rfl⟩ : ∃ q, k = q + 1 := ⟨k - 1, by omega⟩
    have hi : i < l.length := by omega
    have ew : w64 ((i : Int) + 1) = ((i + 1 : Nat) : Int) := by rw [w64_id (by omega) (by omega)]; omega
    unfold queue_put.l1
    rw [decide_eq_true (by omega), cond_true, runB, runO, at_drop hi, Option.map_some, Option.bind_some, ew, List.drop_eq_getElem_cons hi]
    have r1 := hr _ (List.getElem_mem hi)
    by_cases q : i + 1 < l.length
    · have r2 := hr _ (List.getElem_mem q)
      have e2 : w64 (l[i + 1] + 1) = l[i + 1] + 1 := w64_id (by omega) (by omega)
      rw [decide_eq_true (by omega), cond_true, runB, runO, at_drop q, Option.map_some, Option.bind_some, e2, runB, put_ok g _ 2 _ (by omega), Option.bind_some, ih k (i + 1) _ (good_put g _ _ _) (by omega) (by omega), List.drop_eq_getElem_cons q]
      rfl
    · rw [decide_eq_false (by omega), cond_false, runB, put_ok g _ 2 0 (by decide), Option.bind_some, ih k (i + 1) _ (good_put g _ _ _) (by omega) (by omega), List.drop_of_length_le (by omega)]
      rfl
theorem qput_ok {s : List Int} (g : Good s) (k : Nat) (obj : Int) (l : List Int) (hl : l.length ≤ 32) (hk : 40 ≤ k) (hr : ∀ x ∈ l, 0 ≤ x ∧ x < 32) : VM.run plainI (queue_put.f k obj l) s = some ((), qput s obj l) := by
  unfold queue_put.f
  have h0 := put_l1 l (by omega) hr l.length k 0 s g (by omega) (by omega)
  rw [show ((0 : Nat) : Int) = 0 from rfl] at h0
  rw [runB, h0, Option.bind_some, List.drop_zero]
  cases l with
  | nil =>
    rw [decide_eq_false (by simp), cond_false, runB, put_ok (good_layQ g) obj 2 0 (by decide), Option.bind_some, runB, put_ok (good_put (good_layQ g) _ _ _) obj 3 0 (by decide)]; rfl
  | cons t r =>
    have hlen : (t :: r).length = r.length + 1 := rfl
    have r1 := hr t List.mem_cons_self
    have r2 := hr ((t :: r).getLast (by simp)) (List.getLast_mem _)
    have e1 : at_ (t :: r) 0 = some t := rfl
    have e2 : at_ (t :: r) (w64 (((t :: r).length : Int) - 1)) = some ((t :: r).getLast (by simp)) := by
      rw [w64_id (by omega) (by omega), show (((t :: r).length : Int) - 1) = (((t :: r).length - 1 : Nat) : Int) by omega, at_drop (by omega), List.getLast_eq_getElem]
    rw [decide_eq_true (by omega), cond_true, runB, runO, e1, Option.map_some, Option.bind_some, runB, runO, e2, Option.map_some, Option.bind_some]
    have e3 : w64 (t + 1) = t + 1 := w64_id (by omega) (by omega)
    have e4 : w64 ((t :: r).getLast (by simp) + 1) = (t :: r).getLast (by simp) + 1 := w64_id (by omega) (by omega)
    rw [e3, e4, runB, put_ok (good_layQ g) obj 2 (t + 1) (by omega), Option.bind_some, runB, put_ok (good_put (good_layQ g) _ _ _) obj 3 _ (by omega)]
    rfl
def removeTo (s : List Int) (obj t : Int) : List Int := put (qput s obj ((qlist s obj).eraseIdx ((qlist s obj).idxOf t))) t 2 0
theorem remove_ok {s : List Int} (g : Good s) (k : Nat) (obj t : Int) (hk : 40 ≤ k) : VM.run plainI (queue_Remove.f k obj t) s = some (if t ∈ qlist s obj then (true, removeTo s obj t) else (false, s)) := by
  have hlen : (qlist s obj).length ≤ 32 := chain_len s 32 _
  unfold queue_Remove.f
  rw [runB, list_ok g k hk, Option.bind_some, runB, runO, index_ok _ _ hlen k hk, Option.map_some, Option.bind_some]
  unfold idx
  by_cases h : t ∈ qlist s obj
  · rw [if_pos h, if_pos h]
    have hi : (qlist s obj).idxOf t < (qlist s obj).length := List.idxOf_lt_length_iff.2 h
    rw [decide_eq_false (by omega), cond_false, w64_id (by omega) (by omega), runB, runO, delete_ok _ _ hi, Option.map_some, Option.bind_some, runB, qput_ok g k obj _ (by rw [List.length_eraseIdx]; split <;> omega) hk (fun x hx => qlist_rg x (List.mem_of_mem_eraseIdx hx)), Option.bind_some, runB, put_ok (good_qput g _ _) t 2 0 (by decide)]
    rfl
  · rw [if_neg h, if_neg h]; rfl
theorem good_removeTo {s : List Int} (g : Good s) (obj t : Int) : Good (removeTo s obj t) := good_put (good_qput g _ _) _ _ _
end Go.Proofs
