/- Plain laws of what IrqPlays reaches, part P19Queue. On no condition. -/
import Derived.Test.YtehlmdihimmanaaP19ViewIrqPlays
import Derived.Test.YtehlmdihimmanaaP19RefIrqPlays
import Derived.Test.YtehlmdihimmanaaFnIrqPlays1
import Derived.Test.YtehlmdihimmanaaFnIrqPlays0
set_option linter.all false
/-! Queues, plainly. -/
set_option linter.unusedVariables false
namespace Go.Proofs
open Go.Sl
def nxt (s : List Int) (i : Int) : Option Int := if 1 ≤ fld s i 2 ∧ fld s i 2 ≤ 32 then some (fld s i 2 - 1) else none
def chain (s : List Int) : Nat → Option Int → List Int
  | 0, _ => []
  | _ + 1, none => []
  | n + 1, some t => t :: chain s n (nxt s t)
def qlist (s : List Int) (obj : Int) : List Int := chain s 32 (nxt s obj)
theorem nxt_rg {s : List Int} {i t : Int} (h : nxt s i = some t) : 0 ≤ t ∧ t < 32 := by
  unfold nxt at h; split at h
  · injection h with h; omega
  · cases h
theorem chain_rg {s : List Int} : ∀ (n : Nat) (o : Option Int), (∀ t, o = some t → 0 ≤ t ∧ t < 32) → ∀ x ∈ chain s n o, 0 ≤ x ∧ x < 32
  | 0, _, _, x, h => by simp [chain] at h
  | n + 1, none, _, x, h => by simp [chain] at h
  | n + 1, some t, ho, x, h => by
    simp only [chain, List.mem_cons] at h
    rcases h with rfl | h
    · exact ho _ rfl
    · exact chain_rg n _ (fun t e => nxt_rg e) x h
theorem chain_len (s : List Int) : ∀ (n : Nat) (o : Option Int), (chain s n o).length ≤ n
  | 0, _ => by simp [chain]
  | n + 1, none => by simp [chain]
  | n + 1, some t => by simp only [chain, List.length_cons]; have := chain_len s n (nxt s t); omega
theorem qlist_rg {s : List Int} {obj : Int} : ∀ x ∈ qlist s obj, 0 ≤ x ∧ x < 32 := chain_rg 32 _ fun t e => nxt_rg e
theorem ref2 {s : List Int} (g : Good s) (i : Int) : ∃ t b, VM.run plainI (lay_Ref.f i 2) s = some ((t, b), s) ∧ (if b then some t else none) = nxt s i ∧ (b = false → t = 0) := by
  rw [ref_ok g]
  unfold nxt
  by_cases q : 1 ≤ fld s i 2 ∧ fld s i 2 ≤ 32
  · rw [if_pos q, if_pos q]; exact ⟨_, _, rfl, rfl, fun e => by cases e⟩
  · rw [if_neg q, if_neg q]; exact ⟨_, _, rfl, rfl, fun _ => rfl⟩
def pushTo (s : List Int) (obj t : Int) : List Int :=
  if 1 ≤ fld (put s t 2 0) obj 3 ∧ fld (put s t 2 0) obj 3 ≤ 32 then put (put (put s t 2 0) (fld (put s t 2 0) obj 3 - 1) 2 (t + 1)) obj 3 (t + 1)
  else put (put (put s t 2 0) obj 2 (t + 1)) obj 3 (t + 1)
theorem there_ok (i : Int) : queue_there.f i = some (decide (InObj i 0)) := by
  unfold queue_there.f
  rw [obj_ok]
  by_cases h : InObj i 0 <;> simp [h]
theorem good_pushTo {s : List Int} (g : Good s) (obj t : Int) : Good (pushTo s obj t) := by
  unfold pushTo; split <;> exact good_put (good_put (good_put g _ _ _) _ _ _) _ _ _
theorem push_ok {s : List Int} (g : Good s) (obj t : Int) : VM.run plainI (queue_Push.f obj t) s = some (if InObj obj 0 ∧ InObj t 0 then (none, pushTo s obj t) else (some 2, s)) := by
  unfold queue_Push.f
  simp only [runB, runO, runC, there_ok, Option.map_some, Option.bind_some, runR]
  by_cases h1 : InObj obj 0
  · by_cases h2 : InObj t 0
    · have h2' := h2
      unfold InObj at h2'
      have g1 := good_put g t 2 0
      have ew : w64 (t + 1) = t + 1 := w64_id (by omega) (by omega)
      simp only [h1, h2, decide_true, Bool.not_true, cond_false, Option.bind_some, and_self, if_true, put_ok g t 2 0 (by decide), ref_ok g1, ew]
      unfold pushTo
      generalize fld (put s t 2 0) obj 3 = l
      by_cases q : 1 ≤ l ∧ l ≤ 32
      · have g2 := good_put g1 (l - 1) 2 (t + 1)
        simp only [if_pos q, cond_true, put_ok g1 (l - 1) 2 (t + 1) (by omega), put_ok g2 obj 3 (t + 1) (by omega), Option.bind_some]
      · have g2 := good_put g1 obj 2 (t + 1)
        simp only [if_neg q, cond_false, put_ok g1 obj 2 (t + 1) (by omega), put_ok g2 obj 3 (t + 1) (by omega), Option.bind_some]
    · simp only [h1, h2, decide_true, decide_false, Bool.not_true, Bool.not_false, cond_false, cond_true, Option.bind_some, and_false, if_false]
  · simp only [h1, decide_false, Bool.not_false, cond_true, Option.bind_some, false_and, if_false]
def popTo (s : List Int) (obj t : Int) : List Int :=
  let s1 := put s obj 2 (fld s t 2)
  if nxt s1 t = none then put (put (put s1 obj 2 0) obj 3 0) t 2 0 else put s1 t 2 0
theorem good_popTo {s : List Int} (g : Good s) (obj t : Int) : Good (popTo s obj t) := by
  unfold popTo; simp only []; split
  · exact good_put (good_put (good_put (good_put g _ _ _) _ _ _) _ _ _) _ _ _
  · exact good_put (good_put g _ _ _) _ _ _
theorem pop_ok {s : List Int} (g : Good s) (obj : Int) : VM.run plainI (queue_Pop.f obj) s = some (match nxt s obj with | none => ((0, false), s) | some t => ((t, true), popTo s obj t)) := by
  unfold queue_Pop.f
  obtain ⟨t, b, hr, hn, h0⟩ := ref2 g obj
  rw [runB, hr, Option.bind_some, ← hn]
  cases b with
  | false => rfl
  | true =>
    have hf := fld_le s t 2
    have g1 := good_put g obj 2 (fld s t 2)
    simp only [Bool.not_true, cond_false, runB, field_ok g, Option.bind_some, put_ok g obj 2 (fld s t 2) (by omega), if_true]
    obtain ⟨t', b', hr', hn', -⟩ := ref2 g1 t
    rw [hr', Option.bind_some]
    unfold popTo
    simp only [← hn']
    cases b' with
    | false =>
      have g2 := good_put g1 obj 2 0
      have g3 := good_put g2 obj 3 0
      simp only [Bool.not_false, cond_true, runB, put_ok g1 obj 2 0 (by decide), put_ok g2 obj 3 0 (by decide), put_ok g3 t 2 0 (by decide), Option.bind_some, runR]
      rfl
    | true =>
      simp only [Bool.not_true, cond_false, runB, put_ok g1 t 2 0 (by decide), Option.bind_some, runR]
      rfl
end Go.Proofs
