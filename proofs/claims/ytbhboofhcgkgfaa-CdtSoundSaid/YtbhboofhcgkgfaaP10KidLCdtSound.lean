/- Plain laws of what CdtSound reaches, part P10KidL. On no condition. -/
import Derived.Test.YtbhboofhcgkgfaaP10SlotBCdtSound
import Derived.Test.YtbhboofhcgkgfaaP10AppLCdtSound
import Derived.Test.YtbhboofhcgkgfaaFnCdtSound0
set_option linter.all false
/-! The kids that words tell, and the leaf. -/
set_option linter.unusedVariables false
namespace Go.Proofs
open Go.Sl
/-- A row of slots, each the next one's, from x on. -/
def Ch (s : List Int) : Int → List Int → Prop
  | x, [] => x = -1
  | x, c :: r => x = c ∧ 0 ≤ c ∧ c < 96 ∧ Ch s (sget s c 3) r
theorem kids_l {s : List Int} (g : Good s) : ∀ (l : List Int) (x : Int) (acc : List Int) (k : Nat), Ch s x l → acc.length + l.length ≤ 96 → l.length < k → VM.run plainI (cdt_Kids.l1 k (x, acc)) s = some (acc ++ l, s)
  | [], x, acc, k, h, hl, hk => by
    obtain ⟨k, rfl⟩ : ∃ q, k = q + 1 := ⟨k - 1, by simp at hk; omega⟩
    have h : x = -1 := h
    subst h
    unfold cdt_Kids.l1
    rw [List.append_nil]; rfl
  | c :: r, x, acc, k, h, hl, hk => by
    obtain ⟨k, rfl⟩ : ∃ q, k = q + 1 := ⟨k - 1, by simp at hk; omega⟩
    obtain ⟨rfl, c0, c1, h⟩ := h
    simp only [List.length_cons] at hl hk
    unfold cdt_Kids.l1
    have e1 : (x != -1) = true := by simp; omega
    have e2 : decide ((acc.length : Int) < 96) = true := by simp; omega
    rw [e1, e2, Bool.and_self, cond_true, runB, runO, app_one (by omega), Option.map_some, Option.bind_some, runB, sget_ok g, Option.bind_some]
    simp only []
    rw [kids_l g r _ _ k h (by simp; omega) (by omega)]
    simp
theorem kidsw_ok {s : List Int} (g : Good s) {i : Int} {l : List Int} (h : Ch s (sget s i 2) l) (hl : l.length ≤ 96) {k : Nat} (hk : 100 ≤ k) : VM.run plainI (cdt_Kids.f k i) s = some (l, s) := by
  unfold cdt_Kids.f
  rw [runB, sget_ok g, Option.bind_some, runB]
  simp only []
  rw [kids_l g l _ [] k h (by simpa using hl) (by omega)]
  rfl
theorem kids_l_any {s : List Int} (g : Good s) : ∀ (m : Nat) (x : Int) (acc : List Int) (k : Nat), -1 ≤ x → x < 96 → acc.length + m = 96 → m < k → (∀ y ∈ acc, 0 ≤ y ∧ y < 96) → ∃ l, VM.run plainI (cdt_Kids.l1 k (x, acc)) s = some (l, s) ∧ l.length ≤ 96 ∧ ∀ y ∈ l, 0 ≤ y ∧ y < 96 := by
  intro m
  induction m with
  | zero =>
    intro x acc k x0 x1 hl hk ha
    obtain ⟨k, rfl⟩ : ∃ q, k = q + 1 := ⟨k - 1, by omega⟩
    unfold cdt_Kids.l1
    have e2 : decide ((acc.length : Int) < 96) = false := by simp; omega
    rw [e2, Bool.and_false]
    exact ⟨acc, rfl, by omega, ha⟩
  | succ m ih =>
    intro x acc k x0 x1 hl hk ha
    obtain ⟨k, rfl⟩ : ∃ q, k = q + 1 := ⟨k - 1, by omega⟩
    unfold cdt_Kids.l1
    have e2 : decide ((acc.length : Int) < 96) = true := by simp; omega
    rw [e2, Bool.and_true]
    by_cases c : x = -1
    · subst c
      exact ⟨acc, rfl, by omega, ha⟩
    · have e1 : (x != -1) = true := by simpa using c
      rw [e1, cond_true, runB, runO, app_one (by omega), Option.map_some, Option.bind_some, runB, sget_ok g, Option.bind_some]
      have hr := sget_rg s x 3
      exact ih _ _ k hr.1 hr.2 (by simp; omega) (by omega) (fun y hy => by
        rcases List.mem_append.1 hy with z | z
        · exact ha y z
        · rw [List.mem_singleton] at z; omega)
theorem kids_any {s : List Int} (g : Good s) (i : Int) {k : Nat} (hk : 100 ≤ k) : ∃ l, VM.run plainI (cdt_Kids.f k i) s = some (l, s) ∧ l.length ≤ 96 ∧ ∀ y ∈ l, 0 ≤ y ∧ y < 96 := by
  unfold cdt_Kids.f
  rw [runB, sget_ok g, Option.bind_some, runB]
  have hr := sget_rg s i 2
  obtain ⟨l, e, h1, h2⟩ := kids_l_any g 96 (sget s i 2) [] k hr.1 hr.2 (by simp) (by omega) (fun y hy => by cases hy)
  simp only []
  rw [e]
  exact ⟨l, rfl, h1, h2⟩
/-- The leaf, so many steps on. -/
def leafN (s : List Int) : Nat → Int → Int
  | 0, x => x
  | n + 1, x => if sget s x 2 = -1 then x else leafN s n (sget s x 2)
theorem leafN_rg (s : List Int) : ∀ (n : Nat) (x : Int), x < 96 → leafN s n x < 96
  | 0, x, h => h
  | n + 1, x, h => by
    unfold leafN
    split
    · exact h
    · exact leafN_rg s n _ (sget_rg s x 2).2
theorem leaf_l {s : List Int} (g : Good s) : ∀ (m k : Nat) (n x : Int), 0 ≤ n → n + m = 96 → m < k → VM.run plainI (cdt_Leaf.l1 k (n, x)) s = some (leafN s m x, s)
  | 0, k, n, x, h0, h1, hk => by
    obtain ⟨k, rfl⟩ : ∃ q, k = q + 1 := ⟨k - 1, by omega⟩
    unfold cdt_Leaf.l1
    rw [decide_eq_false (by omega)]; rfl
  | m + 1, k, n, x, h0, h1, hk => by
    obtain ⟨k, rfl⟩ : ∃ q, k = q + 1 := ⟨k - 1, by omega⟩
    unfold cdt_Leaf.l1
    rw [decide_eq_true (by omega), cond_true, runB, sget_ok g, Option.bind_some, runC]
    simp only []
    by_cases c : sget s x 2 = -1
    · have e : (sget s x 2 == -1) = true := by simpa using c
      rw [e, cond_true, runR]
      show _ = some (if sget s x 2 = -1 then x else _, s)
      rw [if_pos c]
    · have e : (sget s x 2 == -1) = false := by simpa using c
      rw [e, cond_false, w64_id (by omega) (by omega), leaf_l g m k (n + 1) _ (by omega) (by omega) (by omega)]
      show _ = some (if sget s x 2 = -1 then x else _, s)
      rw [if_neg c]
theorem leaf_ok {s : List Int} (g : Good s) (i : Int) {k : Nat} (hk : 100 ≤ k) : VM.run plainI (cdt_Leaf.f k i) s = some (if InSlot i 0 then leafN s 96 i else -1, s) := by
  unfold cdt_Leaf.f
  rw [runB, runO, sthere_ok, Option.map_some, Option.bind_some, runC]
  by_cases c : InSlot i 0
  · rw [decide_eq_true c, if_pos c, Bool.not_true, cond_false, runB, leaf_l g 96 k 0 i (by decide) (by decide) (by omega), Option.bind_some]; rfl
  · rw [decide_eq_false c, if_neg c]; rfl
end Go.Proofs
