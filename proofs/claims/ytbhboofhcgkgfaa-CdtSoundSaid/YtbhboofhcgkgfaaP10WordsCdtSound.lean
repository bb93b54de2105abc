/- Plain laws of what CdtSound reaches, part P10Words. On no condition. -/
import Derived.Test.YtbhboofhcgkgfaaP10WFCdtSound
set_option linter.all false
/-! All words of a state, as the reference makes them. -/
set_option linter.unusedVariables false
namespace Go.Proofs
open Go.Sl
theorem set_at {q : List Int} (hl : q.length = 738) (i j v : Int) (hi : 0 ≤ i ∧ i < 738) (hj : 0 ≤ j) : (q.set i.toNat v).getD j.toNat 0 = if j = i then v else q.getD j.toNat 0 := by
  rw [getD_set]
  by_cases e : j = i
  · subst e; rw [if_pos ⟨rfl, by omega⟩, if_pos rfl]
  · rw [if_neg (by omega), if_neg e]
theorem rd_at {q : List Int} (hl : q.length = 738) {i : Int} (hi : 0 ≤ i ∧ i < 738) : at_ q i = some (q.getD i.toNat 0) := at_w hi.1 (by omega)
section
variable (i : Int) (x : ref10_Slot) (hi : 0 ≤ i ∧ i < 96) (hn : x.Kids.length ≤ 96) (hr : ∀ y ∈ x.Kids, 0 ≤ y ∧ y < 96)
include hi hn hr
theorem kids_ok : ∀ (rest dn : List Int) (a m : Int) (k : Nat) (q : List Int), x.Kids = dn ++ rest → m = dn.length → (dn = [] ∧ a = 0 ∨ ∃ d z, dn = d ++ [z] ∧ a = z + 1) → rest.length < k → q.length = 738 → rest.Nodup → (∀ y ∈ rest, q.getD (5 * y + 3).toNat 0 = 0 ∧ q.getD (5 * y + 4).toNat 0 = 0) →
    ∃ q', ref10_State_Words.l2 i x k (m, q) = some q' ∧ q'.length = 738 ∧ (∀ j : Int, 480 ≤ j → q'.getD j.toNat 0 = q.getD j.toNat 0) ∧
      ∀ s f, 0 ≤ s → s < 96 → 0 ≤ f → f < 5 → q'.getD (5 * s + f).toNat 0 = if f = 3 ∧ s ∈ rest then nextOf rest s else if f = 4 ∧ s ∈ rest then prv a rest s else if f = 2 ∧ s = i ∧ dn = [] ∧ rest ≠ [] then hd rest else q.getD (5 * s + f).toNat 0 := by
  intro rest
  induction rest with
  | nil =>
    intro dn a m k q hk hm ha hl hq hnd hz
    obtain ⟨k, rfl⟩ : ∃ z, k = z + 1 := ⟨k - 1, by simp at hl; omega⟩
    have : m = x.Kids.length := by rw [hk, hm]; simp
    unfold ref10_State_Words.l2
    rw [decide_eq_false (by omega), cond_false]
    exact ⟨q, rfl, hq, fun _ _ => rfl, fun s f _ _ _ _ => by simp⟩
  | cons y r ih =>
    intro dn a m k q hk hm ha hl hq hnd hz
    obtain ⟨k, rfl⟩ : ∃ z, k = z + 1 := ⟨k - 1, by simp at hl; omega⟩
    have hlen : (x.Kids.length : Int) = m + 1 + r.length := by rw [hk, hm]; simp; omega
    have hy := hr y (by rw [hk]; simp)
    have hym : at_ x.Kids m = some y := by
      unfold at_
      rw [decide_eq_true (by omega), cond_true, hk, hm, Int.toNat_natCast, List.getElem?_append_right (Nat.le_refl _)]; simp
    have hnd2 := List.nodup_cons.1 hnd
    unfold ref10_State_Words.l2
    rw [decide_eq_true (by omega), cond_true, hym, Option.bind_some]
    -- the first word
    have step1 : ∃ q1, (bif m == 0 then ((at_ q (w64 ((w64 (5 * i)) + 2))).bind fun x33 => some (q.set (w64 ((w64 (5 * i)) + 2)).toNat (wu64 (w64 (y + 1))))) else ((at_ x.Kids (w64 (m - 1))).bind fun x36 => (at_ q (w64 ((w64 (5 * y)) + 4))).bind fun x38 => some (q.set (w64 ((w64 (5 * y)) + 4)).toNat (wu64 (w64 (x36 + 1)))))) = some q1 ∧ q1.length = 738 ∧ ∀ j : Int, 0 ≤ j → q1.getD j.toNat 0 = if dn = [] ∧ j = 5 * i + 2 then y + 1 else if dn ≠ [] ∧ j = 5 * y + 4 then a else q.getD j.toNat 0 := by
      rcases ha with ⟨hd, rfl⟩ | ⟨d, z, hd, rfl⟩
      · have hm0 : (m == 0) = true := by simp [hm, hd]
        rw [hm0, cond_true, w64_id (x := 5 * i) (by omega) (by omega), w64_id (x := 5 * i + 2) (by omega) (by omega), rd_at hq (by omega), Option.bind_some, w64_id (by omega) (by omega), wu64_id (by omega) (by omega)]
        refine ⟨_, rfl, by simpa using hq, fun j hj => ?_⟩
        rw [set_at hq _ _ _ (by omega) hj]
        simp only [hd, true_and, ne_eq, not_true, false_and, if_false]
      · have hm0 : (m == 0) = false := by simp [hm, hd]; omega
        have hz := hr z (by rw [hk, hd]; simp)
        have hzm : at_ x.Kids (m - 1) = some z := by
          have hm1 : m - 1 = d.length := by rw [hm, hd]; simp
          unfold at_
          rw [decide_eq_true (by omega), cond_true, hk, hd, hm1, Int.toNat_natCast, List.append_assoc, List.getElem?_append_right (Nat.le_refl _)]; simp
        rw [hm0, cond_false, w64_id (x := m - 1) (by omega) (by omega), hzm, Option.bind_some, w64_id (x := 5 * y) (by omega) (by omega), w64_id (x := 5 * y + 4) (by omega) (by omega), rd_at hq (by omega), Option.bind_some, w64_id (by omega) (by omega), wu64_id (by omega) (by omega)]
        refine ⟨_, rfl, by simpa using hq, fun j hj => ?_⟩
        rw [set_at hq _ _ _ (by omega) hj]
        have : dn ≠ [] := by rw [hd]; simp
        simp only [this, false_and, if_false, ne_eq, not_false_eq_true, true_and]
    obtain ⟨q1, e1, l1, g1⟩ := step1
    rw [e1, Option.bind_some, w64_id (x := m + 1) (by omega) (by omega)]
    have ha' : (dn ++ [y] = [] ∧ y + 1 = 0 ∨ ∃ d z, dn ++ [y] = d ++ [z] ∧ y + 1 = z + 1) := .inr ⟨dn, y, rfl, rfl⟩
    have hk' : x.Kids = (dn ++ [y]) ++ r := by rw [hk]; simp
    cases r with
    | nil =>
      rw [decide_eq_false (by simp at hlen; omega), cond_false]
      obtain ⟨q', e2, l2, g2, g3⟩ := ih (dn ++ [y]) (y + 1) (m + 1) k q1 hk' (by simp [hm]) ha' (by simp at hl ⊢; omega) l1 List.nodup_nil (by simp)
      refine ⟨q', e2, l2, fun j hj => ?_, fun s f h1 h2 h3 h4 => ?_⟩
      · rw [g2 j hj, g1 j (by omega), if_neg (by omega), if_neg (by omega)]
      · rw [g3 s f h1 h2 h3 h4, g1 _ (by omega)]
        obtain ⟨z3, z4⟩ := hz y (by simp)
        simp only [List.not_mem_nil, and_false, if_false, List.mem_singleton, ne_eq, not_true, List.cons_ne_nil, not_false_eq_true, and_true, nextOf, prv, hd]
        by_cases hdn : dn = []
        · simp only [hdn, true_and, not_true, false_and, if_false]
          have ha0 : a = 0 := by
            rcases ha with ⟨_, h⟩ | ⟨d, z, h, _⟩
            · exact h
            · rw [hdn] at h; simp at h
          by_cases c1 : f = 3 ∧ s = y
          · obtain ⟨rfl, rfl⟩ := c1; rw [if_neg (by omega), if_pos ⟨rfl, rfl⟩, if_pos rfl, z3]
          · rw [if_neg c1]
            by_cases c2 : f = 4 ∧ s = y
            · obtain ⟨rfl, rfl⟩ := c2; rw [if_neg (by omega), if_pos ⟨rfl, rfl⟩, if_pos rfl, z4, ha0]
            · rw [if_neg c2]
              by_cases c3 : f = 2 ∧ s = i
              · rw [if_pos (by omega), if_pos (by simpa using c3)]
              · rw [if_neg (by omega), if_neg (by simpa using c3)]
        · simp only [hdn, false_and, if_false, not_false_eq_true, true_and, and_false]
          by_cases c1 : f = 3 ∧ s = y
          · obtain ⟨rfl, rfl⟩ := c1; rw [if_neg (by omega), if_pos ⟨rfl, rfl⟩, if_pos rfl, z3]
          · rw [if_neg c1]
            by_cases c2 : f = 4 ∧ s = y
            · obtain ⟨rfl, rfl⟩ := c2; rw [if_pos rfl, if_pos ⟨rfl, rfl⟩, if_pos rfl]
            · rw [if_neg c2, if_neg (by omega)]
    | cons u r =>
      have hu := hr u (by rw [hk]; simp)
      have hum : at_ x.Kids (m + 1) = some u := by
        unfold at_
        have hm1 : m + 1 = (dn ++ [y]).length := by rw [hm]; simp
        rw [decide_eq_true (by omega), cond_true, hk', hm1, Int.toNat_natCast, List.getElem?_append_right (Nat.le_refl _)]; simp
      rw [decide_eq_true (by simp at hlen; omega), cond_true, hum, Option.bind_some, w64_id (x := 5 * y) (by omega) (by omega), w64_id (x := 5 * y + 3) (by omega) (by omega), rd_at l1 (by omega), Option.bind_some, w64_id (x := u + 1) (by omega) (by omega), wu64_id (x := u + 1) (by omega) (by omega)]
      have l1' : (q1.set (5 * y + 3).toNat (u + 1)).length = 738 := by simpa using l1
      have G : ∀ j : Int, 0 ≤ j → (q1.set (5 * y + 3).toNat (u + 1)).getD j.toNat 0 = if j = 5 * y + 3 then u + 1 else if dn = [] ∧ j = 5 * i + 2 then y + 1 else if dn ≠ [] ∧ j = 5 * y + 4 then a else q.getD j.toNat 0 := fun j hj => by
        rw [set_at l1 _ _ _ (by omega) hj, g1 j hj]
      generalize q1.set (5 * y + 3).toNat (u + 1) = q2 at G l1'
      have hyr : ∀ w ∈ u :: r, w ≠ y := fun w hw e => by subst e; exact hnd2.1 hw
      obtain ⟨q', e2, l2, g2, g3⟩ := ih (dn ++ [y]) (y + 1) (m + 1) k q2 hk' (by simp [hm]) ha' (by simp at hl ⊢; omega) l1' hnd2.2 (fun w hw => by
        have hwr := hr w (by rw [hk]; simp only [List.mem_append, List.mem_cons]; right; right; simpa using hw)
        have h1 := hyr w hw
        obtain ⟨z3, z4⟩ := hz w (List.mem_cons_of_mem _ hw)
        rw [G _ (by omega), G _ (by omega), if_neg (by omega), if_neg (by omega), if_neg (by omega), if_neg (by omega), if_neg (by omega), if_neg (by omega)]
        exact ⟨z3, z4⟩)
      refine ⟨q', e2, l2, fun j hj => ?_, fun s f h1 h2 h3 h4 => ?_⟩
      · rw [g2 j hj, G j (by omega), if_neg (by omega), if_neg (by omega), if_neg (by omega)]
      · rw [g3 s f h1 h2 h3 h4, G _ (by omega)]
        obtain ⟨z3, z4⟩ := hz y (by simp)
        have en : nextOf (y :: u :: r) s = if s = y then u + 1 else nextOf (u :: r) s := rfl
        have ep : prv a (y :: u :: r) s = if s = y then a else prv (y + 1) (u :: r) s := rfl
        rw [en, ep]
        have hne : dn ++ [y] ≠ [] := by simp
        by_cases c3 : f = 3
        · subst c3
          by_cases c1 : s = y
          · subst c1
            have : s ∉ u :: r := hnd2.1
            rw [if_neg (fun h => this h.2), if_neg (fun h => this h.2), if_neg (by omega), if_pos rfl, if_pos ⟨rfl, List.mem_cons_self⟩, if_pos rfl]
          · by_cases c2 : s ∈ u :: r
            · rw [if_pos ⟨rfl, c2⟩, if_pos ⟨rfl, List.mem_cons_of_mem _ c2⟩, if_neg c1]
            · rw [if_neg (fun h => c2 h.2), if_neg (by omega), if_neg (by omega), if_neg (by omega), if_neg (by omega), if_neg (by omega), if_neg (fun h => by rcases List.mem_cons.1 h.2 with e | e; exact c1 e; exact c2 e), if_neg (by omega), if_neg (by omega)]
        · by_cases c4 : f = 4
          · subst c4
            by_cases c1 : s = y
            · subst c1
              have : s ∉ u :: r := hnd2.1
              rw [if_neg (by omega), if_neg (fun h => this h.2), if_neg (by omega), if_neg (by omega), if_neg (by omega)]
              by_cases hdn : dn = []
              · rw [if_neg (fun h => h.1 hdn), if_neg (by omega), if_pos ⟨rfl, List.mem_cons_self⟩, if_pos rfl]
                rcases ha with ⟨_, h⟩ | ⟨d, z, h, _⟩
                · rw [h]; exact z4
                · rw [hdn] at h; simp at h
              · rw [if_pos ⟨hdn, rfl⟩, if_neg (by omega), if_pos ⟨rfl, List.mem_cons_self⟩, if_pos rfl]
            · by_cases c2 : s ∈ u :: r
              · rw [if_neg (by omega), if_pos ⟨rfl, c2⟩, if_neg (by omega), if_pos ⟨rfl, List.mem_cons_of_mem _ c2⟩, if_neg c1]
              · rw [if_neg (by omega), if_neg (fun h => c2 h.2), if_neg (by omega), if_neg (by omega), if_neg (by omega), if_neg (by omega), if_neg (by omega), if_neg (fun h => by rcases List.mem_cons.1 h.2 with e | e; exact c1 e; exact c2 e), if_neg (by omega)]
          · rw [if_neg (fun h => c3 h.1), if_neg (fun h => c4 h.1), if_neg (fun h => hne h.2.2.1), if_neg (by omega)]
            by_cases c5 : f = 2 ∧ s = i ∧ dn = []
            · rw [if_pos ⟨c5.2.2, by omega⟩, if_neg (fun h => c3 h.1), if_neg (fun h => c4 h.1), if_pos ⟨c5.1, c5.2.1, c5.2.2, by simp⟩]; rfl
            · rw [if_neg (fun h => c5 ⟨by omega, by omega, h.1⟩), if_neg (by omega), if_neg (fun h => c3 h.1), if_neg (fun h => c4 h.1), if_neg (fun h => c5 ⟨h.1, h.2.1, h.2.2.1⟩)]
end
/-- All words that slots below i have set. -/
def SI (st : ref10_State) (i : Int) (q : List Int) : Prop :=
  (∀ j : Int, 480 ≤ j → q.getD j.toNat 0 = 0) ∧ ∀ s f, 0 ≤ s → s < 96 → 0 ≤ f → f < 5 → q.getD (5 * s + f).toNat 0 = if f < 3 then (if s < i then sl st s f else 0) else (if (slt st s).Parent < i then sl st s f else 0)
theorem slots_ok {st : ref10_State} (h : WF st) : ∀ (m k : Nat) (i : Int) (q : List Int), 0 ≤ i → i ≤ 96 → 96 - i = m → m + 100 < k → q.length = 738 → SI st i q → ∃ q', ref10_State_Words.l1 st k (i, q) = some q' ∧ q'.length = 738 ∧ SI st 96 q' := by
  intro m
  induction m with
  | zero =>
    intro k i q h0 h1 h2 hk hq hI
    obtain ⟨k, rfl⟩ : ∃ z, k = z + 1 := ⟨k - 1, by omega⟩
    obtain rfl : i = 96 := by omega
    unfold ref10_State_Words.l1
    rw [decide_eq_false (by omega), cond_false]
    exact ⟨q, rfl, hq, hI⟩
  | succ m ih =>
    intro k i q h0 h1 h2 hk hq hI
    obtain ⟨k, rfl⟩ : ∃ z, k = z + 1 := ⟨k - 1, by omega⟩
    have hi : 0 ≤ i ∧ i < 96 := by omega
    have hx : at_ st.Slots i = some (slt st i) := at_getD h0 (by rw [h.ls]; omega)
    have hc := word_ok (h.cap i h0 hi.2)
    have hp := h.par i h0 hi.2
    have hkr := fun y hy => h.kid i h0 hi.2 y hy
    have hkn := nodup_len 96 (h.nodk i h0 hi.2) (fun y hy => ⟨(hkr y hy).1, (hkr y hy).2.1⟩)
    unfold ref10_State_Words.l1
    rw [decide_eq_true (by omega), cond_true, hx, Option.bind_some, hc, Option.bind_some, w64_id (x := 5 * i) (by omega) (by omega), rd_at hq (by omega), Option.bind_some, w64_id (x := 5 * i + 1) (by omega) (by omega), rd_at (by simpa using hq) (by omega), Option.bind_some, w64_id (x := (slt st i).Parent + 1) (by omega) (by omega), wu64_id (x := (slt st i).Parent + 1) (by omega) (by omega)]
    have l2 : ((q.set (5 * i).toNat (capWord (slt st i).Cap)).set (5 * i + 1).toNat ((slt st i).Parent + 1)).length = 738 := by simpa using hq
    have G : ∀ j : Int, 0 ≤ j → ((q.set (5 * i).toNat (capWord (slt st i).Cap)).set (5 * i + 1).toNat ((slt st i).Parent + 1)).getD j.toNat 0 = if j = 5 * i + 1 then (slt st i).Parent + 1 else if j = 5 * i then capWord (slt st i).Cap else q.getD j.toNat 0 := fun j hj => by
      rw [set_at (by simpa using hq) _ _ _ (by omega) hj, set_at hq _ _ _ (by omega) hj]
    generalize (q.set (5 * i).toNat (capWord (slt st i).Cap)).set (5 * i + 1).toNat ((slt st i).Parent + 1) = q2 at G l2
    obtain ⟨q3, e3, l3, g3, g4⟩ := kids_ok i (slt st i) hi hkn (fun y hy => ⟨(hkr y hy).1, (hkr y hy).2.1⟩) (slt st i).Kids [] 0 0 k q2 rfl rfl (.inl ⟨rfl, rfl⟩) (by omega) l2 (h.nodk i h0 hi.2) (fun y hy => by
      obtain ⟨y1, y2, y3⟩ := hkr y hy
      rw [G _ (by omega), G _ (by omega), if_neg (by omega), if_neg (by omega), if_neg (by omega), if_neg (by omega), hI.2 y 3 y1 y2 (by decide) (by decide), hI.2 y 4 y1 y2 (by decide) (by decide), y3]
      simp)
    rw [e3, Option.bind_some]
    try simp only []
    rw [w64_id (by omega) (by omega)]
    refine ih k (i + 1) q3 (by omega) (by omega) (by omega) (by omega) l3 ⟨fun j hj => ?_, fun s f s1 s2 f1 f2 => ?_⟩
    · rw [g3 j hj, G j (by omega), if_neg (by omega), if_neg (by omega)]; exact hI.1 j hj
    · rw [g4 s f s1 s2 f1 f2, G _ (by omega), hI.2 s f s1 s2 f1 f2]
      by_cases c : s ∈ (slt st i).Kids
      · obtain ⟨_, _, y3⟩ := hkr s c
        by_cases c3 : f = 3
        · subst c3
          rw [if_pos ⟨rfl, c⟩, if_neg (by omega), if_pos (by omega)]
          unfold sl
          rw [if_neg (by omega), if_neg (by omega), if_neg (by omega), y3, if_pos h0, if_pos rfl]
        · by_cases c4 : f = 4
          · subst c4
            rw [if_neg (by omega), if_pos ⟨rfl, c⟩, if_neg (by omega), if_pos (by omega)]
            unfold sl
            rw [if_neg (by omega), if_neg (by omega), if_neg (by omega), y3, if_pos h0, if_neg (by omega)]
          · rw [if_neg (fun q => c3 q.1), if_neg (fun q => c4 q.1), if_pos (show f < 3 by omega), if_pos (show f < 3 by omega)]
            by_cases e : s = i
            · subst e
              rw [if_pos (show s < s + 1 by omega)]
              unfold sl
              by_cases f0 : f = 0
              · subst f0; rw [if_neg (by omega), if_neg (by omega), if_pos (by omega), if_pos rfl]
              · by_cases f1 : f = 1
                · subst f1; rw [if_neg (by omega), if_pos (by omega), if_neg (by omega), if_pos rfl]
                · obtain rfl : f = 2 := by omega
                  have : (slt st s).Kids ≠ [] := fun q => by rw [q] at c; simp at c
                  rw [if_pos ⟨rfl, rfl, rfl, this⟩, if_neg (by omega), if_neg (by omega), if_pos rfl]
            · rw [if_neg (by omega), if_neg (by omega), if_neg (by omega)]
              by_cases e2 : s < i
              · rw [if_pos e2, if_pos (by omega)]
              · rw [if_neg e2, if_neg (by omega)]
      · rw [if_neg (fun q => c q.2), if_neg (fun q => c q.2)]
        by_cases f3 : f < 3
        · rw [if_pos f3, if_pos f3]
          by_cases e : s = i
          · subst e
            unfold sl
            rw [if_neg (by omega : ¬ s < s), if_pos (by omega : s < s + 1)]
            by_cases f0 : f = 0
            · subst f0; rw [if_neg (by omega), if_neg (by omega), if_pos (by omega), if_pos rfl]
            · by_cases f1 : f = 1
              · subst f1; rw [if_neg (by omega), if_pos (by omega), if_neg (by omega), if_pos rfl]
              · obtain rfl : f = 2 := by omega
                rw [if_neg f0, if_neg f1, if_pos rfl]
                by_cases hk0 : (slt st s).Kids = []
                · rw [if_neg (fun q => q.2.2.2 hk0), if_neg (by omega), if_neg (by omega), hk0]; rfl
                · rw [if_pos ⟨rfl, rfl, rfl, hk0⟩]
          · rw [if_neg (fun q => e q.2.1), if_neg (by omega), if_neg (by omega)]
            by_cases e2 : s < i
            · rw [if_pos e2, if_pos (by omega)]
            · rw [if_neg e2, if_neg (by omega)]
        · rw [if_neg f3, if_neg f3, if_neg (by omega), if_neg (by omega), if_neg (by omega)]
          have : (slt st s).Parent ≠ i := fun e => by
            have := h.all s s1 s2 (by omega)
            rw [e] at this; exact c this
          by_cases e2 : (slt st s).Parent < i
          · rw [if_pos e2, if_pos (by omega)]
          · rw [if_neg e2, if_neg (by omega)]
end Go.Proofs
