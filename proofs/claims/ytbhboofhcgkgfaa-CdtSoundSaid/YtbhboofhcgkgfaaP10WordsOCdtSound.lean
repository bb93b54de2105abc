/- Plain laws of what CdtSound reaches, part P10WordsO. On no condition. -/
import Derived.Test.YtbhboofhcgkgfaaP10WordsCdtSound
set_option linter.all false
/-! All words of a state: the objects. -/
set_option linter.unusedVariables false
namespace Go.Proofs
open Go.Sl
theorem pages_ok (i : Int) (x : ref10_Obj) (hi : 0 ≤ i ∧ i < 32) (hx : OW x) : ∀ (m k : Nat) (p : Int) (q : List Int), 0 ≤ p → p ≤ 4 → 4 - p = m → m < k → q.length = 738 →
    ∃ q', ref10_State_Words.l6 i x k (p, q) = some q' ∧ q'.length = 738 ∧ ∀ j : Int, 0 ≤ j → q'.getD j.toNat 0 = if 480 + 8 * i + 1 + p ≤ j ∧ j < 480 + 8 * i + 5 ∧ 0 ≤ x.Pages.nth (j - (480 + 8 * i + 1)) then pgw x (j - (480 + 8 * i + 1)) else q.getD j.toNat 0 := by
  intro m
  induction m with
  | zero =>
    intro k p q h0 h1 h2 hk hq
    obtain ⟨k, rfl⟩ : ∃ z, k = z + 1 := ⟨k - 1, by omega⟩
    obtain rfl : p = 4 := by omega
    unfold ref10_State_Words.l6
    rw [decide_eq_false (by omega), cond_false]
    exact ⟨q, rfl, hq, fun j hj => by rw [if_neg (by omega)]⟩
  | succ m ih =>
    intro k p q h0 h1 h2 hk hq
    obtain ⟨k, rfl⟩ : ∃ z, k = z + 1 := ⟨k - 1, by omega⟩
    have a1 := hx.pages p h0 (by omega)
    have a2 := hx.right p h0 (by omega)
    unfold ref10_State_Words.l6
    rw [decide_eq_true (by omega), cond_true, A4.get_nth _ (by omega), Option.bind_some, w64_id (x := p + 1) (by omega) (by omega)]
    by_cases c : 0 ≤ x.Pages.nth p
    · rw [decide_eq_true c, cond_true, Option.bind_some, A4.get_nth _ (by omega), Option.bind_some, w64_id (x := 8 * i) (by omega) (by omega), w64_id (x := 480 + 8 * i) (by omega) (by omega), w64_id (x := 480 + 8 * i + 1) (by omega) (by omega), w64_id (x := 480 + 8 * i + 1 + p) (by omega) (by omega), rd_at hq (by omega), Option.bind_some,
        w64_id (x := x.Pages.nth p + 1) (by omega) (by omega), w64_id (x := 8 * (x.Pages.nth p + 1)) (by omega) (by omega), w64_id (x := 8 * (x.Pages.nth p + 1) + x.Right.nth p) (by omega) (by omega), wu64_id (by omega) (by omega)]
      obtain ⟨q', e, l, g⟩ := ih k (p + 1) (q.set (480 + 8 * i + 1 + p).toNat (8 * (x.Pages.nth p + 1) + x.Right.nth p)) (by omega) (by omega) (by omega) (by omega) (by simpa using hq)
      refine ⟨q', e, l, fun j hj => ?_⟩
      rw [g j hj, set_at hq _ _ _ (by omega) hj]
      by_cases e1 : j = 480 + 8 * i + 1 + p
      · subst e1
        rw [if_neg (by omega), if_pos rfl, show 480 + 8 * i + 1 + p - (480 + 8 * i + 1) = p by omega, if_pos ⟨by omega, by omega, c⟩]
        unfold pgw; rw [if_pos c]
      · rw [if_neg e1]
        by_cases e2 : 480 + 8 * i + 1 + p ≤ j ∧ j < 480 + 8 * i + 5 ∧ 0 ≤ x.Pages.nth (j - (480 + 8 * i + 1))
        · rw [if_pos e2, if_pos ⟨by omega, e2.2⟩]
        · rw [if_neg e2, if_neg (fun h => e2 ⟨by omega, h.2⟩)]
    · rw [decide_eq_false c, cond_false]
      obtain ⟨q', e, l, g⟩ := ih k (p + 1) q (by omega) (by omega) (by omega) (by omega) hq
      refine ⟨q', e, l, fun j hj => ?_⟩
      rw [g j hj]
      by_cases e1 : j = 480 + 8 * i + 1 + p
      · subst e1
        rw [if_neg (by omega), if_neg]
        rw [show 480 + 8 * i + 1 + p - (480 + 8 * i + 1) = p by omega]
        exact fun h => c h.2.2
      · by_cases e2 : 480 + 8 * i + 1 + p ≤ j ∧ j < 480 + 8 * i + 5 ∧ 0 ≤ x.Pages.nth (j - (480 + 8 * i + 1))
        · rw [if_pos e2, if_pos ⟨by omega, e2.2⟩]
        · rw [if_neg e2, if_neg (fun h => e2 ⟨by omega, h.2⟩)]
section
variable (i : Int) (x : ref10_Obj) (hi : 0 ≤ i ∧ i < 32) (hn : x.Queue.length ≤ 32) (hr : ∀ y ∈ x.Queue, 0 ≤ y ∧ y < 32 ∧ y ≠ i)
include hi hn hr
theorem queue_ok : ∀ (rest dn : List Int) (m : Int) (k : Nat) (q : List Int), x.Queue = dn ++ rest → m = dn.length → rest.length < k → q.length = 738 → rest.Nodup → (∀ y ∈ rest, q.getD (480 + 8 * y + 2).toNat 0 = 0) →
    ∃ q', ref10_State_Words.l7 i x k (m, q) = some q' ∧ q'.length = 738 ∧ (∀ j : Int, 0 ≤ j → j < 480 ∨ 736 ≤ j → q'.getD j.toNat 0 = q.getD j.toNat 0) ∧
      ∀ s f, 0 ≤ s → s < 32 → 0 ≤ f → f < 8 → q'.getD (480 + 8 * s + f).toNat 0 = if f = 2 ∧ s ∈ rest then nextOf rest s else if f = 2 ∧ s = i ∧ dn = [] ∧ rest ≠ [] then hd rest else if f = 3 ∧ s = i ∧ rest ≠ [] then la rest else q.getD (480 + 8 * s + f).toNat 0 := by
  intro rest
  induction rest with
  | nil =>
    intro dn m k q hk hm hl hq hnd hz
    obtain ⟨k, rfl⟩ : ∃ z, k = z + 1 := ⟨k - 1, by simp at hl; omega⟩
    have : m = x.Queue.length := by rw [hk, hm]; simp
    unfold ref10_State_Words.l7
    rw [decide_eq_false (by omega), cond_false]
    exact ⟨q, rfl, hq, fun _ _ _ => rfl, fun s f _ _ _ _ => by simp⟩
  | cons y r ih =>
    intro dn m k q hk hm hl hq hnd hz
    obtain ⟨k, rfl⟩ : ∃ z, k = z + 1 := ⟨k - 1, by simp at hl; omega⟩
    have hlen : (x.Queue.length : Int) = m + 1 + r.length := by rw [hk, hm]; simp; omega
    have hy := hr y (by rw [hk]; simp)
    have hym : at_ x.Queue m = some y := by
      unfold at_
      rw [decide_eq_true (by omega), cond_true, hk, hm, Int.toNat_natCast, List.getElem?_append_right (Nat.le_refl _)]; simp
    have hnd2 := List.nodup_cons.1 hnd
    unfold ref10_State_Words.l7
    rw [decide_eq_true (by omega), cond_true, hym, Option.bind_some, w64_id (x := 8 * i) (by omega) (by omega), w64_id (x := 480 + 8 * i) (by omega) (by omega), w64_id (x := 480 + 8 * i + 2) (by omega) (by omega), w64_id (x := 480 + 8 * i + 3) (by omega) (by omega)]
    have step1 : ∃ q1, (bif m == 0 then ((at_ q (480 + 8 * i + 2)).bind fun x151 => some (q.set (480 + 8 * i + 2).toNat (wu64 (w64 (y + 1))))) else (some q)) = some q1 ∧ q1.length = 738 ∧ ∀ j : Int, 0 ≤ j → q1.getD j.toNat 0 = if dn = [] ∧ j = 480 + 8 * i + 2 then y + 1 else q.getD j.toNat 0 := by
      by_cases hdn : dn = []
      · have hm0 : (m == 0) = true := by simp [hm, hdn]
        rw [hm0, cond_true, rd_at hq (by omega), Option.bind_some, w64_id (by omega) (by omega), wu64_id (by omega) (by omega)]
        refine ⟨_, rfl, by simpa using hq, fun j hj => ?_⟩
        rw [set_at hq _ _ _ (by omega) hj]
        simp only [hdn, true_and]
      · have hm0 : (m == 0) = false := by
          have : 0 < dn.length := List.length_pos_iff.2 hdn
          simp [hm]; exact hdn
        rw [hm0, cond_false]
        exact ⟨_, rfl, hq, fun j hj => by rw [if_neg (fun h => hdn h.1)]⟩
    obtain ⟨q1, e1, l1, g1⟩ := step1
    rw [e1, Option.bind_some, w64_id (x := m + 1) (by omega) (by omega)]
    have hk' : x.Queue = (dn ++ [y]) ++ r := by rw [hk]; simp
    have hne : dn ++ [y] ≠ [] := by simp
    cases r with
    | nil =>
      rw [decide_eq_false (by simp at hlen; omega), cond_false, rd_at l1 (by omega), Option.bind_some, w64_id (x := y + 1) (by omega) (by omega), wu64_id (x := y + 1) (by omega) (by omega)]
      obtain ⟨q', e2, l2, g2, g3⟩ := ih (dn ++ [y]) (m + 1) k (q1.set (480 + 8 * i + 3).toNat (y + 1)) hk' (by simp [hm]) (by simp at hl ⊢; omega) (by simpa using l1) List.nodup_nil (by simp)
      refine ⟨q', e2, l2, fun j hj hj2 => ?_, fun s f h1 h2 h3 h4 => ?_⟩
      · rw [g2 j hj hj2, set_at l1 _ _ _ (by omega) hj, if_neg (by omega), g1 j hj, if_neg (by omega)]
      · rw [g3 s f h1 h2 h3 h4, set_at l1 _ _ _ (by omega) (by omega), g1 _ (by omega)]
        have z2 := hz y (by simp)
        have el : la [y] = y + 1 := rfl
        rw [el]
        simp only [List.not_mem_nil, and_false, if_false, List.mem_singleton, ne_eq, not_true, List.cons_ne_nil, not_false_eq_true, and_true, nextOf, hd]
        by_cases c1 : f = 2 ∧ s = y
        · obtain ⟨rfl, rfl⟩ := c1; rw [if_neg (by omega), if_neg (by omega), if_pos ⟨rfl, rfl⟩, if_pos rfl, z2]
        · rw [if_neg c1]
          by_cases c2 : f = 3 ∧ s = i
          · rw [if_pos (by omega), if_neg (by omega), if_pos c2]
          · rw [if_neg (by omega : ¬ (480 + 8 * s + f = 480 + 8 * i + 3))]
            by_cases c3 : f = 2 ∧ s = i ∧ dn = []
            · rw [if_pos ⟨c3.2.2, by omega⟩, if_pos c3]
            · rw [if_neg (fun h => c3 ⟨by omega, by omega, h.1⟩), if_neg c3, if_neg c2]
    | cons u r =>
      have hu := hr u (by rw [hk]; simp)
      have hum : at_ x.Queue (m + 1) = some u := by
        unfold at_
        have hm1 : m + 1 = (dn ++ [y]).length := by rw [hm]; simp
        rw [decide_eq_true (by omega), cond_true, hk', hm1, Int.toNat_natCast, List.getElem?_append_right (Nat.le_refl _)]; simp
      rw [decide_eq_true (by simp at hlen; omega), cond_true, hum, Option.bind_some, w64_id (x := 8 * y) (by omega) (by omega), w64_id (x := 480 + 8 * y) (by omega) (by omega), w64_id (x := 480 + 8 * y + 2) (by omega) (by omega), rd_at l1 (by omega), Option.bind_some, w64_id (x := u + 1) (by omega) (by omega), wu64_id (x := u + 1) (by omega) (by omega)]
      have l1' : (q1.set (480 + 8 * y + 2).toNat (u + 1)).length = 738 := by simpa using l1
      have G : ∀ j : Int, 0 ≤ j → (q1.set (480 + 8 * y + 2).toNat (u + 1)).getD j.toNat 0 = if j = 480 + 8 * y + 2 then u + 1 else if dn = [] ∧ j = 480 + 8 * i + 2 then y + 1 else q.getD j.toNat 0 := fun j hj => by
        rw [set_at l1 _ _ _ (by omega) hj, g1 j hj]
      generalize q1.set (480 + 8 * y + 2).toNat (u + 1) = q2 at G l1'
      have hyr : ∀ w ∈ u :: r, w ≠ y := fun w hw e => by subst e; exact hnd2.1 hw
      obtain ⟨q', e2, l2, g2, g3⟩ := ih (dn ++ [y]) (m + 1) k q2 hk' (by simp [hm]) (by simp at hl ⊢; omega) l1' hnd2.2 (fun w hw => by
        have hwr := hr w (by rw [hk]; simp only [List.mem_append, List.mem_cons]; right; right; simpa using hw)
        have h1 := hyr w hw
        rw [G _ (by omega), if_neg (by omega), if_neg (by omega)]
        exact hz w (List.mem_cons_of_mem _ hw))
      refine ⟨q', e2, l2, fun j hj hj2 => ?_, fun s f h1 h2 h3 h4 => ?_⟩
      · rw [g2 j hj hj2, G j hj, if_neg (by omega), if_neg (by omega)]
      · rw [g3 s f h1 h2 h3 h4, G _ (by omega)]
        have en : nextOf (y :: u :: r) s = if s = y then u + 1 else nextOf (u :: r) s := rfl
        have el : la (y :: u :: r) = la (u :: r) := by unfold la; rw [List.getLast?_cons_cons]
        rw [en, el]
        by_cases f2 : f = 2
        · subst f2
          by_cases c1 : s = y
          · subst c1
            have : s ∉ u :: r := hnd2.1
            rw [if_neg (fun h => this h.2), if_neg (fun h => hne h.2.2.1), if_neg (by omega), if_pos rfl, if_pos ⟨rfl, List.mem_cons_self⟩, if_pos rfl]
          · by_cases c2 : s ∈ u :: r
            · rw [if_pos ⟨rfl, c2⟩, if_pos ⟨rfl, List.mem_cons_of_mem _ c2⟩, if_neg c1]
            · rw [if_neg (fun h => c2 h.2), if_neg (fun h => hne h.2.2.1), if_neg (by omega), if_neg (by omega)]
              by_cases c5 : s = i ∧ dn = []
              · rw [if_pos ⟨c5.2, by omega⟩, if_neg (fun h => by rcases List.mem_cons.1 h.2 with e | e; exact c1 e; exact c2 e), if_pos ⟨rfl, c5.1, c5.2, by simp⟩]; rfl
              · rw [if_neg (fun h => c5 ⟨by omega, h.1⟩), if_neg (fun h => by rcases List.mem_cons.1 h.2 with e | e; exact c1 e; exact c2 e), if_neg (fun h => c5 ⟨h.2.1, h.2.2.1⟩), if_neg (by omega)]
        · rw [if_neg (fun h => f2 h.1), if_neg (fun h => f2 h.1)]
          by_cases c5 : f = 3 ∧ s = i
          · rw [if_pos ⟨c5.1, c5.2, by simp⟩, if_neg (fun h => f2 h.1), if_neg (fun h => f2 h.1), if_pos ⟨c5.1, c5.2, by simp⟩]
          · rw [if_neg (fun h => c5 ⟨h.1, h.2.1⟩), if_neg (by omega), if_neg (by omega), if_neg (fun h => f2 h.1), if_neg (fun h => f2 h.1), if_neg (fun h => c5 ⟨h.1, h.2.1⟩)]
end
end Go.Proofs
