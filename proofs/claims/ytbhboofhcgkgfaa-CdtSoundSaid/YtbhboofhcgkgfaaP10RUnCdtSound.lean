/- Plain laws of what CdtSound reaches, part P10RUn. On no condition. -/
import Derived.Test.YtbhboofhcgkgfaaP10SlLkCdtSound
import Derived.Test.YtbhboofhcgkgfaaFnCdtSound1
set_option linter.all false
/-! Slots unlinked, of a state. -/
set_option linter.unusedVariables false
namespace Go.Proofs
open Go.Sl
theorem without_t (l : List Int) (n : Int) (hl : l.length ≤ 1000) : ∀ (m k : Nat) (i : Int) (acc : List Int), 0 ≤ i → i ≤ l.length → (l.length : Int) - i = m → m < k → acc.length + m ≤ 1000 → ref10_without.l1 l n k (i, true, acc) = some (acc ++ l.drop i.toNat) := by
  intro m
  induction m with
  | zero =>
    intro k i acc h0 h1 h2 hk ha
    obtain ⟨k, rfl⟩ : ∃ q, k = q + 1 := ⟨k - 1, by omega⟩
    unfold ref10_without.l1
    rw [decide_eq_false (by omega), cond_false, List.drop_eq_nil_of_le (by omega), List.append_nil]
  | succ m ih =>
    intro k i acc h0 h1 h2 hk ha
    obtain ⟨k, rfl⟩ : ∃ q, k = q + 1 := ⟨k - 1, by omega⟩
    unfold ref10_without.l1
    have hx : at_ l i = some (l[i.toNat]'(by omega)) := by unfold at_; rw [decide_eq_true h0, cond_true, List.getElem?_eq_getElem]
    rw [decide_eq_true (by omega), cond_true, hx, Option.bind_some, Bool.not_true, Bool.and_false, cond_false, Option.bind_some, app_one (by omega), Option.bind_some, w64_id (by omega) (by omega), ih k (i + 1) _ (by omega) (by omega) (by omega) (by omega) (by simp; omega)]
    rw [List.drop_eq_getElem_cons (show i.toNat < l.length by omega), List.append_assoc]
    congr 2
    show l[i.toNat] :: _ = _
    rw [show (i + 1).toNat = i.toNat + 1 by omega]; rfl
theorem without_f (l : List Int) (n : Int) (hl : l.length ≤ 1000) : ∀ (m k : Nat) (i : Int) (acc : List Int), 0 ≤ i → i ≤ l.length → (l.length : Int) - i = m → m + 1 < k → acc.length + m ≤ 1000 → ref10_without.l1 l n k (i, false, acc) = some (acc ++ (l.drop i.toNat).erase n) := by
  intro m
  induction m with
  | zero =>
    intro k i acc h0 h1 h2 hk ha
    obtain ⟨k, rfl⟩ : ∃ q, k = q + 1 := ⟨k - 1, by omega⟩
    unfold ref10_without.l1
    rw [decide_eq_false (by omega), cond_false, List.drop_eq_nil_of_le (by omega), List.erase_nil, List.append_nil]
  | succ m ih =>
    intro k i acc h0 h1 h2 hk ha
    obtain ⟨k, rfl⟩ : ∃ q, k = q + 1 := ⟨k - 1, by omega⟩
    unfold ref10_without.l1
    have hx : at_ l i = some (l[i.toNat]'(by omega)) := by unfold at_; rw [decide_eq_true h0, cond_true, List.getElem?_eq_getElem]
    rw [decide_eq_true (by omega), cond_true, hx, Option.bind_some, Bool.not_false, Bool.and_true, w64_id (by omega) (by omega)]
    rw [List.drop_eq_getElem_cons (show i.toNat < l.length by omega)]
    by_cases e : l[i.toNat] = n
    · have e1 : (l[i.toNat] == n) = true := by simpa using e
      rw [e1, cond_true, without_t l n hl m k (i + 1) acc (by omega) (by omega) (by omega) (by omega) (by omega), e, List.erase_cons_head, show (i + 1).toNat = i.toNat + 1 by omega]
    · have e1 : (l[i.toNat] == n) = false := by simpa using e
      rw [e1, cond_false, Option.bind_some, app_one (by omega), Option.bind_some, ih k (i + 1) _ (by omega) (by omega) (by omega) (by omega) (by simp; omega), List.erase_cons_tail (by simpa using e), List.append_assoc, show (i + 1).toNat = i.toNat + 1 by omega]
      rfl
theorem without_ok (l : List Int) (n : Int) (hl : l.length ≤ 1000) {k : Nat} (hk : l.length + 1 < k) : ref10_without.f k l n = some (l.erase n) := by
  unfold ref10_without.f
  rw [without_f l n hl l.length k 0 [] (by decide) (by omega) (by omega) (by omega) (by simpa using hl)]
  rfl
theorem runlink_ok {st : ref10_State} (h : WF st) (kid : Int) {k : Nat} (hk : 100 ≤ k) : ∃ n st', ref10_State_Unlink.f k st kid = some (n, st') ∧ 0 ≤ n ∧ n ≤ 14 ∧ WF st' ∧ Rest st st' ∧
    (¬ InSlot kid 0 → n = 2 ∧ st' = st) ∧ (InSlot kid 0 → n = 0 ∧ (Pst st kid = -1 → st' = st) ∧ (0 ≤ Pst st kid → SlIs st' (uP (Pst st) kid) (uK (Kst st) kid (Pst st kid)) (Cst st))) := by
  unfold ref10_State_Unlink.f
  rw [rslot_ok, Option.bind_some]
  by_cases h1 : InSlot kid 0
  · have r1 := h1.rg
    have pr := h.par kid r1.1 r1.2
    rw [decide_eq_true h1, Bool.not_true, cond_false, at_slot h.ls r1, Option.bind_some]
    by_cases c : 0 ≤ (slt st kid).Parent
    · rw [decide_eq_true c, cond_true]
      have ir := h.irr kid r1.1 r1.2
      have t := tree_st h
      have hkl := t.klen c pr.2
      unfold Kst at hkl
      rw [at_slot h.ls ⟨c, pr.2⟩, Option.bind_some, without_ok _ _ (by omega) (by omega), Option.bind_some, Option.bind_some]
      have l1 : (st.Slots.set (slt st kid).Parent.toNat ({ slt st (slt st kid).Parent with Kids := (slt st (slt st kid).Parent).Kids.erase kid } : ref10_Slot)).length = 96 := by simp [h.ls]
      have a1 : at_ (st.Slots.set (slt st kid).Parent.toNat ({ slt st (slt st kid).Parent with Kids := (slt st (slt st kid).Parent).Kids.erase kid } : ref10_Slot)) kid = some (slt st kid) := by
        rw [at_getD r1.1 (by rw [l1]; omega), sg_set h.ls ⟨c, pr.2⟩ r1.1, if_neg (fun z => ir z.symm)]; rfl
      rw [a1, Option.bind_some]
      generalize hq : (slt st kid).Parent = p at *
      have S : SlIs ({ st with Slots := (st.Slots.set p.toNat ({ slt st p with Kids := (slt st p).Kids.erase kid } : ref10_Slot)).set kid.toNat ({ slt st kid with Parent := -1 } : ref10_Slot) } : ref10_State) (uP (Pst st) kid) (uK (Kst st) kid p) (Cst st) := by
        have E : ∀ i, 0 ≤ i → slt ({ st with Slots := (st.Slots.set p.toNat ({ slt st p with Kids := (slt st p).Kids.erase kid } : ref10_Slot)).set kid.toNat ({ slt st kid with Parent := -1 } : ref10_Slot) } : ref10_State) i = if i = kid then ({ slt st kid with Parent := -1 } : ref10_Slot) else if i = p then ({ slt st p with Kids := (slt st p).Kids.erase kid } : ref10_Slot) else slt st i := fun i i0 => by
          show (List.set _ _ _).getD i.toNat default = _
          rw [sg_set l1 r1 i0, sg_set h.ls ⟨c, pr.2⟩ i0]; rfl
        refine ⟨by simp [h.ls], fun i i0 i1 => ?_, fun i i0 i1 => ?_, fun i i0 i1 => ?_⟩
        · rw [E i i0]; unfold uP Pst
          split
          · rfl
          · split
            · rename_i e; rw [e]
            · rfl
        · rw [E i i0]; unfold uK Kst
          by_cases c : i = kid
          · rw [if_pos c, if_neg (fun z => ir (z.symm.trans c)), c]
          · rw [if_neg c]
            by_cases c2 : i = p
            · rw [if_pos c2, if_pos c2]
            · rw [if_neg c2, if_neg c2]
        · rw [E i i0]; unfold Cst
          split
          · rename_i e; rw [e]
          · split
            · rename_i e; rw [e]
            · rfl
      have t' := t.unlink r1 hq c
      have hp2 : Pst st kid = p := hq
      exact ⟨0, _, rfl, by decide, by decide, h.slots S t' h.cap rfl rfl rfl, ⟨rfl, rfl, rfl⟩, fun z => absurd h1 z, fun _ => ⟨rfl, fun z => by unfold Pst at z; omega, fun _ => by rw [hp2]; exact S⟩⟩
    · rw [decide_eq_false c, cond_false]
      exact ⟨0, st, rfl, by decide, by decide, h, Rest.refl st, fun z => absurd h1 z, fun _ => ⟨rfl, fun _ => rfl, fun z => absurd z c⟩⟩
  · rw [decide_eq_false h1]
    exact ⟨2, st, rfl, by decide, by decide, h, Rest.refl st, fun _ => ⟨rfl, rfl⟩, fun z => absurd z h1⟩
end Go.Proofs
