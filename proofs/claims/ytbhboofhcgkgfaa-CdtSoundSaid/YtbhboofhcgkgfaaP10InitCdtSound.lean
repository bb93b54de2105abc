/- Plain laws of what CdtSound reaches, part P10Init. On no condition. -/
import Derived.Test.YtbhboofhcgkgfaaP10StCdtSound
set_option linter.all false
/-! States in which nothing is linked, blocked or mapped. -/
set_option linter.unusedVariables false
namespace Go.Proofs
open Go.Sl
def owB (o : ref10_Obj) : Bool := decide (0 ≤ o.Kind ∧ o.Kind ≤ 8) && decide (0 ≤ o.Size ∧ o.Size ≤ 1000000000000) && decide (0 ≤ o.Used ∧ o.Used ≤ o.Size) && decide (0 ≤ o.First ∧ o.First ≤ 1000) && decide (0 ≤ o.Radix ∧ o.Radix ≤ 5) && decide (0 ≤ o.Wait ∧ o.Wait ≤ 2) && decide (o.Word = 0) && decide (0 ≤ o.State ∧ o.State ≤ 6) && decide (o.Owing = -1) && decide (o.Badge = 0) && decide (0 ≤ o.Prio ∧ o.Prio < 256) && decide (o.On = -1) && decide (-1 ≤ o.Owes ∧ o.Owes < 32) && decide (CapMay o.Root) && decide (o.Pages = ⟨-1, -1, -1, -1⟩) && decide (o.Right = ⟨0, 0, 0, 0⟩) && decide (o.In = -1) && decide (0 ≤ o.Page ∧ o.Page < 4) && decide (o.Bound = -1) && decide (0 ≤ o.Mask ∧ o.Mask ≤ 1) && o.Queue.isEmpty
def slB (x : ref10_Slot) : Bool := decide (CapMay x.Cap) && decide (x.Parent = -1) && x.Kids.isEmpty
def wfB (st : ref10_State) : Bool := st.Slots.length == 96 && st.Objs.length == 32 && st.Slots.all slB && st.Objs.all owB && decide (0 ≤ st.NS ∧ st.NS ≤ 1000) && decide (0 ≤ st.NO ∧ st.NO ≤ 1000)
structure Fresh0 (st : ref10_State) : Prop where
  wf : WF st
  par : ∀ i, 0 ≤ i → i < 96 → (slt st i).Parent = -1 ∧ (slt st i).Kids = []
  que : ∀ i, 0 ≤ i → i < 32 → (obt st i).Queue = [] ∧ (obt st i).On = -1 ∧ (obt st i).In = -1 ∧ (∀ p, 0 ≤ p → p < 4 → (obt st i).Pages.nth p = -1)
  ext : ∀ i, 0 ≤ i → i < 32 → (obt st i).Owing = -1 ∧ (obt st i).Word = 0
  ext2 : ∀ i, 0 ≤ i → i < 32 → (obt st i).Badge = 0 ∧ (obt st i).Bound = -1
theorem fresh_of {st : ref10_State} (h : wfB st = true) : Fresh0 st := by
  simp only [wfB, Bool.and_eq_true, beq_iff_eq, List.all_eq_true, decide_eq_true_eq] at h
  obtain ⟨⟨⟨⟨⟨h1, h2⟩, h3⟩, h4⟩, h5⟩, h6⟩ := h
  have S : ∀ i, 0 ≤ i → i < 96 → CapMay (slt st i).Cap ∧ (slt st i).Parent = -1 ∧ (slt st i).Kids = [] := fun i i0 i1 => by
    have hm : slt st i ∈ st.Slots := by
      unfold slt
      rw [List.getD, List.getElem?_eq_getElem (by omega)]
      exact List.getElem_mem _
    have := h3 _ hm
    simp only [slB, Bool.and_eq_true, decide_eq_true_eq, List.isEmpty_iff] at this
    exact ⟨this.1.1, this.1.2, this.2⟩
  have O : ∀ i, 0 ≤ i → i < 32 → owB (obt st i) = true := fun i i0 i1 => by
    have hm : obt st i ∈ st.Objs := by
      unfold obt
      rw [List.getD, List.getElem?_eq_getElem (by omega)]
      exact List.getElem_mem _
    exact h4 _ hm
  have nth1 : ∀ p : Int, (⟨-1, -1, -1, -1⟩ : A4).nth p = -1 := fun p => by unfold A4.nth; split; rfl; split; rfl; split <;> rfl
  have nth0 : ∀ p : Int, (⟨0, 0, 0, 0⟩ : A4).nth p = 0 := fun p => by unfold A4.nth; split; rfl; split; rfl; split <;> rfl
  have W : ∀ i, 0 ≤ i → i < 32 → OW (obt st i) ∧ (obt st i).Queue = [] ∧ (obt st i).On = -1 ∧ (obt st i).In = -1 ∧ (∀ p, 0 ≤ p → p < 4 → (obt st i).Pages.nth p = -1) ∧ ((obt st i).Owing = -1 ∧ (obt st i).Word = 0) ∧ (obt st i).Badge = 0 ∧ (obt st i).Bound = -1 := fun i i0 i1 => by
    have := O i i0 i1
    simp only [owB, Bool.and_eq_true, decide_eq_true_eq, List.isEmpty_iff] at this
    obtain ⟨⟨⟨⟨⟨⟨⟨⟨⟨⟨⟨⟨⟨⟨⟨⟨⟨⟨⟨⟨w1, w2⟩, w3⟩, w4⟩, w5⟩, w6⟩, w7⟩, w8⟩, w9⟩, w10⟩, w11⟩, w12⟩, w13⟩, w14⟩, w15⟩, w16⟩, w17⟩, w18⟩, w19⟩, w20⟩, w21⟩ := this
    refine ⟨⟨w1, w2, w3, w4, w5, w6, by omega, w8, by omega, by omega, w11, by omega, w13, w14, fun p _ _ => ?_, fun p _ _ => ?_, by omega, w18, by omega, w20⟩, w21, w12, w17, fun p _ _ => ?_, ⟨w9, w7⟩, w10, w19⟩
    · rw [w15, nth1]; decide
    · rw [w16, nth0]; decide
    · rw [w15, nth1]
  refine ⟨⟨h1, h2, fun i a b => (S i a b).1, fun i a b => by rw [(S i a b).2.1]; decide, fun i a b x hx => ?_, fun x a b hx => ?_, fun i a b => ?_, fun i a b => by rw [(S i a b).2.1]; omega, fun i a b => (W i a b).1, fun i a b t ht => ?_, fun i a b hq => ?_, fun t a b _ on => ?_, fun i a b => ?_, h5, h6⟩, fun i a b => (S i a b).2, fun i a b => ⟨(W i a b).2.1, (W i a b).2.2.1, (W i a b).2.2.2.1, (W i a b).2.2.2.2.1⟩, fun i a b => (W i a b).2.2.2.2.2.1, fun i a b => (W i a b).2.2.2.2.2.2⟩
  · rw [(S i a b).2.2] at hx; cases hx
  · rw [(S x a b).2.1] at hx; omega
  · rw [(S i a b).2.2]; exact List.nodup_nil
  · rw [(W i a b).2.1] at ht; cases ht
  · exact absurd (W i a b).2.1 hq
  · rw [(W t a b).2.2.1] at on; omega
  · rw [(W i a b).2.1]; exact List.nodup_nil
end Go.Proofs
