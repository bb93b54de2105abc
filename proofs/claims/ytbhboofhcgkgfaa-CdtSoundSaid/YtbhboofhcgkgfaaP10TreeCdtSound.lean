/- Plain laws of what CdtSound reaches, part P10Tree. On no condition. -/
import Derived.Test.YtbhboofhcgkgfaaP10StCdtSound
import Derived.Test.YtbhboofhcgkgfaaP10SlotBCdtSound
set_option linter.all false
/-! Slots in a tree: linked and unlinked. -/
set_option linter.unusedVariables false
namespace Go.Proofs
open Go.Sl
structure Tree (P : Int → Int) (K : Int → List Int) : Prop where
  par : ∀ i, 0 ≤ i → i < 96 → -1 ≤ P i ∧ P i < 96
  kid : ∀ i, 0 ≤ i → i < 96 → ∀ x ∈ K i, 0 ≤ x ∧ x < 96 ∧ P x = i
  all : ∀ x, 0 ≤ x → x < 96 → 0 ≤ P x → x ∈ K (P x)
  nod : ∀ i, 0 ≤ i → i < 96 → (K i).Nodup
  irr : ∀ i, 0 ≤ i → i < 96 → P i ≠ i
def slw (P : Int → Int) (K : Int → List Int) (i f : Int) : Int :=
  if f = 1 then P i + 1 else if f = 2 then hd (K i) else if 0 ≤ P i then (if f = 3 then nextOf (K (P i)) i else prv 0 (K (P i)) i) else 0
theorem WF.tree {st : ref10_State} (h : WF st) : Tree (fun i => (slt st i).Parent) (fun i => (slt st i).Kids) := ⟨h.par, h.kid, h.all, h.nodk, h.irr⟩
theorem sl_slw (st : ref10_State) (i : Int) {f : Int} (hf : 1 ≤ f) : sl st i f = slw (fun i => (slt st i).Parent) (fun i => (slt st i).Kids) i f := by
  unfold sl slw
  rw [if_neg (by omega)]
def TW (P : Int → Int) (K : Int → List Int) (v : List Int) : Prop := ∀ i f, 0 ≤ i → i < 96 → 1 ≤ f → f < 5 → sget v i f = slw P K i f - 1
theorem IsW.tw {st : ref10_State} (h : WF st) {v : List Int} (hv : IsW st v) : TW (fun i => (slt st i).Parent) (fun i => (slt st i).Kids) v := fun i f i0 i1 f0 f1 => by
  have := sl_rg h (i := i) (f := f) ⟨i0, i1⟩ ⟨f0, f1⟩
  unfold sget
  rw [if_pos ⟨i0, i1, by omega, f1⟩, hv.slot i f i0 i1 (by omega) f1, ← sl_slw st i f0]
  split <;> omega
section
variable {P : Int → Int} {K : Int → List Int}
theorem Tree.link (t : Tree P K) {kid par : Int} (hk : 0 ≤ kid ∧ kid < 96) (hp : 0 ≤ par ∧ par < 96) (hP : P kid = -1) (hne : kid ≠ par) : Tree (fun i => if i = kid then par else P i) (fun i => if i = par then kid :: K par else K i) := by
  have hno : ∀ i, 0 ≤ i → i < 96 → kid ∉ K i := fun i i0 i1 z => by have := (t.kid i i0 i1 kid z).2.2; omega
  refine ⟨fun i i0 i1 => ?_, fun i i0 i1 x hx => ?_, fun x x0 x1 hx => ?_, fun i i0 i1 => ?_, fun i i0 i1 => ?_⟩
  · show -1 ≤ (if i = kid then par else P i) ∧ (if i = kid then par else P i) < 96
    split
    · omega
    · exact t.par i i0 i1
  · show 0 ≤ x ∧ x < 96 ∧ (if x = kid then par else P x) = i
    have hx : x ∈ (if i = par then kid :: K par else K i) := hx
    by_cases e : i = par
    · rw [if_pos e] at hx
      rcases List.mem_cons.1 hx with z | z
      · rw [if_pos z]; exact ⟨by omega, by omega, e.symm⟩
      · have := t.kid par hp.1 hp.2 x z
        rw [if_neg (fun q => by rw [q] at z; exact hno par hp.1 hp.2 z)]
        exact ⟨this.1, this.2.1, by rw [e]; exact this.2.2⟩
    · rw [if_neg e] at hx
      have := t.kid i i0 i1 x hx
      rw [if_neg (fun q => by rw [q] at hx; exact hno i i0 i1 hx)]
      exact this
  · have hx : 0 ≤ (if x = kid then par else P x) := hx
    show x ∈ (if (if x = kid then par else P x) = par then kid :: K par else K (if x = kid then par else P x))
    by_cases e : x = kid
    · rw [if_pos e, if_pos rfl, e]; exact List.mem_cons_self
    · rw [if_neg e] at hx ⊢
      have := t.all x x0 x1 hx
      split
      · rename_i q; rw [q] at this; exact List.mem_cons_of_mem _ this
      · exact this
  · show (if i = par then kid :: K par else K i).Nodup
    split
    · exact List.nodup_cons.2 ⟨hno par hp.1 hp.2, t.nod par hp.1 hp.2⟩
    · exact t.nod i i0 i1
  · show (if i = kid then par else P i) ≠ i
    split
    · rename_i e; rw [e]; exact fun z => hne z.symm
    · exact t.irr i i0 i1
theorem prv_cons {kid : Int} {l : List Int} {i : Int} (hn : i ∈ l) : prv (kid + 1) l i = if l.head? = some i then kid + 1 else prv 0 l i := by
  cases l with
  | nil => cases hn
  | cons b l =>
    show (if i = b then kid + 1 else prv (b + 1) l i) = if some b = some i then kid + 1 else (if i = b then 0 else prv (b + 1) l i)
    by_cases e : i = b
    · rw [if_pos e, if_pos (by rw [e])]
    · rw [if_neg e, if_neg (fun z => e (Option.some.inj z).symm), if_neg e]
theorem TW.link (t : Tree P K) {v : List Int} (hl : v.length = 738) (w : TW P K v) {kid par : Int} (hk : 0 ≤ kid ∧ kid < 96) (hp : 0 ≤ par ∧ par < 96) (hP : P kid = -1) (hne : kid ≠ par) : TW (fun i => if i = kid then par else P i) (fun i => if i = par then kid :: K par else K i) (linkTo v kid par) := by
  intro i f i0 i1 f0 f1
  have h2 : sget v par 2 = hd (K par) - 1 := w par 2 hp.1 hp.2 (by decide) (by decide)
  have hr := hd_rg (n := 96) (by decide) (l := K par) (fun x hx => by have := t.kid par hp.1 hp.2 x hx; omega)
  have s1 : InSlot kid 1 := ⟨hk.1, hk.2, by decide, by decide⟩
  have s3 : InSlot kid 3 := ⟨hk.1, hk.2, by decide, by decide⟩
  have s4 : InSlot kid 4 := ⟨hk.1, hk.2, by decide, by decide⟩
  have p2 : InSlot par 2 := ⟨hp.1, hp.2, by decide, by decide⟩
  have W := w i f i0 i1 f0 f1
  unfold linkTo
  rw [sget_sput (by simp [sput_len, hl]) _ _ _ _ _ (by omega), sget_sput (by simp [sput_len, hl]) _ _ _ _ _ (by omega), sget_sput (by simp [sput_len, hl]) _ _ _ _ _ (by decide), sget_sput (by simp [sput_len, hl]) _ _ _ _ _ (by omega), sget_sput hl _ _ _ _ _ (by omega), W, h2]
  have hkno : kid ∉ K par := fun z => by have := (t.kid par hp.1 hp.2 kid z).2.2; omega
  have pi := t.par i i0 i1
  rcases (by omega : f = 1 ∨ f = 2 ∨ f = 3 ∨ f = 4) with rfl | rfl | rfl | rfl
  · rw [if_neg (by omega), if_neg (by omega), if_neg (by omega), if_neg (by omega)]
    show _ = (if i = kid then par else P i) + 1 - 1
    show (if InSlot kid 1 ∧ kid = i ∧ (1 : Int) = 1 then par else P i + 1 - 1) = _
    by_cases e : i = kid
    · rw [if_pos e, if_pos ⟨s1, e.symm, rfl⟩]; omega
    · rw [if_neg e, if_neg (fun z => e z.2.1.symm)]
  · rw [if_neg (c := InSlot _ 4 ∧ _) (by omega), if_neg (c := InSlot kid 4 ∧ _) (by omega), if_neg (c := InSlot kid 3 ∧ _) (by omega), if_neg (c := InSlot kid 1 ∧ _) (by omega)]
    show (if InSlot par 2 ∧ par = i ∧ (2 : Int) = 2 then kid else hd (K i) - 1) = hd (if i = par then kid :: K par else K i) - 1
    by_cases e : i = par
    · rw [if_pos e, if_pos ⟨p2, e.symm, rfl⟩]; show kid = kid + 1 - 1; omega
    · rw [if_neg e, if_neg (fun z => e z.2.1.symm)]
  · rw [if_neg (by omega), if_neg (by omega), if_neg (by omega), if_neg (c := InSlot kid 1 ∧ _) (by omega)]
    show (if InSlot kid 3 ∧ kid = i ∧ (3 : Int) = 3 then hd (K par) - 1 else (if 0 ≤ P i then nextOf (K (P i)) i else 0) - 1) = (if 0 ≤ (if i = kid then par else P i) then nextOf (if (if i = kid then par else P i) = par then kid :: K par else K (if i = kid then par else P i)) i else 0) - 1
    by_cases e : i = kid
    · rw [if_pos e, if_pos ⟨s3, e.symm, rfl⟩, if_pos hp.1, if_pos rfl]
      show _ = (if i = kid then hd (K par) else _) - 1
      rw [if_pos e]
    · rw [if_neg e, if_neg (fun z => e z.2.1.symm)]
      by_cases e2 : P i = par
      · rw [e2, if_pos hp.1, if_pos hp.1, if_pos rfl]
        show _ = (if i = kid then _ else nextOf (K par) i) - 1
        rw [if_neg e]
      · rw [if_neg e2]
  · rw [if_neg (by omega)]
    rw [if_neg (c := InSlot kid 3 ∧ _) (by omega), if_neg (c := InSlot kid 1 ∧ _) (by omega)]
    show (if InSlot (hd (K par) - 1) 4 ∧ hd (K par) - 1 = i ∧ (4 : Int) = 4 then kid else if InSlot kid 4 ∧ kid = i ∧ (4 : Int) = 4 then -1 else (if 0 ≤ P i then prv 0 (K (P i)) i else 0) - 1) = (if 0 ≤ (if i = kid then par else P i) then prv 0 (if (if i = kid then par else P i) = par then kid :: K par else K (if i = kid then par else P i)) i else 0) - 1
    have hh : hd (K par) - 1 = i → i ∈ K par ∧ (K par).head? = some i := fun z => by
      cases hK : K par with
      | nil => rw [hK] at z; have : (0 : Int) - 1 = i := z; omega
      | cons b l =>
        rw [hK] at z
        have : b + 1 - 1 = i := z
        have : b = i := by omega
        rw [this]; exact ⟨List.mem_cons_self, rfl⟩
    by_cases e : i = kid
    · have nh : ¬ hd (K par) - 1 = i := fun z => by have := (hh z).1; rw [e] at this; exact hkno this
      rw [if_pos e, if_neg (fun z => nh z.2.1), if_pos ⟨s4, e.symm, rfl⟩, if_pos hp.1, if_pos rfl]
      show _ = (if i = kid then 0 else _) - 1
      rw [if_pos e]; rfl
    · rw [if_neg e, if_neg (c := InSlot kid 4 ∧ _) (fun z => e z.2.1.symm)]
      by_cases e2 : P i = par
      · have hm : i ∈ K par := by have := t.all i i0 i1 (by omega); rwa [e2] at this
        rw [e2, if_pos hp.1, if_pos hp.1, if_pos rfl]
        show _ = (if i = kid then 0 else prv (kid + 1) (K par) i) - 1
        rw [if_neg e, prv_cons hm]
        by_cases e3 : hd (K par) - 1 = i
        · rw [if_pos ⟨by rw [e3]; exact ⟨i0, i1, by decide, by decide⟩, e3, rfl⟩, if_pos (hh e3).2]; omega
        · rw [if_neg (fun z => e3 z.2.1), if_neg]
          intro z
          cases hK : K par with
          | nil => rw [hK] at z; cases z
          | cons b l =>
            rw [hK] at z e3
            apply e3
            show b + 1 - 1 = i
            have : b = i := Option.some.inj z
            omega
      · rw [if_neg e2, if_neg]
        intro z
        have := (t.kid par hp.1 hp.2 i (hh z.2.1).1).2.2
        exact e2 this
theorem Tree.unlink (t : Tree P K) {kid p : Int} (hk : 0 ≤ kid ∧ kid < 96) (hP : P kid = p) (hp : 0 ≤ p) : Tree (fun i => if i = kid then -1 else P i) (fun i => if i = p then (K p).erase kid else K i) := by
  have hp1 := (t.par kid hk.1 hk.2).2
  rw [hP] at hp1
  have hno : ∀ i, 0 ≤ i → i < 96 → i ≠ p → kid ∉ K i := fun i i0 i1 e z => by have := (t.kid i i0 i1 kid z).2.2; omega
  refine ⟨fun i i0 i1 => ?_, fun i i0 i1 x hx => ?_, fun x x0 x1 hx => ?_, fun i i0 i1 => ?_, fun i i0 i1 => ?_⟩
  · show -1 ≤ (if i = kid then -1 else P i) ∧ (if i = kid then -1 else P i) < 96
    split
    · omega
    · exact t.par i i0 i1
  · show 0 ≤ x ∧ x < 96 ∧ (if x = kid then -1 else P x) = i
    have hx : x ∈ (if i = p then (K p).erase kid else K i) := hx
    by_cases e : i = p
    · rw [if_pos e] at hx
      have hn := t.nod p hp hp1
      have hxk : x ≠ kid := fun z => by rw [z] at hx; exact (List.Nodup.not_mem_erase hn) hx
      have := t.kid p hp hp1 x (List.mem_of_mem_erase hx)
      rw [if_neg hxk]
      exact ⟨this.1, this.2.1, by rw [e]; exact this.2.2⟩
    · rw [if_neg e] at hx
      have := t.kid i i0 i1 x hx
      rw [if_neg (fun q => by rw [q] at hx; exact hno i i0 i1 e hx)]
      exact this
  · have hx : 0 ≤ (if x = kid then -1 else P x) := hx
    show x ∈ (if (if x = kid then -1 else P x) = p then (K p).erase kid else K (if x = kid then -1 else P x))
    by_cases e : x = kid
    · rw [if_pos e] at hx; omega
    · rw [if_neg e] at hx ⊢
      have := t.all x x0 x1 hx
      split
      · rename_i q; rw [q] at this; exact (List.mem_erase_of_ne e).2 this
      · exact this
  · show (if i = p then (K p).erase kid else K i).Nodup
    split
    · exact (t.nod p hp hp1).erase _
    · exact t.nod i i0 i1
  · show (if i = kid then -1 else P i) ≠ i
    split
    · omega
    · exact t.irr i i0 i1
end
end Go.Proofs
