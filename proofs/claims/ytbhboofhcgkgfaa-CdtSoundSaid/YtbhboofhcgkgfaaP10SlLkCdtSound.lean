/- Plain laws of what CdtSound reaches, part P10SlLk. On no condition. -/
import Derived.Test.YtbhboofhcgkgfaaP10SlStCdtSound
import Derived.Test.YtbhboofhcgkgfaaP10AppLCdtSound
import Derived.Test.YtbhboofhcgkgfaaFnCdtSound0
set_option linter.all false
/-! Slots linked: the program's words are the state's. -/
set_option linter.unusedVariables false
namespace Go.Proofs
open Go.Sl
theorem rslot_ok (i : Int) : ref10_slot.f i = some (decide (InSlot i 0)) := by
  unfold ref10_slot.f InSlot
  congr 1
  by_cases h1 : 0 ≤ i <;> by_cases h2 : i < 96 <;> simp [h1, h2]
theorem at_slot {st : ref10_State} (h : st.Slots.length = 96) {a : Int} (ha : 0 ≤ a ∧ a < 96) : at_ st.Slots a = some (slt st a) := at_getD ha.1 (by rw [h]; omega)
theorem sg_set {S : List ref10_Slot} (h : S.length = 96) {a i : Int} (ha : 0 ≤ a ∧ a < 96) (hi : 0 ≤ i) (x : ref10_Slot) : (S.set a.toNat x).getD i.toNat default = if i = a then x else S.getD i.toNat default := by
  rw [getD_setD]
  by_cases e : i = a
  · rw [if_pos (by omega), if_pos e]
  · rw [if_neg (by omega), if_neg e]
theorem InSlot.rg {i : Int} (h : InSlot i 0) : 0 ≤ i ∧ i < 96 := ⟨h.1, h.2.1⟩
theorem InSlot.of {i f : Int} (h : 0 ≤ i ∧ i < 96) (hf : 0 ≤ f ∧ f < 5) : InSlot i f := ⟨h.1, h.2, hf.1, hf.2⟩
theorem Pst_sget {st : ref10_State} (h : WF st) {v : List Int} (hv : IsW st v) {i : Int} (hi : 0 ≤ i ∧ i < 96) : sget v i 1 = (slt st i).Parent := by
  have := hv.tw h i 1 hi.1 hi.2 (by decide) (by decide)
  rw [this]; show (slt st i).Parent + 1 - 1 = _; omega
theorem tree_st {st : ref10_State} (h : WF st) : Tree (Pst st) (Kst st) := h.tree
theorem tw_st {st : ref10_State} (h : WF st) {v : List Int} (hv : IsW st v) : TW (Pst st) (Kst st) v := hv.tw h
theorem Tree.klen {P : Int → Int} {K : Int → List Int} (t : Tree P K) {i : Int} (i0 : 0 ≤ i) (i1 : i < 96) : (K i).length ≤ 96 := nodup_len 96 (t.nod i i0 i1) fun x hx => by have := t.kid i i0 i1 x hx; omega
/-- The rest of a state. -/
structure Rest (st st' : ref10_State) : Prop where
  ob : st'.Objs = st.Objs
  ns : st'.NS = st.NS
  no : st'.NO = st.NO
theorem Rest.refl (st : ref10_State) : Rest st st := ⟨rfl, rfl, rfl⟩
theorem Rest.trans {a b c : ref10_State} (h : Rest a b) (k : Rest b c) : Rest a c := ⟨k.ob.trans h.ob, k.ns.trans h.ns, k.no.trans h.no⟩
def lP (P : Int → Int) (kid par : Int) : Int → Int := fun i => if i = kid then par else P i
def lK (K : Int → List Int) (kid par : Int) : Int → List Int := fun i => if i = par then kid :: K par else K i
def uP (P : Int → Int) (kid : Int) : Int → Int := fun i => if i = kid then -1 else P i
def uK (K : Int → List Int) (kid p : Int) : Int → List Int := fun i => if i = p then (K p).erase kid else K i
theorem link_pl {st : ref10_State} (h : WF st) {v : List Int} (hv : IsW st v) (kid par : Int) : ∃ n st' v', ref10_State_Link.f st kid par = some (n, st') ∧ VM.run plainI (cdt_Link.f kid par) v = some (eN' n, v') ∧ 0 ≤ n ∧ n ≤ 14 ∧ WF st' ∧ IsW st' v' ∧ Rest st st' ∧
    (n ≠ 0 → st' = st) ∧ (n = 0 → InSlot kid 0 ∧ InSlot par 0 ∧ Pst st kid = -1 ∧ kid ≠ par ∧ SlIs st' (lP (Pst st) kid par) (lK (Kst st) kid par) (Cst st)) ∧ (InSlot kid 0 → InSlot par 0 → Pst st kid = -1 → kid ≠ par → n = 0) ∧ (n = 2 ∨ n = 10 ∨ n = 0) ∧ n = linkBad v kid par := by
  have g := hv.good h
  rw [link_ok g]
  unfold ref10_State_Link.f
  rw [rslot_ok, rslot_ok, Option.bind_some, Option.bind_some]
  by_cases h1 : InSlot kid 0
  · by_cases h2 : InSlot par 0
    · have r1 := h1.rg
      have r2 := h2.rg
      rw [decide_eq_true h1, decide_eq_true h2]
      simp only [Bool.not_true, Bool.or_false, cond_false]
      rw [at_slot h.ls r1]
      have hp := Pst_sget h hv r1
      have pr := h.par kid r1.1 r1.2
      by_cases h3 : kid = par ∨ sget v kid 1 ≠ -1
      · have hb : linkBad v kid par = 10 := by unfold linkBad; rw [if_neg (fun q => q ⟨h1, h2⟩), if_pos h3]
        have key : (bif kid == par then some true else (some (slt st kid)).bind fun x14 => some (decide (0 ≤ x14.Parent))) = some true := by
          by_cases e : kid = par
          · have : (kid == par) = true := by simpa using e
            rw [this]; rfl
          · have e1 : (kid == par) = false := by simpa using e
            rw [e1, cond_false, Option.bind_some, decide_eq_true]
            rcases h3 with q | q
            · exact absurd q e
            · omega
        rw [key, Option.bind_some, cond_true, hb]
        refine ⟨10, st, v, rfl, rfl, by decide, by decide, h, hv, Rest.refl st, fun _ => rfl, fun z => absurd z (by decide), fun _ _ z1 z2 => ?_, by decide, rfl⟩
        exfalso
        rcases h3 with q | q
        · exact z2 q
        · unfold Pst at z1; omega
      · have hb : linkBad v kid par = 0 := by unfold linkBad; rw [if_neg (fun q => q ⟨h1, h2⟩), if_neg h3]
        have n1 : ¬ kid = par := fun e => h3 (.inl e)
        have n2 : (slt st kid).Parent = -1 := by
          rcases Int.lt_or_le (slt st kid).Parent 0 with q | q
          · omega
          · exact absurd (.inr (by omega)) h3
        have e1 : (kid == par) = false := by simpa using n1
        rw [e1, cond_false, Option.bind_some, n2, Option.bind_some, decide_eq_false (by decide), cond_false, Option.bind_some, hb]
        have l1 : (st.Slots.set kid.toNat ({ slt st kid with Parent := par } : ref10_Slot)).length = 96 := by simp [h.ls]
        have a1 : at_ (st.Slots.set kid.toNat ({ slt st kid with Parent := par } : ref10_Slot)) par = some (slt st par) := by
          rw [at_getD r2.1 (by rw [l1]; omega), sg_set h.ls r1 r2.1, if_neg (fun z => n1 z.symm)]; rfl
        have hkl := tree_st h |>.klen r2.1 r2.2
        unfold Kst at hkl
        rw [a1, Option.bind_some, app_ok (by simp only [List.length_cons, List.length_nil]; omega), Option.bind_some, Option.bind_some]
        have S : SlIs ({ st with Slots := (st.Slots.set kid.toNat ({ slt st kid with Parent := par } : ref10_Slot)).set par.toNat ({ slt st par with Kids := [kid] ++ (slt st par).Kids } : ref10_Slot) } : ref10_State) (lP (Pst st) kid par) (lK (Kst st) kid par) (Cst st) := by
          have E : ∀ i, 0 ≤ i → slt ({ st with Slots := (st.Slots.set kid.toNat ({ slt st kid with Parent := par } : ref10_Slot)).set par.toNat ({ slt st par with Kids := [kid] ++ (slt st par).Kids } : ref10_Slot) } : ref10_State) i = if i = par then ({ slt st par with Kids := [kid] ++ (slt st par).Kids } : ref10_Slot) else if i = kid then ({ slt st kid with Parent := par } : ref10_Slot) else slt st i := fun i i0 => by
            show (List.set _ _ _).getD i.toNat default = _
            rw [sg_set l1 r2 i0, sg_set h.ls r1 i0]; rfl
          refine ⟨by simp [h.ls], fun i i0 i1 => ?_, fun i i0 i1 => ?_, fun i i0 i1 => ?_⟩
          · rw [E i i0]; unfold lP Pst
            by_cases c : i = par
            · rw [if_pos c, if_neg (fun z => n1 (z.symm.trans c)), c]
            · rw [if_neg c]
              by_cases c2 : i = kid
              · rw [if_pos c2, if_pos c2]
              · rw [if_neg c2, if_neg c2]
          · rw [E i i0]; unfold lK Kst
            by_cases c : i = par
            · rw [if_pos c, if_pos c]; rfl
            · rw [if_neg c, if_neg c]
              split
              · rename_i e; rw [e]
              · rfl
          · rw [E i i0]; unfold Cst
            split
            · rename_i e; rw [e]
            · split
              · rename_i e; rw [e]
              · rfl
        have t := tree_st h
        have t' := t.link r1 r2 n2 n1
        have w' := TW.link t hv.len (tw_st h hv) r1 r2 n2 n1
        exact ⟨0, _, _, rfl, rfl, by decide, by decide, h.slots S t' h.cap rfl rfl rfl, hv.slots h S t' rfl rfl rfl ((SLow.refl h hv).link kid par r1 r2) w' (fun _ _ _ => rfl), ⟨rfl, rfl, rfl⟩, fun z => absurd rfl z, fun _ => ⟨h1, h2, n2, n1, S⟩, fun _ _ _ _ => rfl, by decide, rfl⟩
    · have hb : linkBad v kid par = 2 := by unfold linkBad; rw [if_pos (fun q => h2 q.2)]
      rw [hb, decide_eq_false h2, Bool.not_false, Bool.or_true, cond_true]
      exact ⟨2, st, v, rfl, rfl, by decide, by decide, h, hv, Rest.refl st, fun _ => rfl, fun z => absurd z (by decide), fun _ z => absurd z h2, by decide, rfl⟩
  · have hb : linkBad v kid par = 2 := by unfold linkBad; rw [if_pos (fun q => h1 q.1)]
    rw [hb, decide_eq_false h1, Bool.not_false, Bool.true_or, cond_true]
    exact ⟨2, st, v, rfl, rfl, by decide, by decide, h, hv, Rest.refl st, fun _ => rfl, fun z => absurd z (by decide), fun z => absurd z h1, by decide, rfl⟩
end Go.Proofs
