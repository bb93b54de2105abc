/- Plain laws of what CdtSound reaches, part P10IsW. On no condition. -/
import Derived.Test.YtbhboofhcgkgfaaP10WordsFCdtSound
set_option linter.all false
/-! All words of a state are what IsW says. -/
set_option linter.unusedVariables false
namespace Go.Proofs
open Go.Sl
theorem words_ok {st : ref10_State} (h : WF st) {k : Nat} (hk : 250 ≤ k) : ∃ w, ref10_State_Words.f k st = some w ∧ IsW st w := by
  unfold ref10_State_Words.f
  have hm : mk_ (0 : Int) 738 = some (List.replicate 738 0) := rfl
  have hg : ∀ j : Nat, (List.replicate 738 (0 : Int)).getD j 0 = 0 := fun j => by
    rw [List.getD]
    by_cases e : j < 738
    · rw [List.getElem?_replicate, if_pos e]; rfl
    · rw [List.getElem?_replicate, if_neg e]; rfl
  have hl : (List.replicate 738 (0 : Int)).length = 738 := List.length_replicate
  rw [hm, Option.bind_some]
  generalize List.replicate 738 (0 : Int) = z at hg hl
  obtain ⟨q1, e1, l1, i1⟩ := slots_ok h 96 k 0 z (by decide) (by decide) (by decide) (by omega) hl ⟨fun j _ => hg _, fun s f s1 s2 f1 f2 => by
    rw [hg]
    split
    · rw [if_neg (by omega)]
    · split
      · unfold sl
        have := (h.par s s1 s2).1
        rw [if_neg (by omega), if_neg (by omega), if_neg (by omega), if_neg (by omega)]
      · rfl⟩
  rw [e1, Option.bind_some]
  obtain ⟨q2, e2, l2, i2⟩ := objs_ok h q1 32 k 0 q1 (by decide) (by decide) (by decide) (by omega) l1 ⟨fun j _ _ => rfl, fun s f s1 s2 f1 f2 => by
    rw [i1.1 _ (by omega)]
    split
    · rename_i c; rw [if_neg (by omega)]
    · rw [if_neg (by omega)]⟩
  rw [e2, Option.bind_some, rd_at l2 (by decide), Option.bind_some, rd_at (by simpa using l2) (by decide), Option.bind_some, wu64_id h.ns.1 (by have := h.ns; omega), wu64_id h.no.1 (by have := h.no; omega)]
  refine ⟨_, rfl, by simpa using l2, fun i f h1 h2 h3 h4 => ?_, fun i f h1 h2 h3 h4 => ?_, ?_, ?_⟩
  · rw [set_at (by simpa using l2) _ _ _ (by decide) (by omega), set_at l2 _ _ _ (by decide) (by omega), if_neg (by omega), if_neg (by omega), i2.1 _ (by omega) (by omega), i1.2 i f h1 h2 h3 h4]
    rw [if_pos h2, if_pos (h.par i h1 h2).2]
    split <;> rfl
  · rw [set_at (by simpa using l2) _ _ _ (by decide) (by omega), set_at l2 _ _ _ (by decide) (by omega), if_neg (by omega), if_neg (by omega), i2.2 i f h1 h2 h3 h4]
    rw [if_pos h2, if_pos (h.obj i h1 h2).on.2]
    split
    · rename_i c; rw [c.1]
    · rfl
  · have := set_at (q := q2.set (736 : Int).toNat st.NS) (by simpa using l2) 737 736 st.NO (by decide) (by decide)
    rw [show (736 : Nat) = (736 : Int).toNat from rfl, this, if_neg (by decide), set_at l2 _ _ _ (by decide) (by decide), if_pos rfl]
  · have := set_at (q := q2.set (736 : Int).toNat st.NS) (by simpa using l2) 737 737 st.NO (by decide) (by decide)
    rw [show (737 : Nat) = (737 : Int).toNat from rfl, this, if_pos rfl]
theorem words_is {st : ref10_State} {v : List Int} (h : WF st) (hv : IsW st v) {k : Nat} (hk : 250 ≤ k) : ref10_State_Words.f k st = some v := by
  obtain ⟨w, e, hw⟩ := words_ok h hk
  rw [e, hv.uniq hw]
theorem capWord_rg {c : api_Cap} (h : CapMay c) : 0 ≤ capWord c ∧ capWord c ≤ 4611686018427387904 := by
  have hg := guard_lt h
  obtain ⟨h1, h2, h3, h4, h5, h6, h7, h8, h9, h10, -, -, -, h14, h15⟩ := h
  unfold capWord
  constructor <;> omega
theorem own_rg {o : ref10_Obj} (h : OW o) {f : Int} (hf : 0 ≤ f ∧ f < 8) : 0 ≤ own o f ∧ own o f ≤ 4611686018427387904 := by
  obtain ⟨w1, w2, w3, w4, w5, w6, w7, w8, w9, w10, w11, w12, w13, w14, w15, w16, w17, w18, w19, w20⟩ := h
  have hc := capWord_rg w14
  rcases (by omega : o.Kind = 0 ∨ o.Kind = 1 ∨ o.Kind = 2 ∨ o.Kind = 3 ∨ o.Kind = 4 ∨ o.Kind = 5 ∨ o.Kind = 6 ∨ o.Kind = 7 ∨ o.Kind = 8) with K | K | K | K | K | K | K | K | K
  · rw [own0 K]; split <;> decide
  · rw [own1 K]; repeat' split
    all_goals omega
  · rw [own2 K]; repeat' split
    all_goals omega
  · rw [own3 K]; repeat' split
    all_goals omega
  · rw [own4 K]; repeat' split
    all_goals omega
  · rw [own5 K]; repeat' split
    all_goals omega
  · rw [own6 K]; repeat' split
    all_goals omega
  · rw [own7 K]
    split
    · decide
    · split
      · rename_i c
        have a1 := w15 (f - 1) (by omega) (by omega)
        have a2 := w16 (f - 1) (by omega) (by omega)
        unfold pgw
        split <;> omega
      · decide
  · rw [own8 K]; repeat' split
    all_goals omega
section
variable {st : ref10_State} (h : WF st)
include h
theorem kids_rg {i : Int} (h0 : 0 ≤ i) (h1 : i < 96) : ∀ x ∈ (slt st i).Kids, 0 ≤ x ∧ x < 96 := fun x hx => by have := h.kid i h0 h1 x hx; omega
theorem queue_rg {i : Int} (h0 : 0 ≤ i) (h1 : i < 32) : ∀ x ∈ (obt st i).Queue, 0 ≤ x ∧ x < 32 := fun x hx => by have := h.que i h0 h1 x hx; omega
theorem ob_rg {i f : Int} (hi : 0 ≤ i ∧ i < 32) (hf : 0 ≤ f ∧ f < 8) : 0 ≤ ob st i f ∧ ob st i f ≤ 4611686018427387904 := by
  have hw := h.obj i hi.1 hi.2
  unfold ob
  split
  · rename_i c
    have := nextOf_rg (n := 32) (by decide) i (queue_rg h c.2.2 hw.on.2); omega
  · split
    · have := hd_rg (n := 32) (by decide) (queue_rg h hi.1 hi.2); omega
    · split
      · have := la_rg (n := 32) (by decide) (queue_rg h hi.1 hi.2); omega
      · exact own_rg hw hf
theorem sl_rg {i f : Int} (hi : 0 ≤ i ∧ i < 96) (hf : 1 ≤ f ∧ f < 5) : 0 ≤ sl st i f ∧ sl st i f ≤ 96 := by
  have hp := h.par i hi.1 hi.2
  unfold sl
  rw [if_neg (by omega)]
  split
  · omega
  · split
    · exact hd_rg (by decide) (kids_rg h hi.1 hi.2)
    · split
      · rename_i c
        split
        · exact nextOf_rg (by decide) _ (kids_rg h c hp.2)
        · exact prv_rg (by decide) _ (by decide) (by decide) (kids_rg h c hp.2)
      · decide
theorem IsW.good {v : List Int} (hv : IsW st v) : GoodU v := by
  have key : ∀ j : Nat, 0 ≤ v.getD j 0 ∧ v.getD j 0 ≤ 4611686018427387904 := fun j => by
    by_cases q : j < 480
    · have e := hv.slot (j / 5 : Nat) (j % 5 : Nat) (by omega) (by omega) (by omega) (by omega)
      rw [show (5 * ((j / 5 : Nat) : Int) + ((j % 5 : Nat) : Int)).toNat = j by omega] at e
      rw [e]
      by_cases f0 : j % 5 = 0
      · rw [f0]
        have := capWord_rg (h.cap (j / 5 : Nat) (by omega) (by omega))
        exact this
      · have := sl_rg h (i := (j / 5 : Nat)) (f := (j % 5 : Nat)) (by omega) (by omega); omega
    · by_cases q2 : j < 736
      · have e := hv.obj ((j - 480) / 8 : Nat) ((j - 480) % 8 : Nat) (by omega) (by omega) (by omega) (by omega)
        rw [show (480 + 8 * (((j - 480) / 8 : Nat) : Int) + (((j - 480) % 8 : Nat) : Int)).toNat = j by omega] at e
        rw [e]; exact ob_rg h (by omega) (by omega)
      · by_cases q3 : j < 738
        · have : j = 736 ∨ j = 737 := by omega
          have h1 := h.ns
          have h2 := h.no
          rcases this with rfl | rfl
          · rw [hv.ns]; omega
          · rw [hv.no]; omega
        · have := hv.len
          rw [List.getD, List.getElem?_eq_none (by omega)]; decide
  exact ⟨⟨hv.len, fun j => (key j).1⟩, fun j => by have := key j; omega⟩
theorem IsW.fv {v : List Int} (hv : IsW st v) {i f : Int} (hi : 0 ≤ i ∧ i < 32) (hf : 0 ≤ f ∧ f < 8) : fld v i f = ob st i f := by
  unfold fld
  rw [if_pos ⟨hi.1, hi.2, hf.1, hf.2⟩, hv.obj i f hi.1 hi.2 hf.1 hf.2, numb_id (ob_rg h hi hf).2]
end
end Go.Proofs
