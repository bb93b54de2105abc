/- Plain laws of what SpaceOnce reaches, part P18SpaceInv. On no condition. -/
import Derived.Test.YtogpgphahnldmaaP18SpaceSpaceOnce
set_option linter.all false
/-! Frames 0 to 3, spaces 4 and 5: each frame is mapped once at most. -/
namespace Go.Proofs
open Go.Sl
structure SInv (s : List Int) : Prop where
  g : Good s
  fr : ∀ f, 0 ≤ f → f < 4 → fld s f 0 = 6
  sp : ∀ b, 4 ≤ b → b < 6 → fld s b 0 = 7
  no : ∀ i, ¬ (0 ≤ i ∧ i < 6) → fld s i 0 = 0
  a : ∀ f, 0 ≤ f → f < 4 → fld s f 1 = 0 ∧ fld s f 2 = 0 ∨ 5 ≤ fld s f 1 ∧ fld s f 1 ≤ 6 ∧ 0 ≤ fld s f 2 ∧ fld s f 2 < 4 ∧ fld s (fld s f 1 - 1) (1 + fld s f 2) / 8 = f + 1
  b : ∀ b p, 4 ≤ b → b < 6 → 0 ≤ p → p < 4 → fld s b (1 + p) = 0 ∨ 8 ≤ fld s b (1 + p) ∧ fld s b (1 + p) < 40 ∧ fld s (fld s b (1 + p) / 8 - 1) 1 = b + 1 ∧ fld s (fld s b (1 + p) / 8 - 1) 2 = p
theorem SInv.frame {s : List Int} (h : SInv s) {i : Int} (hk : fld s i 0 = 6) : 0 ≤ i ∧ i < 4 := by
  by_cases q : 0 ≤ i ∧ i < 6
  · by_cases q2 : i < 4
    · exact ⟨q.1, q2⟩
    · rw [h.sp i (by omega) q.2] at hk; omega
  · rw [h.no i q] at hk; omega
theorem SInv.space {s : List Int} (h : SInv s) {i : Int} (hk : fld s i 0 = 7) : 4 ≤ i ∧ i < 6 := by
  by_cases q : 0 ≤ i ∧ i < 6
  · by_cases q2 : i < 4
    · rw [h.fr i q.1 q2] at hk; omega
    · omega
  · rw [h.no i q] at hk; omega
theorem SInv.pgv_none {s : List Int} (h : SInv s) {b p : Int} (hb : 4 ≤ b ∧ b < 6) (hp : 0 ≤ p ∧ p < 4) (hv : (pgv s b p).2.2 = false) : fld s b (1 + p) = 0 := by
  rcases h.b b p hb.1 hb.2 hp.1 hp.2 with q | q
  · exact q
  · unfold pgv at hv
    rw [if_pos ⟨h.sp b hb.1 hb.2, hp.1, hp.2, q.1, by omega⟩] at hv
    cases hv
theorem SInv.pgv_some {s : List Int} (h : SInv s) {b p : Int} (hv : (pgv s b p).2.2 = true) : 4 ≤ b ∧ b < 6 ∧ 0 ≤ p ∧ p < 4 ∧ 0 ≤ (pgv s b p).1 ∧ (pgv s b p).1 < 4 ∧ fld s (pgv s b p).1 1 = b + 1 ∧ fld s (pgv s b p).1 2 = p ∧ (pgv s b p).1 = fld s b (1 + p) / 8 - 1 := by
  unfold pgv at hv ⊢
  by_cases q : fld s b 0 = 7 ∧ 0 ≤ p ∧ p < 4 ∧ 8 ≤ fld s b (1 + p) ∧ fld s b (1 + p) < 264
  · rw [if_pos q]
    have hb := h.space q.1
    rcases h.b b p hb.1 hb.2 q.2.1 q.2.2.1 with q2 | q2
    · omega
    · exact ⟨hb.1, hb.2, q.2.1, q.2.2.1, by show 0 ≤ fld s b (1 + p) / 8 - 1; omega, by show fld s b (1 + p) / 8 - 1 < 4; omega, q2.2.2.1, q2.2.2.2, rfl⟩
  · rw [if_neg q] at hv; cases hv
theorem inObj_of {i f : Int} (h : 0 ≤ i ∧ i < 32 ∧ 0 ≤ f ∧ f < 8) : InObj i f := h
theorem fld_mapTo {s : List Int} (g : Good s) {a b p r : Int} (ha : 0 ≤ a ∧ a < 4) (hb : 4 ≤ b ∧ b < 6) (hp : 0 ≤ p ∧ p < 4) (hr : 0 ≤ r ∧ r ≤ 7) (i f : Int) :
    fld (mapTo s a b p r) i f = if a = i ∧ 2 = f then p else if a = i ∧ 1 = f then b + 1 else if b = i ∧ 1 + p = f then 8 * (a + 1) + r else fld s i f := by
  unfold mapTo
  have g1 := good_put g b (1 + p) (8 * (a + 1) + r)
  have g2 := good_put g1 a 1 (b + 1)
  have i1 : InObj b (1 + p) := inObj_of (by omega)
  have i2 : InObj a 1 := inObj_of (by omega)
  have i3 : InObj a 2 := inObj_of (by omega)
  rw [fld_put g2 a 2 p i f (by omega), fld_put g1 a 1 (b + 1) i f (by omega), fld_put g b (1 + p) (8 * (a + 1) + r) i f (by omega)]
  simp only [i1, i2, i3, true_and, (by omega : 0 ≤ p), (by omega : 0 ≤ b + 1), (by omega : 0 ≤ 8 * (a + 1) + r), and_true]
theorem SInv.map {s : List Int} (h : SInv s) {a b p r : Int} (hm : mapBad s a b p r = 0) : SInv (mapTo s a b p r) ∧ 0 ≤ a ∧ a < 4 ∧ 4 ≤ b ∧ b < 6 ∧ 0 ≤ p ∧ p < 4 ∧ 0 ≤ r ∧ r ≤ 7 ∧ fld s a 1 = 0 ∧ fld s b (1 + p) = 0 := by
  unfold mapBad at hm
  by_cases q1 : fld s a 0 = 6 ∧ fld s b 0 = 7
  · rw [if_neg (fun q => q q1)] at hm
    by_cases q2 : 0 ≤ p ∧ p < 4 ∧ 0 ≤ r ∧ r ≤ 7
    · rw [if_neg (fun q => q q2)] at hm
      by_cases q3 : 1 ≤ fld s a 1 ∧ fld s a 1 ≤ 32
      · rw [if_pos q3] at hm; omega
      · rw [if_neg q3] at hm
        cases q4 : (pgv s b p).2.2 with
        | true => rw [if_pos q4] at hm; omega
        | false =>
          have ha := h.frame q1.1
          have hb := h.space q1.2
          have hp : 0 ≤ p ∧ p < 4 := ⟨q2.1, q2.2.1⟩
          have hw := h.pgv_none hb hp q4
          have h0 : fld s a 1 = 0 := by rcases h.a a ha.1 ha.2 with q | q <;> omega
          have F := fld_mapTo h.g (a := a) (b := b) (p := p) (r := r) ha hb hp ⟨q2.2.2.1, q2.2.2.2⟩
          refine ⟨⟨good_put (good_put (good_put h.g _ _ _) _ _ _) _ _ _, ?_, ?_, ?_, ?_, ?_⟩, ha.1, ha.2, hb.1, hb.2, hp.1, hp.2, q2.2.2.1, q2.2.2.2, h0, hw⟩
          · intro f h1 h2; rw [F, if_neg (by omega), if_neg (by omega), if_neg (by omega)]; exact h.fr f h1 h2
          · intro f h1 h2; rw [F, if_neg (by omega), if_neg (by omega), if_neg (by omega)]; exact h.sp f h1 h2
          · intro f h1; rw [F, if_neg (by omega), if_neg (by omega), if_neg (by omega)]; exact h.no f h1
          · intro f h1 h2
            by_cases e : a = f
            · subst e
              right
              have e1 : fld (mapTo s a b p r) a 1 = b + 1 := by rw [F, if_neg (by omega), if_pos (by omega)]
              have e2 : fld (mapTo s a b p r) a 2 = p := by rw [F, if_pos (by omega)]
              rw [e1, e2]
              have e3 : fld (mapTo s a b p r) (b + 1 - 1) (1 + p) = 8 * (a + 1) + r := by rw [F, if_neg (by omega), if_neg (by omega), if_pos (by omega)]
              rw [e3]; omega
            · have e1 : fld (mapTo s a b p r) f 1 = fld s f 1 := by rw [F, if_neg (by omega), if_neg (by omega), if_neg (by omega)]
              have e2 : fld (mapTo s a b p r) f 2 = fld s f 2 := by rw [F, if_neg (by omega), if_neg (by omega), if_neg (by omega)]
              rw [e1, e2]
              rcases h.a f h1 h2 with q | q
              · exact .inl q
              · right
                have e3 : fld (mapTo s a b p r) (fld s f 1 - 1) (1 + fld s f 2) = fld s (fld s f 1 - 1) (1 + fld s f 2) := by
                  rw [F, if_neg (by omega), if_neg (by omega), if_neg]
                  rintro ⟨z1, z2⟩
                  have z3 : fld s f 1 - 1 = b := by omega
                  have z4 : 1 + fld s f 2 = 1 + p := by omega
                  rw [z3, z4, hw] at q; omega
                rw [e3]; exact q
          · intro c n h1 h2 h3 h4
            by_cases e : b = c ∧ p = n
            · obtain ⟨rfl, rfl⟩ := e
              right
              have e3 : fld (mapTo s a b p r) b (1 + p) = 8 * (a + 1) + r := by rw [F, if_neg (by omega), if_neg (by omega), if_pos (by omega)]
              have e4 : (8 * (a + 1) + r) / 8 - 1 = a := by omega
              rw [e3, e4]
              have e1 : fld (mapTo s a b p r) a 1 = b + 1 := by rw [F, if_neg (by omega), if_pos (by omega)]
              have e2 : fld (mapTo s a b p r) a 2 = p := by rw [F, if_pos (by omega)]
              rw [e1, e2]; omega
            · have e3 : fld (mapTo s a b p r) c (1 + n) = fld s c (1 + n) := by rw [F, if_neg (by omega), if_neg (by omega), if_neg (by omega)]
              rw [e3]
              rcases h.b c n h1 h2 h3 h4 with q | q
              · exact .inl q
              · right
                have na : a ≠ fld s c (1 + n) / 8 - 1 := by
                  intro z; rw [← z, h0] at q; omega
                have e1 : fld (mapTo s a b p r) (fld s c (1 + n) / 8 - 1) 1 = fld s (fld s c (1 + n) / 8 - 1) 1 := by rw [F, if_neg (by omega), if_neg (by omega), if_neg (by omega)]
                have e2 : fld (mapTo s a b p r) (fld s c (1 + n) / 8 - 1) 2 = fld s (fld s c (1 + n) / 8 - 1) 2 := by rw [F, if_neg (by omega), if_neg (by omega), if_neg (by omega)]
                rw [e1, e2]; exact q
    · rw [if_pos q2] at hm; omega
  · rw [if_pos q1] at hm; omega
theorem SInv.un {s : List Int} (h : SInv s) {a : Int} (hm : unBad s a = 0) : SInv (unTo s a) ∧ 0 ≤ a ∧ a < 4 ∧ 5 ≤ fld s a 1 ∧ fld s a 1 ≤ 6 ∧ 0 ≤ fld s a 2 ∧ fld s a 2 < 4 ∧ fld s (fld s a 1 - 1) (1 + fld s a 2) / 8 = a + 1 ∧
    (∀ i f, fld (unTo s a) i f = if a = i ∧ 2 = f then 0 else if a = i ∧ 1 = f then 0 else if fld s a 1 - 1 = i ∧ 1 + fld s a 2 = f then 0 else fld s i f) ∧ unTo s a = put (put (put s (fld s a 1 - 1) (1 + fld s a 2) 0) a 1 0) a 2 0 := by
  unfold unBad at hm
  by_cases q1 : fld s a 0 = 6
  · rw [if_neg (fun q => q q1)] at hm
    by_cases q2 : 1 ≤ fld s a 1 ∧ fld s a 1 ≤ 32
    · have ha := h.frame q1
      have qa : 5 ≤ fld s a 1 ∧ fld s a 1 ≤ 6 ∧ 0 ≤ fld s a 2 ∧ fld s a 2 < 4 ∧ fld s (fld s a 1 - 1) (1 + fld s a 2) / 8 = a + 1 := by
        rcases h.a a ha.1 ha.2 with q | q
        · omega
        · exact q
      generalize hB : fld s a 1 - 1 = B at *
      generalize hP : fld s a 2 = P at *
      have hB2 : 4 ≤ B ∧ B < 6 := by omega
      have hpg : (pgv s B P).2.2 = true ∧ (pgv s B P).1 = a := by
        have : pgv s B P = (fld s B (1 + P) / 8 - 1, fld s B (1 + P) % 8, true) := by
          unfold pgv; rw [if_pos ⟨h.sp B hB2.1 hB2.2, by omega, by omega, by omega, by omega⟩]
        rw [this]; exact ⟨rfl, by show fld s B (1 + P) / 8 - 1 = a; omega⟩
      have hun : unTo s a = put (put (put s B (1 + P) 0) a 1 0) a 2 0 := by
        unfold unTo; rw [hB, hP, if_pos hpg]
      have g1 := good_put h.g B (1 + P) 0
      have g2 := good_put g1 a 1 0
      have g3 := good_put g2 a 2 0
      have i1 : InObj B (1 + P) := inObj_of (by omega)
      have i2 : InObj a 1 := inObj_of (by omega)
      have i3 : InObj a 2 := inObj_of (by omega)
      have F : ∀ i f, fld (unTo s a) i f = if a = i ∧ 2 = f then 0 else if a = i ∧ 1 = f then 0 else if B = i ∧ 1 + P = f then 0 else fld s i f := by
        intro i f
        rw [hun, fld_put g2 a 2 0 i f (by omega), fld_put g1 a 1 0 i f (by omega), fld_put h.g B (1 + P) 0 i f (by omega)]
        simp only [i1, i2, i3, true_and, Int.le_refl, and_true]
      refine ⟨⟨by rw [hun]; exact g3, ?_, ?_, ?_, ?_, ?_⟩, ha.1, ha.2, qa.1, qa.2.1, qa.2.2.1, qa.2.2.2.1, qa.2.2.2.2, F, hun⟩
      · intro f h1 h2; rw [F, if_neg (by omega), if_neg (by omega), if_neg (by omega)]; exact h.fr f h1 h2
      · intro f h1 h2; rw [F, if_neg (by omega), if_neg (by omega), if_neg (by omega)]; exact h.sp f h1 h2
      · intro f h1; rw [F, if_neg (by omega), if_neg (by omega), if_neg (by omega)]; exact h.no f h1
      · intro f h1 h2
        by_cases e : a = f
        · subst e
          left
          rw [F, F, if_neg (by omega), if_pos (by omega), if_pos (by omega)]; exact ⟨rfl, rfl⟩
        · have e1 : fld (unTo s a) f 1 = fld s f 1 := by rw [F, if_neg (by omega), if_neg (by omega), if_neg (by omega)]
          have e2 : fld (unTo s a) f 2 = fld s f 2 := by rw [F, if_neg (by omega), if_neg (by omega), if_neg (by omega)]
          rw [e1, e2]
          rcases h.a f h1 h2 with q | q
          · exact .inl q
          · right
            have e3 : fld (unTo s a) (fld s f 1 - 1) (1 + fld s f 2) = fld s (fld s f 1 - 1) (1 + fld s f 2) := by
              rw [F, if_neg (by omega), if_neg (by omega), if_neg]
              rintro ⟨z1, z2⟩
              have z4 : 1 + fld s f 2 = 1 + P := by omega
              rw [← z1, z4] at q; omega
            rw [e3]; exact q
      · intro c n h1 h2 h3 h4
        by_cases e : B = c ∧ P = n
        · left; rw [F, if_neg (by omega), if_neg (by omega), if_pos (by omega)]
        · have e3 : fld (unTo s a) c (1 + n) = fld s c (1 + n) := by rw [F, if_neg (by omega), if_neg (by omega), if_neg (by omega)]
          rw [e3]
          rcases h.b c n h1 h2 h3 h4 with q | q
          · exact .inl q
          · right
            have na : a ≠ fld s c (1 + n) / 8 - 1 := by
              intro z; rw [← z] at q; omega
            have e1 : fld (unTo s a) (fld s c (1 + n) / 8 - 1) 1 = fld s (fld s c (1 + n) / 8 - 1) 1 := by rw [F, if_neg (by omega), if_neg (by omega), if_neg (by omega)]
            have e2 : fld (unTo s a) (fld s c (1 + n) / 8 - 1) 2 = fld s (fld s c (1 + n) / 8 - 1) 2 := by rw [F, if_neg (by omega), if_neg (by omega), if_neg (by omega)]
            rw [e1, e2]; exact q
    · rw [if_pos q2] at hm; omega
  · rw [if_pos q1] at hm; omega
/-- The words that a law of layer 18 begins with. -/
def beginB (s : List Int) : Bool := goodB s && (List.range 32).all fun i => fld s i 0 == (if i < 4 then 6 else if i < 6 then 7 else 0) && (i ≥ 6 || (List.range 7).all fun f => fld s i (f + 1) == 0)
theorem SInv.begin {s : List Int} (h : beginB s = true) : SInv s := by
  simp only [beginB, Bool.and_eq_true, List.all_eq_true, List.mem_range, beq_iff_eq, Bool.or_eq_true, decide_eq_true_eq] at h
  obtain ⟨hg, hk⟩ := h
  have k : ∀ i : Int, 0 ≤ i → i < 32 → fld s i 0 = (if i < 4 then 6 else if i < 6 then 7 else 0) := fun i h1 h2 => by
    have := (hk i.toNat (by omega)).1
    rw [show ((i.toNat : Nat) : Int) = i by omega] at this
    rw [this]
    by_cases q : i < 4
    · rw [if_pos q, if_pos (by omega)]
    · rw [if_neg q, if_neg (by omega)]
      by_cases q2 : i < 6
      · rw [if_pos q2, if_pos (by omega)]
      · rw [if_neg q2, if_neg (by omega)]
  have z : ∀ i f : Int, 0 ≤ i → i < 6 → 1 ≤ f → f < 8 → fld s i f = 0 := fun i f h1 h2 h3 h4 => by
    rcases (hk i.toNat (by omega)).2 with q | q
    · omega
    · have := q (f - 1).toNat (by omega)
      rw [show ((i.toNat : Nat) : Int) = i by omega, show (((f - 1).toNat : Nat) : Int) + 1 = f by omega] at this
      exact this
  refine ⟨good_of hg, ?_, ?_, ?_, ?_, ?_⟩
  · intro f h1 h2; rw [k f h1 (by omega), if_pos h2]
  · intro f h1 h2; rw [k f (by omega) (by omega), if_neg (by omega), if_pos h2]
  · intro i h1
    by_cases q : 0 ≤ i ∧ i < 32
    · rw [k i q.1 q.2, if_neg (by omega), if_neg (by omega)]
    · unfold fld; rw [if_neg]; intro q2; unfold InObj at q2; omega
  · intro f h1 h2; left; exact ⟨z f 1 h1 (by omega) (by omega) (by omega), z f 2 h1 (by omega) (by omega) (by omega)⟩
  · intro b p h1 h2 h3 h4; left; exact z b (1 + p) (by omega) h2 (by omega) (by omega)
end Go.Proofs
