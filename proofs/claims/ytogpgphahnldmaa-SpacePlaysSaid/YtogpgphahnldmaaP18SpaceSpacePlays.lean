/- Plain laws of what SpacePlays reaches, part P18Space. On no condition. -/
import Derived.Test.YtogpgphahnldmaaP18ViewSpacePlays
import Derived.Test.YtogpgphahnldmaaP18IsSpacePlays
import Derived.Test.YtogpgphahnldmaaP18RefSpacePlays
import Derived.Test.YtogpgphahnldmaaFnSpacePlays1
set_option linter.all false
/-! Spaces, plainly. -/
namespace Go.Proofs
open Go.Sl
/-- What is mapped at a page. -/
def pgv (s : List Int) (b p : Int) : Int × Int × Bool :=
  if fld s b 0 = 7 ∧ 0 ≤ p ∧ p < 4 ∧ 8 ≤ fld s b (1 + p) ∧ fld s b (1 + p) < 264 then (fld s b (1 + p) / 8 - 1, fld s b (1 + p) % 8, true) else (0, 0, false)
theorem page_ok {s : List Int} (g : Good s) (b p : Int) : VM.run plainI (space_Page.f b p) s = some (pgv s b p, s) := by
  unfold space_Page.f pgv
  have hin : space_in.f p = some (decide (0 ≤ p) && decide (p < 4)) := rfl
  have hat : space_at.f p = some (w64 (1 + p)) := rfl
  simp only [runB, is_ok g b 7 (by decide), Option.bind_some, runC, runR, runO, hin, hat, Option.map_some]
  by_cases h1 : fld s b 0 = 7
  · by_cases h2 : 0 ≤ p ∧ p < 4
    · have e : (decide (0 ≤ p) && decide (p < 4)) = true := by simp; omega
      have ew : w64 (1 + p) = 1 + p := w64_id (by omega) (by omega)
      have h3 := fld_nn g b (1 + p)
      have h4 := fld_le s b (1 + p)
      simp only [h1, decide_true, Bool.not_true, cond_false, Option.bind_some, e, ew, field_ok g]
      generalize fld s b (1 + p) = w at h3 h4
      have e1 : w.tdiv 8 = w / 8 := Int.tdiv_eq_ediv_of_nonneg h3
      have e2 : w.tmod 8 = w % 8 := Int.tmod_eq_emod_of_nonneg h3
      rw [e1, e2, w64_id (x := w / 8) (by omega) (by omega), w64_id (x := w / 8 - 1) (by omega) (by omega)]
      by_cases h5 : 8 ≤ w ∧ w < 264
      · have e3 : (decide (w / 8 - 1 < 0) || decide (32 ≤ w / 8 - 1)) = false := by simp; omega
        rw [e3, if_pos ⟨trivial, h2.1, h2.2, h5⟩]; rfl
      · have e3 : (decide (w / 8 - 1 < 0) || decide (32 ≤ w / 8 - 1)) = true := by simp; omega
        rw [e3, if_neg (fun q => h5 ⟨q.2.2.2.1, q.2.2.2.2⟩)]; rfl
    · have e : (decide (0 ≤ p) && decide (p < 4)) = false := by
        rw [Bool.eq_false_iff]; simp; omega
      simp only [h1, decide_true, Bool.not_true, cond_false, Option.bind_some, e, Bool.not_false, cond_true]
      rw [if_neg (fun q => h2 ⟨q.2.1, q.2.2.1⟩)]
  · simp only [h1, decide_false, Bool.not_false, cond_true, Option.bind_some]
    rw [if_neg (fun q => q.1)]
/-- What comes of a mapping, and of its end: an error's number (0: none), and the words. -/
def mapBad (s : List Int) (a b p r : Int) : Int :=
  if ¬ (fld s a 0 = 6 ∧ fld s b 0 = 7) then 2
  else if ¬ (0 ≤ p ∧ p < 4 ∧ 0 ≤ r ∧ r ≤ 7) then 1
  else if 1 ≤ fld s a 1 ∧ fld s a 1 ≤ 32 then 10
  else if (pgv s b p).2.2 = true then 8 else 0
def mapTo (s : List Int) (a b p r : Int) : List Int := put (put (put s b (1 + p) (8 * (a + 1) + r)) a 1 (b + 1)) a 2 p
def eB (n : Int) : Option Int := if n = 0 then none else some n
theorem inObj_kind {s : List Int} {a k : Int} (h : fld s a 0 = k) (hk : k ≠ 0) : 0 ≤ a ∧ a < 32 := by
  unfold fld at h
  split at h
  · rename_i q; exact ⟨q.1, q.2.1⟩
  · omega
theorem map_ok {s : List Int} (g : Good s) (a b p r : Int) : VM.run plainI (space_Map.f a b p r) s = some (eB (mapBad s a b p r), if mapBad s a b p r = 0 then mapTo s a b p r else s) := by
  unfold space_Map.f
  have hin : space_in.f p = some (decide (0 ≤ p) && decide (p < 4)) := rfl
  have hat : space_at.f p = some (w64 (1 + p)) := rfl
  simp only [runB, ref_ok g, page_ok g, is_ok g a 6 (by decide), is_ok g b 7 (by decide), Option.bind_some, runC, runR, runO, hin, hat, Option.map_some]
  by_cases h1 : fld s a 0 = 6
  · by_cases h2 : fld s b 0 = 7
    · have n0 : ¬ ¬ (fld s a 0 = 6 ∧ fld s b 0 = 7) := fun q => q ⟨h1, h2⟩
      by_cases h3 : 0 ≤ p ∧ p < 4 ∧ 0 ≤ r ∧ r ≤ 7
      · have e : (!(decide (0 ≤ p) && decide (p < 4)) || decide (r < 0) || decide (7 < r)) = false := by simp; omega
        have n1 : ¬ ¬ (0 ≤ p ∧ p < 4 ∧ 0 ≤ r ∧ r ≤ 7) := fun q => q h3
        by_cases h4 : 1 ≤ fld s a 1 ∧ fld s a 1 ≤ 32
        · have hm : mapBad s a b p r = 10 := by rw [mapBad, if_neg n0, if_neg n1, if_pos h4]
          rw [hm, if_pos h4]
          simp only [h1, h2, decide_true, Bool.not_true, cond_false, cond_true, Option.bind_some, e]; rfl
        · rw [if_neg h4]
          cases h5 : (pgv s b p).2.2 with
          | true =>
            have hm : mapBad s a b p r = 8 := by rw [mapBad, if_neg n0, if_neg n1, if_neg h4, if_pos h5]
            rw [hm]
            simp only [h1, h2, decide_true, Bool.not_true, cond_false, cond_true, Option.bind_some, e]; rfl
          | false =>
            have hm : mapBad s a b p r = 0 := by rw [mapBad, if_neg n0, if_neg n1, if_neg h4, if_neg (by rw [h5]; simp)]
            have ha := inObj_kind h1 (by decide)
            have hb := inObj_kind h2 (by decide)
            have ew : w64 (1 + p) = 1 + p := w64_id (by omega) (by omega)
            have e1 : w64 (a + 1) = a + 1 := w64_id (by omega) (by omega)
            have e2 : w64 (8 * (a + 1)) = 8 * (a + 1) := w64_id (by omega) (by omega)
            have e3 : w64 (8 * (a + 1) + r) = 8 * (a + 1) + r := w64_id (by omega) (by omega)
            have e4 : w64 (b + 1) = b + 1 := w64_id (by omega) (by omega)
            have g1 := good_put g b (1 + p) (8 * (a + 1) + r)
            have g2 := good_put g1 a 1 (b + 1)
            rw [hm]
            simp only [h1, h2, decide_true, Bool.not_true, cond_false, Option.bind_some, e, ew, e1, e2, e3, e4, put_ok g b (1 + p) (8 * (a + 1) + r) (by omega), put_ok g1 a 1 (b + 1) (by omega), put_ok g2 a 2 p (by omega)]
            rfl
      · have e : (!(decide (0 ≤ p) && decide (p < 4)) || decide (r < 0) || decide (7 < r)) = true := by
          rw [← Bool.not_eq_false]; simp; omega
        have hm : mapBad s a b p r = 1 := by rw [mapBad, if_neg n0, if_pos h3]
        rw [hm]
        simp only [h1, h2, decide_true, Bool.not_true, cond_false, cond_true, Option.bind_some, e]; rfl
    · have hm : mapBad s a b p r = 2 := by rw [mapBad, if_pos (fun q => h2 q.2)]
      rw [hm]
      simp only [h1, h2, decide_true, decide_false, Bool.not_true, Bool.not_false, cond_false, cond_true, Option.bind_some]; rfl
  · have hm : mapBad s a b p r = 2 := by rw [mapBad, if_pos (fun q => h1 q.1)]
    rw [hm]
    simp only [h1, decide_false, Bool.not_false, cond_true, Option.bind_some]; rfl
def unBad (s : List Int) (a : Int) : Int := if ¬ fld s a 0 = 6 then 2 else if ¬ (1 ≤ fld s a 1 ∧ fld s a 1 ≤ 32) then 10 else 0
def unTo (s : List Int) (a : Int) : List Int :=
  if (pgv s (fld s a 1 - 1) (fld s a 2)).2.2 = true ∧ (pgv s (fld s a 1 - 1) (fld s a 2)).1 = a then put (put (put s (fld s a 1 - 1) (1 + fld s a 2) 0) a 1 0) a 2 0 else put (put s a 1 0) a 2 0
theorem unmap_ok {s : List Int} (g : Good s) (a : Int) : VM.run plainI (space_Unmap.f a) s = some (eB (unBad s a), if unBad s a = 0 then unTo s a else s) := by
  unfold space_Unmap.f
  simp only [runB, ref_ok g, is_ok g a 6 (by decide), Option.bind_some, runC, runR, runO]
  by_cases h1 : fld s a 0 = 6
  · have n0 : ¬ ¬ fld s a 0 = 6 := fun q => q h1
    by_cases h2 : 1 ≤ fld s a 1 ∧ fld s a 1 ≤ 32
    · have hm : unBad s a = 0 := by rw [unBad, if_neg n0, if_neg (fun q => q h2)]
      rw [hm, if_pos h2]
      simp only [h1, decide_true, Bool.not_true, cond_false, field_ok g, page_ok g, Option.bind_some, if_true]
      unfold unTo
      by_cases h3 : (pgv s (fld s a 1 - 1) (fld s a 2)).2.2 = true ∧ (pgv s (fld s a 1 - 1) (fld s a 2)).1 = a
      · have hp : 0 ≤ fld s a 2 ∧ fld s a 2 < 4 := by
          have := h3.1
          unfold pgv at this
          split at this
          · rename_i q; exact ⟨q.2.1, q.2.2.1⟩
          · cases this
        have hat : space_at.f (fld s a 2) = some (1 + fld s a 2) := by unfold space_at.f; rw [w64_id (by omega) (by omega)]
        have e : ((pgv s (fld s a 1 - 1) (fld s a 2)).2.2 && ((pgv s (fld s a 1 - 1) (fld s a 2)).1 == a)) = true := by simp [h3.1, h3.2]
        have g1 := good_put g (fld s a 1 - 1) (1 + fld s a 2) 0
        have g2 := good_put g1 a 1 0
        simp only [e, cond_true, hat, Option.map_some, Option.bind_some, put_ok g _ _ 0 (by decide), put_ok g1 _ _ 0 (by decide), put_ok g2 _ _ 0 (by decide), if_pos h3]
        rfl
      · have e : ((pgv s (fld s a 1 - 1) (fld s a 2)).2.2 && ((pgv s (fld s a 1 - 1) (fld s a 2)).1 == a)) = false := by
          rw [Bool.eq_false_iff]; simpa using h3
        have g1 := good_put g a 1 0
        simp only [e, cond_false, Option.bind_some, put_ok g _ _ 0 (by decide), put_ok g1 _ _ 0 (by decide), if_neg h3]
        rfl
    · have hm : unBad s a = 10 := by rw [unBad, if_neg n0, if_pos h2]
      rw [hm, if_neg h2]
      simp only [h1, decide_true, Bool.not_true, cond_false, Bool.not_false, cond_true]; rfl
  · have hm : unBad s a = 2 := by rw [unBad, if_pos h1]
    rw [hm]
    simp only [h1, decide_false, Bool.not_false, cond_true]; rfl
end Go.Proofs
