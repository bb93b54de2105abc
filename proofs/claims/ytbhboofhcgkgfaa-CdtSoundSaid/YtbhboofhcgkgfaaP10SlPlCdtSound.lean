/- Plain laws of what CdtSound reaches, part P10SlPl. On no condition. -/
import Derived.Test.YtbhboofhcgkgfaaP10RUnCdtSound
import Derived.Test.YtbhboofhcgkgfaaP10KidLCdtSound
import Derived.Test.YtbhboofhcgkgfaaFnCdtSound0
set_option linter.all false
/-! Slots unlinked: the program's words are the state's. -/
set_option linter.unusedVariables false
namespace Go.Proofs
open Go.Sl
theorem beside_ok {s : List Int} (g : GoodU s) (i b e : Int) (hb : -1 ≤ b ∧ b < 96) (he : -1 ≤ e ∧ e < 96) : VM.run plainI (cdt_beside.f i b e) s = some ((), besideTo s i b e) := by
  unfold cdt_beside.f besideTo
  rw [runB, sget_ok g.1, Option.bind_some, runB, sget_ok g.1, Option.bind_some, runC]
  simp only []
  by_cases c : sget s i 4 = -1
  · have e1 : (sget s i 4 != -1) = false := by simpa using c
    rw [e1, cond_false, if_neg (fun z => z c), runB, parent_ok g.1, Option.bind_some, runB]
    simp only []
    have g1 := goodU_sput g (sget s i 1) 2 b (by omega)
    rw [sput_ok g.1 _ _ _ (by omega), Option.bind_some, runB, sput_ok g1.1 _ _ _ (by omega), Option.bind_some]; rfl
  · have e1 : (sget s i 4 != -1) = true := by simpa using c
    rw [e1, cond_true, if_pos c, runB]
    have g1 := goodU_sput g (sget s i 4) 3 b (by omega)
    rw [sput_ok g.1 _ _ _ (by omega), Option.bind_some, runB, sput_ok g1.1 _ _ _ (by omega), Option.bind_some]; rfl
theorem goodU_beside {s : List Int} (g : GoodU s) (i b e : Int) (hb : -1 ≤ b ∧ b < 96) (he : -1 ≤ e ∧ e < 96) : GoodU (besideTo s i b e) := by
  unfold besideTo
  split
  · exact goodU_sput (goodU_sput g _ _ _ (by omega)) _ _ _ (by omega)
  · exact goodU_sput (goodU_sput g _ _ _ (by omega)) _ _ _ (by omega)
theorem clear_ok {s : List Int} (g : GoodU s) (i : Int) : VM.run plainI (cdt_clear.f i) s = some ((), clearTo s i) := by
  unfold cdt_clear.f clearTo
  have g1 := goodU_sput g i 1 (-1) (by decide)
  have g2 := goodU_sput g1 i 3 (-1) (by decide)
  rw [runB, sput_ok g.1 _ _ _ (by decide), Option.bind_some, runB, sput_ok g1.1 _ _ _ (by decide), Option.bind_some, runB, sput_ok g2.1 _ _ _ (by decide), Option.bind_some]; rfl
theorem goodU_clear {s : List Int} (g : GoodU s) (i : Int) : GoodU (clearTo s i) := by
  unfold clearTo
  exact goodU_sput (goodU_sput (goodU_sput g _ _ _ (by decide)) _ _ _ (by decide)) _ _ _ (by decide)
theorem goodU_unlink {s : List Int} (g : GoodU s) (i : Int) : GoodU (unlinkTo s i) := goodU_clear (goodU_beside g _ _ _ (sget_rg _ _ _) (sget_rg _ _ _)) _
theorem unlink_ok {s : List Int} (g : GoodU s) (kid : Int) : VM.run plainI (cdt_Unlink.f kid) s = some (if InSlot kid 0 then none else some 2, if InSlot kid 0 ∧ sget s kid 1 ≠ -1 then unlinkTo s kid else s) := by
  unfold cdt_Unlink.f
  rw [runB, runO, sthere_ok, Option.map_some, Option.bind_some, runC]
  by_cases c : InSlot kid 0
  · rw [decide_eq_true c, if_pos c, Bool.not_true, cond_false, runB, parent_ok g.1, Option.bind_some, runC]
    simp only []
    by_cases c2 : sget s kid 1 = -1
    · have e1 : (sget s kid 1 == -1) = true := by simpa using c2
      rw [e1, cond_true, if_neg (fun z => z.2 c2)]; rfl
    · have e1 : (sget s kid 1 == -1) = false := by simpa using c2
      rw [e1, cond_false, if_pos ⟨c, c2⟩, runB, sget_ok g.1, Option.bind_some, runB, sget_ok g.1, Option.bind_some, runB]
      simp only []
      rw [beside_ok g _ _ _ (sget_rg _ _ _) (sget_rg _ _ _), Option.bind_some, runB, clear_ok (goodU_beside g _ _ _ (sget_rg _ _ _) (sget_rg _ _ _)), Option.bind_some]; rfl
  · rw [decide_eq_false c, if_neg c, if_neg (fun z => c z.1)]; rfl
theorem unlink_pl {st : ref10_State} (h : WF st) {v : List Int} (hv : IsW st v) (kid : Int) {k : Nat} (hk : 100 ≤ k) : ∃ n st' v', ref10_State_Unlink.f k st kid = some (n, st') ∧ VM.run plainI (cdt_Unlink.f kid) v = some (eN' n, v') ∧ 0 ≤ n ∧ n ≤ 14 ∧ WF st' ∧ IsW st' v' ∧ Rest st st' ∧
    (¬ InSlot kid 0 → n = 2 ∧ st' = st) ∧ (InSlot kid 0 → n = 0 ∧ (Pst st kid = -1 → st' = st) ∧ (0 ≤ Pst st kid → SlIs st' (uP (Pst st) kid) (uK (Kst st) kid (Pst st kid)) (Cst st))) := by
  have g := hv.good h
  obtain ⟨n, st', e, n0, n1, h', rs, e1, e2⟩ := runlink_ok h kid hk
  rw [unlink_ok g]
  by_cases h1 : InSlot kid 0
  · have r1 := h1.rg
    have hp := Pst_sget h hv r1
    have pr := h.par kid r1.1 r1.2
    obtain ⟨z0, z1, z2⟩ := e2 h1
    subst z0
    by_cases c : 0 ≤ (slt st kid).Parent
    · have t := tree_st h
      have S := z2 c
      rw [if_pos h1]
      refine ⟨0, st', _, e, rfl, n0, n1, h', ?_, rs, e1, e2⟩
      rw [if_pos ⟨h1, by omega⟩]
      exact hv.slots h S (t.unlink r1 rfl c) rs.ob rs.ns rs.no ((SLow.refl h hv).unlink kid) (TW.unlink t hv.len (tw_st h hv) r1 rfl c) (fun _ _ _ => rfl)
    · have S := z1 (by show (slt st kid).Parent = -1; omega)
      rw [if_pos h1]
      refine ⟨0, st', _, e, rfl, n0, n1, h', ?_, rs, e1, e2⟩
      rw [if_neg (fun z => z.2 (by omega)), S]; exact hv
  · obtain ⟨z0, z1⟩ := e1 h1
    subst z0
    rw [if_neg h1, if_neg (fun z => h1 z.1)]
    exact ⟨2, st', v, e, rfl, n0, n1, h', by rw [z1]; exact hv, rs, e1, e2⟩
end Go.Proofs
