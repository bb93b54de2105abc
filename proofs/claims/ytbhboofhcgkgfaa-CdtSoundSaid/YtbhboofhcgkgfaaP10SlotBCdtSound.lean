/- Plain laws of what CdtSound reaches, part P10SlotB. On no condition. -/
import Derived.Test.YtbhboofhcgkgfaaP10SBCdtSound
import Derived.Test.YtbhboofhcgkgfaaP10SmallCdtSound
import Derived.Test.YtbhboofhcgkgfaaFnCdtSound0
set_option linter.all false
/-! The fields of slots, and what is put into them. -/
set_option linter.unusedVariables false
namespace Go.Proofs
open Go.Sl
theorem slot_ok (a b : Int) : lay_Slot.f a b = some (if InSlot a b then (5 * a + b, true) else (0, false)) := by
  unfold lay_Slot.f InSlot
  simp only [lay_in.f]
  by_cases h1 : 0 ≤ a <;> by_cases h2 : a < 96 <;> by_cases h3 : 0 ≤ b <;> by_cases h4 : b < 5 <;> simp [h1, h2, h3, h4]
  rw [w64_id (x := a * 5) (by omega) (by omega), w64_id (by omega) (by omega)]; omega
/-- The slot that a slot's field tells; -1: none. -/
def sget (s : List Int) (i f : Int) : Int :=
  if InSlot i f then (if 1 ≤ s.getD (5 * i + f).toNat 0 ∧ s.getD (5 * i + f).toNat 0 ≤ 96 then s.getD (5 * i + f).toNat 0 - 1 else -1) else -1
def sput (s : List Int) (i f n : Int) : List Int := if InSlot i f then s.set (5 * i + f).toNat (n + 1) else s
theorem sget_rg (s : List Int) (i f : Int) : -1 ≤ sget s i f ∧ sget s i f < 96 := by
  unfold sget; split
  · split <;> omega
  · omega
theorem sget_ok {s : List Int} (g : Good s) (i f : Int) : VM.run plainI (cdt_get.f i f) s = some (sget s i f, s) := by
  unfold cdt_get.f sget
  rw [runB, runO, slot_ok]
  by_cases hi : InSlot i f
  · have hi' := hi
    unfold InSlot at hi'
    rw [if_pos hi, if_pos hi]
    simp only [Option.map_some, Option.bind_some, Bool.not_true, cond_false]
    rw [runRd _ (by rw [g.1]; omega)]
    have h0 := g.2 (5 * i + f).toNat
    generalize s.getD (5 * i + f).toNat 0 = x at h0
    by_cases q : 1 ≤ x ∧ x ≤ 96
    · have e : (decide (x < 1) || decide (96 < x)) = false := by simp; omega
      rw [e, if_pos q, cond_false, w64_id (x := x) (by omega) (by omega), w64_id (by omega) (by omega)]; rfl
    · have e : (decide (x < 1) || decide (96 < x)) = true := by rw [← Bool.not_eq_false]; simp; omega
      rw [e, if_neg q]; rfl
  · rw [if_neg hi, if_neg hi]; rfl
theorem sput_ok {s : List Int} (g : Good s) (i f n : Int) (hn : -1 ≤ n ∧ n ≤ 1000) : VM.run plainI (cdt_put.f i f n) s = some ((), sput s i f n) := by
  unfold cdt_put.f sput
  rw [runB, runO, slot_ok]
  by_cases hi : InSlot i f
  · have hi' := hi
    unfold InSlot at hi'
    rw [if_pos hi, if_pos hi]
    simp only [Option.map_some, Option.bind_some, cond_true]
    rw [runWr _ (by rw [g.1]; omega), w64_id (by omega) (by omega), wu64_id (by omega) (by omega)]; rfl
  · rw [if_neg hi, if_neg hi]; rfl
theorem sput_len (s : List Int) (i f n : Int) : (sput s i f n).length = s.length := by unfold sput; split <;> simp
theorem goodU_sput {s : List Int} (g : GoodU s) (i f n : Int) (hn : -1 ≤ n ∧ n ≤ 1000) : GoodU (sput s i f n) := by
  refine ⟨⟨by rw [sput_len]; exact g.1.1, fun j => ?_⟩, fun j => ?_⟩ <;> unfold sput <;> split
  · rw [getD_set]; split
    · omega
    · exact g.1.2 j
  · exact g.1.2 j
  · rw [getD_set]; split
    · omega
    · exact g.2 j
  · exact g.2 j
theorem goodU_put {s : List Int} (g : GoodU s) (i f n : Int) (hn : n ≤ 9223372036854775807) : GoodU (put s i f n) := by
  refine ⟨good_put g.1 i f n, fun j => ?_⟩
  unfold put; split
  · rw [getD_set]; split
    · omega
    · exact g.2 j
  · exact g.2 j
/-- A word anywhere, behind a put. -/
theorem getD_sput {s : List Int} (hl : s.length = 738) (i f n : Int) (j : Nat) : (sput s i f n).getD j 0 = if InSlot i f ∧ (5 * i + f).toNat = j then n + 1 else s.getD j 0 := by
  unfold sput
  by_cases h : InSlot i f
  · have h' := h
    unfold InSlot at h'
    rw [if_pos h, getD_set]
    by_cases e : (5 * i + f).toNat = j
    · rw [if_pos ⟨e, by omega⟩, if_pos ⟨h, e⟩]
    · rw [if_neg (fun q => e q.1), if_neg (fun q => e q.2)]
  · rw [if_neg h, if_neg (fun q => h q.1)]
theorem getD_put {s : List Int} (hl : s.length = 738) (i f n : Int) (j : Nat) : (put s i f n).getD j 0 = if InObj i f ∧ 0 ≤ n ∧ (480 + 8 * i + f).toNat = j then n else s.getD j 0 := by
  unfold put
  by_cases h : InObj i f ∧ 0 ≤ n
  · have h' := h.1
    unfold InObj at h'
    rw [if_pos h, getD_set]
    by_cases e : (480 + 8 * i + f).toNat = j
    · rw [if_pos ⟨e, by omega⟩, if_pos ⟨h.1, h.2, e⟩]
    · rw [if_neg (fun q => e q.1), if_neg (fun q => e q.2.2)]
  · rw [if_neg h, if_neg (fun q => h ⟨q.1, q.2.1⟩)]
theorem fld_sput {s : List Int} (hl : s.length = 738) (i f n i' f' : Int) : fld (sput s i f n) i' f' = fld s i' f' := by
  unfold fld
  split
  · rename_i h
    unfold InObj at h
    rw [getD_sput hl, if_neg]
    rintro ⟨q, e⟩
    unfold InSlot at q; omega
  · rfl
theorem sget_put {s : List Int} (hl : s.length = 738) (i f n i' f' : Int) : sget (put s i f n) i' f' = sget s i' f' := by
  unfold sget
  split
  · rename_i h
    unfold InSlot at h
    have : (put s i f n).getD (5 * i' + f').toNat 0 = s.getD (5 * i' + f').toNat 0 := by
      rw [getD_put hl, if_neg]
      rintro ⟨q, _, e⟩
      unfold InObj at q; omega
    rw [this]
  · rfl
theorem sget_sput {s : List Int} (hl : s.length = 738) (i f n i' f' : Int) (hn : -1 ≤ n ∧ n < 96) : sget (sput s i f n) i' f' = if InSlot i f ∧ i = i' ∧ f = f' then n else sget s i' f' := by
  unfold sget
  by_cases h' : InSlot i' f'
  · rw [if_pos h', if_pos h']
    have q := h'
    unfold InSlot at q
    by_cases e : InSlot i f ∧ i = i' ∧ f = f'
    · obtain ⟨h, rfl, rfl⟩ := e
      have hv : (sput s i f n).getD (5 * i + f).toNat 0 = n + 1 := by rw [getD_sput hl, if_pos ⟨h, rfl⟩]
      rw [hv, if_pos (show InSlot i f ∧ i = i ∧ f = f from ⟨h, rfl, rfl⟩)]
      split <;> omega
    · have hv : (sput s i f n).getD (5 * i' + f').toNat 0 = s.getD (5 * i' + f').toNat 0 := by
        rw [getD_sput hl, if_neg]
        rintro ⟨h, e2⟩
        have q2 := h
        unfold InSlot at q2
        exact e ⟨h, by omega, by omega⟩
      rw [hv, if_neg e]
  · rw [if_neg h', if_neg h', if_neg]
    rintro ⟨h, rfl, rfl⟩; exact h' h
theorem capAt_put {s : List Int} (hl : s.length = 738) (i f n k : Int) : capAt (put s i f n) k = capAt s k := by
  unfold capAt
  split
  · rename_i h
    unfold InSlot at h
    rw [getD_put hl, if_neg]
    rintro ⟨q, _, e⟩
    unfold InObj at q; omega
  · rfl
theorem capAt_sput {s : List Int} (hl : s.length = 738) (i f n k : Int) (hf : f ≠ 0) : capAt (sput s i f n) k = capAt s k := by
  unfold capAt
  split
  · rename_i h
    unfold InSlot at h
    rw [getD_sput hl, if_neg]
    rintro ⟨q, e⟩
    unfold InSlot at q; omega
  · rfl
theorem sthere_ok (i : Int) : cdt_there.f i = some (decide (InSlot i 0)) := by
  unfold cdt_there.f
  rw [slot_ok]
  by_cases h : InSlot i 0 <;> simp [h]
theorem parent_ok {s : List Int} (g : Good s) (i : Int) : VM.run plainI (cdt_Parent.f i) s = some (sget s i 1, s) := by
  unfold cdt_Parent.f; rw [runB, sget_ok g]; rfl
/-- A slot is linked below another one. -/
def linkTo (s : List Int) (kid par : Int) : List Int :=
  sput (sput (sput (sput (sput s kid 1 par) kid 3 (sget s par 2)) kid 4 (-1)) (sget s par 2) 4 kid) par 2 kid
def linkBad (s : List Int) (kid par : Int) : Int :=
  if ¬ (InSlot kid 0 ∧ InSlot par 0) then 2 else if kid = par ∨ sget s kid 1 ≠ -1 then 10 else 0
def eN' (n : Int) : Option Int := if n = 0 then none else some n
theorem goodU_linkTo {s : List Int} (g : GoodU s) (kid par : Int) (h1 : InSlot kid 0) (h2 : InSlot par 0) : GoodU (linkTo s kid par) := by
  unfold InSlot at h1 h2
  have hr := sget_rg s par 2
  unfold linkTo
  exact goodU_sput (goodU_sput (goodU_sput (goodU_sput (goodU_sput g _ _ _ (by omega)) _ _ _ (by omega)) _ _ _ (by decide)) _ _ _ (by omega)) _ _ _ (by omega)
theorem link_ok {s : List Int} (g : GoodU s) (kid par : Int) : VM.run plainI (cdt_Link.f kid par) s = some (eN' (linkBad s kid par), if linkBad s kid par = 0 then linkTo s kid par else s) := by
  unfold cdt_Link.f
  simp only [runB, runO, runC, sthere_ok, Option.map_some, Option.bind_some, runR]
  by_cases h1 : InSlot kid 0
  · by_cases h2 : InSlot par 0
    · simp only [h1, h2, decide_true, Bool.not_true, cond_false, Option.bind_some]
      by_cases h3 : kid = par ∨ sget s kid 1 ≠ -1
      · have hb : linkBad s kid par = 10 := by unfold linkBad; rw [if_neg (fun q => q ⟨h1, h2⟩), if_pos h3]
        rw [hb]
        have key : ∃ b, (bif kid == par then some (true, s) else (VM.run plainI (cdt_Parent.f kid) s).bind fun p => some (p.1 != -1, p.2)) = some (b, s) ∧ b = true := by
          by_cases e : kid = par
          · refine ⟨true, ?_, rfl⟩
            have : (kid == par) = true := by simpa using e
            rw [this]; rfl
          · have e1 : (kid == par) = false := by simpa using e
            rw [e1, cond_false, parent_ok g.1, Option.bind_some]
            refine ⟨_, rfl, ?_⟩
            rcases h3 with q | q
            · exact absurd q e
            · simpa using q
        obtain ⟨b, hb, rfl⟩ := key
        rw [hb, Option.bind_some]; rfl
      · have hb : linkBad s kid par = 0 := by unfold linkBad; rw [if_neg (fun q => q ⟨h1, h2⟩), if_neg h3]
        rw [hb]
        have n1 : ¬ kid = par := fun e => h3 (.inl e)
        have n2 : sget s kid 1 = -1 := by
          rcases Int.lt_or_le (sget s kid 1) 0 with q | q
          · have := (sget_rg s kid 1).1; omega
          · exact absurd (.inr (by omega)) h3
        have e1 : (kid == par) = false := by simpa using n1
        have e2 : (sget s kid 1 != -1) = false := by simp [n2]
        rw [e1, cond_false, parent_ok g.1, Option.bind_some, Option.bind_some]
        simp only [e2, cond_false, sget_ok g.1, Option.bind_some]
        have hr := sget_rg s par 2
        have h1' := h1
        have h2' := h2
        unfold InSlot at h1' h2'
        have g1 := goodU_sput g kid 1 par (by omega)
        have g2 := goodU_sput g1 kid 3 (sget s par 2) (by omega)
        have g3 := goodU_sput g2 kid 4 (-1) (by decide)
        have g4 := goodU_sput g3 (sget s par 2) 4 kid (by omega)
        simp only [sput_ok g.1 kid 1 par (by omega), sput_ok g1.1 kid 3 (sget s par 2) (by omega), sput_ok g2.1 kid 4 (-1) (by decide), sput_ok g3.1 (sget s par 2) 4 kid (by omega), sput_ok g4.1 par 2 kid (by omega), Option.bind_some]
        rfl
    · have hb : linkBad s kid par = 2 := by unfold linkBad; rw [if_pos (fun q => h2 q.2)]
      rw [hb]
      simp only [h1, h2, decide_true, decide_false, Bool.not_true, Bool.not_false, cond_false, cond_true, Option.bind_some]; rfl
  · have hb : linkBad s kid par = 2 := by unfold linkBad; rw [if_pos (fun q => h1 q.1)]
    rw [hb]
    simp only [h1, decide_false, Bool.not_false, cond_true, Option.bind_some]; rfl
theorem fld_linkTo {s : List Int} (hl : s.length = 738) (kid par i f : Int) : fld (linkTo s kid par) i f = fld s i f := by
  unfold linkTo
  rw [fld_sput (by simp [sput_len, hl]), fld_sput (by simp [sput_len, hl]), fld_sput (by simp [sput_len, hl]), fld_sput (by simp [sput_len, hl]), fld_sput hl]
theorem capAt_linkTo {s : List Int} (hl : s.length = 738) (kid par k : Int) : capAt (linkTo s kid par) k = capAt s k := by
  unfold linkTo
  rw [capAt_sput (by simp [sput_len, hl]) _ _ _ _ (by decide), capAt_sput (by simp [sput_len, hl]) _ _ _ _ (by decide), capAt_sput (by simp [sput_len, hl]) _ _ _ _ (by decide), capAt_sput (by simp [sput_len, hl]) _ _ _ _ (by decide), capAt_sput hl _ _ _ _ (by decide)]
end Go.Proofs
