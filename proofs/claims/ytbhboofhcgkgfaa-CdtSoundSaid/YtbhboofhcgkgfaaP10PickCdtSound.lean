/- Plain laws of what CdtSound reaches, part P10Pick. On no condition. -/
import Derived.Test.YtbhboofhcgkgfaaFnCdtSound0
import Derived.Test.YtbhboofhcgkgfaaSlBits
set_option linter.all false
/-! Draws. -/
set_option linter.unusedVariables false
namespace Go.Proofs
open Go.Sl
/-- What is drawn of n, n > 0. -/
def pick (c n : Int) : Int := if c < 0 then (-(c + 1)) % n else c % n
theorem pick_ok {c n : Int} (h : (Lit.int .i64 c).wf = true) (hn : 0 < n) (hn2 : n ≤ 9223372036854775807) : law10_Pick.f c n = some (pick c n) := by
  obtain ⟨h1, h2⟩ := fits_i64 h
  unfold law10_Pick.f pick
  have hc : chk (decide (n ≠ 0)) = some () := by unfold chk; rw [decide_eq_true (by omega)]; rfl
  by_cases q : c < 0
  · rw [decide_eq_true q, if_pos q, cond_true, hc, Option.bind_some, w64_id (x := c + 1) (by omega) (by omega), w64_id (by omega) (by omega), Int.tmod_eq_emod_of_nonneg (by omega)]
    congr 2; omega
  · rw [decide_eq_false q, if_neg q, cond_false, hc, Option.bind_some, Int.tmod_eq_emod_of_nonneg (by omega)]
theorem pick_lt (c : Int) {n : Int} (hn : 0 < n) : 0 ≤ pick c n ∧ pick c n < n := by
  unfold pick; split
  · exact ⟨Int.emod_nonneg _ (by omega), Int.emod_lt_of_pos _ hn⟩
  · exact ⟨Int.emod_nonneg _ (by omega), Int.emod_lt_of_pos _ hn⟩
end Go.Proofs
