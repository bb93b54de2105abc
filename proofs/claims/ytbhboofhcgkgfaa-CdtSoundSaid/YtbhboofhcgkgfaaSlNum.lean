/- The resource logic, part SlNum. On no condition. -/
import Derived.Test.YtbhboofhcgkgfaaSlLaw
set_option linter.all false
/-! Numbers: wraps that change nothing. -/
namespace Go.Sl
theorem w64_id {x : Int} (h1 : -9223372036854775808 ≤ x) (h2 : x ≤ 9223372036854775807) : w64 x = x := by
  simp only [IntKind.wrap, IntKind.signed, IntKind.bits]; simp; omega
theorem wu64_id {x : Int} (h1 : 0 ≤ x) (h2 : x ≤ 18446744073709551615) : wu64 x = x := by
  simp only [IntKind.wrap, IntKind.signed, IntKind.bits]; simp; omega
theorem wu32_id {x : Int} (h1 : 0 ≤ x) (h2 : x ≤ 4294967295) : wu32 x = x := by
  simp only [IntKind.wrap, IntKind.signed, IntKind.bits]; simp; omega
theorem fits_i64 {n : Int} (h : (Lit.int .i64 n).wf = true) : -9223372036854775808 ≤ n ∧ n ≤ 9223372036854775807 := bounds_i64 h
theorem fits_u64 {n : Int} (h : (Lit.int .u64 n).wf = true) : 0 ≤ n ∧ n ≤ 18446744073709551615 := bounds_u64 h
end Go.Sl
