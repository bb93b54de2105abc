/- Plain laws of what IrqPlays reaches, part P19Boot. On no condition. -/
import Derived.Test.YtehlmdihimmanaaP19InitIrqPlays
import Derived.Test.YtehlmdihimmanaaFnIrqPlays0
set_option linter.all false
/-! The boot states. -/
set_option linter.unusedVariables false
namespace Go.Proofs
open Go.Sl
def kindAt (n i : Int) : Int := if i < n then 5 else if i = n then 2 else if i = n + 1 then 2 else if i = n + 2 then 1 else if i = n + 3 then 3 else if i = n + 4 then 4 else if i = n + 5 then 8 else if i = n + 6 then 7 else if i = n + 7 then 6 else 0
def bootB (n : Int) : Bool := match ref10_Boot.f 2000 n with
  | some t => wfB t && (List.range 32).all fun i => (obt t i).Kind == kindAt n i
  | none => false
theorem boot_0 : bootB 0 = true := by decide +kernel
theorem boot_1 : bootB 1 = true := by decide +kernel
theorem boot_2 : bootB 2 = true := by decide +kernel
theorem boot_3 : bootB 3 = true := by decide +kernel
theorem boot_4 : bootB 4 = true := by decide +kernel
theorem boot_5 : bootB 5 = true := by decide +kernel
theorem boot_6 : bootB 6 = true := by decide +kernel
theorem boot_7 : bootB 7 = true := by decide +kernel
theorem boot_ok {n : Int} (hn : 0 ≤ n ∧ n ≤ 7) : ∃ t, ref10_Boot.f 2000 n = some t ∧ Fresh0 t ∧ ∀ i, 0 ≤ i → i < 32 → (obt t i).Kind = kindAt n i := by
  have h : bootB n = true := by
    rcases (by omega : n = 0 ∨ n = 1 ∨ n = 2 ∨ n = 3 ∨ n = 4 ∨ n = 5 ∨ n = 6 ∨ n = 7) with rfl | rfl | rfl | rfl | rfl | rfl | rfl | rfl
    · exact boot_0
    · exact boot_1
    · exact boot_2
    · exact boot_3
    · exact boot_4
    · exact boot_5
    · exact boot_6
    · exact boot_7
  unfold bootB at h
  cases hB : ref10_Boot.f 2000 n with
  | none => simp [hB] at h
  | some t =>
    simp only [hB, Bool.and_eq_true, List.all_eq_true, List.mem_range, beq_iff_eq] at h
    refine ⟨t, rfl, fresh_of h.1, fun i i0 i1 => ?_⟩
    have := h.2 i.toNat (by omega)
    rwa [show ((i.toNat : Nat) : Int) = i by omega] at this
end Go.Proofs
