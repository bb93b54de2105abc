/- The given statement 'LayApart' of the given program: whatever the input, the law answers true and the input reads as it did. On no condition. -/
import Derived.Test.YtonelfkcginmcaaFnLayApart0
import Derived.Test.YtonelfkcginmcaaSlLaw
import Derived.Test.YtonelfkcginmcaaPureLayLayApart
import Derived.Test.YtonelfkcginmcaaRows
set_option linter.all false
namespace Go.Proofs.Ytonelfkcginmcaa.layApart
open Go.ChangeShapes Go.WideShapes Go.ChangeAt Go.RowKit Go.Sl

open Go.Proofs
theorem ok (a0 a1 a2 a3 a4 : Int) (_w0 : (Lit.int .i64 a0).wf = true) (_w1 : (Lit.int .i64 a1).wf = true) (_w2 : (Lit.int .i64 a2).wf = true) (_w3 : (Lit.int .i64 a3).wf = true) (_w4 : (Lit.int .i64 a4).wf = true) : ∃ k, law09_LayApart.f k a0 a1 a2 a3 a4 = some true := by
  refine ⟨1, ?_⟩
  unfold law09_LayApart.f
  rw [up09, slot_ok, slot_ok, obj_ok, obj_ok]
  unfold lay_Size.f
  simp only [Option.bind_some]
  have main : InObj a0 a1 → InObj a2 a3 → ¬ (a0 = a2 ∧ a1 = a3) → 0 ≤ a4 → a4 ≤ 1099511627776 → (((law09_words.f 1 ([])).bind fun t39 => (VM.run plainI (lay_Put.f a2 a3 7) t39).bind fun (_, s44) => (VM.run plainI (lay_Put.f a0 a1 a4) s44).bind fun (_, s47) => (bif true then ((VM.run plainI (lay_Field.f a2 a3) s47).bind fun (t54, s56) => some (t54 == 7, s56)) else (some (false, s47))).bind fun (c50, w52) => (bif c50 then ((VM.run plainI (lay_Field.f a0 a1) w52).bind fun (t63, s65) => some (t63 == a4, s65)) else (some (false, w52))).bind fun (c59, w61) => some c59)) = some true := by
    intro h1 h2 h3 h4 h5
    have e1 := h1
    have e2 := h2
    unfold InObj at e1 e2
    have hne : (480 + 8 * a2 + a3).toNat ≠ (480 + 8 * a0 + a1).toNat := by omega
    have l1 : (480 + 8 * a2 + a3).toNat < 738 := by omega
    have l0 : (480 + 8 * a0 + a1).toNat < 738 := by omega
    obtain ⟨z, hz, hl⟩ : ∃ z, z = List.replicate 738 (0 : Int) ∧ z.length = 738 := ⟨_, rfl, List.length_replicate⟩
    rw [words0, ← hz]
    simp only [Option.bind_some]
    rw [put_in h2 (by decide) (by decide) hl]
    simp only [Option.bind_some]
    rw [put_in h1 h4 (by omega) (by rw [List.length_set]; exact hl)]
    simp only [Option.bind_some, cond_true]
    have hl2 : ((z.set (480 + 8 * a2 + a3).toNat 7).set (480 + 8 * a0 + a1).toNat a4).length = 738 := by rw [List.length_set, List.length_set]; exact hl
    have g2 : ((z.set (480 + 8 * a2 + a3).toNat 7).set (480 + 8 * a0 + a1).toNat a4).getD (480 + 8 * a2 + a3).toNat 0 = 7 := by
      unfold List.getD
      rw [List.getElem?_set_ne hne.symm, List.getElem?_set_self (by omega)]; rfl
    have g0 : ((z.set (480 + 8 * a2 + a3).toNat 7).set (480 + 8 * a0 + a1).toNat a4).getD (480 + 8 * a0 + a1).toNat 0 = a4 := by
      unfold List.getD
      rw [List.getElem?_set_self (by rw [List.length_set]; omega)]; rfl
    rw [field_in h2 hl2 (by rw [g2]; decide), g2]
    simp only [Option.bind_some]
    rw [show (numb 7 == 7) = true by decide, cond_true, field_in h1 hl2 (by rw [g0]; exact h4), g0]
    have : numb a4 = a4 := by unfold numb; rw [if_neg (by omega)]
    rw [this]
    simp
  have hA : InSlot a0 a1 → decide (738 ≤ 5 * a0 + a1) = false := fun h => by unfold InSlot at h; simp; omega
  have hB : InObj a0 a1 → decide (738 ≤ 480 + 8 * a0 + a1) = false := fun h => by unfold InObj at h; simp; omega
  have hC : InSlot a0 a1 → InObj a2 a3 → (5 * a0 + a1 == 480 + 8 * a2 + a3) = false := fun h k => by unfold InSlot at h; unfold InObj at k; simp; omega
  have hD : InSlot a2 a3 → InObj a0 a1 → (5 * a2 + a3 == 480 + 8 * a0 + a1) = false := fun h k => by unfold InSlot at h; unfold InObj at k; simp; omega
  have hE : InSlot a0 a1 → InSlot a2 a3 → (5 * a0 + a1 == 5 * a2 + a3) = (a0 == a2 && a1 == a3) := fun h k => by
    unfold InSlot at h k; rw [Bool.eq_iff_iff]; simp only [beq_iff_eq, Bool.and_eq_true]; omega
  have hF : InObj a0 a1 → InObj a2 a3 → (480 + 8 * a0 + a1 == 480 + 8 * a2 + a3) = (a0 == a2 && a1 == a3) := fun h k => by
    unfold InObj at h k; rw [Bool.eq_iff_iff]; simp only [beq_iff_eq, Bool.and_eq_true]; omega
  by_cases s0 : InSlot a0 a1 <;> by_cases s1 : InSlot a2 a3 <;> by_cases o0 : InObj a0 a1 <;> by_cases o1 : InObj a2 a3
  all_goals simp only [s0, s1, o0, o1, if_true, if_false, Bool.true_and, Bool.false_and, Bool.or_false, Bool.false_or, Bool.not_true, Bool.not_false, Bool.true_or, cond_true, cond_false]
  all_goals try simp only [hA s0]
  all_goals try simp only [hB o0]
  all_goals try simp only [hC s0 o1]
  all_goals try simp only [hD s1 o0]
  all_goals try simp only [hE s0 s1]
  all_goals try simp only [hF o0 o1]
  all_goals try simp only [bne_self_eq_false, Bool.or_self, cond_false]
  all_goals
    cases hc : (a0 == a2 && a1 == a3 || decide (a4 < 0) || decide (1099511627776 < a4)) with
    | true => rfl
    | false =>
      simp only [Bool.or_eq_false_iff, Bool.and_eq_false_iff, beq_eq_false_iff_ne, decide_eq_false_iff_not] at hc
      exact main o0 o1 (by omega) (by omega) (by omega)

theorem own : ownKnob Try.prog.godebug = none := by kernel_rfl
theorem laidOut : laidOutB Try.prog = true := by kernel_rfl
set_option maxRecDepth 100000 in
theorem lifted (os : Os) (started : os.Started) (H : Type) (enc : TypeId × Value → H) :
    ReturnsInHanded {} Try.checked os 4 .any (Rows.layApartSpec.pre6 enc Try.prog Try.f4 Rows.layApartRow.domain false) (Rows.layApartSpec.post enc Try.prog Try.f4 false true false false) := by
  refine returnsInHanded_of_change (C := Try.checked) own started (by kernel_rfl) Try.func4
    (ChangeSpec.witness6 (enc := enc) (C := Try.checked) false ⟨#[], #[.int .i64 0, .int .i64 0, .int .i64 0, .int .i64 0, .int .i64 0], []⟩ 8 (by kernel_rfl) (by kernel_rfl) (by kernel_rfl) (by kernel_rfl)) ?_
  intro W base args ds gs before hval0 hW hcnd _
  have hval : ∀ (j : Nat) t v, Try.f4.params[j]? = some t → args[j]? = some v → Value.okWide Try.prog W .any base t v := hval0
  have hW' := hW
  obtain ⟨p, q, hA0, hV, rfl, hfz, hnd⟩ := hW
  have hA : DataW.TrodAll enc Try.prog W 0 (fun _ => true) true Try.f4.params.toList args.toList ds p := hA0
  rw [Try.params4] at hA hval
  obtain ⟨v0, vs0, d0, ds0, p0, q0, hargs, rfl, rfl, h0, r0⟩ := trodAll_cons hA
  obtain ⟨v1, vs1, d1, ds1, p1, q1, rfl, rfl, rfl, h1, r1⟩ := trodAll_cons r0
  obtain ⟨v2, vs2, d2, ds2, p2, q2, rfl, rfl, rfl, h2, r2⟩ := trodAll_cons r1
  obtain ⟨v3, vs3, d3, ds3, p3, q3, rfl, rfl, rfl, h3, r3⟩ := trodAll_cons r2
  obtain ⟨v4, vs4, d4, ds4, p4, q4, rfl, rfl, rfl, h4, r4⟩ := trodAll_cons r3
  obtain ⟨rfl, rfl, rfl⟩ := trodAll_nil r4
  obtain rfl : args = #[v0, v1, v2, v3, v4] := by cases args; simp_all
  obtain ⟨rfl, rfl⟩ := trodVars_none hV
  obtain ⟨a0, rfl, rfl, rfl, w0⟩ := open_int Try.underlying3 (hval 0 3 v0 rfl rfl) h0
  obtain ⟨a1, rfl, rfl, rfl, w1⟩ := open_int Try.underlying3 (hval 1 3 v1 rfl rfl) h1
  obtain ⟨a2, rfl, rfl, rfl, w2⟩ := open_int Try.underlying3 (hval 2 3 v2 rfl rfl) h2
  obtain ⟨a3, rfl, rfl, rfl, w3⟩ := open_int Try.underlying3 (hval 3 3 v3 rfl rfl) h3
  obtain ⟨a4, rfl, rfl, rfl, w4⟩ := open_int Try.underlying3 (hval 4 3 v4 rfl rfl) h4
  obtain ⟨k, hk⟩ := ok a0 a1 a2 a3 a4 w0 w1 w2 w3 w4
  refine (Ct.law (law09_LayApart.ct _ a0 a1 a2 a3 a4 _ hk) (W := W) trivial).mono fun e W' ⟨he, hg⟩ => ?_
  subst he
  exact ⟨_, rfl, law_post hW' laidOut (by kernel_rfl) hg (by kernel_rfl) Try.underlying4 rfl rfl⟩
theorem over : Rows.layApartRow.holds Try.pinned (OpenSpec.ofChange Rows.layApartSpec) :=
  OpenClaim.holds_of_wide 4 Try.f4 rfl rfl rfl rfl rfl rfl rfl ⟨rfl, rfl, rfl, rfl, rfl⟩ rfl rfl rfl rfl rfl (by kernel_rfl) Try.func4 (by kernel_rfl)
    (of_decide_eq_true (by kernel_rfl)) (by unfold Func.isWrapper; first | (rw [if_pos (by decide +kernel)]; kernel_rfl) | (rw [if_neg (by decide +kernel)]; exact ⟨rfl, rfl⟩))
    (fun os started H enc _ => lifted os started H enc)
theorem proved : Rows.LayApartSaid :=
  over
#print axioms proved
end Go.Proofs.Ytonelfkcginmcaa.layApart
