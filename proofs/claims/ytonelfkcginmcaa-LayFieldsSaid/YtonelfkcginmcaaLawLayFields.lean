/- The given statement 'LayFields' of the given program: whatever the input, the law answers true and the input reads as it did. On no condition. -/
import Derived.Test.YtonelfkcginmcaaFnLayFields0
import Derived.Test.YtonelfkcginmcaaSlLaw
import Derived.Test.YtonelfkcginmcaaPureLayLayFields
import Derived.Test.YtonelfkcginmcaaRows
set_option linter.all false
namespace Go.Proofs.Ytonelfkcginmcaa.layFields
open Go.ChangeShapes Go.WideShapes Go.ChangeAt Go.RowKit Go.Sl

open Go.Proofs
theorem ref_of {s : List Int} {i f x : Int} (h : VM.run plainI (lay_Field.f i f) s = some (x, s)) (hx : x ≤ 4611686018427387904) : VM.run plainI (lay_Ref.f i f) s = some (if 1 ≤ x ∧ x ≤ 32 then (x - 1, true) else (0, false), s) := by
  unfold lay_Ref.f
  rw [VM.run_bind, h]
  simp only [Option.bind_some]
  by_cases hh : 1 ≤ x ∧ x ≤ 32
  · have : (decide (x < 1) || decide (32 < x)) = false := by simp; omega
    rw [this, if_pos hh, w64_id (by omega) (by omega)]; rfl
  · have : (decide (x < 1) || decide (32 < x)) = true := by simp; omega
    rw [this, if_neg hh]; rfl
theorem is_ok {s : List Int} {i n : Int} (hs : s.length = 738) (hn : n ≤ 9223372036854775807) : VM.run plainI (lay_Is.f i n) s = some (decide (0 ≤ i) && decide (i < 32) && (decide (0 ≤ n) && (s.getD (480 + 8 * i).toNat 0 == n)), s) := by
  unfold lay_Is.f
  rw [obj_ok]
  by_cases h : InObj i 0
  · have h' := h
    unfold InObj at h'
    have e1 : (decide (0 ≤ i) && decide (i < 32)) = true := by simp; omega
    rw [if_pos h, e1, Bool.true_and]
    by_cases h0 : 0 ≤ n
    · have e : VM.run plainI (((VM.opt (some ((480 + 8 * i + 0, true) : Int × Bool))).bind fun (t1, t2) => (bif t2 && (decide (0 ≤ n)) then (VM.rd t1 fun t8 => VM.ret (t8 == (wu64 n))) else (VM.ret false)).bind fun c6 => VM.ret c6)) s = some ((plainI.rd s (480 + 8 * i + 0)).1 == wu64 n, (plainI.rd s (480 + 8 * i + 0)).2) := by
        rw [decide_eq_true h0]; rfl
      refine e.trans ?_
      rw [prd (by omega), decide_eq_true h0, wu64_id h0 (by omega), Int.add_zero, Bool.true_and]
    · rw [decide_eq_false h0]; rfl
  · have e1 : (decide (0 ≤ i) && decide (i < 32)) = false := by
      unfold InObj at h
      simp only [Bool.and_eq_false_iff, decide_eq_false_iff_not]; omega
    rw [if_neg h, e1]; rfl
theorem zeros (d : Nat) : ∀ (k i : Nat), i + d = 738 → d < k → law09_LayFields.l2 (List.replicate 738 0) k (i : Int) = some (Brk.nx ()) := by
  induction d with
  | zero =>
    intro k i h hk
    obtain ⟨k, rfl⟩ : ∃ m, k = m + 1 := ⟨k - 1, by omega⟩
    have hd : decide ((i : Int) < 738) = false := by simp; omega
    unfold law09_LayFields.l2
    simp only [hd, cond_false]
  | succ d ih =>
    intro k i h hk
    obtain ⟨k, rfl⟩ : ∃ m, k = m + 1 := ⟨k - 1, by omega⟩
    have hd : decide ((i : Int) < 738) = true := by simp; omega
    have g1 : at_ (List.replicate 738 (0 : Int)) (i : Int) = some 0 := by
      unfold at_
      rw [decide_eq_true (show (0 : Int) ≤ (i : Int) by omega), cond_true, Int.toNat_natCast, List.getElem?_replicate, if_pos (by omega)]
    have := ih k (i + 1) (by omega) (by omega)
    unfold law09_LayFields.l2
    simp only [hd, cond_true, g1, Option.bind_some, bne_self_eq_false, cond_false]
    rw [w64_id (x := (i : Int) + 1) (by omega) (by omega)]
    exact_mod_cast this
theorem ok (a0 a1 a2 a3 a4 : Int) (_w0 : (Lit.int .i64 a0).wf = true) (_w1 : (Lit.int .i64 a1).wf = true) (w2 : (Lit.int .u64 a2).wf = true) (w3 : (Lit.int .i64 a3).wf = true) (w4 : (Lit.int .i64 a4).wf = true) : ∃ k, law09_LayFields.f k a0 a1 a2 a3 a4 = some true := by
  refine ⟨800, ?_⟩
  obtain ⟨u0, u1⟩ := fits_u64 w2
  obtain ⟨x0, x1⟩ := fits_i64 w3
  obtain ⟨y0, y1⟩ := fits_i64 w4
  unfold law09_LayFields.f
  obtain ⟨z, hz, hl⟩ : ∃ z, z = List.replicate 738 (0 : Int) ∧ z.length = 738 := ⟨_, rfl, List.length_replicate⟩
  rw [up09, words0, ← hz]
  simp only [Option.bind_some]
  by_cases h : InObj a0 a1
  · have h' := h
    unfold InObj at h'
    have e1 : (decide (0 ≤ a0) && decide (a0 < 32) && decide (0 ≤ a1) && decide (a1 < 8)) = true := by simp; omega
    have ew : w64 (w64 (480 + w64 (8 * a0)) + a1) = 480 + 8 * a0 + a1 := by
      rw [w64_id (x := 8 * a0) (by omega) (by omega), w64_id (x := 480 + 8 * a0) (by omega) (by omega), w64_id (by omega) (by omega)]
    have ga : ∀ s : List Int, s.length = 738 → at_ s (480 + 8 * a0 + a1) = some (s.getD (480 + 8 * a0 + a1).toNat 0) := fun s hs => by
      unfold at_ List.getD
      rw [decide_eq_true (by omega), cond_true, List.getElem?_eq_getElem (by omega)]; rfl
    rw [ew]
    simp only [e1, cond_true, Bool.not_true, cond_false, ga z hl, Option.bind_some]
    obtain ⟨s, hs⟩ : ∃ s, s = z.set (480 + 8 * a0 + a1).toNat a2 := ⟨_, rfl⟩
    have hsl : s.length = 738 := by rw [hs, List.length_set]; exact hl
    have hg : s.getD (480 + 8 * a0 + a1).toNat 0 = a2 := by
      rw [hs]; unfold List.getD
      rw [List.getElem?_set_self (by omega)]; rfl
    rw [← hs]
    have hf := field_in (s := s) h hsl (by rw [hg]; exact u0)
    rw [hg] at hf
    have hb : numb a2 ≤ 4611686018427387904 := by unfold numb; split <;> omega
    have hb0 : 0 ≤ numb a2 := by unfold numb; split <;> omega
    have hn : law09_number.f a2 = some (numb a2) := by
      unfold law09_number.f numb
      by_cases q : 4611686018427387904 < a2
      · rw [decide_eq_true q, if_pos q]; rfl
      · rw [decide_eq_false q, if_neg q, w64_id (by omega) (by omega)]; rfl
    rw [ref_of hf hb, hn]
    simp only [Option.bind_some]
    rw [hf]
    simp only [Option.bind_some]
    have hc : ((((numb a2 != numb a2) || ((if 1 ≤ numb a2 ∧ numb a2 ≤ 32 then (numb a2 - 1, true) else (0, false)).2 != ((decide (1 ≤ numb a2)) && (decide (numb a2 ≤ 32))))) || ((if 1 ≤ numb a2 ∧ numb a2 ≤ 32 then (numb a2 - 1, true) else (0, false)).2 && ((if 1 ≤ numb a2 ∧ numb a2 ≤ 32 then (numb a2 - 1, true) else (0, false)).1 != (w64 (numb a2 - 1))))) || ((!(if 1 ≤ numb a2 ∧ numb a2 ≤ 32 then (numb a2 - 1, true) else (0, false)).2) && ((if 1 ≤ numb a2 ∧ numb a2 ≤ 32 then (numb a2 - 1, true) else (0, false)).1 != 0))) = false := by
      rw [w64_id (x := numb a2 - 1) (by omega) (by omega)]
      by_cases q : 1 ≤ numb a2 ∧ numb a2 ≤ 32
      · have : (decide (1 ≤ numb a2) && decide (numb a2 ≤ 32)) = true := by simp; omega
        rw [if_pos q, this]; simp
      · have : (decide (1 ≤ numb a2) && decide (numb a2 ≤ 32)) = false := by
          simp only [Bool.and_eq_false_iff, decide_eq_false_iff_not]; omega
        rw [if_neg q, this]; simp
    rw [hc]
    simp only [cond_false]
    have hI : (bif a1 == 0 then ((VM.run plainI (lay_Is.f a0 a4) s).bind fun (t72, s74) => some (t72 != ((decide (0 ≤ a4)) && (a2 == (wu64 a4))), s74)) else (some (false, s))) = some (false, s) := by
      by_cases q : a1 = 0
      · subst q
        rw [Int.add_zero] at hg
        rw [is_ok hsl y1, hg]
        have e2 : (decide (0 ≤ a0) && decide (a0 < 32)) = true := by simp; omega
        by_cases q4 : 0 ≤ a4
        · rw [wu64_id q4 (by omega)]; simp [e2]
        · simp [q4]
      · have : (a1 == 0) = false := by simpa using q
        rw [this]; rfl
    rw [hI]
    simp only [Option.bind_some, cond_false]
    by_cases q3 : 0 ≤ a3
    · have d3 : decide (0 ≤ a3) = true := by simpa using q3
      rw [put_in h q3 x1 hsl]
      simp only [Option.bind_some, d3, cond_true]
      rw [ga _ (by rw [List.length_set]; exact hsl), wu64_id q3 (by omega)]
      have : (s.set (480 + 8 * a0 + a1).toNat a3).getD (480 + 8 * a0 + a1).toNat 0 = a3 := by
        unfold List.getD
        rw [List.getElem?_set_self (by omega)]; rfl
      rw [this]; simp
    · have d3 : decide (0 ≤ a3) = false := by simpa using q3
      rw [put_out (Or.inr (by omega))]
      simp only [Option.bind_some, d3, cond_true, cond_false]
      rw [ga _ hsl, hg]; simp
  · have e1 : (decide (0 ≤ a0) && decide (a0 < 32) && decide (0 ≤ a1) && decide (a1 < 8)) = false := by
      unfold InObj at h
      simp only [Bool.and_eq_false_iff, decide_eq_false_iff_not]; omega
    simp only [e1, cond_false, Option.bind_some, Bool.not_false, cond_true]
    have hf := field_out (s := z) h
    rw [ref_of hf (by decide), if_neg (by decide)]
    simp only [Option.bind_some]
    rw [put_out (Or.inl h)]
    simp only [Option.bind_some]
    have hz2 := zeros 738 800 0 (by omega) (by omega)
    rw [← hz] at hz2
    erw [hz2]
    simp only [Option.bind_some, Brk.go]
    rw [hf]
    simp only [Option.bind_some, beq_self_eq_true, Bool.not_false, Bool.and_self, cond_true]
    rw [is_ok hl y1]
    by_cases q : 0 ≤ a0 ∧ a0 < 32
    · have hg : z.getD (480 + 8 * a0).toNat 0 = 0 := by
        rw [hz]; unfold List.getD
        rw [List.getElem?_replicate]; split <;> rfl
      have e2 : (decide (0 ≤ a0) && decide (a0 < 32)) = true := by simp; omega
      rw [hg, e2]
      have : (decide (0 ≤ a4) && ((0 : Int) == a4)) = (a4 == 0) := by
        rw [Bool.eq_iff_iff]; simp only [Bool.and_eq_true, decide_eq_true_eq, beq_iff_eq]; omega
      simp [this]
    · have e2 : (decide (0 ≤ a0) && decide (a0 < 32)) = false := by
        simp only [Bool.and_eq_false_iff, decide_eq_false_iff_not]; omega
      simp [e2]

theorem own : ownKnob Try.prog.godebug = none := by kernel_rfl
theorem laidOut : laidOutB Try.prog = true := by kernel_rfl
set_option maxRecDepth 100000 in
theorem lifted (os : Os) (started : os.Started) (H : Type) (enc : TypeId × Value → H) :
    ReturnsInHanded {} Try.checked os 5 .any (Rows.layFieldsSpec.pre6 enc Try.prog Try.f5 Rows.layFieldsRow.domain false) (Rows.layFieldsSpec.post enc Try.prog Try.f5 false true false false) := by
  refine returnsInHanded_of_change (C := Try.checked) own started (by kernel_rfl) Try.func5
    (ChangeSpec.witness6 (enc := enc) (C := Try.checked) false ⟨#[], #[.int .i64 0, .int .i64 0, .int .u64 0, .int .i64 0, .int .i64 0], []⟩ 8 (by kernel_rfl) (by kernel_rfl) (by kernel_rfl) (by kernel_rfl)) ?_
  intro W base args ds gs before hval0 hW hcnd _
  have hval : ∀ (j : Nat) t v, Try.f5.params[j]? = some t → args[j]? = some v → Value.okWide Try.prog W .any base t v := hval0
  have hW' := hW
  obtain ⟨p, q, hA0, hV, rfl, hfz, hnd⟩ := hW
  have hA : DataW.TrodAll enc Try.prog W 0 (fun _ => true) true Try.f5.params.toList args.toList ds p := hA0
  rw [Try.params5] at hA hval
  obtain ⟨v0, vs0, d0, ds0, p0, q0, hargs, rfl, rfl, h0, r0⟩ := trodAll_cons hA
  obtain ⟨v1, vs1, d1, ds1, p1, q1, rfl, rfl, rfl, h1, r1⟩ := trodAll_cons r0
  obtain ⟨v2, vs2, d2, ds2, p2, q2, rfl, rfl, rfl, h2, r2⟩ := trodAll_cons r1
  obtain ⟨v3, vs3, d3, ds3, p3, q3, rfl, rfl, rfl, h3, r3⟩ := trodAll_cons r2
  obtain ⟨v4, vs4, d4, ds4, p4, q4, rfl, rfl, rfl, h4, r4⟩ := trodAll_cons r3
  obtain ⟨rfl, rfl, rfl⟩ := trodAll_nil r4
  obtain rfl : args = #[v0, v1, v2, v3, v4] := by cases args; simp_all
  obtain ⟨rfl, rfl⟩ := trodVars_none hV
  obtain ⟨a0, rfl, rfl, rfl, w0⟩ := open_int Try.underlying3 (hval 0 3 v0 rfl rfl) h0
  obtain ⟨a1, rfl, rfl, rfl, w1⟩ := open_int Try.underlying3 (hval 1 3 v1 rfl rfl) h1
  obtain ⟨a2, rfl, rfl, rfl, w2⟩ := open_int Try.underlying22 (hval 2 22 v2 rfl rfl) h2
  obtain ⟨a3, rfl, rfl, rfl, w3⟩ := open_int Try.underlying3 (hval 3 3 v3 rfl rfl) h3
  obtain ⟨a4, rfl, rfl, rfl, w4⟩ := open_int Try.underlying3 (hval 4 3 v4 rfl rfl) h4
  obtain ⟨k, hk⟩ := ok a0 a1 a2 a3 a4 w0 w1 w2 w3 w4
  refine (Ct.law (law09_LayFields.ct _ a0 a1 a2 a3 a4 _ hk) (W := W) trivial).mono fun e W' ⟨he, hg⟩ => ?_
  subst he
  exact ⟨_, rfl, law_post hW' laidOut (by kernel_rfl) hg (by kernel_rfl) Try.underlying4 rfl rfl⟩
theorem over : Rows.layFieldsRow.holds Try.pinned (OpenSpec.ofChange Rows.layFieldsSpec) :=
  OpenClaim.holds_of_wide 5 Try.f5 rfl rfl rfl rfl rfl rfl rfl ⟨rfl, rfl, rfl, rfl, rfl⟩ rfl rfl rfl rfl rfl (by kernel_rfl) Try.func5 (by kernel_rfl)
    (of_decide_eq_true (by kernel_rfl)) (by unfold Func.isWrapper; first | (rw [if_pos (by decide +kernel)]; kernel_rfl) | (rw [if_neg (by decide +kernel)]; exact ⟨rfl, rfl⟩))
    (fun os started H enc _ => lifted os started H enc)
theorem proved : Rows.LayFieldsSaid :=
  over
#print axioms proved
end Go.Proofs.Ytonelfkcginmcaa.layFields
