/- The given statement 'GuardBack' of the given program: whatever the input, the law answers true and the input reads as it did. On no condition. -/
import Derived.Test.YtnkgafjmladidaaFnGuardBack0
import Derived.Test.YtnkgafjmladidaaSlLaw
import Derived.Test.YtnkgafjmladidaaPureGuardGuardBack
import Derived.Test.YtnkgafjmladidaaRows
set_option linter.all false
namespace Go.Proofs.Ytnkgafjmladidaa.guardBack
open Go.ChangeShapes Go.WideShapes Go.ChangeAt Go.RowKit Go.Sl

open Go.Proofs
theorem up04 : law04_up.f 40 = some true := by decide +kernel
theorem join_no {a0 a1 : List Int} {k i : Nat} {l n x y : Int} (hd : decide ((i : Int) < (a1.length : Int)) = true) (g1 : at_ a1 (i : Int) = some x) (g0 : at_ a0 (i : Int) = some y) (hl : l ≤ 16)
    (h : ¬ (0 ≤ x ∧ x ≤ l ∧ 0 ≤ y ∧ y < 2 ^ x.toNat)) : guard_Join.l1 a0 a1 (k + 1) ((i : Int), l, n) = some (Brk.ret (0, some 1)) := by
  unfold guard_Join.l1
  simp only [hd, cond_true, g1, g0, Option.bind_some]
  by_cases h1 : x < 0
  · simp [h1]
  by_cases h2 : l < x
  · simp [h1, h2]
  by_cases h3 : y < 0
  · simp [h1, h2, h3]
  have f1 : decide (x < 0) = false := by simpa using h1
  have f2 : decide (l < x) = false := by simpa using h2
  have f3 : decide (y < 0) = false := by simpa using h3
  obtain ⟨n, rfl⟩ := Int.eq_ofNat_of_zero_le (show 0 ≤ x by omega)
  have hn := pow_lo n
  have hn2 := pow_le (show n ≤ 16 by omega)
  have hs : bshl .i64 1 (n : Int) = 2 ^ n := by
    rw [bshl_i64 n (by omega) (by omega) (by omega), Int.one_mul]
  have hc : chk (decide (0 ≤ (n : Int))) = some () := by simp [chk]
  have h4 : (2 : Int) ^ n ≤ y := by
    rw [Int.toNat_natCast] at h; omega
  simp only [f1, f2, f3, cond_false, hs, hc, Option.bind_some, decide_eq_true h4, cond_true]
theorem join_yes {a0 a1 : List Int} {k i i' : Nat} {l N x y : Int} (hd : decide ((i : Int) < (a1.length : Int)) = true) (g1 : at_ a1 (i : Int) = some x) (g0 : at_ a0 (i : Int) = some y) (hl0 : 0 ≤ l) (hl : l ≤ 16) (hi : i + 1 = i') (hi2 : i < 1000)
    (hN0 : 0 ≤ N) (hN1 : N < 2 ^ (16 - l).toNat) (h : 0 ≤ x ∧ x ≤ l ∧ 0 ≤ y ∧ y < 2 ^ x.toNat) :
    guard_Join.l1 a0 a1 (k + 1) ((i : Int), l, N * 2 ^ l.toNat) = guard_Join.l1 a0 a1 k ((i' : Int), l - x, (N * 2 ^ x.toNat + y) * 2 ^ (l - x).toNat) ∧ 0 ≤ N * 2 ^ x.toNat + y ∧ N * 2 ^ x.toNat + y < 2 ^ (16 - (l - x)).toNat := by
  obtain ⟨h1, h2, h3, h4⟩ := h
  have f1 : decide (x < 0) = false := by simpa using h1
  have f2 : decide (l < x) = false := by simpa using h2
  have f3 : decide (y < 0) = false := by simpa using h3
  obtain ⟨n, rfl⟩ := Int.eq_ofNat_of_zero_le h1
  obtain ⟨m, hm⟩ := Int.eq_ofNat_of_zero_le (show 0 ≤ l - n by omega)
  rw [Int.toNat_natCast] at h4
  have hn := pow_lo n
  have hn2 := pow_le (show n ≤ 16 by omega)
  have hs : bshl .i64 1 (n : Int) = 2 ^ n := by
    rw [bshl_i64 n (by omega) (by omega) (by omega), Int.one_mul]
  have hc : chk (decide (0 ≤ (n : Int))) = some () := by simp [chk]
  have f4 : decide ((2 : Int) ^ n ≤ y) = false := by simpa using h4
  have hw : w64 (l - (n : Int)) = (m : Int) := by rw [hm]; exact w64_id (by omega) (by omega)
  have hc2 : chk (decide (0 ≤ (m : Int))) = some () := by simp [chk]
  have hmp := pow_lo m
  have hmp2 := pow_le (show m ≤ 16 by omega)
  have el : l.toNat = n + m := by omega
  have e1 : (2 : Int) ^ l.toNat = 2 ^ n * 2 ^ m := by rw [el, Int.pow_add]
  have e2 : (2 : Int) ^ (16 - (m : Int)).toNat = 2 ^ (16 - l).toNat * 2 ^ n := by rw [← Int.pow_add]; congr 1; omega
  have hA := pow_lo (16 - l).toNat
  have hN' : N * 2 ^ n + y < 2 ^ (16 - (m : Int)).toNat := by
    rw [e2]
    have : (N + 1) * 2 ^ n ≤ 2 ^ (16 - l).toNat * 2 ^ n := Int.mul_le_mul_of_nonneg_right (by omega) (by omega)
    rw [Int.add_mul, Int.one_mul] at this
    omega
  have hN0' : 0 ≤ N * 2 ^ n := Int.mul_nonneg hN0 (by omega)
  have ey : y * 2 ^ m < 2 ^ l.toNat := by
    rw [e1]
    have : (y + 1) * 2 ^ m ≤ 2 ^ n * 2 ^ m := Int.mul_le_mul_of_nonneg_right (by omega) (by omega)
    rw [Int.add_mul, Int.one_mul] at this
    omega
  have ey0 : 0 ≤ y * 2 ^ m := Int.mul_nonneg (by omega) (by omega)
  have hl2 := pow_le (show l.toNat ≤ 16 by omega)
  have en : N * 2 ^ l.toNat + y * 2 ^ m = (N * 2 ^ n + y) * 2 ^ m := by rw [e1, Int.add_mul, Int.mul_assoc]
  have hb : (N * 2 ^ n + y) * 2 ^ m < 65536 := by
    have h16 : (2 : Int) ^ (16 - (m : Int)).toNat * 2 ^ m = 2 ^ 16 := by rw [← Int.pow_add]; congr 1; omega
    have : (N * 2 ^ n + y + 1) * 2 ^ m ≤ 2 ^ (16 - (m : Int)).toNat * 2 ^ m := Int.mul_le_mul_of_nonneg_right (by omega) (by omega)
    rw [Int.add_mul, Int.one_mul, h16] at this
    omega
  have hNl0 : 0 ≤ N * 2 ^ l.toNat := Int.mul_nonneg hN0 (Int.le_of_lt (Int.pow_pos (by decide)))
  have hor : bor .i64 (N * 2 ^ l.toNat) (y * 2 ^ m) = N * 2 ^ l.toNat + y * 2 ^ m := by
    have hh := bor_add_i64 (x := y * 2 ^ m) (y := N) l.toNat (by omega) ey0 ey hN0 (by omega)
    have : bor .i64 (N * 2 ^ l.toNat) (y * 2 ^ m) = bor .i64 (y * 2 ^ m) (N * 2 ^ l.toNat) := by unfold bor; rw [BitVec.or_comm]
    rw [this, hh]; omega
  refine ⟨?_, ?_, ?_⟩
  · conv => lhs; unfold guard_Join.l1
    simp only [hd, cond_true, g1, g0, f1, f2, f3, cond_false, hs, hc, Option.bind_some, f4, hw, hc2]
    rw [bshl_i64 m (by omega) (by omega) (by omega), hor, w64_id (x := (i : Int) + 1) (by omega) (by omega), en, Int.toNat_natCast, hm, Int.toNat_natCast]
    subst hi
    push_cast
    rfl
  · rw [Int.toNat_natCast]; omega
  · rw [Int.toNat_natCast, hm]; exact hN'
theorem div_lo {a c d : Int} (h0 : 0 ≤ d) (h1 : d < c) : (a * c + d) / c = a ∧ (a * c + d) % c = d := by
  have hc : c ≠ 0 := by omega
  constructor
  · rw [Int.add_comm, Int.add_mul_ediv_right _ _ hc, Int.ediv_eq_zero_of_lt h0 h1]; omega
  · rw [Int.add_comm, Int.add_mul_emod_self_right, Int.emod_eq_of_lt h0 h1]
theorem ok (a0 a1 a2 a3 a4 : Int) (_w0 : (Lit.int .i64 a0).wf = true) (_w1 : (Lit.int .i64 a1).wf = true) (_w2 : (Lit.int .i64 a2).wf = true) (_w3 : (Lit.int .i64 a3).wf = true) (_w4 : (Lit.int .i64 a4).wf = true) : ∃ k, law04_GuardBack.f k a0 a1 a2 a3 a4 = some true := by
  refine ⟨40, ?_⟩
  unfold law04_GuardBack.f
  rw [up04]
  by_cases h : 0 ≤ a1 ∧ a1 ≤ 8 ∧ 0 ≤ a3 ∧ a3 ≤ 5
  · obtain ⟨h1, h2, h3, h4⟩ := h
    have f1 : (decide (a1 < 0) || decide (8 < a1) || decide (a3 < 0) || decide (5 < a3)) = false := by
      simp only [Bool.or_eq_false_iff, decide_eq_false_iff_not]; omega
    rw [w64_id (x := 16 - a1) (by omega) (by omega), w64_id (x := 16 - a1 - a3) (by omega) (by omega)]
    simp only [Option.bind_some, f1, cond_false]
    have hj : guard_Join.f 40 [a0, a2, a4] [a1, a3, 16 - a1 - a3] = (guard_Join.l1 [a0, a2, a4] [a1, a3, 16 - a1 - a3] 40 (0, 16, 0)).bind fun o1 => Brk.go o1 (fun r => some r) (fun j => some (j, none)) := by
      unfold guard_Join.f; simp
    rw [hj]
    have z0 : guard_Join.l1 [a0, a2, a4] [a1, a3, 16 - a1 - a3] 40 (0, 16, 0) = guard_Join.l1 [a0, a2, a4] [a1, a3, 16 - a1 - a3] 40 (((0 : Nat) : Int), 16, 0 * 2 ^ (16 : Int).toNat) := by rw [Int.zero_mul]; rfl
    rw [z0]
    by_cases c1 : 0 ≤ a1 ∧ a1 ≤ 16 ∧ 0 ≤ a0 ∧ a0 < 2 ^ a1.toNat
    · obtain ⟨s1, n1, m1⟩ := join_yes (a0 := [a0, a2, a4]) (a1 := [a1, a3, 16 - a1 - a3]) (k := 39) (i := 0) (i' := 1) (l := 16) (N := 0) (x := a1) (y := a0) rfl rfl rfl (by decide) (by decide) rfl (by decide) (by decide) (by decide) c1
      rw [s1]
      by_cases c2 : 0 ≤ a3 ∧ a3 ≤ 16 - a1 ∧ 0 ≤ a2 ∧ a2 < 2 ^ a3.toNat
      · obtain ⟨s2, n2, m2⟩ := join_yes (a0 := [a0, a2, a4]) (a1 := [a1, a3, 16 - a1 - a3]) (k := 38) (i := 1) (i' := 2) (l := 16 - a1) (N := 0 * 2 ^ a1.toNat + a0) (x := a3) (y := a2) rfl rfl rfl (by omega) (by omega) rfl (by decide) n1 m1 c2
        rw [s2]
        by_cases c3 : 0 ≤ 16 - a1 - a3 ∧ 16 - a1 - a3 ≤ 16 - a1 - a3 ∧ 0 ≤ a4 ∧ a4 < 2 ^ (16 - a1 - a3).toNat
        · obtain ⟨s3, n3, m3⟩ := join_yes (a0 := [a0, a2, a4]) (a1 := [a1, a3, 16 - a1 - a3]) (k := 37) (i := 2) (i' := 3) (l := 16 - a1 - a3) (N := (0 * 2 ^ a1.toNat + a0) * 2 ^ a3.toNat + a2) (x := 16 - a1 - a3) (y := a4) rfl rfl rfl (by omega) (by omega) rfl (by decide) n2 m2 c3
          rw [s3]
          have s4 : ∀ n : Int, guard_Join.l1 [a0, a2, a4] [a1, a3, 16 - a1 - a3] 37 (((3 : Nat) : Int), 16 - a1 - a3 - (16 - a1 - a3), n) = some (Brk.nx n) := fun n => by
            unfold guard_Join.l1; rfl
          rw [s4]
          rw [Int.sub_self] at m3 ⊢
          rw [Int.zero_mul, Int.zero_add] at *
          simp only [Int.toNat_zero, Int.pow_zero, Int.mul_one, Option.bind_some, Brk.go, Option.isSome_none, cond_false]
          have m3' : (a0 * 2 ^ a3.toNat + a2) * 2 ^ (16 - a1 - a3).toNat + a4 < 65536 := m3
          obtain ⟨-, -, b1, b2⟩ := c1
          obtain ⟨-, -, b3, b4⟩ := c2
          obtain ⟨-, -, b5, b6⟩ := c3
          have q1 : (2 : Int) ^ (16 - a1).toNat = 2 ^ a3.toNat * 2 ^ (16 - a1 - a3).toNat := by rw [← Int.pow_add]; congr 1; omega
          have r0 : 0 ≤ a2 * 2 ^ (16 - a1 - a3).toNat + a4 := by
            have hq := pow_lo (16 - a1 - a3).toNat
            have := Int.mul_nonneg b3 (show (0 : Int) ≤ 2 ^ (16 - a1 - a3).toNat by omega)
            omega
          have r1 : a2 * 2 ^ (16 - a1 - a3).toNat + a4 < 2 ^ a3.toNat * 2 ^ (16 - a1 - a3).toNat := by
            have hq := pow_lo (16 - a1 - a3).toNat
            have : (a2 + 1) * 2 ^ (16 - a1 - a3).toNat ≤ 2 ^ a3.toNat * 2 ^ (16 - a1 - a3).toNat := Int.mul_le_mul_of_nonneg_right (by omega) (by omega)
            rw [Int.add_mul, Int.one_mul] at this
            omega
          have ea : (a0 * 2 ^ a3.toNat + a2) * 2 ^ (16 - a1 - a3).toNat + a4 = a0 * (2 ^ a3.toNat * 2 ^ (16 - a1 - a3).toNat) + (a2 * 2 ^ (16 - a1 - a3).toNat + a4) := by
            rw [Int.add_mul, Int.mul_assoc]; omega
          have t1 : topOf ((a0 * 2 ^ a3.toNat + a2) * 2 ^ (16 - a1 - a3).toNat + a4) 16 a1 = (a0, 0) := by
            unfold topOf
            rw [if_pos ⟨n3, m3', by decide, by decide, h1⟩, if_neg (by omega)]
            rw [show (2 : Int) ^ (16 : Int).toNat = 65536 from rfl, Int.emod_eq_of_lt n3 m3', q1, ea, (div_lo r0 r1).1]
          have t2 : topOf ((a0 * 2 ^ a3.toNat + a2) * 2 ^ (16 - a1 - a3).toNat + a4) (16 - a1) a3 = (a2, 0) := by
            unfold topOf
            rw [if_pos ⟨n3, m3', by omega, by omega, h3⟩, if_neg (by omega)]
            rw [q1, ea, (div_lo r0 r1).2, (div_lo b5 b6).1]
          have t3 : topOf ((a0 * 2 ^ a3.toNat + a2) * 2 ^ (16 - a1 - a3).toNat + a4) (16 - a1 - a3) (16 - a1 - a3) = (a4, 0) := by
            unfold topOf
            rw [if_pos ⟨n3, m3', by omega, by omega, by omega⟩, if_neg (by omega)]
            rw [(div_lo b5 b6).2, Int.sub_self]; simp
          have tw : walkOf ((a0 * 2 ^ a3.toNat + a2) * 2 ^ (16 - a1 - a3).toNat + a4) 16 a0 a1 a3 = (a2, 16 - a1 - a3, 0) := by
            unfold walkOf
            rw [if_pos ⟨n3, m3', by decide, by decide, h1, h2, h3, h4, b1, b2⟩, if_neg (by omega), t1, if_neg (by simp), t2]
          rw [walk_ok, tw]
          simp only [Option.bind_some]
          rw [top_ok, t3]
          simp [eN]
        · rw [show (38 : Nat) = 37 + 1 from rfl, join_no (i := 2) (x := 16 - a1 - a3) (y := a4) rfl rfl rfl (by omega) c3]
          simp [Brk.go]
      · rw [show (39 : Nat) = 38 + 1 from rfl, join_no (i := 1) (x := a3) (y := a2) rfl rfl rfl (by omega) c2]
        simp [Brk.go]
    · rw [show (40 : Nat) = 39 + 1 from rfl, join_no (i := 0) (x := a1) (y := a0) rfl rfl rfl (by decide) c1]
      simp [Brk.go]
  · have f1 : (decide (a1 < 0) || decide (8 < a1) || decide (a3 < 0) || decide (5 < a3)) = true := by
      simp only [Bool.or_eq_true, decide_eq_true_eq]; omega
    simp only [Option.bind_some, f1, cond_true]

theorem own : ownKnob Try.prog.godebug = none := by kernel_rfl
theorem laidOut : laidOutB Try.prog = true := by kernel_rfl
set_option maxRecDepth 100000 in
theorem lifted (os : Os) (started : os.Started) (H : Type) (enc : TypeId × Value → H) :
    ReturnsInHanded {} Try.checked os 11 .any (Rows.guardBackSpec.pre6 enc Try.prog Try.f11 Rows.guardBackRow.domain false) (Rows.guardBackSpec.post enc Try.prog Try.f11 false true false false) := by
  refine returnsInHanded_of_change (C := Try.checked) own started (by kernel_rfl) Try.func11
    (ChangeSpec.witness6 (enc := enc) (C := Try.checked) false ⟨#[], #[.int .i64 0, .int .i64 0, .int .i64 0, .int .i64 0, .int .i64 0], []⟩ 8 (by kernel_rfl) (by kernel_rfl) (by kernel_rfl) (by kernel_rfl)) ?_
  intro W base args ds gs before hval0 hW hcnd _
  have hval : ∀ (j : Nat) t v, Try.f11.params[j]? = some t → args[j]? = some v → Value.okWide Try.prog W .any base t v := hval0
  have hW' := hW
  obtain ⟨p, q, hA0, hV, rfl, hfz, hnd⟩ := hW
  have hA : DataW.TrodAll enc Try.prog W 0 (fun _ => true) true Try.f11.params.toList args.toList ds p := hA0
  rw [Try.params11] at hA hval
  obtain ⟨v0, vs0, d0, ds0, p0, q0, hargs, rfl, rfl, h0, r0⟩ := trodAll_cons hA
  obtain ⟨v1, vs1, d1, ds1, p1, q1, rfl, rfl, rfl, h1, r1⟩ := trodAll_cons r0
  obtain ⟨v2, vs2, d2, ds2, p2, q2, rfl, rfl, rfl, h2, r2⟩ := trodAll_cons r1
  obtain ⟨v3, vs3, d3, ds3, p3, q3, rfl, rfl, rfl, h3, r3⟩ := trodAll_cons r2
  obtain ⟨v4, vs4, d4, ds4, p4, q4, rfl, rfl, rfl, h4, r4⟩ := trodAll_cons r3
  obtain ⟨rfl, rfl, rfl⟩ := trodAll_nil r4
  obtain rfl : args = #[v0, v1, v2, v3, v4] := by cases args; simp_all
  obtain ⟨rfl, rfl⟩ := trodVars_none hV
  obtain ⟨a0, rfl, rfl, rfl, w0⟩ := open_int Try.underlying3 (hval 0 3 v0 rfl rfl) h0
  obtain ⟨a1, rfl, rfl, rfl, w1⟩ := open_int Try.underlying3 (hval 1 3 v1 rfl rfl) h1
  obtain ⟨a2, rfl, rfl, rfl, w2⟩ := open_int Try.underlying3 (hval 2 3 v2 rfl rfl) h2
  obtain ⟨a3, rfl, rfl, rfl, w3⟩ := open_int Try.underlying3 (hval 3 3 v3 rfl rfl) h3
  obtain ⟨a4, rfl, rfl, rfl, w4⟩ := open_int Try.underlying3 (hval 4 3 v4 rfl rfl) h4
  obtain ⟨k, hk⟩ := ok a0 a1 a2 a3 a4 w0 w1 w2 w3 w4
  refine (Ct.law (law04_GuardBack.ct _ a0 a1 a2 a3 a4 _ hk) (W := W) trivial).mono fun e W' ⟨he, hg⟩ => ?_
  subst he
  exact ⟨_, rfl, law_post hW' laidOut (by kernel_rfl) hg (by kernel_rfl) Try.underlying4 rfl rfl⟩
theorem over : Rows.guardBackRow.holds Try.pinned (OpenSpec.ofChange Rows.guardBackSpec) :=
  OpenClaim.holds_of_wide 11 Try.f11 rfl rfl rfl rfl rfl rfl rfl ⟨rfl, rfl, rfl, rfl, rfl⟩ rfl rfl rfl rfl rfl (by kernel_rfl) Try.func11 (by kernel_rfl)
    (of_decide_eq_true (by kernel_rfl)) (by unfold Func.isWrapper; first | (rw [if_pos (by decide +kernel)]; kernel_rfl) | (rw [if_neg (by decide +kernel)]; exact ⟨rfl, rfl⟩))
    (fun os started H enc _ => lifted os started H enc)
theorem proved : Rows.GuardBackSaid :=
  over
#print axioms proved
end Go.Proofs.Ytnkgafjmladidaa.guardBack
