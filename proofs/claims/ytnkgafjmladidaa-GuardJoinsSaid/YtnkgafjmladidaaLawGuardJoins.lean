/- The given statement 'GuardJoins' of the given program: whatever the input, the law answers true and the input reads as it did. On no condition. -/
import Derived.Test.YtnkgafjmladidaaFnGuardJoins0
import Derived.Test.YtnkgafjmladidaaSlLaw
import Derived.Test.YtnkgafjmladidaaPureGuardGuardJoins
import Derived.Test.YtnkgafjmladidaaRows
set_option linter.all false
namespace Go.Proofs.Ytnkgafjmladidaa.guardJoins
open Go.ChangeShapes Go.WideShapes Go.ChangeAt Go.RowKit Go.Sl

open Go.Proofs
theorem up04 : law04_up.f 100 = some true := by decide +kernel
theorem code_1 : law00_Code.f 100 (some 1) = some 1 := by decide +kernel
theorem two_gen (n : Nat) (hn : n ≤ 16) : ∀ (d k i : Nat), i + d = n → d < k → ref01_two.l1 (n : Int) k ((i : Int), 2 ^ i) = some (2 ^ n) := by
  intro d
  induction d with
  | zero =>
    intro k i h hk
    obtain ⟨k, rfl⟩ : ∃ m, k = m + 1 := ⟨k - 1, by omega⟩
    have : i = n := by omega
    subst this
    unfold ref01_two.l1
    simp
  | succ d ih =>
    intro k i h hk
    obtain ⟨k, rfl⟩ : ∃ m, k = m + 1 := ⟨k - 1, by omega⟩
    have hd : decide ((i : Int) < (n : Int)) = true := by simp; omega
    have hp := pow_lo i
    have hp2 := pow_le (show i ≤ 16 by omega)
    unfold ref01_two.l1
    simp only [hd, cond_true]
    rw [w64_id (x := (i : Int) + 1) (by omega) (by omega), w64_id (x := 2 * 2 ^ i) (by omega) (by omega)]
    have := ih k (i + 1) (by omega) (by omega)
    rw [Int.pow_succ, Int.mul_comm] at this
    exact_mod_cast this
theorem two_k {n : Int} {k : Nat} (h0 : 0 ≤ n) (h : n ≤ 16) (hk : 17 ≤ k) : ref01_two.f k n = some (2 ^ n.toNat) := by
  obtain ⟨m, rfl⟩ := Int.eq_ofNat_of_zero_le h0
  unfold ref01_two.f
  have := two_gen m (by omega) m k 0 (by omega) (by omega)
  simp only [Int.pow_zero, Int.natCast_zero] at this
  erw [this]
  simp
theorem join_rel (a0 a1 : List Int) (hl : a0.length = a1.length) (hlen : a1.length < 1000) : ∀ (d k i : Nat) (l N : Int), i + d = a1.length → d + 20 ≤ k → 0 ≤ l → l ≤ 16 → 0 ≤ N → N < 2 ^ (16 - l).toNat →
    (guard_Join.l1 a0 a1 k ((i : Int), l, N * 2 ^ l.toNat) = some (Brk.ret (0, some 1)) ∧ ref01_Join.l1 a0 a1 k ((i : Int), l, N * 2 ^ l.toNat) = some (Brk.ret (0, 1))) ∨
    ∃ m, guard_Join.l1 a0 a1 k ((i : Int), l, N * 2 ^ l.toNat) = some (Brk.nx m) ∧ ref01_Join.l1 a0 a1 k ((i : Int), l, N * 2 ^ l.toNat) = some (Brk.nx m) := by
  intro d
  induction d with
  | zero =>
    intro k i l N h hk _ _ _ _
    obtain ⟨k, rfl⟩ : ∃ m, k = m + 1 := ⟨k - 1, by omega⟩
    right
    have hd : decide ((i : Int) < (a1.length : Int)) = false := by simp; omega
    exact ⟨N * 2 ^ l.toNat, by unfold guard_Join.l1; simp only [hd, cond_false], by unfold ref01_Join.l1; simp only [hd, cond_false]⟩
  | succ d ih =>
    intro k i l N h hk hl0 hl1 hN0 hN1
    obtain ⟨k, rfl⟩ : ∃ m, k = m + 1 := ⟨k - 1, by omega⟩
    have hd : decide ((i : Int) < (a1.length : Int)) = true := by simp; omega
    have g1 : at_ a1 (i : Int) = some (a1[i]'(by omega)) := by
      unfold at_
      rw [decide_eq_true (show (0 : Int) ≤ (i : Int) by omega), cond_true, Int.toNat_natCast, List.getElem?_eq_getElem (by omega)]
    have g0 : at_ a0 (i : Int) = some (a0[i]'(by omega)) := by
      unfold at_
      rw [decide_eq_true (show (0 : Int) ≤ (i : Int) by omega), cond_true, Int.toNat_natCast, List.getElem?_eq_getElem (by omega)]
    generalize a1[i]'(by omega) = x at g1
    generalize a0[i]'(by omega) = y at g0
    unfold guard_Join.l1 ref01_Join.l1
    simp only [hd, cond_true, g1, g0, Option.bind_some]
    by_cases h1 : x < 0
    · left; simp [h1]
    have f1 : decide (x < 0) = false := by simpa using h1
    by_cases h2 : l < x
    · left; simp [h1, h2]
    have f2 : decide (l < x) = false := by simpa using h2
    by_cases h3 : y < 0
    · left; simp [h1, h2, h3]
    have f3 : decide (y < 0) = false := by simpa using h3
    obtain ⟨n, rfl⟩ := Int.eq_ofNat_of_zero_le (show 0 ≤ x by omega)
    obtain ⟨m, hm⟩ := Int.eq_ofNat_of_zero_le (show 0 ≤ l - n by omega)
    have hn := pow_lo n
    have hn2 := pow_le (show n ≤ 16 by omega)
    have hs : bshl .i64 1 (n : Int) = 2 ^ n := by
      rw [bshl_i64 n (by omega) (by omega) (by omega), Int.one_mul]
    have hc : chk (decide (0 ≤ (n : Int))) = some () := by simp [chk]
    simp only [f1, f2, f3, cond_false, hs, hc, Option.bind_some, two_k (show (0 : Int) ≤ (n : Int) by omega) (by omega) (show 17 ≤ k by omega), Int.toNat_natCast]
    by_cases h4 : (2 : Int) ^ n ≤ y
    · left; simp [h4]
    have f4 : decide ((2 : Int) ^ n ≤ y) = false := by simpa using h4
    have hw : w64 (l - (n : Int)) = (m : Int) := by rw [hm]; exact w64_id (by omega) (by omega)
    have hc2 : chk (decide (0 ≤ (m : Int))) = some () := by simp [chk]
    simp only [f4, cond_false, hw, hc2, Option.bind_some, two_k (show (0 : Int) ≤ (m : Int) by omega) (by omega) (show 17 ≤ k by omega), Int.toNat_natCast]
    -- numbers
    have hmp := pow_lo m
    have hmp2 := pow_le (show m ≤ 16 by omega)
    have el : l.toNat = n + m := by omega
    have e1 : (2 : Int) ^ l.toNat = 2 ^ n * 2 ^ m := by rw [el, Int.pow_add]
    have e2 : (2 : Int) ^ (16 - (m : Int)).toNat = 2 ^ (16 - l).toNat * 2 ^ n := by rw [← Int.pow_add]; congr 1; omega
    have hA := pow_lo (16 - l).toNat
    have hN' : N * 2 ^ n + y < 2 ^ (16 - (m : Int)).toNat := by
      rw [e2]
      have : (N + 1) * 2 ^ n ≤ 2 ^ (16 - l).toNat * 2 ^ n := Int.mul_le_mul_of_nonneg_right (by omega) (by omega)
      rw [Int.add_mul, Int.one_mul] at this
      omega
    have hN0' : 0 ≤ N * 2 ^ n := Int.mul_nonneg hN0 (by omega)
    have ey : y * 2 ^ m < 2 ^ l.toNat := by
      rw [e1]
      have : (y + 1) * 2 ^ m ≤ 2 ^ n * 2 ^ m := Int.mul_le_mul_of_nonneg_right (by omega) (by omega)
      rw [Int.add_mul, Int.one_mul] at this
      omega
    have ey0 : 0 ≤ y * 2 ^ m := Int.mul_nonneg (by omega) (by omega)
    have hl2 := pow_le (show l.toNat ≤ 16 by omega)
    have en : N * 2 ^ l.toNat + y * 2 ^ m = (N * 2 ^ n + y) * 2 ^ m := by rw [e1, Int.add_mul, Int.mul_assoc]
    have hb : (N * 2 ^ n + y) * 2 ^ m < 65536 := by
      have h16 : (2 : Int) ^ (16 - (m : Int)).toNat * 2 ^ m = 2 ^ 16 := by rw [← Int.pow_add]; congr 1; omega
      have : (N * 2 ^ n + y + 1) * 2 ^ m ≤ 2 ^ (16 - (m : Int)).toNat * 2 ^ m := Int.mul_le_mul_of_nonneg_right (by omega) (by omega)
      rw [Int.add_mul, Int.one_mul, h16] at this
      omega
    have hNl0 : 0 ≤ N * 2 ^ l.toNat := Int.mul_nonneg hN0 (Int.le_of_lt (Int.pow_pos (by decide)))
    have hor : bor .i64 (N * 2 ^ l.toNat) (y * 2 ^ m) = N * 2 ^ l.toNat + y * 2 ^ m := by
      have hh := bor_add_i64 (x := y * 2 ^ m) (y := N) l.toNat (by omega) ey0 ey hN0 (by omega)
      have : bor .i64 (N * 2 ^ l.toNat) (y * 2 ^ m) = bor .i64 (y * 2 ^ m) (N * 2 ^ l.toNat) := by unfold bor; rw [BitVec.or_comm]
      rw [this, hh]; omega
    rw [bshl_i64 m (by omega) (by omega) (by omega), hor, w64_id (x := y * 2 ^ m) (by omega) (by omega), w64_id (x := N * 2 ^ l.toNat + y * 2 ^ m) (by omega) (by omega), w64_id (x := (i : Int) + 1) (by omega) (by omega), en]
    have := ih k (i + 1) (m : Int) (N * 2 ^ n + y) (by omega) (by omega) (by omega) (by omega) (by omega) hN'
    simpa using this
theorem ok (a0 a1 : List Int) (_w0 : ∀ x ∈ a0, fits .i64 x) (_w1 : ∀ x ∈ a1, fits .i64 x) : ∃ k, law04_GuardJoins.f k a0 a1 = some true := by
  refine ⟨100, ?_⟩
  unfold law04_GuardJoins.f
  rw [up04]
  by_cases h : a0.length ≤ 50 ∧ a1.length ≤ 50
  · have f1 : (decide (50 < (a0.length : Int)) || decide (50 < (a1.length : Int))) = false := by simp; omega
    simp only [Option.bind_some, f1, cond_false]
    unfold guard_Join.f ref01_Join.f
    by_cases hl : a0.length = a1.length
    · have f2 : ((a0.length : Int) != (a1.length : Int)) = false := by simp [hl]
      have := join_rel a0 a1 hl (by omega) a1.length 100 0 16 0 (by omega) (by omega) (by decide) (by decide) (by decide) (by decide)
      rw [Int.zero_mul] at this
      rcases this with ⟨e1, e2⟩ | ⟨m, e1, e2⟩
      · simp only [f2, cond_false]
        erw [e1, e2]
        simp [Brk.go, code_1]
      · simp only [f2, cond_false]
        erw [e1, e2]
        simp [Brk.go, law00_Code.f]
    · have f2 : ((a0.length : Int) != (a1.length : Int)) = true := by simp; omega
      simp [f2, code_1]
  · have f1 : (decide (50 < (a0.length : Int)) || decide (50 < (a1.length : Int))) = true := by simp; omega
    simp only [Option.bind_some, f1, cond_true]

theorem own : ownKnob Try.prog.godebug = none := by kernel_rfl
theorem laidOut : laidOutB Try.prog = true := by kernel_rfl
set_option maxRecDepth 100000 in
theorem lifted (os : Os) (started : os.Started) (H : Type) (enc : TypeId × Value → H) :
    ReturnsInHanded {} Try.checked os 10 .any (Rows.guardJoinsSpec.pre6 enc Try.prog Try.f10 Rows.guardJoinsRow.domain false) (Rows.guardJoinsSpec.post enc Try.prog Try.f10 false true false false) := by
  refine returnsInHanded_of_change (C := Try.checked) own started (by kernel_rfl) Try.func10
    (ChangeSpec.witness6 (enc := enc) (C := Try.checked) false ⟨#[], #[.slice none 0 0, .slice none 0 0], []⟩ 8 (by kernel_rfl) (by kernel_rfl) (by kernel_rfl) (by kernel_rfl)) ?_
  intro W base args ds gs before hval0 hW hcnd _
  have hval : ∀ (j : Nat) t v, Try.f10.params[j]? = some t → args[j]? = some v → Value.okWide Try.prog W .any base t v := hval0
  have hW' := hW
  obtain ⟨p, q, hA0, hV, rfl, hfz, hnd⟩ := hW
  have hA : DataW.TrodAll enc Try.prog W 0 (fun _ => true) true Try.f10.params.toList args.toList ds p := hA0
  rw [Try.params10] at hA hval
  obtain ⟨v0, vs0, d0, ds0, p0, q0, hargs, rfl, rfl, h0, r0⟩ := trodAll_cons hA
  obtain ⟨v1, vs1, d1, ds1, p1, q1, rfl, rfl, rfl, h1, r1⟩ := trodAll_cons r0
  obtain ⟨rfl, rfl, rfl⟩ := trodAll_nil r1
  obtain rfl : args = #[v0, v1] := by cases args; simp_all
  obtain ⟨rfl, rfl⟩ := trodVars_none hV
  obtain ⟨a0, r0', w0, _⟩ := open_sl (K := ekI .i64) (parse_int Try.underlying3) Try.underlying73 (by kernel_rfl) (hval 0 73 v0 rfl rfl) h0
  obtain ⟨a1, r1', w1, _⟩ := open_sl (K := ekI .i64) (parse_int Try.underlying3) Try.underlying73 (by kernel_rfl) (hval 1 73 v1 rfl rfl) h1
  obtain ⟨k, hk⟩ := ok a0 a1 w0 w1
  refine (Ct.law (law04_GuardJoins.ct _ _ _ a0 a1 _ hk) (W := W) ⟨r0', r1'⟩).mono fun e W' ⟨he, hg⟩ => ?_
  subst he
  exact ⟨_, rfl, law_post hW' laidOut (by kernel_rfl) hg (by kernel_rfl) Try.underlying4 rfl rfl⟩
theorem over : Rows.guardJoinsRow.holds Try.pinned (OpenSpec.ofChange Rows.guardJoinsSpec) :=
  OpenClaim.holds_of_wide 10 Try.f10 rfl rfl rfl rfl rfl rfl rfl ⟨rfl, rfl, rfl, rfl, rfl⟩ rfl rfl rfl rfl rfl (by kernel_rfl) Try.func10 (by kernel_rfl)
    (of_decide_eq_true (by kernel_rfl)) (by unfold Func.isWrapper; first | (rw [if_pos (by decide +kernel)]; kernel_rfl) | (rw [if_neg (by decide +kernel)]; exact ⟨rfl, rfl⟩))
    (fun os started H enc _ => lifted os started H enc)
theorem proved : Rows.GuardJoinsSaid :=
  over
#print axioms proved
end Go.Proofs.Ytnkgafjmladidaa.guardJoins
