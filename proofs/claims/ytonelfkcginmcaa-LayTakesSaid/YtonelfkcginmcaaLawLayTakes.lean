/- The given statement 'LayTakes' of the given program: whatever the input, the law answers true and the input reads as it did. On no condition. -/
import Derived.Test.YtonelfkcginmcaaFnLayTakes0
import Derived.Test.YtonelfkcginmcaaSlLaw
import Derived.Test.YtonelfkcginmcaaPureLayLayTakes
import Derived.Test.YtonelfkcginmcaaPureRowsLayTakes
import Derived.Test.YtonelfkcginmcaaRows
set_option linter.all false
namespace Go.Proofs.Ytonelfkcginmcaa.layTakes
open Go.ChangeShapes Go.WideShapes Go.ChangeAt Go.RowKit Go.Sl

open Go.Proofs
def Inv (a b : Int) (s : List Int) : Prop := 0 ≤ a ∧ a ≤ 96 ∧ 0 ≤ b ∧ b ≤ 32 ∧ s.length = 738 ∧ (if 96 < s.getD 736 0 then 96 else s.getD 736 0) = a ∧ (if 32 < s.getD 737 0 then 32 else s.getD 737 0) = b
theorem used_ok {a b : Int} {s : List Int} (h : Inv a b s) : VM.run plainI lay_Used.f s = some ((a, b), s) := by
  obtain ⟨h1, h2, h3, h4, h5, h6, h7⟩ := h
  show VM.run plainI (VM.rd 737 fun t4 => VM.ret (w64 (if 96 < (plainI.rd s 736).1 then 96 else (plainI.rd s 736).1), w64 (if 32 < t4 then 32 else t4))) (plainI.rd s 736).2 = _
  rw [prd (by omega)]
  show VM.run plainI (VM.ret (w64 (if 96 < s.getD (736 : Int).toNat 0 then 96 else s.getD (736 : Int).toNat 0), w64 (if 32 < (plainI.rd s 737).1 then 32 else (plainI.rd s 737).1))) (plainI.rd s 737).2 = _
  rw [prd (by omega)]
  show some ((w64 (if 96 < s.getD 736 0 then 96 else s.getD 736 0), w64 (if 32 < s.getD 737 0 then 32 else s.getD 737 0)), s) = _
  rw [h6, h7, w64_id (by omega) (by omega), w64_id (by omega) (by omega)]
def badOf (a b x y : Int) : Int := if x < 0 ∨ y < 0 then 1 else if 96 - a < x ∨ 32 - b < y then 7 else 0
def eB (n : Int) : Option Int := if n = 0 then none else some n
theorem take_bad {a b x y : Int} {s : List Int} (h : Inv a b s) (hb : badOf a b x y ≠ 0) : VM.run plainI (lay_Take.f x y) s = some ((0, 0, eB (badOf a b x y)), s) := by
  unfold lay_Take.f
  unfold badOf at hb ⊢
  have hu := used_ok h
  obtain ⟨h1, h2, h3, h4, -⟩ := h
  by_cases q : x < 0 ∨ y < 0
  · have : (decide (x < 0) || decide (y < 0)) = true := by simpa using q
    rw [this, if_pos q]; rfl
  · have : (decide (x < 0) || decide (y < 0)) = false := by simp; omega
    rw [this, if_neg q, cond_false, VM.run_bind, hu]
    rw [if_neg q] at hb
    by_cases q2 : 96 - a < x ∨ 32 - b < y
    · have e : (decide (w64 (96 - a) < x) || decide (w64 (32 - b) < y)) = true := by
        rw [w64_id (by omega) (by omega), w64_id (by omega) (by omega)]; simpa using q2
      simp only [Option.bind_some, e, cond_true]
      rw [if_pos q2]; rfl
    · rw [if_neg q2] at hb; exact absurd rfl hb
theorem take_ok {a b x y : Int} {s : List Int} (h : Inv a b s) (hb : badOf a b x y = 0) : VM.run plainI (lay_Take.f x y) s = some ((a, b, none), (s.set 736 (a + x)).set 737 (b + y)) ∧ Inv (a + x) (b + y) ((s.set 736 (a + x)).set 737 (b + y)) ∧ 0 ≤ x ∧ 0 ≤ y ∧ a + x ≤ 96 ∧ b + y ≤ 32 := by
  unfold badOf at hb
  have hu := used_ok h
  obtain ⟨h1, h2, h3, h4, h5, -, -⟩ := h
  have q : ¬ (x < 0 ∨ y < 0) := fun q => by rw [if_pos q] at hb; exact absurd hb (by decide)
  rw [if_neg q] at hb
  have q2 : ¬ (96 - a < x ∨ 32 - b < y) := fun q => by rw [if_pos q] at hb; exact absurd hb (by decide)
  have e0 : (decide (x < 0) || decide (y < 0)) = false := by simp; omega
  have e : (decide (w64 (96 - a) < x) || decide (w64 (32 - b) < y)) = false := by
    rw [w64_id (by omega) (by omega), w64_id (by omega) (by omega)]; simp; omega
  refine ⟨?_, ⟨by omega, by omega, by omega, by omega, by simp [h5], ?_, ?_⟩, by omega, by omega, by omega, by omega⟩
  · unfold lay_Take.f
    rw [e0, cond_false, VM.run_bind, hu]
    simp only [Option.bind_some, e, cond_false]
    show some ((a, b, (none : Option Int)), plainI.wr (plainI.wr s 736 (wu64 (w64 (a + x)))) 737 (wu64 (w64 (b + y)))) = _
    rw [w64_id (x := a + x) (by omega) (by omega), w64_id (x := b + y) (by omega) (by omega), wu64_id (x := a + x) (by omega) (by omega), wu64_id (x := b + y) (by omega) (by omega)]
    rw [pwr (s := s) (by omega), pwr (by rw [List.length_set]; omega)]
    rfl
  · unfold List.getD
    rw [List.getElem?_set_ne (by decide), List.getElem?_set_self (by omega)]
    show (if 96 < a + x then 96 else a + x) = a + x
    rw [if_neg (by omega)]
  · unfold List.getD
    rw [List.getElem?_set_self (by rw [List.length_set]; omega)]
    show (if 32 < b + y then 32 else b + y) = b + y
    rw [if_neg (by omega)]
theorem code0 (k : Nat) : law00_Code.f k none = some 0 := rfl
theorem code1 (k : Nat) : law00_Code.f (k + 20) (some 1) = some 1 := by kernel_rfl
theorem code7 (k : Nat) : law00_Code.f (k + 20) (some 7) = some 7 := by kernel_rfl
theorem code_b (k : Nat) (hk : 20 ≤ k) (a b x y : Int) : law00_Code.f k (eB (badOf a b x y)) = some (badOf a b x y) := by
  obtain ⟨k, rfl⟩ : ∃ m, k = m + 20 := ⟨k - 20, by omega⟩
  unfold badOf
  split
  · exact code1 k
  · split
    · exact code7 k
    · rfl
theorem at_nat {α : Type} (l : List α) (i : Nat) (h : i < l.length) : at_ l (i : Int) = some (l[i]'h) := by
  unfold at_
  rw [decide_eq_true (show (0 : Int) ≤ (i : Int) by omega), cond_true, Int.toNat_natCast, List.getElem?_eq_getElem h]
theorem loop_ok (a2 : List (List Int)) : ∀ (d k i : Nat) (a b : Int) (s : List Int), i + d = min a2.length 100 → d + 21 ≤ k → Inv a b s → ∃ a' b' s', law09_LayTakes.l3 a2 k ((i : Int), a, b, s) = some (Brk.nx (a', b', s')) ∧ Inv a' b' s' := by
  intro d
  induction d with
  | zero =>
    intro k i a b s h hk hi
    obtain ⟨k, rfl⟩ : ∃ m, k = m + 1 := ⟨k - 1, by omega⟩
    have hd : (decide ((i : Int) < (a2.length : Int)) && decide ((i : Int) < 100)) = false := by
      simp only [Bool.and_eq_false_iff, decide_eq_false_iff_not]; omega
    exact ⟨a, b, s, by unfold law09_LayTakes.l3; simp only [hd, cond_false], hi⟩
  | succ d ih =>
    intro k i a b s h hk hi
    obtain ⟨k, rfl⟩ : ∃ m, k = m + 1 := ⟨k - 1, by omega⟩
    have hd : (decide ((i : Int) < (a2.length : Int)) && decide ((i : Int) < 100)) = true := by
      simp only [Bool.and_eq_true, decide_eq_true_eq]; omega
    have g : at_ a2 (i : Int) = some (a2[i]'(by omega)) := at_nat a2 i (by omega)
    generalize a2[i]'(by omega) = l at g
    have hw : w64 ((i : Int) + 1) = ((i + 1 : Nat) : Int) := by rw [w64_id (by omega) (by omega)]; push_cast; rfl
    unfold law09_LayTakes.l3
    simp only [hd, cond_true, used_ok hi, Option.bind_some, bne_self_eq_false, Bool.or_self, cond_false, g, hw]
    by_cases hl : l.length = 2
    · match l, hl with
      | [x, y], _ =>
        have f0 : (([x, y].length : Int) != 2) = false := rfl
        have g0 : at_ [x, y] 0 = some x := rfl
        have g1 : at_ [x, y] 1 = some y := rfl
        have hi' := hi
        obtain ⟨h1, h2, h3, h4, -⟩ := hi'
        have hbad : ∀ {β : Type} (R : Int → Option β), (bif decide (x < 0) then some true else some (decide (y < 0))).bind (fun c59 => (bif c59 then (some (1 : Int)) else ((bif decide ((w64 (96 - a)) < x) then (some true) else (some (decide ((w64 (32 - b)) < y)))).bind fun c77 => bif c77 then (some 7) else (some 0))).bind R) = R (badOf a b x y) := by
          intro β R
          rw [w64_id (x := 96 - a) (by omega) (by omega), w64_id (x := 32 - b) (by omega) (by omega)]
          unfold badOf
          by_cases q1 : x < 0 <;> by_cases q2 : y < 0 <;> by_cases q3 : 96 - a < x <;> by_cases q4 : 32 - b < y <;> simp [q1, q2, q3, q4]
        simp only [f0, cond_false, g0, g1, Option.bind_some]
        by_cases hb : badOf a b x y = 0
        · obtain ⟨t1, t2, t3, t4, t5, t6⟩ := take_ok hi hb
          simp only [t1, Option.bind_some, hbad, hb, code0, bne_self_eq_false, cond_false, Bool.or_self]
          rw [w64_id (x := a + x) (by omega) (by omega), w64_id (x := b + y) (by omega) (by omega)]
          exact ih k (i + 1) _ _ _ (by omega) (by omega) t2
        · have t1 := take_bad hi hb
          have hb2 : (badOf a b x y != 0) = true := by simpa using hb
          simp only [t1, Option.bind_some, hbad, code_b k (by omega), bne_self_eq_false, cond_false, Bool.or_self, hb2, cond_true]
          exact ih k (i + 1) _ _ _ (by omega) (by omega) hi
    · have f0 : ((l.length : Int) != 2) = true := by simp; omega
      simp only [f0, cond_true]
      exact ih k (i + 1) _ _ _ (by omega) (by omega) hi
theorem ok (a0 a1 : Int) (a2 : List (List Int)) (w0 : (Lit.int .u64 a0).wf = true) (w1 : (Lit.int .u64 a1).wf = true) : ∃ k, law09_LayTakes.f k a0 a1 a2 = some true := by
  refine ⟨200, ?_⟩
  obtain ⟨u0, u1⟩ := fits_u64 w0
  obtain ⟨v0, v1⟩ := fits_u64 w1
  unfold law09_LayTakes.f
  obtain ⟨z, hz, hl⟩ : ∃ z, z = List.replicate 738 (0 : Int) ∧ z.length = 738 := ⟨_, rfl, List.length_replicate⟩
  rw [up09, words0, ← hz]
  have g0 : at_ z 736 = some (z[736]'(by omega)) := at_nat z 736 (by omega)
  have g1 : at_ (z.set (736 : Int).toNat a0) 737 = some ((z.set (736 : Int).toNat a0)[737]'(by rw [List.length_set]; omega)) := at_nat _ 737 (by rw [List.length_set]; omega)
  have ea : (bif decide (a0 < 96) then (some (w64 a0)) else (some 96)) = some (if a0 < 96 then a0 else 96) := by
    by_cases q : a0 < 96
    · rw [decide_eq_true q, if_pos q, w64_id (by omega) (by omega)]; rfl
    · rw [decide_eq_false q, if_neg q]; rfl
  have eb : (bif decide (a1 < 32) then (some (w64 a1)) else (some 32)) = some (if a1 < 32 then a1 else 32) := by
    by_cases q : a1 < 32
    · rw [decide_eq_true q, if_pos q, w64_id (by omega) (by omega)]; rfl
    · rw [decide_eq_false q, if_neg q]; rfl
  simp only [Option.bind_some, g0, g1, ea, eb]
  simp only [show (736 : Int).toNat = 736 from rfl, show (737 : Int).toNat = 737 from rfl]
  have hi : Inv (if a0 < 96 then a0 else 96) (if a1 < 32 then a1 else 32) ((z.set 736 a0).set 737 a1) := by
    refine ⟨by split <;> omega, by split <;> omega, by split <;> omega, by split <;> omega, by rw [List.length_set, List.length_set]; exact hl, ?_, ?_⟩
    · unfold List.getD
      rw [List.getElem?_set_ne (by decide), List.getElem?_set_self (by show 736 < z.length; omega)]
      show (if 96 < a0 then 96 else a0) = _
      split <;> split <;> omega
    · unfold List.getD
      rw [List.getElem?_set_self (by rw [List.length_set]; show 737 < z.length; omega)]
      show (if 32 < a1 then 32 else a1) = _
      split <;> split <;> omega
  obtain ⟨a', b', s', e1, e2⟩ := loop_ok a2 (min a2.length 100) 200 0 _ _ _ (by omega) (by omega) hi
  erw [e1]
  simp only [Option.bind_some, Brk.go, used_ok e2, beq_self_eq_true, Bool.and_self]

theorem own : ownKnob Try.prog.godebug = none := by kernel_rfl
theorem laidOut : laidOutB Try.prog = true := by kernel_rfl
set_option maxRecDepth 100000 in
theorem lifted (os : Os) (started : os.Started) (H : Type) (enc : TypeId × Value → H) :
    ReturnsInHanded {} Try.checked os 3 .any (Rows.layTakesSpec.pre6 enc Try.prog Try.f3 Rows.layTakesRow.domain false) (Rows.layTakesSpec.post enc Try.prog Try.f3 false true false false) := by
  refine returnsInHanded_of_change (C := Try.checked) own started (by kernel_rfl) Try.func3
    (ChangeSpec.witness6 (enc := enc) (C := Try.checked) false ⟨#[], #[.int .u64 0, .int .u64 0, .slice none 0 0], []⟩ 8 (by kernel_rfl) (by kernel_rfl) (by kernel_rfl) (by kernel_rfl)) ?_
  intro W base args ds gs before hval0 hW hcnd _
  have hval : ∀ (j : Nat) t v, Try.f3.params[j]? = some t → args[j]? = some v → Value.okWide Try.prog W .any base t v := hval0
  have hW' := hW
  obtain ⟨p, q, hA0, hV, rfl, hfz, hnd⟩ := hW
  have hA : DataW.TrodAll enc Try.prog W 0 (fun _ => true) true Try.f3.params.toList args.toList ds p := hA0
  rw [Try.params3] at hA hval
  obtain ⟨v0, vs0, d0, ds0, p0, q0, hargs, rfl, rfl, h0, r0⟩ := trodAll_cons hA
  obtain ⟨v1, vs1, d1, ds1, p1, q1, rfl, rfl, rfl, h1, r1⟩ := trodAll_cons r0
  obtain ⟨v2, vs2, d2, ds2, p2, q2, rfl, rfl, rfl, h2, r2⟩ := trodAll_cons r1
  obtain ⟨rfl, rfl, rfl⟩ := trodAll_nil r2
  obtain rfl : args = #[v0, v1, v2] := by cases args; simp_all
  obtain ⟨rfl, rfl⟩ := trodVars_none hV
  obtain ⟨a0, rfl, rfl, rfl, w0⟩ := open_int Try.underlying22 (hval 0 22 v0 rfl rfl) h0
  obtain ⟨a1, rfl, rfl, rfl, w1⟩ := open_int Try.underlying22 (hval 1 22 v1 rfl rfl) h1
  obtain ⟨a2, r2'⟩ := open_sl2 (K := ekI .i64) (parse_int Try.underlying3) Try.underlying23 Try.underlying30 (by kernel_rfl) (by kernel_rfl) (hval 2 23 v2 rfl rfl) h2
  obtain ⟨k, hk⟩ := ok a0 a1 a2 w0 w1
  refine (Ct.law (law09_LayTakes.ct _ _ a0 a1 a2 _ hk) (W := W) r2').mono fun e W' ⟨he, hg⟩ => ?_
  subst he
  exact ⟨_, rfl, law_post hW' laidOut (by kernel_rfl) hg (by kernel_rfl) Try.underlying4 rfl rfl⟩
theorem over : Rows.layTakesRow.holds Try.pinned (OpenSpec.ofChange Rows.layTakesSpec) :=
  OpenClaim.holds_of_wide 3 Try.f3 rfl rfl rfl rfl rfl rfl rfl ⟨rfl, rfl, rfl, rfl, rfl⟩ rfl rfl rfl rfl rfl (by kernel_rfl) Try.func3 (by kernel_rfl)
    (of_decide_eq_true (by kernel_rfl)) (by unfold Func.isWrapper; first | (rw [if_pos (by decide +kernel)]; kernel_rfl) | (rw [if_neg (by decide +kernel)]; exact ⟨rfl, rfl⟩))
    (fun os started H enc _ => lifted os started H enc)
theorem proved : Rows.LayTakesSaid :=
  over
#print axioms proved
end Go.Proofs.Ytonelfkcginmcaa.layTakes
