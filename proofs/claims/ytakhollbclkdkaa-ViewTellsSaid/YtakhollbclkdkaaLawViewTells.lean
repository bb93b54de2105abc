/- The given statement 'ViewTells' of the given program: whatever the input, the law answers true and the input reads as it did. On no condition. -/
import Derived.Test.YtakhollbclkdkaaFnViewTells0
import Derived.Test.YtakhollbclkdkaaFr1
import Derived.Test.YtakhollbclkdkaaPlViewTells0
import Derived.Test.YtakhollbclkdkaaRows
set_option linter.all false
namespace Go.Proofs.Ytakhollbclkdkaa.viewTells
open Go.ChangeShapes Go.WideShapes Go.ChangeAt Go.RowKit Go.Sl

open Go.Proofs
theorem up_ok : law05_up.f = some true := by decide +kernel
theorem l2_ok (a q : List Int) (h200 : a.length ≤ 200) : ∀ (n k : Nat) (i : Int), -1 ≤ i → i + n = a.length + 1 → n < k → law05_ViewTells.l2 a q q k i = some (Brk.nx ()) := by
  intro n
  induction n with
  | zero =>
    intro k i h0 h1 hk
    obtain ⟨k, rfl⟩ : ∃ q, k = q + 1 := ⟨k - 1, by omega⟩
    unfold law05_ViewTells.l2
    rw [decide_eq_false (by omega)]; rfl
  | succ n ih =>
    intro k i h0 h1 hk
    obtain ⟨k, rfl⟩ : ∃ q, k = q + 1 := ⟨k - 1, by omega⟩
    unfold law05_ViewTells.l2
    rw [decide_eq_true (by omega), cond_true, rd_some, Option.bind_some, lat_ok, Option.bind_some, bne_self_eq_false, cond_false, w64_id (by omega) (by omega)]
    exact ih k (i + 1) (by omega) (by omega) (by omega)
theorem vtl_ok (s : List Int) (stop : Int) : ∀ (n : Nat) (a : Int), ∃ m, vtl s s stop n a = .nx m ∧ (m = a + n ∨ a ≤ stop ∧ stop < a + n)
  | 0, a => ⟨a, rfl, .inl (by omega)⟩
  | n + 1, a => by
    rw [vtl, if_pos rfl]
    by_cases h : a = stop
    · rw [if_pos h]; exact ⟨_, rfl, .inr ⟨by omega, by omega⟩⟩
    · rw [if_neg h]
      obtain ⟨m, h1, h2⟩ := vtl_ok s stop n (a + 1)
      exact ⟨m, h1, by omega⟩
theorem chg_same (a b : List Int) (h : ∀ j : Nat, rd_ b j = rd_ a j) : ∀ n, chgL a b n = []
  | 0 => rfl
  | n + 1 => by unfold chgL; rw [if_pos (h n), chg_same a b h n]
theorem chg_one (a b : List Int) (j0 : Nat) (h : ∀ j : Nat, j ≠ j0 → rd_ b j = rd_ a j) (hne : rd_ b j0 ≠ rd_ a j0) : ∀ n, chgL a b n = if j0 < n then [⟨j0, rd_ b j0⟩] else []
  | 0 => rfl
  | n + 1 => by
    unfold chgL
    rw [chg_one a b j0 h hne n]
    by_cases c : n = j0
    · subst c
      rw [if_neg hne, if_neg (by omega), if_pos (by omega)]; rfl
    · rw [if_pos (h n c)]
      by_cases c2 : j0 < n
      · rw [if_pos c2, if_pos (by omega)]
      · rw [if_neg c2, if_neg (by omega)]
theorem app_nil (a : List Int) (h : a.length ≤ 200) : app [] a = some a := by
  have e : ([] : List Int).length + a.length ≤ 4294967296 := by simp; omega
  unfold app
  rw [decide_eq_true e]; rfl
theorem ok (a0 : List Int) (a1 a2 a3 a4 a5 : Int) (w0 : ∀ x ∈ a0, (Lit.int .u64 x).wf = true) (w1 : fits .i64 a1) (w2 : fits .u64 a2) (w3 : fits .i64 a3) (w4 : fits .i64 a4) (w5 : fits .i64 a5) : ∃ k, law05_ViewTells.f k a0 a1 a2 a3 a4 a5 = some true := by
  refine ⟨1000, ?_⟩
  unfold law05_ViewTells.f
  rw [up_ok, Option.bind_some]
  by_cases h1 : (200 : Int) < (a0.length : Int) ∨ a3 < -1000 ∨ 1000 < a4
  · have : (bif (decide (200 < (a0.length : Int))) || (decide (a3 < (-1000))) then (some true) else (some (decide (1000 < a4)))) = some true := by
      by_cases c : (200 : Int) < (a0.length : Int)
      · rw [decide_eq_true c]; rfl
      by_cases c2 : a3 < -1000
      · rw [decide_eq_true c2, Bool.or_true]; rfl
      rw [decide_eq_false c, decide_eq_false c2, decide_eq_true (p := 1000 < a4) (by omega)]; rfl
    rw [this]; rfl
  have hc8 : (bif (decide (200 < (a0.length : Int))) || (decide (a3 < (-1000))) then (some true) else (some (decide (1000 < a4)))) = some false := by
    rw [decide_eq_false (by omega), decide_eq_false (by omega), decide_eq_false (by omega)]; rfl
  have hlen : a0.length ≤ 200 := by omega
  have hq : (bif (decide (0 ≤ a1)) && (decide (a1 < (a0.length : Int))) then ((at_ a0 a1).bind fun x34 => some (a0.set a1.toNat a2)) else (some a0)) = some (wr_ a0 a1 a2) := by
    unfold wr_
    by_cases c : 0 ≤ a1 ∧ a1 < (a0.length : Int)
    · rw [if_pos c, decide_eq_true c.1, decide_eq_true c.2]
      have h2 : at_ a0 a1 = some (a0[a1.toNat]'(by omega)) := by unfold at_; rw [decide_eq_true c.1, cond_true, List.getElem?_eq_getElem (by omega)]
      rw [h2]; rfl
    · rw [if_neg c]
      have : (decide (0 ≤ a1) && decide (a1 < (a0.length : Int))) = false := by
        rcases (by omega : ¬ 0 ≤ a1 ∨ ¬ a1 < (a0.length : Int)) with z | z
        · rw [decide_eq_false z]; rfl
        · rw [decide_eq_false (p := a1 < _) z, Bool.and_false]
      rw [this]; rfl
  simp only [hc8, Option.bind_some, cond_false, app_nil a0 hlen, rd_some, lat_ok, bne_self_eq_false, wr_some, hq]
  rw [l2_ok a0 _ hlen (a0.length + 2) 1000 (-1) (by omega) (by omega) (by omega)]
  simp only [Option.bind_some, Brk.go]
  rw [show chk (decide (-9223372036854775808 ≤ a3) && decide (a4 ≤ 9223372036854775807)) = some () by rw [decide_eq_true (by omega), decide_eq_true (by omega)]; rfl, Option.bind_some]
  obtain ⟨m, hm, hm2⟩ := vtl_ok (wr_ a0 a1 a2) a5 (a4 - a3).toNat a3
  rw [hm]
  dsimp only
  have hend : ∃ c, (bif decide (m < a4) then ((bif decide (a5 < a3) then (some true) else (some (decide (a4 ≤ a5)))).bind fun c52 => some c52) else (some false)) = some c ∧ (c && decide (a3 < a4)) = false := by
    by_cases c1 : m < a4
    · rw [decide_eq_true c1, cond_true]
      by_cases c2 : a3 < a4
      · rw [decide_eq_false (p := a5 < a3) (by omega), decide_eq_false (p := a4 ≤ a5) (by omega)]
        exact ⟨false, rfl, rfl⟩
      · by_cases c3 : a5 < a3
        · rw [decide_eq_true c3]; exact ⟨true, rfl, by rw [decide_eq_false c2]; rfl⟩
        · rw [decide_eq_false c3]; exact ⟨_, rfl, by rw [decide_eq_false c2, Bool.and_false]⟩
    · rw [decide_eq_false c1]; exact ⟨false, rfl, rfl⟩
  obtain ⟨c, hc1, hc2⟩ := hend
  rw [hc1, Option.bind_some, hc2, cond_false, changed_ok a0 _ (by omega) (by rw [wr_len]; omega), Option.bind_some]
  have hget : ∀ j : Nat, rd_ (wr_ a0 a1 a2) j = if a1 = (j : Int) ∧ j < a0.length then a2 else rd_ a0 j := fun j => by rw [rd_nat, wr_get, rd_nat]
  by_cases he : rd_ a0 a1 = rd_ (wr_ a0 a1 a2) a1
  · rw [← he, beq_self_eq_true, cond_true, chg_same a0 _ (fun j => by
      rw [hget]; split
      · rename_i z
        have := hget j
        rw [if_pos z] at this
        rw [← this, ← z.1]
        exact he.symm
      · rfl)]
    rfl
  · have hin : 0 ≤ a1 ∧ a1 < (a0.length : Int) := by
      by_cases z : 0 ≤ a1 ∧ a1 < (a0.length : Int)
      · exact z
      · exfalso; apply he
        unfold wr_; rw [if_neg z]
    have e1 : a1 = (a1.toNat : Int) := by omega
    have hv : rd_ (wr_ a0 a1 a2) a1.toNat = a2 := by rw [hget, if_pos ⟨e1, by omega⟩]
    have hne : rd_ (wr_ a0 a1 a2) a1.toNat ≠ rd_ a0 a1.toNat := by
      intro z; apply he; rw [e1]; rw [e1] at z; simpa using z.symm
    rw [beq_false_of_ne he, cond_false, chg_one a0 _ a1.toNat (fun j hj => by rw [hget, if_neg (by omega)]) hne, if_pos (by rw [wr_len]; omega), hv, ← e1]
    simp [at_]

theorem own : ownKnob Try.prog.godebug = none := by kernel_rfl
theorem laidOut : laidOutB Try.prog = true := by kernel_rfl
set_option maxRecDepth 100000 in
theorem lifted (os : Os) (started : os.Started) (H : Type) (enc : TypeId × Value → H) :
    ReturnsInHanded {} Try.checked os 3 .any (Rows.viewTellsSpec.pre6 enc Try.prog Try.f3 Rows.viewTellsRow.domain false) (Rows.viewTellsSpec.post enc Try.prog Try.f3 false true false false) := by
  refine returnsInHanded_of_change (C := Try.checked) own started (by kernel_rfl) Try.func3
    (ChangeSpec.witness6 (enc := enc) (C := Try.checked) false ⟨#[], #[.slice none 0 0, .int .i64 0, .int .u64 0, .int .i64 0, .int .i64 0, .int .i64 0], []⟩ 8 (by kernel_rfl) (by kernel_rfl) (by kernel_rfl) (by kernel_rfl)) ?_
  intro W base args ds gs before hval0 hW hcnd _
  have hval : ∀ (j : Nat) t v, Try.f3.params[j]? = some t → args[j]? = some v → Value.okWide Try.prog W .any base t v := hval0
  have hW' := hW
  obtain ⟨p, q, hA0, hV, rfl, hfz, hnd⟩ := hW
  have hA : DataW.TrodAll enc Try.prog W 0 (fun _ => true) true Try.f3.params.toList args.toList ds p := hA0
  rw [Try.params3] at hA hval
  obtain ⟨v0, vs0, d0, ds0, p0, q0, hargs, rfl, rfl, h0, r0⟩ := trodAll_cons hA
  obtain ⟨v1, vs1, d1, ds1, p1, q1, rfl, rfl, rfl, h1, r1⟩ := trodAll_cons r0
  obtain ⟨v2, vs2, d2, ds2, p2, q2, rfl, rfl, rfl, h2, r2⟩ := trodAll_cons r1
  obtain ⟨v3, vs3, d3, ds3, p3, q3, rfl, rfl, rfl, h3, r3⟩ := trodAll_cons r2
  obtain ⟨v4, vs4, d4, ds4, p4, q4, rfl, rfl, rfl, h4, r4⟩ := trodAll_cons r3
  obtain ⟨v5, vs5, d5, ds5, p5, q5, rfl, rfl, rfl, h5, r5⟩ := trodAll_cons r4
  obtain ⟨rfl, rfl, rfl⟩ := trodAll_nil r5
  obtain rfl : args = #[v0, v1, v2, v3, v4, v5] := by cases args; simp_all
  obtain ⟨rfl, rfl⟩ := trodVars_none hV
  obtain ⟨a0, r0', w0, _⟩ := open_sl (K := ekI .u64) (parse_int Try.underlying23) Try.underlying22 (by kernel_rfl) (hval 0 22 v0 rfl rfl) h0
  obtain ⟨a1, rfl, rfl, rfl, w1⟩ := open_int Try.underlying3 (hval 1 3 v1 rfl rfl) h1
  obtain ⟨a2, rfl, rfl, rfl, w2⟩ := open_int Try.underlying23 (hval 2 23 v2 rfl rfl) h2
  obtain ⟨a3, rfl, rfl, rfl, w3⟩ := open_int Try.underlying3 (hval 3 3 v3 rfl rfl) h3
  obtain ⟨a4, rfl, rfl, rfl, w4⟩ := open_int Try.underlying3 (hval 4 3 v4 rfl rfl) h4
  obtain ⟨a5, rfl, rfl, rfl, w5⟩ := open_int Try.underlying3 (hval 5 3 v5 rfl rfl) h5
  obtain ⟨k, hk⟩ := ok a0 a1 a2 a3 a4 a5 w0 w1 w2 w3 w4 w5
  refine (Ct.law (law05_ViewTells.ct _ _ a0 a1 a2 a3 a4 a5 _ hk) (W := W) r0').mono fun e W' ⟨he, hg⟩ => ?_
  subst he
  exact ⟨_, rfl, law_post hW' laidOut (by kernel_rfl) hg (by kernel_rfl) Try.underlying4 rfl rfl⟩
theorem over : Rows.viewTellsRow.holds Try.pinned (OpenSpec.ofChange Rows.viewTellsSpec) :=
  OpenClaim.holds_of_wide 3 Try.f3 rfl rfl rfl rfl rfl rfl rfl ⟨rfl, rfl, rfl, rfl, rfl⟩ rfl rfl rfl rfl rfl (by kernel_rfl) Try.func3 (by kernel_rfl)
    (of_decide_eq_true (by kernel_rfl)) (by unfold Func.isWrapper; first | (rw [if_pos (by decide +kernel)]; kernel_rfl) | (rw [if_neg (by decide +kernel)]; exact ⟨rfl, rfl⟩))
    (fun os started H enc _ => lifted os started H enc)
theorem proved : Rows.ViewTellsSaid :=
  over
#print axioms proved
end Go.Proofs.Ytakhollbclkdkaa.viewTells
