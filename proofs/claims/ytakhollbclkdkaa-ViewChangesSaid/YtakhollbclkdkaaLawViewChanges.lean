/- The given statement 'ViewChanges' of the given program: whatever the input, the law answers true and the input reads as it did. On no condition. -/
import Derived.Test.YtakhollbclkdkaaFnViewChanges0
import Derived.Test.YtakhollbclkdkaaFr1
import Derived.Test.YtakhollbclkdkaaPlViewChanges0
import Derived.Test.YtakhollbclkdkaaRows
set_option linter.all false
namespace Go.Proofs.Ytakhollbclkdkaa.viewChanges
open Go.ChangeShapes Go.WideShapes Go.ChangeAt Go.RowKit Go.Sl

open Go.Proofs
theorem up_ok : law05_up.f = some true := by decide +kernel
theorem l2_ok (a : List Int) (h200 : a.length ≤ 200) : ∀ (n k : Nat) (i : Nat) (s : List Int), i + n = a.length → n < k → a.length ≤ s.length → ∃ s', law05_ViewChanges.l2 a k (i, s) = some s' ∧ s'.length = s.length ∧ ∀ j, s'.getD j 0 = if i ≤ j ∧ j < a.length then a.getD j 0 else s.getD j 0 := by
  intro n
  induction n with
  | zero =>
    intro k i s h1 hk hl
    obtain ⟨k, rfl⟩ : ∃ q, k = q + 1 := ⟨k - 1, by omega⟩
    unfold law05_ViewChanges.l2
    rw [decide_eq_false (by omega)]
    exact ⟨s, rfl, rfl, fun j => by rw [if_neg (by omega)]⟩
  | succ n ih =>
    intro k i s h1 hk hl
    obtain ⟨k, rfl⟩ : ∃ q, k = q + 1 := ⟨k - 1, by omega⟩
    unfold law05_ViewChanges.l2
    rw [decide_eq_true (by omega), cond_true]
    have h2 : a[i]? = some (a[i]'(by omega)) := List.getElem?_eq_getElem (by omega)
    have e : at_ a (i : Int) = some (a[i]'(by omega)) := by
      unfold at_; rw [decide_eq_true (by omega), cond_true]; exact h2
    have e1 : w64 ((i : Int) + 1) = ((i + 1 : Nat) : Int) := by rw [w64_id (by omega) (by omega)]; omega
    rw [e, Option.bind_some, wr_some, Option.bind_some, e1]
    obtain ⟨s', q1, q2, q3⟩ := ih k (i + 1) (wr_ s i (a[i]'(by omega))) (by omega) (by omega) (by rw [wr_len]; exact hl)
    refine ⟨s', q1, by rw [q2, wr_len], fun j => ?_⟩
    rw [q3, wr_get]
    by_cases c : i = j
    · subst c
      rw [if_neg (by omega), if_pos ⟨rfl, by omega⟩, if_pos ⟨by omega, by omega⟩, List.getD, h2]; rfl
    · by_cases c2 : i + 1 ≤ j ∧ j < a.length
      · rw [if_pos c2, if_pos (by omega)]
      · rw [if_neg c2, if_neg (by omega), if_neg (by omega)]
theorem l3_ok (a b : List Int) (n : Nat) (hn : n ≤ 200) (c : List view_Pair_uint64) (hc : c = chgL a b n) : ∀ (m k i : Nat) (s : List Int), i + m = c.length → m < k → s.length = n → (∀ j : Nat, j < n → s.getD j 0 = if ∃ i' : Nat, i' < i ∧ ∃ e, c[i']? = some e ∧ e.At = j then rd_ b j else rd_ a j) →
    ∃ s', law05_ViewChanges.l3 a n c k (i, s) = some (Brk.nx s') ∧ s'.length = n ∧ ∀ j : Nat, j < n → s'.getD j 0 = rd_ b j := by
  intro m
  have hcl : c.length ≤ n := by rw [hc]; exact chgL_len a b n
  induction m with
  | zero =>
    intro k i s h1 hk hl hs
    obtain ⟨k, rfl⟩ : ∃ q, k = q + 1 := ⟨k - 1, by omega⟩
    unfold law05_ViewChanges.l3
    rw [decide_eq_false (by omega)]
    refine ⟨s, rfl, hl, fun j hj => ?_⟩
    rw [hs j hj]
    split
    · rfl
    · rename_i hno
      by_cases e : rd_ b j = rd_ a j
      · exact e.symm
      · exfalso
        have hm := chg_has a b n j hj e
        rw [← hc] at hm
        obtain ⟨i', hi', he⟩ := List.mem_iff_getElem.1 hm
        exact hno ⟨i', by omega, _, by rw [List.getElem?_eq_getElem hi', he], rfl⟩
  | succ m ih =>
    intro k i s h1 hk hl hs
    obtain ⟨k, rfl⟩ : ∃ q, k = q + 1 := ⟨k - 1, by omega⟩
    unfold law05_ViewChanges.l3
    rw [decide_eq_true (by omega), cond_true]
    have hi : i < c.length := by omega
    have h2 : c[i]? = some c[i] := List.getElem?_eq_getElem hi
    have e : at_ c (i : Int) = some c[i] := by
      unfold at_; rw [decide_eq_true (by omega), cond_true]; exact h2
    have e1 : w64 ((i : Int) + 1) = ((i + 1 : Nat) : Int) := by rw [w64_id (by omega) (by omega)]; omega
    obtain ⟨j0, m1, m2, m3, m4⟩ := chg_mem a b n c[i] (by rw [← hc]; exact List.getElem_mem hi)
    have hso : c.Pairwise fun x y => x.At < y.At := by rw [hc]; exact chg_sorted a b n
    have hbad : (rd_ a c[i].At == c[i].Val) = false := by rw [m1, m3]; exact beq_false_of_ne (fun q => m4 q.symm)
    simp only [e, Option.bind_some, lat_ok, hbad, e1, wr_some]
    rw [decide_eq_false (by omega), decide_eq_false (by omega)]
    simp only [cond_false]
    have hmid : (bif decide ((0 : Int) < i) then ((at_ c (w64 ((i : Int) - 1))).bind fun x33 => bif decide (c[i].At ≤ x33.At) then some true else some false) else some false) = some false := by
      by_cases c0 : i = 0
      · subst c0; rfl
      · rw [decide_eq_true (by omega), cond_true]
        have hp : i - 1 < c.length := by omega
        have e3 : w64 ((i : Int) - 1) = ((i - 1 : Nat) : Int) := by rw [w64_id (by omega) (by omega)]; omega
        have e4 : at_ c ((i - 1 : Nat) : Int) = some c[i - 1] := by
          unfold at_; rw [decide_eq_true (by omega), cond_true]; exact List.getElem?_eq_getElem hp
        rw [e3, e4, Option.bind_some]
        have := (List.pairwise_iff_getElem.1 hso) (i - 1) i hp hi (by omega)
        rw [decide_eq_false (by omega)]; rfl
    rw [hmid]
    simp only [Option.bind_some, cond_false]
    obtain ⟨s', q1, q2, q3⟩ := ih k (i + 1) (wr_ s c[i].At c[i].Val) (by omega) (by omega) (by rw [wr_len]; exact hl) (fun j hj => by
      rw [wr_get, m1, m3]
      by_cases cj : j0 = j
      · subst cj
        rw [if_pos ⟨rfl, by omega⟩, if_pos ⟨i, by omega, c[i], h2, m1⟩]
      · rw [if_neg (by omega), hs j hj]
        by_cases cx : ∃ i' : Nat, i' < i ∧ ∃ e, c[i']? = some e ∧ e.At = j
        · obtain ⟨i', z1, z2⟩ := cx
          rw [if_pos ⟨i', z1, z2⟩, if_pos ⟨i', by omega, z2⟩]
        · rw [if_neg cx, if_neg]
          rintro ⟨i', z1, e', z2, z3⟩
          rcases (by omega : i' < i ∨ i' = i) with z | rfl
          · exact cx ⟨i', z, e', z2, z3⟩
          · rw [h2] at z2; injection z2 with z2; subst z2; omega)
    exact ⟨s', q1, q2, q3⟩
theorem l5_ok (b : List Int) (n : Nat) (hn : n ≤ 200) (s : List Int) (hs : ∀ j : Nat, j < n → s.getD j 0 = rd_ b j) : ∀ (m k i : Nat), i + m = n → m < k → law05_ViewChanges.l5 b n s k i = some (Brk.nx ()) := by
  intro m
  induction m with
  | zero =>
    intro k i h1 hk
    obtain ⟨k, rfl⟩ : ∃ q, k = q + 1 := ⟨k - 1, by omega⟩
    unfold law05_ViewChanges.l5
    rw [decide_eq_false (by omega)]; rfl
  | succ m ih =>
    intro k i h1 hk
    obtain ⟨k, rfl⟩ : ∃ q, k = q + 1 := ⟨k - 1, by omega⟩
    unfold law05_ViewChanges.l5
    rw [decide_eq_true (by omega), cond_true]
    have e1 : w64 ((i : Int) + 1) = ((i + 1 : Nat) : Int) := by rw [w64_id (by omega) (by omega)]; omega
    rw [rd_some, Option.bind_some, lat_ok, Option.bind_some, rd_nat s i, hs i (by omega), e1, bne_self_eq_false]
    exact ih k (i + 1) (by omega) (by omega)
theorem ok (a0 a1 : List Int) (w0 : ∀ x ∈ a0, (Lit.int .u64 x).wf = true) (w1 : ∀ x ∈ a1, (Lit.int .u64 x).wf = true) : ∃ k, law05_ViewChanges.f k a0 a1 = some true := by
  refine ⟨1000, ?_⟩
  unfold law05_ViewChanges.f
  rw [up_ok, Option.bind_some]
  by_cases h1 : (200 : Int) < (a0.length : Int)
  · rw [decide_eq_true h1]; rfl
  by_cases h2 : (200 : Int) < (a1.length : Int)
  · rw [decide_eq_true (p := (200 : Int) < (a1.length : Int)) h2, Bool.or_true]; rfl
  rw [decide_eq_false h1, decide_eq_false h2, Bool.or_false, cond_false]
  have hM : (bif decide ((a0.length : Int) < (a1.length : Int)) then (some (a1.length : Int)) else (some (a0.length : Int))) = some ((max a0.length a1.length : Nat) : Int) := by
    by_cases c : (a0.length : Int) < (a1.length : Int)
    · rw [decide_eq_true c, cond_true]; congr 1; omega
    · rw [decide_eq_false c, cond_false]; congr 1; omega
  rw [hM, Option.bind_some]
  have hn : max a0.length a1.length ≤ 200 := by omega
  have hmk : mk_ (0 : Int) ((max a0.length a1.length : Nat) : Int) = some (List.replicate (max a0.length a1.length) 0) := by
    unfold mk_
    rw [decide_eq_true (by omega), decide_eq_true (by omega)]; rfl
  rw [hmk, Option.bind_some]
  obtain ⟨s1, q1, q2, q3⟩ := l2_ok a0 (by omega) a0.length 1000 0 (List.replicate (max a0.length a1.length) 0) (by omega) (by omega) (by simp; omega)
  rw [show ((0 : Int), List.replicate (max a0.length a1.length) (0 : Int)) = (((0 : Nat) : Int), List.replicate (max a0.length a1.length) 0) from rfl, q1, Option.bind_some, changed_ok a0 a1 (by omega) (by omega), Option.bind_some]
  obtain ⟨s2, p1, p2, p3⟩ := l3_ok a0 a1 _ hn _ rfl _ 1000 0 s1 (Nat.zero_add _) (by have := chgL_len a0 a1 (max a0.length a1.length); omega) (by rw [q2]; simp) (fun j hj => by
    rw [if_neg (by rintro ⟨i', z, _⟩; omega), q3 j, rd_nat]
    by_cases c : j < a0.length
    · rw [if_pos ⟨by omega, c⟩]
    · rw [if_neg (by omega), List.getD, List.getElem?_replicate, List.getD, List.getElem?_eq_none (by omega)]; split <;> rfl)
  rw [show ((0 : Int), s1) = (((0 : Nat) : Int), s1) from rfl, p1, Option.bind_some]
  simp only [Brk.go]
  rw [show (0 : Int) = ((0 : Nat) : Int) from rfl, l5_ok a1 _ hn s2 p3 _ 1000 0 (Nat.zero_add _) (by omega)]
  rfl

theorem own : ownKnob Try.prog.godebug = none := by kernel_rfl
theorem laidOut : laidOutB Try.prog = true := by kernel_rfl
set_option maxRecDepth 100000 in
theorem lifted (os : Os) (started : os.Started) (H : Type) (enc : TypeId × Value → H) :
    ReturnsInHanded {} Try.checked os 4 .any (Rows.viewChangesSpec.pre6 enc Try.prog Try.f4 Rows.viewChangesRow.domain false) (Rows.viewChangesSpec.post enc Try.prog Try.f4 false true false false) := by
  refine returnsInHanded_of_change (C := Try.checked) own started (by kernel_rfl) Try.func4
    (ChangeSpec.witness6 (enc := enc) (C := Try.checked) false ⟨#[], #[.slice none 0 0, .slice none 0 0], []⟩ 8 (by kernel_rfl) (by kernel_rfl) (by kernel_rfl) (by kernel_rfl)) ?_
  intro W base args ds gs before hval0 hW hcnd _
  have hval : ∀ (j : Nat) t v, Try.f4.params[j]? = some t → args[j]? = some v → Value.okWide Try.prog W .any base t v := hval0
  have hW' := hW
  obtain ⟨p, q, hA0, hV, rfl, hfz, hnd⟩ := hW
  have hA : DataW.TrodAll enc Try.prog W 0 (fun _ => true) true Try.f4.params.toList args.toList ds p := hA0
  rw [Try.params4] at hA hval
  obtain ⟨v0, vs0, d0, ds0, p0, q0, hargs, rfl, rfl, h0, r0⟩ := trodAll_cons hA
  obtain ⟨v1, vs1, d1, ds1, p1, q1, rfl, rfl, rfl, h1, r1⟩ := trodAll_cons r0
  obtain ⟨rfl, rfl, rfl⟩ := trodAll_nil r1
  obtain rfl : args = #[v0, v1] := by cases args; simp_all
  obtain ⟨rfl, rfl⟩ := trodVars_none hV
  obtain ⟨a0, r0', w0, _⟩ := open_sl (K := ekI .u64) (parse_int Try.underlying23) Try.underlying22 (by kernel_rfl) (hval 0 22 v0 rfl rfl) h0
  obtain ⟨a1, r1', w1, _⟩ := open_sl (K := ekI .u64) (parse_int Try.underlying23) Try.underlying22 (by kernel_rfl) (hval 1 22 v1 rfl rfl) h1
  obtain ⟨k, hk⟩ := ok a0 a1 w0 w1
  refine (Ct.law (law05_ViewChanges.ct _ _ _ a0 a1 _ hk) (W := W) ⟨r0', r1'⟩).mono fun e W' ⟨he, hg⟩ => ?_
  subst he
  exact ⟨_, rfl, law_post hW' laidOut (by kernel_rfl) hg (by kernel_rfl) Try.underlying4 rfl rfl⟩
theorem over : Rows.viewChangesRow.holds Try.pinned (OpenSpec.ofChange Rows.viewChangesSpec) :=
  OpenClaim.holds_of_wide 4 Try.f4 rfl rfl rfl rfl rfl rfl rfl ⟨rfl, rfl, rfl, rfl, rfl⟩ rfl rfl rfl rfl rfl (by kernel_rfl) Try.func4 (by kernel_rfl)
    (of_decide_eq_true (by kernel_rfl)) (by unfold Func.isWrapper; first | (rw [if_pos (by decide +kernel)]; kernel_rfl) | (rw [if_neg (by decide +kernel)]; exact ⟨rfl, rfl⟩))
    (fun os started H enc _ => lifted os started H enc)
theorem proved : Rows.ViewChangesSaid :=
  over
#print axioms proved
end Go.Proofs.Ytakhollbclkdkaa.viewChanges
