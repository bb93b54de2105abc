/- The given statement 'ViewOf' of the given program: whatever the input, the law answers true and the input reads as it did. On no condition. -/
import Derived.Test.YtehemplabpjbgaaFnViewOf1
import Derived.Test.YtehemplabpjbgaaFr2
import Derived.Test.YtehemplabpjbgaaPlViewOf0
import Derived.Test.YtehemplabpjbgaaRows
set_option linter.all false
namespace Go.Proofs.Ytehemplabpjbgaa.viewOf
open Go.ChangeShapes Go.WideShapes Go.ChangeAt Go.RowKit Go.Sl

open Go.Proofs
theorem up_ok : law05_up.f = some true := by decide +kernel
theorem at_nat {α : Type} {l : List α} {i : Nat} (h : i < l.length) : at_ l (i : Int) = some l[i] := by
  unfold at_; rw [decide_eq_true (by omega), cond_true]; exact List.getElem?_eq_getElem h
theorem l1_ok (keys vals : List Int) (hw : ∀ x ∈ keys, (Lit.int .i64 x).wf = true) (h1 : keys.length ≤ 100) (h2 : keys.length ≤ vals.length) : ∀ (n k i : Nat) (l : List (Int × Int)), i + n = keys.length → n < k → MOk l → l.length ≤ i → ∃ l', law05_ViewOf.l1 keys vals k (i, some l) = some (some l') ∧ MOk l' ∧ l'.length ≤ 100 := by
  intro n
  induction n with
  | zero =>
    intro k i l e hk hm hl
    obtain ⟨k, rfl⟩ : ∃ q, k = q + 1 := ⟨k - 1, by omega⟩
    unfold law05_ViewOf.l1
    rw [decide_eq_false (by omega)]
    exact ⟨l, rfl, hm, by omega⟩
  | succ n ih =>
    intro k i l e hk hm hl
    obtain ⟨k, rfl⟩ : ∃ q, k = q + 1 := ⟨k - 1, by omega⟩
    unfold law05_ViewOf.l1
    have e1 : w64 ((i : Int) + 1) = ((i + 1 : Nat) : Int) := by rw [w64_id (by omega) (by omega)]; omega
    rw [decide_eq_true (by omega), cond_true, at_nat (by omega : i < keys.length), Option.bind_some, at_nat (by omega : i < vals.length), Option.bind_some, e1]
    have hp : mputO (some l) keys[i] vals[i] = some (some (mset l keys[i] vals[i])) := by
      simp only [mputO, Option.bind_some, mput, hw _ (List.getElem_mem _), Bool.true_and]
      rw [decide_eq_true (by omega)]; rfl
    rw [hp, Option.bind_some]
    exact ih k (i + 1) _ (by omega) (by omega) (hm.set _ _) (by have := mset_len l keys[i] vals[i]; omega)
theorem of_l1 (l : List (Int × Int)) (ys : List Int) (hy : ys.length ≤ 100) : ∀ (n k i : Nat) (acc : List view_Pair_int), i + n = ys.length → n < k → acc = (ys.take i).map (fun j => ⟨j, (mfind l j).getD 0⟩) → view_Of_int.l1 (some l) ys k (i, acc) = some (ys.map fun j => ⟨j, (mfind l j).getD 0⟩) := by
  intro n
  induction n with
  | zero =>
    intro k i acc e hk ha
    obtain ⟨k, rfl⟩ : ∃ q, k = q + 1 := ⟨k - 1, by omega⟩
    unfold view_Of_int.l1
    rw [decide_eq_false (by omega), cond_false, ha, List.take_of_length_le (by omega)]
  | succ n ih =>
    intro k i acc e hk ha
    obtain ⟨k, rfl⟩ : ∃ q, k = q + 1 := ⟨k - 1, by omega⟩
    unfold view_Of_int.l1
    have hi : i < ys.length := by omega
    have e1 : w64 ((i : Int) + 1) = ((i + 1 : Nat) : Int) := by rw [w64_id (by omega) (by omega)]; omega
    rw [decide_eq_true (by omega), cond_true, at_nat hi, Option.bind_some, e1]
    simp only [lk1, mfindO, Option.bind_some]
    have happ : app acc [(⟨ys[i], (mfind l ys[i]).getD 0⟩ : view_Pair_int)] = some (acc ++ [⟨ys[i], (mfind l ys[i]).getD 0⟩]) := by
      have hl : acc.length ≤ 100 := by rw [ha, List.length_map, List.length_take]; omega
      have e9 : acc.length + ([(⟨ys[i], (mfind l ys[i]).getD 0⟩ : view_Pair_int)] : List view_Pair_int).length ≤ 4294967296 := by simp; omega
      unfold app
      rw [decide_eq_true e9]; rfl
    rw [happ, Option.bind_some]
    refine ih k (i + 1) _ (by omega) (by omega) ?_
    rw [List.take_succ_eq_append_getElem hi, List.map_append, ha]; rfl
theorem of_ok (l : List (Int × Int)) (hl : l.length ≤ 100) (k : Nat) (hk : 200 < k) : view_Of_int.f k (some l) = some ((skeys l).map (fun j => ⟨j, (mfind l j).getD 0⟩), some l) := by
  unfold view_Of_int.f
  rw [show skeysO (some l) = some (skeys l) from rfl, Option.bind_some]
  rw [show ((0 : Int), ([] : List view_Pair_int)) = (((0 : Nat) : Int), []) from rfl, of_l1 l (skeys l) (by rw [skeys_len]; exact hl) (skeys l).length k 0 [] (Nat.zero_add _) (by rw [skeys_len]; omega) rfl]
  rfl
theorem l2_ok (l : List (Int × Int)) (hm : MOk l) (hl : l.length ≤ 100) (t : List view_Pair_int) (ht : t = (skeys l).map (fun j => ⟨j, (mfind l j).getD 0⟩)) : ∀ (n k i : Nat), i + n = t.length → n < k → law05_ViewOf.l2 t (some l) k i = some (Brk.nx ()) := by
  intro n
  have htl : t.length ≤ 100 := by rw [ht, List.length_map, skeys_len]; exact hl
  induction n with
  | zero =>
    intro k i e hk
    obtain ⟨k, rfl⟩ : ∃ q, k = q + 1 := ⟨k - 1, by omega⟩
    unfold law05_ViewOf.l2
    rw [decide_eq_false (by omega)]; rfl
  | succ n ih =>
    intro k i e hk
    obtain ⟨k, rfl⟩ : ∃ q, k = q + 1 := ⟨k - 1, by omega⟩
    unfold law05_ViewOf.l2
    have hi : i < t.length := by omega
    have hs : ∀ q (hq : q < t.length), ∃ (hq' : q < (skeys l).length), t[q].At = (skeys l)[q] ∧ t[q].Val = (mfind l (skeys l)[q]).getD 0 := fun q hq => by
      subst ht
      rw [List.length_map] at hq
      exact ⟨hq, by simp, by simp⟩
    obtain ⟨hi', a1, a2⟩ := hs i hi
    have e1 : w64 ((i : Int) + 1) = ((i + 1 : Nat) : Int) := by rw [w64_id (by omega) (by omega)]; omega
    obtain ⟨v, hv⟩ := (skeys_mem l (skeys l)[i]).1 (List.getElem_mem hi')
    have hv2 : t[i].Val = v := by rw [a2, hv]; rfl
    have hv3 : mfind l t[i].At = some v := by rw [a1, hv]
    rw [decide_eq_true (by omega), cond_true]
    have hmid : (bif decide ((0 : Int) < i) then ((some t[i]).bind fun x31 => (at_ t (w64 ((i : Int) - 1))).bind fun x33 => some (decide (x31.At ≤ x33.At))) else (some false)) = some false := by
      by_cases c : i = 0
      · subst c; rfl
      · have e3 : w64 ((i : Int) - 1) = ((i - 1 : Nat) : Int) := by rw [w64_id (by omega) (by omega)]; omega
        rw [decide_eq_true (by omega), cond_true, e3, at_nat (by omega : i - 1 < t.length), Option.bind_some, Option.bind_some]
        obtain ⟨hj', b1, _⟩ := hs (i - 1) (by omega)
        have := (List.pairwise_iff_getElem.1 (skeys_sorted hm)) (i - 1) i hj' hi' (by omega)
        rw [a1, b1, decide_eq_false (by omega)]
    have hb : (v != t[i].Val) = false := by rw [hv2]; exact bne_self_eq_false _
    simp only [at_nat hi, Option.bind_some, lkO, mfindO, hv3, Option.getD_some, Option.isSome_some, Bool.not_true, cond_false, hb, e1] at hmid ⊢
    rw [hmid]
    exact ih k (i + 1) (by omega) (by omega)
theorem ok (a0 a1 : List Int) (w0 : ∀ x ∈ a0, (Lit.int .i64 x).wf = true) (w1 : ∀ x ∈ a1, (Lit.int .i64 x).wf = true) : ∃ k, law05_ViewOf.f k a0 a1 = some true := by
  refine ⟨1000, ?_⟩
  unfold law05_ViewOf.f
  rw [up_ok, Option.bind_some]
  by_cases h1 : (100 : Int) < (a0.length : Int)
  · rw [decide_eq_true h1]; rfl
  by_cases h2 : (a1.length : Int) < (a0.length : Int)
  · rw [decide_eq_true h2, Bool.or_true]; rfl
  rw [decide_eq_false h1, decide_eq_false h2, Bool.or_false, cond_false]
  obtain ⟨l, q1, q2, q3⟩ := l1_ok a0 a1 w0 (by omega) (by omega) a0.length 1000 0 [] (Nat.zero_add _) (by omega) MOk.nil (by simp)
  rw [show ((0 : Int), (some [] : Option (List (Int × Int)))) = (((0 : Nat) : Int), some []) from rfl, q1, Option.bind_some, of_ok l q3 1000 (by omega), Option.bind_some]
  have hlen : (((skeys l).map (fun j => (⟨j, (mfind l j).getD 0⟩ : view_Pair_int))).length : Int) = mlenO (some l) := by
    rw [List.length_map, skeys_len]; rfl
  dsimp only
  rw [hlen, bne_self_eq_false, cond_false]
  have h9 := l2_ok l q2 q3 _ rfl _ 1000 0 (Nat.zero_add _) (by rw [List.length_map, skeys_len]; omega)
  rw [show ((0 : Nat) : Int) = 0 from rfl] at h9
  rw [h9]
  rfl

theorem own : ownKnob Try.prog.godebug = none := by kernel_rfl
theorem laidOut : laidOutB Try.prog = true := by kernel_rfl
set_option maxRecDepth 100000 in
theorem lifted (os : Os) (started : os.Started) (H : Type) (enc : TypeId × Value → H) :
    ReturnsInHanded {} Try.checked os 3 .any (Rows.viewOfSpec.pre6 enc Try.prog Try.f3 Rows.viewOfRow.domain false) (Rows.viewOfSpec.post enc Try.prog Try.f3 false true false false) := by
  refine returnsInHanded_of_change (C := Try.checked) own started (by kernel_rfl) Try.func3
    (ChangeSpec.witness6 (enc := enc) (C := Try.checked) false ⟨#[], #[.slice none 0 0, .slice none 0 0], []⟩ 8 (by kernel_rfl) (by kernel_rfl) (by kernel_rfl) (by kernel_rfl)) ?_
  intro W base args ds gs before hval0 hW hcnd _
  have hval : ∀ (j : Nat) t v, Try.f3.params[j]? = some t → args[j]? = some v → Value.okWide Try.prog W .any base t v := hval0
  have hW' := hW
  obtain ⟨p, q, hA0, hV, rfl, hfz, hnd⟩ := hW
  have hA : DataW.TrodAll enc Try.prog W 0 (fun _ => true) true Try.f3.params.toList args.toList ds p := hA0
  rw [Try.params3] at hA hval
  obtain ⟨v0, vs0, d0, ds0, p0, q0, hargs, rfl, rfl, h0, r0⟩ := trodAll_cons hA
  obtain ⟨v1, vs1, d1, ds1, p1, q1, rfl, rfl, rfl, h1, r1⟩ := trodAll_cons r0
  obtain ⟨rfl, rfl, rfl⟩ := trodAll_nil r1
  obtain rfl : args = #[v0, v1] := by cases args; simp_all
  obtain ⟨rfl, rfl⟩ := trodVars_none hV
  obtain ⟨a0, r0', w0, _⟩ := open_sl (K := ekI .i64) (parse_int Try.underlying3) Try.underlying22 (by kernel_rfl) (hval 0 22 v0 rfl rfl) h0
  obtain ⟨a1, r1', w1, _⟩ := open_sl (K := ekI .i64) (parse_int Try.underlying3) Try.underlying22 (by kernel_rfl) (hval 1 22 v1 rfl rfl) h1
  obtain ⟨k, hk⟩ := ok a0 a1 w0 w1
  refine (Ct.law (law05_ViewOf.ct _ _ _ a0 a1 _ hk) (W := W) ⟨r0', r1'⟩).mono fun e W' ⟨he, hg⟩ => ?_
  subst he
  exact ⟨_, rfl, law_post hW' laidOut (by kernel_rfl) hg (by kernel_rfl) Try.underlying4 rfl rfl⟩
theorem over : Rows.viewOfRow.holds Try.pinned (OpenSpec.ofChange Rows.viewOfSpec) :=
  OpenClaim.holds_of_wide 3 Try.f3 rfl rfl rfl rfl rfl rfl rfl ⟨rfl, rfl, rfl, rfl, rfl⟩ rfl rfl rfl rfl rfl (by kernel_rfl) Try.func3 (by kernel_rfl)
    (of_decide_eq_true (by kernel_rfl)) (by unfold Func.isWrapper; first | (rw [if_pos (by decide +kernel)]; kernel_rfl) | (rw [if_neg (by decide +kernel)]; exact ⟨rfl, rfl⟩))
    (fun os started H enc _ => lifted os started H enc)
theorem proved : Rows.ViewOfSaid :=
  over
#print axioms proved
end Go.Proofs.Ytehemplabpjbgaa.viewOf
