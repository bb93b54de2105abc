/- The given statement 'DescSteps' of the given program: whatever the input, the law answers true and the input reads as it did. On no condition. -/
import Derived.Test.YtlglafdeponjmaaFnDescSteps3
import Derived.Test.YtlglafdeponjmaaFr2
import Derived.Test.YtlglafdeponjmaaPlDescSteps0
import Derived.Test.YtlglafdeponjmaaRows
set_option linter.all false
namespace Go.Proofs.Ytlglafdeponjmaa.descSteps
open Go.ChangeShapes Go.WideShapes Go.ChangeAt Go.RowKit Go.Sl
def wf_tx_Entry (x : tx_Entry) : Prop := (fits .i64) x.Cell ∧ (fits .u32) x.Version ∧ (fits .u64) x.Old ∧ (fits .u64) x.New ∧ (fun _ => True) x.Write
theorem pa_tx_Entry : Parse Try.prog 53 (fun x : tx_Entry => [.int .i64 x.Cell, .int .u32 x.Version, .int .u64 x.Old, .int .u64 x.New, .bool x.Write]) wf_tx_Entry := by
  intro H enc w base sp hd n cs x h
  obtain ⟨xs, m, -, -, hl, hx, hf⟩ := DataW.trod_struct Try.underlying53 h
  rw [show Try.prog.cellsOf 53 = 5 by kernel_rfl] at hl
  obtain ⟨a0, e0, w0⟩ := parse_field (i := 0) (o := 0) (sz := 1) hx hf (parse_int Try.underlying3) rfl rfl rfl (by kernel_rfl)
  obtain ⟨a1, e1, w1⟩ := parse_field (i := 1) (o := 1) (sz := 1) hx hf (parse_int Try.underlying22) rfl rfl rfl (by kernel_rfl)
  obtain ⟨a2, e2, w2⟩ := parse_field (i := 2) (o := 2) (sz := 1) hx hf (parse_int Try.underlying51) rfl rfl rfl (by kernel_rfl)
  obtain ⟨a3, e3, w3⟩ := parse_field (i := 3) (o := 3) (sz := 1) hx hf (parse_int Try.underlying51) rfl rfl rfl (by kernel_rfl)
  obtain ⟨a4, e4, w4⟩ := parse_field (i := 4) (o := 4) (sz := 1) hx hf (parse_bool Try.underlying4) rfl rfl rfl (by kernel_rfl)
  clear hf hx h
  match cs, hl with
  | [c0, c1, c2, c3, c4], _ =>
    simp at e0 e1 e2 e3 e4
    subst e0 e1 e2 e3 e4
    exact ⟨⟨a0, a1, a2, a3, a4⟩, rfl, w0, w1, w2, w3, w4⟩

open Go.Proofs
theorem app1 {α : Type} (l : List α) (x : α) (h : l.length < 1000000) : app l [x] = some (l ++ [x]) := by
  have e9 : l.length + [x].length ≤ 4294967296 := by simp; omega
  unfold app; rw [decide_eq_true e9]; rfl
theorem app0 {α : Type} (l : List α) (h : l.length < 1000000) : app [] l = some l := by
  have e9 : ([] : List α).length + l.length ≤ 4294967296 := by simp; omega
  unfold app; rw [decide_eq_true e9]; rfl
theorem w64n {i : Nat} (h : i < 1000000) : w64 ((i : Int) + 1) = ((i + 1 : Nat) : Int) := by rw [w64_id (by omega) (by omega)]; omega
theorem as_ok (l : List tx_Entry) (hl : l.length ≤ 30) (k : Nat) (hk : 40 < k) : law07_as.f k l = some (l.map convE) := by
  have key : ∀ (n k i : Nat) (acc : List ref07_Entry), i + n = l.length → n < k → acc = (l.take i).map convE → law07_as.l1 l k (i, acc) = some (l.map convE) := by
    intro n
    induction n with
    | zero =>
      intro k i acc e hk ha
      obtain ⟨k, rfl⟩ : ∃ q, k = q + 1 := ⟨k - 1, by omega⟩
      unfold law07_as.l1
      rw [decide_eq_false (by omega), cond_false, ha, List.take_of_length_le (by omega)]
    | succ n ih =>
      intro k i acc e hk ha
      obtain ⟨k, rfl⟩ : ∃ q, k = q + 1 := ⟨k - 1, by omega⟩
      unfold law07_as.l1
      have hi : i < l.length := by omega
      have hal : acc.length ≤ 30 := by rw [ha, List.length_map, List.length_take]; omega
      rw [decide_eq_true (by omega), cond_true]
      simp only [atn hi, Option.bind_some, w64n (by omega : i < 1000000)]
      rw [app1 _ _ (by omega), Option.bind_some]
      refine ih k (i + 1) _ (by omega) (by omega) ?_
      rw [List.take_succ_eq_append_getElem hi, List.map_append, ha]; rfl
  unfold law07_as.f
  rw [show ((0 : Int), ([] : List ref07_Entry)) = (((0 : Nat) : Int), []) from rfl, key l.length k 0 [] (Nat.zero_add _) (by omega) rfl]; rfl
theorem same_ok (L : List api_Cell) (lim : Int) (hl : L.length ≤ 30) (k : Nat) (hk : 40 < k) : law07_same.f k ⟨L, lim⟩ ⟨L, lim⟩ = some true := by
  have key : ∀ (n k i : Nat), i + n = L.length → n < k → law07_same.l1 ⟨L, lim⟩ ⟨L, lim⟩ k i = some (Brk.nx ()) := by
    intro n
    induction n with
    | zero =>
      intro k i e hk
      obtain ⟨k, rfl⟩ : ∃ q, k = q + 1 := ⟨k - 1, by omega⟩
      unfold law07_same.l1
      rw [decide_eq_false (by dsimp only; omega)]; rfl
    | succ n ih =>
      intro k i e hk
      obtain ⟨k, rfl⟩ : ∃ q, k = q + 1 := ⟨k - 1, by omega⟩
      unfold law07_same.l1
      have hi : i < L.length := by omega
      rw [decide_eq_true (by dsimp only; omega), cond_true, read_in lim (atn hi)]
      simp only [Option.bind_some, Option.isSome_none, cond_false, atn hi, decide_true, Bool.not_true, w64n (by omega : i < 1000000)]
      exact ih k (i + 1) (by omega) (by omega)
  unfold law07_same.f
  have := key L.length k 0 (Nat.zero_add _) (by omega)
  rw [show ((0 : Nat) : Int) = 0 from rfl] at this
  rw [this]; rfl
/-- All descriptors, beside the cells. -/
structure Al (lim : Int) (ds : List desc_Desc) (L : List api_Cell) : Prop where
  nr : ∀ (i : Nat) d, ds[i]? = some d → d.mark = i + 1
  di : ∀ (i : Nat) d, ds[i]? = some d → DI lim d L
theorem Al.step {lim : Int} {ds : List desc_Desc} {L : List api_Cell} (h : Al lim ds L) {i : Nat} {d : desc_Desc} (hd : ds[i]? = some d) : Al lim (ds.set i (dstep lim d L).2.1) (dstep lim d L).2.2 := by
  have hi : i < ds.length := (List.getElem?_eq_some_iff.1 hd).1
  refine ⟨fun j e he => ?_, fun j e he => ?_⟩
  · rw [List.getElem?_set] at he
    by_cases c : i = j
    · subst c; rw [if_pos rfl, if_pos hi] at he; injection he with he; subst he; rw [(dstep_keeps lim d L).1]; exact h.nr i d hd
    · rw [if_neg c] at he; exact h.nr j e he
  · rw [List.getElem?_set] at he
    by_cases c : i = j
    · subst c; rw [if_pos rfl, if_pos hi] at he; injection he with he; subst he; exact (h.di i d hd).step
    · rw [if_neg c] at he
      refine (h.di j e he).frame ?_ (dstep_fr lim d L)
      have := h.nr i d hd
      have := h.nr j e he
      omega
theorem l1_ok (l : List (List tx_Entry)) (h5 : l.length ≤ 5) (lim : Int) (L : List api_Cell) : ∀ (n k i : Nat) (ds : List desc_Desc), i + n = l.length → n + 100 < k → ds.length = i → Al lim ds L →
    law07_DescSteps.l1 l true k (i, ds.map asR, ds) = some (Brk.ret true) ∨ ∃ ds', law07_DescSteps.l1 l true k (i, ds.map asR, ds) = some (Brk.nx (ds', ds'.map asR)) ∧ ds'.length = l.length ∧ Al lim ds' L := by
  intro n
  induction n with
  | zero =>
    intro k i ds e hk hl h
    obtain ⟨k, rfl⟩ : ∃ q, k = q + 1 := ⟨k - 1, by omega⟩
    unfold law07_DescSteps.l1
    rw [decide_eq_false (by omega)]
    exact .inr ⟨ds, rfl, by omega, h⟩
  | succ n ih =>
    intro k i ds e hk hl h
    obtain ⟨k, rfl⟩ : ∃ q, k = q + 1 := ⟨k - 1, by omega⟩
    unfold law07_DescSteps.l1
    have hi : i < l.length := by omega
    rw [decide_eq_true (by omega), cond_true]
    simp only [atn hi, Option.bind_some, w64n (by omega : i < 1000000)]
    by_cases c : (30 : Int) < (l[i].length : Int)
    · rw [decide_eq_true c, cond_true]; exact .inl rfl
    · have hnew : desc_New.f ((i + 1 : Nat) : Int) l[i] = some ⟨((i + 1 : Nat) : Int), l[i], 0, 0⟩ := by
        unfold desc_New.f
        have : slices_Clone_tx_Entry_tx_Entry.f l[i] = some l[i] := app0 _ (by omega)
        rw [this]; rfl
      rw [decide_eq_false c, cond_false, hnew, Option.bind_some, app1 ds _ (by omega), Option.bind_some, as_ok _ (by omega) k (by omega), Option.bind_some, app1 _ _ (by rw [List.length_map]; omega), Option.bind_some]
      have hm : ds.map asR ++ [(⟨((i + 1 : Nat) : Int), l[i].map convE, 0, 0⟩ : ref07_Desc)] = (ds ++ [(⟨((i + 1 : Nat) : Int), l[i], 0, 0⟩ : desc_Desc)]).map asR := by rw [List.map_append]; rfl
      rw [hm]
      refine ih k (i + 1) (ds ++ [⟨((i + 1 : Nat) : Int), l[i], 0, 0⟩]) (by omega) (by omega) (by simp [hl]) (Al.mk (fun j d hd => ?_) (fun j d hd => ?_))
      all_goals
        by_cases hj : j < ds.length
        · rw [List.getElem?_append_left hj] at hd
          first | exact h.nr j d hd | exact h.di j d hd
        · have hj' : j < (ds ++ [(⟨((i + 1 : Nat) : Int), l[i], 0, 0⟩ : desc_Desc)]).length := (List.getElem?_eq_some_iff.1 hd).1
          have : j = i := by simp at hj'; omega
          subst this
          rw [List.getElem?_append_right (by omega), show j - ds.length = 0 by omega] at hd
          injection hd with hd; subst hd
          first
          | (show ((j + 1 : Nat) : Int) = _; omega)
          | exact ⟨by show (1 : Int) ≤ ((j + 1 : Nat) : Int); omega, Int.le_refl _, by show (0 : Int) ≤ _; omega, by show l[j].length ≤ _; omega, .inl rfl, fun _ q e' hq _ => by (have hq0 : (q : Int) < 0 := hq; omega), fun z => by cases z⟩
theorem tmod_b (a : Int) {b : Int} (hb : 0 < b) : -b < a.tmod b ∧ a.tmod b < b := by
  by_cases h : 0 ≤ a
  · rw [Int.tmod_eq_emod_of_nonneg h]
    have := Int.emod_nonneg a (by omega : b ≠ 0)
    have := Int.emod_lt_of_pos a hb
    omega
  · have e : a.tmod b = -((-a).tmod b) := by rw [Int.neg_tmod, Int.neg_neg]
    rw [e, Int.tmod_eq_emod_of_nonneg (by omega : 0 ≤ -a)]
    have := Int.emod_nonneg (-a) (by omega : b ≠ 0)
    have := Int.emod_lt_of_pos (-a) hb
    omega
theorem l2_ok (l : List (List tx_Entry)) (h5 : 1 ≤ l.length ∧ l.length ≤ 5) (steps : List Int) (hsw : ∀ x ∈ steps, (Lit.int .i64 x).wf = true) (h200 : steps.length ≤ 200) (lim : Int) (cells : Nat) (h30 : cells ≤ 30) : ∀ (n k i : Nat) (L : List api_Cell) (ds : List desc_Desc), i + n = steps.length → n + 100 < k → ds.length = l.length → L.length = cells → Al lim ds L →
    ∃ r, law07_DescSteps.l2 l steps k (i, L, lim, L, lim, ds, ds.map asR) = some (Brk.nx r) := by
  intro n
  induction n with
  | zero =>
    intro k i L ds e hk hl hL h
    obtain ⟨k, rfl⟩ : ∃ q, k = q + 1 := ⟨k - 1, by omega⟩
    unfold law07_DescSteps.l2
    rw [decide_eq_false (by omega)]
    exact ⟨_, rfl⟩
  | succ n ih =>
    intro k i L ds e hk hl hL h
    obtain ⟨k, rfl⟩ : ∃ q, k = q + 1 := ⟨k - 1, by omega⟩
    unfold law07_DescSteps.l2
    have hi : i < steps.length := by omega
    rw [decide_eq_true (by omega), cond_true]
    simp only [atn hi, Option.bind_some, w64n (by omega : i < 1000000)]
    rw [show chk (decide ((l.length : Int) ≠ 0)) = some () by rw [decide_eq_true (by omega)]; rfl, Option.bind_some]
    -- which one
    have hj : ∃ j : Nat, j < l.length ∧ (bif decide ((steps[i].tmod (l.length : Int)) < 0) then (some (w64 (0 - (steps[i].tmod (l.length : Int))))) else (some (steps[i].tmod (l.length : Int)))) = some (j : Int) := by
      obtain ⟨t1, t2⟩ := tmod_b steps[i] (b := (l.length : Int)) (by omega)
      by_cases c : steps[i].tmod (l.length : Int) < 0
      · rw [decide_eq_true c, cond_true, w64_id (by omega) (by omega)]
        exact ⟨(0 - steps[i].tmod (l.length : Int)).toNat, by omega, by congr 1; omega⟩
      · rw [decide_eq_false c, cond_false]
        exact ⟨(steps[i].tmod (l.length : Int)).toNat, by omega, by congr 1; omega⟩
    obtain ⟨j, hj1, hj2⟩ := hj
    have hjd : j < ds.length := by omega
    have hget : ds[j]? = some ds[j] := List.getElem?_eq_getElem hjd
    have hdi := h.di j _ hget
    have hmk := h.nr j _ hget
    have hmap : at_ (ds.map asR) (j : Int) = some (asR ds[j]) := by rw [at_map, atn hjd]; rfl
    have hnext := h.step hget
    have hdi2 := hdi.step
    have hkeep := dstep_keeps lim ds[j] L
    have hlen2 : (dstep lim ds[j] L).2.2.length = cells := (dstep_fr lim ds[j] L).1.trans hL
    rw [hj2, Option.bind_some, atn hjd, Option.bind_some, hmap, Option.bind_some, step_ok hdi, Option.bind_some, rstep_ok hdi, Option.bind_some]
    generalize dstep lim ds[j] L = st at *
    obtain ⟨r, d', L'⟩ := st
    dsimp only at *
    rw [bne_self_eq_false, cond_false]
    unfold desc_Desc_Status.f desc_Desc_Mark.f
    rw [Option.bind_some, show (asR d').Status = d'.status from rfl, bne_self_eq_false, cond_false, over_ok hdi2, Option.bind_some, rover_ok hdi2, Option.bind_some, bne_self_eq_false, cond_false, Option.bind_some, hkeep.1, hmk, w64n (by omega : j < 1000000)]
    have : (((j : Int) + 1) != ((j + 1 : Nat) : Int)) = false := by simp
    rw [this, cond_false, same_ok L' lim (by omega) k (by omega), Option.bind_some]
    simp only [Option.bind_some, Bool.not_true, cond_false]
    have e2 : (⟨(j : Int) + 1, d'.l, d'.status, d'.at_⟩ : desc_Desc) = d' := by rw [← hmk, ← hkeep.1]
    have e3 : (ds.map asR).set (j : Int).toNat (⟨d'.mark, (asR d').L, d'.status, (asR d').At⟩ : ref07_Desc) = (ds.set j d').map asR := by rw [List.map_set]; rfl
    rw [show (asR d').Mark = d'.mark from rfl, e2, e3, Int.toNat_natCast]
    have := ih k (i + 1) L' (ds.set j d') (by omega) (by omega) (by rw [List.length_set]; exact hl) hlen2 hnext
    exact this
theorem ok (a0 a1 : Int) (a2 : List (List tx_Entry)) (a3 : List Int) (w0 : fits .i64 a0) (w1 : fits .u32 a1) (w3 : ∀ x ∈ a3, (Lit.int .i64 x).wf = true) : ∃ k, law07_DescSteps.f k a0 a1 a2 a3 = some true := by
  refine ⟨1000, ?_⟩
  unfold law07_DescSteps.f
  rw [show law07_up.f = some true by decide +kernel, Option.bind_some]
  by_cases hg : a0 < 1 ∨ 30 < a0 ∨ a1 < 1 ∨ (a2.length : Int) < 1 ∨ (5 : Int) < a2.length ∨ (200 : Int) < a3.length
  · have : ((((((decide (a0 < 1)) || (decide (30 < a0))) || (decide (a1 < 1))) || (decide ((a2.length : Int) < 1))) || (decide (5 < (a2.length : Int)))) || (decide (200 < (a3.length : Int)))) = true := by
      rcases hg with h | h | h | h | h | h <;> simp [h]
    rw [this]; rfl
  have : ((((((decide (a0 < 1)) || (decide (30 < a0))) || (decide (a1 < 1))) || (decide ((a2.length : Int) < 1))) || (decide (5 < (a2.length : Int)))) || (decide (200 < (a3.length : Int)))) = false := by
    rw [decide_eq_false (by omega), decide_eq_false (by omega), decide_eq_false (by omega), decide_eq_false (by omega), decide_eq_false (by omega), decide_eq_false (by omega)]; rfl
  rw [this, cond_false]
  have hmk : mk_ (⟨0, 0, 0⟩ : api_Cell) a0 = some (List.replicate a0.toNat ⟨0, 0, 0⟩) := by
    unfold mk_; rw [decide_eq_true (by omega), decide_eq_true (by omega)]; rfl
  have hnew : word_New.f a0 a1 = some (some ⟨List.replicate a0.toNat ⟨0, 0, 0⟩, a1⟩, none) := by
    unfold word_New.f
    rw [decide_eq_false (by omega), decide_eq_false (by omega), decide_eq_false (by omega), hmk]; rfl
  rw [hnew, Option.bind_some]
  simp only [oE, Option.isSome_none, cond_false, hmk, Option.bind_some]
  have hAl : Al a1 ([] : List desc_Desc) (List.replicate a0.toNat ⟨0, 0, 0⟩) := ⟨fun i d h => by simp at h, fun i d h => by simp at h⟩
  have h1 := l1_ok a2 (by omega) a1 (List.replicate a0.toNat ⟨0, 0, 0⟩) a2.length 1000 0 [] (Nat.zero_add _) (by omega) rfl hAl
  rw [show ((0 : Nat) : Int) = 0 from rfl] at h1
  rcases h1 with h1 | ⟨ds, h1, h2, h3⟩
  · rw [show ([] : List desc_Desc).map asR = [] from rfl] at h1
    rw [h1]; rfl
  · rw [show ([] : List desc_Desc).map asR = [] from rfl] at h1
    rw [h1, Option.bind_some]
    obtain ⟨r, hr⟩ := l2_ok a2 (by omega) a3 w3 (by omega) a1 a0.toNat (by omega) a3.length 1000 0 _ ds (Nat.zero_add _) (by omega) h2 (by simp) h3
    rw [show ((0 : Nat) : Int) = 0 from rfl] at hr
    simp only [Brk.go]
    rw [hr]; rfl

theorem own : ownKnob Try.prog.godebug = none := by kernel_rfl
theorem laidOut : laidOutB Try.prog = true := by kernel_rfl
set_option maxRecDepth 100000 in
theorem lifted (os : Os) (started : os.Started) (H : Type) (enc : TypeId × Value → H) :
    ReturnsInHanded {} Try.checked os 3 .any (Rows.descStepsSpec.pre6 enc Try.prog Try.f3 Rows.descStepsRow.domain false) (Rows.descStepsSpec.post enc Try.prog Try.f3 false true false false) := by
  refine returnsInHanded_of_change (C := Try.checked) own started (by kernel_rfl) Try.func3
    (ChangeSpec.witness6 (enc := enc) (C := Try.checked) false ⟨#[], #[.int .i64 0, .int .u32 0, .slice none 0 0, .slice none 0 0], []⟩ 8 (by kernel_rfl) (by kernel_rfl) (by kernel_rfl) (by kernel_rfl)) ?_
  intro W base args ds gs before hval0 hW hcnd _
  have hval : ∀ (j : Nat) t v, Try.f3.params[j]? = some t → args[j]? = some v → Value.okWide Try.prog W .any base t v := hval0
  have hW' := hW
  obtain ⟨p, q, hA0, hV, rfl, hfz, hnd⟩ := hW
  have hA : DataW.TrodAll enc Try.prog W 0 (fun _ => true) true Try.f3.params.toList args.toList ds p := hA0
  rw [Try.params3] at hA hval
  obtain ⟨v0, vs0, d0, ds0, p0, q0, hargs, rfl, rfl, h0, r0⟩ := trodAll_cons hA
  obtain ⟨v1, vs1, d1, ds1, p1, q1, rfl, rfl, rfl, h1, r1⟩ := trodAll_cons r0
  obtain ⟨v2, vs2, d2, ds2, p2, q2, rfl, rfl, rfl, h2, r2⟩ := trodAll_cons r1
  obtain ⟨v3, vs3, d3, ds3, p3, q3, rfl, rfl, rfl, h3, r3⟩ := trodAll_cons r2
  obtain ⟨rfl, rfl, rfl⟩ := trodAll_nil r3
  obtain rfl : args = #[v0, v1, v2, v3] := by cases args; simp_all
  obtain ⟨rfl, rfl⟩ := trodVars_none hV
  obtain ⟨a0, rfl, rfl, rfl, w0⟩ := open_int Try.underlying3 (hval 0 3 v0 rfl rfl) h0
  obtain ⟨a1, rfl, rfl, rfl, w1⟩ := open_int Try.underlying22 (hval 1 22 v1 rfl rfl) h1
  obtain ⟨a2, r2'⟩ := open_sl2 (K := ek_tx_Entry) pa_tx_Entry Try.underlying23 Try.underlying37 (by kernel_rfl) (by kernel_rfl) (hval 2 23 v2 rfl rfl) h2
  obtain ⟨a3, r3', w3, _⟩ := open_sl (K := ekI .i64) (parse_int Try.underlying3) Try.underlying24 (by kernel_rfl) (hval 3 24 v3 rfl rfl) h3
  obtain ⟨k, hk⟩ := ok a0 a1 a2 a3 w0 w1 w3
  refine (Ct.law (law07_DescSteps.ct _ _ _ a0 a1 a2 a3 _ hk) (W := W) ⟨r2', r3'⟩).mono fun e W' ⟨he, hg⟩ => ?_
  subst he
  exact ⟨_, rfl, law_post hW' laidOut (by kernel_rfl) hg (by kernel_rfl) Try.underlying4 rfl rfl⟩
theorem over : Rows.descStepsRow.holds Try.pinned (OpenSpec.ofChange Rows.descStepsSpec) :=
  OpenClaim.holds_of_wide 3 Try.f3 rfl rfl rfl rfl rfl rfl rfl ⟨rfl, rfl, rfl, rfl, rfl⟩ rfl rfl rfl rfl rfl (by kernel_rfl) Try.func3 (by kernel_rfl)
    (of_decide_eq_true (by kernel_rfl)) (by unfold Func.isWrapper; first | (rw [if_pos (by decide +kernel)]; kernel_rfl) | (rw [if_neg (by decide +kernel)]; exact ⟨rfl, rfl⟩))
    (fun os started H enc _ => lifted os started H enc)
theorem proved : Rows.DescStepsSaid :=
  over
#print axioms proved
end Go.Proofs.Ytlglafdeponjmaa.descSteps
