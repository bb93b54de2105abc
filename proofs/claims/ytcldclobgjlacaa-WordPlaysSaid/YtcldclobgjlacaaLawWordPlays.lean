/- The given statement 'WordPlays' of the given program: whatever the input, the law answers true and the input reads as it did. On no condition. -/
import Derived.Test.YtcldclobgjlacaaFnWordPlays1
import Derived.Test.YtcldclobgjlacaaFr1
import Derived.Test.YtcldclobgjlacaaPlWordPlays0
import Derived.Test.YtcldclobgjlacaaFnWordPlays0
import Derived.Test.YtcldclobgjlacaaRows
set_option linter.all false
namespace Go.Proofs.Ytcldclobgjlacaa.wordPlays
open Go.ChangeShapes Go.WideShapes Go.ChangeAt Go.RowKit Go.Sl
def wf_law01_Deed (x : law01_Deed) : Prop := (fits .i64) x.What ∧ (fits .i64) x.I ∧ (fits .u32) x.Version ∧ (fits .i64) x.Mark ∧ (fits .u64) x.Value ∧ (fun _ => True) x.Now
theorem pa_law01_Deed : Parse Try.prog 32 (fun x : law01_Deed => [.int .i64 x.What, .int .i64 x.I, .int .u32 x.Version, .int .i64 x.Mark, .int .u64 x.Value, .bool x.Now]) wf_law01_Deed := by
  intro H enc w base sp hd n cs x h
  obtain ⟨xs, m, -, -, hl, hx, hf⟩ := DataW.trod_struct Try.underlying32 h
  rw [show Try.prog.cellsOf 32 = 6 by kernel_rfl] at hl
  obtain ⟨a0, e0, w0⟩ := parse_field (i := 0) (o := 0) (sz := 1) hx hf (parse_int Try.underlying3) rfl rfl rfl (by kernel_rfl)
  obtain ⟨a1, e1, w1⟩ := parse_field (i := 1) (o := 1) (sz := 1) hx hf (parse_int Try.underlying3) rfl rfl rfl (by kernel_rfl)
  obtain ⟨a2, e2, w2⟩ := parse_field (i := 2) (o := 2) (sz := 1) hx hf (parse_int Try.underlying22) rfl rfl rfl (by kernel_rfl)
  obtain ⟨a3, e3, w3⟩ := parse_field (i := 3) (o := 3) (sz := 1) hx hf (parse_int Try.underlying3) rfl rfl rfl (by kernel_rfl)
  obtain ⟨a4, e4, w4⟩ := parse_field (i := 4) (o := 4) (sz := 1) hx hf (parse_int Try.underlying30) rfl rfl rfl (by kernel_rfl)
  obtain ⟨a5, e5, w5⟩ := parse_field (i := 5) (o := 5) (sz := 1) hx hf (parse_bool Try.underlying4) rfl rfl rfl (by kernel_rfl)
  clear hf hx h
  match cs, hl with
  | [c0, c1, c2, c3, c4, c5], _ =>
    simp at e0 e1 e2 e3 e4 e5
    subst e0 e1 e2 e3 e4 e5
    exact ⟨⟨a0, a1, a2, a3, a4, a5⟩, rfl, w0, w1, w2, w3, w4, w5⟩

open Go.Proofs
theorem loop_ok (a0 : Int) (ha : 1 ≤ a0 ∧ a0 ≤ 1024) (a2 : List law01_Deed) (lim : Int) (hl : a2.length ≤ 120) : ∀ (m k : Nat) (i : Int) (L : List api_Cell), 0 ≤ i → i ≤ a2.length → (a2.length : Int) - i = m → m + 100 < k → (L.length : Int) = a0 → ∃ L', law01_WordPlays.l1 a0 a2 k (i, L, lim, L, lim) = some (Brk.nx (L', lim, L', lim)) ∧ (L'.length : Int) = a0 := by
  intro m
  induction m with
  | zero =>
    intro k i L h0 h1 h2 hk hV
    obtain ⟨k, rfl⟩ : ∃ q, k = q + 1 := ⟨k - 1, by omega⟩
    unfold law01_WordPlays.l1
    rw [decide_eq_false (by omega)]
    exact ⟨L, rfl, hV⟩
  | succ m ih =>
    intro k i L h0 h1 h2 hk hV
    obtain ⟨k, rfl⟩ : ∃ q, k = q + 1 := ⟨k - 1, by omega⟩
    obtain ⟨x, hx, _, _⟩ := at_in h0 (by omega : i < (a2.length : Int))
    have e1 : w64 (i + 1) = i + 1 := w64_id (by omega) (by omega)
    have next := fun L hV => ih k (i + 1) L (by omega) (by omega) (by omega) (by omega) hV
    obtain ⟨p, hp⟩ := pick_some x.What
    unfold law01_WordPlays.l1
    rw [decide_eq_true (by omega), cond_true, hx, Option.bind_some, e1]
    have eI : In L x.I ↔ 0 ≤ x.I ∧ x.I < a0 := by unfold In; rw [hV]
    -- what is drawn
    have own : ∃ v mk, (bif (x.Now && (decide (0 ≤ x.I))) && (decide (x.I < a0)) then ((at_ L x.I).bind fun x32 => (at_ L x.I).bind fun x34 => bif x34.Mark != 0 then ((at_ L x.I).bind fun x37 => some (x32.Version, x37.Mark)) else (some (x32.Version, x.Mark))) else (some (x.Version, x.Mark))) = some (v, mk) := by
      by_cases hI : In L x.I
      · obtain ⟨c, hc, _, _⟩ := at_in hI.1 hI.2
        rw [hc]
        simp only [Option.bind_some]
        cases (x.Now && decide (0 ≤ x.I)) && decide (x.I < a0) with
        | false => exact ⟨_, _, rfl⟩
        | true =>
          rw [cond_true]
          cases (c.Mark != 0) <;> exact ⟨_, _, rfl⟩
      · have : ((x.Now && decide (0 ≤ x.I)) && decide (x.I < a0)) = false := by
          rw [← Bool.not_eq_true]; intro z
          simp at z
          exact hI (eI.2 ⟨z.1.2, z.2⟩)
        rw [this]
        exact ⟨_, _, rfl⟩
    obtain ⟨v, mk, ev⟩ := own
    rw [ev, Option.bind_some]
    simp only []
    rw [hp, Option.bind_some]
    have deed : ∃ n L', (bif p == 0 then ((word_Store_Read.f (⟨L, lim⟩ : word_Store) x.I).bind fun (t42, t43) => bif (decide (x.I < 0)) || (decide (a0 ≤ x.I)) then (some (((2, t43, L, lim, L, lim) : (Int × (Option Int) × (List api_Cell) × Int × (List api_Cell) × Int)))) else (some (((0, t43, L, lim, L, lim) : (Int × (Option Int) × (List api_Cell) × Int × (List api_Cell) × Int))))) else (bif p == 1 then ((word_Store_Reserve.f (⟨L, lim⟩ : word_Store) x.I v mk).bind fun (t49, p50) => (ref01_Store_Reserve.f (⟨L, lim⟩ : ref01_Store) x.I v mk).bind fun (t54, p55) => some (t54, t49, p55.L, p55.Limit, p50.l, p50.limit)) else (bif p == 2 then ((word_Store_Release.f (⟨L, lim⟩ : word_Store) x.I mk).bind fun (t62, p63) => (ref01_Store_Release.f (⟨L, lim⟩ : ref01_Store) x.I mk).bind fun (t67, p68) => some (t67, t62, p68.L, p68.Limit, p63.l, p63.limit)) else (bif p == 3 then ((word_Store_Put.f (⟨L, lim⟩ : word_Store) x.I mk x.Value).bind fun (t75, p76) => (ref01_Store_Put.f (⟨L, lim⟩ : ref01_Store) x.I mk x.Value).bind fun (t80, p81) => some (t80, t75, p81.L, p81.Limit, p76.l, p76.limit)) else ((word_Store_Set.f (⟨L, lim⟩ : word_Store) x.I x.Value).bind fun (t87, p88) => (ref01_Store_Set.f (⟨L, lim⟩ : ref01_Store) x.I x.Value).bind fun (t92, p93) => some (t92, t87, p93.L, p93.Limit, p88.l, p88.limit)))))) = some (n, (if n = 0 then none else some n), L', lim, L', lim) ∧ (0 ≤ n ∧ n ≤ 14) ∧ L'.length = L.length := by
      by_cases p0 : p = 0
      · rw [show (p == 0) = true by simpa using p0, cond_true]
        by_cases hI : In L x.I
        · obtain ⟨c, hc, _, _⟩ := at_in hI.1 hI.2
          have : (decide (x.I < 0) || decide (a0 ≤ x.I)) = false := by have := eI.1 hI; simp; omega
          rw [wread_in lim hI hc, Option.bind_some, this]
          exact ⟨0, L, rfl, by decide, rfl⟩
        · have : (decide (x.I < 0) || decide (a0 ≤ x.I)) = true := by
            rw [← Bool.not_eq_false]; intro z
            simp at z
            exact hI (eI.2 ⟨by omega, by omega⟩)
          rw [wread_out lim hI, Option.bind_some, this]
          exact ⟨2, L, rfl, by decide, rfl⟩
      · rw [show (p == 0) = false by simpa using p0, cond_false]
        by_cases p1 : p = 1
        · obtain ⟨n, L', s1, s2, s3, s4⟩ := reserve_ok L lim x.I v mk
          rw [show (p == 1) = true by simpa using p1, cond_true, s1, Option.bind_some]
          simp only []
          rw [s2, Option.bind_some]
          exact ⟨n, L', rfl, s3, by rcases s4 with rfl | ⟨d, _, rfl⟩; rfl; simp⟩
        · rw [show (p == 1) = false by simpa using p1, cond_false]
          by_cases p2 : p = 2
          · obtain ⟨n, L', s1, s2, s3, s4⟩ := release_ok L lim x.I mk
            rw [show (p == 2) = true by simpa using p2, cond_true, s1, Option.bind_some]
            simp only []
            rw [s2, Option.bind_some]
            exact ⟨n, L', rfl, s3, by rcases s4 with rfl | ⟨d, _, rfl⟩; rfl; simp⟩
          · rw [show (p == 2) = false by simpa using p2, cond_false]
            by_cases p3 : p = 3
            · obtain ⟨n, L', s1, s2, s3, s4, s5⟩ := put_ok L lim x.I mk x.Value
              rw [show (p == 3) = true by simpa using p3, cond_true, s1, Option.bind_some]
              simp only []
              rw [s2, Option.bind_some]
              refine ⟨n, L', rfl, s3, ?_⟩
              by_cases hn : n = 0
              · obtain ⟨d, _, _, _, rfl⟩ := s5 hn; simp
              · rw [s4 hn]
            · obtain ⟨n, L', s1, s2, s3, s4⟩ := set_ok L lim x.I x.Value
              rw [show (p == 3) = false by simpa using p3, cond_false, s1, Option.bind_some]
              simp only []
              rw [s2, Option.bind_some]
              exact ⟨n, L', rfl, s3, by rcases s4 with rfl | ⟨d, _, _, rfl⟩; rfl; simp⟩
    obtain ⟨n, L', ed, hn, hlen⟩ := deed
    have hV' : (L'.length : Int) = a0 := by rw [hlen]; exact hV
    rw [ed, Option.bind_some]
    simp only []
    rw [code_ok hn (by omega), Option.bind_some, bne_self_eq_false, cond_false]
    by_cases hI : 0 ≤ x.I ∧ x.I < a0
    · have e : (decide (0 ≤ x.I) && decide (x.I < a0)) = true := by simp; exact hI
      have hI' : In L' x.I := ⟨hI.1, by omega⟩
      obtain ⟨c, hc, _, _⟩ := at_in hI'.1 hI'.2
      rw [e, cond_true, wread_in lim hI' hc, Option.bind_some]
      simp only [Option.isSome_none, cond_false]
      rw [hc, Option.bind_some, decide_eq_true rfl, Option.bind_some]
      exact next L' hV'
    · have e : (decide (0 ≤ x.I) && decide (x.I < a0)) = false := by
        rw [← Bool.not_eq_true]; simp; omega
      rw [e, cond_false]
      exact next L' hV'
theorem app1 {l : List Int} {x : Int} (h : l.length < 4294967296) : app l [x] = some (l ++ [x]) := by
  unfold app
  rw [decide_eq_true (by simp; omega)]; rfl
theorem vals_l (s : word_Store) (hs : s.l.length ≤ 1024) : ∀ (m k : Nat) (i : Int) (acc : List Int), 0 ≤ i → i ≤ s.l.length → (s.l.length : Int) - i = m → m < k → (acc.length : Int) = i → word_Store_Values.l1 s k (i, acc) = some (acc ++ (s.l.drop i.toNat).map fun c => c.Value) := by
  intro m
  induction m with
  | zero =>
    intro k i acc h0 h1 h2 hk ha
    obtain ⟨k, rfl⟩ : ∃ q, k = q + 1 := ⟨k - 1, by omega⟩
    unfold word_Store_Values.l1
    rw [decide_eq_false (by omega), List.drop_eq_nil_of_le (by omega)]
    simp
  | succ m ih =>
    intro k i acc h0 h1 h2 hk ha
    obtain ⟨k, rfl⟩ : ∃ q, k = q + 1 := ⟨k - 1, by omega⟩
    have hi : i.toNat < s.l.length := by omega
    have hc : at_ s.l i = some s.l[i.toNat] := by
      unfold at_; rw [decide_eq_true h0, cond_true, List.getElem?_eq_getElem hi]
    have e1 : w64 (i + 1) = i + 1 := w64_id (by omega) (by omega)
    unfold word_Store_Values.l1
    rw [decide_eq_true (by omega), cond_true, hc, Option.bind_some, app1 (by omega), Option.bind_some, e1, ih k (i + 1) _ (by omega) (by omega) (by omega) (by omega) (by simp; omega), List.drop_eq_getElem_cons hi, show (i + 1).toNat = i.toNat + 1 by omega, List.map_cons, List.append_assoc]
    rfl
theorem last_l (a0 : Int) (L : List api_Cell) (hL : (L.length : Int) = a0) (h10 : a0 ≤ 1024) : ∀ (m k : Nat) (i : Int), 0 ≤ i → i ≤ a0 → a0 - i = m → m < k → law01_WordPlays.l5 a0 L (L.map fun c => c.Value) k i = some (Brk.nx ()) := by
  intro m
  induction m with
  | zero =>
    intro k i h0 h1 h2 hk
    obtain ⟨k, rfl⟩ : ∃ q, k = q + 1 := ⟨k - 1, by omega⟩
    unfold law01_WordPlays.l5
    rw [decide_eq_false (by omega)]; rfl
  | succ m ih =>
    intro k i h0 h1 h2 hk
    obtain ⟨k, rfl⟩ : ∃ q, k = q + 1 := ⟨k - 1, by omega⟩
    have hi : i.toNat < L.length := by omega
    have hc : at_ L i = some L[i.toNat] := by
      unfold at_; rw [decide_eq_true h0, cond_true, List.getElem?_eq_getElem hi]
    have hc2 : at_ (L.map fun c => c.Value) i = some L[i.toNat].Value := by
      unfold at_; rw [decide_eq_true h0, cond_true, List.getElem?_map, List.getElem?_eq_getElem hi]; rfl
    have e1 : w64 (i + 1) = i + 1 := w64_id (by omega) (by omega)
    unfold law01_WordPlays.l5
    rw [decide_eq_true (by omega), cond_true, hc, hc2, Option.bind_some, Option.bind_some, bne_self_eq_false, cond_false, e1]
    exact ih k (i + 1) (by omega) (by omega) (by omega) (by omega)
theorem ok (a0 : Int) (a1 : Int) (a2 : List law01_Deed) (w0 : (Lit.int .i64 a0).wf = true) (w1 : (Lit.int .u32 a1).wf = true) (w2 : ∀ x ∈ a2, wf_law01_Deed x) : ∃ k, law01_WordPlays.f k a0 a1 a2 = some true := by
  refine ⟨2000, ?_⟩
  have hu : law01_up.f = some true := by decide +kernel
  unfold law01_WordPlays.f
  rw [hu, Option.bind_some]
  unfold word_New.f
  obtain ⟨b1, b2⟩ := fits_u32 w1
  by_cases h : 1 ≤ a0 ∧ a0 ≤ 1024 ∧ 1 ≤ a1
  · have e : (decide (a0 < 1) || decide (1024 < a0) || decide (a1 < 1)) = false := by simp; omega
    have e' : (decide (a0 < 1) || decide (1024 < a0) || a1 == 0) = false := by simp; omega
    have em : mk_ (⟨0, 0, 0⟩ : api_Cell) a0 = some (List.replicate a0.toNat ⟨0, 0, 0⟩) := by
      unfold mk_
      rw [decide_eq_true (by omega), decide_eq_true (by omega)]; rfl
    rw [e, e', cond_false, em, Option.bind_some, Option.bind_some]
    simp only [oE, Option.isSome_none, Bool.false_or, cond_false, Option.bind_some]
    by_cases hl : a2.length ≤ 120
    · obtain ⟨L', el, hL⟩ := loop_ok a0 ⟨h.1, h.2.1⟩ a2 a1 hl a2.length 2000 0 (List.replicate a0.toNat ⟨0, 0, 0⟩) (by decide) (by omega) (by omega) (by omega) (by rw [List.length_replicate]; omega)
      have hv : word_Store_Values.f 2000 ⟨L', a1⟩ = some (L'.map fun c => c.Value) := by
        unfold word_Store_Values.f
        rw [vals_l ⟨L', a1⟩ (by show L'.length ≤ 1024; omega) L'.length 2000 0 [] (by decide) (by omega) (by show (L'.length : Int) - 0 = _; omega) (by omega) rfl]
        rfl
      have hn : ((((L'.map fun c => c.Value).length : Int)) != a0) = false := by rw [List.length_map, hL, bne_self_eq_false]
      rw [decide_eq_false (by omega), cond_false, el, Option.bind_some]
      simp only [Brk.go]
      rw [hv, Option.bind_some, hn, cond_false]
      unfold word_Store_Len.f word_Store_Limit.f
      simp only [Option.bind_some, hL, bne_self_eq_false, cond_false]
      rw [last_l a0 L' hL h.2.1 a0.toNat 2000 0 (by decide) (by omega) (by omega) (by omega), Option.bind_some]
    · rw [decide_eq_true (by omega), cond_true]; rfl
  · have e : (decide (a0 < 1) || decide (1024 < a0) || decide (a1 < 1)) = true := by
      rw [← Bool.not_eq_false]; simp; omega
    have e' : (decide (a0 < 1) || decide (1024 < a0) || a1 == 0) = true := by
      rw [← Bool.not_eq_false]; simp; omega
    rw [e, e']; rfl

theorem own : ownKnob Try.prog.godebug = none := by kernel_rfl
theorem laidOut : laidOutB Try.prog = true := by kernel_rfl
set_option maxRecDepth 100000 in
theorem lifted (os : Os) (started : os.Started) (H : Type) (enc : TypeId × Value → H) :
    ReturnsInHanded {} Try.checked os 4 .any (Rows.wordPlaysSpec.pre6 enc Try.prog Try.f4 Rows.wordPlaysRow.domain false) (Rows.wordPlaysSpec.post enc Try.prog Try.f4 false true false false) := by
  refine returnsInHanded_of_change (C := Try.checked) own started (by kernel_rfl) Try.func4
    (ChangeSpec.witness6 (enc := enc) (C := Try.checked) false ⟨#[], #[.int .i64 0, .int .u32 0, .slice none 0 0], []⟩ 8 (by kernel_rfl) (by kernel_rfl) (by kernel_rfl) (by kernel_rfl)) ?_
  intro W base args ds gs before hval0 hW hcnd _
  have hval : ∀ (j : Nat) t v, Try.f4.params[j]? = some t → args[j]? = some v → Value.okWide Try.prog W .any base t v := hval0
  have hW' := hW
  obtain ⟨p, q, hA0, hV, rfl, hfz, hnd⟩ := hW
  have hA : DataW.TrodAll enc Try.prog W 0 (fun _ => true) true Try.f4.params.toList args.toList ds p := hA0
  rw [Try.params4] at hA hval
  obtain ⟨v0, vs0, d0, ds0, p0, q0, hargs, rfl, rfl, h0, r0⟩ := trodAll_cons hA
  obtain ⟨v1, vs1, d1, ds1, p1, q1, rfl, rfl, rfl, h1, r1⟩ := trodAll_cons r0
  obtain ⟨v2, vs2, d2, ds2, p2, q2, rfl, rfl, rfl, h2, r2⟩ := trodAll_cons r1
  obtain ⟨rfl, rfl, rfl⟩ := trodAll_nil r2
  obtain rfl : args = #[v0, v1, v2] := by cases args; simp_all
  obtain ⟨rfl, rfl⟩ := trodVars_none hV
  obtain ⟨a0, rfl, rfl, rfl, w0⟩ := open_int Try.underlying3 (hval 0 3 v0 rfl rfl) h0
  obtain ⟨a1, rfl, rfl, rfl, w1⟩ := open_int Try.underlying22 (hval 1 22 v1 rfl rfl) h1
  obtain ⟨a2, r2', w2, _⟩ := open_sl (K := ek_law01_Deed) pa_law01_Deed Try.underlying23 (by kernel_rfl) (hval 2 23 v2 rfl rfl) h2
  obtain ⟨k, hk⟩ := ok a0 a1 a2 w0 w1 w2
  refine (Ct.law (law01_WordPlays.ct _ _ a0 a1 a2 _ hk) (W := W) r2').mono fun e W' ⟨he, hg⟩ => ?_
  subst he
  exact ⟨_, rfl, law_post hW' laidOut (by kernel_rfl) hg (by kernel_rfl) Try.underlying4 rfl rfl⟩
theorem over : Rows.wordPlaysRow.holds Try.pinned (OpenSpec.ofChange Rows.wordPlaysSpec) :=
  OpenClaim.holds_of_wide 4 Try.f4 rfl rfl rfl rfl rfl rfl rfl ⟨rfl, rfl, rfl, rfl, rfl⟩ rfl rfl rfl rfl rfl (by kernel_rfl) Try.func4 (by kernel_rfl)
    (of_decide_eq_true (by kernel_rfl)) (by unfold Func.isWrapper; first | (rw [if_pos (by decide +kernel)]; kernel_rfl) | (rw [if_neg (by decide +kernel)]; exact ⟨rfl, rfl⟩))
    (fun os started H enc _ => lifted os started H enc)
theorem proved : Rows.WordPlaysSaid :=
  over
#print axioms proved
end Go.Proofs.Ytcldclobgjlacaa.wordPlays
