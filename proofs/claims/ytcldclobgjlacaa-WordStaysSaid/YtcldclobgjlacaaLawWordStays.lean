/- The given statement 'WordStays' of the given program: whatever the input, the law answers true and the input reads as it did. On no condition. -/
import Derived.Test.YtcldclobgjlacaaFnWordStays0
import Derived.Test.YtcldclobgjlacaaFr1
import Derived.Test.YtcldclobgjlacaaPlWordStays0
import Derived.Test.YtcldclobgjlacaaRows
set_option linter.all false
namespace Go.Proofs.Ytcldclobgjlacaa.wordStays
open Go.ChangeShapes Go.WideShapes Go.ChangeAt Go.RowKit Go.Sl
def wf_law01_Deed (x : law01_Deed) : Prop := (fits .i64) x.What ∧ (fits .i64) x.I ∧ (fits .u32) x.Version ∧ (fits .i64) x.Mark ∧ (fits .u64) x.Value ∧ (fun _ => True) x.Now
theorem pa_law01_Deed : Parse Try.prog 32 (fun x : law01_Deed => [.int .i64 x.What, .int .i64 x.I, .int .u32 x.Version, .int .i64 x.Mark, .int .u64 x.Value, .bool x.Now]) wf_law01_Deed := by
  intro H enc w base sp hd n cs x h
  obtain ⟨xs, m, -, -, hl, hx, hf⟩ := DataW.trod_struct Try.underlying32 h
  rw [show Try.prog.cellsOf 32 = 6 by kernel_rfl] at hl
  obtain ⟨a0, e0, w0⟩ := parse_field (i := 0) (o := 0) (sz := 1) hx hf (parse_int Try.underlying3) rfl rfl rfl (by kernel_rfl)
  obtain ⟨a1, e1, w1⟩ := parse_field (i := 1) (o := 1) (sz := 1) hx hf (parse_int Try.underlying3) rfl rfl rfl (by kernel_rfl)
  obtain ⟨a2, e2, w2⟩ := parse_field (i := 2) (o := 2) (sz := 1) hx hf (parse_int Try.underlying22) rfl rfl rfl (by kernel_rfl)
  obtain ⟨a3, e3, w3⟩ := parse_field (i := 3) (o := 3) (sz := 1) hx hf (parse_int Try.underlying3) rfl rfl rfl (by kernel_rfl)
  obtain ⟨a4, e4, w4⟩ := parse_field (i := 4) (o := 4) (sz := 1) hx hf (parse_int Try.underlying30) rfl rfl rfl (by kernel_rfl)
  obtain ⟨a5, e5, w5⟩ := parse_field (i := 5) (o := 5) (sz := 1) hx hf (parse_bool Try.underlying4) rfl rfl rfl (by kernel_rfl)
  clear hf hx h
  match cs, hl with
  | [c0, c1, c2, c3, c4, c5], _ =>
    simp at e0 e1 e2 e3 e4 e5
    subst e0 e1 e2 e3 e4 e5
    exact ⟨⟨a0, a1, a2, a3, a4, a5⟩, rfl, w0, w1, w2, w3, w4, w5⟩

open Go.Proofs
/-- Versions stay within the limit. -/
def VI_ (L : List api_Cell) (lim : Int) : Prop := ∀ c ∈ L, 0 ≤ c.Version ∧ c.Version ≤ lim
theorem VI_.set {L : List api_Cell} {lim : Int} (h : VI_ L lim) (i : Nat) {c : api_Cell} (hc : 0 ≤ c.Version ∧ c.Version ≤ lim) : VI_ (L.set i c) lim := fun x hx => by
  rcases List.mem_or_eq_of_mem_set hx with z | z
  · exact h x z
  · rw [z]; exact hc
theorem loop_ok (a2 : List law01_Deed) (lim : Int) (hlim : 0 ≤ lim ∧ lim ≤ 4294967295) (hl : a2.length ≤ 120) : ∀ (m k : Nat) (i : Int) (L : List api_Cell), 0 ≤ i → i ≤ a2.length → (a2.length : Int) - i = m → m < k → VI_ L lim → ∃ L', law01_WordStays.l1 a2 k (i, L, lim) = some (Brk.nx (L', lim)) := by
  intro m
  induction m with
  | zero =>
    intro k i L h0 h1 h2 hk hV
    obtain ⟨k, rfl⟩ : ∃ q, k = q + 1 := ⟨k - 1, by omega⟩
    unfold law01_WordStays.l1
    rw [decide_eq_false (by omega)]
    exact ⟨L, rfl⟩
  | succ m ih =>
    intro k i L h0 h1 h2 hk hV
    obtain ⟨k, rfl⟩ : ∃ q, k = q + 1 := ⟨k - 1, by omega⟩
    obtain ⟨x, hx, _, _⟩ := at_in h0 (by omega : i < (a2.length : Int))
    have e1 : w64 (i + 1) = i + 1 := w64_id (by omega) (by omega)
    have next := fun L hV => ih k (i + 1) L (by omega) (by omega) (by omega) (by omega) hV
    unfold law01_WordStays.l1
    rw [decide_eq_true (by omega), cond_true, hx, Option.bind_some, e1]
    by_cases hI : In L x.I
    · obtain ⟨c, hc, _, hm⟩ := at_in hI.1 hI.2
      have vc := hV c hm
      obtain ⟨p, hp⟩ := pick_some x.What
      have ev : ∃ v, (bif x.Now then (some c.Version) else (some x.Version)) = some v := by cases x.Now <;> exact ⟨_, rfl⟩
      obtain ⟨v, ev⟩ := ev
      rw [wread_in lim hI hc, Option.bind_some]
      simp only [Option.isSome_none, cond_false]
      rw [ev, Option.bind_some, hp, Option.bind_some]
      -- what a deed comes to
      have deed : ∃ put c', (bif p == 1 then ((word_Store_Reserve.f (⟨L, lim⟩ : word_Store) x.I v x.Mark).bind fun (t26, p27) => some (false, p27.l, p27.limit)) else (bif p == 2 then ((word_Store_Release.f (⟨L, lim⟩ : word_Store) x.I x.Mark).bind fun (t33, p34) => some (false, p34.l, p34.limit)) else (bif p == 3 then ((word_Store_Put.f (⟨L, lim⟩ : word_Store) x.I x.Mark x.Value).bind fun (t40, p41) => some (t40.isNone, p41.l, p41.limit)) else (bif p == 4 then ((word_Store_Set.f (⟨L, lim⟩ : word_Store) x.I x.Value).bind fun (t47, p48) => some (false, p48.l, p48.limit)) else (some (false, L, lim)))))) = some (put, L.set x.I.toNat c', lim) ∧ (put = true → c'.Version = wu32 (c.Version + 1) ∧ c.Version ≠ lim ∧ c.Mark = x.Mark) ∧ (put = false → c'.Version = c.Version ∧ (c.Mark ≠ 0 → c'.Value = c.Value)) := by
        have same : L.set x.I.toNat c = L := set_same hc
        by_cases p1 : p = 1
        · rw [show (p == 1) = true by simpa using p1, cond_true]
          obtain ⟨n, L', s1, _, _, s4⟩ := reserve_ok L lim x.I v x.Mark
          rw [s1, Option.bind_some]
          rcases s4 with rfl | ⟨d, hd, rfl⟩
          · exact ⟨false, c, by rw [same], fun z => (by cases z), fun _ => ⟨rfl, fun _ => rfl⟩⟩
          · rw [hc] at hd; injection hd with hd; subst hd
            exact ⟨false, _, rfl, fun z => (by cases z), fun _ => ⟨rfl, fun _ => rfl⟩⟩
        · rw [show (p == 1) = false by simpa using p1, cond_false]
          by_cases p2 : p = 2
          · rw [show (p == 2) = true by simpa using p2, cond_true]
            obtain ⟨n, L', s1, _, _, s4⟩ := release_ok L lim x.I x.Mark
            rw [s1, Option.bind_some]
            rcases s4 with rfl | ⟨d, hd, rfl⟩
            · exact ⟨false, c, by rw [same], fun z => (by cases z), fun _ => ⟨rfl, fun _ => rfl⟩⟩
            · rw [hc] at hd; injection hd with hd; subst hd
              exact ⟨false, _, rfl, fun z => (by cases z), fun _ => ⟨rfl, fun _ => rfl⟩⟩
          · rw [show (p == 2) = false by simpa using p2, cond_false]
            by_cases p3 : p = 3
            · rw [show (p == 3) = true by simpa using p3, cond_true]
              obtain ⟨n, L', s1, _, _, s4, s5⟩ := put_ok L lim x.I x.Mark x.Value
              rw [s1, Option.bind_some]
              by_cases hn : n = 0
              · obtain ⟨d, hd, d1, d2, rfl⟩ := s5 hn
                rw [hc] at hd; injection hd with hd; subst hd
                rw [if_pos hn]
                exact ⟨true, _, rfl, fun _ => ⟨rfl, d2, d1⟩, fun z => by cases z⟩
              · rw [if_neg hn, s4 hn]
                exact ⟨false, c, by rw [same]; rfl, fun z => (by cases z), fun _ => ⟨rfl, fun _ => rfl⟩⟩
            · rw [show (p == 3) = false by simpa using p3, cond_false]
              by_cases p4 : p = 4
              · rw [show (p == 4) = true by simpa using p4, cond_true]
                obtain ⟨n, L', s1, _, _, s4⟩ := set_ok L lim x.I x.Value
                rw [s1, Option.bind_some]
                rcases s4 with rfl | ⟨d, hd, dm, rfl⟩
                · exact ⟨false, c, by rw [same], fun z => (by cases z), fun _ => ⟨rfl, fun _ => rfl⟩⟩
                · rw [hc] at hd; injection hd with hd; subst hd
                  exact ⟨false, _, rfl, fun z => (by cases z), fun _ => ⟨rfl, fun z => absurd dm z⟩⟩
              · rw [show (p == 4) = false by simpa using p4, cond_false]
                exact ⟨false, c, by rw [same], fun z => (by cases z), fun _ => ⟨rfl, fun _ => rfl⟩⟩
      obtain ⟨put, c', ed, d1, d2⟩ := deed
      have hI' : In (L.set x.I.toNat c') x.I := ⟨hI.1, by rw [List.length_set]; exact hI.2⟩
      have hc' : at_ (L.set x.I.toNat c') x.I = some c' := at_set_ hI.1 hI.2 c'
      rw [ed, Option.bind_some]
      simp only []
      rw [wread_in lim hI' hc', Option.bind_some]
      simp only [Option.isSome_none, cond_false, Option.bind_some]
      cases put with
      | true =>
        obtain ⟨f1, f2, f3⟩ := d1 rfl
        have ew : wu32 (c.Version + 1) = c.Version + 1 := wu32_id (by omega) (by omega)
        rw [ew] at f1
        have e2 : decide (c'.Version < c.Version) = false := decide_eq_false (by omega)
        have e3 : (c'.Version != wu32 (c.Version + 1)) = false := by rw [ew, f1, bne_self_eq_false]
        have e4 : (c.Mark != x.Mark) = false := by rw [f3, bne_self_eq_false]
        simp only [e2, e3, e4, cond_true, cond_false, Option.bind_some, Bool.not_true, Bool.and_false, Bool.false_and]
        exact next _ (hV.set _ (by omega))
      | false =>
        obtain ⟨f1, f2⟩ := d2 rfl
        have e2 : decide (c'.Version < c.Version) = false := decide_eq_false (by omega)
        have e3 : (c'.Version != c.Version) = false := by rw [f1, bne_self_eq_false]
        have e4 : ((c.Mark != 0) && (c'.Value != c.Value)) = false := by
          by_cases q : c.Mark = 0
          · rw [show (c.Mark != 0) = false by simpa using q]; rfl
          · rw [f2 q, bne_self_eq_false, Bool.and_false]
        simp only [e2, e3, e4, cond_true, cond_false, Option.bind_some, Bool.not_false, Bool.and_true]
        exact next _ (hV.set _ (by omega))
    · rw [wread_out lim hI, Option.bind_some]
      simp only [Option.isSome_some, cond_true]
      exact next L hV
theorem ok (a0 : Int) (a1 : Int) (a2 : List law01_Deed) (w0 : (Lit.int .i64 a0).wf = true) (w1 : (Lit.int .u32 a1).wf = true) (w2 : ∀ x ∈ a2, wf_law01_Deed x) : ∃ k, law01_WordStays.f k a0 a1 a2 = some true := by
  refine ⟨200, ?_⟩
  have hu : law01_up.f = some true := by decide +kernel
  unfold law01_WordStays.f
  rw [hu, Option.bind_some]
  unfold word_New.f
  obtain ⟨b1, b2⟩ := fits_u32 w1
  by_cases h : 1 ≤ a0 ∧ a0 ≤ 1024 ∧ 1 ≤ a1
  · have e : (decide (a0 < 1) || decide (1024 < a0) || decide (a1 < 1)) = false := by simp; omega
    have em : mk_ (⟨0, 0, 0⟩ : api_Cell) a0 = some (List.replicate a0.toNat ⟨0, 0, 0⟩) := by
      unfold mk_
      rw [decide_eq_true (by omega), decide_eq_true (by omega)]; rfl
    rw [e, cond_false, em, Option.bind_some, Option.bind_some]
    simp only [oE, Option.isSome_none, Bool.false_or]
    by_cases hl : a2.length ≤ 120
    · obtain ⟨L', el⟩ := loop_ok a2 a1 ⟨b1, by omega⟩ hl a2.length 200 0 (List.replicate a0.toNat ⟨0, 0, 0⟩) (by decide) (by omega) (by omega) (by omega) (fun c hc => by
        rw [List.eq_of_mem_replicate hc]; show (0 : Int) ≤ 0 ∧ 0 ≤ a1; omega)
      rw [decide_eq_false (by omega), cond_false, el, Option.bind_some]
      rfl
    · rw [decide_eq_true (by omega), cond_true]; rfl
  · have e : (decide (a0 < 1) || decide (1024 < a0) || decide (a1 < 1)) = true := by
      rw [← Bool.not_eq_false]; simp; omega
    rw [e]; rfl

theorem own : ownKnob Try.prog.godebug = none := by kernel_rfl
theorem laidOut : laidOutB Try.prog = true := by kernel_rfl
set_option maxRecDepth 100000 in
theorem lifted (os : Os) (started : os.Started) (H : Type) (enc : TypeId × Value → H) :
    ReturnsInHanded {} Try.checked os 3 .any (Rows.wordStaysSpec.pre6 enc Try.prog Try.f3 Rows.wordStaysRow.domain false) (Rows.wordStaysSpec.post enc Try.prog Try.f3 false true false false) := by
  refine returnsInHanded_of_change (C := Try.checked) own started (by kernel_rfl) Try.func3
    (ChangeSpec.witness6 (enc := enc) (C := Try.checked) false ⟨#[], #[.int .i64 0, .int .u32 0, .slice none 0 0], []⟩ 8 (by kernel_rfl) (by kernel_rfl) (by kernel_rfl) (by kernel_rfl)) ?_
  intro W base args ds gs before hval0 hW hcnd _
  have hval : ∀ (j : Nat) t v, Try.f3.params[j]? = some t → args[j]? = some v → Value.okWide Try.prog W .any base t v := hval0
  have hW' := hW
  obtain ⟨p, q, hA0, hV, rfl, hfz, hnd⟩ := hW
  have hA : DataW.TrodAll enc Try.prog W 0 (fun _ => true) true Try.f3.params.toList args.toList ds p := hA0
  rw [Try.params3] at hA hval
  obtain ⟨v0, vs0, d0, ds0, p0, q0, hargs, rfl, rfl, h0, r0⟩ := trodAll_cons hA
  obtain ⟨v1, vs1, d1, ds1, p1, q1, rfl, rfl, rfl, h1, r1⟩ := trodAll_cons r0
  obtain ⟨v2, vs2, d2, ds2, p2, q2, rfl, rfl, rfl, h2, r2⟩ := trodAll_cons r1
  obtain ⟨rfl, rfl, rfl⟩ := trodAll_nil r2
  obtain rfl : args = #[v0, v1, v2] := by cases args; simp_all
  obtain ⟨rfl, rfl⟩ := trodVars_none hV
  obtain ⟨a0, rfl, rfl, rfl, w0⟩ := open_int Try.underlying3 (hval 0 3 v0 rfl rfl) h0
  obtain ⟨a1, rfl, rfl, rfl, w1⟩ := open_int Try.underlying22 (hval 1 22 v1 rfl rfl) h1
  obtain ⟨a2, r2', w2, _⟩ := open_sl (K := ek_law01_Deed) pa_law01_Deed Try.underlying23 (by kernel_rfl) (hval 2 23 v2 rfl rfl) h2
  obtain ⟨k, hk⟩ := ok a0 a1 a2 w0 w1 w2
  refine (Ct.law (law01_WordStays.ct _ _ a0 a1 a2 _ hk) (W := W) r2').mono fun e W' ⟨he, hg⟩ => ?_
  subst he
  exact ⟨_, rfl, law_post hW' laidOut (by kernel_rfl) hg (by kernel_rfl) Try.underlying4 rfl rfl⟩
theorem over : Rows.wordStaysRow.holds Try.pinned (OpenSpec.ofChange Rows.wordStaysSpec) :=
  OpenClaim.holds_of_wide 3 Try.f3 rfl rfl rfl rfl rfl rfl rfl ⟨rfl, rfl, rfl, rfl, rfl⟩ rfl rfl rfl rfl rfl (by kernel_rfl) Try.func3 (by kernel_rfl)
    (of_decide_eq_true (by kernel_rfl)) (by unfold Func.isWrapper; first | (rw [if_pos (by decide +kernel)]; kernel_rfl) | (rw [if_neg (by decide +kernel)]; exact ⟨rfl, rfl⟩))
    (fun os started H enc _ => lifted os started H enc)
theorem proved : Rows.WordStaysSaid :=
  over
#print axioms proved
end Go.Proofs.Ytcldclobgjlacaa.wordStays
