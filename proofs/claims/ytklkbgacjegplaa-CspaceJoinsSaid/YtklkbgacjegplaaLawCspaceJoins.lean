/- The given statement 'CspaceJoins' of the given program: whatever the input, the law answers true and the input reads as it did. On no condition. -/
import Derived.Test.YtklkbgacjegplaaFnCspaceJoins2
import Derived.Test.YtklkbgacjegplaaSlLaw
import Derived.Test.YtklkbgacjegplaaP13CspaceCspaceJoins
import Derived.Test.YtklkbgacjegplaaRows
set_option linter.all false
namespace Go.Proofs.Ytklkbgacjegplaa.cspaceJoins
open Go.ChangeShapes Go.WideShapes Go.ChangeAt Go.RowKit Go.Sl
def wf_api_Cap (x : api_Cap) : Prop := (fits .i64) x.Kind ∧ (fits .i64) x.Rights ∧ (fits .i64) x.Obj ∧ (fits .i64) x.Badge ∧ (fits .i64) x.Guard ∧ (fits .i64) x.Bits
theorem pa_api_Cap : Parse Try.prog 24 (fun x : api_Cap => [.int .i64 x.Kind, .int .i64 x.Rights, .int .i64 x.Obj, .int .i64 x.Badge, .int .i64 x.Guard, .int .i64 x.Bits]) wf_api_Cap := by
  intro H enc w base sp hd n cs x h
  obtain ⟨xs, m, -, -, hl, hx, hf⟩ := DataW.trod_struct Try.underlying24 h
  rw [show Try.prog.cellsOf 24 = 6 by kernel_rfl] at hl
  obtain ⟨a0, e0, w0⟩ := parse_field (i := 0) (o := 0) (sz := 1) hx hf (parse_int Try.underlying3) rfl rfl rfl (by kernel_rfl)
  obtain ⟨a1, e1, w1⟩ := parse_field (i := 1) (o := 1) (sz := 1) hx hf (parse_int Try.underlying3) rfl rfl rfl (by kernel_rfl)
  obtain ⟨a2, e2, w2⟩ := parse_field (i := 2) (o := 2) (sz := 1) hx hf (parse_int Try.underlying3) rfl rfl rfl (by kernel_rfl)
  obtain ⟨a3, e3, w3⟩ := parse_field (i := 3) (o := 3) (sz := 1) hx hf (parse_int Try.underlying3) rfl rfl rfl (by kernel_rfl)
  obtain ⟨a4, e4, w4⟩ := parse_field (i := 4) (o := 4) (sz := 1) hx hf (parse_int Try.underlying3) rfl rfl rfl (by kernel_rfl)
  obtain ⟨a5, e5, w5⟩ := parse_field (i := 5) (o := 5) (sz := 1) hx hf (parse_int Try.underlying3) rfl rfl rfl (by kernel_rfl)
  clear hf hx h
  match cs, hl with
  | [c0, c1, c2, c3, c4, c5], _ =>
    simp at e0 e1 e2 e3 e4 e5
    subst e0 e1 e2 e3 e4 e5
    exact ⟨⟨a0, a1, a2, a3, a4, a5⟩, rfl, w0, w1, w2, w3, w4, w5⟩

open Go.Proofs
def root2 : api_Cap := ⟨2, 7, 2, 0, 0, 8⟩
def initB : Bool := match ref10_Boot.f 2000 2 with
  | some t => match ref10_State_Words.f 2000 t with
    | some s => goodUB s && (match at_ t.Objs 0 with | some o => decide (o.Root = root2) | none => false) && (fld s 2 0 == 2) && (fld s 2 1 == 0) && (fld s 2 2 == 3) && (fld s 3 0 == 2) && (fld s 3 1 == 8) && (fld s 3 2 == 5) &&
      decide (capAt s 0 = ⟨2, 7, 3, 0, 0, 0⟩) && decide (capAt s 1 = root2) && (List.range 6).all fun i => (capAt s (i + 2)).Kind == 0
    | none => false
  | none => false
theorem init_ok : initB = true := by decide +kernel
structure BW (s : List Int) : Prop where
  g : GoodU s
  a0 : fld s 2 0 = 2
  a1 : fld s 2 1 = 0
  a2 : fld s 2 2 = 3
  b0 : fld s 3 0 = 2
  b1 : fld s 3 1 = 8
  b2 : fld s 3 2 = 5
  c0 : capAt s 0 = ⟨2, 7, 3, 0, 0, 0⟩
  c1 : capAt s 1 = root2
  cn : ∀ i, 2 ≤ i → i < 8 → (capAt s i).Kind = 0
theorem find_ok {s : List Int} (h : BW s) (a : Int) : ∃ n e, VM.run plainI (cspace_Lookup.f 2000 root2 a) s = some ((n, e), s) ∧ (if 0 ≤ a ∧ a ≤ 31 then e = none ∧ n = 8 + a else e ≠ none) := by
  have fr : Fine s root2 := by
    unfold Fine root2; simp only [h.a0, h.a1, h.a2]; decide
  have fs : Fine s ⟨2, 7, 3, 0, 0, 0⟩ := by
    unfold Fine; simp only [h.b0, h.b1, h.b2]; decide
  by_cases h1 : 0 ≤ a ∧ a < 65536
  · have e1 : (decide (a < 0) || decide (65536 ≤ a)) = false := by simp; omega
    have hA : VM.run plainI (cspace_Lookup.f 2000 root2 a) s = (VM.run plainI (cspace_Lookup.l1 a (1959 + 41) (0, 16, root2.Kind, root2.Rights, root2.Obj, root2.Badge, root2.Guard, root2.Bits)) s).bind fun p => VM.run plainI (Brk.go p.1 (fun r => VM.ret r) (fun (y1_0_e1, y1_1_e1, y1_2_e1, y1_3_e1, y1_4_e1, y1_5_e1) => VM.ret (0, (some 4)))) p.2 := by
      unfold cspace_Lookup.f
      rw [e1, cond_false, runB, fine_ok h.g.1, Option.bind_some, decide_eq_true fr, Bool.not_true, cond_false, runB]
    rw [hA, look_step h.g a 1959 0 16 root2 (by decide)]
    have hr : fld s root2.Obj 2 = 3 := h.a2
    have hr1 : fld s root2.Obj 1 = 0 := h.a1
    simp only [hr, hr1, show root2.Guard = 0 from rfl, show root2.Bits = 8 from rfl]
    have t1 : topOf a 16 8 = (a % 2 ^ 16 / 2 ^ 8, 0) := by unfold topOf; rw [if_pos (by omega), if_neg (by decide)]; rfl
    have t2 : topOf a (16 - 8) 3 = (a % 2 ^ 8 / 2 ^ 5, 0) := by unfold topOf; rw [if_pos (by omega), if_neg (by decide)]; rfl
    by_cases h2 : a < 256
    · have w1 : walkOf a 16 0 8 3 = (a / 32, 5, 0) := by
        unfold walkOf
        rw [if_pos ⟨h1.1, h1.2, by decide⟩, if_neg (by decide), t1, if_neg (by simp; omega), t2]
        refine Prod.ext ?_ rfl
        show a % 2 ^ 8 / 2 ^ 5 = a / 32
        omega
      rw [w1]
      have e2 : w64 (0 + a / 32) = a / 32 := by rw [w64_id (by omega) (by omega)]; omega
      simp only [ne_eq, not_true, if_false, show ¬ ((5 : Int) = 0) by decide, e2]
      rcases (by omega : a / 32 = 0 ∨ a / 32 = 1 ∨ 2 ≤ a / 32) with q | q | q
      · rw [q, h.c0, if_pos fs]
        have hB := look_step h.g a 1958 (0 + 1) 5 ⟨2, 7, 3, 0, 0, 0⟩ (by decide)
        rw [show 1958 + 41 = 1959 + 40 from rfl] at hB
        rw [hB]
        have w2 : walkOf a 5 0 0 5 = (a, 0, 0) := by
          have t3 : topOf a 5 0 = (0, 0) := by
            unfold topOf; rw [if_pos (by omega), if_neg (by decide)]
            refine Prod.ext ?_ rfl
            show a % 2 ^ 5 / 2 ^ 5 = 0
            omega
          have t4 : topOf a (5 - 0) 5 = (a, 0) := by
            unfold topOf; rw [if_pos (by omega), if_neg (by decide)]
            refine Prod.ext ?_ rfl
            show a % 2 ^ 5 / 2 ^ 0 = a
            omega
          unfold walkOf
          rw [if_pos ⟨h1.1, h1.2, by decide⟩, if_neg (by decide), t3, if_neg (by simp), t4]
          rfl
        simp only [h.b1, h.b2, w2, ne_eq, not_true, if_false, if_true, Option.bind_some]
        refine ⟨w64 (8 + a), none, rfl, ?_⟩
        rw [if_pos (by omega), w64_id (by omega) (by omega)]
        exact ⟨rfl, rfl⟩
      · rw [q, h.c1, if_pos fr]
        have hB := look_step h.g a 1958 (0 + 1) 5 root2 (by decide)
        rw [show 1958 + 41 = 1959 + 40 from rfl] at hB
        rw [hB]
        have w2 : walkOf a 5 0 8 3 = (0, 0, 4) := by
          unfold walkOf
          rw [if_pos ⟨h1.1, h1.2, by decide⟩, if_pos (by decide)]
        simp only [hr, show root2.Guard = 0 from rfl, show root2.Bits = 8 from rfl, w2, ne_eq, show ¬ ((4 : Int) = 0) by decide, not_false_iff, if_true, Option.bind_some]
        refine ⟨0, some 4, rfl, ?_⟩
        rw [if_neg (by omega)]; simp
      · have hk := h.cn (a / 32) q (by omega)
        rw [if_neg (fun z => by have := z.1; omega)]
        refine ⟨0, some 4, rfl, ?_⟩
        rw [if_neg (by omega)]; simp
    · have w1 : walkOf a 16 0 8 3 = (0, 0, 3) := by
        unfold walkOf
        rw [if_pos ⟨h1.1, h1.2, by decide⟩, if_neg (by decide), t1, if_pos (by simp; omega)]
      simp only [w1, ne_eq, show ¬ ((3 : Int) = 0) by decide, not_false_iff, if_true, Option.bind_some]
      refine ⟨0, some 3, rfl, ?_⟩
      rw [if_neg (by omega)]; simp
  · have e1 : (decide (a < 0) || decide (65536 ≤ a)) = true := by
      rw [← Bool.not_eq_false]; simp; omega
    refine ⟨0, some 1, ?_, ?_⟩
    · unfold cspace_Lookup.f
      rw [e1]; rfl
    · rw [if_neg (by omega)]; simp
theorem ok (a0 : List Int) (a1 : api_Cap) (a2 a3 : Int) (w0 : ∀ x ∈ a0, (Lit.int .u64 x).wf = true) (w1 : wf_api_Cap a1) (w2 : (Lit.int .i64 a2).wf = true) (w3 : (Lit.int .i64 a3).wf = true) : ∃ k, law11_CspaceJoins.f k a0 a1 a2 a3 = some true := by
  refine ⟨2000, ?_⟩
  have hu : law11_up.f 2000 = some true := by decide +kernel
  unfold law11_CspaceJoins.f
  rw [hu, Option.bind_some]
  by_cases hl : (738 : Int) < (a0.length : Int)
  · rw [decide_eq_true hl]; rfl
  · rw [decide_eq_false hl, cond_false]
    obtain ⟨z, hm, hz1, hz2⟩ : ∃ z : List Int, mk_ (0 : Int) 738 = some z ∧ z.length = 738 ∧ ∀ x ∈ z, x = 0 := ⟨List.replicate 738 0, by unfold mk_; rfl, List.length_replicate, fun x hx => List.eq_of_mem_replicate hx⟩
    have hg : GoodU (cpy z a0) := by
      have hlen : (cpy z a0).length = 738 := by unfold cpy; simp [hz1]; omega
      have hall : ∀ x ∈ cpy z a0, 0 ≤ x ∧ x ≤ 18446744073709551615 := by
        intro x hx
        unfold cpy at hx
        rcases List.mem_append.1 hx with h | h
        · exact fits_u64 (w0 x (List.mem_of_mem_take h))
        · have := hz2 x (List.mem_of_mem_drop h)
          omega
      refine ⟨⟨hlen, fun j => ?_⟩, fun j => ?_⟩ <;>
      · rw [List.getD]
        cases e : (cpy z a0)[j]? with
        | none => simp
        | some x => have := hall x (List.mem_of_getElem? e); simp; omega
    rw [hm, Option.bind_some]
    generalize cpy z a0 = s at hg
    obtain ⟨n, e, hn, he⟩ := lookup_ends hg 1900 a1 a2
    rw [show 1900 + 100 = 2000 from rfl] at hn
    rw [hn, Option.bind_some]
    have hi := init_ok
    unfold initB at hi
    cases hB : ref10_Boot.f 2000 2 with
    | none => simp [hB] at hi
    | some t =>
      simp only [hB] at hi
      cases hW : ref10_State_Words.f 2000 t with
      | none => simp [hW] at hi
      | some sb =>
        simp only [hW] at hi
        cases hO : at_ t.Objs 0 with
        | none => simp [hO] at hi
        | some o =>
          simp only [hO, Bool.and_eq_true, decide_eq_true_eq, beq_iff_eq, List.all_eq_true, List.mem_range] at hi
          obtain ⟨⟨⟨⟨⟨⟨⟨⟨⟨⟨i1, i2⟩, i3⟩, i4⟩, i5⟩, i6⟩, i7⟩, i8⟩, i9⟩, i10⟩, i11⟩ := hi
          have hb : BW sb := ⟨goodU_of i1, i3, i4, i5, i6, i7, i8, i9, i10, fun i q1 q2 => by
            have := i11 (i - 2).toNat (by omega)
            rw [show (((i - 2).toNat : Nat) : Int) + 2 = i by omega] at this
            exact this⟩
          obtain ⟨m, f, hf, hc⟩ := find_ok hb a3
          have rest : ((some t).bind fun t31 => (ref10_State_Words.f 2000 t31).bind fun t35 => (at_ t31.Objs 0).bind fun x39 => (VM.run plainI (cspace_Lookup.f 2000 x39.Root a3) t35).bind fun p => match p with | ((t48, t49), s51) => bif (decide (a3 < 0)) || (decide (31 < a3)) then (some (true && t49.isSome)) else (some ((true && t49.isNone) && (t48 == (w64 (8 + a3)))))) = some true := by
            rw [Option.bind_some, hW, Option.bind_some, hO, Option.bind_some, i2, hf, Option.bind_some]
            by_cases q : 0 ≤ a3 ∧ a3 ≤ 31
            · rw [if_pos q] at hc
              obtain ⟨rfl, rfl⟩ := hc
              have e1 : (decide (a3 < 0) || decide (31 < a3)) = false := by simp; omega
              simp only [e1, cond_false]
              rw [w64_id (by omega) (by omega)]; simp
            · rw [if_neg q] at hc
              have e1 : (decide (a3 < 0) || decide (31 < a3)) = true := by
                rw [← Bool.not_eq_false]; simp; omega
              simp only [e1, cond_true]
              cases f with
              | none => exact absurd rfl hc
              | some _ => rfl
          cases e with
          | some x => simpa using rest
          | none =>
            obtain ⟨q1, q2, q3⟩ := he rfl
            have e2 : (decide (n < 0) || decide (95 < n)) = false := by simp; omega
            simp only [Option.isNone_none, cond_true, e2, cond_false, fine_ok hg.1, decide_eq_true q3, Option.bind_some, Bool.not_true]
            exact rest

theorem own : ownKnob Try.prog.godebug = none := by kernel_rfl
theorem laidOut : laidOutB Try.prog = true := by kernel_rfl
set_option maxRecDepth 100000 in
theorem lifted (os : Os) (started : os.Started) (H : Type) (enc : TypeId × Value → H) :
    ReturnsInHanded {} Try.checked os 3 .any (Rows.cspaceJoinsSpec.pre6 enc Try.prog Try.f3 Rows.cspaceJoinsRow.domain false) (Rows.cspaceJoinsSpec.post enc Try.prog Try.f3 false true false false) := by
  refine returnsInHanded_of_change (C := Try.checked) own started (by kernel_rfl) Try.func3
    (ChangeSpec.witness6 (enc := enc) (C := Try.checked) false ⟨#[], #[.slice none 0 0, .agg #[.int .i64 0, .int .i64 0, .int .i64 0, .int .i64 0, .int .i64 0, .int .i64 0], .int .i64 0, .int .i64 0], []⟩ 8 (by kernel_rfl) (by kernel_rfl) (by kernel_rfl) (by kernel_rfl)) ?_
  intro W base args ds gs before hval0 hW hcnd _
  have hval : ∀ (j : Nat) t v, Try.f3.params[j]? = some t → args[j]? = some v → Value.okWide Try.prog W .any base t v := hval0
  have hW' := hW
  obtain ⟨p, q, hA0, hV, rfl, hfz, hnd⟩ := hW
  have hA : DataW.TrodAll enc Try.prog W 0 (fun _ => true) true Try.f3.params.toList args.toList ds p := hA0
  rw [Try.params3] at hA hval
  obtain ⟨v0, vs0, d0, ds0, p0, q0, hargs, rfl, rfl, h0, r0⟩ := trodAll_cons hA
  obtain ⟨v1, vs1, d1, ds1, p1, q1, rfl, rfl, rfl, h1, r1⟩ := trodAll_cons r0
  obtain ⟨v2, vs2, d2, ds2, p2, q2, rfl, rfl, rfl, h2, r2⟩ := trodAll_cons r1
  obtain ⟨v3, vs3, d3, ds3, p3, q3, rfl, rfl, rfl, h3, r3⟩ := trodAll_cons r2
  obtain ⟨rfl, rfl, rfl⟩ := trodAll_nil r3
  obtain rfl : args = #[v0, v1, v2, v3] := by cases args; simp_all
  obtain ⟨rfl, rfl⟩ := trodVars_none hV
  obtain ⟨a0, r0', w0, _⟩ := open_sl (K := ekI .u64) (parse_int Try.underlying72) Try.underlying22 (by kernel_rfl) (hval 0 22 v0 rfl rfl) h0
  obtain ⟨a1, rfl, w1⟩ := open_st pa_api_Cap Try.underlying24 (hval 1 24 v1 rfl rfl) h1
  obtain ⟨a2, rfl, rfl, rfl, w2⟩ := open_int Try.underlying3 (hval 2 3 v2 rfl rfl) h2
  obtain ⟨a3, rfl, rfl, rfl, w3⟩ := open_int Try.underlying3 (hval 3 3 v3 rfl rfl) h3
  obtain ⟨k, hk⟩ := ok a0 a1 a2 a3 w0 w1 w2 w3
  refine (Ct.law (law11_CspaceJoins.ct _ _ a0 a1 a2 a3 _ hk) (W := W) r0').mono fun e W' ⟨he, hg⟩ => ?_
  subst he
  exact ⟨_, rfl, law_post hW' laidOut (by kernel_rfl) hg (by kernel_rfl) Try.underlying4 rfl rfl⟩
theorem over : Rows.cspaceJoinsRow.holds Try.pinned (OpenSpec.ofChange Rows.cspaceJoinsSpec) :=
  OpenClaim.holds_of_wide 3 Try.f3 rfl rfl rfl rfl rfl rfl rfl ⟨rfl, rfl, rfl, rfl, rfl⟩ rfl rfl rfl rfl rfl (by kernel_rfl) Try.func3 (by kernel_rfl)
    (of_decide_eq_true (by kernel_rfl)) (by unfold Func.isWrapper; first | (rw [if_pos (by decide +kernel)]; kernel_rfl) | (rw [if_neg (by decide +kernel)]; exact ⟨rfl, rfl⟩))
    (fun os started H enc _ => lifted os started H enc)
theorem proved : Rows.CspaceJoinsSaid :=
  over
#print axioms proved
end Go.Proofs.Ytklkbgacjegplaa.cspaceJoins
