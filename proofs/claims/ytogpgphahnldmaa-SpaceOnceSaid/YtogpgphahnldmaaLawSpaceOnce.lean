/- The given statement 'SpaceOnce' of the given program: whatever the input, the law answers true and the input reads as it did. On no condition. -/
import Derived.Test.YtogpgphahnldmaaFnSpaceOnce1
import Derived.Test.YtogpgphahnldmaaSlLaw
import Derived.Test.YtogpgphahnldmaaP18SpaceInvSpaceOnce
import Derived.Test.YtogpgphahnldmaaRows
set_option linter.all false
namespace Go.Proofs.Ytogpgphahnldmaa.spaceOnce
open Go.ChangeShapes Go.WideShapes Go.ChangeAt Go.RowKit Go.Sl
def wf_law18_Deed (x : law18_Deed) : Prop := (fun _ => True) x.Un ∧ (fits .i64) x.A ∧ (fits .i64) x.B ∧ (fits .i64) x.Page ∧ (fits .i64) x.Rights
theorem pa_law18_Deed : Parse Try.prog 30 (fun x : law18_Deed => [.bool x.Un, .int .i64 x.A, .int .i64 x.B, .int .i64 x.Page, .int .i64 x.Rights]) wf_law18_Deed := by
  intro H enc w base sp hd n cs x h
  obtain ⟨xs, m, -, -, hl, hx, hf⟩ := DataW.trod_struct Try.underlying30 h
  rw [show Try.prog.cellsOf 30 = 5 by kernel_rfl] at hl
  obtain ⟨a0, e0, w0⟩ := parse_field (i := 0) (o := 0) (sz := 1) hx hf (parse_bool Try.underlying4) rfl rfl rfl (by kernel_rfl)
  obtain ⟨a1, e1, w1⟩ := parse_field (i := 1) (o := 1) (sz := 1) hx hf (parse_int Try.underlying3) rfl rfl rfl (by kernel_rfl)
  obtain ⟨a2, e2, w2⟩ := parse_field (i := 2) (o := 2) (sz := 1) hx hf (parse_int Try.underlying3) rfl rfl rfl (by kernel_rfl)
  obtain ⟨a3, e3, w3⟩ := parse_field (i := 3) (o := 3) (sz := 1) hx hf (parse_int Try.underlying3) rfl rfl rfl (by kernel_rfl)
  obtain ⟨a4, e4, w4⟩ := parse_field (i := 4) (o := 4) (sz := 1) hx hf (parse_int Try.underlying3) rfl rfl rfl (by kernel_rfl)
  clear hf hx h
  match cs, hl with
  | [c0, c1, c2, c3, c4], _ =>
    simp at e0 e1 e2 e3 e4
    subst e0 e1 e2 e3 e4
    exact ⟨⟨a0, a1, a2, a3, a4⟩, rfl, w0, w1, w2, w3, w4⟩

open Go.Proofs
/-- How often each frame was met, ahead of the n-th page. -/
def met (s : List Int) (n f : Int) : Int := if fld s f 1 ≠ 0 ∧ 4 * (fld s f 1 - 5) + fld s f 2 < n then 1 else 0
def mets (s : List Int) (n : Int) : List Int := [met s n 0, met s n 1, met s n 2, met s n 3]
theorem mets_at (s : List Int) (n f : Int) (h : 0 ≤ f ∧ f < 4) : at_ (mets s n) f = some (met s n f) := by
  rcases (by omega : f = 0 ∨ f = 1 ∨ f = 2 ∨ f = 3) with rfl | rfl | rfl | rfl <;> rfl
theorem mets_none {s : List Int} (h : SInv s) {b p : Int} (hb : 4 ≤ b ∧ b < 6) (hp : 0 ≤ p ∧ p < 4) (hv : (pgv s b p).2.2 = false) : mets s (4 * (b - 4) + p) = mets s (4 * (b - 4) + (p + 1)) := by
  have hw := h.pgv_none hb hp hv
  have key : ∀ f, 0 ≤ f → f < 4 → met s (4 * (b - 4) + p) f = met s (4 * (b - 4) + (p + 1)) f := by
    intro f h1 h2
    unfold met
    rcases h.a f h1 h2 with q | q
    · rw [if_neg (by omega), if_neg (by omega)]
    · by_cases e : fld s f 1 - 1 = b ∧ fld s f 2 = p
      · rw [e.1, e.2, hw] at q; omega
      · by_cases q2 : 4 * (fld s f 1 - 5) + fld s f 2 < 4 * (b - 4) + p
        · rw [if_pos (by omega), if_pos (by omega)]
        · rw [if_neg (by omega), if_neg (by omega)]
  unfold mets
  rw [key 0 (by decide) (by decide), key 1 (by decide) (by decide), key 2 (by decide) (by decide), key 3 (by decide) (by decide)]
theorem mets_some {s : List Int} (h : SInv s) {b p : Int} (hv : (pgv s b p).2.2 = true) : met s (4 * (b - 4) + p) (pgv s b p).1 = 0 ∧ (mets s (4 * (b - 4) + p)).set (pgv s b p).1.toNat 1 = mets s (4 * (b - 4) + (p + 1)) := by
  obtain ⟨h1, h2, h3, h4, h5, h6, h7, h8, h9⟩ := h.pgv_some hv
  generalize (pgv s b p).1 = f at *
  have m0 : met s (4 * (b - 4) + p) f = 0 := by unfold met; rw [if_neg (by omega)]
  have m1 : met s (4 * (b - 4) + (p + 1)) f = 1 := by unfold met; rw [if_pos (by omega)]
  have key : ∀ e, 0 ≤ e → e < 4 → e ≠ f → met s (4 * (b - 4) + p) e = met s (4 * (b - 4) + (p + 1)) e := by
    intro e q1 q2 q3
    unfold met
    rcases h.a e q1 q2 with q | q
    · rw [if_neg (by omega), if_neg (by omega)]
    · by_cases z : fld s e 1 - 1 = b ∧ fld s e 2 = p
      · rw [z.1, z.2] at q; omega
      · by_cases q2 : 4 * (fld s e 1 - 5) + fld s e 2 < 4 * (b - 4) + p
        · rw [if_pos (by omega), if_pos (by omega)]
        · rw [if_neg (by omega), if_neg (by omega)]
  refine ⟨m0, ?_⟩
  unfold mets
  rcases (by omega : f = 0 ∨ f = 1 ∨ f = 2 ∨ f = 3) with rfl | rfl | rfl | rfl
  · rw [m1, ← key 1 (by decide) (by decide) (by decide), ← key 2 (by decide) (by decide) (by decide), ← key 3 (by decide) (by decide) (by decide)]; rfl
  · rw [m1, ← key 0 (by decide) (by decide) (by decide), ← key 2 (by decide) (by decide) (by decide), ← key 3 (by decide) (by decide) (by decide)]; rfl
  · rw [m1, ← key 1 (by decide) (by decide) (by decide), ← key 0 (by decide) (by decide) (by decide), ← key 3 (by decide) (by decide) (by decide)]; rfl
  · rw [m1, ← key 1 (by decide) (by decide) (by decide), ← key 2 (by decide) (by decide) (by decide), ← key 0 (by decide) (by decide) (by decide)]; rfl
theorem l4_ok {s : List Int} (h : SInv s) {b : Int} (hb : 4 ≤ b ∧ b < 6) : ∀ (n k : Nat) (p : Int), 0 ≤ p → 4 - p = n → n < k → law18_SpaceOnce.l4 b k (p, s, mets s (4 * (b - 4) + p)) = some (Brk.nx (4, 4, false, s, mets s (4 * (b - 4) + 4))) := by
  intro n
  induction n with
  | zero =>
    intro k p h0 h1 hk
    obtain ⟨k, rfl⟩ : ∃ q, k = q + 1 := ⟨k - 1, by omega⟩
    obtain rfl : p = 4 := by omega
    rfl
  | succ n ih =>
    intro k p h0 h1 hk
    obtain ⟨k, rfl⟩ : ∃ q, k = q + 1 := ⟨k - 1, by omega⟩
    have hn := ih k (p + 1) (by omega) (by omega) (by omega)
    unfold law18_SpaceOnce.l4
    have e1 : w64 (p + 1) = p + 1 := w64_id (by omega) (by omega)
    rw [decide_eq_true (by omega), cond_true, page_ok h.g, Option.bind_some, e1]
    cases hv : (pgv s b p).2.2 with
    | false =>
      rw [mets_none h hb ⟨h0, by omega⟩ hv]
      simp only [hv, cond_false]
      exact hn
    | true =>
      obtain ⟨m0, m1⟩ := mets_some h hv
      obtain ⟨-, -, -, -, h5, h6, -⟩ := h.pgv_some hv
      have e2 : (decide ((pgv s b p).1 < 0) || decide (3 < (pgv s b p).1)) = false := by simp; omega
      simp only [hv, cond_true, e2, cond_false, mets_at s _ _ ⟨h5, h6⟩, Option.bind_some, m0]
      rw [show w64 (0 + 1) = 1 from rfl, m1]
      exact hn
theorem l3_ok {s : List Int} (h : SInv s) (k : Nat) (hk : 20 < k) : law18_SpaceOnce.l3 k (4, s, mets s 0) = some (Brk.nx (6, 6, false, mets s 8, s)) := by
  obtain ⟨k, rfl⟩ : ∃ q, k = q + 3 := ⟨k - 3, by omega⟩
  unfold law18_SpaceOnce.l3
  have a := l4_ok h (b := 4) (by decide) 4 (k + 2) 0 (by decide) (by decide) (by omega)
  have b := l4_ok h (b := 5) (by decide) 4 (k + 1) 0 (by decide) (by decide) (by omega)
  simp only [show (4 : Int) * (4 - 4) + 0 = 0 from rfl, show (4 : Int) * (4 - 4) + 4 = 4 from rfl] at a
  simp only [show (4 : Int) * (5 - 4) + 0 = 4 from rfl, show (4 : Int) * (5 - 4) + 4 = 8 from rfl] at b
  rw [decide_eq_true (by decide), cond_true, a, Option.bind_some]
  show law18_SpaceOnce.l3 (k + 2) (w64 (4 + 1), s, mets s 4) = _
  rw [show w64 (4 + 1) = 5 from rfl]
  unfold law18_SpaceOnce.l3
  rw [decide_eq_true (by decide), cond_true, b, Option.bind_some]
  rfl
theorem met_le (s : List Int) (n f : Int) : met s n f ≤ 1 := by unfold met; split <;> omega
theorem l5_ok (s : List Int) (k : Nat) (hk : 20 < k) : law18_SpaceOnce.l5 (mets s 8) k 0 = some (Brk.nx (4, 4, false)) := by
  obtain ⟨k, rfl⟩ : ∃ q, k = q + 5 := ⟨k - 5, by omega⟩
  have key : ∀ (k : Nat) (f : Int), 0 ≤ f → f < 4 → law18_SpaceOnce.l5 (mets s 8) (k + 1) f = law18_SpaceOnce.l5 (mets s 8) k (f + 1) := by
    intro k f h1 h2
    conv => lhs; unfold law18_SpaceOnce.l5
    rw [decide_eq_true h2, cond_true, mets_at s 8 f ⟨h1, h2⟩, Option.bind_some, decide_eq_false (by have := met_le s 8 f; omega), cond_false, w64_id (by omega) (by omega)]
  rw [key _ 0 (by decide) (by decide), key _ (0 + 1) (by decide) (by decide), key _ (0 + 1 + 1) (by decide) (by decide), key _ (0 + 1 + 1 + 1) (by decide) (by decide)]
  rfl
theorem loop_ok (a0 : List law18_Deed) (hl : a0.length ≤ 120) : ∀ (n k : Nat) (i : Int) (s : List Int), 0 ≤ i → i ≤ a0.length → (a0.length : Int) - i = n → n + 100 < k → SInv s → ∃ s', law18_SpaceOnce.l1 a0 k (i, s) = some (Brk.nx s') ∧ SInv s' := by
  intro n
  induction n with
  | zero =>
    intro k i s h0 h1 h2 hk hs
    obtain ⟨k, rfl⟩ : ∃ q, k = q + 1 := ⟨k - 1, by omega⟩
    unfold law18_SpaceOnce.l1
    rw [decide_eq_false (by omega)]
    exact ⟨s, rfl, hs⟩
  | succ n ih =>
    intro k i s h0 h1 h2 hk hs
    obtain ⟨k, rfl⟩ : ∃ q, k = q + 1 := ⟨k - 1, by omega⟩
    unfold law18_SpaceOnce.l1
    rw [decide_eq_true (by omega), cond_true]
    obtain ⟨x, hx, -⟩ := at_some h0 (by omega : i < (a0.length : Int))
    have e1 : w64 (i + 1) = i + 1 := w64_id (by omega) (by omega)
    have em : mk_ (0 : Int) 4 = some [0, 0, 0, 0] := rfl
    have step : ∃ s', (bif x.Un then ((VM.run plainI (space_Unmap.f x.A) s).bind fun p => match p with | (t18, s20) => some s20) else ((VM.run plainI (space_Map.f x.A x.B x.Page x.Rights) s).bind fun p => match p with | (t22, s24) => some s24)) = some s' ∧ SInv s' := by
      cases x.Un with
      | true =>
        rw [cond_true, unmap_ok hs.g]
        refine ⟨_, rfl, ?_⟩
        by_cases q : unBad s x.A = 0
        · rw [if_pos q]; exact (hs.un q).1
        · rw [if_neg q]; exact hs
      | false =>
        rw [cond_false, map_ok hs.g]
        refine ⟨_, rfl, ?_⟩
        by_cases q : mapBad s x.A x.B x.Page x.Rights = 0
        · rw [if_pos q]; exact (hs.map q).1
        · rw [if_neg q]; exact hs
    obtain ⟨s', hs', hi⟩ := step
    have e0 : mets s' 0 = [0, 0, 0, 0] := by
      have : ∀ f, 0 ≤ f → f < 4 → met s' 0 f = 0 := by
        intro f q1 q2
        unfold met
        rcases hi.a f q1 q2 with q | q <;> rw [if_neg (by omega)]
      unfold mets
      rw [this 0 (by decide) (by decide), this 1 (by decide) (by decide), this 2 (by decide) (by decide), this 3 (by decide) (by decide)]
    obtain ⟨s2, h2', hi2⟩ := ih k (i + 1) s' (by omega) (by omega) (by omega) (by omega) hi
    refine ⟨s2, ?_, hi2⟩
    rw [hx, Option.bind_some, hs', Option.bind_some, em, Option.bind_some, ← e0, l3_ok hi k (by omega), Option.bind_some]
    show ((law18_SpaceOnce.l5 (mets s' 8) k 0).bind _) = _
    rw [l5_ok s' k (by omega), Option.bind_some, e1]
    exact h2'
theorem l7_ok {s : List Int} (g : Good s) {f b : Int} (hb : 4 ≤ b ∧ b < 6) (hf : ∀ p, 0 ≤ p → p < 4 → ¬ ((pgv s b p).2.2 = true ∧ (pgv s b p).1 = f)) : ∀ (n k : Nat) (p : Int), 0 ≤ p → 4 - p = n → n < k → law18_SpaceOnce.l7 f b k (p, s) = some (Brk.nx (4, 4, false, s)) := by
  intro n
  induction n with
  | zero =>
    intro k p h0 h1 hk
    obtain ⟨k, rfl⟩ : ∃ q, k = q + 1 := ⟨k - 1, by omega⟩
    obtain rfl : p = 4 := by omega
    rfl
  | succ n ih =>
    intro k p h0 h1 hk
    obtain ⟨k, rfl⟩ : ∃ q, k = q + 1 := ⟨k - 1, by omega⟩
    have hn := ih k (p + 1) (by omega) (by omega) (by omega)
    unfold law18_SpaceOnce.l7
    have e1 : w64 (p + 1) = p + 1 := w64_id (by omega) (by omega)
    have e2 : ((pgv s b p).2.2 && ((pgv s b p).1 == f)) = false := by
      rw [Bool.eq_false_iff]; simpa using hf p h0 (by omega)
    rw [decide_eq_true (by omega), cond_true, page_ok g, Option.bind_some, e1]
    simp only [e2, cond_false]
    exact hn
theorem l6_ok {s : List Int} (g : Good s) {f : Int} (hf : ∀ b p, 4 ≤ b → b < 6 → 0 ≤ p → p < 4 → ¬ ((pgv s b p).2.2 = true ∧ (pgv s b p).1 = f)) (k : Nat) (hk : 20 < k) : law18_SpaceOnce.l6 f k (4, s) = some (Brk.nx s) := by
  obtain ⟨k, rfl⟩ : ∃ q, k = q + 3 := ⟨k - 3, by omega⟩
  unfold law18_SpaceOnce.l6
  rw [decide_eq_true (by decide), cond_true, l7_ok g (b := 4) (by decide) (fun p => hf 4 p (by decide) (by decide)) 4 (k + 2) 0 (by decide) (by decide) (by omega), Option.bind_some]
  show law18_SpaceOnce.l6 f (k + 2) (w64 (4 + 1), s) = _
  rw [show w64 (4 + 1) = 5 from rfl]
  unfold law18_SpaceOnce.l6
  rw [decide_eq_true (by decide), cond_true, l7_ok g (b := 5) (by decide) (fun p => hf 5 p (by decide) (by decide)) 4 (k + 1) 0 (by decide) (by decide) (by omega), Option.bind_some]
  rfl
def initB : Bool := match (law18_begun.f 2000).bind fun t => ref10_State_Words.f 2000 t with
  | some s => beginB s
  | none => false
theorem init_ok : initB = true := by decide +kernel
theorem ok (a0 : List law18_Deed) (a1 : Int) (w0 : ∀ x ∈ a0, wf_law18_Deed x) (w1 : (Lit.int .i64 a1).wf = true) : ∃ k, law18_SpaceOnce.f k a0 a1 = some true := by
  refine ⟨2000, ?_⟩
  have hu : law18_up.f 2000 = some true := by decide +kernel
  unfold law18_SpaceOnce.f
  rw [hu, Option.bind_some]
  by_cases hl : (120 : Int) < (a0.length : Int)
  · rw [decide_eq_true hl]; rfl
  · rw [decide_eq_false hl, cond_false]
    have hi := init_ok
    unfold initB at hi
    cases hB : law18_begun.f 2000 with
    | none => simp [hB] at hi
    | some t =>
      simp only [hB, Option.bind_some] at hi ⊢
      cases hW : ref10_State_Words.f 2000 t with
      | none => simp [hW] at hi
      | some s =>
        simp only [hW, Option.bind_some] at hi ⊢
        obtain ⟨s', hs', hv⟩ := loop_ok a0 (by omega) a0.length 2000 0 s (by decide) (by omega) (by omega) (by omega) (SInv.begin hi)
        have hp := pick_lt a1 (n := 4) (by decide)
        rw [hs', Option.bind_some]
        show ((law10_Pick.f a1 4).bind _) = _
        rw [pick_ok w1 (by decide) (by decide), Option.bind_some, unmap_ok hv.g, Option.bind_some]
        generalize pick a1 4 = f at hp
        -- behind it the frame is nowhere
        have key : ∃ s2, (if unBad s' f = 0 then unTo s' f else s') = s2 ∧ SInv s2 ∧ fld s2 f 1 = 0 := by
          refine ⟨_, rfl, ?_⟩
          by_cases q : unBad s' f = 0
          · rw [if_pos q]
            obtain ⟨i1, -, -, -, -, -, -, -, F, -⟩ := hv.un q
            refine ⟨i1, ?_⟩
            rw [F, if_neg (by omega), if_pos (by omega)]
          · rw [if_neg q]
            refine ⟨hv, ?_⟩
            rcases hv.a f hp.1 hp.2 with z | z
            · exact z.1
            · exfalso; apply q; unfold unBad; rw [if_neg (fun z2 => z2 (hv.fr f hp.1 hp.2)), if_neg (fun z2 => z2 (by omega))]
        obtain ⟨s2, e2, h2, h0⟩ := key
        have hno : ∀ b p, 4 ≤ b → b < 6 → 0 ≤ p → p < 4 → ¬ ((pgv s2 b p).2.2 = true ∧ (pgv s2 b p).1 = f) := by
          rintro b p - - - - ⟨z1, z2⟩
          obtain ⟨z3, -, -, -, -, -, z4, -⟩ := h2.pgv_some z1
          rw [z2, h0] at z4; omega
        have hb2 : unBad s2 f = 10 := by
          unfold unBad; rw [if_neg (fun z2 => z2 (h2.fr f hp.1 hp.2)), if_pos (by omega)]
        simp only [e2]
        rw [l6_ok h2.g hno 2000 (by decide), Option.bind_some]
        show ((bif true then ((VM.run plainI (space_Unmap.f f) s2).bind _) else _).bind _) = _
        rw [cond_true, unmap_ok h2.g, hb2]
        rfl

theorem own : ownKnob Try.prog.godebug = none := by kernel_rfl
theorem laidOut : laidOutB Try.prog = true := by kernel_rfl
set_option maxRecDepth 100000 in
theorem lifted (os : Os) (started : os.Started) (H : Type) (enc : TypeId × Value → H) :
    ReturnsInHanded {} Try.checked os 4 .any (Rows.spaceOnceSpec.pre6 enc Try.prog Try.f4 Rows.spaceOnceRow.domain false) (Rows.spaceOnceSpec.post enc Try.prog Try.f4 false true false false) := by
  refine returnsInHanded_of_change (C := Try.checked) own started (by kernel_rfl) Try.func4
    (ChangeSpec.witness6 (enc := enc) (C := Try.checked) false ⟨#[], #[.slice none 0 0, .int .i64 0], []⟩ 8 (by kernel_rfl) (by kernel_rfl) (by kernel_rfl) (by kernel_rfl)) ?_
  intro W base args ds gs before hval0 hW hcnd _
  have hval : ∀ (j : Nat) t v, Try.f4.params[j]? = some t → args[j]? = some v → Value.okWide Try.prog W .any base t v := hval0
  have hW' := hW
  obtain ⟨p, q, hA0, hV, rfl, hfz, hnd⟩ := hW
  have hA : DataW.TrodAll enc Try.prog W 0 (fun _ => true) true Try.f4.params.toList args.toList ds p := hA0
  rw [Try.params4] at hA hval
  obtain ⟨v0, vs0, d0, ds0, p0, q0, hargs, rfl, rfl, h0, r0⟩ := trodAll_cons hA
  obtain ⟨v1, vs1, d1, ds1, p1, q1, rfl, rfl, rfl, h1, r1⟩ := trodAll_cons r0
  obtain ⟨rfl, rfl, rfl⟩ := trodAll_nil r1
  obtain rfl : args = #[v0, v1] := by cases args; simp_all
  obtain ⟨rfl, rfl⟩ := trodVars_none hV
  obtain ⟨a0, r0', w0, _⟩ := open_sl (K := ek_law18_Deed) pa_law18_Deed Try.underlying22 (by kernel_rfl) (hval 0 22 v0 rfl rfl) h0
  obtain ⟨a1, rfl, rfl, rfl, w1⟩ := open_int Try.underlying3 (hval 1 3 v1 rfl rfl) h1
  obtain ⟨k, hk⟩ := ok a0 a1 w0 w1
  refine (Ct.law (law18_SpaceOnce.ct _ _ a0 a1 _ hk) (W := W) r0').mono fun e W' ⟨he, hg⟩ => ?_
  subst he
  exact ⟨_, rfl, law_post hW' laidOut (by kernel_rfl) hg (by kernel_rfl) Try.underlying4 rfl rfl⟩
theorem over : Rows.spaceOnceRow.holds Try.pinned (OpenSpec.ofChange Rows.spaceOnceSpec) :=
  OpenClaim.holds_of_wide 4 Try.f4 rfl rfl rfl rfl rfl rfl rfl ⟨rfl, rfl, rfl, rfl, rfl⟩ rfl rfl rfl rfl rfl (by kernel_rfl) Try.func4 (by kernel_rfl)
    (of_decide_eq_true (by kernel_rfl)) (by unfold Func.isWrapper; first | (rw [if_pos (by decide +kernel)]; kernel_rfl) | (rw [if_neg (by decide +kernel)]; exact ⟨rfl, rfl⟩))
    (fun os started H enc _ => lifted os started H enc)
theorem proved : Rows.SpaceOnceSaid :=
  over
#print axioms proved
end Go.Proofs.Ytogpgphahnldmaa.spaceOnce
