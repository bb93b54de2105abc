/- The given statement 'IrqOnce' of the given program: whatever the input, the law answers true and the input reads as it did. On no condition. -/
import Derived.Test.YtehlmdihimmanaaFnIrqOnce1
import Derived.Test.YtehlmdihimmanaaSlLaw
import Derived.Test.YtehlmdihimmanaaPureViewIrqOnce
import Derived.Test.YtehlmdihimmanaaPureNtfnIrqOnce
import Derived.Test.YtehlmdihimmanaaRows
set_option linter.all false
namespace Go.Proofs.Ytehlmdihimmanaa.irqOnce
open Go.ChangeShapes Go.WideShapes Go.ChangeAt Go.RowKit Go.Sl
def wf_law19_Deed (x : law19_Deed) : Prop := (fits .i64) x.What ∧ (fits .i64) x.A ∧ (fits .i64) x.B ∧ (fits .i64) x.N
theorem pa_law19_Deed : Parse Try.prog 31 (fun x : law19_Deed => [.int .i64 x.What, .int .i64 x.A, .int .i64 x.B, .int .i64 x.N]) wf_law19_Deed := by
  intro H enc w base sp hd n cs x h
  obtain ⟨xs, m, -, -, hl, hx, hf⟩ := DataW.trod_struct Try.underlying31 h
  rw [show Try.prog.cellsOf 31 = 4 by kernel_rfl] at hl
  obtain ⟨a0, e0, w0⟩ := parse_field (i := 0) (o := 0) (sz := 1) hx hf (parse_int Try.underlying3) rfl rfl rfl (by kernel_rfl)
  obtain ⟨a1, e1, w1⟩ := parse_field (i := 1) (o := 1) (sz := 1) hx hf (parse_int Try.underlying3) rfl rfl rfl (by kernel_rfl)
  obtain ⟨a2, e2, w2⟩ := parse_field (i := 2) (o := 2) (sz := 1) hx hf (parse_int Try.underlying3) rfl rfl rfl (by kernel_rfl)
  obtain ⟨a3, e3, w3⟩ := parse_field (i := 3) (o := 3) (sz := 1) hx hf (parse_int Try.underlying3) rfl rfl rfl (by kernel_rfl)
  clear hf hx h
  match cs, hl with
  | [c0, c1, c2, c3], _ =>
    simp at e0 e1 e2 e3
    subst e0 e1 e2 e3
    exact ⟨⟨a0, a1, a2, a3⟩, rfl, w0, w1, w2, w3⟩

open Go.Proofs
def Inv (b o : Bool) (s : List Int) : Prop :=
  Good s ∧ fld s 6 0 = 8 ∧ fld s 5 0 = 4 ∧ fld s 5 2 = 0 ∧ (b = true → fld s 6 1 = 6) ∧ (b = false → fld s 6 1 = 0 ∧ fld s 6 3 = 0) ∧ (b = true → (o = true ↔ fld s 6 3 = 0))
def initB : Bool := match (ref10_Boot.f 2000 1).bind fun t => ref10_State_Words.f 2000 t with
  | some s => goodB s && (fld s 6 0 == 8) && (fld s 5 0 == 4) && (fld s 5 2 == 0) && (fld s 6 1 == 0) && (fld s 6 3 == 0)
  | none => false
theorem init_ok : initB = true := by decide +kernel
theorem bind_ok {b o : Bool} {s : List Int} (h : Inv b o s) (n : Int) (hn : (Lit.int .i64 n).wf = true) : ∃ s', VM.run plainI (irq_Bind.f 6 5 n) s = some (none, s') ∧ Inv true true s' := by
  obtain ⟨g, h1, h2, h3, h4, h5, h6⟩ := h
  obtain ⟨hn1, hn2⟩ := fits_i64 hn
  have hb : 0 ≤ band .i64 n 65535 ∧ band .i64 n 65535 ≤ 65535 := band_ok n
  unfold irq_Bind.f
  simp only [runB, is_ok g 6 8 (by decide), is_ok g 5 4 (by decide), h1, h2, decide_true, Bool.not_true, cond_false, Option.bind_some, runR]
  have e1 : w64 (5 + 1) = 6 := by rfl
  rw [e1]
  have g1 := good_put g 6 1 6
  have g2 := good_put g1 6 2 (band .i64 n 65535)
  have g3 := good_put g2 6 3 0
  simp only [put_ok g 6 1 6 (by decide), put_ok g1 6 2 _ (by omega : band .i64 n 65535 ≤ 9223372036854775807), put_ok g2 6 3 0 (by decide), Option.bind_some]
  have f1 := fun i f => fld_put g 6 1 6 i f (by decide)
  have f2 := fun i f => fld_put g1 6 2 (band .i64 n 65535) i f (by omega)
  have f3 := fun i f => fld_put g2 6 3 0 i f (by decide)
  refine ⟨_, rfl, g3, ?_⟩
  simp [f1, f2, f3, InObj, h1, h2, h3]
theorem fire_ok {b o : Bool} {s : List Int} (h : Inv b o s) : ∃ s', VM.run plainI (irq_Fire.f 6) s = some ((b && o, none), s') ∧ Inv b (o && !(b && o)) s' := by
  obtain ⟨g, h1, h2, h3, h4, h5, h6⟩ := h
  unfold irq_Fire.f
  simp only [runB, is_ok g 6 8 (by decide), ref_ok g, field_ok g, h1, decide_true, Bool.not_true, cond_false, Option.bind_some, runR, runC]
  cases b with
  | false =>
    obtain ⟨q1, q2⟩ := h5 rfl
    rw [q1]
    refine ⟨s, by simp, g, h1, h2, h3, by simp, fun _ => ⟨q1, q2⟩, by simp⟩
  | true =>
    have q1 := h4 rfl
    have q2 := h6 rfl
    rw [q1]
    cases o with
    | false =>
      have q3 : fld s 6 3 ≠ 0 := fun e => by simpa using q2.2 e
      have q4 : (fld s 6 3 != 0) = true := by simpa using q3
      refine ⟨s, by simp [q4], g, h1, h2, h3, fun _ => q1, by simp, fun _ => by simp [q3]⟩
    | true =>
      have q3 := q2.1 rfl
      have g1 := good_put g 6 3 1
      have f1 := fun i f => fld_put g 6 3 1 i f (by decide)
      have hb : ∀ x, 0 ≤ band .i64 x 65535 ∧ band .i64 x 65535 ≤ 65535 := fun x => band_ok x
      obtain ⟨r, hr, hr2⟩ := signal_ok (s := put s 6 3 1) g1 (by simp [f1, InObj, h2]) (by simp [f1, InObj, h3]) (fld (put s 6 3 1) 6 2)
      refine ⟨put (put s 6 3 1) 5 1 r, ?_, ?_⟩
      · simp [q3, put_ok g 6 3 1 (by decide), field_ok g1, hr]
      · have f2 := fun i f => fld_put g1 5 1 r i f (by omega)
        refine ⟨good_put g1 _ _ _, ?_⟩
        simp [f1, f2, InObj, h1, h2, h3, q1]
theorem ack_ok {b o : Bool} {s : List Int} (h : Inv b o s) : ∃ s', VM.run plainI (irq_Ack.f 6) s = some (if b && !o then none else some 10, s') ∧ Inv b (o || (b && !o)) s' := by
  obtain ⟨g, h1, h2, h3, h4, h5, h6⟩ := h
  unfold irq_Ack.f
  simp only [runB, is_ok g 6 8 (by decide), field_ok g, h1, decide_true, Bool.not_true, cond_false, Option.bind_some, runR, runC]
  cases b with
  | false =>
    obtain ⟨q1, q2⟩ := h5 rfl
    refine ⟨s, by simp [q2], g, h1, h2, h3, by simp, fun _ => ⟨q1, q2⟩, by simp⟩
  | true =>
    have q1 := h4 rfl
    have q2 := h6 rfl
    cases o with
    | true =>
      have q3 := q2.1 rfl
      refine ⟨s, by simp [q3], g, h1, h2, h3, fun _ => q1, by simp, fun _ => by simp [q3]⟩
    | false =>
      have q3 : fld s 6 3 ≠ 0 := fun e => by simpa using q2.2 e
      have f1 := fun i f => fld_put g 6 3 0 i f (by decide)
      have q5 : (fld s 6 3 == 0) = false := by simpa using q3
      refine ⟨put s 6 3 0, by simp [q5, put_ok g 6 3 0 (by decide)], good_put g _ _ _, ?_⟩
      simp [f1, InObj, h1, h2, h3, q1]
theorem loop_ok (a0 : List law19_Deed) (hw : ∀ x ∈ a0, wf_law19_Deed x) (hl : a0.length ≤ 120) : ∀ (n k : Nat) (i : Int) (b o : Bool) (s : List Int), 0 ≤ i → i ≤ a0.length → (a0.length : Int) - i = n → n < k → Inv b o s → ∃ s', law19_IrqOnce.l1 a0 k (i, o, b, s) = some (Brk.nx s') := by
  intro n
  induction n with
  | zero =>
    intro k i b o s h0 h1 h2 hk hs
    obtain ⟨k, rfl⟩ : ∃ q, k = q + 1 := ⟨k - 1, by omega⟩
    unfold law19_IrqOnce.l1
    rw [decide_eq_false (by omega)]
    exact ⟨s, rfl⟩
  | succ n ih =>
    intro k i b o s h0 h1 h2 hk hs
    obtain ⟨k, rfl⟩ : ∃ q, k = q + 1 := ⟨k - 1, by omega⟩
    unfold law19_IrqOnce.l1
    rw [decide_eq_true (by omega), cond_true]
    obtain ⟨x, hx, hm⟩ := at_some h0 (by omega : i < (a0.length : Int))
    have w := hw x hm
    have hp : law10_Pick.f x.What 5 = some (pick x.What 5) := pick_ok w.1 (by decide) (by decide)
    have hr := pick_lt x.What (n := 5) (by decide)
    have e1 : w64 (i + 1) = i + 1 := w64_id (by omega) (by omega)
    simp only [hx, hp, Option.bind_some, e1]
    generalize pick x.What 5 = p at hr
    have next := fun b o s (hs : Inv b o s) => ih k (i + 1) b o s (by omega) (by omega) (by omega) (by omega) hs
    rcases (by omega : p = 0 ∨ p = 1 ∨ p = 2 ∨ p = 3 ∨ p = 4) with rfl | rfl | rfl | rfl | rfl
    · obtain ⟨s', hr, hi⟩ := bind_ok hs x.N w.2.2.2
      simp [hr]; exact next _ _ _ hi
    · obtain ⟨s', hr, hi⟩ := fire_ok hs
      simp only [hr]
      obtain ⟨s2, h2⟩ := next _ _ _ hi
      cases b <;> cases o <;> simp at h2 ⊢ <;> exact ⟨s2, h2⟩
    · obtain ⟨s', hr, hi⟩ := fire_ok hs
      simp only [hr]
      obtain ⟨s2, h2⟩ := next _ _ _ hi
      cases b <;> cases o <;> simp at h2 ⊢ <;> exact ⟨s2, h2⟩
    · obtain ⟨s', hr, hi⟩ := ack_ok hs
      simp only [hr]
      obtain ⟨s2, h2⟩ := next _ _ _ hi
      cases b <;> cases o <;> simp at h2 ⊢ <;> exact ⟨s2, h2⟩
    · exact next _ _ _ hs
theorem ok (a0 : List law19_Deed) (w0 : ∀ x ∈ a0, wf_law19_Deed x) : ∃ k, law19_IrqOnce.f k a0 = some true := by
  refine ⟨2000, ?_⟩
  have hu : law19_up.f 2000 = some true := by decide +kernel
  unfold law19_IrqOnce.f
  rw [hu, Option.bind_some]
  by_cases hl : (120 : Int) < (a0.length : Int)
  · rw [decide_eq_true hl]; rfl
  · rw [decide_eq_false hl, cond_false]
    have hi := init_ok
    unfold initB at hi
    cases hB : ref10_Boot.f 2000 1 with
    | none => simp [hB] at hi
    | some t =>
      simp only [hB, Option.bind_some] at hi ⊢
      cases hW : ref10_State_Words.f 2000 t with
      | none => simp [hW] at hi
      | some s =>
        simp only [hW, Option.bind_some] at hi ⊢
        simp only [Bool.and_eq_true, beq_iff_eq] at hi
        obtain ⟨⟨⟨⟨⟨g, e1⟩, e2⟩, e3⟩, e4⟩, e5⟩ := hi
        obtain ⟨s', hs'⟩ := loop_ok a0 w0 (by omega) a0.length 2000 0 false false s (by decide) (by omega) (by omega) (by omega) ⟨good_of g, e1, e2, e3, by simp, fun _ => ⟨e4, e5⟩, by simp⟩
        rw [hs']; rfl

theorem own : ownKnob Try.prog.godebug = none := by kernel_rfl
theorem laidOut : laidOutB Try.prog = true := by kernel_rfl
set_option maxRecDepth 100000 in
theorem lifted (os : Os) (started : os.Started) (H : Type) (enc : TypeId × Value → H) :
    ReturnsInHanded {} Try.checked os 3 .any (Rows.irqOnceSpec.pre6 enc Try.prog Try.f3 Rows.irqOnceRow.domain false) (Rows.irqOnceSpec.post enc Try.prog Try.f3 false true false false) := by
  refine returnsInHanded_of_change (C := Try.checked) own started (by kernel_rfl) Try.func3
    (ChangeSpec.witness6 (enc := enc) (C := Try.checked) false ⟨#[], #[.slice none 0 0], []⟩ 8 (by kernel_rfl) (by kernel_rfl) (by kernel_rfl) (by kernel_rfl)) ?_
  intro W base args ds gs before hval0 hW hcnd _
  have hval : ∀ (j : Nat) t v, Try.f3.params[j]? = some t → args[j]? = some v → Value.okWide Try.prog W .any base t v := hval0
  have hW' := hW
  obtain ⟨p, q, hA0, hV, rfl, hfz, hnd⟩ := hW
  have hA : DataW.TrodAll enc Try.prog W 0 (fun _ => true) true Try.f3.params.toList args.toList ds p := hA0
  rw [Try.params3] at hA hval
  obtain ⟨v0, vs0, d0, ds0, p0, q0, hargs, rfl, rfl, h0, r0⟩ := trodAll_cons hA
  obtain ⟨rfl, rfl, rfl⟩ := trodAll_nil r0
  obtain rfl : args = #[v0] := by cases args; simp_all
  obtain ⟨rfl, rfl⟩ := trodVars_none hV
  obtain ⟨a0, r0', w0, _⟩ := open_sl (K := ek_law19_Deed) pa_law19_Deed Try.underlying22 (by kernel_rfl) (hval 0 22 v0 rfl rfl) h0
  obtain ⟨k, hk⟩ := ok a0 w0
  refine (Ct.law (law19_IrqOnce.ct _ _ a0 _ hk) (W := W) r0').mono fun e W' ⟨he, hg⟩ => ?_
  subst he
  exact ⟨_, rfl, law_post hW' laidOut (by kernel_rfl) hg (by kernel_rfl) Try.underlying4 rfl rfl⟩
theorem over : Rows.irqOnceRow.holds Try.pinned (OpenSpec.ofChange Rows.irqOnceSpec) :=
  OpenClaim.holds_of_wide 3 Try.f3 rfl rfl rfl rfl rfl rfl rfl ⟨rfl, rfl, rfl, rfl, rfl⟩ rfl rfl rfl rfl rfl (by kernel_rfl) Try.func3 (by kernel_rfl)
    (of_decide_eq_true (by kernel_rfl)) (by unfold Func.isWrapper; first | (rw [if_pos (by decide +kernel)]; kernel_rfl) | (rw [if_neg (by decide +kernel)]; exact ⟨rfl, rfl⟩))
    (fun os started H enc _ => lifted os started H enc)
theorem proved : Rows.IrqOnceSaid :=
  over
#print axioms proved
end Go.Proofs.Ytehlmdihimmanaa.irqOnce
