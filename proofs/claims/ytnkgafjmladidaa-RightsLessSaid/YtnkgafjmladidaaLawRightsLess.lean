/- The given statement 'RightsLess' of the given program: whatever the input, the law answers true and the input reads as it did. On no condition. -/
import Derived.Test.YtnkgafjmladidaaFnRightsLess0
import Derived.Test.YtnkgafjmladidaaSlLaw
import Derived.Test.YtnkgafjmladidaaPureRightsRightsLess
import Derived.Test.YtnkgafjmladidaaRows
set_option linter.all false
namespace Go.Proofs.Ytnkgafjmladidaa.rightsLess
open Go.ChangeShapes Go.WideShapes Go.ChangeAt Go.RowKit Go.Sl
def wf_api_Cap (x : api_Cap) : Prop := (fits .i64) x.Kind ∧ (fits .i64) x.Rights ∧ (fits .i64) x.Obj ∧ (fits .i64) x.Badge ∧ (fits .i64) x.Guard ∧ (fits .i64) x.Bits
theorem pa_api_Cap : Parse Try.prog 53 (fun x : api_Cap => [.int .i64 x.Kind, .int .i64 x.Rights, .int .i64 x.Obj, .int .i64 x.Badge, .int .i64 x.Guard, .int .i64 x.Bits]) wf_api_Cap := by
  intro H enc w base sp hd n cs x h
  obtain ⟨xs, m, -, -, hl, hx, hf⟩ := DataW.trod_struct Try.underlying53 h
  rw [show Try.prog.cellsOf 53 = 6 by kernel_rfl] at hl
  obtain ⟨a0, e0, w0⟩ := parse_field (i := 0) (o := 0) (sz := 1) hx hf (parse_int Try.underlying3) rfl rfl rfl (by kernel_rfl)
  obtain ⟨a1, e1, w1⟩ := parse_field (i := 1) (o := 1) (sz := 1) hx hf (parse_int Try.underlying3) rfl rfl rfl (by kernel_rfl)
  obtain ⟨a2, e2, w2⟩ := parse_field (i := 2) (o := 2) (sz := 1) hx hf (parse_int Try.underlying3) rfl rfl rfl (by kernel_rfl)
  obtain ⟨a3, e3, w3⟩ := parse_field (i := 3) (o := 3) (sz := 1) hx hf (parse_int Try.underlying3) rfl rfl rfl (by kernel_rfl)
  obtain ⟨a4, e4, w4⟩ := parse_field (i := 4) (o := 4) (sz := 1) hx hf (parse_int Try.underlying3) rfl rfl rfl (by kernel_rfl)
  obtain ⟨a5, e5, w5⟩ := parse_field (i := 5) (o := 5) (sz := 1) hx hf (parse_int Try.underlying3) rfl rfl rfl (by kernel_rfl)
  clear hf hx h
  match cs, hl with
  | [c0, c1, c2, c3, c4, c5], _ =>
    simp at e0 e1 e2 e3 e4 e5
    subst e0 e1 e2 e3 e4 e5
    exact ⟨⟨a0, a1, a2, a3, a4, a5⟩, rfl, w0, w1, w2, w3, w4, w5⟩

open Go.Proofs
theorem up03 : law03_up.f = some true := by
  have h3 : CapMay ⟨3, 7, 1, 0, 0, 0⟩ := by unfold CapMay; decide
  have e1 : drv ⟨3, 7, 1, 0, 0, 0⟩ 3 = (⟨3, 3, 1, 0, 0, 0⟩, 0) := by
    unfold drv
    rw [if_pos ⟨by decide, h3, by decide⟩, if_neg (by decide)]
    rw [show band .i64 (⟨3, 7, 1, 0, 0, 0⟩ : api_Cap).Rights 3 = 3 by decide +kernel]
  have e2 : mnt ⟨3, 7, 1, 0, 0, 0⟩ 3 0 = (⟨0, 0, 0, 0, 0, 0⟩, 1) := by
    unfold mnt
    rw [if_neg (fun h => by have := h.2.2.2.2.1; revert this; decide)]
  unfold law03_up.f
  rw [derive_ok, mint_ok, e1, e2]
  unfold rights_Has.f rights_Within.f
  decide +kernel
theorem less_may {c : api_Cap} {r b : Int} (h : CapMay c) (hr : 0 ≤ r ∧ r ≤ 7) (hk : c.Kind ≠ 0) (hb : (b = c.Badge) ∨ ((c.Kind = 3 ∨ c.Kind = 4) ∧ 0 ≤ b ∧ b ≤ 65535)) : CapMay ⟨c.Kind, r, c.Obj, b, c.Guard, c.Bits⟩ := by
  unfold CapMay at h ⊢
  simp only
  obtain ⟨h1, h2, h3, h4, h5, h6, h7, h8, h9, h10, h11, h12, h13, h14, h15⟩ := h
  refine ⟨h1, h2, hr.1, hr.2, h5, h6, by omega, by omega, h9, h10, fun h => absurd h hk, by omega, h13, h14, h15⟩
theorem ok (a0 : api_Cap) (a1 a2 a3 : Int) (_w0 : wf_api_Cap a0) (_w1 : (Lit.int .i64 a1).wf = true) (_w2 : (Lit.int .i64 a2).wf = true) (_w3 : (Lit.int .i64 a3).wf = true) : ∃ k, law03_RightsLess.f k a0 a1 a2 a3 = some true := by
  refine ⟨40, ?_⟩
  have tail : ∀ t2 : Bool, t2 = true → ((rights_Mint.f a0 a1 a3).bind fun (t40, t41) => bif t41.isSome then (some t2) else ((ref01_May.f 40 t40).bind fun t45 => (rights_Mint.f t40 a1 a3).bind fun (t47, t48) => (bif t2 && t45 then ((rights_Within.f t40 a0).bind fun t55 => some t55) else (some false)).bind fun c53 => (bif c53 then (some (t40.Badge == a3)) else (some false)).bind fun c58 => some (c58 && (t48 == some 10)))) = some true := by
    intro t2 ht
    subst ht
    rw [mint_ok]
    by_cases h : a0.Kind ≠ 0 ∧ CapMay a0 ∧ 0 ≤ a1 ∧ a1 ≤ 7 ∧ 1 ≤ a3 ∧ a3 ≤ 65535
    · by_cases hk : a0.Kind ≠ 3 ∧ a0.Kind ≠ 4
      · rw [show mnt a0 a1 a3 = (⟨0, 0, 0, 0, 0, 0⟩, 5) by unfold mnt; rw [if_pos h, if_pos hk]]
        simp [eOf]
      · by_cases hb : a0.Badge ≠ 0
        · rw [show mnt a0 a1 a3 = (⟨0, 0, 0, 0, 0, 0⟩, 10) by unfold mnt; rw [if_pos h, if_neg hk, if_pos hb]]
          simp [eOf]
        · rw [show mnt a0 a1 a3 = (⟨a0.Kind, band .i64 a0.Rights a1, a0.Obj, a3, a0.Guard, a0.Bits⟩, 0) by unfold mnt; rw [if_pos h, if_neg hk, if_neg hb]]
          obtain ⟨h1, h2, h3, h4, h5, h6⟩ := h
          have h2' := h2
          obtain ⟨-, -, p1, p2, -⟩ := h2'
          have hm := less_may (r := band .i64 a0.Rights a1) (b := a3) h2 (band_rg p1 p2 h3 h4) h1 (Or.inr ⟨by omega, by omega, h6⟩)
          obtain ⟨b, e1, e2⟩ := may_ref ⟨a0.Kind, band .i64 a0.Rights a1, a0.Obj, a3, a0.Guard, a0.Bits⟩
          rw [e2.2 hm] at e1
          have hm2 : mnt ⟨a0.Kind, band .i64 a0.Rights a1, a0.Obj, a3, a0.Guard, a0.Bits⟩ a1 a3 = (⟨0, 0, 0, 0, 0, 0⟩, 10) := by
            unfold mnt; rw [if_pos ⟨h1, hm, h3, h4, h5, h6⟩, if_neg hk, if_pos (by simp only; omega)]
          have hb0 : a0.Badge = 0 := by omega
          simp [mint_ok, hm2, e1, eOf, rights_Within.f, bclr_in p1 p2 h3 h4, hb0]
    · rw [show mnt a0 a1 a3 = (⟨0, 0, 0, 0, 0, 0⟩, 1) by unfold mnt; rw [if_neg h]]
      simp [eOf]
  unfold law03_RightsLess.f
  rw [up03, derive_ok]
  by_cases h : a0.Kind ≠ 0 ∧ CapMay a0 ∧ 0 ≤ a1 ∧ a1 ≤ 7
  · by_cases hk : a0.Kind = 1
    · rw [show drv a0 a1 = (⟨0, 0, 0, 0, 0, 0⟩, 5) by unfold drv; rw [if_pos h, if_pos hk]]
      simpa [eOf, Brk.go] using tail true rfl
    · rw [show drv a0 a1 = (⟨a0.Kind, band .i64 a0.Rights a1, a0.Obj, a0.Badge, a0.Guard, a0.Bits⟩, 0) by unfold drv; rw [if_pos h, if_neg hk]]
      obtain ⟨h1, h2, h3, h4⟩ := h
      have h2' := h2
      obtain ⟨-, -, p1, p2, -⟩ := h2'
      obtain ⟨r1, r2⟩ := band_rg p1 p2 h3 h4
      have hm := less_may (r := band .i64 a0.Rights a1) (b := a0.Badge) h2 ⟨r1, r2⟩ h1 (Or.inl rfl)
      obtain ⟨b, e1, e2⟩ := may_ref ⟨a0.Kind, band .i64 a0.Rights a1, a0.Obj, a0.Badge, a0.Guard, a0.Bits⟩
      rw [e2.2 hm] at e1
      have w1 : rights_Within.f ⟨a0.Kind, band .i64 a0.Rights a1, a0.Obj, a0.Badge, a0.Guard, a0.Bits⟩ a0 = some true := by
        simp [rights_Within.f, bclr_in p1 p2 h3 h4]
      have w2 : rights_Within.f ⟨a0.Kind, band .i64 a0.Rights a1, a0.Obj, a0.Badge, a0.Guard, a0.Bits⟩ ⟨a0.Kind, band .i64 a0.Rights a1, a0.Obj, a0.Badge, a0.Guard, a0.Bits⟩ = some true := by
        simp [rights_Within.f, bclr_self r1 r2]
      have mid : ((rights_Derive.f ⟨a0.Kind, band .i64 a0.Rights a1, a0.Obj, a0.Badge, a0.Guard, a0.Bits⟩ a2).bind fun (t22, t23) => (rights_Derive.f a0 a2).bind fun (t26, t27) => bif t23.isNone != t27.isNone then (some (Brk.ret false)) else (bif t23.isNone then ((rights_Derive.f t26 a1).bind fun (t32, t33) => (bif t33.isSome then (some true) else (some (!decide (t32 = t22)))).bind fun c37 => bif c37 then (some (Brk.ret false)) else (some (Brk.nx ()))) else (some (Brk.nx ())))) = some (Brk.nx () : Brk Bool Unit) := by
        rw [derive_ok, derive_ok]
        by_cases hm2 : 0 ≤ a2 ∧ a2 ≤ 7
        · obtain ⟨s1, s2⟩ := band_rg p1 p2 hm2.1 hm2.2
          have hmz := less_may (r := band .i64 a0.Rights a2) (b := a0.Badge) h2 ⟨s1, s2⟩ h1 (Or.inl rfl)
          rw [show drv ⟨a0.Kind, band .i64 a0.Rights a1, a0.Obj, a0.Badge, a0.Guard, a0.Bits⟩ a2 = (⟨a0.Kind, band .i64 (band .i64 a0.Rights a1) a2, a0.Obj, a0.Badge, a0.Guard, a0.Bits⟩, 0) by unfold drv; rw [if_pos ⟨h1, hm, hm2⟩, if_neg hk]]
          rw [show drv a0 a2 = (⟨a0.Kind, band .i64 a0.Rights a2, a0.Obj, a0.Badge, a0.Guard, a0.Bits⟩, 0) by unfold drv; rw [if_pos ⟨h1, h2, hm2⟩, if_neg hk]]
          simp only [eOf, if_true, Option.bind_some, Option.isNone_none, bne_self_eq_false, cond_false, cond_true]
          rw [derive_ok]
          rw [show drv ⟨a0.Kind, band .i64 a0.Rights a2, a0.Obj, a0.Badge, a0.Guard, a0.Bits⟩ a1 = (⟨a0.Kind, band .i64 (band .i64 a0.Rights a2) a1, a0.Obj, a0.Badge, a0.Guard, a0.Bits⟩, 0) by unfold drv; rw [if_pos ⟨h1, hmz, h3, h4⟩, if_neg hk]]
          rw [band_comm3 p1 p2 h3 h4 hm2.1 hm2.2]
          simp [eOf]
        · rw [show drv ⟨a0.Kind, band .i64 a0.Rights a1, a0.Obj, a0.Badge, a0.Guard, a0.Bits⟩ a2 = (⟨0, 0, 0, 0, 0, 0⟩, 1) by unfold drv; rw [if_neg (fun x => hm2 x.2.2)]]
          rw [show drv a0 a2 = (⟨0, 0, 0, 0, 0, 0⟩, 1) by unfold drv; rw [if_neg (fun x => hm2 x.2.2)]]
          simp [eOf]
      simp only [eOf, if_true, Option.bind_some, Option.isNone_none, cond_true, cond_false, e1, w1, w2, Bool.not_true]
      simp only [eOf] at mid
      erw [mid]
      simpa [Brk.go] using tail true rfl
  · rw [show drv a0 a1 = (⟨0, 0, 0, 0, 0, 0⟩, 1) by unfold drv; rw [if_neg h]]
    simpa [eOf, Brk.go] using tail true rfl

theorem own : ownKnob Try.prog.godebug = none := by kernel_rfl
theorem laidOut : laidOutB Try.prog = true := by kernel_rfl
set_option maxRecDepth 100000 in
theorem lifted (os : Os) (started : os.Started) (H : Type) (enc : TypeId × Value → H) :
    ReturnsInHanded {} Try.checked os 12 .any (Rows.rightsLessSpec.pre6 enc Try.prog Try.f12 Rows.rightsLessRow.domain false) (Rows.rightsLessSpec.post enc Try.prog Try.f12 false true false false) := by
  refine returnsInHanded_of_change (C := Try.checked) own started (by kernel_rfl) Try.func12
    (ChangeSpec.witness6 (enc := enc) (C := Try.checked) false ⟨#[], #[.agg #[.int .i64 0, .int .i64 0, .int .i64 0, .int .i64 0, .int .i64 0, .int .i64 0], .int .i64 0, .int .i64 0, .int .i64 0], []⟩ 8 (by kernel_rfl) (by kernel_rfl) (by kernel_rfl) (by kernel_rfl)) ?_
  intro W base args ds gs before hval0 hW hcnd _
  have hval : ∀ (j : Nat) t v, Try.f12.params[j]? = some t → args[j]? = some v → Value.okWide Try.prog W .any base t v := hval0
  have hW' := hW
  obtain ⟨p, q, hA0, hV, rfl, hfz, hnd⟩ := hW
  have hA : DataW.TrodAll enc Try.prog W 0 (fun _ => true) true Try.f12.params.toList args.toList ds p := hA0
  rw [Try.params12] at hA hval
  obtain ⟨v0, vs0, d0, ds0, p0, q0, hargs, rfl, rfl, h0, r0⟩ := trodAll_cons hA
  obtain ⟨v1, vs1, d1, ds1, p1, q1, rfl, rfl, rfl, h1, r1⟩ := trodAll_cons r0
  obtain ⟨v2, vs2, d2, ds2, p2, q2, rfl, rfl, rfl, h2, r2⟩ := trodAll_cons r1
  obtain ⟨v3, vs3, d3, ds3, p3, q3, rfl, rfl, rfl, h3, r3⟩ := trodAll_cons r2
  obtain ⟨rfl, rfl, rfl⟩ := trodAll_nil r3
  obtain rfl : args = #[v0, v1, v2, v3] := by cases args; simp_all
  obtain ⟨rfl, rfl⟩ := trodVars_none hV
  obtain ⟨a0, rfl, w0⟩ := open_st pa_api_Cap Try.underlying53 (hval 0 53 v0 rfl rfl) h0
  obtain ⟨a1, rfl, rfl, rfl, w1⟩ := open_int Try.underlying3 (hval 1 3 v1 rfl rfl) h1
  obtain ⟨a2, rfl, rfl, rfl, w2⟩ := open_int Try.underlying3 (hval 2 3 v2 rfl rfl) h2
  obtain ⟨a3, rfl, rfl, rfl, w3⟩ := open_int Try.underlying3 (hval 3 3 v3 rfl rfl) h3
  obtain ⟨k, hk⟩ := ok a0 a1 a2 a3 w0 w1 w2 w3
  refine (Ct.law (law03_RightsLess.ct _ a0 a1 a2 a3 _ hk) (W := W) trivial).mono fun e W' ⟨he, hg⟩ => ?_
  subst he
  exact ⟨_, rfl, law_post hW' laidOut (by kernel_rfl) hg (by kernel_rfl) Try.underlying4 rfl rfl⟩
theorem over : Rows.rightsLessRow.holds Try.pinned (OpenSpec.ofChange Rows.rightsLessSpec) :=
  OpenClaim.holds_of_wide 12 Try.f12 rfl rfl rfl rfl rfl rfl rfl ⟨rfl, rfl, rfl, rfl, rfl⟩ rfl rfl rfl rfl rfl (by kernel_rfl) Try.func12 (by kernel_rfl)
    (of_decide_eq_true (by kernel_rfl)) (by unfold Func.isWrapper; first | (rw [if_pos (by decide +kernel)]; kernel_rfl) | (rw [if_neg (by decide +kernel)]; exact ⟨rfl, rfl⟩))
    (fun os started H enc _ => lifted os started H enc)
theorem proved : Rows.RightsLessSaid :=
  over
#print axioms proved
end Go.Proofs.Ytnkgafjmladidaa.rightsLess
