/- Plain laws of what SpacePlays reaches, part P18SpPlay. On no condition. -/
import Derived.Test.YtogpgphahnldmaaP18StSpacePlays
import Derived.Test.YtogpgphahnldmaaP18SpaceSpacePlays
import Derived.Test.YtogpgphahnldmaaFnSpacePlays1
set_option linter.all false
/-! Pages: the program's words are the state's. -/
set_option linter.unusedVariables false
namespace Go.Proofs
open Go.Sl
structure WSp (st : ref10_State) : Prop where
  fr : ∀ f, 0 ≤ f → f < 32 → (obt st f).Kind = 6 → 0 ≤ (obt st f).In → (obt st (obt st f).In).Kind = 7 ∧ (obt st (obt st f).In).Pages.nth (obt st f).Page = f
  pg : ∀ b p, 0 ≤ b → b < 32 → (obt st b).Kind = 7 → 0 ≤ p → p < 4 → 0 ≤ (obt st b).Pages.nth p → (obt st ((obt st b).Pages.nth p)).Kind = 6 ∧ (obt st ((obt st b).Pages.nth p)).In = b ∧ (obt st ((obt st b).Pages.nth p)).Page = p
section
variable {st : ref10_State} {v : List Int} (h : WF st) (hv : IsW st v)
include h hv
theorem pgv_st (b p : Int) : pgv v b p = if 0 ≤ b ∧ b < 32 ∧ (obt st b).Kind = 7 ∧ 0 ≤ p ∧ p < 4 ∧ 0 ≤ (obt st b).Pages.nth p then ((obt st b).Pages.nth p, (obt st b).Right.nth p, true) else (0, 0, false) := by
  unfold pgv
  have hk := hv.kind h (i := b) (k := 7) (by decide)
  by_cases c : fld v b 0 = 7
  · obtain ⟨b0, b1, k7⟩ := hk.1 c
    by_cases hp : 0 ≤ p ∧ p < 4
    · have e : fld v b (1 + p) = pgw (obt st b) p := by
        rw [hv.fv h ⟨b0, b1⟩ (by omega), ob_own h _ ⟨b0, b1⟩ (by omega), own7 k7, if_neg (by omega), if_pos (by omega), show 1 + p - 1 = p by omega]
      have a1 := (h.obj b b0 b1).pages p hp.1 hp.2
      have a2 := (h.obj b b0 b1).right p hp.1 hp.2
      rw [e]
      unfold pgw
      by_cases z : 0 ≤ (obt st b).Pages.nth p
      · rw [if_pos z, if_pos ⟨c, hp.1, hp.2, by omega, by omega⟩, if_pos ⟨b0, b1, k7, hp.1, hp.2, z⟩]
        refine Prod.ext ?_ (Prod.ext ?_ rfl)
        · show (8 * ((obt st b).Pages.nth p + 1) + (obt st b).Right.nth p) / 8 - 1 = (obt st b).Pages.nth p; omega
        · show (8 * ((obt st b).Pages.nth p + 1) + (obt st b).Right.nth p) % 8 = (obt st b).Right.nth p; omega
      · rw [if_neg z, if_neg (by omega), if_neg (fun q => z q.2.2.2.2.2)]
    · rw [if_neg (fun q => hp ⟨q.2.1, q.2.2.1⟩), if_neg (fun q => hp ⟨q.2.2.2.1, q.2.2.2.2.1⟩)]
  · rw [if_neg (fun q => c q.1), if_neg (fun q => c (hk.2 ⟨q.1, q.2.1, q.2.2.1⟩))]
theorem frame_fv {a : Int} (ha : 0 ≤ a ∧ a < 32) (k : (obt st a).Kind = 6) : fld v a 1 = (obt st a).In + 1 ∧ fld v a 2 = (obt st a).Page := by
  constructor
  · rw [hv.fv h ha (by decide), ob_own h _ ha (by omega), own6 k]; rfl
  · rw [hv.fv h ha (by decide), ob_own h _ ha (by omega), own6 k]; rfl
theorem map_pl (hs : WSp st) (a b p r : Int) : ∃ st' v', ref10_State_Map.f st a b p r = some (mapBad v a b p r, st') ∧ (if mapBad v a b p r = 0 then mapTo v a b p r else v) = v' ∧ IsW st' v' ∧ WF st' ∧ WSp st' ∧ ∀ i, 0 ≤ i → (obt st' i).Kind = (obt st i).Kind := by
  have ha := hv.kind h (i := a) (k := 6) (by decide)
  have hb := hv.kind h (i := b) (k := 7) (by decide)
  unfold ref10_State_Map.f
  rw [ris_ok h, ris_ok h, Option.bind_some, Option.bind_some]
  by_cases c1 : fld v a 0 = 6 ∧ fld v b 0 = 7
  · have a1 := ha.1 c1.1
    have b1 := hb.1 c1.2
    rw [decide_eq_true a1, decide_eq_true b1]
    simp only [Bool.not_true, Bool.or_self, cond_false]
    by_cases c2 : 0 ≤ p ∧ p < 4 ∧ 0 ≤ r ∧ r ≤ 7
    · have e : ((((decide (p < 0)) || (decide (3 < p))) || (decide (r < 0))) || (decide (7 < r))) = false := by simp; omega
      rw [e, cond_false, at_obj h ⟨a1.1, a1.2.1⟩, Option.bind_some]
      have wa := h.obj a a1.1 a1.2.1
      have wb := h.obj b b1.1 b1.2.1
      have f1 := (frame_fv h hv ⟨a1.1, a1.2.1⟩ a1.2.2).1
      have hin := wa.inn
      by_cases c3 : 0 ≤ (obt st a).In
      · have hm : mapBad v a b p r = 10 := by unfold mapBad; rw [if_neg (fun q => q c1), if_neg (fun q => q c2), if_pos (by omega)]
        rw [decide_eq_true c3, cond_true, hm]
        exact ⟨st, v, rfl, rfl, hv, h, hs, fun _ _ => rfl⟩
      · rw [decide_eq_false c3, cond_false, at_obj h ⟨b1.1, b1.2.1⟩, Option.bind_some, A4.get_nth _ (by omega), Option.bind_some]
        by_cases c4 : 0 ≤ (obt st b).Pages.nth p
        · have hm : mapBad v a b p r = 8 := by
            have e8 := pgv_st h hv b p
            rw [if_pos ⟨b1.1, b1.2.1, b1.2.2, c2.1, c2.2.1, c4⟩] at e8
            unfold mapBad; rw [if_neg (fun q => q c1), if_neg (fun q => q c2), if_neg (by omega), e8, if_pos rfl]
          rw [decide_eq_true c4, cond_true, hm]
          exact ⟨st, v, rfl, rfl, hv, h, hs, fun _ _ => rfl⟩
        · have hm : mapBad v a b p r = 0 := by
            have e8 := pgv_st h hv b p
            rw [if_neg (fun q => c4 q.2.2.2.2.2)] at e8
            unfold mapBad; rw [if_neg (fun q => q c1), if_neg (fun q => q c2), if_neg (by omega), e8, if_neg (by decide)]
          have hab : a ≠ b := fun z => by subst z; omega
          have lb : b < (st.Objs.length : Int) := by rw [h.lo]; omega
          rw [decide_eq_false c4, cond_false, Option.bind_some, A4.get_nth _ (by omega), Option.bind_some, at_set b1.1 lb, if_pos rfl, Option.bind_some, A4.get_nth _ (by omega), Option.bind_some, at_set b1.1 (by rw [List.length_set]; exact lb), if_neg hab, at_set b1.1 lb, if_neg hab, at_obj h ⟨a1.1, a1.2.1⟩, Option.bind_some, at_set a1.1 (by rw [List.length_set, List.length_set, h.lo]; omega), if_pos rfl, Option.bind_some, List.set_set, List.set_set, hm]
          refine ⟨_, _, rfl, rfl, ?_⟩
          rw [if_pos rfl]
          obtain ⟨xb, hxb⟩ : ∃ x : ref10_Obj, { obt st b with Pages := A4.put (obt st b).Pages p a, Right := A4.put (obt st b).Right p r } = x := ⟨_, rfl⟩
          obtain ⟨xa, hxa⟩ : ∃ x : ref10_Obj, { obt st a with In := b, Page := p } = x := ⟨_, rfl⟩
          show IsW (upd (upd st b { obt st b with Pages := A4.put (obt st b).Pages p a, Right := A4.put (obt st b).Right p r }) a { obt st a with In := b, Page := p }) (mapTo v a b p r) ∧ WF (upd (upd st b { obt st b with Pages := A4.put (obt st b).Pages p a, Right := A4.put (obt st b).Right p r }) a { obt st a with In := b, Page := p }) ∧ WSp (upd (upd st b { obt st b with Pages := A4.put (obt st b).Pages p a, Right := A4.put (obt st b).Right p r }) a { obt st a with In := b, Page := p }) ∧ ∀ i, 0 ≤ i → (obt (upd (upd st b { obt st b with Pages := A4.put (obt st b).Pages p a, Right := A4.put (obt st b).Right p r }) a { obt st a with In := b, Page := p }) i).Kind = (obt st i).Kind
          rw [hxb, hxa]
          have wxb : OW xb := by
            subst hxb
            exact { wb with
              pages := fun q q0 q1 => by show _ ≤ (A4.put _ p a).nth q ∧ _; rw [A4.nth_put _ _ ⟨c2.1, c2.2.1⟩ ⟨q0, q1⟩]; split; omega; exact wb.pages q q0 q1
              right := fun q q0 q1 => by show _ ≤ (A4.put _ p r).nth q ∧ _; rw [A4.nth_put _ _ ⟨c2.1, c2.2.1⟩ ⟨q0, q1⟩]; split; omega; exact wb.right q q0 q1 }
          have wxa : OW xa := by
            subst hxa
            exact { wa with inn := by show _ ≤ b ∧ b < _; omega, page := by show _ ≤ p ∧ p < _; omega }
          have h1 : WF (upd st b xb) := h.upd ⟨b1.1, b1.2.1⟩ wxb (by rw [← hxb]) (by rw [← hxb]) (by rw [← hxb]) (.inl (by rw [← hxb]))
          have oa : obt (upd st b xb) a = obt st a := by rw [obt_upd h.lo ⟨b1.1, b1.2.1⟩ a1.1, if_neg hab]
          have h2 : WF (upd (upd st b xb) a xa) := h1.upd ⟨a1.1, a1.2.1⟩ wxa (by rw [← hxa, oa]) (by rw [← hxa, oa]) (by rw [← hxa, oa]) (.inl (by rw [← hxa, oa]))
          have O : ∀ i, 0 ≤ i → obt (upd (upd st b xb) a xa) i = if i = a then xa else if i = b then xb else obt st i := fun i hi => by
            rw [obt_upd h1.lo ⟨a1.1, a1.2.1⟩ hi, obt_upd h.lo ⟨b1.1, b1.2.1⟩ hi]
          have ka : xa.Kind = 6 := by rw [← hxa]; exact a1.2.2
          have kb : xb.Kind = 7 := by rw [← hxb]; exact b1.2.2
          have K : ∀ i, 0 ≤ i → (obt (upd (upd st b xb) a xa) i).Kind = (obt st i).Kind := fun i hi => by
            rw [O i hi]; split
            · rename_i e; rw [ka, e, a1.2.2]
            · split
              · rename_i e; rw [kb, e, b1.2.2]
              · rfl
          have pb : ∀ q, 0 ≤ q → q < 4 → xb.Pages.nth q = if q = p then a else (obt st b).Pages.nth q := fun q q0 q1 => by
            rw [← hxb]; exact A4.nth_put _ _ ⟨c2.1, c2.2.1⟩ ⟨q0, q1⟩
          have rb : ∀ q, 0 ≤ q → q < 4 → xb.Right.nth q = if q = p then r else (obt st b).Right.nth q := fun q q0 q1 => by
            rw [← hxb]; exact A4.nth_put _ _ ⟨c2.1, c2.2.1⟩ ⟨q0, q1⟩
          have ia : xa.In = b ∧ xa.Page = p := by rw [← hxa]; exact ⟨rfl, rfl⟩
          refine ⟨?_, h2, ⟨fun f f0 f1 k6 inn => ?_, fun b' p' b0 b2 k7 p0 p1 pp => ?_⟩, K⟩
          · have gv := (hv.good h).1
            have g1 := good_put gv b (1 + p) (8 * (a + 1) + r)
            have g2 := good_put g1 a 1 (b + 1)
            have i1 : InObj b (1 + p) := ⟨b1.1, b1.2.1, by omega, by omega⟩
            have i2 : InObj a 1 := ⟨a1.1, a1.2.1, by decide, by decide⟩
            have i3 : InObj a 2 := ⟨a1.1, a1.2.1, by decide, by decide⟩
            refine hv.of_fld (((Low.refl hv.len).put b (1 + p) _).put a 1 _ |>.put a 2 _) (sm_put (sm_put (sm_put (hv.sm h) (by omega)) (by omega)) (by omega)) (fun _ _ => rfl) rfl rfl fun i f q0 q1 q2 q3 => ?_
            unfold mapTo
            rw [fld_put g2 a 2 p i f (by omega), fld_put g1 a 1 (b + 1) i f (by omega), fld_put gv b (1 + p) (8 * (a + 1) + r) i f (by omega), hv.fv h ⟨q0, q1⟩ ⟨q2, q3⟩]
            by_cases ei : i = a
            · subst ei
              rw [ob_own h2 _ ⟨q0, q1⟩ (by rw [K i q0]; omega), ob_own h _ ⟨q0, q1⟩ (by omega), O i q0, if_pos rfl, own6 ka, own6 a1.2.2, ia.1, ia.2]
              by_cases e2 : f = 2
              · subst e2; rw [if_pos ⟨rfl, rfl, i3, c2.1⟩, if_neg (by omega), if_neg (by omega), if_pos rfl]
              · rw [if_neg (fun q => e2 q.2.1.symm)]
                by_cases e1 : f = 1
                · subst e1; rw [if_pos ⟨rfl, rfl, i2, by omega⟩, if_neg (by omega), if_pos rfl]
                · rw [if_neg (fun q => e1 q.2.1.symm), if_neg (fun q => hab q.1.symm)]
                  simp only [e1, e2, if_false]
            · rw [if_neg (fun q => ei q.1.symm), if_neg (fun q => ei q.1.symm)]
              by_cases eb : i = b
              · subst eb
                rw [ob_own h2 _ ⟨q0, q1⟩ (by rw [K i q0]; omega), ob_own h _ ⟨q0, q1⟩ (by omega), O i q0, if_neg ei, if_pos rfl, own7 kb, own7 b1.2.2]
                by_cases ef : f = 0
                · rw [if_pos ef, if_pos ef, if_neg (by omega)]
                · rw [if_neg ef, if_neg ef]
                  by_cases e4 : 1 ≤ f ∧ f ≤ 4
                  · rw [if_pos e4, if_pos e4]
                    unfold pgw
                    rw [pb _ (by omega) (by omega), rb _ (by omega) (by omega)]
                    by_cases e5 : f - 1 = p
                    · rw [if_pos ⟨rfl, by omega, i1, by omega⟩, if_pos e5, if_pos e5, if_pos a1.1]
                    · rw [if_neg (fun q => e5 (by omega)), if_neg e5, if_neg e5]
                  · rw [if_neg e4, if_neg e4, if_neg (by omega)]
              · rw [if_neg (fun q => eb q.1.symm), ob_upd h1 ⟨a1.1, a1.2.1⟩ (by rw [← hxa, oa]) ⟨q0, q1⟩, if_neg ei, ob_upd h ⟨b1.1, b1.2.1⟩ (by rw [← hxb]) ⟨q0, q1⟩, if_neg eb]
          · rw [K f f0] at k6
            rw [O f f0] at inn ⊢
            by_cases e : f = a
            · subst e
              rw [if_pos rfl, ia.1, ia.2, O b b1.1, if_neg (fun z => hab z.symm), if_pos rfl]
              exact ⟨kb, by rw [pb p c2.1 c2.2.1, if_pos rfl]⟩
            · have hfb : f ≠ b := fun z => by rw [z, b1.2.2] at k6; omega
              rw [if_neg e, if_neg hfb] at inn
              rw [if_neg e, if_neg hfb]
              obtain ⟨z1, z2⟩ := hs.fr f f0 f1 k6 inn
              refine ⟨by rw [K _ inn]; exact z1, ?_⟩
              have hpg := (h.obj f f0 f1).page
              rw [O _ inn, if_neg (fun z => by rw [z, a1.2.2] at z1; omega)]
              split
              · rename_i z
                rw [pb _ hpg.1 hpg.2, if_neg, ← z]
                · exact z2
                · intro z3; rw [z3, z] at z2; exact c4 (by rw [z2]; exact f0)
              · exact z2
          · rw [K b' b0] at k7
            have hba : b' ≠ a := fun z => by rw [z, a1.2.2] at k7; omega
            rw [O b' b0, if_neg hba] at pp ⊢
            by_cases e : b' = b
            · subst e
              rw [if_pos rfl, pb p' p0 p1] at pp ⊢
              by_cases e2 : p' = p
              · subst e2
                rw [if_pos rfl, O a a1.1, if_pos rfl]
                exact ⟨ka, ia.1, ia.2⟩
              · rw [if_neg e2] at pp ⊢
                obtain ⟨z1, z2, z3⟩ := hs.pg b' p' b0 b2 k7 p0 p1 pp
                rw [O _ pp, if_neg, if_neg]
                · exact ⟨z1, z2, z3⟩
                · intro z; rw [z, k7] at z1; omega
                · intro z; rw [z] at z2; omega
            · rw [if_neg e] at pp ⊢
              obtain ⟨z1, z2, z3⟩ := hs.pg b' p' b0 b2 k7 p0 p1 pp
              rw [O _ pp, if_neg, if_neg]
              · exact ⟨z1, z2, z3⟩
              · intro z; rw [z, b1.2.2] at z1; omega
              · intro z; rw [z] at z2; omega
    · have hm : mapBad v a b p r = 1 := by unfold mapBad; rw [if_neg (fun q => q c1), if_pos c2]
      have e : ((((decide (p < 0)) || (decide (3 < p))) || (decide (r < 0))) || (decide (7 < r))) = true := by rw [← Bool.not_eq_false]; simp; omega
      rw [e, cond_true, hm]
      exact ⟨st, v, rfl, rfl, hv, h, hs, fun _ _ => rfl⟩
  · have hm : mapBad v a b p r = 2 := by unfold mapBad; rw [if_pos c1]
    have e : (!(decide (0 ≤ a ∧ a < 32 ∧ (obt st a).Kind = 6)) || !(decide (0 ≤ b ∧ b < 32 ∧ (obt st b).Kind = 7))) = true := by
      rw [← Bool.not_eq_false]
      intro z
      simp only [Bool.or_eq_false_iff, Bool.not_eq_false', decide_eq_true_eq] at z
      exact c1 ⟨ha.2 z.1, hb.2 z.2⟩
    rw [e, cond_true, hm]
    exact ⟨st, v, rfl, rfl, hv, h, hs, fun _ _ => rfl⟩
theorem unmap_pl (hs : WSp st) (a : Int) : ∃ st' v', ref10_State_Unmap.f st a = some (unBad v a, st') ∧ (if unBad v a = 0 then unTo v a else v) = v' ∧ IsW st' v' ∧ WF st' ∧ WSp st' ∧ ∀ i, 0 ≤ i → (obt st' i).Kind = (obt st i).Kind := by
  have ha := hv.kind h (i := a) (k := 6) (by decide)
  unfold ref10_State_Unmap.f
  rw [ris_ok h, Option.bind_some]
  by_cases c1 : fld v a 0 = 6
  · have a1 := ha.1 c1
    have wa := h.obj a a1.1 a1.2.1
    obtain ⟨f1, f2⟩ := frame_fv h hv ⟨a1.1, a1.2.1⟩ a1.2.2
    have hin := wa.inn
    have hpg := wa.page
    rw [decide_eq_true a1, Bool.not_true, cond_false, at_obj h ⟨a1.1, a1.2.1⟩, Option.bind_some]
    by_cases c3 : 0 ≤ (obt st a).In
    · have hm : unBad v a = 0 := by unfold unBad; rw [if_neg (fun q => q c1), if_neg (fun q => q (by omega))]
      obtain ⟨b, hb⟩ : ∃ b, (obt st a).In = b := ⟨_, rfl⟩
      obtain ⟨p, hp⟩ : ∃ p, (obt st a).Page = p := ⟨_, rfl⟩
      obtain ⟨k7, hpa⟩ := hs.fr a a1.1 a1.2.1 a1.2.2 c3
      rw [hb, hp] at hpa
      rw [hb] at k7 hin c3 f1
      rw [hp] at hpg f2
      have b1 : 0 ≤ b ∧ b < 32 ∧ (obt st b).Kind = 7 := ⟨c3, hin.2, k7⟩
      have wb := h.obj b b1.1 b1.2.1
      have hab : a ≠ b := fun z => by subst z; omega
      have lb : b < (st.Objs.length : Int) := by rw [h.lo]; omega
      have e8 := pgv_st h hv b p
      rw [if_pos ⟨b1.1, b1.2.1, b1.2.2, hpg.1, hpg.2, by omega⟩, hpa] at e8
      have hto : unTo v a = put (put (put v b (1 + p) 0) a 1 0) a 2 0 := by
        unfold unTo
        rw [f1, f2, show b + 1 - 1 = b by omega, e8, if_pos ⟨rfl, rfl⟩]
      rw [hb, hp, decide_eq_false (by omega), cond_false, at_obj h ⟨b1.1, b1.2.1⟩, Option.bind_some, A4.get_nth _ (by omega), Option.bind_some, at_set b1.1 lb, if_pos rfl, Option.bind_some, A4.get_nth _ (by omega), Option.bind_some, at_set b1.1 (by rw [List.length_set]; exact lb), if_neg hab, at_set b1.1 lb, if_neg hab, at_obj h ⟨a1.1, a1.2.1⟩, Option.bind_some, at_set a1.1 (by rw [List.length_set, List.length_set, h.lo]; omega), if_pos rfl, Option.bind_some, List.set_set, List.set_set, hm, hto]
      refine ⟨_, _, rfl, rfl, ?_⟩
      rw [if_pos rfl]
      obtain ⟨xb, hxb⟩ : ∃ x : ref10_Obj, { obt st b with Pages := A4.put (obt st b).Pages p (-1), Right := A4.put (obt st b).Right p 0 } = x := ⟨_, rfl⟩
      obtain ⟨xa, hxa⟩ : ∃ x : ref10_Obj, { obt st a with In := -1, Page := 0 } = x := ⟨_, rfl⟩
      show IsW (upd (upd st b { obt st b with Pages := A4.put (obt st b).Pages p (-1), Right := A4.put (obt st b).Right p 0 }) a { obt st a with In := -1, Page := 0 }) _ ∧ WF (upd (upd st b { obt st b with Pages := A4.put (obt st b).Pages p (-1), Right := A4.put (obt st b).Right p 0 }) a { obt st a with In := -1, Page := 0 }) ∧ WSp (upd (upd st b { obt st b with Pages := A4.put (obt st b).Pages p (-1), Right := A4.put (obt st b).Right p 0 }) a { obt st a with In := -1, Page := 0 }) ∧ ∀ i, 0 ≤ i → (obt (upd (upd st b { obt st b with Pages := A4.put (obt st b).Pages p (-1), Right := A4.put (obt st b).Right p 0 }) a { obt st a with In := -1, Page := 0 }) i).Kind = (obt st i).Kind
      rw [hxb, hxa]
      have wxb : OW xb := by
        subst hxb
        exact { wb with
          pages := fun q q0 q1 => by show _ ≤ (A4.put _ p (-1)).nth q ∧ _; rw [A4.nth_put _ _ hpg ⟨q0, q1⟩]; split; omega; exact wb.pages q q0 q1
          right := fun q q0 q1 => by show _ ≤ (A4.put _ p 0).nth q ∧ _; rw [A4.nth_put _ _ hpg ⟨q0, q1⟩]; split; omega; exact wb.right q q0 q1 }
      have wxa : OW xa := by
        subst hxa
        exact { wa with inn := by show _ ≤ (-1 : Int) ∧ (-1 : Int) < _; omega, page := by show _ ≤ (0 : Int) ∧ (0 : Int) < _; omega }
      have h1 : WF (upd st b xb) := h.upd ⟨b1.1, b1.2.1⟩ wxb (by rw [← hxb]) (by rw [← hxb]) (by rw [← hxb]) (.inl (by rw [← hxb]))
      have oa : obt (upd st b xb) a = obt st a := by rw [obt_upd h.lo ⟨b1.1, b1.2.1⟩ a1.1, if_neg hab]
      have h2 : WF (upd (upd st b xb) a xa) := h1.upd ⟨a1.1, a1.2.1⟩ wxa (by rw [← hxa, oa]) (by rw [← hxa, oa]) (by rw [← hxa, oa]) (.inl (by rw [← hxa, oa]))
      have O : ∀ i, 0 ≤ i → obt (upd (upd st b xb) a xa) i = if i = a then xa else if i = b then xb else obt st i := fun i hi => by
        rw [obt_upd h1.lo ⟨a1.1, a1.2.1⟩ hi, obt_upd h.lo ⟨b1.1, b1.2.1⟩ hi]
      have ka : xa.Kind = 6 := by rw [← hxa]; exact a1.2.2
      have kb : xb.Kind = 7 := by rw [← hxb]; exact b1.2.2
      have K : ∀ i, 0 ≤ i → (obt (upd (upd st b xb) a xa) i).Kind = (obt st i).Kind := fun i hi => by
        rw [O i hi]; split
        · rename_i e; rw [ka, e, a1.2.2]
        · split
          · rename_i e; rw [kb, e, b1.2.2]
          · rfl
      have pb : ∀ q, 0 ≤ q → q < 4 → xb.Pages.nth q = if q = p then -1 else (obt st b).Pages.nth q := fun q q0 q1 => by
        rw [← hxb]; exact A4.nth_put _ _ hpg ⟨q0, q1⟩
      have rb : ∀ q, 0 ≤ q → q < 4 → xb.Right.nth q = if q = p then 0 else (obt st b).Right.nth q := fun q q0 q1 => by
        rw [← hxb]; exact A4.nth_put _ _ hpg ⟨q0, q1⟩
      have ia : xa.In = -1 ∧ xa.Page = 0 := by rw [← hxa]; exact ⟨rfl, rfl⟩
      refine ⟨?_, h2, ⟨fun f f0 f1 k6 inn => ?_, fun b' p' b0 b2 k7 p0 p1 pp => ?_⟩, K⟩
      · have gv := (hv.good h).1
        have g1 := good_put gv b (1 + p) 0
        have g2 := good_put g1 a 1 0
        have i1 : InObj b (1 + p) := ⟨b1.1, b1.2.1, by omega, by omega⟩
        have i2 : InObj a 1 := ⟨a1.1, a1.2.1, by decide, by decide⟩
        have i3 : InObj a 2 := ⟨a1.1, a1.2.1, by decide, by decide⟩
        refine hv.of_fld (((Low.refl hv.len).put b (1 + p) _).put a 1 _ |>.put a 2 _) (sm_put (sm_put (sm_put (hv.sm h) (by omega)) (by omega)) (by omega)) (fun _ _ => rfl) rfl rfl fun i f q0 q1 q2 q3 => ?_
        rw [fld_put g2 a 2 0 i f (by omega), fld_put g1 a 1 0 i f (by omega), fld_put gv b (1 + p) 0 i f (by omega), hv.fv h ⟨q0, q1⟩ ⟨q2, q3⟩]
        by_cases ei : i = a
        · subst ei
          rw [ob_own h2 _ ⟨q0, q1⟩ (by rw [K i q0]; omega), ob_own h _ ⟨q0, q1⟩ (by omega), O i q0, if_pos rfl, own6 ka, own6 a1.2.2, ia.1, ia.2]
          by_cases e2 : f = 2
          · subst e2; rw [if_pos ⟨rfl, rfl, i3, by decide⟩, if_neg (by omega), if_neg (by omega), if_pos rfl]
          · rw [if_neg (fun q => e2 q.2.1.symm)]
            by_cases e1 : f = 1
            · subst e1; rw [if_pos ⟨rfl, rfl, i2, by omega⟩, if_neg (by omega), if_pos rfl]; rfl
            · rw [if_neg (fun q => e1 q.2.1.symm), if_neg (fun q => hab q.1.symm)]
              simp only [e1, e2, if_false]
        · rw [if_neg (fun q => ei q.1.symm), if_neg (fun q => ei q.1.symm)]
          by_cases eb : i = b
          · subst eb
            rw [ob_own h2 _ ⟨q0, q1⟩ (by rw [K i q0]; omega), ob_own h _ ⟨q0, q1⟩ (by omega), O i q0, if_neg ei, if_pos rfl, own7 kb, own7 b1.2.2]
            by_cases ef : f = 0
            · rw [if_pos ef, if_pos ef, if_neg (by omega)]
            · rw [if_neg ef, if_neg ef]
              by_cases e4 : 1 ≤ f ∧ f ≤ 4
              · rw [if_pos e4, if_pos e4]
                unfold pgw
                rw [pb _ (by omega) (by omega), rb _ (by omega) (by omega)]
                by_cases e5 : f - 1 = p
                · rw [if_pos ⟨rfl, by omega, i1, by omega⟩, if_pos e5, if_pos e5, if_neg (by decide)]
                · rw [if_neg (fun q => e5 (by omega)), if_neg e5, if_neg e5]
              · rw [if_neg e4, if_neg e4, if_neg (by omega)]
          · rw [if_neg (fun q => eb q.1.symm), ob_upd h1 ⟨a1.1, a1.2.1⟩ (by rw [← hxa, oa]) ⟨q0, q1⟩, if_neg ei, ob_upd h ⟨b1.1, b1.2.1⟩ (by rw [← hxb]) ⟨q0, q1⟩, if_neg eb]
      · rw [K f f0] at k6
        rw [O f f0] at inn ⊢
        by_cases e : f = a
        · subst e
          rw [if_pos rfl, ia.1] at inn; omega
        · have hfb : f ≠ b := fun z => by rw [z, b1.2.2] at k6; omega
          rw [if_neg e, if_neg hfb] at inn
          rw [if_neg e, if_neg hfb]
          obtain ⟨z1, z2⟩ := hs.fr f f0 f1 k6 inn
          refine ⟨by rw [K _ inn]; exact z1, ?_⟩
          have hpg2 := (h.obj f f0 f1).page
          rw [O _ inn, if_neg (fun z => by rw [z, a1.2.2] at z1; omega)]
          split
          · rename_i z
            rw [pb _ hpg2.1 hpg2.2, if_neg, ← z]
            · exact z2
            · intro z3; rw [z3, z, hpa] at z2; exact e z2.symm
          · exact z2
      · rw [K b' b0] at k7
        have hba : b' ≠ a := fun z => by rw [z, a1.2.2] at k7; omega
        rw [O b' b0, if_neg hba] at pp ⊢
        have fin : ∀ y, 0 ≤ y → y ≠ a → (obt st y).Kind = 6 ∧ (obt st y).In = b' ∧ (obt st y).Page = p' → (obt (upd (upd st b xb) a xa) y).Kind = 6 ∧ (obt (upd (upd st b xb) a xa) y).In = b' ∧ (obt (upd (upd st b xb) a xa) y).Page = p' := fun y y0 ya hy => by
          rw [O y y0, if_neg ya, if_neg]
          · exact hy
          · intro z; rw [z, b1.2.2] at hy; omega
        by_cases e : b' = b
        · subst e
          rw [if_pos rfl, pb p' p0 p1] at pp ⊢
          by_cases e2 : p' = p
          · rw [if_pos e2] at pp; omega
          · rw [if_neg e2] at pp ⊢
            have hh := hs.pg b' p' b0 b2 k7 p0 p1 pp
            refine fin _ pp ?_ hh
            intro z; rw [z, hp] at hh; exact e2 hh.2.2.symm
        · rw [if_neg e] at pp ⊢
          have hh := hs.pg b' p' b0 b2 k7 p0 p1 pp
          refine fin _ pp ?_ hh
          intro z; rw [z, hb] at hh; exact e hh.2.1.symm
    · have hm : unBad v a = 10 := by unfold unBad; rw [if_neg (fun q => q c1), if_pos (by omega)]
      rw [decide_eq_true (by omega), cond_true, hm]
      exact ⟨st, v, rfl, rfl, hv, h, hs, fun _ _ => rfl⟩
  · have hm : unBad v a = 2 := by unfold unBad; rw [if_pos c1]
    rw [decide_eq_false (fun z => c1 (ha.2 z)), Bool.not_false, cond_true, hm]
    exact ⟨st, v, rfl, rfl, hv, h, hs, fun _ _ => rfl⟩
end
end Go.Proofs
