/- What the functions that SpaceOnce reaches come to, and that they do. On no condition. -/
import Derived.Test.YtogpgphahnldmaaFnSpaceOnce0
set_option linter.all false
namespace Go.Proofs
open Go.Sl Go.RowKit
/-! 20 padstone/lay.Ref -/
def lay_Ref.f (a1 : Int) (a2 : Int) : VM ((Int × Bool)) :=
  (lay_Field.f a1 a2).bind fun t1 => bif (decide (t1 < 1)) || (decide (32 < t1)) then (VM.ret (0, false)) else (VM.ret (w64 (t1 - 1), true))
set_option maxHeartbeats 8000000 in
set_option maxRecDepth 100000 in
theorem lay_Ref.ct (V : VW Try.prog) (a1 : Int) (a2 : Int) (r0 : Int) (r1 : Bool) (s s' : V.S) (h : VM.run V.toVI (lay_Ref.f a1 a2) s = some ((r0, r1), s')) :
    Ct Try.prog 20 [V.val, .int .i64 a1, .int .i64 a2] (fun _ => True) [V.rep s] (fun u H' => u = .tuple #[.int .i64 r0, .bool r1] ∧ H' = [V.rep s']) := by
  unfold lay_Ref.f at h
  refine Ct.intro (n := 21) Try.func20 rfl rfl rfl ?_
  intro R w0 F hF hR
  refine S.seq ?_
  refine S.region ?_
  refine SO.v rfl (opv_assign rfl) ?_
  refine SO.v rfl (opv_assign rfl) ?_
  refine SO.nil ?_
  refine S.seq ?_
  refine S.region ?_
  refine SO.v rfl (opv_move rfl) ?_
  refine SO.v rfl (opv_move rfl) ?_
  refine SO.v rfl (opv_move rfl) ?_
  obtain ⟨t1, s3, ht2, h⟩ := VM.bind_some V.toVI h
  refine SO.call (pre := [V.rep _]) rfl Try.call21 rfl rfl rfl (lay_Field.ct V _ _ _ _ _ ht2) trivial ?_
  rintro _ _ ⟨rfl, rfl⟩
  refine SO.v rfl (opv_assign rfl) ?_
  refine SO.nil ?_
  refine S.to (ρ' := [(6, .int .i64 0), (7, .bool false), (8, .int .i64 t1)]) ⟨rfl, rfl, rfl, trivial⟩ ?_
  refine S.seq ?_
  refine S.seq ?_
  refine S.region ?_
  refine SO.v rfl (opv_move rfl) ?_
  refine SO.v rfl (opv_lss rfl rfl) ?_
  refine SO.v rfl (opv_move rfl) ?_
  refine SO.cut 3 18 (.bool ((decide (t1 < 1)) || (decide (32 < t1)))) [V.rep s3, F] (fun l2 hk2 => ?_) ?_
  · rcases bool_or (decide (t1 < 1)) with b4 | b4
    · refine SO.passF rfl rfl rfl b4 rfl rfl ?_
      refine SO.passF rfl rfl rfl b4 rfl rfl ?_
      refine SO.v rfl (opv_pick_t' b4 rfl rfl) ?_
      refine SO.b1 ?_
      refine SO.b1 ?_
      exact hk2.fitc (m := 3) rfl (or_t b4) rfl
    · refine SO.takeT rfl rfl rfl b4 ?_
      refine SO.v rfl (opv_move rfl) ?_
      refine SO.takeT rfl rfl rfl b4 ?_
      refine SO.v rfl (opv_gtr rfl rfl) ?_
      refine SO.v rfl (opv_pick_f' b4 rfl rfl) ?_
      refine SO.b1 ?_
      refine SO.b1 ?_
      exact hk2.fitc (m := 3) rfl (or_f b4) rfl
  refine SO.nil ?_
  rcases bool_or ((decide (t1 < 1)) || (decide (32 < t1))) with b5 | b5
  · replace h := VM.cond_t V.toVI b5 h
    refine S.condT rfl b5 ?_
    refine S.seq ?_
    refine S.region ?_
    refine SO.v rfl (opv_assign rfl) ?_
    refine SO.v rfl (opv_assign rfl) ?_
    refine SO.nil ?_
    obtain ⟨hq, rfl⟩ := VM.ret_some V.toVI h
    cases hq
    refine S.b1 ?_
    refine S.b1 ?_
    exact S.ret2 Try.func20 rfl rfl rfl (fun w hs hk => hR w _ _ ⟨rfl, rfl⟩ hs hk)
  · replace h := VM.cond_f V.toVI b5 h
    refine S.condF rfl b5 ?_
    refine S.skip ?_
    refine S.seq ?_
    refine S.region ?_
    refine SO.v rfl (opv_move rfl) ?_
    refine SO.v rfl (opv_sub rfl rfl) ?_
    refine SO.v rfl (opv_assign rfl) ?_
    refine SO.v rfl (opv_assign rfl) ?_
    refine SO.nil ?_
    refine S.to (ρ' := [(6, .int .i64 (w64 (t1 - 1))), (7, .bool true)]) ⟨rfl, rfl, trivial⟩ ?_
    obtain ⟨hq, rfl⟩ := VM.ret_some V.toVI h
    cases hq
    refine S.b1 ?_
    refine S.b1 ?_
    exact S.ret2 Try.func20 rfl rfl rfl (fun w hs hk => hR w _ _ ⟨rfl, rfl⟩ hs hk)
end Go.Proofs
namespace Go.Proofs
open Go.Sl Go.RowKit
/-! 23 padstone/space.at -/
def space_at.f (a0 : Int) : Option (Int) :=
  some (w64 (1 + a0))
set_option maxHeartbeats 8000000 in
set_option maxRecDepth 100000 in
theorem space_at.ct (a0 : Int) (r0 : Int) (h : space_at.f a0 = some r0) :
    Ct Try.prog 23 [.int .i64 a0] (fun _ => True) [] (fun u H' => u = .int .i64 r0 ∧ H' = []) := by
  unfold space_at.f at h
  refine Ct.intro (n := 5) Try.func23 rfl rfl rfl ?_
  intro R w0 F hF hR
  refine S.seq ?_
  refine S.region ?_
  refine SO.v rfl (opv_assign rfl) ?_
  refine SO.nil ?_
  refine S.seq ?_
  refine S.region ?_
  refine SO.v rfl (opv_move rfl) ?_
  refine SO.v rfl (opv_add rfl rfl) ?_
  refine SO.v rfl (opv_assign rfl) ?_
  refine SO.nil ?_
  cases h
  exact S.ret1 Try.func23 rfl rfl (fun w hs hk => hR w _ _ ⟨rfl, rfl⟩ hs hk)
end Go.Proofs
namespace Go.Proofs
open Go.Sl Go.RowKit
/-! 25 padstone/space.in -/
def space_in.f (a0 : Int) : Option (Bool) :=
  some ((decide (0 ≤ a0)) && (decide (a0 < 4)))
set_option maxHeartbeats 8000000 in
set_option maxRecDepth 100000 in
theorem space_in.ct (a0 : Int) (r0 : Bool) (h : space_in.f a0 = some r0) :
    Ct Try.prog 25 [.int .i64 a0] (fun _ => True) [] (fun u H' => u = .bool r0 ∧ H' = []) := by
  unfold space_in.f at h
  refine Ct.intro (n := 9) Try.func25 rfl rfl rfl ?_
  intro R w0 F hF hR
  refine S.seq ?_
  refine S.region ?_
  refine SO.v rfl (opv_assign rfl) ?_
  refine SO.nil ?_
  refine S.seq ?_
  refine S.region ?_
  refine SO.v rfl (opv_move rfl) ?_
  refine SO.v rfl (opv_geq rfl rfl) ?_
  refine SO.v rfl (opv_move rfl) ?_
  refine SO.cut 3 8 (.bool ((decide (0 ≤ a0)) && (decide (a0 < 4)))) [F] (fun l2 hk2 => ?_) ?_
  · rcases bool_or (decide (0 ≤ a0)) with b1 | b1
    · refine SO.takeT rfl rfl rfl b1 ?_
      refine SO.v rfl (opv_move rfl) ?_
      refine SO.takeT rfl rfl rfl b1 ?_
      refine SO.v rfl (opv_lss rfl rfl) ?_
      refine SO.v rfl (opv_pick_t' b1 rfl rfl) ?_
      exact hk2.fitc (m := 3) rfl (and_t b1) rfl
    · refine SO.passF rfl rfl rfl b1 rfl rfl ?_
      refine SO.passF rfl rfl rfl b1 rfl rfl ?_
      refine SO.v rfl (opv_pick_f' b1 rfl rfl) ?_
      exact hk2.fitc (m := 3) rfl (and_f b1) rfl
  refine SO.v rfl (opv_assign rfl) ?_
  refine SO.nil ?_
  cases h
  exact S.ret1 Try.func25 rfl rfl (fun w hs hk => hR w _ _ ⟨rfl, rfl⟩ hs hk)
end Go.Proofs
namespace Go.Proofs
open Go.Sl Go.RowKit
/-! 14 padstone/space.Page -/
def space_Page.f (a1 : Int) (a2 : Int) : VM ((Int × Int × Bool)) :=
  (lay_Is.f a1 7).bind fun t1 => (bif !t1 then (VM.ret true) else ((VM.opt (space_in.f a2)).bind fun t7 => VM.ret (!t7))).bind fun c5 => bif c5 then (VM.ret (0, 0, false)) else ((VM.opt (space_at.f a2)).bind fun t11 => (lay_Field.f a1 t11).bind fun t13 => bif (decide ((w64 ((w64 (t13.tdiv 8)) - 1)) < 0)) || (decide (32 ≤ (w64 ((w64 (t13.tdiv 8)) - 1)))) then (VM.ret (0, 0, false)) else (VM.ret (w64 ((w64 (t13.tdiv 8)) - 1), t13.tmod 8, true)))
set_option maxHeartbeats 8000000 in
set_option maxRecDepth 100000 in
theorem space_Page.ct (V : VW Try.prog) (a1 : Int) (a2 : Int) (r0 : Int) (r1 : Int) (r2 : Bool) (s s' : V.S) (h : VM.run V.toVI (space_Page.f a1 a2) s = some ((r0, r1, r2), s')) :
    Ct Try.prog 14 [V.val, .int .i64 a1, .int .i64 a2] (fun _ => True) [V.rep s] (fun u H' => u = .tuple #[.int .i64 r0, .int .i64 r1, .bool r2] ∧ H' = [V.rep s']) := by
  unfold space_Page.f at h
  refine Ct.intro (n := 37) Try.func14 rfl rfl rfl ?_
  intro R w0 F hF hR
  refine S.seq ?_
  refine S.region ?_
  refine SO.v rfl (opv_assign rfl) ?_
  refine SO.v rfl (opv_assign rfl) ?_
  refine SO.v rfl (opv_assign rfl) ?_
  refine SO.nil ?_
  refine S.seq ?_
  refine S.seq ?_
  refine S.region ?_
  refine SO.v rfl (opv_move rfl) ?_
  refine SO.v rfl (opv_move rfl) ?_
  obtain ⟨t1, s3, ht2, h⟩ := VM.bind_some V.toVI h
  refine SO.call (pre := [V.rep _]) rfl Try.call19 rfl rfl rfl (lay_Is.ct V _ _ _ _ _ ht2) trivial ?_
  rintro _ _ ⟨rfl, rfl⟩
  refine SO.v rfl (opv_not rfl) ?_
  refine SO.v rfl (opv_move rfl) ?_
  obtain ⟨c5, s9, hc6, hgk⟩ := VM.bind_some V.toVI h
  refine SO.cut 4 19 (.bool c5) [V.rep s9, F] (fun l2 hk2 => ?_) ?_
  · clear hgk
    replace h := hc6
    rcases bool_or (!t1) with b4 | b4
    · replace h := VM.cond_t V.toVI b4 h
      refine SO.passF rfl rfl rfl b4 rfl rfl ?_
      refine SO.passF rfl rfl rfl b4 rfl rfl ?_
      refine SO.passF rfl rfl rfl b4 rfl rfl ?_
      obtain ⟨hq, rfl⟩ := VM.ret_some V.toVI h
      cases hq
      refine SO.v rfl (opv_pick_t' b4 rfl rfl) ?_
      refine SO.b1 ?_
      refine SO.b1 ?_
      exact hk2.fitc (m := 4) rfl (rfl) rfl
    · replace h := VM.cond_f V.toVI b4 h
      refine SO.takeT rfl rfl rfl b4 ?_
      refine SO.v rfl (opv_move rfl) ?_
      refine SO.takeT rfl rfl rfl b4 ?_
      obtain ⟨t7, ht8, h⟩ := VM.opt_some V.toVI h
      refine SO.call (pre := []) rfl Try.call25 rfl rfl rfl (space_in.ct _ _ ht8) trivial ?_
      rintro _ _ ⟨rfl, rfl⟩
      refine SO.takeT rfl rfl rfl b4 ?_
      refine SO.v rfl (opv_not rfl) ?_
      obtain ⟨hq, rfl⟩ := VM.ret_some V.toVI h
      cases hq
      refine SO.v rfl (opv_pick_f' b4 rfl rfl) ?_
      refine SO.b1 ?_
      refine SO.b1 ?_
      exact hk2.fitc (m := 4) rfl (rfl) rfl
  clear hc6
  replace h := hgk
  refine SO.nil ?_
  rcases bool_or c5 with b10 | b10
  · replace h := VM.cond_t V.toVI b10 h
    refine S.condT rfl b10 ?_
    refine S.seq ?_
    refine S.region ?_
    refine SO.v rfl (opv_assign rfl) ?_
    refine SO.v rfl (opv_assign rfl) ?_
    refine SO.v rfl (opv_assign rfl) ?_
    refine SO.nil ?_
    obtain ⟨hq, rfl⟩ := VM.ret_some V.toVI h
    cases hq
    refine S.b1 ?_
    refine S.b1 ?_
    exact S.ret3 Try.func14 rfl rfl rfl rfl (fun w hs hk => hR w _ _ ⟨rfl, rfl⟩ hs hk)
  · replace h := VM.cond_f V.toVI b10 h
    refine S.condF rfl b10 ?_
    refine S.skip ?_
    refine S.seq ?_
    refine S.region ?_
    refine SO.v rfl (opv_move rfl) ?_
    refine SO.v rfl (opv_move rfl) ?_
    refine SO.v rfl (opv_move rfl) ?_
    obtain ⟨t11, ht12, h⟩ := VM.opt_some V.toVI h
    refine SO.call (pre := []) rfl Try.call23 rfl rfl rfl (space_at.ct _ _ ht12) trivial ?_
    rintro _ _ ⟨rfl, rfl⟩
    obtain ⟨t13, s15, ht14, h⟩ := VM.bind_some V.toVI h
    refine SO.call (pre := [V.rep _]) rfl Try.call21 rfl rfl rfl (lay_Field.ct V _ _ _ _ _ ht14) trivial ?_
    rintro _ _ ⟨rfl, rfl⟩
    refine SO.v rfl (opv_assign rfl) ?_
    refine SO.nil ?_
    refine S.to (ρ' := [(6, .int .i64 0), (7, .int .i64 0), (8, .bool false), (9, .int .i64 t13)]) ⟨rfl, rfl, rfl, rfl, trivial⟩ ?_
    refine S.seq ?_
    refine S.region ?_
    refine SO.v rfl (opv_move rfl) ?_
    refine SO.v rfl (opv_quo rfl rfl (by decide)) ?_
    refine SO.v rfl (opv_sub rfl rfl) ?_
    refine SO.v rfl (opv_assign rfl) ?_
    refine SO.nil ?_
    refine S.seq ?_
    refine S.seq ?_
    refine S.region ?_
    refine SO.v rfl (opv_move rfl) ?_
    refine SO.v rfl (opv_lss rfl rfl) ?_
    refine SO.v rfl (opv_move rfl) ?_
    refine SO.cut 3 33 (.bool ((decide ((w64 ((w64 (t13.tdiv 8)) - 1)) < 0)) || (decide (32 ≤ (w64 ((w64 (t13.tdiv 8)) - 1)))))) [V.rep s15, F] (fun l2 hk2 => ?_) ?_
    · rcases bool_or (decide ((w64 ((w64 (t13.tdiv 8)) - 1)) < 0)) with b16 | b16
      · refine SO.passF rfl rfl rfl b16 rfl rfl ?_
        refine SO.passF rfl rfl rfl b16 rfl rfl ?_
        refine SO.v rfl (opv_pick_t' b16 rfl rfl) ?_
        refine SO.b1 ?_
        refine SO.b1 ?_
        exact hk2.fitc (m := 3) rfl (or_t b16) rfl
      · refine SO.takeT rfl rfl rfl b16 ?_
        refine SO.v rfl (opv_move rfl) ?_
        refine SO.takeT rfl rfl rfl b16 ?_
        refine SO.v rfl (opv_geq rfl rfl) ?_
        refine SO.v rfl (opv_pick_f' b16 rfl rfl) ?_
        refine SO.b1 ?_
        refine SO.b1 ?_
        exact hk2.fitc (m := 3) rfl (or_f b16) rfl
    refine SO.nil ?_
    rcases bool_or ((decide ((w64 ((w64 (t13.tdiv 8)) - 1)) < 0)) || (decide (32 ≤ (w64 ((w64 (t13.tdiv 8)) - 1))))) with b17 | b17
    · replace h := VM.cond_t V.toVI b17 h
      refine S.condT rfl b17 ?_
      refine S.seq ?_
      refine S.region ?_
      refine SO.v rfl (opv_assign rfl) ?_
      refine SO.v rfl (opv_assign rfl) ?_
      refine SO.v rfl (opv_assign rfl) ?_
      refine SO.nil ?_
      refine S.to (ρ' := [(6, .int .i64 0), (7, .int .i64 0), (8, .bool false), (9, .int .i64 t13), (10, .int .i64 (w64 ((w64 (t13.tdiv 8)) - 1)))]) ⟨rfl, rfl, rfl, rfl, rfl, trivial⟩ ?_
      obtain ⟨hq, rfl⟩ := VM.ret_some V.toVI h
      cases hq
      refine S.b1 ?_
      refine S.b1 ?_
      exact S.ret3 Try.func14 rfl rfl rfl rfl (fun w hs hk => hR w _ _ ⟨rfl, rfl⟩ hs hk)
    · replace h := VM.cond_f V.toVI b17 h
      refine S.condF rfl b17 ?_
      refine S.skip ?_
      refine S.seq ?_
      refine S.region ?_
      refine SO.v rfl (opv_move rfl) ?_
      refine SO.v rfl (opv_move rfl) ?_
      refine SO.v rfl (opv_rem rfl rfl (by decide)) ?_
      refine SO.v rfl (opv_assign rfl) ?_
      refine SO.v rfl (opv_assign rfl) ?_
      refine SO.v rfl (opv_assign rfl) ?_
      refine SO.nil ?_
      refine S.to (ρ' := [(6, .int .i64 (w64 ((w64 (t13.tdiv 8)) - 1))), (7, .int .i64 (t13.tmod 8)), (8, .bool true)]) ⟨rfl, rfl, rfl, trivial⟩ ?_
      obtain ⟨hq, rfl⟩ := VM.ret_some V.toVI h
      cases hq
      refine S.b1 ?_
      refine S.b1 ?_
      exact S.ret3 Try.func14 rfl rfl rfl rfl (fun w hs hk => hR w _ _ ⟨rfl, rfl⟩ hs hk)
end Go.Proofs
namespace Go.Proofs
open Go.Sl Go.RowKit
/-! 10 padstone/space.Map -/
def space_Map.f (a1 : Int) (a2 : Int) (a3 : Int) (a4 : Int) : VM ((Option Int)) :=
  (lay_Ref.f a1 1).bind fun (t1, t2) => (space_Page.f a2 a3).bind fun (t5, t6, t7) => (lay_Is.f a1 6).bind fun t10 => (bif !t10 then (VM.ret true) else ((lay_Is.f a2 7).bind fun t16 => VM.ret (!t16))).bind fun c14 => bif c14 then (VM.ret (some 2)) else ((VM.opt (space_in.f a3)).bind fun t21 => bif ((!t21) || (decide (a4 < 0))) || (decide (7 < a4)) then (VM.ret (some 1)) else (bif t2 then (VM.ret (some 10)) else (bif t7 then (VM.ret (some 8)) else ((VM.opt (space_at.f a3)).bind fun t28 => (lay_Put.f a2 t28 (w64 ((w64 (8 * (w64 (a1 + 1)))) + a4))).bind fun _ => (lay_Put.f a1 1 (w64 (a2 + 1))).bind fun _ => (lay_Put.f a1 2 a3).bind fun _ => VM.ret none))))
set_option maxHeartbeats 8000000 in
set_option maxRecDepth 100000 in
theorem space_Map.ct (V : VW Try.prog) (a1 : Int) (a2 : Int) (a3 : Int) (a4 : Int) (r0 : Option Int) (s s' : V.S) (h : VM.run V.toVI (space_Map.f a1 a2 a3 a4) s = some (r0, s')) :
    Ct Try.prog 10 [V.val, .int .i64 a1, .int .i64 a2, .int .i64 a3, .int .i64 a4] (fun _ => True) [V.rep s] (fun u H' => u = errV 53 r0 ∧ H' = [V.rep s']) := by
  unfold space_Map.f at h
  refine Ct.intro (n := 80) Try.func10 rfl rfl rfl ?_
  intro R w0 F hF hR
  refine S.seq ?_
  refine S.region ?_
  refine SO.v rfl (opv_assign rfl) ?_
  refine SO.nil ?_
  refine S.seq ?_
  refine S.region ?_
  refine SO.v rfl (opv_move rfl) ?_
  refine SO.v rfl (opv_move rfl) ?_
  obtain ⟨⟨t1, t2⟩, s4, ht3, h⟩ := VM.bind_some V.toVI h
  refine SO.call (pre := [V.rep _]) rfl Try.call20 rfl rfl rfl (lay_Ref.ct V _ _ _ _ _ _ ht3) trivial ?_
  rintro _ _ ⟨rfl, rfl⟩
  refine SO.v rfl (opv_move rfl) ?_
  refine SO.v rfl (opv_extract rfl rfl) ?_
  refine SO.v rfl (opv_extract rfl rfl) ?_
  refine SO.v rfl (opv_assign rfl) ?_
  refine SO.v rfl (opv_assign rfl) ?_
  refine SO.nil ?_
  refine S.to (ρ' := [(0, V.val), (1, .int .i64 a1), (2, .int .i64 a2), (3, .int .i64 a3), (4, .int .i64 a4), (10, errV 53 none), (12, .bool t2)]) ⟨rfl, rfl, rfl, rfl, rfl, rfl, rfl, trivial⟩ ?_
  refine S.seq ?_
  refine S.region ?_
  refine SO.v rfl (opv_move rfl) ?_
  refine SO.v rfl (opv_move rfl) ?_
  refine SO.v rfl (opv_move rfl) ?_
  obtain ⟨⟨t5, t6, t7⟩, s9, ht8, h⟩ := VM.bind_some V.toVI h
  refine SO.call (pre := [V.rep _]) rfl Try.call14 rfl rfl rfl (space_Page.ct V _ _ _ _ _ _ _ ht8) trivial ?_
  rintro _ _ ⟨rfl, rfl⟩
  refine SO.v rfl (opv_move rfl) ?_
  refine SO.v rfl (opv_extract rfl rfl) ?_
  refine SO.v rfl (opv_extract rfl rfl) ?_
  refine SO.v rfl (opv_extract rfl rfl) ?_
  refine SO.v rfl (opv_assign rfl) ?_
  refine SO.v rfl (opv_assign rfl) ?_
  refine SO.v rfl (opv_assign rfl) ?_
  refine SO.nil ?_
  refine S.to (ρ' := [(0, V.val), (1, .int .i64 a1), (2, .int .i64 a2), (3, .int .i64 a3), (4, .int .i64 a4), (10, errV 53 none), (12, .bool t2), (15, .bool t7)]) ⟨rfl, rfl, rfl, rfl, rfl, rfl, rfl, rfl, trivial⟩ ?_
  refine S.seq ?_
  refine S.block ?_
  refine S.seq ?_
  refine S.region ?_
  refine SO.v rfl (opv_move rfl) ?_
  refine SO.v rfl (opv_move rfl) ?_
  obtain ⟨t10, s12, ht11, h⟩ := VM.bind_some V.toVI h
  refine SO.call (pre := [V.rep _]) rfl Try.call19 rfl rfl rfl (lay_Is.ct V _ _ _ _ _ ht11) trivial ?_
  rintro _ _ ⟨rfl, rfl⟩
  refine SO.v rfl (opv_not rfl) ?_
  refine SO.v rfl (opv_move rfl) ?_
  obtain ⟨c14, s19, hc15, hgk⟩ := VM.bind_some V.toVI h
  refine SO.cut 5 40 (.bool c14) [V.rep s19, F] (fun l2 hk2 => ?_) ?_
  · clear hgk
    replace h := hc15
    rcases bool_or (!t10) with b13 | b13
    · replace h := VM.cond_t V.toVI b13 h
      refine SO.passF rfl rfl rfl b13 rfl rfl ?_
      refine SO.passF rfl rfl rfl b13 rfl rfl ?_
      refine SO.passF rfl rfl rfl b13 rfl rfl ?_
      refine SO.passF rfl rfl rfl b13 rfl rfl ?_
      obtain ⟨hq, rfl⟩ := VM.ret_some V.toVI h
      cases hq
      refine SO.v rfl (opv_pick_t' b13 rfl rfl) ?_
      refine SO.b1 ?_
      refine SO.b1 ?_
      exact hk2.fitc (m := 5) rfl (rfl) rfl
    · replace h := VM.cond_f V.toVI b13 h
      refine SO.takeT rfl rfl rfl b13 ?_
      refine SO.v rfl (opv_move rfl) ?_
      refine SO.takeT rfl rfl rfl b13 ?_
      refine SO.v rfl (opv_move rfl) ?_
      refine SO.takeT rfl rfl rfl b13 ?_
      obtain ⟨t16, s18, ht17, h⟩ := VM.bind_some V.toVI h
      refine SO.call (pre := [V.rep _]) rfl Try.call19 rfl rfl rfl (lay_Is.ct V _ _ _ _ _ ht17) trivial ?_
      rintro _ _ ⟨rfl, rfl⟩
      refine SO.takeT rfl rfl rfl b13 ?_
      refine SO.v rfl (opv_not rfl) ?_
      obtain ⟨hq, rfl⟩ := VM.ret_some V.toVI h
      cases hq
      refine SO.v rfl (opv_pick_f' b13 rfl rfl) ?_
      refine SO.b1 ?_
      refine SO.b1 ?_
      exact hk2.fitc (m := 5) rfl (rfl) rfl
  clear hc15
  replace h := hgk
  refine SO.v rfl (opv_assign rfl) ?_
  refine SO.nil ?_
  rcases bool_or c14 with b20 | b20
  · replace h := VM.cond_t V.toVI b20 h
    refine S.condT rfl b20 ?_
    refine S.seq ?_
    refine S.region ?_
    refine SO.v rfl (opv_iface Try.underlying53 rfl rfl) ?_
    refine SO.v rfl (opv_assign rfl) ?_
    refine SO.nil ?_
    refine S.to (ρ' := [(0, V.val), (1, .int .i64 a1), (2, .int .i64 a2), (3, .int .i64 a3), (4, .int .i64 a4), (10, errV 53 (some 2))]) ⟨rfl, rfl, rfl, rfl, rfl, rfl, trivial⟩ ?_
    obtain ⟨hq, rfl⟩ := VM.ret_some V.toVI h
    cases hq
    refine S.b1 ?_
    refine S.b1 ?_
    exact S.ret1 Try.func10 rfl rfl (fun w hs hk => hR w _ _ ⟨rfl, rfl⟩ hs hk)
  · replace h := VM.cond_f V.toVI b20 h
    refine S.condF rfl b20 ?_
    refine S.seq ?_
    refine S.region ?_
    refine SO.v rfl (opv_move rfl) ?_
    obtain ⟨t21, ht22, h⟩ := VM.opt_some V.toVI h
    refine SO.call (pre := []) rfl Try.call25 rfl rfl rfl (space_in.ct _ _ ht22) trivial ?_
    rintro _ _ ⟨rfl, rfl⟩
    refine SO.v rfl (opv_not rfl) ?_
    refine SO.v rfl (opv_move rfl) ?_
    refine SO.cut 3 49 (.bool ((!t21) || (decide (a4 < 0)))) [V.rep s19, F] (fun l2 hk2 => ?_) ?_
    · rcases bool_or (!t21) with b23 | b23
      · refine SO.passF rfl rfl rfl b23 rfl rfl ?_
        refine SO.passF rfl rfl rfl b23 rfl rfl ?_
        refine SO.v rfl (opv_pick_t' b23 rfl rfl) ?_
        refine SO.b1 ?_
        refine SO.b1 ?_
        exact hk2.fitc (m := 3) rfl (or_t b23) rfl
      · refine SO.takeT rfl rfl rfl b23 ?_
        refine SO.v rfl (opv_move rfl) ?_
        refine SO.takeT rfl rfl rfl b23 ?_
        refine SO.v rfl (opv_lss rfl rfl) ?_
        refine SO.v rfl (opv_pick_f' b23 rfl rfl) ?_
        refine SO.b1 ?_
        refine SO.b1 ?_
        exact hk2.fitc (m := 3) rfl (or_f b23) rfl
    refine SO.v rfl (opv_move rfl) ?_
    refine SO.cut 3 53 (.bool (((!t21) || (decide (a4 < 0))) || (decide (7 < a4)))) [V.rep s19, F] (fun l2 hk2 => ?_) ?_
    · rcases bool_or ((!t21) || (decide (a4 < 0))) with b24 | b24
      · refine SO.passF rfl rfl rfl b24 rfl rfl ?_
        refine SO.passF rfl rfl rfl b24 rfl rfl ?_
        refine SO.v rfl (opv_pick_t' b24 rfl rfl) ?_
        refine SO.b1 ?_
        refine SO.b1 ?_
        exact hk2.fitc (m := 3) rfl (or_t b24) rfl
      · refine SO.takeT rfl rfl rfl b24 ?_
        refine SO.v rfl (opv_move rfl) ?_
        refine SO.takeT rfl rfl rfl b24 ?_
        refine SO.v rfl (opv_gtr rfl rfl) ?_
        refine SO.v rfl (opv_pick_f' b24 rfl rfl) ?_
        refine SO.b1 ?_
        refine SO.b1 ?_
        exact hk2.fitc (m := 3) rfl (or_f b24) rfl
    refine SO.v rfl (opv_assign rfl) ?_
    refine SO.nil ?_
    refine S.to (ρ' := [(0, V.val), (1, .int .i64 a1), (2, .int .i64 a2), (3, .int .i64 a3), (4, .int .i64 a4), (10, errV 53 none), (12, .bool t2), (15, .bool t7), (42, .bool (((!t21) || (decide (a4 < 0))) || (decide (7 < a4))))]) ⟨rfl, rfl, rfl, rfl, rfl, rfl, rfl, rfl, rfl, trivial⟩ ?_
    rcases bool_or (((!t21) || (decide (a4 < 0))) || (decide (7 < a4))) with b25 | b25
    · replace h := VM.cond_t V.toVI b25 h
      refine S.condT rfl b25 ?_
      refine S.seq ?_
      refine S.region ?_
      refine SO.v rfl (opv_iface Try.underlying53 rfl rfl) ?_
      refine SO.v rfl (opv_assign rfl) ?_
      refine SO.nil ?_
      obtain ⟨hq, rfl⟩ := VM.ret_some V.toVI h
      cases hq
      refine S.b1 ?_
      refine S.b1 ?_
      exact S.ret1 Try.func10 rfl rfl (fun w hs hk => hR w _ _ ⟨rfl, rfl⟩ hs hk)
    · replace h := VM.cond_f V.toVI b25 h
      refine S.condF rfl b25 ?_
      refine S.seq ?_
      refine S.region ?_
      refine SO.v rfl (opv_move rfl) ?_
      refine SO.v rfl (opv_assign rfl) ?_
      refine SO.nil ?_
      rcases bool_or t2 with b26 | b26
      · replace h := VM.cond_t V.toVI b26 h
        refine S.condT rfl b26 ?_
        refine S.seq ?_
        refine S.region ?_
        refine SO.v rfl (opv_iface Try.underlying53 rfl rfl) ?_
        refine SO.v rfl (opv_assign rfl) ?_
        refine SO.nil ?_
        obtain ⟨hq, rfl⟩ := VM.ret_some V.toVI h
        cases hq
        refine S.b1 ?_
        refine S.b1 ?_
        exact S.ret1 Try.func10 rfl rfl (fun w hs hk => hR w _ _ ⟨rfl, rfl⟩ hs hk)
      · replace h := VM.cond_f V.toVI b26 h
        refine S.condF rfl b26 ?_
        refine S.seq ?_
        refine S.region ?_
        refine SO.v rfl (opv_move rfl) ?_
        refine SO.v rfl (opv_assign rfl) ?_
        refine SO.nil ?_
        rcases bool_or t7 with b27 | b27
        · replace h := VM.cond_t V.toVI b27 h
          refine S.condT rfl b27 ?_
          refine S.seq ?_
          refine S.region ?_
          refine SO.v rfl (opv_iface Try.underlying53 rfl rfl) ?_
          refine SO.v rfl (opv_assign rfl) ?_
          refine SO.nil ?_
          refine S.to (ρ' := [(0, V.val), (1, .int .i64 a1), (2, .int .i64 a2), (3, .int .i64 a3), (4, .int .i64 a4), (10, errV 53 (some 8))]) ⟨rfl, rfl, rfl, rfl, rfl, rfl, trivial⟩ ?_
          obtain ⟨hq, rfl⟩ := VM.ret_some V.toVI h
          cases hq
          refine S.b1 ?_
          refine S.b1 ?_
          exact S.ret1 Try.func10 rfl rfl (fun w hs hk => hR w _ _ ⟨rfl, rfl⟩ hs hk)
        · replace h := VM.cond_f V.toVI b27 h
          refine S.condF rfl b27 ?_
          refine S.skip ?_
          refine S.inBlock ?_
          refine S.seq ?_
          refine S.region ?_
          refine SO.v rfl (opv_move rfl) ?_
          refine SO.v rfl (opv_move rfl) ?_
          refine SO.v rfl (opv_move rfl) ?_
          obtain ⟨t28, ht29, h⟩ := VM.opt_some V.toVI h
          refine SO.call (pre := []) rfl Try.call23 rfl rfl rfl (space_at.ct _ _ ht29) trivial ?_
          rintro _ _ ⟨rfl, rfl⟩
          refine SO.v rfl (opv_move rfl) ?_
          refine SO.v rfl (opv_add rfl rfl) ?_
          refine SO.v rfl (opv_mul rfl rfl) ?_
          refine SO.v rfl (opv_move rfl) ?_
          refine SO.v rfl (opv_add rfl rfl) ?_
          obtain ⟨_, s31, ht30, h⟩ := VM.bind_some V.toVI h
          refine SO.call (pre := [V.rep _]) rfl Try.call22 rfl rfl rfl (lay_Put.ct V _ _ _ _ _ ht30) trivial ?_
          rintro _ _ ⟨rfl, rfl⟩
          refine SO.nil ?_
          refine S.to (ρ' := [(0, V.val), (1, .int .i64 a1), (2, .int .i64 a2), (3, .int .i64 a3), (10, errV 53 none)]) ⟨rfl, rfl, rfl, rfl, rfl, trivial⟩ ?_
          refine S.seq ?_
          refine S.region ?_
          refine SO.v rfl (opv_move rfl) ?_
          refine SO.v rfl (opv_move rfl) ?_
          refine SO.v rfl (opv_move rfl) ?_
          refine SO.v rfl (opv_add rfl rfl) ?_
          obtain ⟨_, s33, ht32, h⟩ := VM.bind_some V.toVI h
          refine SO.call (pre := [V.rep _]) rfl Try.call22 rfl rfl rfl (lay_Put.ct V _ _ _ _ _ ht32) trivial ?_
          rintro _ _ ⟨rfl, rfl⟩
          refine SO.nil ?_
          refine S.seq ?_
          refine S.region ?_
          refine SO.v rfl (opv_move rfl) ?_
          refine SO.v rfl (opv_move rfl) ?_
          refine SO.v rfl (opv_move rfl) ?_
          obtain ⟨_, s35, ht34, h⟩ := VM.bind_some V.toVI h
          refine SO.call (pre := [V.rep _]) rfl Try.call22 rfl rfl rfl (lay_Put.ct V _ _ _ _ _ ht34) trivial ?_
          rintro _ _ ⟨rfl, rfl⟩
          refine SO.nil ?_
          refine S.to (ρ' := [(10, errV 53 none)]) ⟨rfl, trivial⟩ ?_
          refine S.seq ?_
          refine S.region ?_
          refine SO.v rfl (opv_assign rfl) ?_
          refine SO.nil ?_
          obtain ⟨hq, rfl⟩ := VM.ret_some V.toVI h
          cases hq
          refine S.b1 ?_
          refine S.b1 ?_
          exact S.ret1 Try.func10 rfl rfl (fun w hs hk => hR w _ _ ⟨rfl, rfl⟩ hs hk)
end Go.Proofs
namespace Go.Proofs
open Go.Sl Go.RowKit
/-! 8 padstone/space.Unmap -/
def space_Unmap.f (a1 : Int) : VM ((Option Int)) :=
  (lay_Is.f a1 6).bind fun t1 => bif !t1 then (VM.ret (some 2)) else ((lay_Ref.f a1 1).bind fun (t5, t6) => bif !t6 then (VM.ret (some 10)) else ((lay_Field.f a1 2).bind fun t10 => (space_Page.f t5 t10).bind fun (t13, t14, t15) => bif t15 && (t13 == a1) then ((VM.opt (space_at.f t10)).bind fun t20 => (lay_Put.f t5 t20 0).bind fun _ => (lay_Put.f a1 1 0).bind fun _ => (lay_Put.f a1 2 0).bind fun _ => VM.ret none) else ((lay_Put.f a1 1 0).bind fun _ => (lay_Put.f a1 2 0).bind fun _ => VM.ret none)))
set_option maxHeartbeats 8000000 in
set_option maxRecDepth 100000 in
theorem space_Unmap.ct (V : VW Try.prog) (a1 : Int) (r0 : Option Int) (s s' : V.S) (h : VM.run V.toVI (space_Unmap.f a1) s = some (r0, s')) :
    Ct Try.prog 8 [V.val, .int .i64 a1] (fun _ => True) [V.rep s] (fun u H' => u = errV 53 r0 ∧ H' = [V.rep s']) := by
  unfold space_Unmap.f at h
  refine Ct.intro (n := 53) Try.func8 rfl rfl rfl ?_
  intro R w0 F hF hR
  refine S.seq ?_
  refine S.region ?_
  refine SO.v rfl (opv_assign rfl) ?_
  refine SO.nil ?_
  refine S.seq ?_
  refine S.seq ?_
  refine S.region ?_
  refine SO.v rfl (opv_move rfl) ?_
  refine SO.v rfl (opv_move rfl) ?_
  obtain ⟨t1, s3, ht2, h⟩ := VM.bind_some V.toVI h
  refine SO.call (pre := [V.rep _]) rfl Try.call19 rfl rfl rfl (lay_Is.ct V _ _ _ _ _ ht2) trivial ?_
  rintro _ _ ⟨rfl, rfl⟩
  refine SO.v rfl (opv_not rfl) ?_
  refine SO.nil ?_
  rcases bool_or (!t1) with b4 | b4
  · replace h := VM.cond_t V.toVI b4 h
    refine S.condT rfl b4 ?_
    refine S.seq ?_
    refine S.region ?_
    refine SO.v rfl (opv_iface Try.underlying53 rfl rfl) ?_
    refine SO.v rfl (opv_assign rfl) ?_
    refine SO.nil ?_
    obtain ⟨hq, rfl⟩ := VM.ret_some V.toVI h
    cases hq
    refine S.b1 ?_
    refine S.b1 ?_
    exact S.ret1 Try.func8 rfl rfl (fun w hs hk => hR w _ _ ⟨rfl, rfl⟩ hs hk)
  · replace h := VM.cond_f V.toVI b4 h
    refine S.condF rfl b4 ?_
    refine S.skip ?_
    refine S.seq ?_
    refine S.region ?_
    refine SO.v rfl (opv_move rfl) ?_
    refine SO.v rfl (opv_move rfl) ?_
    obtain ⟨⟨t5, t6⟩, s8, ht7, h⟩ := VM.bind_some V.toVI h
    refine SO.call (pre := [V.rep _]) rfl Try.call20 rfl rfl rfl (lay_Ref.ct V _ _ _ _ _ _ ht7) trivial ?_
    rintro _ _ ⟨rfl, rfl⟩
    refine SO.v rfl (opv_move rfl) ?_
    refine SO.v rfl (opv_extract rfl rfl) ?_
    refine SO.v rfl (opv_extract rfl rfl) ?_
    refine SO.v rfl (opv_assign rfl) ?_
    refine SO.v rfl (opv_assign rfl) ?_
    refine SO.nil ?_
    refine S.to (ρ' := [(0, V.val), (1, .int .i64 a1), (4, errV 53 none), (5, .int .i64 t5), (6, .bool t6)]) ⟨rfl, rfl, rfl, rfl, rfl, trivial⟩ ?_
    refine S.seq ?_
    refine S.seq ?_
    refine S.region ?_
    refine SO.v rfl (opv_move rfl) ?_
    refine SO.v rfl (opv_not rfl) ?_
    refine SO.nil ?_
    rcases bool_or (!t6) with b9 | b9
    · replace h := VM.cond_t V.toVI b9 h
      refine S.condT rfl b9 ?_
      refine S.seq ?_
      refine S.region ?_
      refine SO.v rfl (opv_iface Try.underlying53 rfl rfl) ?_
      refine SO.v rfl (opv_assign rfl) ?_
      refine SO.nil ?_
      obtain ⟨hq, rfl⟩ := VM.ret_some V.toVI h
      cases hq
      refine S.b1 ?_
      refine S.b1 ?_
      exact S.ret1 Try.func8 rfl rfl (fun w hs hk => hR w _ _ ⟨rfl, rfl⟩ hs hk)
    · replace h := VM.cond_f V.toVI b9 h
      refine S.condF rfl b9 ?_
      refine S.skip ?_
      refine S.seq ?_
      refine S.region ?_
      refine SO.v rfl (opv_move rfl) ?_
      refine SO.v rfl (opv_move rfl) ?_
      obtain ⟨t10, s12, ht11, h⟩ := VM.bind_some V.toVI h
      refine SO.call (pre := [V.rep _]) rfl Try.call21 rfl rfl rfl (lay_Field.ct V _ _ _ _ _ ht11) trivial ?_
      rintro _ _ ⟨rfl, rfl⟩
      refine SO.v rfl (opv_assign rfl) ?_
      refine SO.nil ?_
      refine S.seq ?_
      refine S.seq ?_
      refine S.region ?_
      refine SO.v rfl (opv_move rfl) ?_
      refine SO.v rfl (opv_move rfl) ?_
      refine SO.v rfl (opv_move rfl) ?_
      obtain ⟨⟨t13, t14, t15⟩, s17, ht16, h⟩ := VM.bind_some V.toVI h
      refine SO.call (pre := [V.rep _]) rfl Try.call14 rfl rfl rfl (space_Page.ct V _ _ _ _ _ _ _ ht16) trivial ?_
      rintro _ _ ⟨rfl, rfl⟩
      refine SO.v rfl (opv_move rfl) ?_
      refine SO.v rfl (opv_extract rfl rfl) ?_
      refine SO.v rfl (opv_extract rfl rfl) ?_
      refine SO.v rfl (opv_extract rfl rfl) ?_
      refine SO.v rfl (opv_assign rfl) ?_
      refine SO.v rfl (opv_assign rfl) ?_
      refine SO.v rfl (opv_assign rfl) ?_
      refine SO.nil ?_
      refine S.to (ρ' := [(0, V.val), (1, .int .i64 a1), (4, errV 53 none), (5, .int .i64 t5), (7, .int .i64 t10), (8, .int .i64 t13), (10, .bool t15)]) ⟨rfl, rfl, rfl, rfl, rfl, rfl, rfl, trivial⟩ ?_
      refine S.seq ?_
      refine S.region ?_
      refine SO.v rfl (opv_move rfl) ?_
      refine SO.v rfl (opv_move rfl) ?_
      refine SO.cut 4 41 (.bool (t15 && (t13 == a1))) [V.rep s17, F] (fun l2 hk2 => ?_) ?_
      · rcases bool_or t15 with b18 | b18
        · refine SO.takeT rfl rfl rfl b18 ?_
          refine SO.v rfl (opv_move rfl) ?_
          refine SO.takeT rfl rfl rfl b18 ?_
          refine SO.v rfl (opv_move rfl) ?_
          refine SO.takeT rfl rfl rfl b18 ?_
          refine SO.v rfl (opv_eql rfl rfl) ?_
          refine SO.v rfl (opv_pick_t' b18 rfl rfl) ?_
          refine SO.b1 ?_
          refine SO.b1 ?_
          exact hk2.fitc (m := 4) rfl (and_t b18) rfl
        · refine SO.passF rfl rfl rfl b18 rfl rfl ?_
          refine SO.passF rfl rfl rfl b18 rfl rfl ?_
          refine SO.passF rfl rfl rfl b18 rfl rfl ?_
          refine SO.v rfl (opv_pick_f' b18 rfl rfl) ?_
          refine SO.b1 ?_
          refine SO.b1 ?_
          exact hk2.fitc (m := 4) rfl (and_f b18) rfl
      refine SO.nil ?_
      rcases bool_or (t15 && (t13 == a1)) with b19 | b19
      · replace h := VM.cond_t V.toVI b19 h
        refine S.condT rfl b19 ?_
        refine S.region ?_
        refine SO.v rfl (opv_move rfl) ?_
        refine SO.v rfl (opv_move rfl) ?_
        refine SO.v rfl (opv_move rfl) ?_
        obtain ⟨t20, ht21, h⟩ := VM.opt_some V.toVI h
        refine SO.call (pre := []) rfl Try.call23 rfl rfl rfl (space_at.ct _ _ ht21) trivial ?_
        rintro _ _ ⟨rfl, rfl⟩
        obtain ⟨_, s23, ht22, h⟩ := VM.bind_some V.toVI h
        refine SO.call (pre := [V.rep _]) rfl Try.call22 rfl rfl rfl (lay_Put.ct V _ _ _ _ _ ht22) trivial ?_
        rintro _ _ ⟨rfl, rfl⟩
        refine SO.nil ?_
        refine S.to (ρ' := [(0, V.val), (1, .int .i64 a1), (4, errV 53 none)]) ⟨rfl, rfl, rfl, trivial⟩ ?_
        refine S.seq ?_
        refine S.region ?_
        refine SO.v rfl (opv_move rfl) ?_
        refine SO.v rfl (opv_move rfl) ?_
        obtain ⟨_, s25, ht24, h⟩ := VM.bind_some V.toVI h
        refine SO.call (pre := [V.rep _]) rfl Try.call22 rfl rfl rfl (lay_Put.ct V _ _ _ _ _ ht24) trivial ?_
        rintro _ _ ⟨rfl, rfl⟩
        refine SO.nil ?_
        refine S.seq ?_
        refine S.region ?_
        refine SO.v rfl (opv_move rfl) ?_
        refine SO.v rfl (opv_move rfl) ?_
        obtain ⟨_, s27, ht26, h⟩ := VM.bind_some V.toVI h
        refine SO.call (pre := [V.rep _]) rfl Try.call22 rfl rfl rfl (lay_Put.ct V _ _ _ _ _ ht26) trivial ?_
        rintro _ _ ⟨rfl, rfl⟩
        refine SO.nil ?_
        refine S.to (ρ' := [(4, errV 53 none)]) ⟨rfl, trivial⟩ ?_
        refine S.seq ?_
        refine S.region ?_
        refine SO.v rfl (opv_assign rfl) ?_
        refine SO.nil ?_
        obtain ⟨hq, rfl⟩ := VM.ret_some V.toVI h
        cases hq
        refine S.b1 ?_
        refine S.b1 ?_
        exact S.ret1 Try.func8 rfl rfl (fun w hs hk => hR w _ _ ⟨rfl, rfl⟩ hs hk)
      · replace h := VM.cond_f V.toVI b19 h
        refine S.condF rfl b19 ?_
        refine S.skip ?_
        refine S.seq ?_
        refine S.region ?_
        refine SO.v rfl (opv_move rfl) ?_
        refine SO.v rfl (opv_move rfl) ?_
        obtain ⟨_, s29, ht28, h⟩ := VM.bind_some V.toVI h
        refine SO.call (pre := [V.rep _]) rfl Try.call22 rfl rfl rfl (lay_Put.ct V _ _ _ _ _ ht28) trivial ?_
        rintro _ _ ⟨rfl, rfl⟩
        refine SO.nil ?_
        refine S.to (ρ' := [(0, V.val), (1, .int .i64 a1), (4, errV 53 none)]) ⟨rfl, rfl, rfl, trivial⟩ ?_
        refine S.seq ?_
        refine S.region ?_
        refine SO.v rfl (opv_move rfl) ?_
        refine SO.v rfl (opv_move rfl) ?_
        obtain ⟨_, s31, ht30, h⟩ := VM.bind_some V.toVI h
        refine SO.call (pre := [V.rep _]) rfl Try.call22 rfl rfl rfl (lay_Put.ct V _ _ _ _ _ ht30) trivial ?_
        rintro _ _ ⟨rfl, rfl⟩
        refine SO.nil ?_
        refine S.seq ?_
        refine S.region ?_
        refine SO.v rfl (opv_assign rfl) ?_
        refine SO.nil ?_
        obtain ⟨hq, rfl⟩ := VM.ret_some V.toVI h
        cases hq
        refine S.b1 ?_
        refine S.b1 ?_
        exact S.ret1 Try.func8 rfl rfl (fun w hs hk => hR w _ _ ⟨rfl, rfl⟩ hs hk)
end Go.Proofs
namespace Go.Proofs
open Go.Sl Go.RowKit
/-! 5 padstone/padstonelaw18.up -/
def law18_up.f (k : Nat) : Option (Bool) :=
  (law18_begun.f k ).bind fun t1 => (ref10_State_Words.f k t1).bind fun t5 => (VM.run plainI (space_Map.f 1 4 2 3) t5).bind fun (t9, s11) => (VM.run plainI (space_Page.f 4 2) s11).bind fun ((t13, t14, t15), s17) => (VM.run plainI (space_Page.f 4 1) s17).bind fun ((t19, t20, t21), s23) => (bif (((t9.isNone && (t13 == 1)) && (t14 == 3)) && t15) && (!t21) then ((VM.run plainI (space_Unmap.f 0) s23).bind fun (t34, s36) => some (t34 == some 10, s36)) else (some (false, s23))).bind fun (c30, w32) => (bif c30 then ((VM.run plainI (space_Map.f 4 4 0 0) w32).bind fun (t43, s45) => some (t43 == some 2, s45)) else (some (false, w32))).bind fun (c39, w41) => some c39
set_option maxHeartbeats 8000000 in
set_option maxRecDepth 100000 in
theorem law18_up.ct (k : Nat) (r0 : Bool) (h : law18_up.f k  = some r0) :
    Ct Try.prog 5 [] (fun _ => True) [] (fun u H' => u = .bool r0 ∧ H' = []) := by
  unfold law18_up.f at h
  refine Ct.intro (n := 59) Try.func5 rfl rfl rfl ?_
  intro R w0 F hF hR
  refine S.seq ?_
  refine S.region ?_
  refine SO.v rfl (opv_assign rfl) ?_
  refine SO.nil ?_
  refine S.seq ?_
  refine S.region ?_
  obtain ⟨t1, ht2, h⟩ := opt_bind h
  refine SO.call (pre := []) rfl Try.call6 rfl rfl rfl (law18_begun.ct _ _ ht2) trivial ?_
  rintro _ _ ⟨b3, u4_Slots, u4_Objs, rfl, rfl⟩
  obtain ⟨t5, ht6, h⟩ := opt_bind h
  refine SO.b2 ?_
  refine SO.b2 ?_
  refine SO.b2 ?_
  refine SO.call (pre := [Box _ _, OwnR _ _ _ _, OwnR _ _ _ _]) rfl Try.call7 rfl rfl rfl (ref10_State_Words.ct _ b3 u4_Slots u4_Objs _ _ ht6) trivial ?_
  rintro v7 _ ⟨_, rfl, rfl⟩
  refine SO.rd fun hr8 => ?_
  refine SO.v rfl (opv_assign rfl) ?_
  refine SO.nil ?_
  refine S.seq ?_
  refine S.region ?_
  refine SO.v rfl (opv_move rfl) ?_
  refine SO.v rfl (opv_iface Try.underlying27 rfl rfl) ?_
  obtain ⟨⟨t9, s11⟩, ht10, h⟩ := opt_bind h
  refine SO.call (pre := [(plainV v7).rep _]) rfl Try.call10 rfl rfl rfl (space_Map.ct (plainV v7) _ _ _ _ _ _ _ ht10) trivial ?_
  rintro _ _ ⟨rfl, rfl⟩
  refine headEq (plainV_rep _ _) ?_
  refine SO.rd fun hr12 => ?_
  refine SO.v rfl (opv_assign rfl) ?_
  refine SO.nil ?_
  refine S.seq ?_
  refine S.region ?_
  refine SO.v rfl (opv_move rfl) ?_
  refine SO.v rfl (opv_iface Try.underlying27 rfl rfl) ?_
  obtain ⟨⟨⟨t13, t14, t15⟩, s17⟩, ht16, h⟩ := opt_bind h
  refine SO.call (pre := [(plainV v7).rep _]) rfl Try.call14 rfl rfl rfl (space_Page.ct (plainV v7) _ _ _ _ _ _ _ ht16) trivial ?_
  rintro _ _ ⟨rfl, rfl⟩
  refine headEq (plainV_rep _ _) ?_
  refine SO.rd fun hr18 => ?_
  refine SO.v rfl (opv_move rfl) ?_
  refine SO.v rfl (opv_extract rfl rfl) ?_
  refine SO.v rfl (opv_extract rfl rfl) ?_
  refine SO.v rfl (opv_extract rfl rfl) ?_
  refine SO.v rfl (opv_assign rfl) ?_
  refine SO.v rfl (opv_assign rfl) ?_
  refine SO.v rfl (opv_assign rfl) ?_
  refine SO.nil ?_
  refine S.to (ρ' := [(0, .bool false), (1, v7), (2, errV 53 t9), (3, .int .i64 t13), (4, .int .i64 t14), (5, .bool t15)]) ⟨rfl, rfl, rfl, rfl, rfl, rfl, trivial⟩ ?_
  refine S.seq ?_
  refine S.region ?_
  refine SO.v rfl (opv_move rfl) ?_
  refine SO.v rfl (opv_iface Try.underlying27 rfl rfl) ?_
  obtain ⟨⟨⟨t19, t20, t21⟩, s23⟩, ht22, h⟩ := opt_bind h
  refine SO.call (pre := [(plainV v7).rep _]) rfl Try.call14 rfl rfl rfl (space_Page.ct (plainV v7) _ _ _ _ _ _ _ ht22) trivial ?_
  rintro _ _ ⟨rfl, rfl⟩
  refine headEq (plainV_rep _ _) ?_
  refine SO.rd fun hr24 => ?_
  refine SO.v rfl (opv_move rfl) ?_
  refine SO.v rfl (opv_extract rfl rfl) ?_
  refine SO.v rfl (opv_extract rfl rfl) ?_
  refine SO.v rfl (opv_extract rfl rfl) ?_
  refine SO.v rfl (opv_assign rfl) ?_
  refine SO.v rfl (opv_assign rfl) ?_
  refine SO.v rfl (opv_assign rfl) ?_
  refine SO.nil ?_
  refine S.to (ρ' := [(0, .bool false), (1, v7), (2, errV 53 t9), (3, .int .i64 t13), (4, .int .i64 t14), (5, .bool t15), (8, .bool t21)]) ⟨rfl, rfl, rfl, rfl, rfl, rfl, rfl, trivial⟩ ?_
  refine S.seq ?_
  refine S.region ?_
  refine SO.v rfl (opv_move rfl) ?_
  refine SO.v rfl (opv_eqlN (e := t9) Try.underlying32 rfl) ?_
  refine SO.v rfl (opv_move rfl) ?_
  refine SO.cut 3 33 (.bool (t9.isNone && (t13 == 1))) [Own 58 (ekI .u64) v7 s23, Box b3 [u4_Slots, u4_Objs, .int .i64 t1.NS, .int .i64 t1.NO], OwnR 57 kr_ref10_Slot u4_Slots t1.Slots, OwnR 46 kr_ref10_Obj u4_Objs t1.Objs, F] (fun l2 hk2 => ?_) ?_
  · rcases bool_or t9.isNone with b25 | b25
    · refine SO.takeT rfl rfl rfl b25 ?_
      refine SO.v rfl (opv_move rfl) ?_
      refine SO.takeT rfl rfl rfl b25 ?_
      refine SO.v rfl (opv_eql rfl rfl) ?_
      refine SO.v rfl (opv_pick_t' b25 rfl rfl) ?_
      refine SO.b4 ?_
      refine SO.b4 ?_
      refine SO.b4 ?_
      refine SO.b4 ?_
      refine SO.b4 ?_
      exact hk2.fitc (m := 3) rfl (and_t b25) rfl
    · refine SO.passF rfl rfl rfl b25 rfl rfl ?_
      refine SO.passF rfl rfl rfl b25 rfl rfl ?_
      refine SO.v rfl (opv_pick_f' b25 rfl rfl) ?_
      refine SO.b4 ?_
      refine SO.b4 ?_
      refine SO.b4 ?_
      refine SO.b4 ?_
      refine SO.b4 ?_
      exact hk2.fitc (m := 3) rfl (and_f b25) rfl
  refine SO.v rfl (opv_move rfl) ?_
  refine SO.cut 3 37 (.bool ((t9.isNone && (t13 == 1)) && (t14 == 3))) [Own 58 (ekI .u64) v7 s23, Box b3 [u4_Slots, u4_Objs, .int .i64 t1.NS, .int .i64 t1.NO], OwnR 57 kr_ref10_Slot u4_Slots t1.Slots, OwnR 46 kr_ref10_Obj u4_Objs t1.Objs, F] (fun l2 hk2 => ?_) ?_
  · rcases bool_or (t9.isNone && (t13 == 1)) with b26 | b26
    · refine SO.takeT rfl rfl rfl b26 ?_
      refine SO.v rfl (opv_move rfl) ?_
      refine SO.takeT rfl rfl rfl b26 ?_
      refine SO.v rfl (opv_eql rfl rfl) ?_
      refine SO.v rfl (opv_pick_t' b26 rfl rfl) ?_
      refine SO.b4 ?_
      refine SO.b4 ?_
      refine SO.b4 ?_
      refine SO.b4 ?_
      refine SO.b4 ?_
      exact hk2.fitc (m := 3) rfl (and_t b26) rfl
    · refine SO.passF rfl rfl rfl b26 rfl rfl ?_
      refine SO.passF rfl rfl rfl b26 rfl rfl ?_
      refine SO.v rfl (opv_pick_f' b26 rfl rfl) ?_
      refine SO.b4 ?_
      refine SO.b4 ?_
      refine SO.b4 ?_
      refine SO.b4 ?_
      refine SO.b4 ?_
      exact hk2.fitc (m := 3) rfl (and_f b26) rfl
  refine SO.v rfl (opv_move rfl) ?_
  refine SO.cut 2 40 (.bool (((t9.isNone && (t13 == 1)) && (t14 == 3)) && t15)) [Own 58 (ekI .u64) v7 s23, Box b3 [u4_Slots, u4_Objs, .int .i64 t1.NS, .int .i64 t1.NO], OwnR 57 kr_ref10_Slot u4_Slots t1.Slots, OwnR 46 kr_ref10_Obj u4_Objs t1.Objs, F] (fun l2 hk2 => ?_) ?_
  · rcases bool_or ((t9.isNone && (t13 == 1)) && (t14 == 3)) with b27 | b27
    · refine SO.takeT rfl rfl rfl b27 ?_
      refine SO.v rfl (opv_move rfl) ?_
      refine SO.v rfl (opv_pick_t' b27 rfl rfl) ?_
      refine SO.b4 ?_
      refine SO.b4 ?_
      refine SO.b4 ?_
      refine SO.b4 ?_
      refine SO.b4 ?_
      exact hk2.fitc (m := 2) rfl (and_t b27) rfl
    · refine SO.passF rfl rfl rfl b27 rfl rfl ?_
      refine SO.v rfl (opv_pick_f' b27 rfl rfl) ?_
      refine SO.b4 ?_
      refine SO.b4 ?_
      refine SO.b4 ?_
      refine SO.b4 ?_
      refine SO.b4 ?_
      exact hk2.fitc (m := 2) rfl (and_f b27) rfl
  refine SO.v rfl (opv_move rfl) ?_
  refine SO.cut 3 44 (.bool ((((t9.isNone && (t13 == 1)) && (t14 == 3)) && t15) && (!t21))) [Own 58 (ekI .u64) v7 s23, Box b3 [u4_Slots, u4_Objs, .int .i64 t1.NS, .int .i64 t1.NO], OwnR 57 kr_ref10_Slot u4_Slots t1.Slots, OwnR 46 kr_ref10_Obj u4_Objs t1.Objs, F] (fun l2 hk2 => ?_) ?_
  · rcases bool_or (((t9.isNone && (t13 == 1)) && (t14 == 3)) && t15) with b28 | b28
    · refine SO.takeT rfl rfl rfl b28 ?_
      refine SO.v rfl (opv_move rfl) ?_
      refine SO.takeT rfl rfl rfl b28 ?_
      refine SO.v rfl (opv_not rfl) ?_
      refine SO.v rfl (opv_pick_t' b28 rfl rfl) ?_
      refine SO.b4 ?_
      refine SO.b4 ?_
      refine SO.b4 ?_
      refine SO.b4 ?_
      refine SO.b4 ?_
      exact hk2.fitc (m := 3) rfl (and_t b28) rfl
    · refine SO.passF rfl rfl rfl b28 rfl rfl ?_
      refine SO.passF rfl rfl rfl b28 rfl rfl ?_
      refine SO.v rfl (opv_pick_f' b28 rfl rfl) ?_
      refine SO.b4 ?_
      refine SO.b4 ?_
      refine SO.b4 ?_
      refine SO.b4 ?_
      refine SO.b4 ?_
      exact hk2.fitc (m := 3) rfl (and_f b28) rfl
  refine SO.v rfl (opv_move rfl) ?_
  obtain ⟨⟨c30, w32⟩, hc31, hgk⟩ := opt_bind h
  refine SO.cut 6 51 (.bool c30) [Own 58 (ekI .u64) v7 w32, Box b3 [u4_Slots, u4_Objs, .int .i64 t1.NS, .int .i64 t1.NO], OwnR 57 kr_ref10_Slot u4_Slots t1.Slots, OwnR 46 kr_ref10_Obj u4_Objs t1.Objs, F] (fun l2 hk2 => ?_) ?_
  · clear hgk
    replace h := hc31
    rcases bool_or ((((t9.isNone && (t13 == 1)) && (t14 == 3)) && t15) && (!t21)) with b29 | b29
    · replace h := cond_t b29 h
      refine SO.takeT rfl rfl rfl b29 ?_
      refine SO.v rfl (opv_move rfl) ?_
      refine SO.takeT rfl rfl rfl b29 ?_
      refine SO.v rfl (opv_iface Try.underlying27 rfl rfl) ?_
      refine SO.takeT rfl rfl rfl b29 ?_
      obtain ⟨⟨t34, s36⟩, ht35, h⟩ := opt_bind h
      refine SO.call (pre := [(plainV v7).rep _]) rfl Try.call8 rfl rfl rfl (space_Unmap.ct (plainV v7) _ _ _ _ ht35) trivial ?_
      rintro _ _ ⟨rfl, rfl⟩
      refine headEq (plainV_rep _ _) ?_
      refine SO.rd fun hr37 => ?_
      refine SO.takeT rfl rfl rfl b29 ?_
      refine SO.v rfl (opv_iface Try.underlying53 rfl rfl) ?_
      refine SO.takeT rfl rfl rfl b29 ?_
      refine SO.v rfl (opv_eqlE (e := t34) (c := 10) Try.underlying32 Try.underlying53 inf53 rfl rfl rfl) ?_
      cases h
      refine SO.v rfl (opv_pick_t' b29 rfl rfl) ?_
      refine SO.b4 ?_
      refine SO.b4 ?_
      refine SO.b4 ?_
      refine SO.b4 ?_
      refine SO.b4 ?_
      exact hk2.fitc (m := 6) rfl (rfl) rfl
    · replace h := cond_f b29 h
      refine SO.passF rfl rfl rfl b29 rfl rfl ?_
      refine SO.passF rfl rfl rfl b29 rfl rfl ?_
      refine SO.passF rfl rfl rfl b29 rfl rfl ?_
      refine SO.passF rfl rfl rfl b29 rfl rfl ?_
      refine SO.passF rfl rfl rfl b29 rfl rfl ?_
      cases h
      refine SO.v rfl (opv_pick_f' b29 rfl rfl) ?_
      refine SO.b4 ?_
      refine SO.b4 ?_
      refine SO.b4 ?_
      refine SO.b4 ?_
      refine SO.b4 ?_
      exact hk2.fitc (m := 6) rfl (rfl) rfl
  clear hc31
  replace h := hgk
  refine SO.rd fun hr33 => ?_
  refine SO.v rfl (opv_move rfl) ?_
  obtain ⟨⟨c39, w41⟩, hc40, hgk⟩ := opt_bind h
  refine SO.cut 6 58 (.bool c39) [Own 58 (ekI .u64) v7 w41, Box b3 [u4_Slots, u4_Objs, .int .i64 t1.NS, .int .i64 t1.NO], OwnR 57 kr_ref10_Slot u4_Slots t1.Slots, OwnR 46 kr_ref10_Obj u4_Objs t1.Objs, F] (fun l2 hk2 => ?_) ?_
  · clear hgk
    replace h := hc40
    rcases bool_or c30 with b38 | b38
    · replace h := cond_t b38 h
      refine SO.takeT rfl rfl rfl b38 ?_
      refine SO.v rfl (opv_move rfl) ?_
      refine SO.takeT rfl rfl rfl b38 ?_
      refine SO.v rfl (opv_iface Try.underlying27 rfl rfl) ?_
      refine SO.takeT rfl rfl rfl b38 ?_
      obtain ⟨⟨t43, s45⟩, ht44, h⟩ := opt_bind h
      refine SO.call (pre := [(plainV v7).rep _]) rfl Try.call10 rfl rfl rfl (space_Map.ct (plainV v7) _ _ _ _ _ _ _ ht44) trivial ?_
      rintro _ _ ⟨rfl, rfl⟩
      refine headEq (plainV_rep _ _) ?_
      refine SO.rd fun hr46 => ?_
      refine SO.takeT rfl rfl rfl b38 ?_
      refine SO.v rfl (opv_iface Try.underlying53 rfl rfl) ?_
      refine SO.takeT rfl rfl rfl b38 ?_
      refine SO.v rfl (opv_eqlE (e := t43) (c := 2) Try.underlying32 Try.underlying53 inf53 rfl rfl rfl) ?_
      cases h
      refine SO.v rfl (opv_pick_t' b38 rfl rfl) ?_
      refine SO.b4 ?_
      refine SO.b4 ?_
      refine SO.b4 ?_
      refine SO.b4 ?_
      refine SO.b4 ?_
      exact hk2.fitc (m := 6) rfl (rfl) rfl
    · replace h := cond_f b38 h
      refine SO.passF rfl rfl rfl b38 rfl rfl ?_
      refine SO.passF rfl rfl rfl b38 rfl rfl ?_
      refine SO.passF rfl rfl rfl b38 rfl rfl ?_
      refine SO.passF rfl rfl rfl b38 rfl rfl ?_
      refine SO.passF rfl rfl rfl b38 rfl rfl ?_
      cases h
      refine SO.v rfl (opv_pick_f' b38 rfl rfl) ?_
      refine SO.b4 ?_
      refine SO.b4 ?_
      refine SO.b4 ?_
      refine SO.b4 ?_
      refine SO.b4 ?_
      exact hk2.fitc (m := 6) rfl (rfl) rfl
  clear hc40
  replace h := hgk
  refine SO.rd fun hr42 => ?_
  refine SO.v rfl (opv_assign rfl) ?_
  refine SO.nil ?_
  refine S.to (ρ' := [(0, .bool c39)]) ⟨rfl, trivial⟩ ?_
  cases h
  refine S.drop ?_
  refine S.drop ?_
  refine S.drop ?_
  refine S.drop ?_
  exact S.ret1 Try.func5 rfl rfl (fun w hs hk => hR w _ _ ⟨rfl, rfl⟩ hs hk)
end Go.Proofs
namespace Go.Proofs
open Go.Sl Go.RowKit
/-! 4 padstone/padstonelaw18.SpaceOnce -/
def law18_SpaceOnce.l4 (x10_3 : Int) : Nat → (Int × (List Int) × (List Int)) → Option (Brk Bool (Int × Int × Bool × (List Int) × (List Int)))
  | 0, _ => none
  | k + 1, (x11_4, qv10_4, qv27_4) => bif decide (x11_4 < 4) then ((VM.run plainI (space_Page.f x10_3 x11_4) qv10_4).bind fun ((t37, t38, t39), s41) => bif t39 then (bif (decide (t37 < 0)) || (decide (3 < t37)) then (some (Brk.ret false)) else ((at_ qv27_4 t37).bind fun x46 => (at_ qv27_4 t37).bind fun x48 => law18_SpaceOnce.l4 x10_3 k (w64 (x11_4 + 1), s41, qv27_4.set t37.toNat (w64 (x46 + 1))))) else (law18_SpaceOnce.l4 x10_3 k (w64 (x11_4 + 1), s41, qv27_4))) else (some (Brk.nx (x11_4, x11_4, decide (x11_4 < 4), qv10_4, qv27_4)))
def law18_SpaceOnce.l3 : Nat → (Int × (List Int) × (List Int)) → Option (Brk Bool (Int × Int × Bool × (List Int) × (List Int)))
  | 0, _ => none
  | k + 1, (x10_3, qv10_3, qv27_3) => bif decide (x10_3 < 6) then ((law18_SpaceOnce.l4 x10_3 k (0, qv10_3, qv27_3)).bind fun o4 => Brk.go o4 (fun r => some (Brk.ret r)) (fun (j11_e4, j62_e4, j63_e4, qv10_e4, qv27_e4) => law18_SpaceOnce.l3  k (w64 (x10_3 + 1), qv10_e4, qv27_e4))) else (some (Brk.nx (x10_3, x10_3, decide (x10_3 < 6), qv27_3, qv10_3)))
def law18_SpaceOnce.l5 (qv27_e3 : List Int) : Nat → Int → Option (Brk Bool (Int × Int × Bool))
  | 0, _ => none
  | k + 1, x15_5 => bif decide (x15_5 < 4) then ((at_ qv27_e3 x15_5).bind fun x56 => bif decide (1 < x56) then (some (Brk.ret false)) else (law18_SpaceOnce.l5 qv27_e3 k (w64 (x15_5 + 1)))) else (some (Brk.nx (x15_5, x15_5, decide (x15_5 < 4))))
def law18_SpaceOnce.l1 (a0 : List law18_Deed) : Nat → (Int × (List Int)) → Option (Brk Bool (List Int))
  | 0, _ => none
  | k + 1, (x7_1, qv10_1) => bif decide (x7_1 < (a0.length : Int)) then ((at_ a0 x7_1).bind fun x14 => (bif x14.Un then ((VM.run plainI (space_Unmap.f x14.A) qv10_1).bind fun (t18, s20) => some s20) else ((VM.run plainI (space_Map.f x14.A x14.B x14.Page x14.Rights) qv10_1).bind fun (t22, s24) => some s24)).bind fun qv10_2 => (mk_ 0 4).bind fun xs29 => (law18_SpaceOnce.l3 k (4, qv10_2, xs29)).bind fun o3 => Brk.go o3 (fun r => some (Brk.ret r)) (fun (j10_e3, j58_e3, j59_e3, qv27_e3, qv10_e3) => (law18_SpaceOnce.l5 qv27_e3 k 0).bind fun o5 => Brk.go o5 (fun r => some (Brk.ret r)) (fun (j15_e5, j88_e5, j89_e5) => law18_SpaceOnce.l1 a0 k (w64 (x7_1 + 1), qv10_e3)))) else (some (Brk.nx qv10_1))
def law18_SpaceOnce.l7 (t60 : Int) (x17_6 : Int) : Nat → (Int × (List Int)) → Option (Brk Bool (Int × Int × Bool × (List Int)))
  | 0, _ => none
  | k + 1, (x18_7, qv10_7) => bif decide (x18_7 < 4) then ((VM.run plainI (space_Page.f x17_6 x18_7) qv10_7).bind fun ((t70, t71, t72), s74) => bif t72 && (t70 == t60) then (some (Brk.ret false)) else (law18_SpaceOnce.l7 t60 x17_6 k (w64 (x18_7 + 1), s74))) else (some (Brk.nx (x18_7, x18_7, decide (x18_7 < 4), qv10_7)))
def law18_SpaceOnce.l6 (t60 : Int) : Nat → (Int × (List Int)) → Option (Brk Bool (List Int))
  | 0, _ => none
  | k + 1, (x17_6, qv10_6) => bif decide (x17_6 < 6) then ((law18_SpaceOnce.l7 t60 x17_6 k (0, qv10_6)).bind fun o7 => Brk.go o7 (fun r => some (Brk.ret r)) (fun (j18_e7, j107_e7, j108_e7, qv10_e7) => law18_SpaceOnce.l6 t60 k (w64 (x17_6 + 1), qv10_e7))) else (some (Brk.nx qv10_6))
def law18_SpaceOnce.f (k : Nat) (a0 : List law18_Deed) (a1 : Int) : Option (Bool) :=
  (law18_up.f k ).bind fun t1 => bif decide (120 < (a0.length : Int)) then (some t1) else ((law18_begun.f k ).bind fun t4 => (ref10_State_Words.f k t4).bind fun t8 => (law18_SpaceOnce.l1 a0 k (0, t8)).bind fun o1 => Brk.go o1 (fun r => some r) (fun qv10_e1 => (law10_Pick.f a1 4).bind fun t60 => (VM.run plainI (space_Unmap.f t60) qv10_e1).bind fun (t62, s64) => (law18_SpaceOnce.l6 t60 k (4, s64)).bind fun o6 => Brk.go o6 (fun r => some r) (fun qv10_e6 => (bif t1 then ((VM.run plainI (space_Unmap.f t60) qv10_e6).bind fun (t85, s87) => some (t85 == some 10, s87)) else (some (false, qv10_e6))).bind fun (c81, w83) => some c81)))
set_option maxHeartbeats 8000000 in
set_option maxRecDepth 100000 in
theorem law18_SpaceOnce.ct (k : Nat) (v0 : Value) (a0 : List law18_Deed) (a1 : Int) (r0 : Bool) (h : law18_SpaceOnce.f k a0 a1 = some r0) :
    Ct Try.prog 4 [v0, .int .i64 a1] (fun F => Rd ek_law18_Deed v0 a0 F) [] (fun u H' => u = .bool r0 ∧ H' = []) := by
  unfold law18_SpaceOnce.f at h
  refine Ct.intro (n := 135) Try.func4 rfl rfl rfl ?_
  intro R w0 F hF hR
  have hF0 := hF
  refine S.seq ?_
  refine S.region ?_
  refine SO.v rfl (opv_assign rfl) ?_
  refine SO.nil ?_
  refine S.seq ?_
  refine S.region ?_
  obtain ⟨t1, ht2, h⟩ := opt_bind h
  refine SO.call (pre := []) rfl Try.call5 rfl rfl rfl (law18_up.ct _ _ ht2) trivial ?_
  rintro _ _ ⟨rfl, rfl⟩
  refine SO.v rfl (opv_assign rfl) ?_
  refine SO.nil ?_
  refine S.seq ?_
  refine S.seq ?_
  refine S.region ?_
  refine SO.v rfl (opv_move rfl) ?_
  refine SO.v rfl (opv_lenR rfl Try.underlying22 hF0 rfl) ?_
  refine SO.v rfl (opv_gtr rfl rfl) ?_
  refine SO.nil ?_
  rcases bool_or (decide (120 < (a0.length : Int))) with b3 | b3
  · replace h := cond_t b3 h
    refine S.condT rfl b3 ?_
    refine S.seq ?_
    refine S.region ?_
    refine SO.v rfl (opv_move rfl) ?_
    refine SO.v rfl (opv_assign rfl) ?_
    refine SO.nil ?_
    cases h
    exact S.ret1 Try.func4 rfl rfl (fun w hs hk => hR w _ _ ⟨rfl, rfl⟩ hs hk)
  · replace h := cond_f b3 h
    refine S.condF rfl b3 ?_
    refine S.skip ?_
    refine S.seq ?_
    refine S.region ?_
    obtain ⟨t4, ht5, h⟩ := opt_bind h
    refine SO.call (pre := []) rfl Try.call6 rfl rfl rfl (law18_begun.ct _ _ ht5) trivial ?_
    rintro _ _ ⟨b6, u7_Slots, u7_Objs, rfl, rfl⟩
    obtain ⟨t8, ht9, h⟩ := opt_bind h
    refine SO.b2 ?_
    refine SO.b2 ?_
    refine SO.b2 ?_
    refine SO.call (pre := [Box _ _, OwnR _ _ _ _, OwnR _ _ _ _]) rfl Try.call7 rfl rfl rfl (ref10_State_Words.ct _ b6 u7_Slots u7_Objs _ _ ht9) trivial ?_
    rintro v10 _ ⟨_, rfl, rfl⟩
    refine SO.rd fun hr11 => ?_
    refine SO.v rfl (opv_assign rfl) ?_
    refine SO.nil ?_
    refine S.seq ?_
    refine S.seq ?_
    refine S.region ?_
    refine SO.v rfl (opv_assign rfl) ?_
    refine SO.nil ?_
    obtain ⟨o1, hl1, h⟩ := opt_bind h
    refine S.b4 ?_
    refine S.b4 ?_
    refine S.b4 ?_
    refine S.b4 ?_
    refine S.b4 ?_
    refine S.to (ρ' := [(7, .int .i64 0), (6, v10), (5, .bool t1), (4, .bool false), (0, v0), (1, .int .i64 a1)]) ⟨rfl, rfl, rfl, rfl, rfl, rfl, trivial⟩ ?_
    refine S.forloop (X := (Int × (List Int)) × Unit) (O := Brk Bool (List Int)) (fun m x => law18_SpaceOnce.l1 a0 m x.1) (fun x => match x with | ((x7_1, qv10_1), _) => [(7, .int .i64 x7_1), (6, v10), (5, .bool t1), (4, .bool false), (0, v0), (1, .int .i64 a1)]) (fun x => match x with | ((x7_1, qv10_1), _) => [Own 58 (ekI .u64) v10 qv10_1, Box b6 [u7_Slots, u7_Objs, .int .i64 t4.NS, .int .i64 t4.NO], OwnR 57 kr_ref10_Slot u7_Slots t4.Slots, OwnR 46 kr_ref10_Obj u7_Objs t4.Objs, F]) (fun Sk o' => (∀ r', o' = Brk.ret r' → some r' = some r0) ∧ ∀ qv10_e1 : (List Int), ∀ _ : Unit, o' = Brk.nx qv10_e1 → Sk [(1, .int .i64 a1), (4, .bool false), (5, .bool t1), (6, v10)] [Own 58 (ekI .u64) v10 qv10_e1, Box b6 [u7_Slots, u7_Objs, .int .i64 t4.NS, .int .i64 t4.NO], OwnR 57 kr_ref10_Slot u7_Slots t4.Slots, OwnR 46 kr_ref10_Obj u7_Objs t4.Objs, F]) (fun _ => rfl) ?_ (m := k) (x := ((0, t8), ())) hl1 ?_
    · clear h hl1
      intro k x o_1 h hK1 ih1
      obtain ⟨⟨x7_1, qv10_1⟩, _⟩ := x
      replace h : law18_SpaceOnce.l1 a0 (k + 1) (x7_1, qv10_1) = some o_1 := h
      first | rw [law18_SpaceOnce.l1] at h | unfold law18_SpaceOnce.l1 at h
      refine S.rd fun hr12 => ?_
      refine S.seq ?_
      refine S.seq ?_
      refine S.region ?_
      refine SO.v rfl (opv_move rfl) ?_
      refine SO.v rfl (opv_move rfl) ?_
      refine SO.v rfl (opv_lenR rfl Try.underlying22 hF0 rfl) ?_
      refine SO.v rfl (opv_lss rfl rfl) ?_
      refine SO.nil ?_
      rcases bool_or (decide (x7_1 < (a0.length : Int))) with b13 | b13
      · replace h := cond_t b13 h
        refine S.condT rfl b13 ?_
        refine S.skip ?_
        refine S.seq ?_
        refine S.block ?_
        refine S.seq ?_
        refine S.region ?_
        refine SO.v rfl (opv_move rfl) ?_
        refine SO.v rfl (opv_move rfl) ?_
        obtain ⟨x14, hx15, h⟩ := opt_bind h
        refine SO.v rfl (opv_idx Try.underlying22 Try.sizeOf30 hF0 rfl rfl hx15) ?_
        refine SO.loadIN rfl Try.isAgg30 Try.sizeOf30 (Rd.tail (Rd.tail (Rd.tail (Rd.tail (Rd.head hF0))))) hx15 rfl rfl rfl ?_
        refine SO.alloc rfl Try.zeroValue30 rfl (fun b16 => ?_)
        refine SO.storeN Try.sizeOf30 rfl rfl rfl rfl rfl rfl ?_
        refine SO.nil ?_
        refine S.seq ?_
        refine S.seq ?_
        refine S.region ?_
        refine SO.v rfl (opv_fieldAddr Try.underlying30 rfl Try.sizeOf4 rfl rfl) ?_
        refine SO.load1 rfl Try.isAgg4 rfl rfl ?_
        refine SO.nil ?_
        obtain ⟨qv10_2, hC2, hJ2⟩ := opt_bind h
        clear h
        refine S.cutP (G := Unit) (fun _ => True) (fun _ => [(0, v0), (1, .int .i64 a1), (4, .bool false), (5, .bool t1), (6, v10), (7, .int .i64 x7_1), (8, bp b16 0), (29, .int .i64 x7_1), (30, v0), (31, .int .i64 (a0.length : Int)), (32, .bool (decide (x7_1 < (a0.length : Int)))), (35, v0), (36, .int .i64 x7_1), (37, idxp v0 (x7_1.toNat * ek_law18_Deed.sz)), (38, .agg #[.bool x14.Un, .int .i64 x14.A, .int .i64 x14.B, .int .i64 x14.Page, .int .i64 x14.Rights]), (39, bp b16 0), (40, .bool x14.Un)]) (fun _ => [Box b16 [.bool x14.Un, .int .i64 x14.A, .int .i64 x14.B, .int .i64 x14.Page, .int .i64 x14.Rights], Own 58 (ekI .u64) v10 qv10_2, Box b6 [u7_Slots, u7_Objs, .int .i64 t4.NS, .int .i64 t4.NO], OwnR 57 kr_ref10_Slot u7_Slots t4.Slots, OwnR 46 kr_ref10_Obj u7_Objs t4.Objs, F]) (fun hk2 => ?_) ?_
        · replace h := hC2
          rcases bool_or x14.Un with b17 | b17
          · replace h := cond_t b17 h
            refine S.condT rfl b17 ?_
            refine S.region ?_
            refine SO.v rfl (opv_move rfl) ?_
            refine SO.v rfl (opv_iface Try.underlying27 rfl rfl) ?_
            refine SO.v rfl (opv_fieldAddr Try.underlying30 rfl Try.sizeOf3 rfl rfl) ?_
            refine SO.load1 rfl Try.isAgg3 rfl rfl ?_
            obtain ⟨⟨t18, s20⟩, ht19, h⟩ := opt_bind h
            refine SO.b1 ?_
            refine SO.call (pre := [(plainV v10).rep _]) rfl Try.call8 rfl rfl rfl (space_Unmap.ct (plainV v10) _ _ _ _ ht19) trivial ?_
            rintro _ _ ⟨rfl, rfl⟩
            refine headEq (plainV_rep _ _) ?_
            refine SO.rd fun hr21 => ?_
            refine SO.nil ?_
            cases h
            refine S.b5 ?_
            refine S.b5 ?_
            refine S.b5 ?_
            refine S.b5 ?_
            refine S.b4 ?_
            refine S.b5 ?_
            refine S.to ?_ (hk2 () trivial)
            exact ⟨rfl, rfl, rfl, rfl, rfl, rfl, rfl, rfl, rfl, rfl, rfl, rfl, rfl, rfl, rfl, rfl, rfl, trivial⟩
          · replace h := cond_f b17 h
            refine S.condF rfl b17 ?_
            refine S.region ?_
            refine SO.v rfl (opv_move rfl) ?_
            refine SO.v rfl (opv_iface Try.underlying27 rfl rfl) ?_
            refine SO.v rfl (opv_fieldAddr Try.underlying30 rfl Try.sizeOf3 rfl rfl) ?_
            refine SO.load1 rfl Try.isAgg3 rfl rfl ?_
            refine SO.v rfl (opv_fieldAddr Try.underlying30 rfl Try.sizeOf3 rfl rfl) ?_
            refine SO.load1 rfl Try.isAgg3 rfl rfl ?_
            refine SO.v rfl (opv_fieldAddr Try.underlying30 rfl Try.sizeOf3 rfl rfl) ?_
            refine SO.load1 rfl Try.isAgg3 rfl rfl ?_
            refine SO.v rfl (opv_fieldAddr Try.underlying30 rfl Try.sizeOf3 rfl rfl) ?_
            refine SO.load1 rfl Try.isAgg3 rfl rfl ?_
            obtain ⟨⟨t22, s24⟩, ht23, h⟩ := opt_bind h
            refine SO.b1 ?_
            refine SO.call (pre := [(plainV v10).rep _]) rfl Try.call10 rfl rfl rfl (space_Map.ct (plainV v10) _ _ _ _ _ _ _ ht23) trivial ?_
            rintro _ _ ⟨rfl, rfl⟩
            refine headEq (plainV_rep _ _) ?_
            refine SO.rd fun hr25 => ?_
            refine SO.nil ?_
            cases h
            refine S.b5 ?_
            refine S.b5 ?_
            refine S.b5 ?_
            refine S.b5 ?_
            refine S.b4 ?_
            refine S.b5 ?_
            refine S.to ?_ (hk2 () trivial)
            exact ⟨rfl, rfl, rfl, rfl, rfl, rfl, rfl, rfl, rfl, rfl, rfl, rfl, rfl, rfl, rfl, rfl, rfl, trivial⟩
        rintro _ -
        replace h := hJ2
        refine S.b1 ?_
        refine S.rd fun hr26 => ?_
        refine S.seq ?_
        refine S.region ?_
        obtain ⟨xs29, hx30, h⟩ := opt_bind h
        refine SO.makeSlice (K := ekI .i64) rfl Try.underlying41 inf3 rfl rfl rfl (by decide) rfl rfl rfl hx30 (fun v27 hr28 => ?_)
        refine SO.v rfl (opv_assign rfl) ?_
        refine SO.nil ?_
        refine S.seq ?_
        refine S.seq ?_
        refine S.region ?_
        refine SO.v rfl (opv_assign rfl) ?_
        refine SO.nil ?_
        obtain ⟨o3, hl3, h⟩ := opt_bind h
        refine S.b6 ?_
        refine S.b6 ?_
        refine S.b6 ?_
        refine S.b6 ?_
        refine S.b6 ?_
        refine S.b6 ?_
        refine S.b6 ?_
        refine S.to (ρ' := [(10, .int .i64 4), (9, v27), (57, v27), (0, v0), (1, .int .i64 a1), (4, .bool false), (5, .bool t1), (6, v10), (7, .int .i64 x7_1), (8, bp b16 0), (29, .int .i64 x7_1), (30, v0), (31, .int .i64 (a0.length : Int)), (32, .bool (decide (x7_1 < (a0.length : Int)))), (35, v0), (36, .int .i64 x7_1), (37, idxp v0 (x7_1.toNat * ek_law18_Deed.sz)), (38, .agg #[.bool x14.Un, .int .i64 x14.A, .int .i64 x14.B, .int .i64 x14.Page, .int .i64 x14.Rights]), (39, bp b16 0), (40, .bool x14.Un)]) ⟨rfl, rfl, rfl, rfl, rfl, rfl, rfl, rfl, rfl, rfl, rfl, rfl, rfl, rfl, rfl, rfl, rfl, rfl, rfl, rfl, trivial⟩ ?_
        refine S.forloop (X := (Int × (List Int) × (List Int)) × Unit) (O := Brk Bool (Int × Int × Bool × (List Int) × (List Int))) (fun m x => law18_SpaceOnce.l3  m x.1) (fun x => match x with | ((x10_3, qv10_3, qv27_3), _) => [(10, .int .i64 x10_3), (9, v27), (57, v27), (0, v0), (1, .int .i64 a1), (4, .bool false), (5, .bool t1), (6, v10), (7, .int .i64 x7_1), (8, bp b16 0), (29, .int .i64 x7_1), (30, v0), (31, .int .i64 (a0.length : Int)), (32, .bool (decide (x7_1 < (a0.length : Int)))), (35, v0), (36, .int .i64 x7_1), (37, idxp v0 (x7_1.toNat * ek_law18_Deed.sz)), (38, .agg #[.bool x14.Un, .int .i64 x14.A, .int .i64 x14.B, .int .i64 x14.Page, .int .i64 x14.Rights]), (39, bp b16 0), (40, .bool x14.Un)]) (fun x => match x with | ((x10_3, qv10_3, qv27_3), _) => [Own 3 (ekI .i64) v27 qv27_3, Own 58 (ekI .u64) v10 qv10_3, Box b16 [.bool x14.Un, .int .i64 x14.A, .int .i64 x14.B, .int .i64 x14.Page, .int .i64 x14.Rights], Box b6 [u7_Slots, u7_Objs, .int .i64 t4.NS, .int .i64 t4.NO], OwnR 57 kr_ref10_Slot u7_Slots t4.Slots, OwnR 46 kr_ref10_Obj u7_Objs t4.Objs, F]) (fun Sk o' => (∀ r', o' = Brk.ret r' → some (Brk.ret r') = some o_1) ∧ ∀ j : (Int × Int × Bool × (List Int) × (List Int)), match j with | (j10_e3, j58_e3, j59_e3, qv27_e3, qv10_e3) => ∀ _ : Unit, o' = Brk.nx (j10_e3, j58_e3, j59_e3, qv27_e3, qv10_e3) → Sk [(0, v0), (1, .int .i64 a1), (4, .bool false), (5, .bool t1), (6, v10), (7, .int .i64 x7_1), (8, bp b16 0), (9, v27), (10, .int .i64 j10_e3), (29, .int .i64 x7_1), (30, v0), (31, .int .i64 (a0.length : Int)), (32, .bool (decide (x7_1 < (a0.length : Int)))), (35, v0), (36, .int .i64 x7_1), (37, idxp v0 (x7_1.toNat * ek_law18_Deed.sz)), (38, .agg #[.bool x14.Un, .int .i64 x14.A, .int .i64 x14.B, .int .i64 x14.Page, .int .i64 x14.Rights]), (39, bp b16 0), (40, .bool x14.Un), (57, v27), (58, .int .i64 j58_e3), (59, .bool j59_e3)] [Own 3 (ekI .i64) v27 qv27_e3, Own 58 (ekI .u64) v10 qv10_e3, Box b16 [.bool x14.Un, .int .i64 x14.A, .int .i64 x14.B, .int .i64 x14.Page, .int .i64 x14.Rights], Box b6 [u7_Slots, u7_Objs, .int .i64 t4.NS, .int .i64 t4.NO], OwnR 57 kr_ref10_Slot u7_Slots t4.Slots, OwnR 46 kr_ref10_Obj u7_Objs t4.Objs, F]) (fun _ => rfl) ?_ (m := k) (x := ((4, qv10_2, xs29), ())) hl3 ?_
        · clear h hl3
          intro k x o_3 h hK3 ih3
          obtain ⟨⟨x10_3, qv10_3, qv27_3⟩, _⟩ := x
          replace h : law18_SpaceOnce.l3  (k + 1) (x10_3, qv10_3, qv27_3) = some o_3 := h
          first | rw [law18_SpaceOnce.l3] at h | unfold law18_SpaceOnce.l3 at h
          refine S.rd fun hr31 => ?_
          refine S.b1 ?_
          refine S.rd fun hr32 => ?_
          refine S.seq ?_
          refine S.seq ?_
          refine S.region ?_
          refine SO.v rfl (opv_move rfl) ?_
          refine SO.v rfl (opv_lss rfl rfl) ?_
          refine SO.nil ?_
          rcases bool_or (decide (x10_3 < 6)) with b33 | b33
          · replace h := cond_t b33 h
            refine S.condT rfl b33 ?_
            refine S.skip ?_
            refine S.seq ?_
            refine S.block ?_
            refine S.seq ?_
            refine S.region ?_
            refine SO.v rfl (opv_assign rfl) ?_
            refine SO.nil ?_
            obtain ⟨o4, hl4, h⟩ := opt_bind h
            refine S.b6 ?_
            refine S.b6 ?_
            refine S.b6 ?_
            refine S.b6 ?_
            refine S.b6 ?_
            refine S.b6 ?_
            refine S.b6 ?_
            refine S.to (ρ' := [(11, .int .i64 0), (59, .bool (decide (x10_3 < 6))), (58, .int .i64 x10_3), (10, .int .i64 x10_3), (9, v27), (57, v27), (0, v0), (1, .int .i64 a1), (4, .bool false), (5, .bool t1), (6, v10), (7, .int .i64 x7_1), (8, bp b16 0), (29, .int .i64 x7_1), (30, v0), (31, .int .i64 (a0.length : Int)), (32, .bool (decide (x7_1 < (a0.length : Int)))), (35, v0), (36, .int .i64 x7_1), (37, idxp v0 (x7_1.toNat * ek_law18_Deed.sz)), (38, .agg #[.bool x14.Un, .int .i64 x14.A, .int .i64 x14.B, .int .i64 x14.Page, .int .i64 x14.Rights]), (39, bp b16 0), (40, .bool x14.Un)]) ⟨rfl, rfl, rfl, rfl, rfl, rfl, rfl, rfl, rfl, rfl, rfl, rfl, rfl, rfl, rfl, rfl, rfl, rfl, rfl, rfl, rfl, rfl, rfl, trivial⟩ ?_
            refine S.forloop (X := (Int × (List Int) × (List Int)) × Unit) (O := Brk Bool (Int × Int × Bool × (List Int) × (List Int))) (fun m x => law18_SpaceOnce.l4 x10_3 m x.1) (fun x => match x with | ((x11_4, qv10_4, qv27_4), _) => [(11, .int .i64 x11_4), (59, .bool (decide (x10_3 < 6))), (58, .int .i64 x10_3), (10, .int .i64 x10_3), (9, v27), (57, v27), (0, v0), (1, .int .i64 a1), (4, .bool false), (5, .bool t1), (6, v10), (7, .int .i64 x7_1), (8, bp b16 0), (29, .int .i64 x7_1), (30, v0), (31, .int .i64 (a0.length : Int)), (32, .bool (decide (x7_1 < (a0.length : Int)))), (35, v0), (36, .int .i64 x7_1), (37, idxp v0 (x7_1.toNat * ek_law18_Deed.sz)), (38, .agg #[.bool x14.Un, .int .i64 x14.A, .int .i64 x14.B, .int .i64 x14.Page, .int .i64 x14.Rights]), (39, bp b16 0), (40, .bool x14.Un)]) (fun x => match x with | ((x11_4, qv10_4, qv27_4), _) => [Own 58 (ekI .u64) v10 qv10_4, Own 3 (ekI .i64) v27 qv27_4, Box b16 [.bool x14.Un, .int .i64 x14.A, .int .i64 x14.B, .int .i64 x14.Page, .int .i64 x14.Rights], Box b6 [u7_Slots, u7_Objs, .int .i64 t4.NS, .int .i64 t4.NO], OwnR 57 kr_ref10_Slot u7_Slots t4.Slots, OwnR 46 kr_ref10_Obj u7_Objs t4.Objs, F]) (fun Sk o' => (∀ r', o' = Brk.ret r' → some (Brk.ret r') = some o_3) ∧ ∀ j : (Int × Int × Bool × (List Int) × (List Int)), match j with | (j11_e4, j62_e4, j63_e4, qv10_e4, qv27_e4) => ∀ _ : Unit, o' = Brk.nx (j11_e4, j62_e4, j63_e4, qv10_e4, qv27_e4) → Sk [(0, v0), (1, .int .i64 a1), (4, .bool false), (5, .bool t1), (6, v10), (7, .int .i64 x7_1), (8, bp b16 0), (9, v27), (10, .int .i64 x10_3), (11, .int .i64 j11_e4), (29, .int .i64 x7_1), (30, v0), (31, .int .i64 (a0.length : Int)), (32, .bool (decide (x7_1 < (a0.length : Int)))), (35, v0), (36, .int .i64 x7_1), (37, idxp v0 (x7_1.toNat * ek_law18_Deed.sz)), (38, .agg #[.bool x14.Un, .int .i64 x14.A, .int .i64 x14.B, .int .i64 x14.Page, .int .i64 x14.Rights]), (39, bp b16 0), (40, .bool x14.Un), (57, v27), (58, .int .i64 x10_3), (59, .bool (decide (x10_3 < 6))), (62, .int .i64 j62_e4), (63, .bool j63_e4)] [Own 58 (ekI .u64) v10 qv10_e4, Own 3 (ekI .i64) v27 qv27_e4, Box b16 [.bool x14.Un, .int .i64 x14.A, .int .i64 x14.B, .int .i64 x14.Page, .int .i64 x14.Rights], Box b6 [u7_Slots, u7_Objs, .int .i64 t4.NS, .int .i64 t4.NO], OwnR 57 kr_ref10_Slot u7_Slots t4.Slots, OwnR 46 kr_ref10_Obj u7_Objs t4.Objs, F]) (fun _ => rfl) ?_ (m := k) (x := ((0, qv10_3, qv27_3), ())) hl4 ?_
            · clear h hl4
              intro k x o_4 h hK4 ih4
              obtain ⟨⟨x11_4, qv10_4, qv27_4⟩, _⟩ := x
              replace h : law18_SpaceOnce.l4 x10_3 (k + 1) (x11_4, qv10_4, qv27_4) = some o_4 := h
              first | rw [law18_SpaceOnce.l4] at h | unfold law18_SpaceOnce.l4 at h
              refine S.rd fun hr34 => ?_
              refine S.b1 ?_
              refine S.rd fun hr35 => ?_
              refine S.seq ?_
              refine S.seq ?_
              refine S.region ?_
              refine SO.v rfl (opv_move rfl) ?_
              refine SO.v rfl (opv_lss rfl rfl) ?_
              refine SO.nil ?_
              rcases bool_or (decide (x11_4 < 4)) with b36 | b36
              · replace h := cond_t b36 h
                refine S.condT rfl b36 ?_
                refine S.skip ?_
                refine S.seq ?_
                refine S.block ?_
                refine S.seq ?_
                refine S.region ?_
                refine SO.v rfl (opv_move rfl) ?_
                refine SO.v rfl (opv_iface Try.underlying27 rfl rfl) ?_
                refine SO.v rfl (opv_move rfl) ?_
                refine SO.v rfl (opv_move rfl) ?_
                obtain ⟨⟨⟨t37, t38, t39⟩, s41⟩, ht40, h⟩ := opt_bind h
                refine SO.b1 ?_
                refine SO.call (pre := [(plainV v10).rep _]) rfl Try.call14 rfl rfl rfl (space_Page.ct (plainV v10) _ _ _ _ _ _ _ ht40) trivial ?_
                rintro _ _ ⟨rfl, rfl⟩
                refine headEq (plainV_rep _ _) ?_
                refine SO.rd fun hr42 => ?_
                refine SO.v rfl (opv_move rfl) ?_
                refine SO.v rfl (opv_extract rfl rfl) ?_
                refine SO.v rfl (opv_extract rfl rfl) ?_
                refine SO.v rfl (opv_extract rfl rfl) ?_
                refine SO.v rfl (opv_assign rfl) ?_
                refine SO.v rfl (opv_assign rfl) ?_
                refine SO.v rfl (opv_assign rfl) ?_
                refine SO.nil ?_
                refine S.seq ?_
                refine S.region ?_
                refine SO.v rfl (opv_move rfl) ?_
                refine SO.nil ?_
                rcases bool_or t39 with b43 | b43
                · replace h := cond_t b43 h
                  refine S.condT rfl b43 ?_
                  refine S.seq ?_
                  refine S.seq ?_
                  refine S.region ?_
                  refine SO.v rfl (opv_move rfl) ?_
                  refine SO.v rfl (opv_lss rfl rfl) ?_
                  refine SO.v rfl (opv_move rfl) ?_
                  refine SO.cut 3 81 (.bool ((decide (t37 < 0)) || (decide (3 < t37)))) [Own 58 (ekI .u64) v10 s41, Own 3 (ekI .i64) v27 qv27_4, Box b16 [.bool x14.Un, .int .i64 x14.A, .int .i64 x14.B, .int .i64 x14.Page, .int .i64 x14.Rights], Box b6 [u7_Slots, u7_Objs, .int .i64 t4.NS, .int .i64 t4.NO], OwnR 57 kr_ref10_Slot u7_Slots t4.Slots, OwnR 46 kr_ref10_Obj u7_Objs t4.Objs, F] (fun l2 hk2 => ?_) ?_
                  · rcases bool_or (decide (t37 < 0)) with b44 | b44
                    · refine SO.passF rfl rfl rfl b44 rfl rfl ?_
                      refine SO.passF rfl rfl rfl b44 rfl rfl ?_
                      refine SO.v rfl (opv_pick_t' b44 rfl rfl) ?_
                      refine SO.b6 ?_
                      refine SO.b6 ?_
                      refine SO.b6 ?_
                      refine SO.b6 ?_
                      refine SO.b6 ?_
                      refine SO.b6 ?_
                      refine SO.b6 ?_
                      exact hk2.fitc (m := 3) rfl (or_t b44) rfl
                    · refine SO.takeT rfl rfl rfl b44 ?_
                      refine SO.v rfl (opv_move rfl) ?_
                      refine SO.takeT rfl rfl rfl b44 ?_
                      refine SO.v rfl (opv_gtr rfl rfl) ?_
                      refine SO.v rfl (opv_pick_f' b44 rfl rfl) ?_
                      refine SO.b6 ?_
                      refine SO.b6 ?_
                      refine SO.b6 ?_
                      refine SO.b6 ?_
                      refine SO.b6 ?_
                      refine SO.b6 ?_
                      refine SO.b6 ?_
                      exact hk2.fitc (m := 3) rfl (or_f b44) rfl
                  refine SO.nil ?_
                  rcases bool_or ((decide (t37 < 0)) || (decide (3 < t37))) with b45 | b45
                  · replace h := cond_t b45 h
                    refine S.condT rfl b45 ?_
                    refine S.seq ?_
                    refine S.region ?_
                    refine SO.v rfl (opv_assign rfl) ?_
                    refine SO.nil ?_
                    cases h
                    replace h := hK4.1 _ rfl
                    cases h
                    replace h := hK3.1 _ rfl
                    cases h
                    replace h := hK1.1 _ rfl
                    cases h
                    refine S.drop ?_
                    refine S.drop ?_
                    refine S.drop ?_
                    refine S.drop ?_
                    refine S.drop ?_
                    refine S.drop ?_
                    exact S.ret1 Try.func4 rfl rfl (fun w hs hk => hR w _ _ ⟨rfl, rfl⟩ hs hk)
                  · replace h := cond_f b45 h
                    refine S.condF rfl b45 ?_
                    refine S.skip ?_
                    refine S.region ?_
                    refine SO.v rfl (opv_move rfl) ?_
                    refine SO.v rfl (opv_move rfl) ?_
                    obtain ⟨x46, hx47, h⟩ := opt_bind h
                    refine SO.v rfl (opv_idx Try.underlying41 Try.sizeOf3 hr35 rfl rfl hx47) ?_
                    refine SO.loadI1 (j := 0) rfl Try.isAgg3 (Rd.tail (Rd.head hr35)) hx47 rfl rfl rfl rfl ?_
                    refine SO.v rfl (opv_add rfl rfl) ?_
                    obtain ⟨x48, hx49, h⟩ := opt_bind h
                    refine SO.v rfl (opv_idx Try.underlying41 Try.sizeOf3 hr35 rfl rfl hx49) ?_
                    refine SO.b1 ?_
                    refine SO.storeI1 (j := 0) (z' := w64 (x46 + 1)) Try.sizeOf3 hx49 rfl rfl rfl rfl rfl rfl ?_
                    refine SO.rd fun hr50 => ?_
                    refine SO.nil ?_
                    refine S.inBlock ?_
                    refine S.region ?_
                    refine SO.v rfl (opv_move rfl) ?_
                    refine SO.v rfl (opv_add rfl rfl) ?_
                    refine SO.v rfl (opv_assign rfl) ?_
                    refine SO.nil ?_
                    refine S.b6 ?_
                    refine S.b6 ?_
                    refine S.b6 ?_
                    refine S.b6 ?_
                    refine S.b6 ?_
                    refine S.b5 ?_
                    refine S.b6 ?_
                    refine S.to ?_ (ih4 ((w64 (x11_4 + 1), s41, qv27_4.set t37.toNat (w64 (x46 + 1))), ()) h)
                    exact ⟨rfl, rfl, rfl, rfl, rfl, rfl, rfl, rfl, rfl, rfl, rfl, rfl, rfl, rfl, rfl, rfl, rfl, rfl, rfl, rfl, rfl, rfl, rfl, trivial⟩
                · replace h := cond_f b43 h
                  refine S.condF rfl b43 ?_
                  refine S.skip ?_
                  refine S.inBlock ?_
                  refine S.region ?_
                  refine SO.v rfl (opv_move rfl) ?_
                  refine SO.v rfl (opv_add rfl rfl) ?_
                  refine SO.v rfl (opv_assign rfl) ?_
                  refine SO.nil ?_
                  refine S.b6 ?_
                  refine S.b6 ?_
                  refine S.b6 ?_
                  refine S.b6 ?_
                  refine S.b6 ?_
                  refine S.b6 ?_
                  refine S.b6 ?_
                  refine S.to ?_ (ih4 ((w64 (x11_4 + 1), s41, qv27_4), ()) h)
                  exact ⟨rfl, rfl, rfl, rfl, rfl, rfl, rfl, rfl, rfl, rfl, rfl, rfl, rfl, rfl, rfl, rfl, rfl, rfl, rfl, rfl, rfl, rfl, rfl, trivial⟩
              · replace h := cond_f b36 h
                refine S.condF rfl b36 ?_
                refine S.exit rfl ?_
                cases h
                refine S.b6 ?_
                refine S.b6 ?_
                refine S.b6 ?_
                refine S.b6 ?_
                refine S.b6 ?_
                refine S.b5 ?_
                refine S.b6 ?_
                refine S.to ?_ (hK4.2 (x11_4, x11_4, decide (x11_4 < 4), qv10_4, qv27_4) () rfl)
                exact ⟨rfl, rfl, rfl, rfl, rfl, rfl, rfl, rfl, rfl, rfl, rfl, rfl, rfl, rfl, rfl, rfl, rfl, rfl, rfl, rfl, rfl, rfl, rfl, rfl, rfl, trivial⟩
            refine ⟨fun r' e' => ?_, ?_⟩
            · subst e'
              have h9 := Brk.of_ret h
              exact h9
            rintro ⟨j11_e4, j62_e4, j63_e4, qv10_e4, qv27_e4⟩ _ e'
            subst e'
            replace h := Brk.of_nx h
            refine S.rd fun hr51 => ?_
            refine S.b1 ?_
            refine S.rd fun hr52 => ?_
            refine S.inBlock ?_
            refine S.region ?_
            refine SO.v rfl (opv_move rfl) ?_
            refine SO.v rfl (opv_add rfl rfl) ?_
            refine SO.v rfl (opv_assign rfl) ?_
            refine SO.nil ?_
            refine S.b6 ?_
            refine S.b6 ?_
            refine S.b6 ?_
            refine S.b6 ?_
            refine S.b6 ?_
            refine S.b6 ?_
            refine S.b6 ?_
            refine S.to ?_ (ih3 ((w64 (x10_3 + 1), qv10_e4, qv27_e4), ()) h)
            exact ⟨rfl, rfl, rfl, rfl, rfl, rfl, rfl, rfl, rfl, rfl, rfl, rfl, rfl, rfl, rfl, rfl, rfl, rfl, rfl, rfl, trivial⟩
          · replace h := cond_f b33 h
            refine S.condF rfl b33 ?_
            refine S.exit rfl ?_
            cases h
            refine S.b6 ?_
            refine S.b6 ?_
            refine S.b6 ?_
            refine S.b6 ?_
            refine S.b6 ?_
            refine S.b5 ?_
            refine S.b6 ?_
            refine S.to ?_ (hK3.2 (x10_3, x10_3, decide (x10_3 < 6), qv27_3, qv10_3) () rfl)
            exact ⟨rfl, rfl, rfl, rfl, rfl, rfl, rfl, rfl, rfl, rfl, rfl, rfl, rfl, rfl, rfl, rfl, rfl, rfl, rfl, rfl, rfl, rfl, trivial⟩
        refine ⟨fun r' e' => ?_, ?_⟩
        · subst e'
          have h9 := Brk.of_ret h
          exact h9
        rintro ⟨j10_e3, j58_e3, j59_e3, qv27_e3, qv10_e3⟩ _ e'
        subst e'
        replace h := Brk.of_nx h
        refine S.rd fun hr53 => ?_
        refine S.b1 ?_
        refine S.rd fun hr54 => ?_
        refine S.seq ?_
        refine S.region ?_
        refine SO.v rfl (opv_assign rfl) ?_
        refine SO.nil ?_
        obtain ⟨o5, hl5, h⟩ := opt_bind h
        refine S.b6 ?_
        refine S.b6 ?_
        refine S.b6 ?_
        refine S.b6 ?_
        refine S.b6 ?_
        refine S.b6 ?_
        refine S.b6 ?_
        refine S.to (ρ' := [(15, .int .i64 0), (0, v0), (1, .int .i64 a1), (4, .bool false), (5, .bool t1), (6, v10), (7, .int .i64 x7_1), (8, bp b16 0), (9, v27), (10, .int .i64 j10_e3), (29, .int .i64 x7_1), (30, v0), (31, .int .i64 (a0.length : Int)), (32, .bool (decide (x7_1 < (a0.length : Int)))), (35, v0), (36, .int .i64 x7_1), (37, idxp v0 (x7_1.toNat * ek_law18_Deed.sz)), (38, .agg #[.bool x14.Un, .int .i64 x14.A, .int .i64 x14.B, .int .i64 x14.Page, .int .i64 x14.Rights]), (39, bp b16 0), (40, .bool x14.Un), (57, v27), (58, .int .i64 j58_e3), (59, .bool j59_e3)]) ⟨rfl, rfl, rfl, rfl, rfl, rfl, rfl, rfl, rfl, rfl, rfl, rfl, rfl, rfl, rfl, rfl, rfl, rfl, rfl, rfl, rfl, rfl, rfl, trivial⟩ ?_
        refine S.forloop (X := Int × Unit) (O := Brk Bool (Int × Int × Bool)) (fun m x => law18_SpaceOnce.l5 qv27_e3 m x.1) (fun x => match x with | (x15_5, _) => [(15, .int .i64 x15_5), (0, v0), (1, .int .i64 a1), (4, .bool false), (5, .bool t1), (6, v10), (7, .int .i64 x7_1), (8, bp b16 0), (9, v27), (10, .int .i64 j10_e3), (29, .int .i64 x7_1), (30, v0), (31, .int .i64 (a0.length : Int)), (32, .bool (decide (x7_1 < (a0.length : Int)))), (35, v0), (36, .int .i64 x7_1), (37, idxp v0 (x7_1.toNat * ek_law18_Deed.sz)), (38, .agg #[.bool x14.Un, .int .i64 x14.A, .int .i64 x14.B, .int .i64 x14.Page, .int .i64 x14.Rights]), (39, bp b16 0), (40, .bool x14.Un), (57, v27), (58, .int .i64 j58_e3), (59, .bool j59_e3)]) (fun x => match x with | (x15_5, _) => [Own 58 (ekI .u64) v10 qv10_e3, Own 3 (ekI .i64) v27 qv27_e3, Box b16 [.bool x14.Un, .int .i64 x14.A, .int .i64 x14.B, .int .i64 x14.Page, .int .i64 x14.Rights], Box b6 [u7_Slots, u7_Objs, .int .i64 t4.NS, .int .i64 t4.NO], OwnR 57 kr_ref10_Slot u7_Slots t4.Slots, OwnR 46 kr_ref10_Obj u7_Objs t4.Objs, F]) (fun Sk o' => (∀ r', o' = Brk.ret r' → some (Brk.ret r') = some o_1) ∧ ∀ j : (Int × Int × Bool), match j with | (j15_e5, j88_e5, j89_e5) => ∀ _ : Unit, o' = Brk.nx (j15_e5, j88_e5, j89_e5) → Sk [(0, v0), (1, .int .i64 a1), (4, .bool false), (5, .bool t1), (6, v10), (7, .int .i64 x7_1), (8, bp b16 0), (9, v27), (10, .int .i64 j10_e3), (15, .int .i64 j15_e5), (29, .int .i64 x7_1), (30, v0), (31, .int .i64 (a0.length : Int)), (32, .bool (decide (x7_1 < (a0.length : Int)))), (35, v0), (36, .int .i64 x7_1), (37, idxp v0 (x7_1.toNat * ek_law18_Deed.sz)), (38, .agg #[.bool x14.Un, .int .i64 x14.A, .int .i64 x14.B, .int .i64 x14.Page, .int .i64 x14.Rights]), (39, bp b16 0), (40, .bool x14.Un), (57, v27), (58, .int .i64 j58_e3), (59, .bool j59_e3), (88, .int .i64 j88_e5), (89, .bool j89_e5)] [Own 58 (ekI .u64) v10 qv10_e3, Own 3 (ekI .i64) v27 qv27_e3, Box b16 [.bool x14.Un, .int .i64 x14.A, .int .i64 x14.B, .int .i64 x14.Page, .int .i64 x14.Rights], Box b6 [u7_Slots, u7_Objs, .int .i64 t4.NS, .int .i64 t4.NO], OwnR 57 kr_ref10_Slot u7_Slots t4.Slots, OwnR 46 kr_ref10_Obj u7_Objs t4.Objs, F]) (fun _ => rfl) ?_ (m := k) (x := (0, ())) hl5 ?_
        · clear h hl5
          intro k x o_5 h hK5 ih5
          obtain ⟨x15_5, _⟩ := x
          replace h : law18_SpaceOnce.l5 qv27_e3 (k + 1) x15_5 = some o_5 := h
          first | rw [law18_SpaceOnce.l5] at h | unfold law18_SpaceOnce.l5 at h
          refine S.seq ?_
          refine S.seq ?_
          refine S.region ?_
          refine SO.v rfl (opv_move rfl) ?_
          refine SO.v rfl (opv_lss rfl rfl) ?_
          refine SO.nil ?_
          rcases bool_or (decide (x15_5 < 4)) with b55 | b55
          · replace h := cond_t b55 h
            refine S.condT rfl b55 ?_
            refine S.skip ?_
            refine S.seq ?_
            refine S.block ?_
            refine S.seq ?_
            refine S.region ?_
            refine SO.v rfl (opv_move rfl) ?_
            refine SO.v rfl (opv_move rfl) ?_
            obtain ⟨x56, hx57, h⟩ := opt_bind h
            refine SO.v rfl (opv_idx Try.underlying41 Try.sizeOf3 hr53 rfl rfl hx57) ?_
            refine SO.loadI1 (j := 0) rfl Try.isAgg3 (Rd.tail (Rd.head hr53)) hx57 rfl rfl rfl rfl ?_
            refine SO.v rfl (opv_gtr rfl rfl) ?_
            refine SO.nil ?_
            rcases bool_or (decide (1 < x56)) with b58 | b58
            · replace h := cond_t b58 h
              refine S.condT rfl b58 ?_
              refine S.seq ?_
              refine S.region ?_
              refine SO.v rfl (opv_assign rfl) ?_
              refine SO.nil ?_
              cases h
              replace h := hK5.1 _ rfl
              cases h
              replace h := hK1.1 _ rfl
              cases h
              refine S.drop ?_
              refine S.drop ?_
              refine S.drop ?_
              refine S.drop ?_
              refine S.drop ?_
              refine S.drop ?_
              exact S.ret1 Try.func4 rfl rfl (fun w hs hk => hR w _ _ ⟨rfl, rfl⟩ hs hk)
            · replace h := cond_f b58 h
              refine S.condF rfl b58 ?_
              refine S.skip ?_
              refine S.inBlock ?_
              refine S.region ?_
              refine SO.v rfl (opv_move rfl) ?_
              refine SO.v rfl (opv_add rfl rfl) ?_
              refine SO.v rfl (opv_assign rfl) ?_
              refine SO.nil ?_
              refine S.b6 ?_
              refine S.b6 ?_
              refine S.b6 ?_
              refine S.b6 ?_
              refine S.b6 ?_
              refine S.b6 ?_
              refine S.b6 ?_
              refine S.to ?_ (ih5 (w64 (x15_5 + 1), ()) h)
              exact ⟨rfl, rfl, rfl, rfl, rfl, rfl, rfl, rfl, rfl, rfl, rfl, rfl, rfl, rfl, rfl, rfl, rfl, rfl, rfl, rfl, rfl, rfl, rfl, trivial⟩
          · replace h := cond_f b55 h
            refine S.condF rfl b55 ?_
            refine S.exit rfl ?_
            cases h
            refine S.b6 ?_
            refine S.b6 ?_
            refine S.b6 ?_
            refine S.b6 ?_
            refine S.b6 ?_
            refine S.b6 ?_
            refine S.b6 ?_
            refine S.to ?_ (hK5.2 (x15_5, x15_5, decide (x15_5 < 4)) () rfl)
            exact ⟨rfl, rfl, rfl, rfl, rfl, rfl, rfl, rfl, rfl, rfl, rfl, rfl, rfl, rfl, rfl, rfl, rfl, rfl, rfl, rfl, rfl, rfl, rfl, rfl, rfl, trivial⟩
        refine ⟨fun r' e' => ?_, ?_⟩
        · subst e'
          have h9 := Brk.of_ret h
          exact h9
        rintro ⟨j15_e5, j88_e5, j89_e5⟩ _ e'
        subst e'
        replace h := Brk.of_nx h
        refine S.inBlock ?_
        refine S.region ?_
        refine SO.v rfl (opv_move rfl) ?_
        refine SO.v rfl (opv_add rfl rfl) ?_
        refine SO.v rfl (opv_assign rfl) ?_
        refine SO.nil ?_
        refine S.b1 ?_
        refine S.drop ?_
        refine S.b1 ?_
        refine S.drop ?_
        refine S.b4 ?_
        refine S.b4 ?_
        refine S.b4 ?_
        refine S.b4 ?_
        refine S.b4 ?_
        refine S.to ?_ (ih1 ((w64 (x7_1 + 1), qv10_e3), ()) h)
        exact ⟨rfl, rfl, rfl, rfl, rfl, rfl, trivial⟩
      · replace h := cond_f b13 h
        refine S.condF rfl b13 ?_
        refine S.exit rfl ?_
        cases h
        refine S.b4 ?_
        refine S.b4 ?_
        refine S.b4 ?_
        refine S.b4 ?_
        refine S.b4 ?_
        refine S.to ?_ (hK1.2 qv10_1 () rfl)
        exact ⟨rfl, rfl, rfl, rfl, trivial⟩
    refine ⟨fun r' e' => ?_, ?_⟩
    · subst e'
      have h9 := Brk.of_ret h
      exact h9
    rintro qv10_e1 _ e'
    subst e'
    replace h := Brk.of_nx h
    refine S.rd fun hr59 => ?_
    refine S.seq ?_
    refine S.region ?_
    refine SO.v rfl (opv_move rfl) ?_
    obtain ⟨t60, ht61, h⟩ := opt_bind h
    refine SO.call (pre := []) rfl Try.call15 rfl rfl rfl (law10_Pick.ct _ _ _ ht61) trivial ?_
    rintro _ _ ⟨rfl, rfl⟩
    refine SO.v rfl (opv_assign rfl) ?_
    refine SO.nil ?_
    refine S.seq ?_
    refine S.region ?_
    refine SO.v rfl (opv_move rfl) ?_
    refine SO.v rfl (opv_iface Try.underlying27 rfl rfl) ?_
    refine SO.v rfl (opv_move rfl) ?_
    obtain ⟨⟨t62, s64⟩, ht63, h⟩ := opt_bind h
    refine SO.call (pre := [(plainV v10).rep _]) rfl Try.call8 rfl rfl rfl (space_Unmap.ct (plainV v10) _ _ _ _ ht63) trivial ?_
    rintro _ _ ⟨rfl, rfl⟩
    refine headEq (plainV_rep _ _) ?_
    refine SO.rd fun hr65 => ?_
    refine SO.nil ?_
    refine S.to (ρ' := [(4, .bool false), (5, .bool t1), (6, v10), (16, .int .i64 t60)]) ⟨rfl, rfl, rfl, rfl, trivial⟩ ?_
    refine S.seq ?_
    refine S.seq ?_
    refine S.region ?_
    refine SO.v rfl (opv_assign rfl) ?_
    refine SO.nil ?_
    obtain ⟨o6, hl6, h⟩ := opt_bind h
    refine S.b4 ?_
    refine S.b4 ?_
    refine S.b4 ?_
    refine S.b4 ?_
    refine S.b4 ?_
    refine S.to (ρ' := [(17, .int .i64 4), (4, .bool false), (5, .bool t1), (6, v10), (16, .int .i64 t60)]) ⟨rfl, rfl, rfl, rfl, rfl, trivial⟩ ?_
    refine S.forloop (X := (Int × (List Int)) × Unit) (O := Brk Bool (List Int)) (fun m x => law18_SpaceOnce.l6 t60 m x.1) (fun x => match x with | ((x17_6, qv10_6), _) => [(17, .int .i64 x17_6), (4, .bool false), (5, .bool t1), (6, v10), (16, .int .i64 t60)]) (fun x => match x with | ((x17_6, qv10_6), _) => [Own 58 (ekI .u64) v10 qv10_6, Box b6 [u7_Slots, u7_Objs, .int .i64 t4.NS, .int .i64 t4.NO], OwnR 57 kr_ref10_Slot u7_Slots t4.Slots, OwnR 46 kr_ref10_Obj u7_Objs t4.Objs, F]) (fun Sk o' => (∀ r', o' = Brk.ret r' → some r' = some r0) ∧ ∀ qv10_e6 : (List Int), ∀ _ : Unit, o' = Brk.nx qv10_e6 → Sk [(4, .bool false), (5, .bool t1), (6, v10), (16, .int .i64 t60)] [Own 58 (ekI .u64) v10 qv10_e6, Box b6 [u7_Slots, u7_Objs, .int .i64 t4.NS, .int .i64 t4.NO], OwnR 57 kr_ref10_Slot u7_Slots t4.Slots, OwnR 46 kr_ref10_Obj u7_Objs t4.Objs, F]) (fun _ => rfl) ?_ (m := k) (x := ((4, s64), ())) hl6 ?_
    · clear h hl6
      intro k x o_6 h hK6 ih6
      obtain ⟨⟨x17_6, qv10_6⟩, _⟩ := x
      replace h : law18_SpaceOnce.l6 t60 (k + 1) (x17_6, qv10_6) = some o_6 := h
      first | rw [law18_SpaceOnce.l6] at h | unfold law18_SpaceOnce.l6 at h
      refine S.rd fun hr66 => ?_
      refine S.seq ?_
      refine S.seq ?_
      refine S.region ?_
      refine SO.v rfl (opv_move rfl) ?_
      refine SO.v rfl (opv_lss rfl rfl) ?_
      refine SO.nil ?_
      rcases bool_or (decide (x17_6 < 6)) with b67 | b67
      · replace h := cond_t b67 h
        refine S.condT rfl b67 ?_
        refine S.skip ?_
        refine S.seq ?_
        refine S.block ?_
        refine S.seq ?_
        refine S.region ?_
        refine SO.v rfl (opv_assign rfl) ?_
        refine SO.nil ?_
        obtain ⟨o7, hl7, h⟩ := opt_bind h
        refine S.b4 ?_
        refine S.b4 ?_
        refine S.b4 ?_
        refine S.b4 ?_
        refine S.b4 ?_
        refine S.to (ρ' := [(18, .int .i64 0), (104, .bool (decide (x17_6 < 6))), (103, .int .i64 x17_6), (17, .int .i64 x17_6), (4, .bool false), (5, .bool t1), (6, v10), (16, .int .i64 t60)]) ⟨rfl, rfl, rfl, rfl, rfl, rfl, rfl, rfl, trivial⟩ ?_
        refine S.forloop (X := (Int × (List Int)) × Unit) (O := Brk Bool (Int × Int × Bool × (List Int))) (fun m x => law18_SpaceOnce.l7 t60 x17_6 m x.1) (fun x => match x with | ((x18_7, qv10_7), _) => [(18, .int .i64 x18_7), (104, .bool (decide (x17_6 < 6))), (103, .int .i64 x17_6), (17, .int .i64 x17_6), (4, .bool false), (5, .bool t1), (6, v10), (16, .int .i64 t60)]) (fun x => match x with | ((x18_7, qv10_7), _) => [Own 58 (ekI .u64) v10 qv10_7, Box b6 [u7_Slots, u7_Objs, .int .i64 t4.NS, .int .i64 t4.NO], OwnR 57 kr_ref10_Slot u7_Slots t4.Slots, OwnR 46 kr_ref10_Obj u7_Objs t4.Objs, F]) (fun Sk o' => (∀ r', o' = Brk.ret r' → some (Brk.ret r') = some o_6) ∧ ∀ j : (Int × Int × Bool × (List Int)), match j with | (j18_e7, j107_e7, j108_e7, qv10_e7) => ∀ _ : Unit, o' = Brk.nx (j18_e7, j107_e7, j108_e7, qv10_e7) → Sk [(4, .bool false), (5, .bool t1), (6, v10), (16, .int .i64 t60), (17, .int .i64 x17_6), (18, .int .i64 j18_e7), (103, .int .i64 x17_6), (104, .bool (decide (x17_6 < 6))), (107, .int .i64 j107_e7), (108, .bool j108_e7)] [Own 58 (ekI .u64) v10 qv10_e7, Box b6 [u7_Slots, u7_Objs, .int .i64 t4.NS, .int .i64 t4.NO], OwnR 57 kr_ref10_Slot u7_Slots t4.Slots, OwnR 46 kr_ref10_Obj u7_Objs t4.Objs, F]) (fun _ => rfl) ?_ (m := k) (x := ((0, qv10_6), ())) hl7 ?_
        · clear h hl7
          intro k x o_7 h hK7 ih7
          obtain ⟨⟨x18_7, qv10_7⟩, _⟩ := x
          replace h : law18_SpaceOnce.l7 t60 x17_6 (k + 1) (x18_7, qv10_7) = some o_7 := h
          first | rw [law18_SpaceOnce.l7] at h | unfold law18_SpaceOnce.l7 at h
          refine S.rd fun hr68 => ?_
          refine S.seq ?_
          refine S.seq ?_
          refine S.region ?_
          refine SO.v rfl (opv_move rfl) ?_
          refine SO.v rfl (opv_lss rfl rfl) ?_
          refine SO.nil ?_
          rcases bool_or (decide (x18_7 < 4)) with b69 | b69
          · replace h := cond_t b69 h
            refine S.condT rfl b69 ?_
            refine S.skip ?_
            refine S.seq ?_
            refine S.block ?_
            refine S.seq ?_
            refine S.region ?_
            refine SO.v rfl (opv_move rfl) ?_
            refine SO.v rfl (opv_iface Try.underlying27 rfl rfl) ?_
            refine SO.v rfl (opv_move rfl) ?_
            refine SO.v rfl (opv_move rfl) ?_
            obtain ⟨⟨⟨t70, t71, t72⟩, s74⟩, ht73, h⟩ := opt_bind h
            refine SO.call (pre := [(plainV v10).rep _]) rfl Try.call14 rfl rfl rfl (space_Page.ct (plainV v10) _ _ _ _ _ _ _ ht73) trivial ?_
            rintro _ _ ⟨rfl, rfl⟩
            refine headEq (plainV_rep _ _) ?_
            refine SO.rd fun hr75 => ?_
            refine SO.v rfl (opv_move rfl) ?_
            refine SO.v rfl (opv_extract rfl rfl) ?_
            refine SO.v rfl (opv_extract rfl rfl) ?_
            refine SO.v rfl (opv_extract rfl rfl) ?_
            refine SO.v rfl (opv_assign rfl) ?_
            refine SO.v rfl (opv_assign rfl) ?_
            refine SO.v rfl (opv_assign rfl) ?_
            refine SO.nil ?_
            refine S.seq ?_
            refine S.region ?_
            refine SO.v rfl (opv_move rfl) ?_
            refine SO.v rfl (opv_move rfl) ?_
            refine SO.cut 4 125 (.bool (t72 && (t70 == t60))) [Own 58 (ekI .u64) v10 s74, Box b6 [u7_Slots, u7_Objs, .int .i64 t4.NS, .int .i64 t4.NO], OwnR 57 kr_ref10_Slot u7_Slots t4.Slots, OwnR 46 kr_ref10_Obj u7_Objs t4.Objs, F] (fun l2 hk2 => ?_) ?_
            · rcases bool_or t72 with b76 | b76
              · refine SO.takeT rfl rfl rfl b76 ?_
                refine SO.v rfl (opv_move rfl) ?_
                refine SO.takeT rfl rfl rfl b76 ?_
                refine SO.v rfl (opv_move rfl) ?_
                refine SO.takeT rfl rfl rfl b76 ?_
                refine SO.v rfl (opv_eql rfl rfl) ?_
                refine SO.v rfl (opv_pick_t' b76 rfl rfl) ?_
                refine SO.b4 ?_
                refine SO.b4 ?_
                refine SO.b4 ?_
                refine SO.b4 ?_
                refine SO.b4 ?_
                exact hk2.fitc (m := 4) rfl (and_t b76) rfl
              · refine SO.passF rfl rfl rfl b76 rfl rfl ?_
                refine SO.passF rfl rfl rfl b76 rfl rfl ?_
                refine SO.passF rfl rfl rfl b76 rfl rfl ?_
                refine SO.v rfl (opv_pick_f' b76 rfl rfl) ?_
                refine SO.b4 ?_
                refine SO.b4 ?_
                refine SO.b4 ?_
                refine SO.b4 ?_
                refine SO.b4 ?_
                exact hk2.fitc (m := 4) rfl (and_f b76) rfl
            refine SO.nil ?_
            rcases bool_or (t72 && (t70 == t60)) with b77 | b77
            · replace h := cond_t b77 h
              refine S.condT rfl b77 ?_
              refine S.seq ?_
              refine S.region ?_
              refine SO.v rfl (opv_assign rfl) ?_
              refine SO.nil ?_
              cases h
              replace h := hK7.1 _ rfl
              cases h
              replace h := hK6.1 _ rfl
              cases h
              refine S.drop ?_
              refine S.drop ?_
              refine S.drop ?_
              refine S.drop ?_
              exact S.ret1 Try.func4 rfl rfl (fun w hs hk => hR w _ _ ⟨rfl, rfl⟩ hs hk)
            · replace h := cond_f b77 h
              refine S.condF rfl b77 ?_
              refine S.skip ?_
              refine S.inBlock ?_
              refine S.region ?_
              refine SO.v rfl (opv_move rfl) ?_
              refine SO.v rfl (opv_add rfl rfl) ?_
              refine SO.v rfl (opv_assign rfl) ?_
              refine SO.nil ?_
              refine S.b4 ?_
              refine S.b4 ?_
              refine S.b4 ?_
              refine S.b4 ?_
              refine S.b4 ?_
              refine S.to ?_ (ih7 ((w64 (x18_7 + 1), s74), ()) h)
              exact ⟨rfl, rfl, rfl, rfl, rfl, rfl, rfl, rfl, trivial⟩
          · replace h := cond_f b69 h
            refine S.condF rfl b69 ?_
            refine S.exit rfl ?_
            cases h
            refine S.b4 ?_
            refine S.b4 ?_
            refine S.b4 ?_
            refine S.b4 ?_
            refine S.b4 ?_
            refine S.to ?_ (hK7.2 (x18_7, x18_7, decide (x18_7 < 4), qv10_7) () rfl)
            exact ⟨rfl, rfl, rfl, rfl, rfl, rfl, rfl, rfl, rfl, rfl, trivial⟩
        refine ⟨fun r' e' => ?_, ?_⟩
        · subst e'
          have h9 := Brk.of_ret h
          exact h9
        rintro ⟨j18_e7, j107_e7, j108_e7, qv10_e7⟩ _ e'
        subst e'
        replace h := Brk.of_nx h
        refine S.rd fun hr78 => ?_
        refine S.inBlock ?_
        refine S.region ?_
        refine SO.v rfl (opv_move rfl) ?_
        refine SO.v rfl (opv_add rfl rfl) ?_
        refine SO.v rfl (opv_assign rfl) ?_
        refine SO.nil ?_
        refine S.b4 ?_
        refine S.b4 ?_
        refine S.b4 ?_
        refine S.b4 ?_
        refine S.b4 ?_
        refine S.to ?_ (ih6 ((w64 (x17_6 + 1), qv10_e7), ()) h)
        exact ⟨rfl, rfl, rfl, rfl, rfl, trivial⟩
      · replace h := cond_f b67 h
        refine S.condF rfl b67 ?_
        refine S.exit rfl ?_
        cases h
        refine S.b4 ?_
        refine S.b4 ?_
        refine S.b4 ?_
        refine S.b4 ?_
        refine S.b4 ?_
        refine S.to ?_ (hK6.2 qv10_6 () rfl)
        exact ⟨rfl, rfl, rfl, rfl, trivial⟩
    refine ⟨fun r' e' => ?_, ?_⟩
    · subst e'
      have h9 := Brk.of_ret h
      exact h9
    rintro qv10_e6 _ e'
    subst e'
    replace h := Brk.of_nx h
    refine S.rd fun hr79 => ?_
    refine S.seq ?_
    refine S.region ?_
    refine SO.v rfl (opv_move rfl) ?_
    refine SO.v rfl (opv_move rfl) ?_
    obtain ⟨⟨c81, w83⟩, hc82, hgk⟩ := opt_bind h
    refine SO.cut 7 134 (.bool c81) [Own 58 (ekI .u64) v10 w83, Box b6 [u7_Slots, u7_Objs, .int .i64 t4.NS, .int .i64 t4.NO], OwnR 57 kr_ref10_Slot u7_Slots t4.Slots, OwnR 46 kr_ref10_Obj u7_Objs t4.Objs, F] (fun l2 hk2 => ?_) ?_
    · clear hgk
      replace h := hc82
      rcases bool_or t1 with b80 | b80
      · replace h := cond_t b80 h
        refine SO.takeT rfl rfl rfl b80 ?_
        refine SO.v rfl (opv_move rfl) ?_
        refine SO.takeT rfl rfl rfl b80 ?_
        refine SO.v rfl (opv_iface Try.underlying27 rfl rfl) ?_
        refine SO.takeT rfl rfl rfl b80 ?_
        refine SO.v rfl (opv_move rfl) ?_
        refine SO.takeT rfl rfl rfl b80 ?_
        obtain ⟨⟨t85, s87⟩, ht86, h⟩ := opt_bind h
        refine SO.call (pre := [(plainV v10).rep _]) rfl Try.call8 rfl rfl rfl (space_Unmap.ct (plainV v10) _ _ _ _ ht86) trivial ?_
        rintro _ _ ⟨rfl, rfl⟩
        refine headEq (plainV_rep _ _) ?_
        refine SO.rd fun hr88 => ?_
        refine SO.takeT rfl rfl rfl b80 ?_
        refine SO.v rfl (opv_iface Try.underlying53 rfl rfl) ?_
        refine SO.takeT rfl rfl rfl b80 ?_
        refine SO.v rfl (opv_eqlE (e := t85) (c := 10) Try.underlying32 Try.underlying53 inf53 rfl rfl rfl) ?_
        cases h
        refine SO.v rfl (opv_pick_t' b80 rfl rfl) ?_
        refine SO.b4 ?_
        refine SO.b4 ?_
        refine SO.b4 ?_
        refine SO.b4 ?_
        refine SO.b4 ?_
        exact hk2.fitc (m := 7) rfl (rfl) rfl
      · replace h := cond_f b80 h
        refine SO.passF rfl rfl rfl b80 rfl rfl ?_
        refine SO.passF rfl rfl rfl b80 rfl rfl ?_
        refine SO.passF rfl rfl rfl b80 rfl rfl ?_
        refine SO.passF rfl rfl rfl b80 rfl rfl ?_
        refine SO.passF rfl rfl rfl b80 rfl rfl ?_
        refine SO.passF rfl rfl rfl b80 rfl rfl ?_
        cases h
        refine SO.v rfl (opv_pick_f' b80 rfl rfl) ?_
        refine SO.b4 ?_
        refine SO.b4 ?_
        refine SO.b4 ?_
        refine SO.b4 ?_
        refine SO.b4 ?_
        exact hk2.fitc (m := 7) rfl (rfl) rfl
    clear hc82
    replace h := hgk
    refine SO.rd fun hr84 => ?_
    refine SO.v rfl (opv_assign rfl) ?_
    refine SO.nil ?_
    cases h
    refine S.drop ?_
    refine S.drop ?_
    refine S.drop ?_
    refine S.drop ?_
    exact S.ret1 Try.func4 rfl rfl (fun w hs hk => hR w _ _ ⟨rfl, rfl⟩ hs hk)
end Go.Proofs
