/- What the functions that SpacePlays reaches come to, and that they do. On no condition. -/
import Derived.Test.YtogpgphahnldmaaFnSpacePlays0
set_option linter.all false
namespace Go.Proofs
open Go.Sl Go.RowKit
/-! 21 padstone/lay.Field -/
def lay_Field.f (a1 : Int) (a2 : Int) : VM (Int) :=
  (VM.opt (lay_Obj.f a1 a2)).bind fun (t1, t2) => bif !t2 then (VM.ret 0) else (VM.rd t1 fun t5 => bif decide (4611686018427387904 < t5) then (VM.ret 0) else (VM.ret (w64 t5)))
set_option maxHeartbeats 8000000 in
set_option maxRecDepth 100000 in
theorem lay_Field.ct (V : VW Try.prog) (a1 : Int) (a2 : Int) (r0 : Int) (s s' : V.S) (h : VM.run V.toVI (lay_Field.f a1 a2) s = some (r0, s')) :
    Ct Try.prog 21 [V.val, .int .i64 a1, .int .i64 a2] (fun _ => True) [V.rep s] (fun u H' => u = .int .i64 r0 ∧ H' = [V.rep s']) := by
  unfold lay_Field.f at h
  refine Ct.intro (n := 25) Try.func21 rfl rfl rfl ?_
  intro R w0 F hF hR
  refine S.seq ?_
  refine S.region ?_
  refine SO.v rfl (opv_assign rfl) ?_
  refine SO.nil ?_
  refine S.seq ?_
  refine S.region ?_
  refine SO.v rfl (opv_move rfl) ?_
  refine SO.v rfl (opv_move rfl) ?_
  obtain ⟨⟨t1, t2⟩, ht3, h⟩ := VM.opt_some V.toVI h
  refine SO.call (pre := []) rfl Try.call26 rfl rfl rfl (lay_Obj.ct _ _ _ _ ht3) trivial ?_
  rintro _ _ ⟨rfl, rfl⟩
  refine SO.v rfl (opv_move rfl) ?_
  refine SO.v rfl (opv_extract rfl rfl) ?_
  refine SO.v rfl (opv_extract rfl rfl) ?_
  refine SO.v rfl (opv_assign rfl) ?_
  refine SO.v rfl (opv_assign rfl) ?_
  refine SO.nil ?_
  refine S.to (ρ' := [(0, V.val), (6, .int .i64 0), (7, .int .i64 t1), (8, .bool t2)]) ⟨rfl, rfl, rfl, rfl, trivial⟩ ?_
  refine S.seq ?_
  refine S.seq ?_
  refine S.region ?_
  refine SO.v rfl (opv_move rfl) ?_
  refine SO.v rfl (opv_not rfl) ?_
  refine SO.nil ?_
  rcases bool_or (!t2) with b4 | b4
  · replace h := VM.cond_t V.toVI b4 h
    refine S.condT rfl b4 ?_
    refine S.seq ?_
    refine S.region ?_
    refine SO.v rfl (opv_assign rfl) ?_
    refine SO.nil ?_
    obtain ⟨hq, rfl⟩ := VM.ret_some V.toVI h
    cases hq
    refine S.b1 ?_
    refine S.b1 ?_
    exact S.ret1 Try.func21 rfl rfl (fun w hs hk => hR w _ _ ⟨rfl, rfl⟩ hs hk)
  · replace h := VM.cond_f V.toVI b4 h
    refine S.condF rfl b4 ?_
    refine S.skip ?_
    refine S.seq ?_
    refine S.region ?_
    refine SO.v rfl (opv_move rfl) ?_
    refine SO.v rfl (opv_move rfl) ?_
    obtain ⟨t5, s6, hv7, h⟩ := VM.rd_some V.toVI h
    refine SO.vread' V rfl rfl rfl hv7 ?_
    refine SO.v rfl (opv_assign rfl) ?_
    refine SO.nil ?_
    refine S.to (ρ' := [(6, .int .i64 0), (9, .int .u64 t5)]) ⟨rfl, rfl, trivial⟩ ?_
    refine S.seq ?_
    refine S.seq ?_
    refine S.region ?_
    refine SO.v rfl (opv_move rfl) ?_
    refine SO.v rfl (opv_gtr rfl rfl) ?_
    refine SO.nil ?_
    rcases bool_or (decide (4611686018427387904 < t5)) with b8 | b8
    · replace h := VM.cond_t V.toVI b8 h
      refine S.condT rfl b8 ?_
      refine S.seq ?_
      refine S.region ?_
      refine SO.v rfl (opv_assign rfl) ?_
      refine SO.nil ?_
      obtain ⟨hq, rfl⟩ := VM.ret_some V.toVI h
      cases hq
      refine S.b1 ?_
      refine S.b1 ?_
      exact S.ret1 Try.func21 rfl rfl (fun w hs hk => hR w _ _ ⟨rfl, rfl⟩ hs hk)
    · replace h := VM.cond_f V.toVI b8 h
      refine S.condF rfl b8 ?_
      refine S.skip ?_
      refine S.seq ?_
      refine S.region ?_
      refine SO.v rfl (opv_move rfl) ?_
      refine SO.v rfl (opv_conv Try.underlying58 Try.underlying3 rfl) ?_
      refine SO.v rfl (opv_assign rfl) ?_
      refine SO.nil ?_
      obtain ⟨hq, rfl⟩ := VM.ret_some V.toVI h
      cases hq
      refine S.b1 ?_
      refine S.b1 ?_
      exact S.ret1 Try.func21 rfl rfl (fun w hs hk => hR w _ _ ⟨rfl, rfl⟩ hs hk)
end Go.Proofs
namespace Go.Proofs
open Go.Sl Go.RowKit
/-! 20 padstone/lay.Ref -/
def lay_Ref.f (a1 : Int) (a2 : Int) : VM ((Int × Bool)) :=
  (lay_Field.f a1 a2).bind fun t1 => bif (decide (t1 < 1)) || (decide (32 < t1)) then (VM.ret (0, false)) else (VM.ret (w64 (t1 - 1), true))
set_option maxHeartbeats 8000000 in
set_option maxRecDepth 100000 in
theorem lay_Ref.ct (V : VW Try.prog) (a1 : Int) (a2 : Int) (r0 : Int) (r1 : Bool) (s s' : V.S) (h : VM.run V.toVI (lay_Ref.f a1 a2) s = some ((r0, r1), s')) :
    Ct Try.prog 20 [V.val, .int .i64 a1, .int .i64 a2] (fun _ => True) [V.rep s] (fun u H' => u = .tuple #[.int .i64 r0, .bool r1] ∧ H' = [V.rep s']) := by
  unfold lay_Ref.f at h
  refine Ct.intro (n := 21) Try.func20 rfl rfl rfl ?_
  intro R w0 F hF hR
  refine S.seq ?_
  refine S.region ?_
  refine SO.v rfl (opv_assign rfl) ?_
  refine SO.v rfl (opv_assign rfl) ?_
  refine SO.nil ?_
  refine S.seq ?_
  refine S.region ?_
  refine SO.v rfl (opv_move rfl) ?_
  refine SO.v rfl (opv_move rfl) ?_
  refine SO.v rfl (opv_move rfl) ?_
  obtain ⟨t1, s3, ht2, h⟩ := VM.bind_some V.toVI h
  refine SO.call (pre := [V.rep _]) rfl Try.call21 rfl rfl rfl (lay_Field.ct V _ _ _ _ _ ht2) trivial ?_
  rintro _ _ ⟨rfl, rfl⟩
  refine SO.v rfl (opv_assign rfl) ?_
  refine SO.nil ?_
  refine S.to (ρ' := [(6, .int .i64 0), (7, .bool false), (8, .int .i64 t1)]) ⟨rfl, rfl, rfl, trivial⟩ ?_
  refine S.seq ?_
  refine S.seq ?_
  refine S.region ?_
  refine SO.v rfl (opv_move rfl) ?_
  refine SO.v rfl (opv_lss rfl rfl) ?_
  refine SO.v rfl (opv_move rfl) ?_
  refine SO.cut 3 18 (.bool ((decide (t1 < 1)) || (decide (32 < t1)))) [V.rep s3, F] (fun l2 hk2 => ?_) ?_
  · rcases bool_or (decide (t1 < 1)) with b4 | b4
    · refine SO.passF rfl rfl rfl b4 rfl rfl ?_
      refine SO.passF rfl rfl rfl b4 rfl rfl ?_
      refine SO.v rfl (opv_pick_t' b4 rfl rfl) ?_
      refine SO.b1 ?_
      refine SO.b1 ?_
      exact hk2.fitc (m := 3) rfl (or_t b4) rfl
    · refine SO.takeT rfl rfl rfl b4 ?_
      refine SO.v rfl (opv_move rfl) ?_
      refine SO.takeT rfl rfl rfl b4 ?_
      refine SO.v rfl (opv_gtr rfl rfl) ?_
      refine SO.v rfl (opv_pick_f' b4 rfl rfl) ?_
      refine SO.b1 ?_
      refine SO.b1 ?_
      exact hk2.fitc (m := 3) rfl (or_f b4) rfl
  refine SO.nil ?_
  rcases bool_or ((decide (t1 < 1)) || (decide (32 < t1))) with b5 | b5
  · replace h := VM.cond_t V.toVI b5 h
    refine S.condT rfl b5 ?_
    refine S.seq ?_
    refine S.region ?_
    refine SO.v rfl (opv_assign rfl) ?_
    refine SO.v rfl (opv_assign rfl) ?_
    refine SO.nil ?_
    obtain ⟨hq, rfl⟩ := VM.ret_some V.toVI h
    cases hq
    refine S.b1 ?_
    refine S.b1 ?_
    exact S.ret2 Try.func20 rfl rfl rfl (fun w hs hk => hR w _ _ ⟨rfl, rfl⟩ hs hk)
  · replace h := VM.cond_f V.toVI b5 h
    refine S.condF rfl b5 ?_
    refine S.skip ?_
    refine S.seq ?_
    refine S.region ?_
    refine SO.v rfl (opv_move rfl) ?_
    refine SO.v rfl (opv_sub rfl rfl) ?_
    refine SO.v rfl (opv_assign rfl) ?_
    refine SO.v rfl (opv_assign rfl) ?_
    refine SO.nil ?_
    refine S.to (ρ' := [(6, .int .i64 (w64 (t1 - 1))), (7, .bool true)]) ⟨rfl, rfl, trivial⟩ ?_
    obtain ⟨hq, rfl⟩ := VM.ret_some V.toVI h
    cases hq
    refine S.b1 ?_
    refine S.b1 ?_
    exact S.ret2 Try.func20 rfl rfl rfl (fun w hs hk => hR w _ _ ⟨rfl, rfl⟩ hs hk)
end Go.Proofs
namespace Go.Proofs
open Go.Sl Go.RowKit
/-! 23 padstone/space.at -/
def space_at.f (a0 : Int) : Option (Int) :=
  some (w64 (1 + a0))
set_option maxHeartbeats 8000000 in
set_option maxRecDepth 100000 in
theorem space_at.ct (a0 : Int) (r0 : Int) (h : space_at.f a0 = some r0) :
    Ct Try.prog 23 [.int .i64 a0] (fun _ => True) [] (fun u H' => u = .int .i64 r0 ∧ H' = []) := by
  unfold space_at.f at h
  refine Ct.intro (n := 5) Try.func23 rfl rfl rfl ?_
  intro R w0 F hF hR
  refine S.seq ?_
  refine S.region ?_
  refine SO.v rfl (opv_assign rfl) ?_
  refine SO.nil ?_
  refine S.seq ?_
  refine S.region ?_
  refine SO.v rfl (opv_move rfl) ?_
  refine SO.v rfl (opv_add rfl rfl) ?_
  refine SO.v rfl (opv_assign rfl) ?_
  refine SO.nil ?_
  cases h
  exact S.ret1 Try.func23 rfl rfl (fun w hs hk => hR w _ _ ⟨rfl, rfl⟩ hs hk)
end Go.Proofs
namespace Go.Proofs
open Go.Sl Go.RowKit
/-! 25 padstone/space.in -/
def space_in.f (a0 : Int) : Option (Bool) :=
  some ((decide (0 ≤ a0)) && (decide (a0 < 4)))
set_option maxHeartbeats 8000000 in
set_option maxRecDepth 100000 in
theorem space_in.ct (a0 : Int) (r0 : Bool) (h : space_in.f a0 = some r0) :
    Ct Try.prog 25 [.int .i64 a0] (fun _ => True) [] (fun u H' => u = .bool r0 ∧ H' = []) := by
  unfold space_in.f at h
  refine Ct.intro (n := 9) Try.func25 rfl rfl rfl ?_
  intro R w0 F hF hR
  refine S.seq ?_
  refine S.region ?_
  refine SO.v rfl (opv_assign rfl) ?_
  refine SO.nil ?_
  refine S.seq ?_
  refine S.region ?_
  refine SO.v rfl (opv_move rfl) ?_
  refine SO.v rfl (opv_geq rfl rfl) ?_
  refine SO.v rfl (opv_move rfl) ?_
  refine SO.cut 3 8 (.bool ((decide (0 ≤ a0)) && (decide (a0 < 4)))) [F] (fun l2 hk2 => ?_) ?_
  · rcases bool_or (decide (0 ≤ a0)) with b1 | b1
    · refine SO.takeT rfl rfl rfl b1 ?_
      refine SO.v rfl (opv_move rfl) ?_
      refine SO.takeT rfl rfl rfl b1 ?_
      refine SO.v rfl (opv_lss rfl rfl) ?_
      refine SO.v rfl (opv_pick_t' b1 rfl rfl) ?_
      exact hk2.fitc (m := 3) rfl (and_t b1) rfl
    · refine SO.passF rfl rfl rfl b1 rfl rfl ?_
      refine SO.passF rfl rfl rfl b1 rfl rfl ?_
      refine SO.v rfl (opv_pick_f' b1 rfl rfl) ?_
      exact hk2.fitc (m := 3) rfl (and_f b1) rfl
  refine SO.v rfl (opv_assign rfl) ?_
  refine SO.nil ?_
  cases h
  exact S.ret1 Try.func25 rfl rfl (fun w hs hk => hR w _ _ ⟨rfl, rfl⟩ hs hk)
end Go.Proofs
namespace Go.Proofs
open Go.Sl Go.RowKit
/-! 14 padstone/space.Page -/
def space_Page.f (a1 : Int) (a2 : Int) : VM ((Int × Int × Bool)) :=
  (lay_Is.f a1 7).bind fun t1 => (bif !t1 then (VM.ret true) else ((VM.opt (space_in.f a2)).bind fun t7 => VM.ret (!t7))).bind fun c5 => bif c5 then (VM.ret (0, 0, false)) else ((VM.opt (space_at.f a2)).bind fun t11 => (lay_Field.f a1 t11).bind fun t13 => bif (decide ((w64 ((w64 (t13.tdiv 8)) - 1)) < 0)) || (decide (32 ≤ (w64 ((w64 (t13.tdiv 8)) - 1)))) then (VM.ret (0, 0, false)) else (VM.ret (w64 ((w64 (t13.tdiv 8)) - 1), t13.tmod 8, true)))
set_option maxHeartbeats 8000000 in
set_option maxRecDepth 100000 in
theorem space_Page.ct (V : VW Try.prog) (a1 : Int) (a2 : Int) (r0 : Int) (r1 : Int) (r2 : Bool) (s s' : V.S) (h : VM.run V.toVI (space_Page.f a1 a2) s = some ((r0, r1, r2), s')) :
    Ct Try.prog 14 [V.val, .int .i64 a1, .int .i64 a2] (fun _ => True) [V.rep s] (fun u H' => u = .tuple #[.int .i64 r0, .int .i64 r1, .bool r2] ∧ H' = [V.rep s']) := by
  unfold space_Page.f at h
  refine Ct.intro (n := 37) Try.func14 rfl rfl rfl ?_
  intro R w0 F hF hR
  refine S.seq ?_
  refine S.region ?_
  refine SO.v rfl (opv_assign rfl) ?_
  refine SO.v rfl (opv_assign rfl) ?_
  refine SO.v rfl (opv_assign rfl) ?_
  refine SO.nil ?_
  refine S.seq ?_
  refine S.seq ?_
  refine S.region ?_
  refine SO.v rfl (opv_move rfl) ?_
  refine SO.v rfl (opv_move rfl) ?_
  obtain ⟨t1, s3, ht2, h⟩ := VM.bind_some V.toVI h
  refine SO.call (pre := [V.rep _]) rfl Try.call19 rfl rfl rfl (lay_Is.ct V _ _ _ _ _ ht2) trivial ?_
  rintro _ _ ⟨rfl, rfl⟩
  refine SO.v rfl (opv_not rfl) ?_
  refine SO.v rfl (opv_move rfl) ?_
  obtain ⟨c5, s9, hc6, hgk⟩ := VM.bind_some V.toVI h
  refine SO.cut 4 19 (.bool c5) [V.rep s9, F] (fun l2 hk2 => ?_) ?_
  · clear hgk
    replace h := hc6
    rcases bool_or (!t1) with b4 | b4
    · replace h := VM.cond_t V.toVI b4 h
      refine SO.passF rfl rfl rfl b4 rfl rfl ?_
      refine SO.passF rfl rfl rfl b4 rfl rfl ?_
      refine SO.passF rfl rfl rfl b4 rfl rfl ?_
      obtain ⟨hq, rfl⟩ := VM.ret_some V.toVI h
      cases hq
      refine SO.v rfl (opv_pick_t' b4 rfl rfl) ?_
      refine SO.b1 ?_
      refine SO.b1 ?_
      exact hk2.fitc (m := 4) rfl (rfl) rfl
    · replace h := VM.cond_f V.toVI b4 h
      refine SO.takeT rfl rfl rfl b4 ?_
      refine SO.v rfl (opv_move rfl) ?_
      refine SO.takeT rfl rfl rfl b4 ?_
      obtain ⟨t7, ht8, h⟩ := VM.opt_some V.toVI h
      refine SO.call (pre := []) rfl Try.call25 rfl rfl rfl (space_in.ct _ _ ht8) trivial ?_
      rintro _ _ ⟨rfl, rfl⟩
      refine SO.takeT rfl rfl rfl b4 ?_
      refine SO.v rfl (opv_not rfl) ?_
      obtain ⟨hq, rfl⟩ := VM.ret_some V.toVI h
      cases hq
      refine SO.v rfl (opv_pick_f' b4 rfl rfl) ?_
      refine SO.b1 ?_
      refine SO.b1 ?_
      exact hk2.fitc (m := 4) rfl (rfl) rfl
  clear hc6
  replace h := hgk
  refine SO.nil ?_
  rcases bool_or c5 with b10 | b10
  · replace h := VM.cond_t V.toVI b10 h
    refine S.condT rfl b10 ?_
    refine S.seq ?_
    refine S.region ?_
    refine SO.v rfl (opv_assign rfl) ?_
    refine SO.v rfl (opv_assign rfl) ?_
    refine SO.v rfl (opv_assign rfl) ?_
    refine SO.nil ?_
    obtain ⟨hq, rfl⟩ := VM.ret_some V.toVI h
    cases hq
    refine S.b1 ?_
    refine S.b1 ?_
    exact S.ret3 Try.func14 rfl rfl rfl rfl (fun w hs hk => hR w _ _ ⟨rfl, rfl⟩ hs hk)
  · replace h := VM.cond_f V.toVI b10 h
    refine S.condF rfl b10 ?_
    refine S.skip ?_
    refine S.seq ?_
    refine S.region ?_
    refine SO.v rfl (opv_move rfl) ?_
    refine SO.v rfl (opv_move rfl) ?_
    refine SO.v rfl (opv_move rfl) ?_
    obtain ⟨t11, ht12, h⟩ := VM.opt_some V.toVI h
    refine SO.call (pre := []) rfl Try.call23 rfl rfl rfl (space_at.ct _ _ ht12) trivial ?_
    rintro _ _ ⟨rfl, rfl⟩
    obtain ⟨t13, s15, ht14, h⟩ := VM.bind_some V.toVI h
    refine SO.call (pre := [V.rep _]) rfl Try.call21 rfl rfl rfl (lay_Field.ct V _ _ _ _ _ ht14) trivial ?_
    rintro _ _ ⟨rfl, rfl⟩
    refine SO.v rfl (opv_assign rfl) ?_
    refine SO.nil ?_
    refine S.to (ρ' := [(6, .int .i64 0), (7, .int .i64 0), (8, .bool false), (9, .int .i64 t13)]) ⟨rfl, rfl, rfl, rfl, trivial⟩ ?_
    refine S.seq ?_
    refine S.region ?_
    refine SO.v rfl (opv_move rfl) ?_
    refine SO.v rfl (opv_quo rfl rfl (by decide)) ?_
    refine SO.v rfl (opv_sub rfl rfl) ?_
    refine SO.v rfl (opv_assign rfl) ?_
    refine SO.nil ?_
    refine S.seq ?_
    refine S.seq ?_
    refine S.region ?_
    refine SO.v rfl (opv_move rfl) ?_
    refine SO.v rfl (opv_lss rfl rfl) ?_
    refine SO.v rfl (opv_move rfl) ?_
    refine SO.cut 3 33 (.bool ((decide ((w64 ((w64 (t13.tdiv 8)) - 1)) < 0)) || (decide (32 ≤ (w64 ((w64 (t13.tdiv 8)) - 1)))))) [V.rep s15, F] (fun l2 hk2 => ?_) ?_
    · rcases bool_or (decide ((w64 ((w64 (t13.tdiv 8)) - 1)) < 0)) with b16 | b16
      · refine SO.passF rfl rfl rfl b16 rfl rfl ?_
        refine SO.passF rfl rfl rfl b16 rfl rfl ?_
        refine SO.v rfl (opv_pick_t' b16 rfl rfl) ?_
        refine SO.b1 ?_
        refine SO.b1 ?_
        exact hk2.fitc (m := 3) rfl (or_t b16) rfl
      · refine SO.takeT rfl rfl rfl b16 ?_
        refine SO.v rfl (opv_move rfl) ?_
        refine SO.takeT rfl rfl rfl b16 ?_
        refine SO.v rfl (opv_geq rfl rfl) ?_
        refine SO.v rfl (opv_pick_f' b16 rfl rfl) ?_
        refine SO.b1 ?_
        refine SO.b1 ?_
        exact hk2.fitc (m := 3) rfl (or_f b16) rfl
    refine SO.nil ?_
    rcases bool_or ((decide ((w64 ((w64 (t13.tdiv 8)) - 1)) < 0)) || (decide (32 ≤ (w64 ((w64 (t13.tdiv 8)) - 1))))) with b17 | b17
    · replace h := VM.cond_t V.toVI b17 h
      refine S.condT rfl b17 ?_
      refine S.seq ?_
      refine S.region ?_
      refine SO.v rfl (opv_assign rfl) ?_
      refine SO.v rfl (opv_assign rfl) ?_
      refine SO.v rfl (opv_assign rfl) ?_
      refine SO.nil ?_
      refine S.to (ρ' := [(6, .int .i64 0), (7, .int .i64 0), (8, .bool false), (9, .int .i64 t13), (10, .int .i64 (w64 ((w64 (t13.tdiv 8)) - 1)))]) ⟨rfl, rfl, rfl, rfl, rfl, trivial⟩ ?_
      obtain ⟨hq, rfl⟩ := VM.ret_some V.toVI h
      cases hq
      refine S.b1 ?_
      refine S.b1 ?_
      exact S.ret3 Try.func14 rfl rfl rfl rfl (fun w hs hk => hR w _ _ ⟨rfl, rfl⟩ hs hk)
    · replace h := VM.cond_f V.toVI b17 h
      refine S.condF rfl b17 ?_
      refine S.skip ?_
      refine S.seq ?_
      refine S.region ?_
      refine SO.v rfl (opv_move rfl) ?_
      refine SO.v rfl (opv_move rfl) ?_
      refine SO.v rfl (opv_rem rfl rfl (by decide)) ?_
      refine SO.v rfl (opv_assign rfl) ?_
      refine SO.v rfl (opv_assign rfl) ?_
      refine SO.v rfl (opv_assign rfl) ?_
      refine SO.nil ?_
      refine S.to (ρ' := [(6, .int .i64 (w64 ((w64 (t13.tdiv 8)) - 1))), (7, .int .i64 (t13.tmod 8)), (8, .bool true)]) ⟨rfl, rfl, rfl, trivial⟩ ?_
      obtain ⟨hq, rfl⟩ := VM.ret_some V.toVI h
      cases hq
      refine S.b1 ?_
      refine S.b1 ?_
      exact S.ret3 Try.func14 rfl rfl rfl rfl (fun w hs hk => hR w _ _ ⟨rfl, rfl⟩ hs hk)
end Go.Proofs
namespace Go.Proofs
open Go.Sl Go.RowKit
/-! 10 padstone/space.Map -/
def space_Map.f (a1 : Int) (a2 : Int) (a3 : Int) (a4 : Int) : VM ((Option Int)) :=
  (lay_Ref.f a1 1).bind fun (t1, t2) => (space_Page.f a2 a3).bind fun (t5, t6, t7) => (lay_Is.f a1 6).bind fun t10 => (bif !t10 then (VM.ret true) else ((lay_Is.f a2 7).bind fun t16 => VM.ret (!t16))).bind fun c14 => bif c14 then (VM.ret (some 2)) else ((VM.opt (space_in.f a3)).bind fun t21 => bif ((!t21) || (decide (a4 < 0))) || (decide (7 < a4)) then (VM.ret (some 1)) else (bif t2 then (VM.ret (some 10)) else (bif t7 then (VM.ret (some 8)) else ((VM.opt (space_at.f a3)).bind fun t28 => (lay_Put.f a2 t28 (w64 ((w64 (8 * (w64 (a1 + 1)))) + a4))).bind fun _ => (lay_Put.f a1 1 (w64 (a2 + 1))).bind fun _ => (lay_Put.f a1 2 a3).bind fun _ => VM.ret none))))
set_option maxHeartbeats 8000000 in
set_option maxRecDepth 100000 in
theorem space_Map.ct (V : VW Try.prog) (a1 : Int) (a2 : Int) (a3 : Int) (a4 : Int) (r0 : Option Int) (s s' : V.S) (h : VM.run V.toVI (space_Map.f a1 a2 a3 a4) s = some (r0, s')) :
    Ct Try.prog 10 [V.val, .int .i64 a1, .int .i64 a2, .int .i64 a3, .int .i64 a4] (fun _ => True) [V.rep s] (fun u H' => u = errV 53 r0 ∧ H' = [V.rep s']) := by
  unfold space_Map.f at h
  refine Ct.intro (n := 80) Try.func10 rfl rfl rfl ?_
  intro R w0 F hF hR
  refine S.seq ?_
  refine S.region ?_
  refine SO.v rfl (opv_assign rfl) ?_
  refine SO.nil ?_
  refine S.seq ?_
  refine S.region ?_
  refine SO.v rfl (opv_move rfl) ?_
  refine SO.v rfl (opv_move rfl) ?_
  obtain ⟨⟨t1, t2⟩, s4, ht3, h⟩ := VM.bind_some V.toVI h
  refine SO.call (pre := [V.rep _]) rfl Try.call20 rfl rfl rfl (lay_Ref.ct V _ _ _ _ _ _ ht3) trivial ?_
  rintro _ _ ⟨rfl, rfl⟩
  refine SO.v rfl (opv_move rfl) ?_
  refine SO.v rfl (opv_extract rfl rfl) ?_
  refine SO.v rfl (opv_extract rfl rfl) ?_
  refine SO.v rfl (opv_assign rfl) ?_
  refine SO.v rfl (opv_assign rfl) ?_
  refine SO.nil ?_
  refine S.to (ρ' := [(0, V.val), (1, .int .i64 a1), (2, .int .i64 a2), (3, .int .i64 a3), (4, .int .i64 a4), (10, errV 53 none), (12, .bool t2)]) ⟨rfl, rfl, rfl, rfl, rfl, rfl, rfl, trivial⟩ ?_
  refine S.seq ?_
  refine S.region ?_
  refine SO.v rfl (opv_move rfl) ?_
  refine SO.v rfl (opv_move rfl) ?_
  refine SO.v rfl (opv_move rfl) ?_
  obtain ⟨⟨t5, t6, t7⟩, s9, ht8, h⟩ := VM.bind_some V.toVI h
  refine SO.call (pre := [V.rep _]) rfl Try.call14 rfl rfl rfl (space_Page.ct V _ _ _ _ _ _ _ ht8) trivial ?_
  rintro _ _ ⟨rfl, rfl⟩
  refine SO.v rfl (opv_move rfl) ?_
  refine SO.v rfl (opv_extract rfl rfl) ?_
  refine SO.v rfl (opv_extract rfl rfl) ?_
  refine SO.v rfl (opv_extract rfl rfl) ?_
  refine SO.v rfl (opv_assign rfl) ?_
  refine SO.v rfl (opv_assign rfl) ?_
  refine SO.v rfl (opv_assign rfl) ?_
  refine SO.nil ?_
  refine S.to (ρ' := [(0, V.val), (1, .int .i64 a1), (2, .int .i64 a2), (3, .int .i64 a3), (4, .int .i64 a4), (10, errV 53 none), (12, .bool t2), (15, .bool t7)]) ⟨rfl, rfl, rfl, rfl, rfl, rfl, rfl, rfl, trivial⟩ ?_
  refine S.seq ?_
  refine S.block ?_
  refine S.seq ?_
  refine S.region ?_
  refine SO.v rfl (opv_move rfl) ?_
  refine SO.v rfl (opv_move rfl) ?_
  obtain ⟨t10, s12, ht11, h⟩ := VM.bind_some V.toVI h
  refine SO.call (pre := [V.rep _]) rfl Try.call19 rfl rfl rfl (lay_Is.ct V _ _ _ _ _ ht11) trivial ?_
  rintro _ _ ⟨rfl, rfl⟩
  refine SO.v rfl (opv_not rfl) ?_
  refine SO.v rfl (opv_move rfl) ?_
  obtain ⟨c14, s19, hc15, hgk⟩ := VM.bind_some V.toVI h
  refine SO.cut 5 40 (.bool c14) [V.rep s19, F] (fun l2 hk2 => ?_) ?_
  · clear hgk
    replace h := hc15
    rcases bool_or (!t10) with b13 | b13
    · replace h := VM.cond_t V.toVI b13 h
      refine SO.passF rfl rfl rfl b13 rfl rfl ?_
      refine SO.passF rfl rfl rfl b13 rfl rfl ?_
      refine SO.passF rfl rfl rfl b13 rfl rfl ?_
      refine SO.passF rfl rfl rfl b13 rfl rfl ?_
      obtain ⟨hq, rfl⟩ := VM.ret_some V.toVI h
      cases hq
      refine SO.v rfl (opv_pick_t' b13 rfl rfl) ?_
      refine SO.b1 ?_
      refine SO.b1 ?_
      exact hk2.fitc (m := 5) rfl (rfl) rfl
    · replace h := VM.cond_f V.toVI b13 h
      refine SO.takeT rfl rfl rfl b13 ?_
      refine SO.v rfl (opv_move rfl) ?_
      refine SO.takeT rfl rfl rfl b13 ?_
      refine SO.v rfl (opv_move rfl) ?_
      refine SO.takeT rfl rfl rfl b13 ?_
      obtain ⟨t16, s18, ht17, h⟩ := VM.bind_some V.toVI h
      refine SO.call (pre := [V.rep _]) rfl Try.call19 rfl rfl rfl (lay_Is.ct V _ _ _ _ _ ht17) trivial ?_
      rintro _ _ ⟨rfl, rfl⟩
      refine SO.takeT rfl rfl rfl b13 ?_
      refine SO.v rfl (opv_not rfl) ?_
      obtain ⟨hq, rfl⟩ := VM.ret_some V.toVI h
      cases hq
      refine SO.v rfl (opv_pick_f' b13 rfl rfl) ?_
      refine SO.b1 ?_
      refine SO.b1 ?_
      exact hk2.fitc (m := 5) rfl (rfl) rfl
  clear hc15
  replace h := hgk
  refine SO.v rfl (opv_assign rfl) ?_
  refine SO.nil ?_
  rcases bool_or c14 with b20 | b20
  · replace h := VM.cond_t V.toVI b20 h
    refine S.condT rfl b20 ?_
    refine S.seq ?_
    refine S.region ?_
    refine SO.v rfl (opv_iface Try.underlying53 rfl rfl) ?_
    refine SO.v rfl (opv_assign rfl) ?_
    refine SO.nil ?_
    refine S.to (ρ' := [(0, V.val), (1, .int .i64 a1), (2, .int .i64 a2), (3, .int .i64 a3), (4, .int .i64 a4), (10, errV 53 (some 2))]) ⟨rfl, rfl, rfl, rfl, rfl, rfl, trivial⟩ ?_
    obtain ⟨hq, rfl⟩ := VM.ret_some V.toVI h
    cases hq
    refine S.b1 ?_
    refine S.b1 ?_
    exact S.ret1 Try.func10 rfl rfl (fun w hs hk => hR w _ _ ⟨rfl, rfl⟩ hs hk)
  · replace h := VM.cond_f V.toVI b20 h
    refine S.condF rfl b20 ?_
    refine S.seq ?_
    refine S.region ?_
    refine SO.v rfl (opv_move rfl) ?_
    obtain ⟨t21, ht22, h⟩ := VM.opt_some V.toVI h
    refine SO.call (pre := []) rfl Try.call25 rfl rfl rfl (space_in.ct _ _ ht22) trivial ?_
    rintro _ _ ⟨rfl, rfl⟩
    refine SO.v rfl (opv_not rfl) ?_
    refine SO.v rfl (opv_move rfl) ?_
    refine SO.cut 3 49 (.bool ((!t21) || (decide (a4 < 0)))) [V.rep s19, F] (fun l2 hk2 => ?_) ?_
    · rcases bool_or (!t21) with b23 | b23
      · refine SO.passF rfl rfl rfl b23 rfl rfl ?_
        refine SO.passF rfl rfl rfl b23 rfl rfl ?_
        refine SO.v rfl (opv_pick_t' b23 rfl rfl) ?_
        refine SO.b1 ?_
        refine SO.b1 ?_
        exact hk2.fitc (m := 3) rfl (or_t b23) rfl
      · refine SO.takeT rfl rfl rfl b23 ?_
        refine SO.v rfl (opv_move rfl) ?_
        refine SO.takeT rfl rfl rfl b23 ?_
        refine SO.v rfl (opv_lss rfl rfl) ?_
        refine SO.v rfl (opv_pick_f' b23 rfl rfl) ?_
        refine SO.b1 ?_
        refine SO.b1 ?_
        exact hk2.fitc (m := 3) rfl (or_f b23) rfl
    refine SO.v rfl (opv_move rfl) ?_
    refine SO.cut 3 53 (.bool (((!t21) || (decide (a4 < 0))) || (decide (7 < a4)))) [V.rep s19, F] (fun l2 hk2 => ?_) ?_
    · rcases bool_or ((!t21) || (decide (a4 < 0))) with b24 | b24
      · refine SO.passF rfl rfl rfl b24 rfl rfl ?_
        refine SO.passF rfl rfl rfl b24 rfl rfl ?_
        refine SO.v rfl (opv_pick_t' b24 rfl rfl) ?_
        refine SO.b1 ?_
        refine SO.b1 ?_
        exact hk2.fitc (m := 3) rfl (or_t b24) rfl
      · refine SO.takeT rfl rfl rfl b24 ?_
        refine SO.v rfl (opv_move rfl) ?_
        refine SO.takeT rfl rfl rfl b24 ?_
        refine SO.v rfl (opv_gtr rfl rfl) ?_
        refine SO.v rfl (opv_pick_f' b24 rfl rfl) ?_
        refine SO.b1 ?_
        refine SO.b1 ?_
        exact hk2.fitc (m := 3) rfl (or_f b24) rfl
    refine SO.v rfl (opv_assign rfl) ?_
    refine SO.nil ?_
    refine S.to (ρ' := [(0, V.val), (1, .int .i64 a1), (2, .int .i64 a2), (3, .int .i64 a3), (4, .int .i64 a4), (10, errV 53 none), (12, .bool t2), (15, .bool t7), (42, .bool (((!t21) || (decide (a4 < 0))) || (decide (7 < a4))))]) ⟨rfl, rfl, rfl, rfl, rfl, rfl, rfl, rfl, rfl, trivial⟩ ?_
    rcases bool_or (((!t21) || (decide (a4 < 0))) || (decide (7 < a4))) with b25 | b25
    · replace h := VM.cond_t V.toVI b25 h
      refine S.condT rfl b25 ?_
      refine S.seq ?_
      refine S.region ?_
      refine SO.v rfl (opv_iface Try.underlying53 rfl rfl) ?_
      refine SO.v rfl (opv_assign rfl) ?_
      refine SO.nil ?_
      obtain ⟨hq, rfl⟩ := VM.ret_some V.toVI h
      cases hq
      refine S.b1 ?_
      refine S.b1 ?_
      exact S.ret1 Try.func10 rfl rfl (fun w hs hk => hR w _ _ ⟨rfl, rfl⟩ hs hk)
    · replace h := VM.cond_f V.toVI b25 h
      refine S.condF rfl b25 ?_
      refine S.seq ?_
      refine S.region ?_
      refine SO.v rfl (opv_move rfl) ?_
      refine SO.v rfl (opv_assign rfl) ?_
      refine SO.nil ?_
      rcases bool_or t2 with b26 | b26
      · replace h := VM.cond_t V.toVI b26 h
        refine S.condT rfl b26 ?_
        refine S.seq ?_
        refine S.region ?_
        refine SO.v rfl (opv_iface Try.underlying53 rfl rfl) ?_
        refine SO.v rfl (opv_assign rfl) ?_
        refine SO.nil ?_
        obtain ⟨hq, rfl⟩ := VM.ret_some V.toVI h
        cases hq
        refine S.b1 ?_
        refine S.b1 ?_
        exact S.ret1 Try.func10 rfl rfl (fun w hs hk => hR w _ _ ⟨rfl, rfl⟩ hs hk)
      · replace h := VM.cond_f V.toVI b26 h
        refine S.condF rfl b26 ?_
        refine S.seq ?_
        refine S.region ?_
        refine SO.v rfl (opv_move rfl) ?_
        refine SO.v rfl (opv_assign rfl) ?_
        refine SO.nil ?_
        rcases bool_or t7 with b27 | b27
        · replace h := VM.cond_t V.toVI b27 h
          refine S.condT rfl b27 ?_
          refine S.seq ?_
          refine S.region ?_
          refine SO.v rfl (opv_iface Try.underlying53 rfl rfl) ?_
          refine SO.v rfl (opv_assign rfl) ?_
          refine SO.nil ?_
          refine S.to (ρ' := [(0, V.val), (1, .int .i64 a1), (2, .int .i64 a2), (3, .int .i64 a3), (4, .int .i64 a4), (10, errV 53 (some 8))]) ⟨rfl, rfl, rfl, rfl, rfl, rfl, trivial⟩ ?_
          obtain ⟨hq, rfl⟩ := VM.ret_some V.toVI h
          cases hq
          refine S.b1 ?_
          refine S.b1 ?_
          exact S.ret1 Try.func10 rfl rfl (fun w hs hk => hR w _ _ ⟨rfl, rfl⟩ hs hk)
        · replace h := VM.cond_f V.toVI b27 h
          refine S.condF rfl b27 ?_
          refine S.skip ?_
          refine S.inBlock ?_
          refine S.seq ?_
          refine S.region ?_
          refine SO.v rfl (opv_move rfl) ?_
          refine SO.v rfl (opv_move rfl) ?_
          refine SO.v rfl (opv_move rfl) ?_
          obtain ⟨t28, ht29, h⟩ := VM.opt_some V.toVI h
          refine SO.call (pre := []) rfl Try.call23 rfl rfl rfl (space_at.ct _ _ ht29) trivial ?_
          rintro _ _ ⟨rfl, rfl⟩
          refine SO.v rfl (opv_move rfl) ?_
          refine SO.v rfl (opv_add rfl rfl) ?_
          refine SO.v rfl (opv_mul rfl rfl) ?_
          refine SO.v rfl (opv_move rfl) ?_
          refine SO.v rfl (opv_add rfl rfl) ?_
          obtain ⟨_, s31, ht30, h⟩ := VM.bind_some V.toVI h
          refine SO.call (pre := [V.rep _]) rfl Try.call22 rfl rfl rfl (lay_Put.ct V _ _ _ _ _ ht30) trivial ?_
          rintro _ _ ⟨rfl, rfl⟩
          refine SO.nil ?_
          refine S.to (ρ' := [(0, V.val), (1, .int .i64 a1), (2, .int .i64 a2), (3, .int .i64 a3), (10, errV 53 none)]) ⟨rfl, rfl, rfl, rfl, rfl, trivial⟩ ?_
          refine S.seq ?_
          refine S.region ?_
          refine SO.v rfl (opv_move rfl) ?_
          refine SO.v rfl (opv_move rfl) ?_
          refine SO.v rfl (opv_move rfl) ?_
          refine SO.v rfl (opv_add rfl rfl) ?_
          obtain ⟨_, s33, ht32, h⟩ := VM.bind_some V.toVI h
          refine SO.call (pre := [V.rep _]) rfl Try.call22 rfl rfl rfl (lay_Put.ct V _ _ _ _ _ ht32) trivial ?_
          rintro _ _ ⟨rfl, rfl⟩
          refine SO.nil ?_
          refine S.seq ?_
          refine S.region ?_
          refine SO.v rfl (opv_move rfl) ?_
          refine SO.v rfl (opv_move rfl) ?_
          refine SO.v rfl (opv_move rfl) ?_
          obtain ⟨_, s35, ht34, h⟩ := VM.bind_some V.toVI h
          refine SO.call (pre := [V.rep _]) rfl Try.call22 rfl rfl rfl (lay_Put.ct V _ _ _ _ _ ht34) trivial ?_
          rintro _ _ ⟨rfl, rfl⟩
          refine SO.nil ?_
          refine S.to (ρ' := [(10, errV 53 none)]) ⟨rfl, trivial⟩ ?_
          refine S.seq ?_
          refine S.region ?_
          refine SO.v rfl (opv_assign rfl) ?_
          refine SO.nil ?_
          obtain ⟨hq, rfl⟩ := VM.ret_some V.toVI h
          cases hq
          refine S.b1 ?_
          refine S.b1 ?_
          exact S.ret1 Try.func10 rfl rfl (fun w hs hk => hR w _ _ ⟨rfl, rfl⟩ hs hk)
end Go.Proofs
namespace Go.Proofs
open Go.Sl Go.RowKit
/-! 8 padstone/space.Unmap -/
def space_Unmap.f (a1 : Int) : VM ((Option Int)) :=
  (lay_Is.f a1 6).bind fun t1 => bif !t1 then (VM.ret (some 2)) else ((lay_Ref.f a1 1).bind fun (t5, t6) => bif !t6 then (VM.ret (some 10)) else ((lay_Field.f a1 2).bind fun t10 => (space_Page.f t5 t10).bind fun (t13, t14, t15) => bif t15 && (t13 == a1) then ((VM.opt (space_at.f t10)).bind fun t20 => (lay_Put.f t5 t20 0).bind fun _ => (lay_Put.f a1 1 0).bind fun _ => (lay_Put.f a1 2 0).bind fun _ => VM.ret none) else ((lay_Put.f a1 1 0).bind fun _ => (lay_Put.f a1 2 0).bind fun _ => VM.ret none)))
set_option maxHeartbeats 8000000 in
set_option maxRecDepth 100000 in
theorem space_Unmap.ct (V : VW Try.prog) (a1 : Int) (r0 : Option Int) (s s' : V.S) (h : VM.run V.toVI (space_Unmap.f a1) s = some (r0, s')) :
    Ct Try.prog 8 [V.val, .int .i64 a1] (fun _ => True) [V.rep s] (fun u H' => u = errV 53 r0 ∧ H' = [V.rep s']) := by
  unfold space_Unmap.f at h
  refine Ct.intro (n := 53) Try.func8 rfl rfl rfl ?_
  intro R w0 F hF hR
  refine S.seq ?_
  refine S.region ?_
  refine SO.v rfl (opv_assign rfl) ?_
  refine SO.nil ?_
  refine S.seq ?_
  refine S.seq ?_
  refine S.region ?_
  refine SO.v rfl (opv_move rfl) ?_
  refine SO.v rfl (opv_move rfl) ?_
  obtain ⟨t1, s3, ht2, h⟩ := VM.bind_some V.toVI h
  refine SO.call (pre := [V.rep _]) rfl Try.call19 rfl rfl rfl (lay_Is.ct V _ _ _ _ _ ht2) trivial ?_
  rintro _ _ ⟨rfl, rfl⟩
  refine SO.v rfl (opv_not rfl) ?_
  refine SO.nil ?_
  rcases bool_or (!t1) with b4 | b4
  · replace h := VM.cond_t V.toVI b4 h
    refine S.condT rfl b4 ?_
    refine S.seq ?_
    refine S.region ?_
    refine SO.v rfl (opv_iface Try.underlying53 rfl rfl) ?_
    refine SO.v rfl (opv_assign rfl) ?_
    refine SO.nil ?_
    obtain ⟨hq, rfl⟩ := VM.ret_some V.toVI h
    cases hq
    refine S.b1 ?_
    refine S.b1 ?_
    exact S.ret1 Try.func8 rfl rfl (fun w hs hk => hR w _ _ ⟨rfl, rfl⟩ hs hk)
  · replace h := VM.cond_f V.toVI b4 h
    refine S.condF rfl b4 ?_
    refine S.skip ?_
    refine S.seq ?_
    refine S.region ?_
    refine SO.v rfl (opv_move rfl) ?_
    refine SO.v rfl (opv_move rfl) ?_
    obtain ⟨⟨t5, t6⟩, s8, ht7, h⟩ := VM.bind_some V.toVI h
    refine SO.call (pre := [V.rep _]) rfl Try.call20 rfl rfl rfl (lay_Ref.ct V _ _ _ _ _ _ ht7) trivial ?_
    rintro _ _ ⟨rfl, rfl⟩
    refine SO.v rfl (opv_move rfl) ?_
    refine SO.v rfl (opv_extract rfl rfl) ?_
    refine SO.v rfl (opv_extract rfl rfl) ?_
    refine SO.v rfl (opv_assign rfl) ?_
    refine SO.v rfl (opv_assign rfl) ?_
    refine SO.nil ?_
    refine S.to (ρ' := [(0, V.val), (1, .int .i64 a1), (4, errV 53 none), (5, .int .i64 t5), (6, .bool t6)]) ⟨rfl, rfl, rfl, rfl, rfl, trivial⟩ ?_
    refine S.seq ?_
    refine S.seq ?_
    refine S.region ?_
    refine SO.v rfl (opv_move rfl) ?_
    refine SO.v rfl (opv_not rfl) ?_
    refine SO.nil ?_
    rcases bool_or (!t6) with b9 | b9
    · replace h := VM.cond_t V.toVI b9 h
      refine S.condT rfl b9 ?_
      refine S.seq ?_
      refine S.region ?_
      refine SO.v rfl (opv_iface Try.underlying53 rfl rfl) ?_
      refine SO.v rfl (opv_assign rfl) ?_
      refine SO.nil ?_
      obtain ⟨hq, rfl⟩ := VM.ret_some V.toVI h
      cases hq
      refine S.b1 ?_
      refine S.b1 ?_
      exact S.ret1 Try.func8 rfl rfl (fun w hs hk => hR w _ _ ⟨rfl, rfl⟩ hs hk)
    · replace h := VM.cond_f V.toVI b9 h
      refine S.condF rfl b9 ?_
      refine S.skip ?_
      refine S.seq ?_
      refine S.region ?_
      refine SO.v rfl (opv_move rfl) ?_
      refine SO.v rfl (opv_move rfl) ?_
      obtain ⟨t10, s12, ht11, h⟩ := VM.bind_some V.toVI h
      refine SO.call (pre := [V.rep _]) rfl Try.call21 rfl rfl rfl (lay_Field.ct V _ _ _ _ _ ht11) trivial ?_
      rintro _ _ ⟨rfl, rfl⟩
      refine SO.v rfl (opv_assign rfl) ?_
      refine SO.nil ?_
      refine S.seq ?_
      refine S.seq ?_
      refine S.region ?_
      refine SO.v rfl (opv_move rfl) ?_
      refine SO.v rfl (opv_move rfl) ?_
      refine SO.v rfl (opv_move rfl) ?_
      obtain ⟨⟨t13, t14, t15⟩, s17, ht16, h⟩ := VM.bind_some V.toVI h
      refine SO.call (pre := [V.rep _]) rfl Try.call14 rfl rfl rfl (space_Page.ct V _ _ _ _ _ _ _ ht16) trivial ?_
      rintro _ _ ⟨rfl, rfl⟩
      refine SO.v rfl (opv_move rfl) ?_
      refine SO.v rfl (opv_extract rfl rfl) ?_
      refine SO.v rfl (opv_extract rfl rfl) ?_
      refine SO.v rfl (opv_extract rfl rfl) ?_
      refine SO.v rfl (opv_assign rfl) ?_
      refine SO.v rfl (opv_assign rfl) ?_
      refine SO.v rfl (opv_assign rfl) ?_
      refine SO.nil ?_
      refine S.to (ρ' := [(0, V.val), (1, .int .i64 a1), (4, errV 53 none), (5, .int .i64 t5), (7, .int .i64 t10), (8, .int .i64 t13), (10, .bool t15)]) ⟨rfl, rfl, rfl, rfl, rfl, rfl, rfl, trivial⟩ ?_
      refine S.seq ?_
      refine S.region ?_
      refine SO.v rfl (opv_move rfl) ?_
      refine SO.v rfl (opv_move rfl) ?_
      refine SO.cut 4 41 (.bool (t15 && (t13 == a1))) [V.rep s17, F] (fun l2 hk2 => ?_) ?_
      · rcases bool_or t15 with b18 | b18
        · refine SO.takeT rfl rfl rfl b18 ?_
          refine SO.v rfl (opv_move rfl) ?_
          refine SO.takeT rfl rfl rfl b18 ?_
          refine SO.v rfl (opv_move rfl) ?_
          refine SO.takeT rfl rfl rfl b18 ?_
          refine SO.v rfl (opv_eql rfl rfl) ?_
          refine SO.v rfl (opv_pick_t' b18 rfl rfl) ?_
          refine SO.b1 ?_
          refine SO.b1 ?_
          exact hk2.fitc (m := 4) rfl (and_t b18) rfl
        · refine SO.passF rfl rfl rfl b18 rfl rfl ?_
          refine SO.passF rfl rfl rfl b18 rfl rfl ?_
          refine SO.passF rfl rfl rfl b18 rfl rfl ?_
          refine SO.v rfl (opv_pick_f' b18 rfl rfl) ?_
          refine SO.b1 ?_
          refine SO.b1 ?_
          exact hk2.fitc (m := 4) rfl (and_f b18) rfl
      refine SO.nil ?_
      rcases bool_or (t15 && (t13 == a1)) with b19 | b19
      · replace h := VM.cond_t V.toVI b19 h
        refine S.condT rfl b19 ?_
        refine S.region ?_
        refine SO.v rfl (opv_move rfl) ?_
        refine SO.v rfl (opv_move rfl) ?_
        refine SO.v rfl (opv_move rfl) ?_
        obtain ⟨t20, ht21, h⟩ := VM.opt_some V.toVI h
        refine SO.call (pre := []) rfl Try.call23 rfl rfl rfl (space_at.ct _ _ ht21) trivial ?_
        rintro _ _ ⟨rfl, rfl⟩
        obtain ⟨_, s23, ht22, h⟩ := VM.bind_some V.toVI h
        refine SO.call (pre := [V.rep _]) rfl Try.call22 rfl rfl rfl (lay_Put.ct V _ _ _ _ _ ht22) trivial ?_
        rintro _ _ ⟨rfl, rfl⟩
        refine SO.nil ?_
        refine S.to (ρ' := [(0, V.val), (1, .int .i64 a1), (4, errV 53 none)]) ⟨rfl, rfl, rfl, trivial⟩ ?_
        refine S.seq ?_
        refine S.region ?_
        refine SO.v rfl (opv_move rfl) ?_
        refine SO.v rfl (opv_move rfl) ?_
        obtain ⟨_, s25, ht24, h⟩ := VM.bind_some V.toVI h
        refine SO.call (pre := [V.rep _]) rfl Try.call22 rfl rfl rfl (lay_Put.ct V _ _ _ _ _ ht24) trivial ?_
        rintro _ _ ⟨rfl, rfl⟩
        refine SO.nil ?_
        refine S.seq ?_
        refine S.region ?_
        refine SO.v rfl (opv_move rfl) ?_
        refine SO.v rfl (opv_move rfl) ?_
        obtain ⟨_, s27, ht26, h⟩ := VM.bind_some V.toVI h
        refine SO.call (pre := [V.rep _]) rfl Try.call22 rfl rfl rfl (lay_Put.ct V _ _ _ _ _ ht26) trivial ?_
        rintro _ _ ⟨rfl, rfl⟩
        refine SO.nil ?_
        refine S.to (ρ' := [(4, errV 53 none)]) ⟨rfl, trivial⟩ ?_
        refine S.seq ?_
        refine S.region ?_
        refine SO.v rfl (opv_assign rfl) ?_
        refine SO.nil ?_
        obtain ⟨hq, rfl⟩ := VM.ret_some V.toVI h
        cases hq
        refine S.b1 ?_
        refine S.b1 ?_
        exact S.ret1 Try.func8 rfl rfl (fun w hs hk => hR w _ _ ⟨rfl, rfl⟩ hs hk)
      · replace h := VM.cond_f V.toVI b19 h
        refine S.condF rfl b19 ?_
        refine S.skip ?_
        refine S.seq ?_
        refine S.region ?_
        refine SO.v rfl (opv_move rfl) ?_
        refine SO.v rfl (opv_move rfl) ?_
        obtain ⟨_, s29, ht28, h⟩ := VM.bind_some V.toVI h
        refine SO.call (pre := [V.rep _]) rfl Try.call22 rfl rfl rfl (lay_Put.ct V _ _ _ _ _ ht28) trivial ?_
        rintro _ _ ⟨rfl, rfl⟩
        refine SO.nil ?_
        refine S.to (ρ' := [(0, V.val), (1, .int .i64 a1), (4, errV 53 none)]) ⟨rfl, rfl, rfl, trivial⟩ ?_
        refine S.seq ?_
        refine S.region ?_
        refine SO.v rfl (opv_move rfl) ?_
        refine SO.v rfl (opv_move rfl) ?_
        obtain ⟨_, s31, ht30, h⟩ := VM.bind_some V.toVI h
        refine SO.call (pre := [V.rep _]) rfl Try.call22 rfl rfl rfl (lay_Put.ct V _ _ _ _ _ ht30) trivial ?_
        rintro _ _ ⟨rfl, rfl⟩
        refine SO.nil ?_
        refine S.seq ?_
        refine S.region ?_
        refine SO.v rfl (opv_assign rfl) ?_
        refine SO.nil ?_
        obtain ⟨hq, rfl⟩ := VM.ret_some V.toVI h
        cases hq
        refine S.b1 ?_
        refine S.b1 ?_
        exact S.ret1 Try.func8 rfl rfl (fun w hs hk => hR w _ _ ⟨rfl, rfl⟩ hs hk)
end Go.Proofs
namespace Go.Proofs
open Go.Sl Go.RowKit
/-! 5 padstone/padstonelaw18.up -/
def law18_up.f (k : Nat) : Option (Bool) :=
  (law18_begun.f k ).bind fun t1 => (ref10_State_Words.f k t1).bind fun t13 => (VM.run plainI (space_Map.f 1 4 2 3) t13).bind fun (t17, s19) => (VM.run plainI (space_Page.f 4 2) s19).bind fun ((t21, t22, t23), s25) => (VM.run plainI (space_Page.f 4 1) s25).bind fun ((t27, t28, t29), s31) => (bif (((t17.isNone && (t21 == 1)) && (t22 == 3)) && t23) && (!t29) then ((VM.run plainI (space_Unmap.f 0) s31).bind fun (t42, s44) => some (t42 == some 10, s44)) else (some (false, s31))).bind fun (c38, w40) => (bif c38 then ((VM.run plainI (space_Map.f 4 4 0 0) w40).bind fun (t51, s53) => some (t51 == some 2, s53)) else (some (false, w40))).bind fun (c47, w49) => some c47
set_option maxHeartbeats 8000000 in
set_option maxRecDepth 100000 in
theorem law18_up.ct (k : Nat) (r0 : Bool) (h : law18_up.f k  = some r0) :
    Ct Try.prog 5 [] (fun _ => True) [] (fun u H' => u = .bool r0 ∧ H' = []) := by
  unfold law18_up.f at h
  refine Ct.intro (n := 59) Try.func5 rfl rfl rfl ?_
  intro R w0 F hF hR
  refine S.seq ?_
  refine S.region ?_
  refine SO.v rfl (opv_assign rfl) ?_
  refine SO.nil ?_
  refine S.seq ?_
  refine S.region ?_
  obtain ⟨t1, ht2, h⟩ := opt_bind h
  refine SO.call (pre := []) rfl Try.call6 rfl rfl rfl (law18_begun.ct _ _ ht2) trivial ?_
  rintro _ _ ⟨b3, u4_Slots, u4_Objs, rfl, rfl⟩
  obtain ⟨t13, ht14, h⟩ := opt_bind h
  refine SO.b1 ?_
  refine SO.openR fun raws5 A6 hrel7 hR8 => ?_
  refine SO.b2 ?_
  refine SO.openR fun raws9 A10 hrel11 hR12 => ?_
  refine SO.b1 ?_
  refine SO.b2 ?_
  refine SO.call (pre := [Box _ _, OwnO _ _ _ _ _ _, OwnO _ _ _ _ _ _]) rfl Try.call7 rfl rfl rfl (ref10_State_Words.ct _ b3 u4_Slots u4_Objs raws5 A6 raws9 A10 _ _ ht14) trivial ?_
  rintro v15 _ ⟨_, rfl, rfl⟩
  refine SO.rd fun hr16 => ?_
  refine SO.v rfl (opv_assign rfl) ?_
  refine SO.nil ?_
  refine S.seq ?_
  refine S.region ?_
  refine SO.v rfl (opv_move rfl) ?_
  refine SO.v rfl (opv_iface Try.underlying27 rfl rfl) ?_
  obtain ⟨⟨t17, s19⟩, ht18, h⟩ := opt_bind h
  refine SO.call (pre := [(plainV v15).rep _]) rfl Try.call10 rfl rfl rfl (space_Map.ct (plainV v15) _ _ _ _ _ _ _ ht18) trivial ?_
  rintro _ _ ⟨rfl, rfl⟩
  refine headEq (plainV_rep _ _) ?_
  refine SO.rd fun hr20 => ?_
  refine SO.v rfl (opv_assign rfl) ?_
  refine SO.nil ?_
  refine S.seq ?_
  refine S.region ?_
  refine SO.v rfl (opv_move rfl) ?_
  refine SO.v rfl (opv_iface Try.underlying27 rfl rfl) ?_
  obtain ⟨⟨⟨t21, t22, t23⟩, s25⟩, ht24, h⟩ := opt_bind h
  refine SO.call (pre := [(plainV v15).rep _]) rfl Try.call14 rfl rfl rfl (space_Page.ct (plainV v15) _ _ _ _ _ _ _ ht24) trivial ?_
  rintro _ _ ⟨rfl, rfl⟩
  refine headEq (plainV_rep _ _) ?_
  refine SO.rd fun hr26 => ?_
  refine SO.v rfl (opv_move rfl) ?_
  refine SO.v rfl (opv_extract rfl rfl) ?_
  refine SO.v rfl (opv_extract rfl rfl) ?_
  refine SO.v rfl (opv_extract rfl rfl) ?_
  refine SO.v rfl (opv_assign rfl) ?_
  refine SO.v rfl (opv_assign rfl) ?_
  refine SO.v rfl (opv_assign rfl) ?_
  refine SO.nil ?_
  refine S.to (ρ' := [(0, .bool false), (1, v15), (2, errV 53 t17), (3, .int .i64 t21), (4, .int .i64 t22), (5, .bool t23)]) ⟨rfl, rfl, rfl, rfl, rfl, rfl, trivial⟩ ?_
  refine S.seq ?_
  refine S.region ?_
  refine SO.v rfl (opv_move rfl) ?_
  refine SO.v rfl (opv_iface Try.underlying27 rfl rfl) ?_
  obtain ⟨⟨⟨t27, t28, t29⟩, s31⟩, ht30, h⟩ := opt_bind h
  refine SO.call (pre := [(plainV v15).rep _]) rfl Try.call14 rfl rfl rfl (space_Page.ct (plainV v15) _ _ _ _ _ _ _ ht30) trivial ?_
  rintro _ _ ⟨rfl, rfl⟩
  refine headEq (plainV_rep _ _) ?_
  refine SO.rd fun hr32 => ?_
  refine SO.v rfl (opv_move rfl) ?_
  refine SO.v rfl (opv_extract rfl rfl) ?_
  refine SO.v rfl (opv_extract rfl rfl) ?_
  refine SO.v rfl (opv_extract rfl rfl) ?_
  refine SO.v rfl (opv_assign rfl) ?_
  refine SO.v rfl (opv_assign rfl) ?_
  refine SO.v rfl (opv_assign rfl) ?_
  refine SO.nil ?_
  refine S.to (ρ' := [(0, .bool false), (1, v15), (2, errV 53 t17), (3, .int .i64 t21), (4, .int .i64 t22), (5, .bool t23), (8, .bool t29)]) ⟨rfl, rfl, rfl, rfl, rfl, rfl, rfl, trivial⟩ ?_
  refine S.seq ?_
  refine S.region ?_
  refine SO.v rfl (opv_move rfl) ?_
  refine SO.v rfl (opv_eqlN (e := t17) Try.underlying32 rfl) ?_
  refine SO.v rfl (opv_move rfl) ?_
  refine SO.cut 3 33 (.bool (t17.isNone && (t21 == 1))) [Own 58 (ekI .u64) v15 s31, Box b3 [u4_Slots, u4_Objs, .int .i64 t1.NS, .int .i64 t1.NO], OwnO 57 kr_ref10_Slot u4_Slots raws5 A6 t1.Slots, OwnO 46 kr_ref10_Obj u4_Objs raws9 A10 t1.Objs, F] (fun l2 hk2 => ?_) ?_
  · rcases bool_or t17.isNone with b33 | b33
    · refine SO.takeT rfl rfl rfl b33 ?_
      refine SO.v rfl (opv_move rfl) ?_
      refine SO.takeT rfl rfl rfl b33 ?_
      refine SO.v rfl (opv_eql rfl rfl) ?_
      refine SO.v rfl (opv_pick_t' b33 rfl rfl) ?_
      refine SO.b4 ?_
      refine SO.b4 ?_
      refine SO.b4 ?_
      refine SO.b4 ?_
      refine SO.b4 ?_
      exact hk2.fitc (m := 3) rfl (and_t b33) rfl
    · refine SO.passF rfl rfl rfl b33 rfl rfl ?_
      refine SO.passF rfl rfl rfl b33 rfl rfl ?_
      refine SO.v rfl (opv_pick_f' b33 rfl rfl) ?_
      refine SO.b4 ?_
      refine SO.b4 ?_
      refine SO.b4 ?_
      refine SO.b4 ?_
      refine SO.b4 ?_
      exact hk2.fitc (m := 3) rfl (and_f b33) rfl
  refine SO.v rfl (opv_move rfl) ?_
  refine SO.cut 3 37 (.bool ((t17.isNone && (t21 == 1)) && (t22 == 3))) [Own 58 (ekI .u64) v15 s31, Box b3 [u4_Slots, u4_Objs, .int .i64 t1.NS, .int .i64 t1.NO], OwnO 57 kr_ref10_Slot u4_Slots raws5 A6 t1.Slots, OwnO 46 kr_ref10_Obj u4_Objs raws9 A10 t1.Objs, F] (fun l2 hk2 => ?_) ?_
  · rcases bool_or (t17.isNone && (t21 == 1)) with b34 | b34
    · refine SO.takeT rfl rfl rfl b34 ?_
      refine SO.v rfl (opv_move rfl) ?_
      refine SO.takeT rfl rfl rfl b34 ?_
      refine SO.v rfl (opv_eql rfl rfl) ?_
      refine SO.v rfl (opv_pick_t' b34 rfl rfl) ?_
      refine SO.b4 ?_
      refine SO.b4 ?_
      refine SO.b4 ?_
      refine SO.b4 ?_
      refine SO.b4 ?_
      exact hk2.fitc (m := 3) rfl (and_t b34) rfl
    · refine SO.passF rfl rfl rfl b34 rfl rfl ?_
      refine SO.passF rfl rfl rfl b34 rfl rfl ?_
      refine SO.v rfl (opv_pick_f' b34 rfl rfl) ?_
      refine SO.b4 ?_
      refine SO.b4 ?_
      refine SO.b4 ?_
      refine SO.b4 ?_
      refine SO.b4 ?_
      exact hk2.fitc (m := 3) rfl (and_f b34) rfl
  refine SO.v rfl (opv_move rfl) ?_
  refine SO.cut 2 40 (.bool (((t17.isNone && (t21 == 1)) && (t22 == 3)) && t23)) [Own 58 (ekI .u64) v15 s31, Box b3 [u4_Slots, u4_Objs, .int .i64 t1.NS, .int .i64 t1.NO], OwnO 57 kr_ref10_Slot u4_Slots raws5 A6 t1.Slots, OwnO 46 kr_ref10_Obj u4_Objs raws9 A10 t1.Objs, F] (fun l2 hk2 => ?_) ?_
  · rcases bool_or ((t17.isNone && (t21 == 1)) && (t22 == 3)) with b35 | b35
    · refine SO.takeT rfl rfl rfl b35 ?_
      refine SO.v rfl (opv_move rfl) ?_
      refine SO.v rfl (opv_pick_t' b35 rfl rfl) ?_
      refine SO.b4 ?_
      refine SO.b4 ?_
      refine SO.b4 ?_
      refine SO.b4 ?_
      refine SO.b4 ?_
      exact hk2.fitc (m := 2) rfl (and_t b35) rfl
    · refine SO.passF rfl rfl rfl b35 rfl rfl ?_
      refine SO.v rfl (opv_pick_f' b35 rfl rfl) ?_
      refine SO.b4 ?_
      refine SO.b4 ?_
      refine SO.b4 ?_
      refine SO.b4 ?_
      refine SO.b4 ?_
      exact hk2.fitc (m := 2) rfl (and_f b35) rfl
  refine SO.v rfl (opv_move rfl) ?_
  refine SO.cut 3 44 (.bool ((((t17.isNone && (t21 == 1)) && (t22 == 3)) && t23) && (!t29))) [Own 58 (ekI .u64) v15 s31, Box b3 [u4_Slots, u4_Objs, .int .i64 t1.NS, .int .i64 t1.NO], OwnO 57 kr_ref10_Slot u4_Slots raws5 A6 t1.Slots, OwnO 46 kr_ref10_Obj u4_Objs raws9 A10 t1.Objs, F] (fun l2 hk2 => ?_) ?_
  · rcases bool_or (((t17.isNone && (t21 == 1)) && (t22 == 3)) && t23) with b36 | b36
    · refine SO.takeT rfl rfl rfl b36 ?_
      refine SO.v rfl (opv_move rfl) ?_
      refine SO.takeT rfl rfl rfl b36 ?_
      refine SO.v rfl (opv_not rfl) ?_
      refine SO.v rfl (opv_pick_t' b36 rfl rfl) ?_
      refine SO.b4 ?_
      refine SO.b4 ?_
      refine SO.b4 ?_
      refine SO.b4 ?_
      refine SO.b4 ?_
      exact hk2.fitc (m := 3) rfl (and_t b36) rfl
    · refine SO.passF rfl rfl rfl b36 rfl rfl ?_
      refine SO.passF rfl rfl rfl b36 rfl rfl ?_
      refine SO.v rfl (opv_pick_f' b36 rfl rfl) ?_
      refine SO.b4 ?_
      refine SO.b4 ?_
      refine SO.b4 ?_
      refine SO.b4 ?_
      refine SO.b4 ?_
      exact hk2.fitc (m := 3) rfl (and_f b36) rfl
  refine SO.v rfl (opv_move rfl) ?_
  obtain ⟨⟨c38, w40⟩, hc39, hgk⟩ := opt_bind h
  refine SO.cut 6 51 (.bool c38) [Own 58 (ekI .u64) v15 w40, Box b3 [u4_Slots, u4_Objs, .int .i64 t1.NS, .int .i64 t1.NO], OwnO 57 kr_ref10_Slot u4_Slots raws5 A6 t1.Slots, OwnO 46 kr_ref10_Obj u4_Objs raws9 A10 t1.Objs, F] (fun l2 hk2 => ?_) ?_
  · clear hgk
    replace h := hc39
    rcases bool_or ((((t17.isNone && (t21 == 1)) && (t22 == 3)) && t23) && (!t29)) with b37 | b37
    · replace h := cond_t b37 h
      refine SO.takeT rfl rfl rfl b37 ?_
      refine SO.v rfl (opv_move rfl) ?_
      refine SO.takeT rfl rfl rfl b37 ?_
      refine SO.v rfl (opv_iface Try.underlying27 rfl rfl) ?_
      refine SO.takeT rfl rfl rfl b37 ?_
      obtain ⟨⟨t42, s44⟩, ht43, h⟩ := opt_bind h
      refine SO.call (pre := [(plainV v15).rep _]) rfl Try.call8 rfl rfl rfl (space_Unmap.ct (plainV v15) _ _ _ _ ht43) trivial ?_
      rintro _ _ ⟨rfl, rfl⟩
      refine headEq (plainV_rep _ _) ?_
      refine SO.rd fun hr45 => ?_
      refine SO.takeT rfl rfl rfl b37 ?_
      refine SO.v rfl (opv_iface Try.underlying53 rfl rfl) ?_
      refine SO.takeT rfl rfl rfl b37 ?_
      refine SO.v rfl (opv_eqlE (e := t42) (c := 10) Try.underlying32 Try.underlying53 inf53 rfl rfl rfl) ?_
      cases h
      refine SO.v rfl (opv_pick_t' b37 rfl rfl) ?_
      refine SO.b4 ?_
      refine SO.b4 ?_
      refine SO.b4 ?_
      refine SO.b4 ?_
      refine SO.b4 ?_
      exact hk2.fitc (m := 6) rfl (rfl) rfl
    · replace h := cond_f b37 h
      refine SO.passF rfl rfl rfl b37 rfl rfl ?_
      refine SO.passF rfl rfl rfl b37 rfl rfl ?_
      refine SO.passF rfl rfl rfl b37 rfl rfl ?_
      refine SO.passF rfl rfl rfl b37 rfl rfl ?_
      refine SO.passF rfl rfl rfl b37 rfl rfl ?_
      cases h
      refine SO.v rfl (opv_pick_f' b37 rfl rfl) ?_
      refine SO.b4 ?_
      refine SO.b4 ?_
      refine SO.b4 ?_
      refine SO.b4 ?_
      refine SO.b4 ?_
      exact hk2.fitc (m := 6) rfl (rfl) rfl
  clear hc39
  replace h := hgk
  refine SO.rd fun hr41 => ?_
  refine SO.v rfl (opv_move rfl) ?_
  obtain ⟨⟨c47, w49⟩, hc48, hgk⟩ := opt_bind h
  refine SO.cut 6 58 (.bool c47) [Own 58 (ekI .u64) v15 w49, Box b3 [u4_Slots, u4_Objs, .int .i64 t1.NS, .int .i64 t1.NO], OwnO 57 kr_ref10_Slot u4_Slots raws5 A6 t1.Slots, OwnO 46 kr_ref10_Obj u4_Objs raws9 A10 t1.Objs, F] (fun l2 hk2 => ?_) ?_
  · clear hgk
    replace h := hc48
    rcases bool_or c38 with b46 | b46
    · replace h := cond_t b46 h
      refine SO.takeT rfl rfl rfl b46 ?_
      refine SO.v rfl (opv_move rfl) ?_
      refine SO.takeT rfl rfl rfl b46 ?_
      refine SO.v rfl (opv_iface Try.underlying27 rfl rfl) ?_
      refine SO.takeT rfl rfl rfl b46 ?_
      obtain ⟨⟨t51, s53⟩, ht52, h⟩ := opt_bind h
      refine SO.call (pre := [(plainV v15).rep _]) rfl Try.call10 rfl rfl rfl (space_Map.ct (plainV v15) _ _ _ _ _ _ _ ht52) trivial ?_
      rintro _ _ ⟨rfl, rfl⟩
      refine headEq (plainV_rep _ _) ?_
      refine SO.rd fun hr54 => ?_
      refine SO.takeT rfl rfl rfl b46 ?_
      refine SO.v rfl (opv_iface Try.underlying53 rfl rfl) ?_
      refine SO.takeT rfl rfl rfl b46 ?_
      refine SO.v rfl (opv_eqlE (e := t51) (c := 2) Try.underlying32 Try.underlying53 inf53 rfl rfl rfl) ?_
      cases h
      refine SO.v rfl (opv_pick_t' b46 rfl rfl) ?_
      refine SO.b4 ?_
      refine SO.b4 ?_
      refine SO.b4 ?_
      refine SO.b4 ?_
      refine SO.b4 ?_
      exact hk2.fitc (m := 6) rfl (rfl) rfl
    · replace h := cond_f b46 h
      refine SO.passF rfl rfl rfl b46 rfl rfl ?_
      refine SO.passF rfl rfl rfl b46 rfl rfl ?_
      refine SO.passF rfl rfl rfl b46 rfl rfl ?_
      refine SO.passF rfl rfl rfl b46 rfl rfl ?_
      refine SO.passF rfl rfl rfl b46 rfl rfl ?_
      cases h
      refine SO.v rfl (opv_pick_f' b46 rfl rfl) ?_
      refine SO.b4 ?_
      refine SO.b4 ?_
      refine SO.b4 ?_
      refine SO.b4 ?_
      refine SO.b4 ?_
      exact hk2.fitc (m := 6) rfl (rfl) rfl
  clear hc48
  replace h := hgk
  refine SO.rd fun hr50 => ?_
  refine SO.v rfl (opv_assign rfl) ?_
  refine SO.nil ?_
  refine S.to (ρ' := [(0, .bool c47)]) ⟨rfl, trivial⟩ ?_
  cases h
  refine S.b2 ?_
  refine S.closeR ?_
  refine S.b3 ?_
  refine S.closeR ?_
  refine S.drop ?_
  refine S.drop ?_
  refine S.drop ?_
  refine S.drop ?_
  exact S.ret1 Try.func5 rfl rfl (fun w hs hk => hR w _ _ ⟨rfl, rfl⟩ hs hk)
end Go.Proofs
namespace Go.Proofs
open Go.Sl Go.RowKit
/-! 13 padstone/padstoneref10.Same -/
def ref10_Same.l1 (a0 : List Int) (a1 : List Int) : Nat → Int → Option (Brk Bool Unit)
  | 0, _ => none
  | k + 1, x5_1 => bif decide (x5_1 < (a0.length : Int)) then ((at_ a0 x5_1).bind fun x3 => (at_ a1 x5_1).bind fun x5 => bif x3 != x5 then (some (Brk.ret false)) else (ref10_Same.l1 a0 a1 k (w64 (x5_1 + 1)))) else (some (Brk.nx ()))
def ref10_Same.f (k : Nat) (a0 : List Int) (a1 : List Int) : Option (Bool) :=
  bif (a0.length : Int) != (a1.length : Int) then (some false) else ((ref10_Same.l1 a0 a1 k 0).bind fun o1 => Brk.go o1 (fun r => some r) (fun _ => some true))
set_option maxHeartbeats 8000000 in
set_option maxRecDepth 100000 in
theorem ref10_Same.ct (k : Nat) (v0 : Value) (v1 : Value) (a0 : List Int) (a1 : List Int) (r0 : Bool) (h : ref10_Same.f k a0 a1 = some r0) :
    Ct Try.prog 13 [v0, v1] (fun F => Rd (ekI .u64) v0 a0 F ∧ Rd (ekI .u64) v1 a1 F) [] (fun u H' => u = .bool r0 ∧ H' = []) := by
  unfold ref10_Same.f at h
  refine Ct.intro (n := 26) Try.func13 rfl rfl rfl ?_
  intro R w0 F hF hR
  obtain ⟨hF0, hF1⟩ := hF
  refine S.seq ?_
  refine S.region ?_
  refine SO.v rfl (opv_assign rfl) ?_
  refine SO.nil ?_
  refine S.seq ?_
  refine S.seq ?_
  refine S.region ?_
  refine SO.v rfl (opv_move rfl) ?_
  refine SO.v rfl (opv_lenR rfl Try.underlying26 hF0 rfl) ?_
  refine SO.v rfl (opv_move rfl) ?_
  refine SO.v rfl (opv_lenR rfl Try.underlying26 hF1 rfl) ?_
  refine SO.v rfl (opv_neq rfl rfl) ?_
  refine SO.nil ?_
  rcases bool_or ((a0.length : Int) != (a1.length : Int)) with b1 | b1
  · replace h := cond_t b1 h
    refine S.condT rfl b1 ?_
    refine S.seq ?_
    refine S.region ?_
    refine SO.v rfl (opv_assign rfl) ?_
    refine SO.nil ?_
    cases h
    exact S.ret1 Try.func13 rfl rfl (fun w hs hk => hR w _ _ ⟨rfl, rfl⟩ hs hk)
  · replace h := cond_f b1 h
    refine S.condF rfl b1 ?_
    refine S.skip ?_
    refine S.seq ?_
    refine S.seq ?_
    refine S.region ?_
    refine SO.v rfl (opv_assign rfl) ?_
    refine SO.nil ?_
    obtain ⟨o1, hl1, h⟩ := opt_bind h
    refine S.to (ρ' := [(5, .int .i64 0), (4, .bool false), (0, v0), (1, v1)]) ⟨rfl, rfl, rfl, rfl, trivial⟩ ?_
    refine S.forloop (X := Int × Unit) (O := Brk Bool Unit) (fun m x => ref10_Same.l1 a0 a1 m x.1) (fun x => match x with | (x5_1, _) => [(5, .int .i64 x5_1), (4, .bool false), (0, v0), (1, v1)]) (fun x => match x with | (x5_1, _) => [F]) (fun Sk o' => (∀ r', o' = Brk.ret r' → some r' = some r0) ∧ ∀ _ : Unit, ∀ _ : Unit, o' = Brk.nx () → Sk [(4, .bool false)] [F]) (fun _ => rfl) ?_ (m := k) (x := (0, ())) hl1 ?_
    · clear h hl1
      intro k x o_1 h hK1 ih1
      obtain ⟨x5_1, _⟩ := x
      replace h : ref10_Same.l1 a0 a1 (k + 1) x5_1 = some o_1 := h
      first | rw [ref10_Same.l1] at h | unfold ref10_Same.l1 at h
      refine S.seq ?_
      refine S.seq ?_
      refine S.region ?_
      refine SO.v rfl (opv_move rfl) ?_
      refine SO.v rfl (opv_move rfl) ?_
      refine SO.v rfl (opv_lenR rfl Try.underlying26 hF0 rfl) ?_
      refine SO.v rfl (opv_lss rfl rfl) ?_
      refine SO.nil ?_
      rcases bool_or (decide (x5_1 < (a0.length : Int))) with b2 | b2
      · replace h := cond_t b2 h
        refine S.condT rfl b2 ?_
        refine S.skip ?_
        refine S.seq ?_
        refine S.block ?_
        refine S.seq ?_
        obtain ⟨x3, hx4, h⟩ := opt_bind h
        obtain ⟨x5, hx6, h⟩ := opt_bind h
        refine S.draw' (Z := fun Q => ∀ (_ : Unit) (_ : Unit) (_ : Unit) (_ : Unit) (_ : Unit) (_ : Unit) (_ : Unit) (_ : Unit) (_ : Unit) (_ : Unit) (_ : Unit) (_ : Unit) (_ : Unit) (_ : Unit), Q [(5, .int .i64 x5_1), (14, .bool (decide (x5_1 < (a0.length : Int)))), (13, .int .i64 (a0.length : Int)), (12, v0), (11, .int .i64 x5_1), (4, .bool false), (0, v0), (1, v1), (17, v0), (18, .int .i64 x5_1), (19, idxp v0 (x5_1.toNat * (ekI .u64).sz)), (20, .int .u64 x3), (21, v1), (22, .int .i64 x5_1), (23, idxp v1 (x5_1.toNat * (ekI .u64).sz)), (24, .int .u64 x5), (25, .bool (x3 != x5))] [F]) (T := [tS 0 (v0), tS 5 (.int .i64 x5_1), tS 1 (v1), tE [(14, .bool (decide (x5_1 < (a0.length : Int)))), (13, .int .i64 (a0.length : Int)), (12, v0), (11, .int .i64 x5_1), (4, .bool false)], tR (F), tS 17 (v0), tS 18 (.int .i64 x5_1), tS 19 (idxp v0 (x5_1.toNat * (ekI .u64).sz)), tS 20 (.int .u64 x3), tS 21 (v1), tS 22 (.int .i64 x5_1), tS 23 (idxp v1 (x5_1.toNat * (ekI .u64).sz)), tS 24 (.int .u64 x5), tS 25 (.bool (x3 != x5))]) (D := [⟨[0], [], [5]⟩, ⟨[1], [], [6]⟩, ⟨[5, 6, 4], [], [7]⟩, ⟨[7, 4], [], [8]⟩, ⟨[2], [], [9]⟩, ⟨[1], [], [10]⟩, ⟨[9, 10, 4], [], [11]⟩, ⟨[11, 4], [], [12]⟩, ⟨[8, 12], [], [13]⟩]) (ini := [0, 1, 2, 3, 4]) (fin := [1, 3, 0, 2, 5, 6, 7, 8, 9, 10, 11, 12, 13, 4]) (bf := [[], [], [0, 1], [0, 1, 2], [], [], [4, 5], [4, 5, 6], [0, 1, 2, 3, 4, 5, 6, 7]]) (by kernel_rfl) (by kernel_rfl) (fun x w h1 h2 => (.cons () (.cons () (.cons () (.cons () (.cons () (.nil ⟨EnvAll.of h1 ⟨rfl, rfl, rfl, rfl, rfl, rfl, rfl, rfl, trivial⟩, h2⟩))))))) (fun Q => by kernel_rfl) ⟨?_, ?_, ?_, ?_, ?_, ?_, ?_, ?_, ?_, trivial⟩ ?_
        · rintro Fr _
          refine SO.v rfl (opv_move rfl) ?_
          exact SO.nilZ fun a w h1 h2 h3 h4 h5 => PZ.of h1 h3 h5 (.cons () (.cons () (.nil ⟨EnvAll.of h2 ⟨rfl, rfl, trivial⟩, h4⟩)))
        · rintro Fr _
          refine SO.v rfl (opv_move rfl) ?_
          exact SO.nilZ fun a w h1 h2 h3 h4 h5 => PZ.of h1 h3 h5 (.cons () (.cons () (.nil ⟨EnvAll.of h2 ⟨rfl, rfl, trivial⟩, h4⟩)))
        · rintro Fr _ _ _
          refine SO.v rfl (opv_idx Try.underlying26 Try.sizeOf58 hF0 rfl rfl hx4) ?_
          exact SO.nilZ fun a w h1 h2 h3 h4 h5 => PZ.of h1 h3 h5 (.cons () (.cons () (.cons () (.cons () (.nil ⟨EnvAll.of h2 ⟨rfl, rfl, rfl, trivial⟩, h4⟩)))))
        · rintro Fr _ _
          refine SO.loadI1 (j := 0) rfl Try.isAgg58 (Rd.head hF0) hx4 rfl rfl rfl rfl ?_
          exact SO.nilZ fun a w h1 h2 h3 h4 h5 => PZ.of h1 h3 h5 (.cons () (.cons () (.cons () (.nil ⟨EnvAll.of h2 ⟨rfl, rfl, trivial⟩, h4⟩))))
        · rintro Fr _
          refine SO.v rfl (opv_move rfl) ?_
          exact SO.nilZ fun a w h1 h2 h3 h4 h5 => PZ.of h1 h3 h5 (.cons () (.cons () (.nil ⟨EnvAll.of h2 ⟨rfl, rfl, trivial⟩, h4⟩)))
        · rintro Fr _
          refine SO.v rfl (opv_move rfl) ?_
          exact SO.nilZ fun a w h1 h2 h3 h4 h5 => PZ.of h1 h3 h5 (.cons () (.cons () (.nil ⟨EnvAll.of h2 ⟨rfl, rfl, trivial⟩, h4⟩)))
        · rintro Fr _ _ _
          refine SO.v rfl (opv_idx Try.underlying26 Try.sizeOf58 hF1 rfl rfl hx6) ?_
          exact SO.nilZ fun a w h1 h2 h3 h4 h5 => PZ.of h1 h3 h5 (.cons () (.cons () (.cons () (.cons () (.nil ⟨EnvAll.of h2 ⟨rfl, rfl, rfl, trivial⟩, h4⟩)))))
        · rintro Fr _ _
          refine SO.loadI1 (j := 0) rfl Try.isAgg58 (Rd.head hF1) hx6 rfl rfl rfl rfl ?_
          exact SO.nilZ fun a w h1 h2 h3 h4 h5 => PZ.of h1 h3 h5 (.cons () (.cons () (.cons () (.nil ⟨EnvAll.of h2 ⟨rfl, rfl, trivial⟩, h4⟩))))
        · rintro Fr _ _
          refine SO.v rfl (opv_neq rfl rfl) ?_
          exact SO.nilZ fun a w h1 h2 h3 h4 h5 => PZ.of h1 h3 h5 (.cons () (.cons () (.cons () (.nil ⟨EnvAll.of h2 ⟨rfl, rfl, rfl, trivial⟩, h4⟩))))
        rintro _ _ _ _ _ _ _ _ _ _ _ _ _ _
        refine S.to (ρ' := [(5, .int .i64 x5_1), (14, .bool (decide (x5_1 < (a0.length : Int)))), (13, .int .i64 (a0.length : Int)), (12, v0), (11, .int .i64 x5_1), (4, .bool false), (0, v0), (1, v1), (17, v0), (18, .int .i64 x5_1), (19, idxp v0 (x5_1.toNat * (ekI .u64).sz)), (20, .int .u64 x3), (21, v1), (22, .int .i64 x5_1), (23, idxp v1 (x5_1.toNat * (ekI .u64).sz)), (24, .int .u64 x5), (25, .bool (x3 != x5))]) ⟨rfl, rfl, rfl, rfl, rfl, rfl, rfl, rfl, rfl, rfl, rfl, rfl, rfl, rfl, rfl, rfl, rfl, trivial⟩ ?_
        rcases bool_or (x3 != x5) with b7 | b7
        · replace h := cond_t b7 h
          refine S.condT rfl b7 ?_
          refine S.seq ?_
          refine S.region ?_
          refine SO.v rfl (opv_assign rfl) ?_
          refine SO.nil ?_
          cases h
          replace h := hK1.1 _ rfl
          cases h
          exact S.ret1 Try.func13 rfl rfl (fun w hs hk => hR w _ _ ⟨rfl, rfl⟩ hs hk)
        · replace h := cond_f b7 h
          refine S.condF rfl b7 ?_
          refine S.skip ?_
          refine S.inBlock ?_
          refine S.region ?_
          refine SO.v rfl (opv_move rfl) ?_
          refine SO.v rfl (opv_add rfl rfl) ?_
          refine SO.v rfl (opv_assign rfl) ?_
          refine SO.nil ?_
          refine S.to ?_ (ih1 (w64 (x5_1 + 1), ()) h)
          exact ⟨rfl, rfl, rfl, rfl, trivial⟩
      · replace h := cond_f b2 h
        refine S.condF rfl b2 ?_
        refine S.exit rfl ?_
        cases h
        refine S.to ?_ (hK1.2 () () rfl)
        exact ⟨rfl, trivial⟩
    refine ⟨fun r' e' => ?_, ?_⟩
    · subst e'
      have h9 := Brk.of_ret h
      exact h9
    rintro _ _ e'
    subst e'
    replace h := Brk.of_nx h
    refine S.seq ?_
    refine S.region ?_
    refine SO.v rfl (opv_assign rfl) ?_
    refine SO.nil ?_
    cases h
    exact S.ret1 Try.func13 rfl rfl (fun w hs hk => hR w _ _ ⟨rfl, rfl⟩ hs hk)
end Go.Proofs
namespace Go.Proofs
open Go.Sl Go.RowKit
/-! 24 (*padstone/padstoneref10.State).is -/
def ref10_State_is.f (a0 : ref10_State) (a1 : Int) (a2 : Int) : Option (Bool) :=
  bif (decide (a1 < 0)) || (decide (31 < a1)) then (some false) else ((at_ a0.Objs a1).bind fun x7 => some (x7.Kind == a2))
set_option maxHeartbeats 8000000 in
set_option maxRecDepth 100000 in
theorem ref10_State_is.ct (bp0 : Nat) (v0_Slots : Value) (v0_Objs : Value) (raws_v0_Slots : List (Raw (kr_ref10_Slot).sz)) (A_v0_Slots : HProp) (raws_v0_Objs : List (Raw (kr_ref10_Obj).sz)) (A_v0_Objs : HProp) (a0 : ref10_State) (a1 : Int) (a2 : Int) (r0 : Bool) (h : ref10_State_is.f a0 a1 a2 = some r0) :
    Ct Try.prog 24 [bp bp0 0, .int .i64 a1, .int .i64 a2] (fun _ => True) [Box bp0 [v0_Slots, v0_Objs, .int .i64 a0.NS, .int .i64 a0.NO], OwnO 57 kr_ref10_Slot v0_Slots raws_v0_Slots A_v0_Slots a0.Slots, OwnO 46 kr_ref10_Obj v0_Objs raws_v0_Objs A_v0_Objs a0.Objs] (fun u H' => u = .bool r0 ∧ H' = [Box bp0 [v0_Slots, v0_Objs, .int .i64 a0.NS, .int .i64 a0.NO], OwnO 57 kr_ref10_Slot v0_Slots raws_v0_Slots A_v0_Slots a0.Slots, OwnO 46 kr_ref10_Obj v0_Objs raws_v0_Objs A_v0_Objs a0.Objs]) := by
  unfold ref10_State_is.f at h
  refine Ct.intro (n := 23) Try.func24 rfl rfl rfl ?_
  intro R w0 F hF hR
  refine S.b1 ?_
  refine S.rdO fun hrel1 hR2 => ?_
  refine S.b2 ?_
  refine S.rdO fun hrel3 hR4 => ?_
  refine S.seq ?_
  refine S.region ?_
  refine SO.v rfl (opv_assign rfl) ?_
  refine SO.nil ?_
  refine S.seq ?_
  refine S.seq ?_
  refine S.region ?_
  refine SO.v rfl (opv_move rfl) ?_
  refine SO.v rfl (opv_lss rfl rfl) ?_
  refine SO.v rfl (opv_move rfl) ?_
  refine SO.cut 3 12 (.bool ((decide (a1 < 0)) || (decide (31 < a1)))) [OwnO 46 kr_ref10_Obj v0_Objs raws_v0_Objs A_v0_Objs a0.Objs, OwnO 57 kr_ref10_Slot v0_Slots raws_v0_Slots A_v0_Slots a0.Slots, Box bp0 [v0_Slots, v0_Objs, .int .i64 a0.NS, .int .i64 a0.NO], F] (fun l2 hk2 => ?_) ?_
  · rcases bool_or (decide (a1 < 0)) with b5 | b5
    · refine SO.passF rfl rfl rfl b5 rfl rfl ?_
      refine SO.passF rfl rfl rfl b5 rfl rfl ?_
      refine SO.v rfl (opv_pick_t' b5 rfl rfl) ?_
      refine SO.b3 ?_
      refine SO.b3 ?_
      refine SO.b3 ?_
      refine SO.b3 ?_
      exact hk2.fitc (m := 3) rfl (or_t b5) rfl
    · refine SO.takeT rfl rfl rfl b5 ?_
      refine SO.v rfl (opv_move rfl) ?_
      refine SO.takeT rfl rfl rfl b5 ?_
      refine SO.v rfl (opv_gtr rfl rfl) ?_
      refine SO.v rfl (opv_pick_f' b5 rfl rfl) ?_
      refine SO.b3 ?_
      refine SO.b3 ?_
      refine SO.b3 ?_
      refine SO.b3 ?_
      exact hk2.fitc (m := 3) rfl (or_f b5) rfl
  refine SO.nil ?_
  rcases bool_or ((decide (a1 < 0)) || (decide (31 < a1))) with b6 | b6
  · replace h := cond_t b6 h
    refine S.condT rfl b6 ?_
    refine S.seq ?_
    refine S.region ?_
    refine SO.v rfl (opv_assign rfl) ?_
    refine SO.nil ?_
    cases h
    refine S.b3 ?_
    refine S.b1 ?_
    refine S.b2 ?_
    refine S.b3 ?_
    exact S.ret1 Try.func24 rfl rfl (fun w hs hk => hR w _ _ ⟨rfl, rfl⟩ hs hk)
  · replace h := cond_f b6 h
    refine S.condF rfl b6 ?_
    refine S.skip ?_
    refine S.seq ?_
    refine S.region ?_
    refine SO.v rfl (opv_move rfl) ?_
    refine SO.v rfl (opv_nilCheck rfl) ?_
    refine SO.v rfl (opv_fieldAddr Try.underlying50 rfl Try.sizeOf48 rfl rfl) ?_
    refine SO.b2 ?_
    refine SO.load1 rfl Try.isAgg48 rfl rfl ?_
    refine SO.v rfl (opv_move rfl) ?_
    obtain ⟨x7, hx8, h⟩ := opt_bind h
    obtain ⟨r9, hr10, hc11⟩ := relR.at hrel3 hx8
    refine SO.v rfl (opv_idx Try.underlying48 Try.sizeOf46 hR4 rfl rfl hr10) ?_
    refine SO.v rfl (opv_fieldIdx Try.underlying46 rfl Try.sizeOf3 hR4 hr10 rfl rfl) ?_
    refine SO.loadI1 (j := 0) rfl Try.isAgg3 (Rd.tail (Rd.head hR4)) hr10 rfl rfl rfl (hc11.val rfl) ?_
    refine SO.v rfl (opv_move rfl) ?_
    refine SO.v rfl (opv_eql rfl rfl) ?_
    refine SO.v rfl (opv_assign rfl) ?_
    refine SO.nil ?_
    refine S.to (ρ' := [(6, .bool (x7.Kind == a2))]) ⟨rfl, trivial⟩ ?_
    cases h
    refine S.b3 ?_
    refine S.b2 ?_
    refine S.b3 ?_
    refine S.b3 ?_
    exact S.ret1 Try.func24 rfl rfl (fun w hs hk => hR w _ _ ⟨rfl, rfl⟩ hs hk)
end Go.Proofs
namespace Go.Proofs
open Go.Sl Go.RowKit
/-! 11 (*padstone/padstoneref10.State).Map -/
def ref10_State_Map.f (a0 : ref10_State) (a1 : Int) (a2 : Int) (a3 : Int) (a4 : Int) : Option ((Int × ref10_State)) :=
  (ref10_State_is.f a0 a1 6).bind fun t9 => (ref10_State_is.f a0 a2 7).bind fun t11 => bif (!t9) || (!t11) then (some (2, a0)) else (bif (((decide (a3 < 0)) || (decide (3 < a3))) || (decide (a4 < 0))) || (decide (7 < a4)) then (some (1, a0)) else ((at_ a0.Objs a1).bind fun x19 => bif decide (0 ≤ x19.In) then (some (10, a0)) else ((at_ a0.Objs a2).bind fun x25 => (A4.get x25.Pages a3).bind fun x30 => bif decide (0 ≤ x30) then (some (8, a0)) else ((at_ a0.Objs a2).bind fun x33 => (A4.get x33.Pages a3).bind fun x38 => (at_ (a0.Objs.set a2.toNat ({ x33 with Pages := (A4.put x33.Pages a3 a1) } : ref10_Obj)) a2).bind fun x43 => (A4.get x43.Right a3).bind fun x48 => (at_ ((a0.Objs.set a2.toNat ({ x33 with Pages := (A4.put x33.Pages a3 a1) } : ref10_Obj)).set a2.toNat ({ x43 with Right := (A4.put x43.Right a3 a4) } : ref10_Obj)) a1).bind fun x53 => (at_ (((a0.Objs.set a2.toNat ({ x33 with Pages := (A4.put x33.Pages a3 a1) } : ref10_Obj)).set a2.toNat ({ x43 with Right := (A4.put x43.Right a3 a4) } : ref10_Obj)).set a1.toNat ({ x53 with In := a2 } : ref10_Obj)) a1).bind fun x61 => some (0, ({ a0 with Objs := (((a0.Objs.set a2.toNat ({ x33 with Pages := (A4.put x33.Pages a3 a1) } : ref10_Obj)).set a2.toNat ({ x43 with Right := (A4.put x43.Right a3 a4) } : ref10_Obj)).set a1.toNat ({ x53 with In := a2 } : ref10_Obj)).set a1.toNat ({ x61 with Page := a3 } : ref10_Obj) } : ref10_State))))))
set_option maxHeartbeats 8000000 in
set_option maxRecDepth 100000 in
theorem ref10_State_Map.ct (bp0 : Nat) (v0_Slots : Value) (v0_Objs : Value) (a0 : ref10_State) (a1 : Int) (a2 : Int) (a3 : Int) (a4 : Int) (r0 : Int) (rp0 : ref10_State) (h : ref10_State_Map.f a0 a1 a2 a3 a4 = some (r0, rp0)) :
    Ct Try.prog 11 [bp bp0 0, .int .i64 a1, .int .i64 a2, .int .i64 a3, .int .i64 a4] (fun _ => True) [Box bp0 [v0_Slots, v0_Objs, .int .i64 a0.NS, .int .i64 a0.NO], OwnR 57 kr_ref10_Slot v0_Slots a0.Slots, OwnR 46 kr_ref10_Obj v0_Objs a0.Objs] (fun u H' => ∃ rw0_Slots rw0_Objs, u = .int .i64 r0 ∧ H' = [Box bp0 [rw0_Slots, rw0_Objs, .int .i64 rp0.NS, .int .i64 rp0.NO], OwnR 57 kr_ref10_Slot rw0_Slots rp0.Slots, OwnR 46 kr_ref10_Obj rw0_Objs rp0.Objs]) := by
  unfold ref10_State_Map.f at h
  refine Ct.intro (n := 95) Try.func11 rfl rfl rfl ?_
  intro R w0 F hF hR
  refine S.seq ?_
  refine S.region ?_
  refine SO.v rfl (opv_assign rfl) ?_
  refine SO.nil ?_
  refine S.seq ?_
  refine S.region ?_
  refine SO.v rfl (opv_move rfl) ?_
  refine SO.v rfl (opv_move rfl) ?_
  obtain ⟨t9, ht10, h⟩ := opt_bind h
  refine SO.b1 ?_
  refine SO.openR fun raws1 A2 hrel3 hR4 => ?_
  refine SO.b2 ?_
  refine SO.openR fun raws5 A6 hrel7 hR8 => ?_
  refine SO.b1 ?_
  refine SO.b2 ?_
  refine SO.call (pre := [Box _ _, OwnO _ _ _ _ _ _, OwnO _ _ _ _ _ _]) rfl Try.call24 rfl rfl rfl (ref10_State_is.ct bp0 v0_Slots v0_Objs raws1 A2 raws5 A6 _ _ _ _ ht10) trivial ?_
  rintro _ _ ⟨rfl, rfl⟩
  refine SO.v rfl (opv_assign rfl) ?_
  refine SO.nil ?_
  refine S.seq ?_
  refine S.region ?_
  refine SO.v rfl (opv_move rfl) ?_
  refine SO.v rfl (opv_move rfl) ?_
  obtain ⟨t11, ht12, h⟩ := opt_bind h
  refine SO.b2 ?_
  refine SO.b2 ?_
  refine SO.b2 ?_
  refine SO.call (pre := [Box _ _, OwnO _ _ _ _ _ _, OwnO _ _ _ _ _ _]) rfl Try.call24 rfl rfl rfl (ref10_State_is.ct bp0 v0_Slots v0_Objs raws1 A2 raws5 A6 _ _ _ _ ht12) trivial ?_
  rintro _ _ ⟨rfl, rfl⟩
  refine SO.v rfl (opv_assign rfl) ?_
  refine SO.nil ?_
  refine S.seq ?_
  refine S.seq ?_
  refine S.region ?_
  refine SO.v rfl (opv_move rfl) ?_
  refine SO.v rfl (opv_not rfl) ?_
  refine SO.v rfl (opv_move rfl) ?_
  refine SO.cut 3 24 (.bool ((!t9) || (!t11))) [Box bp0 [v0_Slots, v0_Objs, .int .i64 a0.NS, .int .i64 a0.NO], OwnO 57 kr_ref10_Slot v0_Slots raws1 A2 a0.Slots, OwnO 46 kr_ref10_Obj v0_Objs raws5 A6 a0.Objs, F] (fun l2 hk2 => ?_) ?_
  · rcases bool_or (!t9) with b13 | b13
    · refine SO.passF rfl rfl rfl b13 rfl rfl ?_
      refine SO.passF rfl rfl rfl b13 rfl rfl ?_
      refine SO.v rfl (opv_pick_t' b13 rfl rfl) ?_
      refine SO.b3 ?_
      refine SO.b3 ?_
      refine SO.b3 ?_
      refine SO.b3 ?_
      exact hk2.fitc (m := 3) rfl (or_t b13) rfl
    · refine SO.takeT rfl rfl rfl b13 ?_
      refine SO.v rfl (opv_move rfl) ?_
      refine SO.takeT rfl rfl rfl b13 ?_
      refine SO.v rfl (opv_not rfl) ?_
      refine SO.v rfl (opv_pick_f' b13 rfl rfl) ?_
      refine SO.b3 ?_
      refine SO.b3 ?_
      refine SO.b3 ?_
      refine SO.b3 ?_
      exact hk2.fitc (m := 3) rfl (or_f b13) rfl
  refine SO.nil ?_
  refine S.to (ρ' := [(0, bp bp0 0), (1, .int .i64 a1), (2, .int .i64 a2), (3, .int .i64 a3), (4, .int .i64 a4), (10, .int .i64 0), (24, .bool ((!t9) || (!t11)))]) ⟨rfl, rfl, rfl, rfl, rfl, rfl, rfl, trivial⟩ ?_
  rcases bool_or ((!t9) || (!t11)) with b14 | b14
  · replace h := cond_t b14 h
    refine S.condT rfl b14 ?_
    refine S.seq ?_
    refine S.region ?_
    refine SO.v rfl (opv_assign rfl) ?_
    refine SO.nil ?_
    cases h
    refine S.b1 ?_
    refine S.closeR ?_
    refine S.b2 ?_
    refine S.closeR ?_
    refine S.b3 ?_
    refine S.b1 ?_
    refine S.b2 ?_
    refine S.b3 ?_
    exact S.ret1 Try.func11 rfl rfl (fun w hs hk => hR w _ _ ⟨v0_Slots, v0_Objs, rfl, rfl⟩ hs hk)
  · replace h := cond_f b14 h
    refine S.condF rfl b14 ?_
    refine S.skip ?_
    refine S.seq ?_
    refine S.seq ?_
    refine S.region ?_
    refine SO.v rfl (opv_move rfl) ?_
    refine SO.v rfl (opv_lss rfl rfl) ?_
    refine SO.v rfl (opv_move rfl) ?_
    refine SO.cut 3 30 (.bool ((decide (a3 < 0)) || (decide (3 < a3)))) [Box bp0 [v0_Slots, v0_Objs, .int .i64 a0.NS, .int .i64 a0.NO], OwnO 57 kr_ref10_Slot v0_Slots raws1 A2 a0.Slots, OwnO 46 kr_ref10_Obj v0_Objs raws5 A6 a0.Objs, F] (fun l2 hk2 => ?_) ?_
    · rcases bool_or (decide (a3 < 0)) with b15 | b15
      · refine SO.passF rfl rfl rfl b15 rfl rfl ?_
        refine SO.passF rfl rfl rfl b15 rfl rfl ?_
        refine SO.v rfl (opv_pick_t' b15 rfl rfl) ?_
        refine SO.b3 ?_
        refine SO.b3 ?_
        refine SO.b3 ?_
        refine SO.b3 ?_
        exact hk2.fitc (m := 3) rfl (or_t b15) rfl
      · refine SO.takeT rfl rfl rfl b15 ?_
        refine SO.v rfl (opv_move rfl) ?_
        refine SO.takeT rfl rfl rfl b15 ?_
        refine SO.v rfl (opv_gtr rfl rfl) ?_
        refine SO.v rfl (opv_pick_f' b15 rfl rfl) ?_
        refine SO.b3 ?_
        refine SO.b3 ?_
        refine SO.b3 ?_
        refine SO.b3 ?_
        exact hk2.fitc (m := 3) rfl (or_f b15) rfl
    refine SO.v rfl (opv_move rfl) ?_
    refine SO.cut 3 34 (.bool (((decide (a3 < 0)) || (decide (3 < a3))) || (decide (a4 < 0)))) [Box bp0 [v0_Slots, v0_Objs, .int .i64 a0.NS, .int .i64 a0.NO], OwnO 57 kr_ref10_Slot v0_Slots raws1 A2 a0.Slots, OwnO 46 kr_ref10_Obj v0_Objs raws5 A6 a0.Objs, F] (fun l2 hk2 => ?_) ?_
    · rcases bool_or ((decide (a3 < 0)) || (decide (3 < a3))) with b16 | b16
      · refine SO.passF rfl rfl rfl b16 rfl rfl ?_
        refine SO.passF rfl rfl rfl b16 rfl rfl ?_
        refine SO.v rfl (opv_pick_t' b16 rfl rfl) ?_
        refine SO.b3 ?_
        refine SO.b3 ?_
        refine SO.b3 ?_
        refine SO.b3 ?_
        exact hk2.fitc (m := 3) rfl (or_t b16) rfl
      · refine SO.takeT rfl rfl rfl b16 ?_
        refine SO.v rfl (opv_move rfl) ?_
        refine SO.takeT rfl rfl rfl b16 ?_
        refine SO.v rfl (opv_lss rfl rfl) ?_
        refine SO.v rfl (opv_pick_f' b16 rfl rfl) ?_
        refine SO.b3 ?_
        refine SO.b3 ?_
        refine SO.b3 ?_
        refine SO.b3 ?_
        exact hk2.fitc (m := 3) rfl (or_f b16) rfl
    refine SO.v rfl (opv_move rfl) ?_
    refine SO.cut 3 38 (.bool ((((decide (a3 < 0)) || (decide (3 < a3))) || (decide (a4 < 0))) || (decide (7 < a4)))) [Box bp0 [v0_Slots, v0_Objs, .int .i64 a0.NS, .int .i64 a0.NO], OwnO 57 kr_ref10_Slot v0_Slots raws1 A2 a0.Slots, OwnO 46 kr_ref10_Obj v0_Objs raws5 A6 a0.Objs, F] (fun l2 hk2 => ?_) ?_
    · rcases bool_or (((decide (a3 < 0)) || (decide (3 < a3))) || (decide (a4 < 0))) with b17 | b17
      · refine SO.passF rfl rfl rfl b17 rfl rfl ?_
        refine SO.passF rfl rfl rfl b17 rfl rfl ?_
        refine SO.v rfl (opv_pick_t' b17 rfl rfl) ?_
        refine SO.b3 ?_
        refine SO.b3 ?_
        refine SO.b3 ?_
        refine SO.b3 ?_
        exact hk2.fitc (m := 3) rfl (or_t b17) rfl
      · refine SO.takeT rfl rfl rfl b17 ?_
        refine SO.v rfl (opv_move rfl) ?_
        refine SO.takeT rfl rfl rfl b17 ?_
        refine SO.v rfl (opv_gtr rfl rfl) ?_
        refine SO.v rfl (opv_pick_f' b17 rfl rfl) ?_
        refine SO.b3 ?_
        refine SO.b3 ?_
        refine SO.b3 ?_
        refine SO.b3 ?_
        exact hk2.fitc (m := 3) rfl (or_f b17) rfl
    refine SO.nil ?_
    refine S.to (ρ' := [(0, bp bp0 0), (1, .int .i64 a1), (2, .int .i64 a2), (3, .int .i64 a3), (4, .int .i64 a4), (10, .int .i64 0), (38, .bool ((((decide (a3 < 0)) || (decide (3 < a3))) || (decide (a4 < 0))) || (decide (7 < a4))))]) ⟨rfl, rfl, rfl, rfl, rfl, rfl, rfl, trivial⟩ ?_
    rcases bool_or ((((decide (a3 < 0)) || (decide (3 < a3))) || (decide (a4 < 0))) || (decide (7 < a4))) with b18 | b18
    · replace h := cond_t b18 h
      refine S.condT rfl b18 ?_
      refine S.seq ?_
      refine S.region ?_
      refine SO.v rfl (opv_assign rfl) ?_
      refine SO.nil ?_
      cases h
      refine S.b1 ?_
      refine S.closeR ?_
      refine S.b2 ?_
      refine S.closeR ?_
      refine S.b3 ?_
      refine S.b1 ?_
      refine S.b2 ?_
      refine S.b3 ?_
      exact S.ret1 Try.func11 rfl rfl (fun w hs hk => hR w _ _ ⟨v0_Slots, v0_Objs, rfl, rfl⟩ hs hk)
    · replace h := cond_f b18 h
      refine S.condF rfl b18 ?_
      refine S.skip ?_
      refine S.seq ?_
      refine S.seq ?_
      refine S.region ?_
      refine SO.v rfl (opv_move rfl) ?_
      refine SO.v rfl (opv_nilCheck rfl) ?_
      refine SO.v rfl (opv_fieldAddr Try.underlying50 rfl Try.sizeOf48 rfl rfl) ?_
      refine SO.load1 rfl Try.isAgg48 rfl rfl ?_
      refine SO.v rfl (opv_move rfl) ?_
      obtain ⟨x19, hx20, h⟩ := opt_bind h
      obtain ⟨r21, hr22, hc23⟩ := relR.at hrel7 hx20
      refine SO.v rfl (opv_idx Try.underlying48 Try.sizeOf46 hR8 rfl rfl hr22) ?_
      refine SO.v rfl (opv_fieldIdx Try.underlying46 rfl Try.sizeOf3 hR8 hr22 rfl rfl) ?_
      refine SO.loadI1 (j := 28) rfl Try.isAgg3 (Rd.tail (Rd.tail (Rd.head hR8))) hr22 rfl rfl rfl (hc23.val rfl) ?_
      refine SO.v rfl (opv_geq rfl rfl) ?_
      refine SO.nil ?_
      refine S.to (ρ' := [(0, bp bp0 0), (1, .int .i64 a1), (2, .int .i64 a2), (3, .int .i64 a3), (4, .int .i64 a4), (10, .int .i64 0), (47, .bool (decide (0 ≤ x19.In)))]) ⟨rfl, rfl, rfl, rfl, rfl, rfl, rfl, trivial⟩ ?_
      rcases bool_or (decide (0 ≤ x19.In)) with b24 | b24
      · replace h := cond_t b24 h
        refine S.condT rfl b24 ?_
        refine S.seq ?_
        refine S.region ?_
        refine SO.v rfl (opv_assign rfl) ?_
        refine SO.nil ?_
        cases h
        refine S.b1 ?_
        refine S.closeR ?_
        refine S.b2 ?_
        refine S.closeR ?_
        refine S.b3 ?_
        refine S.b1 ?_
        refine S.b2 ?_
        refine S.b3 ?_
        exact S.ret1 Try.func11 rfl rfl (fun w hs hk => hR w _ _ ⟨v0_Slots, v0_Objs, rfl, rfl⟩ hs hk)
      · replace h := cond_f b24 h
        refine S.condF rfl b24 ?_
        refine S.skip ?_
        refine S.seq ?_
        refine S.seq ?_
        refine S.region ?_
        refine SO.v rfl (opv_move rfl) ?_
        refine SO.v rfl (opv_nilCheck rfl) ?_
        refine SO.v rfl (opv_fieldAddr Try.underlying50 rfl Try.sizeOf48 rfl rfl) ?_
        refine SO.load1 rfl Try.isAgg48 rfl rfl ?_
        refine SO.v rfl (opv_move rfl) ?_
        refine SO.v rfl (opv_move rfl) ?_
        obtain ⟨x25, hx26, h⟩ := opt_bind h
        obtain ⟨r27, hr28, hc29⟩ := relR.at hrel7 hx26
        refine SO.v rfl (opv_idx Try.underlying48 Try.sizeOf46 hR8 rfl rfl hr28) ?_
        refine SO.v rfl (opv_fieldIdx Try.underlying46 rfl Try.sizeOf44 hR8 hr28 rfl rfl) ?_
        obtain ⟨x30, hx31, h⟩ := opt_bind h
        refine SO.v rfl (opv_idxAI Try.underlying44 Try.sizeOf3 hR8 hr28 rfl rfl hx31) ?_
        refine SO.loadI1 (j := 20 + a3.toNat) (u := .int .i64 x30) rfl Try.isAgg3 (Rd.tail (Rd.tail (Rd.head hR8))) hr28 rfl (Nat.add_assoc _ _ _).symm (by rcases A4.get_cases hx31 with ⟨h1, h2⟩ | ⟨h1, h2⟩ | ⟨h1, h2⟩ | ⟨h1, h2⟩ <;> simp only [h1, h2] <;> rfl) (hc29.val (by rcases A4.get_cases hx31 with ⟨h1, h2⟩ | ⟨h1, h2⟩ | ⟨h1, h2⟩ | ⟨h1, h2⟩ <;> simp only [h1, h2] <;> rfl)) ?_
        refine SO.v rfl (opv_geq rfl rfl) ?_
        refine SO.nil ?_
        refine S.to (ρ' := [(0, bp bp0 0), (1, .int .i64 a1), (2, .int .i64 a2), (3, .int .i64 a3), (4, .int .i64 a4), (10, .int .i64 0), (58, .bool (decide (0 ≤ x30)))]) ⟨rfl, rfl, rfl, rfl, rfl, rfl, rfl, trivial⟩ ?_
        rcases bool_or (decide (0 ≤ x30)) with b32 | b32
        · replace h := cond_t b32 h
          refine S.condT rfl b32 ?_
          refine S.seq ?_
          refine S.region ?_
          refine SO.v rfl (opv_assign rfl) ?_
          refine SO.nil ?_
          cases h
          refine S.b1 ?_
          refine S.closeR ?_
          refine S.b2 ?_
          refine S.closeR ?_
          refine S.b3 ?_
          refine S.b1 ?_
          refine S.b2 ?_
          refine S.b3 ?_
          exact S.ret1 Try.func11 rfl rfl (fun w hs hk => hR w _ _ ⟨v0_Slots, v0_Objs, rfl, rfl⟩ hs hk)
        · replace h := cond_f b32 h
          refine S.condF rfl b32 ?_
          refine S.skip ?_
          refine S.seq ?_
          refine S.region ?_
          refine SO.v rfl (opv_move rfl) ?_
          refine SO.v rfl (opv_nilCheck rfl) ?_
          refine SO.v rfl (opv_fieldAddr Try.underlying50 rfl Try.sizeOf48 rfl rfl) ?_
          refine SO.load1 rfl Try.isAgg48 rfl rfl ?_
          refine SO.v rfl (opv_move rfl) ?_
          refine SO.v rfl (opv_move rfl) ?_
          refine SO.v rfl (opv_move rfl) ?_
          obtain ⟨x33, hx34, h⟩ := opt_bind h
          obtain ⟨r35, hr36, hc37⟩ := relR.at hrel7 hx34
          refine SO.v rfl (opv_idx Try.underlying48 Try.sizeOf46 hR8 rfl rfl hr36) ?_
          refine SO.v rfl (opv_fieldIdx Try.underlying46 rfl Try.sizeOf44 hR8 hr36 rfl rfl) ?_
          obtain ⟨x38, hx39, h⟩ := opt_bind h
          refine SO.v rfl (opv_idxAI Try.underlying44 Try.sizeOf3 hR8 hr36 rfl rfl hx39) ?_
          refine SO.b2 ?_
          refine SO.storeO1 (j := 20 + a3.toNat) (q := .val (.int .i64 a1)) (z' := ({ x33 with Pages := (A4.put x33.Pages a3 a1) } : ref10_Obj)) Try.sizeOf3 hrel7 hx34 rfl rfl rfl (Nat.add_assoc _ _ _).symm (by rcases A4.get_cases hx39 with ⟨h1, h2⟩ | ⟨h1, h2⟩ | ⟨h1, h2⟩ | ⟨h1, h2⟩ <;> simp only [h1, h2] <;> rfl) (by rcases A4.get_cases hx39 with ⟨h1, h2⟩ | ⟨h1, h2⟩ | ⟨h1, h2⟩ | ⟨h1, h2⟩ <;> simp only [h1, h2] <;> rfl) rfl (fun raws40 hrel41 hR42 => ?_)
          refine SO.nil ?_
          refine S.to (ρ' := [(0, bp bp0 0), (1, .int .i64 a1), (2, .int .i64 a2), (3, .int .i64 a3), (4, .int .i64 a4), (10, .int .i64 0)]) ⟨rfl, rfl, rfl, rfl, rfl, rfl, trivial⟩ ?_
          refine S.seq ?_
          refine S.region ?_
          refine SO.v rfl (opv_move rfl) ?_
          refine SO.v rfl (opv_nilCheck rfl) ?_
          refine SO.v rfl (opv_fieldAddr Try.underlying50 rfl Try.sizeOf48 rfl rfl) ?_
          refine SO.b1 ?_
          refine SO.load1 rfl Try.isAgg48 rfl rfl ?_
          refine SO.v rfl (opv_move rfl) ?_
          refine SO.v rfl (opv_move rfl) ?_
          refine SO.v rfl (opv_move rfl) ?_
          obtain ⟨x43, hx44, h⟩ := opt_bind h
          obtain ⟨r45, hr46, hc47⟩ := relR.at hrel41 hx44
          refine SO.v rfl (opv_idx Try.underlying48 Try.sizeOf46 hR42 rfl rfl hr46) ?_
          refine SO.v rfl (opv_fieldIdx Try.underlying46 rfl Try.sizeOf44 hR42 hr46 rfl rfl) ?_
          obtain ⟨x48, hx49, h⟩ := opt_bind h
          refine SO.v rfl (opv_idxAI Try.underlying44 Try.sizeOf3 hR42 hr46 rfl rfl hx49) ?_
          refine SO.b1 ?_
          refine SO.storeO1 (j := 24 + a3.toNat) (q := .val (.int .i64 a4)) (z' := ({ x43 with Right := (A4.put x43.Right a3 a4) } : ref10_Obj)) Try.sizeOf3 hrel41 hx44 rfl rfl rfl (Nat.add_assoc _ _ _).symm (by rcases A4.get_cases hx49 with ⟨h1, h2⟩ | ⟨h1, h2⟩ | ⟨h1, h2⟩ | ⟨h1, h2⟩ <;> simp only [h1, h2] <;> rfl) (by rcases A4.get_cases hx49 with ⟨h1, h2⟩ | ⟨h1, h2⟩ | ⟨h1, h2⟩ | ⟨h1, h2⟩ <;> simp only [h1, h2] <;> rfl) rfl (fun raws50 hrel51 hR52 => ?_)
          refine SO.nil ?_
          refine S.to (ρ' := [(0, bp bp0 0), (1, .int .i64 a1), (2, .int .i64 a2), (3, .int .i64 a3), (10, .int .i64 0)]) ⟨rfl, rfl, rfl, rfl, rfl, trivial⟩ ?_
          refine S.seq ?_
          refine S.region ?_
          refine SO.v rfl (opv_move rfl) ?_
          refine SO.v rfl (opv_nilCheck rfl) ?_
          refine SO.v rfl (opv_fieldAddr Try.underlying50 rfl Try.sizeOf48 rfl rfl) ?_
          refine SO.b1 ?_
          refine SO.load1 rfl Try.isAgg48 rfl rfl ?_
          refine SO.v rfl (opv_move rfl) ?_
          refine SO.v rfl (opv_move rfl) ?_
          obtain ⟨x53, hx54, h⟩ := opt_bind h
          obtain ⟨r55, hr56, hc57⟩ := relR.at hrel51 hx54
          refine SO.v rfl (opv_idx Try.underlying48 Try.sizeOf46 hR52 rfl rfl hr56) ?_
          refine SO.v rfl (opv_fieldIdx Try.underlying46 rfl Try.sizeOf3 hR52 hr56 rfl rfl) ?_
          refine SO.b1 ?_
          refine SO.storeO1 (j := 28) (q := .val (.int .i64 a2)) (z' := ({ x53 with In := a2 } : ref10_Obj)) Try.sizeOf3 hrel51 hx54 rfl rfl rfl rfl rfl rfl rfl (fun raws58 hrel59 hR60 => ?_)
          refine SO.nil ?_
          refine S.to (ρ' := [(0, bp bp0 0), (1, .int .i64 a1), (3, .int .i64 a3), (10, .int .i64 0)]) ⟨rfl, rfl, rfl, rfl, trivial⟩ ?_
          refine S.seq ?_
          refine S.region ?_
          refine SO.v rfl (opv_move rfl) ?_
          refine SO.v rfl (opv_nilCheck rfl) ?_
          refine SO.v rfl (opv_fieldAddr Try.underlying50 rfl Try.sizeOf48 rfl rfl) ?_
          refine SO.b1 ?_
          refine SO.load1 rfl Try.isAgg48 rfl rfl ?_
          refine SO.v rfl (opv_move rfl) ?_
          refine SO.v rfl (opv_move rfl) ?_
          obtain ⟨x61, hx62, h⟩ := opt_bind h
          obtain ⟨r63, hr64, hc65⟩ := relR.at hrel59 hx62
          refine SO.v rfl (opv_idx Try.underlying48 Try.sizeOf46 hR60 rfl rfl hr64) ?_
          refine SO.v rfl (opv_fieldIdx Try.underlying46 rfl Try.sizeOf3 hR60 hr64 rfl rfl) ?_
          refine SO.b1 ?_
          refine SO.storeO1 (j := 29) (q := .val (.int .i64 a3)) (z' := ({ x61 with Page := a3 } : ref10_Obj)) Try.sizeOf3 hrel59 hx62 rfl rfl rfl rfl rfl rfl rfl (fun raws66 hrel67 hR68 => ?_)
          refine SO.nil ?_
          refine S.to (ρ' := [(10, .int .i64 0)]) ⟨rfl, trivial⟩ ?_
          refine S.seq ?_
          refine S.region ?_
          refine SO.v rfl (opv_assign rfl) ?_
          refine SO.nil ?_
          cases h
          refine S.closeR ?_
          refine S.b2 ?_
          refine S.closeR ?_
          refine S.b3 ?_
          refine S.b2 ?_
          refine S.b2 ?_
          refine S.b3 ?_
          exact S.ret1 Try.func11 rfl rfl (fun w hs hk => hR w _ _ ⟨v0_Slots, v0_Objs, rfl, rfl⟩ hs hk)
end Go.Proofs
namespace Go.Proofs
open Go.Sl Go.RowKit
/-! 9 (*padstone/padstoneref10.State).Unmap -/
def ref10_State_Unmap.f (a0 : ref10_State) (a1 : Int) : Option ((Int × ref10_State)) :=
  (ref10_State_is.f a0 a1 6).bind fun t9 => bif !t9 then (some (2, a0)) else ((at_ a0.Objs a1).bind fun x12 => bif decide (x12.In < 0) then (some (10, a0)) else ((at_ a0.Objs x12.In).bind fun x22 => (A4.get x22.Pages x12.Page).bind fun x27 => (at_ (a0.Objs.set x12.In.toNat ({ x22 with Pages := (A4.put x22.Pages x12.Page (-1)) } : ref10_Obj)) x12.In).bind fun x36 => (A4.get x36.Right x12.Page).bind fun x41 => (at_ ((a0.Objs.set x12.In.toNat ({ x22 with Pages := (A4.put x22.Pages x12.Page (-1)) } : ref10_Obj)).set x12.In.toNat ({ x36 with Right := (A4.put x36.Right x12.Page 0) } : ref10_Obj)) a1).bind fun x46 => (at_ (((a0.Objs.set x12.In.toNat ({ x22 with Pages := (A4.put x22.Pages x12.Page (-1)) } : ref10_Obj)).set x12.In.toNat ({ x36 with Right := (A4.put x36.Right x12.Page 0) } : ref10_Obj)).set a1.toNat ({ x46 with In := -1 } : ref10_Obj)) a1).bind fun x58 => some (0, ({ a0 with Objs := (((a0.Objs.set x12.In.toNat ({ x22 with Pages := (A4.put x22.Pages x12.Page (-1)) } : ref10_Obj)).set x12.In.toNat ({ x36 with Right := (A4.put x36.Right x12.Page 0) } : ref10_Obj)).set a1.toNat ({ x46 with In := -1 } : ref10_Obj)).set a1.toNat ({ x58 with Page := 0 } : ref10_Obj) } : ref10_State))))
set_option maxHeartbeats 8000000 in
set_option maxRecDepth 100000 in
theorem ref10_State_Unmap.ct (bp0 : Nat) (v0_Slots : Value) (v0_Objs : Value) (a0 : ref10_State) (a1 : Int) (r0 : Int) (rp0 : ref10_State) (h : ref10_State_Unmap.f a0 a1 = some (r0, rp0)) :
    Ct Try.prog 9 [bp bp0 0, .int .i64 a1] (fun _ => True) [Box bp0 [v0_Slots, v0_Objs, .int .i64 a0.NS, .int .i64 a0.NO], OwnR 57 kr_ref10_Slot v0_Slots a0.Slots, OwnR 46 kr_ref10_Obj v0_Objs a0.Objs] (fun u H' => ∃ rw0_Slots rw0_Objs, u = .int .i64 r0 ∧ H' = [Box bp0 [rw0_Slots, rw0_Objs, .int .i64 rp0.NS, .int .i64 rp0.NO], OwnR 57 kr_ref10_Slot rw0_Slots rp0.Slots, OwnR 46 kr_ref10_Obj rw0_Objs rp0.Objs]) := by
  unfold ref10_State_Unmap.f at h
  refine Ct.intro (n := 58) Try.func9 rfl rfl rfl ?_
  intro R w0 F hF hR
  refine S.seq ?_
  refine S.region ?_
  refine SO.v rfl (opv_assign rfl) ?_
  refine SO.nil ?_
  refine S.seq ?_
  refine S.region ?_
  refine SO.v rfl (opv_move rfl) ?_
  refine SO.v rfl (opv_move rfl) ?_
  obtain ⟨t9, ht10, h⟩ := opt_bind h
  refine SO.b1 ?_
  refine SO.openR fun raws1 A2 hrel3 hR4 => ?_
  refine SO.b2 ?_
  refine SO.openR fun raws5 A6 hrel7 hR8 => ?_
  refine SO.b1 ?_
  refine SO.b2 ?_
  refine SO.call (pre := [Box _ _, OwnO _ _ _ _ _ _, OwnO _ _ _ _ _ _]) rfl Try.call24 rfl rfl rfl (ref10_State_is.ct bp0 v0_Slots v0_Objs raws1 A2 raws5 A6 _ _ _ _ ht10) trivial ?_
  rintro _ _ ⟨rfl, rfl⟩
  refine SO.v rfl (opv_assign rfl) ?_
  refine SO.nil ?_
  refine S.seq ?_
  refine S.seq ?_
  refine S.region ?_
  refine SO.v rfl (opv_move rfl) ?_
  refine SO.v rfl (opv_not rfl) ?_
  refine SO.nil ?_
  rcases bool_or (!t9) with b11 | b11
  · replace h := cond_t b11 h
    refine S.condT rfl b11 ?_
    refine S.seq ?_
    refine S.region ?_
    refine SO.v rfl (opv_assign rfl) ?_
    refine SO.nil ?_
    cases h
    refine S.b1 ?_
    refine S.closeR ?_
    refine S.b2 ?_
    refine S.closeR ?_
    refine S.b3 ?_
    refine S.b1 ?_
    refine S.b2 ?_
    refine S.b3 ?_
    exact S.ret1 Try.func9 rfl rfl (fun w hs hk => hR w _ _ ⟨v0_Slots, v0_Objs, rfl, rfl⟩ hs hk)
  · replace h := cond_f b11 h
    refine S.condF rfl b11 ?_
    refine S.skip ?_
    refine S.seq ?_
    refine S.region ?_
    refine SO.v rfl (opv_move rfl) ?_
    refine SO.v rfl (opv_nilCheck rfl) ?_
    refine SO.v rfl (opv_fieldAddr Try.underlying50 rfl Try.sizeOf48 rfl rfl) ?_
    refine SO.load1 rfl Try.isAgg48 rfl rfl ?_
    refine SO.v rfl (opv_move rfl) ?_
    obtain ⟨x12, hx13, h⟩ := opt_bind h
    obtain ⟨r14, hr15, hc16⟩ := relR.at hrel7 hx13
    refine SO.v rfl (opv_idx Try.underlying48 Try.sizeOf46 hR8 rfl rfl hr15) ?_
    refine hc16.rip fun u17 hru18 e19 => ?_
    refine SO.loadIN rfl Try.isAgg46 Try.sizeOf46 (Rd.tail (Rd.tail (Rd.head hR8))) hr15 rfl rfl e19 ?_
    refine SO.alloc rfl Try.zeroValue46 rfl (fun b20 => ?_)
    refine SO.storeN Try.sizeOf46 rfl rfl (all1 rfl (all1 rfl (all1 rfl (all1 rfl (all1 rfl (all1 rfl (all1 (Rd.one hru18) (all1 rfl (all1 rfl (all1 rfl (all1 rfl (all1 rfl (all1 rfl (all1 rfl (all1 rfl (all1 rfl (all1 rfl (all1 rfl (all1 rfl (all1 rfl (all1 rfl (all1 rfl (all1 rfl (all1 rfl (all1 rfl (all1 rfl (all1 rfl (all1 rfl (all1 rfl (all1 rfl (all1 rfl (all1 rfl rfl)))))))))))))))))))))))))))))))) rfl rfl rfl ?_
    refine SO.nil ?_
    refine S.to (ρ' := [(0, bp bp0 0), (1, .int .i64 a1), (4, .int .i64 0), (6, bp b20 0)]) ⟨rfl, rfl, rfl, rfl, trivial⟩ ?_
    refine S.seq ?_
    refine S.seq ?_
    refine S.region ?_
    refine SO.v rfl (opv_fieldAddr Try.underlying46 rfl Try.sizeOf3 rfl rfl) ?_
    refine SO.load1 rfl Try.isAgg3 rfl rfl ?_
    refine SO.v rfl (opv_lss rfl rfl) ?_
    refine SO.nil ?_
    rcases bool_or (decide (x12.In < 0)) with b21 | b21
    · replace h := cond_t b21 h
      refine S.condT rfl b21 ?_
      refine S.seq ?_
      refine S.region ?_
      refine SO.v rfl (opv_assign rfl) ?_
      refine SO.nil ?_
      cases h
      refine S.b2 ?_
      refine S.closeR ?_
      refine S.b3 ?_
      refine S.closeR ?_
      refine S.b2 ?_
      refine S.drop ?_
      refine S.b3 ?_
      refine S.b1 ?_
      refine S.b2 ?_
      refine S.b3 ?_
      exact S.ret1 Try.func9 rfl rfl (fun w hs hk => hR w _ _ ⟨v0_Slots, v0_Objs, rfl, rfl⟩ hs hk)
    · replace h := cond_f b21 h
      refine S.condF rfl b21 ?_
      refine S.skip ?_
      refine S.seq ?_
      obtain ⟨x22, hx23, h⟩ := opt_bind h
      obtain ⟨r24, hr25, hc26⟩ := relR.at hrel7 hx23
      obtain ⟨x27, hx28, h⟩ := opt_bind h
      refine S.draw' (Z := fun Q => ∀ (_ : Unit) (_ : Unit) (_ : Unit) (_ : Unit) (_ : Unit) (_ : Unit) (_ : Unit) (_ : Unit), Q [(0, bp bp0 0), (1, .int .i64 a1), (4, .int .i64 0), (6, bp b20 0)] [Box b20 [.int .i64 x12.Kind, .int .i64 x12.Size, .int .i64 x12.Used, .int .i64 x12.First, .int .i64 x12.Radix, .int .i64 x12.Wait, u17, .int .i64 x12.Word, .int .i64 x12.State, .int .i64 x12.Owing, .int .i64 x12.Badge, .int .i64 x12.Prio, .int .i64 x12.On, .int .i64 x12.Owes, .int .i64 x12.Root.Kind, .int .i64 x12.Root.Rights, .int .i64 x12.Root.Obj, .int .i64 x12.Root.Badge, .int .i64 x12.Root.Guard, .int .i64 x12.Root.Bits, .int .i64 x12.Pages.a0, .int .i64 x12.Pages.a1, .int .i64 x12.Pages.a2, .int .i64 x12.Pages.a3, .int .i64 x12.Right.a0, .int .i64 x12.Right.a1, .int .i64 x12.Right.a2, .int .i64 x12.Right.a3, .int .i64 x12.In, .int .i64 x12.Page, .int .i64 x12.Bound, .int .i64 x12.Mask], Box bp0 [v0_Slots, v0_Objs, .int .i64 a0.NS, .int .i64 a0.NO], OwnO 57 kr_ref10_Slot v0_Slots raws1 A2 a0.Slots, OwnR 46 kr_ref10_Obj v0_Objs (a0.Objs.set x12.In.toNat ({ x22 with Pages := (A4.put x22.Pages x12.Page (-1)) } : ref10_Obj)), F]) (T := [tS 0 (bp bp0 0), tS 6 (bp b20 0), tE [(1, .int .i64 a1), (4, .int .i64 0)], tR (Box b20 [.int .i64 x12.Kind, .int .i64 x12.Size, .int .i64 x12.Used, .int .i64 x12.First, .int .i64 x12.Radix, .int .i64 x12.Wait, u17, .int .i64 x12.Word, .int .i64 x12.State, .int .i64 x12.Owing, .int .i64 x12.Badge, .int .i64 x12.Prio, .int .i64 x12.On, .int .i64 x12.Owes, .int .i64 x12.Root.Kind, .int .i64 x12.Root.Rights, .int .i64 x12.Root.Obj, .int .i64 x12.Root.Badge, .int .i64 x12.Root.Guard, .int .i64 x12.Root.Bits, .int .i64 x12.Pages.a0, .int .i64 x12.Pages.a1, .int .i64 x12.Pages.a2, .int .i64 x12.Pages.a3, .int .i64 x12.Right.a0, .int .i64 x12.Right.a1, .int .i64 x12.Right.a2, .int .i64 x12.Right.a3, .int .i64 x12.In, .int .i64 x12.Page, .int .i64 x12.Bound, .int .i64 x12.Mask]), tR (Box bp0 [v0_Slots, v0_Objs, .int .i64 a0.NS, .int .i64 a0.NO]), tR (OwnO 57 kr_ref10_Slot v0_Slots raws1 A2 a0.Slots), tR (OwnO 46 kr_ref10_Obj v0_Objs raws5 A6 a0.Objs), tR (F), tS 22 (bp bp0 0), tS 23 (bp bp0 0), tS 24 (bp bp0 1), tS 25 (v0_Objs), tS 26 (bp b20 28), tS 27 (.int .i64 x12.In), tS 28 (bp b20 29), tS 29 (.int .i64 x12.Page), tS 30 (idxp v0_Objs (x12.In.toNat * kr_ref10_Obj.sz)), tS 31 (idxp v0_Objs (x12.In.toNat * kr_ref10_Obj.sz + 20)), tS 32 (idxp v0_Objs (x12.In.toNat * kr_ref10_Obj.sz + 20 + x12.Page.toNat)), tR (OwnR 46 kr_ref10_Obj v0_Objs (a0.Objs.set x12.In.toNat ({ x22 with Pages := (A4.put x22.Pages x12.Page (-1)) } : ref10_Obj)))]) (D := [⟨[0], [], [8]⟩, ⟨[8], [], [9]⟩, ⟨[9], [], [10]⟩, ⟨[10, 4], [], [11]⟩, ⟨[1], [], [12]⟩, ⟨[12, 3], [], [13]⟩, ⟨[1], [], [14]⟩, ⟨[14, 3], [], [15]⟩, ⟨[11, 13, 6], [], [16]⟩, ⟨[16, 6], [], [17]⟩, ⟨[15, 17, 6], [], [18]⟩, ⟨[18], [6], [19]⟩]) (ini := [0, 1, 2, 3, 4, 5, 6, 7]) (fin := [0, 2, 1, 3, 4, 5, 19, 7]) (bf := [[], [0], [0, 1], [0, 1, 2], [], [4], [], [6], [0, 1, 2, 3, 4, 5], [0, 1, 2, 3, 4, 5, 8], [0, 1, 2, 3, 4, 5, 6, 7, 8, 9], [0, 1, 2, 3, 4, 5, 6, 7, 8, 9, 10]]) (by kernel_rfl) (by kernel_rfl) (fun x w h1 h2 => (.cons () (.cons () (.cons () (.cons () (.cons () (.cons () (.cons () (.cons () (.nil ⟨EnvAll.of h1 ⟨rfl, rfl, rfl, rfl, trivial⟩, h2⟩)))))))))) (fun Q => by kernel_rfl) ⟨?_, ?_, ?_, ?_, ?_, ?_, ?_, ?_, ?_, ?_, ?_, ?_, trivial⟩ ?_
      · rintro Fr _
        refine SO.v rfl (opv_move rfl) ?_
        exact SO.nilZ fun a w h1 h2 h3 h4 h5 => PZ.of h1 h3 h5 (.cons () (.cons () (.nil ⟨EnvAll.of h2 ⟨rfl, rfl, trivial⟩, h4⟩)))
      · rintro Fr _
        refine SO.v rfl (opv_nilCheck rfl) ?_
        exact SO.nilZ fun a w h1 h2 h3 h4 h5 => PZ.of h1 h3 h5 (.cons () (.cons () (.nil ⟨EnvAll.of h2 ⟨rfl, rfl, trivial⟩, h4⟩)))
      · rintro Fr _
        refine SO.v rfl (opv_fieldAddr Try.underlying50 rfl Try.sizeOf48 rfl rfl) ?_
        exact SO.nilZ fun a w h1 h2 h3 h4 h5 => PZ.of h1 h3 h5 (.cons () (.cons () (.nil ⟨EnvAll.of h2 ⟨rfl, rfl, trivial⟩, h4⟩)))
      · rintro Fr _ _
        refine SO.load1 rfl Try.isAgg48 rfl rfl ?_
        exact SO.nilZ fun a w h1 h2 h3 h4 h5 => PZ.of h1 h3 h5 (.cons () (.cons () (.cons () (.nil ⟨EnvAll.of h2 ⟨rfl, rfl, trivial⟩, h4⟩))))
      · rintro Fr _
        refine SO.v rfl (opv_fieldAddr Try.underlying46 rfl Try.sizeOf3 rfl rfl) ?_
        exact SO.nilZ fun a w h1 h2 h3 h4 h5 => PZ.of h1 h3 h5 (.cons () (.cons () (.nil ⟨EnvAll.of h2 ⟨rfl, rfl, trivial⟩, h4⟩)))
      · rintro Fr _ _
        refine SO.load1 rfl Try.isAgg3 rfl rfl ?_
        exact SO.nilZ fun a w h1 h2 h3 h4 h5 => PZ.of h1 h3 h5 (.cons () (.cons () (.cons () (.nil ⟨EnvAll.of h2 ⟨rfl, rfl, trivial⟩, h4⟩))))
      · rintro Fr _
        refine SO.v rfl (opv_fieldAddr Try.underlying46 rfl Try.sizeOf3 rfl rfl) ?_
        exact SO.nilZ fun a w h1 h2 h3 h4 h5 => PZ.of h1 h3 h5 (.cons () (.cons () (.nil ⟨EnvAll.of h2 ⟨rfl, rfl, trivial⟩, h4⟩)))
      · rintro Fr _ _
        refine SO.load1 rfl Try.isAgg3 rfl rfl ?_
        exact SO.nilZ fun a w h1 h2 h3 h4 h5 => PZ.of h1 h3 h5 (.cons () (.cons () (.cons () (.nil ⟨EnvAll.of h2 ⟨rfl, rfl, trivial⟩, h4⟩))))
      · rintro Fr _ _ _
        refine SO.v rfl (opv_idx Try.underlying48 Try.sizeOf46 hR8 rfl rfl hr25) ?_
        exact SO.nilZ fun a w h1 h2 h3 h4 h5 => PZ.of h1 h3 h5 (.cons () (.cons () (.cons () (.cons () (.nil ⟨EnvAll.of h2 ⟨rfl, rfl, rfl, trivial⟩, h4⟩)))))
      · rintro Fr _ _
        refine SO.v rfl (opv_fieldIdx Try.underlying46 rfl Try.sizeOf44 hR8 hr25 rfl rfl) ?_
        exact SO.nilZ fun a w h1 h2 h3 h4 h5 => PZ.of h1 h3 h5 (.cons () (.cons () (.cons () (.nil ⟨EnvAll.of h2 ⟨rfl, rfl, trivial⟩, h4⟩))))
      · rintro Fr _ _ _
        refine SO.v rfl (opv_idxAI Try.underlying44 Try.sizeOf3 hR8 hr25 rfl rfl hx28) ?_
        exact SO.nilZ fun a w h1 h2 h3 h4 h5 => PZ.of h1 h3 h5 (.cons () (.cons () (.cons () (.cons () (.nil ⟨EnvAll.of h2 ⟨rfl, rfl, rfl, trivial⟩, h4⟩)))))
      · rintro Fr _ _
        refine SO.storeO1 (j := 20 + x12.Page.toNat) (q := .val (.int .i64 (-1))) (z' := ({ x22 with Pages := (A4.put x22.Pages x12.Page (-1)) } : ref10_Obj)) Try.sizeOf3 hrel7 hx23 rfl rfl rfl (Nat.add_assoc _ _ _).symm (by rcases A4.get_cases hx28 with ⟨h1, h2⟩ | ⟨h1, h2⟩ | ⟨h1, h2⟩ | ⟨h1, h2⟩ <;> simp only [h1, h2] <;> rfl) (by rcases A4.get_cases hx28 with ⟨h1, h2⟩ | ⟨h1, h2⟩ | ⟨h1, h2⟩ | ⟨h1, h2⟩ <;> simp only [h1, h2] <;> rfl) rfl (fun raws29 hrel30 hR31 => ?_)
        refine SO.closeR ?_
        exact SO.nilZ fun a w h1 h2 h3 h4 h5 => PZ.of h1 h3 h5 (.cons () (.cons () (.nil ⟨EnvAll.of h2 ⟨rfl, trivial⟩, h4⟩)))
      rintro _ _ _ _ _ _ _ _
      refine S.to (ρ' := [(0, bp bp0 0), (1, .int .i64 a1), (4, .int .i64 0), (6, bp b20 0)]) ⟨rfl, rfl, rfl, rfl, trivial⟩ ?_
      refine S.seq ?_
      refine S.b3 ?_
      refine S.openR fun raws32 A33 hrel34 hR35 => ?_
      obtain ⟨x36, hx37, h⟩ := opt_bind h
      obtain ⟨r38, hr39, hc40⟩ := relR.at hrel34 hx37
      obtain ⟨x41, hx42, h⟩ := opt_bind h
      refine S.draw' (Z := fun Q => ∀ (_ : Unit) (_ : Unit) (_ : Unit) (_ : Unit) (_ : Unit) (_ : Unit) (_ : Unit), Q [(0, bp bp0 0), (1, .int .i64 a1), (4, .int .i64 0)] [OwnR 46 kr_ref10_Obj v0_Objs ((a0.Objs.set x12.In.toNat ({ x22 with Pages := (A4.put x22.Pages x12.Page (-1)) } : ref10_Obj)).set x12.In.toNat ({ x36 with Right := (A4.put x36.Right x12.Page 0) } : ref10_Obj)), Box b20 [.int .i64 x12.Kind, .int .i64 x12.Size, .int .i64 x12.Used, .int .i64 x12.First, .int .i64 x12.Radix, .int .i64 x12.Wait, u17, .int .i64 x12.Word, .int .i64 x12.State, .int .i64 x12.Owing, .int .i64 x12.Badge, .int .i64 x12.Prio, .int .i64 x12.On, .int .i64 x12.Owes, .int .i64 x12.Root.Kind, .int .i64 x12.Root.Rights, .int .i64 x12.Root.Obj, .int .i64 x12.Root.Badge, .int .i64 x12.Root.Guard, .int .i64 x12.Root.Bits, .int .i64 x12.Pages.a0, .int .i64 x12.Pages.a1, .int .i64 x12.Pages.a2, .int .i64 x12.Pages.a3, .int .i64 x12.Right.a0, .int .i64 x12.Right.a1, .int .i64 x12.Right.a2, .int .i64 x12.Right.a3, .int .i64 x12.In, .int .i64 x12.Page, .int .i64 x12.Bound, .int .i64 x12.Mask], Box bp0 [v0_Slots, v0_Objs, .int .i64 a0.NS, .int .i64 a0.NO], OwnO 57 kr_ref10_Slot v0_Slots raws1 A2 a0.Slots, F]) (T := [tS 0 (bp bp0 0), tS 6 (bp b20 0), tE [(1, .int .i64 a1), (4, .int .i64 0)], tR (OwnO 46 kr_ref10_Obj v0_Objs raws32 A33 (a0.Objs.set x12.In.toNat ({ x22 with Pages := (A4.put x22.Pages x12.Page (-1)) } : ref10_Obj))), tR (Box b20 [.int .i64 x12.Kind, .int .i64 x12.Size, .int .i64 x12.Used, .int .i64 x12.First, .int .i64 x12.Radix, .int .i64 x12.Wait, u17, .int .i64 x12.Word, .int .i64 x12.State, .int .i64 x12.Owing, .int .i64 x12.Badge, .int .i64 x12.Prio, .int .i64 x12.On, .int .i64 x12.Owes, .int .i64 x12.Root.Kind, .int .i64 x12.Root.Rights, .int .i64 x12.Root.Obj, .int .i64 x12.Root.Badge, .int .i64 x12.Root.Guard, .int .i64 x12.Root.Bits, .int .i64 x12.Pages.a0, .int .i64 x12.Pages.a1, .int .i64 x12.Pages.a2, .int .i64 x12.Pages.a3, .int .i64 x12.Right.a0, .int .i64 x12.Right.a1, .int .i64 x12.Right.a2, .int .i64 x12.Right.a3, .int .i64 x12.In, .int .i64 x12.Page, .int .i64 x12.Bound, .int .i64 x12.Mask]), tR (Box bp0 [v0_Slots, v0_Objs, .int .i64 a0.NS, .int .i64 a0.NO]), tR (OwnO 57 kr_ref10_Slot v0_Slots raws1 A2 a0.Slots), tR (F), tS 33 (bp bp0 0), tS 34 (bp bp0 0), tS 35 (bp bp0 1), tS 36 (v0_Objs), tS 37 (bp b20 28), tS 38 (.int .i64 x12.In), tS 39 (bp b20 29), tS 40 (.int .i64 x12.Page), tS 41 (idxp v0_Objs (x12.In.toNat * kr_ref10_Obj.sz)), tS 42 (idxp v0_Objs (x12.In.toNat * kr_ref10_Obj.sz + 24)), tS 43 (idxp v0_Objs (x12.In.toNat * kr_ref10_Obj.sz + 24 + x12.Page.toNat)), tR (OwnR 46 kr_ref10_Obj v0_Objs ((a0.Objs.set x12.In.toNat ({ x22 with Pages := (A4.put x22.Pages x12.Page (-1)) } : ref10_Obj)).set x12.In.toNat ({ x36 with Right := (A4.put x36.Right x12.Page 0) } : ref10_Obj)))]) (D := [⟨[0], [], [8]⟩, ⟨[8], [], [9]⟩, ⟨[9], [], [10]⟩, ⟨[10, 5], [], [11]⟩, ⟨[1], [], [12]⟩, ⟨[12, 4], [], [13]⟩, ⟨[1], [], [14]⟩, ⟨[14, 4], [], [15]⟩, ⟨[11, 13, 3], [], [16]⟩, ⟨[16, 3], [], [17]⟩, ⟨[15, 17, 3], [], [18]⟩, ⟨[18], [3], [19]⟩]) (ini := [0, 1, 2, 3, 4, 5, 6, 7]) (fin := [0, 2, 19, 4, 5, 6, 7]) (bf := [[], [0], [0, 1], [0, 1, 2], [], [4], [], [6], [0, 1, 2, 3, 4, 5], [0, 1, 2, 3, 4, 5, 8], [0, 1, 2, 3, 4, 5, 6, 7, 8, 9], [0, 1, 2, 3, 4, 5, 6, 7, 8, 9, 10]]) (by kernel_rfl) (by kernel_rfl) (fun x w h1 h2 => (.cons () (.cons () (.cons () (.cons () (.cons () (.cons () (.cons () (.cons () (.nil ⟨EnvAll.of h1 ⟨rfl, rfl, rfl, rfl, trivial⟩, h2⟩)))))))))) (fun Q => by kernel_rfl) ⟨?_, ?_, ?_, ?_, ?_, ?_, ?_, ?_, ?_, ?_, ?_, ?_, trivial⟩ ?_
      · rintro Fr _
        refine SO.v rfl (opv_move rfl) ?_
        exact SO.nilZ fun a w h1 h2 h3 h4 h5 => PZ.of h1 h3 h5 (.cons () (.cons () (.nil ⟨EnvAll.of h2 ⟨rfl, rfl, trivial⟩, h4⟩)))
      · rintro Fr _
        refine SO.v rfl (opv_nilCheck rfl) ?_
        exact SO.nilZ fun a w h1 h2 h3 h4 h5 => PZ.of h1 h3 h5 (.cons () (.cons () (.nil ⟨EnvAll.of h2 ⟨rfl, rfl, trivial⟩, h4⟩)))
      · rintro Fr _
        refine SO.v rfl (opv_fieldAddr Try.underlying50 rfl Try.sizeOf48 rfl rfl) ?_
        exact SO.nilZ fun a w h1 h2 h3 h4 h5 => PZ.of h1 h3 h5 (.cons () (.cons () (.nil ⟨EnvAll.of h2 ⟨rfl, rfl, trivial⟩, h4⟩)))
      · rintro Fr _ _
        refine SO.load1 rfl Try.isAgg48 rfl rfl ?_
        exact SO.nilZ fun a w h1 h2 h3 h4 h5 => PZ.of h1 h3 h5 (.cons () (.cons () (.cons () (.nil ⟨EnvAll.of h2 ⟨rfl, rfl, trivial⟩, h4⟩))))
      · rintro Fr _
        refine SO.v rfl (opv_fieldAddr Try.underlying46 rfl Try.sizeOf3 rfl rfl) ?_
        exact SO.nilZ fun a w h1 h2 h3 h4 h5 => PZ.of h1 h3 h5 (.cons () (.cons () (.nil ⟨EnvAll.of h2 ⟨rfl, rfl, trivial⟩, h4⟩)))
      · rintro Fr _ _
        refine SO.load1 rfl Try.isAgg3 rfl rfl ?_
        exact SO.nilZ fun a w h1 h2 h3 h4 h5 => PZ.of h1 h3 h5 (.cons () (.cons () (.cons () (.nil ⟨EnvAll.of h2 ⟨rfl, rfl, trivial⟩, h4⟩))))
      · rintro Fr _
        refine SO.v rfl (opv_fieldAddr Try.underlying46 rfl Try.sizeOf3 rfl rfl) ?_
        exact SO.nilZ fun a w h1 h2 h3 h4 h5 => PZ.of h1 h3 h5 (.cons () (.cons () (.nil ⟨EnvAll.of h2 ⟨rfl, rfl, trivial⟩, h4⟩)))
      · rintro Fr _ _
        refine SO.load1 rfl Try.isAgg3 rfl rfl ?_
        exact SO.nilZ fun a w h1 h2 h3 h4 h5 => PZ.of h1 h3 h5 (.cons () (.cons () (.cons () (.nil ⟨EnvAll.of h2 ⟨rfl, rfl, trivial⟩, h4⟩))))
      · rintro Fr _ _ _
        refine SO.v rfl (opv_idx Try.underlying48 Try.sizeOf46 hR35 rfl rfl hr39) ?_
        exact SO.nilZ fun a w h1 h2 h3 h4 h5 => PZ.of h1 h3 h5 (.cons () (.cons () (.cons () (.cons () (.nil ⟨EnvAll.of h2 ⟨rfl, rfl, rfl, trivial⟩, h4⟩)))))
      · rintro Fr _ _
        refine SO.v rfl (opv_fieldIdx Try.underlying46 rfl Try.sizeOf44 hR35 hr39 rfl rfl) ?_
        exact SO.nilZ fun a w h1 h2 h3 h4 h5 => PZ.of h1 h3 h5 (.cons () (.cons () (.cons () (.nil ⟨EnvAll.of h2 ⟨rfl, rfl, trivial⟩, h4⟩))))
      · rintro Fr _ _ _
        refine SO.v rfl (opv_idxAI Try.underlying44 Try.sizeOf3 hR35 hr39 rfl rfl hx42) ?_
        exact SO.nilZ fun a w h1 h2 h3 h4 h5 => PZ.of h1 h3 h5 (.cons () (.cons () (.cons () (.cons () (.nil ⟨EnvAll.of h2 ⟨rfl, rfl, rfl, trivial⟩, h4⟩)))))
      · rintro Fr _ _
        refine SO.storeO1 (j := 24 + x12.Page.toNat) (q := .val (.int .i64 0)) (z' := ({ x36 with Right := (A4.put x36.Right x12.Page 0) } : ref10_Obj)) Try.sizeOf3 hrel34 hx37 rfl rfl rfl (Nat.add_assoc _ _ _).symm (by rcases A4.get_cases hx42 with ⟨h1, h2⟩ | ⟨h1, h2⟩ | ⟨h1, h2⟩ | ⟨h1, h2⟩ <;> simp only [h1, h2] <;> rfl) (by rcases A4.get_cases hx42 with ⟨h1, h2⟩ | ⟨h1, h2⟩ | ⟨h1, h2⟩ | ⟨h1, h2⟩ <;> simp only [h1, h2] <;> rfl) rfl (fun raws43 hrel44 hR45 => ?_)
        refine SO.closeR ?_
        exact SO.nilZ fun a w h1 h2 h3 h4 h5 => PZ.of h1 h3 h5 (.cons () (.cons () (.nil ⟨EnvAll.of h2 ⟨rfl, trivial⟩, h4⟩)))
      rintro _ _ _ _ _ _ _
      refine S.to (ρ' := [(0, bp bp0 0), (1, .int .i64 a1), (4, .int .i64 0)]) ⟨rfl, rfl, rfl, trivial⟩ ?_
      refine S.seq ?_
      refine S.region ?_
      refine SO.v rfl (opv_move rfl) ?_
      refine SO.v rfl (opv_nilCheck rfl) ?_
      refine SO.v rfl (opv_fieldAddr Try.underlying50 rfl Try.sizeOf48 rfl rfl) ?_
      refine SO.b2 ?_
      refine SO.load1 rfl Try.isAgg48 rfl rfl ?_
      refine SO.v rfl (opv_move rfl) ?_
      refine SO.b1 ?_
      refine SO.openR fun raws51 A52 hrel53 hR54 => ?_
      obtain ⟨x46, hx47, h⟩ := opt_bind h
      obtain ⟨r48, hr49, hc50⟩ := relR.at hrel53 hx47
      refine SO.v rfl (opv_idx Try.underlying48 Try.sizeOf46 hR54 rfl rfl hr49) ?_
      refine SO.v rfl (opv_fieldIdx Try.underlying46 rfl Try.sizeOf3 hR54 hr49 rfl rfl) ?_
      refine SO.storeO1 (j := 28) (q := .val (.int .i64 (-1))) (z' := ({ x46 with In := -1 } : ref10_Obj)) Try.sizeOf3 hrel53 hx47 rfl rfl rfl rfl rfl rfl rfl (fun raws55 hrel56 hR57 => ?_)
      refine SO.nil ?_
      refine S.to (ρ' := [(0, bp bp0 0), (1, .int .i64 a1), (4, .int .i64 0)]) ⟨rfl, rfl, rfl, trivial⟩ ?_
      refine S.seq ?_
      refine S.region ?_
      refine SO.v rfl (opv_move rfl) ?_
      refine SO.v rfl (opv_nilCheck rfl) ?_
      refine SO.v rfl (opv_fieldAddr Try.underlying50 rfl Try.sizeOf48 rfl rfl) ?_
      refine SO.b1 ?_
      refine SO.load1 rfl Try.isAgg48 rfl rfl ?_
      refine SO.v rfl (opv_move rfl) ?_
      obtain ⟨x58, hx59, h⟩ := opt_bind h
      obtain ⟨r60, hr61, hc62⟩ := relR.at hrel56 hx59
      refine SO.v rfl (opv_idx Try.underlying48 Try.sizeOf46 hR57 rfl rfl hr61) ?_
      refine SO.v rfl (opv_fieldIdx Try.underlying46 rfl Try.sizeOf3 hR57 hr61 rfl rfl) ?_
      refine SO.b1 ?_
      refine SO.storeO1 (j := 29) (q := .val (.int .i64 0)) (z' := ({ x58 with Page := 0 } : ref10_Obj)) Try.sizeOf3 hrel56 hx59 rfl rfl rfl rfl rfl rfl rfl (fun raws63 hrel64 hR65 => ?_)
      refine SO.nil ?_
      refine S.to (ρ' := [(4, .int .i64 0)]) ⟨rfl, trivial⟩ ?_
      refine S.seq ?_
      refine S.region ?_
      refine SO.v rfl (opv_assign rfl) ?_
      refine SO.nil ?_
      cases h
      refine S.closeR ?_
      refine S.b3 ?_
      refine S.closeR ?_
      refine S.b3 ?_
      refine S.drop ?_
      refine S.b3 ?_
      refine S.b2 ?_
      refine S.b2 ?_
      refine S.b3 ?_
      exact S.ret1 Try.func9 rfl rfl (fun w hs hk => hR w _ _ ⟨v0_Slots, v0_Objs, rfl, rfl⟩ hs hk)
end Go.Proofs
namespace Go.Proofs
open Go.Sl Go.RowKit
/-! 3 padstone/padstonelaw18.SpacePlays -/
def law18_SpacePlays.l1 (a0 : List law18_Deed) : Nat → (Int × (List ref10_Slot) × (List ref10_Obj) × Int × Int × (List Int)) → Option (Brk Bool ((List ref10_Slot) × (List ref10_Obj) × Int × Int × (List Int)))
  | 0, _ => none
  | k + 1, (x6_1, y6_0_1, y6_1_1, y6_2_1, y6_3_1, qv18_1) => bif decide (x6_1 < (a0.length : Int)) then ((at_ a0 x6_1).bind fun x22 => (bif x22.Un then ((VM.run plainI (space_Unmap.f x22.A) qv18_1).bind fun (t26, s28) => (ref10_State_Unmap.f (⟨y6_0_1, y6_1_1, y6_2_1, y6_3_1⟩ : ref10_State) x22.A).bind fun (t30, p31) => some (t30, t26, p31.Slots, p31.Objs, p31.NS, p31.NO, s28)) else ((VM.run plainI (space_Map.f x22.A x22.B x22.Page x22.Rights) qv18_1).bind fun (t35, s37) => (ref10_State_Map.f (⟨y6_0_1, y6_1_1, y6_2_1, y6_3_1⟩ : ref10_State) x22.A x22.B x22.Page x22.Rights).bind fun (t39, p40) => some (t39, t35, p40.Slots, p40.Objs, p40.NS, p40.NO, s37))).bind fun (j8_2, j9_2, y6_0_2, y6_1_2, y6_2_2, y6_3_2, qv18_2) => (law00_Code.f k j9_2).bind fun t45 => (bif t45 != j8_2 then (some true) else ((ref10_State_Words.f k (⟨y6_0_2, y6_1_2, y6_2_2, y6_3_2⟩ : ref10_State)).bind fun t58 => (ref10_Same.f k qv18_2 t58).bind fun t62 => some (!t62))).bind fun c56 => bif c56 then (some (Brk.ret false)) else ((VM.run plainI (space_Page.f x22.B x22.Page) qv18_2).bind fun ((t66, t67, t68), s70) => (bif (((decide (4 ≤ x22.B)) && (decide (x22.B < 6))) && (decide (0 ≤ x22.Page))) && (decide (x22.Page < 4)) then ((at_ y6_1_2 x22.B).bind fun x76 => (A4.get x76.Pages x22.Page).bind fun x81 => (at_ y6_1_2 x22.B).bind fun x83 => (A4.get x83.Right x22.Page).bind fun x88 => some (x81, x88)) else (some (-1, 0))).bind fun (j13_3, j14_3) => bif ((t68 != (decide (0 ≤ j13_3))) || (t68 && ((t66 != j13_3) || (t67 != j14_3)))) || ((!t68) && ((t66 != 0) || (t67 != 0))) then (some (Brk.ret false)) else (law18_SpacePlays.l1 a0 k (w64 (x6_1 + 1), y6_0_2, y6_1_2, y6_2_2, y6_3_2, s70)))) else (some (Brk.nx (y6_0_1, y6_1_1, y6_2_1, y6_3_1, qv18_1)))
def law18_SpacePlays.f (k : Nat) (a0 : List law18_Deed) : Option (Bool) :=
  (law18_up.f k ).bind fun t1 => bif decide (120 < (a0.length : Int)) then (some t1) else ((law18_begun.f k ).bind fun t4 => (ref10_State_Words.f k t4).bind fun t16 => (law18_SpacePlays.l1 a0 k (0, t4.Slots, t4.Objs, t4.NS, t4.NO, t16)).bind fun o1 => Brk.go o1 (fun r => some r) (fun (y6_0_e1, y6_1_e1, y6_2_e1, y6_3_e1, qv18_e1) => some t1))
set_option maxHeartbeats 8000000 in
set_option maxRecDepth 100000 in
theorem law18_SpacePlays.ct (k : Nat) (v0 : Value) (a0 : List law18_Deed) (r0 : Bool) (h : law18_SpacePlays.f k a0 = some r0) :
    Ct Try.prog 3 [v0] (fun F => Rd ek_law18_Deed v0 a0 F) [] (fun u H' => u = .bool r0 ∧ H' = []) := by
  unfold law18_SpacePlays.f at h
  refine Ct.intro (n := 159) Try.func3 rfl rfl rfl ?_
  intro R w0 F hF hR
  have hF0 := hF
  refine S.seq ?_
  refine S.region ?_
  refine SO.v rfl (opv_assign rfl) ?_
  refine SO.nil ?_
  refine S.seq ?_
  refine S.region ?_
  obtain ⟨t1, ht2, h⟩ := opt_bind h
  refine SO.call (pre := []) rfl Try.call5 rfl rfl rfl (law18_up.ct _ _ ht2) trivial ?_
  rintro _ _ ⟨rfl, rfl⟩
  refine SO.v rfl (opv_assign rfl) ?_
  refine SO.nil ?_
  refine S.seq ?_
  refine S.seq ?_
  refine S.region ?_
  refine SO.v rfl (opv_move rfl) ?_
  refine SO.v rfl (opv_lenR rfl Try.underlying22 hF0 rfl) ?_
  refine SO.v rfl (opv_gtr rfl rfl) ?_
  refine SO.nil ?_
  rcases bool_or (decide (120 < (a0.length : Int))) with b3 | b3
  · replace h := cond_t b3 h
    refine S.condT rfl b3 ?_
    refine S.seq ?_
    refine S.region ?_
    refine SO.v rfl (opv_move rfl) ?_
    refine SO.v rfl (opv_assign rfl) ?_
    refine SO.nil ?_
    cases h
    exact S.ret1 Try.func3 rfl rfl (fun w hs hk => hR w _ _ ⟨rfl, rfl⟩ hs hk)
  · replace h := cond_f b3 h
    refine S.condF rfl b3 ?_
    refine S.skip ?_
    refine S.seq ?_
    refine S.region ?_
    obtain ⟨t4, ht5, h⟩ := opt_bind h
    refine SO.call (pre := []) rfl Try.call6 rfl rfl rfl (law18_begun.ct _ _ ht5) trivial ?_
    rintro _ _ ⟨b6, u7_Slots, u7_Objs, rfl, rfl⟩
    refine SO.v rfl (opv_assign rfl) ?_
    refine SO.nil ?_
    refine S.seq ?_
    refine S.region ?_
    refine SO.v rfl (opv_move rfl) ?_
    obtain ⟨t16, ht17, h⟩ := opt_bind h
    refine SO.b1 ?_
    refine SO.openR fun raws8 A9 hrel10 hR11 => ?_
    refine SO.b2 ?_
    refine SO.openR fun raws12 A13 hrel14 hR15 => ?_
    refine SO.b1 ?_
    refine SO.b2 ?_
    refine SO.call (pre := [Box _ _, OwnO _ _ _ _ _ _, OwnO _ _ _ _ _ _]) rfl Try.call7 rfl rfl rfl (ref10_State_Words.ct _ b6 u7_Slots u7_Objs raws8 A9 raws12 A13 _ _ ht17) trivial ?_
    rintro v18 _ ⟨_, rfl, rfl⟩
    refine SO.rd fun hr19 => ?_
    refine SO.v rfl (opv_assign rfl) ?_
    refine SO.nil ?_
    refine S.to (ρ' := [(0, v0), (2, .bool false), (3, .bool t1), (4, bp b6 0), (5, v18)]) ⟨rfl, rfl, rfl, rfl, rfl, trivial⟩ ?_
    refine S.seq ?_
    refine S.seq ?_
    refine S.region ?_
    refine SO.v rfl (opv_assign rfl) ?_
    refine SO.nil ?_
    obtain ⟨o1, hl1, h⟩ := opt_bind h
    refine S.b2 ?_
    refine S.closeR ?_
    refine S.b3 ?_
    refine S.closeR ?_
    refine S.b4 ?_
    refine S.b4 ?_
    refine S.b4 ?_
    refine S.b4 ?_
    refine S.b4 ?_
    refine S.to (ρ' := [(6, .int .i64 0), (0, v0), (2, .bool false), (3, .bool t1), (4, bp b6 0), (5, v18)]) ⟨rfl, rfl, rfl, rfl, rfl, rfl, trivial⟩ ?_
    refine S.forloop (X := (Int × (List ref10_Slot) × (List ref10_Obj) × Int × Int × (List Int)) × (Value × Value)) (O := Brk Bool ((List ref10_Slot) × (List ref10_Obj) × Int × Int × (List Int))) (fun m x => law18_SpacePlays.l1 a0 m x.1) (fun x => match x with | ((x6_1, y6_0_1, y6_1_1, y6_2_1, y6_3_1, qv18_1), (vy6_0_1, vy6_1_1)) => [(6, .int .i64 x6_1), (0, v0), (2, .bool false), (3, .bool t1), (4, bp b6 0), (5, v18)]) (fun x => match x with | ((x6_1, y6_0_1, y6_1_1, y6_2_1, y6_3_1, qv18_1), (vy6_0_1, vy6_1_1)) => [OwnR 46 kr_ref10_Obj vy6_1_1 y6_1_1, OwnR 57 kr_ref10_Slot vy6_0_1 y6_0_1, Own 58 (ekI .u64) v18 qv18_1, Box b6 [vy6_0_1, vy6_1_1, .int .i64 y6_2_1, .int .i64 y6_3_1], F]) (fun Sk o' => (∀ r', o' = Brk.ret r' → some r' = some r0) ∧ ∀ j : ((List ref10_Slot) × (List ref10_Obj) × Int × Int × (List Int)), match j with | (y6_0_e1, y6_1_e1, y6_2_e1, y6_3_e1, qv18_e1) => ∀ g : (Value × Value), match g with | (vy6_0_e1, vy6_1_e1) => o' = Brk.nx (y6_0_e1, y6_1_e1, y6_2_e1, y6_3_e1, qv18_e1) → Sk [(2, .bool false), (3, .bool t1)] [OwnR 46 kr_ref10_Obj vy6_1_e1 y6_1_e1, OwnR 57 kr_ref10_Slot vy6_0_e1 y6_0_e1, Own 58 (ekI .u64) v18 qv18_e1, Box b6 [vy6_0_e1, vy6_1_e1, .int .i64 y6_2_e1, .int .i64 y6_3_e1], F]) (fun _ => rfl) ?_ (m := k) (x := ((0, t4.Slots, t4.Objs, t4.NS, t4.NO, t16), (u7_Slots, u7_Objs))) hl1 ?_
    · clear h hl1
      intro k x o_1 h hK1 ih1
      obtain ⟨⟨x6_1, y6_0_1, y6_1_1, y6_2_1, y6_3_1, qv18_1⟩, ⟨vy6_0_1, vy6_1_1⟩⟩ := x
      replace h : law18_SpacePlays.l1 a0 (k + 1) (x6_1, y6_0_1, y6_1_1, y6_2_1, y6_3_1, qv18_1) = some o_1 := h
      first | rw [law18_SpacePlays.l1] at h | unfold law18_SpacePlays.l1 at h
      refine S.b2 ?_
      refine S.rd fun hr20 => ?_
      refine S.seq ?_
      refine S.seq ?_
      refine S.region ?_
      refine SO.v rfl (opv_move rfl) ?_
      refine SO.v rfl (opv_move rfl) ?_
      refine SO.v rfl (opv_lenR rfl Try.underlying22 hF0 rfl) ?_
      refine SO.v rfl (opv_lss rfl rfl) ?_
      refine SO.nil ?_
      rcases bool_or (decide (x6_1 < (a0.length : Int))) with b21 | b21
      · replace h := cond_t b21 h
        refine S.condT rfl b21 ?_
        refine S.skip ?_
        refine S.seq ?_
        refine S.block ?_
        refine S.seq ?_
        refine S.region ?_
        refine SO.v rfl (opv_move rfl) ?_
        refine SO.v rfl (opv_move rfl) ?_
        obtain ⟨x22, hx23, h⟩ := opt_bind h
        refine SO.v rfl (opv_idx Try.underlying22 Try.sizeOf30 hF0 rfl rfl hx23) ?_
        refine SO.loadIN rfl Try.isAgg30 Try.sizeOf30 (Rd.tail (Rd.tail (Rd.tail (Rd.tail (Rd.head hF0))))) hx23 rfl rfl rfl ?_
        refine SO.alloc rfl Try.zeroValue30 rfl (fun b24 => ?_)
        refine SO.storeN Try.sizeOf30 rfl rfl rfl rfl rfl rfl ?_
        refine SO.nil ?_
        refine S.seq ?_
        refine S.region ?_
        refine SO.v rfl (opv_assign rfl) ?_
        refine SO.nil ?_
        refine S.seq ?_
        refine S.region ?_
        refine SO.v rfl (opv_assign rfl) ?_
        refine SO.nil ?_
        refine S.seq ?_
        refine S.seq ?_
        refine S.region ?_
        refine SO.v rfl (opv_fieldAddr Try.underlying30 rfl Try.sizeOf4 rfl rfl) ?_
        refine SO.load1 rfl Try.isAgg4 rfl rfl ?_
        refine SO.nil ?_
        obtain ⟨⟨j8_2, j9_2, y6_0_2, y6_1_2, y6_2_2, y6_3_2, qv18_2⟩, hC2, hJ2⟩ := opt_bind h
        clear h
        refine S.cutP (G := (Value × Value)) (fun _ => True) (fun x => match x with | (vy6_0_2, vy6_1_2) => [(0, v0), (2, .bool false), (3, .bool t1), (4, bp b6 0), (5, v18), (6, .int .i64 x6_1), (7, bp b24 0), (8, .int .i64 j8_2), (9, errV 53 j9_2), (23, .int .i64 x6_1), (24, v0), (25, .int .i64 (a0.length : Int)), (26, .bool (decide (x6_1 < (a0.length : Int)))), (29, v0), (30, .int .i64 x6_1), (31, idxp v0 (x6_1.toNat * ek_law18_Deed.sz)), (32, .agg #[.bool x22.Un, .int .i64 x22.A, .int .i64 x22.B, .int .i64 x22.Page, .int .i64 x22.Rights]), (33, bp b24 0), (34, .bool x22.Un)]) (fun x => match x with | (vy6_0_2, vy6_1_2) => [OwnR 46 kr_ref10_Obj vy6_1_2 y6_1_2, OwnR 57 kr_ref10_Slot vy6_0_2 y6_0_2, Box b24 [.bool x22.Un, .int .i64 x22.A, .int .i64 x22.B, .int .i64 x22.Page, .int .i64 x22.Rights], Own 58 (ekI .u64) v18 qv18_2, Box b6 [vy6_0_2, vy6_1_2, .int .i64 y6_2_2, .int .i64 y6_3_2], F]) (fun hk2 => ?_) ?_
        · replace h := hC2
          rcases bool_or x22.Un with b25 | b25
          · replace h := cond_t b25 h
            refine S.condT rfl b25 ?_
            refine S.seq ?_
            refine S.region ?_
            refine SO.v rfl (opv_move rfl) ?_
            refine SO.v rfl (opv_iface Try.underlying27 rfl rfl) ?_
            refine SO.v rfl (opv_fieldAddr Try.underlying30 rfl Try.sizeOf3 rfl rfl) ?_
            refine SO.load1 rfl Try.isAgg3 rfl rfl ?_
            obtain ⟨⟨t26, s28⟩, ht27, h⟩ := opt_bind h
            refine SO.b1 ?_
            refine SO.call (pre := [(plainV v18).rep _]) rfl Try.call8 rfl rfl rfl (space_Unmap.ct (plainV v18) _ _ _ _ ht27) trivial ?_
            rintro _ _ ⟨rfl, rfl⟩
            refine headEq (plainV_rep _ _) ?_
            refine SO.rd fun hr29 => ?_
            refine SO.v rfl (opv_assign rfl) ?_
            refine SO.nil ?_
            refine S.region ?_
            refine SO.v rfl (opv_move rfl) ?_
            refine SO.v rfl (opv_fieldAddr Try.underlying30 rfl Try.sizeOf3 rfl rfl) ?_
            refine SO.b1 ?_
            refine SO.load1 rfl Try.isAgg3 rfl rfl ?_
            obtain ⟨⟨t30, p31⟩, ht32, h⟩ := opt_bind h
            refine SO.b2 ?_
            refine SO.b3 ?_
            refine SO.b4 ?_
            have ct34 := ref10_State_Unmap.ct b6 vy6_0_1 vy6_1_1 _ _ _ _ ht32
            dsimp only at ct34
            refine SO.call (pre := [Box _ _, OwnR _ _ _ _, OwnR _ _ _ _]) rfl Try.call9 rfl rfl rfl ct34 trivial ?_
            rintro _ _ ⟨u33_Slots, u33_Objs, rfl, rfl⟩
            refine SO.v rfl (opv_assign rfl) ?_
            refine SO.nil ?_
            cases h
            refine S.b5 ?_
            refine S.b1 ?_
            refine S.b5 ?_
            refine S.b5 ?_
            refine S.b4 ?_
            refine S.b5 ?_
            refine S.to ?_ (hk2 (u33_Slots, u33_Objs) trivial)
            exact ⟨rfl, rfl, rfl, rfl, rfl, rfl, rfl, rfl, rfl, rfl, rfl, rfl, rfl, rfl, rfl, rfl, rfl, rfl, rfl, trivial⟩
          · replace h := cond_f b25 h
            refine S.condF rfl b25 ?_
            refine S.seq ?_
            refine S.region ?_
            refine SO.v rfl (opv_move rfl) ?_
            refine SO.v rfl (opv_iface Try.underlying27 rfl rfl) ?_
            refine SO.v rfl (opv_fieldAddr Try.underlying30 rfl Try.sizeOf3 rfl rfl) ?_
            refine SO.load1 rfl Try.isAgg3 rfl rfl ?_
            refine SO.v rfl (opv_fieldAddr Try.underlying30 rfl Try.sizeOf3 rfl rfl) ?_
            refine SO.load1 rfl Try.isAgg3 rfl rfl ?_
            refine SO.v rfl (opv_fieldAddr Try.underlying30 rfl Try.sizeOf3 rfl rfl) ?_
            refine SO.load1 rfl Try.isAgg3 rfl rfl ?_
            refine SO.v rfl (opv_fieldAddr Try.underlying30 rfl Try.sizeOf3 rfl rfl) ?_
            refine SO.load1 rfl Try.isAgg3 rfl rfl ?_
            obtain ⟨⟨t35, s37⟩, ht36, h⟩ := opt_bind h
            refine SO.b1 ?_
            refine SO.call (pre := [(plainV v18).rep _]) rfl Try.call10 rfl rfl rfl (space_Map.ct (plainV v18) _ _ _ _ _ _ _ ht36) trivial ?_
            rintro _ _ ⟨rfl, rfl⟩
            refine headEq (plainV_rep _ _) ?_
            refine SO.rd fun hr38 => ?_
            refine SO.v rfl (opv_assign rfl) ?_
            refine SO.nil ?_
            refine S.region ?_
            refine SO.v rfl (opv_move rfl) ?_
            refine SO.v rfl (opv_fieldAddr Try.underlying30 rfl Try.sizeOf3 rfl rfl) ?_
            refine SO.b1 ?_
            refine SO.load1 rfl Try.isAgg3 rfl rfl ?_
            refine SO.v rfl (opv_fieldAddr Try.underlying30 rfl Try.sizeOf3 rfl rfl) ?_
            refine SO.load1 rfl Try.isAgg3 rfl rfl ?_
            refine SO.v rfl (opv_fieldAddr Try.underlying30 rfl Try.sizeOf3 rfl rfl) ?_
            refine SO.load1 rfl Try.isAgg3 rfl rfl ?_
            refine SO.v rfl (opv_fieldAddr Try.underlying30 rfl Try.sizeOf3 rfl rfl) ?_
            refine SO.load1 rfl Try.isAgg3 rfl rfl ?_
            obtain ⟨⟨t39, p40⟩, ht41, h⟩ := opt_bind h
            refine SO.b2 ?_
            refine SO.b3 ?_
            refine SO.b4 ?_
            have ct43 := ref10_State_Map.ct b6 vy6_0_1 vy6_1_1 _ _ _ _ _ _ _ ht41
            dsimp only at ct43
            refine SO.call (pre := [Box _ _, OwnR _ _ _ _, OwnR _ _ _ _]) rfl Try.call11 rfl rfl rfl ct43 trivial ?_
            rintro _ _ ⟨u42_Slots, u42_Objs, rfl, rfl⟩
            refine SO.v rfl (opv_assign rfl) ?_
            refine SO.nil ?_
            cases h
            refine S.b5 ?_
            refine S.b1 ?_
            refine S.b5 ?_
            refine S.b5 ?_
            refine S.b4 ?_
            refine S.b5 ?_
            refine S.to ?_ (hk2 (u42_Slots, u42_Objs) trivial)
            exact ⟨rfl, rfl, rfl, rfl, rfl, rfl, rfl, rfl, rfl, rfl, rfl, rfl, rfl, rfl, rfl, rfl, rfl, rfl, rfl, trivial⟩
        rintro ⟨vy6_0_2, vy6_1_2⟩ -
        replace h := hJ2
        refine S.b3 ?_
        refine S.rd fun hr44 => ?_
        refine S.seq ?_
        refine S.seq ?_
        refine S.region ?_
        refine SO.v rfl (opv_move rfl) ?_
        obtain ⟨t45, ht46, h⟩ := opt_bind h
        refine SO.call (pre := []) rfl Try.call12 rfl rfl rfl (law00_Code.ct _ _ _ ht46) trivial ?_
        rintro _ _ ⟨rfl, rfl⟩
        refine SO.v rfl (opv_move rfl) ?_
        refine SO.v rfl (opv_neq rfl rfl) ?_
        refine SO.v rfl (opv_move rfl) ?_
        refine SO.b1 ?_
        refine SO.openR fun raws47 A48 hrel49 hR50 => ?_
        refine SO.b2 ?_
        refine SO.openR fun raws51 A52 hrel53 hR54 => ?_
        obtain ⟨c56, hc57, hgk⟩ := opt_bind h
        refine SO.cut 6 75 (.bool c56) [OwnO 57 kr_ref10_Slot vy6_0_2 raws51 A52 y6_0_2, OwnO 46 kr_ref10_Obj vy6_1_2 raws47 A48 y6_1_2, Own 58 (ekI .u64) v18 qv18_2, Box b24 [.bool x22.Un, .int .i64 x22.A, .int .i64 x22.B, .int .i64 x22.Page, .int .i64 x22.Rights], Box b6 [vy6_0_2, vy6_1_2, .int .i64 y6_2_2, .int .i64 y6_3_2], F] (fun l2 hk2 => ?_) ?_
        · clear hgk
          replace h := hc57
          rcases bool_or (t45 != j8_2) with b55 | b55
          · replace h := cond_t b55 h
            refine SO.passF rfl rfl rfl b55 rfl rfl ?_
            refine SO.passF rfl rfl rfl b55 rfl rfl ?_
            refine SO.passF rfl rfl rfl b55 rfl rfl ?_
            refine SO.passF rfl rfl rfl b55 rfl rfl ?_
            refine SO.passF rfl rfl rfl b55 rfl rfl ?_
            cases h
            refine SO.v rfl (opv_pick_t' b55 rfl rfl) ?_
            refine SO.b5 ?_
            refine SO.b5 ?_
            refine SO.b5 ?_
            refine SO.b5 ?_
            refine SO.b5 ?_
            refine SO.b5 ?_
            exact hk2.fitc (m := 6) rfl (rfl) rfl
          · replace h := cond_f b55 h
            refine SO.takeT rfl rfl rfl b55 ?_
            refine SO.v rfl (opv_move rfl) ?_
            refine SO.takeT rfl rfl rfl b55 ?_
            refine SO.v rfl (opv_move rfl) ?_
            refine SO.takeT rfl rfl rfl b55 ?_
            obtain ⟨t58, ht59, h⟩ := opt_bind h
            refine SO.b1 ?_
            refine SO.b1 ?_
            refine SO.b4 ?_
            have ct64 := ref10_State_Words.ct _ b6 vy6_0_2 vy6_1_2 raws51 A52 raws47 A48 _ _ ht59
            dsimp only at ct64
            refine SO.call (pre := [Box _ _, OwnO _ _ _ _ _ _, OwnO _ _ _ _ _ _]) rfl Try.call7 rfl rfl rfl ct64 trivial ?_
            rintro v60 _ ⟨_, rfl, rfl⟩
            refine SO.rd fun hr61 => ?_
            refine SO.takeT rfl rfl rfl b55 ?_
            obtain ⟨t62, ht63, h⟩ := opt_bind h
            refine SO.call (pre := []) rfl Try.call13 rfl rfl rfl (ref10_Same.ct _ v18 v60 _ _ _ ht63) ⟨(Rd.tail (Rd.tail (Rd.tail (Rd.tail (Rd.head hr44))))), (Rd.head hr61)⟩ ?_
            rintro _ _ ⟨rfl, rfl⟩
            refine SO.takeT rfl rfl rfl b55 ?_
            refine SO.v rfl (opv_not rfl) ?_
            cases h
            refine SO.v rfl (opv_pick_f' b55 rfl rfl) ?_
            refine SO.drop ?_
            refine SO.b5 ?_
            refine SO.b1 ?_
            refine SO.b5 ?_
            refine SO.b5 ?_
            refine SO.b5 ?_
            refine SO.b5 ?_
            exact hk2.fitc (m := 6) rfl (rfl) rfl
        clear hc57
        replace h := hgk
        refine SO.nil ?_
        rcases bool_or c56 with b65 | b65
        · replace h := cond_t b65 h
          refine S.condT rfl b65 ?_
          refine S.seq ?_
          refine S.region ?_
          refine SO.v rfl (opv_assign rfl) ?_
          refine SO.nil ?_
          cases h
          replace h := hK1.1 _ rfl
          cases h
          refine S.closeR ?_
          refine S.b1 ?_
          refine S.closeR ?_
          refine S.drop ?_
          refine S.drop ?_
          refine S.drop ?_
          refine S.drop ?_
          refine S.drop ?_
          exact S.ret1 Try.func3 rfl rfl (fun w hs hk => hR w _ _ ⟨rfl, rfl⟩ hs hk)
        · replace h := cond_f b65 h
          refine S.condF rfl b65 ?_
          refine S.skip ?_
          refine S.seq ?_
          refine S.region ?_
          refine SO.v rfl (opv_move rfl) ?_
          refine SO.v rfl (opv_iface Try.underlying27 rfl rfl) ?_
          refine SO.v rfl (opv_fieldAddr Try.underlying30 rfl Try.sizeOf3 rfl rfl) ?_
          refine SO.b3 ?_
          refine SO.load1 rfl Try.isAgg3 rfl rfl ?_
          refine SO.v rfl (opv_fieldAddr Try.underlying30 rfl Try.sizeOf3 rfl rfl) ?_
          refine SO.load1 rfl Try.isAgg3 rfl rfl ?_
          obtain ⟨⟨⟨t66, t67, t68⟩, s70⟩, ht69, h⟩ := opt_bind h
          refine SO.b3 ?_
          refine SO.call (pre := [(plainV v18).rep _]) rfl Try.call14 rfl rfl rfl (space_Page.ct (plainV v18) _ _ _ _ _ _ _ ht69) trivial ?_
          rintro _ _ ⟨rfl, rfl⟩
          refine headEq (plainV_rep _ _) ?_
          refine SO.rd fun hr71 => ?_
          refine SO.v rfl (opv_move rfl) ?_
          refine SO.v rfl (opv_extract rfl rfl) ?_
          refine SO.v rfl (opv_extract rfl rfl) ?_
          refine SO.v rfl (opv_extract rfl rfl) ?_
          refine SO.v rfl (opv_assign rfl) ?_
          refine SO.v rfl (opv_assign rfl) ?_
          refine SO.v rfl (opv_assign rfl) ?_
          refine SO.nil ?_
          refine S.seq ?_
          refine S.region ?_
          refine SO.v rfl (opv_assign rfl) ?_
          refine SO.nil ?_
          refine S.seq ?_
          refine S.region ?_
          refine SO.v rfl (opv_assign rfl) ?_
          refine SO.nil ?_
          refine S.seq ?_
          refine S.seq ?_
          refine S.region ?_
          refine SO.v rfl (opv_fieldAddr Try.underlying30 rfl Try.sizeOf3 rfl rfl) ?_
          refine SO.b1 ?_
          refine SO.load1 rfl Try.isAgg3 rfl rfl ?_
          refine SO.v rfl (opv_geq rfl rfl) ?_
          refine SO.v rfl (opv_move rfl) ?_
          refine SO.cut 4 94 (.bool ((decide (4 ≤ x22.B)) && (decide (x22.B < 6)))) [Box b24 [.bool x22.Un, .int .i64 x22.A, .int .i64 x22.B, .int .i64 x22.Page, .int .i64 x22.Rights], Own 58 (ekI .u64) v18 s70, OwnO 57 kr_ref10_Slot vy6_0_2 raws51 A52 y6_0_2, OwnO 46 kr_ref10_Obj vy6_1_2 raws47 A48 y6_1_2, Box b6 [vy6_0_2, vy6_1_2, .int .i64 y6_2_2, .int .i64 y6_3_2], F] (fun l2 hk2 => ?_) ?_
          · rcases bool_or (decide (4 ≤ x22.B)) with b72 | b72
            · refine SO.takeT rfl rfl rfl b72 ?_
              refine SO.v rfl (opv_fieldAddr Try.underlying30 rfl Try.sizeOf3 rfl rfl) ?_
              refine SO.takeT rfl rfl rfl b72 ?_
              refine SO.load1 rfl Try.isAgg3 rfl rfl ?_
              refine SO.takeT rfl rfl rfl b72 ?_
              refine SO.v rfl (opv_lss rfl rfl) ?_
              refine SO.v rfl (opv_pick_t' b72 rfl rfl) ?_
              refine SO.b5 ?_
              refine SO.b5 ?_
              refine SO.b5 ?_
              refine SO.b5 ?_
              refine SO.b5 ?_
              refine SO.b5 ?_
              exact hk2.fitc (m := 4) rfl (and_t b72) rfl
            · refine SO.passF rfl rfl rfl b72 rfl rfl ?_
              refine SO.passF rfl rfl rfl b72 rfl rfl ?_
              refine SO.passF rfl rfl rfl b72 rfl rfl ?_
              refine SO.v rfl (opv_pick_f' b72 rfl rfl) ?_
              refine SO.b5 ?_
              refine SO.b5 ?_
              refine SO.b5 ?_
              refine SO.b5 ?_
              refine SO.b5 ?_
              refine SO.b5 ?_
              exact hk2.fitc (m := 4) rfl (and_f b72) rfl
          refine SO.v rfl (opv_move rfl) ?_
          refine SO.cut 4 99 (.bool (((decide (4 ≤ x22.B)) && (decide (x22.B < 6))) && (decide (0 ≤ x22.Page)))) [Box b24 [.bool x22.Un, .int .i64 x22.A, .int .i64 x22.B, .int .i64 x22.Page, .int .i64 x22.Rights], Own 58 (ekI .u64) v18 s70, OwnO 57 kr_ref10_Slot vy6_0_2 raws51 A52 y6_0_2, OwnO 46 kr_ref10_Obj vy6_1_2 raws47 A48 y6_1_2, Box b6 [vy6_0_2, vy6_1_2, .int .i64 y6_2_2, .int .i64 y6_3_2], F] (fun l2 hk2 => ?_) ?_
          · rcases bool_or ((decide (4 ≤ x22.B)) && (decide (x22.B < 6))) with b73 | b73
            · refine SO.takeT rfl rfl rfl b73 ?_
              refine SO.v rfl (opv_fieldAddr Try.underlying30 rfl Try.sizeOf3 rfl rfl) ?_
              refine SO.takeT rfl rfl rfl b73 ?_
              refine SO.load1 rfl Try.isAgg3 rfl rfl ?_
              refine SO.takeT rfl rfl rfl b73 ?_
              refine SO.v rfl (opv_geq rfl rfl) ?_
              refine SO.v rfl (opv_pick_t' b73 rfl rfl) ?_
              refine SO.b5 ?_
              refine SO.b5 ?_
              refine SO.b5 ?_
              refine SO.b5 ?_
              refine SO.b5 ?_
              refine SO.b5 ?_
              exact hk2.fitc (m := 4) rfl (and_t b73) rfl
            · refine SO.passF rfl rfl rfl b73 rfl rfl ?_
              refine SO.passF rfl rfl rfl b73 rfl rfl ?_
              refine SO.passF rfl rfl rfl b73 rfl rfl ?_
              refine SO.v rfl (opv_pick_f' b73 rfl rfl) ?_
              refine SO.b5 ?_
              refine SO.b5 ?_
              refine SO.b5 ?_
              refine SO.b5 ?_
              refine SO.b5 ?_
              refine SO.b5 ?_
              exact hk2.fitc (m := 4) rfl (and_f b73) rfl
          refine SO.v rfl (opv_move rfl) ?_
          refine SO.cut 4 104 (.bool ((((decide (4 ≤ x22.B)) && (decide (x22.B < 6))) && (decide (0 ≤ x22.Page))) && (decide (x22.Page < 4)))) [Box b24 [.bool x22.Un, .int .i64 x22.A, .int .i64 x22.B, .int .i64 x22.Page, .int .i64 x22.Rights], Own 58 (ekI .u64) v18 s70, OwnO 57 kr_ref10_Slot vy6_0_2 raws51 A52 y6_0_2, OwnO 46 kr_ref10_Obj vy6_1_2 raws47 A48 y6_1_2, Box b6 [vy6_0_2, vy6_1_2, .int .i64 y6_2_2, .int .i64 y6_3_2], F] (fun l2 hk2 => ?_) ?_
          · rcases bool_or (((decide (4 ≤ x22.B)) && (decide (x22.B < 6))) && (decide (0 ≤ x22.Page))) with b74 | b74
            · refine SO.takeT rfl rfl rfl b74 ?_
              refine SO.v rfl (opv_fieldAddr Try.underlying30 rfl Try.sizeOf3 rfl rfl) ?_
              refine SO.takeT rfl rfl rfl b74 ?_
              refine SO.load1 rfl Try.isAgg3 rfl rfl ?_
              refine SO.takeT rfl rfl rfl b74 ?_
              refine SO.v rfl (opv_lss rfl rfl) ?_
              refine SO.v rfl (opv_pick_t' b74 rfl rfl) ?_
              refine SO.b5 ?_
              refine SO.b5 ?_
              refine SO.b5 ?_
              refine SO.b5 ?_
              refine SO.b5 ?_
              refine SO.b5 ?_
              exact hk2.fitc (m := 4) rfl (and_t b74) rfl
            · refine SO.passF rfl rfl rfl b74 rfl rfl ?_
              refine SO.passF rfl rfl rfl b74 rfl rfl ?_
              refine SO.passF rfl rfl rfl b74 rfl rfl ?_
              refine SO.v rfl (opv_pick_f' b74 rfl rfl) ?_
              refine SO.b5 ?_
              refine SO.b5 ?_
              refine SO.b5 ?_
              refine SO.b5 ?_
              refine SO.b5 ?_
              refine SO.b5 ?_
              exact hk2.fitc (m := 4) rfl (and_f b74) rfl
          refine SO.nil ?_
          obtain ⟨⟨j13_3, j14_3⟩, hC3, hJ3⟩ := opt_bind h
          clear h
          refine S.cutP (G := Unit) (fun _ => True) (fun _ => [(0, v0), (2, .bool false), (3, .bool t1), (4, bp b6 0), (5, v18), (6, .int .i64 x6_1), (7, bp b24 0), (8, .int .i64 j8_2), (9, errV 53 j9_2), (10, .int .i64 t66), (11, .int .i64 t67), (12, .bool t68), (13, .int .i64 j13_3), (14, .int .i64 j14_3), (23, .int .i64 x6_1), (24, v0), (25, .int .i64 (a0.length : Int)), (26, .bool (decide (x6_1 < (a0.length : Int)))), (29, v0), (30, .int .i64 x6_1), (31, idxp v0 (x6_1.toNat * ek_law18_Deed.sz)), (32, .agg #[.bool x22.Un, .int .i64 x22.A, .int .i64 x22.B, .int .i64 x22.Page, .int .i64 x22.Rights]), (33, bp b24 0), (34, .bool x22.Un), (65, errV 53 j9_2), (66, .int .i64 t45), (67, .int .i64 j8_2), (68, .bool (t45 != j8_2)), (69, .bool (t45 != j8_2)), (75, .bool c56), (76, .tuple #[.int .i64 t66, .int .i64 t67, .bool t68]), (77, v18), (78, (plainV v18).val), (79, bp b24 2), (80, .int .i64 x22.B), (81, bp b24 3), (82, .int .i64 x22.Page), (83, .tuple #[.int .i64 t66, .int .i64 t67, .bool t68]), (84, .int .i64 t66), (85, .int .i64 t67), (86, .bool t68), (87, bp b24 2), (88, .int .i64 x22.B), (89, .bool (decide (4 ≤ x22.B))), (90, .bool (decide (4 ≤ x22.B))), (94, .bool ((decide (4 ≤ x22.B)) && (decide (x22.B < 6)))), (95, .bool ((decide (4 ≤ x22.B)) && (decide (x22.B < 6)))), (99, .bool (((decide (4 ≤ x22.B)) && (decide (x22.B < 6))) && (decide (0 ≤ x22.Page)))), (100, .bool (((decide (4 ≤ x22.B)) && (decide (x22.B < 6))) && (decide (0 ≤ x22.Page)))), (104, .bool ((((decide (4 ≤ x22.B)) && (decide (x22.B < 6))) && (decide (0 ≤ x22.Page))) && (decide (x22.Page < 4))))]) (fun _ => [Box b24 [.bool x22.Un, .int .i64 x22.A, .int .i64 x22.B, .int .i64 x22.Page, .int .i64 x22.Rights], Own 58 (ekI .u64) v18 s70, OwnO 57 kr_ref10_Slot vy6_0_2 raws51 A52 y6_0_2, OwnO 46 kr_ref10_Obj vy6_1_2 raws47 A48 y6_1_2, Box b6 [vy6_0_2, vy6_1_2, .int .i64 y6_2_2, .int .i64 y6_3_2], F]) (fun hk3 => ?_) ?_
          · replace h := hC3
            rcases bool_or ((((decide (4 ≤ x22.B)) && (decide (x22.B < 6))) && (decide (0 ≤ x22.Page))) && (decide (x22.Page < 4))) with b75 | b75
            · replace h := cond_t b75 h
              refine S.condT rfl b75 ?_
              refine S.seq ?_
              obtain ⟨x76, hx77, h⟩ := opt_bind h
              obtain ⟨r78, hr79, hc80⟩ := relR.at hrel49 hx77
              obtain ⟨x81, hx82, h⟩ := opt_bind h
              refine S.draw' (Z := fun Q => ∀ (_ : Unit) (_ : Unit) (_ : Unit) (_ : Unit) (_ : Unit) (_ : Unit) (_ : Unit) (_ : Unit) (_ : Unit) (_ : Unit) (_ : Unit) (_ : Unit) (_ : Unit) (_ : Unit) (_ : Unit) (_ : Unit) (_ : Unit) (_ : Unit) (_ : Unit) (_ : Unit) (_ : Unit) (_ : Unit), Q [(104, .bool ((((decide (4 ≤ x22.B)) && (decide (x22.B < 6))) && (decide (0 ≤ x22.Page))) && (decide (x22.Page < 4)))), (100, .bool (((decide (4 ≤ x22.B)) && (decide (x22.B < 6))) && (decide (0 ≤ x22.Page)))), (99, .bool (((decide (4 ≤ x22.B)) && (decide (x22.B < 6))) && (decide (0 ≤ x22.Page)))), (95, .bool ((decide (4 ≤ x22.B)) && (decide (x22.B < 6)))), (94, .bool ((decide (4 ≤ x22.B)) && (decide (x22.B < 6)))), (90, .bool (decide (4 ≤ x22.B))), (89, .bool (decide (4 ≤ x22.B))), (88, .int .i64 x22.B), (87, bp b24 2), (14, .int .i64 0), (12, .bool t68), (11, .int .i64 t67), (10, .int .i64 t66), (86, .bool t68), (85, .int .i64 t67), (84, .int .i64 t66), (76, .tuple #[.int .i64 t66, .int .i64 t67, .bool t68]), (83, .tuple #[.int .i64 t66, .int .i64 t67, .bool t68]), (82, .int .i64 x22.Page), (81, bp b24 3), (80, .int .i64 x22.B), (79, bp b24 2), (78, (plainV v18).val), (77, v18), (75, .bool c56), (69, .bool (t45 != j8_2)), (68, .bool (t45 != j8_2)), (67, .int .i64 j8_2), (66, .int .i64 t45), (65, errV 53 j9_2), (0, v0), (2, .bool false), (3, .bool t1), (5, v18), (6, .int .i64 x6_1), (8, .int .i64 j8_2), (9, errV 53 j9_2), (23, .int .i64 x6_1), (24, v0), (25, .int .i64 (a0.length : Int)), (26, .bool (decide (x6_1 < (a0.length : Int)))), (29, v0), (30, .int .i64 x6_1), (31, idxp v0 (x6_1.toNat * ek_law18_Deed.sz)), (32, .agg #[.bool x22.Un, .int .i64 x22.A, .int .i64 x22.B, .int .i64 x22.Page, .int .i64 x22.Rights]), (33, bp b24 0), (34, .bool x22.Un), (4, bp b6 0), (7, bp b24 0), (13, .int .i64 x81), (105, bp b6 0), (106, bp b6 0), (107, bp b6 1), (108, vy6_1_2), (109, bp b24 2), (110, .int .i64 x22.B), (111, bp b24 3), (112, .int .i64 x22.Page), (113, idxp vy6_1_2 (x22.B.toNat * kr_ref10_Obj.sz)), (114, idxp vy6_1_2 (x22.B.toNat * kr_ref10_Obj.sz + 20)), (115, idxp vy6_1_2 (x22.B.toNat * kr_ref10_Obj.sz + 20 + x22.Page.toNat)), (116, .int .i64 x81)] [Box b24 [.bool x22.Un, .int .i64 x22.A, .int .i64 x22.B, .int .i64 x22.Page, .int .i64 x22.Rights], Own 58 (ekI .u64) v18 s70, OwnO 57 kr_ref10_Slot vy6_0_2 raws51 A52 y6_0_2, OwnO 46 kr_ref10_Obj vy6_1_2 raws47 A48 y6_1_2, Box b6 [vy6_0_2, vy6_1_2, .int .i64 y6_2_2, .int .i64 y6_3_2], F]) (T := [tS 4 (bp b6 0), tS 7 (bp b24 0), tE [(104, .bool ((((decide (4 ≤ x22.B)) && (decide (x22.B < 6))) && (decide (0 ≤ x22.Page))) && (decide (x22.Page < 4)))), (100, .bool (((decide (4 ≤ x22.B)) && (decide (x22.B < 6))) && (decide (0 ≤ x22.Page)))), (99, .bool (((decide (4 ≤ x22.B)) && (decide (x22.B < 6))) && (decide (0 ≤ x22.Page)))), (95, .bool ((decide (4 ≤ x22.B)) && (decide (x22.B < 6)))), (94, .bool ((decide (4 ≤ x22.B)) && (decide (x22.B < 6)))), (90, .bool (decide (4 ≤ x22.B))), (89, .bool (decide (4 ≤ x22.B))), (88, .int .i64 x22.B), (87, bp b24 2), (14, .int .i64 0), (12, .bool t68), (11, .int .i64 t67), (10, .int .i64 t66), (86, .bool t68), (85, .int .i64 t67), (84, .int .i64 t66), (76, .tuple #[.int .i64 t66, .int .i64 t67, .bool t68]), (83, .tuple #[.int .i64 t66, .int .i64 t67, .bool t68]), (82, .int .i64 x22.Page), (81, bp b24 3), (80, .int .i64 x22.B), (79, bp b24 2), (78, (plainV v18).val), (77, v18), (75, .bool c56), (69, .bool (t45 != j8_2)), (68, .bool (t45 != j8_2)), (67, .int .i64 j8_2), (66, .int .i64 t45), (65, errV 53 j9_2), (0, v0), (2, .bool false), (3, .bool t1), (5, v18), (6, .int .i64 x6_1), (8, .int .i64 j8_2), (9, errV 53 j9_2), (23, .int .i64 x6_1), (24, v0), (25, .int .i64 (a0.length : Int)), (26, .bool (decide (x6_1 < (a0.length : Int)))), (29, v0), (30, .int .i64 x6_1), (31, idxp v0 (x6_1.toNat * ek_law18_Deed.sz)), (32, .agg #[.bool x22.Un, .int .i64 x22.A, .int .i64 x22.B, .int .i64 x22.Page, .int .i64 x22.Rights]), (33, bp b24 0), (34, .bool x22.Un)], tR (Box b24 [.bool x22.Un, .int .i64 x22.A, .int .i64 x22.B, .int .i64 x22.Page, .int .i64 x22.Rights]), tR (Own 58 (ekI .u64) v18 s70), tR (OwnO 57 kr_ref10_Slot vy6_0_2 raws51 A52 y6_0_2), tR (OwnO 46 kr_ref10_Obj vy6_1_2 raws47 A48 y6_1_2), tR (Box b6 [vy6_0_2, vy6_1_2, .int .i64 y6_2_2, .int .i64 y6_3_2]), tR (F), tS 105 (bp b6 0), tS 106 (bp b6 0), tS 107 (bp b6 1), tS 108 (vy6_1_2), tS 109 (bp b24 2), tS 110 (.int .i64 x22.B), tS 111 (bp b24 3), tS 112 (.int .i64 x22.Page), tS 113 (idxp vy6_1_2 (x22.B.toNat * kr_ref10_Obj.sz)), tS 114 (idxp vy6_1_2 (x22.B.toNat * kr_ref10_Obj.sz + 20)), tS 115 (idxp vy6_1_2 (x22.B.toNat * kr_ref10_Obj.sz + 20 + x22.Page.toNat)), tS 116 (.int .i64 x81), tS 13 (.int .i64 x81)]) (D := [⟨[0], [], [9]⟩, ⟨[9], [], [10]⟩, ⟨[10], [], [11]⟩, ⟨[11, 7], [], [12]⟩, ⟨[1], [], [13]⟩, ⟨[13, 3], [], [14]⟩, ⟨[1], [], [15]⟩, ⟨[15, 3], [], [16]⟩, ⟨[12, 14, 6], [], [17]⟩, ⟨[17, 6], [], [18]⟩, ⟨[16, 18, 6], [], [19]⟩, ⟨[19, 6], [], [20]⟩, ⟨[20], [], [21]⟩]) (ini := [0, 1, 2, 3, 4, 5, 6, 7, 8]) (fin := [2, 0, 1, 21, 9, 10, 11, 12, 13, 14, 15, 16, 17, 18, 19, 20, 3, 4, 5, 6, 7, 8]) (bf := [[], [0], [0, 1], [0, 1, 2], [], [4], [], [6], [0, 1, 2, 3, 4, 5], [0, 1, 2, 3, 4, 5, 8], [0, 1, 2, 3, 4, 5, 6, 7, 8, 9], [0, 1, 2, 3, 4, 5, 6, 7, 8, 9, 10], [0, 1, 2, 3, 4, 5, 6, 7, 8, 9, 10, 11]]) (by kernel_rfl) (by kernel_rfl) (fun x w h1 h2 => (.cons () (.cons () (.cons () (.cons () (.cons () (.cons () (.cons () (.cons () (.cons () (.nil ⟨EnvAll.of h1 ⟨rfl, rfl, rfl, rfl, rfl, rfl, rfl, rfl, rfl, rfl, rfl, rfl, rfl, rfl, rfl, rfl, rfl, rfl, rfl, rfl, rfl, rfl, rfl, rfl, rfl, rfl, rfl, rfl, rfl, rfl, rfl, rfl, rfl, rfl, rfl, rfl, rfl, rfl, rfl, rfl, rfl, rfl, rfl, rfl, rfl, rfl, rfl, rfl, rfl, trivial⟩, h2⟩))))))))))) (fun Q => by kernel_rfl) ⟨?_, ?_, ?_, ?_, ?_, ?_, ?_, ?_, ?_, ?_, ?_, ?_, ?_, trivial⟩ ?_
              · rintro Fr _
                refine SO.v rfl (opv_move rfl) ?_
                exact SO.nilZ fun a w h1 h2 h3 h4 h5 => PZ.of h1 h3 h5 (.cons () (.cons () (.nil ⟨EnvAll.of h2 ⟨rfl, rfl, trivial⟩, h4⟩)))
              · rintro Fr _
                refine SO.v rfl (opv_nilCheck rfl) ?_
                exact SO.nilZ fun a w h1 h2 h3 h4 h5 => PZ.of h1 h3 h5 (.cons () (.cons () (.nil ⟨EnvAll.of h2 ⟨rfl, rfl, trivial⟩, h4⟩)))
              · rintro Fr _
                refine SO.v rfl (opv_fieldAddr Try.underlying50 rfl Try.sizeOf48 rfl rfl) ?_
                exact SO.nilZ fun a w h1 h2 h3 h4 h5 => PZ.of h1 h3 h5 (.cons () (.cons () (.nil ⟨EnvAll.of h2 ⟨rfl, rfl, trivial⟩, h4⟩)))
              · rintro Fr _ _
                refine SO.load1 rfl Try.isAgg48 rfl rfl ?_
                exact SO.nilZ fun a w h1 h2 h3 h4 h5 => PZ.of h1 h3 h5 (.cons () (.cons () (.cons () (.nil ⟨EnvAll.of h2 ⟨rfl, rfl, trivial⟩, h4⟩))))
              · rintro Fr _
                refine SO.v rfl (opv_fieldAddr Try.underlying30 rfl Try.sizeOf3 rfl rfl) ?_
                exact SO.nilZ fun a w h1 h2 h3 h4 h5 => PZ.of h1 h3 h5 (.cons () (.cons () (.nil ⟨EnvAll.of h2 ⟨rfl, rfl, trivial⟩, h4⟩)))
              · rintro Fr _ _
                refine SO.load1 rfl Try.isAgg3 rfl rfl ?_
                exact SO.nilZ fun a w h1 h2 h3 h4 h5 => PZ.of h1 h3 h5 (.cons () (.cons () (.cons () (.nil ⟨EnvAll.of h2 ⟨rfl, rfl, trivial⟩, h4⟩))))
              · rintro Fr _
                refine SO.v rfl (opv_fieldAddr Try.underlying30 rfl Try.sizeOf3 rfl rfl) ?_
                exact SO.nilZ fun a w h1 h2 h3 h4 h5 => PZ.of h1 h3 h5 (.cons () (.cons () (.nil ⟨EnvAll.of h2 ⟨rfl, rfl, trivial⟩, h4⟩)))
              · rintro Fr _ _
                refine SO.load1 rfl Try.isAgg3 rfl rfl ?_
                exact SO.nilZ fun a w h1 h2 h3 h4 h5 => PZ.of h1 h3 h5 (.cons () (.cons () (.cons () (.nil ⟨EnvAll.of h2 ⟨rfl, rfl, trivial⟩, h4⟩))))
              · rintro Fr _ _ _
                refine SO.v rfl (opv_idx Try.underlying48 Try.sizeOf46 hR50 rfl rfl hr79) ?_
                exact SO.nilZ fun a w h1 h2 h3 h4 h5 => PZ.of h1 h3 h5 (.cons () (.cons () (.cons () (.cons () (.nil ⟨EnvAll.of h2 ⟨rfl, rfl, rfl, trivial⟩, h4⟩)))))
              · rintro Fr _ _
                refine SO.v rfl (opv_fieldIdx Try.underlying46 rfl Try.sizeOf44 hR50 hr79 rfl rfl) ?_
                exact SO.nilZ fun a w h1 h2 h3 h4 h5 => PZ.of h1 h3 h5 (.cons () (.cons () (.cons () (.nil ⟨EnvAll.of h2 ⟨rfl, rfl, trivial⟩, h4⟩))))
              · rintro Fr _ _ _
                refine SO.v rfl (opv_idxAI Try.underlying44 Try.sizeOf3 hR50 hr79 rfl rfl hx82) ?_
                exact SO.nilZ fun a w h1 h2 h3 h4 h5 => PZ.of h1 h3 h5 (.cons () (.cons () (.cons () (.cons () (.nil ⟨EnvAll.of h2 ⟨rfl, rfl, rfl, trivial⟩, h4⟩)))))
              · rintro Fr _ _
                refine SO.loadI1 (j := 20 + x22.Page.toNat) (u := .int .i64 x81) rfl Try.isAgg3 (Rd.head hR50) hr79 rfl (Nat.add_assoc _ _ _).symm (by rcases A4.get_cases hx82 with ⟨h1, h2⟩ | ⟨h1, h2⟩ | ⟨h1, h2⟩ | ⟨h1, h2⟩ <;> simp only [h1, h2] <;> rfl) (hc80.val (by rcases A4.get_cases hx82 with ⟨h1, h2⟩ | ⟨h1, h2⟩ | ⟨h1, h2⟩ | ⟨h1, h2⟩ <;> simp only [h1, h2] <;> rfl)) ?_
                exact SO.nilZ fun a w h1 h2 h3 h4 h5 => PZ.of h1 h3 h5 (.cons () (.cons () (.cons () (.nil ⟨EnvAll.of h2 ⟨rfl, rfl, trivial⟩, h4⟩))))
              · rintro Fr _
                refine SO.v rfl (opv_assign rfl) ?_
                exact SO.nilZ fun a w h1 h2 h3 h4 h5 => PZ.of h1 h3 h5 (.cons () (.cons () (.nil ⟨EnvAll.of h2 ⟨rfl, rfl, trivial⟩, h4⟩)))
              rintro _ _ _ _ _ _ _ _ _ _ _ _ _ _ _ _ _ _ _ _ _ _
              refine S.to (ρ' := [(104, .bool ((((decide (4 ≤ x22.B)) && (decide (x22.B < 6))) && (decide (0 ≤ x22.Page))) && (decide (x22.Page < 4)))), (100, .bool (((decide (4 ≤ x22.B)) && (decide (x22.B < 6))) && (decide (0 ≤ x22.Page)))), (99, .bool (((decide (4 ≤ x22.B)) && (decide (x22.B < 6))) && (decide (0 ≤ x22.Page)))), (95, .bool ((decide (4 ≤ x22.B)) && (decide (x22.B < 6)))), (94, .bool ((decide (4 ≤ x22.B)) && (decide (x22.B < 6)))), (90, .bool (decide (4 ≤ x22.B))), (89, .bool (decide (4 ≤ x22.B))), (88, .int .i64 x22.B), (87, bp b24 2), (14, .int .i64 0), (12, .bool t68), (11, .int .i64 t67), (10, .int .i64 t66), (86, .bool t68), (85, .int .i64 t67), (84, .int .i64 t66), (76, .tuple #[.int .i64 t66, .int .i64 t67, .bool t68]), (83, .tuple #[.int .i64 t66, .int .i64 t67, .bool t68]), (82, .int .i64 x22.Page), (81, bp b24 3), (80, .int .i64 x22.B), (79, bp b24 2), (78, (plainV v18).val), (77, v18), (75, .bool c56), (69, .bool (t45 != j8_2)), (68, .bool (t45 != j8_2)), (67, .int .i64 j8_2), (66, .int .i64 t45), (65, errV 53 j9_2), (0, v0), (2, .bool false), (3, .bool t1), (5, v18), (6, .int .i64 x6_1), (8, .int .i64 j8_2), (9, errV 53 j9_2), (23, .int .i64 x6_1), (24, v0), (25, .int .i64 (a0.length : Int)), (26, .bool (decide (x6_1 < (a0.length : Int)))), (29, v0), (30, .int .i64 x6_1), (31, idxp v0 (x6_1.toNat * ek_law18_Deed.sz)), (32, .agg #[.bool x22.Un, .int .i64 x22.A, .int .i64 x22.B, .int .i64 x22.Page, .int .i64 x22.Rights]), (33, bp b24 0), (34, .bool x22.Un), (4, bp b6 0), (7, bp b24 0), (13, .int .i64 x81), (105, bp b6 0), (106, bp b6 0), (107, bp b6 1), (108, vy6_1_2), (109, bp b24 2), (110, .int .i64 x22.B), (111, bp b24 3), (112, .int .i64 x22.Page), (113, idxp vy6_1_2 (x22.B.toNat * kr_ref10_Obj.sz)), (114, idxp vy6_1_2 (x22.B.toNat * kr_ref10_Obj.sz + 20)), (115, idxp vy6_1_2 (x22.B.toNat * kr_ref10_Obj.sz + 20 + x22.Page.toNat)), (116, .int .i64 x81)]) ⟨rfl, rfl, rfl, rfl, rfl, rfl, rfl, rfl, rfl, rfl, rfl, rfl, rfl, rfl, rfl, rfl, rfl, rfl, rfl, rfl, rfl, rfl, rfl, rfl, rfl, rfl, rfl, rfl, rfl, rfl, rfl, rfl, rfl, rfl, rfl, rfl, rfl, rfl, rfl, rfl, rfl, rfl, rfl, rfl, rfl, rfl, rfl, rfl, rfl, rfl, rfl, rfl, rfl, rfl, rfl, rfl, rfl, rfl, rfl, rfl, rfl, rfl, trivial⟩ ?_
              obtain ⟨x83, hx84, h⟩ := opt_bind h
              obtain ⟨r85, hr86, hc87⟩ := relR.at hrel49 hx84
              obtain ⟨x88, hx89, h⟩ := opt_bind h
              refine S.draw' (Z := fun Q => ∀ (_ : Unit) (_ : Unit) (_ : Unit) (_ : Unit) (_ : Unit) (_ : Unit) (_ : Unit) (_ : Unit) (_ : Unit) (_ : Unit) (_ : Unit) (_ : Unit) (_ : Unit) (_ : Unit) (_ : Unit) (_ : Unit) (_ : Unit) (_ : Unit) (_ : Unit) (_ : Unit) (_ : Unit) (_ : Unit), Q [(104, .bool ((((decide (4 ≤ x22.B)) && (decide (x22.B < 6))) && (decide (0 ≤ x22.Page))) && (decide (x22.Page < 4)))), (100, .bool (((decide (4 ≤ x22.B)) && (decide (x22.B < 6))) && (decide (0 ≤ x22.Page)))), (99, .bool (((decide (4 ≤ x22.B)) && (decide (x22.B < 6))) && (decide (0 ≤ x22.Page)))), (95, .bool ((decide (4 ≤ x22.B)) && (decide (x22.B < 6)))), (94, .bool ((decide (4 ≤ x22.B)) && (decide (x22.B < 6)))), (90, .bool (decide (4 ≤ x22.B))), (89, .bool (decide (4 ≤ x22.B))), (88, .int .i64 x22.B), (87, bp b24 2), (12, .bool t68), (11, .int .i64 t67), (10, .int .i64 t66), (86, .bool t68), (85, .int .i64 t67), (84, .int .i64 t66), (76, .tuple #[.int .i64 t66, .int .i64 t67, .bool t68]), (83, .tuple #[.int .i64 t66, .int .i64 t67, .bool t68]), (82, .int .i64 x22.Page), (81, bp b24 3), (80, .int .i64 x22.B), (79, bp b24 2), (78, (plainV v18).val), (77, v18), (75, .bool c56), (69, .bool (t45 != j8_2)), (68, .bool (t45 != j8_2)), (67, .int .i64 j8_2), (66, .int .i64 t45), (65, errV 53 j9_2), (0, v0), (2, .bool false), (3, .bool t1), (5, v18), (6, .int .i64 x6_1), (8, .int .i64 j8_2), (9, errV 53 j9_2), (23, .int .i64 x6_1), (24, v0), (25, .int .i64 (a0.length : Int)), (26, .bool (decide (x6_1 < (a0.length : Int)))), (29, v0), (30, .int .i64 x6_1), (31, idxp v0 (x6_1.toNat * ek_law18_Deed.sz)), (32, .agg #[.bool x22.Un, .int .i64 x22.A, .int .i64 x22.B, .int .i64 x22.Page, .int .i64 x22.Rights]), (33, bp b24 0), (34, .bool x22.Un), (13, .int .i64 x81), (105, bp b6 0), (106, bp b6 0), (107, bp b6 1), (108, vy6_1_2), (109, bp b24 2), (110, .int .i64 x22.B), (111, bp b24 3), (112, .int .i64 x22.Page), (113, idxp vy6_1_2 (x22.B.toNat * kr_ref10_Obj.sz)), (114, idxp vy6_1_2 (x22.B.toNat * kr_ref10_Obj.sz + 20)), (115, idxp vy6_1_2 (x22.B.toNat * kr_ref10_Obj.sz + 20 + x22.Page.toNat)), (116, .int .i64 x81), (14, .int .i64 x88), (4, bp b6 0), (7, bp b24 0), (117, bp b6 0), (118, bp b6 0), (119, bp b6 1), (120, vy6_1_2), (121, bp b24 2), (122, .int .i64 x22.B), (123, bp b24 3), (124, .int .i64 x22.Page), (125, idxp vy6_1_2 (x22.B.toNat * kr_ref10_Obj.sz)), (126, idxp vy6_1_2 (x22.B.toNat * kr_ref10_Obj.sz + 24)), (127, idxp vy6_1_2 (x22.B.toNat * kr_ref10_Obj.sz + 24 + x22.Page.toNat)), (128, .int .i64 x88)] [Box b24 [.bool x22.Un, .int .i64 x22.A, .int .i64 x22.B, .int .i64 x22.Page, .int .i64 x22.Rights], Own 58 (ekI .u64) v18 s70, OwnO 57 kr_ref10_Slot vy6_0_2 raws51 A52 y6_0_2, OwnO 46 kr_ref10_Obj vy6_1_2 raws47 A48 y6_1_2, Box b6 [vy6_0_2, vy6_1_2, .int .i64 y6_2_2, .int .i64 y6_3_2], F]) (T := [tS 4 (bp b6 0), tS 7 (bp b24 0), tE [(104, .bool ((((decide (4 ≤ x22.B)) && (decide (x22.B < 6))) && (decide (0 ≤ x22.Page))) && (decide (x22.Page < 4)))), (100, .bool (((decide (4 ≤ x22.B)) && (decide (x22.B < 6))) && (decide (0 ≤ x22.Page)))), (99, .bool (((decide (4 ≤ x22.B)) && (decide (x22.B < 6))) && (decide (0 ≤ x22.Page)))), (95, .bool ((decide (4 ≤ x22.B)) && (decide (x22.B < 6)))), (94, .bool ((decide (4 ≤ x22.B)) && (decide (x22.B < 6)))), (90, .bool (decide (4 ≤ x22.B))), (89, .bool (decide (4 ≤ x22.B))), (88, .int .i64 x22.B), (87, bp b24 2), (12, .bool t68), (11, .int .i64 t67), (10, .int .i64 t66), (86, .bool t68), (85, .int .i64 t67), (84, .int .i64 t66), (76, .tuple #[.int .i64 t66, .int .i64 t67, .bool t68]), (83, .tuple #[.int .i64 t66, .int .i64 t67, .bool t68]), (82, .int .i64 x22.Page), (81, bp b24 3), (80, .int .i64 x22.B), (79, bp b24 2), (78, (plainV v18).val), (77, v18), (75, .bool c56), (69, .bool (t45 != j8_2)), (68, .bool (t45 != j8_2)), (67, .int .i64 j8_2), (66, .int .i64 t45), (65, errV 53 j9_2), (0, v0), (2, .bool false), (3, .bool t1), (5, v18), (6, .int .i64 x6_1), (8, .int .i64 j8_2), (9, errV 53 j9_2), (23, .int .i64 x6_1), (24, v0), (25, .int .i64 (a0.length : Int)), (26, .bool (decide (x6_1 < (a0.length : Int)))), (29, v0), (30, .int .i64 x6_1), (31, idxp v0 (x6_1.toNat * ek_law18_Deed.sz)), (32, .agg #[.bool x22.Un, .int .i64 x22.A, .int .i64 x22.B, .int .i64 x22.Page, .int .i64 x22.Rights]), (33, bp b24 0), (34, .bool x22.Un), (13, .int .i64 x81), (105, bp b6 0), (106, bp b6 0), (107, bp b6 1), (108, vy6_1_2), (109, bp b24 2), (110, .int .i64 x22.B), (111, bp b24 3), (112, .int .i64 x22.Page), (113, idxp vy6_1_2 (x22.B.toNat * kr_ref10_Obj.sz)), (114, idxp vy6_1_2 (x22.B.toNat * kr_ref10_Obj.sz + 20)), (115, idxp vy6_1_2 (x22.B.toNat * kr_ref10_Obj.sz + 20 + x22.Page.toNat)), (116, .int .i64 x81)], tR (Box b24 [.bool x22.Un, .int .i64 x22.A, .int .i64 x22.B, .int .i64 x22.Page, .int .i64 x22.Rights]), tR (Own 58 (ekI .u64) v18 s70), tR (OwnO 57 kr_ref10_Slot vy6_0_2 raws51 A52 y6_0_2), tR (OwnO 46 kr_ref10_Obj vy6_1_2 raws47 A48 y6_1_2), tR (Box b6 [vy6_0_2, vy6_1_2, .int .i64 y6_2_2, .int .i64 y6_3_2]), tR (F), tS 117 (bp b6 0), tS 118 (bp b6 0), tS 119 (bp b6 1), tS 120 (vy6_1_2), tS 121 (bp b24 2), tS 122 (.int .i64 x22.B), tS 123 (bp b24 3), tS 124 (.int .i64 x22.Page), tS 125 (idxp vy6_1_2 (x22.B.toNat * kr_ref10_Obj.sz)), tS 126 (idxp vy6_1_2 (x22.B.toNat * kr_ref10_Obj.sz + 24)), tS 127 (idxp vy6_1_2 (x22.B.toNat * kr_ref10_Obj.sz + 24 + x22.Page.toNat)), tS 128 (.int .i64 x88), tS 14 (.int .i64 x88)]) (D := [⟨[0], [], [9]⟩, ⟨[9], [], [10]⟩, ⟨[10], [], [11]⟩, ⟨[11, 7], [], [12]⟩, ⟨[1], [], [13]⟩, ⟨[13, 3], [], [14]⟩, ⟨[1], [], [15]⟩, ⟨[15, 3], [], [16]⟩, ⟨[12, 14, 6], [], [17]⟩, ⟨[17, 6], [], [18]⟩, ⟨[16, 18, 6], [], [19]⟩, ⟨[19, 6], [], [20]⟩, ⟨[20], [], [21]⟩]) (ini := [0, 1, 2, 3, 4, 5, 6, 7, 8]) (fin := [2, 21, 0, 1, 9, 10, 11, 12, 13, 14, 15, 16, 17, 18, 19, 20, 3, 4, 5, 6, 7, 8]) (bf := [[], [0], [0, 1], [0, 1, 2], [], [4], [], [6], [0, 1, 2, 3, 4, 5], [0, 1, 2, 3, 4, 5, 8], [0, 1, 2, 3, 4, 5, 6, 7, 8, 9], [0, 1, 2, 3, 4, 5, 6, 7, 8, 9, 10], [0, 1, 2, 3, 4, 5, 6, 7, 8, 9, 10, 11]]) (by kernel_rfl) (by kernel_rfl) (fun x w h1 h2 => (.cons () (.cons () (.cons () (.cons () (.cons () (.cons () (.cons () (.cons () (.cons () (.nil ⟨EnvAll.of h1 ⟨rfl, rfl, rfl, rfl, rfl, rfl, rfl, rfl, rfl, rfl, rfl, rfl, rfl, rfl, rfl, rfl, rfl, rfl, rfl, rfl, rfl, rfl, rfl, rfl, rfl, rfl, rfl, rfl, rfl, rfl, rfl, rfl, rfl, rfl, rfl, rfl, rfl, rfl, rfl, rfl, rfl, rfl, rfl, rfl, rfl, rfl, rfl, rfl, rfl, rfl, rfl, rfl, rfl, rfl, rfl, rfl, rfl, rfl, rfl, rfl, rfl, trivial⟩, h2⟩))))))))))) (fun Q => by kernel_rfl) ⟨?_, ?_, ?_, ?_, ?_, ?_, ?_, ?_, ?_, ?_, ?_, ?_, ?_, trivial⟩ ?_
              · rintro Fr _
                refine SO.v rfl (opv_move rfl) ?_
                exact SO.nilZ fun a w h1 h2 h3 h4 h5 => PZ.of h1 h3 h5 (.cons () (.cons () (.nil ⟨EnvAll.of h2 ⟨rfl, rfl, trivial⟩, h4⟩)))
              · rintro Fr _
                refine SO.v rfl (opv_nilCheck rfl) ?_
                exact SO.nilZ fun a w h1 h2 h3 h4 h5 => PZ.of h1 h3 h5 (.cons () (.cons () (.nil ⟨EnvAll.of h2 ⟨rfl, rfl, trivial⟩, h4⟩)))
              · rintro Fr _
                refine SO.v rfl (opv_fieldAddr Try.underlying50 rfl Try.sizeOf48 rfl rfl) ?_
                exact SO.nilZ fun a w h1 h2 h3 h4 h5 => PZ.of h1 h3 h5 (.cons () (.cons () (.nil ⟨EnvAll.of h2 ⟨rfl, rfl, trivial⟩, h4⟩)))
              · rintro Fr _ _
                refine SO.load1 rfl Try.isAgg48 rfl rfl ?_
                exact SO.nilZ fun a w h1 h2 h3 h4 h5 => PZ.of h1 h3 h5 (.cons () (.cons () (.cons () (.nil ⟨EnvAll.of h2 ⟨rfl, rfl, trivial⟩, h4⟩))))
              · rintro Fr _
                refine SO.v rfl (opv_fieldAddr Try.underlying30 rfl Try.sizeOf3 rfl rfl) ?_
                exact SO.nilZ fun a w h1 h2 h3 h4 h5 => PZ.of h1 h3 h5 (.cons () (.cons () (.nil ⟨EnvAll.of h2 ⟨rfl, rfl, trivial⟩, h4⟩)))
              · rintro Fr _ _
                refine SO.load1 rfl Try.isAgg3 rfl rfl ?_
                exact SO.nilZ fun a w h1 h2 h3 h4 h5 => PZ.of h1 h3 h5 (.cons () (.cons () (.cons () (.nil ⟨EnvAll.of h2 ⟨rfl, rfl, trivial⟩, h4⟩))))
              · rintro Fr _
                refine SO.v rfl (opv_fieldAddr Try.underlying30 rfl Try.sizeOf3 rfl rfl) ?_
                exact SO.nilZ fun a w h1 h2 h3 h4 h5 => PZ.of h1 h3 h5 (.cons () (.cons () (.nil ⟨EnvAll.of h2 ⟨rfl, rfl, trivial⟩, h4⟩)))
              · rintro Fr _ _
                refine SO.load1 rfl Try.isAgg3 rfl rfl ?_
                exact SO.nilZ fun a w h1 h2 h3 h4 h5 => PZ.of h1 h3 h5 (.cons () (.cons () (.cons () (.nil ⟨EnvAll.of h2 ⟨rfl, rfl, trivial⟩, h4⟩))))
              · rintro Fr _ _ _
                refine SO.v rfl (opv_idx Try.underlying48 Try.sizeOf46 hR50 rfl rfl hr86) ?_
                exact SO.nilZ fun a w h1 h2 h3 h4 h5 => PZ.of h1 h3 h5 (.cons () (.cons () (.cons () (.cons () (.nil ⟨EnvAll.of h2 ⟨rfl, rfl, rfl, trivial⟩, h4⟩)))))
              · rintro Fr _ _
                refine SO.v rfl (opv_fieldIdx Try.underlying46 rfl Try.sizeOf44 hR50 hr86 rfl rfl) ?_
                exact SO.nilZ fun a w h1 h2 h3 h4 h5 => PZ.of h1 h3 h5 (.cons () (.cons () (.cons () (.nil ⟨EnvAll.of h2 ⟨rfl, rfl, trivial⟩, h4⟩))))
              · rintro Fr _ _ _
                refine SO.v rfl (opv_idxAI Try.underlying44 Try.sizeOf3 hR50 hr86 rfl rfl hx89) ?_
                exact SO.nilZ fun a w h1 h2 h3 h4 h5 => PZ.of h1 h3 h5 (.cons () (.cons () (.cons () (.cons () (.nil ⟨EnvAll.of h2 ⟨rfl, rfl, rfl, trivial⟩, h4⟩)))))
              · rintro Fr _ _
                refine SO.loadI1 (j := 24 + x22.Page.toNat) (u := .int .i64 x88) rfl Try.isAgg3 (Rd.head hR50) hr86 rfl (Nat.add_assoc _ _ _).symm (by rcases A4.get_cases hx89 with ⟨h1, h2⟩ | ⟨h1, h2⟩ | ⟨h1, h2⟩ | ⟨h1, h2⟩ <;> simp only [h1, h2] <;> rfl) (hc87.val (by rcases A4.get_cases hx89 with ⟨h1, h2⟩ | ⟨h1, h2⟩ | ⟨h1, h2⟩ | ⟨h1, h2⟩ <;> simp only [h1, h2] <;> rfl)) ?_
                exact SO.nilZ fun a w h1 h2 h3 h4 h5 => PZ.of h1 h3 h5 (.cons () (.cons () (.cons () (.nil ⟨EnvAll.of h2 ⟨rfl, rfl, trivial⟩, h4⟩))))
              · rintro Fr _
                refine SO.v rfl (opv_assign rfl) ?_
                exact SO.nilZ fun a w h1 h2 h3 h4 h5 => PZ.of h1 h3 h5 (.cons () (.cons () (.nil ⟨EnvAll.of h2 ⟨rfl, rfl, trivial⟩, h4⟩)))
              rintro _ _ _ _ _ _ _ _ _ _ _ _ _ _ _ _ _ _ _ _ _ _
              refine S.to (ρ' := [(104, .bool ((((decide (4 ≤ x22.B)) && (decide (x22.B < 6))) && (decide (0 ≤ x22.Page))) && (decide (x22.Page < 4)))), (100, .bool (((decide (4 ≤ x22.B)) && (decide (x22.B < 6))) && (decide (0 ≤ x22.Page)))), (99, .bool (((decide (4 ≤ x22.B)) && (decide (x22.B < 6))) && (decide (0 ≤ x22.Page)))), (95, .bool ((decide (4 ≤ x22.B)) && (decide (x22.B < 6)))), (94, .bool ((decide (4 ≤ x22.B)) && (decide (x22.B < 6)))), (90, .bool (decide (4 ≤ x22.B))), (89, .bool (decide (4 ≤ x22.B))), (88, .int .i64 x22.B), (87, bp b24 2), (12, .bool t68), (11, .int .i64 t67), (10, .int .i64 t66), (86, .bool t68), (85, .int .i64 t67), (84, .int .i64 t66), (76, .tuple #[.int .i64 t66, .int .i64 t67, .bool t68]), (83, .tuple #[.int .i64 t66, .int .i64 t67, .bool t68]), (82, .int .i64 x22.Page), (81, bp b24 3), (80, .int .i64 x22.B), (79, bp b24 2), (78, (plainV v18).val), (77, v18), (75, .bool c56), (69, .bool (t45 != j8_2)), (68, .bool (t45 != j8_2)), (67, .int .i64 j8_2), (66, .int .i64 t45), (65, errV 53 j9_2), (0, v0), (2, .bool false), (3, .bool t1), (5, v18), (6, .int .i64 x6_1), (8, .int .i64 j8_2), (9, errV 53 j9_2), (23, .int .i64 x6_1), (24, v0), (25, .int .i64 (a0.length : Int)), (26, .bool (decide (x6_1 < (a0.length : Int)))), (29, v0), (30, .int .i64 x6_1), (31, idxp v0 (x6_1.toNat * ek_law18_Deed.sz)), (32, .agg #[.bool x22.Un, .int .i64 x22.A, .int .i64 x22.B, .int .i64 x22.Page, .int .i64 x22.Rights]), (33, bp b24 0), (34, .bool x22.Un), (13, .int .i64 x81), (105, bp b6 0), (106, bp b6 0), (107, bp b6 1), (108, vy6_1_2), (109, bp b24 2), (110, .int .i64 x22.B), (111, bp b24 3), (112, .int .i64 x22.Page), (113, idxp vy6_1_2 (x22.B.toNat * kr_ref10_Obj.sz)), (114, idxp vy6_1_2 (x22.B.toNat * kr_ref10_Obj.sz + 20)), (115, idxp vy6_1_2 (x22.B.toNat * kr_ref10_Obj.sz + 20 + x22.Page.toNat)), (116, .int .i64 x81), (14, .int .i64 x88), (4, bp b6 0), (7, bp b24 0), (117, bp b6 0), (118, bp b6 0), (119, bp b6 1), (120, vy6_1_2), (121, bp b24 2), (122, .int .i64 x22.B), (123, bp b24 3), (124, .int .i64 x22.Page), (125, idxp vy6_1_2 (x22.B.toNat * kr_ref10_Obj.sz)), (126, idxp vy6_1_2 (x22.B.toNat * kr_ref10_Obj.sz + 24)), (127, idxp vy6_1_2 (x22.B.toNat * kr_ref10_Obj.sz + 24 + x22.Page.toNat)), (128, .int .i64 x88)]) ⟨rfl, rfl, rfl, rfl, rfl, rfl, rfl, rfl, rfl, rfl, rfl, rfl, rfl, rfl, rfl, rfl, rfl, rfl, rfl, rfl, rfl, rfl, rfl, rfl, rfl, rfl, rfl, rfl, rfl, rfl, rfl, rfl, rfl, rfl, rfl, rfl, rfl, rfl, rfl, rfl, rfl, rfl, rfl, rfl, rfl, rfl, rfl, rfl, rfl, rfl, rfl, rfl, rfl, rfl, rfl, rfl, rfl, rfl, rfl, rfl, rfl, rfl, rfl, rfl, rfl, rfl, rfl, rfl, rfl, rfl, rfl, rfl, rfl, rfl, trivial⟩ ?_
              cases h
              refine S.b5 ?_
              refine S.b5 ?_
              refine S.b5 ?_
              refine S.b5 ?_
              refine S.b5 ?_
              refine S.b5 ?_
              refine S.to ?_ (hk3 () trivial)
              exact ⟨rfl, rfl, rfl, rfl, rfl, rfl, rfl, rfl, rfl, rfl, rfl, rfl, rfl, rfl, rfl, rfl, rfl, rfl, rfl, rfl, rfl, rfl, rfl, rfl, rfl, rfl, rfl, rfl, rfl, rfl, rfl, rfl, rfl, rfl, rfl, rfl, rfl, rfl, rfl, rfl, rfl, rfl, rfl, rfl, rfl, rfl, rfl, rfl, rfl, rfl, trivial⟩
            · replace h := cond_f b75 h
              refine S.condF rfl b75 ?_
              refine S.skip ?_
              cases h
              refine S.b5 ?_
              refine S.b5 ?_
              refine S.b5 ?_
              refine S.b5 ?_
              refine S.b5 ?_
              refine S.b5 ?_
              refine S.to ?_ (hk3 () trivial)
              exact ⟨rfl, rfl, rfl, rfl, rfl, rfl, rfl, rfl, rfl, rfl, rfl, rfl, rfl, rfl, rfl, rfl, rfl, rfl, rfl, rfl, rfl, rfl, rfl, rfl, rfl, rfl, rfl, rfl, rfl, rfl, rfl, rfl, rfl, rfl, rfl, rfl, rfl, rfl, rfl, rfl, rfl, rfl, rfl, rfl, rfl, rfl, rfl, rfl, rfl, rfl, trivial⟩
          rintro _ -
          replace h := hJ3
          refine S.seq ?_
          refine S.region ?_
          refine SO.v rfl (opv_move rfl) ?_
          refine SO.v rfl (opv_move rfl) ?_
          refine SO.v rfl (opv_geq rfl rfl) ?_
          refine SO.v rfl (opv_neqB Try.underlying4 rfl rfl) ?_
          refine SO.v rfl (opv_move rfl) ?_
          refine SO.cut 12 145 (.bool ((t68 != (decide (0 ≤ j13_3))) || (t68 && ((t66 != j13_3) || (t67 != j14_3))))) [Box b24 [.bool x22.Un, .int .i64 x22.A, .int .i64 x22.B, .int .i64 x22.Page, .int .i64 x22.Rights], Own 58 (ekI .u64) v18 s70, OwnO 57 kr_ref10_Slot vy6_0_2 raws51 A52 y6_0_2, OwnO 46 kr_ref10_Obj vy6_1_2 raws47 A48 y6_1_2, Box b6 [vy6_0_2, vy6_1_2, .int .i64 y6_2_2, .int .i64 y6_3_2], F] (fun l2 hk2 => ?_) ?_
          · rcases bool_or (t68 != (decide (0 ≤ j13_3))) with b90 | b90
            · refine SO.passF rfl rfl rfl b90 rfl rfl ?_
              refine SO.passF rfl rfl rfl b90 rfl rfl ?_
              refine SO.pass_undef rfl rfl rfl rfl ?_
              refine SO.pass_undef rfl rfl rfl rfl ?_
              refine SO.pass_undef rfl rfl rfl rfl ?_
              refine SO.pass_undef rfl rfl rfl rfl ?_
              refine SO.pass_undef rfl rfl rfl rfl ?_
              refine SO.pass_undef rfl rfl rfl rfl ?_
              refine SO.pass_undef rfl rfl rfl rfl ?_
              refine SO.pass_undef rfl rfl rfl rfl ?_
              refine SO.passF rfl rfl rfl b90 rfl rfl ?_
              refine SO.v rfl (opv_pick_t' b90 rfl rfl) ?_
              refine SO.b5 ?_
              refine SO.b5 ?_
              refine SO.b5 ?_
              refine SO.b5 ?_
              refine SO.b5 ?_
              refine SO.b5 ?_
              exact hk2.fitc (m := 12) rfl (or_t b90) rfl
            · refine SO.takeT rfl rfl rfl b90 ?_
              refine SO.v rfl (opv_move rfl) ?_
              refine SO.takeT rfl rfl rfl b90 ?_
              refine SO.v rfl (opv_move rfl) ?_
              refine SO.cut 9 144 (.bool (t68 && ((t66 != j13_3) || (t67 != j14_3)))) [Box b24 [.bool x22.Un, .int .i64 x22.A, .int .i64 x22.B, .int .i64 x22.Page, .int .i64 x22.Rights], Own 58 (ekI .u64) v18 s70, OwnO 57 kr_ref10_Slot vy6_0_2 raws51 A52 y6_0_2, OwnO 46 kr_ref10_Obj vy6_1_2 raws47 A48 y6_1_2, Box b6 [vy6_0_2, vy6_1_2, .int .i64 y6_2_2, .int .i64 y6_3_2], F] (fun l2 hk2 => ?_) ?_
              · rcases bool_or t68 with b91 | b91
                · refine SO.takeT rfl rfl rfl b91 ?_
                  refine SO.v rfl (opv_move rfl) ?_
                  refine SO.takeT rfl rfl rfl b91 ?_
                  refine SO.v rfl (opv_move rfl) ?_
                  refine SO.takeT rfl rfl rfl b91 ?_
                  refine SO.v rfl (opv_neq rfl rfl) ?_
                  refine SO.takeT rfl rfl rfl b91 ?_
                  refine SO.v rfl (opv_move rfl) ?_
                  refine SO.cut 4 143 (.bool ((t66 != j13_3) || (t67 != j14_3))) [Box b24 [.bool x22.Un, .int .i64 x22.A, .int .i64 x22.B, .int .i64 x22.Page, .int .i64 x22.Rights], Own 58 (ekI .u64) v18 s70, OwnO 57 kr_ref10_Slot vy6_0_2 raws51 A52 y6_0_2, OwnO 46 kr_ref10_Obj vy6_1_2 raws47 A48 y6_1_2, Box b6 [vy6_0_2, vy6_1_2, .int .i64 y6_2_2, .int .i64 y6_3_2], F] (fun l2 hk2 => ?_) ?_
                  · rcases bool_or (t66 != j13_3) with b92 | b92
                    · refine SO.passF rfl rfl rfl b92 rfl rfl ?_
                      refine SO.passF rfl rfl rfl b92 rfl rfl ?_
                      refine SO.passF rfl rfl rfl b92 rfl rfl ?_
                      refine SO.takeT rfl rfl rfl b91 ?_
                      refine SO.v rfl (opv_pick_t' b92 rfl rfl) ?_
                      refine SO.b5 ?_
                      refine SO.b5 ?_
                      refine SO.b5 ?_
                      refine SO.b5 ?_
                      refine SO.b5 ?_
                      refine SO.b5 ?_
                      exact hk2.fitc (m := 4) rfl (or_t b92) rfl
                    · refine SO.takeT rfl rfl rfl b92 ?_
                      refine SO.v rfl (opv_move rfl) ?_
                      refine SO.takeT rfl rfl rfl b92 ?_
                      refine SO.v rfl (opv_move rfl) ?_
                      refine SO.takeT rfl rfl rfl b92 ?_
                      refine SO.v rfl (opv_neq rfl rfl) ?_
                      refine SO.takeT rfl rfl rfl b91 ?_
                      refine SO.v rfl (opv_pick_f' b92 rfl rfl) ?_
                      refine SO.b5 ?_
                      refine SO.b5 ?_
                      refine SO.b5 ?_
                      refine SO.b5 ?_
                      refine SO.b5 ?_
                      refine SO.b5 ?_
                      exact hk2.fitc (m := 4) rfl (or_f b92) rfl
                  refine SO.takeT rfl rfl rfl b90 ?_
                  refine SO.v rfl (opv_pick_t' b91 rfl rfl) ?_
                  refine SO.b5 ?_
                  refine SO.b5 ?_
                  refine SO.b5 ?_
                  refine SO.b5 ?_
                  refine SO.b5 ?_
                  refine SO.b5 ?_
                  exact hk2.fitc (m := 6) rfl (and_t b91) rfl
                · refine SO.passF rfl rfl rfl b91 rfl rfl ?_
                  refine SO.passF rfl rfl rfl b91 rfl rfl ?_
                  refine SO.passF rfl rfl rfl b91 rfl rfl ?_
                  refine SO.passF rfl rfl rfl b91 rfl rfl ?_
                  refine SO.pass_undef rfl rfl rfl rfl ?_
                  refine SO.pass_undef rfl rfl rfl rfl ?_
                  refine SO.pass_undef rfl rfl rfl rfl ?_
                  refine SO.passF rfl rfl rfl b91 rfl rfl ?_
                  refine SO.takeT rfl rfl rfl b90 ?_
                  refine SO.v rfl (opv_pick_f' b91 rfl rfl) ?_
                  refine SO.b5 ?_
                  refine SO.b5 ?_
                  refine SO.b5 ?_
                  refine SO.b5 ?_
                  refine SO.b5 ?_
                  refine SO.b5 ?_
                  exact hk2.fitc (m := 9) rfl (and_f b91) rfl
              refine SO.v rfl (opv_pick_f' b90 rfl rfl) ?_
              refine SO.b5 ?_
              refine SO.b5 ?_
              refine SO.b5 ?_
              refine SO.b5 ?_
              refine SO.b5 ?_
              refine SO.b5 ?_
              exact hk2.fitc (m := 4) rfl (or_f b90) rfl
          refine SO.v rfl (opv_move rfl) ?_
          refine SO.cut 11 157 (.bool (((t68 != (decide (0 ≤ j13_3))) || (t68 && ((t66 != j13_3) || (t67 != j14_3)))) || ((!t68) && ((t66 != 0) || (t67 != 0))))) [Box b24 [.bool x22.Un, .int .i64 x22.A, .int .i64 x22.B, .int .i64 x22.Page, .int .i64 x22.Rights], Own 58 (ekI .u64) v18 s70, OwnO 57 kr_ref10_Slot vy6_0_2 raws51 A52 y6_0_2, OwnO 46 kr_ref10_Obj vy6_1_2 raws47 A48 y6_1_2, Box b6 [vy6_0_2, vy6_1_2, .int .i64 y6_2_2, .int .i64 y6_3_2], F] (fun l2 hk2 => ?_) ?_
          · rcases bool_or ((t68 != (decide (0 ≤ j13_3))) || (t68 && ((t66 != j13_3) || (t67 != j14_3)))) with b93 | b93
            · refine SO.passF rfl rfl rfl b93 rfl rfl ?_
              refine SO.passF rfl rfl rfl b93 rfl rfl ?_
              refine SO.passF rfl rfl rfl b93 rfl rfl ?_
              refine SO.pass_undef rfl rfl rfl rfl ?_
              refine SO.pass_undef rfl rfl rfl rfl ?_
              refine SO.pass_undef rfl rfl rfl rfl ?_
              refine SO.pass_undef rfl rfl rfl rfl ?_
              refine SO.pass_undef rfl rfl rfl rfl ?_
              refine SO.pass_undef rfl rfl rfl rfl ?_
              refine SO.passF rfl rfl rfl b93 rfl rfl ?_
              refine SO.v rfl (opv_pick_t' b93 rfl rfl) ?_
              refine SO.b5 ?_
              refine SO.b5 ?_
              refine SO.b5 ?_
              refine SO.b5 ?_
              refine SO.b5 ?_
              refine SO.b5 ?_
              exact hk2.fitc (m := 11) rfl (or_t b93) rfl
            · refine SO.takeT rfl rfl rfl b93 ?_
              refine SO.v rfl (opv_move rfl) ?_
              refine SO.takeT rfl rfl rfl b93 ?_
              refine SO.v rfl (opv_not rfl) ?_
              refine SO.takeT rfl rfl rfl b93 ?_
              refine SO.v rfl (opv_move rfl) ?_
              refine SO.cut 7 156 (.bool ((!t68) && ((t66 != 0) || (t67 != 0)))) [Box b24 [.bool x22.Un, .int .i64 x22.A, .int .i64 x22.B, .int .i64 x22.Page, .int .i64 x22.Rights], Own 58 (ekI .u64) v18 s70, OwnO 57 kr_ref10_Slot vy6_0_2 raws51 A52 y6_0_2, OwnO 46 kr_ref10_Obj vy6_1_2 raws47 A48 y6_1_2, Box b6 [vy6_0_2, vy6_1_2, .int .i64 y6_2_2, .int .i64 y6_3_2], F] (fun l2 hk2 => ?_) ?_
              · rcases bool_or (!t68) with b94 | b94
                · refine SO.takeT rfl rfl rfl b94 ?_
                  refine SO.v rfl (opv_move rfl) ?_
                  refine SO.takeT rfl rfl rfl b94 ?_
                  refine SO.v rfl (opv_neq rfl rfl) ?_
                  refine SO.takeT rfl rfl rfl b94 ?_
                  refine SO.v rfl (opv_move rfl) ?_
                  refine SO.cut 3 155 (.bool ((t66 != 0) || (t67 != 0))) [Box b24 [.bool x22.Un, .int .i64 x22.A, .int .i64 x22.B, .int .i64 x22.Page, .int .i64 x22.Rights], Own 58 (ekI .u64) v18 s70, OwnO 57 kr_ref10_Slot vy6_0_2 raws51 A52 y6_0_2, OwnO 46 kr_ref10_Obj vy6_1_2 raws47 A48 y6_1_2, Box b6 [vy6_0_2, vy6_1_2, .int .i64 y6_2_2, .int .i64 y6_3_2], F] (fun l2 hk2 => ?_) ?_
                  · rcases bool_or (t66 != 0) with b95 | b95
                    · refine SO.passF rfl rfl rfl b95 rfl rfl ?_
                      refine SO.passF rfl rfl rfl b95 rfl rfl ?_
                      refine SO.takeT rfl rfl rfl b94 ?_
                      refine SO.v rfl (opv_pick_t' b95 rfl rfl) ?_
                      refine SO.b5 ?_
                      refine SO.b5 ?_
                      refine SO.b5 ?_
                      refine SO.b5 ?_
                      refine SO.b5 ?_
                      refine SO.b5 ?_
                      exact hk2.fitc (m := 3) rfl (or_t b95) rfl
                    · refine SO.takeT rfl rfl rfl b95 ?_
                      refine SO.v rfl (opv_move rfl) ?_
                      refine SO.takeT rfl rfl rfl b95 ?_
                      refine SO.v rfl (opv_neq rfl rfl) ?_
                      refine SO.takeT rfl rfl rfl b94 ?_
                      refine SO.v rfl (opv_pick_f' b95 rfl rfl) ?_
                      refine SO.b5 ?_
                      refine SO.b5 ?_
                      refine SO.b5 ?_
                      refine SO.b5 ?_
                      refine SO.b5 ?_
                      refine SO.b5 ?_
                      exact hk2.fitc (m := 3) rfl (or_f b95) rfl
                  refine SO.takeT rfl rfl rfl b93 ?_
                  refine SO.v rfl (opv_pick_t' b94 rfl rfl) ?_
                  refine SO.b5 ?_
                  refine SO.b5 ?_
                  refine SO.b5 ?_
                  refine SO.b5 ?_
                  refine SO.b5 ?_
                  refine SO.b5 ?_
                  exact hk2.fitc (m := 5) rfl (and_t b94) rfl
                · refine SO.passF rfl rfl rfl b94 rfl rfl ?_
                  refine SO.passF rfl rfl rfl b94 rfl rfl ?_
                  refine SO.passF rfl rfl rfl b94 rfl rfl ?_
                  refine SO.pass_undef rfl rfl rfl rfl ?_
                  refine SO.pass_undef rfl rfl rfl rfl ?_
                  refine SO.passF rfl rfl rfl b94 rfl rfl ?_
                  refine SO.takeT rfl rfl rfl b93 ?_
                  refine SO.v rfl (opv_pick_f' b94 rfl rfl) ?_
                  refine SO.b5 ?_
                  refine SO.b5 ?_
                  refine SO.b5 ?_
                  refine SO.b5 ?_
                  refine SO.b5 ?_
                  refine SO.b5 ?_
                  exact hk2.fitc (m := 7) rfl (and_f b94) rfl
              refine SO.v rfl (opv_pick_f' b93 rfl rfl) ?_
              refine SO.b5 ?_
              refine SO.b5 ?_
              refine SO.b5 ?_
              refine SO.b5 ?_
              refine SO.b5 ?_
              refine SO.b5 ?_
              exact hk2.fitc (m := 5) rfl (or_f b93) rfl
          refine SO.nil ?_
          rcases bool_or (((t68 != (decide (0 ≤ j13_3))) || (t68 && ((t66 != j13_3) || (t67 != j14_3)))) || ((!t68) && ((t66 != 0) || (t67 != 0)))) with b96 | b96
          · replace h := cond_t b96 h
            refine S.condT rfl b96 ?_
            refine S.seq ?_
            refine S.region ?_
            refine SO.v rfl (opv_assign rfl) ?_
            refine SO.nil ?_
            cases h
            replace h := hK1.1 _ rfl
            cases h
            refine S.b2 ?_
            refine S.closeR ?_
            refine S.b3 ?_
            refine S.closeR ?_
            refine S.drop ?_
            refine S.drop ?_
            refine S.drop ?_
            refine S.drop ?_
            refine S.drop ?_
            exact S.ret1 Try.func3 rfl rfl (fun w hs hk => hR w _ _ ⟨rfl, rfl⟩ hs hk)
          · replace h := cond_f b96 h
            refine S.condF rfl b96 ?_
            refine S.skip ?_
            refine S.inBlock ?_
            refine S.region ?_
            refine SO.v rfl (opv_move rfl) ?_
            refine SO.v rfl (opv_add rfl rfl) ?_
            refine SO.v rfl (opv_assign rfl) ?_
            refine SO.nil ?_
            refine S.b2 ?_
            refine S.closeR ?_
            refine S.b3 ?_
            refine S.closeR ?_
            refine S.b2 ?_
            refine S.drop ?_
            refine S.b4 ?_
            refine S.b4 ?_
            refine S.b4 ?_
            refine S.b4 ?_
            refine S.b4 ?_
            refine S.to ?_ (ih1 ((w64 (x6_1 + 1), y6_0_2, y6_1_2, y6_2_2, y6_3_2, s70), (vy6_0_2, vy6_1_2)) h)
            exact ⟨rfl, rfl, rfl, rfl, rfl, rfl, trivial⟩
      · replace h := cond_f b21 h
        refine S.condF rfl b21 ?_
        refine S.exit rfl ?_
        cases h
        refine S.b4 ?_
        refine S.b4 ?_
        refine S.b2 ?_
        refine S.b4 ?_
        refine S.b4 ?_
        refine S.to ?_ (hK1.2 (y6_0_1, y6_1_1, y6_2_1, y6_3_1, qv18_1) (vy6_0_1, vy6_1_1) rfl)
        exact ⟨rfl, rfl, trivial⟩
    refine ⟨fun r' e' => ?_, ?_⟩
    · subst e'
      have h9 := Brk.of_ret h
      exact h9
    rintro ⟨y6_0_e1, y6_1_e1, y6_2_e1, y6_3_e1, qv18_e1⟩ ⟨vy6_0_e1, vy6_1_e1⟩ e'
    subst e'
    replace h := Brk.of_nx h
    refine S.b2 ?_
    refine S.rd fun hr97 => ?_
    refine S.seq ?_
    refine S.region ?_
    refine SO.v rfl (opv_move rfl) ?_
    refine SO.v rfl (opv_assign rfl) ?_
    refine SO.nil ?_
    cases h
    refine S.drop ?_
    refine S.drop ?_
    refine S.drop ?_
    refine S.drop ?_
    exact S.ret1 Try.func3 rfl rfl (fun w hs hk => hR w _ _ ⟨rfl, rfl⟩ hs hk)
end Go.Proofs
