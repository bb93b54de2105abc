/- What the functions that UntypedOnce reaches come to, and that they do. On no condition. -/
import Derived.Test.YtklkbgacjegplaaFnUntypedOnce0
set_option linter.all false
namespace Go.Proofs
open Go.Sl Go.RowKit
/-! 43 padstone/lay.Obj -/
def lay_Obj.f (a0 : Int) (a1 : Int) : Option ((Int × Bool)) :=
  (lay_in.f a0 32).bind fun t1 => (bif !t1 then (some true) else ((lay_in.f a1 8).bind fun t6 => some (!t6))).bind fun c4 => bif c4 then (some (0, false)) else (some (w64 ((w64 (480 + (w64 (a0 * 8)))) + a1), true))
set_option maxHeartbeats 8000000 in
set_option maxRecDepth 100000 in
theorem lay_Obj.ct (a0 : Int) (a1 : Int) (r0 : Int) (r1 : Bool) (h : lay_Obj.f a0 a1 = some (r0, r1)) :
    Ct Try.prog 43 [.int .i64 a0, .int .i64 a1] (fun _ => True) [] (fun u H' => u = .tuple #[.int .i64 r0, .bool r1] ∧ H' = []) := by
  unfold lay_Obj.f at h
  refine Ct.intro (n := 19) Try.func43 rfl rfl rfl ?_
  intro R w0 F hF hR
  refine S.seq ?_
  refine S.region ?_
  refine SO.v rfl (opv_assign rfl) ?_
  refine SO.v rfl (opv_assign rfl) ?_
  refine SO.nil ?_
  refine S.seq ?_
  refine S.seq ?_
  refine S.region ?_
  refine SO.v rfl (opv_move rfl) ?_
  obtain ⟨t1, ht2, h⟩ := opt_bind h
  refine SO.call (pre := []) rfl Try.call54 rfl rfl rfl (lay_in.ct _ _ _ ht2) trivial ?_
  rintro _ _ ⟨rfl, rfl⟩
  refine SO.v rfl (opv_not rfl) ?_
  refine SO.v rfl (opv_move rfl) ?_
  obtain ⟨c4, hc5, hgk⟩ := opt_bind h
  refine SO.cut 4 13 (.bool c4) [F] (fun l2 hk2 => ?_) ?_
  · clear hgk
    replace h := hc5
    rcases bool_or (!t1) with b3 | b3
    · replace h := cond_t b3 h
      refine SO.passF rfl rfl rfl b3 rfl rfl ?_
      refine SO.passF rfl rfl rfl b3 rfl rfl ?_
      refine SO.passF rfl rfl rfl b3 rfl rfl ?_
      cases h
      refine SO.v rfl (opv_pick_t' b3 rfl rfl) ?_
      exact hk2.fitc (m := 4) rfl (rfl) rfl
    · replace h := cond_f b3 h
      refine SO.takeT rfl rfl rfl b3 ?_
      refine SO.v rfl (opv_move rfl) ?_
      refine SO.takeT rfl rfl rfl b3 ?_
      obtain ⟨t6, ht7, h⟩ := opt_bind h
      refine SO.call (pre := []) rfl Try.call54 rfl rfl rfl (lay_in.ct _ _ _ ht7) trivial ?_
      rintro _ _ ⟨rfl, rfl⟩
      refine SO.takeT rfl rfl rfl b3 ?_
      refine SO.v rfl (opv_not rfl) ?_
      cases h
      refine SO.v rfl (opv_pick_f' b3 rfl rfl) ?_
      exact hk2.fitc (m := 4) rfl (rfl) rfl
  clear hc5
  replace h := hgk
  refine SO.nil ?_
  rcases bool_or c4 with b8 | b8
  · replace h := cond_t b8 h
    refine S.condT rfl b8 ?_
    refine S.seq ?_
    refine S.region ?_
    refine SO.v rfl (opv_assign rfl) ?_
    refine SO.v rfl (opv_assign rfl) ?_
    refine SO.nil ?_
    refine S.to (ρ' := [(4, .int .i64 0), (5, .bool false)]) ⟨rfl, rfl, trivial⟩ ?_
    cases h
    exact S.ret2 Try.func43 rfl rfl rfl (fun w hs hk => hR w _ _ ⟨rfl, rfl⟩ hs hk)
  · replace h := cond_f b8 h
    refine S.condF rfl b8 ?_
    refine S.skip ?_
    refine S.seq ?_
    refine S.region ?_
    refine SO.v rfl (opv_move rfl) ?_
    refine SO.v rfl (opv_mul rfl rfl) ?_
    refine SO.v rfl (opv_add rfl rfl) ?_
    refine SO.v rfl (opv_move rfl) ?_
    refine SO.v rfl (opv_add rfl rfl) ?_
    refine SO.v rfl (opv_assign rfl) ?_
    refine SO.v rfl (opv_assign rfl) ?_
    refine SO.nil ?_
    refine S.to (ρ' := [(4, .int .i64 (w64 ((w64 (480 + (w64 (a0 * 8)))) + a1))), (5, .bool true)]) ⟨rfl, rfl, trivial⟩ ?_
    cases h
    exact S.ret2 Try.func43 rfl rfl rfl (fun w hs hk => hR w _ _ ⟨rfl, rfl⟩ hs hk)
end Go.Proofs
namespace Go.Proofs
open Go.Sl Go.RowKit
/-! 24 padstone/lay.Field -/
def lay_Field.f (a1 : Int) (a2 : Int) : VM (Int) :=
  (VM.opt (lay_Obj.f a1 a2)).bind fun (t1, t2) => bif !t2 then (VM.ret 0) else (VM.rd t1 fun t5 => bif decide (4611686018427387904 < t5) then (VM.ret 0) else (VM.ret (w64 t5)))
set_option maxHeartbeats 8000000 in
set_option maxRecDepth 100000 in
theorem lay_Field.ct (V : VW Try.prog) (a1 : Int) (a2 : Int) (r0 : Int) (s s' : V.S) (h : VM.run V.toVI (lay_Field.f a1 a2) s = some (r0, s')) :
    Ct Try.prog 24 [V.val, .int .i64 a1, .int .i64 a2] (fun _ => True) [V.rep s] (fun u H' => u = .int .i64 r0 ∧ H' = [V.rep s']) := by
  unfold lay_Field.f at h
  refine Ct.intro (n := 25) Try.func24 rfl rfl rfl ?_
  intro R w0 F hF hR
  refine S.seq ?_
  refine S.region ?_
  refine SO.v rfl (opv_assign rfl) ?_
  refine SO.nil ?_
  refine S.seq ?_
  refine S.region ?_
  refine SO.v rfl (opv_move rfl) ?_
  refine SO.v rfl (opv_move rfl) ?_
  obtain ⟨⟨t1, t2⟩, ht3, h⟩ := VM.opt_some V.toVI h
  refine SO.call (pre := []) rfl Try.call43 rfl rfl rfl (lay_Obj.ct _ _ _ _ ht3) trivial ?_
  rintro _ _ ⟨rfl, rfl⟩
  refine SO.v rfl (opv_move rfl) ?_
  refine SO.v rfl (opv_extract rfl rfl) ?_
  refine SO.v rfl (opv_extract rfl rfl) ?_
  refine SO.v rfl (opv_assign rfl) ?_
  refine SO.v rfl (opv_assign rfl) ?_
  refine SO.nil ?_
  refine S.to (ρ' := [(0, V.val), (6, .int .i64 0), (7, .int .i64 t1), (8, .bool t2)]) ⟨rfl, rfl, rfl, rfl, trivial⟩ ?_
  refine S.seq ?_
  refine S.seq ?_
  refine S.region ?_
  refine SO.v rfl (opv_move rfl) ?_
  refine SO.v rfl (opv_not rfl) ?_
  refine SO.nil ?_
  rcases bool_or (!t2) with b4 | b4
  · replace h := VM.cond_t V.toVI b4 h
    refine S.condT rfl b4 ?_
    refine S.seq ?_
    refine S.region ?_
    refine SO.v rfl (opv_assign rfl) ?_
    refine SO.nil ?_
    obtain ⟨hq, rfl⟩ := VM.ret_some V.toVI h
    cases hq
    refine S.b1 ?_
    refine S.b1 ?_
    exact S.ret1 Try.func24 rfl rfl (fun w hs hk => hR w _ _ ⟨rfl, rfl⟩ hs hk)
  · replace h := VM.cond_f V.toVI b4 h
    refine S.condF rfl b4 ?_
    refine S.skip ?_
    refine S.seq ?_
    refine S.region ?_
    refine SO.v rfl (opv_move rfl) ?_
    refine SO.v rfl (opv_move rfl) ?_
    obtain ⟨t5, s6, hv7, h⟩ := VM.rd_some V.toVI h
    refine SO.vread' V rfl rfl rfl hv7 ?_
    refine SO.v rfl (opv_assign rfl) ?_
    refine SO.nil ?_
    refine S.to (ρ' := [(6, .int .i64 0), (9, .int .u64 t5)]) ⟨rfl, rfl, trivial⟩ ?_
    refine S.seq ?_
    refine S.seq ?_
    refine S.region ?_
    refine SO.v rfl (opv_move rfl) ?_
    refine SO.v rfl (opv_gtr rfl rfl) ?_
    refine SO.nil ?_
    rcases bool_or (decide (4611686018427387904 < t5)) with b8 | b8
    · replace h := VM.cond_t V.toVI b8 h
      refine S.condT rfl b8 ?_
      refine S.seq ?_
      refine S.region ?_
      refine SO.v rfl (opv_assign rfl) ?_
      refine SO.nil ?_
      obtain ⟨hq, rfl⟩ := VM.ret_some V.toVI h
      cases hq
      refine S.b1 ?_
      refine S.b1 ?_
      exact S.ret1 Try.func24 rfl rfl (fun w hs hk => hR w _ _ ⟨rfl, rfl⟩ hs hk)
    · replace h := VM.cond_f V.toVI b8 h
      refine S.condF rfl b8 ?_
      refine S.skip ?_
      refine S.seq ?_
      refine S.region ?_
      refine SO.v rfl (opv_move rfl) ?_
      refine SO.v rfl (opv_conv Try.underlying72 Try.underlying3 rfl) ?_
      refine SO.v rfl (opv_assign rfl) ?_
      refine SO.nil ?_
      obtain ⟨hq, rfl⟩ := VM.ret_some V.toVI h
      cases hq
      refine S.b1 ?_
      refine S.b1 ?_
      exact S.ret1 Try.func24 rfl rfl (fun w hs hk => hR w _ _ ⟨rfl, rfl⟩ hs hk)
end Go.Proofs
namespace Go.Proofs
open Go.Sl Go.RowKit
/-! 25 padstone/lay.Is -/
def lay_Is.f (a1 : Int) (a2 : Int) : VM (Bool) :=
  (VM.opt (lay_Obj.f a1 0)).bind fun (t1, t2) => (bif t2 && (decide (0 ≤ a2)) then (VM.rd t1 fun t8 => VM.ret (t8 == (wu64 a2))) else (VM.ret false)).bind fun c6 => VM.ret c6
set_option maxHeartbeats 8000000 in
set_option maxRecDepth 100000 in
theorem lay_Is.ct (V : VW Try.prog) (a1 : Int) (a2 : Int) (r0 : Bool) (s s' : V.S) (h : VM.run V.toVI (lay_Is.f a1 a2) s = some (r0, s')) :
    Ct Try.prog 25 [V.val, .int .i64 a1, .int .i64 a2] (fun _ => True) [V.rep s] (fun u H' => u = .bool r0 ∧ H' = [V.rep s']) := by
  unfold lay_Is.f at h
  refine Ct.intro (n := 27) Try.func25 rfl rfl rfl ?_
  intro R w0 F hF hR
  refine S.seq ?_
  refine S.region ?_
  refine SO.v rfl (opv_assign rfl) ?_
  refine SO.nil ?_
  refine S.seq ?_
  refine S.region ?_
  refine SO.v rfl (opv_move rfl) ?_
  obtain ⟨⟨t1, t2⟩, ht3, h⟩ := VM.opt_some V.toVI h
  refine SO.call (pre := []) rfl Try.call43 rfl rfl rfl (lay_Obj.ct _ _ _ _ ht3) trivial ?_
  rintro _ _ ⟨rfl, rfl⟩
  refine SO.v rfl (opv_move rfl) ?_
  refine SO.v rfl (opv_extract rfl rfl) ?_
  refine SO.v rfl (opv_extract rfl rfl) ?_
  refine SO.v rfl (opv_assign rfl) ?_
  refine SO.v rfl (opv_assign rfl) ?_
  refine SO.nil ?_
  refine S.seq ?_
  refine S.region ?_
  refine SO.v rfl (opv_move rfl) ?_
  refine SO.v rfl (opv_move rfl) ?_
  refine SO.cut 3 18 (.bool (t2 && (decide (0 ≤ a2)))) [V.rep s, F] (fun l2 hk2 => ?_) ?_
  · rcases bool_or t2 with b4 | b4
    · refine SO.takeT rfl rfl rfl b4 ?_
      refine SO.v rfl (opv_move rfl) ?_
      refine SO.takeT rfl rfl rfl b4 ?_
      refine SO.v rfl (opv_geq rfl rfl) ?_
      refine SO.v rfl (opv_pick_t' b4 rfl rfl) ?_
      refine SO.b1 ?_
      refine SO.b1 ?_
      exact hk2.fitc (m := 3) rfl (and_t b4) rfl
    · refine SO.passF rfl rfl rfl b4 rfl rfl ?_
      refine SO.passF rfl rfl rfl b4 rfl rfl ?_
      refine SO.v rfl (opv_pick_f' b4 rfl rfl) ?_
      refine SO.b1 ?_
      refine SO.b1 ?_
      exact hk2.fitc (m := 3) rfl (and_f b4) rfl
  refine SO.v rfl (opv_move rfl) ?_
  obtain ⟨c6, s11, hc7, hgk⟩ := VM.bind_some V.toVI h
  refine SO.cut 7 26 (.bool c6) [V.rep s11, F] (fun l2 hk2 => ?_) ?_
  · clear hgk
    replace h := hc7
    rcases bool_or (t2 && (decide (0 ≤ a2))) with b5 | b5
    · replace h := VM.cond_t V.toVI b5 h
      refine SO.takeT rfl rfl rfl b5 ?_
      refine SO.v rfl (opv_move rfl) ?_
      refine SO.takeT rfl rfl rfl b5 ?_
      refine SO.v rfl (opv_move rfl) ?_
      refine SO.takeT rfl rfl rfl b5 ?_
      obtain ⟨t8, s9, hv10, h⟩ := VM.rd_some V.toVI h
      refine SO.vread' V rfl rfl rfl hv10 ?_
      refine SO.takeT rfl rfl rfl b5 ?_
      refine SO.v rfl (opv_move rfl) ?_
      refine SO.takeT rfl rfl rfl b5 ?_
      refine SO.v rfl (opv_conv Try.underlying3 Try.underlying72 rfl) ?_
      refine SO.takeT rfl rfl rfl b5 ?_
      refine SO.v rfl (opv_eql rfl rfl) ?_
      obtain ⟨hq, rfl⟩ := VM.ret_some V.toVI h
      cases hq
      refine SO.v rfl (opv_pick_t' b5 rfl rfl) ?_
      refine SO.b1 ?_
      refine SO.b1 ?_
      exact hk2.fitc (m := 7) rfl (rfl) rfl
    · replace h := VM.cond_f V.toVI b5 h
      refine SO.passF rfl rfl rfl b5 rfl rfl ?_
      refine SO.passF rfl rfl rfl b5 rfl rfl ?_
      refine SO.passF rfl rfl rfl b5 rfl rfl ?_
      refine SO.passF rfl rfl rfl b5 rfl rfl ?_
      refine SO.passF rfl rfl rfl b5 rfl rfl ?_
      refine SO.passF rfl rfl rfl b5 rfl rfl ?_
      obtain ⟨hq, rfl⟩ := VM.ret_some V.toVI h
      cases hq
      refine SO.v rfl (opv_pick_f' b5 rfl rfl) ?_
      refine SO.b1 ?_
      refine SO.b1 ?_
      exact hk2.fitc (m := 7) rfl (rfl) rfl
  clear hc7
  replace h := hgk
  refine SO.v rfl (opv_assign rfl) ?_
  refine SO.nil ?_
  refine S.to (ρ' := [(6, .bool c6)]) ⟨rfl, trivial⟩ ?_
  obtain ⟨hq, rfl⟩ := VM.ret_some V.toVI h
  cases hq
  refine S.b1 ?_
  refine S.b1 ?_
  exact S.ret1 Try.func25 rfl rfl (fun w hs hk => hR w _ _ ⟨rfl, rfl⟩ hs hk)
end Go.Proofs
namespace Go.Proofs
open Go.Sl Go.RowKit
/-! 20 padstone/untyped.Left -/
def untyped_Left.f (a1 : Int) : VM (Int) :=
  (lay_Is.f a1 1).bind fun t1 => bif !t1 then (VM.ret 0) else ((lay_Field.f a1 1).bind fun t5 => (lay_Field.f a1 2).bind fun t8 => VM.ret (if w64 (t5 - t8) < 0 then 0 else w64 (t5 - t8)))
set_option maxHeartbeats 8000000 in
set_option maxRecDepth 100000 in
theorem untyped_Left.ct (V : VW Try.prog) (a1 : Int) (r0 : Int) (s s' : V.S) (h : VM.run V.toVI (untyped_Left.f a1) s = some (r0, s')) :
    Ct Try.prog 20 [V.val, .int .i64 a1] (fun _ => True) [V.rep s] (fun u H' => u = .int .i64 r0 ∧ H' = [V.rep s']) := by
  unfold untyped_Left.f at h
  refine Ct.intro (n := 17) Try.func20 rfl rfl rfl ?_
  intro R w0 F hF hR
  refine S.seq ?_
  refine S.region ?_
  refine SO.v rfl (opv_assign rfl) ?_
  refine SO.nil ?_
  refine S.seq ?_
  refine S.seq ?_
  refine S.region ?_
  refine SO.v rfl (opv_move rfl) ?_
  refine SO.v rfl (opv_move rfl) ?_
  obtain ⟨t1, s3, ht2, h⟩ := VM.bind_some V.toVI h
  refine SO.call (pre := [V.rep _]) rfl Try.call25 rfl rfl rfl (lay_Is.ct V _ _ _ _ _ ht2) trivial ?_
  rintro _ _ ⟨rfl, rfl⟩
  refine SO.v rfl (opv_not rfl) ?_
  refine SO.nil ?_
  rcases bool_or (!t1) with b4 | b4
  · replace h := VM.cond_t V.toVI b4 h
    refine S.condT rfl b4 ?_
    refine S.seq ?_
    refine S.region ?_
    refine SO.v rfl (opv_assign rfl) ?_
    refine SO.nil ?_
    obtain ⟨hq, rfl⟩ := VM.ret_some V.toVI h
    cases hq
    refine S.b1 ?_
    refine S.b1 ?_
    exact S.ret1 Try.func20 rfl rfl (fun w hs hk => hR w _ _ ⟨rfl, rfl⟩ hs hk)
  · replace h := VM.cond_f V.toVI b4 h
    refine S.condF rfl b4 ?_
    refine S.skip ?_
    refine S.seq ?_
    refine S.region ?_
    refine SO.v rfl (opv_move rfl) ?_
    refine SO.v rfl (opv_move rfl) ?_
    obtain ⟨t5, s7, ht6, h⟩ := VM.bind_some V.toVI h
    refine SO.call (pre := [V.rep _]) rfl Try.call24 rfl rfl rfl (lay_Field.ct V _ _ _ _ _ ht6) trivial ?_
    rintro _ _ ⟨rfl, rfl⟩
    refine SO.v rfl (opv_move rfl) ?_
    refine SO.v rfl (opv_move rfl) ?_
    obtain ⟨t8, s10, ht9, h⟩ := VM.bind_some V.toVI h
    refine SO.call (pre := [V.rep _]) rfl Try.call24 rfl rfl rfl (lay_Field.ct V _ _ _ _ _ ht9) trivial ?_
    rintro _ _ ⟨rfl, rfl⟩
    refine SO.v rfl (opv_sub rfl rfl) ?_
    refine SO.v rfl (opv_max rfl rfl) ?_
    refine SO.v rfl (opv_assign rfl) ?_
    refine SO.nil ?_
    refine S.to (ρ' := [(4, .int .i64 (if w64 (t5 - t8) < 0 then 0 else w64 (t5 - t8)))]) ⟨rfl, trivial⟩ ?_
    obtain ⟨hq, rfl⟩ := VM.ret_some V.toVI h
    cases hq
    refine S.b1 ?_
    refine S.b1 ?_
    exact S.ret1 Try.func20 rfl rfl (fun w hs hk => hR w _ _ ⟨rfl, rfl⟩ hs hk)
end Go.Proofs
namespace Go.Proofs
open Go.Sl Go.RowKit
/-! 39 padstone/lay.Slot -/
def lay_Slot.f (a0 : Int) (a1 : Int) : Option ((Int × Bool)) :=
  (lay_in.f a0 96).bind fun t1 => (bif !t1 then (some true) else ((lay_in.f a1 5).bind fun t6 => some (!t6))).bind fun c4 => bif c4 then (some (0, false)) else (some (w64 ((w64 (a0 * 5)) + a1), true))
set_option maxHeartbeats 8000000 in
set_option maxRecDepth 100000 in
theorem lay_Slot.ct (a0 : Int) (a1 : Int) (r0 : Int) (r1 : Bool) (h : lay_Slot.f a0 a1 = some (r0, r1)) :
    Ct Try.prog 39 [.int .i64 a0, .int .i64 a1] (fun _ => True) [] (fun u H' => u = .tuple #[.int .i64 r0, .bool r1] ∧ H' = []) := by
  unfold lay_Slot.f at h
  refine Ct.intro (n := 18) Try.func39 rfl rfl rfl ?_
  intro R w0 F hF hR
  refine S.seq ?_
  refine S.region ?_
  refine SO.v rfl (opv_assign rfl) ?_
  refine SO.v rfl (opv_assign rfl) ?_
  refine SO.nil ?_
  refine S.seq ?_
  refine S.seq ?_
  refine S.region ?_
  refine SO.v rfl (opv_move rfl) ?_
  obtain ⟨t1, ht2, h⟩ := opt_bind h
  refine SO.call (pre := []) rfl Try.call54 rfl rfl rfl (lay_in.ct _ _ _ ht2) trivial ?_
  rintro _ _ ⟨rfl, rfl⟩
  refine SO.v rfl (opv_not rfl) ?_
  refine SO.v rfl (opv_move rfl) ?_
  obtain ⟨c4, hc5, hgk⟩ := opt_bind h
  refine SO.cut 4 13 (.bool c4) [F] (fun l2 hk2 => ?_) ?_
  · clear hgk
    replace h := hc5
    rcases bool_or (!t1) with b3 | b3
    · replace h := cond_t b3 h
      refine SO.passF rfl rfl rfl b3 rfl rfl ?_
      refine SO.passF rfl rfl rfl b3 rfl rfl ?_
      refine SO.passF rfl rfl rfl b3 rfl rfl ?_
      cases h
      refine SO.v rfl (opv_pick_t' b3 rfl rfl) ?_
      exact hk2.fitc (m := 4) rfl (rfl) rfl
    · replace h := cond_f b3 h
      refine SO.takeT rfl rfl rfl b3 ?_
      refine SO.v rfl (opv_move rfl) ?_
      refine SO.takeT rfl rfl rfl b3 ?_
      obtain ⟨t6, ht7, h⟩ := opt_bind h
      refine SO.call (pre := []) rfl Try.call54 rfl rfl rfl (lay_in.ct _ _ _ ht7) trivial ?_
      rintro _ _ ⟨rfl, rfl⟩
      refine SO.takeT rfl rfl rfl b3 ?_
      refine SO.v rfl (opv_not rfl) ?_
      cases h
      refine SO.v rfl (opv_pick_f' b3 rfl rfl) ?_
      exact hk2.fitc (m := 4) rfl (rfl) rfl
  clear hc5
  replace h := hgk
  refine SO.nil ?_
  rcases bool_or c4 with b8 | b8
  · replace h := cond_t b8 h
    refine S.condT rfl b8 ?_
    refine S.seq ?_
    refine S.region ?_
    refine SO.v rfl (opv_assign rfl) ?_
    refine SO.v rfl (opv_assign rfl) ?_
    refine SO.nil ?_
    refine S.to (ρ' := [(4, .int .i64 0), (5, .bool false)]) ⟨rfl, rfl, trivial⟩ ?_
    cases h
    exact S.ret2 Try.func39 rfl rfl rfl (fun w hs hk => hR w _ _ ⟨rfl, rfl⟩ hs hk)
  · replace h := cond_f b8 h
    refine S.condF rfl b8 ?_
    refine S.skip ?_
    refine S.seq ?_
    refine S.region ?_
    refine SO.v rfl (opv_move rfl) ?_
    refine SO.v rfl (opv_mul rfl rfl) ?_
    refine SO.v rfl (opv_move rfl) ?_
    refine SO.v rfl (opv_add rfl rfl) ?_
    refine SO.v rfl (opv_assign rfl) ?_
    refine SO.v rfl (opv_assign rfl) ?_
    refine SO.nil ?_
    refine S.to (ρ' := [(4, .int .i64 (w64 ((w64 (a0 * 5)) + a1))), (5, .bool true)]) ⟨rfl, rfl, trivial⟩ ?_
    cases h
    exact S.ret2 Try.func39 rfl rfl rfl (fun w hs hk => hR w _ _ ⟨rfl, rfl⟩ hs hk)
end Go.Proofs
namespace Go.Proofs
open Go.Sl Go.RowKit
/-! 49 padstone/cdt.get -/
def cdt_get.f (a1 : Int) (a2 : Int) : VM (Int) :=
  (VM.opt (lay_Slot.f a1 a2)).bind fun (t1, t2) => bif !t2 then (VM.ret (-1)) else (VM.rd t1 fun t5 => bif (decide (t5 < 1)) || (decide (96 < t5)) then (VM.ret (-1)) else (VM.ret (w64 ((w64 t5) - 1))))
set_option maxHeartbeats 8000000 in
set_option maxRecDepth 100000 in
theorem cdt_get.ct (V : VW Try.prog) (a1 : Int) (a2 : Int) (r0 : Int) (s s' : V.S) (h : VM.run V.toVI (cdt_get.f a1 a2) s = some (r0, s')) :
    Ct Try.prog 49 [V.val, .int .i64 a1, .int .i64 a2] (fun _ => True) [V.rep s] (fun u H' => u = .int .i64 r0 ∧ H' = [V.rep s']) := by
  unfold cdt_get.f at h
  refine Ct.intro (n := 30) Try.func49 rfl rfl rfl ?_
  intro R w0 F hF hR
  refine S.seq ?_
  refine S.region ?_
  refine SO.v rfl (opv_assign rfl) ?_
  refine SO.nil ?_
  refine S.seq ?_
  refine S.region ?_
  refine SO.v rfl (opv_move rfl) ?_
  refine SO.v rfl (opv_move rfl) ?_
  obtain ⟨⟨t1, t2⟩, ht3, h⟩ := VM.opt_some V.toVI h
  refine SO.call (pre := []) rfl Try.call39 rfl rfl rfl (lay_Slot.ct _ _ _ _ ht3) trivial ?_
  rintro _ _ ⟨rfl, rfl⟩
  refine SO.v rfl (opv_move rfl) ?_
  refine SO.v rfl (opv_extract rfl rfl) ?_
  refine SO.v rfl (opv_extract rfl rfl) ?_
  refine SO.v rfl (opv_assign rfl) ?_
  refine SO.v rfl (opv_assign rfl) ?_
  refine SO.nil ?_
  refine S.to (ρ' := [(0, V.val), (6, .int .i64 0), (7, .int .i64 t1), (8, .bool t2)]) ⟨rfl, rfl, rfl, rfl, trivial⟩ ?_
  refine S.seq ?_
  refine S.seq ?_
  refine S.region ?_
  refine SO.v rfl (opv_move rfl) ?_
  refine SO.v rfl (opv_not rfl) ?_
  refine SO.nil ?_
  rcases bool_or (!t2) with b4 | b4
  · replace h := VM.cond_t V.toVI b4 h
    refine S.condT rfl b4 ?_
    refine S.seq ?_
    refine S.region ?_
    refine SO.v rfl (opv_assign rfl) ?_
    refine SO.nil ?_
    obtain ⟨hq, rfl⟩ := VM.ret_some V.toVI h
    cases hq
    refine S.b1 ?_
    refine S.b1 ?_
    exact S.ret1 Try.func49 rfl rfl (fun w hs hk => hR w _ _ ⟨rfl, rfl⟩ hs hk)
  · replace h := VM.cond_f V.toVI b4 h
    refine S.condF rfl b4 ?_
    refine S.skip ?_
    refine S.seq ?_
    refine S.region ?_
    refine SO.v rfl (opv_move rfl) ?_
    refine SO.v rfl (opv_move rfl) ?_
    obtain ⟨t5, s6, hv7, h⟩ := VM.rd_some V.toVI h
    refine SO.vread' V rfl rfl rfl hv7 ?_
    refine SO.v rfl (opv_assign rfl) ?_
    refine SO.nil ?_
    refine S.to (ρ' := [(6, .int .i64 0), (9, .int .u64 t5)]) ⟨rfl, rfl, trivial⟩ ?_
    refine S.seq ?_
    refine S.seq ?_
    refine S.region ?_
    refine SO.v rfl (opv_move rfl) ?_
    refine SO.v rfl (opv_lss rfl rfl) ?_
    refine SO.v rfl (opv_move rfl) ?_
    refine SO.cut 3 26 (.bool ((decide (t5 < 1)) || (decide (96 < t5)))) [V.rep s6, F] (fun l2 hk2 => ?_) ?_
    · rcases bool_or (decide (t5 < 1)) with b8 | b8
      · refine SO.passF rfl rfl rfl b8 rfl rfl ?_
        refine SO.passF rfl rfl rfl b8 rfl rfl ?_
        refine SO.v rfl (opv_pick_t' b8 rfl rfl) ?_
        refine SO.b1 ?_
        refine SO.b1 ?_
        exact hk2.fitc (m := 3) rfl (or_t b8) rfl
      · refine SO.takeT rfl rfl rfl b8 ?_
        refine SO.v rfl (opv_move rfl) ?_
        refine SO.takeT rfl rfl rfl b8 ?_
        refine SO.v rfl (opv_gtr rfl rfl) ?_
        refine SO.v rfl (opv_pick_f' b8 rfl rfl) ?_
        refine SO.b1 ?_
        refine SO.b1 ?_
        exact hk2.fitc (m := 3) rfl (or_f b8) rfl
    refine SO.nil ?_
    rcases bool_or ((decide (t5 < 1)) || (decide (96 < t5))) with b9 | b9
    · replace h := VM.cond_t V.toVI b9 h
      refine S.condT rfl b9 ?_
      refine S.seq ?_
      refine S.region ?_
      refine SO.v rfl (opv_assign rfl) ?_
      refine SO.nil ?_
      obtain ⟨hq, rfl⟩ := VM.ret_some V.toVI h
      cases hq
      refine S.b1 ?_
      refine S.b1 ?_
      exact S.ret1 Try.func49 rfl rfl (fun w hs hk => hR w _ _ ⟨rfl, rfl⟩ hs hk)
    · replace h := VM.cond_f V.toVI b9 h
      refine S.condF rfl b9 ?_
      refine S.skip ?_
      refine S.seq ?_
      refine S.region ?_
      refine SO.v rfl (opv_move rfl) ?_
      refine SO.v rfl (opv_conv Try.underlying72 Try.underlying3 rfl) ?_
      refine SO.v rfl (opv_sub rfl rfl) ?_
      refine SO.v rfl (opv_assign rfl) ?_
      refine SO.nil ?_
      refine S.to (ρ' := [(6, .int .i64 (w64 ((w64 t5) - 1)))]) ⟨rfl, trivial⟩ ?_
      obtain ⟨hq, rfl⟩ := VM.ret_some V.toVI h
      cases hq
      refine S.b1 ?_
      refine S.b1 ?_
      exact S.ret1 Try.func49 rfl rfl (fun w hs hk => hR w _ _ ⟨rfl, rfl⟩ hs hk)
end Go.Proofs
namespace Go.Proofs
open Go.Sl Go.RowKit
/-! 46 padstone/cdt.Parent -/
def cdt_Parent.f (a1 : Int) : VM (Int) :=
  (cdt_get.f a1 1).bind fun t1 => VM.ret t1
set_option maxHeartbeats 8000000 in
set_option maxRecDepth 100000 in
theorem cdt_Parent.ct (V : VW Try.prog) (a1 : Int) (r0 : Int) (s s' : V.S) (h : VM.run V.toVI (cdt_Parent.f a1) s = some (r0, s')) :
    Ct Try.prog 46 [V.val, .int .i64 a1] (fun _ => True) [V.rep s] (fun u H' => u = .int .i64 r0 ∧ H' = [V.rep s']) := by
  unfold cdt_Parent.f at h
  refine Ct.intro (n := 8) Try.func46 rfl rfl rfl ?_
  intro R w0 F hF hR
  refine S.seq ?_
  refine S.region ?_
  refine SO.v rfl (opv_assign rfl) ?_
  refine SO.nil ?_
  refine S.seq ?_
  refine S.region ?_
  refine SO.v rfl (opv_move rfl) ?_
  refine SO.v rfl (opv_move rfl) ?_
  obtain ⟨t1, s3, ht2, h⟩ := VM.bind_some V.toVI h
  refine SO.call (pre := [V.rep _]) rfl Try.call49 rfl rfl rfl (cdt_get.ct V _ _ _ _ _ ht2) trivial ?_
  rintro _ _ ⟨rfl, rfl⟩
  refine SO.v rfl (opv_assign rfl) ?_
  refine SO.nil ?_
  obtain ⟨hq, rfl⟩ := VM.ret_some V.toVI h
  cases hq
  refine S.b1 ?_
  refine S.b1 ?_
  exact S.ret1 Try.func46 rfl rfl (fun w hs hk => hR w _ _ ⟨rfl, rfl⟩ hs hk)
end Go.Proofs
namespace Go.Proofs
open Go.Sl Go.RowKit
/-! 50 padstone/cdt.put -/
def cdt_put.f (a1 : Int) (a2 : Int) (a3 : Int) : VM (Unit) :=
  (VM.opt (lay_Slot.f a1 a2)).bind fun (t1, t2) => bif t2 then (VM.wr t1 (wu64 (w64 (a3 + 1))) (VM.ret ())) else (VM.ret ())
set_option maxHeartbeats 8000000 in
set_option maxRecDepth 100000 in
theorem cdt_put.ct (V : VW Try.prog) (a1 : Int) (a2 : Int) (a3 : Int) (s s' : V.S) (h : VM.run V.toVI (cdt_put.f a1 a2 a3) s = some ((), s')) :
    Ct Try.prog 50 [V.val, .int .i64 a1, .int .i64 a2, .int .i64 a3] (fun _ => True) [V.rep s] (fun u H' => u = .tuple #[] ∧ H' = [V.rep s']) := by
  unfold cdt_put.f at h
  refine Ct.intro (n := 23) Try.func50 rfl rfl rfl ?_
  intro R w0 F hF hR
  refine S.seq ?_
  refine S.region ?_
  refine SO.v rfl (opv_move rfl) ?_
  refine SO.v rfl (opv_move rfl) ?_
  obtain ⟨⟨t1, t2⟩, ht3, h⟩ := VM.opt_some V.toVI h
  refine SO.call (pre := []) rfl Try.call39 rfl rfl rfl (lay_Slot.ct _ _ _ _ ht3) trivial ?_
  rintro _ _ ⟨rfl, rfl⟩
  refine SO.v rfl (opv_move rfl) ?_
  refine SO.v rfl (opv_extract rfl rfl) ?_
  refine SO.v rfl (opv_extract rfl rfl) ?_
  refine SO.v rfl (opv_assign rfl) ?_
  refine SO.v rfl (opv_assign rfl) ?_
  refine SO.nil ?_
  refine S.to (ρ' := [(0, V.val), (3, .int .i64 a3), (8, .int .i64 t1), (9, .bool t2)]) ⟨rfl, rfl, rfl, rfl, trivial⟩ ?_
  refine S.seq ?_
  refine S.region ?_
  refine SO.v rfl (opv_move rfl) ?_
  refine SO.nil ?_
  rcases bool_or t2 with b4 | b4
  · replace h := VM.cond_t V.toVI b4 h
    refine S.condT rfl b4 ?_
    refine S.region ?_
    refine SO.v rfl (opv_move rfl) ?_
    refine SO.v rfl (opv_move rfl) ?_
    refine SO.v rfl (opv_move rfl) ?_
    refine SO.v rfl (opv_add rfl rfl) ?_
    refine SO.v rfl (opv_conv Try.underlying3 Try.underlying72 rfl) ?_
    obtain ⟨s5, hv6, h⟩ := VM.wr_some V.toVI h
    refine SO.vwrite' V rfl rfl rfl rfl hv6 ?_
    refine SO.nil ?_
    refine S.to (ρ' := []) trivial ?_
    obtain ⟨hq, rfl⟩ := VM.ret_some V.toVI h
    cases hq
    refine S.b1 ?_
    refine S.b1 ?_
    exact S.fin0 Try.func50 rfl (fun w hs hk => hR w _ _ ⟨rfl, rfl⟩ hs hk)
  · replace h := VM.cond_f V.toVI b4 h
    refine S.condF rfl b4 ?_
    refine S.skip ?_
    obtain ⟨hq, rfl⟩ := VM.ret_some V.toVI h
    cases hq
    refine S.b1 ?_
    refine S.b1 ?_
    exact S.fin0 Try.func50 rfl (fun w hs hk => hR w _ _ ⟨rfl, rfl⟩ hs hk)
end Go.Proofs
namespace Go.Proofs
open Go.Sl Go.RowKit
/-! 48 padstone/cdt.there -/
def cdt_there.f (a0 : Int) : Option (Bool) :=
  (lay_Slot.f a0 0).bind fun (t1, t2) => some t2
set_option maxHeartbeats 8000000 in
set_option maxRecDepth 100000 in
theorem cdt_there.ct (a0 : Int) (r0 : Bool) (h : cdt_there.f a0 = some r0) :
    Ct Try.prog 48 [.int .i64 a0] (fun _ => True) [] (fun u H' => u = .bool r0 ∧ H' = []) := by
  unfold cdt_there.f at h
  refine Ct.intro (n := 11) Try.func48 rfl rfl rfl ?_
  intro R w0 F hF hR
  refine S.seq ?_
  refine S.region ?_
  refine SO.v rfl (opv_assign rfl) ?_
  refine SO.nil ?_
  refine S.seq ?_
  refine S.region ?_
  refine SO.v rfl (opv_move rfl) ?_
  obtain ⟨⟨t1, t2⟩, ht3, h⟩ := opt_bind h
  refine SO.call (pre := []) rfl Try.call39 rfl rfl rfl (lay_Slot.ct _ _ _ _ ht3) trivial ?_
  rintro _ _ ⟨rfl, rfl⟩
  refine SO.v rfl (opv_move rfl) ?_
  refine SO.v rfl (opv_extract rfl rfl) ?_
  refine SO.v rfl (opv_extract rfl rfl) ?_
  refine SO.v rfl (opv_assign rfl) ?_
  refine SO.v rfl (opv_assign rfl) ?_
  refine SO.nil ?_
  refine S.to (ρ' := [(2, .bool false), (4, .bool t2)]) ⟨rfl, rfl, trivial⟩ ?_
  refine S.seq ?_
  refine S.region ?_
  refine SO.v rfl (opv_move rfl) ?_
  refine SO.v rfl (opv_assign rfl) ?_
  refine SO.nil ?_
  cases h
  exact S.ret1 Try.func48 rfl rfl (fun w hs hk => hR w _ _ ⟨rfl, rfl⟩ hs hk)
end Go.Proofs
namespace Go.Proofs
open Go.Sl Go.RowKit
/-! 34 padstone/cdt.Link -/
def cdt_Link.f (a1 : Int) (a2 : Int) : VM ((Option Int)) :=
  (VM.opt (cdt_there.f a1)).bind fun t1 => (bif !t1 then (VM.ret true) else ((VM.opt (cdt_there.f a2)).bind fun t6 => VM.ret (!t6))).bind fun c4 => bif c4 then (VM.ret (some 2)) else ((bif a1 == a2 then (VM.ret true) else ((cdt_Parent.f a1).bind fun t13 => VM.ret (t13 != (-1)))).bind fun c11 => bif c11 then (VM.ret (some 10)) else ((cdt_get.f a2 2).bind fun t18 => (cdt_put.f a1 1 a2).bind fun _ => (cdt_put.f a1 3 t18).bind fun _ => (cdt_put.f a1 4 (-1)).bind fun _ => (cdt_put.f t18 4 a1).bind fun _ => (cdt_put.f a2 2 a1).bind fun _ => VM.ret none))
set_option maxHeartbeats 8000000 in
set_option maxRecDepth 100000 in
theorem cdt_Link.ct (V : VW Try.prog) (a1 : Int) (a2 : Int) (r0 : Option Int) (s s' : V.S) (h : VM.run V.toVI (cdt_Link.f a1 a2) s = some (r0, s')) :
    Ct Try.prog 34 [V.val, .int .i64 a1, .int .i64 a2] (fun _ => True) [V.rep s] (fun u H' => u = errV 61 r0 ∧ H' = [V.rep s']) := by
  unfold cdt_Link.f at h
  refine Ct.intro (n := 51) Try.func34 rfl rfl rfl ?_
  intro R w0 F hF hR
  refine S.seq ?_
  refine S.region ?_
  refine SO.v rfl (opv_assign rfl) ?_
  refine SO.nil ?_
  refine S.seq ?_
  refine S.block ?_
  refine S.seq ?_
  refine S.region ?_
  refine SO.v rfl (opv_move rfl) ?_
  obtain ⟨t1, ht2, h⟩ := VM.opt_some V.toVI h
  refine SO.call (pre := []) rfl Try.call48 rfl rfl rfl (cdt_there.ct _ _ ht2) trivial ?_
  rintro _ _ ⟨rfl, rfl⟩
  refine SO.v rfl (opv_not rfl) ?_
  refine SO.v rfl (opv_move rfl) ?_
  obtain ⟨c4, s8, hc5, hgk⟩ := VM.bind_some V.toVI h
  refine SO.cut 4 16 (.bool c4) [V.rep s8, F] (fun l2 hk2 => ?_) ?_
  · clear hgk
    replace h := hc5
    rcases bool_or (!t1) with b3 | b3
    · replace h := VM.cond_t V.toVI b3 h
      refine SO.passF rfl rfl rfl b3 rfl rfl ?_
      refine SO.passF rfl rfl rfl b3 rfl rfl ?_
      refine SO.passF rfl rfl rfl b3 rfl rfl ?_
      obtain ⟨hq, rfl⟩ := VM.ret_some V.toVI h
      cases hq
      refine SO.v rfl (opv_pick_t' b3 rfl rfl) ?_
      refine SO.b1 ?_
      refine SO.b1 ?_
      exact hk2.fitc (m := 4) rfl (rfl) rfl
    · replace h := VM.cond_f V.toVI b3 h
      refine SO.takeT rfl rfl rfl b3 ?_
      refine SO.v rfl (opv_move rfl) ?_
      refine SO.takeT rfl rfl rfl b3 ?_
      obtain ⟨t6, ht7, h⟩ := VM.opt_some V.toVI h
      refine SO.call (pre := []) rfl Try.call48 rfl rfl rfl (cdt_there.ct _ _ ht7) trivial ?_
      rintro _ _ ⟨rfl, rfl⟩
      refine SO.takeT rfl rfl rfl b3 ?_
      refine SO.v rfl (opv_not rfl) ?_
      obtain ⟨hq, rfl⟩ := VM.ret_some V.toVI h
      cases hq
      refine SO.v rfl (opv_pick_f' b3 rfl rfl) ?_
      refine SO.b1 ?_
      refine SO.b1 ?_
      exact hk2.fitc (m := 4) rfl (rfl) rfl
  clear hc5
  replace h := hgk
  refine SO.v rfl (opv_assign rfl) ?_
  refine SO.nil ?_
  rcases bool_or c4 with b9 | b9
  · replace h := VM.cond_t V.toVI b9 h
    refine S.condT rfl b9 ?_
    refine S.seq ?_
    refine S.region ?_
    refine SO.v rfl (opv_iface Try.underlying61 rfl rfl) ?_
    refine SO.v rfl (opv_assign rfl) ?_
    refine SO.nil ?_
    refine S.to (ρ' := [(6, errV 61 (some 2))]) ⟨rfl, trivial⟩ ?_
    obtain ⟨hq, rfl⟩ := VM.ret_some V.toVI h
    cases hq
    refine S.b1 ?_
    refine S.b1 ?_
    exact S.ret1 Try.func34 rfl rfl (fun w hs hk => hR w _ _ ⟨rfl, rfl⟩ hs hk)
  · replace h := VM.cond_f V.toVI b9 h
    refine S.condF rfl b9 ?_
    refine S.seq ?_
    refine S.region ?_
    refine SO.v rfl (opv_move rfl) ?_
    refine SO.v rfl (opv_move rfl) ?_
    refine SO.v rfl (opv_eql rfl rfl) ?_
    refine SO.v rfl (opv_move rfl) ?_
    obtain ⟨c11, s16, hc12, hgk⟩ := VM.bind_some V.toVI h
    refine SO.cut 5 27 (.bool c11) [V.rep s16, F] (fun l2 hk2 => ?_) ?_
    · clear hgk
      replace h := hc12
      rcases bool_or (a1 == a2) with b10 | b10
      · replace h := VM.cond_t V.toVI b10 h
        refine SO.passF rfl rfl rfl b10 rfl rfl ?_
        refine SO.passF rfl rfl rfl b10 rfl rfl ?_
        refine SO.passF rfl rfl rfl b10 rfl rfl ?_
        refine SO.passF rfl rfl rfl b10 rfl rfl ?_
        obtain ⟨hq, rfl⟩ := VM.ret_some V.toVI h
        cases hq
        refine SO.v rfl (opv_pick_t' b10 rfl rfl) ?_
        refine SO.b1 ?_
        refine SO.b1 ?_
        exact hk2.fitc (m := 5) rfl (rfl) rfl
      · replace h := VM.cond_f V.toVI b10 h
        refine SO.takeT rfl rfl rfl b10 ?_
        refine SO.v rfl (opv_move rfl) ?_
        refine SO.takeT rfl rfl rfl b10 ?_
        refine SO.v rfl (opv_move rfl) ?_
        refine SO.takeT rfl rfl rfl b10 ?_
        obtain ⟨t13, s15, ht14, h⟩ := VM.bind_some V.toVI h
        refine SO.call (pre := [V.rep _]) rfl Try.call46 rfl rfl rfl (cdt_Parent.ct V _ _ _ _ ht14) trivial ?_
        rintro _ _ ⟨rfl, rfl⟩
        refine SO.takeT rfl rfl rfl b10 ?_
        refine SO.v rfl (opv_neq rfl rfl) ?_
        obtain ⟨hq, rfl⟩ := VM.ret_some V.toVI h
        cases hq
        refine SO.v rfl (opv_pick_f' b10 rfl rfl) ?_
        refine SO.b1 ?_
        refine SO.b1 ?_
        exact hk2.fitc (m := 5) rfl (rfl) rfl
    clear hc12
    replace h := hgk
    refine SO.v rfl (opv_assign rfl) ?_
    refine SO.nil ?_
    refine S.to (ρ' := [(0, V.val), (1, .int .i64 a1), (2, .int .i64 a2), (6, errV 61 none), (18, .bool c11)]) ⟨rfl, rfl, rfl, rfl, rfl, trivial⟩ ?_
    rcases bool_or c11 with b17 | b17
    · replace h := VM.cond_t V.toVI b17 h
      refine S.condT rfl b17 ?_
      refine S.seq ?_
      refine S.region ?_
      refine SO.v rfl (opv_iface Try.underlying61 rfl rfl) ?_
      refine SO.v rfl (opv_assign rfl) ?_
      refine SO.nil ?_
      obtain ⟨hq, rfl⟩ := VM.ret_some V.toVI h
      cases hq
      refine S.b1 ?_
      refine S.b1 ?_
      exact S.ret1 Try.func34 rfl rfl (fun w hs hk => hR w _ _ ⟨rfl, rfl⟩ hs hk)
    · replace h := VM.cond_f V.toVI b17 h
      refine S.condF rfl b17 ?_
      refine S.skip ?_
      refine S.inBlock ?_
      refine S.seq ?_
      refine S.region ?_
      refine SO.v rfl (opv_move rfl) ?_
      refine SO.v rfl (opv_move rfl) ?_
      obtain ⟨t18, s20, ht19, h⟩ := VM.bind_some V.toVI h
      refine SO.call (pre := [V.rep _]) rfl Try.call49 rfl rfl rfl (cdt_get.ct V _ _ _ _ _ ht19) trivial ?_
      rintro _ _ ⟨rfl, rfl⟩
      refine SO.v rfl (opv_assign rfl) ?_
      refine SO.nil ?_
      refine S.seq ?_
      refine S.region ?_
      refine SO.v rfl (opv_move rfl) ?_
      refine SO.v rfl (opv_move rfl) ?_
      refine SO.v rfl (opv_move rfl) ?_
      obtain ⟨_, s22, ht21, h⟩ := VM.bind_some V.toVI h
      refine SO.call (pre := [V.rep _]) rfl Try.call50 rfl rfl rfl (cdt_put.ct V _ _ _ _ _ ht21) trivial ?_
      rintro _ _ ⟨rfl, rfl⟩
      refine SO.nil ?_
      refine S.to (ρ' := [(0, V.val), (1, .int .i64 a1), (2, .int .i64 a2), (6, errV 61 none), (7, .int .i64 t18)]) ⟨rfl, rfl, rfl, rfl, rfl, trivial⟩ ?_
      refine S.seq ?_
      refine S.region ?_
      refine SO.v rfl (opv_move rfl) ?_
      refine SO.v rfl (opv_move rfl) ?_
      refine SO.v rfl (opv_move rfl) ?_
      obtain ⟨_, s24, ht23, h⟩ := VM.bind_some V.toVI h
      refine SO.call (pre := [V.rep _]) rfl Try.call50 rfl rfl rfl (cdt_put.ct V _ _ _ _ _ ht23) trivial ?_
      rintro _ _ ⟨rfl, rfl⟩
      refine SO.nil ?_
      refine S.seq ?_
      refine S.region ?_
      refine SO.v rfl (opv_move rfl) ?_
      refine SO.v rfl (opv_move rfl) ?_
      obtain ⟨_, s26, ht25, h⟩ := VM.bind_some V.toVI h
      refine SO.call (pre := [V.rep _]) rfl Try.call50 rfl rfl rfl (cdt_put.ct V _ _ _ _ _ ht25) trivial ?_
      rintro _ _ ⟨rfl, rfl⟩
      refine SO.nil ?_
      refine S.to (ρ' := [(0, V.val), (1, .int .i64 a1), (2, .int .i64 a2), (6, errV 61 none), (7, .int .i64 t18)]) ⟨rfl, rfl, rfl, rfl, rfl, trivial⟩ ?_
      refine S.seq ?_
      refine S.region ?_
      refine SO.v rfl (opv_move rfl) ?_
      refine SO.v rfl (opv_move rfl) ?_
      refine SO.v rfl (opv_move rfl) ?_
      obtain ⟨_, s28, ht27, h⟩ := VM.bind_some V.toVI h
      refine SO.call (pre := [V.rep _]) rfl Try.call50 rfl rfl rfl (cdt_put.ct V _ _ _ _ _ ht27) trivial ?_
      rintro _ _ ⟨rfl, rfl⟩
      refine SO.nil ?_
      refine S.seq ?_
      refine S.region ?_
      refine SO.v rfl (opv_move rfl) ?_
      refine SO.v rfl (opv_move rfl) ?_
      refine SO.v rfl (opv_move rfl) ?_
      obtain ⟨_, s30, ht29, h⟩ := VM.bind_some V.toVI h
      refine SO.call (pre := [V.rep _]) rfl Try.call50 rfl rfl rfl (cdt_put.ct V _ _ _ _ _ ht29) trivial ?_
      rintro _ _ ⟨rfl, rfl⟩
      refine SO.nil ?_
      refine S.to (ρ' := [(6, errV 61 none)]) ⟨rfl, trivial⟩ ?_
      refine S.seq ?_
      refine S.region ?_
      refine SO.v rfl (opv_assign rfl) ?_
      refine SO.nil ?_
      obtain ⟨hq, rfl⟩ := VM.ret_some V.toVI h
      cases hq
      refine S.b1 ?_
      refine S.b1 ?_
      exact S.ret1 Try.func34 rfl rfl (fun w hs hk => hR w _ _ ⟨rfl, rfl⟩ hs hk)
end Go.Proofs
namespace Go.Proofs
open Go.Sl Go.RowKit
/-! 57 padstone/pack.May$1 -/
def pack_May_1.f (a0 : Int) (a1 : Int) : Option (Bool) :=
  some ((decide (0 ≤ a0)) && (decide (a0 ≤ a1)))
set_option maxHeartbeats 8000000 in
set_option maxRecDepth 100000 in
theorem pack_May_1.ct (a0 : Int) (a1 : Int) (r0 : Bool) (h : pack_May_1.f a0 a1 = some r0) :
    Ct Try.prog 57 [.int .i64 a0, .int .i64 a1] (fun _ => True) [] (fun u H' => u = .bool r0 ∧ H' = []) := by
  unfold pack_May_1.f at h
  refine Ct.intro (n := 12) Try.func57 rfl rfl rfl ?_
  intro R w0 F hF hR
  refine S.seq ?_
  refine S.region ?_
  refine SO.v rfl (opv_assign rfl) ?_
  refine SO.nil ?_
  refine S.seq ?_
  refine S.region ?_
  refine SO.v rfl (opv_move rfl) ?_
  refine SO.v rfl (opv_geq rfl rfl) ?_
  refine SO.v rfl (opv_move rfl) ?_
  refine SO.cut 4 11 (.bool ((decide (0 ≤ a0)) && (decide (a0 ≤ a1)))) [F] (fun l2 hk2 => ?_) ?_
  · rcases bool_or (decide (0 ≤ a0)) with b1 | b1
    · refine SO.takeT rfl rfl rfl b1 ?_
      refine SO.v rfl (opv_move rfl) ?_
      refine SO.takeT rfl rfl rfl b1 ?_
      refine SO.v rfl (opv_move rfl) ?_
      refine SO.takeT rfl rfl rfl b1 ?_
      refine SO.v rfl (opv_leq rfl rfl) ?_
      refine SO.v rfl (opv_pick_t' b1 rfl rfl) ?_
      exact hk2.fitc (m := 4) rfl (and_t b1) rfl
    · refine SO.passF rfl rfl rfl b1 rfl rfl ?_
      refine SO.passF rfl rfl rfl b1 rfl rfl ?_
      refine SO.passF rfl rfl rfl b1 rfl rfl ?_
      refine SO.v rfl (opv_pick_f' b1 rfl rfl) ?_
      exact hk2.fitc (m := 4) rfl (and_f b1) rfl
  refine SO.v rfl (opv_assign rfl) ?_
  refine SO.nil ?_
  cases h
  exact S.ret1 Try.func57 rfl rfl (fun w hs hk => hR w _ _ ⟨rfl, rfl⟩ hs hk)
end Go.Proofs
namespace Go.Proofs
open Go.Sl Go.RowKit
/-! 56 padstone/pack.May -/
def pack_May.f (a0 : api_Cap) : Option (Bool) :=
  bif a0.Kind == 0 then (some (decide (a0 = (⟨0, 0, 0, 0, 0, 0⟩ : api_Cap)))) else ((pack_May_1.f a0.Kind 8).bind fun t4 => (bif !t4 then (some true) else ((pack_May_1.f a0.Rights 7).bind fun t9 => some (!t9))).bind fun c7 => (bif c7 then (some true) else ((pack_May_1.f a0.Obj 31).bind fun t14 => some (!t14))).bind fun c12 => (bif c12 then (some true) else ((pack_May_1.f a0.Badge 65535).bind fun t19 => some (!t19))).bind fun c17 => (bif c17 then (some true) else ((pack_May_1.f a0.Bits 8).bind fun t24 => some (!t24))).bind fun c22 => bif c22 then (some false) else (bif ((!((a0.Kind == 3) || (a0.Kind == 4))) && (a0.Badge != 0)) || ((a0.Kind != 2) && ((a0.Bits != 0) || (a0.Guard != 0))) then (some false) else ((chk (decide (0 ≤ a0.Bits))).bind fun _ => (pack_May_1.f a0.Guard (w64 ((bshl .i64 1 a0.Bits) - 1))).bind fun t33 => some t33)))
set_option maxHeartbeats 8000000 in
set_option maxRecDepth 100000 in
theorem pack_May.ct (a0 : api_Cap) (r0 : Bool) (h : pack_May.f a0 = some r0) :
    Ct Try.prog 56 [.agg #[.int .i64 a0.Kind, .int .i64 a0.Rights, .int .i64 a0.Obj, .int .i64 a0.Badge, .int .i64 a0.Guard, .int .i64 a0.Bits]] (fun _ => True) [] (fun u H' => u = .bool r0 ∧ H' = []) := by
  unfold pack_May.f at h
  refine Ct.intro (n := 85) Try.func56 rfl rfl rfl ?_
  intro R w0 F hF hR
  refine S.seq ?_
  refine S.region ?_
  refine SO.box rfl rfl rfl (fun b1 => ?_)
  refine SO.v rfl (opv_assign rfl) ?_
  refine SO.nil ?_
  refine S.seq ?_
  refine S.region ?_
  refine SO.v rfl (opv_assign rfl) ?_
  refine SO.nil ?_
  refine S.seq ?_
  refine S.region ?_
  refine SO.v rfl (opv_fieldAddr Try.underlying24 rfl Try.sizeOf3 rfl rfl) ?_
  refine SO.load1 rfl Try.isAgg3 rfl rfl ?_
  refine SO.v rfl (opv_eql rfl rfl) ?_
  refine SO.v rfl (opv_move rfl) ?_
  refine SO.cut 4 12 (.bool ((a0.Kind == 3) || (a0.Kind == 4))) [Box b1 [.int .i64 a0.Kind, .int .i64 a0.Rights, .int .i64 a0.Obj, .int .i64 a0.Badge, .int .i64 a0.Guard, .int .i64 a0.Bits], F] (fun l2 hk2 => ?_) ?_
  · rcases bool_or (a0.Kind == 3) with b2 | b2
    · refine SO.passF rfl rfl rfl b2 rfl rfl ?_
      refine SO.passF rfl rfl rfl b2 rfl rfl ?_
      refine SO.passF rfl rfl rfl b2 rfl rfl ?_
      refine SO.v rfl (opv_pick_t' b2 rfl rfl) ?_
      refine SO.b1 ?_
      refine SO.b1 ?_
      exact hk2.fitc (m := 4) rfl (or_t b2) rfl
    · refine SO.takeT rfl rfl rfl b2 ?_
      refine SO.v rfl (opv_fieldAddr Try.underlying24 rfl Try.sizeOf3 rfl rfl) ?_
      refine SO.takeT rfl rfl rfl b2 ?_
      refine SO.load1 rfl Try.isAgg3 rfl rfl ?_
      refine SO.takeT rfl rfl rfl b2 ?_
      refine SO.v rfl (opv_eql rfl rfl) ?_
      refine SO.v rfl (opv_pick_f' b2 rfl rfl) ?_
      refine SO.b1 ?_
      refine SO.b1 ?_
      exact hk2.fitc (m := 4) rfl (or_f b2) rfl
  refine SO.v rfl (opv_assign rfl) ?_
  refine SO.nil ?_
  refine S.seq ?_
  refine S.block ?_
  refine S.seq ?_
  refine S.region ?_
  refine SO.v rfl (opv_fieldAddr Try.underlying24 rfl Try.sizeOf3 rfl rfl) ?_
  refine SO.load1 rfl Try.isAgg3 rfl rfl ?_
  refine SO.v rfl (opv_eql rfl rfl) ?_
  refine SO.v rfl (opv_assign rfl) ?_
  refine SO.nil ?_
  refine S.to (ρ' := [(1, bp b1 0), (2, .bool false), (3, .func (.func 57) #[] #[]), (4, .bool ((a0.Kind == 3) || (a0.Kind == 4))), (13, .bool (a0.Kind == 0))]) ⟨rfl, rfl, rfl, rfl, rfl, trivial⟩ ?_
  rcases bool_or (a0.Kind == 0) with b3 | b3
  · replace h := cond_t b3 h
    refine S.condT rfl b3 ?_
    refine S.seq ?_
    refine S.region ?_
    refine SO.loadN rfl Try.isAgg24 Try.sizeOf24 rfl rfl rfl ?_
    refine SO.v rfl (opv_build (v := .agg #[.int .i64 0, .int .i64 0, .int .i64 0, .int .i64 0, .int .i64 0, .int .i64 0]) rfl (by intro w; kernel_rfl)) ?_
    refine SO.v rfl (eq_eql_api_Cap (x := a0) (y := (⟨0, 0, 0, 0, 0, 0⟩ : api_Cap)) rfl rfl) ?_
    refine SO.v rfl (opv_assign rfl) ?_
    refine SO.nil ?_
    refine S.to (ρ' := [(2, .bool (decide (a0 = (⟨0, 0, 0, 0, 0, 0⟩ : api_Cap))))]) ⟨rfl, trivial⟩ ?_
    cases h
    refine S.drop ?_
    exact S.ret1 Try.func56 rfl rfl (fun w hs hk => hR w _ _ ⟨rfl, rfl⟩ hs hk)
  · replace h := cond_f b3 h
    refine S.condF rfl b3 ?_
    refine S.seq ?_
    refine S.region ?_
    refine SO.v rfl (opv_move rfl) ?_
    refine SO.v rfl (opv_fieldAddr Try.underlying24 rfl Try.sizeOf3 rfl rfl) ?_
    refine SO.load1 rfl Try.isAgg3 rfl rfl ?_
    obtain ⟨t4, ht5, h⟩ := opt_bind h
    refine SO.call (pre := []) rfl Try.call57 rfl rfl rfl (pack_May_1.ct _ _ _ ht5) trivial ?_
    rintro _ _ ⟨rfl, rfl⟩
    refine SO.v rfl (opv_not rfl) ?_
    refine SO.v rfl (opv_move rfl) ?_
    obtain ⟨c7, hc8, hgk⟩ := opt_bind h
    refine SO.cut 6 32 (.bool c7) [Box b1 [.int .i64 a0.Kind, .int .i64 a0.Rights, .int .i64 a0.Obj, .int .i64 a0.Badge, .int .i64 a0.Guard, .int .i64 a0.Bits], F] (fun l2 hk2 => ?_) ?_
    · clear hgk
      replace h := hc8
      rcases bool_or (!t4) with b6 | b6
      · replace h := cond_t b6 h
        refine SO.passF rfl rfl rfl b6 rfl rfl ?_
        refine SO.passF rfl rfl rfl b6 rfl rfl ?_
        refine SO.passF rfl rfl rfl b6 rfl rfl ?_
        refine SO.passF rfl rfl rfl b6 rfl rfl ?_
        refine SO.passF rfl rfl rfl b6 rfl rfl ?_
        cases h
        refine SO.v rfl (opv_pick_t' b6 rfl rfl) ?_
        refine SO.b1 ?_
        refine SO.b1 ?_
        exact hk2.fitc (m := 6) rfl (rfl) rfl
      · replace h := cond_f b6 h
        refine SO.takeT rfl rfl rfl b6 ?_
        refine SO.v rfl (opv_move rfl) ?_
        refine SO.takeT rfl rfl rfl b6 ?_
        refine SO.v rfl (opv_fieldAddr Try.underlying24 rfl Try.sizeOf3 rfl rfl) ?_
        refine SO.takeT rfl rfl rfl b6 ?_
        refine SO.load1 rfl Try.isAgg3 rfl rfl ?_
        refine SO.takeT rfl rfl rfl b6 ?_
        obtain ⟨t9, ht10, h⟩ := opt_bind h
        refine SO.call (pre := []) rfl Try.call57 rfl rfl rfl (pack_May_1.ct _ _ _ ht10) trivial ?_
        rintro _ _ ⟨rfl, rfl⟩
        refine SO.takeT rfl rfl rfl b6 ?_
        refine SO.v rfl (opv_not rfl) ?_
        cases h
        refine SO.v rfl (opv_pick_f' b6 rfl rfl) ?_
        refine SO.b1 ?_
        refine SO.b1 ?_
        exact hk2.fitc (m := 6) rfl (rfl) rfl
    clear hc8
    replace h := hgk
    refine SO.v rfl (opv_move rfl) ?_
    obtain ⟨c12, hc13, hgk⟩ := opt_bind h
    refine SO.cut 6 39 (.bool c12) [Box b1 [.int .i64 a0.Kind, .int .i64 a0.Rights, .int .i64 a0.Obj, .int .i64 a0.Badge, .int .i64 a0.Guard, .int .i64 a0.Bits], F] (fun l2 hk2 => ?_) ?_
    · clear hgk
      replace h := hc13
      rcases bool_or c7 with b11 | b11
      · replace h := cond_t b11 h
        refine SO.passF rfl rfl rfl b11 rfl rfl ?_
        refine SO.passF rfl rfl rfl b11 rfl rfl ?_
        refine SO.passF rfl rfl rfl b11 rfl rfl ?_
        refine SO.passF rfl rfl rfl b11 rfl rfl ?_
        refine SO.passF rfl rfl rfl b11 rfl rfl ?_
        cases h
        refine SO.v rfl (opv_pick_t' b11 rfl rfl) ?_
        refine SO.b1 ?_
        refine SO.b1 ?_
        exact hk2.fitc (m := 6) rfl (rfl) rfl
      · replace h := cond_f b11 h
        refine SO.takeT rfl rfl rfl b11 ?_
        refine SO.v rfl (opv_move rfl) ?_
        refine SO.takeT rfl rfl rfl b11 ?_
        refine SO.v rfl (opv_fieldAddr Try.underlying24 rfl Try.sizeOf3 rfl rfl) ?_
        refine SO.takeT rfl rfl rfl b11 ?_
        refine SO.load1 rfl Try.isAgg3 rfl rfl ?_
        refine SO.takeT rfl rfl rfl b11 ?_
        obtain ⟨t14, ht15, h⟩ := opt_bind h
        refine SO.call (pre := []) rfl Try.call57 rfl rfl rfl (pack_May_1.ct _ _ _ ht15) trivial ?_
        rintro _ _ ⟨rfl, rfl⟩
        refine SO.takeT rfl rfl rfl b11 ?_
        refine SO.v rfl (opv_not rfl) ?_
        cases h
        refine SO.v rfl (opv_pick_f' b11 rfl rfl) ?_
        refine SO.b1 ?_
        refine SO.b1 ?_
        exact hk2.fitc (m := 6) rfl (rfl) rfl
    clear hc13
    replace h := hgk
    refine SO.v rfl (opv_move rfl) ?_
    obtain ⟨c17, hc18, hgk⟩ := opt_bind h
    refine SO.cut 6 46 (.bool c17) [Box b1 [.int .i64 a0.Kind, .int .i64 a0.Rights, .int .i64 a0.Obj, .int .i64 a0.Badge, .int .i64 a0.Guard, .int .i64 a0.Bits], F] (fun l2 hk2 => ?_) ?_
    · clear hgk
      replace h := hc18
      rcases bool_or c12 with b16 | b16
      · replace h := cond_t b16 h
        refine SO.passF rfl rfl rfl b16 rfl rfl ?_
        refine SO.passF rfl rfl rfl b16 rfl rfl ?_
        refine SO.passF rfl rfl rfl b16 rfl rfl ?_
        refine SO.passF rfl rfl rfl b16 rfl rfl ?_
        refine SO.passF rfl rfl rfl b16 rfl rfl ?_
        cases h
        refine SO.v rfl (opv_pick_t' b16 rfl rfl) ?_
        refine SO.b1 ?_
        refine SO.b1 ?_
        exact hk2.fitc (m := 6) rfl (rfl) rfl
      · replace h := cond_f b16 h
        refine SO.takeT rfl rfl rfl b16 ?_
        refine SO.v rfl (opv_move rfl) ?_
        refine SO.takeT rfl rfl rfl b16 ?_
        refine SO.v rfl (opv_fieldAddr Try.underlying24 rfl Try.sizeOf3 rfl rfl) ?_
        refine SO.takeT rfl rfl rfl b16 ?_
        refine SO.load1 rfl Try.isAgg3 rfl rfl ?_
        refine SO.takeT rfl rfl rfl b16 ?_
        obtain ⟨t19, ht20, h⟩ := opt_bind h
        refine SO.call (pre := []) rfl Try.call57 rfl rfl rfl (pack_May_1.ct _ _ _ ht20) trivial ?_
        rintro _ _ ⟨rfl, rfl⟩
        refine SO.takeT rfl rfl rfl b16 ?_
        refine SO.v rfl (opv_not rfl) ?_
        cases h
        refine SO.v rfl (opv_pick_f' b16 rfl rfl) ?_
        refine SO.b1 ?_
        refine SO.b1 ?_
        exact hk2.fitc (m := 6) rfl (rfl) rfl
    clear hc18
    replace h := hgk
    refine SO.v rfl (opv_move rfl) ?_
    obtain ⟨c22, hc23, hgk⟩ := opt_bind h
    refine SO.cut 6 53 (.bool c22) [Box b1 [.int .i64 a0.Kind, .int .i64 a0.Rights, .int .i64 a0.Obj, .int .i64 a0.Badge, .int .i64 a0.Guard, .int .i64 a0.Bits], F] (fun l2 hk2 => ?_) ?_
    · clear hgk
      replace h := hc23
      rcases bool_or c17 with b21 | b21
      · replace h := cond_t b21 h
        refine SO.passF rfl rfl rfl b21 rfl rfl ?_
        refine SO.passF rfl rfl rfl b21 rfl rfl ?_
        refine SO.passF rfl rfl rfl b21 rfl rfl ?_
        refine SO.passF rfl rfl rfl b21 rfl rfl ?_
        refine SO.passF rfl rfl rfl b21 rfl rfl ?_
        cases h
        refine SO.v rfl (opv_pick_t' b21 rfl rfl) ?_
        refine SO.b1 ?_
        refine SO.b1 ?_
        exact hk2.fitc (m := 6) rfl (rfl) rfl
      · replace h := cond_f b21 h
        refine SO.takeT rfl rfl rfl b21 ?_
        refine SO.v rfl (opv_move rfl) ?_
        refine SO.takeT rfl rfl rfl b21 ?_
        refine SO.v rfl (opv_fieldAddr Try.underlying24 rfl Try.sizeOf3 rfl rfl) ?_
        refine SO.takeT rfl rfl rfl b21 ?_
        refine SO.load1 rfl Try.isAgg3 rfl rfl ?_
        refine SO.takeT rfl rfl rfl b21 ?_
        obtain ⟨t24, ht25, h⟩ := opt_bind h
        refine SO.call (pre := []) rfl Try.call57 rfl rfl rfl (pack_May_1.ct _ _ _ ht25) trivial ?_
        rintro _ _ ⟨rfl, rfl⟩
        refine SO.takeT rfl rfl rfl b21 ?_
        refine SO.v rfl (opv_not rfl) ?_
        cases h
        refine SO.v rfl (opv_pick_f' b21 rfl rfl) ?_
        refine SO.b1 ?_
        refine SO.b1 ?_
        exact hk2.fitc (m := 6) rfl (rfl) rfl
    clear hc23
    replace h := hgk
    refine SO.v rfl (opv_assign rfl) ?_
    refine SO.nil ?_
    refine S.to (ρ' := [(1, bp b1 0), (2, .bool false), (3, .func (.func 57) #[] #[]), (4, .bool ((a0.Kind == 3) || (a0.Kind == 4))), (20, .bool c22)]) ⟨rfl, rfl, rfl, rfl, rfl, trivial⟩ ?_
    rcases bool_or c22 with b26 | b26
    · replace h := cond_t b26 h
      refine S.condT rfl b26 ?_
      refine S.seq ?_
      refine S.region ?_
      refine SO.v rfl (opv_assign rfl) ?_
      refine SO.nil ?_
      cases h
      refine S.drop ?_
      exact S.ret1 Try.func56 rfl rfl (fun w hs hk => hR w _ _ ⟨rfl, rfl⟩ hs hk)
    · replace h := cond_f b26 h
      refine S.condF rfl b26 ?_
      refine S.seq ?_
      refine S.region ?_
      refine SO.v rfl (opv_move rfl) ?_
      refine SO.v rfl (opv_not rfl) ?_
      refine SO.v rfl (opv_move rfl) ?_
      refine SO.cut 4 61 (.bool ((!((a0.Kind == 3) || (a0.Kind == 4))) && (a0.Badge != 0))) [Box b1 [.int .i64 a0.Kind, .int .i64 a0.Rights, .int .i64 a0.Obj, .int .i64 a0.Badge, .int .i64 a0.Guard, .int .i64 a0.Bits], F] (fun l2 hk2 => ?_) ?_
      · rcases bool_or (!((a0.Kind == 3) || (a0.Kind == 4))) with b27 | b27
        · refine SO.takeT rfl rfl rfl b27 ?_
          refine SO.v rfl (opv_fieldAddr Try.underlying24 rfl Try.sizeOf3 rfl rfl) ?_
          refine SO.takeT rfl rfl rfl b27 ?_
          refine SO.load1 rfl Try.isAgg3 rfl rfl ?_
          refine SO.takeT rfl rfl rfl b27 ?_
          refine SO.v rfl (opv_neq rfl rfl) ?_
          refine SO.v rfl (opv_pick_t' b27 rfl rfl) ?_
          refine SO.b1 ?_
          refine SO.b1 ?_
          exact hk2.fitc (m := 4) rfl (and_t b27) rfl
        · refine SO.passF rfl rfl rfl b27 rfl rfl ?_
          refine SO.passF rfl rfl rfl b27 rfl rfl ?_
          refine SO.passF rfl rfl rfl b27 rfl rfl ?_
          refine SO.v rfl (opv_pick_f' b27 rfl rfl) ?_
          refine SO.b1 ?_
          refine SO.b1 ?_
          exact hk2.fitc (m := 4) rfl (and_f b27) rfl
      refine SO.v rfl (opv_move rfl) ?_
      refine SO.cut 14 76 (.bool (((!((a0.Kind == 3) || (a0.Kind == 4))) && (a0.Badge != 0)) || ((a0.Kind != 2) && ((a0.Bits != 0) || (a0.Guard != 0))))) [Box b1 [.int .i64 a0.Kind, .int .i64 a0.Rights, .int .i64 a0.Obj, .int .i64 a0.Badge, .int .i64 a0.Guard, .int .i64 a0.Bits], F] (fun l2 hk2 => ?_) ?_
      · rcases bool_or ((!((a0.Kind == 3) || (a0.Kind == 4))) && (a0.Badge != 0)) with b28 | b28
        · refine SO.passF rfl rfl rfl b28 rfl rfl ?_
          refine SO.passF rfl rfl rfl b28 rfl rfl ?_
          refine SO.passF rfl rfl rfl b28 rfl rfl ?_
          refine SO.passF rfl rfl rfl b28 rfl rfl ?_
          refine SO.pass_undef rfl rfl rfl rfl ?_
          refine SO.pass_undef rfl rfl rfl rfl ?_
          refine SO.pass_undef rfl rfl rfl rfl ?_
          refine SO.pass_undef rfl rfl rfl rfl ?_
          refine SO.pass_undef rfl rfl rfl rfl ?_
          refine SO.pass_undef rfl rfl rfl rfl ?_
          refine SO.pass_undef rfl rfl rfl rfl ?_
          refine SO.pass_undef rfl rfl rfl rfl ?_
          refine SO.passF rfl rfl rfl b28 rfl rfl ?_
          refine SO.v rfl (opv_pick_t' b28 rfl rfl) ?_
          refine SO.b1 ?_
          refine SO.b1 ?_
          exact hk2.fitc (m := 14) rfl (or_t b28) rfl
        · refine SO.takeT rfl rfl rfl b28 ?_
          refine SO.v rfl (opv_fieldAddr Try.underlying24 rfl Try.sizeOf3 rfl rfl) ?_
          refine SO.takeT rfl rfl rfl b28 ?_
          refine SO.load1 rfl Try.isAgg3 rfl rfl ?_
          refine SO.takeT rfl rfl rfl b28 ?_
          refine SO.v rfl (opv_neq rfl rfl) ?_
          refine SO.takeT rfl rfl rfl b28 ?_
          refine SO.v rfl (opv_move rfl) ?_
          refine SO.cut 9 75 (.bool ((a0.Kind != 2) && ((a0.Bits != 0) || (a0.Guard != 0)))) [Box b1 [.int .i64 a0.Kind, .int .i64 a0.Rights, .int .i64 a0.Obj, .int .i64 a0.Badge, .int .i64 a0.Guard, .int .i64 a0.Bits], F] (fun l2 hk2 => ?_) ?_
          · rcases bool_or (a0.Kind != 2) with b29 | b29
            · refine SO.takeT rfl rfl rfl b29 ?_
              refine SO.v rfl (opv_fieldAddr Try.underlying24 rfl Try.sizeOf3 rfl rfl) ?_
              refine SO.takeT rfl rfl rfl b29 ?_
              refine SO.load1 rfl Try.isAgg3 rfl rfl ?_
              refine SO.takeT rfl rfl rfl b29 ?_
              refine SO.v rfl (opv_neq rfl rfl) ?_
              refine SO.takeT rfl rfl rfl b29 ?_
              refine SO.v rfl (opv_move rfl) ?_
              refine SO.cut 4 74 (.bool ((a0.Bits != 0) || (a0.Guard != 0))) [Box b1 [.int .i64 a0.Kind, .int .i64 a0.Rights, .int .i64 a0.Obj, .int .i64 a0.Badge, .int .i64 a0.Guard, .int .i64 a0.Bits], F] (fun l2 hk2 => ?_) ?_
              · rcases bool_or (a0.Bits != 0) with b30 | b30
                · refine SO.passF rfl rfl rfl b30 rfl rfl ?_
                  refine SO.passF rfl rfl rfl b30 rfl rfl ?_
                  refine SO.passF rfl rfl rfl b30 rfl rfl ?_
                  refine SO.takeT rfl rfl rfl b29 ?_
                  refine SO.v rfl (opv_pick_t' b30 rfl rfl) ?_
                  refine SO.b1 ?_
                  refine SO.b1 ?_
                  exact hk2.fitc (m := 4) rfl (or_t b30) rfl
                · refine SO.takeT rfl rfl rfl b30 ?_
                  refine SO.v rfl (opv_fieldAddr Try.underlying24 rfl Try.sizeOf3 rfl rfl) ?_
                  refine SO.takeT rfl rfl rfl b30 ?_
                  refine SO.load1 rfl Try.isAgg3 rfl rfl ?_
                  refine SO.takeT rfl rfl rfl b30 ?_
                  refine SO.v rfl (opv_neq rfl rfl) ?_
                  refine SO.takeT rfl rfl rfl b29 ?_
                  refine SO.v rfl (opv_pick_f' b30 rfl rfl) ?_
                  refine SO.b1 ?_
                  refine SO.b1 ?_
                  exact hk2.fitc (m := 4) rfl (or_f b30) rfl
              refine SO.takeT rfl rfl rfl b28 ?_
              refine SO.v rfl (opv_pick_t' b29 rfl rfl) ?_
              refine SO.b1 ?_
              refine SO.b1 ?_
              exact hk2.fitc (m := 6) rfl (and_t b29) rfl
            · refine SO.passF rfl rfl rfl b29 rfl rfl ?_
              refine SO.passF rfl rfl rfl b29 rfl rfl ?_
              refine SO.passF rfl rfl rfl b29 rfl rfl ?_
              refine SO.passF rfl rfl rfl b29 rfl rfl ?_
              refine SO.pass_undef rfl rfl rfl rfl ?_
              refine SO.pass_undef rfl rfl rfl rfl ?_
              refine SO.pass_undef rfl rfl rfl rfl ?_
              refine SO.passF rfl rfl rfl b29 rfl rfl ?_
              refine SO.takeT rfl rfl rfl b28 ?_
              refine SO.v rfl (opv_pick_f' b29 rfl rfl) ?_
              refine SO.b1 ?_
              refine SO.b1 ?_
              exact hk2.fitc (m := 9) rfl (and_f b29) rfl
          refine SO.v rfl (opv_pick_f' b28 rfl rfl) ?_
          refine SO.b1 ?_
          refine SO.b1 ?_
          exact hk2.fitc (m := 6) rfl (or_f b28) rfl
      refine SO.v rfl (opv_assign rfl) ?_
      refine SO.nil ?_
      refine S.to (ρ' := [(1, bp b1 0), (2, .bool false), (3, .func (.func 57) #[] #[]), (54, .bool (((!((a0.Kind == 3) || (a0.Kind == 4))) && (a0.Badge != 0)) || ((a0.Kind != 2) && ((a0.Bits != 0) || (a0.Guard != 0)))))]) ⟨rfl, rfl, rfl, rfl, trivial⟩ ?_
      rcases bool_or (((!((a0.Kind == 3) || (a0.Kind == 4))) && (a0.Badge != 0)) || ((a0.Kind != 2) && ((a0.Bits != 0) || (a0.Guard != 0)))) with b31 | b31
      · replace h := cond_t b31 h
        refine S.condT rfl b31 ?_
        refine S.seq ?_
        refine S.region ?_
        refine SO.v rfl (opv_assign rfl) ?_
        refine SO.nil ?_
        cases h
        refine S.drop ?_
        exact S.ret1 Try.func56 rfl rfl (fun w hs hk => hR w _ _ ⟨rfl, rfl⟩ hs hk)
      · replace h := cond_f b31 h
        refine S.condF rfl b31 ?_
        refine S.skip ?_
        refine S.inBlock ?_
        refine S.seq ?_
        obtain ⟨_, hc32, h⟩ := opt_bind h
        obtain ⟨t33, ht34, h⟩ := opt_bind h
        refine S.draw' (Z := fun Q => ∀ (_ : Unit) (_ : Unit) (_ : Unit), Q [(2, .bool t33)] [Box b1 [.int .i64 a0.Kind, .int .i64 a0.Rights, .int .i64 a0.Obj, .int .i64 a0.Badge, .int .i64 a0.Guard, .int .i64 a0.Bits], F]) (T := [tS 3 (.func (.func 57) #[] #[]), tS 1 (bp b1 0), tR (Box b1 [.int .i64 a0.Kind, .int .i64 a0.Rights, .int .i64 a0.Obj, .int .i64 a0.Badge, .int .i64 a0.Guard, .int .i64 a0.Bits]), tR (F), tS 77 (.func (.func 57) #[] #[]), tS 78 (bp b1 4), tS 79 (.int .i64 a0.Guard), tS 80 (bp b1 5), tS 81 (.int .i64 a0.Bits), tS 82 (.int .i64 (bshl .i64 1 a0.Bits)), tS 83 (.int .i64 (w64 ((bshl .i64 1 a0.Bits) - 1))), tS 84 (.bool t33), tS 2 (.bool t33)]) (D := [⟨[0], [], [4]⟩, ⟨[1], [], [5]⟩, ⟨[5, 2], [], [6]⟩, ⟨[1], [], [7]⟩, ⟨[7, 2], [], [8]⟩, ⟨[8], [], [9]⟩, ⟨[9], [], [10]⟩, ⟨[4, 6, 10], [], [11]⟩, ⟨[11], [], [12]⟩]) (ini := [0, 1, 2, 3]) (fin := [12, 2, 3]) (bf := [[], [], [1], [], [3], [3, 4], [3, 4, 5], [0, 1, 2, 3, 4, 5, 6], [0, 1, 2, 3, 4, 5, 6, 7]]) (by kernel_rfl) (by kernel_rfl) (fun x w h1 h2 => (.cons () (.cons () (.cons () (.cons () (.nil ⟨EnvAll.of h1 ⟨rfl, rfl, trivial⟩, h2⟩)))))) (fun Q => by kernel_rfl) ⟨?_, ?_, ?_, ?_, ?_, ?_, ?_, ?_, ?_, trivial⟩ ?_
        · rintro Fr _
          refine SO.v rfl (opv_move rfl) ?_
          exact SO.nilZ fun a w h1 h2 h3 h4 h5 => PZ.of h1 h3 h5 (.cons () (.cons () (.nil ⟨EnvAll.of h2 ⟨rfl, rfl, trivial⟩, h4⟩)))
        · rintro Fr _
          refine SO.v rfl (opv_fieldAddr Try.underlying24 rfl Try.sizeOf3 rfl rfl) ?_
          exact SO.nilZ fun a w h1 h2 h3 h4 h5 => PZ.of h1 h3 h5 (.cons () (.cons () (.nil ⟨EnvAll.of h2 ⟨rfl, rfl, trivial⟩, h4⟩)))
        · rintro Fr _ _
          refine SO.load1 rfl Try.isAgg3 rfl rfl ?_
          exact SO.nilZ fun a w h1 h2 h3 h4 h5 => PZ.of h1 h3 h5 (.cons () (.cons () (.cons () (.nil ⟨EnvAll.of h2 ⟨rfl, rfl, trivial⟩, h4⟩))))
        · rintro Fr _
          refine SO.v rfl (opv_fieldAddr Try.underlying24 rfl Try.sizeOf3 rfl rfl) ?_
          exact SO.nilZ fun a w h1 h2 h3 h4 h5 => PZ.of h1 h3 h5 (.cons () (.cons () (.nil ⟨EnvAll.of h2 ⟨rfl, rfl, trivial⟩, h4⟩)))
        · rintro Fr _ _
          refine SO.load1 rfl Try.isAgg3 rfl rfl ?_
          exact SO.nilZ fun a w h1 h2 h3 h4 h5 => PZ.of h1 h3 h5 (.cons () (.cons () (.cons () (.nil ⟨EnvAll.of h2 ⟨rfl, rfl, trivial⟩, h4⟩))))
        · rintro Fr _
          refine SO.v rfl (opv_shl rfl rfl (of_decide_eq_true (chk_some hc32))) ?_
          exact SO.nilZ fun a w h1 h2 h3 h4 h5 => PZ.of h1 h3 h5 (.cons () (.cons () (.nil ⟨EnvAll.of h2 ⟨rfl, rfl, trivial⟩, h4⟩)))
        · rintro Fr _
          refine SO.v rfl (opv_sub rfl rfl) ?_
          exact SO.nilZ fun a w h1 h2 h3 h4 h5 => PZ.of h1 h3 h5 (.cons () (.cons () (.nil ⟨EnvAll.of h2 ⟨rfl, rfl, trivial⟩, h4⟩)))
        · rintro Fr _ _ _
          refine SO.call (pre := []) rfl Try.call57 rfl rfl rfl (pack_May_1.ct _ _ _ ht34) trivial ?_
          rintro _ _ ⟨rfl, rfl⟩
          exact SO.nilZ fun a w h1 h2 h3 h4 h5 => PZ.of h1 h3 h5 (.cons () (.cons () (.cons () (.cons () (.nil ⟨EnvAll.of h2 ⟨rfl, rfl, rfl, rfl, trivial⟩, h4⟩)))))
        · rintro Fr _
          refine SO.v rfl (opv_assign rfl) ?_
          exact SO.nilZ fun a w h1 h2 h3 h4 h5 => PZ.of h1 h3 h5 (.cons () (.cons () (.nil ⟨EnvAll.of h2 ⟨rfl, rfl, trivial⟩, h4⟩)))
        rintro _ _ _
        refine S.to (ρ' := [(2, .bool t33)]) ⟨rfl, trivial⟩ ?_
        cases h
        refine S.drop ?_
        exact S.ret1 Try.func56 rfl rfl (fun w hs hk => hR w _ _ ⟨rfl, rfl⟩ hs hk)
end Go.Proofs
namespace Go.Proofs
open Go.Sl Go.RowKit
/-! 55 padstone/pack.widths -/
def pack_widths.f : Option ((List Int)) :=
  some ([4, 3, 5, 16, 4, 8])
set_option maxHeartbeats 8000000 in
set_option maxRecDepth 100000 in
theorem pack_widths.ct (r0 : List Int) (h : pack_widths.f  = some r0) :
    Ct Try.prog 55 [] (fun _ => True) [] (fun u H' => ∃ v_r0, u = v_r0 ∧ H' = [Own 3 (ekI .i64) v_r0 r0]) := by
  unfold pack_widths.f at h
  refine Ct.intro (n := 2) Try.func55 rfl rfl rfl ?_
  intro R w0 F hF hR
  refine S.seq ?_
  refine S.region ?_
  refine SO.v rfl (opv_assign rfl) ?_
  refine SO.nil ?_
  refine S.seq ?_
  refine S.region ?_
  refine SO.buildSlice (K := ekI .i64) (xs := [4, 3, 5, 16, 4, 8]) (cs := [.int .i64 4, .int .i64 3, .int .i64 5, .int .i64 16, .int .i64 4, .int .i64 8]) rfl Try.underlying35 Try.sizeOf3 Try.zeroValue3 rfl rfl rfl (by kernel_rfl) rfl rfl rfl (fun v1 hr2 => ?_)
  refine SO.v rfl (opv_assign rfl) ?_
  refine SO.nil ?_
  cases h
  refine S.b1 ?_
  refine S.b1 ?_
  exact S.ret1 Try.func55 rfl rfl (fun w hs hk => hR w _ _ ⟨v1, rfl, rfl⟩ hs hk)
end Go.Proofs
namespace Go.Proofs
open Go.Sl Go.RowKit
/-! 40 padstone/pack.Get -/
def pack_Get.l1 (t2 : List Int) : Nat → (Int × Int × (List Int)) → Option (((List Int) × Int))
  | 0, _ => none
  | k + 1, (x12_1, x5_1, x4_1) => bif decide (x12_1 < (t2.length : Int)) then ((at_ t2 x12_1).bind fun x8 => (chk (decide (0 ≤ x8))).bind fun _ => (app x4_1 ([w64 (band .u64 x5_1 (wu64 ((bshl .u64 1 x8) - 1)))])).bind fun zs13 => (chk (decide (0 ≤ x8))).bind fun _ => pack_Get.l1 t2 k (w64 (x12_1 + 1), bshr .u64 x5_1 x8, zs13)) else (some (x4_1, x5_1))
def pack_Get.f (k : Nat) (a0 : Int) : Option ((api_Cap × (Option Int))) :=
  (pack_widths.f ).bind fun t2 => (pack_Get.l1 t2 k (0, a0, [])).bind fun (j4_e1, j5_e1) => (at_ j4_e1 0).bind fun x19 => (at_ j4_e1 1).bind fun x21 => (at_ j4_e1 2).bind fun x23 => (at_ j4_e1 3).bind fun x25 => (at_ j4_e1 4).bind fun x27 => (at_ j4_e1 5).bind fun x29 => (bif j5_e1 != 0 then (some true) else ((pack_May.f (⟨x19, x21, x23, x25, x29, x27⟩ : api_Cap)).bind fun t35 => some (!t35))).bind fun c33 => bif c33 then (some ((⟨0, 0, 0, 0, 0, 0⟩ : api_Cap), (some 1))) else (some ((⟨x19, x21, x23, x25, x29, x27⟩ : api_Cap), none))
set_option maxHeartbeats 8000000 in
set_option maxRecDepth 100000 in
theorem pack_Get.ct (k : Nat) (a0 : Int) (r0 : api_Cap) (r1 : Option Int) (h : pack_Get.f k a0 = some (r0, r1)) :
    Ct Try.prog 40 [.int .u64 a0] (fun _ => True) [] (fun u H' => u = .tuple #[.agg #[.int .i64 r0.Kind, .int .i64 r0.Rights, .int .i64 r0.Obj, .int .i64 r0.Badge, .int .i64 r0.Guard, .int .i64 r0.Bits], errV 61 r1] ∧ H' = []) := by
  unfold pack_Get.f at h
  refine Ct.intro (n := 58) Try.func40 rfl rfl rfl ?_
  intro R w0 F hF hR
  refine S.seq ?_
  refine S.region ?_
  refine SO.alloc rfl Try.zeroValue24 rfl (fun b1 => ?_)
  refine SO.v rfl (opv_assign rfl) ?_
  refine SO.nil ?_
  refine S.seq ?_
  refine S.region ?_
  refine SO.v rfl (opv_assign rfl) ?_
  refine SO.nil ?_
  refine S.seq ?_
  refine S.region ?_
  refine SO.v rfl (opv_move rfl) ?_
  refine SO.v rfl (opv_assign rfl) ?_
  refine SO.nil ?_
  refine S.seq ?_
  refine S.seq ?_
  refine S.region ?_
  obtain ⟨t2, ht3, h⟩ := opt_bind h
  refine SO.call (pre := []) rfl Try.call55 rfl rfl rfl (pack_widths.ct _ ht3) trivial ?_
  rintro v4 _ ⟨_, rfl, rfl⟩
  refine SO.rd fun hr5 => ?_
  refine SO.v rfl (opv_lenR rfl Try.underlying35 hr5 rfl) ?_
  refine SO.v rfl (opv_move rfl) ?_
  refine SO.nil ?_
  obtain ⟨⟨j4_e1, j5_e1⟩, hl1, h⟩ := opt_bind h
  refine S.newOwn 3 (ekI .i64) ?_
  refine S.b3 ?_
  refine S.b3 ?_
  refine S.b3 ?_
  refine S.b3 ?_
  refine S.to (ρ' := [(12, .int .i64 0), (11, .int .i64 (t2.length : Int)), (10, v4), (5, .int .u64 a0), (4, .slice none 0 0), (3, errV 61 none), (2, bp b1 0)]) ⟨rfl, rfl, rfl, rfl, rfl, rfl, rfl, trivial⟩ ?_
  refine S.forloop (X := (Int × Int × (List Int)) × Value) (O := ((List Int) × Int)) (fun m x => pack_Get.l1 t2 m x.1) (fun x => match x with | ((x12_1, x5_1, x4_1), v4_1) => [(12, .int .i64 x12_1), (11, .int .i64 (t2.length : Int)), (10, v4), (5, .int .u64 x5_1), (4, v4_1), (3, errV 61 none), (2, bp b1 0)]) (fun x => match x with | ((x12_1, x5_1, x4_1), v4_1) => [Own 3 (ekI .i64) v4_1 x4_1, Own 3 (ekI .i64) v4 t2, Box b1 [.int .i64 0, .int .i64 0, .int .i64 0, .int .i64 0, .int .i64 0, .int .i64 0], F]) (fun Sk => (fun x => match x with | (j4_e1, j5_e1) => ∀ v4_e1 : Value, Sk [(2, bp b1 0), (3, errV 61 none), (4, v4_e1), (5, .int .u64 j5_e1)] [Own 3 (ekI .i64) v4_e1 j4_e1, Own 3 (ekI .i64) v4 t2, Box b1 [.int .i64 0, .int .i64 0, .int .i64 0, .int .i64 0, .int .i64 0, .int .i64 0], F])) (fun _ => rfl) ?_ (m := k) (x := ((0, a0, []), .slice none 0 0)) hl1 ?_
  · clear h hl1
    intro k x o_1 h hK1 ih1
    obtain ⟨⟨x12_1, x5_1, x4_1⟩, v4_1⟩ := x
    replace h : pack_Get.l1 t2 (k + 1) (x12_1, x5_1, x4_1) = some o_1 := h
    first | rw [pack_Get.l1] at h | unfold pack_Get.l1 at h
    refine S.rd fun hr6 => ?_
    refine S.seq ?_
    refine S.region ?_
    refine SO.v rfl (opv_lss rfl rfl) ?_
    refine SO.nil ?_
    refine S.seq ?_
    rcases bool_or (decide (x12_1 < (t2.length : Int))) with b7 | b7
    · replace h := cond_t b7 h
      refine S.condT rfl b7 ?_
      refine S.skip ?_
      refine S.seq ?_
      refine S.block ?_
      refine S.seq ?_
      refine S.region ?_
      obtain ⟨x8, hx9, h⟩ := opt_bind h
      refine SO.v rfl (opv_idx Try.underlying35 Try.sizeOf3 hr5 rfl rfl hx9) ?_
      refine SO.loadI1 (j := 0) rfl Try.isAgg3 (Rd.tail (Rd.head hr5)) hx9 rfl rfl rfl rfl ?_
      refine SO.v rfl (opv_assign rfl) ?_
      refine SO.nil ?_
      refine S.seq ?_
      refine S.region ?_
      refine SO.v rfl (opv_move rfl) ?_
      refine SO.v rfl (opv_move rfl) ?_
      refine SO.v rfl (opv_move rfl) ?_
      obtain ⟨_, hc10, h⟩ := opt_bind h
      refine SO.v rfl (opv_shl rfl rfl (of_decide_eq_true (chk_some hc10))) ?_
      refine SO.v rfl (opv_sub rfl rfl) ?_
      refine SO.v rfl (opv_and rfl rfl) ?_
      refine SO.v rfl (opv_conv Try.underlying72 Try.underlying3 rfl) ?_
      refine SO.buildSlice (K := ekI .i64) (xs := [w64 (band .u64 x5_1 (wu64 ((bshl .u64 1 x8) - 1)))]) (cs := [.int .i64 (w64 (band .u64 x5_1 (wu64 ((bshl .u64 1 x8) - 1))))]) rfl Try.underlying35 Try.sizeOf3 Try.zeroValue3 rfl rfl rfl (by kernel_rfl) rfl rfl rfl (fun v11 hr12 => ?_)
      obtain ⟨zs13, hz14, h⟩ := opt_bind h
      refine SO.b1 ?_
      refine SO.append rfl Try.underlying35 Try.underlying35 inf3 rfl rfl rfl (by decide) rfl rfl rfl (Rd.head hr12) hz14 (fun v15 => ?_)
      refine SO.rd fun hr16 => ?_
      refine SO.v rfl (opv_assign rfl) ?_
      refine SO.nil ?_
      refine S.to (ρ' := [(12, .int .i64 x12_1), (11, .int .i64 (t2.length : Int)), (10, v4), (5, .int .u64 x5_1), (4, v15), (3, errV 61 none), (2, bp b1 0), (7, .int .i64 x8)]) ⟨rfl, rfl, rfl, rfl, rfl, rfl, rfl, rfl, trivial⟩ ?_
      refine S.region ?_
      refine SO.v rfl (opv_move rfl) ?_
      refine SO.v rfl (opv_move rfl) ?_
      obtain ⟨_, hc17, h⟩ := opt_bind h
      refine SO.v rfl (opv_shr rfl rfl (of_decide_eq_true (chk_some hc17))) ?_
      refine SO.v rfl (opv_assign rfl) ?_
      refine SO.nil ?_
      refine S.inBlock ?_
      refine S.region ?_
      refine SO.v rfl (opv_add rfl rfl) ?_
      refine SO.v rfl (opv_move rfl) ?_
      refine SO.nil ?_
      refine S.b1 ?_
      refine S.drop ?_
      refine S.b3 ?_
      refine S.b3 ?_
      refine S.b3 ?_
      refine S.b3 ?_
      refine S.to ?_ (ih1 ((w64 (x12_1 + 1), bshr .u64 x5_1 x8, zs13), v15) h)
      exact ⟨rfl, rfl, rfl, rfl, rfl, rfl, rfl, trivial⟩
    · replace h := cond_f b7 h
      refine S.condF rfl b7 ?_
      refine S.exit rfl ?_
      cases h
      refine S.b3 ?_
      refine S.b3 ?_
      refine S.b3 ?_
      refine S.b3 ?_
      refine S.to ?_ (hK1 v4_1)
      exact ⟨rfl, rfl, rfl, rfl, trivial⟩
  rintro v4_e1
  refine S.rd fun hr18 => ?_
  refine S.seq ?_
  obtain ⟨x19, hx20, h⟩ := opt_bind h
  obtain ⟨x21, hx22, h⟩ := opt_bind h
  obtain ⟨x23, hx24, h⟩ := opt_bind h
  obtain ⟨x25, hx26, h⟩ := opt_bind h
  obtain ⟨x27, hx28, h⟩ := opt_bind h
  obtain ⟨x29, hx30, h⟩ := opt_bind h
  refine S.draw' (Z := fun Q => ∀ (_ : Unit) (b31 : Nat) (_ : Unit) (_ : Unit) (_ : Unit) (_ : Unit), Q [(2, bp b1 0), (3, errV 61 none), (5, .int .u64 j5_e1), (8, bp b31 0)] [Box b31 [.int .i64 x19, .int .i64 x21, .int .i64 x23, .int .i64 x25, .int .i64 x29, .int .i64 x27], Own 3 (ekI .i64) v4_e1 j4_e1, Own 3 (ekI .i64) v4 t2, Box b1 [.int .i64 0, .int .i64 0, .int .i64 0, .int .i64 0, .int .i64 0, .int .i64 0], F]) (T := [tS 4 (v4_e1), tE [(2, bp b1 0), (3, errV 61 none), (5, .int .u64 j5_e1)], tR (Own 3 (ekI .i64) v4_e1 j4_e1), tR (Own 3 (ekI .i64) v4 t2), tR (Box b1 [.int .i64 0, .int .i64 0, .int .i64 0, .int .i64 0, .int .i64 0, .int .i64 0]), tR (F), tS 29 (v4_e1), tS 30 (idxp v4_e1 ((0 : Int).toNat * (ekI .i64).sz)), tS 31 (.int .i64 x19), tS 32 (v4_e1), tS 33 (idxp v4_e1 ((1 : Int).toNat * (ekI .i64).sz)), tS 34 (.int .i64 x21), tS 35 (v4_e1), tS 36 (idxp v4_e1 ((2 : Int).toNat * (ekI .i64).sz)), tS 37 (.int .i64 x23), tS 38 (v4_e1), tS 39 (idxp v4_e1 ((3 : Int).toNat * (ekI .i64).sz)), tS 40 (.int .i64 x25), tS 41 (v4_e1), tS 42 (idxp v4_e1 ((4 : Int).toNat * (ekI .i64).sz)), tS 43 (.int .i64 x27), tS 44 (v4_e1), tS 45 (idxp v4_e1 ((5 : Int).toNat * (ekI .i64).sz)), tS 46 (.int .i64 x29), tS 47 (.agg #[.int .i64 x19, .int .i64 x21, .int .i64 x23, .int .i64 x25, .int .i64 x29, .int .i64 x27]), ⟨Nat, [8], (fun b31 => [(8, bp b31 0)]), (fun b31 => [Box b31 [.int .i64 0, .int .i64 0, .int .i64 0, .int .i64 0, .int .i64 0, .int .i64 0]]), fun _ => rfl⟩, ⟨Nat, [8], (fun b31 => [(8, bp b31 0)]), (fun b31 => [Box b31 [.int .i64 x19, .int .i64 x21, .int .i64 x23, .int .i64 x25, .int .i64 x29, .int .i64 x27]]), fun _ => rfl⟩]) (D := [⟨[0], [], [6]⟩, ⟨[6, 2], [], [7]⟩, ⟨[7, 2], [], [8]⟩, ⟨[0], [], [9]⟩, ⟨[9, 2], [], [10]⟩, ⟨[10, 2], [], [11]⟩, ⟨[0], [], [12]⟩, ⟨[12, 2], [], [13]⟩, ⟨[13, 2], [], [14]⟩, ⟨[0], [], [15]⟩, ⟨[15, 2], [], [16]⟩, ⟨[16, 2], [], [17]⟩, ⟨[0], [], [18]⟩, ⟨[18, 2], [], [19]⟩, ⟨[19, 2], [], [20]⟩, ⟨[0], [], [21]⟩, ⟨[21, 2], [], [22]⟩, ⟨[22, 2], [], [23]⟩, ⟨[8, 11, 14, 17, 20, 23], [], [24]⟩, ⟨[], [], [25]⟩, ⟨[24], [25], [26]⟩]) (ini := [0, 1, 2, 3, 4, 5]) (fin := [1, 26, 2, 3, 4, 5]) (bf := [[], [0], [0, 1], [], [3], [3, 4], [], [6], [6, 7], [], [9], [9, 10], [], [12], [12, 13], [], [15], [15, 16], [0, 1, 2, 3, 4, 5, 6, 7, 8, 9, 10, 11, 12, 13, 14, 15, 16, 17], [], [0, 1, 2, 3, 4, 5, 6, 7, 8, 9, 10, 11, 12, 13, 14, 15, 16, 17, 18, 19]]) (by kernel_rfl) (by kernel_rfl) (fun x w h1 h2 => (.cons () (.cons () (.cons () (.cons () (.cons () (.cons () (.nil ⟨EnvAll.of h1 ⟨rfl, rfl, rfl, rfl, trivial⟩, h2⟩)))))))) (fun Q => by kernel_rfl) ⟨?_, ?_, ?_, ?_, ?_, ?_, ?_, ?_, ?_, ?_, ?_, ?_, ?_, ?_, ?_, ?_, ?_, ?_, ?_, ?_, ?_, trivial⟩ ?_
  · rintro Fr _
    refine SO.v rfl (opv_move rfl) ?_
    exact SO.nilZ fun a w h1 h2 h3 h4 h5 => PZ.of h1 h3 h5 (.cons () (.cons () (.nil ⟨EnvAll.of h2 ⟨rfl, rfl, trivial⟩, h4⟩)))
  · rintro Fr _ _
    refine SO.v rfl (opv_idx Try.underlying35 Try.sizeOf3 hr18 rfl rfl hx20) ?_
    exact SO.nilZ fun a w h1 h2 h3 h4 h5 => PZ.of h1 h3 h5 (.cons () (.cons () (.cons () (.nil ⟨EnvAll.of h2 ⟨rfl, rfl, trivial⟩, h4⟩))))
  · rintro Fr _ _
    refine SO.loadI1 (j := 0) rfl Try.isAgg3 (Rd.head hr18) hx20 rfl rfl rfl rfl ?_
    exact SO.nilZ fun a w h1 h2 h3 h4 h5 => PZ.of h1 h3 h5 (.cons () (.cons () (.cons () (.nil ⟨EnvAll.of h2 ⟨rfl, rfl, trivial⟩, h4⟩))))
  · rintro Fr _
    refine SO.v rfl (opv_move rfl) ?_
    exact SO.nilZ fun a w h1 h2 h3 h4 h5 => PZ.of h1 h3 h5 (.cons () (.cons () (.nil ⟨EnvAll.of h2 ⟨rfl, rfl, trivial⟩, h4⟩)))
  · rintro Fr _ _
    refine SO.v rfl (opv_idx Try.underlying35 Try.sizeOf3 hr18 rfl rfl hx22) ?_
    exact SO.nilZ fun a w h1 h2 h3 h4 h5 => PZ.of h1 h3 h5 (.cons () (.cons () (.cons () (.nil ⟨EnvAll.of h2 ⟨rfl, rfl, trivial⟩, h4⟩))))
  · rintro Fr _ _
    refine SO.loadI1 (j := 0) rfl Try.isAgg3 (Rd.head hr18) hx22 rfl rfl rfl rfl ?_
    exact SO.nilZ fun a w h1 h2 h3 h4 h5 => PZ.of h1 h3 h5 (.cons () (.cons () (.cons () (.nil ⟨EnvAll.of h2 ⟨rfl, rfl, trivial⟩, h4⟩))))
  · rintro Fr _
    refine SO.v rfl (opv_move rfl) ?_
    exact SO.nilZ fun a w h1 h2 h3 h4 h5 => PZ.of h1 h3 h5 (.cons () (.cons () (.nil ⟨EnvAll.of h2 ⟨rfl, rfl, trivial⟩, h4⟩)))
  · rintro Fr _ _
    refine SO.v rfl (opv_idx Try.underlying35 Try.sizeOf3 hr18 rfl rfl hx24) ?_
    exact SO.nilZ fun a w h1 h2 h3 h4 h5 => PZ.of h1 h3 h5 (.cons () (.cons () (.cons () (.nil ⟨EnvAll.of h2 ⟨rfl, rfl, trivial⟩, h4⟩))))
  · rintro Fr _ _
    refine SO.loadI1 (j := 0) rfl Try.isAgg3 (Rd.head hr18) hx24 rfl rfl rfl rfl ?_
    exact SO.nilZ fun a w h1 h2 h3 h4 h5 => PZ.of h1 h3 h5 (.cons () (.cons () (.cons () (.nil ⟨EnvAll.of h2 ⟨rfl, rfl, trivial⟩, h4⟩))))
  · rintro Fr _
    refine SO.v rfl (opv_move rfl) ?_
    exact SO.nilZ fun a w h1 h2 h3 h4 h5 => PZ.of h1 h3 h5 (.cons () (.cons () (.nil ⟨EnvAll.of h2 ⟨rfl, rfl, trivial⟩, h4⟩)))
  · rintro Fr _ _
    refine SO.v rfl (opv_idx Try.underlying35 Try.sizeOf3 hr18 rfl rfl hx26) ?_
    exact SO.nilZ fun a w h1 h2 h3 h4 h5 => PZ.of h1 h3 h5 (.cons () (.cons () (.cons () (.nil ⟨EnvAll.of h2 ⟨rfl, rfl, trivial⟩, h4⟩))))
  · rintro Fr _ _
    refine SO.loadI1 (j := 0) rfl Try.isAgg3 (Rd.head hr18) hx26 rfl rfl rfl rfl ?_
    exact SO.nilZ fun a w h1 h2 h3 h4 h5 => PZ.of h1 h3 h5 (.cons () (.cons () (.cons () (.nil ⟨EnvAll.of h2 ⟨rfl, rfl, trivial⟩, h4⟩))))
  · rintro Fr _
    refine SO.v rfl (opv_move rfl) ?_
    exact SO.nilZ fun a w h1 h2 h3 h4 h5 => PZ.of h1 h3 h5 (.cons () (.cons () (.nil ⟨EnvAll.of h2 ⟨rfl, rfl, trivial⟩, h4⟩)))
  · rintro Fr _ _
    refine SO.v rfl (opv_idx Try.underlying35 Try.sizeOf3 hr18 rfl rfl hx28) ?_
    exact SO.nilZ fun a w h1 h2 h3 h4 h5 => PZ.of h1 h3 h5 (.cons () (.cons () (.cons () (.nil ⟨EnvAll.of h2 ⟨rfl, rfl, trivial⟩, h4⟩))))
  · rintro Fr _ _
    refine SO.loadI1 (j := 0) rfl Try.isAgg3 (Rd.head hr18) hx28 rfl rfl rfl rfl ?_
    exact SO.nilZ fun a w h1 h2 h3 h4 h5 => PZ.of h1 h3 h5 (.cons () (.cons () (.cons () (.nil ⟨EnvAll.of h2 ⟨rfl, rfl, trivial⟩, h4⟩))))
  · rintro Fr _
    refine SO.v rfl (opv_move rfl) ?_
    exact SO.nilZ fun a w h1 h2 h3 h4 h5 => PZ.of h1 h3 h5 (.cons () (.cons () (.nil ⟨EnvAll.of h2 ⟨rfl, rfl, trivial⟩, h4⟩)))
  · rintro Fr _ _
    refine SO.v rfl (opv_idx Try.underlying35 Try.sizeOf3 hr18 rfl rfl hx30) ?_
    exact SO.nilZ fun a w h1 h2 h3 h4 h5 => PZ.of h1 h3 h5 (.cons () (.cons () (.cons () (.nil ⟨EnvAll.of h2 ⟨rfl, rfl, trivial⟩, h4⟩))))
  · rintro Fr _ _
    refine SO.loadI1 (j := 0) rfl Try.isAgg3 (Rd.head hr18) hx30 rfl rfl rfl rfl ?_
    exact SO.nilZ fun a w h1 h2 h3 h4 h5 => PZ.of h1 h3 h5 (.cons () (.cons () (.cons () (.nil ⟨EnvAll.of h2 ⟨rfl, rfl, trivial⟩, h4⟩))))
  · rintro Fr _ _ _ _ _ _
    refine SO.v rfl (opv_build (v := .agg #[.int .i64 x19, .int .i64 x21, .int .i64 x23, .int .i64 x25, .int .i64 x29, .int .i64 x27]) rfl (by intro w; kernel_rfl)) ?_
    exact SO.nilZ fun a w h1 h2 h3 h4 h5 => PZ.of h1 h3 h5 (.cons () (.cons () (.cons () (.cons () (.cons () (.cons () (.cons () (.nil ⟨EnvAll.of h2 ⟨rfl, rfl, rfl, rfl, rfl, rfl, rfl, trivial⟩, h4⟩))))))))
  · rintro Fr 
    refine SO.alloc rfl Try.zeroValue24 rfl (fun b31 => ?_)
    exact SO.nilZ fun a w h1 h2 h3 h4 h5 => PZ.of h1 h3 h5 (.cons b31 (.nil ⟨EnvAll.of h2 ⟨rfl, trivial⟩, h4⟩))
  · rintro Fr _ b31
    refine SO.storeN Try.sizeOf24 rfl rfl rfl rfl rfl rfl ?_
    exact SO.nilZ fun a w h1 h2 h3 h4 h5 => PZ.of h1 h3 h5 (.cons () (.cons b31 (.nil ⟨EnvAll.of h2 ⟨rfl, rfl, trivial⟩, h4⟩)))
  rintro _ b31 _ _ _ _
  refine S.to (ρ' := [(2, bp b1 0), (3, errV 61 none), (5, .int .u64 j5_e1), (8, bp b31 0)]) ⟨rfl, rfl, rfl, rfl, trivial⟩ ?_
  refine S.seq ?_
  refine S.seq ?_
  refine S.region ?_
  refine SO.v rfl (opv_move rfl) ?_
  refine SO.v rfl (opv_neq rfl rfl) ?_
  refine SO.v rfl (opv_move rfl) ?_
  obtain ⟨c33, hc34, hgk⟩ := opt_bind h
  refine SO.cut 4 54 (.bool c33) [Box b31 [.int .i64 x19, .int .i64 x21, .int .i64 x23, .int .i64 x25, .int .i64 x29, .int .i64 x27], Own 3 (ekI .i64) v4_e1 j4_e1, Own 3 (ekI .i64) v4 t2, Box b1 [.int .i64 0, .int .i64 0, .int .i64 0, .int .i64 0, .int .i64 0, .int .i64 0], F] (fun l2 hk2 => ?_) ?_
  · clear hgk
    replace h := hc34
    rcases bool_or (j5_e1 != 0) with b32 | b32
    · replace h := cond_t b32 h
      refine SO.passF rfl rfl rfl b32 rfl rfl ?_
      refine SO.passF rfl rfl rfl b32 rfl rfl ?_
      refine SO.passF rfl rfl rfl b32 rfl rfl ?_
      cases h
      refine SO.v rfl (opv_pick_t' b32 rfl rfl) ?_
      refine SO.b4 ?_
      refine SO.b4 ?_
      refine SO.b4 ?_
      refine SO.b4 ?_
      refine SO.b4 ?_
      exact hk2.fitc (m := 4) rfl (rfl) rfl
    · replace h := cond_f b32 h
      refine SO.takeT rfl rfl rfl b32 ?_
      refine SO.loadN rfl Try.isAgg24 Try.sizeOf24 rfl rfl rfl ?_
      refine SO.takeT rfl rfl rfl b32 ?_
      obtain ⟨t35, ht36, h⟩ := opt_bind h
      have ct37 := pack_May.ct _ _ ht36
      dsimp only at ct37
      refine SO.call (pre := []) rfl Try.call56 rfl rfl rfl ct37 trivial ?_
      rintro _ _ ⟨rfl, rfl⟩
      refine SO.takeT rfl rfl rfl b32 ?_
      refine SO.v rfl (opv_not rfl) ?_
      cases h
      refine SO.v rfl (opv_pick_f' b32 rfl rfl) ?_
      refine SO.b4 ?_
      refine SO.b4 ?_
      refine SO.b4 ?_
      refine SO.b4 ?_
      refine SO.b4 ?_
      exact hk2.fitc (m := 4) rfl (rfl) rfl
  clear hc34
  replace h := hgk
  refine SO.nil ?_
  rcases bool_or c33 with b38 | b38
  · replace h := cond_t b38 h
    refine S.condT rfl b38 ?_
    refine S.seq ?_
    refine S.region ?_
    refine SO.v rfl (opv_build (v := .agg #[.int .i64 0, .int .i64 0, .int .i64 0, .int .i64 0, .int .i64 0, .int .i64 0]) rfl (by intro w; kernel_rfl)) ?_
    refine SO.v rfl (opv_iface Try.underlying61 rfl rfl) ?_
    refine SO.b3 ?_
    refine SO.storeN Try.sizeOf24 rfl rfl rfl rfl rfl rfl ?_
    refine SO.v rfl (opv_assign rfl) ?_
    refine SO.nil ?_
    refine S.to (ρ' := [(2, bp b1 0), (3, errV 61 (some 1))]) ⟨rfl, rfl, trivial⟩ ?_
    cases h
    refine S.b1 ?_
    refine S.drop ?_
    refine S.b1 ?_
    refine S.drop ?_
    refine S.b1 ?_
    refine S.drop ?_
    refine S.b1 ?_
    refine S.b1 ?_
    exact S.retC1 Try.func40 rfl rfl rfl Try.isAgg24 Try.sizeOf24 rfl rfl (fun w hs hk => hR w _ _ ⟨rfl, rfl⟩ hs.drop hk)
  · replace h := cond_f b38 h
    refine S.condF rfl b38 ?_
    refine S.skip ?_
    refine S.seq ?_
    refine S.region ?_
    refine SO.loadN rfl Try.isAgg24 Try.sizeOf24 rfl rfl rfl ?_
    refine SO.b3 ?_
    refine SO.storeN Try.sizeOf24 rfl rfl rfl rfl rfl rfl ?_
    refine SO.v rfl (opv_assign rfl) ?_
    refine SO.nil ?_
    refine S.to (ρ' := [(2, bp b1 0), (3, errV 61 none)]) ⟨rfl, rfl, trivial⟩ ?_
    cases h
    refine S.b1 ?_
    refine S.drop ?_
    refine S.b1 ?_
    refine S.drop ?_
    refine S.b1 ?_
    refine S.drop ?_
    refine S.b1 ?_
    refine S.b1 ?_
    exact S.retC1 Try.func40 rfl rfl rfl Try.isAgg24 Try.sizeOf24 rfl rfl (fun w hs hk => hR w _ _ ⟨rfl, rfl⟩ hs.drop hk)
end Go.Proofs
namespace Go.Proofs
open Go.Sl Go.RowKit
/-! 22 padstone/cspace.Cap -/
def cspace_Cap.f (k : Nat) (a1 : Int) : VM (api_Cap) :=
  (VM.opt (lay_Slot.f a1 0)).bind fun (t2, t3) => bif !t3 then (VM.ret (⟨0, 0, 0, 0, 0, 0⟩ : api_Cap)) else (VM.rd t2 fun t6 => (VM.opt (pack_Get.f k t6)).bind fun (t9, t10) => bif t10.isSome then (VM.ret (⟨0, 0, 0, 0, 0, 0⟩ : api_Cap)) else (VM.ret t9))
set_option maxHeartbeats 8000000 in
set_option maxRecDepth 100000 in
theorem cspace_Cap.ct (V : VW Try.prog) (k : Nat) (a1 : Int) (r0 : api_Cap) (s s' : V.S) (h : VM.run V.toVI (cspace_Cap.f k a1) s = some (r0, s')) :
    Ct Try.prog 22 [V.val, .int .i64 a1] (fun _ => True) [V.rep s] (fun u H' => u = .agg #[.int .i64 r0.Kind, .int .i64 r0.Rights, .int .i64 r0.Obj, .int .i64 r0.Badge, .int .i64 r0.Guard, .int .i64 r0.Bits] ∧ H' = [V.rep s']) := by
  unfold cspace_Cap.f at h
  refine Ct.intro (n := 28) Try.func22 rfl rfl rfl ?_
  intro R w0 F hF hR
  refine S.seq ?_
  refine S.region ?_
  refine SO.alloc rfl Try.zeroValue24 rfl (fun b1 => ?_)
  refine SO.nil ?_
  refine S.seq ?_
  refine S.region ?_
  refine SO.v rfl (opv_move rfl) ?_
  obtain ⟨⟨t2, t3⟩, ht4, h⟩ := VM.opt_some V.toVI h
  refine SO.call (pre := []) rfl Try.call39 rfl rfl rfl (lay_Slot.ct _ _ _ _ ht4) trivial ?_
  rintro _ _ ⟨rfl, rfl⟩
  refine SO.v rfl (opv_move rfl) ?_
  refine SO.v rfl (opv_extract rfl rfl) ?_
  refine SO.v rfl (opv_extract rfl rfl) ?_
  refine SO.v rfl (opv_assign rfl) ?_
  refine SO.v rfl (opv_assign rfl) ?_
  refine SO.nil ?_
  refine S.seq ?_
  refine S.seq ?_
  refine S.region ?_
  refine SO.v rfl (opv_move rfl) ?_
  refine SO.v rfl (opv_not rfl) ?_
  refine SO.nil ?_
  refine S.to (ρ' := [(0, V.val), (4, bp b1 0), (5, .int .i64 t2), (15, .bool (!t3))]) ⟨rfl, rfl, rfl, rfl, trivial⟩ ?_
  rcases bool_or (!t3) with b5 | b5
  · replace h := VM.cond_t V.toVI b5 h
    refine S.condT rfl b5 ?_
    refine S.seq ?_
    refine S.region ?_
    refine SO.v rfl (opv_build (v := .agg #[.int .i64 0, .int .i64 0, .int .i64 0, .int .i64 0, .int .i64 0, .int .i64 0]) rfl (by intro w; kernel_rfl)) ?_
    refine SO.storeN Try.sizeOf24 rfl rfl rfl rfl rfl rfl ?_
    refine SO.nil ?_
    obtain ⟨hq, rfl⟩ := VM.ret_some V.toVI h
    cases hq
    refine S.b2 ?_
    refine S.b2 ?_
    refine S.b2 ?_
    exact S.retC Try.func22 rfl rfl Try.isAgg24 Try.sizeOf24 rfl rfl (fun w hs hk => hR w _ _ ⟨rfl, rfl⟩ hs.drop hk)
  · replace h := VM.cond_f V.toVI b5 h
    refine S.condF rfl b5 ?_
    refine S.skip ?_
    refine S.seq ?_
    refine S.region ?_
    refine SO.v rfl (opv_move rfl) ?_
    refine SO.v rfl (opv_move rfl) ?_
    obtain ⟨t6, s7, hv8, h⟩ := VM.rd_some V.toVI h
    refine SO.b1 ?_
    refine SO.vread' V rfl rfl rfl hv8 ?_
    obtain ⟨⟨t9, t10⟩, ht11, h⟩ := VM.opt_some V.toVI h
    refine SO.call (pre := []) rfl Try.call40 rfl rfl rfl (pack_Get.ct _ _ _ _ ht11) trivial ?_
    rintro _ _ ⟨rfl, rfl⟩
    refine SO.v rfl (opv_move rfl) ?_
    refine SO.v rfl (opv_extract rfl rfl) ?_
    refine SO.v rfl (opv_extract rfl rfl) ?_
    refine SO.alloc rfl Try.zeroValue24 rfl (fun b12 => ?_)
    refine SO.storeN Try.sizeOf24 rfl rfl rfl rfl rfl rfl ?_
    refine SO.v rfl (opv_assign rfl) ?_
    refine SO.nil ?_
    refine S.to (ρ' := [(4, bp b1 0), (7, bp b12 0), (8, errV 61 t10)]) ⟨rfl, rfl, rfl, trivial⟩ ?_
    refine S.seq ?_
    refine S.seq ?_
    refine S.region ?_
    refine SO.v rfl (opv_move rfl) ?_
    refine SO.v rfl (opv_neqN (e := t10) Try.underlying28 rfl) ?_
    refine SO.nil ?_
    rcases bool_or t10.isSome with b13 | b13
    · replace h := VM.cond_t V.toVI b13 h
      refine S.condT rfl b13 ?_
      refine S.seq ?_
      refine S.region ?_
      refine SO.v rfl (opv_build (v := .agg #[.int .i64 0, .int .i64 0, .int .i64 0, .int .i64 0, .int .i64 0, .int .i64 0]) rfl (by intro w; kernel_rfl)) ?_
      refine SO.b2 ?_
      refine SO.storeN Try.sizeOf24 rfl rfl rfl rfl rfl rfl ?_
      refine SO.nil ?_
      obtain ⟨hq, rfl⟩ := VM.ret_some V.toVI h
      cases hq
      refine S.b1 ?_
      refine S.drop ?_
      refine S.b2 ?_
      refine S.b2 ?_
      refine S.b2 ?_
      exact S.retC Try.func22 rfl rfl Try.isAgg24 Try.sizeOf24 rfl rfl (fun w hs hk => hR w _ _ ⟨rfl, rfl⟩ hs.drop hk)
    · replace h := VM.cond_f V.toVI b13 h
      refine S.condF rfl b13 ?_
      refine S.skip ?_
      refine S.seq ?_
      refine S.region ?_
      refine SO.loadN rfl Try.isAgg24 Try.sizeOf24 rfl rfl rfl ?_
      refine SO.b2 ?_
      refine SO.storeN Try.sizeOf24 rfl rfl rfl rfl rfl rfl ?_
      refine SO.nil ?_
      obtain ⟨hq, rfl⟩ := VM.ret_some V.toVI h
      cases hq
      refine S.b1 ?_
      refine S.drop ?_
      refine S.b2 ?_
      refine S.b2 ?_
      refine S.b2 ?_
      exact S.retC Try.func22 rfl rfl Try.isAgg24 Try.sizeOf24 rfl rfl (fun w hs hk => hR w _ _ ⟨rfl, rfl⟩ hs.drop hk)
end Go.Proofs
namespace Go.Proofs
open Go.Sl Go.RowKit
/-! 51 padstone/pack.Put -/
def pack_Put.l1 (a0 : api_Cap) (t7 : List Int) : Nat → (Int × Int × Int) → Option (Int)
  | 0, _ => none
  | k + 1, (x28_1, x4_1, x5_1) => bif decide (x28_1 < (t7.length : Int)) then ((at_ t7 x28_1).bind fun x12 => (at_ ([a0.Kind, a0.Rights, a0.Obj, a0.Badge, a0.Bits, a0.Guard]) x28_1).bind fun x14 => (chk (decide (0 ≤ x5_1))).bind fun _ => pack_Put.l1 a0 t7 k (w64 (x28_1 + 1), bor .u64 x4_1 (bshl .u64 (wu64 x14) x5_1), w64 (x5_1 + x12))) else (some x4_1)
def pack_Put.f (k : Nat) (a0 : api_Cap) : Option ((Int × (Option Int))) :=
  (pack_May.f a0).bind fun t2 => bif !t2 then (some (0, (some 1))) else ((pack_widths.f ).bind fun t7 => (pack_Put.l1 a0 t7 k (0, 0, 0)).bind fun j4_e1 => some (j4_e1, none))
set_option maxHeartbeats 8000000 in
set_option maxRecDepth 100000 in
theorem pack_Put.ct (k : Nat) (a0 : api_Cap) (r0 : Int) (r1 : Option Int) (h : pack_Put.f k a0 = some (r0, r1)) :
    Ct Try.prog 51 [.agg #[.int .i64 a0.Kind, .int .i64 a0.Rights, .int .i64 a0.Obj, .int .i64 a0.Badge, .int .i64 a0.Guard, .int .i64 a0.Bits]] (fun _ => True) [] (fun u H' => u = .tuple #[.int .u64 r0, errV 61 r1] ∧ H' = []) := by
  unfold pack_Put.f at h
  refine Ct.intro (n := 47) Try.func51 rfl rfl rfl ?_
  intro R w0 F hF hR
  refine S.seq ?_
  refine S.region ?_
  refine SO.box rfl rfl rfl (fun b1 => ?_)
  refine SO.v rfl (opv_assign rfl) ?_
  refine SO.v rfl (opv_assign rfl) ?_
  refine SO.nil ?_
  refine S.seq ?_
  refine S.seq ?_
  refine S.region ?_
  refine SO.loadN rfl Try.isAgg24 Try.sizeOf24 rfl rfl rfl ?_
  obtain ⟨t2, ht3, h⟩ := opt_bind h
  refine SO.call (pre := []) rfl Try.call56 rfl rfl rfl (pack_May.ct _ _ ht3) trivial ?_
  rintro _ _ ⟨rfl, rfl⟩
  refine SO.v rfl (opv_not rfl) ?_
  refine SO.nil ?_
  rcases bool_or (!t2) with b4 | b4
  · replace h := cond_t b4 h
    refine S.condT rfl b4 ?_
    refine S.seq ?_
    refine S.region ?_
    refine SO.v rfl (opv_iface Try.underlying61 rfl rfl) ?_
    refine SO.v rfl (opv_assign rfl) ?_
    refine SO.v rfl (opv_assign rfl) ?_
    refine SO.nil ?_
    cases h
    refine S.drop ?_
    exact S.ret2 Try.func51 rfl rfl rfl (fun w hs hk => hR w _ _ ⟨rfl, rfl⟩ hs hk)
  · replace h := cond_f b4 h
    refine S.condF rfl b4 ?_
    refine S.skip ?_
    refine S.seq ?_
    refine S.region ?_
    refine SO.v rfl (opv_assign rfl) ?_
    refine SO.nil ?_
    refine S.seq ?_
    refine S.region ?_
    refine SO.v rfl (opv_assign rfl) ?_
    refine SO.nil ?_
    refine S.seq ?_
    refine S.region ?_
    refine SO.v rfl (opv_fieldAddr Try.underlying24 rfl Try.sizeOf3 rfl rfl) ?_
    refine SO.load1 rfl Try.isAgg3 rfl rfl ?_
    refine SO.v rfl (opv_fieldAddr Try.underlying24 rfl Try.sizeOf3 rfl rfl) ?_
    refine SO.load1 rfl Try.isAgg3 rfl rfl ?_
    refine SO.v rfl (opv_fieldAddr Try.underlying24 rfl Try.sizeOf3 rfl rfl) ?_
    refine SO.load1 rfl Try.isAgg3 rfl rfl ?_
    refine SO.v rfl (opv_fieldAddr Try.underlying24 rfl Try.sizeOf3 rfl rfl) ?_
    refine SO.load1 rfl Try.isAgg3 rfl rfl ?_
    refine SO.v rfl (opv_fieldAddr Try.underlying24 rfl Try.sizeOf3 rfl rfl) ?_
    refine SO.load1 rfl Try.isAgg3 rfl rfl ?_
    refine SO.v rfl (opv_fieldAddr Try.underlying24 rfl Try.sizeOf3 rfl rfl) ?_
    refine SO.load1 rfl Try.isAgg3 rfl rfl ?_
    refine SO.buildSlice (K := ekI .i64) (xs := [a0.Kind, a0.Rights, a0.Obj, a0.Badge, a0.Bits, a0.Guard]) (cs := [.int .i64 a0.Kind, .int .i64 a0.Rights, .int .i64 a0.Obj, .int .i64 a0.Badge, .int .i64 a0.Bits, .int .i64 a0.Guard]) rfl Try.underlying35 Try.sizeOf3 Try.zeroValue3 rfl rfl rfl (by kernel_rfl) rfl rfl rfl (fun v5 hr6 => ?_)
    refine SO.v rfl (opv_assign rfl) ?_
    refine SO.nil ?_
    refine S.to (ρ' := [(2, .int .u64 0), (3, errV 61 none), (4, .int .u64 0), (5, .int .i64 0), (6, v5)]) ⟨rfl, rfl, rfl, rfl, rfl, trivial⟩ ?_
    refine S.seq ?_
    refine S.seq ?_
    refine S.region ?_
    obtain ⟨t7, ht8, h⟩ := opt_bind h
    refine SO.call (pre := []) rfl Try.call55 rfl rfl rfl (pack_widths.ct _ ht8) trivial ?_
    rintro v9 _ ⟨_, rfl, rfl⟩
    refine SO.rd fun hr10 => ?_
    refine SO.v rfl (opv_lenR rfl Try.underlying35 hr10 rfl) ?_
    refine SO.v rfl (opv_move rfl) ?_
    refine SO.nil ?_
    obtain ⟨j4_e1, hl1, h⟩ := opt_bind h
    refine S.b3 ?_
    refine S.b3 ?_
    refine S.b3 ?_
    refine S.b3 ?_
    refine S.to (ρ' := [(28, .int .i64 0), (27, .int .i64 (t7.length : Int)), (26, v9), (2, .int .u64 0), (3, errV 61 none), (4, .int .u64 0), (5, .int .i64 0), (6, v5)]) ⟨rfl, rfl, rfl, rfl, rfl, rfl, rfl, rfl, trivial⟩ ?_
    refine S.forloop (X := (Int × Int × Int) × Unit) (O := Int) (fun m x => pack_Put.l1 a0 t7 m x.1) (fun x => match x with | ((x28_1, x4_1, x5_1), _) => [(28, .int .i64 x28_1), (27, .int .i64 (t7.length : Int)), (26, v9), (2, .int .u64 0), (3, errV 61 none), (4, .int .u64 x4_1), (5, .int .i64 x5_1), (6, v5)]) (fun x => match x with | ((x28_1, x4_1, x5_1), _) => [Own 3 (ekI .i64) v9 t7, Own 3 (ekI .i64) v5 ([a0.Kind, a0.Rights, a0.Obj, a0.Badge, a0.Bits, a0.Guard]), Box b1 [.int .i64 a0.Kind, .int .i64 a0.Rights, .int .i64 a0.Obj, .int .i64 a0.Badge, .int .i64 a0.Guard, .int .i64 a0.Bits], F]) (fun Sk => (fun j4_e1 => ∀ _ : Unit, Sk [(2, .int .u64 0), (3, errV 61 none), (4, .int .u64 j4_e1)] [Own 3 (ekI .i64) v9 t7, Own 3 (ekI .i64) v5 ([a0.Kind, a0.Rights, a0.Obj, a0.Badge, a0.Bits, a0.Guard]), Box b1 [.int .i64 a0.Kind, .int .i64 a0.Rights, .int .i64 a0.Obj, .int .i64 a0.Badge, .int .i64 a0.Guard, .int .i64 a0.Bits], F])) (fun _ => rfl) ?_ (m := k) (x := ((0, 0, 0), ())) hl1 ?_
    · clear h hl1
      intro k x o_1 h hK1 ih1
      obtain ⟨⟨x28_1, x4_1, x5_1⟩, _⟩ := x
      replace h : pack_Put.l1 a0 t7 (k + 1) (x28_1, x4_1, x5_1) = some o_1 := h
      first | rw [pack_Put.l1] at h | unfold pack_Put.l1 at h
      refine S.seq ?_
      refine S.region ?_
      refine SO.v rfl (opv_lss rfl rfl) ?_
      refine SO.nil ?_
      refine S.seq ?_
      rcases bool_or (decide (x28_1 < (t7.length : Int))) with b11 | b11
      · replace h := cond_t b11 h
        refine S.condT rfl b11 ?_
        refine S.skip ?_
        refine S.seq ?_
        refine S.block ?_
        refine S.seq ?_
        refine S.region ?_
        refine SO.v rfl (opv_move rfl) ?_
        obtain ⟨x12, hx13, h⟩ := opt_bind h
        refine SO.v rfl (opv_idx Try.underlying35 Try.sizeOf3 hr10 rfl rfl hx13) ?_
        refine SO.loadI1 (j := 0) rfl Try.isAgg3 (Rd.head hr10) hx13 rfl rfl rfl rfl ?_
        refine SO.v rfl (opv_assign rfl) ?_
        refine SO.v rfl (opv_assign rfl) ?_
        refine SO.nil ?_
        refine S.seq ?_
        refine S.region ?_
        refine SO.v rfl (opv_move rfl) ?_
        refine SO.v rfl (opv_move rfl) ?_
        refine SO.v rfl (opv_move rfl) ?_
        obtain ⟨x14, hx15, h⟩ := opt_bind h
        refine SO.v rfl (opv_idx Try.underlying35 Try.sizeOf3 hr6 rfl rfl hx15) ?_
        refine SO.loadI1 (j := 0) rfl Try.isAgg3 (Rd.tail (Rd.head hr6)) hx15 rfl rfl rfl rfl ?_
        refine SO.v rfl (opv_conv Try.underlying3 Try.underlying72 rfl) ?_
        refine SO.v rfl (opv_move rfl) ?_
        obtain ⟨_, hc16, h⟩ := opt_bind h
        refine SO.v rfl (opv_shl rfl rfl (of_decide_eq_true (chk_some hc16))) ?_
        refine SO.v rfl (opv_or rfl rfl) ?_
        refine SO.v rfl (opv_assign rfl) ?_
        refine SO.nil ?_
        refine S.to (ρ' := [(28, .int .i64 x28_1), (27, .int .i64 (t7.length : Int)), (26, v9), (2, .int .u64 0), (3, errV 61 none), (4, .int .u64 (bor .u64 x4_1 (bshl .u64 (wu64 x14) x5_1))), (5, .int .i64 x5_1), (6, v5), (8, .int .i64 x12)]) ⟨rfl, rfl, rfl, rfl, rfl, rfl, rfl, rfl, rfl, trivial⟩ ?_
        refine S.region ?_
        refine SO.v rfl (opv_move rfl) ?_
        refine SO.v rfl (opv_move rfl) ?_
        refine SO.v rfl (opv_add rfl rfl) ?_
        refine SO.v rfl (opv_assign rfl) ?_
        refine SO.nil ?_
        refine S.inBlock ?_
        refine S.region ?_
        refine SO.v rfl (opv_add rfl rfl) ?_
        refine SO.v rfl (opv_move rfl) ?_
        refine SO.nil ?_
        refine S.b3 ?_
        refine S.b3 ?_
        refine S.b3 ?_
        refine S.b3 ?_
        refine S.to ?_ (ih1 ((w64 (x28_1 + 1), bor .u64 x4_1 (bshl .u64 (wu64 x14) x5_1), w64 (x5_1 + x12)), ()) h)
        exact ⟨rfl, rfl, rfl, rfl, rfl, rfl, rfl, rfl, trivial⟩
      · replace h := cond_f b11 h
        refine S.condF rfl b11 ?_
        refine S.exit rfl ?_
        cases h
        refine S.b3 ?_
        refine S.b3 ?_
        refine S.b3 ?_
        refine S.b3 ?_
        refine S.to ?_ (hK1 ())
        exact ⟨rfl, rfl, rfl, trivial⟩
    rintro _
    refine S.seq ?_
    refine S.region ?_
    refine SO.v rfl (opv_move rfl) ?_
    refine SO.v rfl (opv_assign rfl) ?_
    refine SO.v rfl (opv_assign rfl) ?_
    refine SO.nil ?_
    cases h
    refine S.drop ?_
    refine S.drop ?_
    refine S.drop ?_
    exact S.ret2 Try.func51 rfl rfl rfl (fun w hs hk => hR w _ _ ⟨rfl, rfl⟩ hs hk)
end Go.Proofs
namespace Go.Proofs
open Go.Sl Go.RowKit
/-! 35 padstone/cspace.Set -/
def cspace_Set.f (k : Nat) (a1 : Int) (a2 : api_Cap) : VM ((Option Int)) :=
  (VM.opt (lay_Slot.f a1 0)).bind fun (t2, t3) => bif !t3 then (VM.ret (some 2)) else ((VM.opt (pack_Put.f k a2)).bind fun (t6, t7) => bif t7.isSome then (VM.ret t7) else (VM.wr t2 t6 (VM.ret none)))
set_option maxHeartbeats 8000000 in
set_option maxRecDepth 100000 in
theorem cspace_Set.ct (V : VW Try.prog) (k : Nat) (a1 : Int) (a2 : api_Cap) (r0 : Option Int) (s s' : V.S) (h : VM.run V.toVI (cspace_Set.f k a1 a2) s = some (r0, s')) :
    Ct Try.prog 35 [V.val, .int .i64 a1, .agg #[.int .i64 a2.Kind, .int .i64 a2.Rights, .int .i64 a2.Obj, .int .i64 a2.Badge, .int .i64 a2.Guard, .int .i64 a2.Bits]] (fun _ => True) [V.rep s] (fun u H' => u = errV 61 r0 ∧ H' = [V.rep s']) := by
  unfold cspace_Set.f at h
  refine Ct.intro (n := 31) Try.func35 rfl rfl rfl ?_
  intro R w0 F hF hR
  refine S.seq ?_
  refine S.region ?_
  refine SO.box rfl rfl rfl (fun b1 => ?_)
  refine SO.v rfl (opv_assign rfl) ?_
  refine SO.nil ?_
  refine S.seq ?_
  refine S.region ?_
  refine SO.v rfl (opv_move rfl) ?_
  obtain ⟨⟨t2, t3⟩, ht4, h⟩ := VM.opt_some V.toVI h
  refine SO.call (pre := []) rfl Try.call39 rfl rfl rfl (lay_Slot.ct _ _ _ _ ht4) trivial ?_
  rintro _ _ ⟨rfl, rfl⟩
  refine SO.v rfl (opv_move rfl) ?_
  refine SO.v rfl (opv_extract rfl rfl) ?_
  refine SO.v rfl (opv_extract rfl rfl) ?_
  refine SO.v rfl (opv_assign rfl) ?_
  refine SO.v rfl (opv_assign rfl) ?_
  refine SO.nil ?_
  refine S.to (ρ' := [(0, V.val), (5, bp b1 0), (6, errV 61 none), (7, .int .i64 t2), (8, .bool t3)]) ⟨rfl, rfl, rfl, rfl, rfl, trivial⟩ ?_
  refine S.seq ?_
  refine S.seq ?_
  refine S.region ?_
  refine SO.v rfl (opv_move rfl) ?_
  refine SO.v rfl (opv_not rfl) ?_
  refine SO.nil ?_
  rcases bool_or (!t3) with b5 | b5
  · replace h := VM.cond_t V.toVI b5 h
    refine S.condT rfl b5 ?_
    refine S.seq ?_
    refine S.region ?_
    refine SO.v rfl (opv_iface Try.underlying61 rfl rfl) ?_
    refine SO.v rfl (opv_assign rfl) ?_
    refine SO.nil ?_
    refine S.to (ρ' := [(6, errV 61 (some 2))]) ⟨rfl, trivial⟩ ?_
    obtain ⟨hq, rfl⟩ := VM.ret_some V.toVI h
    cases hq
    refine S.drop ?_
    refine S.b1 ?_
    refine S.b1 ?_
    exact S.ret1 Try.func35 rfl rfl (fun w hs hk => hR w _ _ ⟨rfl, rfl⟩ hs hk)
  · replace h := VM.cond_f V.toVI b5 h
    refine S.condF rfl b5 ?_
    refine S.skip ?_
    refine S.seq ?_
    refine S.region ?_
    refine SO.loadN rfl Try.isAgg24 Try.sizeOf24 rfl rfl rfl ?_
    obtain ⟨⟨t6, t7⟩, ht8, h⟩ := VM.opt_some V.toVI h
    refine SO.call (pre := []) rfl Try.call51 rfl rfl rfl (pack_Put.ct _ _ _ _ ht8) trivial ?_
    rintro _ _ ⟨rfl, rfl⟩
    refine SO.v rfl (opv_move rfl) ?_
    refine SO.v rfl (opv_extract rfl rfl) ?_
    refine SO.v rfl (opv_extract rfl rfl) ?_
    refine SO.v rfl (opv_assign rfl) ?_
    refine SO.v rfl (opv_assign rfl) ?_
    refine SO.nil ?_
    refine S.to (ρ' := [(0, V.val), (6, errV 61 none), (7, .int .i64 t2), (9, .int .u64 t6), (10, errV 61 t7)]) ⟨rfl, rfl, rfl, rfl, rfl, trivial⟩ ?_
    refine S.seq ?_
    refine S.seq ?_
    refine S.region ?_
    refine SO.v rfl (opv_move rfl) ?_
    refine SO.v rfl (opv_neqN (e := t7) Try.underlying28 rfl) ?_
    refine SO.nil ?_
    rcases bool_or t7.isSome with b9 | b9
    · replace h := VM.cond_t V.toVI b9 h
      refine S.condT rfl b9 ?_
      refine S.seq ?_
      refine S.region ?_
      refine SO.v rfl (opv_move rfl) ?_
      refine SO.v rfl (opv_assign rfl) ?_
      refine SO.nil ?_
      refine S.to (ρ' := [(6, errV 61 t7)]) ⟨rfl, trivial⟩ ?_
      obtain ⟨hq, rfl⟩ := VM.ret_some V.toVI h
      cases hq
      refine S.drop ?_
      refine S.b1 ?_
      refine S.b1 ?_
      exact S.ret1 Try.func35 rfl rfl (fun w hs hk => hR w _ _ ⟨rfl, rfl⟩ hs hk)
    · replace h := VM.cond_f V.toVI b9 h
      refine S.condF rfl b9 ?_
      refine S.skip ?_
      refine S.seq ?_
      refine S.region ?_
      refine SO.v rfl (opv_move rfl) ?_
      refine SO.v rfl (opv_move rfl) ?_
      refine SO.v rfl (opv_move rfl) ?_
      obtain ⟨s10, hv11, h⟩ := VM.wr_some V.toVI h
      refine SO.b1 ?_
      refine SO.vwrite' V rfl rfl rfl rfl hv11 ?_
      refine SO.nil ?_
      refine S.to (ρ' := [(6, errV 61 none)]) ⟨rfl, trivial⟩ ?_
      refine S.seq ?_
      refine S.region ?_
      refine SO.v rfl (opv_assign rfl) ?_
      refine SO.nil ?_
      obtain ⟨hq, rfl⟩ := VM.ret_some V.toVI h
      cases hq
      refine S.b1 ?_
      refine S.drop ?_
      refine S.b1 ?_
      refine S.b1 ?_
      exact S.ret1 Try.func35 rfl rfl (fun w hs hk => hR w _ _ ⟨rfl, rfl⟩ hs hk)
end Go.Proofs
namespace Go.Proofs
open Go.Sl Go.RowKit
/-! 33 padstone/lay.Put -/
def lay_Put.f (a1 : Int) (a2 : Int) (a3 : Int) : VM (Unit) :=
  (VM.opt (lay_Obj.f a1 a2)).bind fun (t1, t2) => bif t2 && (decide (0 ≤ a3)) then (VM.wr t1 (wu64 a3) (VM.ret ())) else (VM.ret ())
set_option maxHeartbeats 8000000 in
set_option maxRecDepth 100000 in
theorem lay_Put.ct (V : VW Try.prog) (a1 : Int) (a2 : Int) (a3 : Int) (s s' : V.S) (h : VM.run V.toVI (lay_Put.f a1 a2 a3) s = some ((), s')) :
    Ct Try.prog 33 [V.val, .int .i64 a1, .int .i64 a2, .int .i64 a3] (fun _ => True) [V.rep s] (fun u H' => u = .tuple #[] ∧ H' = [V.rep s']) := by
  unfold lay_Put.f at h
  refine Ct.intro (n := 26) Try.func33 rfl rfl rfl ?_
  intro R w0 F hF hR
  refine S.seq ?_
  refine S.region ?_
  refine SO.v rfl (opv_move rfl) ?_
  refine SO.v rfl (opv_move rfl) ?_
  obtain ⟨⟨t1, t2⟩, ht3, h⟩ := VM.opt_some V.toVI h
  refine SO.call (pre := []) rfl Try.call43 rfl rfl rfl (lay_Obj.ct _ _ _ _ ht3) trivial ?_
  rintro _ _ ⟨rfl, rfl⟩
  refine SO.v rfl (opv_move rfl) ?_
  refine SO.v rfl (opv_extract rfl rfl) ?_
  refine SO.v rfl (opv_extract rfl rfl) ?_
  refine SO.v rfl (opv_assign rfl) ?_
  refine SO.v rfl (opv_assign rfl) ?_
  refine SO.nil ?_
  refine S.to (ρ' := [(0, V.val), (3, .int .i64 a3), (8, .int .i64 t1), (9, .bool t2)]) ⟨rfl, rfl, rfl, rfl, trivial⟩ ?_
  refine S.seq ?_
  refine S.region ?_
  refine SO.v rfl (opv_move rfl) ?_
  refine SO.v rfl (opv_move rfl) ?_
  refine SO.cut 3 20 (.bool (t2 && (decide (0 ≤ a3)))) [V.rep s, F] (fun l2 hk2 => ?_) ?_
  · rcases bool_or t2 with b4 | b4
    · refine SO.takeT rfl rfl rfl b4 ?_
      refine SO.v rfl (opv_move rfl) ?_
      refine SO.takeT rfl rfl rfl b4 ?_
      refine SO.v rfl (opv_geq rfl rfl) ?_
      refine SO.v rfl (opv_pick_t' b4 rfl rfl) ?_
      refine SO.b1 ?_
      refine SO.b1 ?_
      exact hk2.fitc (m := 3) rfl (and_t b4) rfl
    · refine SO.passF rfl rfl rfl b4 rfl rfl ?_
      refine SO.passF rfl rfl rfl b4 rfl rfl ?_
      refine SO.v rfl (opv_pick_f' b4 rfl rfl) ?_
      refine SO.b1 ?_
      refine SO.b1 ?_
      exact hk2.fitc (m := 3) rfl (and_f b4) rfl
  refine SO.nil ?_
  rcases bool_or (t2 && (decide (0 ≤ a3))) with b5 | b5
  · replace h := VM.cond_t V.toVI b5 h
    refine S.condT rfl b5 ?_
    refine S.region ?_
    refine SO.v rfl (opv_move rfl) ?_
    refine SO.v rfl (opv_move rfl) ?_
    refine SO.v rfl (opv_move rfl) ?_
    refine SO.v rfl (opv_conv Try.underlying3 Try.underlying72 rfl) ?_
    obtain ⟨s6, hv7, h⟩ := VM.wr_some V.toVI h
    refine SO.vwrite' V rfl rfl rfl rfl hv7 ?_
    refine SO.nil ?_
    refine S.to (ρ' := []) trivial ?_
    obtain ⟨hq, rfl⟩ := VM.ret_some V.toVI h
    cases hq
    refine S.b1 ?_
    refine S.b1 ?_
    exact S.fin0 Try.func33 rfl (fun w hs hk => hR w _ _ ⟨rfl, rfl⟩ hs hk)
  · replace h := VM.cond_f V.toVI b5 h
    refine S.condF rfl b5 ?_
    refine S.skip ?_
    obtain ⟨hq, rfl⟩ := VM.ret_some V.toVI h
    cases hq
    refine S.b1 ?_
    refine S.b1 ?_
    exact S.fin0 Try.func33 rfl (fun w hs hk => hR w _ _ ⟨rfl, rfl⟩ hs hk)
end Go.Proofs
namespace Go.Proofs
open Go.Sl Go.RowKit
/-! 47 padstone/lay.Used -/
def lay_Used.f : VM ((Int × Int)) :=
  VM.rd 736 fun t1 => VM.rd 737 fun t4 => VM.ret (w64 (if 96 < t1 then 96 else t1), w64 (if 32 < t4 then 32 else t4))
set_option maxHeartbeats 8000000 in
set_option maxRecDepth 100000 in
theorem lay_Used.ct (V : VW Try.prog) (r0 : Int) (r1 : Int) (s s' : V.S) (h : VM.run V.toVI (lay_Used.f ) s = some ((r0, r1), s')) :
    Ct Try.prog 47 [V.val] (fun _ => True) [V.rep s] (fun u H' => u = .tuple #[.int .i64 r0, .int .i64 r1] ∧ H' = [V.rep s']) := by
  unfold lay_Used.f at h
  refine Ct.intro (n := 12) Try.func47 rfl rfl rfl ?_
  intro R w0 F hF hR
  refine S.seq ?_
  refine S.region ?_
  refine SO.v rfl (opv_assign rfl) ?_
  refine SO.v rfl (opv_assign rfl) ?_
  refine SO.nil ?_
  refine S.seq ?_
  refine S.region ?_
  refine SO.v rfl (opv_move rfl) ?_
  obtain ⟨t1, s2, hv3, h⟩ := VM.rd_some V.toVI h
  refine SO.vread' V rfl rfl rfl hv3 ?_
  refine SO.v rfl (opv_min rfl rfl) ?_
  refine SO.v rfl (opv_conv Try.underlying72 Try.underlying3 rfl) ?_
  refine SO.v rfl (opv_move rfl) ?_
  obtain ⟨t4, s5, hv6, h⟩ := VM.rd_some V.toVI h
  refine SO.vread' V rfl rfl rfl hv6 ?_
  refine SO.v rfl (opv_min rfl rfl) ?_
  refine SO.v rfl (opv_conv Try.underlying72 Try.underlying3 rfl) ?_
  refine SO.v rfl (opv_assign rfl) ?_
  refine SO.v rfl (opv_assign rfl) ?_
  refine SO.nil ?_
  refine S.to (ρ' := [(2, .int .i64 (w64 (if 96 < t1 then 96 else t1))), (3, .int .i64 (w64 (if 32 < t4 then 32 else t4)))]) ⟨rfl, rfl, trivial⟩ ?_
  obtain ⟨hq, rfl⟩ := VM.ret_some V.toVI h
  cases hq
  refine S.b1 ?_
  refine S.b1 ?_
  exact S.ret2 Try.func47 rfl rfl rfl (fun w hs hk => hR w _ _ ⟨rfl, rfl⟩ hs hk)
end Go.Proofs
namespace Go.Proofs
open Go.Sl Go.RowKit
/-! 32 padstone/lay.Take -/
def lay_Take.f (a1 : Int) (a2 : Int) : VM ((Int × Int × (Option Int))) :=
  bif (decide (a1 < 0)) || (decide (a2 < 0)) then (VM.ret (0, 0, (some 1))) else ((lay_Used.f ).bind fun (t3, t4) => bif (decide ((w64 (96 - t3)) < a1)) || (decide ((w64 (32 - t4)) < a2)) then (VM.ret (0, 0, (some 7))) else (VM.wr 736 (wu64 (w64 (t3 + a1))) (VM.wr 737 (wu64 (w64 (t4 + a2))) (VM.ret (t3, t4, none)))))
set_option maxHeartbeats 8000000 in
set_option maxRecDepth 100000 in
theorem lay_Take.ct (V : VW Try.prog) (a1 : Int) (a2 : Int) (r0 : Int) (r1 : Int) (r2 : Option Int) (s s' : V.S) (h : VM.run V.toVI (lay_Take.f a1 a2) s = some ((r0, r1, r2), s')) :
    Ct Try.prog 32 [V.val, .int .i64 a1, .int .i64 a2] (fun _ => True) [V.rep s] (fun u H' => u = .tuple #[.int .i64 r0, .int .i64 r1, errV 61 r2] ∧ H' = [V.rep s']) := by
  unfold lay_Take.f at h
  refine Ct.intro (n := 48) Try.func32 rfl rfl rfl ?_
  intro R w0 F hF hR
  refine S.seq ?_
  refine S.region ?_
  refine SO.v rfl (opv_assign rfl) ?_
  refine SO.v rfl (opv_assign rfl) ?_
  refine SO.v rfl (opv_assign rfl) ?_
  refine SO.nil ?_
  refine S.seq ?_
  refine S.seq ?_
  refine S.region ?_
  refine SO.v rfl (opv_move rfl) ?_
  refine SO.v rfl (opv_lss rfl rfl) ?_
  refine SO.v rfl (opv_move rfl) ?_
  refine SO.cut 3 16 (.bool ((decide (a1 < 0)) || (decide (a2 < 0)))) [V.rep s, F] (fun l2 hk2 => ?_) ?_
  · rcases bool_or (decide (a1 < 0)) with b1 | b1
    · refine SO.passF rfl rfl rfl b1 rfl rfl ?_
      refine SO.passF rfl rfl rfl b1 rfl rfl ?_
      refine SO.v rfl (opv_pick_t' b1 rfl rfl) ?_
      refine SO.b1 ?_
      refine SO.b1 ?_
      exact hk2.fitc (m := 3) rfl (or_t b1) rfl
    · refine SO.takeT rfl rfl rfl b1 ?_
      refine SO.v rfl (opv_move rfl) ?_
      refine SO.takeT rfl rfl rfl b1 ?_
      refine SO.v rfl (opv_lss rfl rfl) ?_
      refine SO.v rfl (opv_pick_f' b1 rfl rfl) ?_
      refine SO.b1 ?_
      refine SO.b1 ?_
      exact hk2.fitc (m := 3) rfl (or_f b1) rfl
  refine SO.nil ?_
  rcases bool_or ((decide (a1 < 0)) || (decide (a2 < 0))) with b2 | b2
  · replace h := VM.cond_t V.toVI b2 h
    refine S.condT rfl b2 ?_
    refine S.seq ?_
    refine S.region ?_
    refine SO.v rfl (opv_iface Try.underlying61 rfl rfl) ?_
    refine SO.v rfl (opv_assign rfl) ?_
    refine SO.v rfl (opv_assign rfl) ?_
    refine SO.v rfl (opv_assign rfl) ?_
    refine SO.nil ?_
    refine S.to (ρ' := [(6, .int .i64 0), (7, .int .i64 0), (8, errV 61 (some 1))]) ⟨rfl, rfl, rfl, trivial⟩ ?_
    obtain ⟨hq, rfl⟩ := VM.ret_some V.toVI h
    cases hq
    refine S.b1 ?_
    refine S.b1 ?_
    exact S.ret3 Try.func32 rfl rfl rfl rfl (fun w hs hk => hR w _ _ ⟨rfl, rfl⟩ hs hk)
  · replace h := VM.cond_f V.toVI b2 h
    refine S.condF rfl b2 ?_
    refine S.skip ?_
    refine S.seq ?_
    refine S.region ?_
    refine SO.v rfl (opv_move rfl) ?_
    obtain ⟨⟨t3, t4⟩, s6, ht5, h⟩ := VM.bind_some V.toVI h
    refine SO.call (pre := [V.rep _]) rfl Try.call47 rfl rfl rfl (lay_Used.ct V _ _ _ _ ht5) trivial ?_
    rintro _ _ ⟨rfl, rfl⟩
    refine SO.v rfl (opv_move rfl) ?_
    refine SO.v rfl (opv_extract rfl rfl) ?_
    refine SO.v rfl (opv_extract rfl rfl) ?_
    refine SO.v rfl (opv_assign rfl) ?_
    refine SO.v rfl (opv_assign rfl) ?_
    refine SO.nil ?_
    refine S.to (ρ' := [(0, V.val), (1, .int .i64 a1), (2, .int .i64 a2), (6, .int .i64 0), (7, .int .i64 0), (8, errV 61 none), (9, .int .i64 t3), (10, .int .i64 t4)]) ⟨rfl, rfl, rfl, rfl, rfl, rfl, rfl, rfl, trivial⟩ ?_
    refine S.seq ?_
    refine S.seq ?_
    refine S.region ?_
    refine SO.v rfl (opv_move rfl) ?_
    refine SO.v rfl (opv_move rfl) ?_
    refine SO.v rfl (opv_sub rfl rfl) ?_
    refine SO.v rfl (opv_gtr rfl rfl) ?_
    refine SO.v rfl (opv_move rfl) ?_
    refine SO.cut 5 32 (.bool ((decide ((w64 (96 - t3)) < a1)) || (decide ((w64 (32 - t4)) < a2)))) [V.rep s6, F] (fun l2 hk2 => ?_) ?_
    · rcases bool_or (decide ((w64 (96 - t3)) < a1)) with b7 | b7
      · refine SO.passF rfl rfl rfl b7 rfl rfl ?_
        refine SO.passF rfl rfl rfl b7 rfl rfl ?_
        refine SO.passF rfl rfl rfl b7 rfl rfl ?_
        refine SO.passF rfl rfl rfl b7 rfl rfl ?_
        refine SO.v rfl (opv_pick_t' b7 rfl rfl) ?_
        refine SO.b1 ?_
        refine SO.b1 ?_
        exact hk2.fitc (m := 5) rfl (or_t b7) rfl
      · refine SO.takeT rfl rfl rfl b7 ?_
        refine SO.v rfl (opv_move rfl) ?_
        refine SO.takeT rfl rfl rfl b7 ?_
        refine SO.v rfl (opv_move rfl) ?_
        refine SO.takeT rfl rfl rfl b7 ?_
        refine SO.v rfl (opv_sub rfl rfl) ?_
        refine SO.takeT rfl rfl rfl b7 ?_
        refine SO.v rfl (opv_gtr rfl rfl) ?_
        refine SO.v rfl (opv_pick_f' b7 rfl rfl) ?_
        refine SO.b1 ?_
        refine SO.b1 ?_
        exact hk2.fitc (m := 5) rfl (or_f b7) rfl
    refine SO.nil ?_
    rcases bool_or ((decide ((w64 (96 - t3)) < a1)) || (decide ((w64 (32 - t4)) < a2))) with b8 | b8
    · replace h := VM.cond_t V.toVI b8 h
      refine S.condT rfl b8 ?_
      refine S.seq ?_
      refine S.region ?_
      refine SO.v rfl (opv_iface Try.underlying61 rfl rfl) ?_
      refine SO.v rfl (opv_assign rfl) ?_
      refine SO.v rfl (opv_assign rfl) ?_
      refine SO.v rfl (opv_assign rfl) ?_
      refine SO.nil ?_
      refine S.to (ρ' := [(6, .int .i64 0), (7, .int .i64 0), (8, errV 61 (some 7))]) ⟨rfl, rfl, rfl, trivial⟩ ?_
      obtain ⟨hq, rfl⟩ := VM.ret_some V.toVI h
      cases hq
      refine S.b1 ?_
      refine S.b1 ?_
      exact S.ret3 Try.func32 rfl rfl rfl rfl (fun w hs hk => hR w _ _ ⟨rfl, rfl⟩ hs hk)
    · replace h := VM.cond_f V.toVI b8 h
      refine S.condF rfl b8 ?_
      refine S.skip ?_
      refine S.seq ?_
      refine S.region ?_
      refine SO.v rfl (opv_move rfl) ?_
      refine SO.v rfl (opv_move rfl) ?_
      refine SO.v rfl (opv_move rfl) ?_
      refine SO.v rfl (opv_add rfl rfl) ?_
      refine SO.v rfl (opv_conv Try.underlying3 Try.underlying72 rfl) ?_
      obtain ⟨s9, hv10, h⟩ := VM.wr_some V.toVI h
      refine SO.vwrite' V rfl rfl rfl rfl hv10 ?_
      refine SO.nil ?_
      refine S.to (ρ' := [(0, V.val), (2, .int .i64 a2), (6, .int .i64 0), (7, .int .i64 0), (8, errV 61 none), (9, .int .i64 t3), (10, .int .i64 t4)]) ⟨rfl, rfl, rfl, rfl, rfl, rfl, rfl, trivial⟩ ?_
      refine S.seq ?_
      refine S.region ?_
      refine SO.v rfl (opv_move rfl) ?_
      refine SO.v rfl (opv_move rfl) ?_
      refine SO.v rfl (opv_move rfl) ?_
      refine SO.v rfl (opv_add rfl rfl) ?_
      refine SO.v rfl (opv_conv Try.underlying3 Try.underlying72 rfl) ?_
      obtain ⟨s11, hv12, h⟩ := VM.wr_some V.toVI h
      refine SO.vwrite' V rfl rfl rfl rfl hv12 ?_
      refine SO.nil ?_
      refine S.to (ρ' := [(6, .int .i64 0), (7, .int .i64 0), (8, errV 61 none), (9, .int .i64 t3), (10, .int .i64 t4)]) ⟨rfl, rfl, rfl, rfl, rfl, trivial⟩ ?_
      refine S.seq ?_
      refine S.region ?_
      refine SO.v rfl (opv_move rfl) ?_
      refine SO.v rfl (opv_move rfl) ?_
      refine SO.v rfl (opv_assign rfl) ?_
      refine SO.v rfl (opv_assign rfl) ?_
      refine SO.v rfl (opv_assign rfl) ?_
      refine SO.nil ?_
      obtain ⟨hq, rfl⟩ := VM.ret_some V.toVI h
      cases hq
      refine S.b1 ?_
      refine S.b1 ?_
      exact S.ret3 Try.func32 rfl rfl rfl rfl (fun w hs hk => hR w _ _ ⟨rfl, rfl⟩ hs hk)
end Go.Proofs
namespace Go.Proofs
open Go.Sl Go.RowKit
/-! 45 padstone/rights.Has -/
def rights_Has.f (a0 : api_Cap) (a1 : Int) : Option (Bool) :=
  some ((band .i64 a0.Rights a1) == a1)
set_option maxHeartbeats 8000000 in
set_option maxRecDepth 100000 in
theorem rights_Has.ct (a0 : api_Cap) (a1 : Int) (r0 : Bool) (h : rights_Has.f a0 a1 = some r0) :
    Ct Try.prog 45 [.agg #[.int .i64 a0.Kind, .int .i64 a0.Rights, .int .i64 a0.Obj, .int .i64 a0.Badge, .int .i64 a0.Guard, .int .i64 a0.Bits], .int .i64 a1] (fun _ => True) [] (fun u H' => u = .bool r0 ∧ H' = []) := by
  unfold rights_Has.f at h
  refine Ct.intro (n := 11) Try.func45 rfl rfl rfl ?_
  intro R w0 F hF hR
  refine S.seq ?_
  refine S.region ?_
  refine SO.box rfl rfl rfl (fun b1 => ?_)
  refine SO.v rfl (opv_assign rfl) ?_
  refine SO.nil ?_
  refine S.seq ?_
  refine S.region ?_
  refine SO.v rfl (opv_fieldAddr Try.underlying24 rfl Try.sizeOf3 rfl rfl) ?_
  refine SO.load1 rfl Try.isAgg3 rfl rfl ?_
  refine SO.v rfl (opv_move rfl) ?_
  refine SO.v rfl (opv_and rfl rfl) ?_
  refine SO.v rfl (opv_move rfl) ?_
  refine SO.v rfl (opv_eql rfl rfl) ?_
  refine SO.v rfl (opv_assign rfl) ?_
  refine SO.nil ?_
  refine S.to (ρ' := [(4, .bool ((band .i64 a0.Rights a1) == a1))]) ⟨rfl, trivial⟩ ?_
  cases h
  refine S.drop ?_
  exact S.ret1 Try.func45 rfl rfl (fun w hs hk => hR w _ _ ⟨rfl, rfl⟩ hs hk)
end Go.Proofs
namespace Go.Proofs
open Go.Sl Go.RowKit
/-! 31 padstone/untyped.may -/
def untyped_may.f (k : Nat) (a1 : Int) (a2 : Int) (a3 : Int) (a4 : Int) : VM ((Int × (Option Int))) :=
  (VM.opt (lay_Slot.f a1 0)).bind fun (t1, t2) => (VM.opt (lay_Slot.f a2 0)).bind fun (t4, t5) => (cspace_Cap.f k a1).bind fun t7 => (VM.opt (untyped_Cost.f a3 a4)).bind fun (t11, t12) => bif (!t2) || (!t5) then (VM.ret (0, (some 2))) else ((bif t7.Kind != 1 then (VM.ret true) else ((lay_Is.f t7.Obj 1).bind fun t19 => VM.ret (!t19))).bind fun c17 => bif c17 then (VM.ret (0, (some 5))) else ((VM.opt (rights_Has.f t7 2)).bind fun t24 => bif !t24 then (VM.ret (0, (some 6))) else ((cspace_Cap.f k a2).bind fun t27 => (bif t27.Kind != 0 then (VM.ret true) else ((cdt_Parent.f a2).bind fun t33 => VM.ret (decide (0 ≤ t33)))).bind fun c31 => bif c31 then (VM.ret (0, (some 8))) else (bif !t12 then (VM.ret (0, (some 1))) else ((untyped_Left.f t7.Obj).bind fun t39 => bif decide (t39 < t11) then (VM.ret (0, (some 14))) else (VM.ret (t11, none)))))))
set_option maxHeartbeats 8000000 in
set_option maxRecDepth 100000 in
theorem untyped_may.ct (V : VW Try.prog) (k : Nat) (a1 : Int) (a2 : Int) (a3 : Int) (a4 : Int) (r0 : Int) (r1 : Option Int) (s s' : V.S) (h : VM.run V.toVI (untyped_may.f k a1 a2 a3 a4) s = some ((r0, r1), s')) :
    Ct Try.prog 31 [V.val, .int .i64 a1, .int .i64 a2, .int .i64 a3, .int .i64 a4] (fun _ => True) [V.rep s] (fun u H' => u = .tuple #[.int .i64 r0, errV 61 r1] ∧ H' = [V.rep s']) := by
  unfold untyped_may.f at h
  refine Ct.intro (n := 89) Try.func31 rfl rfl rfl ?_
  intro R w0 F hF hR
  refine S.seq ?_
  refine S.region ?_
  refine SO.v rfl (opv_assign rfl) ?_
  refine SO.v rfl (opv_assign rfl) ?_
  refine SO.nil ?_
  refine S.seq ?_
  refine S.region ?_
  refine SO.v rfl (opv_move rfl) ?_
  obtain ⟨⟨t1, t2⟩, ht3, h⟩ := VM.opt_some V.toVI h
  refine SO.call (pre := []) rfl Try.call39 rfl rfl rfl (lay_Slot.ct _ _ _ _ ht3) trivial ?_
  rintro _ _ ⟨rfl, rfl⟩
  refine SO.v rfl (opv_move rfl) ?_
  refine SO.v rfl (opv_extract rfl rfl) ?_
  refine SO.v rfl (opv_extract rfl rfl) ?_
  refine SO.v rfl (opv_assign rfl) ?_
  refine SO.v rfl (opv_assign rfl) ?_
  refine SO.nil ?_
  refine S.seq ?_
  refine S.region ?_
  refine SO.v rfl (opv_move rfl) ?_
  obtain ⟨⟨t4, t5⟩, ht6, h⟩ := VM.opt_some V.toVI h
  refine SO.call (pre := []) rfl Try.call39 rfl rfl rfl (lay_Slot.ct _ _ _ _ ht6) trivial ?_
  rintro _ _ ⟨rfl, rfl⟩
  refine SO.v rfl (opv_move rfl) ?_
  refine SO.v rfl (opv_extract rfl rfl) ?_
  refine SO.v rfl (opv_extract rfl rfl) ?_
  refine SO.v rfl (opv_assign rfl) ?_
  refine SO.v rfl (opv_assign rfl) ?_
  refine SO.nil ?_
  refine S.to (ρ' := [(0, V.val), (1, .int .i64 a1), (2, .int .i64 a2), (3, .int .i64 a3), (4, .int .i64 a4), (10, .int .i64 0), (11, errV 61 none), (13, .bool t2), (15, .bool t5)]) ⟨rfl, rfl, rfl, rfl, rfl, rfl, rfl, rfl, rfl, trivial⟩ ?_
  refine S.seq ?_
  refine S.region ?_
  refine SO.v rfl (opv_move rfl) ?_
  refine SO.v rfl (opv_move rfl) ?_
  obtain ⟨t7, s9, ht8, h⟩ := VM.bind_some V.toVI h
  refine SO.call (pre := [V.rep _]) rfl Try.call22 rfl rfl rfl (cspace_Cap.ct V _ _ _ _ _ ht8) trivial ?_
  rintro _ _ ⟨rfl, rfl⟩
  refine SO.alloc rfl Try.zeroValue24 rfl (fun b10 => ?_)
  refine SO.storeN Try.sizeOf24 rfl rfl rfl rfl rfl rfl ?_
  refine SO.nil ?_
  refine S.seq ?_
  refine S.region ?_
  refine SO.v rfl (opv_move rfl) ?_
  refine SO.v rfl (opv_move rfl) ?_
  obtain ⟨⟨t11, t12⟩, ht13, h⟩ := VM.opt_some V.toVI h
  refine SO.call (pre := []) rfl Try.call13 rfl rfl rfl (untyped_Cost.ct _ _ _ _ ht13) trivial ?_
  rintro _ _ ⟨rfl, rfl⟩
  refine SO.v rfl (opv_move rfl) ?_
  refine SO.v rfl (opv_extract rfl rfl) ?_
  refine SO.v rfl (opv_extract rfl rfl) ?_
  refine SO.v rfl (opv_assign rfl) ?_
  refine SO.v rfl (opv_assign rfl) ?_
  refine SO.nil ?_
  refine S.to (ρ' := [(0, V.val), (2, .int .i64 a2), (10, .int .i64 0), (11, errV 61 none), (13, .bool t2), (15, .bool t5), (16, bp b10 0), (17, .int .i64 t11), (18, .bool t12)]) ⟨rfl, rfl, rfl, rfl, rfl, rfl, rfl, rfl, rfl, trivial⟩ ?_
  refine S.seq ?_
  refine S.block ?_
  refine S.seq ?_
  refine S.region ?_
  refine SO.v rfl (opv_move rfl) ?_
  refine SO.v rfl (opv_not rfl) ?_
  refine SO.v rfl (opv_move rfl) ?_
  refine SO.cut 3 44 (.bool ((!t2) || (!t5))) [Box b10 [.int .i64 t7.Kind, .int .i64 t7.Rights, .int .i64 t7.Obj, .int .i64 t7.Badge, .int .i64 t7.Guard, .int .i64 t7.Bits], V.rep s9, F] (fun l2 hk2 => ?_) ?_
  · rcases bool_or (!t2) with b14 | b14
    · refine SO.passF rfl rfl rfl b14 rfl rfl ?_
      refine SO.passF rfl rfl rfl b14 rfl rfl ?_
      refine SO.v rfl (opv_pick_t' b14 rfl rfl) ?_
      refine SO.b2 ?_
      refine SO.b2 ?_
      refine SO.b2 ?_
      exact hk2.fitc (m := 3) rfl (or_t b14) rfl
    · refine SO.takeT rfl rfl rfl b14 ?_
      refine SO.v rfl (opv_move rfl) ?_
      refine SO.takeT rfl rfl rfl b14 ?_
      refine SO.v rfl (opv_not rfl) ?_
      refine SO.v rfl (opv_pick_f' b14 rfl rfl) ?_
      refine SO.b2 ?_
      refine SO.b2 ?_
      refine SO.b2 ?_
      exact hk2.fitc (m := 3) rfl (or_f b14) rfl
  refine SO.v rfl (opv_assign rfl) ?_
  refine SO.nil ?_
  rcases bool_or ((!t2) || (!t5)) with b15 | b15
  · replace h := VM.cond_t V.toVI b15 h
    refine S.condT rfl b15 ?_
    refine S.seq ?_
    refine S.region ?_
    refine SO.v rfl (opv_iface Try.underlying61 rfl rfl) ?_
    refine SO.v rfl (opv_assign rfl) ?_
    refine SO.v rfl (opv_assign rfl) ?_
    refine SO.nil ?_
    refine S.to (ρ' := [(10, .int .i64 0), (11, errV 61 (some 2))]) ⟨rfl, rfl, trivial⟩ ?_
    obtain ⟨hq, rfl⟩ := VM.ret_some V.toVI h
    cases hq
    refine S.drop ?_
    refine S.b1 ?_
    refine S.b1 ?_
    exact S.ret2 Try.func31 rfl rfl rfl (fun w hs hk => hR w _ _ ⟨rfl, rfl⟩ hs hk)
  · replace h := VM.cond_f V.toVI b15 h
    refine S.condF rfl b15 ?_
    refine S.seq ?_
    refine S.region ?_
    refine SO.v rfl (opv_fieldAddr Try.underlying24 rfl Try.sizeOf3 rfl rfl) ?_
    refine SO.load1 rfl Try.isAgg3 rfl rfl ?_
    refine SO.v rfl (opv_neq rfl rfl) ?_
    refine SO.v rfl (opv_move rfl) ?_
    obtain ⟨c17, s22, hc18, hgk⟩ := VM.bind_some V.toVI h
    refine SO.cut 6 56 (.bool c17) [Box b10 [.int .i64 t7.Kind, .int .i64 t7.Rights, .int .i64 t7.Obj, .int .i64 t7.Badge, .int .i64 t7.Guard, .int .i64 t7.Bits], V.rep s22, F] (fun l2 hk2 => ?_) ?_
    · clear hgk
      replace h := hc18
      rcases bool_or (t7.Kind != 1) with b16 | b16
      · replace h := VM.cond_t V.toVI b16 h
        refine SO.passF rfl rfl rfl b16 rfl rfl ?_
        refine SO.passF rfl rfl rfl b16 rfl rfl ?_
        refine SO.passF rfl rfl rfl b16 rfl rfl ?_
        refine SO.passF rfl rfl rfl b16 rfl rfl ?_
        refine SO.passF rfl rfl rfl b16 rfl rfl ?_
        obtain ⟨hq, rfl⟩ := VM.ret_some V.toVI h
        cases hq
        refine SO.v rfl (opv_pick_t' b16 rfl rfl) ?_
        refine SO.b2 ?_
        refine SO.b2 ?_
        refine SO.b2 ?_
        exact hk2.fitc (m := 6) rfl (rfl) rfl
      · replace h := VM.cond_f V.toVI b16 h
        refine SO.takeT rfl rfl rfl b16 ?_
        refine SO.v rfl (opv_move rfl) ?_
        refine SO.takeT rfl rfl rfl b16 ?_
        refine SO.v rfl (opv_fieldAddr Try.underlying24 rfl Try.sizeOf3 rfl rfl) ?_
        refine SO.takeT rfl rfl rfl b16 ?_
        refine SO.load1 rfl Try.isAgg3 rfl rfl ?_
        refine SO.takeT rfl rfl rfl b16 ?_
        obtain ⟨t19, s21, ht20, h⟩ := VM.bind_some V.toVI h
        refine SO.b1 ?_
        refine SO.call (pre := [V.rep _]) rfl Try.call25 rfl rfl rfl (lay_Is.ct V _ _ _ _ _ ht20) trivial ?_
        rintro _ _ ⟨rfl, rfl⟩
        refine SO.takeT rfl rfl rfl b16 ?_
        refine SO.v rfl (opv_not rfl) ?_
        obtain ⟨hq, rfl⟩ := VM.ret_some V.toVI h
        cases hq
        refine SO.v rfl (opv_pick_f' b16 rfl rfl) ?_
        refine SO.b2 ?_
        refine SO.b1 ?_
        refine SO.b2 ?_
        exact hk2.fitc (m := 6) rfl (rfl) rfl
    clear hc18
    replace h := hgk
    refine SO.v rfl (opv_assign rfl) ?_
    refine SO.nil ?_
    refine S.to (ρ' := [(0, V.val), (2, .int .i64 a2), (10, .int .i64 0), (11, errV 61 none), (16, bp b10 0), (17, .int .i64 t11), (18, .bool t12), (46, .bool c17)]) ⟨rfl, rfl, rfl, rfl, rfl, rfl, rfl, rfl, trivial⟩ ?_
    rcases bool_or c17 with b23 | b23
    · replace h := VM.cond_t V.toVI b23 h
      refine S.condT rfl b23 ?_
      refine S.seq ?_
      refine S.region ?_
      refine SO.v rfl (opv_iface Try.underlying61 rfl rfl) ?_
      refine SO.v rfl (opv_assign rfl) ?_
      refine SO.v rfl (opv_assign rfl) ?_
      refine SO.nil ?_
      refine S.to (ρ' := [(10, .int .i64 0), (11, errV 61 (some 5))]) ⟨rfl, rfl, trivial⟩ ?_
      obtain ⟨hq, rfl⟩ := VM.ret_some V.toVI h
      cases hq
      refine S.drop ?_
      refine S.b1 ?_
      refine S.b1 ?_
      exact S.ret2 Try.func31 rfl rfl rfl (fun w hs hk => hR w _ _ ⟨rfl, rfl⟩ hs hk)
    · replace h := VM.cond_f V.toVI b23 h
      refine S.condF rfl b23 ?_
      refine S.seq ?_
      refine S.region ?_
      refine SO.loadN rfl Try.isAgg24 Try.sizeOf24 rfl rfl rfl ?_
      obtain ⟨t24, ht25, h⟩ := VM.opt_some V.toVI h
      refine SO.call (pre := []) rfl Try.call45 rfl rfl rfl (rights_Has.ct _ _ _ ht25) trivial ?_
      rintro _ _ ⟨rfl, rfl⟩
      refine SO.v rfl (opv_not rfl) ?_
      refine SO.v rfl (opv_assign rfl) ?_
      refine SO.nil ?_
      rcases bool_or (!t24) with b26 | b26
      · replace h := VM.cond_t V.toVI b26 h
        refine S.condT rfl b26 ?_
        refine S.seq ?_
        refine S.region ?_
        refine SO.v rfl (opv_iface Try.underlying61 rfl rfl) ?_
        refine SO.v rfl (opv_assign rfl) ?_
        refine SO.v rfl (opv_assign rfl) ?_
        refine SO.nil ?_
        refine S.to (ρ' := [(10, .int .i64 0), (11, errV 61 (some 6))]) ⟨rfl, rfl, trivial⟩ ?_
        obtain ⟨hq, rfl⟩ := VM.ret_some V.toVI h
        cases hq
        refine S.drop ?_
        refine S.b1 ?_
        refine S.b1 ?_
        exact S.ret2 Try.func31 rfl rfl rfl (fun w hs hk => hR w _ _ ⟨rfl, rfl⟩ hs hk)
      · replace h := VM.cond_f V.toVI b26 h
        refine S.condF rfl b26 ?_
        refine S.seq ?_
        refine S.region ?_
        refine SO.v rfl (opv_move rfl) ?_
        refine SO.v rfl (opv_move rfl) ?_
        obtain ⟨t27, s29, ht28, h⟩ := VM.bind_some V.toVI h
        refine SO.b1 ?_
        refine SO.call (pre := [V.rep _]) rfl Try.call22 rfl rfl rfl (cspace_Cap.ct V _ _ _ _ _ ht28) trivial ?_
        rintro _ _ ⟨rfl, rfl⟩
        refine SO.v rfl (opv_field Try.underlying24 rfl Try.isAgg3 rfl rfl) ?_
        refine SO.v rfl (opv_neq rfl rfl) ?_
        refine SO.v rfl (opv_move rfl) ?_
        obtain ⟨c31, s36, hc32, hgk⟩ := VM.bind_some V.toVI h
        refine SO.cut 5 74 (.bool c31) [V.rep s36, Box b10 [.int .i64 t7.Kind, .int .i64 t7.Rights, .int .i64 t7.Obj, .int .i64 t7.Badge, .int .i64 t7.Guard, .int .i64 t7.Bits], F] (fun l2 hk2 => ?_) ?_
        · clear hgk
          replace h := hc32
          rcases bool_or (t27.Kind != 0) with b30 | b30
          · replace h := VM.cond_t V.toVI b30 h
            refine SO.passF rfl rfl rfl b30 rfl rfl ?_
            refine SO.passF rfl rfl rfl b30 rfl rfl ?_
            refine SO.passF rfl rfl rfl b30 rfl rfl ?_
            refine SO.passF rfl rfl rfl b30 rfl rfl ?_
            obtain ⟨hq, rfl⟩ := VM.ret_some V.toVI h
            cases hq
            refine SO.v rfl (opv_pick_t' b30 rfl rfl) ?_
            refine SO.b2 ?_
            refine SO.b2 ?_
            refine SO.b2 ?_
            exact hk2.fitc (m := 5) rfl (rfl) rfl
          · replace h := VM.cond_f V.toVI b30 h
            refine SO.takeT rfl rfl rfl b30 ?_
            refine SO.v rfl (opv_move rfl) ?_
            refine SO.takeT rfl rfl rfl b30 ?_
            refine SO.v rfl (opv_move rfl) ?_
            refine SO.takeT rfl rfl rfl b30 ?_
            obtain ⟨t33, s35, ht34, h⟩ := VM.bind_some V.toVI h
            refine SO.call (pre := [V.rep _]) rfl Try.call46 rfl rfl rfl (cdt_Parent.ct V _ _ _ _ ht34) trivial ?_
            rintro _ _ ⟨rfl, rfl⟩
            refine SO.takeT rfl rfl rfl b30 ?_
            refine SO.v rfl (opv_geq rfl rfl) ?_
            obtain ⟨hq, rfl⟩ := VM.ret_some V.toVI h
            cases hq
            refine SO.v rfl (opv_pick_f' b30 rfl rfl) ?_
            refine SO.b2 ?_
            refine SO.b2 ?_
            refine SO.b2 ?_
            exact hk2.fitc (m := 5) rfl (rfl) rfl
        clear hc32
        replace h := hgk
        refine SO.v rfl (opv_assign rfl) ?_
        refine SO.nil ?_
        refine S.to (ρ' := [(0, V.val), (10, .int .i64 0), (11, errV 61 none), (16, bp b10 0), (17, .int .i64 t11), (18, .bool t12), (63, .bool c31)]) ⟨rfl, rfl, rfl, rfl, rfl, rfl, rfl, trivial⟩ ?_
        rcases bool_or c31 with b37 | b37
        · replace h := VM.cond_t V.toVI b37 h
          refine S.condT rfl b37 ?_
          refine S.seq ?_
          refine S.region ?_
          refine SO.v rfl (opv_iface Try.underlying61 rfl rfl) ?_
          refine SO.v rfl (opv_assign rfl) ?_
          refine SO.v rfl (opv_assign rfl) ?_
          refine SO.nil ?_
          obtain ⟨hq, rfl⟩ := VM.ret_some V.toVI h
          cases hq
          refine S.b1 ?_
          refine S.drop ?_
          refine S.b1 ?_
          refine S.b1 ?_
          exact S.ret2 Try.func31 rfl rfl rfl (fun w hs hk => hR w _ _ ⟨rfl, rfl⟩ hs hk)
        · replace h := VM.cond_f V.toVI b37 h
          refine S.condF rfl b37 ?_
          refine S.seq ?_
          refine S.region ?_
          refine SO.v rfl (opv_move rfl) ?_
          refine SO.v rfl (opv_not rfl) ?_
          refine SO.v rfl (opv_assign rfl) ?_
          refine SO.nil ?_
          rcases bool_or (!t12) with b38 | b38
          · replace h := VM.cond_t V.toVI b38 h
            refine S.condT rfl b38 ?_
            refine S.seq ?_
            refine S.region ?_
            refine SO.v rfl (opv_iface Try.underlying61 rfl rfl) ?_
            refine SO.v rfl (opv_assign rfl) ?_
            refine SO.v rfl (opv_assign rfl) ?_
            refine SO.nil ?_
            refine S.to (ρ' := [(10, .int .i64 0), (11, errV 61 (some 1))]) ⟨rfl, rfl, trivial⟩ ?_
            obtain ⟨hq, rfl⟩ := VM.ret_some V.toVI h
            cases hq
            refine S.b1 ?_
            refine S.drop ?_
            refine S.b1 ?_
            refine S.b1 ?_
            exact S.ret2 Try.func31 rfl rfl rfl (fun w hs hk => hR w _ _ ⟨rfl, rfl⟩ hs hk)
          · replace h := VM.cond_f V.toVI b38 h
            refine S.condF rfl b38 ?_
            refine S.seq ?_
            refine S.region ?_
            refine SO.v rfl (opv_move rfl) ?_
            refine SO.v rfl (opv_move rfl) ?_
            refine SO.v rfl (opv_fieldAddr Try.underlying24 rfl Try.sizeOf3 rfl rfl) ?_
            refine SO.b1 ?_
            refine SO.load1 rfl Try.isAgg3 rfl rfl ?_
            obtain ⟨t39, s41, ht40, h⟩ := VM.bind_some V.toVI h
            refine SO.b1 ?_
            refine SO.call (pre := [V.rep _]) rfl Try.call20 rfl rfl rfl (untyped_Left.ct V _ _ _ _ ht40) trivial ?_
            rintro _ _ ⟨rfl, rfl⟩
            refine SO.v rfl (opv_gtr rfl rfl) ?_
            refine SO.v rfl (opv_assign rfl) ?_
            refine SO.nil ?_
            refine S.to (ρ' := [(10, .int .i64 0), (11, errV 61 none), (17, .int .i64 t11), (80, .bool (decide (t39 < t11)))]) ⟨rfl, rfl, rfl, rfl, trivial⟩ ?_
            rcases bool_or (decide (t39 < t11)) with b42 | b42
            · replace h := VM.cond_t V.toVI b42 h
              refine S.condT rfl b42 ?_
              refine S.seq ?_
              refine S.region ?_
              refine SO.v rfl (opv_iface Try.underlying61 rfl rfl) ?_
              refine SO.v rfl (opv_assign rfl) ?_
              refine SO.v rfl (opv_assign rfl) ?_
              refine SO.nil ?_
              obtain ⟨hq, rfl⟩ := VM.ret_some V.toVI h
              cases hq
              refine S.b1 ?_
              refine S.drop ?_
              refine S.b1 ?_
              refine S.b1 ?_
              exact S.ret2 Try.func31 rfl rfl rfl (fun w hs hk => hR w _ _ ⟨rfl, rfl⟩ hs hk)
            · replace h := VM.cond_f V.toVI b42 h
              refine S.condF rfl b42 ?_
              refine S.skip ?_
              refine S.inBlock ?_
              refine S.seq ?_
              refine S.region ?_
              refine SO.v rfl (opv_move rfl) ?_
              refine SO.v rfl (opv_assign rfl) ?_
              refine SO.v rfl (opv_assign rfl) ?_
              refine SO.nil ?_
              obtain ⟨hq, rfl⟩ := VM.ret_some V.toVI h
              cases hq
              refine S.b1 ?_
              refine S.drop ?_
              refine S.b1 ?_
              refine S.b1 ?_
              exact S.ret2 Try.func31 rfl rfl rfl (fun w hs hk => hR w _ _ ⟨rfl, rfl⟩ hs hk)
end Go.Proofs
namespace Go.Proofs
open Go.Sl Go.RowKit
/-! 16 padstone/untyped.Retype -/
def untyped_Retype.l2 (t9 : Int) : Nat → Int → VM (Unit)
  | 0, _ => VM.fail
  | k + 1, x18_2 => bif decide (x18_2 ≤ 7) then ((lay_Put.f t9 x18_2 0).bind fun _ => untyped_Retype.l2 t9 k (w64 (x18_2 + 1))) else (VM.ret ())
def untyped_Retype.f (k : Nat) (a1 : Int) (a2 : Int) (a3 : Int) (a4 : Int) : VM ((Int × (Option Int))) :=
  (untyped_may.f k a1 a2 a3 a4).bind fun (t1, t2) => bif t2.isSome then (VM.ret (0, t2)) else ((bif a3 == 2 then ((VM.opt (chk (decide (0 ≤ a4)))).bind fun _ => VM.ret (bshl .i64 1 a4)) else (VM.ret 0)).bind fun j14_1 => (lay_Take.f j14_1 1).bind fun (t8, t9, t10) => bif t10.isSome then (VM.ret (0, t10)) else ((cspace_Cap.f k a1).bind fun t14 => (lay_Field.f t14.Obj 2).bind fun t17 => (lay_Put.f t14.Obj 2 (w64 (t17 + t1))).bind fun _ => (untyped_Retype.l2 t9 k 0).bind fun _ => (lay_Put.f t9 0 a3).bind fun _ => (bif a3 == 1 then ((VM.opt (chk (decide (0 ≤ a4)))).bind fun _ => (lay_Put.f t9 1 (bshl .i64 1 a4)).bind fun _ => VM.ret ()) else (bif a3 == 2 then ((lay_Put.f t9 1 t8).bind fun _ => (lay_Put.f t9 2 a4).bind fun _ => VM.ret ()) else (VM.ret ()))).bind fun _ => (cdt_Link.f a2 a1).bind fun t36 => bif t36.isSome then (VM.ret (0, t36)) else ((cspace_Set.f k a2 (⟨a3, 7, t9, 0, 0, 0⟩ : api_Cap)).bind fun t40 => VM.ret (t9, t40))))
set_option maxHeartbeats 8000000 in
set_option maxRecDepth 100000 in
theorem untyped_Retype.ct (V : VW Try.prog) (k : Nat) (a1 : Int) (a2 : Int) (a3 : Int) (a4 : Int) (r0 : Int) (r1 : Option Int) (s s' : V.S) (h : VM.run V.toVI (untyped_Retype.f k a1 a2 a3 a4) s = some ((r0, r1), s')) :
    Ct Try.prog 16 [V.val, .int .i64 a1, .int .i64 a2, .int .i64 a3, .int .i64 a4] (fun _ => True) [V.rep s] (fun u H' => u = .tuple #[.int .i64 r0, errV 61 r1] ∧ H' = [V.rep s']) := by
  unfold untyped_Retype.f at h
  refine Ct.intro (n := 102) Try.func16 rfl rfl rfl ?_
  intro R w0 F hF hR
  refine S.seq ?_
  refine S.region ?_
  refine SO.v rfl (opv_assign rfl) ?_
  refine SO.v rfl (opv_assign rfl) ?_
  refine SO.nil ?_
  refine S.seq ?_
  refine S.region ?_
  refine SO.v rfl (opv_move rfl) ?_
  refine SO.v rfl (opv_move rfl) ?_
  refine SO.v rfl (opv_move rfl) ?_
  refine SO.v rfl (opv_move rfl) ?_
  refine SO.v rfl (opv_move rfl) ?_
  obtain ⟨⟨t1, t2⟩, s4, ht3, h⟩ := VM.bind_some V.toVI h
  refine SO.call (pre := [V.rep _]) rfl Try.call31 rfl rfl rfl (untyped_may.ct V _ _ _ _ _ _ _ _ _ ht3) trivial ?_
  rintro _ _ ⟨rfl, rfl⟩
  refine SO.v rfl (opv_move rfl) ?_
  refine SO.v rfl (opv_extract rfl rfl) ?_
  refine SO.v rfl (opv_extract rfl rfl) ?_
  refine SO.v rfl (opv_assign rfl) ?_
  refine SO.v rfl (opv_assign rfl) ?_
  refine SO.nil ?_
  refine S.to (ρ' := [(0, V.val), (1, .int .i64 a1), (2, .int .i64 a2), (3, .int .i64 a3), (4, .int .i64 a4), (10, .int .i64 0), (11, errV 61 none), (12, .int .i64 t1), (13, errV 61 t2)]) ⟨rfl, rfl, rfl, rfl, rfl, rfl, rfl, rfl, rfl, trivial⟩ ?_
  refine S.seq ?_
  refine S.seq ?_
  refine S.region ?_
  refine SO.v rfl (opv_move rfl) ?_
  refine SO.v rfl (opv_neqN (e := t2) Try.underlying28 rfl) ?_
  refine SO.nil ?_
  rcases bool_or t2.isSome with b5 | b5
  · replace h := VM.cond_t V.toVI b5 h
    refine S.condT rfl b5 ?_
    refine S.seq ?_
    refine S.region ?_
    refine SO.v rfl (opv_move rfl) ?_
    refine SO.v rfl (opv_assign rfl) ?_
    refine SO.v rfl (opv_assign rfl) ?_
    refine SO.nil ?_
    refine S.to (ρ' := [(10, .int .i64 0), (11, errV 61 t2)]) ⟨rfl, rfl, trivial⟩ ?_
    obtain ⟨hq, rfl⟩ := VM.ret_some V.toVI h
    cases hq
    refine S.b1 ?_
    refine S.b1 ?_
    exact S.ret2 Try.func16 rfl rfl rfl (fun w hs hk => hR w _ _ ⟨rfl, rfl⟩ hs hk)
  · replace h := VM.cond_f V.toVI b5 h
    refine S.condF rfl b5 ?_
    refine S.skip ?_
    refine S.seq ?_
    refine S.region ?_
    refine SO.v rfl (opv_assign rfl) ?_
    refine SO.nil ?_
    refine S.seq ?_
    refine S.seq ?_
    refine S.region ?_
    refine SO.v rfl (opv_move rfl) ?_
    refine SO.v rfl (opv_eql rfl rfl) ?_
    refine SO.nil ?_
    obtain ⟨j14_1, s_1, hC1, hJ1⟩ := VM.bind_some V.toVI h
    clear h
    refine S.cutP (G := Unit) (fun _ => True) (fun _ => [(0, V.val), (1, .int .i64 a1), (2, .int .i64 a2), (3, .int .i64 a3), (4, .int .i64 a4), (10, .int .i64 0), (11, errV 61 none), (12, .int .i64 t1), (14, .int .i64 j14_1)]) (fun _ => [V.rep s_1, F]) (fun hk1 => ?_) ?_
    · replace h := hC1
      rcases bool_or (a3 == 2) with b6 | b6
      · replace h := VM.cond_t V.toVI b6 h
        refine S.condT rfl b6 ?_
        refine S.region ?_
        refine SO.v rfl (opv_move rfl) ?_
        obtain ⟨_, hc7, h⟩ := VM.opt_some V.toVI h
        refine SO.v rfl (opv_shl rfl rfl (of_decide_eq_true (chk_some hc7))) ?_
        refine SO.v rfl (opv_assign rfl) ?_
        refine SO.nil ?_
        refine S.to (ρ' := [(0, V.val), (1, .int .i64 a1), (2, .int .i64 a2), (3, .int .i64 a3), (4, .int .i64 a4), (10, .int .i64 0), (11, errV 61 none), (12, .int .i64 t1), (14, .int .i64 (bshl .i64 1 a4))]) ⟨rfl, rfl, rfl, rfl, rfl, rfl, rfl, rfl, rfl, trivial⟩ ?_
        obtain ⟨hq, rfl⟩ := VM.ret_some V.toVI h
        cases hq
        refine S.b1 ?_
        refine S.b1 ?_
        refine S.to ?_ (hk1 () trivial)
        exact ⟨rfl, rfl, rfl, rfl, rfl, rfl, rfl, rfl, rfl, trivial⟩
      · replace h := VM.cond_f V.toVI b6 h
        refine S.condF rfl b6 ?_
        refine S.skip ?_
        obtain ⟨hq, rfl⟩ := VM.ret_some V.toVI h
        cases hq
        refine S.b1 ?_
        refine S.b1 ?_
        refine S.to ?_ (hk1 () trivial)
        exact ⟨rfl, rfl, rfl, rfl, rfl, rfl, rfl, rfl, rfl, trivial⟩
    rintro _ -
    replace h := hJ1
    refine S.seq ?_
    refine S.region ?_
    refine SO.v rfl (opv_move rfl) ?_
    refine SO.v rfl (opv_move rfl) ?_
    obtain ⟨⟨t8, t9, t10⟩, s12, ht11, h⟩ := VM.bind_some V.toVI h
    refine SO.call (pre := [V.rep _]) rfl Try.call32 rfl rfl rfl (lay_Take.ct V _ _ _ _ _ _ _ ht11) trivial ?_
    rintro _ _ ⟨rfl, rfl⟩
    refine SO.v rfl (opv_move rfl) ?_
    refine SO.v rfl (opv_extract rfl rfl) ?_
    refine SO.v rfl (opv_extract rfl rfl) ?_
    refine SO.v rfl (opv_extract rfl rfl) ?_
    refine SO.v rfl (opv_assign rfl) ?_
    refine SO.v rfl (opv_assign rfl) ?_
    refine SO.v rfl (opv_assign rfl) ?_
    refine SO.nil ?_
    refine S.to (ρ' := [(0, V.val), (1, .int .i64 a1), (2, .int .i64 a2), (3, .int .i64 a3), (4, .int .i64 a4), (10, .int .i64 0), (11, errV 61 none), (12, .int .i64 t1), (15, .int .i64 t8), (16, .int .i64 t9), (13, errV 61 t10)]) ⟨rfl, rfl, rfl, rfl, rfl, rfl, rfl, rfl, rfl, rfl, rfl, trivial⟩ ?_
    refine S.seq ?_
    refine S.seq ?_
    refine S.region ?_
    refine SO.v rfl (opv_move rfl) ?_
    refine SO.v rfl (opv_neqN (e := t10) Try.underlying28 rfl) ?_
    refine SO.nil ?_
    rcases bool_or t10.isSome with b13 | b13
    · replace h := VM.cond_t V.toVI b13 h
      refine S.condT rfl b13 ?_
      refine S.seq ?_
      refine S.region ?_
      refine SO.v rfl (opv_move rfl) ?_
      refine SO.v rfl (opv_assign rfl) ?_
      refine SO.v rfl (opv_assign rfl) ?_
      refine SO.nil ?_
      refine S.to (ρ' := [(10, .int .i64 0), (11, errV 61 t10)]) ⟨rfl, rfl, trivial⟩ ?_
      obtain ⟨hq, rfl⟩ := VM.ret_some V.toVI h
      cases hq
      refine S.b1 ?_
      refine S.b1 ?_
      exact S.ret2 Try.func16 rfl rfl rfl (fun w hs hk => hR w _ _ ⟨rfl, rfl⟩ hs hk)
    · replace h := VM.cond_f V.toVI b13 h
      refine S.condF rfl b13 ?_
      refine S.skip ?_
      refine S.seq ?_
      refine S.region ?_
      refine SO.v rfl (opv_move rfl) ?_
      refine SO.v rfl (opv_move rfl) ?_
      obtain ⟨t14, s16, ht15, h⟩ := VM.bind_some V.toVI h
      refine SO.call (pre := [V.rep _]) rfl Try.call22 rfl rfl rfl (cspace_Cap.ct V _ _ _ _ _ ht15) trivial ?_
      rintro _ _ ⟨rfl, rfl⟩
      refine SO.v rfl (opv_field Try.underlying24 rfl Try.isAgg3 rfl rfl) ?_
      refine SO.v rfl (opv_assign rfl) ?_
      refine SO.nil ?_
      refine S.to (ρ' := [(0, V.val), (1, .int .i64 a1), (2, .int .i64 a2), (3, .int .i64 a3), (4, .int .i64 a4), (10, .int .i64 0), (11, errV 61 none), (12, .int .i64 t1), (15, .int .i64 t8), (16, .int .i64 t9), (17, .int .i64 t14.Obj)]) ⟨rfl, rfl, rfl, rfl, rfl, rfl, rfl, rfl, rfl, rfl, rfl, trivial⟩ ?_
      refine S.seq ?_
      refine S.region ?_
      refine SO.v rfl (opv_move rfl) ?_
      refine SO.v rfl (opv_move rfl) ?_
      refine SO.v rfl (opv_move rfl) ?_
      refine SO.v rfl (opv_move rfl) ?_
      obtain ⟨t17, s19, ht18, h⟩ := VM.bind_some V.toVI h
      refine SO.call (pre := [V.rep _]) rfl Try.call24 rfl rfl rfl (lay_Field.ct V _ _ _ _ _ ht18) trivial ?_
      rintro _ _ ⟨rfl, rfl⟩
      refine SO.v rfl (opv_move rfl) ?_
      refine SO.v rfl (opv_add rfl rfl) ?_
      obtain ⟨_, s21, ht20, h⟩ := VM.bind_some V.toVI h
      refine SO.call (pre := [V.rep _]) rfl Try.call33 rfl rfl rfl (lay_Put.ct V _ _ _ _ _ ht20) trivial ?_
      rintro _ _ ⟨rfl, rfl⟩
      refine SO.nil ?_
      refine S.to (ρ' := [(0, V.val), (1, .int .i64 a1), (2, .int .i64 a2), (3, .int .i64 a3), (4, .int .i64 a4), (10, .int .i64 0), (11, errV 61 none), (15, .int .i64 t8), (16, .int .i64 t9)]) ⟨rfl, rfl, rfl, rfl, rfl, rfl, rfl, rfl, rfl, trivial⟩ ?_
      refine S.seq ?_
      refine S.seq ?_
      refine S.region ?_
      refine SO.v rfl (opv_assign rfl) ?_
      refine SO.nil ?_
      obtain ⟨_, so_2, hl2, h⟩ := VM.bind_some V.toVI h
      refine S.b1 ?_
      refine S.b1 ?_
      refine S.to (ρ' := [(18, .int .i64 0), (0, V.val), (1, .int .i64 a1), (2, .int .i64 a2), (3, .int .i64 a3), (4, .int .i64 a4), (10, .int .i64 0), (11, errV 61 none), (15, .int .i64 t8), (16, .int .i64 t9)]) ⟨rfl, rfl, rfl, rfl, rfl, rfl, rfl, rfl, rfl, rfl, trivial⟩ ?_
      refine S.forloop (X := (Int × V.S) × Unit) (O := (Unit) × V.S) (fun m x => VM.run V.toVI (untyped_Retype.l2 t9 m x.1.1) x.1.2) (fun x => match x with | ((x18_2, sx_2), _) => [(18, .int .i64 x18_2), (0, V.val), (1, .int .i64 a1), (2, .int .i64 a2), (3, .int .i64 a3), (4, .int .i64 a4), (10, .int .i64 0), (11, errV 61 none), (15, .int .i64 t8), (16, .int .i64 t9)]) (fun x => match x with | ((x18_2, sx_2), _) => [V.rep sx_2, F]) (fun Sk oo => match oo with | (_, so_2) => ∀ _ : Unit, Sk [(0, V.val), (1, .int .i64 a1), (2, .int .i64 a2), (3, .int .i64 a3), (4, .int .i64 a4), (10, .int .i64 0), (11, errV 61 none), (15, .int .i64 t8), (16, .int .i64 t9)] [V.rep so_2, F]) (fun _ => rfl) ?_ (m := k) (x := ((0, s21), ())) hl2 ?_
      · clear h hl2
        intro k x o_2 h hK2 ih2
        obtain ⟨⟨x18_2, sx_2⟩, _⟩ := x
        obtain ⟨o_2, so_2_⟩ := o_2
        replace h : VM.run V.toVI (untyped_Retype.l2 t9 (k + 1) x18_2) sx_2 = some (o_2, so_2_) := h
        first | rw [untyped_Retype.l2] at h | unfold untyped_Retype.l2 at h
        refine S.seq ?_
        refine S.seq ?_
        refine S.region ?_
        refine SO.v rfl (opv_move rfl) ?_
        refine SO.v rfl (opv_leq rfl rfl) ?_
        refine SO.nil ?_
        rcases bool_or (decide (x18_2 ≤ 7)) with b22 | b22
        · replace h := VM.cond_t V.toVI b22 h
          refine S.condT rfl b22 ?_
          refine S.skip ?_
          refine S.seq ?_
          refine S.block ?_
          refine S.region ?_
          refine SO.v rfl (opv_move rfl) ?_
          refine SO.v rfl (opv_move rfl) ?_
          refine SO.v rfl (opv_move rfl) ?_
          obtain ⟨_, s24, ht23, h⟩ := VM.bind_some V.toVI h
          refine SO.call (pre := [V.rep _]) rfl Try.call33 rfl rfl rfl (lay_Put.ct V _ _ _ _ _ ht23) trivial ?_
          rintro _ _ ⟨rfl, rfl⟩
          refine SO.nil ?_
          refine S.inBlock ?_
          refine S.region ?_
          refine SO.v rfl (opv_move rfl) ?_
          refine SO.v rfl (opv_add rfl rfl) ?_
          refine SO.v rfl (opv_assign rfl) ?_
          refine SO.nil ?_
          refine S.to (ρ' := [(18, .int .i64 (w64 (x18_2 + 1))), (0, V.val), (1, .int .i64 a1), (2, .int .i64 a2), (3, .int .i64 a3), (4, .int .i64 a4), (10, .int .i64 0), (11, errV 61 none), (15, .int .i64 t8), (16, .int .i64 t9)]) ⟨rfl, rfl, rfl, rfl, rfl, rfl, rfl, rfl, rfl, rfl, trivial⟩ ?_
          refine S.b1 ?_
          refine S.b1 ?_
          refine S.to ?_ (ih2 ((w64 (x18_2 + 1), s24), ()) h)
          exact ⟨rfl, rfl, rfl, rfl, rfl, rfl, rfl, rfl, rfl, rfl, trivial⟩
        · replace h := VM.cond_f V.toVI b22 h
          refine S.condF rfl b22 ?_
          refine S.exit rfl ?_
          obtain ⟨hq, rfl⟩ := VM.ret_some V.toVI h
          cases hq
          refine S.b1 ?_
          refine S.b1 ?_
          refine S.to ?_ (hK2 ())
          exact ⟨rfl, rfl, rfl, rfl, rfl, rfl, rfl, rfl, rfl, trivial⟩
      rintro _
      refine S.seq ?_
      refine S.region ?_
      refine SO.v rfl (opv_move rfl) ?_
      refine SO.v rfl (opv_move rfl) ?_
      refine SO.v rfl (opv_move rfl) ?_
      obtain ⟨_, s26, ht25, h⟩ := VM.bind_some V.toVI h
      refine SO.call (pre := [V.rep _]) rfl Try.call33 rfl rfl rfl (lay_Put.ct V _ _ _ _ _ ht25) trivial ?_
      rintro _ _ ⟨rfl, rfl⟩
      refine SO.nil ?_
      refine S.seq ?_
      refine S.seq ?_
      refine S.region ?_
      refine SO.v rfl (opv_move rfl) ?_
      refine SO.nil ?_
      obtain ⟨_, s_3, hC3, hJ3⟩ := VM.bind_some V.toVI h
      clear h
      refine S.cutP (G := Unit) (fun _ => True) (fun _ => [(0, V.val), (1, .int .i64 a1), (2, .int .i64 a2), (3, .int .i64 a3), (10, .int .i64 0), (11, errV 61 none), (16, .int .i64 t9)]) (fun _ => [V.rep s_3, F]) (fun hk3 => ?_) ?_
      · replace h := hC3
        refine S.block ?_
        refine S.seq ?_
        refine S.region ?_
        refine SO.v rfl (opv_eql rfl rfl) ?_
        refine SO.v rfl (opv_assign rfl) ?_
        refine SO.nil ?_
        rcases bool_or (a3 == 1) with b27 | b27
        · replace h := VM.cond_t V.toVI b27 h
          refine S.condT rfl b27 ?_
          refine S.region ?_
          refine SO.v rfl (opv_move rfl) ?_
          refine SO.v rfl (opv_move rfl) ?_
          refine SO.v rfl (opv_move rfl) ?_
          obtain ⟨_, hc28, h⟩ := VM.opt_some V.toVI h
          refine SO.v rfl (opv_shl rfl rfl (of_decide_eq_true (chk_some hc28))) ?_
          obtain ⟨_, s30, ht29, h⟩ := VM.bind_some V.toVI h
          refine SO.call (pre := [V.rep _]) rfl Try.call33 rfl rfl rfl (lay_Put.ct V _ _ _ _ _ ht29) trivial ?_
          rintro _ _ ⟨rfl, rfl⟩
          refine SO.nil ?_
          refine S.to (ρ' := [(0, V.val), (1, .int .i64 a1), (2, .int .i64 a2), (3, .int .i64 a3), (10, .int .i64 0), (11, errV 61 none), (16, .int .i64 t9)]) ⟨rfl, rfl, rfl, rfl, rfl, rfl, rfl, trivial⟩ ?_
          refine S.inBlock ?_
          obtain ⟨hq, rfl⟩ := VM.ret_some V.toVI h
          cases hq
          refine S.b1 ?_
          refine S.b1 ?_
          refine S.to ?_ (hk3 () trivial)
          exact ⟨rfl, rfl, rfl, rfl, rfl, rfl, rfl, trivial⟩
        · replace h := VM.cond_f V.toVI b27 h
          refine S.condF rfl b27 ?_
          refine S.seq ?_
          refine S.region ?_
          refine SO.v rfl (opv_eql rfl rfl) ?_
          refine SO.v rfl (opv_assign rfl) ?_
          refine SO.nil ?_
          refine S.to (ρ' := [(0, V.val), (1, .int .i64 a1), (2, .int .i64 a2), (3, .int .i64 a3), (4, .int .i64 a4), (10, .int .i64 0), (11, errV 61 none), (15, .int .i64 t8), (16, .int .i64 t9), (78, .bool (a3 == 2))]) ⟨rfl, rfl, rfl, rfl, rfl, rfl, rfl, rfl, rfl, rfl, trivial⟩ ?_
          rcases bool_or (a3 == 2) with b31 | b31
          · replace h := VM.cond_t V.toVI b31 h
            refine S.condT rfl b31 ?_
            refine S.seq ?_
            refine S.region ?_
            refine SO.v rfl (opv_move rfl) ?_
            refine SO.v rfl (opv_move rfl) ?_
            refine SO.v rfl (opv_move rfl) ?_
            obtain ⟨_, s33, ht32, h⟩ := VM.bind_some V.toVI h
            refine SO.call (pre := [V.rep _]) rfl Try.call33 rfl rfl rfl (lay_Put.ct V _ _ _ _ _ ht32) trivial ?_
            rintro _ _ ⟨rfl, rfl⟩
            refine SO.nil ?_
            refine S.region ?_
            refine SO.v rfl (opv_move rfl) ?_
            refine SO.v rfl (opv_move rfl) ?_
            refine SO.v rfl (opv_move rfl) ?_
            obtain ⟨_, s35, ht34, h⟩ := VM.bind_some V.toVI h
            refine SO.call (pre := [V.rep _]) rfl Try.call33 rfl rfl rfl (lay_Put.ct V _ _ _ _ _ ht34) trivial ?_
            rintro _ _ ⟨rfl, rfl⟩
            refine SO.nil ?_
            refine S.to (ρ' := [(0, V.val), (1, .int .i64 a1), (2, .int .i64 a2), (3, .int .i64 a3), (10, .int .i64 0), (11, errV 61 none), (16, .int .i64 t9)]) ⟨rfl, rfl, rfl, rfl, rfl, rfl, rfl, trivial⟩ ?_
            refine S.inBlock ?_
            obtain ⟨hq, rfl⟩ := VM.ret_some V.toVI h
            cases hq
            refine S.b1 ?_
            refine S.b1 ?_
            refine S.to ?_ (hk3 () trivial)
            exact ⟨rfl, rfl, rfl, rfl, rfl, rfl, rfl, trivial⟩
          · replace h := VM.cond_f V.toVI b31 h
            refine S.condF rfl b31 ?_
            refine S.skip ?_
            refine S.inBlock ?_
            obtain ⟨hq, rfl⟩ := VM.ret_some V.toVI h
            cases hq
            refine S.b1 ?_
            refine S.b1 ?_
            refine S.to ?_ (hk3 () trivial)
            exact ⟨rfl, rfl, rfl, rfl, rfl, rfl, rfl, trivial⟩
      rintro _ -
      replace h := hJ3
      refine S.seq ?_
      refine S.seq ?_
      refine S.region ?_
      refine SO.v rfl (opv_move rfl) ?_
      refine SO.v rfl (opv_move rfl) ?_
      refine SO.v rfl (opv_move rfl) ?_
      obtain ⟨t36, s38, ht37, h⟩ := VM.bind_some V.toVI h
      refine SO.call (pre := [V.rep _]) rfl Try.call34 rfl rfl rfl (cdt_Link.ct V _ _ _ _ _ ht37) trivial ?_
      rintro _ _ ⟨rfl, rfl⟩
      refine SO.v rfl (opv_assign rfl) ?_
      refine SO.nil ?_
      refine S.seq ?_
      refine S.region ?_
      refine SO.v rfl (opv_move rfl) ?_
      refine SO.v rfl (opv_neqN (e := t36) Try.underlying28 rfl) ?_
      refine SO.nil ?_
      rcases bool_or t36.isSome with b39 | b39
      · replace h := VM.cond_t V.toVI b39 h
        refine S.condT rfl b39 ?_
        refine S.seq ?_
        refine S.region ?_
        refine SO.v rfl (opv_move rfl) ?_
        refine SO.v rfl (opv_assign rfl) ?_
        refine SO.v rfl (opv_assign rfl) ?_
        refine SO.nil ?_
        refine S.to (ρ' := [(10, .int .i64 0), (11, errV 61 t36)]) ⟨rfl, rfl, trivial⟩ ?_
        obtain ⟨hq, rfl⟩ := VM.ret_some V.toVI h
        cases hq
        refine S.b1 ?_
        refine S.b1 ?_
        exact S.ret2 Try.func16 rfl rfl rfl (fun w hs hk => hR w _ _ ⟨rfl, rfl⟩ hs hk)
      · replace h := VM.cond_f V.toVI b39 h
        refine S.condF rfl b39 ?_
        refine S.skip ?_
        refine S.seq ?_
        refine S.region ?_
        refine SO.v rfl (opv_move rfl) ?_
        refine SO.v rfl (opv_move rfl) ?_
        refine SO.v rfl (opv_move rfl) ?_
        refine SO.v rfl (opv_move rfl) ?_
        refine SO.v rfl (opv_move rfl) ?_
        refine SO.v rfl (opv_build (v := .agg #[.int .i64 a3, .int .i64 7, .int .i64 t9, .int .i64 0, .int .i64 0, .int .i64 0]) rfl (by intro w; kernel_rfl)) ?_
        obtain ⟨t40, s42, ht41, h⟩ := VM.bind_some V.toVI h
        have ct43 := cspace_Set.ct V _ _ _ _ _ _ ht41
        dsimp only at ct43
        refine SO.call (pre := [V.rep _]) rfl Try.call35 rfl rfl rfl ct43 trivial ?_
        rintro _ _ ⟨rfl, rfl⟩
        refine SO.v rfl (opv_assign rfl) ?_
        refine SO.v rfl (opv_assign rfl) ?_
        refine SO.nil ?_
        refine S.to (ρ' := [(10, .int .i64 t9), (11, errV 61 t40)]) ⟨rfl, rfl, trivial⟩ ?_
        obtain ⟨hq, rfl⟩ := VM.ret_some V.toVI h
        cases hq
        refine S.b1 ?_
        refine S.b1 ?_
        exact S.ret2 Try.func16 rfl rfl rfl (fun w hs hk => hR w _ _ ⟨rfl, rfl⟩ hs hk)
end Go.Proofs
namespace Go.Proofs
open Go.Sl Go.RowKit
/-! 12 padstone/padstonelaw13.up -/
def law13_up.f (k : Nat) : Option (Bool) :=
  (ref10_Boot.f k 0).bind fun t1 => (at_ t1.Objs 2).bind fun x5 => (ref10_State_Words.f k ({ t1 with Objs := t1.Objs.set (2 : Int).toNat ({ x5 with Size := 8 } : ref10_Obj) } : ref10_State)).bind fun t21 => (VM.run plainI (untyped_Retype.f k 8 20 3 0) t21).bind fun ((t25, t26), s28) => (untyped_Cost.f 2 3).bind fun (t30, t31) => (untyped_Cost.f 8 0).bind fun (t33, t34) => (bif (t25 == 8) && t26.isNone then ((VM.run plainI (untyped_Left.f 2) s28).bind fun (t42, s44) => some (t42 == 4, s44)) else (some (false, s28))).bind fun (c38, w40) => some (((c38 && (t30 == 8)) && t31) && (!t34))
set_option maxHeartbeats 8000000 in
set_option maxRecDepth 100000 in
theorem law13_up.ct (k : Nat) (r0 : Bool) (h : law13_up.f k  = some r0) :
    Ct Try.prog 12 [] (fun _ => True) [] (fun u H' => u = .bool r0 ∧ H' = []) := by
  unfold law13_up.f at h
  refine Ct.intro (n := 55) Try.func12 rfl rfl rfl ?_
  intro R w0 F hF hR
  refine S.seq ?_
  refine S.region ?_
  refine SO.v rfl (opv_assign rfl) ?_
  refine SO.nil ?_
  refine S.seq ?_
  refine S.region ?_
  obtain ⟨t1, ht2, h⟩ := opt_bind h
  refine SO.call (pre := []) rfl Try.call10 rfl rfl rfl (ref10_Boot.ct _ _ _ ht2) trivial ?_
  rintro _ _ ⟨b3, u4_Slots, u4_Objs, rfl, rfl⟩
  refine SO.v rfl (opv_assign rfl) ?_
  refine SO.nil ?_
  refine S.seq ?_
  refine S.region ?_
  refine SO.v rfl (opv_move rfl) ?_
  refine SO.v rfl (opv_nilCheck rfl) ?_
  refine SO.v rfl (opv_fieldAddr Try.underlying42 rfl Try.sizeOf40 rfl rfl) ?_
  refine SO.load1 rfl Try.isAgg40 rfl rfl ?_
  refine SO.b2 ?_
  refine SO.openR fun raws10 A11 hrel12 hR13 => ?_
  obtain ⟨x5, hx6, h⟩ := opt_bind h
  obtain ⟨r7, hr8, hc9⟩ := relR.at hrel12 hx6
  refine SO.v rfl (opv_idx Try.underlying40 Try.sizeOf38 hR13 rfl rfl hr8) ?_
  refine SO.v rfl (opv_fieldIdx Try.underlying38 rfl Try.sizeOf3 hR13 hr8 rfl rfl) ?_
  refine SO.storeO1 (j := 1) (q := .val (.int .i64 8)) (z' := ({ x5 with Size := 8 } : ref10_Obj)) Try.sizeOf3 hrel12 hx6 rfl rfl rfl rfl rfl rfl rfl (fun raws14 hrel15 hR16 => ?_)
  refine SO.nil ?_
  refine S.to (ρ' := [(0, .bool false), (1, bp b3 0)]) ⟨rfl, rfl, trivial⟩ ?_
  refine S.seq ?_
  refine S.region ?_
  refine SO.v rfl (opv_move rfl) ?_
  obtain ⟨t21, ht22, h⟩ := opt_bind h
  refine SO.b2 ?_
  refine SO.openR fun raws17 A18 hrel19 hR20 => ?_
  refine SO.b1 ?_
  refine SO.b1 ?_
  refine SO.b2 ?_
  have ct49 := ref10_State_Words.ct _ b3 u4_Slots u4_Objs raws17 A18 raws14 A11 _ _ ht22
  dsimp only at ct49
  refine SO.call (pre := [Box _ _, OwnO _ _ _ _ _ _, OwnO _ _ _ _ _ _]) rfl Try.call11 rfl rfl rfl ct49 trivial ?_
  rintro v23 _ ⟨_, rfl, rfl⟩
  refine SO.rd fun hr24 => ?_
  refine SO.v rfl (opv_assign rfl) ?_
  refine SO.nil ?_
  refine S.seq ?_
  refine S.region ?_
  refine SO.v rfl (opv_move rfl) ?_
  refine SO.v rfl (opv_iface Try.underlying26 rfl rfl) ?_
  obtain ⟨⟨⟨t25, t26⟩, s28⟩, ht27, h⟩ := opt_bind h
  refine SO.call (pre := [(plainV v23).rep _]) rfl Try.call16 rfl rfl rfl (untyped_Retype.ct (plainV v23) _ _ _ _ _ _ _ _ _ ht27) trivial ?_
  rintro _ _ ⟨rfl, rfl⟩
  refine headEq (plainV_rep _ _) ?_
  refine SO.rd fun hr29 => ?_
  refine SO.v rfl (opv_move rfl) ?_
  refine SO.v rfl (opv_extract rfl rfl) ?_
  refine SO.v rfl (opv_extract rfl rfl) ?_
  refine SO.v rfl (opv_assign rfl) ?_
  refine SO.v rfl (opv_assign rfl) ?_
  refine SO.nil ?_
  refine S.to (ρ' := [(0, .bool false), (2, v23), (3, .int .i64 t25), (4, errV 61 t26)]) ⟨rfl, rfl, rfl, rfl, trivial⟩ ?_
  refine S.seq ?_
  refine S.region ?_
  obtain ⟨⟨t30, t31⟩, ht32, h⟩ := opt_bind h
  refine SO.call (pre := []) rfl Try.call13 rfl rfl rfl (untyped_Cost.ct _ _ _ _ ht32) trivial ?_
  rintro _ _ ⟨rfl, rfl⟩
  refine SO.v rfl (opv_move rfl) ?_
  refine SO.v rfl (opv_extract rfl rfl) ?_
  refine SO.v rfl (opv_extract rfl rfl) ?_
  refine SO.v rfl (opv_assign rfl) ?_
  refine SO.v rfl (opv_assign rfl) ?_
  refine SO.nil ?_
  refine S.seq ?_
  refine S.region ?_
  obtain ⟨⟨t33, t34⟩, ht35, h⟩ := opt_bind h
  refine SO.call (pre := []) rfl Try.call13 rfl rfl rfl (untyped_Cost.ct _ _ _ _ ht35) trivial ?_
  rintro _ _ ⟨rfl, rfl⟩
  refine SO.v rfl (opv_move rfl) ?_
  refine SO.v rfl (opv_extract rfl rfl) ?_
  refine SO.v rfl (opv_extract rfl rfl) ?_
  refine SO.v rfl (opv_assign rfl) ?_
  refine SO.v rfl (opv_assign rfl) ?_
  refine SO.nil ?_
  refine S.to (ρ' := [(0, .bool false), (2, v23), (3, .int .i64 t25), (4, errV 61 t26), (5, .int .i64 t30), (6, .bool t31), (8, .bool t34)]) ⟨rfl, rfl, rfl, rfl, rfl, rfl, rfl, trivial⟩ ?_
  refine S.seq ?_
  refine S.region ?_
  refine SO.v rfl (opv_move rfl) ?_
  refine SO.v rfl (opv_eql rfl rfl) ?_
  refine SO.v rfl (opv_move rfl) ?_
  refine SO.cut 3 37 (.bool ((t25 == 8) && t26.isNone)) [Own 72 (ekI .u64) v23 s28, Box b3 [u4_Slots, u4_Objs, .int .i64 t1.NS, .int .i64 t1.NO], OwnO 71 kr_ref10_Slot u4_Slots raws17 A18 t1.Slots, OwnO 38 kr_ref10_Obj u4_Objs raws14 A11 (t1.Objs.set (2 : Int).toNat ({ x5 with Size := 8 } : ref10_Obj)), F] (fun l2 hk2 => ?_) ?_
  · rcases bool_or (t25 == 8) with b36 | b36
    · refine SO.takeT rfl rfl rfl b36 ?_
      refine SO.v rfl (opv_move rfl) ?_
      refine SO.takeT rfl rfl rfl b36 ?_
      refine SO.v rfl (opv_eqlN (e := t26) Try.underlying28 rfl) ?_
      refine SO.v rfl (opv_pick_t' b36 rfl rfl) ?_
      refine SO.b4 ?_
      refine SO.b4 ?_
      refine SO.b4 ?_
      refine SO.b4 ?_
      refine SO.b4 ?_
      exact hk2.fitc (m := 3) rfl (and_t b36) rfl
    · refine SO.passF rfl rfl rfl b36 rfl rfl ?_
      refine SO.passF rfl rfl rfl b36 rfl rfl ?_
      refine SO.v rfl (opv_pick_f' b36 rfl rfl) ?_
      refine SO.b4 ?_
      refine SO.b4 ?_
      refine SO.b4 ?_
      refine SO.b4 ?_
      refine SO.b4 ?_
      exact hk2.fitc (m := 3) rfl (and_f b36) rfl
  refine SO.v rfl (opv_move rfl) ?_
  obtain ⟨⟨c38, w40⟩, hc39, hgk⟩ := opt_bind h
  refine SO.cut 5 43 (.bool c38) [Own 72 (ekI .u64) v23 w40, Box b3 [u4_Slots, u4_Objs, .int .i64 t1.NS, .int .i64 t1.NO], OwnO 71 kr_ref10_Slot u4_Slots raws17 A18 t1.Slots, OwnO 38 kr_ref10_Obj u4_Objs raws14 A11 (t1.Objs.set (2 : Int).toNat ({ x5 with Size := 8 } : ref10_Obj)), F] (fun l2 hk2 => ?_) ?_
  · clear hgk
    replace h := hc39
    rcases bool_or ((t25 == 8) && t26.isNone) with b37 | b37
    · replace h := cond_t b37 h
      refine SO.takeT rfl rfl rfl b37 ?_
      refine SO.v rfl (opv_move rfl) ?_
      refine SO.takeT rfl rfl rfl b37 ?_
      refine SO.v rfl (opv_iface Try.underlying26 rfl rfl) ?_
      refine SO.takeT rfl rfl rfl b37 ?_
      obtain ⟨⟨t42, s44⟩, ht43, h⟩ := opt_bind h
      refine SO.call (pre := [(plainV v23).rep _]) rfl Try.call20 rfl rfl rfl (untyped_Left.ct (plainV v23) _ _ _ _ ht43) trivial ?_
      rintro _ _ ⟨rfl, rfl⟩
      refine headEq (plainV_rep _ _) ?_
      refine SO.rd fun hr45 => ?_
      refine SO.takeT rfl rfl rfl b37 ?_
      refine SO.v rfl (opv_eql rfl rfl) ?_
      cases h
      refine SO.v rfl (opv_pick_t' b37 rfl rfl) ?_
      refine SO.b4 ?_
      refine SO.b4 ?_
      refine SO.b4 ?_
      refine SO.b4 ?_
      refine SO.b4 ?_
      exact hk2.fitc (m := 5) rfl (rfl) rfl
    · replace h := cond_f b37 h
      refine SO.passF rfl rfl rfl b37 rfl rfl ?_
      refine SO.passF rfl rfl rfl b37 rfl rfl ?_
      refine SO.passF rfl rfl rfl b37 rfl rfl ?_
      refine SO.passF rfl rfl rfl b37 rfl rfl ?_
      cases h
      refine SO.v rfl (opv_pick_f' b37 rfl rfl) ?_
      refine SO.b4 ?_
      refine SO.b4 ?_
      refine SO.b4 ?_
      refine SO.b4 ?_
      refine SO.b4 ?_
      exact hk2.fitc (m := 5) rfl (rfl) rfl
  clear hc39
  replace h := hgk
  refine SO.rd fun hr41 => ?_
  refine SO.v rfl (opv_move rfl) ?_
  refine SO.cut 3 47 (.bool (c38 && (t30 == 8))) [Own 72 (ekI .u64) v23 w40, Box b3 [u4_Slots, u4_Objs, .int .i64 t1.NS, .int .i64 t1.NO], OwnO 71 kr_ref10_Slot u4_Slots raws17 A18 t1.Slots, OwnO 38 kr_ref10_Obj u4_Objs raws14 A11 (t1.Objs.set (2 : Int).toNat ({ x5 with Size := 8 } : ref10_Obj)), F] (fun l2 hk2 => ?_) ?_
  · rcases bool_or c38 with b46 | b46
    · refine SO.takeT rfl rfl rfl b46 ?_
      refine SO.v rfl (opv_move rfl) ?_
      refine SO.takeT rfl rfl rfl b46 ?_
      refine SO.v rfl (opv_eql rfl rfl) ?_
      refine SO.v rfl (opv_pick_t' b46 rfl rfl) ?_
      refine SO.b4 ?_
      refine SO.b4 ?_
      refine SO.b4 ?_
      refine SO.b4 ?_
      refine SO.b4 ?_
      exact hk2.fitc (m := 3) rfl (and_t b46) rfl
    · refine SO.passF rfl rfl rfl b46 rfl rfl ?_
      refine SO.passF rfl rfl rfl b46 rfl rfl ?_
      refine SO.v rfl (opv_pick_f' b46 rfl rfl) ?_
      refine SO.b4 ?_
      refine SO.b4 ?_
      refine SO.b4 ?_
      refine SO.b4 ?_
      refine SO.b4 ?_
      exact hk2.fitc (m := 3) rfl (and_f b46) rfl
  refine SO.v rfl (opv_move rfl) ?_
  refine SO.cut 2 50 (.bool ((c38 && (t30 == 8)) && t31)) [Own 72 (ekI .u64) v23 w40, Box b3 [u4_Slots, u4_Objs, .int .i64 t1.NS, .int .i64 t1.NO], OwnO 71 kr_ref10_Slot u4_Slots raws17 A18 t1.Slots, OwnO 38 kr_ref10_Obj u4_Objs raws14 A11 (t1.Objs.set (2 : Int).toNat ({ x5 with Size := 8 } : ref10_Obj)), F] (fun l2 hk2 => ?_) ?_
  · rcases bool_or (c38 && (t30 == 8)) with b47 | b47
    · refine SO.takeT rfl rfl rfl b47 ?_
      refine SO.v rfl (opv_move rfl) ?_
      refine SO.v rfl (opv_pick_t' b47 rfl rfl) ?_
      refine SO.b4 ?_
      refine SO.b4 ?_
      refine SO.b4 ?_
      refine SO.b4 ?_
      refine SO.b4 ?_
      exact hk2.fitc (m := 2) rfl (and_t b47) rfl
    · refine SO.passF rfl rfl rfl b47 rfl rfl ?_
      refine SO.v rfl (opv_pick_f' b47 rfl rfl) ?_
      refine SO.b4 ?_
      refine SO.b4 ?_
      refine SO.b4 ?_
      refine SO.b4 ?_
      refine SO.b4 ?_
      exact hk2.fitc (m := 2) rfl (and_f b47) rfl
  refine SO.v rfl (opv_move rfl) ?_
  refine SO.cut 3 54 (.bool (((c38 && (t30 == 8)) && t31) && (!t34))) [Own 72 (ekI .u64) v23 w40, Box b3 [u4_Slots, u4_Objs, .int .i64 t1.NS, .int .i64 t1.NO], OwnO 71 kr_ref10_Slot u4_Slots raws17 A18 t1.Slots, OwnO 38 kr_ref10_Obj u4_Objs raws14 A11 (t1.Objs.set (2 : Int).toNat ({ x5 with Size := 8 } : ref10_Obj)), F] (fun l2 hk2 => ?_) ?_
  · rcases bool_or ((c38 && (t30 == 8)) && t31) with b48 | b48
    · refine SO.takeT rfl rfl rfl b48 ?_
      refine SO.v rfl (opv_move rfl) ?_
      refine SO.takeT rfl rfl rfl b48 ?_
      refine SO.v rfl (opv_not rfl) ?_
      refine SO.v rfl (opv_pick_t' b48 rfl rfl) ?_
      refine SO.b4 ?_
      refine SO.b4 ?_
      refine SO.b4 ?_
      refine SO.b4 ?_
      refine SO.b4 ?_
      exact hk2.fitc (m := 3) rfl (and_t b48) rfl
    · refine SO.passF rfl rfl rfl b48 rfl rfl ?_
      refine SO.passF rfl rfl rfl b48 rfl rfl ?_
      refine SO.v rfl (opv_pick_f' b48 rfl rfl) ?_
      refine SO.b4 ?_
      refine SO.b4 ?_
      refine SO.b4 ?_
      refine SO.b4 ?_
      refine SO.b4 ?_
      exact hk2.fitc (m := 3) rfl (and_f b48) rfl
  refine SO.v rfl (opv_assign rfl) ?_
  refine SO.nil ?_
  refine S.to (ρ' := [(0, .bool (((c38 && (t30 == 8)) && t31) && (!t34)))]) ⟨rfl, trivial⟩ ?_
  cases h
  refine S.b2 ?_
  refine S.closeR ?_
  refine S.b3 ?_
  refine S.closeR ?_
  refine S.drop ?_
  refine S.drop ?_
  refine S.drop ?_
  refine S.drop ?_
  exact S.ret1 Try.func12 rfl rfl (fun w hs hk => hR w _ _ ⟨rfl, rfl⟩ hs hk)
end Go.Proofs
namespace Go.Proofs
open Go.Sl Go.RowKit
/-! 6 padstone/padstonelaw13.UntypedOnce -/
def law13_UntypedOnce.l1 (a1 : List law13_Deed) : Nat → (Int × Int × Int × (List Int)) → Option (Brk Bool (Int × Int × (List Int)))
  | 0, _ => none
  | k + 1, (x10_1, x9_1, x8_1, qv28_1) => bif decide (x10_1 < (a1.length : Int)) then ((at_ a1 x10_1).bind fun x32 => (law10_Pick.f x32.B 80).bind fun t35 => (VM.run plainI (untyped_Retype.f k 8 (w64 (14 + t35)) x32.Kind x32.Bits) qv28_1).bind fun ((t37, t38), s40) => bif t38.isSome then (law13_UntypedOnce.l1 a1 k (w64 (x10_1 + 1), x9_1, x8_1, s40)) else ((untyped_Cost.f x32.Kind x32.Bits).bind fun (t44, t45) => bif (t37 != x8_1) || (!t45) then (some (Brk.ret false)) else (law13_UntypedOnce.l1 a1 k (w64 (x10_1 + 1), w64 (x9_1 + t44), w64 (x8_1 + 1), s40)))) else (some (Brk.nx (x8_1, x9_1, qv28_1)))
def law13_UntypedOnce.f (k : Nat) (a0 : Int) (a1 : List law13_Deed) : Option (Bool) :=
  (law13_up.f k ).bind fun t1 => bif ((decide (a0 < 0)) || (decide (1000 < a0))) || (decide (60 < (a1.length : Int))) then (some t1) else ((ref10_Boot.f k 1).bind fun t6 => (at_ t6.Objs 3).bind fun x10 => (ref10_State_Words.f k ({ t6 with Objs := t6.Objs.set (3 : Int).toNat ({ x10 with Size := a0 } : ref10_Obj) } : ref10_State)).bind fun t26 => (law13_UntypedOnce.l1 a1 k (0, 0, 9, t26)).bind fun o1 => Brk.go o1 (fun r => some r) (fun (j8_e1, j9_e1, qv28_e1) => (bif t1 && (decide (j9_e1 ≤ a0)) then ((VM.run plainI (untyped_Left.f 3) qv28_e1).bind fun (t56, s58) => some (t56 == (w64 (a0 - j9_e1)), s58)) else (some (false, qv28_e1))).bind fun (c52, w54) => some (c52 && (decide (j8_e1 ≤ 32)))))
set_option maxHeartbeats 8000000 in
set_option maxRecDepth 100000 in
theorem law13_UntypedOnce.ct (k : Nat) (v1 : Value) (a0 : Int) (a1 : List law13_Deed) (r0 : Bool) (h : law13_UntypedOnce.f k a0 a1 = some r0) :
    Ct Try.prog 6 [.int .i64 a0, v1] (fun F => Rd ek_law13_Deed v1 a1 F) [] (fun u H' => u = .bool r0 ∧ H' = []) := by
  unfold law13_UntypedOnce.f at h
  refine Ct.intro (n := 104) Try.func6 rfl rfl rfl ?_
  intro R w0 F hF hR
  have hF1 := hF
  refine S.seq ?_
  refine S.region ?_
  refine SO.v rfl (opv_assign rfl) ?_
  refine SO.nil ?_
  refine S.seq ?_
  refine S.region ?_
  obtain ⟨t1, ht2, h⟩ := opt_bind h
  refine SO.call (pre := []) rfl Try.call12 rfl rfl rfl (law13_up.ct _ _ ht2) trivial ?_
  rintro _ _ ⟨rfl, rfl⟩
  refine SO.v rfl (opv_assign rfl) ?_
  refine SO.nil ?_
  refine S.seq ?_
  refine S.seq ?_
  refine S.region ?_
  refine SO.v rfl (opv_move rfl) ?_
  refine SO.v rfl (opv_lss rfl rfl) ?_
  refine SO.v rfl (opv_move rfl) ?_
  refine SO.cut 3 22 (.bool ((decide (a0 < 0)) || (decide (1000 < a0)))) [F] (fun l2 hk2 => ?_) ?_
  · rcases bool_or (decide (a0 < 0)) with b3 | b3
    · refine SO.passF rfl rfl rfl b3 rfl rfl ?_
      refine SO.passF rfl rfl rfl b3 rfl rfl ?_
      refine SO.v rfl (opv_pick_t' b3 rfl rfl) ?_
      exact hk2.fitc (m := 3) rfl (or_t b3) rfl
    · refine SO.takeT rfl rfl rfl b3 ?_
      refine SO.v rfl (opv_move rfl) ?_
      refine SO.takeT rfl rfl rfl b3 ?_
      refine SO.v rfl (opv_gtr rfl rfl) ?_
      refine SO.v rfl (opv_pick_f' b3 rfl rfl) ?_
      exact hk2.fitc (m := 3) rfl (or_f b3) rfl
  refine SO.v rfl (opv_move rfl) ?_
  refine SO.cut 4 27 (.bool (((decide (a0 < 0)) || (decide (1000 < a0))) || (decide (60 < (a1.length : Int))))) [F] (fun l2 hk2 => ?_) ?_
  · rcases bool_or ((decide (a0 < 0)) || (decide (1000 < a0))) with b4 | b4
    · refine SO.passF rfl rfl rfl b4 rfl rfl ?_
      refine SO.passF rfl rfl rfl b4 rfl rfl ?_
      refine SO.passF rfl rfl rfl b4 rfl rfl ?_
      refine SO.v rfl (opv_pick_t' b4 rfl rfl) ?_
      exact hk2.fitc (m := 4) rfl (or_t b4) rfl
    · refine SO.takeT rfl rfl rfl b4 ?_
      refine SO.v rfl (opv_move rfl) ?_
      refine SO.takeT rfl rfl rfl b4 ?_
      refine SO.v rfl (opv_lenR rfl Try.underlying48 hF1 rfl) ?_
      refine SO.takeT rfl rfl rfl b4 ?_
      refine SO.v rfl (opv_gtr rfl rfl) ?_
      refine SO.v rfl (opv_pick_f' b4 rfl rfl) ?_
      exact hk2.fitc (m := 4) rfl (or_f b4) rfl
  refine SO.nil ?_
  rcases bool_or (((decide (a0 < 0)) || (decide (1000 < a0))) || (decide (60 < (a1.length : Int)))) with b5 | b5
  · replace h := cond_t b5 h
    refine S.condT rfl b5 ?_
    refine S.seq ?_
    refine S.region ?_
    refine SO.v rfl (opv_move rfl) ?_
    refine SO.v rfl (opv_assign rfl) ?_
    refine SO.nil ?_
    refine S.to (ρ' := [(4, .bool t1)]) ⟨rfl, trivial⟩ ?_
    cases h
    exact S.ret1 Try.func6 rfl rfl (fun w hs hk => hR w _ _ ⟨rfl, rfl⟩ hs hk)
  · replace h := cond_f b5 h
    refine S.condF rfl b5 ?_
    refine S.skip ?_
    refine S.seq ?_
    refine S.region ?_
    obtain ⟨t6, ht7, h⟩ := opt_bind h
    refine SO.call (pre := []) rfl Try.call10 rfl rfl rfl (ref10_Boot.ct _ _ _ ht7) trivial ?_
    rintro _ _ ⟨b8, u9_Slots, u9_Objs, rfl, rfl⟩
    refine SO.v rfl (opv_assign rfl) ?_
    refine SO.nil ?_
    refine S.to (ρ' := [(0, .int .i64 a0), (1, v1), (4, .bool false), (5, .bool t1), (6, bp b8 0)]) ⟨rfl, rfl, rfl, rfl, rfl, trivial⟩ ?_
    refine S.seq ?_
    refine S.region ?_
    refine SO.v rfl (opv_move rfl) ?_
    refine SO.v rfl (opv_nilCheck rfl) ?_
    refine SO.v rfl (opv_fieldAddr Try.underlying42 rfl Try.sizeOf40 rfl rfl) ?_
    refine SO.load1 rfl Try.isAgg40 rfl rfl ?_
    refine SO.v rfl (opv_move rfl) ?_
    refine SO.b2 ?_
    refine SO.openR fun raws15 A16 hrel17 hR18 => ?_
    obtain ⟨x10, hx11, h⟩ := opt_bind h
    obtain ⟨r12, hr13, hc14⟩ := relR.at hrel17 hx11
    refine SO.v rfl (opv_idx Try.underlying40 Try.sizeOf38 hR18 rfl rfl hr13) ?_
    refine SO.v rfl (opv_fieldIdx Try.underlying38 rfl Try.sizeOf3 hR18 hr13 rfl rfl) ?_
    refine SO.storeO1 (j := 1) (q := .val (.int .i64 a0)) (z' := ({ x10 with Size := a0 } : ref10_Obj)) Try.sizeOf3 hrel17 hx11 rfl rfl rfl rfl rfl rfl rfl (fun raws19 hrel20 hR21 => ?_)
    refine SO.nil ?_
    refine S.to (ρ' := [(0, .int .i64 a0), (1, v1), (4, .bool false), (5, .bool t1), (6, bp b8 0)]) ⟨rfl, rfl, rfl, rfl, rfl, trivial⟩ ?_
    refine S.seq ?_
    refine S.region ?_
    refine SO.v rfl (opv_move rfl) ?_
    obtain ⟨t26, ht27, h⟩ := opt_bind h
    refine SO.b2 ?_
    refine SO.openR fun raws22 A23 hrel24 hR25 => ?_
    refine SO.b1 ?_
    refine SO.b1 ?_
    refine SO.b2 ?_
    have ct61 := ref10_State_Words.ct _ b8 u9_Slots u9_Objs raws22 A23 raws19 A16 _ _ ht27
    dsimp only at ct61
    refine SO.call (pre := [Box _ _, OwnO _ _ _ _ _ _, OwnO _ _ _ _ _ _]) rfl Try.call11 rfl rfl rfl ct61 trivial ?_
    rintro v28 _ ⟨_, rfl, rfl⟩
    refine SO.rd fun hr29 => ?_
    refine SO.v rfl (opv_assign rfl) ?_
    refine SO.nil ?_
    refine S.seq ?_
    refine S.region ?_
    refine SO.v rfl (opv_assign rfl) ?_
    refine SO.nil ?_
    refine S.seq ?_
    refine S.region ?_
    refine SO.v rfl (opv_assign rfl) ?_
    refine SO.nil ?_
    refine S.seq ?_
    refine S.seq ?_
    refine S.region ?_
    refine SO.v rfl (opv_assign rfl) ?_
    refine SO.nil ?_
    obtain ⟨o1, hl1, h⟩ := opt_bind h
    refine S.b4 ?_
    refine S.b4 ?_
    refine S.b4 ?_
    refine S.b4 ?_
    refine S.b4 ?_
    refine S.to (ρ' := [(10, .int .i64 0), (9, .int .i64 0), (8, .int .i64 9), (7, v28), (0, .int .i64 a0), (1, v1), (4, .bool false), (5, .bool t1)]) ⟨rfl, rfl, rfl, rfl, rfl, rfl, rfl, rfl, trivial⟩ ?_
    refine S.forloop (X := (Int × Int × Int × (List Int)) × Unit) (O := Brk Bool (Int × Int × (List Int))) (fun m x => law13_UntypedOnce.l1 a1 m x.1) (fun x => match x with | ((x10_1, x9_1, x8_1, qv28_1), _) => [(10, .int .i64 x10_1), (9, .int .i64 x9_1), (8, .int .i64 x8_1), (7, v28), (0, .int .i64 a0), (1, v1), (4, .bool false), (5, .bool t1)]) (fun x => match x with | ((x10_1, x9_1, x8_1, qv28_1), _) => [Own 72 (ekI .u64) v28 qv28_1, Box b8 [u9_Slots, u9_Objs, .int .i64 t6.NS, .int .i64 t6.NO], OwnO 71 kr_ref10_Slot u9_Slots raws22 A23 t6.Slots, OwnO 38 kr_ref10_Obj u9_Objs raws19 A16 (t6.Objs.set (3 : Int).toNat ({ x10 with Size := a0 } : ref10_Obj)), F]) (fun Sk o' => (∀ r', o' = Brk.ret r' → some r' = some r0) ∧ ∀ j : (Int × Int × (List Int)), match j with | (j8_e1, j9_e1, qv28_e1) => ∀ _ : Unit, o' = Brk.nx (j8_e1, j9_e1, qv28_e1) → Sk [(0, .int .i64 a0), (4, .bool false), (5, .bool t1), (7, v28), (8, .int .i64 j8_e1), (9, .int .i64 j9_e1)] [Own 72 (ekI .u64) v28 qv28_e1, Box b8 [u9_Slots, u9_Objs, .int .i64 t6.NS, .int .i64 t6.NO], OwnO 71 kr_ref10_Slot u9_Slots raws22 A23 t6.Slots, OwnO 38 kr_ref10_Obj u9_Objs raws19 A16 (t6.Objs.set (3 : Int).toNat ({ x10 with Size := a0 } : ref10_Obj)), F]) (fun _ => rfl) ?_ (m := k) (x := ((0, 0, 9, t26), ())) hl1 ?_
    · clear h hl1
      intro k x o_1 h hK1 ih1
      obtain ⟨⟨x10_1, x9_1, x8_1, qv28_1⟩, _⟩ := x
      replace h : law13_UntypedOnce.l1 a1 (k + 1) (x10_1, x9_1, x8_1, qv28_1) = some o_1 := h
      first | rw [law13_UntypedOnce.l1] at h | unfold law13_UntypedOnce.l1 at h
      refine S.rd fun hr30 => ?_
      refine S.seq ?_
      refine S.seq ?_
      refine S.region ?_
      refine SO.v rfl (opv_move rfl) ?_
      refine SO.v rfl (opv_move rfl) ?_
      refine SO.v rfl (opv_lenR rfl Try.underlying48 hF1 rfl) ?_
      refine SO.v rfl (opv_lss rfl rfl) ?_
      refine SO.nil ?_
      rcases bool_or (decide (x10_1 < (a1.length : Int))) with b31 | b31
      · replace h := cond_t b31 h
        refine S.condT rfl b31 ?_
        refine S.skip ?_
        refine S.seq ?_
        refine S.block ?_
        refine S.seq ?_
        refine S.region ?_
        refine SO.v rfl (opv_move rfl) ?_
        refine SO.v rfl (opv_move rfl) ?_
        obtain ⟨x32, hx33, h⟩ := opt_bind h
        refine SO.v rfl (opv_idx Try.underlying48 Try.sizeOf50 hF1 rfl rfl hx33) ?_
        refine SO.loadIN rfl Try.isAgg50 Try.sizeOf50 (Rd.tail (Rd.tail (Rd.tail (Rd.tail (Rd.head hF1))))) hx33 rfl rfl rfl ?_
        refine SO.alloc rfl Try.zeroValue50 rfl (fun b34 => ?_)
        refine SO.storeN Try.sizeOf50 rfl rfl rfl rfl rfl rfl ?_
        refine SO.nil ?_
        refine S.to (ρ' := [(10, .int .i64 x10_1), (9, .int .i64 x9_1), (8, .int .i64 x8_1), (7, v28), (0, .int .i64 a0), (1, v1), (4, .bool false), (5, .bool t1), (11, bp b34 0)]) ⟨rfl, rfl, rfl, rfl, rfl, rfl, rfl, rfl, rfl, trivial⟩ ?_
        refine S.seq ?_
        obtain ⟨t35, ht36, h⟩ := opt_bind h
        obtain ⟨⟨⟨t37, t38⟩, s40⟩, ht39, h⟩ := opt_bind h
        refine S.draw' (Z := fun Q => ∀ (_ : Unit) (_ : Unit) (_ : Unit) (_ : Unit) (_ : Unit) (_ : Unit) (_ : Unit) (_ : Unit) (_ : Unit) (_ : Unit) (_ : Unit), Q [(10, .int .i64 x10_1), (9, .int .i64 x9_1), (8, .int .i64 x8_1), (0, .int .i64 a0), (1, v1), (4, .bool false), (5, .bool t1), (7, v28), (11, bp b34 0), (12, .int .i64 t37), (13, errV 61 t38)] [Box b34 [.bool x32.Delete, .int .i64 x32.A, .int .i64 x32.B, .int .i64 x32.Kind, .int .i64 x32.Bits], Own 72 (ekI .u64) v28 s40, Box b8 [u9_Slots, u9_Objs, .int .i64 t6.NS, .int .i64 t6.NO], OwnO 71 kr_ref10_Slot u9_Slots raws22 A23 t6.Slots, OwnO 38 kr_ref10_Obj u9_Objs raws19 A16 (t6.Objs.set (3 : Int).toNat ({ x10 with Size := a0 } : ref10_Obj)), F]) (T := [tS 7 (v28), tS 11 (bp b34 0), tE [(10, .int .i64 x10_1), (9, .int .i64 x9_1), (8, .int .i64 x8_1), (0, .int .i64 a0), (1, v1), (4, .bool false), (5, .bool t1)], tR (Box b34 [.bool x32.Delete, .int .i64 x32.A, .int .i64 x32.B, .int .i64 x32.Kind, .int .i64 x32.Bits]), tR (Own 72 (ekI .u64) v28 qv28_1), tR (Box b8 [u9_Slots, u9_Objs, .int .i64 t6.NS, .int .i64 t6.NO]), tR (OwnO 71 kr_ref10_Slot u9_Slots raws22 A23 t6.Slots), tR (OwnO 38 kr_ref10_Obj u9_Objs raws19 A16 (t6.Objs.set (3 : Int).toNat ({ x10 with Size := a0 } : ref10_Obj))), tR (F), tS 50 (v28), tS 51 ((plainV v28).val), tS 52 (bp b34 2), tS 53 (.int .i64 x32.B), tS 54 (.int .i64 t35), tS 55 (.int .i64 (w64 (14 + t35))), tS 56 (bp b34 3), tS 57 (.int .i64 x32.Kind), tS 58 (bp b34 4), tS 59 (.int .i64 x32.Bits), tR (Own 72 (ekI .u64) v28 s40), tS 60 (.tuple #[.int .i64 t37, errV 61 t38]), tS 49 (.tuple #[.int .i64 t37, errV 61 t38]), tS 61 (.int .i64 t37), tS 62 (errV 61 t38), tS 12 (.int .i64 t37), tS 13 (errV 61 t38)]) (D := [⟨[0], [], [9]⟩, ⟨[9], [], [10]⟩, ⟨[1], [], [11]⟩, ⟨[11, 3], [], [12]⟩, ⟨[12], [], [13]⟩, ⟨[13], [], [14]⟩, ⟨[1], [], [15]⟩, ⟨[15, 3], [], [16]⟩, ⟨[1], [], [17]⟩, ⟨[17, 3], [], [18]⟩, ⟨[10, 14, 16, 18], [4], [19, 20]⟩, ⟨[20], [], [21]⟩, ⟨[21], [], [22]⟩, ⟨[21], [], [23]⟩, ⟨[22], [], [24]⟩, ⟨[23], [], [25]⟩]) (ini := [0, 1, 2, 3, 4, 5, 6, 7, 8]) (fin := [2, 0, 1, 24, 25, 3, 19, 5, 6, 7, 8]) (bf := [[], [0], [], [2], [2, 3], [2, 3, 4], [], [6], [], [8], [0, 1, 2, 3, 4, 5, 6, 7, 8, 9], [0, 1, 2, 3, 4, 5, 6, 7, 8, 9, 10], [0, 1, 2, 3, 4, 5, 6, 7, 8, 9, 10, 11], [0, 1, 2, 3, 4, 5, 6, 7, 8, 9, 10, 11], [0, 1, 2, 3, 4, 5, 6, 7, 8, 9, 10, 11, 12], [0, 1, 2, 3, 4, 5, 6, 7, 8, 9, 10, 11, 12, 13, 14]]) (by kernel_rfl) (by kernel_rfl) (fun x w h1 h2 => (.cons () (.cons () (.cons () (.cons () (.cons () (.cons () (.cons () (.cons () (.cons () (.nil ⟨EnvAll.of h1 ⟨rfl, rfl, rfl, rfl, rfl, rfl, rfl, rfl, rfl, trivial⟩, h2⟩))))))))))) (fun Q => by kernel_rfl) ⟨?_, ?_, ?_, ?_, ?_, ?_, ?_, ?_, ?_, ?_, ?_, ?_, ?_, ?_, ?_, ?_, trivial⟩ ?_
        · rintro Fr _
          refine SO.v rfl (opv_move rfl) ?_
          exact SO.nilZ fun a w h1 h2 h3 h4 h5 => PZ.of h1 h3 h5 (.cons () (.cons () (.nil ⟨EnvAll.of h2 ⟨rfl, rfl, trivial⟩, h4⟩)))
        · rintro Fr _
          refine SO.v rfl (opv_iface Try.underlying26 rfl rfl) ?_
          exact SO.nilZ fun a w h1 h2 h3 h4 h5 => PZ.of h1 h3 h5 (.cons () (.cons () (.nil ⟨EnvAll.of h2 ⟨rfl, rfl, trivial⟩, h4⟩)))
        · rintro Fr _
          refine SO.v rfl (opv_fieldAddr Try.underlying50 rfl Try.sizeOf3 rfl rfl) ?_
          exact SO.nilZ fun a w h1 h2 h3 h4 h5 => PZ.of h1 h3 h5 (.cons () (.cons () (.nil ⟨EnvAll.of h2 ⟨rfl, rfl, trivial⟩, h4⟩)))
        · rintro Fr _ _
          refine SO.load1 rfl Try.isAgg3 rfl rfl ?_
          exact SO.nilZ fun a w h1 h2 h3 h4 h5 => PZ.of h1 h3 h5 (.cons () (.cons () (.cons () (.nil ⟨EnvAll.of h2 ⟨rfl, rfl, trivial⟩, h4⟩))))
        · rintro Fr _
          refine SO.call (pre := []) rfl Try.call21 rfl rfl rfl (law10_Pick.ct _ _ _ ht36) trivial ?_
          rintro _ _ ⟨rfl, rfl⟩
          exact SO.nilZ fun a w h1 h2 h3 h4 h5 => PZ.of h1 h3 h5 (.cons () (.cons () (.nil ⟨EnvAll.of h2 ⟨rfl, rfl, trivial⟩, h4⟩)))
        · rintro Fr _
          refine SO.v rfl (opv_add rfl rfl) ?_
          exact SO.nilZ fun a w h1 h2 h3 h4 h5 => PZ.of h1 h3 h5 (.cons () (.cons () (.nil ⟨EnvAll.of h2 ⟨rfl, rfl, trivial⟩, h4⟩)))
        · rintro Fr _
          refine SO.v rfl (opv_fieldAddr Try.underlying50 rfl Try.sizeOf3 rfl rfl) ?_
          exact SO.nilZ fun a w h1 h2 h3 h4 h5 => PZ.of h1 h3 h5 (.cons () (.cons () (.nil ⟨EnvAll.of h2 ⟨rfl, rfl, trivial⟩, h4⟩)))
        · rintro Fr _ _
          refine SO.load1 rfl Try.isAgg3 rfl rfl ?_
          exact SO.nilZ fun a w h1 h2 h3 h4 h5 => PZ.of h1 h3 h5 (.cons () (.cons () (.cons () (.nil ⟨EnvAll.of h2 ⟨rfl, rfl, trivial⟩, h4⟩))))
        · rintro Fr _
          refine SO.v rfl (opv_fieldAddr Try.underlying50 rfl Try.sizeOf3 rfl rfl) ?_
          exact SO.nilZ fun a w h1 h2 h3 h4 h5 => PZ.of h1 h3 h5 (.cons () (.cons () (.nil ⟨EnvAll.of h2 ⟨rfl, rfl, trivial⟩, h4⟩)))
        · rintro Fr _ _
          refine SO.load1 rfl Try.isAgg3 rfl rfl ?_
          exact SO.nilZ fun a w h1 h2 h3 h4 h5 => PZ.of h1 h3 h5 (.cons () (.cons () (.cons () (.nil ⟨EnvAll.of h2 ⟨rfl, rfl, trivial⟩, h4⟩))))
        · rintro Fr _ _ _ _ _
          refine SO.call (pre := [(plainV v28).rep _]) rfl Try.call16 rfl rfl rfl (untyped_Retype.ct (plainV v28) _ _ _ _ _ _ _ _ _ ht39) trivial ?_
          rintro _ _ ⟨rfl, rfl⟩
          refine headEq (plainV_rep _ _) ?_
          refine SO.rd fun hr41 => ?_
          exact SO.nilZ fun a w h1 h2 h3 h4 h5 => PZ.of h1 h3 h5 (.cons () (.cons () (.cons () (.cons () (.cons () (.cons () (.nil ⟨EnvAll.of h2 ⟨rfl, rfl, rfl, rfl, rfl, trivial⟩, h4⟩)))))))
        · rintro Fr _
          refine SO.v rfl (opv_move rfl) ?_
          exact SO.nilZ fun a w h1 h2 h3 h4 h5 => PZ.of h1 h3 h5 (.cons () (.cons () (.nil ⟨EnvAll.of h2 ⟨rfl, rfl, trivial⟩, h4⟩)))
        · rintro Fr _
          refine SO.v rfl (opv_extract rfl rfl) ?_
          exact SO.nilZ fun a w h1 h2 h3 h4 h5 => PZ.of h1 h3 h5 (.cons () (.cons () (.nil ⟨EnvAll.of h2 ⟨rfl, rfl, trivial⟩, h4⟩)))
        · rintro Fr _
          refine SO.v rfl (opv_extract rfl rfl) ?_
          exact SO.nilZ fun a w h1 h2 h3 h4 h5 => PZ.of h1 h3 h5 (.cons () (.cons () (.nil ⟨EnvAll.of h2 ⟨rfl, rfl, trivial⟩, h4⟩)))
        · rintro Fr _
          refine SO.v rfl (opv_assign rfl) ?_
          exact SO.nilZ fun a w h1 h2 h3 h4 h5 => PZ.of h1 h3 h5 (.cons () (.cons () (.nil ⟨EnvAll.of h2 ⟨rfl, rfl, trivial⟩, h4⟩)))
        · rintro Fr _
          refine SO.v rfl (opv_assign rfl) ?_
          exact SO.nilZ fun a w h1 h2 h3 h4 h5 => PZ.of h1 h3 h5 (.cons () (.cons () (.nil ⟨EnvAll.of h2 ⟨rfl, rfl, trivial⟩, h4⟩)))
        rintro _ _ _ _ _ _ _ _ _ _ _
        refine S.to (ρ' := [(10, .int .i64 x10_1), (9, .int .i64 x9_1), (8, .int .i64 x8_1), (0, .int .i64 a0), (1, v1), (4, .bool false), (5, .bool t1), (7, v28), (11, bp b34 0), (12, .int .i64 t37), (13, errV 61 t38)]) ⟨rfl, rfl, rfl, rfl, rfl, rfl, rfl, rfl, rfl, rfl, rfl, trivial⟩ ?_
        refine S.b1 ?_
        refine S.rd fun hr42 => ?_
        refine S.seq ?_
        refine S.seq ?_
        refine S.region ?_
        refine SO.v rfl (opv_move rfl) ?_
        refine SO.v rfl (opv_neqN (e := t38) Try.underlying28 rfl) ?_
        refine SO.nil ?_
        rcases bool_or t38.isSome with b43 | b43
        · replace h := cond_t b43 h
          refine S.condT rfl b43 ?_
          refine S.exit rfl ?_
          refine S.region ?_
          refine SO.v rfl (opv_move rfl) ?_
          refine SO.v rfl (opv_add rfl rfl) ?_
          refine SO.v rfl (opv_assign rfl) ?_
          refine SO.nil ?_
          refine S.to (ρ' := [(10, .int .i64 (w64 (x10_1 + 1))), (9, .int .i64 x9_1), (8, .int .i64 x8_1), (0, .int .i64 a0), (1, v1), (4, .bool false), (5, .bool t1), (7, v28)]) ⟨rfl, rfl, rfl, rfl, rfl, rfl, rfl, rfl, trivial⟩ ?_
          refine S.b1 ?_
          refine S.drop ?_
          refine S.b4 ?_
          refine S.b4 ?_
          refine S.b4 ?_
          refine S.b4 ?_
          refine S.b4 ?_
          refine S.to ?_ (ih1 ((w64 (x10_1 + 1), x9_1, x8_1, s40), ()) h)
          exact ⟨rfl, rfl, rfl, rfl, rfl, rfl, rfl, rfl, trivial⟩
        · replace h := cond_f b43 h
          refine S.condF rfl b43 ?_
          refine S.skip ?_
          refine S.seq ?_
          refine S.region ?_
          refine SO.v rfl (opv_fieldAddr Try.underlying50 rfl Try.sizeOf3 rfl rfl) ?_
          refine SO.b1 ?_
          refine SO.load1 rfl Try.isAgg3 rfl rfl ?_
          refine SO.v rfl (opv_fieldAddr Try.underlying50 rfl Try.sizeOf3 rfl rfl) ?_
          refine SO.load1 rfl Try.isAgg3 rfl rfl ?_
          obtain ⟨⟨t44, t45⟩, ht46, h⟩ := opt_bind h
          refine SO.call (pre := []) rfl Try.call13 rfl rfl rfl (untyped_Cost.ct _ _ _ _ ht46) trivial ?_
          rintro _ _ ⟨rfl, rfl⟩
          refine SO.v rfl (opv_move rfl) ?_
          refine SO.v rfl (opv_extract rfl rfl) ?_
          refine SO.v rfl (opv_extract rfl rfl) ?_
          refine SO.v rfl (opv_assign rfl) ?_
          refine SO.v rfl (opv_assign rfl) ?_
          refine SO.nil ?_
          refine S.to (ρ' := [(10, .int .i64 x10_1), (9, .int .i64 x9_1), (8, .int .i64 x8_1), (0, .int .i64 a0), (1, v1), (4, .bool false), (5, .bool t1), (7, v28), (12, .int .i64 t37), (14, .int .i64 t44), (15, .bool t45)]) ⟨rfl, rfl, rfl, rfl, rfl, rfl, rfl, rfl, rfl, rfl, rfl, trivial⟩ ?_
          refine S.seq ?_
          refine S.region ?_
          refine SO.v rfl (opv_move rfl) ?_
          refine SO.v rfl (opv_move rfl) ?_
          refine SO.v rfl (opv_add rfl rfl) ?_
          refine SO.v rfl (opv_assign rfl) ?_
          refine SO.nil ?_
          refine S.seq ?_
          refine S.seq ?_
          refine S.region ?_
          refine SO.v rfl (opv_move rfl) ?_
          refine SO.v rfl (opv_move rfl) ?_
          refine SO.v rfl (opv_neq rfl rfl) ?_
          refine SO.v rfl (opv_move rfl) ?_
          refine SO.cut 3 82 (.bool ((t37 != x8_1) || (!t45))) [Box b34 [.bool x32.Delete, .int .i64 x32.A, .int .i64 x32.B, .int .i64 x32.Kind, .int .i64 x32.Bits], Own 72 (ekI .u64) v28 s40, Box b8 [u9_Slots, u9_Objs, .int .i64 t6.NS, .int .i64 t6.NO], OwnO 71 kr_ref10_Slot u9_Slots raws22 A23 t6.Slots, OwnO 38 kr_ref10_Obj u9_Objs raws19 A16 (t6.Objs.set (3 : Int).toNat ({ x10 with Size := a0 } : ref10_Obj)), F] (fun l2 hk2 => ?_) ?_
          · rcases bool_or (t37 != x8_1) with b47 | b47
            · refine SO.passF rfl rfl rfl b47 rfl rfl ?_
              refine SO.passF rfl rfl rfl b47 rfl rfl ?_
              refine SO.v rfl (opv_pick_t' b47 rfl rfl) ?_
              refine SO.b5 ?_
              refine SO.b5 ?_
              refine SO.b5 ?_
              refine SO.b5 ?_
              refine SO.b5 ?_
              refine SO.b5 ?_
              exact hk2.fitc (m := 3) rfl (or_t b47) rfl
            · refine SO.takeT rfl rfl rfl b47 ?_
              refine SO.v rfl (opv_move rfl) ?_
              refine SO.takeT rfl rfl rfl b47 ?_
              refine SO.v rfl (opv_not rfl) ?_
              refine SO.v rfl (opv_pick_f' b47 rfl rfl) ?_
              refine SO.b5 ?_
              refine SO.b5 ?_
              refine SO.b5 ?_
              refine SO.b5 ?_
              refine SO.b5 ?_
              refine SO.b5 ?_
              exact hk2.fitc (m := 3) rfl (or_f b47) rfl
          refine SO.nil ?_
          refine S.to (ρ' := [(10, .int .i64 x10_1), (9, .int .i64 (w64 (x9_1 + t44))), (8, .int .i64 x8_1), (0, .int .i64 a0), (1, v1), (4, .bool false), (5, .bool t1), (7, v28), (82, .bool ((t37 != x8_1) || (!t45)))]) ⟨rfl, rfl, rfl, rfl, rfl, rfl, rfl, rfl, rfl, trivial⟩ ?_
          rcases bool_or ((t37 != x8_1) || (!t45)) with b48 | b48
          · replace h := cond_t b48 h
            refine S.condT rfl b48 ?_
            refine S.seq ?_
            refine S.region ?_
            refine SO.v rfl (opv_assign rfl) ?_
            refine SO.nil ?_
            refine S.to (ρ' := [(4, .bool false)]) ⟨rfl, trivial⟩ ?_
            cases h
            replace h := hK1.1 _ rfl
            cases h
            refine S.b3 ?_
            refine S.closeR ?_
            refine S.b4 ?_
            refine S.closeR ?_
            refine S.drop ?_
            refine S.drop ?_
            refine S.drop ?_
            refine S.drop ?_
            refine S.drop ?_
            exact S.ret1 Try.func6 rfl rfl (fun w hs hk => hR w _ _ ⟨rfl, rfl⟩ hs hk)
          · replace h := cond_f b48 h
            refine S.condF rfl b48 ?_
            refine S.skip ?_
            refine S.region ?_
            refine SO.v rfl (opv_move rfl) ?_
            refine SO.v rfl (opv_add rfl rfl) ?_
            refine SO.v rfl (opv_assign rfl) ?_
            refine SO.nil ?_
            refine S.inBlock ?_
            refine S.region ?_
            refine SO.v rfl (opv_move rfl) ?_
            refine SO.v rfl (opv_add rfl rfl) ?_
            refine SO.v rfl (opv_assign rfl) ?_
            refine SO.nil ?_
            refine S.drop ?_
            refine S.b4 ?_
            refine S.b4 ?_
            refine S.b4 ?_
            refine S.b4 ?_
            refine S.b4 ?_
            refine S.to ?_ (ih1 ((w64 (x10_1 + 1), w64 (x9_1 + t44), w64 (x8_1 + 1), s40), ()) h)
            exact ⟨rfl, rfl, rfl, rfl, rfl, rfl, rfl, rfl, trivial⟩
      · replace h := cond_f b31 h
        refine S.condF rfl b31 ?_
        refine S.exit rfl ?_
        cases h
        refine S.b4 ?_
        refine S.b4 ?_
        refine S.b4 ?_
        refine S.b4 ?_
        refine S.b4 ?_
        refine S.to ?_ (hK1.2 (x8_1, x9_1, qv28_1) () rfl)
        exact ⟨rfl, rfl, rfl, rfl, rfl, rfl, trivial⟩
    refine ⟨fun r' e' => ?_, ?_⟩
    · subst e'
      have h9 := Brk.of_ret h
      exact h9
    rintro ⟨j8_e1, j9_e1, qv28_e1⟩ _ e'
    subst e'
    replace h := Brk.of_nx h
    refine S.rd fun hr49 => ?_
    refine S.seq ?_
    refine S.region ?_
    refine SO.v rfl (opv_move rfl) ?_
    refine SO.v rfl (opv_move rfl) ?_
    refine SO.cut 4 90 (.bool (t1 && (decide (j9_e1 ≤ a0)))) [Own 72 (ekI .u64) v28 qv28_e1, Box b8 [u9_Slots, u9_Objs, .int .i64 t6.NS, .int .i64 t6.NO], OwnO 71 kr_ref10_Slot u9_Slots raws22 A23 t6.Slots, OwnO 38 kr_ref10_Obj u9_Objs raws19 A16 (t6.Objs.set (3 : Int).toNat ({ x10 with Size := a0 } : ref10_Obj)), F] (fun l2 hk2 => ?_) ?_
    · rcases bool_or t1 with b50 | b50
      · refine SO.takeT rfl rfl rfl b50 ?_
        refine SO.v rfl (opv_move rfl) ?_
        refine SO.takeT rfl rfl rfl b50 ?_
        refine SO.v rfl (opv_move rfl) ?_
        refine SO.takeT rfl rfl rfl b50 ?_
        refine SO.v rfl (opv_leq rfl rfl) ?_
        refine SO.v rfl (opv_pick_t' b50 rfl rfl) ?_
        refine SO.b4 ?_
        refine SO.b4 ?_
        refine SO.b4 ?_
        refine SO.b4 ?_
        refine SO.b4 ?_
        exact hk2.fitc (m := 4) rfl (and_t b50) rfl
      · refine SO.passF rfl rfl rfl b50 rfl rfl ?_
        refine SO.passF rfl rfl rfl b50 rfl rfl ?_
        refine SO.passF rfl rfl rfl b50 rfl rfl ?_
        refine SO.v rfl (opv_pick_f' b50 rfl rfl) ?_
        refine SO.b4 ?_
        refine SO.b4 ?_
        refine SO.b4 ?_
        refine SO.b4 ?_
        refine SO.b4 ?_
        exact hk2.fitc (m := 4) rfl (and_f b50) rfl
    refine SO.v rfl (opv_move rfl) ?_
    obtain ⟨⟨c52, w54⟩, hc53, hgk⟩ := opt_bind h
    refine SO.cut 8 99 (.bool c52) [Own 72 (ekI .u64) v28 w54, Box b8 [u9_Slots, u9_Objs, .int .i64 t6.NS, .int .i64 t6.NO], OwnO 71 kr_ref10_Slot u9_Slots raws22 A23 t6.Slots, OwnO 38 kr_ref10_Obj u9_Objs raws19 A16 (t6.Objs.set (3 : Int).toNat ({ x10 with Size := a0 } : ref10_Obj)), F] (fun l2 hk2 => ?_) ?_
    · clear hgk
      replace h := hc53
      rcases bool_or (t1 && (decide (j9_e1 ≤ a0))) with b51 | b51
      · replace h := cond_t b51 h
        refine SO.takeT rfl rfl rfl b51 ?_
        refine SO.v rfl (opv_move rfl) ?_
        refine SO.takeT rfl rfl rfl b51 ?_
        refine SO.v rfl (opv_iface Try.underlying26 rfl rfl) ?_
        refine SO.takeT rfl rfl rfl b51 ?_
        obtain ⟨⟨t56, s58⟩, ht57, h⟩ := opt_bind h
        refine SO.call (pre := [(plainV v28).rep _]) rfl Try.call20 rfl rfl rfl (untyped_Left.ct (plainV v28) _ _ _ _ ht57) trivial ?_
        rintro _ _ ⟨rfl, rfl⟩
        refine headEq (plainV_rep _ _) ?_
        refine SO.rd fun hr59 => ?_
        refine SO.takeT rfl rfl rfl b51 ?_
        refine SO.v rfl (opv_move rfl) ?_
        refine SO.takeT rfl rfl rfl b51 ?_
        refine SO.v rfl (opv_move rfl) ?_
        refine SO.takeT rfl rfl rfl b51 ?_
        refine SO.v rfl (opv_sub rfl rfl) ?_
        refine SO.takeT rfl rfl rfl b51 ?_
        refine SO.v rfl (opv_eql rfl rfl) ?_
        cases h
        refine SO.v rfl (opv_pick_t' b51 rfl rfl) ?_
        refine SO.b4 ?_
        refine SO.b4 ?_
        refine SO.b4 ?_
        refine SO.b4 ?_
        refine SO.b4 ?_
        exact hk2.fitc (m := 8) rfl (rfl) rfl
      · replace h := cond_f b51 h
        refine SO.passF rfl rfl rfl b51 rfl rfl ?_
        refine SO.passF rfl rfl rfl b51 rfl rfl ?_
        refine SO.passF rfl rfl rfl b51 rfl rfl ?_
        refine SO.passF rfl rfl rfl b51 rfl rfl ?_
        refine SO.passF rfl rfl rfl b51 rfl rfl ?_
        refine SO.passF rfl rfl rfl b51 rfl rfl ?_
        refine SO.passF rfl rfl rfl b51 rfl rfl ?_
        cases h
        refine SO.v rfl (opv_pick_f' b51 rfl rfl) ?_
        refine SO.b4 ?_
        refine SO.b4 ?_
        refine SO.b4 ?_
        refine SO.b4 ?_
        refine SO.b4 ?_
        exact hk2.fitc (m := 8) rfl (rfl) rfl
    clear hc53
    replace h := hgk
    refine SO.rd fun hr55 => ?_
    refine SO.v rfl (opv_move rfl) ?_
    refine SO.cut 3 103 (.bool (c52 && (decide (j8_e1 ≤ 32)))) [Own 72 (ekI .u64) v28 w54, Box b8 [u9_Slots, u9_Objs, .int .i64 t6.NS, .int .i64 t6.NO], OwnO 71 kr_ref10_Slot u9_Slots raws22 A23 t6.Slots, OwnO 38 kr_ref10_Obj u9_Objs raws19 A16 (t6.Objs.set (3 : Int).toNat ({ x10 with Size := a0 } : ref10_Obj)), F] (fun l2 hk2 => ?_) ?_
    · rcases bool_or c52 with b60 | b60
      · refine SO.takeT rfl rfl rfl b60 ?_
        refine SO.v rfl (opv_move rfl) ?_
        refine SO.takeT rfl rfl rfl b60 ?_
        refine SO.v rfl (opv_leq rfl rfl) ?_
        refine SO.v rfl (opv_pick_t' b60 rfl rfl) ?_
        refine SO.b4 ?_
        refine SO.b4 ?_
        refine SO.b4 ?_
        refine SO.b4 ?_
        refine SO.b4 ?_
        exact hk2.fitc (m := 3) rfl (and_t b60) rfl
      · refine SO.passF rfl rfl rfl b60 rfl rfl ?_
        refine SO.passF rfl rfl rfl b60 rfl rfl ?_
        refine SO.v rfl (opv_pick_f' b60 rfl rfl) ?_
        refine SO.b4 ?_
        refine SO.b4 ?_
        refine SO.b4 ?_
        refine SO.b4 ?_
        refine SO.b4 ?_
        exact hk2.fitc (m := 3) rfl (and_f b60) rfl
    refine SO.v rfl (opv_assign rfl) ?_
    refine SO.nil ?_
    refine S.to (ρ' := [(4, .bool (c52 && (decide (j8_e1 ≤ 32))))]) ⟨rfl, trivial⟩ ?_
    cases h
    refine S.b2 ?_
    refine S.closeR ?_
    refine S.b3 ?_
    refine S.closeR ?_
    refine S.drop ?_
    refine S.drop ?_
    refine S.drop ?_
    refine S.drop ?_
    exact S.ret1 Try.func6 rfl rfl (fun w hs hk => hR w _ _ ⟨rfl, rfl⟩ hs hk)
end Go.Proofs
namespace Go.Proofs
open Go.Sl Go.RowKit
/-! 19 padstone/padstoneref10.Same -/
def ref10_Same.l1 (a0 : List Int) (a1 : List Int) : Nat → Int → Option (Brk Bool Unit)
  | 0, _ => none
  | k + 1, x5_1 => bif decide (x5_1 < (a0.length : Int)) then ((at_ a0 x5_1).bind fun x3 => (at_ a1 x5_1).bind fun x5 => bif x3 != x5 then (some (Brk.ret false)) else (ref10_Same.l1 a0 a1 k (w64 (x5_1 + 1)))) else (some (Brk.nx ()))
def ref10_Same.f (k : Nat) (a0 : List Int) (a1 : List Int) : Option (Bool) :=
  bif (a0.length : Int) != (a1.length : Int) then (some false) else ((ref10_Same.l1 a0 a1 k 0).bind fun o1 => Brk.go o1 (fun r => some r) (fun _ => some true))
set_option maxHeartbeats 8000000 in
set_option maxRecDepth 100000 in
theorem ref10_Same.ct (k : Nat) (v0 : Value) (v1 : Value) (a0 : List Int) (a1 : List Int) (r0 : Bool) (h : ref10_Same.f k a0 a1 = some r0) :
    Ct Try.prog 19 [v0, v1] (fun F => Rd (ekI .u64) v0 a0 F ∧ Rd (ekI .u64) v1 a1 F) [] (fun u H' => u = .bool r0 ∧ H' = []) := by
  unfold ref10_Same.f at h
  refine Ct.intro (n := 26) Try.func19 rfl rfl rfl ?_
  intro R w0 F hF hR
  obtain ⟨hF0, hF1⟩ := hF
  refine S.seq ?_
  refine S.region ?_
  refine SO.v rfl (opv_assign rfl) ?_
  refine SO.nil ?_
  refine S.seq ?_
  refine S.seq ?_
  refine S.region ?_
  refine SO.v rfl (opv_move rfl) ?_
  refine SO.v rfl (opv_lenR rfl Try.underlying22 hF0 rfl) ?_
  refine SO.v rfl (opv_move rfl) ?_
  refine SO.v rfl (opv_lenR rfl Try.underlying22 hF1 rfl) ?_
  refine SO.v rfl (opv_neq rfl rfl) ?_
  refine SO.nil ?_
  rcases bool_or ((a0.length : Int) != (a1.length : Int)) with b1 | b1
  · replace h := cond_t b1 h
    refine S.condT rfl b1 ?_
    refine S.seq ?_
    refine S.region ?_
    refine SO.v rfl (opv_assign rfl) ?_
    refine SO.nil ?_
    refine S.to (ρ' := [(4, .bool false)]) ⟨rfl, trivial⟩ ?_
    cases h
    exact S.ret1 Try.func19 rfl rfl (fun w hs hk => hR w _ _ ⟨rfl, rfl⟩ hs hk)
  · replace h := cond_f b1 h
    refine S.condF rfl b1 ?_
    refine S.skip ?_
    refine S.seq ?_
    refine S.seq ?_
    refine S.region ?_
    refine SO.v rfl (opv_assign rfl) ?_
    refine SO.nil ?_
    obtain ⟨o1, hl1, h⟩ := opt_bind h
    refine S.to (ρ' := [(5, .int .i64 0), (4, .bool false), (0, v0), (1, v1)]) ⟨rfl, rfl, rfl, rfl, trivial⟩ ?_
    refine S.forloop (X := Int × Unit) (O := Brk Bool Unit) (fun m x => ref10_Same.l1 a0 a1 m x.1) (fun x => match x with | (x5_1, _) => [(5, .int .i64 x5_1), (4, .bool false), (0, v0), (1, v1)]) (fun x => match x with | (x5_1, _) => [F]) (fun Sk o' => (∀ r', o' = Brk.ret r' → some r' = some r0) ∧ ∀ _ : Unit, ∀ _ : Unit, o' = Brk.nx () → Sk [(4, .bool false)] [F]) (fun _ => rfl) ?_ (m := k) (x := (0, ())) hl1 ?_
    · clear h hl1
      intro k x o_1 h hK1 ih1
      obtain ⟨x5_1, _⟩ := x
      replace h : ref10_Same.l1 a0 a1 (k + 1) x5_1 = some o_1 := h
      first | rw [ref10_Same.l1] at h | unfold ref10_Same.l1 at h
      refine S.seq ?_
      refine S.seq ?_
      refine S.region ?_
      refine SO.v rfl (opv_move rfl) ?_
      refine SO.v rfl (opv_move rfl) ?_
      refine SO.v rfl (opv_lenR rfl Try.underlying22 hF0 rfl) ?_
      refine SO.v rfl (opv_lss rfl rfl) ?_
      refine SO.nil ?_
      rcases bool_or (decide (x5_1 < (a0.length : Int))) with b2 | b2
      · replace h := cond_t b2 h
        refine S.condT rfl b2 ?_
        refine S.skip ?_
        refine S.seq ?_
        refine S.block ?_
        refine S.seq ?_
        obtain ⟨x3, hx4, h⟩ := opt_bind h
        obtain ⟨x5, hx6, h⟩ := opt_bind h
        refine S.draw' (Z := fun Q => ∀ (_ : Unit) (_ : Unit) (_ : Unit) (_ : Unit) (_ : Unit) (_ : Unit), Q [(5, .int .i64 x5_1), (4, .bool false), (0, v0), (1, v1), (25, .bool (x3 != x5))] [F]) (T := [tS 0 (v0), tS 5 (.int .i64 x5_1), tS 1 (v1), tS 4 (.bool false), tR (F), tS 17 (v0), tS 18 (.int .i64 x5_1), tS 19 (idxp v0 (x5_1.toNat * (ekI .u64).sz)), tS 20 (.int .u64 x3), tS 21 (v1), tS 22 (.int .i64 x5_1), tS 23 (idxp v1 (x5_1.toNat * (ekI .u64).sz)), tS 24 (.int .u64 x5), tS 25 (.bool (x3 != x5))]) (D := [⟨[0], [], [5]⟩, ⟨[1], [], [6]⟩, ⟨[5, 6, 4], [], [7]⟩, ⟨[7, 4], [], [8]⟩, ⟨[2], [], [9]⟩, ⟨[1], [], [10]⟩, ⟨[9, 10, 4], [], [11]⟩, ⟨[11, 4], [], [12]⟩, ⟨[8, 12], [], [13]⟩]) (ini := [0, 1, 2, 3, 4]) (fin := [1, 3, 0, 2, 13, 4]) (bf := [[], [], [0, 1], [0, 1, 2], [], [], [4, 5], [4, 5, 6], [0, 1, 2, 3, 4, 5, 6, 7]]) (by kernel_rfl) (by kernel_rfl) (fun x w h1 h2 => (.cons () (.cons () (.cons () (.cons () (.cons () (.nil ⟨EnvAll.of h1 ⟨rfl, rfl, rfl, rfl, trivial⟩, h2⟩))))))) (fun Q => by kernel_rfl) ⟨?_, ?_, ?_, ?_, ?_, ?_, ?_, ?_, ?_, trivial⟩ ?_
        · rintro Fr _
          refine SO.v rfl (opv_move rfl) ?_
          exact SO.nilZ fun a w h1 h2 h3 h4 h5 => PZ.of h1 h3 h5 (.cons () (.cons () (.nil ⟨EnvAll.of h2 ⟨rfl, rfl, trivial⟩, h4⟩)))
        · rintro Fr _
          refine SO.v rfl (opv_move rfl) ?_
          exact SO.nilZ fun a w h1 h2 h3 h4 h5 => PZ.of h1 h3 h5 (.cons () (.cons () (.nil ⟨EnvAll.of h2 ⟨rfl, rfl, trivial⟩, h4⟩)))
        · rintro Fr _ _ _
          refine SO.v rfl (opv_idx Try.underlying22 Try.sizeOf72 hF0 rfl rfl hx4) ?_
          exact SO.nilZ fun a w h1 h2 h3 h4 h5 => PZ.of h1 h3 h5 (.cons () (.cons () (.cons () (.cons () (.nil ⟨EnvAll.of h2 ⟨rfl, rfl, rfl, trivial⟩, h4⟩)))))
        · rintro Fr _ _
          refine SO.loadI1 (j := 0) rfl Try.isAgg72 (Rd.head hF0) hx4 rfl rfl rfl rfl ?_
          exact SO.nilZ fun a w h1 h2 h3 h4 h5 => PZ.of h1 h3 h5 (.cons () (.cons () (.cons () (.nil ⟨EnvAll.of h2 ⟨rfl, rfl, trivial⟩, h4⟩))))
        · rintro Fr _
          refine SO.v rfl (opv_move rfl) ?_
          exact SO.nilZ fun a w h1 h2 h3 h4 h5 => PZ.of h1 h3 h5 (.cons () (.cons () (.nil ⟨EnvAll.of h2 ⟨rfl, rfl, trivial⟩, h4⟩)))
        · rintro Fr _
          refine SO.v rfl (opv_move rfl) ?_
          exact SO.nilZ fun a w h1 h2 h3 h4 h5 => PZ.of h1 h3 h5 (.cons () (.cons () (.nil ⟨EnvAll.of h2 ⟨rfl, rfl, trivial⟩, h4⟩)))
        · rintro Fr _ _ _
          refine SO.v rfl (opv_idx Try.underlying22 Try.sizeOf72 hF1 rfl rfl hx6) ?_
          exact SO.nilZ fun a w h1 h2 h3 h4 h5 => PZ.of h1 h3 h5 (.cons () (.cons () (.cons () (.cons () (.nil ⟨EnvAll.of h2 ⟨rfl, rfl, rfl, trivial⟩, h4⟩)))))
        · rintro Fr _ _
          refine SO.loadI1 (j := 0) rfl Try.isAgg72 (Rd.head hF1) hx6 rfl rfl rfl rfl ?_
          exact SO.nilZ fun a w h1 h2 h3 h4 h5 => PZ.of h1 h3 h5 (.cons () (.cons () (.cons () (.nil ⟨EnvAll.of h2 ⟨rfl, rfl, trivial⟩, h4⟩))))
        · rintro Fr _ _
          refine SO.v rfl (opv_neq rfl rfl) ?_
          exact SO.nilZ fun a w h1 h2 h3 h4 h5 => PZ.of h1 h3 h5 (.cons () (.cons () (.cons () (.nil ⟨EnvAll.of h2 ⟨rfl, rfl, rfl, trivial⟩, h4⟩))))
        rintro _ _ _ _ _ _
        refine S.to (ρ' := [(5, .int .i64 x5_1), (4, .bool false), (0, v0), (1, v1), (25, .bool (x3 != x5))]) ⟨rfl, rfl, rfl, rfl, rfl, trivial⟩ ?_
        rcases bool_or (x3 != x5) with b7 | b7
        · replace h := cond_t b7 h
          refine S.condT rfl b7 ?_
          refine S.seq ?_
          refine S.region ?_
          refine SO.v rfl (opv_assign rfl) ?_
          refine SO.nil ?_
          cases h
          replace h := hK1.1 _ rfl
          cases h
          exact S.ret1 Try.func19 rfl rfl (fun w hs hk => hR w _ _ ⟨rfl, rfl⟩ hs hk)
        · replace h := cond_f b7 h
          refine S.condF rfl b7 ?_
          refine S.skip ?_
          refine S.inBlock ?_
          refine S.region ?_
          refine SO.v rfl (opv_move rfl) ?_
          refine SO.v rfl (opv_add rfl rfl) ?_
          refine SO.v rfl (opv_assign rfl) ?_
          refine SO.nil ?_
          refine S.to ?_ (ih1 (w64 (x5_1 + 1), ()) h)
          exact ⟨rfl, rfl, rfl, rfl, trivial⟩
      · replace h := cond_f b2 h
        refine S.condF rfl b2 ?_
        refine S.exit rfl ?_
        cases h
        refine S.to ?_ (hK1.2 () () rfl)
        exact ⟨rfl, trivial⟩
    refine ⟨fun r' e' => ?_, ?_⟩
    · subst e'
      have h9 := Brk.of_ret h
      exact h9
    rintro _ _ e'
    subst e'
    replace h := Brk.of_nx h
    refine S.seq ?_
    refine S.region ?_
    refine SO.v rfl (opv_assign rfl) ?_
    refine SO.nil ?_
    cases h
    exact S.ret1 Try.func19 rfl rfl (fun w hs hk => hR w _ _ ⟨rfl, rfl⟩ hs hk)
end Go.Proofs
namespace Go.Proofs
open Go.Sl Go.RowKit
/-! 29 padstone/padstoneref10.slot -/
def ref10_slot.f (a0 : Int) : Option (Bool) :=
  some ((decide (0 ≤ a0)) && (decide (a0 < 96)))
set_option maxHeartbeats 8000000 in
set_option maxRecDepth 100000 in
theorem ref10_slot.ct (a0 : Int) (r0 : Bool) (h : ref10_slot.f a0 = some r0) :
    Ct Try.prog 29 [.int .i64 a0] (fun _ => True) [] (fun u H' => u = .bool r0 ∧ H' = []) := by
  unfold ref10_slot.f at h
  refine Ct.intro (n := 9) Try.func29 rfl rfl rfl ?_
  intro R w0 F hF hR
  refine S.seq ?_
  refine S.region ?_
  refine SO.v rfl (opv_assign rfl) ?_
  refine SO.nil ?_
  refine S.seq ?_
  refine S.region ?_
  refine SO.v rfl (opv_move rfl) ?_
  refine SO.v rfl (opv_geq rfl rfl) ?_
  refine SO.v rfl (opv_move rfl) ?_
  refine SO.cut 3 8 (.bool ((decide (0 ≤ a0)) && (decide (a0 < 96)))) [F] (fun l2 hk2 => ?_) ?_
  · rcases bool_or (decide (0 ≤ a0)) with b1 | b1
    · refine SO.takeT rfl rfl rfl b1 ?_
      refine SO.v rfl (opv_move rfl) ?_
      refine SO.takeT rfl rfl rfl b1 ?_
      refine SO.v rfl (opv_lss rfl rfl) ?_
      refine SO.v rfl (opv_pick_t' b1 rfl rfl) ?_
      exact hk2.fitc (m := 3) rfl (and_t b1) rfl
    · refine SO.passF rfl rfl rfl b1 rfl rfl ?_
      refine SO.passF rfl rfl rfl b1 rfl rfl ?_
      refine SO.v rfl (opv_pick_f' b1 rfl rfl) ?_
      exact hk2.fitc (m := 3) rfl (and_f b1) rfl
  refine SO.v rfl (opv_assign rfl) ?_
  refine SO.nil ?_
  cases h
  exact S.ret1 Try.func29 rfl rfl (fun w hs hk => hR w _ _ ⟨rfl, rfl⟩ hs hk)
end Go.Proofs
