/- What the functions that TcbPlays reaches come to, and that they do. On no condition. -/
import Derived.Test.YtoccfjmgbcbbkaaFnTcbPlays0
import Derived.Test.YtoccfjmgbcbbkaaFnTcbPlays2
import Derived.Test.YtoccfjmgbcbbkaaFnTcbPlays1
set_option linter.all false
namespace Go.Proofs
open Go.Sl Go.RowKit
/-! 57 padstone/padstoneref01.May -/
def ref01_May.f (k : Nat) (a0 : api_Cap) : Option (Bool) :=
  (ref01_in.f a0.Kind 8).bind fun t2 => (ref01_in.f a0.Rights 7).bind fun t4 => (ref01_in.f a0.Obj 31).bind fun t6 => (ref01_in.f a0.Badge 65535).bind fun t8 => (ref01_in.f a0.Bits 8).bind fun t10 => bif ((((!t2) || (!t4)) || (!t6)) || (!t8)) || (!t10) then (some false) else (bif (a0.Kind == 0) && ((a0.Rights != 0) || (a0.Obj != 0)) then (some false) else (bif ((a0.Kind != 3) && (a0.Kind != 4)) && (a0.Badge != 0) then (some false) else (bif (a0.Kind != 2) && ((a0.Bits != 0) || (a0.Guard != 0)) then (some false) else ((bif decide (0 ≤ a0.Guard) then ((ref01_two.f k a0.Bits).bind fun t27 => some (decide (a0.Guard < t27))) else (some false)).bind fun j2_1 => some j2_1))))
set_option maxHeartbeats 8000000 in
set_option maxRecDepth 100000 in
theorem ref01_May.ct (k : Nat) (a0 : api_Cap) (r0 : Bool) (h : ref01_May.f k a0 = some r0) :
    Ct Try.prog 57 [.agg #[.int .i64 a0.Kind, .int .i64 a0.Rights, .int .i64 a0.Obj, .int .i64 a0.Badge, .int .i64 a0.Guard, .int .i64 a0.Bits]] (fun _ => True) [] (fun u H' => u = .bool r0 ∧ H' = []) := by
  unfold ref01_May.f at h
  refine Ct.intro (n := 91) Try.func57 rfl rfl rfl ?_
  intro R w0 F hF hR
  refine S.seq ?_
  refine S.region ?_
  refine SO.box rfl rfl rfl (fun b1 => ?_)
  refine SO.v rfl (opv_assign rfl) ?_
  refine SO.nil ?_
  refine S.seq ?_
  refine S.region ?_
  refine SO.v rfl (opv_fieldAddr Try.underlying49 rfl Try.sizeOf3 rfl rfl) ?_
  refine SO.load1 rfl Try.isAgg3 rfl rfl ?_
  obtain ⟨t2, ht3, h⟩ := opt_bind h
  refine SO.call (pre := []) rfl Try.call72 rfl rfl rfl (ref01_in.ct _ _ _ ht3) trivial ?_
  rintro _ _ ⟨rfl, rfl⟩
  refine SO.v rfl (opv_assign rfl) ?_
  refine SO.nil ?_
  refine S.seq ?_
  refine S.region ?_
  refine SO.v rfl (opv_fieldAddr Try.underlying49 rfl Try.sizeOf3 rfl rfl) ?_
  refine SO.load1 rfl Try.isAgg3 rfl rfl ?_
  obtain ⟨t4, ht5, h⟩ := opt_bind h
  refine SO.call (pre := []) rfl Try.call72 rfl rfl rfl (ref01_in.ct _ _ _ ht5) trivial ?_
  rintro _ _ ⟨rfl, rfl⟩
  refine SO.v rfl (opv_assign rfl) ?_
  refine SO.nil ?_
  refine S.to (ρ' := [(1, bp b1 0), (2, .bool false), (3, .bool t2), (4, .bool t4)]) ⟨rfl, rfl, rfl, rfl, trivial⟩ ?_
  refine S.seq ?_
  refine S.region ?_
  refine SO.v rfl (opv_fieldAddr Try.underlying49 rfl Try.sizeOf3 rfl rfl) ?_
  refine SO.load1 rfl Try.isAgg3 rfl rfl ?_
  obtain ⟨t6, ht7, h⟩ := opt_bind h
  refine SO.call (pre := []) rfl Try.call72 rfl rfl rfl (ref01_in.ct _ _ _ ht7) trivial ?_
  rintro _ _ ⟨rfl, rfl⟩
  refine SO.v rfl (opv_assign rfl) ?_
  refine SO.nil ?_
  refine S.seq ?_
  refine S.region ?_
  refine SO.v rfl (opv_fieldAddr Try.underlying49 rfl Try.sizeOf3 rfl rfl) ?_
  refine SO.load1 rfl Try.isAgg3 rfl rfl ?_
  obtain ⟨t8, ht9, h⟩ := opt_bind h
  refine SO.call (pre := []) rfl Try.call72 rfl rfl rfl (ref01_in.ct _ _ _ ht9) trivial ?_
  rintro _ _ ⟨rfl, rfl⟩
  refine SO.v rfl (opv_assign rfl) ?_
  refine SO.nil ?_
  refine S.seq ?_
  refine S.region ?_
  refine SO.v rfl (opv_fieldAddr Try.underlying49 rfl Try.sizeOf3 rfl rfl) ?_
  refine SO.load1 rfl Try.isAgg3 rfl rfl ?_
  obtain ⟨t10, ht11, h⟩ := opt_bind h
  refine SO.call (pre := []) rfl Try.call72 rfl rfl rfl (ref01_in.ct _ _ _ ht11) trivial ?_
  rintro _ _ ⟨rfl, rfl⟩
  refine SO.v rfl (opv_assign rfl) ?_
  refine SO.nil ?_
  refine S.to (ρ' := [(1, bp b1 0), (2, .bool false), (3, .bool t2), (4, .bool t4), (5, .bool t6), (6, .bool t8), (7, .bool t10)]) ⟨rfl, rfl, rfl, rfl, rfl, rfl, rfl, trivial⟩ ?_
  refine S.seq ?_
  refine S.seq ?_
  refine S.region ?_
  refine SO.v rfl (opv_move rfl) ?_
  refine SO.v rfl (opv_not rfl) ?_
  refine SO.v rfl (opv_move rfl) ?_
  refine SO.cut 3 28 (.bool ((!t2) || (!t4))) [Box b1 [.int .i64 a0.Kind, .int .i64 a0.Rights, .int .i64 a0.Obj, .int .i64 a0.Badge, .int .i64 a0.Guard, .int .i64 a0.Bits], F] (fun l2 hk2 => ?_) ?_
  · rcases bool_or (!t2) with b12 | b12
    · refine SO.passF rfl rfl rfl b12 rfl rfl ?_
      refine SO.passF rfl rfl rfl b12 rfl rfl ?_
      refine SO.v rfl (opv_pick_t' b12 rfl rfl) ?_
      refine SO.b1 ?_
      refine SO.b1 ?_
      exact hk2.fitc (m := 3) rfl (or_t b12) rfl
    · refine SO.takeT rfl rfl rfl b12 ?_
      refine SO.v rfl (opv_move rfl) ?_
      refine SO.takeT rfl rfl rfl b12 ?_
      refine SO.v rfl (opv_not rfl) ?_
      refine SO.v rfl (opv_pick_f' b12 rfl rfl) ?_
      refine SO.b1 ?_
      refine SO.b1 ?_
      exact hk2.fitc (m := 3) rfl (or_f b12) rfl
  refine SO.v rfl (opv_move rfl) ?_
  refine SO.cut 3 32 (.bool (((!t2) || (!t4)) || (!t6))) [Box b1 [.int .i64 a0.Kind, .int .i64 a0.Rights, .int .i64 a0.Obj, .int .i64 a0.Badge, .int .i64 a0.Guard, .int .i64 a0.Bits], F] (fun l2 hk2 => ?_) ?_
  · rcases bool_or ((!t2) || (!t4)) with b13 | b13
    · refine SO.passF rfl rfl rfl b13 rfl rfl ?_
      refine SO.passF rfl rfl rfl b13 rfl rfl ?_
      refine SO.v rfl (opv_pick_t' b13 rfl rfl) ?_
      refine SO.b1 ?_
      refine SO.b1 ?_
      exact hk2.fitc (m := 3) rfl (or_t b13) rfl
    · refine SO.takeT rfl rfl rfl b13 ?_
      refine SO.v rfl (opv_move rfl) ?_
      refine SO.takeT rfl rfl rfl b13 ?_
      refine SO.v rfl (opv_not rfl) ?_
      refine SO.v rfl (opv_pick_f' b13 rfl rfl) ?_
      refine SO.b1 ?_
      refine SO.b1 ?_
      exact hk2.fitc (m := 3) rfl (or_f b13) rfl
  refine SO.v rfl (opv_move rfl) ?_
  refine SO.cut 3 36 (.bool ((((!t2) || (!t4)) || (!t6)) || (!t8))) [Box b1 [.int .i64 a0.Kind, .int .i64 a0.Rights, .int .i64 a0.Obj, .int .i64 a0.Badge, .int .i64 a0.Guard, .int .i64 a0.Bits], F] (fun l2 hk2 => ?_) ?_
  · rcases bool_or (((!t2) || (!t4)) || (!t6)) with b14 | b14
    · refine SO.passF rfl rfl rfl b14 rfl rfl ?_
      refine SO.passF rfl rfl rfl b14 rfl rfl ?_
      refine SO.v rfl (opv_pick_t' b14 rfl rfl) ?_
      refine SO.b1 ?_
      refine SO.b1 ?_
      exact hk2.fitc (m := 3) rfl (or_t b14) rfl
    · refine SO.takeT rfl rfl rfl b14 ?_
      refine SO.v rfl (opv_move rfl) ?_
      refine SO.takeT rfl rfl rfl b14 ?_
      refine SO.v rfl (opv_not rfl) ?_
      refine SO.v rfl (opv_pick_f' b14 rfl rfl) ?_
      refine SO.b1 ?_
      refine SO.b1 ?_
      exact hk2.fitc (m := 3) rfl (or_f b14) rfl
  refine SO.v rfl (opv_move rfl) ?_
  refine SO.cut 3 40 (.bool (((((!t2) || (!t4)) || (!t6)) || (!t8)) || (!t10))) [Box b1 [.int .i64 a0.Kind, .int .i64 a0.Rights, .int .i64 a0.Obj, .int .i64 a0.Badge, .int .i64 a0.Guard, .int .i64 a0.Bits], F] (fun l2 hk2 => ?_) ?_
  · rcases bool_or ((((!t2) || (!t4)) || (!t6)) || (!t8)) with b15 | b15
    · refine SO.passF rfl rfl rfl b15 rfl rfl ?_
      refine SO.passF rfl rfl rfl b15 rfl rfl ?_
      refine SO.v rfl (opv_pick_t' b15 rfl rfl) ?_
      refine SO.b1 ?_
      refine SO.b1 ?_
      exact hk2.fitc (m := 3) rfl (or_t b15) rfl
    · refine SO.takeT rfl rfl rfl b15 ?_
      refine SO.v rfl (opv_move rfl) ?_
      refine SO.takeT rfl rfl rfl b15 ?_
      refine SO.v rfl (opv_not rfl) ?_
      refine SO.v rfl (opv_pick_f' b15 rfl rfl) ?_
      refine SO.b1 ?_
      refine SO.b1 ?_
      exact hk2.fitc (m := 3) rfl (or_f b15) rfl
  refine SO.nil ?_
  refine S.to (ρ' := [(1, bp b1 0), (2, .bool false), (40, .bool (((((!t2) || (!t4)) || (!t6)) || (!t8)) || (!t10)))]) ⟨rfl, rfl, rfl, trivial⟩ ?_
  rcases bool_or (((((!t2) || (!t4)) || (!t6)) || (!t8)) || (!t10)) with b16 | b16
  · replace h := cond_t b16 h
    refine S.condT rfl b16 ?_
    refine S.seq ?_
    refine S.region ?_
    refine SO.v rfl (opv_assign rfl) ?_
    refine SO.nil ?_
    cases h
    refine S.drop ?_
    exact S.ret1 Try.func57 rfl rfl (fun w hs hk => hR w _ _ ⟨rfl, rfl⟩ hs hk)
  · replace h := cond_f b16 h
    refine S.condF rfl b16 ?_
    refine S.skip ?_
    refine S.seq ?_
    refine S.seq ?_
    refine S.region ?_
    refine SO.v rfl (opv_fieldAddr Try.underlying49 rfl Try.sizeOf3 rfl rfl) ?_
    refine SO.load1 rfl Try.isAgg3 rfl rfl ?_
    refine SO.v rfl (opv_eql rfl rfl) ?_
    refine SO.v rfl (opv_move rfl) ?_
    refine SO.cut 9 53 (.bool ((a0.Kind == 0) && ((a0.Rights != 0) || (a0.Obj != 0)))) [Box b1 [.int .i64 a0.Kind, .int .i64 a0.Rights, .int .i64 a0.Obj, .int .i64 a0.Badge, .int .i64 a0.Guard, .int .i64 a0.Bits], F] (fun l2 hk2 => ?_) ?_
    · rcases bool_or (a0.Kind == 0) with b17 | b17
      · refine SO.takeT rfl rfl rfl b17 ?_
        refine SO.v rfl (opv_fieldAddr Try.underlying49 rfl Try.sizeOf3 rfl rfl) ?_
        refine SO.takeT rfl rfl rfl b17 ?_
        refine SO.load1 rfl Try.isAgg3 rfl rfl ?_
        refine SO.takeT rfl rfl rfl b17 ?_
        refine SO.v rfl (opv_neq rfl rfl) ?_
        refine SO.takeT rfl rfl rfl b17 ?_
        refine SO.v rfl (opv_move rfl) ?_
        refine SO.cut 4 52 (.bool ((a0.Rights != 0) || (a0.Obj != 0))) [Box b1 [.int .i64 a0.Kind, .int .i64 a0.Rights, .int .i64 a0.Obj, .int .i64 a0.Badge, .int .i64 a0.Guard, .int .i64 a0.Bits], F] (fun l2 hk2 => ?_) ?_
        · rcases bool_or (a0.Rights != 0) with b18 | b18
          · refine SO.passF rfl rfl rfl b18 rfl rfl ?_
            refine SO.passF rfl rfl rfl b18 rfl rfl ?_
            refine SO.passF rfl rfl rfl b18 rfl rfl ?_
            refine SO.takeT rfl rfl rfl b17 ?_
            refine SO.v rfl (opv_pick_t' b18 rfl rfl) ?_
            refine SO.b1 ?_
            refine SO.b1 ?_
            exact hk2.fitc (m := 4) rfl (or_t b18) rfl
          · refine SO.takeT rfl rfl rfl b18 ?_
            refine SO.v rfl (opv_fieldAddr Try.underlying49 rfl Try.sizeOf3 rfl rfl) ?_
            refine SO.takeT rfl rfl rfl b18 ?_
            refine SO.load1 rfl Try.isAgg3 rfl rfl ?_
            refine SO.takeT rfl rfl rfl b18 ?_
            refine SO.v rfl (opv_neq rfl rfl) ?_
            refine SO.takeT rfl rfl rfl b17 ?_
            refine SO.v rfl (opv_pick_f' b18 rfl rfl) ?_
            refine SO.b1 ?_
            refine SO.b1 ?_
            exact hk2.fitc (m := 4) rfl (or_f b18) rfl
        refine SO.v rfl (opv_pick_t' b17 rfl rfl) ?_
        refine SO.b1 ?_
        refine SO.b1 ?_
        exact hk2.fitc (m := 6) rfl (and_t b17) rfl
      · refine SO.passF rfl rfl rfl b17 rfl rfl ?_
        refine SO.passF rfl rfl rfl b17 rfl rfl ?_
        refine SO.passF rfl rfl rfl b17 rfl rfl ?_
        refine SO.passF rfl rfl rfl b17 rfl rfl ?_
        refine SO.pass_undef rfl rfl rfl rfl ?_
        refine SO.pass_undef rfl rfl rfl rfl ?_
        refine SO.pass_undef rfl rfl rfl rfl ?_
        refine SO.passF rfl rfl rfl b17 rfl rfl ?_
        refine SO.v rfl (opv_pick_f' b17 rfl rfl) ?_
        refine SO.b1 ?_
        refine SO.b1 ?_
        exact hk2.fitc (m := 9) rfl (and_f b17) rfl
    refine SO.nil ?_
    rcases bool_or ((a0.Kind == 0) && ((a0.Rights != 0) || (a0.Obj != 0))) with b19 | b19
    · replace h := cond_t b19 h
      refine S.condT rfl b19 ?_
      refine S.seq ?_
      refine S.region ?_
      refine SO.v rfl (opv_assign rfl) ?_
      refine SO.nil ?_
      refine S.to (ρ' := [(2, .bool false)]) ⟨rfl, trivial⟩ ?_
      cases h
      refine S.drop ?_
      exact S.ret1 Try.func57 rfl rfl (fun w hs hk => hR w _ _ ⟨rfl, rfl⟩ hs hk)
    · replace h := cond_f b19 h
      refine S.condF rfl b19 ?_
      refine S.skip ?_
      refine S.seq ?_
      refine S.seq ?_
      refine S.region ?_
      refine SO.v rfl (opv_fieldAddr Try.underlying49 rfl Try.sizeOf3 rfl rfl) ?_
      refine SO.load1 rfl Try.isAgg3 rfl rfl ?_
      refine SO.v rfl (opv_neq rfl rfl) ?_
      refine SO.v rfl (opv_move rfl) ?_
      refine SO.cut 4 61 (.bool ((a0.Kind != 3) && (a0.Kind != 4))) [Box b1 [.int .i64 a0.Kind, .int .i64 a0.Rights, .int .i64 a0.Obj, .int .i64 a0.Badge, .int .i64 a0.Guard, .int .i64 a0.Bits], F] (fun l2 hk2 => ?_) ?_
      · rcases bool_or (a0.Kind != 3) with b20 | b20
        · refine SO.takeT rfl rfl rfl b20 ?_
          refine SO.v rfl (opv_fieldAddr Try.underlying49 rfl Try.sizeOf3 rfl rfl) ?_
          refine SO.takeT rfl rfl rfl b20 ?_
          refine SO.load1 rfl Try.isAgg3 rfl rfl ?_
          refine SO.takeT rfl rfl rfl b20 ?_
          refine SO.v rfl (opv_neq rfl rfl) ?_
          refine SO.v rfl (opv_pick_t' b20 rfl rfl) ?_
          refine SO.b1 ?_
          refine SO.b1 ?_
          exact hk2.fitc (m := 4) rfl (and_t b20) rfl
        · refine SO.passF rfl rfl rfl b20 rfl rfl ?_
          refine SO.passF rfl rfl rfl b20 rfl rfl ?_
          refine SO.passF rfl rfl rfl b20 rfl rfl ?_
          refine SO.v rfl (opv_pick_f' b20 rfl rfl) ?_
          refine SO.b1 ?_
          refine SO.b1 ?_
          exact hk2.fitc (m := 4) rfl (and_f b20) rfl
      refine SO.v rfl (opv_move rfl) ?_
      refine SO.cut 4 66 (.bool (((a0.Kind != 3) && (a0.Kind != 4)) && (a0.Badge != 0))) [Box b1 [.int .i64 a0.Kind, .int .i64 a0.Rights, .int .i64 a0.Obj, .int .i64 a0.Badge, .int .i64 a0.Guard, .int .i64 a0.Bits], F] (fun l2 hk2 => ?_) ?_
      · rcases bool_or ((a0.Kind != 3) && (a0.Kind != 4)) with b21 | b21
        · refine SO.takeT rfl rfl rfl b21 ?_
          refine SO.v rfl (opv_fieldAddr Try.underlying49 rfl Try.sizeOf3 rfl rfl) ?_
          refine SO.takeT rfl rfl rfl b21 ?_
          refine SO.load1 rfl Try.isAgg3 rfl rfl ?_
          refine SO.takeT rfl rfl rfl b21 ?_
          refine SO.v rfl (opv_neq rfl rfl) ?_
          refine SO.v rfl (opv_pick_t' b21 rfl rfl) ?_
          refine SO.b1 ?_
          refine SO.b1 ?_
          exact hk2.fitc (m := 4) rfl (and_t b21) rfl
        · refine SO.passF rfl rfl rfl b21 rfl rfl ?_
          refine SO.passF rfl rfl rfl b21 rfl rfl ?_
          refine SO.passF rfl rfl rfl b21 rfl rfl ?_
          refine SO.v rfl (opv_pick_f' b21 rfl rfl) ?_
          refine SO.b1 ?_
          refine SO.b1 ?_
          exact hk2.fitc (m := 4) rfl (and_f b21) rfl
      refine SO.nil ?_
      refine S.to (ρ' := [(1, bp b1 0), (2, .bool false), (66, .bool (((a0.Kind != 3) && (a0.Kind != 4)) && (a0.Badge != 0)))]) ⟨rfl, rfl, rfl, trivial⟩ ?_
      rcases bool_or (((a0.Kind != 3) && (a0.Kind != 4)) && (a0.Badge != 0)) with b22 | b22
      · replace h := cond_t b22 h
        refine S.condT rfl b22 ?_
        refine S.seq ?_
        refine S.region ?_
        refine SO.v rfl (opv_assign rfl) ?_
        refine SO.nil ?_
        cases h
        refine S.drop ?_
        exact S.ret1 Try.func57 rfl rfl (fun w hs hk => hR w _ _ ⟨rfl, rfl⟩ hs hk)
      · replace h := cond_f b22 h
        refine S.condF rfl b22 ?_
        refine S.skip ?_
        refine S.seq ?_
        refine S.seq ?_
        refine S.region ?_
        refine SO.v rfl (opv_fieldAddr Try.underlying49 rfl Try.sizeOf3 rfl rfl) ?_
        refine SO.load1 rfl Try.isAgg3 rfl rfl ?_
        refine SO.v rfl (opv_neq rfl rfl) ?_
        refine SO.v rfl (opv_move rfl) ?_
        refine SO.cut 9 79 (.bool ((a0.Kind != 2) && ((a0.Bits != 0) || (a0.Guard != 0)))) [Box b1 [.int .i64 a0.Kind, .int .i64 a0.Rights, .int .i64 a0.Obj, .int .i64 a0.Badge, .int .i64 a0.Guard, .int .i64 a0.Bits], F] (fun l2 hk2 => ?_) ?_
        · rcases bool_or (a0.Kind != 2) with b23 | b23
          · refine SO.takeT rfl rfl rfl b23 ?_
            refine SO.v rfl (opv_fieldAddr Try.underlying49 rfl Try.sizeOf3 rfl rfl) ?_
            refine SO.takeT rfl rfl rfl b23 ?_
            refine SO.load1 rfl Try.isAgg3 rfl rfl ?_
            refine SO.takeT rfl rfl rfl b23 ?_
            refine SO.v rfl (opv_neq rfl rfl) ?_
            refine SO.takeT rfl rfl rfl b23 ?_
            refine SO.v rfl (opv_move rfl) ?_
            refine SO.cut 4 78 (.bool ((a0.Bits != 0) || (a0.Guard != 0))) [Box b1 [.int .i64 a0.Kind, .int .i64 a0.Rights, .int .i64 a0.Obj, .int .i64 a0.Badge, .int .i64 a0.Guard, .int .i64 a0.Bits], F] (fun l2 hk2 => ?_) ?_
            · rcases bool_or (a0.Bits != 0) with b24 | b24
              · refine SO.passF rfl rfl rfl b24 rfl rfl ?_
                refine SO.passF rfl rfl rfl b24 rfl rfl ?_
                refine SO.passF rfl rfl rfl b24 rfl rfl ?_
                refine SO.takeT rfl rfl rfl b23 ?_
                refine SO.v rfl (opv_pick_t' b24 rfl rfl) ?_
                refine SO.b1 ?_
                refine SO.b1 ?_
                exact hk2.fitc (m := 4) rfl (or_t b24) rfl
              · refine SO.takeT rfl rfl rfl b24 ?_
                refine SO.v rfl (opv_fieldAddr Try.underlying49 rfl Try.sizeOf3 rfl rfl) ?_
                refine SO.takeT rfl rfl rfl b24 ?_
                refine SO.load1 rfl Try.isAgg3 rfl rfl ?_
                refine SO.takeT rfl rfl rfl b24 ?_
                refine SO.v rfl (opv_neq rfl rfl) ?_
                refine SO.takeT rfl rfl rfl b23 ?_
                refine SO.v rfl (opv_pick_f' b24 rfl rfl) ?_
                refine SO.b1 ?_
                refine SO.b1 ?_
                exact hk2.fitc (m := 4) rfl (or_f b24) rfl
            refine SO.v rfl (opv_pick_t' b23 rfl rfl) ?_
            refine SO.b1 ?_
            refine SO.b1 ?_
            exact hk2.fitc (m := 6) rfl (and_t b23) rfl
          · refine SO.passF rfl rfl rfl b23 rfl rfl ?_
            refine SO.passF rfl rfl rfl b23 rfl rfl ?_
            refine SO.passF rfl rfl rfl b23 rfl rfl ?_
            refine SO.passF rfl rfl rfl b23 rfl rfl ?_
            refine SO.pass_undef rfl rfl rfl rfl ?_
            refine SO.pass_undef rfl rfl rfl rfl ?_
            refine SO.pass_undef rfl rfl rfl rfl ?_
            refine SO.passF rfl rfl rfl b23 rfl rfl ?_
            refine SO.v rfl (opv_pick_f' b23 rfl rfl) ?_
            refine SO.b1 ?_
            refine SO.b1 ?_
            exact hk2.fitc (m := 9) rfl (and_f b23) rfl
        refine SO.nil ?_
        rcases bool_or ((a0.Kind != 2) && ((a0.Bits != 0) || (a0.Guard != 0))) with b25 | b25
        · replace h := cond_t b25 h
          refine S.condT rfl b25 ?_
          refine S.seq ?_
          refine S.region ?_
          refine SO.v rfl (opv_assign rfl) ?_
          refine SO.nil ?_
          refine S.to (ρ' := [(2, .bool false)]) ⟨rfl, trivial⟩ ?_
          cases h
          refine S.drop ?_
          exact S.ret1 Try.func57 rfl rfl (fun w hs hk => hR w _ _ ⟨rfl, rfl⟩ hs hk)
        · replace h := cond_f b25 h
          refine S.condF rfl b25 ?_
          refine S.skip ?_
          refine S.seq ?_
          obtain ⟨j2_1, hC1, hJ1⟩ := opt_bind h
          clear h
          refine S.cutP (G := Unit) (fun _ => True) (fun _ => [(2, .bool j2_1)]) (fun _ => [Box b1 [.int .i64 a0.Kind, .int .i64 a0.Rights, .int .i64 a0.Obj, .int .i64 a0.Badge, .int .i64 a0.Guard, .int .i64 a0.Bits], F]) (fun hk1 => ?_) ?_
          · replace h := hC1
            rcases bool_or (decide (0 ≤ a0.Guard)) with b26 | b26
            · replace h := cond_t b26 h
              obtain ⟨t27, ht28, h⟩ := opt_bind h
              refine S.draw' (Z := fun Q => ∀ (_ : Unit) (_ : Unit) (_ : Unit), Q [(2, .bool (decide (a0.Guard < t27)))] [Box b1 [.int .i64 a0.Kind, .int .i64 a0.Rights, .int .i64 a0.Obj, .int .i64 a0.Badge, .int .i64 a0.Guard, .int .i64 a0.Bits], F]) (T := [tS 1 (bp b1 0), tR (Box b1 [.int .i64 a0.Kind, .int .i64 a0.Rights, .int .i64 a0.Obj, .int .i64 a0.Badge, .int .i64 a0.Guard, .int .i64 a0.Bits]), tR (F), tS 80 (bp b1 4), tS 81 (.int .i64 a0.Guard), tS 82 (.bool (decide (0 ≤ a0.Guard))), tS 83 (.bool (decide (0 ≤ a0.Guard))), tS 84 (bp b1 4), tS 85 (.int .i64 a0.Guard), tS 86 (bp b1 5), tS 87 (.int .i64 a0.Bits), tS 88 (.int .i64 t27), tS 89 (.bool (decide (a0.Guard < t27))), tS 90 (.bool (decide (a0.Guard < t27))), tS 2 (.bool (decide (a0.Guard < t27)))]) (D := [⟨[0], [], [3]⟩, ⟨[3, 1], [], [4]⟩, ⟨[4], [], [5]⟩, ⟨[5], [], [6]⟩, ⟨[0, 6], [], [7]⟩, ⟨[6, 7, 1], [], [8]⟩, ⟨[0, 6], [], [9]⟩, ⟨[6, 9, 1], [], [10]⟩, ⟨[6, 10], [], [11]⟩, ⟨[6, 8, 11], [], [12]⟩, ⟨[6, 12], [], [13]⟩, ⟨[13], [], [14]⟩]) (ini := [0, 1, 2]) (fin := [14, 1, 2]) (bf := [[], [0], [0, 1], [0, 1, 2], [0, 1, 2, 3], [0, 1, 2, 3, 4], [0, 1, 2, 3], [0, 1, 2, 3, 6], [0, 1, 2, 3, 6, 7], [0, 1, 2, 3, 4, 5, 6, 7, 8], [0, 1, 2, 3, 4, 5, 6, 7, 8, 9], [0, 1, 2, 3, 4, 5, 6, 7, 8, 9, 10]]) (by kernel_rfl) (by kernel_rfl) (fun x w h1 h2 => (.cons () (.cons () (.cons () (.nil ⟨EnvAll.of h1 ⟨rfl, trivial⟩, h2⟩))))) (fun Q => by kernel_rfl) ⟨?_, ?_, ?_, ?_, ?_, ?_, ?_, ?_, ?_, ?_, ?_, ?_, trivial⟩ ?_
              · rintro Fr _
                refine SO.v rfl (opv_fieldAddr Try.underlying49 rfl Try.sizeOf3 rfl rfl) ?_
                exact SO.nilZ fun a w h1 h2 h3 h4 h5 => PZ.of h1 h3 h5 (.cons () (.cons () (.nil ⟨EnvAll.of h2 ⟨rfl, rfl, trivial⟩, h4⟩)))
              · rintro Fr _ _
                refine SO.load1 rfl Try.isAgg3 rfl rfl ?_
                exact SO.nilZ fun a w h1 h2 h3 h4 h5 => PZ.of h1 h3 h5 (.cons () (.cons () (.cons () (.nil ⟨EnvAll.of h2 ⟨rfl, rfl, trivial⟩, h4⟩))))
              · rintro Fr _
                refine SO.v rfl (opv_geq rfl rfl) ?_
                exact SO.nilZ fun a w h1 h2 h3 h4 h5 => PZ.of h1 h3 h5 (.cons () (.cons () (.nil ⟨EnvAll.of h2 ⟨rfl, rfl, trivial⟩, h4⟩)))
              · rintro Fr _
                refine SO.v rfl (opv_move rfl) ?_
                exact SO.nilZ fun a w h1 h2 h3 h4 h5 => PZ.of h1 h3 h5 (.cons () (.cons () (.nil ⟨EnvAll.of h2 ⟨rfl, rfl, trivial⟩, h4⟩)))
              · rintro Fr _ _
                refine SO.takeT rfl rfl rfl b26 ?_
                refine SO.v rfl (opv_fieldAddr Try.underlying49 rfl Try.sizeOf3 rfl rfl) ?_
                exact SO.nilZ fun a w h1 h2 h3 h4 h5 => PZ.of h1 h3 h5 (.cons () (.cons () (.cons () (.nil ⟨EnvAll.of h2 ⟨rfl, rfl, rfl, trivial⟩, h4⟩))))
              · rintro Fr _ _ _
                refine SO.takeT rfl rfl rfl b26 ?_
                refine SO.load1 rfl Try.isAgg3 rfl rfl ?_
                exact SO.nilZ fun a w h1 h2 h3 h4 h5 => PZ.of h1 h3 h5 (.cons () (.cons () (.cons () (.cons () (.nil ⟨EnvAll.of h2 ⟨rfl, rfl, rfl, trivial⟩, h4⟩)))))
              · rintro Fr _ _
                refine SO.takeT rfl rfl rfl b26 ?_
                refine SO.v rfl (opv_fieldAddr Try.underlying49 rfl Try.sizeOf3 rfl rfl) ?_
                exact SO.nilZ fun a w h1 h2 h3 h4 h5 => PZ.of h1 h3 h5 (.cons () (.cons () (.cons () (.nil ⟨EnvAll.of h2 ⟨rfl, rfl, rfl, trivial⟩, h4⟩))))
              · rintro Fr _ _ _
                refine SO.takeT rfl rfl rfl b26 ?_
                refine SO.load1 rfl Try.isAgg3 rfl rfl ?_
                exact SO.nilZ fun a w h1 h2 h3 h4 h5 => PZ.of h1 h3 h5 (.cons () (.cons () (.cons () (.cons () (.nil ⟨EnvAll.of h2 ⟨rfl, rfl, rfl, trivial⟩, h4⟩)))))
              · rintro Fr _ _
                refine SO.takeT rfl rfl rfl b26 ?_
                refine SO.call (pre := []) rfl Try.call73 rfl rfl rfl (ref01_two.ct _ _ _ ht28) trivial ?_
                rintro _ _ ⟨rfl, rfl⟩
                exact SO.nilZ fun a w h1 h2 h3 h4 h5 => PZ.of h1 h3 h5 (.cons () (.cons () (.cons () (.nil ⟨EnvAll.of h2 ⟨rfl, rfl, rfl, trivial⟩, h4⟩))))
              · rintro Fr _ _ _
                refine SO.takeT rfl rfl rfl b26 ?_
                refine SO.v rfl (opv_lss rfl rfl) ?_
                exact SO.nilZ fun a w h1 h2 h3 h4 h5 => PZ.of h1 h3 h5 (.cons () (.cons () (.cons () (.cons () (.nil ⟨EnvAll.of h2 ⟨rfl, rfl, rfl, rfl, trivial⟩, h4⟩)))))
              · rintro Fr _ _
                refine SO.v rfl (opv_pick_t' b26 rfl rfl) ?_
                exact SO.nilZ fun a w h1 h2 h3 h4 h5 => PZ.of h1 h3 h5 (.cons () (.cons () (.cons () (.nil ⟨EnvAll.of h2 ⟨rfl, rfl, rfl, trivial⟩, h4⟩))))
              · rintro Fr _
                refine SO.v rfl (opv_assign rfl) ?_
                exact SO.nilZ fun a w h1 h2 h3 h4 h5 => PZ.of h1 h3 h5 (.cons () (.cons () (.nil ⟨EnvAll.of h2 ⟨rfl, rfl, trivial⟩, h4⟩)))
              rintro _ _ _
              refine S.to (ρ' := [(2, .bool (decide (a0.Guard < t27)))]) ⟨rfl, trivial⟩ ?_
              cases h
              refine S.b1 ?_
              refine S.b1 ?_
              refine S.to ?_ (hk1 () trivial)
              exact ⟨rfl, trivial⟩
            · replace h := cond_f b26 h
              refine S.draw' (Z := fun Q => ∀ (_ : Unit) (_ : Unit) (_ : Unit), Q [(2, .bool false)] [Box b1 [.int .i64 a0.Kind, .int .i64 a0.Rights, .int .i64 a0.Obj, .int .i64 a0.Badge, .int .i64 a0.Guard, .int .i64 a0.Bits], F]) (T := [tS 1 (bp b1 0), tR (Box b1 [.int .i64 a0.Kind, .int .i64 a0.Rights, .int .i64 a0.Obj, .int .i64 a0.Badge, .int .i64 a0.Guard, .int .i64 a0.Bits]), tR (F), tS 80 (bp b1 4), tS 81 (.int .i64 a0.Guard), tS 82 (.bool (decide (0 ≤ a0.Guard))), tS 83 (.bool (decide (0 ≤ a0.Guard))), tS 84 (undef), tS 85 (undef), tS 86 (undef), tS 87 (undef), tS 88 (undef), tS 89 (undef), tS 90 (.bool false), tS 2 (.bool false)]) (D := [⟨[0], [], [3]⟩, ⟨[3, 1], [], [4]⟩, ⟨[4], [], [5]⟩, ⟨[5], [], [6]⟩, ⟨[6], [], [7]⟩, ⟨[6], [], [8]⟩, ⟨[6], [], [9]⟩, ⟨[6], [], [10]⟩, ⟨[6], [], [11]⟩, ⟨[6], [], [12]⟩, ⟨[6, 12], [], [13]⟩, ⟨[13], [], [14]⟩]) (ini := [0, 1, 2]) (fin := [14, 1, 2]) (bf := [[], [0], [0, 1], [0, 1, 2], [0, 1, 2, 3], [0, 1, 2, 3, 4], [0, 1, 2, 3], [0, 1, 2, 3, 6], [0, 1, 2, 3, 6, 7], [0, 1, 2, 3, 4, 5, 6, 7, 8], [0, 1, 2, 3, 4, 5, 6, 7, 8, 9], [0, 1, 2, 3, 4, 5, 6, 7, 8, 9, 10]]) (by kernel_rfl) (by kernel_rfl) (fun x w h1 h2 => (.cons () (.cons () (.cons () (.nil ⟨EnvAll.of h1 ⟨rfl, trivial⟩, h2⟩))))) (fun Q => by kernel_rfl) ⟨?_, ?_, ?_, ?_, ?_, ?_, ?_, ?_, ?_, ?_, ?_, ?_, trivial⟩ ?_
              · rintro Fr _
                refine SO.v rfl (opv_fieldAddr Try.underlying49 rfl Try.sizeOf3 rfl rfl) ?_
                exact SO.nilZ fun a w h1 h2 h3 h4 h5 => PZ.of h1 h3 h5 (.cons () (.cons () (.nil ⟨EnvAll.of h2 ⟨rfl, rfl, trivial⟩, h4⟩)))
              · rintro Fr _ _
                refine SO.load1 rfl Try.isAgg3 rfl rfl ?_
                exact SO.nilZ fun a w h1 h2 h3 h4 h5 => PZ.of h1 h3 h5 (.cons () (.cons () (.cons () (.nil ⟨EnvAll.of h2 ⟨rfl, rfl, trivial⟩, h4⟩))))
              · rintro Fr _
                refine SO.v rfl (opv_geq rfl rfl) ?_
                exact SO.nilZ fun a w h1 h2 h3 h4 h5 => PZ.of h1 h3 h5 (.cons () (.cons () (.nil ⟨EnvAll.of h2 ⟨rfl, rfl, trivial⟩, h4⟩)))
              · rintro Fr _
                refine SO.v rfl (opv_move rfl) ?_
                exact SO.nilZ fun a w h1 h2 h3 h4 h5 => PZ.of h1 h3 h5 (.cons () (.cons () (.nil ⟨EnvAll.of h2 ⟨rfl, rfl, trivial⟩, h4⟩)))
              · rintro Fr _
                refine SO.passF rfl rfl rfl b26 rfl rfl ?_
                exact SO.nilZ fun a w h1 h2 h3 h4 h5 => PZ.of h1 h3 h5 (.cons () (.cons () (.nil ⟨EnvAll.of h2 ⟨rfl, rfl, trivial⟩, h4⟩)))
              · rintro Fr _
                refine SO.passF rfl rfl rfl b26 rfl rfl ?_
                exact SO.nilZ fun a w h1 h2 h3 h4 h5 => PZ.of h1 h3 h5 (.cons () (.cons () (.nil ⟨EnvAll.of h2 ⟨rfl, rfl, trivial⟩, h4⟩)))
              · rintro Fr _
                refine SO.passF rfl rfl rfl b26 rfl rfl ?_
                exact SO.nilZ fun a w h1 h2 h3 h4 h5 => PZ.of h1 h3 h5 (.cons () (.cons () (.nil ⟨EnvAll.of h2 ⟨rfl, rfl, trivial⟩, h4⟩)))
              · rintro Fr _
                refine SO.passF rfl rfl rfl b26 rfl rfl ?_
                exact SO.nilZ fun a w h1 h2 h3 h4 h5 => PZ.of h1 h3 h5 (.cons () (.cons () (.nil ⟨EnvAll.of h2 ⟨rfl, rfl, trivial⟩, h4⟩)))
              · rintro Fr _
                refine SO.passF rfl rfl rfl b26 rfl rfl ?_
                exact SO.nilZ fun a w h1 h2 h3 h4 h5 => PZ.of h1 h3 h5 (.cons () (.cons () (.nil ⟨EnvAll.of h2 ⟨rfl, rfl, trivial⟩, h4⟩)))
              · rintro Fr _
                refine SO.passF rfl rfl rfl b26 rfl rfl ?_
                exact SO.nilZ fun a w h1 h2 h3 h4 h5 => PZ.of h1 h3 h5 (.cons () (.cons () (.nil ⟨EnvAll.of h2 ⟨rfl, rfl, trivial⟩, h4⟩)))
              · rintro Fr _ _
                refine SO.v rfl (opv_pick_f' b26 rfl rfl) ?_
                exact SO.nilZ fun a w h1 h2 h3 h4 h5 => PZ.of h1 h3 h5 (.cons () (.cons () (.cons () (.nil ⟨EnvAll.of h2 ⟨rfl, rfl, rfl, trivial⟩, h4⟩))))
              · rintro Fr _
                refine SO.v rfl (opv_assign rfl) ?_
                exact SO.nilZ fun a w h1 h2 h3 h4 h5 => PZ.of h1 h3 h5 (.cons () (.cons () (.nil ⟨EnvAll.of h2 ⟨rfl, rfl, trivial⟩, h4⟩)))
              rintro _ _ _
              refine S.to (ρ' := [(2, .bool false)]) ⟨rfl, trivial⟩ ?_
              cases h
              refine S.b1 ?_
              refine S.b1 ?_
              refine S.to ?_ (hk1 () trivial)
              exact ⟨rfl, trivial⟩
          rintro _ -
          replace h := hJ1
          cases h
          refine S.drop ?_
          exact S.ret1 Try.func57 rfl rfl (fun w hs hk => hR w _ _ ⟨rfl, rfl⟩ hs hk)
end Go.Proofs
namespace Go.Proofs
open Go.Sl Go.RowKit
/-! 58 (*padstone/padstoneref10.State).Fine -/
def ref10_State_Fine.f (a0 : ref10_State) (a1 : api_Cap) : Option (Bool) :=
  (bif a1.Kind == 2 then ((ref10_State_is.f a0 a1.Obj 2).bind fun t9 => some t9) else (some false)).bind fun c7 => some c7
set_option maxHeartbeats 8000000 in
set_option maxRecDepth 100000 in
theorem ref10_State_Fine.ct (bp0 : Nat) (v0_Slots : Value) (v0_Objs : Value) (raws_v0_Slots : List (Raw (kr_ref10_Slot).sz)) (A_v0_Slots : HProp) (raws_v0_Objs : List (Raw (kr_ref10_Obj).sz)) (A_v0_Objs : HProp) (a0 : ref10_State) (a1 : api_Cap) (r0 : Bool) (h : ref10_State_Fine.f a0 a1 = some r0) :
    Ct Try.prog 58 [bp bp0 0, .agg #[.int .i64 a1.Kind, .int .i64 a1.Rights, .int .i64 a1.Obj, .int .i64 a1.Badge, .int .i64 a1.Guard, .int .i64 a1.Bits]] (fun _ => True) [Box bp0 [v0_Slots, v0_Objs, .int .i64 a0.NS, .int .i64 a0.NO], OwnO 81 kr_ref10_Slot v0_Slots raws_v0_Slots A_v0_Slots a0.Slots, OwnO 72 kr_ref10_Obj v0_Objs raws_v0_Objs A_v0_Objs a0.Objs] (fun u H' => u = .bool r0 ∧ H' = [Box bp0 [v0_Slots, v0_Objs, .int .i64 a0.NS, .int .i64 a0.NO], OwnO 81 kr_ref10_Slot v0_Slots raws_v0_Slots A_v0_Slots a0.Slots, OwnO 72 kr_ref10_Obj v0_Objs raws_v0_Objs A_v0_Objs a0.Objs]) := by
  unfold ref10_State_Fine.f at h
  refine Ct.intro (n := 14) Try.func58 rfl rfl rfl ?_
  intro R w0 F hF hR
  refine S.b1 ?_
  refine S.rdO fun hrel1 hR2 => ?_
  refine S.b2 ?_
  refine S.rdO fun hrel3 hR4 => ?_
  refine S.seq ?_
  refine S.region ?_
  refine SO.box rfl rfl rfl (fun b5 => ?_)
  refine SO.v rfl (opv_assign rfl) ?_
  refine SO.nil ?_
  refine S.seq ?_
  refine S.region ?_
  refine SO.v rfl (opv_fieldAddr Try.underlying49 rfl Try.sizeOf3 rfl rfl) ?_
  refine SO.load1 rfl Try.isAgg3 rfl rfl ?_
  refine SO.v rfl (opv_eql rfl rfl) ?_
  refine SO.v rfl (opv_move rfl) ?_
  obtain ⟨c7, hc8, hgk⟩ := opt_bind h
  refine SO.cut 5 13 (.bool c7) [Box b5 [.int .i64 a1.Kind, .int .i64 a1.Rights, .int .i64 a1.Obj, .int .i64 a1.Badge, .int .i64 a1.Guard, .int .i64 a1.Bits], OwnO 72 kr_ref10_Obj v0_Objs raws_v0_Objs A_v0_Objs a0.Objs, OwnO 81 kr_ref10_Slot v0_Slots raws_v0_Slots A_v0_Slots a0.Slots, Box bp0 [v0_Slots, v0_Objs, .int .i64 a0.NS, .int .i64 a0.NO], F] (fun l2 hk2 => ?_) ?_
  · clear hgk
    replace h := hc8
    rcases bool_or (a1.Kind == 2) with b6 | b6
    · replace h := cond_t b6 h
      refine SO.takeT rfl rfl rfl b6 ?_
      refine SO.v rfl (opv_move rfl) ?_
      refine SO.takeT rfl rfl rfl b6 ?_
      refine SO.v rfl (opv_fieldAddr Try.underlying49 rfl Try.sizeOf3 rfl rfl) ?_
      refine SO.takeT rfl rfl rfl b6 ?_
      refine SO.load1 rfl Try.isAgg3 rfl rfl ?_
      refine SO.takeT rfl rfl rfl b6 ?_
      obtain ⟨t9, ht10, h⟩ := opt_bind h
      refine SO.b1 ?_
      refine SO.b2 ?_
      refine SO.b3 ?_
      refine SO.call (pre := [Box _ _, OwnO _ _ _ _ _ _, OwnO _ _ _ _ _ _]) rfl Try.call52 rfl rfl rfl (ref10_State_is.ct bp0 v0_Slots v0_Objs raws_v0_Slots A_v0_Slots raws_v0_Objs A_v0_Objs _ _ _ _ ht10) trivial ?_
      rintro _ _ ⟨rfl, rfl⟩
      cases h
      refine SO.v rfl (opv_pick_t' b6 rfl rfl) ?_
      refine SO.b4 ?_
      refine SO.b1 ?_
      refine SO.b2 ?_
      refine SO.b3 ?_
      refine SO.b4 ?_
      exact hk2.fitc (m := 5) rfl (rfl) rfl
    · replace h := cond_f b6 h
      refine SO.passF rfl rfl rfl b6 rfl rfl ?_
      refine SO.passF rfl rfl rfl b6 rfl rfl ?_
      refine SO.passF rfl rfl rfl b6 rfl rfl ?_
      refine SO.passF rfl rfl rfl b6 rfl rfl ?_
      cases h
      refine SO.v rfl (opv_pick_f' b6 rfl rfl) ?_
      refine SO.b4 ?_
      refine SO.b4 ?_
      refine SO.b4 ?_
      refine SO.b4 ?_
      refine SO.b4 ?_
      exact hk2.fitc (m := 5) rfl (rfl) rfl
  clear hc8
  replace h := hgk
  refine SO.v rfl (opv_assign rfl) ?_
  refine SO.nil ?_
  refine S.to (ρ' := [(4, .bool c7)]) ⟨rfl, trivial⟩ ?_
  cases h
  refine S.drop ?_
  refine S.b3 ?_
  refine S.b1 ?_
  refine S.b2 ?_
  refine S.b3 ?_
  exact S.ret1 Try.func58 rfl rfl (fun w hs hk => hR w _ _ ⟨rfl, rfl⟩ hs hk)
end Go.Proofs
namespace Go.Proofs
open Go.Sl Go.RowKit
/-! 25 (*padstone/padstoneref10.State).SetRoot -/
def ref10_State_SetRoot.f (k : Nat) (a0 : ref10_State) (a1 : Int) (a2 : api_Cap) : Option ((Int × ref10_State)) :=
  (ref10_State_is.f a0 a1 5).bind fun t10 => bif !t10 then (some (2, a0)) else ((ref01_May.f k a2).bind fun t13 => (ref10_State_Fine.f a0 a2).bind fun t15 => bif (!t13) || (!t15) then (some (5, a0)) else ((at_ a0.Objs a1).bind fun x19 => some (0, ({ a0 with Objs := a0.Objs.set a1.toNat ({ x19 with Root := a2 } : ref10_Obj) } : ref10_State))))
set_option maxHeartbeats 8000000 in
set_option maxRecDepth 100000 in
theorem ref10_State_SetRoot.ct (k : Nat) (bp0 : Nat) (v0_Slots : Value) (v0_Objs : Value) (a0 : ref10_State) (a1 : Int) (a2 : api_Cap) (r0 : Int) (rp0 : ref10_State) (h : ref10_State_SetRoot.f k a0 a1 a2 = some (r0, rp0)) :
    Ct Try.prog 25 [bp bp0 0, .int .i64 a1, .agg #[.int .i64 a2.Kind, .int .i64 a2.Rights, .int .i64 a2.Obj, .int .i64 a2.Badge, .int .i64 a2.Guard, .int .i64 a2.Bits]] (fun _ => True) [Box bp0 [v0_Slots, v0_Objs, .int .i64 a0.NS, .int .i64 a0.NO], OwnR 81 kr_ref10_Slot v0_Slots a0.Slots, OwnR 72 kr_ref10_Obj v0_Objs a0.Objs] (fun u H' => ∃ rw0_Slots rw0_Objs, u = .int .i64 r0 ∧ H' = [Box bp0 [rw0_Slots, rw0_Objs, .int .i64 rp0.NS, .int .i64 rp0.NO], OwnR 81 kr_ref10_Slot rw0_Slots rp0.Slots, OwnR 72 kr_ref10_Obj rw0_Objs rp0.Objs]) := by
  unfold ref10_State_SetRoot.f at h
  refine Ct.intro (n := 34) Try.func25 rfl rfl rfl ?_
  intro R w0 F hF hR
  refine S.seq ?_
  refine S.region ?_
  refine SO.box rfl rfl rfl (fun b1 => ?_)
  refine SO.v rfl (opv_assign rfl) ?_
  refine SO.nil ?_
  refine S.seq ?_
  refine S.region ?_
  refine SO.v rfl (opv_move rfl) ?_
  refine SO.v rfl (opv_move rfl) ?_
  obtain ⟨t10, ht11, h⟩ := opt_bind h
  refine SO.b2 ?_
  refine SO.openR fun raws2 A3 hrel4 hR5 => ?_
  refine SO.b3 ?_
  refine SO.openR fun raws6 A7 hrel8 hR9 => ?_
  refine SO.b1 ?_
  refine SO.b3 ?_
  refine SO.call (pre := [Box _ _, OwnO _ _ _ _ _ _, OwnO _ _ _ _ _ _]) rfl Try.call52 rfl rfl rfl (ref10_State_is.ct bp0 v0_Slots v0_Objs raws2 A3 raws6 A7 _ _ _ _ ht11) trivial ?_
  rintro _ _ ⟨rfl, rfl⟩
  refine SO.v rfl (opv_assign rfl) ?_
  refine SO.nil ?_
  refine S.seq ?_
  refine S.seq ?_
  refine S.region ?_
  refine SO.v rfl (opv_move rfl) ?_
  refine SO.v rfl (opv_not rfl) ?_
  refine SO.nil ?_
  rcases bool_or (!t10) with b12 | b12
  · replace h := cond_t b12 h
    refine S.condT rfl b12 ?_
    refine S.seq ?_
    refine S.region ?_
    refine SO.v rfl (opv_assign rfl) ?_
    refine SO.nil ?_
    refine S.to (ρ' := [(6, .int .i64 2)]) ⟨rfl, trivial⟩ ?_
    cases h
    refine S.b1 ?_
    refine S.closeR ?_
    refine S.b2 ?_
    refine S.closeR ?_
    refine S.b3 ?_
    refine S.drop ?_
    refine S.b3 ?_
    refine S.b1 ?_
    refine S.b2 ?_
    refine S.b3 ?_
    exact S.ret1 Try.func25 rfl rfl (fun w hs hk => hR w _ _ ⟨v0_Slots, v0_Objs, rfl, rfl⟩ hs hk)
  · replace h := cond_f b12 h
    refine S.condF rfl b12 ?_
    refine S.skip ?_
    refine S.seq ?_
    refine S.region ?_
    refine SO.b3 ?_
    refine SO.loadN rfl Try.isAgg49 Try.sizeOf49 rfl rfl rfl ?_
    obtain ⟨t13, ht14, h⟩ := opt_bind h
    refine SO.call (pre := []) rfl Try.call57 rfl rfl rfl (ref01_May.ct _ _ _ ht14) trivial ?_
    rintro _ _ ⟨rfl, rfl⟩
    refine SO.v rfl (opv_assign rfl) ?_
    refine SO.nil ?_
    refine S.to (ρ' := [(0, bp bp0 0), (1, .int .i64 a1), (5, bp b1 0), (6, .int .i64 0), (8, .bool t13)]) ⟨rfl, rfl, rfl, rfl, rfl, trivial⟩ ?_
    refine S.seq ?_
    refine S.region ?_
    refine SO.v rfl (opv_move rfl) ?_
    refine SO.loadN rfl Try.isAgg49 Try.sizeOf49 rfl rfl rfl ?_
    obtain ⟨t15, ht16, h⟩ := opt_bind h
    refine SO.b3 ?_
    refine SO.b3 ?_
    refine SO.b3 ?_
    refine SO.call (pre := [Box _ _, OwnO _ _ _ _ _ _, OwnO _ _ _ _ _ _]) rfl Try.call58 rfl rfl rfl (ref10_State_Fine.ct bp0 v0_Slots v0_Objs raws2 A3 raws6 A7 _ _ _ ht16) trivial ?_
    rintro _ _ ⟨rfl, rfl⟩
    refine SO.v rfl (opv_assign rfl) ?_
    refine SO.nil ?_
    refine S.seq ?_
    refine S.seq ?_
    refine S.region ?_
    refine SO.v rfl (opv_move rfl) ?_
    refine SO.v rfl (opv_not rfl) ?_
    refine SO.v rfl (opv_move rfl) ?_
    refine SO.cut 3 25 (.bool ((!t13) || (!t15))) [Box bp0 [v0_Slots, v0_Objs, .int .i64 a0.NS, .int .i64 a0.NO], OwnO 81 kr_ref10_Slot v0_Slots raws2 A3 a0.Slots, OwnO 72 kr_ref10_Obj v0_Objs raws6 A7 a0.Objs, Box b1 [.int .i64 a2.Kind, .int .i64 a2.Rights, .int .i64 a2.Obj, .int .i64 a2.Badge, .int .i64 a2.Guard, .int .i64 a2.Bits], F] (fun l2 hk2 => ?_) ?_
    · rcases bool_or (!t13) with b17 | b17
      · refine SO.passF rfl rfl rfl b17 rfl rfl ?_
        refine SO.passF rfl rfl rfl b17 rfl rfl ?_
        refine SO.v rfl (opv_pick_t' b17 rfl rfl) ?_
        refine SO.b4 ?_
        refine SO.b4 ?_
        refine SO.b4 ?_
        refine SO.b4 ?_
        refine SO.b4 ?_
        exact hk2.fitc (m := 3) rfl (or_t b17) rfl
      · refine SO.takeT rfl rfl rfl b17 ?_
        refine SO.v rfl (opv_move rfl) ?_
        refine SO.takeT rfl rfl rfl b17 ?_
        refine SO.v rfl (opv_not rfl) ?_
        refine SO.v rfl (opv_pick_f' b17 rfl rfl) ?_
        refine SO.b4 ?_
        refine SO.b4 ?_
        refine SO.b4 ?_
        refine SO.b4 ?_
        refine SO.b4 ?_
        exact hk2.fitc (m := 3) rfl (or_f b17) rfl
    refine SO.nil ?_
    refine S.to (ρ' := [(0, bp bp0 0), (1, .int .i64 a1), (5, bp b1 0), (6, .int .i64 0), (25, .bool ((!t13) || (!t15)))]) ⟨rfl, rfl, rfl, rfl, rfl, trivial⟩ ?_
    rcases bool_or ((!t13) || (!t15)) with b18 | b18
    · replace h := cond_t b18 h
      refine S.condT rfl b18 ?_
      refine S.seq ?_
      refine S.region ?_
      refine SO.v rfl (opv_assign rfl) ?_
      refine SO.nil ?_
      cases h
      refine S.b1 ?_
      refine S.closeR ?_
      refine S.b2 ?_
      refine S.closeR ?_
      refine S.b3 ?_
      refine S.drop ?_
      refine S.b3 ?_
      refine S.b1 ?_
      refine S.b2 ?_
      refine S.b3 ?_
      exact S.ret1 Try.func25 rfl rfl (fun w hs hk => hR w _ _ ⟨v0_Slots, v0_Objs, rfl, rfl⟩ hs hk)
    · replace h := cond_f b18 h
      refine S.condF rfl b18 ?_
      refine S.skip ?_
      refine S.seq ?_
      obtain ⟨x19, hx20, h⟩ := opt_bind h
      obtain ⟨r21, hr22, hc23⟩ := relR.at hrel8 hx20
      refine S.draw' (Z := fun Q => ∀ (_ : Unit) (_ : Unit) (_ : Unit) (_ : Unit) (_ : Unit) (_ : Unit), Q [(6, .int .i64 0)] [Box bp0 [v0_Slots, v0_Objs, .int .i64 a0.NS, .int .i64 a0.NO], OwnO 81 kr_ref10_Slot v0_Slots raws2 A3 a0.Slots, OwnR 72 kr_ref10_Obj v0_Objs (a0.Objs.set a1.toNat ({ x19 with Root := a2 } : ref10_Obj)), Box b1 [.int .i64 a2.Kind, .int .i64 a2.Rights, .int .i64 a2.Obj, .int .i64 a2.Badge, .int .i64 a2.Guard, .int .i64 a2.Bits], F]) (T := [tS 0 (bp bp0 0), tS 1 (.int .i64 a1), tS 5 (bp b1 0), tS 6 (.int .i64 0), tR (Box bp0 [v0_Slots, v0_Objs, .int .i64 a0.NS, .int .i64 a0.NO]), tR (OwnO 81 kr_ref10_Slot v0_Slots raws2 A3 a0.Slots), tR (OwnO 72 kr_ref10_Obj v0_Objs raws6 A7 a0.Objs), tR (Box b1 [.int .i64 a2.Kind, .int .i64 a2.Rights, .int .i64 a2.Obj, .int .i64 a2.Badge, .int .i64 a2.Guard, .int .i64 a2.Bits]), tR (F), tS 26 (bp bp0 0), tS 27 (bp bp0 0), tS 28 (bp bp0 1), tS 29 (v0_Objs), tS 30 (.int .i64 a1), tS 31 (.agg #[.int .i64 a2.Kind, .int .i64 a2.Rights, .int .i64 a2.Obj, .int .i64 a2.Badge, .int .i64 a2.Guard, .int .i64 a2.Bits]), tS 32 (idxp v0_Objs (a1.toNat * kr_ref10_Obj.sz)), tS 33 (idxp v0_Objs (a1.toNat * kr_ref10_Obj.sz + 14)), tR (OwnR 72 kr_ref10_Obj v0_Objs (a0.Objs.set a1.toNat ({ x19 with Root := a2 } : ref10_Obj)))]) (D := [⟨[0], [], [9]⟩, ⟨[9], [], [10]⟩, ⟨[10], [], [11]⟩, ⟨[11, 4], [], [12]⟩, ⟨[1], [], [13]⟩, ⟨[2, 7], [], [14]⟩, ⟨[12, 13, 6], [], [15]⟩, ⟨[15, 6], [], [16]⟩, ⟨[14, 16], [6], [17]⟩]) (ini := [0, 1, 2, 3, 4, 5, 6, 7, 8]) (fin := [3, 4, 5, 17, 7, 8]) (bf := [[], [0], [0, 1], [0, 1, 2], [], [], [0, 1, 2, 3, 4, 5], [0, 1, 2, 3, 4, 5, 6], [0, 1, 2, 3, 4, 5, 6, 7]]) (by kernel_rfl) (by kernel_rfl) (fun x w h1 h2 => (.cons () (.cons () (.cons () (.cons () (.cons () (.cons () (.cons () (.cons () (.cons () (.nil ⟨EnvAll.of h1 ⟨rfl, rfl, rfl, rfl, trivial⟩, h2⟩))))))))))) (fun Q => by kernel_rfl) ⟨?_, ?_, ?_, ?_, ?_, ?_, ?_, ?_, ?_, trivial⟩ ?_
      · rintro Fr _
        refine SO.v rfl (opv_move rfl) ?_
        exact SO.nilZ fun a w h1 h2 h3 h4 h5 => PZ.of h1 h3 h5 (.cons () (.cons () (.nil ⟨EnvAll.of h2 ⟨rfl, rfl, trivial⟩, h4⟩)))
      · rintro Fr _
        refine SO.v rfl (opv_nilCheck rfl) ?_
        exact SO.nilZ fun a w h1 h2 h3 h4 h5 => PZ.of h1 h3 h5 (.cons () (.cons () (.nil ⟨EnvAll.of h2 ⟨rfl, rfl, trivial⟩, h4⟩)))
      · rintro Fr _
        refine SO.v rfl (opv_fieldAddr Try.underlying76 rfl Try.sizeOf74 rfl rfl) ?_
        exact SO.nilZ fun a w h1 h2 h3 h4 h5 => PZ.of h1 h3 h5 (.cons () (.cons () (.nil ⟨EnvAll.of h2 ⟨rfl, rfl, trivial⟩, h4⟩)))
      · rintro Fr _ _
        refine SO.load1 rfl Try.isAgg74 rfl rfl ?_
        exact SO.nilZ fun a w h1 h2 h3 h4 h5 => PZ.of h1 h3 h5 (.cons () (.cons () (.cons () (.nil ⟨EnvAll.of h2 ⟨rfl, rfl, trivial⟩, h4⟩))))
      · rintro Fr _
        refine SO.v rfl (opv_move rfl) ?_
        exact SO.nilZ fun a w h1 h2 h3 h4 h5 => PZ.of h1 h3 h5 (.cons () (.cons () (.nil ⟨EnvAll.of h2 ⟨rfl, rfl, trivial⟩, h4⟩)))
      · rintro Fr _ _
        refine SO.loadN rfl Try.isAgg49 Try.sizeOf49 rfl rfl rfl ?_
        exact SO.nilZ fun a w h1 h2 h3 h4 h5 => PZ.of h1 h3 h5 (.cons () (.cons () (.cons () (.nil ⟨EnvAll.of h2 ⟨rfl, rfl, trivial⟩, h4⟩))))
      · rintro Fr _ _ _
        refine SO.v rfl (opv_idx Try.underlying74 Try.sizeOf72 hR9 rfl rfl hr22) ?_
        exact SO.nilZ fun a w h1 h2 h3 h4 h5 => PZ.of h1 h3 h5 (.cons () (.cons () (.cons () (.cons () (.nil ⟨EnvAll.of h2 ⟨rfl, rfl, rfl, trivial⟩, h4⟩)))))
      · rintro Fr _ _
        refine SO.v rfl (opv_fieldIdx Try.underlying72 rfl Try.sizeOf49 hR9 hr22 rfl rfl) ?_
        exact SO.nilZ fun a w h1 h2 h3 h4 h5 => PZ.of h1 h3 h5 (.cons () (.cons () (.cons () (.nil ⟨EnvAll.of h2 ⟨rfl, rfl, trivial⟩, h4⟩))))
      · rintro Fr _ _ _
        refine SO.storeOP (j := 14) (us := [.int .i64 a2.Kind, .int .i64 a2.Rights, .int .i64 a2.Obj, .int .i64 a2.Badge, .int .i64 a2.Guard, .int .i64 a2.Bits]) (z' := ({ x19 with Root := a2 } : ref10_Obj)) Try.sizeOf49 hrel8 hx20 rfl rfl rfl rfl rfl rfl rfl (fun raws24 hrel25 hR26 => ?_)
        refine SO.closeR ?_
        exact SO.nilZ fun a w h1 h2 h3 h4 h5 => PZ.of h1 h3 h5 (.cons () (.cons () (.cons () (.nil ⟨EnvAll.of h2 ⟨rfl, rfl, trivial⟩, h4⟩))))
      rintro _ _ _ _ _ _
      refine S.to (ρ' := [(6, .int .i64 0)]) ⟨rfl, trivial⟩ ?_
      refine S.seq ?_
      refine S.region ?_
      refine SO.v rfl (opv_assign rfl) ?_
      refine SO.nil ?_
      cases h
      refine S.b1 ?_
      refine S.closeR ?_
      refine S.b3 ?_
      refine S.drop ?_
      refine S.b3 ?_
      refine S.b3 ?_
      refine S.b2 ?_
      refine S.b3 ?_
      exact S.ret1 Try.func25 rfl rfl (fun w hs hk => hR w _ _ ⟨v0_Slots, v0_Objs, rfl, rfl⟩ hs hk)
end Go.Proofs
namespace Go.Proofs
open Go.Sl Go.RowKit
/-! 69 padstone/padstoneref10.without -/
def ref10_without.l1 (a0 : List Int) (a1 : Int) : Nat → (Int × Bool × (List Int)) → Option ((List Int))
  | 0, _ => none
  | k + 1, (x7_1, x6_1, x5_1) => bif decide (x7_1 < (a0.length : Int)) then ((at_ a0 x7_1).bind fun x3 => bif (x3 == a1) && (!x6_1) then (ref10_without.l1 a0 a1 k (w64 (x7_1 + 1), true, x5_1)) else ((at_ a0 x7_1).bind fun x7 => (app x5_1 ([x7])).bind fun zs11 => ref10_without.l1 a0 a1 k (w64 (x7_1 + 1), x6_1, zs11))) else (some x5_1)
def ref10_without.f (k : Nat) (a0 : List Int) (a1 : Int) : Option ((List Int)) :=
  (ref10_without.l1 a0 a1 k (0, false, [])).bind fun j5_e1 => some j5_e1
set_option maxHeartbeats 8000000 in
set_option maxRecDepth 100000 in
theorem ref10_without.ct (k : Nat) (v0 : Value) (a0 : List Int) (a1 : Int) (r0 : List Int) (h : ref10_without.f k a0 a1 = some r0) :
    Ct Try.prog 69 [v0, .int .i64 a1] (fun F => Rd (ekI .i64) v0 a0 F) [] (fun u H' => ∃ v_r0, u = v_r0 ∧ H' = [Own 3 (ekI .i64) v_r0 r0]) := by
  unfold ref10_without.f at h
  refine Ct.intro (n := 32) Try.func69 rfl rfl rfl ?_
  intro R w0 F hF hR
  have hF0 := hF
  refine S.seq ?_
  refine S.region ?_
  refine SO.v rfl (opv_assign rfl) ?_
  refine SO.nil ?_
  refine S.seq ?_
  refine S.region ?_
  refine SO.v rfl (opv_assign rfl) ?_
  refine SO.nil ?_
  refine S.seq ?_
  refine S.region ?_
  refine SO.v rfl (opv_assign rfl) ?_
  refine SO.nil ?_
  refine S.seq ?_
  refine S.seq ?_
  refine S.region ?_
  refine SO.v rfl (opv_assign rfl) ?_
  refine SO.nil ?_
  obtain ⟨j5_e1, hl1, h⟩ := opt_bind h
  refine S.newOwn 3 (ekI .i64) ?_
  refine S.b1 ?_
  refine S.b1 ?_
  refine S.to (ρ' := [(7, .int .i64 0), (6, .bool false), (5, .slice none 0 0), (4, .slice none 0 0), (0, v0), (1, .int .i64 a1)]) ⟨rfl, rfl, rfl, rfl, rfl, rfl, trivial⟩ ?_
  refine S.forloop (X := (Int × Bool × (List Int)) × Value) (O := (List Int)) (fun m x => ref10_without.l1 a0 a1 m x.1) (fun x => match x with | ((x7_1, x6_1, x5_1), v5_1) => [(7, .int .i64 x7_1), (6, .bool x6_1), (5, v5_1), (4, .slice none 0 0), (0, v0), (1, .int .i64 a1)]) (fun x => match x with | ((x7_1, x6_1, x5_1), v5_1) => [Own 3 (ekI .i64) v5_1 x5_1, F]) (fun Sk => (fun j5_e1 => ∀ v5_e1 : Value, Sk [(4, .slice none 0 0), (5, v5_e1)] [Own 3 (ekI .i64) v5_e1 j5_e1, F])) (fun _ => rfl) ?_ (m := k) (x := ((0, false, []), .slice none 0 0)) hl1 ?_
  · clear h hl1
    intro k x o_1 h hK1 ih1
    obtain ⟨⟨x7_1, x6_1, x5_1⟩, v5_1⟩ := x
    replace h : ref10_without.l1 a0 a1 (k + 1) (x7_1, x6_1, x5_1) = some o_1 := h
    first | rw [ref10_without.l1] at h | unfold ref10_without.l1 at h
    refine S.rd fun hr1 => ?_
    refine S.seq ?_
    refine S.seq ?_
    refine S.region ?_
    refine SO.v rfl (opv_move rfl) ?_
    refine SO.v rfl (opv_move rfl) ?_
    refine SO.v rfl (opv_lenR rfl Try.underlying29 hF0 rfl) ?_
    refine SO.v rfl (opv_lss rfl rfl) ?_
    refine SO.nil ?_
    rcases bool_or (decide (x7_1 < (a0.length : Int))) with b2 | b2
    · replace h := cond_t b2 h
      refine S.condT rfl b2 ?_
      refine S.skip ?_
      refine S.seq ?_
      refine S.block ?_
      refine S.seq ?_
      refine S.region ?_
      refine SO.v rfl (opv_move rfl) ?_
      refine SO.v rfl (opv_move rfl) ?_
      obtain ⟨x3, hx4, h⟩ := opt_bind h
      refine SO.v rfl (opv_idx Try.underlying29 Try.sizeOf3 hF0 rfl rfl hx4) ?_
      refine SO.loadI1 (j := 0) rfl Try.isAgg3 (Rd.tail (Rd.head hF0)) hx4 rfl rfl rfl rfl ?_
      refine SO.v rfl (opv_move rfl) ?_
      refine SO.v rfl (opv_eql rfl rfl) ?_
      refine SO.v rfl (opv_move rfl) ?_
      refine SO.cut 3 23 (.bool ((x3 == a1) && (!x6_1))) [Own 3 (ekI .i64) v5_1 x5_1, F] (fun l2 hk2 => ?_) ?_
      · rcases bool_or (x3 == a1) with b5 | b5
        · refine SO.takeT rfl rfl rfl b5 ?_
          refine SO.v rfl (opv_move rfl) ?_
          refine SO.takeT rfl rfl rfl b5 ?_
          refine SO.v rfl (opv_not rfl) ?_
          refine SO.v rfl (opv_pick_t' b5 rfl rfl) ?_
          refine SO.b1 ?_
          refine SO.b1 ?_
          exact hk2.fitc (m := 3) rfl (and_t b5) rfl
        · refine SO.passF rfl rfl rfl b5 rfl rfl ?_
          refine SO.passF rfl rfl rfl b5 rfl rfl ?_
          refine SO.v rfl (opv_pick_f' b5 rfl rfl) ?_
          refine SO.b1 ?_
          refine SO.b1 ?_
          exact hk2.fitc (m := 3) rfl (and_f b5) rfl
      refine SO.nil ?_
      refine S.to (ρ' := [(7, .int .i64 x7_1), (6, .bool x6_1), (5, v5_1), (4, .slice none 0 0), (0, v0), (1, .int .i64 a1), (23, .bool ((x3 == a1) && (!x6_1)))]) ⟨rfl, rfl, rfl, rfl, rfl, rfl, rfl, trivial⟩ ?_
      rcases bool_or ((x3 == a1) && (!x6_1)) with b6 | b6
      · replace h := cond_t b6 h
        refine S.condT rfl b6 ?_
        refine S.region ?_
        refine SO.v rfl (opv_assign rfl) ?_
        refine SO.nil ?_
        refine S.inBlock ?_
        refine S.region ?_
        refine SO.v rfl (opv_move rfl) ?_
        refine SO.v rfl (opv_add rfl rfl) ?_
        refine SO.v rfl (opv_assign rfl) ?_
        refine SO.nil ?_
        refine S.b1 ?_
        refine S.b1 ?_
        refine S.to ?_ (ih1 ((w64 (x7_1 + 1), true, x5_1), v5_1) h)
        exact ⟨rfl, rfl, rfl, rfl, rfl, rfl, trivial⟩
      · replace h := cond_f b6 h
        refine S.condF rfl b6 ?_
        refine S.region ?_
        refine SO.v rfl (opv_move rfl) ?_
        refine SO.v rfl (opv_move rfl) ?_
        refine SO.v rfl (opv_move rfl) ?_
        obtain ⟨x7, hx8, h⟩ := opt_bind h
        refine SO.v rfl (opv_idx Try.underlying29 Try.sizeOf3 hF0 rfl rfl hx8) ?_
        refine SO.loadI1 (j := 0) rfl Try.isAgg3 (Rd.tail (Rd.head hF0)) hx8 rfl rfl rfl rfl ?_
        refine SO.buildSlice (K := ekI .i64) (xs := [x7]) (cs := [.int .i64 x7]) rfl Try.underlying29 Try.sizeOf3 Try.zeroValue3 rfl rfl rfl (by kernel_rfl) rfl rfl rfl (fun v9 hr10 => ?_)
        obtain ⟨zs11, hz12, h⟩ := opt_bind h
        refine SO.b1 ?_
        refine SO.append rfl Try.underlying29 Try.underlying29 inf3 rfl rfl rfl (by decide) rfl rfl rfl (Rd.head hr10) hz12 (fun v13 => ?_)
        refine SO.rd fun hr14 => ?_
        refine SO.v rfl (opv_assign rfl) ?_
        refine SO.nil ?_
        refine S.to (ρ' := [(7, .int .i64 x7_1), (6, .bool x6_1), (5, v13), (4, .slice none 0 0), (0, v0), (1, .int .i64 a1)]) ⟨rfl, rfl, rfl, rfl, rfl, rfl, trivial⟩ ?_
        refine S.inBlock ?_
        refine S.region ?_
        refine SO.v rfl (opv_move rfl) ?_
        refine SO.v rfl (opv_add rfl rfl) ?_
        refine SO.v rfl (opv_assign rfl) ?_
        refine SO.nil ?_
        refine S.b1 ?_
        refine S.drop ?_
        refine S.b1 ?_
        refine S.b1 ?_
        refine S.to ?_ (ih1 ((w64 (x7_1 + 1), x6_1, zs11), v13) h)
        exact ⟨rfl, rfl, rfl, rfl, rfl, rfl, trivial⟩
    · replace h := cond_f b2 h
      refine S.condF rfl b2 ?_
      refine S.exit rfl ?_
      cases h
      refine S.b1 ?_
      refine S.b1 ?_
      refine S.to ?_ (hK1 v5_1)
      exact ⟨rfl, rfl, trivial⟩
  rintro v5_e1
  refine S.rd fun hr15 => ?_
  refine S.seq ?_
  refine S.region ?_
  refine SO.v rfl (opv_move rfl) ?_
  refine SO.v rfl (opv_assign rfl) ?_
  refine SO.nil ?_
  cases h
  refine S.b1 ?_
  refine S.b1 ?_
  exact S.ret1 Try.func69 rfl rfl (fun w hs hk => hR w _ _ ⟨v5_e1, rfl, rfl⟩ hs hk)
end Go.Proofs
namespace Go.Proofs
open Go.Sl Go.RowKit
/-! 53 (*padstone/padstoneref10.State).Cancel -/
def ref10_State_Cancel.f (k : Nat) (a0 : ref10_State) (a1 : Int) : Option (ref10_State) :=
  (at_ a0.Objs a1).bind fun x1 => (bif x1.State == 4 then (bif decide (0 ≤ x1.Owing) then ((at_ a0.Objs x1.Owing).bind fun x16 => (at_ (a0.Objs.set x1.Owing.toNat ({ x16 with Owes := -1 } : ref10_Obj)) a1).bind fun x24 => some (a0.Slots, (a0.Objs.set x1.Owing.toNat ({ x16 with Owes := -1 } : ref10_Obj)).set a1.toNat ({ x24 with Owing := -1 } : ref10_Obj), a0.NS, a0.NO)) else ((at_ a0.Objs a1).bind fun x36 => some (a0.Slots, a0.Objs.set a1.toNat ({ x36 with Owing := -1 } : ref10_Obj), a0.NS, a0.NO))) else (bif decide (0 ≤ x1.On) then ((at_ a0.Objs x1.On).bind fun x49 => (ref10_without.f k x49.Queue a1).bind fun t57 => (at_ a0.Objs x1.On).bind fun x61 => (at_ (a0.Objs.set x1.On.toNat ({ x61 with Queue := t57 } : ref10_Obj)) x1.On).bind fun x79 => bif x79.Kind == 3 then ((ref10_State_rest.f ({ a0 with Objs := a0.Objs.set x1.On.toNat ({ x61 with Queue := t57 } : ref10_Obj) } : ref10_State) x1.On).bind fun p85 => some (p85.Slots, p85.Objs, p85.NS, p85.NO)) else (some (a0.Slots, a0.Objs.set x1.On.toNat ({ x61 with Queue := t57 } : ref10_Obj), a0.NS, a0.NO))) else (some (a0.Slots, a0.Objs, a0.NS, a0.NO)))).bind fun (yp0_0_1, yp0_1_1, yp0_2_1, yp0_3_1) => (at_ yp0_1_1 a1).bind fun x89 => (at_ (yp0_1_1.set a1.toNat ({ x89 with State := 0 } : ref10_Obj)) a1).bind fun x101 => some (⟨yp0_0_1, (yp0_1_1.set a1.toNat ({ x89 with State := 0 } : ref10_Obj)).set a1.toNat ({ x101 with On := -1 } : ref10_Obj), yp0_2_1, yp0_3_1⟩ : ref10_State)
set_option maxHeartbeats 8000000 in
set_option maxRecDepth 100000 in
theorem ref10_State_Cancel.ct (k : Nat) (bp0 : Nat) (v0_Slots : Value) (v0_Objs : Value) (a0 : ref10_State) (a1 : Int) (rp0 : ref10_State) (h : ref10_State_Cancel.f k a0 a1 = some rp0) :
    Ct Try.prog 53 [bp bp0 0, .int .i64 a1] (fun _ => True) [Box bp0 [v0_Slots, v0_Objs, .int .i64 a0.NS, .int .i64 a0.NO], OwnR 81 kr_ref10_Slot v0_Slots a0.Slots, OwnR 72 kr_ref10_Obj v0_Objs a0.Objs] (fun u H' => ∃ rw0_Slots rw0_Objs, u = .tuple #[] ∧ H' = [Box bp0 [rw0_Slots, rw0_Objs, .int .i64 rp0.NS, .int .i64 rp0.NO], OwnR 81 kr_ref10_Slot rw0_Slots rp0.Slots, OwnR 72 kr_ref10_Obj rw0_Objs rp0.Objs]) := by
  unfold ref10_State_Cancel.f at h
  refine Ct.intro (n := 83) Try.func53 rfl rfl rfl ?_
  intro R w0 F hF hR
  refine S.seq ?_
  refine S.region ?_
  refine SO.v rfl (opv_move rfl) ?_
  refine SO.v rfl (opv_nilCheck rfl) ?_
  refine SO.v rfl (opv_fieldAddr Try.underlying76 rfl Try.sizeOf74 rfl rfl) ?_
  refine SO.load1 rfl Try.isAgg74 rfl rfl ?_
  refine SO.v rfl (opv_move rfl) ?_
  refine SO.b2 ?_
  refine SO.openR fun raws6 A7 hrel8 hR9 => ?_
  obtain ⟨x1, hx2, h⟩ := opt_bind h
  obtain ⟨r3, hr4, hc5⟩ := relR.at hrel8 hx2
  refine SO.v rfl (opv_idx Try.underlying74 Try.sizeOf72 hR9 rfl rfl hr4) ?_
  refine hc5.rip fun u10 hru11 e12 => ?_
  refine SO.loadIN rfl Try.isAgg72 Try.sizeOf72 (Rd.head hR9) hr4 rfl rfl e12 ?_
  refine SO.alloc rfl Try.zeroValue72 rfl (fun b13 => ?_)
  refine SO.storeN Try.sizeOf72 rfl rfl (all1 rfl (all1 rfl (all1 rfl (all1 rfl (all1 rfl (all1 rfl (all1 (Rd.one hru11) (all1 rfl (all1 rfl (all1 rfl (all1 rfl (all1 rfl (all1 rfl (all1 rfl (all1 rfl (all1 rfl (all1 rfl (all1 rfl (all1 rfl (all1 rfl (all1 rfl (all1 rfl (all1 rfl (all1 rfl (all1 rfl (all1 rfl (all1 rfl (all1 rfl (all1 rfl (all1 rfl (all1 rfl (all1 rfl rfl)))))))))))))))))))))))))))))))) rfl rfl rfl ?_
  refine SO.nil ?_
  refine S.to (ρ' := [(0, bp bp0 0), (1, .int .i64 a1), (4, bp b13 0)]) ⟨rfl, rfl, rfl, trivial⟩ ?_
  refine S.seq ?_
  refine S.seq ?_
  refine S.region ?_
  refine SO.v rfl (opv_fieldAddr Try.underlying72 rfl Try.sizeOf3 rfl rfl) ?_
  refine SO.load1 rfl Try.isAgg3 rfl rfl ?_
  refine SO.v rfl (opv_eql rfl rfl) ?_
  refine SO.nil ?_
  obtain ⟨⟨yp0_0_1, yp0_1_1, yp0_2_1, yp0_3_1⟩, hC1, hJ1⟩ := opt_bind h
  clear h
  refine S.cutP (G := (Value × Value)) (fun _ => True) (fun x => match x with | (vyp0_0_1, vyp0_1_1) => [(0, bp bp0 0), (1, .int .i64 a1)]) (fun x => match x with | (vyp0_0_1, vyp0_1_1) => [OwnR 72 kr_ref10_Obj vyp0_1_1 yp0_1_1, OwnR 81 kr_ref10_Slot vyp0_0_1 yp0_0_1, Box b13 [.int .i64 x1.Kind, .int .i64 x1.Size, .int .i64 x1.Used, .int .i64 x1.First, .int .i64 x1.Radix, .int .i64 x1.Wait, u10, .int .i64 x1.Word, .int .i64 x1.State, .int .i64 x1.Owing, .int .i64 x1.Badge, .int .i64 x1.Prio, .int .i64 x1.On, .int .i64 x1.Owes, .int .i64 x1.Root.Kind, .int .i64 x1.Root.Rights, .int .i64 x1.Root.Obj, .int .i64 x1.Root.Badge, .int .i64 x1.Root.Guard, .int .i64 x1.Root.Bits, .int .i64 x1.Pages.a0, .int .i64 x1.Pages.a1, .int .i64 x1.Pages.a2, .int .i64 x1.Pages.a3, .int .i64 x1.Right.a0, .int .i64 x1.Right.a1, .int .i64 x1.Right.a2, .int .i64 x1.Right.a3, .int .i64 x1.In, .int .i64 x1.Page, .int .i64 x1.Bound, .int .i64 x1.Mask], Box bp0 [vyp0_0_1, vyp0_1_1, .int .i64 yp0_2_1, .int .i64 yp0_3_1], F]) (fun hk1 => ?_) ?_
  · replace h := hC1
    rcases bool_or (x1.State == 4) with b14 | b14
    · replace h := cond_t b14 h
      refine S.condT rfl b14 ?_
      refine S.seq ?_
      refine S.seq ?_
      refine S.region ?_
      refine SO.v rfl (opv_fieldAddr Try.underlying72 rfl Try.sizeOf3 rfl rfl) ?_
      refine SO.load1 rfl Try.isAgg3 rfl rfl ?_
      refine SO.v rfl (opv_geq rfl rfl) ?_
      refine SO.nil ?_
      rcases bool_or (decide (0 ≤ x1.Owing)) with b15 | b15
      · replace h := cond_t b15 h
        refine S.condT rfl b15 ?_
        obtain ⟨x16, hx17, h⟩ := opt_bind h
        obtain ⟨r18, hr19, hc20⟩ := relR.at hrel8 hx17
        refine S.draw' (Z := fun Q => ∀ (_ : Unit) (_ : Unit) (_ : Unit) (_ : Unit) (_ : Unit) (_ : Unit) (_ : Unit), Q [(0, bp bp0 0), (1, .int .i64 a1)] [Box b13 [.int .i64 x1.Kind, .int .i64 x1.Size, .int .i64 x1.Used, .int .i64 x1.First, .int .i64 x1.Radix, .int .i64 x1.Wait, u10, .int .i64 x1.Word, .int .i64 x1.State, .int .i64 x1.Owing, .int .i64 x1.Badge, .int .i64 x1.Prio, .int .i64 x1.On, .int .i64 x1.Owes, .int .i64 x1.Root.Kind, .int .i64 x1.Root.Rights, .int .i64 x1.Root.Obj, .int .i64 x1.Root.Badge, .int .i64 x1.Root.Guard, .int .i64 x1.Root.Bits, .int .i64 x1.Pages.a0, .int .i64 x1.Pages.a1, .int .i64 x1.Pages.a2, .int .i64 x1.Pages.a3, .int .i64 x1.Right.a0, .int .i64 x1.Right.a1, .int .i64 x1.Right.a2, .int .i64 x1.Right.a3, .int .i64 x1.In, .int .i64 x1.Page, .int .i64 x1.Bound, .int .i64 x1.Mask], OwnR 72 kr_ref10_Obj v0_Objs (a0.Objs.set x1.Owing.toNat ({ x16 with Owes := -1 } : ref10_Obj)), Box bp0 [v0_Slots, v0_Objs, .int .i64 a0.NS, .int .i64 a0.NO], OwnR 81 kr_ref10_Slot v0_Slots a0.Slots, F]) (T := [tS 0 (bp bp0 0), tS 4 (bp b13 0), tS 1 (.int .i64 a1), tR (Box b13 [.int .i64 x1.Kind, .int .i64 x1.Size, .int .i64 x1.Used, .int .i64 x1.First, .int .i64 x1.Radix, .int .i64 x1.Wait, u10, .int .i64 x1.Word, .int .i64 x1.State, .int .i64 x1.Owing, .int .i64 x1.Badge, .int .i64 x1.Prio, .int .i64 x1.On, .int .i64 x1.Owes, .int .i64 x1.Root.Kind, .int .i64 x1.Root.Rights, .int .i64 x1.Root.Obj, .int .i64 x1.Root.Badge, .int .i64 x1.Root.Guard, .int .i64 x1.Root.Bits, .int .i64 x1.Pages.a0, .int .i64 x1.Pages.a1, .int .i64 x1.Pages.a2, .int .i64 x1.Pages.a3, .int .i64 x1.Right.a0, .int .i64 x1.Right.a1, .int .i64 x1.Right.a2, .int .i64 x1.Right.a3, .int .i64 x1.In, .int .i64 x1.Page, .int .i64 x1.Bound, .int .i64 x1.Mask]), tR (OwnO 72 kr_ref10_Obj v0_Objs raws6 A7 a0.Objs), tR (Box bp0 [v0_Slots, v0_Objs, .int .i64 a0.NS, .int .i64 a0.NO]), tR (OwnR 81 kr_ref10_Slot v0_Slots a0.Slots), tR (F), tS 18 (bp bp0 0), tS 19 (bp bp0 0), tS 20 (bp bp0 1), tS 21 (v0_Objs), tS 22 (bp b13 9), tS 23 (.int .i64 x1.Owing), tS 24 (idxp v0_Objs (x1.Owing.toNat * kr_ref10_Obj.sz)), tS 25 (idxp v0_Objs (x1.Owing.toNat * kr_ref10_Obj.sz + 13)), tR (OwnR 72 kr_ref10_Obj v0_Objs (a0.Objs.set x1.Owing.toNat ({ x16 with Owes := -1 } : ref10_Obj)))]) (D := [⟨[0], [], [8]⟩, ⟨[8], [], [9]⟩, ⟨[9], [], [10]⟩, ⟨[10, 5], [], [11]⟩, ⟨[1], [], [12]⟩, ⟨[12, 3], [], [13]⟩, ⟨[11, 13, 4], [], [14]⟩, ⟨[14, 4], [], [15]⟩, ⟨[15], [4], [16]⟩]) (ini := [0, 1, 2, 3, 4, 5, 6, 7]) (fin := [0, 2, 3, 16, 5, 6, 7]) (bf := [[], [0], [0, 1], [0, 1, 2], [], [4], [0, 1, 2, 3, 4, 5], [0, 1, 2, 3, 4, 5, 6], [0, 1, 2, 3, 4, 5, 6, 7]]) (by kernel_rfl) (by kernel_rfl) (fun x w h1 h2 => (.cons () (.cons () (.cons () (.cons () (.cons () (.cons () (.cons () (.cons () (.nil ⟨EnvAll.of h1 ⟨rfl, rfl, rfl, trivial⟩, h2⟩)))))))))) (fun Q => by kernel_rfl) ⟨?_, ?_, ?_, ?_, ?_, ?_, ?_, ?_, ?_, trivial⟩ ?_
        · rintro Fr _
          refine SO.v rfl (opv_move rfl) ?_
          exact SO.nilZ fun a w h1 h2 h3 h4 h5 => PZ.of h1 h3 h5 (.cons () (.cons () (.nil ⟨EnvAll.of h2 ⟨rfl, rfl, trivial⟩, h4⟩)))
        · rintro Fr _
          refine SO.v rfl (opv_nilCheck rfl) ?_
          exact SO.nilZ fun a w h1 h2 h3 h4 h5 => PZ.of h1 h3 h5 (.cons () (.cons () (.nil ⟨EnvAll.of h2 ⟨rfl, rfl, trivial⟩, h4⟩)))
        · rintro Fr _
          refine SO.v rfl (opv_fieldAddr Try.underlying76 rfl Try.sizeOf74 rfl rfl) ?_
          exact SO.nilZ fun a w h1 h2 h3 h4 h5 => PZ.of h1 h3 h5 (.cons () (.cons () (.nil ⟨EnvAll.of h2 ⟨rfl, rfl, trivial⟩, h4⟩)))
        · rintro Fr _ _
          refine SO.load1 rfl Try.isAgg74 rfl rfl ?_
          exact SO.nilZ fun a w h1 h2 h3 h4 h5 => PZ.of h1 h3 h5 (.cons () (.cons () (.cons () (.nil ⟨EnvAll.of h2 ⟨rfl, rfl, trivial⟩, h4⟩))))
        · rintro Fr _
          refine SO.v rfl (opv_fieldAddr Try.underlying72 rfl Try.sizeOf3 rfl rfl) ?_
          exact SO.nilZ fun a w h1 h2 h3 h4 h5 => PZ.of h1 h3 h5 (.cons () (.cons () (.nil ⟨EnvAll.of h2 ⟨rfl, rfl, trivial⟩, h4⟩)))
        · rintro Fr _ _
          refine SO.load1 rfl Try.isAgg3 rfl rfl ?_
          exact SO.nilZ fun a w h1 h2 h3 h4 h5 => PZ.of h1 h3 h5 (.cons () (.cons () (.cons () (.nil ⟨EnvAll.of h2 ⟨rfl, rfl, trivial⟩, h4⟩))))
        · rintro Fr _ _ _
          refine SO.v rfl (opv_idx Try.underlying74 Try.sizeOf72 hR9 rfl rfl hr19) ?_
          exact SO.nilZ fun a w h1 h2 h3 h4 h5 => PZ.of h1 h3 h5 (.cons () (.cons () (.cons () (.cons () (.nil ⟨EnvAll.of h2 ⟨rfl, rfl, rfl, trivial⟩, h4⟩)))))
        · rintro Fr _ _
          refine SO.v rfl (opv_fieldIdx Try.underlying72 rfl Try.sizeOf3 hR9 hr19 rfl rfl) ?_
          exact SO.nilZ fun a w h1 h2 h3 h4 h5 => PZ.of h1 h3 h5 (.cons () (.cons () (.cons () (.nil ⟨EnvAll.of h2 ⟨rfl, rfl, trivial⟩, h4⟩))))
        · rintro Fr _ _
          refine SO.storeO1 (j := 13) (q := .val (.int .i64 (-1))) (z' := ({ x16 with Owes := -1 } : ref10_Obj)) Try.sizeOf3 hrel8 hx17 rfl rfl rfl rfl rfl rfl rfl (fun raws21 hrel22 hR23 => ?_)
          refine SO.closeR ?_
          exact SO.nilZ fun a w h1 h2 h3 h4 h5 => PZ.of h1 h3 h5 (.cons () (.cons () (.nil ⟨EnvAll.of h2 ⟨rfl, trivial⟩, h4⟩)))
        rintro _ _ _ _ _ _ _
        refine S.to (ρ' := [(0, bp bp0 0), (1, .int .i64 a1)]) ⟨rfl, rfl, trivial⟩ ?_
        refine S.region ?_
        refine SO.v rfl (opv_move rfl) ?_
        refine SO.v rfl (opv_nilCheck rfl) ?_
        refine SO.v rfl (opv_fieldAddr Try.underlying76 rfl Try.sizeOf74 rfl rfl) ?_
        refine SO.b2 ?_
        refine SO.load1 rfl Try.isAgg74 rfl rfl ?_
        refine SO.v rfl (opv_move rfl) ?_
        refine SO.b2 ?_
        refine SO.openR fun raws29 A30 hrel31 hR32 => ?_
        obtain ⟨x24, hx25, h⟩ := opt_bind h
        obtain ⟨r26, hr27, hc28⟩ := relR.at hrel31 hx25
        refine SO.v rfl (opv_idx Try.underlying74 Try.sizeOf72 hR32 rfl rfl hr27) ?_
        refine SO.v rfl (opv_fieldIdx Try.underlying72 rfl Try.sizeOf3 hR32 hr27 rfl rfl) ?_
        refine SO.storeO1 (j := 9) (q := .val (.int .i64 (-1))) (z' := ({ x24 with Owing := -1 } : ref10_Obj)) Try.sizeOf3 hrel31 hx25 rfl rfl rfl rfl rfl rfl rfl (fun raws33 hrel34 hR35 => ?_)
        refine SO.nil ?_
        refine S.to (ρ' := [(0, bp bp0 0), (1, .int .i64 a1)]) ⟨rfl, rfl, trivial⟩ ?_
        cases h
        refine S.closeR ?_
        refine S.b4 ?_
        refine S.b2 ?_
        refine S.b3 ?_
        refine S.b4 ?_
        refine S.b4 ?_
        refine S.to ?_ (hk1 (v0_Slots, v0_Objs) trivial)
        exact ⟨rfl, rfl, trivial⟩
      · replace h := cond_f b15 h
        refine S.condF rfl b15 ?_
        refine S.skip ?_
        refine S.region ?_
        refine SO.v rfl (opv_move rfl) ?_
        refine SO.v rfl (opv_nilCheck rfl) ?_
        refine SO.v rfl (opv_fieldAddr Try.underlying76 rfl Try.sizeOf74 rfl rfl) ?_
        refine SO.b2 ?_
        refine SO.load1 rfl Try.isAgg74 rfl rfl ?_
        refine SO.v rfl (opv_move rfl) ?_
        obtain ⟨x36, hx37, h⟩ := opt_bind h
        obtain ⟨r38, hr39, hc40⟩ := relR.at hrel8 hx37
        refine SO.v rfl (opv_idx Try.underlying74 Try.sizeOf72 hR9 rfl rfl hr39) ?_
        refine SO.v rfl (opv_fieldIdx Try.underlying72 rfl Try.sizeOf3 hR9 hr39 rfl rfl) ?_
        refine SO.b2 ?_
        refine SO.storeO1 (j := 9) (q := .val (.int .i64 (-1))) (z' := ({ x36 with Owing := -1 } : ref10_Obj)) Try.sizeOf3 hrel8 hx37 rfl rfl rfl rfl rfl rfl rfl (fun raws41 hrel42 hR43 => ?_)
        refine SO.nil ?_
        refine S.to (ρ' := [(0, bp bp0 0), (1, .int .i64 a1)]) ⟨rfl, rfl, trivial⟩ ?_
        cases h
        refine S.closeR ?_
        refine S.b4 ?_
        refine S.b2 ?_
        refine S.b3 ?_
        refine S.b4 ?_
        refine S.b4 ?_
        refine S.to ?_ (hk1 (v0_Slots, v0_Objs) trivial)
        exact ⟨rfl, rfl, trivial⟩
    · replace h := cond_f b14 h
      refine S.condF rfl b14 ?_
      refine S.seq ?_
      refine S.region ?_
      refine SO.v rfl (opv_fieldAddr Try.underlying72 rfl Try.sizeOf3 rfl rfl) ?_
      refine SO.load1 rfl Try.isAgg3 rfl rfl ?_
      refine SO.v rfl (opv_geq rfl rfl) ?_
      refine SO.nil ?_
      rcases bool_or (decide (0 ≤ x1.On)) with b44 | b44
      · replace h := cond_t b44 h
        refine S.condT rfl b44 ?_
        refine S.seq ?_
        refine S.b3 ?_
        refine S.openR fun raws45 A46 hrel47 hR48 => ?_
        obtain ⟨x49, hx50, h⟩ := opt_bind h
        obtain ⟨r51, hr52, hc53⟩ := relR.at hrel8 hx50
        obtain ⟨u54, hu55, hru56⟩ := hc53.sl 6 rfl
        obtain ⟨t57, ht58, h⟩ := opt_bind h
        obtain ⟨x61, hx62, h⟩ := opt_bind h
        obtain ⟨r63, hr64, hc65⟩ := relR.at hrel8 hx62
        refine S.draw' (Z := fun Q => ∀ (_ : Unit) (_ : Unit) (_ : Unit) (_ : Unit) (_ : Unit) (_ : Unit) (_ : Unit) (_ : Unit), Q [(0, bp bp0 0), (1, .int .i64 a1), (4, bp b13 0)] [OwnO 81 kr_ref10_Slot v0_Slots raws45 A46 a0.Slots, Box b13 [.int .i64 x1.Kind, .int .i64 x1.Size, .int .i64 x1.Used, .int .i64 x1.First, .int .i64 x1.Radix, .int .i64 x1.Wait, u10, .int .i64 x1.Word, .int .i64 x1.State, .int .i64 x1.Owing, .int .i64 x1.Badge, .int .i64 x1.Prio, .int .i64 x1.On, .int .i64 x1.Owes, .int .i64 x1.Root.Kind, .int .i64 x1.Root.Rights, .int .i64 x1.Root.Obj, .int .i64 x1.Root.Badge, .int .i64 x1.Root.Guard, .int .i64 x1.Root.Bits, .int .i64 x1.Pages.a0, .int .i64 x1.Pages.a1, .int .i64 x1.Pages.a2, .int .i64 x1.Pages.a3, .int .i64 x1.Right.a0, .int .i64 x1.Right.a1, .int .i64 x1.Right.a2, .int .i64 x1.Right.a3, .int .i64 x1.In, .int .i64 x1.Page, .int .i64 x1.Bound, .int .i64 x1.Mask], OwnR 72 kr_ref10_Obj v0_Objs (a0.Objs.set x1.On.toNat ({ x61 with Queue := t57 } : ref10_Obj)), Box bp0 [v0_Slots, v0_Objs, .int .i64 a0.NS, .int .i64 a0.NO], F]) (T := [tS 0 (bp bp0 0), tS 4 (bp b13 0), tS 1 (.int .i64 a1), tR (OwnO 81 kr_ref10_Slot v0_Slots raws45 A46 a0.Slots), tR (Box b13 [.int .i64 x1.Kind, .int .i64 x1.Size, .int .i64 x1.Used, .int .i64 x1.First, .int .i64 x1.Radix, .int .i64 x1.Wait, u10, .int .i64 x1.Word, .int .i64 x1.State, .int .i64 x1.Owing, .int .i64 x1.Badge, .int .i64 x1.Prio, .int .i64 x1.On, .int .i64 x1.Owes, .int .i64 x1.Root.Kind, .int .i64 x1.Root.Rights, .int .i64 x1.Root.Obj, .int .i64 x1.Root.Badge, .int .i64 x1.Root.Guard, .int .i64 x1.Root.Bits, .int .i64 x1.Pages.a0, .int .i64 x1.Pages.a1, .int .i64 x1.Pages.a2, .int .i64 x1.Pages.a3, .int .i64 x1.Right.a0, .int .i64 x1.Right.a1, .int .i64 x1.Right.a2, .int .i64 x1.Right.a3, .int .i64 x1.In, .int .i64 x1.Page, .int .i64 x1.Bound, .int .i64 x1.Mask]), tR (OwnO 72 kr_ref10_Obj v0_Objs raws6 A7 a0.Objs), tR (Box bp0 [v0_Slots, v0_Objs, .int .i64 a0.NS, .int .i64 a0.NO]), tR (F), tS 36 (bp bp0 0), tS 37 (bp bp0 0), tS 38 (bp bp0 1), tS 39 (v0_Objs), tS 40 (bp b13 12), tS 41 (.int .i64 x1.On), tS 42 (bp bp0 0), tS 43 (bp bp0 0), tS 44 (bp bp0 1), tS 45 (v0_Objs), tS 46 (bp b13 12), tS 47 (.int .i64 x1.On), tS 48 (idxp v0_Objs (x1.On.toNat * kr_ref10_Obj.sz)), tS 49 (idxp v0_Objs (x1.On.toNat * kr_ref10_Obj.sz + 6)), tS 50 (u54), tS 51 (.int .i64 a1), ⟨Value, [52], (fun v59 => [(52, v59)]), (fun v59 => [Own 3 (ekI .i64) v59 t57]), fun _ => rfl⟩, tS 53 (idxp v0_Objs (x1.On.toNat * kr_ref10_Obj.sz)), tS 54 (idxp v0_Objs (x1.On.toNat * kr_ref10_Obj.sz + 6)), tR (OwnR 72 kr_ref10_Obj v0_Objs (a0.Objs.set x1.On.toNat ({ x61 with Queue := t57 } : ref10_Obj)))]) (D := [⟨[0], [], [8]⟩, ⟨[8], [], [9]⟩, ⟨[9], [], [10]⟩, ⟨[10, 6], [], [11]⟩, ⟨[1], [], [12]⟩, ⟨[12, 4], [], [13]⟩, ⟨[0], [], [14]⟩, ⟨[14], [], [15]⟩, ⟨[15], [], [16]⟩, ⟨[16, 6], [], [17]⟩, ⟨[1], [], [18]⟩, ⟨[18, 4], [], [19]⟩, ⟨[17, 19, 5], [], [20]⟩, ⟨[20, 5], [], [21]⟩, ⟨[21, 5], [], [22]⟩, ⟨[2], [], [23]⟩, ⟨[22, 23, 5], [], [24]⟩, ⟨[11, 13, 5], [], [25]⟩, ⟨[25, 5], [], [26]⟩, ⟨[26], [24, 5], [27]⟩]) (ini := [0, 1, 2, 3, 4, 5, 6, 7]) (fin := [0, 2, 1, 3, 4, 27, 6, 7]) (bf := [[], [0], [0, 1], [0, 1, 2], [], [4], [], [6], [6, 7], [6, 7, 8], [], [10], [6, 7, 8, 9, 10, 11], [6, 7, 8, 9, 10, 11, 12], [6, 7, 8, 9, 10, 11, 12, 13], [], [6, 7, 8, 9, 10, 11, 12, 13, 14, 15], [0, 1, 2, 3, 4, 5, 6, 7, 8, 9, 10, 11, 12, 13, 14, 15, 16], [0, 1, 2, 3, 4, 5, 6, 7, 8, 9, 10, 11, 12, 13, 14, 15, 16, 17], [0, 1, 2, 3, 4, 5, 6, 7, 8, 9, 10, 11, 12, 13, 14, 15, 16, 17, 18]]) (by kernel_rfl) (by kernel_rfl) (fun x w h1 h2 => (.cons () (.cons () (.cons () (.cons () (.cons () (.cons () (.cons () (.cons () (.nil ⟨EnvAll.of h1 ⟨rfl, rfl, rfl, trivial⟩, h2⟩)))))))))) (fun Q => by kernel_rfl) ⟨?_, ?_, ?_, ?_, ?_, ?_, ?_, ?_, ?_, ?_, ?_, ?_, ?_, ?_, ?_, ?_, ?_, ?_, ?_, ?_, trivial⟩ ?_
        · rintro Fr _
          refine SO.v rfl (opv_move rfl) ?_
          exact SO.nilZ fun a w h1 h2 h3 h4 h5 => PZ.of h1 h3 h5 (.cons () (.cons () (.nil ⟨EnvAll.of h2 ⟨rfl, rfl, trivial⟩, h4⟩)))
        · rintro Fr _
          refine SO.v rfl (opv_nilCheck rfl) ?_
          exact SO.nilZ fun a w h1 h2 h3 h4 h5 => PZ.of h1 h3 h5 (.cons () (.cons () (.nil ⟨EnvAll.of h2 ⟨rfl, rfl, trivial⟩, h4⟩)))
        · rintro Fr _
          refine SO.v rfl (opv_fieldAddr Try.underlying76 rfl Try.sizeOf74 rfl rfl) ?_
          exact SO.nilZ fun a w h1 h2 h3 h4 h5 => PZ.of h1 h3 h5 (.cons () (.cons () (.nil ⟨EnvAll.of h2 ⟨rfl, rfl, trivial⟩, h4⟩)))
        · rintro Fr _ _
          refine SO.load1 rfl Try.isAgg74 rfl rfl ?_
          exact SO.nilZ fun a w h1 h2 h3 h4 h5 => PZ.of h1 h3 h5 (.cons () (.cons () (.cons () (.nil ⟨EnvAll.of h2 ⟨rfl, rfl, trivial⟩, h4⟩))))
        · rintro Fr _
          refine SO.v rfl (opv_fieldAddr Try.underlying72 rfl Try.sizeOf3 rfl rfl) ?_
          exact SO.nilZ fun a w h1 h2 h3 h4 h5 => PZ.of h1 h3 h5 (.cons () (.cons () (.nil ⟨EnvAll.of h2 ⟨rfl, rfl, trivial⟩, h4⟩)))
        · rintro Fr _ _
          refine SO.load1 rfl Try.isAgg3 rfl rfl ?_
          exact SO.nilZ fun a w h1 h2 h3 h4 h5 => PZ.of h1 h3 h5 (.cons () (.cons () (.cons () (.nil ⟨EnvAll.of h2 ⟨rfl, rfl, trivial⟩, h4⟩))))
        · rintro Fr _
          refine SO.v rfl (opv_move rfl) ?_
          exact SO.nilZ fun a w h1 h2 h3 h4 h5 => PZ.of h1 h3 h5 (.cons () (.cons () (.nil ⟨EnvAll.of h2 ⟨rfl, rfl, trivial⟩, h4⟩)))
        · rintro Fr _
          refine SO.v rfl (opv_nilCheck rfl) ?_
          exact SO.nilZ fun a w h1 h2 h3 h4 h5 => PZ.of h1 h3 h5 (.cons () (.cons () (.nil ⟨EnvAll.of h2 ⟨rfl, rfl, trivial⟩, h4⟩)))
        · rintro Fr _
          refine SO.v rfl (opv_fieldAddr Try.underlying76 rfl Try.sizeOf74 rfl rfl) ?_
          exact SO.nilZ fun a w h1 h2 h3 h4 h5 => PZ.of h1 h3 h5 (.cons () (.cons () (.nil ⟨EnvAll.of h2 ⟨rfl, rfl, trivial⟩, h4⟩)))
        · rintro Fr _ _
          refine SO.load1 rfl Try.isAgg74 rfl rfl ?_
          exact SO.nilZ fun a w h1 h2 h3 h4 h5 => PZ.of h1 h3 h5 (.cons () (.cons () (.cons () (.nil ⟨EnvAll.of h2 ⟨rfl, rfl, trivial⟩, h4⟩))))
        · rintro Fr _
          refine SO.v rfl (opv_fieldAddr Try.underlying72 rfl Try.sizeOf3 rfl rfl) ?_
          exact SO.nilZ fun a w h1 h2 h3 h4 h5 => PZ.of h1 h3 h5 (.cons () (.cons () (.nil ⟨EnvAll.of h2 ⟨rfl, rfl, trivial⟩, h4⟩)))
        · rintro Fr _ _
          refine SO.load1 rfl Try.isAgg3 rfl rfl ?_
          exact SO.nilZ fun a w h1 h2 h3 h4 h5 => PZ.of h1 h3 h5 (.cons () (.cons () (.cons () (.nil ⟨EnvAll.of h2 ⟨rfl, rfl, trivial⟩, h4⟩))))
        · rintro Fr _ _ _
          refine SO.v rfl (opv_idx Try.underlying74 Try.sizeOf72 hR9 rfl rfl hr52) ?_
          exact SO.nilZ fun a w h1 h2 h3 h4 h5 => PZ.of h1 h3 h5 (.cons () (.cons () (.cons () (.cons () (.nil ⟨EnvAll.of h2 ⟨rfl, rfl, rfl, trivial⟩, h4⟩)))))
        · rintro Fr _ _
          refine SO.v rfl (opv_fieldIdx Try.underlying72 rfl Try.sizeOf29 hR9 hr52 rfl rfl) ?_
          exact SO.nilZ fun a w h1 h2 h3 h4 h5 => PZ.of h1 h3 h5 (.cons () (.cons () (.cons () (.nil ⟨EnvAll.of h2 ⟨rfl, rfl, trivial⟩, h4⟩))))
        · rintro Fr _ _
          refine SO.loadI1 (j := 6) rfl Try.isAgg29 (Rd.head hR9) hr52 rfl rfl rfl hu55 ?_
          exact SO.nilZ fun a w h1 h2 h3 h4 h5 => PZ.of h1 h3 h5 (.cons () (.cons () (.cons () (.nil ⟨EnvAll.of h2 ⟨rfl, rfl, trivial⟩, h4⟩))))
        · rintro Fr _
          refine SO.v rfl (opv_move rfl) ?_
          exact SO.nilZ fun a w h1 h2 h3 h4 h5 => PZ.of h1 h3 h5 (.cons () (.cons () (.nil ⟨EnvAll.of h2 ⟨rfl, rfl, trivial⟩, h4⟩)))
        · rintro Fr _ _ _
          refine SO.call (pre := []) rfl Try.call69 rfl rfl rfl (ref10_without.ct _ u54 _ _ _ ht58) (Rd.head (Rd.pool hru56)) ?_
          rintro v59 _ ⟨_, rfl, rfl⟩
          refine SO.rd fun hr60 => ?_
          refine SO.b1 ?_
          exact SO.nilZ fun a w h1 h2 h3 h4 h5 => PZ.of h1 h3 h5 (.cons () (.cons () (.cons () (.cons v59 (.nil ⟨EnvAll.of h2 ⟨rfl, rfl, rfl, trivial⟩, h4⟩)))))
        · rintro Fr _ _ _
          refine SO.v rfl (opv_idx Try.underlying74 Try.sizeOf72 hR9 rfl rfl hr64) ?_
          exact SO.nilZ fun a w h1 h2 h3 h4 h5 => PZ.of h1 h3 h5 (.cons () (.cons () (.cons () (.cons () (.nil ⟨EnvAll.of h2 ⟨rfl, rfl, rfl, trivial⟩, h4⟩)))))
        · rintro Fr _ _
          refine SO.v rfl (opv_fieldIdx Try.underlying72 rfl Try.sizeOf29 hR9 hr64 rfl rfl) ?_
          exact SO.nilZ fun a w h1 h2 h3 h4 h5 => PZ.of h1 h3 h5 (.cons () (.cons () (.cons () (.nil ⟨EnvAll.of h2 ⟨rfl, rfl, trivial⟩, h4⟩))))
        · rintro Fr _ v59 _
          refine SO.rd fun hr66 => ?_
          refine SO.b1 ?_
          refine SO.b1 ?_
          refine SO.freeze hrel8 fun A67 hcov68 hru69 hrel70 hR71 => ?_
          refine SO.storeO1 (j := 6) (q := .sl (ekI .i64) t57) (z' := ({ x61 with Queue := t57 } : ref10_Obj)) Try.sizeOf29 hrel70 hx62 rfl rfl (Rd.one hru69) rfl rfl rfl hru69 (fun raws72 hrel73 hR74 => ?_)
          refine SO.closeR ?_
          exact SO.nilZ fun a w h1 h2 h3 h4 h5 => PZ.of h1 h3 h5 (.cons () (.cons () (.nil ⟨EnvAll.of h2 ⟨rfl, trivial⟩, h4⟩)))
        rintro _ _ _ _ _ _ _ _
        refine S.to (ρ' := [(0, bp bp0 0), (1, .int .i64 a1), (4, bp b13 0)]) ⟨rfl, rfl, rfl, trivial⟩ ?_
        refine S.seq ?_
        refine S.b2 ?_
        refine S.openR fun raws75 A76 hrel77 hR78 => ?_
        obtain ⟨x79, hx80, h⟩ := opt_bind h
        obtain ⟨r81, hr82, hc83⟩ := relR.at hrel77 hx80
        refine S.draw' (Z := fun Q => ∀ (_ : Unit) (_ : Unit) (_ : Unit) (_ : Unit) (_ : Unit) (_ : Unit) (_ : Unit) (_ : Unit) (_ : Unit), Q [(0, bp bp0 0), (1, .int .i64 a1), (4, bp b13 0), (64, .bool (x79.Kind == 3))] [OwnO 72 kr_ref10_Obj v0_Objs raws75 A76 (a0.Objs.set x1.On.toNat ({ x61 with Queue := t57 } : ref10_Obj)), OwnO 81 kr_ref10_Slot v0_Slots raws45 A46 a0.Slots, Box b13 [.int .i64 x1.Kind, .int .i64 x1.Size, .int .i64 x1.Used, .int .i64 x1.First, .int .i64 x1.Radix, .int .i64 x1.Wait, u10, .int .i64 x1.Word, .int .i64 x1.State, .int .i64 x1.Owing, .int .i64 x1.Badge, .int .i64 x1.Prio, .int .i64 x1.On, .int .i64 x1.Owes, .int .i64 x1.Root.Kind, .int .i64 x1.Root.Rights, .int .i64 x1.Root.Obj, .int .i64 x1.Root.Badge, .int .i64 x1.Root.Guard, .int .i64 x1.Root.Bits, .int .i64 x1.Pages.a0, .int .i64 x1.Pages.a1, .int .i64 x1.Pages.a2, .int .i64 x1.Pages.a3, .int .i64 x1.Right.a0, .int .i64 x1.Right.a1, .int .i64 x1.Right.a2, .int .i64 x1.Right.a3, .int .i64 x1.In, .int .i64 x1.Page, .int .i64 x1.Bound, .int .i64 x1.Mask], Box bp0 [v0_Slots, v0_Objs, .int .i64 a0.NS, .int .i64 a0.NO], F]) (T := [tS 0 (bp bp0 0), tS 4 (bp b13 0), tS 1 (.int .i64 a1), tR (OwnO 72 kr_ref10_Obj v0_Objs raws75 A76 (a0.Objs.set x1.On.toNat ({ x61 with Queue := t57 } : ref10_Obj))), tR (OwnO 81 kr_ref10_Slot v0_Slots raws45 A46 a0.Slots), tR (Box b13 [.int .i64 x1.Kind, .int .i64 x1.Size, .int .i64 x1.Used, .int .i64 x1.First, .int .i64 x1.Radix, .int .i64 x1.Wait, u10, .int .i64 x1.Word, .int .i64 x1.State, .int .i64 x1.Owing, .int .i64 x1.Badge, .int .i64 x1.Prio, .int .i64 x1.On, .int .i64 x1.Owes, .int .i64 x1.Root.Kind, .int .i64 x1.Root.Rights, .int .i64 x1.Root.Obj, .int .i64 x1.Root.Badge, .int .i64 x1.Root.Guard, .int .i64 x1.Root.Bits, .int .i64 x1.Pages.a0, .int .i64 x1.Pages.a1, .int .i64 x1.Pages.a2, .int .i64 x1.Pages.a3, .int .i64 x1.Right.a0, .int .i64 x1.Right.a1, .int .i64 x1.Right.a2, .int .i64 x1.Right.a3, .int .i64 x1.In, .int .i64 x1.Page, .int .i64 x1.Bound, .int .i64 x1.Mask]), tR (Box bp0 [v0_Slots, v0_Objs, .int .i64 a0.NS, .int .i64 a0.NO]), tR (F), tS 55 (bp bp0 0), tS 56 (bp bp0 0), tS 57 (bp bp0 1), tS 58 (v0_Objs), tS 59 (bp b13 12), tS 60 (.int .i64 x1.On), tS 61 (idxp v0_Objs (x1.On.toNat * kr_ref10_Obj.sz)), tS 62 (idxp v0_Objs (x1.On.toNat * kr_ref10_Obj.sz)), tS 63 (.int .i64 x79.Kind), tS 64 (.bool (x79.Kind == 3))]) (D := [⟨[0], [], [8]⟩, ⟨[8], [], [9]⟩, ⟨[9], [], [10]⟩, ⟨[10, 6], [], [11]⟩, ⟨[1], [], [12]⟩, ⟨[12, 5], [], [13]⟩, ⟨[11, 13, 3], [], [14]⟩, ⟨[14, 3], [], [15]⟩, ⟨[15, 3], [], [16]⟩, ⟨[16], [], [17]⟩]) (ini := [0, 1, 2, 3, 4, 5, 6, 7]) (fin := [0, 2, 1, 17, 3, 4, 5, 6, 7]) (bf := [[], [0], [0, 1], [0, 1, 2], [], [4], [0, 1, 2, 3, 4, 5], [0, 1, 2, 3, 4, 5, 6], [0, 1, 2, 3, 4, 5, 6, 7], [0, 1, 2, 3, 4, 5, 6, 7, 8]]) (by kernel_rfl) (by kernel_rfl) (fun x w h1 h2 => (.cons () (.cons () (.cons () (.cons () (.cons () (.cons () (.cons () (.cons () (.nil ⟨EnvAll.of h1 ⟨rfl, rfl, rfl, trivial⟩, h2⟩)))))))))) (fun Q => by kernel_rfl) ⟨?_, ?_, ?_, ?_, ?_, ?_, ?_, ?_, ?_, ?_, trivial⟩ ?_
        · rintro Fr _
          refine SO.v rfl (opv_move rfl) ?_
          exact SO.nilZ fun a w h1 h2 h3 h4 h5 => PZ.of h1 h3 h5 (.cons () (.cons () (.nil ⟨EnvAll.of h2 ⟨rfl, rfl, trivial⟩, h4⟩)))
        · rintro Fr _
          refine SO.v rfl (opv_nilCheck rfl) ?_
          exact SO.nilZ fun a w h1 h2 h3 h4 h5 => PZ.of h1 h3 h5 (.cons () (.cons () (.nil ⟨EnvAll.of h2 ⟨rfl, rfl, trivial⟩, h4⟩)))
        · rintro Fr _
          refine SO.v rfl (opv_fieldAddr Try.underlying76 rfl Try.sizeOf74 rfl rfl) ?_
          exact SO.nilZ fun a w h1 h2 h3 h4 h5 => PZ.of h1 h3 h5 (.cons () (.cons () (.nil ⟨EnvAll.of h2 ⟨rfl, rfl, trivial⟩, h4⟩)))
        · rintro Fr _ _
          refine SO.load1 rfl Try.isAgg74 rfl rfl ?_
          exact SO.nilZ fun a w h1 h2 h3 h4 h5 => PZ.of h1 h3 h5 (.cons () (.cons () (.cons () (.nil ⟨EnvAll.of h2 ⟨rfl, rfl, trivial⟩, h4⟩))))
        · rintro Fr _
          refine SO.v rfl (opv_fieldAddr Try.underlying72 rfl Try.sizeOf3 rfl rfl) ?_
          exact SO.nilZ fun a w h1 h2 h3 h4 h5 => PZ.of h1 h3 h5 (.cons () (.cons () (.nil ⟨EnvAll.of h2 ⟨rfl, rfl, trivial⟩, h4⟩)))
        · rintro Fr _ _
          refine SO.load1 rfl Try.isAgg3 rfl rfl ?_
          exact SO.nilZ fun a w h1 h2 h3 h4 h5 => PZ.of h1 h3 h5 (.cons () (.cons () (.cons () (.nil ⟨EnvAll.of h2 ⟨rfl, rfl, trivial⟩, h4⟩))))
        · rintro Fr _ _ _
          refine SO.v rfl (opv_idx Try.underlying74 Try.sizeOf72 hR78 rfl rfl hr82) ?_
          exact SO.nilZ fun a w h1 h2 h3 h4 h5 => PZ.of h1 h3 h5 (.cons () (.cons () (.cons () (.cons () (.nil ⟨EnvAll.of h2 ⟨rfl, rfl, rfl, trivial⟩, h4⟩)))))
        · rintro Fr _ _
          refine SO.v rfl (opv_fieldIdx Try.underlying72 rfl Try.sizeOf3 hR78 hr82 rfl rfl) ?_
          exact SO.nilZ fun a w h1 h2 h3 h4 h5 => PZ.of h1 h3 h5 (.cons () (.cons () (.cons () (.nil ⟨EnvAll.of h2 ⟨rfl, rfl, trivial⟩, h4⟩))))
        · rintro Fr _ _
          refine SO.loadI1 (j := 0) rfl Try.isAgg3 (Rd.head hR78) hr82 rfl rfl rfl (hc83.val rfl) ?_
          exact SO.nilZ fun a w h1 h2 h3 h4 h5 => PZ.of h1 h3 h5 (.cons () (.cons () (.cons () (.nil ⟨EnvAll.of h2 ⟨rfl, rfl, trivial⟩, h4⟩))))
        · rintro Fr _
          refine SO.v rfl (opv_eql rfl rfl) ?_
          exact SO.nilZ fun a w h1 h2 h3 h4 h5 => PZ.of h1 h3 h5 (.cons () (.cons () (.nil ⟨EnvAll.of h2 ⟨rfl, rfl, trivial⟩, h4⟩)))
        rintro _ _ _ _ _ _ _ _ _
        refine S.to (ρ' := [(0, bp bp0 0), (1, .int .i64 a1), (4, bp b13 0), (64, .bool (x79.Kind == 3))]) ⟨rfl, rfl, rfl, rfl, trivial⟩ ?_
        rcases bool_or (x79.Kind == 3) with b84 | b84
        · replace h := cond_t b84 h
          refine S.condT rfl b84 ?_
          refine S.region ?_
          refine SO.v rfl (opv_move rfl) ?_
          refine SO.v rfl (opv_fieldAddr Try.underlying72 rfl Try.sizeOf3 rfl rfl) ?_
          refine SO.b2 ?_
          refine SO.load1 rfl Try.isAgg3 rfl rfl ?_
          obtain ⟨p85, ht86, h⟩ := opt_bind h
          refine SO.b2 ?_
          refine SO.closeR ?_
          refine SO.b2 ?_
          refine SO.closeR ?_
          refine SO.b1 ?_
          refine SO.b3 ?_
          have ct88 := ref10_State_rest.ct bp0 v0_Slots v0_Objs _ _ _ ht86
          dsimp only at ct88
          refine SO.call (pre := [Box _ _, OwnR _ _ _ _, OwnR _ _ _ _]) rfl Try.call60 rfl rfl rfl ct88 trivial ?_
          rintro _ _ ⟨u87_Slots, u87_Objs, rfl, rfl⟩
          refine SO.nil ?_
          cases h
          refine S.b4 ?_
          refine S.b1 ?_
          refine S.b4 ?_
          refine S.b3 ?_
          refine S.b4 ?_
          refine S.to ?_ (hk1 (u87_Slots, u87_Objs) trivial)
          exact ⟨rfl, rfl, trivial⟩
        · replace h := cond_f b84 h
          refine S.condF rfl b84 ?_
          refine S.skip ?_
          cases h
          refine S.closeR ?_
          refine S.b1 ?_
          refine S.closeR ?_
          refine S.b4 ?_
          refine S.b4 ?_
          refine S.b4 ?_
          refine S.b3 ?_
          refine S.b4 ?_
          refine S.to ?_ (hk1 (v0_Slots, v0_Objs) trivial)
          exact ⟨rfl, rfl, trivial⟩
      · replace h := cond_f b44 h
        refine S.condF rfl b44 ?_
        refine S.skip ?_
        cases h
        refine S.b1 ?_
        refine S.closeR ?_
        refine S.b4 ?_
        refine S.b3 ?_
        refine S.b3 ?_
        refine S.b4 ?_
        refine S.b4 ?_
        refine S.to ?_ (hk1 (v0_Slots, v0_Objs) trivial)
        exact ⟨rfl, rfl, trivial⟩
  rintro ⟨vyp0_0_1, vyp0_1_1⟩ -
  replace h := hJ1
  refine S.seq ?_
  refine S.region ?_
  refine SO.v rfl (opv_move rfl) ?_
  refine SO.v rfl (opv_nilCheck rfl) ?_
  refine SO.v rfl (opv_fieldAddr Try.underlying76 rfl Try.sizeOf74 rfl rfl) ?_
  refine SO.b3 ?_
  refine SO.load1 rfl Try.isAgg74 rfl rfl ?_
  refine SO.v rfl (opv_move rfl) ?_
  refine SO.b1 ?_
  refine SO.openR fun raws94 A95 hrel96 hR97 => ?_
  obtain ⟨x89, hx90, h⟩ := opt_bind h
  obtain ⟨r91, hr92, hc93⟩ := relR.at hrel96 hx90
  refine SO.v rfl (opv_idx Try.underlying74 Try.sizeOf72 hR97 rfl rfl hr92) ?_
  refine SO.v rfl (opv_fieldIdx Try.underlying72 rfl Try.sizeOf3 hR97 hr92 rfl rfl) ?_
  refine SO.storeO1 (j := 8) (q := .val (.int .i64 0)) (z' := ({ x89 with State := 0 } : ref10_Obj)) Try.sizeOf3 hrel96 hx90 rfl rfl rfl rfl rfl rfl rfl (fun raws98 hrel99 hR100 => ?_)
  refine SO.nil ?_
  refine S.to (ρ' := [(0, bp bp0 0), (1, .int .i64 a1)]) ⟨rfl, rfl, trivial⟩ ?_
  refine S.region ?_
  refine SO.v rfl (opv_move rfl) ?_
  refine SO.v rfl (opv_nilCheck rfl) ?_
  refine SO.v rfl (opv_fieldAddr Try.underlying76 rfl Try.sizeOf74 rfl rfl) ?_
  refine SO.b1 ?_
  refine SO.load1 rfl Try.isAgg74 rfl rfl ?_
  refine SO.v rfl (opv_move rfl) ?_
  obtain ⟨x101, hx102, h⟩ := opt_bind h
  obtain ⟨r103, hr104, hc105⟩ := relR.at hrel99 hx102
  refine SO.v rfl (opv_idx Try.underlying74 Try.sizeOf72 hR100 rfl rfl hr104) ?_
  refine SO.v rfl (opv_fieldIdx Try.underlying72 rfl Try.sizeOf3 hR100 hr104 rfl rfl) ?_
  refine SO.b1 ?_
  refine SO.storeO1 (j := 12) (q := .val (.int .i64 (-1))) (z' := ({ x101 with On := -1 } : ref10_Obj)) Try.sizeOf3 hrel99 hx102 rfl rfl rfl rfl rfl rfl rfl (fun raws106 hrel107 hR108 => ?_)
  refine SO.nil ?_
  refine S.to (ρ' := []) trivial ?_
  cases h
  refine S.closeR ?_
  refine S.b3 ?_
  refine S.drop ?_
  refine S.b3 ?_
  refine S.b1 ?_
  refine S.b3 ?_
  refine S.b3 ?_
  exact S.fin0 Try.func53 rfl (fun w hs hk => hR w _ _ ⟨vyp0_0_1, vyp0_1_1, rfl, rfl⟩ hs hk)
end Go.Proofs
namespace Go.Proofs
open Go.Sl Go.RowKit
/-! 20 (*padstone/padstoneref10.State).Suspend -/
def ref10_State_Suspend.f (k : Nat) (a0 : ref10_State) (a1 : Int) : Option ((Int × ref10_State)) :=
  (ref10_State_is.f a0 a1 5).bind fun t9 => bif !t9 then (some (2, a0)) else ((at_ a0.Objs a1).bind fun x12 => bif x12.State == 0 then (some (10, a0)) else ((ref10_State_Cancel.f k a0 a1).bind fun p18 => some (0, p18)))
set_option maxHeartbeats 8000000 in
set_option maxRecDepth 100000 in
theorem ref10_State_Suspend.ct (k : Nat) (bp0 : Nat) (v0_Slots : Value) (v0_Objs : Value) (a0 : ref10_State) (a1 : Int) (r0 : Int) (rp0 : ref10_State) (h : ref10_State_Suspend.f k a0 a1 = some (r0, rp0)) :
    Ct Try.prog 20 [bp bp0 0, .int .i64 a1] (fun _ => True) [Box bp0 [v0_Slots, v0_Objs, .int .i64 a0.NS, .int .i64 a0.NO], OwnR 81 kr_ref10_Slot v0_Slots a0.Slots, OwnR 72 kr_ref10_Obj v0_Objs a0.Objs] (fun u H' => ∃ rw0_Slots rw0_Objs, u = .int .i64 r0 ∧ H' = [Box bp0 [rw0_Slots, rw0_Objs, .int .i64 rp0.NS, .int .i64 rp0.NO], OwnR 81 kr_ref10_Slot rw0_Slots rp0.Slots, OwnR 72 kr_ref10_Obj rw0_Objs rp0.Objs]) := by
  unfold ref10_State_Suspend.f at h
  refine Ct.intro (n := 23) Try.func20 rfl rfl rfl ?_
  intro R w0 F hF hR
  refine S.seq ?_
  refine S.region ?_
  refine SO.v rfl (opv_assign rfl) ?_
  refine SO.nil ?_
  refine S.seq ?_
  refine S.region ?_
  refine SO.v rfl (opv_move rfl) ?_
  refine SO.v rfl (opv_move rfl) ?_
  obtain ⟨t9, ht10, h⟩ := opt_bind h
  refine SO.b1 ?_
  refine SO.openR fun raws1 A2 hrel3 hR4 => ?_
  refine SO.b2 ?_
  refine SO.openR fun raws5 A6 hrel7 hR8 => ?_
  refine SO.b1 ?_
  refine SO.b2 ?_
  refine SO.call (pre := [Box _ _, OwnO _ _ _ _ _ _, OwnO _ _ _ _ _ _]) rfl Try.call52 rfl rfl rfl (ref10_State_is.ct bp0 v0_Slots v0_Objs raws1 A2 raws5 A6 _ _ _ _ ht10) trivial ?_
  rintro _ _ ⟨rfl, rfl⟩
  refine SO.v rfl (opv_assign rfl) ?_
  refine SO.nil ?_
  refine S.seq ?_
  refine S.seq ?_
  refine S.region ?_
  refine SO.v rfl (opv_move rfl) ?_
  refine SO.v rfl (opv_not rfl) ?_
  refine SO.nil ?_
  rcases bool_or (!t9) with b11 | b11
  · replace h := cond_t b11 h
    refine S.condT rfl b11 ?_
    refine S.seq ?_
    refine S.region ?_
    refine SO.v rfl (opv_assign rfl) ?_
    refine SO.nil ?_
    refine S.to (ρ' := [(4, .int .i64 2)]) ⟨rfl, trivial⟩ ?_
    cases h
    refine S.b1 ?_
    refine S.closeR ?_
    refine S.b2 ?_
    refine S.closeR ?_
    refine S.b3 ?_
    refine S.b1 ?_
    refine S.b2 ?_
    refine S.b3 ?_
    exact S.ret1 Try.func20 rfl rfl (fun w hs hk => hR w _ _ ⟨v0_Slots, v0_Objs, rfl, rfl⟩ hs hk)
  · replace h := cond_f b11 h
    refine S.condF rfl b11 ?_
    refine S.skip ?_
    refine S.seq ?_
    refine S.seq ?_
    refine S.region ?_
    refine SO.v rfl (opv_move rfl) ?_
    refine SO.v rfl (opv_nilCheck rfl) ?_
    refine SO.v rfl (opv_fieldAddr Try.underlying76 rfl Try.sizeOf74 rfl rfl) ?_
    refine SO.load1 rfl Try.isAgg74 rfl rfl ?_
    refine SO.v rfl (opv_move rfl) ?_
    obtain ⟨x12, hx13, h⟩ := opt_bind h
    obtain ⟨r14, hr15, hc16⟩ := relR.at hrel7 hx13
    refine SO.v rfl (opv_idx Try.underlying74 Try.sizeOf72 hR8 rfl rfl hr15) ?_
    refine SO.v rfl (opv_fieldIdx Try.underlying72 rfl Try.sizeOf3 hR8 hr15 rfl rfl) ?_
    refine SO.loadI1 (j := 8) rfl Try.isAgg3 (Rd.tail (Rd.tail (Rd.head hR8))) hr15 rfl rfl rfl (hc16.val rfl) ?_
    refine SO.v rfl (opv_eql rfl rfl) ?_
    refine SO.nil ?_
    refine S.to (ρ' := [(0, bp bp0 0), (1, .int .i64 a1), (4, .int .i64 0), (19, .bool (x12.State == 0))]) ⟨rfl, rfl, rfl, rfl, trivial⟩ ?_
    rcases bool_or (x12.State == 0) with b17 | b17
    · replace h := cond_t b17 h
      refine S.condT rfl b17 ?_
      refine S.seq ?_
      refine S.region ?_
      refine SO.v rfl (opv_assign rfl) ?_
      refine SO.nil ?_
      cases h
      refine S.b1 ?_
      refine S.closeR ?_
      refine S.b2 ?_
      refine S.closeR ?_
      refine S.b3 ?_
      refine S.b1 ?_
      refine S.b2 ?_
      refine S.b3 ?_
      exact S.ret1 Try.func20 rfl rfl (fun w hs hk => hR w _ _ ⟨v0_Slots, v0_Objs, rfl, rfl⟩ hs hk)
    · replace h := cond_f b17 h
      refine S.condF rfl b17 ?_
      refine S.skip ?_
      refine S.seq ?_
      refine S.region ?_
      refine SO.v rfl (opv_move rfl) ?_
      refine SO.v rfl (opv_move rfl) ?_
      obtain ⟨p18, ht19, h⟩ := opt_bind h
      refine SO.b1 ?_
      refine SO.closeR ?_
      refine SO.b2 ?_
      refine SO.closeR ?_
      refine SO.b1 ?_
      refine SO.b2 ?_
      refine SO.call (pre := [Box _ _, OwnR _ _ _ _, OwnR _ _ _ _]) rfl Try.call53 rfl rfl rfl (ref10_State_Cancel.ct _ bp0 v0_Slots v0_Objs _ _ _ ht19) trivial ?_
      rintro _ _ ⟨u20_Slots, u20_Objs, rfl, rfl⟩
      refine SO.nil ?_
      refine S.seq ?_
      refine S.region ?_
      refine SO.v rfl (opv_assign rfl) ?_
      refine SO.nil ?_
      cases h
      refine S.b3 ?_
      refine S.b3 ?_
      refine S.b3 ?_
      refine S.b3 ?_
      exact S.ret1 Try.func20 rfl rfl (fun w hs hk => hR w _ _ ⟨u20_Slots, u20_Objs, rfl, rfl⟩ hs hk)
end Go.Proofs
namespace Go.Proofs
open Go.Sl Go.RowKit
/-! 63 (*padstone/padstoneref10.State).Poll -/
def ref10_State_Poll.f (a0 : ref10_State) (a1 : Int) : Option ((Int × ref10_State)) :=
  (at_ a0.Objs a1).bind fun x1 => (at_ a0.Objs a1).bind fun x10 => some (x1.Word, ({ a0 with Objs := a0.Objs.set a1.toNat ({ x10 with Word := 0 } : ref10_Obj) } : ref10_State))
set_option maxHeartbeats 8000000 in
set_option maxRecDepth 100000 in
theorem ref10_State_Poll.ct (bp0 : Nat) (v0_Slots : Value) (v0_Objs : Value) (a0 : ref10_State) (a1 : Int) (r0 : Int) (rp0 : ref10_State) (h : ref10_State_Poll.f a0 a1 = some (r0, rp0)) :
    Ct Try.prog 63 [bp bp0 0, .int .i64 a1] (fun _ => True) [Box bp0 [v0_Slots, v0_Objs, .int .i64 a0.NS, .int .i64 a0.NO], OwnR 81 kr_ref10_Slot v0_Slots a0.Slots, OwnR 72 kr_ref10_Obj v0_Objs a0.Objs] (fun u H' => ∃ rw0_Slots rw0_Objs, u = .int .i64 r0 ∧ H' = [Box bp0 [rw0_Slots, rw0_Objs, .int .i64 rp0.NS, .int .i64 rp0.NO], OwnR 81 kr_ref10_Slot rw0_Slots rp0.Slots, OwnR 72 kr_ref10_Obj rw0_Objs rp0.Objs]) := by
  unfold ref10_State_Poll.f at h
  refine Ct.intro (n := 22) Try.func63 rfl rfl rfl ?_
  intro R w0 F hF hR
  refine S.seq ?_
  refine S.region ?_
  refine SO.v rfl (opv_assign rfl) ?_
  refine SO.nil ?_
  refine S.seq ?_
  refine S.region ?_
  refine SO.v rfl (opv_move rfl) ?_
  refine SO.v rfl (opv_nilCheck rfl) ?_
  refine SO.v rfl (opv_fieldAddr Try.underlying76 rfl Try.sizeOf74 rfl rfl) ?_
  refine SO.load1 rfl Try.isAgg74 rfl rfl ?_
  refine SO.v rfl (opv_move rfl) ?_
  refine SO.b2 ?_
  refine SO.openR fun raws6 A7 hrel8 hR9 => ?_
  obtain ⟨x1, hx2, h⟩ := opt_bind h
  obtain ⟨r3, hr4, hc5⟩ := relR.at hrel8 hx2
  refine SO.v rfl (opv_idx Try.underlying74 Try.sizeOf72 hR9 rfl rfl hr4) ?_
  refine SO.v rfl (opv_fieldIdx Try.underlying72 rfl Try.sizeOf3 hR9 hr4 rfl rfl) ?_
  refine SO.loadI1 (j := 7) rfl Try.isAgg3 (Rd.head hR9) hr4 rfl rfl rfl (hc5.val rfl) ?_
  refine SO.v rfl (opv_assign rfl) ?_
  refine SO.nil ?_
  refine S.to (ρ' := [(0, bp bp0 0), (1, .int .i64 a1), (4, .int .i64 0), (5, .int .i64 x1.Word)]) ⟨rfl, rfl, rfl, rfl, trivial⟩ ?_
  refine S.seq ?_
  refine S.region ?_
  refine SO.v rfl (opv_move rfl) ?_
  refine SO.v rfl (opv_nilCheck rfl) ?_
  refine SO.v rfl (opv_fieldAddr Try.underlying76 rfl Try.sizeOf74 rfl rfl) ?_
  refine SO.b1 ?_
  refine SO.load1 rfl Try.isAgg74 rfl rfl ?_
  refine SO.v rfl (opv_move rfl) ?_
  obtain ⟨x10, hx11, h⟩ := opt_bind h
  obtain ⟨r12, hr13, hc14⟩ := relR.at hrel8 hx11
  refine SO.v rfl (opv_idx Try.underlying74 Try.sizeOf72 hR9 rfl rfl hr13) ?_
  refine SO.v rfl (opv_fieldIdx Try.underlying72 rfl Try.sizeOf3 hR9 hr13 rfl rfl) ?_
  refine SO.b1 ?_
  refine SO.storeO1 (j := 7) (q := .val (.int .i64 0)) (z' := ({ x10 with Word := 0 } : ref10_Obj)) Try.sizeOf3 hrel8 hx11 rfl rfl rfl rfl rfl rfl rfl (fun raws15 hrel16 hR17 => ?_)
  refine SO.nil ?_
  refine S.to (ρ' := [(4, .int .i64 0), (5, .int .i64 x1.Word)]) ⟨rfl, rfl, trivial⟩ ?_
  refine S.seq ?_
  refine S.region ?_
  refine SO.v rfl (opv_move rfl) ?_
  refine SO.v rfl (opv_assign rfl) ?_
  refine SO.nil ?_
  cases h
  refine S.closeR ?_
  refine S.b3 ?_
  refine S.b1 ?_
  refine S.b3 ?_
  refine S.b3 ?_
  exact S.ret1 Try.func63 rfl rfl (fun w hs hk => hR w _ _ ⟨v0_Slots, v0_Objs, rfl, rfl⟩ hs hk)
end Go.Proofs
namespace Go.Proofs
open Go.Sl Go.RowKit
/-! 29 (*padstone/padstoneref10.State).Wait -/
def ref10_State_Wait.f (a0 : ref10_State) (a1 : Int) (a2 : Int) : Option ((Int × Bool × ref10_State)) :=
  (at_ a0.Objs a1).bind fun x1 => bif x1.Word == 0 then ((ref10_State_Block.f a0 a1 a2 5).bind fun p11 => some (0, false, p11)) else ((ref10_State_Poll.f a0 a1).bind fun (t14, p15) => some (t14, true, p15))
set_option maxHeartbeats 8000000 in
set_option maxRecDepth 100000 in
theorem ref10_State_Wait.ct (bp0 : Nat) (v0_Slots : Value) (v0_Objs : Value) (a0 : ref10_State) (a1 : Int) (a2 : Int) (r0 : Int) (r1 : Bool) (rp0 : ref10_State) (h : ref10_State_Wait.f a0 a1 a2 = some (r0, r1, rp0)) :
    Ct Try.prog 29 [bp bp0 0, .int .i64 a1, .int .i64 a2] (fun _ => True) [Box bp0 [v0_Slots, v0_Objs, .int .i64 a0.NS, .int .i64 a0.NO], OwnR 81 kr_ref10_Slot v0_Slots a0.Slots, OwnR 72 kr_ref10_Obj v0_Objs a0.Objs] (fun u H' => ∃ rw0_Slots rw0_Objs, u = .tuple #[.int .i64 r0, .bool r1] ∧ H' = [Box bp0 [rw0_Slots, rw0_Objs, .int .i64 rp0.NS, .int .i64 rp0.NO], OwnR 81 kr_ref10_Slot rw0_Slots rp0.Slots, OwnR 72 kr_ref10_Obj rw0_Objs rp0.Objs]) := by
  unfold ref10_State_Wait.f at h
  refine Ct.intro (n := 24) Try.func29 rfl rfl rfl ?_
  intro R w0 F hF hR
  refine S.seq ?_
  refine S.region ?_
  refine SO.v rfl (opv_assign rfl) ?_
  refine SO.v rfl (opv_assign rfl) ?_
  refine SO.nil ?_
  refine S.seq ?_
  refine S.seq ?_
  refine S.region ?_
  refine SO.v rfl (opv_move rfl) ?_
  refine SO.v rfl (opv_nilCheck rfl) ?_
  refine SO.v rfl (opv_fieldAddr Try.underlying76 rfl Try.sizeOf74 rfl rfl) ?_
  refine SO.load1 rfl Try.isAgg74 rfl rfl ?_
  refine SO.v rfl (opv_move rfl) ?_
  refine SO.b2 ?_
  refine SO.openR fun raws6 A7 hrel8 hR9 => ?_
  obtain ⟨x1, hx2, h⟩ := opt_bind h
  obtain ⟨r3, hr4, hc5⟩ := relR.at hrel8 hx2
  refine SO.v rfl (opv_idx Try.underlying74 Try.sizeOf72 hR9 rfl rfl hr4) ?_
  refine SO.v rfl (opv_fieldIdx Try.underlying72 rfl Try.sizeOf3 hR9 hr4 rfl rfl) ?_
  refine SO.loadI1 (j := 7) rfl Try.isAgg3 (Rd.head hR9) hr4 rfl rfl rfl (hc5.val rfl) ?_
  refine SO.v rfl (opv_eql rfl rfl) ?_
  refine SO.nil ?_
  refine S.to (ρ' := [(0, bp bp0 0), (1, .int .i64 a1), (2, .int .i64 a2), (6, .int .i64 0), (7, .bool false), (16, .bool (x1.Word == 0))]) ⟨rfl, rfl, rfl, rfl, rfl, rfl, trivial⟩ ?_
  rcases bool_or (x1.Word == 0) with b10 | b10
  · replace h := cond_t b10 h
    refine S.condT rfl b10 ?_
    refine S.seq ?_
    refine S.region ?_
    refine SO.v rfl (opv_move rfl) ?_
    refine SO.v rfl (opv_move rfl) ?_
    refine SO.v rfl (opv_move rfl) ?_
    obtain ⟨p11, ht12, h⟩ := opt_bind h
    refine SO.closeR ?_
    refine SO.b2 ?_
    refine SO.b2 ?_
    refine SO.call (pre := [Box _ _, OwnR _ _ _ _, OwnR _ _ _ _]) rfl Try.call62 rfl rfl rfl (ref10_State_Block.ct bp0 v0_Slots v0_Objs _ _ _ _ _ ht12) trivial ?_
    rintro _ _ ⟨u13_Slots, u13_Objs, rfl, rfl⟩
    refine SO.nil ?_
    refine S.to (ρ' := [(6, .int .i64 0), (7, .bool false)]) ⟨rfl, rfl, trivial⟩ ?_
    refine S.seq ?_
    refine S.region ?_
    refine SO.v rfl (opv_assign rfl) ?_
    refine SO.v rfl (opv_assign rfl) ?_
    refine SO.nil ?_
    cases h
    refine S.b3 ?_
    refine S.b3 ?_
    refine S.b3 ?_
    refine S.b3 ?_
    exact S.ret2 Try.func29 rfl rfl rfl (fun w hs hk => hR w _ _ ⟨u13_Slots, u13_Objs, rfl, rfl⟩ hs hk)
  · replace h := cond_f b10 h
    refine S.condF rfl b10 ?_
    refine S.skip ?_
    refine S.seq ?_
    refine S.region ?_
    refine SO.v rfl (opv_move rfl) ?_
    refine SO.v rfl (opv_move rfl) ?_
    obtain ⟨⟨t14, p15⟩, ht16, h⟩ := opt_bind h
    refine SO.closeR ?_
    refine SO.b2 ?_
    refine SO.b2 ?_
    refine SO.call (pre := [Box _ _, OwnR _ _ _ _, OwnR _ _ _ _]) rfl Try.call63 rfl rfl rfl (ref10_State_Poll.ct bp0 v0_Slots v0_Objs _ _ _ _ ht16) trivial ?_
    rintro _ _ ⟨u17_Slots, u17_Objs, rfl, rfl⟩
    refine SO.v rfl (opv_assign rfl) ?_
    refine SO.v rfl (opv_assign rfl) ?_
    refine SO.nil ?_
    refine S.to (ρ' := [(6, .int .i64 t14), (7, .bool true)]) ⟨rfl, rfl, trivial⟩ ?_
    cases h
    refine S.b3 ?_
    refine S.b3 ?_
    refine S.b3 ?_
    refine S.b3 ?_
    exact S.ret2 Try.func29 rfl rfl rfl (fun w hs hk => hR w _ _ ⟨u17_Slots, u17_Objs, rfl, rfl⟩ hs hk)
end Go.Proofs
namespace Go.Proofs
open Go.Sl Go.RowKit
/-! 22 padstone/tcb.Prio -/
def tcb_Prio.f (a1 : Int) (a2 : Int) : VM ((Option Int)) :=
  (lay_Is.f a1 5).bind fun t1 => bif !t1 then (VM.ret (some 2)) else (bif (decide (a2 < 0)) || (decide (255 < a2)) then (VM.ret (some 1)) else ((lay_Field.f a1 5).bind fun t7 => (lay_Put.f a1 5 (w64 ((w64 ((w64 (t7.tdiv 256)) * 256)) + a2))).bind fun _ => VM.ret none))
set_option maxHeartbeats 8000000 in
set_option maxRecDepth 100000 in
theorem tcb_Prio.ct (V : VW Try.prog) (a1 : Int) (a2 : Int) (r0 : Option Int) (s s' : V.S) (h : VM.run V.toVI (tcb_Prio.f a1 a2) s = some (r0, s')) :
    Ct Try.prog 22 [V.val, .int .i64 a1, .int .i64 a2] (fun _ => True) [V.rep s] (fun u H' => u = errV 44 r0 ∧ H' = [V.rep s']) := by
  unfold tcb_Prio.f at h
  refine Ct.intro (n := 31) Try.func22 rfl rfl rfl ?_
  intro R w0 F hF hR
  refine S.seq ?_
  refine S.region ?_
  refine SO.v rfl (opv_assign rfl) ?_
  refine SO.nil ?_
  refine S.seq ?_
  refine S.block ?_
  refine S.seq ?_
  refine S.region ?_
  refine SO.v rfl (opv_move rfl) ?_
  refine SO.v rfl (opv_move rfl) ?_
  obtain ⟨t1, s3, ht2, h⟩ := VM.bind_some V.toVI h
  refine SO.call (pre := [V.rep _]) rfl Try.call50 rfl rfl rfl (lay_Is.ct V _ _ _ _ _ ht2) trivial ?_
  rintro _ _ ⟨rfl, rfl⟩
  refine SO.v rfl (opv_not rfl) ?_
  refine SO.v rfl (opv_assign rfl) ?_
  refine SO.nil ?_
  rcases bool_or (!t1) with b4 | b4
  · replace h := VM.cond_t V.toVI b4 h
    refine S.condT rfl b4 ?_
    refine S.seq ?_
    refine S.region ?_
    refine SO.v rfl (opv_iface Try.underlying44 rfl rfl) ?_
    refine SO.v rfl (opv_assign rfl) ?_
    refine SO.nil ?_
    refine S.to (ρ' := [(6, errV 44 (some 2))]) ⟨rfl, trivial⟩ ?_
    obtain ⟨hq, rfl⟩ := VM.ret_some V.toVI h
    cases hq
    refine S.b1 ?_
    refine S.b1 ?_
    exact S.ret1 Try.func22 rfl rfl (fun w hs hk => hR w _ _ ⟨rfl, rfl⟩ hs hk)
  · replace h := VM.cond_f V.toVI b4 h
    refine S.condF rfl b4 ?_
    refine S.seq ?_
    refine S.region ?_
    refine SO.v rfl (opv_move rfl) ?_
    refine SO.v rfl (opv_lss rfl rfl) ?_
    refine SO.v rfl (opv_move rfl) ?_
    refine SO.cut 3 19 (.bool ((decide (a2 < 0)) || (decide (255 < a2)))) [V.rep s3, F] (fun l2 hk2 => ?_) ?_
    · rcases bool_or (decide (a2 < 0)) with b5 | b5
      · refine SO.passF rfl rfl rfl b5 rfl rfl ?_
        refine SO.passF rfl rfl rfl b5 rfl rfl ?_
        refine SO.v rfl (opv_pick_t' b5 rfl rfl) ?_
        refine SO.b1 ?_
        refine SO.b1 ?_
        exact hk2.fitc (m := 3) rfl (or_t b5) rfl
      · refine SO.takeT rfl rfl rfl b5 ?_
        refine SO.v rfl (opv_move rfl) ?_
        refine SO.takeT rfl rfl rfl b5 ?_
        refine SO.v rfl (opv_gtr rfl rfl) ?_
        refine SO.v rfl (opv_pick_f' b5 rfl rfl) ?_
        refine SO.b1 ?_
        refine SO.b1 ?_
        exact hk2.fitc (m := 3) rfl (or_f b5) rfl
    refine SO.v rfl (opv_assign rfl) ?_
    refine SO.nil ?_
    refine S.to (ρ' := [(0, V.val), (1, .int .i64 a1), (2, .int .i64 a2), (6, errV 44 none), (13, .bool ((decide (a2 < 0)) || (decide (255 < a2))))]) ⟨rfl, rfl, rfl, rfl, rfl, trivial⟩ ?_
    rcases bool_or ((decide (a2 < 0)) || (decide (255 < a2))) with b6 | b6
    · replace h := VM.cond_t V.toVI b6 h
      refine S.condT rfl b6 ?_
      refine S.seq ?_
      refine S.region ?_
      refine SO.v rfl (opv_iface Try.underlying44 rfl rfl) ?_
      refine SO.v rfl (opv_assign rfl) ?_
      refine SO.nil ?_
      obtain ⟨hq, rfl⟩ := VM.ret_some V.toVI h
      cases hq
      refine S.b1 ?_
      refine S.b1 ?_
      exact S.ret1 Try.func22 rfl rfl (fun w hs hk => hR w _ _ ⟨rfl, rfl⟩ hs hk)
    · replace h := VM.cond_f V.toVI b6 h
      refine S.condF rfl b6 ?_
      refine S.skip ?_
      refine S.inBlock ?_
      refine S.seq ?_
      refine S.region ?_
      refine SO.v rfl (opv_move rfl) ?_
      refine SO.v rfl (opv_move rfl) ?_
      refine SO.v rfl (opv_move rfl) ?_
      refine SO.v rfl (opv_move rfl) ?_
      obtain ⟨t7, s9, ht8, h⟩ := VM.bind_some V.toVI h
      refine SO.call (pre := [V.rep _]) rfl Try.call38 rfl rfl rfl (lay_Field.ct V _ _ _ _ _ ht8) trivial ?_
      rintro _ _ ⟨rfl, rfl⟩
      refine SO.v rfl (opv_quo rfl rfl (by decide)) ?_
      refine SO.v rfl (opv_mul rfl rfl) ?_
      refine SO.v rfl (opv_move rfl) ?_
      refine SO.v rfl (opv_add rfl rfl) ?_
      obtain ⟨_, s11, ht10, h⟩ := VM.bind_some V.toVI h
      refine SO.call (pre := [V.rep _]) rfl Try.call45 rfl rfl rfl (lay_Put.ct V _ _ _ _ _ ht10) trivial ?_
      rintro _ _ ⟨rfl, rfl⟩
      refine SO.nil ?_
      refine S.to (ρ' := [(6, errV 44 none)]) ⟨rfl, trivial⟩ ?_
      refine S.seq ?_
      refine S.region ?_
      refine SO.v rfl (opv_assign rfl) ?_
      refine SO.nil ?_
      obtain ⟨hq, rfl⟩ := VM.ret_some V.toVI h
      cases hq
      refine S.b1 ?_
      refine S.b1 ?_
      exact S.ret1 Try.func22 rfl rfl (fun w hs hk => hR w _ _ ⟨rfl, rfl⟩ hs hk)
end Go.Proofs
namespace Go.Proofs
open Go.Sl Go.RowKit
/-! 56 padstone/cspace.Fine -/
def cspace_Fine.f (a1 : api_Cap) : VM (Bool) :=
  (bif a1.Kind != 2 then (VM.ret true) else ((lay_Is.f a1.Obj 2).bind fun t5 => VM.ret (!t5))).bind fun c3 => bif c3 then (VM.ret false) else ((lay_Field.f a1.Obj 2).bind fun t10 => (bif decide (t10 ≤ 5) then ((lay_Field.f a1.Obj 1).bind fun t14 => (VM.opt (chk (decide (0 ≤ t10)))).bind fun _ => VM.ret (decide (t14 ≤ (w64 (96 - (bshl .i64 1 t10)))))) else (VM.ret false)).bind fun j4_1 => VM.ret j4_1)
set_option maxHeartbeats 8000000 in
set_option maxRecDepth 100000 in
theorem cspace_Fine.ct (V : VW Try.prog) (a1 : api_Cap) (r0 : Bool) (s s' : V.S) (h : VM.run V.toVI (cspace_Fine.f a1) s = some (r0, s')) :
    Ct Try.prog 56 [V.val, .agg #[.int .i64 a1.Kind, .int .i64 a1.Rights, .int .i64 a1.Obj, .int .i64 a1.Badge, .int .i64 a1.Guard, .int .i64 a1.Bits]] (fun _ => True) [V.rep s] (fun u H' => u = .bool r0 ∧ H' = [V.rep s']) := by
  unfold cspace_Fine.f at h
  refine Ct.intro (n := 32) Try.func56 rfl rfl rfl ?_
  intro R w0 F hF hR
  refine S.seq ?_
  refine S.region ?_
  refine SO.box rfl rfl rfl (fun b1 => ?_)
  refine SO.v rfl (opv_assign rfl) ?_
  refine SO.nil ?_
  refine S.seq ?_
  refine S.seq ?_
  refine S.region ?_
  refine SO.v rfl (opv_fieldAddr Try.underlying49 rfl Try.sizeOf3 rfl rfl) ?_
  refine SO.load1 rfl Try.isAgg3 rfl rfl ?_
  refine SO.v rfl (opv_neq rfl rfl) ?_
  refine SO.v rfl (opv_move rfl) ?_
  obtain ⟨c3, s8, hc4, hgk⟩ := VM.bind_some V.toVI h
  refine SO.cut 6 15 (.bool c3) [Box b1 [.int .i64 a1.Kind, .int .i64 a1.Rights, .int .i64 a1.Obj, .int .i64 a1.Badge, .int .i64 a1.Guard, .int .i64 a1.Bits], V.rep s8, F] (fun l2 hk2 => ?_) ?_
  · clear hgk
    replace h := hc4
    rcases bool_or (a1.Kind != 2) with b2 | b2
    · replace h := VM.cond_t V.toVI b2 h
      refine SO.passF rfl rfl rfl b2 rfl rfl ?_
      refine SO.passF rfl rfl rfl b2 rfl rfl ?_
      refine SO.passF rfl rfl rfl b2 rfl rfl ?_
      refine SO.passF rfl rfl rfl b2 rfl rfl ?_
      refine SO.passF rfl rfl rfl b2 rfl rfl ?_
      obtain ⟨hq, rfl⟩ := VM.ret_some V.toVI h
      cases hq
      refine SO.v rfl (opv_pick_t' b2 rfl rfl) ?_
      refine SO.b2 ?_
      refine SO.b2 ?_
      refine SO.b2 ?_
      exact hk2.fitc (m := 6) rfl (rfl) rfl
    · replace h := VM.cond_f V.toVI b2 h
      refine SO.takeT rfl rfl rfl b2 ?_
      refine SO.v rfl (opv_move rfl) ?_
      refine SO.takeT rfl rfl rfl b2 ?_
      refine SO.v rfl (opv_fieldAddr Try.underlying49 rfl Try.sizeOf3 rfl rfl) ?_
      refine SO.takeT rfl rfl rfl b2 ?_
      refine SO.load1 rfl Try.isAgg3 rfl rfl ?_
      refine SO.takeT rfl rfl rfl b2 ?_
      obtain ⟨t5, s7, ht6, h⟩ := VM.bind_some V.toVI h
      refine SO.b1 ?_
      refine SO.call (pre := [V.rep _]) rfl Try.call50 rfl rfl rfl (lay_Is.ct V _ _ _ _ _ ht6) trivial ?_
      rintro _ _ ⟨rfl, rfl⟩
      refine SO.takeT rfl rfl rfl b2 ?_
      refine SO.v rfl (opv_not rfl) ?_
      obtain ⟨hq, rfl⟩ := VM.ret_some V.toVI h
      cases hq
      refine SO.v rfl (opv_pick_f' b2 rfl rfl) ?_
      refine SO.b2 ?_
      refine SO.b1 ?_
      refine SO.b2 ?_
      exact hk2.fitc (m := 6) rfl (rfl) rfl
  clear hc4
  replace h := hgk
  refine SO.nil ?_
  rcases bool_or c3 with b9 | b9
  · replace h := VM.cond_t V.toVI b9 h
    refine S.condT rfl b9 ?_
    refine S.seq ?_
    refine S.region ?_
    refine SO.v rfl (opv_assign rfl) ?_
    refine SO.nil ?_
    refine S.to (ρ' := [(4, .bool false)]) ⟨rfl, trivial⟩ ?_
    obtain ⟨hq, rfl⟩ := VM.ret_some V.toVI h
    cases hq
    refine S.drop ?_
    refine S.b1 ?_
    refine S.b1 ?_
    exact S.ret1 Try.func56 rfl rfl (fun w hs hk => hR w _ _ ⟨rfl, rfl⟩ hs hk)
  · replace h := VM.cond_f V.toVI b9 h
    refine S.condF rfl b9 ?_
    refine S.skip ?_
    refine S.seq ?_
    refine S.region ?_
    refine SO.v rfl (opv_move rfl) ?_
    refine SO.v rfl (opv_fieldAddr Try.underlying49 rfl Try.sizeOf3 rfl rfl) ?_
    refine SO.load1 rfl Try.isAgg3 rfl rfl ?_
    obtain ⟨t10, s12, ht11, h⟩ := VM.bind_some V.toVI h
    refine SO.b1 ?_
    refine SO.call (pre := [V.rep _]) rfl Try.call38 rfl rfl rfl (lay_Field.ct V _ _ _ _ _ ht11) trivial ?_
    rintro _ _ ⟨rfl, rfl⟩
    refine SO.v rfl (opv_assign rfl) ?_
    refine SO.nil ?_
    refine S.to (ρ' := [(0, V.val), (3, bp b1 0), (4, .bool false), (5, .int .i64 t10)]) ⟨rfl, rfl, rfl, rfl, trivial⟩ ?_
    refine S.seq ?_
    obtain ⟨j4_1, s_1, hC1, hJ1⟩ := VM.bind_some V.toVI h
    clear h
    refine S.cutP (G := Unit) (fun _ => True) (fun _ => [(4, .bool j4_1)]) (fun _ => [V.rep s_1, Box b1 [.int .i64 a1.Kind, .int .i64 a1.Rights, .int .i64 a1.Obj, .int .i64 a1.Badge, .int .i64 a1.Guard, .int .i64 a1.Bits], F]) (fun hk1 => ?_) ?_
    · replace h := hC1
      rcases bool_or (decide (t10 ≤ 5)) with b13 | b13
      · replace h := VM.cond_t V.toVI b13 h
        obtain ⟨t14, s16, ht15, h⟩ := VM.bind_some V.toVI h
        obtain ⟨_, hc17, h⟩ := VM.opt_some V.toVI h
        refine S.draw' (Z := fun Q => ∀ (_ : Unit) (_ : Unit) (_ : Unit) (_ : Unit), Q [(4, .bool (decide (t14 ≤ (w64 (96 - (bshl .i64 1 t10))))))] [V.rep s16, Box b1 [.int .i64 a1.Kind, .int .i64 a1.Rights, .int .i64 a1.Obj, .int .i64 a1.Badge, .int .i64 a1.Guard, .int .i64 a1.Bits], F]) (T := [tS 5 (.int .i64 t10), tS 0 (V.val), tS 3 (bp b1 0), tR (V.rep s12), tR (Box b1 [.int .i64 a1.Kind, .int .i64 a1.Rights, .int .i64 a1.Obj, .int .i64 a1.Badge, .int .i64 a1.Guard, .int .i64 a1.Bits]), tR (F), tS 20 (.int .i64 t10), tS 21 (.bool (decide (t10 ≤ 5))), tS 22 (.bool (decide (t10 ≤ 5))), tS 23 (V.val), tS 24 (bp b1 2), tS 25 (.int .i64 a1.Obj), tR (V.rep s16), tS 26 (.int .i64 t14), tS 27 (.int .i64 t10), tS 28 (.int .i64 (bshl .i64 1 t10)), tS 29 (.int .i64 (w64 (96 - (bshl .i64 1 t10)))), tS 30 (.bool (decide (t14 ≤ (w64 (96 - (bshl .i64 1 t10)))))), tS 31 (.bool (decide (t14 ≤ (w64 (96 - (bshl .i64 1 t10)))))), tS 4 (.bool (decide (t14 ≤ (w64 (96 - (bshl .i64 1 t10))))))]) (D := [⟨[0], [], [6]⟩, ⟨[6], [], [7]⟩, ⟨[7], [], [8]⟩, ⟨[1, 8], [], [9]⟩, ⟨[2, 8], [], [10]⟩, ⟨[8, 10, 4], [], [11]⟩, ⟨[8, 9, 11], [3], [12, 13]⟩, ⟨[0, 8], [], [14]⟩, ⟨[8, 14], [], [15]⟩, ⟨[8, 15], [], [16]⟩, ⟨[8, 13, 16], [], [17]⟩, ⟨[8, 17], [], [18]⟩, ⟨[18], [], [19]⟩]) (ini := [0, 1, 2, 3, 4, 5]) (fin := [19, 12, 4, 5]) (bf := [[], [0], [0, 1], [0, 1, 2], [0, 1, 2], [0, 1, 2, 4], [0, 1, 2, 3, 4, 5], [0, 1, 2], [0, 1, 2, 7], [0, 1, 2, 7, 8], [0, 1, 2, 3, 4, 5, 6, 7, 8, 9], [0, 1, 2, 3, 4, 5, 6, 7, 8, 9, 10], [0, 1, 2, 3, 4, 5, 6, 7, 8, 9, 10, 11]]) (by kernel_rfl) (by kernel_rfl) (fun x w h1 h2 => (.cons () (.cons () (.cons () (.cons () (.cons () (.cons () (.nil ⟨EnvAll.of h1 ⟨rfl, rfl, rfl, trivial⟩, h2⟩)))))))) (fun Q => by kernel_rfl) ⟨?_, ?_, ?_, ?_, ?_, ?_, ?_, ?_, ?_, ?_, ?_, ?_, ?_, trivial⟩ ?_
        · rintro Fr _
          refine SO.v rfl (opv_move rfl) ?_
          exact SO.nilZ fun a w h1 h2 h3 h4 h5 => PZ.of h1 h3 h5 (.cons () (.cons () (.nil ⟨EnvAll.of h2 ⟨rfl, rfl, trivial⟩, h4⟩)))
        · rintro Fr _
          refine SO.v rfl (opv_leq rfl rfl) ?_
          exact SO.nilZ fun a w h1 h2 h3 h4 h5 => PZ.of h1 h3 h5 (.cons () (.cons () (.nil ⟨EnvAll.of h2 ⟨rfl, rfl, trivial⟩, h4⟩)))
        · rintro Fr _
          refine SO.v rfl (opv_move rfl) ?_
          exact SO.nilZ fun a w h1 h2 h3 h4 h5 => PZ.of h1 h3 h5 (.cons () (.cons () (.nil ⟨EnvAll.of h2 ⟨rfl, rfl, trivial⟩, h4⟩)))
        · rintro Fr _ _
          refine SO.takeT rfl rfl rfl b13 ?_
          refine SO.v rfl (opv_move rfl) ?_
          exact SO.nilZ fun a w h1 h2 h3 h4 h5 => PZ.of h1 h3 h5 (.cons () (.cons () (.cons () (.nil ⟨EnvAll.of h2 ⟨rfl, rfl, rfl, trivial⟩, h4⟩))))
        · rintro Fr _ _
          refine SO.takeT rfl rfl rfl b13 ?_
          refine SO.v rfl (opv_fieldAddr Try.underlying49 rfl Try.sizeOf3 rfl rfl) ?_
          exact SO.nilZ fun a w h1 h2 h3 h4 h5 => PZ.of h1 h3 h5 (.cons () (.cons () (.cons () (.nil ⟨EnvAll.of h2 ⟨rfl, rfl, rfl, trivial⟩, h4⟩))))
        · rintro Fr _ _ _
          refine SO.takeT rfl rfl rfl b13 ?_
          refine SO.load1 rfl Try.isAgg3 rfl rfl ?_
          exact SO.nilZ fun a w h1 h2 h3 h4 h5 => PZ.of h1 h3 h5 (.cons () (.cons () (.cons () (.cons () (.nil ⟨EnvAll.of h2 ⟨rfl, rfl, rfl, trivial⟩, h4⟩)))))
        · rintro Fr _ _ _ _
          refine SO.takeT rfl rfl rfl b13 ?_
          refine SO.call (pre := [V.rep _]) rfl Try.call38 rfl rfl rfl (lay_Field.ct V _ _ _ _ _ ht15) trivial ?_
          rintro _ _ ⟨rfl, rfl⟩
          exact SO.nilZ fun a w h1 h2 h3 h4 h5 => PZ.of h1 h3 h5 (.cons () (.cons () (.cons () (.cons () (.cons () (.nil ⟨EnvAll.of h2 ⟨rfl, rfl, rfl, rfl, trivial⟩, h4⟩))))))
        · rintro Fr _ _
          refine SO.takeT rfl rfl rfl b13 ?_
          refine SO.v rfl (opv_move rfl) ?_
          exact SO.nilZ fun a w h1 h2 h3 h4 h5 => PZ.of h1 h3 h5 (.cons () (.cons () (.cons () (.nil ⟨EnvAll.of h2 ⟨rfl, rfl, rfl, trivial⟩, h4⟩))))
        · rintro Fr _ _
          refine SO.takeT rfl rfl rfl b13 ?_
          refine SO.v rfl (opv_shl rfl rfl (of_decide_eq_true (chk_some hc17))) ?_
          exact SO.nilZ fun a w h1 h2 h3 h4 h5 => PZ.of h1 h3 h5 (.cons () (.cons () (.cons () (.nil ⟨EnvAll.of h2 ⟨rfl, rfl, rfl, trivial⟩, h4⟩))))
        · rintro Fr _ _
          refine SO.takeT rfl rfl rfl b13 ?_
          refine SO.v rfl (opv_sub rfl rfl) ?_
          exact SO.nilZ fun a w h1 h2 h3 h4 h5 => PZ.of h1 h3 h5 (.cons () (.cons () (.cons () (.nil ⟨EnvAll.of h2 ⟨rfl, rfl, rfl, trivial⟩, h4⟩))))
        · rintro Fr _ _ _
          refine SO.takeT rfl rfl rfl b13 ?_
          refine SO.v rfl (opv_leq rfl rfl) ?_
          exact SO.nilZ fun a w h1 h2 h3 h4 h5 => PZ.of h1 h3 h5 (.cons () (.cons () (.cons () (.cons () (.nil ⟨EnvAll.of h2 ⟨rfl, rfl, rfl, rfl, trivial⟩, h4⟩)))))
        · rintro Fr _ _
          refine SO.v rfl (opv_pick_t' b13 rfl rfl) ?_
          exact SO.nilZ fun a w h1 h2 h3 h4 h5 => PZ.of h1 h3 h5 (.cons () (.cons () (.cons () (.nil ⟨EnvAll.of h2 ⟨rfl, rfl, rfl, trivial⟩, h4⟩))))
        · rintro Fr _
          refine SO.v rfl (opv_assign rfl) ?_
          exact SO.nilZ fun a w h1 h2 h3 h4 h5 => PZ.of h1 h3 h5 (.cons () (.cons () (.nil ⟨EnvAll.of h2 ⟨rfl, rfl, trivial⟩, h4⟩)))
        rintro _ _ _ _
        refine S.to (ρ' := [(4, .bool (decide (t14 ≤ (w64 (96 - (bshl .i64 1 t10))))))]) ⟨rfl, trivial⟩ ?_
        obtain ⟨hq, rfl⟩ := VM.ret_some V.toVI h
        cases hq
        refine S.b2 ?_
        refine S.b2 ?_
        refine S.b2 ?_
        refine S.to ?_ (hk1 () trivial)
        exact ⟨rfl, trivial⟩
      · replace h := VM.cond_f V.toVI b13 h
        refine S.draw' (Z := fun Q => ∀ (_ : Unit) (_ : Unit) (_ : Unit) (_ : Unit), Q [(4, .bool false)] [V.rep s12, Box b1 [.int .i64 a1.Kind, .int .i64 a1.Rights, .int .i64 a1.Obj, .int .i64 a1.Badge, .int .i64 a1.Guard, .int .i64 a1.Bits], F]) (T := [tS 5 (.int .i64 t10), tS 0 (V.val), tS 3 (bp b1 0), tR (V.rep s12), tR (Box b1 [.int .i64 a1.Kind, .int .i64 a1.Rights, .int .i64 a1.Obj, .int .i64 a1.Badge, .int .i64 a1.Guard, .int .i64 a1.Bits]), tR (F), tS 20 (.int .i64 t10), tS 21 (.bool (decide (t10 ≤ 5))), tS 22 (.bool (decide (t10 ≤ 5))), tS 23 (undef), tS 24 (undef), tS 25 (undef), tS 26 (undef), tS 27 (undef), tS 28 (undef), tS 29 (undef), tS 30 (undef), tS 31 (.bool false), tS 4 (.bool false)]) (D := [⟨[0], [], [6]⟩, ⟨[6], [], [7]⟩, ⟨[7], [], [8]⟩, ⟨[8], [], [9]⟩, ⟨[8], [], [10]⟩, ⟨[8], [], [11]⟩, ⟨[8], [], [12]⟩, ⟨[8], [], [13]⟩, ⟨[8], [], [14]⟩, ⟨[8], [], [15]⟩, ⟨[8], [], [16]⟩, ⟨[8, 16], [], [17]⟩, ⟨[17], [], [18]⟩]) (ini := [0, 1, 2, 3, 4, 5]) (fin := [18, 3, 4, 5]) (bf := [[], [0], [0, 1], [0, 1, 2], [0, 1, 2], [0, 1, 2, 4], [0, 1, 2, 3, 4, 5], [0, 1, 2], [0, 1, 2, 7], [0, 1, 2, 7, 8], [0, 1, 2, 3, 4, 5, 6, 7, 8, 9], [0, 1, 2, 3, 4, 5, 6, 7, 8, 9, 10], [0, 1, 2, 3, 4, 5, 6, 7, 8, 9, 10, 11]]) (by kernel_rfl) (by kernel_rfl) (fun x w h1 h2 => (.cons () (.cons () (.cons () (.cons () (.cons () (.cons () (.nil ⟨EnvAll.of h1 ⟨rfl, rfl, rfl, trivial⟩, h2⟩)))))))) (fun Q => by kernel_rfl) ⟨?_, ?_, ?_, ?_, ?_, ?_, ?_, ?_, ?_, ?_, ?_, ?_, ?_, trivial⟩ ?_
        · rintro Fr _
          refine SO.v rfl (opv_move rfl) ?_
          exact SO.nilZ fun a w h1 h2 h3 h4 h5 => PZ.of h1 h3 h5 (.cons () (.cons () (.nil ⟨EnvAll.of h2 ⟨rfl, rfl, trivial⟩, h4⟩)))
        · rintro Fr _
          refine SO.v rfl (opv_leq rfl rfl) ?_
          exact SO.nilZ fun a w h1 h2 h3 h4 h5 => PZ.of h1 h3 h5 (.cons () (.cons () (.nil ⟨EnvAll.of h2 ⟨rfl, rfl, trivial⟩, h4⟩)))
        · rintro Fr _
          refine SO.v rfl (opv_move rfl) ?_
          exact SO.nilZ fun a w h1 h2 h3 h4 h5 => PZ.of h1 h3 h5 (.cons () (.cons () (.nil ⟨EnvAll.of h2 ⟨rfl, rfl, trivial⟩, h4⟩)))
        · rintro Fr _
          refine SO.passF rfl rfl rfl b13 rfl rfl ?_
          exact SO.nilZ fun a w h1 h2 h3 h4 h5 => PZ.of h1 h3 h5 (.cons () (.cons () (.nil ⟨EnvAll.of h2 ⟨rfl, rfl, trivial⟩, h4⟩)))
        · rintro Fr _
          refine SO.passF rfl rfl rfl b13 rfl rfl ?_
          exact SO.nilZ fun a w h1 h2 h3 h4 h5 => PZ.of h1 h3 h5 (.cons () (.cons () (.nil ⟨EnvAll.of h2 ⟨rfl, rfl, trivial⟩, h4⟩)))
        · rintro Fr _
          refine SO.passF rfl rfl rfl b13 rfl rfl ?_
          exact SO.nilZ fun a w h1 h2 h3 h4 h5 => PZ.of h1 h3 h5 (.cons () (.cons () (.nil ⟨EnvAll.of h2 ⟨rfl, rfl, trivial⟩, h4⟩)))
        · rintro Fr _
          refine SO.passF rfl rfl rfl b13 rfl rfl ?_
          exact SO.nilZ fun a w h1 h2 h3 h4 h5 => PZ.of h1 h3 h5 (.cons () (.cons () (.nil ⟨EnvAll.of h2 ⟨rfl, rfl, trivial⟩, h4⟩)))
        · rintro Fr _
          refine SO.passF rfl rfl rfl b13 rfl rfl ?_
          exact SO.nilZ fun a w h1 h2 h3 h4 h5 => PZ.of h1 h3 h5 (.cons () (.cons () (.nil ⟨EnvAll.of h2 ⟨rfl, rfl, trivial⟩, h4⟩)))
        · rintro Fr _
          refine SO.passF rfl rfl rfl b13 rfl rfl ?_
          exact SO.nilZ fun a w h1 h2 h3 h4 h5 => PZ.of h1 h3 h5 (.cons () (.cons () (.nil ⟨EnvAll.of h2 ⟨rfl, rfl, trivial⟩, h4⟩)))
        · rintro Fr _
          refine SO.passF rfl rfl rfl b13 rfl rfl ?_
          exact SO.nilZ fun a w h1 h2 h3 h4 h5 => PZ.of h1 h3 h5 (.cons () (.cons () (.nil ⟨EnvAll.of h2 ⟨rfl, rfl, trivial⟩, h4⟩)))
        · rintro Fr _
          refine SO.passF rfl rfl rfl b13 rfl rfl ?_
          exact SO.nilZ fun a w h1 h2 h3 h4 h5 => PZ.of h1 h3 h5 (.cons () (.cons () (.nil ⟨EnvAll.of h2 ⟨rfl, rfl, trivial⟩, h4⟩)))
        · rintro Fr _ _
          refine SO.v rfl (opv_pick_f' b13 rfl rfl) ?_
          exact SO.nilZ fun a w h1 h2 h3 h4 h5 => PZ.of h1 h3 h5 (.cons () (.cons () (.cons () (.nil ⟨EnvAll.of h2 ⟨rfl, rfl, rfl, trivial⟩, h4⟩))))
        · rintro Fr _
          refine SO.v rfl (opv_assign rfl) ?_
          exact SO.nilZ fun a w h1 h2 h3 h4 h5 => PZ.of h1 h3 h5 (.cons () (.cons () (.nil ⟨EnvAll.of h2 ⟨rfl, rfl, trivial⟩, h4⟩)))
        rintro _ _ _ _
        refine S.to (ρ' := [(4, .bool false)]) ⟨rfl, trivial⟩ ?_
        obtain ⟨hq, rfl⟩ := VM.ret_some V.toVI h
        cases hq
        refine S.b2 ?_
        refine S.b2 ?_
        refine S.b2 ?_
        refine S.to ?_ (hk1 () trivial)
        exact ⟨rfl, trivial⟩
    rintro _ -
    replace h := hJ1
    obtain ⟨hq, rfl⟩ := VM.ret_some V.toVI h
    cases hq
    refine S.b1 ?_
    refine S.drop ?_
    refine S.b1 ?_
    refine S.b1 ?_
    exact S.ret1 Try.func56 rfl rfl (fun w hs hk => hR w _ _ ⟨rfl, rfl⟩ hs hk)
end Go.Proofs
namespace Go.Proofs
open Go.Sl Go.RowKit
/-! 55 padstone/pack.Put -/
def pack_Put.l1 (a0 : api_Cap) (t7 : List Int) : Nat → (Int × Int × Int) → Option (Int)
  | 0, _ => none
  | k + 1, (x28_1, x4_1, x5_1) => bif decide (x28_1 < (t7.length : Int)) then ((at_ t7 x28_1).bind fun x12 => (at_ ([a0.Kind, a0.Rights, a0.Obj, a0.Badge, a0.Bits, a0.Guard]) x28_1).bind fun x14 => (chk (decide (0 ≤ x5_1))).bind fun _ => pack_Put.l1 a0 t7 k (w64 (x28_1 + 1), bor .u64 x4_1 (bshl .u64 (wu64 x14) x5_1), w64 (x5_1 + x12))) else (some x4_1)
def pack_Put.f (k : Nat) (a0 : api_Cap) : Option ((Int × (Option Int))) :=
  (pack_May.f a0).bind fun t2 => bif !t2 then (some (0, (some 1))) else ((pack_widths.f ).bind fun t7 => (pack_Put.l1 a0 t7 k (0, 0, 0)).bind fun j4_e1 => some (j4_e1, none))
set_option maxHeartbeats 8000000 in
set_option maxRecDepth 100000 in
theorem pack_Put.ct (k : Nat) (a0 : api_Cap) (r0 : Int) (r1 : Option Int) (h : pack_Put.f k a0 = some (r0, r1)) :
    Ct Try.prog 55 [.agg #[.int .i64 a0.Kind, .int .i64 a0.Rights, .int .i64 a0.Obj, .int .i64 a0.Badge, .int .i64 a0.Guard, .int .i64 a0.Bits]] (fun _ => True) [] (fun u H' => u = .tuple #[.int .u64 r0, errV 44 r1] ∧ H' = []) := by
  unfold pack_Put.f at h
  refine Ct.intro (n := 47) Try.func55 rfl rfl rfl ?_
  intro R w0 F hF hR
  refine S.seq ?_
  refine S.region ?_
  refine SO.box rfl rfl rfl (fun b1 => ?_)
  refine SO.v rfl (opv_assign rfl) ?_
  refine SO.v rfl (opv_assign rfl) ?_
  refine SO.nil ?_
  refine S.seq ?_
  refine S.seq ?_
  refine S.region ?_
  refine SO.loadN rfl Try.isAgg49 Try.sizeOf49 rfl rfl rfl ?_
  obtain ⟨t2, ht3, h⟩ := opt_bind h
  refine SO.call (pre := []) rfl Try.call70 rfl rfl rfl (pack_May.ct _ _ ht3) trivial ?_
  rintro _ _ ⟨rfl, rfl⟩
  refine SO.v rfl (opv_not rfl) ?_
  refine SO.nil ?_
  rcases bool_or (!t2) with b4 | b4
  · replace h := cond_t b4 h
    refine S.condT rfl b4 ?_
    refine S.seq ?_
    refine S.region ?_
    refine SO.v rfl (opv_iface Try.underlying44 rfl rfl) ?_
    refine SO.v rfl (opv_assign rfl) ?_
    refine SO.v rfl (opv_assign rfl) ?_
    refine SO.nil ?_
    cases h
    refine S.drop ?_
    exact S.ret2 Try.func55 rfl rfl rfl (fun w hs hk => hR w _ _ ⟨rfl, rfl⟩ hs hk)
  · replace h := cond_f b4 h
    refine S.condF rfl b4 ?_
    refine S.skip ?_
    refine S.seq ?_
    refine S.region ?_
    refine SO.v rfl (opv_assign rfl) ?_
    refine SO.nil ?_
    refine S.seq ?_
    refine S.region ?_
    refine SO.v rfl (opv_assign rfl) ?_
    refine SO.nil ?_
    refine S.seq ?_
    refine S.region ?_
    refine SO.v rfl (opv_fieldAddr Try.underlying49 rfl Try.sizeOf3 rfl rfl) ?_
    refine SO.load1 rfl Try.isAgg3 rfl rfl ?_
    refine SO.v rfl (opv_fieldAddr Try.underlying49 rfl Try.sizeOf3 rfl rfl) ?_
    refine SO.load1 rfl Try.isAgg3 rfl rfl ?_
    refine SO.v rfl (opv_fieldAddr Try.underlying49 rfl Try.sizeOf3 rfl rfl) ?_
    refine SO.load1 rfl Try.isAgg3 rfl rfl ?_
    refine SO.v rfl (opv_fieldAddr Try.underlying49 rfl Try.sizeOf3 rfl rfl) ?_
    refine SO.load1 rfl Try.isAgg3 rfl rfl ?_
    refine SO.v rfl (opv_fieldAddr Try.underlying49 rfl Try.sizeOf3 rfl rfl) ?_
    refine SO.load1 rfl Try.isAgg3 rfl rfl ?_
    refine SO.v rfl (opv_fieldAddr Try.underlying49 rfl Try.sizeOf3 rfl rfl) ?_
    refine SO.load1 rfl Try.isAgg3 rfl rfl ?_
    refine SO.buildSlice (K := ekI .i64) (xs := [a0.Kind, a0.Rights, a0.Obj, a0.Badge, a0.Bits, a0.Guard]) (cs := [.int .i64 a0.Kind, .int .i64 a0.Rights, .int .i64 a0.Obj, .int .i64 a0.Badge, .int .i64 a0.Bits, .int .i64 a0.Guard]) rfl Try.underlying29 Try.sizeOf3 Try.zeroValue3 rfl rfl rfl (by kernel_rfl) rfl rfl rfl (fun v5 hr6 => ?_)
    refine SO.v rfl (opv_assign rfl) ?_
    refine SO.nil ?_
    refine S.to (ρ' := [(2, .int .u64 0), (3, errV 44 none), (4, .int .u64 0), (5, .int .i64 0), (6, v5)]) ⟨rfl, rfl, rfl, rfl, rfl, trivial⟩ ?_
    refine S.seq ?_
    refine S.seq ?_
    refine S.region ?_
    obtain ⟨t7, ht8, h⟩ := opt_bind h
    refine SO.call (pre := []) rfl Try.call71 rfl rfl rfl (pack_widths.ct _ ht8) trivial ?_
    rintro v9 _ ⟨_, rfl, rfl⟩
    refine SO.rd fun hr10 => ?_
    refine SO.v rfl (opv_lenR rfl Try.underlying29 hr10 rfl) ?_
    refine SO.v rfl (opv_move rfl) ?_
    refine SO.nil ?_
    obtain ⟨j4_e1, hl1, h⟩ := opt_bind h
    refine S.b3 ?_
    refine S.b3 ?_
    refine S.b3 ?_
    refine S.b3 ?_
    refine S.to (ρ' := [(28, .int .i64 0), (27, .int .i64 (t7.length : Int)), (26, v9), (2, .int .u64 0), (3, errV 44 none), (4, .int .u64 0), (5, .int .i64 0), (6, v5)]) ⟨rfl, rfl, rfl, rfl, rfl, rfl, rfl, rfl, trivial⟩ ?_
    refine S.forloop (X := (Int × Int × Int) × Unit) (O := Int) (fun m x => pack_Put.l1 a0 t7 m x.1) (fun x => match x with | ((x28_1, x4_1, x5_1), _) => [(28, .int .i64 x28_1), (27, .int .i64 (t7.length : Int)), (26, v9), (2, .int .u64 0), (3, errV 44 none), (4, .int .u64 x4_1), (5, .int .i64 x5_1), (6, v5)]) (fun x => match x with | ((x28_1, x4_1, x5_1), _) => [Own 3 (ekI .i64) v9 t7, Own 3 (ekI .i64) v5 ([a0.Kind, a0.Rights, a0.Obj, a0.Badge, a0.Bits, a0.Guard]), Box b1 [.int .i64 a0.Kind, .int .i64 a0.Rights, .int .i64 a0.Obj, .int .i64 a0.Badge, .int .i64 a0.Guard, .int .i64 a0.Bits], F]) (fun Sk => (fun j4_e1 => ∀ _ : Unit, Sk [(2, .int .u64 0), (3, errV 44 none), (4, .int .u64 j4_e1)] [Own 3 (ekI .i64) v9 t7, Own 3 (ekI .i64) v5 ([a0.Kind, a0.Rights, a0.Obj, a0.Badge, a0.Bits, a0.Guard]), Box b1 [.int .i64 a0.Kind, .int .i64 a0.Rights, .int .i64 a0.Obj, .int .i64 a0.Badge, .int .i64 a0.Guard, .int .i64 a0.Bits], F])) (fun _ => rfl) ?_ (m := k) (x := ((0, 0, 0), ())) hl1 ?_
    · clear h hl1
      intro k x o_1 h hK1 ih1
      obtain ⟨⟨x28_1, x4_1, x5_1⟩, _⟩ := x
      replace h : pack_Put.l1 a0 t7 (k + 1) (x28_1, x4_1, x5_1) = some o_1 := h
      first | rw [pack_Put.l1] at h | unfold pack_Put.l1 at h
      refine S.seq ?_
      refine S.region ?_
      refine SO.v rfl (opv_lss rfl rfl) ?_
      refine SO.nil ?_
      refine S.seq ?_
      rcases bool_or (decide (x28_1 < (t7.length : Int))) with b11 | b11
      · replace h := cond_t b11 h
        refine S.condT rfl b11 ?_
        refine S.skip ?_
        refine S.seq ?_
        refine S.block ?_
        refine S.seq ?_
        refine S.region ?_
        refine SO.v rfl (opv_move rfl) ?_
        obtain ⟨x12, hx13, h⟩ := opt_bind h
        refine SO.v rfl (opv_idx Try.underlying29 Try.sizeOf3 hr10 rfl rfl hx13) ?_
        refine SO.loadI1 (j := 0) rfl Try.isAgg3 (Rd.head hr10) hx13 rfl rfl rfl rfl ?_
        refine SO.v rfl (opv_assign rfl) ?_
        refine SO.v rfl (opv_assign rfl) ?_
        refine SO.nil ?_
        refine S.seq ?_
        refine S.region ?_
        refine SO.v rfl (opv_move rfl) ?_
        refine SO.v rfl (opv_move rfl) ?_
        refine SO.v rfl (opv_move rfl) ?_
        obtain ⟨x14, hx15, h⟩ := opt_bind h
        refine SO.v rfl (opv_idx Try.underlying29 Try.sizeOf3 hr6 rfl rfl hx15) ?_
        refine SO.loadI1 (j := 0) rfl Try.isAgg3 (Rd.tail (Rd.head hr6)) hx15 rfl rfl rfl rfl ?_
        refine SO.v rfl (opv_conv Try.underlying3 Try.underlying35 rfl) ?_
        refine SO.v rfl (opv_move rfl) ?_
        obtain ⟨_, hc16, h⟩ := opt_bind h
        refine SO.v rfl (opv_shl rfl rfl (of_decide_eq_true (chk_some hc16))) ?_
        refine SO.v rfl (opv_or rfl rfl) ?_
        refine SO.v rfl (opv_assign rfl) ?_
        refine SO.nil ?_
        refine S.to (ρ' := [(28, .int .i64 x28_1), (27, .int .i64 (t7.length : Int)), (26, v9), (2, .int .u64 0), (3, errV 44 none), (4, .int .u64 (bor .u64 x4_1 (bshl .u64 (wu64 x14) x5_1))), (5, .int .i64 x5_1), (6, v5), (8, .int .i64 x12)]) ⟨rfl, rfl, rfl, rfl, rfl, rfl, rfl, rfl, rfl, trivial⟩ ?_
        refine S.region ?_
        refine SO.v rfl (opv_move rfl) ?_
        refine SO.v rfl (opv_move rfl) ?_
        refine SO.v rfl (opv_add rfl rfl) ?_
        refine SO.v rfl (opv_assign rfl) ?_
        refine SO.nil ?_
        refine S.inBlock ?_
        refine S.region ?_
        refine SO.v rfl (opv_add rfl rfl) ?_
        refine SO.v rfl (opv_move rfl) ?_
        refine SO.nil ?_
        refine S.b3 ?_
        refine S.b3 ?_
        refine S.b3 ?_
        refine S.b3 ?_
        refine S.to ?_ (ih1 ((w64 (x28_1 + 1), bor .u64 x4_1 (bshl .u64 (wu64 x14) x5_1), w64 (x5_1 + x12)), ()) h)
        exact ⟨rfl, rfl, rfl, rfl, rfl, rfl, rfl, rfl, trivial⟩
      · replace h := cond_f b11 h
        refine S.condF rfl b11 ?_
        refine S.exit rfl ?_
        cases h
        refine S.b3 ?_
        refine S.b3 ?_
        refine S.b3 ?_
        refine S.b3 ?_
        refine S.to ?_ (hK1 ())
        exact ⟨rfl, rfl, rfl, trivial⟩
    rintro _
    refine S.seq ?_
    refine S.region ?_
    refine SO.v rfl (opv_move rfl) ?_
    refine SO.v rfl (opv_assign rfl) ?_
    refine SO.v rfl (opv_assign rfl) ?_
    refine SO.nil ?_
    cases h
    refine S.drop ?_
    refine S.drop ?_
    refine S.drop ?_
    exact S.ret2 Try.func55 rfl rfl rfl (fun w hs hk => hR w _ _ ⟨rfl, rfl⟩ hs hk)
end Go.Proofs
namespace Go.Proofs
open Go.Sl Go.RowKit
/-! 24 padstone/tcb.SetRoot -/
def tcb_SetRoot.f (k : Nat) (a1 : Int) (a2 : api_Cap) : VM ((Option Int)) :=
  (VM.opt (pack_Put.f k a2)).bind fun (t2, t3) => (lay_Is.f a1 5).bind fun t5 => bif !t5 then (VM.ret (some 2)) else ((bif t3.isSome then (VM.ret true) else ((cspace_Fine.f a2).bind fun t12 => VM.ret (!t12))).bind fun c10 => bif c10 then (VM.ret (some 5)) else ((lay_Put.f a1 7 (w64 t2)).bind fun _ => VM.ret none))
set_option maxHeartbeats 8000000 in
set_option maxRecDepth 100000 in
theorem tcb_SetRoot.ct (V : VW Try.prog) (k : Nat) (a1 : Int) (a2 : api_Cap) (r0 : Option Int) (s s' : V.S) (h : VM.run V.toVI (tcb_SetRoot.f k a1 a2) s = some (r0, s')) :
    Ct Try.prog 24 [V.val, .int .i64 a1, .agg #[.int .i64 a2.Kind, .int .i64 a2.Rights, .int .i64 a2.Obj, .int .i64 a2.Badge, .int .i64 a2.Guard, .int .i64 a2.Bits]] (fun _ => True) [V.rep s] (fun u H' => u = errV 44 r0 ∧ H' = [V.rep s']) := by
  unfold tcb_SetRoot.f at h
  refine Ct.intro (n := 35) Try.func24 rfl rfl rfl ?_
  intro R w0 F hF hR
  refine S.seq ?_
  refine S.region ?_
  refine SO.box rfl rfl rfl (fun b1 => ?_)
  refine SO.v rfl (opv_assign rfl) ?_
  refine SO.nil ?_
  refine S.seq ?_
  refine S.region ?_
  refine SO.loadN rfl Try.isAgg49 Try.sizeOf49 rfl rfl rfl ?_
  obtain ⟨⟨t2, t3⟩, ht4, h⟩ := VM.opt_some V.toVI h
  refine SO.call (pre := []) rfl Try.call55 rfl rfl rfl (pack_Put.ct _ _ _ _ ht4) trivial ?_
  rintro _ _ ⟨rfl, rfl⟩
  refine SO.v rfl (opv_move rfl) ?_
  refine SO.v rfl (opv_extract rfl rfl) ?_
  refine SO.v rfl (opv_extract rfl rfl) ?_
  refine SO.v rfl (opv_assign rfl) ?_
  refine SO.v rfl (opv_assign rfl) ?_
  refine SO.nil ?_
  refine S.seq ?_
  refine S.block ?_
  refine S.seq ?_
  refine S.region ?_
  refine SO.v rfl (opv_move rfl) ?_
  refine SO.v rfl (opv_move rfl) ?_
  obtain ⟨t5, s7, ht6, h⟩ := VM.bind_some V.toVI h
  refine SO.b1 ?_
  refine SO.call (pre := [V.rep _]) rfl Try.call50 rfl rfl rfl (lay_Is.ct V _ _ _ _ _ ht6) trivial ?_
  rintro _ _ ⟨rfl, rfl⟩
  refine SO.v rfl (opv_not rfl) ?_
  refine SO.v rfl (opv_assign rfl) ?_
  refine SO.nil ?_
  refine S.to (ρ' := [(0, V.val), (1, .int .i64 a1), (5, bp b1 0), (6, errV 44 none), (7, .int .u64 t2), (8, errV 44 t3), (14, .bool (!t5))]) ⟨rfl, rfl, rfl, rfl, rfl, rfl, rfl, trivial⟩ ?_
  rcases bool_or (!t5) with b8 | b8
  · replace h := VM.cond_t V.toVI b8 h
    refine S.condT rfl b8 ?_
    refine S.seq ?_
    refine S.region ?_
    refine SO.v rfl (opv_iface Try.underlying44 rfl rfl) ?_
    refine SO.v rfl (opv_assign rfl) ?_
    refine SO.nil ?_
    refine S.to (ρ' := [(6, errV 44 (some 2))]) ⟨rfl, trivial⟩ ?_
    obtain ⟨hq, rfl⟩ := VM.ret_some V.toVI h
    cases hq
    refine S.b1 ?_
    refine S.drop ?_
    refine S.b1 ?_
    refine S.b1 ?_
    exact S.ret1 Try.func24 rfl rfl (fun w hs hk => hR w _ _ ⟨rfl, rfl⟩ hs hk)
  · replace h := VM.cond_f V.toVI b8 h
    refine S.condF rfl b8 ?_
    refine S.seq ?_
    refine S.region ?_
    refine SO.v rfl (opv_move rfl) ?_
    refine SO.v rfl (opv_neqN (e := t3) Try.underlying37 rfl) ?_
    refine SO.v rfl (opv_move rfl) ?_
    obtain ⟨c10, s15, hc11, hgk⟩ := VM.bind_some V.toVI h
    refine SO.cut 5 28 (.bool c10) [V.rep s15, Box b1 [.int .i64 a2.Kind, .int .i64 a2.Rights, .int .i64 a2.Obj, .int .i64 a2.Badge, .int .i64 a2.Guard, .int .i64 a2.Bits], F] (fun l2 hk2 => ?_) ?_
    · clear hgk
      replace h := hc11
      rcases bool_or t3.isSome with b9 | b9
      · replace h := VM.cond_t V.toVI b9 h
        refine SO.passF rfl rfl rfl b9 rfl rfl ?_
        refine SO.passF rfl rfl rfl b9 rfl rfl ?_
        refine SO.passF rfl rfl rfl b9 rfl rfl ?_
        refine SO.passF rfl rfl rfl b9 rfl rfl ?_
        obtain ⟨hq, rfl⟩ := VM.ret_some V.toVI h
        cases hq
        refine SO.v rfl (opv_pick_t' b9 rfl rfl) ?_
        refine SO.b2 ?_
        refine SO.b2 ?_
        refine SO.b2 ?_
        exact hk2.fitc (m := 5) rfl (rfl) rfl
      · replace h := VM.cond_f V.toVI b9 h
        refine SO.takeT rfl rfl rfl b9 ?_
        refine SO.v rfl (opv_move rfl) ?_
        refine SO.takeT rfl rfl rfl b9 ?_
        refine SO.b1 ?_
        refine SO.loadN rfl Try.isAgg49 Try.sizeOf49 rfl rfl rfl ?_
        refine SO.takeT rfl rfl rfl b9 ?_
        obtain ⟨t12, s14, ht13, h⟩ := VM.bind_some V.toVI h
        refine SO.b1 ?_
        refine SO.call (pre := [V.rep _]) rfl Try.call56 rfl rfl rfl (cspace_Fine.ct V _ _ _ _ ht13) trivial ?_
        rintro _ _ ⟨rfl, rfl⟩
        refine SO.takeT rfl rfl rfl b9 ?_
        refine SO.v rfl (opv_not rfl) ?_
        obtain ⟨hq, rfl⟩ := VM.ret_some V.toVI h
        cases hq
        refine SO.v rfl (opv_pick_f' b9 rfl rfl) ?_
        refine SO.b2 ?_
        refine SO.b2 ?_
        refine SO.b2 ?_
        exact hk2.fitc (m := 5) rfl (rfl) rfl
    clear hc11
    replace h := hgk
    refine SO.v rfl (opv_assign rfl) ?_
    refine SO.nil ?_
    refine S.to (ρ' := [(0, V.val), (1, .int .i64 a1), (6, errV 44 none), (7, .int .u64 t2), (20, .bool c10)]) ⟨rfl, rfl, rfl, rfl, rfl, trivial⟩ ?_
    rcases bool_or c10 with b16 | b16
    · replace h := VM.cond_t V.toVI b16 h
      refine S.condT rfl b16 ?_
      refine S.seq ?_
      refine S.region ?_
      refine SO.v rfl (opv_iface Try.underlying44 rfl rfl) ?_
      refine SO.v rfl (opv_assign rfl) ?_
      refine SO.nil ?_
      obtain ⟨hq, rfl⟩ := VM.ret_some V.toVI h
      cases hq
      refine S.b1 ?_
      refine S.drop ?_
      refine S.b1 ?_
      refine S.b1 ?_
      exact S.ret1 Try.func24 rfl rfl (fun w hs hk => hR w _ _ ⟨rfl, rfl⟩ hs hk)
    · replace h := VM.cond_f V.toVI b16 h
      refine S.condF rfl b16 ?_
      refine S.skip ?_
      refine S.inBlock ?_
      refine S.seq ?_
      refine S.region ?_
      refine SO.v rfl (opv_move rfl) ?_
      refine SO.v rfl (opv_move rfl) ?_
      refine SO.v rfl (opv_move rfl) ?_
      refine SO.v rfl (opv_conv Try.underlying35 Try.underlying3 rfl) ?_
      obtain ⟨_, s18, ht17, h⟩ := VM.bind_some V.toVI h
      refine SO.call (pre := [V.rep _]) rfl Try.call45 rfl rfl rfl (lay_Put.ct V _ _ _ _ _ ht17) trivial ?_
      rintro _ _ ⟨rfl, rfl⟩
      refine SO.nil ?_
      refine S.to (ρ' := [(6, errV 44 none)]) ⟨rfl, trivial⟩ ?_
      refine S.seq ?_
      refine S.region ?_
      refine SO.v rfl (opv_assign rfl) ?_
      refine SO.nil ?_
      obtain ⟨hq, rfl⟩ := VM.ret_some V.toVI h
      cases hq
      refine S.b1 ?_
      refine S.drop ?_
      refine S.b1 ?_
      refine S.b1 ?_
      exact S.ret1 Try.func24 rfl rfl (fun w hs hk => hR w _ _ ⟨rfl, rfl⟩ hs hk)
end Go.Proofs
