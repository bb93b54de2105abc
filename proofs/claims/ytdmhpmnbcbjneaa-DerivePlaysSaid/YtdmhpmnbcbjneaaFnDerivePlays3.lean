/- What the functions that DerivePlays reaches come to, and that they do. On no condition. -/
import Derived.Test.YtdmhpmnbcbjneaaFnDerivePlays0
import Derived.Test.YtdmhpmnbcbjneaaFnDerivePlays2
import Derived.Test.YtdmhpmnbcbjneaaFnDerivePlays1
set_option linter.all false
namespace Go.Proofs
open Go.Sl Go.RowKit
/-! 29 padstone/padstoneref01.Derive -/
def ref01_Derive.f (k : Nat) (a0 : api_Cap) (a1 : Int) : Option ((api_Cap × Int)) :=
  (ref01_May.f k a0).bind fun t3 => bif (((!t3) || (a0.Kind == 0)) || (decide (a1 < 0))) || (decide (7 < a1)) then (some ((⟨0, 0, 0, 0, 0, 0⟩ : api_Cap), 1)) else (bif a0.Kind == 1 then (some ((⟨0, 0, 0, 0, 0, 0⟩ : api_Cap), 5)) else ((ref01_both.f k a0.Rights a1).bind fun t10 => some (({ a0 with Rights := t10 } : api_Cap), 0)))
set_option maxHeartbeats 8000000 in
set_option maxRecDepth 100000 in
theorem ref01_Derive.ct (k : Nat) (a0 : api_Cap) (a1 : Int) (r0 : api_Cap) (r1 : Int) (h : ref01_Derive.f k a0 a1 = some (r0, r1)) :
    Ct Try.prog 29 [.agg #[.int .i64 a0.Kind, .int .i64 a0.Rights, .int .i64 a0.Obj, .int .i64 a0.Badge, .int .i64 a0.Guard, .int .i64 a0.Bits], .int .i64 a1] (fun _ => True) [] (fun u H' => u = .tuple #[.agg #[.int .i64 r0.Kind, .int .i64 r0.Rights, .int .i64 r0.Obj, .int .i64 r0.Badge, .int .i64 r0.Guard, .int .i64 r0.Bits], .int .i64 r1] ∧ H' = []) := by
  unfold ref01_Derive.f at h
  refine Ct.intro (n := 35) Try.func29 rfl rfl rfl ?_
  intro R w0 F hF hR
  refine S.seq ?_
  refine S.region ?_
  refine SO.box rfl rfl rfl (fun b1 => ?_)
  refine SO.alloc rfl Try.zeroValue45 rfl (fun b2 => ?_)
  refine SO.v rfl (opv_assign rfl) ?_
  refine SO.nil ?_
  refine S.seq ?_
  refine S.region ?_
  refine SO.b1 ?_
  refine SO.loadN rfl Try.isAgg45 Try.sizeOf45 rfl rfl rfl ?_
  obtain ⟨t3, ht4, h⟩ := opt_bind h
  refine SO.call (pre := []) rfl Try.call49 rfl rfl rfl (ref01_May.ct _ _ _ ht4) trivial ?_
  rintro _ _ ⟨rfl, rfl⟩
  refine SO.v rfl (opv_assign rfl) ?_
  refine SO.nil ?_
  refine S.seq ?_
  refine S.seq ?_
  refine S.region ?_
  refine SO.v rfl (opv_move rfl) ?_
  refine SO.v rfl (opv_not rfl) ?_
  refine SO.v rfl (opv_move rfl) ?_
  refine SO.cut 4 15 (.bool ((!t3) || (a0.Kind == 0))) [Box b1 [.int .i64 a0.Kind, .int .i64 a0.Rights, .int .i64 a0.Obj, .int .i64 a0.Badge, .int .i64 a0.Guard, .int .i64 a0.Bits], Box b2 [.int .i64 0, .int .i64 0, .int .i64 0, .int .i64 0, .int .i64 0, .int .i64 0], F] (fun l2 hk2 => ?_) ?_
  · rcases bool_or (!t3) with b5 | b5
    · refine SO.passF rfl rfl rfl b5 rfl rfl ?_
      refine SO.passF rfl rfl rfl b5 rfl rfl ?_
      refine SO.passF rfl rfl rfl b5 rfl rfl ?_
      refine SO.v rfl (opv_pick_t' b5 rfl rfl) ?_
      refine SO.b2 ?_
      refine SO.b2 ?_
      refine SO.b2 ?_
      exact hk2.fitc (m := 4) rfl (or_t b5) rfl
    · refine SO.takeT rfl rfl rfl b5 ?_
      refine SO.v rfl (opv_fieldAddr Try.underlying45 rfl Try.sizeOf3 rfl rfl) ?_
      refine SO.takeT rfl rfl rfl b5 ?_
      refine SO.load1 rfl Try.isAgg3 rfl rfl ?_
      refine SO.takeT rfl rfl rfl b5 ?_
      refine SO.v rfl (opv_eql rfl rfl) ?_
      refine SO.v rfl (opv_pick_f' b5 rfl rfl) ?_
      refine SO.b2 ?_
      refine SO.b2 ?_
      refine SO.b2 ?_
      exact hk2.fitc (m := 4) rfl (or_f b5) rfl
  refine SO.v rfl (opv_move rfl) ?_
  refine SO.cut 3 19 (.bool (((!t3) || (a0.Kind == 0)) || (decide (a1 < 0)))) [Box b1 [.int .i64 a0.Kind, .int .i64 a0.Rights, .int .i64 a0.Obj, .int .i64 a0.Badge, .int .i64 a0.Guard, .int .i64 a0.Bits], Box b2 [.int .i64 0, .int .i64 0, .int .i64 0, .int .i64 0, .int .i64 0, .int .i64 0], F] (fun l2 hk2 => ?_) ?_
  · rcases bool_or ((!t3) || (a0.Kind == 0)) with b6 | b6
    · refine SO.passF rfl rfl rfl b6 rfl rfl ?_
      refine SO.passF rfl rfl rfl b6 rfl rfl ?_
      refine SO.v rfl (opv_pick_t' b6 rfl rfl) ?_
      refine SO.b2 ?_
      refine SO.b2 ?_
      refine SO.b2 ?_
      exact hk2.fitc (m := 3) rfl (or_t b6) rfl
    · refine SO.takeT rfl rfl rfl b6 ?_
      refine SO.v rfl (opv_move rfl) ?_
      refine SO.takeT rfl rfl rfl b6 ?_
      refine SO.v rfl (opv_lss rfl rfl) ?_
      refine SO.v rfl (opv_pick_f' b6 rfl rfl) ?_
      refine SO.b2 ?_
      refine SO.b2 ?_
      refine SO.b2 ?_
      exact hk2.fitc (m := 3) rfl (or_f b6) rfl
  refine SO.v rfl (opv_move rfl) ?_
  refine SO.cut 3 23 (.bool ((((!t3) || (a0.Kind == 0)) || (decide (a1 < 0))) || (decide (7 < a1)))) [Box b1 [.int .i64 a0.Kind, .int .i64 a0.Rights, .int .i64 a0.Obj, .int .i64 a0.Badge, .int .i64 a0.Guard, .int .i64 a0.Bits], Box b2 [.int .i64 0, .int .i64 0, .int .i64 0, .int .i64 0, .int .i64 0, .int .i64 0], F] (fun l2 hk2 => ?_) ?_
  · rcases bool_or (((!t3) || (a0.Kind == 0)) || (decide (a1 < 0))) with b7 | b7
    · refine SO.passF rfl rfl rfl b7 rfl rfl ?_
      refine SO.passF rfl rfl rfl b7 rfl rfl ?_
      refine SO.v rfl (opv_pick_t' b7 rfl rfl) ?_
      refine SO.b2 ?_
      refine SO.b2 ?_
      refine SO.b2 ?_
      exact hk2.fitc (m := 3) rfl (or_t b7) rfl
    · refine SO.takeT rfl rfl rfl b7 ?_
      refine SO.v rfl (opv_move rfl) ?_
      refine SO.takeT rfl rfl rfl b7 ?_
      refine SO.v rfl (opv_gtr rfl rfl) ?_
      refine SO.v rfl (opv_pick_f' b7 rfl rfl) ?_
      refine SO.b2 ?_
      refine SO.b2 ?_
      refine SO.b2 ?_
      exact hk2.fitc (m := 3) rfl (or_f b7) rfl
  refine SO.nil ?_
  refine S.to (ρ' := [(1, .int .i64 a1), (2, bp b1 0), (4, bp b2 0), (5, .int .i64 0), (23, .bool ((((!t3) || (a0.Kind == 0)) || (decide (a1 < 0))) || (decide (7 < a1))))]) ⟨rfl, rfl, rfl, rfl, rfl, trivial⟩ ?_
  rcases bool_or ((((!t3) || (a0.Kind == 0)) || (decide (a1 < 0))) || (decide (7 < a1))) with b8 | b8
  · replace h := cond_t b8 h
    refine S.condT rfl b8 ?_
    refine S.seq ?_
    refine S.region ?_
    refine SO.v rfl (opv_build (v := .agg #[.int .i64 0, .int .i64 0, .int .i64 0, .int .i64 0, .int .i64 0, .int .i64 0]) rfl (by intro w; kernel_rfl)) ?_
    refine SO.b1 ?_
    refine SO.storeN Try.sizeOf45 rfl rfl rfl rfl rfl rfl ?_
    refine SO.v rfl (opv_assign rfl) ?_
    refine SO.nil ?_
    cases h
    refine S.b1 ?_
    refine S.drop ?_
    refine S.b1 ?_
    refine S.b1 ?_
    exact S.retC1 Try.func29 rfl rfl rfl Try.isAgg45 Try.sizeOf45 rfl rfl (fun w hs hk => hR w _ _ ⟨rfl, rfl⟩ hs.drop hk)
  · replace h := cond_f b8 h
    refine S.condF rfl b8 ?_
    refine S.skip ?_
    refine S.seq ?_
    refine S.seq ?_
    refine S.region ?_
    refine SO.v rfl (opv_fieldAddr Try.underlying45 rfl Try.sizeOf3 rfl rfl) ?_
    refine SO.load1 rfl Try.isAgg3 rfl rfl ?_
    refine SO.v rfl (opv_eql rfl rfl) ?_
    refine SO.nil ?_
    rcases bool_or (a0.Kind == 1) with b9 | b9
    · replace h := cond_t b9 h
      refine S.condT rfl b9 ?_
      refine S.seq ?_
      refine S.region ?_
      refine SO.v rfl (opv_build (v := .agg #[.int .i64 0, .int .i64 0, .int .i64 0, .int .i64 0, .int .i64 0, .int .i64 0]) rfl (by intro w; kernel_rfl)) ?_
      refine SO.b1 ?_
      refine SO.storeN Try.sizeOf45 rfl rfl rfl rfl rfl rfl ?_
      refine SO.v rfl (opv_assign rfl) ?_
      refine SO.nil ?_
      refine S.to (ρ' := [(4, bp b2 0), (5, .int .i64 5)]) ⟨rfl, rfl, trivial⟩ ?_
      cases h
      refine S.b1 ?_
      refine S.drop ?_
      refine S.b1 ?_
      refine S.b1 ?_
      exact S.retC1 Try.func29 rfl rfl rfl Try.isAgg45 Try.sizeOf45 rfl rfl (fun w hs hk => hR w _ _ ⟨rfl, rfl⟩ hs.drop hk)
    · replace h := cond_f b9 h
      refine S.condF rfl b9 ?_
      refine S.skip ?_
      refine S.seq ?_
      refine S.region ?_
      refine SO.v rfl (opv_fieldAddr Try.underlying45 rfl Try.sizeOf3 rfl rfl) ?_
      refine SO.load1 rfl Try.isAgg3 rfl rfl ?_
      refine SO.v rfl (opv_move rfl) ?_
      obtain ⟨t10, ht11, h⟩ := opt_bind h
      refine SO.call (pre := []) rfl Try.call50 rfl rfl rfl (ref01_both.ct _ _ _ _ ht11) trivial ?_
      rintro _ _ ⟨rfl, rfl⟩
      refine SO.v rfl (opv_fieldAddr Try.underlying45 rfl Try.sizeOf3 rfl rfl) ?_
      refine SO.store1 Try.sizeOf3 rfl rfl rfl rfl ?_
      refine SO.nil ?_
      refine S.to (ρ' := [(2, bp b1 0), (4, bp b2 0), (5, .int .i64 0)]) ⟨rfl, rfl, rfl, trivial⟩ ?_
      refine S.seq ?_
      refine S.region ?_
      refine SO.loadN rfl Try.isAgg45 Try.sizeOf45 rfl rfl rfl ?_
      refine SO.b1 ?_
      refine SO.storeN Try.sizeOf45 rfl rfl rfl rfl rfl rfl ?_
      refine SO.v rfl (opv_assign rfl) ?_
      refine SO.nil ?_
      cases h
      refine S.b1 ?_
      refine S.drop ?_
      refine S.b1 ?_
      refine S.b1 ?_
      exact S.retC1 Try.func29 rfl rfl rfl Try.isAgg45 Try.sizeOf45 rfl rfl (fun w hs hk => hR w _ _ ⟨rfl, rfl⟩ hs.drop hk)
end Go.Proofs
namespace Go.Proofs
open Go.Sl Go.RowKit
/-! 28 padstone/padstoneref01.Mint -/
def ref01_Mint.f (k : Nat) (a0 : api_Cap) (a1 : Int) (a2 : Int) : Option ((api_Cap × Int)) :=
  (ref01_May.f k a0).bind fun t3 => bif (((((!t3) || (a0.Kind == 0)) || (decide (a1 < 0))) || (decide (7 < a1))) || (decide (a2 < 1))) || (decide (65535 < a2)) then (some ((⟨0, 0, 0, 0, 0, 0⟩ : api_Cap), 1)) else (bif (a0.Kind != 3) && (a0.Kind != 4) then (some ((⟨0, 0, 0, 0, 0, 0⟩ : api_Cap), 5)) else (bif a0.Badge != 0 then (some ((⟨0, 0, 0, 0, 0, 0⟩ : api_Cap), 10)) else ((ref01_both.f k a0.Rights a1).bind fun t14 => some (({ a0 with Rights := t14, Badge := a2 } : api_Cap), 0))))
set_option maxHeartbeats 8000000 in
set_option maxRecDepth 100000 in
theorem ref01_Mint.ct (k : Nat) (a0 : api_Cap) (a1 : Int) (a2 : Int) (r0 : api_Cap) (r1 : Int) (h : ref01_Mint.f k a0 a1 a2 = some (r0, r1)) :
    Ct Try.prog 28 [.agg #[.int .i64 a0.Kind, .int .i64 a0.Rights, .int .i64 a0.Obj, .int .i64 a0.Badge, .int .i64 a0.Guard, .int .i64 a0.Bits], .int .i64 a1, .int .i64 a2] (fun _ => True) [] (fun u H' => u = .tuple #[.agg #[.int .i64 r0.Kind, .int .i64 r0.Rights, .int .i64 r0.Obj, .int .i64 r0.Badge, .int .i64 r0.Guard, .int .i64 r0.Bits], .int .i64 r1] ∧ H' = []) := by
  unfold ref01_Mint.f at h
  refine Ct.intro (n := 56) Try.func28 rfl rfl rfl ?_
  intro R w0 F hF hR
  refine S.seq ?_
  refine S.region ?_
  refine SO.box rfl rfl rfl (fun b1 => ?_)
  refine SO.alloc rfl Try.zeroValue45 rfl (fun b2 => ?_)
  refine SO.v rfl (opv_assign rfl) ?_
  refine SO.nil ?_
  refine S.seq ?_
  refine S.region ?_
  refine SO.b1 ?_
  refine SO.loadN rfl Try.isAgg45 Try.sizeOf45 rfl rfl rfl ?_
  obtain ⟨t3, ht4, h⟩ := opt_bind h
  refine SO.call (pre := []) rfl Try.call49 rfl rfl rfl (ref01_May.ct _ _ _ ht4) trivial ?_
  rintro _ _ ⟨rfl, rfl⟩
  refine SO.v rfl (opv_assign rfl) ?_
  refine SO.nil ?_
  refine S.seq ?_
  refine S.seq ?_
  refine S.region ?_
  refine SO.v rfl (opv_move rfl) ?_
  refine SO.v rfl (opv_not rfl) ?_
  refine SO.v rfl (opv_move rfl) ?_
  refine SO.cut 4 17 (.bool ((!t3) || (a0.Kind == 0))) [Box b1 [.int .i64 a0.Kind, .int .i64 a0.Rights, .int .i64 a0.Obj, .int .i64 a0.Badge, .int .i64 a0.Guard, .int .i64 a0.Bits], Box b2 [.int .i64 0, .int .i64 0, .int .i64 0, .int .i64 0, .int .i64 0, .int .i64 0], F] (fun l2 hk2 => ?_) ?_
  · rcases bool_or (!t3) with b5 | b5
    · refine SO.passF rfl rfl rfl b5 rfl rfl ?_
      refine SO.passF rfl rfl rfl b5 rfl rfl ?_
      refine SO.passF rfl rfl rfl b5 rfl rfl ?_
      refine SO.v rfl (opv_pick_t' b5 rfl rfl) ?_
      refine SO.b2 ?_
      refine SO.b2 ?_
      refine SO.b2 ?_
      exact hk2.fitc (m := 4) rfl (or_t b5) rfl
    · refine SO.takeT rfl rfl rfl b5 ?_
      refine SO.v rfl (opv_fieldAddr Try.underlying45 rfl Try.sizeOf3 rfl rfl) ?_
      refine SO.takeT rfl rfl rfl b5 ?_
      refine SO.load1 rfl Try.isAgg3 rfl rfl ?_
      refine SO.takeT rfl rfl rfl b5 ?_
      refine SO.v rfl (opv_eql rfl rfl) ?_
      refine SO.v rfl (opv_pick_f' b5 rfl rfl) ?_
      refine SO.b2 ?_
      refine SO.b2 ?_
      refine SO.b2 ?_
      exact hk2.fitc (m := 4) rfl (or_f b5) rfl
  refine SO.v rfl (opv_move rfl) ?_
  refine SO.cut 3 21 (.bool (((!t3) || (a0.Kind == 0)) || (decide (a1 < 0)))) [Box b1 [.int .i64 a0.Kind, .int .i64 a0.Rights, .int .i64 a0.Obj, .int .i64 a0.Badge, .int .i64 a0.Guard, .int .i64 a0.Bits], Box b2 [.int .i64 0, .int .i64 0, .int .i64 0, .int .i64 0, .int .i64 0, .int .i64 0], F] (fun l2 hk2 => ?_) ?_
  · rcases bool_or ((!t3) || (a0.Kind == 0)) with b6 | b6
    · refine SO.passF rfl rfl rfl b6 rfl rfl ?_
      refine SO.passF rfl rfl rfl b6 rfl rfl ?_
      refine SO.v rfl (opv_pick_t' b6 rfl rfl) ?_
      refine SO.b2 ?_
      refine SO.b2 ?_
      refine SO.b2 ?_
      exact hk2.fitc (m := 3) rfl (or_t b6) rfl
    · refine SO.takeT rfl rfl rfl b6 ?_
      refine SO.v rfl (opv_move rfl) ?_
      refine SO.takeT rfl rfl rfl b6 ?_
      refine SO.v rfl (opv_lss rfl rfl) ?_
      refine SO.v rfl (opv_pick_f' b6 rfl rfl) ?_
      refine SO.b2 ?_
      refine SO.b2 ?_
      refine SO.b2 ?_
      exact hk2.fitc (m := 3) rfl (or_f b6) rfl
  refine SO.v rfl (opv_move rfl) ?_
  refine SO.cut 3 25 (.bool ((((!t3) || (a0.Kind == 0)) || (decide (a1 < 0))) || (decide (7 < a1)))) [Box b1 [.int .i64 a0.Kind, .int .i64 a0.Rights, .int .i64 a0.Obj, .int .i64 a0.Badge, .int .i64 a0.Guard, .int .i64 a0.Bits], Box b2 [.int .i64 0, .int .i64 0, .int .i64 0, .int .i64 0, .int .i64 0, .int .i64 0], F] (fun l2 hk2 => ?_) ?_
  · rcases bool_or (((!t3) || (a0.Kind == 0)) || (decide (a1 < 0))) with b7 | b7
    · refine SO.passF rfl rfl rfl b7 rfl rfl ?_
      refine SO.passF rfl rfl rfl b7 rfl rfl ?_
      refine SO.v rfl (opv_pick_t' b7 rfl rfl) ?_
      refine SO.b2 ?_
      refine SO.b2 ?_
      refine SO.b2 ?_
      exact hk2.fitc (m := 3) rfl (or_t b7) rfl
    · refine SO.takeT rfl rfl rfl b7 ?_
      refine SO.v rfl (opv_move rfl) ?_
      refine SO.takeT rfl rfl rfl b7 ?_
      refine SO.v rfl (opv_gtr rfl rfl) ?_
      refine SO.v rfl (opv_pick_f' b7 rfl rfl) ?_
      refine SO.b2 ?_
      refine SO.b2 ?_
      refine SO.b2 ?_
      exact hk2.fitc (m := 3) rfl (or_f b7) rfl
  refine SO.v rfl (opv_move rfl) ?_
  refine SO.cut 3 29 (.bool (((((!t3) || (a0.Kind == 0)) || (decide (a1 < 0))) || (decide (7 < a1))) || (decide (a2 < 1)))) [Box b1 [.int .i64 a0.Kind, .int .i64 a0.Rights, .int .i64 a0.Obj, .int .i64 a0.Badge, .int .i64 a0.Guard, .int .i64 a0.Bits], Box b2 [.int .i64 0, .int .i64 0, .int .i64 0, .int .i64 0, .int .i64 0, .int .i64 0], F] (fun l2 hk2 => ?_) ?_
  · rcases bool_or ((((!t3) || (a0.Kind == 0)) || (decide (a1 < 0))) || (decide (7 < a1))) with b8 | b8
    · refine SO.passF rfl rfl rfl b8 rfl rfl ?_
      refine SO.passF rfl rfl rfl b8 rfl rfl ?_
      refine SO.v rfl (opv_pick_t' b8 rfl rfl) ?_
      refine SO.b2 ?_
      refine SO.b2 ?_
      refine SO.b2 ?_
      exact hk2.fitc (m := 3) rfl (or_t b8) rfl
    · refine SO.takeT rfl rfl rfl b8 ?_
      refine SO.v rfl (opv_move rfl) ?_
      refine SO.takeT rfl rfl rfl b8 ?_
      refine SO.v rfl (opv_lss rfl rfl) ?_
      refine SO.v rfl (opv_pick_f' b8 rfl rfl) ?_
      refine SO.b2 ?_
      refine SO.b2 ?_
      refine SO.b2 ?_
      exact hk2.fitc (m := 3) rfl (or_f b8) rfl
  refine SO.v rfl (opv_move rfl) ?_
  refine SO.cut 3 33 (.bool ((((((!t3) || (a0.Kind == 0)) || (decide (a1 < 0))) || (decide (7 < a1))) || (decide (a2 < 1))) || (decide (65535 < a2)))) [Box b1 [.int .i64 a0.Kind, .int .i64 a0.Rights, .int .i64 a0.Obj, .int .i64 a0.Badge, .int .i64 a0.Guard, .int .i64 a0.Bits], Box b2 [.int .i64 0, .int .i64 0, .int .i64 0, .int .i64 0, .int .i64 0, .int .i64 0], F] (fun l2 hk2 => ?_) ?_
  · rcases bool_or (((((!t3) || (a0.Kind == 0)) || (decide (a1 < 0))) || (decide (7 < a1))) || (decide (a2 < 1))) with b9 | b9
    · refine SO.passF rfl rfl rfl b9 rfl rfl ?_
      refine SO.passF rfl rfl rfl b9 rfl rfl ?_
      refine SO.v rfl (opv_pick_t' b9 rfl rfl) ?_
      refine SO.b2 ?_
      refine SO.b2 ?_
      refine SO.b2 ?_
      exact hk2.fitc (m := 3) rfl (or_t b9) rfl
    · refine SO.takeT rfl rfl rfl b9 ?_
      refine SO.v rfl (opv_move rfl) ?_
      refine SO.takeT rfl rfl rfl b9 ?_
      refine SO.v rfl (opv_gtr rfl rfl) ?_
      refine SO.v rfl (opv_pick_f' b9 rfl rfl) ?_
      refine SO.b2 ?_
      refine SO.b2 ?_
      refine SO.b2 ?_
      exact hk2.fitc (m := 3) rfl (or_f b9) rfl
  refine SO.nil ?_
  refine S.to (ρ' := [(1, .int .i64 a1), (2, .int .i64 a2), (3, bp b1 0), (6, bp b2 0), (7, .int .i64 0), (33, .bool ((((((!t3) || (a0.Kind == 0)) || (decide (a1 < 0))) || (decide (7 < a1))) || (decide (a2 < 1))) || (decide (65535 < a2))))]) ⟨rfl, rfl, rfl, rfl, rfl, rfl, trivial⟩ ?_
  rcases bool_or ((((((!t3) || (a0.Kind == 0)) || (decide (a1 < 0))) || (decide (7 < a1))) || (decide (a2 < 1))) || (decide (65535 < a2))) with b10 | b10
  · replace h := cond_t b10 h
    refine S.condT rfl b10 ?_
    refine S.seq ?_
    refine S.region ?_
    refine SO.v rfl (opv_build (v := .agg #[.int .i64 0, .int .i64 0, .int .i64 0, .int .i64 0, .int .i64 0, .int .i64 0]) rfl (by intro w; kernel_rfl)) ?_
    refine SO.b1 ?_
    refine SO.storeN Try.sizeOf45 rfl rfl rfl rfl rfl rfl ?_
    refine SO.v rfl (opv_assign rfl) ?_
    refine SO.nil ?_
    cases h
    refine S.b1 ?_
    refine S.drop ?_
    refine S.b1 ?_
    refine S.b1 ?_
    exact S.retC1 Try.func28 rfl rfl rfl Try.isAgg45 Try.sizeOf45 rfl rfl (fun w hs hk => hR w _ _ ⟨rfl, rfl⟩ hs.drop hk)
  · replace h := cond_f b10 h
    refine S.condF rfl b10 ?_
    refine S.skip ?_
    refine S.seq ?_
    refine S.seq ?_
    refine S.region ?_
    refine SO.v rfl (opv_fieldAddr Try.underlying45 rfl Try.sizeOf3 rfl rfl) ?_
    refine SO.load1 rfl Try.isAgg3 rfl rfl ?_
    refine SO.v rfl (opv_neq rfl rfl) ?_
    refine SO.v rfl (opv_move rfl) ?_
    refine SO.cut 4 42 (.bool ((a0.Kind != 3) && (a0.Kind != 4))) [Box b1 [.int .i64 a0.Kind, .int .i64 a0.Rights, .int .i64 a0.Obj, .int .i64 a0.Badge, .int .i64 a0.Guard, .int .i64 a0.Bits], Box b2 [.int .i64 0, .int .i64 0, .int .i64 0, .int .i64 0, .int .i64 0, .int .i64 0], F] (fun l2 hk2 => ?_) ?_
    · rcases bool_or (a0.Kind != 3) with b11 | b11
      · refine SO.takeT rfl rfl rfl b11 ?_
        refine SO.v rfl (opv_fieldAddr Try.underlying45 rfl Try.sizeOf3 rfl rfl) ?_
        refine SO.takeT rfl rfl rfl b11 ?_
        refine SO.load1 rfl Try.isAgg3 rfl rfl ?_
        refine SO.takeT rfl rfl rfl b11 ?_
        refine SO.v rfl (opv_neq rfl rfl) ?_
        refine SO.v rfl (opv_pick_t' b11 rfl rfl) ?_
        refine SO.b2 ?_
        refine SO.b2 ?_
        refine SO.b2 ?_
        exact hk2.fitc (m := 4) rfl (and_t b11) rfl
      · refine SO.passF rfl rfl rfl b11 rfl rfl ?_
        refine SO.passF rfl rfl rfl b11 rfl rfl ?_
        refine SO.passF rfl rfl rfl b11 rfl rfl ?_
        refine SO.v rfl (opv_pick_f' b11 rfl rfl) ?_
        refine SO.b2 ?_
        refine SO.b2 ?_
        refine SO.b2 ?_
        exact hk2.fitc (m := 4) rfl (and_f b11) rfl
    refine SO.nil ?_
    rcases bool_or ((a0.Kind != 3) && (a0.Kind != 4)) with b12 | b12
    · replace h := cond_t b12 h
      refine S.condT rfl b12 ?_
      refine S.seq ?_
      refine S.region ?_
      refine SO.v rfl (opv_build (v := .agg #[.int .i64 0, .int .i64 0, .int .i64 0, .int .i64 0, .int .i64 0, .int .i64 0]) rfl (by intro w; kernel_rfl)) ?_
      refine SO.b1 ?_
      refine SO.storeN Try.sizeOf45 rfl rfl rfl rfl rfl rfl ?_
      refine SO.v rfl (opv_assign rfl) ?_
      refine SO.nil ?_
      refine S.to (ρ' := [(6, bp b2 0), (7, .int .i64 5)]) ⟨rfl, rfl, trivial⟩ ?_
      cases h
      refine S.b1 ?_
      refine S.drop ?_
      refine S.b1 ?_
      refine S.b1 ?_
      exact S.retC1 Try.func28 rfl rfl rfl Try.isAgg45 Try.sizeOf45 rfl rfl (fun w hs hk => hR w _ _ ⟨rfl, rfl⟩ hs.drop hk)
    · replace h := cond_f b12 h
      refine S.condF rfl b12 ?_
      refine S.skip ?_
      refine S.seq ?_
      refine S.seq ?_
      refine S.region ?_
      refine SO.v rfl (opv_fieldAddr Try.underlying45 rfl Try.sizeOf3 rfl rfl) ?_
      refine SO.load1 rfl Try.isAgg3 rfl rfl ?_
      refine SO.v rfl (opv_neq rfl rfl) ?_
      refine SO.nil ?_
      refine S.to (ρ' := [(1, .int .i64 a1), (2, .int .i64 a2), (3, bp b1 0), (6, bp b2 0), (7, .int .i64 0), (46, .bool (a0.Badge != 0))]) ⟨rfl, rfl, rfl, rfl, rfl, rfl, trivial⟩ ?_
      rcases bool_or (a0.Badge != 0) with b13 | b13
      · replace h := cond_t b13 h
        refine S.condT rfl b13 ?_
        refine S.seq ?_
        refine S.region ?_
        refine SO.v rfl (opv_build (v := .agg #[.int .i64 0, .int .i64 0, .int .i64 0, .int .i64 0, .int .i64 0, .int .i64 0]) rfl (by intro w; kernel_rfl)) ?_
        refine SO.b1 ?_
        refine SO.storeN Try.sizeOf45 rfl rfl rfl rfl rfl rfl ?_
        refine SO.v rfl (opv_assign rfl) ?_
        refine SO.nil ?_
        cases h
        refine S.b1 ?_
        refine S.drop ?_
        refine S.b1 ?_
        refine S.b1 ?_
        exact S.retC1 Try.func28 rfl rfl rfl Try.isAgg45 Try.sizeOf45 rfl rfl (fun w hs hk => hR w _ _ ⟨rfl, rfl⟩ hs.drop hk)
      · replace h := cond_f b13 h
        refine S.condF rfl b13 ?_
        refine S.skip ?_
        refine S.seq ?_
        refine S.region ?_
        refine SO.v rfl (opv_fieldAddr Try.underlying45 rfl Try.sizeOf3 rfl rfl) ?_
        refine SO.load1 rfl Try.isAgg3 rfl rfl ?_
        refine SO.v rfl (opv_move rfl) ?_
        obtain ⟨t14, ht15, h⟩ := opt_bind h
        refine SO.call (pre := []) rfl Try.call50 rfl rfl rfl (ref01_both.ct _ _ _ _ ht15) trivial ?_
        rintro _ _ ⟨rfl, rfl⟩
        refine SO.v rfl (opv_fieldAddr Try.underlying45 rfl Try.sizeOf3 rfl rfl) ?_
        refine SO.store1 Try.sizeOf3 rfl rfl rfl rfl ?_
        refine SO.nil ?_
        refine S.to (ρ' := [(2, .int .i64 a2), (3, bp b1 0), (6, bp b2 0), (7, .int .i64 0)]) ⟨rfl, rfl, rfl, rfl, trivial⟩ ?_
        refine S.seq ?_
        refine S.region ?_
        refine SO.v rfl (opv_move rfl) ?_
        refine SO.v rfl (opv_fieldAddr Try.underlying45 rfl Try.sizeOf3 rfl rfl) ?_
        refine SO.store1 Try.sizeOf3 rfl rfl rfl rfl ?_
        refine SO.nil ?_
        refine S.seq ?_
        refine S.region ?_
        refine SO.loadN rfl Try.isAgg45 Try.sizeOf45 rfl rfl rfl ?_
        refine SO.b1 ?_
        refine SO.storeN Try.sizeOf45 rfl rfl rfl rfl rfl rfl ?_
        refine SO.v rfl (opv_assign rfl) ?_
        refine SO.nil ?_
        cases h
        refine S.b1 ?_
        refine S.drop ?_
        refine S.b1 ?_
        refine S.b1 ?_
        exact S.retC1 Try.func28 rfl rfl rfl Try.isAgg45 Try.sizeOf45 rfl rfl (fun w hs hk => hR w _ _ ⟨rfl, rfl⟩ hs.drop hk)
end Go.Proofs
namespace Go.Proofs
open Go.Sl Go.RowKit
/-! 51 (*padstone/padstoneref10.State).Link -/
def ref10_State_Link.f (a0 : ref10_State) (a1 : Int) (a2 : Int) : Option ((Int × ref10_State)) :=
  (ref10_slot.f a1).bind fun t1 => (ref10_slot.f a2).bind fun t3 => bif (!t1) || (!t3) then (some (2, a0)) else ((bif a1 == a2 then (some true) else ((at_ a0.Slots a1).bind fun x14 => some (decide (0 ≤ x14.Parent)))).bind fun c12 => bif c12 then (some (10, a0)) else ((at_ a0.Slots a1).bind fun x20 => (at_ (a0.Slots.set a1.toNat ({ x20 with Parent := a2 } : ref10_Slot)) a2).bind fun x34 => (app ([a1]) x34.Kids).bind fun zs43 => (at_ (a0.Slots.set a1.toNat ({ x20 with Parent := a2 } : ref10_Slot)) a2).bind fun x47 => some (0, ({ a0 with Slots := (a0.Slots.set a1.toNat ({ x20 with Parent := a2 } : ref10_Slot)).set a2.toNat ({ x47 with Kids := zs43 } : ref10_Slot) } : ref10_State))))
set_option maxHeartbeats 8000000 in
set_option maxRecDepth 100000 in
theorem ref10_State_Link.ct (bp0 : Nat) (v0_Slots : Value) (v0_Objs : Value) (a0 : ref10_State) (a1 : Int) (a2 : Int) (r0 : Int) (rp0 : ref10_State) (h : ref10_State_Link.f a0 a1 a2 = some (r0, rp0)) :
    Ct Try.prog 51 [bp bp0 0, .int .i64 a1, .int .i64 a2] (fun _ => True) [Box bp0 [v0_Slots, v0_Objs, .int .i64 a0.NS, .int .i64 a0.NO], OwnR 65 kr_ref10_Slot v0_Slots a0.Slots, OwnR 58 kr_ref10_Obj v0_Objs a0.Objs] (fun u H' => ∃ rw0_Slots rw0_Objs, u = .int .i64 r0 ∧ H' = [Box bp0 [rw0_Slots, rw0_Objs, .int .i64 rp0.NS, .int .i64 rp0.NO], OwnR 65 kr_ref10_Slot rw0_Slots rp0.Slots, OwnR 58 kr_ref10_Obj rw0_Objs rp0.Objs]) := by
  unfold ref10_State_Link.f at h
  refine Ct.intro (n := 59) Try.func51 rfl rfl rfl ?_
  intro R w0 F hF hR
  refine S.seq ?_
  refine S.region ?_
  refine SO.v rfl (opv_assign rfl) ?_
  refine SO.nil ?_
  refine S.seq ?_
  refine S.region ?_
  refine SO.v rfl (opv_move rfl) ?_
  obtain ⟨t1, ht2, h⟩ := opt_bind h
  refine SO.call (pre := []) rfl Try.call33 rfl rfl rfl (ref10_slot.ct _ _ ht2) trivial ?_
  rintro _ _ ⟨rfl, rfl⟩
  refine SO.v rfl (opv_assign rfl) ?_
  refine SO.nil ?_
  refine S.seq ?_
  refine S.region ?_
  refine SO.v rfl (opv_move rfl) ?_
  obtain ⟨t3, ht4, h⟩ := opt_bind h
  refine SO.call (pre := []) rfl Try.call33 rfl rfl rfl (ref10_slot.ct _ _ ht4) trivial ?_
  rintro _ _ ⟨rfl, rfl⟩
  refine SO.v rfl (opv_assign rfl) ?_
  refine SO.nil ?_
  refine S.seq ?_
  refine S.seq ?_
  refine S.region ?_
  refine SO.v rfl (opv_move rfl) ?_
  refine SO.v rfl (opv_not rfl) ?_
  refine SO.v rfl (opv_move rfl) ?_
  refine SO.cut 3 18 (.bool ((!t1) || (!t3))) [Box bp0 [v0_Slots, v0_Objs, .int .i64 a0.NS, .int .i64 a0.NO], OwnR 65 kr_ref10_Slot v0_Slots a0.Slots, OwnR 58 kr_ref10_Obj v0_Objs a0.Objs, F] (fun l2 hk2 => ?_) ?_
  · rcases bool_or (!t1) with b5 | b5
    · refine SO.passF rfl rfl rfl b5 rfl rfl ?_
      refine SO.passF rfl rfl rfl b5 rfl rfl ?_
      refine SO.v rfl (opv_pick_t' b5 rfl rfl) ?_
      refine SO.b3 ?_
      refine SO.b3 ?_
      refine SO.b3 ?_
      refine SO.b3 ?_
      exact hk2.fitc (m := 3) rfl (or_t b5) rfl
    · refine SO.takeT rfl rfl rfl b5 ?_
      refine SO.v rfl (opv_move rfl) ?_
      refine SO.takeT rfl rfl rfl b5 ?_
      refine SO.v rfl (opv_not rfl) ?_
      refine SO.v rfl (opv_pick_f' b5 rfl rfl) ?_
      refine SO.b3 ?_
      refine SO.b3 ?_
      refine SO.b3 ?_
      refine SO.b3 ?_
      exact hk2.fitc (m := 3) rfl (or_f b5) rfl
  refine SO.nil ?_
  refine S.to (ρ' := [(0, bp bp0 0), (1, .int .i64 a1), (2, .int .i64 a2), (6, .int .i64 0), (18, .bool ((!t1) || (!t3)))]) ⟨rfl, rfl, rfl, rfl, rfl, trivial⟩ ?_
  rcases bool_or ((!t1) || (!t3)) with b6 | b6
  · replace h := cond_t b6 h
    refine S.condT rfl b6 ?_
    refine S.seq ?_
    refine S.region ?_
    refine SO.v rfl (opv_assign rfl) ?_
    refine SO.nil ?_
    cases h
    refine S.b3 ?_
    refine S.b3 ?_
    refine S.b3 ?_
    refine S.b3 ?_
    exact S.ret1 Try.func51 rfl rfl (fun w hs hk => hR w _ _ ⟨v0_Slots, v0_Objs, rfl, rfl⟩ hs hk)
  · replace h := cond_f b6 h
    refine S.condF rfl b6 ?_
    refine S.skip ?_
    refine S.seq ?_
    refine S.seq ?_
    refine S.region ?_
    refine SO.v rfl (opv_move rfl) ?_
    refine SO.v rfl (opv_move rfl) ?_
    refine SO.v rfl (opv_eql rfl rfl) ?_
    refine SO.v rfl (opv_move rfl) ?_
    refine SO.b1 ?_
    refine SO.openR fun raws7 A8 hrel9 hR10 => ?_
    obtain ⟨c12, hc13, hgk⟩ := opt_bind h
    refine SO.cut 10 32 (.bool c12) [OwnO 65 kr_ref10_Slot v0_Slots raws7 A8 a0.Slots, Box bp0 [v0_Slots, v0_Objs, .int .i64 a0.NS, .int .i64 a0.NO], OwnR 58 kr_ref10_Obj v0_Objs a0.Objs, F] (fun l2 hk2 => ?_) ?_
    · clear hgk
      replace h := hc13
      rcases bool_or (a1 == a2) with b11 | b11
      · replace h := cond_t b11 h
        refine SO.passF rfl rfl rfl b11 rfl rfl ?_
        refine SO.passF rfl rfl rfl b11 rfl rfl ?_
        refine SO.passF rfl rfl rfl b11 rfl rfl ?_
        refine SO.passF rfl rfl rfl b11 rfl rfl ?_
        refine SO.passF rfl rfl rfl b11 rfl rfl ?_
        refine SO.passF rfl rfl rfl b11 rfl rfl ?_
        refine SO.passF rfl rfl rfl b11 rfl rfl ?_
        refine SO.passF rfl rfl rfl b11 rfl rfl ?_
        refine SO.passF rfl rfl rfl b11 rfl rfl ?_
        cases h
        refine SO.v rfl (opv_pick_t' b11 rfl rfl) ?_
        refine SO.b3 ?_
        refine SO.b3 ?_
        refine SO.b3 ?_
        refine SO.b3 ?_
        exact hk2.fitc (m := 10) rfl (rfl) rfl
      · replace h := cond_f b11 h
        refine SO.takeT rfl rfl rfl b11 ?_
        refine SO.v rfl (opv_move rfl) ?_
        refine SO.takeT rfl rfl rfl b11 ?_
        refine SO.v rfl (opv_nilCheck rfl) ?_
        refine SO.takeT rfl rfl rfl b11 ?_
        refine SO.v rfl (opv_fieldAddr Try.underlying63 rfl Try.sizeOf60 rfl rfl) ?_
        refine SO.takeT rfl rfl rfl b11 ?_
        refine SO.b1 ?_
        refine SO.load1 rfl Try.isAgg60 rfl rfl ?_
        refine SO.takeT rfl rfl rfl b11 ?_
        refine SO.v rfl (opv_move rfl) ?_
        refine SO.takeT rfl rfl rfl b11 ?_
        obtain ⟨x14, hx15, h⟩ := opt_bind h
        obtain ⟨r16, hr17, hc18⟩ := relR.at hrel9 hx15
        refine SO.v rfl (opv_idx Try.underlying60 Try.sizeOf65 hR10 rfl rfl hr17) ?_
        refine SO.takeT rfl rfl rfl b11 ?_
        refine SO.v rfl (opv_fieldIdx Try.underlying65 rfl Try.sizeOf3 hR10 hr17 rfl rfl) ?_
        refine SO.takeT rfl rfl rfl b11 ?_
        refine SO.loadI1 (j := 6) rfl Try.isAgg3 (Rd.tail (Rd.head hR10)) hr17 rfl rfl rfl (hc18.val rfl) ?_
        refine SO.takeT rfl rfl rfl b11 ?_
        refine SO.v rfl (opv_geq rfl rfl) ?_
        cases h
        refine SO.v rfl (opv_pick_f' b11 rfl rfl) ?_
        refine SO.b3 ?_
        refine SO.b3 ?_
        refine SO.b2 ?_
        refine SO.b3 ?_
        exact hk2.fitc (m := 10) rfl (rfl) rfl
    clear hc13
    replace h := hgk
    refine SO.nil ?_
    rcases bool_or c12 with b19 | b19
    · replace h := cond_t b19 h
      refine S.condT rfl b19 ?_
      refine S.seq ?_
      refine S.region ?_
      refine SO.v rfl (opv_assign rfl) ?_
      refine SO.nil ?_
      refine S.to (ρ' := [(6, .int .i64 10)]) ⟨rfl, trivial⟩ ?_
      cases h
      refine S.closeR ?_
      refine S.b3 ?_
      refine S.b3 ?_
      refine S.b2 ?_
      refine S.b3 ?_
      exact S.ret1 Try.func51 rfl rfl (fun w hs hk => hR w _ _ ⟨v0_Slots, v0_Objs, rfl, rfl⟩ hs hk)
    · replace h := cond_f b19 h
      refine S.condF rfl b19 ?_
      refine S.skip ?_
      refine S.seq ?_
      refine S.region ?_
      refine SO.v rfl (opv_move rfl) ?_
      refine SO.v rfl (opv_nilCheck rfl) ?_
      refine SO.v rfl (opv_fieldAddr Try.underlying63 rfl Try.sizeOf60 rfl rfl) ?_
      refine SO.b1 ?_
      refine SO.load1 rfl Try.isAgg60 rfl rfl ?_
      refine SO.v rfl (opv_move rfl) ?_
      refine SO.v rfl (opv_move rfl) ?_
      obtain ⟨x20, hx21, h⟩ := opt_bind h
      obtain ⟨r22, hr23, hc24⟩ := relR.at hrel9 hx21
      refine SO.v rfl (opv_idx Try.underlying60 Try.sizeOf65 hR10 rfl rfl hr23) ?_
      refine SO.v rfl (opv_fieldIdx Try.underlying65 rfl Try.sizeOf3 hR10 hr23 rfl rfl) ?_
      refine SO.b1 ?_
      refine SO.storeO1 (j := 6) (q := .val (.int .i64 a2)) (z' := ({ x20 with Parent := a2 } : ref10_Slot)) Try.sizeOf3 hrel9 hx21 rfl rfl rfl rfl rfl rfl rfl (fun raws25 hrel26 hR27 => ?_)
      refine SO.nil ?_
      refine S.to (ρ' := [(0, bp bp0 0), (1, .int .i64 a1), (2, .int .i64 a2), (6, .int .i64 0)]) ⟨rfl, rfl, rfl, rfl, trivial⟩ ?_
      refine S.seq ?_
      refine S.b2 ?_
      refine S.openR fun raws28 A29 hrel30 hR31 => ?_
      obtain ⟨x34, hx35, h⟩ := opt_bind h
      obtain ⟨r36, hr37, hc38⟩ := relR.at hrel26 hx35
      obtain ⟨u39, hu40, hru41⟩ := hc38.sl 7 rfl
      obtain ⟨zs43, hz44, h⟩ := opt_bind h
      obtain ⟨x47, hx48, h⟩ := opt_bind h
      obtain ⟨r49, hr50, hc51⟩ := relR.at hrel26 hx48
      refine S.draw' (Z := fun Q => ∀ (_ : Unit) (_ : Unit) (_ : Unit) (_ : Unit) (_ : Unit), Q [(6, .int .i64 0)] [OwnO 58 kr_ref10_Obj v0_Objs raws28 A29 a0.Objs, OwnR 65 kr_ref10_Slot v0_Slots ((a0.Slots.set a1.toNat ({ x20 with Parent := a2 } : ref10_Slot)).set a2.toNat ({ x47 with Kids := zs43 } : ref10_Slot)), Box bp0 [v0_Slots, v0_Objs, .int .i64 a0.NS, .int .i64 a0.NO], F]) (T := [tS 0 (bp bp0 0), tS 2 (.int .i64 a2), tS 1 (.int .i64 a1), tS 6 (.int .i64 0), tR (OwnO 58 kr_ref10_Obj v0_Objs raws28 A29 a0.Objs), tR (OwnO 65 kr_ref10_Slot v0_Slots raws25 A8 (a0.Slots.set a1.toNat ({ x20 with Parent := a2 } : ref10_Slot))), tR (Box bp0 [v0_Slots, v0_Objs, .int .i64 a0.NS, .int .i64 a0.NO]), tR (F), tS 41 (bp bp0 0), tS 42 (bp bp0 0), tS 43 (bp bp0 0), tS 44 (v0_Slots), tS 45 (.int .i64 a2), tS 46 (.int .i64 a1), ⟨Value, [47], (fun v32 => [(47, v32)]), (fun v32 => [Own 3 (ekI .i64) v32 ([a1])]), fun _ => rfl⟩, tS 48 (bp bp0 0), tS 49 (bp bp0 0), tS 50 (bp bp0 0), tS 51 (v0_Slots), tS 52 (.int .i64 a2), tS 53 (idxp v0_Slots (a2.toNat * kr_ref10_Slot.sz)), tS 54 (idxp v0_Slots (a2.toNat * kr_ref10_Slot.sz + 7)), tS 55 (u39), ⟨Value, [56], (fun v45 => [(56, v45)]), (fun v45 => [Own 3 (ekI .i64) v45 zs43]), fun _ => rfl⟩, tS 57 (idxp v0_Slots (a2.toNat * kr_ref10_Slot.sz)), tS 58 (idxp v0_Slots (a2.toNat * kr_ref10_Slot.sz + 7)), tR (OwnR 65 kr_ref10_Slot v0_Slots ((a0.Slots.set a1.toNat ({ x20 with Parent := a2 } : ref10_Slot)).set a2.toNat ({ x47 with Kids := zs43 } : ref10_Slot)))]) (D := [⟨[0], [], [8]⟩, ⟨[8], [], [9]⟩, ⟨[9], [], [10]⟩, ⟨[10, 6], [], [11]⟩, ⟨[1], [], [12]⟩, ⟨[2], [], [13]⟩, ⟨[13], [], [14]⟩, ⟨[0], [], [15]⟩, ⟨[15], [], [16]⟩, ⟨[16], [], [17]⟩, ⟨[17, 6], [], [18]⟩, ⟨[1], [], [19]⟩, ⟨[18, 19, 5], [], [20]⟩, ⟨[20, 5], [], [21]⟩, ⟨[21, 5], [], [22]⟩, ⟨[22, 5], [14], [23]⟩, ⟨[11, 12, 5], [], [24]⟩, ⟨[24, 5], [], [25]⟩, ⟨[25], [23, 5], [26]⟩]) (ini := [0, 1, 2, 3, 4, 5, 6, 7]) (fin := [3, 4, 26, 6, 7]) (bf := [[], [0], [0, 1], [0, 1, 2], [], [], [5], [], [7], [7, 8], [7, 8, 9], [], [7, 8, 9, 10, 11], [7, 8, 9, 10, 11, 12], [7, 8, 9, 10, 11, 12, 13], [5, 6, 7, 8, 9, 10, 11, 12, 13, 14], [0, 1, 2, 3, 4, 5, 6, 7, 8, 9, 10, 11, 12, 13, 14, 15], [0, 1, 2, 3, 4, 5, 6, 7, 8, 9, 10, 11, 12, 13, 14, 15, 16], [0, 1, 2, 3, 4, 5, 6, 7, 8, 9, 10, 11, 12, 13, 14, 15, 16, 17]]) (by kernel_rfl) (by kernel_rfl) (fun x w h1 h2 => (.cons () (.cons () (.cons () (.cons () (.cons () (.cons () (.cons () (.cons () (.nil ⟨EnvAll.of h1 ⟨rfl, rfl, rfl, rfl, trivial⟩, h2⟩)))))))))) (fun Q => by kernel_rfl) ⟨?_, ?_, ?_, ?_, ?_, ?_, ?_, ?_, ?_, ?_, ?_, ?_, ?_, ?_, ?_, ?_, ?_, ?_, ?_, trivial⟩ ?_
      · rintro Fr _
        refine SO.v rfl (opv_move rfl) ?_
        exact SO.nilZ fun a w h1 h2 h3 h4 h5 => PZ.of h1 h3 h5 (.cons () (.cons () (.nil ⟨EnvAll.of h2 ⟨rfl, rfl, trivial⟩, h4⟩)))
      · rintro Fr _
        refine SO.v rfl (opv_nilCheck rfl) ?_
        exact SO.nilZ fun a w h1 h2 h3 h4 h5 => PZ.of h1 h3 h5 (.cons () (.cons () (.nil ⟨EnvAll.of h2 ⟨rfl, rfl, trivial⟩, h4⟩)))
      · rintro Fr _
        refine SO.v rfl (opv_fieldAddr Try.underlying63 rfl Try.sizeOf60 rfl rfl) ?_
        exact SO.nilZ fun a w h1 h2 h3 h4 h5 => PZ.of h1 h3 h5 (.cons () (.cons () (.nil ⟨EnvAll.of h2 ⟨rfl, rfl, trivial⟩, h4⟩)))
      · rintro Fr _ _
        refine SO.load1 rfl Try.isAgg60 rfl rfl ?_
        exact SO.nilZ fun a w h1 h2 h3 h4 h5 => PZ.of h1 h3 h5 (.cons () (.cons () (.cons () (.nil ⟨EnvAll.of h2 ⟨rfl, rfl, trivial⟩, h4⟩))))
      · rintro Fr _
        refine SO.v rfl (opv_move rfl) ?_
        exact SO.nilZ fun a w h1 h2 h3 h4 h5 => PZ.of h1 h3 h5 (.cons () (.cons () (.nil ⟨EnvAll.of h2 ⟨rfl, rfl, trivial⟩, h4⟩)))
      · rintro Fr _
        refine SO.v rfl (opv_move rfl) ?_
        exact SO.nilZ fun a w h1 h2 h3 h4 h5 => PZ.of h1 h3 h5 (.cons () (.cons () (.nil ⟨EnvAll.of h2 ⟨rfl, rfl, trivial⟩, h4⟩)))
      · rintro Fr _
        refine SO.buildSlice (K := ekI .i64) (xs := [a1]) (cs := [.int .i64 a1]) rfl Try.underlying55 Try.sizeOf3 Try.zeroValue3 rfl rfl rfl (by kernel_rfl) rfl rfl rfl (fun v32 hr33 => ?_)
        exact SO.nilZ fun a w h1 h2 h3 h4 h5 => PZ.of h1 h3 h5 (.cons () (.cons v32 (.nil ⟨EnvAll.of h2 ⟨rfl, rfl, trivial⟩, h4⟩)))
      · rintro Fr _
        refine SO.v rfl (opv_move rfl) ?_
        exact SO.nilZ fun a w h1 h2 h3 h4 h5 => PZ.of h1 h3 h5 (.cons () (.cons () (.nil ⟨EnvAll.of h2 ⟨rfl, rfl, trivial⟩, h4⟩)))
      · rintro Fr _
        refine SO.v rfl (opv_nilCheck rfl) ?_
        exact SO.nilZ fun a w h1 h2 h3 h4 h5 => PZ.of h1 h3 h5 (.cons () (.cons () (.nil ⟨EnvAll.of h2 ⟨rfl, rfl, trivial⟩, h4⟩)))
      · rintro Fr _
        refine SO.v rfl (opv_fieldAddr Try.underlying63 rfl Try.sizeOf60 rfl rfl) ?_
        exact SO.nilZ fun a w h1 h2 h3 h4 h5 => PZ.of h1 h3 h5 (.cons () (.cons () (.nil ⟨EnvAll.of h2 ⟨rfl, rfl, trivial⟩, h4⟩)))
      · rintro Fr _ _
        refine SO.load1 rfl Try.isAgg60 rfl rfl ?_
        exact SO.nilZ fun a w h1 h2 h3 h4 h5 => PZ.of h1 h3 h5 (.cons () (.cons () (.cons () (.nil ⟨EnvAll.of h2 ⟨rfl, rfl, trivial⟩, h4⟩))))
      · rintro Fr _
        refine SO.v rfl (opv_move rfl) ?_
        exact SO.nilZ fun a w h1 h2 h3 h4 h5 => PZ.of h1 h3 h5 (.cons () (.cons () (.nil ⟨EnvAll.of h2 ⟨rfl, rfl, trivial⟩, h4⟩)))
      · rintro Fr _ _ _
        refine SO.v rfl (opv_idx Try.underlying60 Try.sizeOf65 hR27 rfl rfl hr37) ?_
        exact SO.nilZ fun a w h1 h2 h3 h4 h5 => PZ.of h1 h3 h5 (.cons () (.cons () (.cons () (.cons () (.nil ⟨EnvAll.of h2 ⟨rfl, rfl, rfl, trivial⟩, h4⟩)))))
      · rintro Fr _ _
        refine SO.v rfl (opv_fieldIdx Try.underlying65 rfl Try.sizeOf55 hR27 hr37 rfl rfl) ?_
        exact SO.nilZ fun a w h1 h2 h3 h4 h5 => PZ.of h1 h3 h5 (.cons () (.cons () (.cons () (.nil ⟨EnvAll.of h2 ⟨rfl, rfl, trivial⟩, h4⟩))))
      · rintro Fr _ _
        refine SO.loadI1 (j := 7) rfl Try.isAgg55 (Rd.head hR27) hr37 rfl rfl rfl hu40 ?_
        exact SO.nilZ fun a w h1 h2 h3 h4 h5 => PZ.of h1 h3 h5 (.cons () (.cons () (.cons () (.nil ⟨EnvAll.of h2 ⟨rfl, rfl, trivial⟩, h4⟩))))
      · rintro Fr _ _ v32
        refine SO.b1 ?_
        refine SO.rd fun hr42 => ?_
        refine SO.append rfl Try.underlying55 Try.underlying55 inf3 rfl rfl rfl (by decide) rfl rfl rfl (Rd.head (Rd.pool hru41)) hz44 (fun v45 => ?_)
        refine SO.rd fun hr46 => ?_
        refine SO.b1 ?_
        exact SO.nilZ fun a w h1 h2 h3 h4 h5 => PZ.of h1 h3 h5 (.cons () (.cons () (.cons v45 (.nil ⟨EnvAll.of h2 ⟨rfl, rfl, trivial⟩, h4⟩))))
      · rintro Fr _ _ _
        refine SO.v rfl (opv_idx Try.underlying60 Try.sizeOf65 hR27 rfl rfl hr50) ?_
        exact SO.nilZ fun a w h1 h2 h3 h4 h5 => PZ.of h1 h3 h5 (.cons () (.cons () (.cons () (.cons () (.nil ⟨EnvAll.of h2 ⟨rfl, rfl, rfl, trivial⟩, h4⟩)))))
      · rintro Fr _ _
        refine SO.v rfl (opv_fieldIdx Try.underlying65 rfl Try.sizeOf55 hR27 hr50 rfl rfl) ?_
        exact SO.nilZ fun a w h1 h2 h3 h4 h5 => PZ.of h1 h3 h5 (.cons () (.cons () (.cons () (.nil ⟨EnvAll.of h2 ⟨rfl, rfl, trivial⟩, h4⟩))))
      · rintro Fr _ v45 _
        refine SO.rd fun hr52 => ?_
        refine SO.b1 ?_
        refine SO.b1 ?_
        refine SO.freeze hrel26 fun A53 hcov54 hru55 hrel56 hR57 => ?_
        refine SO.storeO1 (j := 7) (q := .sl (ekI .i64) zs43) (z' := ({ x47 with Kids := zs43 } : ref10_Slot)) Try.sizeOf55 hrel56 hx48 rfl rfl (Rd.one hru55) rfl rfl rfl hru55 (fun raws58 hrel59 hR60 => ?_)
        refine SO.closeR ?_
        exact SO.nilZ fun a w h1 h2 h3 h4 h5 => PZ.of h1 h3 h5 (.cons () (.cons () (.nil ⟨EnvAll.of h2 ⟨rfl, trivial⟩, h4⟩)))
      rintro _ _ _ _ _
      refine S.to (ρ' := [(6, .int .i64 0)]) ⟨rfl, trivial⟩ ?_
      refine S.seq ?_
      refine S.region ?_
      refine SO.v rfl (opv_assign rfl) ?_
      refine SO.nil ?_
      cases h
      refine S.closeR ?_
      refine S.b3 ?_
      refine S.b1 ?_
      refine S.b2 ?_
      refine S.b3 ?_
      exact S.ret1 Try.func51 rfl rfl (fun w hs hk => hR w _ _ ⟨v0_Slots, v0_Objs, rfl, rfl⟩ hs hk)
end Go.Proofs
namespace Go.Proofs
open Go.Sl Go.RowKit
/-! 30 (*padstone/padstoneref10.State).below -/
def ref10_State_below.f (a0 : ref10_State) (a1 : Int) (a2 : Int) (a3 : api_Cap) : Option ((Int × ref10_State)) :=
  (ref10_State_Link.f a0 a2 a1).bind fun (t2, p3) => bif t2 == 0 then ((at_ p3.Slots a2).bind fun x11 => some (t2, ({ p3 with Slots := p3.Slots.set a2.toNat ({ x11 with Cap := a3 } : ref10_Slot) } : ref10_State))) else (some (t2, p3))
set_option maxHeartbeats 8000000 in
set_option maxRecDepth 100000 in
theorem ref10_State_below.ct (bp0 : Nat) (v0_Slots : Value) (v0_Objs : Value) (a0 : ref10_State) (a1 : Int) (a2 : Int) (a3 : api_Cap) (r0 : Int) (rp0 : ref10_State) (h : ref10_State_below.f a0 a1 a2 a3 = some (r0, rp0)) :
    Ct Try.prog 30 [bp bp0 0, .int .i64 a1, .int .i64 a2, .agg #[.int .i64 a3.Kind, .int .i64 a3.Rights, .int .i64 a3.Obj, .int .i64 a3.Badge, .int .i64 a3.Guard, .int .i64 a3.Bits]] (fun _ => True) [Box bp0 [v0_Slots, v0_Objs, .int .i64 a0.NS, .int .i64 a0.NO], OwnR 65 kr_ref10_Slot v0_Slots a0.Slots, OwnR 58 kr_ref10_Obj v0_Objs a0.Objs] (fun u H' => ∃ rw0_Slots rw0_Objs, u = .int .i64 r0 ∧ H' = [Box bp0 [rw0_Slots, rw0_Objs, .int .i64 rp0.NS, .int .i64 rp0.NO], OwnR 65 kr_ref10_Slot rw0_Slots rp0.Slots, OwnR 58 kr_ref10_Obj rw0_Objs rp0.Objs]) := by
  unfold ref10_State_below.f at h
  refine Ct.intro (n := 25) Try.func30 rfl rfl rfl ?_
  intro R w0 F hF hR
  refine S.seq ?_
  refine S.region ?_
  refine SO.box rfl rfl rfl (fun b1 => ?_)
  refine SO.v rfl (opv_assign rfl) ?_
  refine SO.nil ?_
  refine S.seq ?_
  refine S.region ?_
  refine SO.v rfl (opv_move rfl) ?_
  refine SO.v rfl (opv_move rfl) ?_
  refine SO.v rfl (opv_move rfl) ?_
  obtain ⟨⟨t2, p3⟩, ht4, h⟩ := opt_bind h
  refine SO.b3 ?_
  refine SO.b3 ?_
  refine SO.b3 ?_
  refine SO.call (pre := [Box _ _, OwnR _ _ _ _, OwnR _ _ _ _]) rfl Try.call51 rfl rfl rfl (ref10_State_Link.ct bp0 v0_Slots v0_Objs _ _ _ _ _ ht4) trivial ?_
  rintro _ _ ⟨u5_Slots, u5_Objs, rfl, rfl⟩
  refine SO.v rfl (opv_assign rfl) ?_
  refine SO.nil ?_
  refine S.seq ?_
  refine S.seq ?_
  refine S.region ?_
  refine SO.v rfl (opv_move rfl) ?_
  refine SO.v rfl (opv_eql rfl rfl) ?_
  refine SO.nil ?_
  refine S.to (ρ' := [(0, bp bp0 0), (2, .int .i64 a2), (7, bp b1 0), (8, .int .i64 0), (9, .int .i64 t2), (15, .bool (t2 == 0))]) ⟨rfl, rfl, rfl, rfl, rfl, rfl, trivial⟩ ?_
  rcases bool_or (t2 == 0) with b6 | b6
  · replace h := cond_t b6 h
    refine S.condT rfl b6 ?_
    refine S.b1 ?_
    refine S.openR fun raws7 A8 hrel9 hR10 => ?_
    obtain ⟨x11, hx12, h⟩ := opt_bind h
    obtain ⟨r13, hr14, hc15⟩ := relR.at hrel9 hx12
    refine S.draw' (Z := fun Q => ∀ (_ : Unit) (_ : Unit) (_ : Unit) (_ : Unit) (_ : Unit) (_ : Unit), Q [(8, .int .i64 0), (9, .int .i64 t2)] [OwnR 65 kr_ref10_Slot u5_Slots (p3.Slots.set a2.toNat ({ x11 with Cap := a3 } : ref10_Slot)), Box bp0 [u5_Slots, u5_Objs, .int .i64 p3.NS, .int .i64 p3.NO], OwnR 58 kr_ref10_Obj u5_Objs p3.Objs, Box b1 [.int .i64 a3.Kind, .int .i64 a3.Rights, .int .i64 a3.Obj, .int .i64 a3.Badge, .int .i64 a3.Guard, .int .i64 a3.Bits], F]) (T := [tS 0 (bp bp0 0), tS 2 (.int .i64 a2), tS 7 (bp b1 0), tE [(8, .int .i64 0), (9, .int .i64 t2)], tR (OwnO 65 kr_ref10_Slot u5_Slots raws7 A8 p3.Slots), tR (Box bp0 [u5_Slots, u5_Objs, .int .i64 p3.NS, .int .i64 p3.NO]), tR (OwnR 58 kr_ref10_Obj u5_Objs p3.Objs), tR (Box b1 [.int .i64 a3.Kind, .int .i64 a3.Rights, .int .i64 a3.Obj, .int .i64 a3.Badge, .int .i64 a3.Guard, .int .i64 a3.Bits]), tR (F), tS 16 (bp bp0 0), tS 17 (bp bp0 0), tS 18 (bp bp0 0), tS 19 (u5_Slots), tS 20 (.int .i64 a2), tS 21 (.agg #[.int .i64 a3.Kind, .int .i64 a3.Rights, .int .i64 a3.Obj, .int .i64 a3.Badge, .int .i64 a3.Guard, .int .i64 a3.Bits]), tS 22 (idxp u5_Slots (a2.toNat * kr_ref10_Slot.sz)), tS 23 (idxp u5_Slots (a2.toNat * kr_ref10_Slot.sz)), tR (OwnR 65 kr_ref10_Slot u5_Slots (p3.Slots.set a2.toNat ({ x11 with Cap := a3 } : ref10_Slot)))]) (D := [⟨[0], [], [9]⟩, ⟨[9], [], [10]⟩, ⟨[10], [], [11]⟩, ⟨[11, 5], [], [12]⟩, ⟨[1], [], [13]⟩, ⟨[2, 7], [], [14]⟩, ⟨[12, 13, 4], [], [15]⟩, ⟨[15, 4], [], [16]⟩, ⟨[14, 16], [4], [17]⟩]) (ini := [0, 1, 2, 3, 4, 5, 6, 7, 8]) (fin := [3, 17, 5, 6, 7, 8]) (bf := [[], [0], [0, 1], [0, 1, 2], [], [], [0, 1, 2, 3, 4, 5], [0, 1, 2, 3, 4, 5, 6], [0, 1, 2, 3, 4, 5, 6, 7]]) (by kernel_rfl) (by kernel_rfl) (fun x w h1 h2 => (.cons () (.cons () (.cons () (.cons () (.cons () (.cons () (.cons () (.cons () (.cons () (.nil ⟨EnvAll.of h1 ⟨rfl, rfl, rfl, rfl, rfl, trivial⟩, h2⟩))))))))))) (fun Q => by kernel_rfl) ⟨?_, ?_, ?_, ?_, ?_, ?_, ?_, ?_, ?_, trivial⟩ ?_
    · rintro Fr _
      refine SO.v rfl (opv_move rfl) ?_
      exact SO.nilZ fun a w h1 h2 h3 h4 h5 => PZ.of h1 h3 h5 (.cons () (.cons () (.nil ⟨EnvAll.of h2 ⟨rfl, rfl, trivial⟩, h4⟩)))
    · rintro Fr _
      refine SO.v rfl (opv_nilCheck rfl) ?_
      exact SO.nilZ fun a w h1 h2 h3 h4 h5 => PZ.of h1 h3 h5 (.cons () (.cons () (.nil ⟨EnvAll.of h2 ⟨rfl, rfl, trivial⟩, h4⟩)))
    · rintro Fr _
      refine SO.v rfl (opv_fieldAddr Try.underlying63 rfl Try.sizeOf60 rfl rfl) ?_
      exact SO.nilZ fun a w h1 h2 h3 h4 h5 => PZ.of h1 h3 h5 (.cons () (.cons () (.nil ⟨EnvAll.of h2 ⟨rfl, rfl, trivial⟩, h4⟩)))
    · rintro Fr _ _
      refine SO.load1 rfl Try.isAgg60 rfl rfl ?_
      exact SO.nilZ fun a w h1 h2 h3 h4 h5 => PZ.of h1 h3 h5 (.cons () (.cons () (.cons () (.nil ⟨EnvAll.of h2 ⟨rfl, rfl, trivial⟩, h4⟩))))
    · rintro Fr _
      refine SO.v rfl (opv_move rfl) ?_
      exact SO.nilZ fun a w h1 h2 h3 h4 h5 => PZ.of h1 h3 h5 (.cons () (.cons () (.nil ⟨EnvAll.of h2 ⟨rfl, rfl, trivial⟩, h4⟩)))
    · rintro Fr _ _
      refine SO.loadN rfl Try.isAgg45 Try.sizeOf45 rfl rfl rfl ?_
      exact SO.nilZ fun a w h1 h2 h3 h4 h5 => PZ.of h1 h3 h5 (.cons () (.cons () (.cons () (.nil ⟨EnvAll.of h2 ⟨rfl, rfl, trivial⟩, h4⟩))))
    · rintro Fr _ _ _
      refine SO.v rfl (opv_idx Try.underlying60 Try.sizeOf65 hR10 rfl rfl hr14) ?_
      exact SO.nilZ fun a w h1 h2 h3 h4 h5 => PZ.of h1 h3 h5 (.cons () (.cons () (.cons () (.cons () (.nil ⟨EnvAll.of h2 ⟨rfl, rfl, rfl, trivial⟩, h4⟩)))))
    · rintro Fr _ _
      refine SO.v rfl (opv_fieldIdx Try.underlying65 rfl Try.sizeOf45 hR10 hr14 rfl rfl) ?_
      exact SO.nilZ fun a w h1 h2 h3 h4 h5 => PZ.of h1 h3 h5 (.cons () (.cons () (.cons () (.nil ⟨EnvAll.of h2 ⟨rfl, rfl, trivial⟩, h4⟩))))
    · rintro Fr _ _ _
      refine SO.storeOP (j := 0) (us := [.int .i64 a3.Kind, .int .i64 a3.Rights, .int .i64 a3.Obj, .int .i64 a3.Badge, .int .i64 a3.Guard, .int .i64 a3.Bits]) (z' := ({ x11 with Cap := a3 } : ref10_Slot)) Try.sizeOf45 hrel9 hx12 rfl rfl rfl rfl rfl rfl rfl (fun raws16 hrel17 hR18 => ?_)
      refine SO.closeR ?_
      exact SO.nilZ fun a w h1 h2 h3 h4 h5 => PZ.of h1 h3 h5 (.cons () (.cons () (.cons () (.nil ⟨EnvAll.of h2 ⟨rfl, rfl, trivial⟩, h4⟩))))
    rintro _ _ _ _ _ _
    refine S.to (ρ' := [(8, .int .i64 0), (9, .int .i64 t2)]) ⟨rfl, rfl, trivial⟩ ?_
    refine S.seq ?_
    refine S.region ?_
    refine SO.v rfl (opv_move rfl) ?_
    refine SO.v rfl (opv_assign rfl) ?_
    refine SO.nil ?_
    cases h
    refine S.b3 ?_
    refine S.drop ?_
    refine S.b3 ?_
    refine S.b3 ?_
    refine S.b2 ?_
    refine S.b3 ?_
    exact S.ret1 Try.func30 rfl rfl (fun w hs hk => hR w _ _ ⟨u5_Slots, u5_Objs, rfl, rfl⟩ hs hk)
  · replace h := cond_f b6 h
    refine S.condF rfl b6 ?_
    refine S.skip ?_
    refine S.seq ?_
    refine S.region ?_
    refine SO.v rfl (opv_move rfl) ?_
    refine SO.v rfl (opv_assign rfl) ?_
    refine SO.nil ?_
    cases h
    refine S.b3 ?_
    refine S.drop ?_
    refine S.b3 ?_
    refine S.b3 ?_
    refine S.b3 ?_
    refine S.b3 ?_
    exact S.ret1 Try.func30 rfl rfl (fun w hs hk => hR w _ _ ⟨u5_Slots, u5_Objs, rfl, rfl⟩ hs hk)
end Go.Proofs
namespace Go.Proofs
open Go.Sl Go.RowKit
/-! 27 (*padstone/padstoneref10.State).ends -/
def ref10_State_ends.f (a0 : ref10_State) (a1 : Int) (a2 : Int) : Option ((api_Cap × Int)) :=
  (ref10_slot.f a1).bind fun t6 => (ref10_slot.f a2).bind fun t8 => bif (!t6) || (!t8) then (some ((⟨0, 0, 0, 0, 0, 0⟩ : api_Cap), 2)) else ((at_ a0.Slots a1).bind fun x12 => bif x12.Cap.Kind == 0 then (some ((⟨0, 0, 0, 0, 0, 0⟩ : api_Cap), 2)) else ((at_ a0.Slots a2).bind fun x18 => bif x18.Cap.Kind != 0 then (some ((⟨0, 0, 0, 0, 0, 0⟩ : api_Cap), 8)) else ((at_ a0.Slots a1).bind fun x24 => some (x24.Cap, 0))))
set_option maxHeartbeats 8000000 in
set_option maxRecDepth 100000 in
theorem ref10_State_ends.ct (bp0 : Nat) (v0_Slots : Value) (v0_Objs : Value) (raws_v0_Slots : List (Raw (kr_ref10_Slot).sz)) (A_v0_Slots : HProp) (raws_v0_Objs : List (Raw (kr_ref10_Obj).sz)) (A_v0_Objs : HProp) (a0 : ref10_State) (a1 : Int) (a2 : Int) (r0 : api_Cap) (r1 : Int) (h : ref10_State_ends.f a0 a1 a2 = some (r0, r1)) :
    Ct Try.prog 27 [bp bp0 0, .int .i64 a1, .int .i64 a2] (fun _ => True) [Box bp0 [v0_Slots, v0_Objs, .int .i64 a0.NS, .int .i64 a0.NO], OwnO 65 kr_ref10_Slot v0_Slots raws_v0_Slots A_v0_Slots a0.Slots, OwnO 58 kr_ref10_Obj v0_Objs raws_v0_Objs A_v0_Objs a0.Objs] (fun u H' => u = .tuple #[.agg #[.int .i64 r0.Kind, .int .i64 r0.Rights, .int .i64 r0.Obj, .int .i64 r0.Badge, .int .i64 r0.Guard, .int .i64 r0.Bits], .int .i64 r1] ∧ H' = [Box bp0 [v0_Slots, v0_Objs, .int .i64 a0.NS, .int .i64 a0.NO], OwnO 65 kr_ref10_Slot v0_Slots raws_v0_Slots A_v0_Slots a0.Slots, OwnO 58 kr_ref10_Obj v0_Objs raws_v0_Objs A_v0_Objs a0.Objs]) := by
  unfold ref10_State_ends.f at h
  refine Ct.intro (n := 51) Try.func27 rfl rfl rfl ?_
  intro R w0 F hF hR
  refine S.b1 ?_
  refine S.rdO fun hrel1 hR2 => ?_
  refine S.b2 ?_
  refine S.rdO fun hrel3 hR4 => ?_
  refine S.seq ?_
  refine S.region ?_
  refine SO.alloc rfl Try.zeroValue45 rfl (fun b5 => ?_)
  refine SO.v rfl (opv_assign rfl) ?_
  refine SO.nil ?_
  refine S.seq ?_
  refine S.region ?_
  refine SO.v rfl (opv_move rfl) ?_
  obtain ⟨t6, ht7, h⟩ := opt_bind h
  refine SO.call (pre := []) rfl Try.call33 rfl rfl rfl (ref10_slot.ct _ _ ht7) trivial ?_
  rintro _ _ ⟨rfl, rfl⟩
  refine SO.v rfl (opv_assign rfl) ?_
  refine SO.nil ?_
  refine S.seq ?_
  refine S.region ?_
  refine SO.v rfl (opv_move rfl) ?_
  obtain ⟨t8, ht9, h⟩ := opt_bind h
  refine SO.call (pre := []) rfl Try.call33 rfl rfl rfl (ref10_slot.ct _ _ ht9) trivial ?_
  rintro _ _ ⟨rfl, rfl⟩
  refine SO.v rfl (opv_assign rfl) ?_
  refine SO.nil ?_
  refine S.seq ?_
  refine S.seq ?_
  refine S.region ?_
  refine SO.v rfl (opv_move rfl) ?_
  refine SO.v rfl (opv_not rfl) ?_
  refine SO.v rfl (opv_move rfl) ?_
  refine SO.cut 3 19 (.bool ((!t6) || (!t8))) [Box b5 [.int .i64 0, .int .i64 0, .int .i64 0, .int .i64 0, .int .i64 0, .int .i64 0], OwnO 58 kr_ref10_Obj v0_Objs raws_v0_Objs A_v0_Objs a0.Objs, OwnO 65 kr_ref10_Slot v0_Slots raws_v0_Slots A_v0_Slots a0.Slots, Box bp0 [v0_Slots, v0_Objs, .int .i64 a0.NS, .int .i64 a0.NO], F] (fun l2 hk2 => ?_) ?_
  · rcases bool_or (!t6) with b10 | b10
    · refine SO.passF rfl rfl rfl b10 rfl rfl ?_
      refine SO.passF rfl rfl rfl b10 rfl rfl ?_
      refine SO.v rfl (opv_pick_t' b10 rfl rfl) ?_
      refine SO.b4 ?_
      refine SO.b4 ?_
      refine SO.b4 ?_
      refine SO.b4 ?_
      refine SO.b4 ?_
      exact hk2.fitc (m := 3) rfl (or_t b10) rfl
    · refine SO.takeT rfl rfl rfl b10 ?_
      refine SO.v rfl (opv_move rfl) ?_
      refine SO.takeT rfl rfl rfl b10 ?_
      refine SO.v rfl (opv_not rfl) ?_
      refine SO.v rfl (opv_pick_f' b10 rfl rfl) ?_
      refine SO.b4 ?_
      refine SO.b4 ?_
      refine SO.b4 ?_
      refine SO.b4 ?_
      refine SO.b4 ?_
      exact hk2.fitc (m := 3) rfl (or_f b10) rfl
  refine SO.nil ?_
  refine S.to (ρ' := [(0, bp bp0 0), (1, .int .i64 a1), (2, .int .i64 a2), (6, bp b5 0), (7, .int .i64 0), (19, .bool ((!t6) || (!t8)))]) ⟨rfl, rfl, rfl, rfl, rfl, rfl, trivial⟩ ?_
  rcases bool_or ((!t6) || (!t8)) with b11 | b11
  · replace h := cond_t b11 h
    refine S.condT rfl b11 ?_
    refine S.seq ?_
    refine S.region ?_
    refine SO.v rfl (opv_build (v := .agg #[.int .i64 0, .int .i64 0, .int .i64 0, .int .i64 0, .int .i64 0, .int .i64 0]) rfl (by intro w; kernel_rfl)) ?_
    refine SO.storeN Try.sizeOf45 rfl rfl rfl rfl rfl rfl ?_
    refine SO.v rfl (opv_assign rfl) ?_
    refine SO.nil ?_
    cases h
    refine S.b4 ?_
    refine S.b2 ?_
    refine S.b3 ?_
    refine S.b4 ?_
    refine S.b4 ?_
    exact S.retC1 Try.func27 rfl rfl rfl Try.isAgg45 Try.sizeOf45 rfl rfl (fun w hs hk => hR w _ _ ⟨rfl, rfl⟩ hs.drop hk)
  · replace h := cond_f b11 h
    refine S.condF rfl b11 ?_
    refine S.skip ?_
    refine S.seq ?_
    refine S.seq ?_
    refine S.region ?_
    refine SO.v rfl (opv_move rfl) ?_
    refine SO.v rfl (opv_nilCheck rfl) ?_
    refine SO.v rfl (opv_fieldAddr Try.underlying63 rfl Try.sizeOf60 rfl rfl) ?_
    refine SO.b3 ?_
    refine SO.load1 rfl Try.isAgg60 rfl rfl ?_
    refine SO.v rfl (opv_move rfl) ?_
    obtain ⟨x12, hx13, h⟩ := opt_bind h
    obtain ⟨r14, hr15, hc16⟩ := relR.at hrel1 hx13
    refine SO.v rfl (opv_idx Try.underlying60 Try.sizeOf65 hR2 rfl rfl hr15) ?_
    refine SO.v rfl (opv_fieldIdx Try.underlying65 rfl Try.sizeOf45 hR2 hr15 rfl rfl) ?_
    refine SO.v rfl (opv_fieldIdx Try.underlying45 rfl Try.sizeOf3 hR2 hr15 rfl rfl) ?_
    refine SO.loadI1 (j := 0) rfl Try.isAgg3 (Rd.tail (Rd.tail (Rd.tail (Rd.head hR2)))) hr15 rfl rfl rfl (hc16.val rfl) ?_
    refine SO.v rfl (opv_eql rfl rfl) ?_
    refine SO.nil ?_
    refine S.to (ρ' := [(0, bp bp0 0), (1, .int .i64 a1), (2, .int .i64 a2), (6, bp b5 0), (7, .int .i64 0), (30, .bool (x12.Cap.Kind == 0))]) ⟨rfl, rfl, rfl, rfl, rfl, rfl, trivial⟩ ?_
    rcases bool_or (x12.Cap.Kind == 0) with b17 | b17
    · replace h := cond_t b17 h
      refine S.condT rfl b17 ?_
      refine S.seq ?_
      refine S.region ?_
      refine SO.v rfl (opv_build (v := .agg #[.int .i64 0, .int .i64 0, .int .i64 0, .int .i64 0, .int .i64 0, .int .i64 0]) rfl (by intro w; kernel_rfl)) ?_
      refine SO.b1 ?_
      refine SO.storeN Try.sizeOf45 rfl rfl rfl rfl rfl rfl ?_
      refine SO.v rfl (opv_assign rfl) ?_
      refine SO.nil ?_
      cases h
      refine S.b4 ?_
      refine S.b3 ?_
      refine S.b4 ?_
      refine S.b4 ?_
      refine S.b4 ?_
      exact S.retC1 Try.func27 rfl rfl rfl Try.isAgg45 Try.sizeOf45 rfl rfl (fun w hs hk => hR w _ _ ⟨rfl, rfl⟩ hs.drop hk)
    · replace h := cond_f b17 h
      refine S.condF rfl b17 ?_
      refine S.skip ?_
      refine S.seq ?_
      refine S.seq ?_
      refine S.region ?_
      refine SO.v rfl (opv_move rfl) ?_
      refine SO.v rfl (opv_nilCheck rfl) ?_
      refine SO.v rfl (opv_fieldAddr Try.underlying63 rfl Try.sizeOf60 rfl rfl) ?_
      refine SO.load1 rfl Try.isAgg60 rfl rfl ?_
      refine SO.v rfl (opv_move rfl) ?_
      obtain ⟨x18, hx19, h⟩ := opt_bind h
      obtain ⟨r20, hr21, hc22⟩ := relR.at hrel1 hx19
      refine SO.v rfl (opv_idx Try.underlying60 Try.sizeOf65 hR2 rfl rfl hr21) ?_
      refine SO.v rfl (opv_fieldIdx Try.underlying65 rfl Try.sizeOf45 hR2 hr21 rfl rfl) ?_
      refine SO.v rfl (opv_fieldIdx Try.underlying45 rfl Try.sizeOf3 hR2 hr21 rfl rfl) ?_
      refine SO.loadI1 (j := 0) rfl Try.isAgg3 (Rd.tail (Rd.tail (Rd.tail (Rd.head hR2)))) hr21 rfl rfl rfl (hc22.val rfl) ?_
      refine SO.v rfl (opv_neq rfl rfl) ?_
      refine SO.nil ?_
      refine S.to (ρ' := [(0, bp bp0 0), (1, .int .i64 a1), (6, bp b5 0), (7, .int .i64 0), (41, .bool (x18.Cap.Kind != 0))]) ⟨rfl, rfl, rfl, rfl, rfl, trivial⟩ ?_
      rcases bool_or (x18.Cap.Kind != 0) with b23 | b23
      · replace h := cond_t b23 h
        refine S.condT rfl b23 ?_
        refine S.seq ?_
        refine S.region ?_
        refine SO.v rfl (opv_build (v := .agg #[.int .i64 0, .int .i64 0, .int .i64 0, .int .i64 0, .int .i64 0, .int .i64 0]) rfl (by intro w; kernel_rfl)) ?_
        refine SO.b1 ?_
        refine SO.storeN Try.sizeOf45 rfl rfl rfl rfl rfl rfl ?_
        refine SO.v rfl (opv_assign rfl) ?_
        refine SO.nil ?_
        cases h
        refine S.b4 ?_
        refine S.b3 ?_
        refine S.b4 ?_
        refine S.b4 ?_
        refine S.b4 ?_
        exact S.retC1 Try.func27 rfl rfl rfl Try.isAgg45 Try.sizeOf45 rfl rfl (fun w hs hk => hR w _ _ ⟨rfl, rfl⟩ hs.drop hk)
      · replace h := cond_f b23 h
        refine S.condF rfl b23 ?_
        refine S.skip ?_
        refine S.seq ?_
        refine S.region ?_
        refine SO.v rfl (opv_move rfl) ?_
        refine SO.v rfl (opv_nilCheck rfl) ?_
        refine SO.v rfl (opv_fieldAddr Try.underlying63 rfl Try.sizeOf60 rfl rfl) ?_
        refine SO.load1 rfl Try.isAgg60 rfl rfl ?_
        refine SO.v rfl (opv_move rfl) ?_
        obtain ⟨x24, hx25, h⟩ := opt_bind h
        obtain ⟨r26, hr27, hc28⟩ := relR.at hrel1 hx25
        refine SO.v rfl (opv_idx Try.underlying60 Try.sizeOf65 hR2 rfl rfl hr27) ?_
        refine SO.v rfl (opv_fieldIdx Try.underlying65 rfl Try.sizeOf45 hR2 hr27 rfl rfl) ?_
        refine SO.loadIP (j := 0) rfl Try.isAgg45 Try.sizeOf45 (Rd.tail (Rd.tail (Rd.tail (Rd.head hR2)))) hr27 rfl rfl rfl (hc28.part (vs := [.int .i64 x24.Cap.Kind, .int .i64 x24.Cap.Rights, .int .i64 x24.Cap.Obj, .int .i64 x24.Cap.Badge, .int .i64 x24.Cap.Guard, .int .i64 x24.Cap.Bits]) rfl) ?_
        refine SO.b1 ?_
        refine SO.storeN Try.sizeOf45 rfl rfl rfl rfl rfl rfl ?_
        refine SO.v rfl (opv_assign rfl) ?_
        refine SO.nil ?_
        refine S.to (ρ' := [(6, bp b5 0), (7, .int .i64 0)]) ⟨rfl, rfl, trivial⟩ ?_
        cases h
        refine S.b4 ?_
        refine S.b3 ?_
        refine S.b4 ?_
        refine S.b4 ?_
        refine S.b4 ?_
        exact S.retC1 Try.func27 rfl rfl rfl Try.isAgg45 Try.sizeOf45 rfl rfl (fun w hs hk => hR w _ _ ⟨rfl, rfl⟩ hs.drop hk)
end Go.Proofs
namespace Go.Proofs
open Go.Sl Go.RowKit
/-! 10 (*padstone/padstoneref10.State).Derive -/
def ref10_State_Derive.f (k : Nat) (a0 : ref10_State) (a1 : Int) (a2 : Int) (a3 : Int) (a4 : Int) (a5 : Bool) : Option ((Int × ref10_State)) :=
  (ref10_State_ends.f a0 a1 a2).bind fun (t9, t10) => bif t10 != 0 then (some (t10, a0)) else (bif a5 then ((ref01_Mint.f k t9 a3 a4).bind fun (t15, t16) => bif t16 != 0 then (some (t16, a0)) else ((ref10_State_below.f a0 a1 a2 t15).bind fun (t19, p20) => some (t19, p20))) else ((ref01_Derive.f k t9 a3).bind fun (t23, t24) => bif t24 != 0 then (some (t24, a0)) else ((ref10_State_below.f a0 a1 a2 t23).bind fun (t27, p28) => some (t27, p28))))
set_option maxHeartbeats 8000000 in
set_option maxRecDepth 100000 in
theorem ref10_State_Derive.ct (k : Nat) (bp0 : Nat) (v0_Slots : Value) (v0_Objs : Value) (a0 : ref10_State) (a1 : Int) (a2 : Int) (a3 : Int) (a4 : Int) (a5 : Bool) (r0 : Int) (rp0 : ref10_State) (h : ref10_State_Derive.f k a0 a1 a2 a3 a4 a5 = some (r0, rp0)) :
    Ct Try.prog 10 [bp bp0 0, .int .i64 a1, .int .i64 a2, .int .i64 a3, .int .i64 a4, .bool a5] (fun _ => True) [Box bp0 [v0_Slots, v0_Objs, .int .i64 a0.NS, .int .i64 a0.NO], OwnR 65 kr_ref10_Slot v0_Slots a0.Slots, OwnR 58 kr_ref10_Obj v0_Objs a0.Objs] (fun u H' => ∃ rw0_Slots rw0_Objs, u = .int .i64 r0 ∧ H' = [Box bp0 [rw0_Slots, rw0_Objs, .int .i64 rp0.NS, .int .i64 rp0.NO], OwnR 65 kr_ref10_Slot rw0_Slots rp0.Slots, OwnR 58 kr_ref10_Obj rw0_Objs rp0.Objs]) := by
  unfold ref10_State_Derive.f at h
  refine Ct.intro (n := 47) Try.func10 rfl rfl rfl ?_
  intro R w0 F hF hR
  refine S.seq ?_
  refine S.region ?_
  refine SO.v rfl (opv_assign rfl) ?_
  refine SO.nil ?_
  refine S.seq ?_
  refine S.region ?_
  refine SO.v rfl (opv_move rfl) ?_
  refine SO.v rfl (opv_move rfl) ?_
  refine SO.v rfl (opv_move rfl) ?_
  obtain ⟨⟨t9, t10⟩, ht11, h⟩ := opt_bind h
  refine SO.b1 ?_
  refine SO.openR fun raws1 A2 hrel3 hR4 => ?_
  refine SO.b2 ?_
  refine SO.openR fun raws5 A6 hrel7 hR8 => ?_
  refine SO.b1 ?_
  refine SO.b2 ?_
  refine SO.call (pre := [Box _ _, OwnO _ _ _ _ _ _, OwnO _ _ _ _ _ _]) rfl Try.call27 rfl rfl rfl (ref10_State_ends.ct bp0 v0_Slots v0_Objs raws1 A2 raws5 A6 _ _ _ _ _ ht11) trivial ?_
  rintro _ _ ⟨rfl, rfl⟩
  refine SO.v rfl (opv_move rfl) ?_
  refine SO.v rfl (opv_extract rfl rfl) ?_
  refine SO.v rfl (opv_extract rfl rfl) ?_
  refine SO.alloc rfl Try.zeroValue45 rfl (fun b12 => ?_)
  refine SO.storeN Try.sizeOf45 rfl rfl rfl rfl rfl rfl ?_
  refine SO.v rfl (opv_assign rfl) ?_
  refine SO.nil ?_
  refine S.to (ρ' := [(0, bp bp0 0), (1, .int .i64 a1), (2, .int .i64 a2), (3, .int .i64 a3), (4, .int .i64 a4), (5, .bool a5), (12, .int .i64 0), (13, bp b12 0), (14, .int .i64 t10)]) ⟨rfl, rfl, rfl, rfl, rfl, rfl, rfl, rfl, rfl, trivial⟩ ?_
  refine S.seq ?_
  refine S.seq ?_
  refine S.region ?_
  refine SO.v rfl (opv_move rfl) ?_
  refine SO.v rfl (opv_neq rfl rfl) ?_
  refine SO.nil ?_
  rcases bool_or (t10 != 0) with b13 | b13
  · replace h := cond_t b13 h
    refine S.condT rfl b13 ?_
    refine S.seq ?_
    refine S.region ?_
    refine SO.v rfl (opv_move rfl) ?_
    refine SO.v rfl (opv_assign rfl) ?_
    refine SO.nil ?_
    refine S.to (ρ' := [(12, .int .i64 t10)]) ⟨rfl, trivial⟩ ?_
    cases h
    refine S.b2 ?_
    refine S.closeR ?_
    refine S.b3 ?_
    refine S.closeR ?_
    refine S.b2 ?_
    refine S.drop ?_
    refine S.b3 ?_
    refine S.b1 ?_
    refine S.b2 ?_
    refine S.b3 ?_
    exact S.ret1 Try.func10 rfl rfl (fun w hs hk => hR w _ _ ⟨v0_Slots, v0_Objs, rfl, rfl⟩ hs hk)
  · replace h := cond_f b13 h
    refine S.condF rfl b13 ?_
    refine S.skip ?_
    refine S.seq ?_
    refine S.seq ?_
    refine S.region ?_
    refine SO.v rfl (opv_move rfl) ?_
    refine SO.nil ?_
    rcases bool_or a5 with b14 | b14
    · replace h := cond_t b14 h
      refine S.condT rfl b14 ?_
      refine S.region ?_
      refine SO.loadN rfl Try.isAgg45 Try.sizeOf45 rfl rfl rfl ?_
      refine SO.v rfl (opv_move rfl) ?_
      refine SO.v rfl (opv_move rfl) ?_
      obtain ⟨⟨t15, t16⟩, ht17, h⟩ := opt_bind h
      refine SO.call (pre := []) rfl Try.call28 rfl rfl rfl (ref01_Mint.ct _ _ _ _ _ _ ht17) trivial ?_
      rintro _ _ ⟨rfl, rfl⟩
      refine SO.v rfl (opv_move rfl) ?_
      refine SO.v rfl (opv_extract rfl rfl) ?_
      refine SO.v rfl (opv_extract rfl rfl) ?_
      refine SO.storeN Try.sizeOf45 rfl rfl rfl rfl rfl rfl ?_
      refine SO.v rfl (opv_assign rfl) ?_
      refine SO.nil ?_
      refine S.to (ρ' := [(0, bp bp0 0), (1, .int .i64 a1), (2, .int .i64 a2), (12, .int .i64 0), (13, bp b12 0), (14, .int .i64 t16)]) ⟨rfl, rfl, rfl, rfl, rfl, rfl, trivial⟩ ?_
      refine S.seq ?_
      refine S.seq ?_
      refine S.region ?_
      refine SO.v rfl (opv_move rfl) ?_
      refine SO.v rfl (opv_neq rfl rfl) ?_
      refine SO.nil ?_
      rcases bool_or (t16 != 0) with b18 | b18
      · replace h := cond_t b18 h
        refine S.condT rfl b18 ?_
        refine S.seq ?_
        refine S.region ?_
        refine SO.v rfl (opv_move rfl) ?_
        refine SO.v rfl (opv_assign rfl) ?_
        refine SO.nil ?_
        refine S.to (ρ' := [(12, .int .i64 t16)]) ⟨rfl, trivial⟩ ?_
        cases h
        refine S.b2 ?_
        refine S.closeR ?_
        refine S.b3 ?_
        refine S.closeR ?_
        refine S.b2 ?_
        refine S.drop ?_
        refine S.b3 ?_
        refine S.b1 ?_
        refine S.b2 ?_
        refine S.b3 ?_
        exact S.ret1 Try.func10 rfl rfl (fun w hs hk => hR w _ _ ⟨v0_Slots, v0_Objs, rfl, rfl⟩ hs hk)
      · replace h := cond_f b18 h
        refine S.condF rfl b18 ?_
        refine S.skip ?_
        refine S.seq ?_
        refine S.region ?_
        refine SO.v rfl (opv_move rfl) ?_
        refine SO.v rfl (opv_move rfl) ?_
        refine SO.v rfl (opv_move rfl) ?_
        refine SO.loadN rfl Try.isAgg45 Try.sizeOf45 rfl rfl rfl ?_
        obtain ⟨⟨t19, p20⟩, ht21, h⟩ := opt_bind h
        refine SO.b2 ?_
        refine SO.closeR ?_
        refine SO.b3 ?_
        refine SO.closeR ?_
        refine SO.b1 ?_
        refine SO.b3 ?_
        refine SO.call (pre := [Box _ _, OwnR _ _ _ _, OwnR _ _ _ _]) rfl Try.call30 rfl rfl rfl (ref10_State_below.ct bp0 v0_Slots v0_Objs _ _ _ _ _ _ ht21) trivial ?_
        rintro _ _ ⟨u22_Slots, u22_Objs, rfl, rfl⟩
        refine SO.v rfl (opv_assign rfl) ?_
        refine SO.nil ?_
        refine S.to (ρ' := [(12, .int .i64 t19)]) ⟨rfl, trivial⟩ ?_
        cases h
        refine S.b3 ?_
        refine S.drop ?_
        refine S.b3 ?_
        refine S.b3 ?_
        refine S.b3 ?_
        refine S.b3 ?_
        exact S.ret1 Try.func10 rfl rfl (fun w hs hk => hR w _ _ ⟨u22_Slots, u22_Objs, rfl, rfl⟩ hs hk)
    · replace h := cond_f b14 h
      refine S.condF rfl b14 ?_
      refine S.region ?_
      refine SO.loadN rfl Try.isAgg45 Try.sizeOf45 rfl rfl rfl ?_
      refine SO.v rfl (opv_move rfl) ?_
      obtain ⟨⟨t23, t24⟩, ht25, h⟩ := opt_bind h
      refine SO.call (pre := []) rfl Try.call29 rfl rfl rfl (ref01_Derive.ct _ _ _ _ _ ht25) trivial ?_
      rintro _ _ ⟨rfl, rfl⟩
      refine SO.v rfl (opv_move rfl) ?_
      refine SO.v rfl (opv_extract rfl rfl) ?_
      refine SO.v rfl (opv_extract rfl rfl) ?_
      refine SO.storeN Try.sizeOf45 rfl rfl rfl rfl rfl rfl ?_
      refine SO.v rfl (opv_assign rfl) ?_
      refine SO.nil ?_
      refine S.to (ρ' := [(0, bp bp0 0), (1, .int .i64 a1), (2, .int .i64 a2), (12, .int .i64 0), (13, bp b12 0), (14, .int .i64 t24)]) ⟨rfl, rfl, rfl, rfl, rfl, rfl, trivial⟩ ?_
      refine S.seq ?_
      refine S.seq ?_
      refine S.region ?_
      refine SO.v rfl (opv_move rfl) ?_
      refine SO.v rfl (opv_neq rfl rfl) ?_
      refine SO.nil ?_
      rcases bool_or (t24 != 0) with b26 | b26
      · replace h := cond_t b26 h
        refine S.condT rfl b26 ?_
        refine S.seq ?_
        refine S.region ?_
        refine SO.v rfl (opv_move rfl) ?_
        refine SO.v rfl (opv_assign rfl) ?_
        refine SO.nil ?_
        refine S.to (ρ' := [(12, .int .i64 t24)]) ⟨rfl, trivial⟩ ?_
        cases h
        refine S.b2 ?_
        refine S.closeR ?_
        refine S.b3 ?_
        refine S.closeR ?_
        refine S.b2 ?_
        refine S.drop ?_
        refine S.b3 ?_
        refine S.b1 ?_
        refine S.b2 ?_
        refine S.b3 ?_
        exact S.ret1 Try.func10 rfl rfl (fun w hs hk => hR w _ _ ⟨v0_Slots, v0_Objs, rfl, rfl⟩ hs hk)
      · replace h := cond_f b26 h
        refine S.condF rfl b26 ?_
        refine S.skip ?_
        refine S.seq ?_
        refine S.region ?_
        refine SO.v rfl (opv_move rfl) ?_
        refine SO.v rfl (opv_move rfl) ?_
        refine SO.v rfl (opv_move rfl) ?_
        refine SO.loadN rfl Try.isAgg45 Try.sizeOf45 rfl rfl rfl ?_
        obtain ⟨⟨t27, p28⟩, ht29, h⟩ := opt_bind h
        refine SO.b2 ?_
        refine SO.closeR ?_
        refine SO.b3 ?_
        refine SO.closeR ?_
        refine SO.b1 ?_
        refine SO.b3 ?_
        refine SO.call (pre := [Box _ _, OwnR _ _ _ _, OwnR _ _ _ _]) rfl Try.call30 rfl rfl rfl (ref10_State_below.ct bp0 v0_Slots v0_Objs _ _ _ _ _ _ ht29) trivial ?_
        rintro _ _ ⟨u30_Slots, u30_Objs, rfl, rfl⟩
        refine SO.v rfl (opv_assign rfl) ?_
        refine SO.nil ?_
        refine S.to (ρ' := [(12, .int .i64 t27)]) ⟨rfl, trivial⟩ ?_
        cases h
        refine S.b3 ?_
        refine S.drop ?_
        refine S.b3 ?_
        refine S.b3 ?_
        refine S.b3 ?_
        refine S.b3 ?_
        exact S.ret1 Try.func10 rfl rfl (fun w hs hk => hR w _ _ ⟨u30_Slots, u30_Objs, rfl, rfl⟩ hs hk)
end Go.Proofs
namespace Go.Proofs
open Go.Sl Go.RowKit
/-! 31 padstone/padstoneref01.Mutate -/
def ref01_Mutate.f (k : Nat) (a0 : api_Cap) (a1 : Int) (a2 : Int) : Option ((api_Cap × Int)) :=
  (ref01_May.f k a0).bind fun t3 => bif (!t3) || (a0.Kind == 0) then (some ((⟨0, 0, 0, 0, 0, 0⟩ : api_Cap), 1)) else (bif a0.Kind != 2 then (some ((⟨0, 0, 0, 0, 0, 0⟩ : api_Cap), 5)) else ((ref01_May.f k ({ a0 with Guard := a1, Bits := a2 } : api_Cap)).bind fun t8 => bif !t8 then (some ((⟨0, 0, 0, 0, 0, 0⟩ : api_Cap), 1)) else (some (({ a0 with Guard := a1, Bits := a2 } : api_Cap), 0))))
set_option maxHeartbeats 8000000 in
set_option maxRecDepth 100000 in
theorem ref01_Mutate.ct (k : Nat) (a0 : api_Cap) (a1 : Int) (a2 : Int) (r0 : api_Cap) (r1 : Int) (h : ref01_Mutate.f k a0 a1 a2 = some (r0, r1)) :
    Ct Try.prog 31 [.agg #[.int .i64 a0.Kind, .int .i64 a0.Rights, .int .i64 a0.Obj, .int .i64 a0.Badge, .int .i64 a0.Guard, .int .i64 a0.Bits], .int .i64 a1, .int .i64 a2] (fun _ => True) [] (fun u H' => u = .tuple #[.agg #[.int .i64 r0.Kind, .int .i64 r0.Rights, .int .i64 r0.Obj, .int .i64 r0.Badge, .int .i64 r0.Guard, .int .i64 r0.Bits], .int .i64 r1] ∧ H' = []) := by
  unfold ref01_Mutate.f at h
  refine Ct.intro (n := 34) Try.func31 rfl rfl rfl ?_
  intro R w0 F hF hR
  refine S.seq ?_
  refine S.region ?_
  refine SO.box rfl rfl rfl (fun b1 => ?_)
  refine SO.alloc rfl Try.zeroValue45 rfl (fun b2 => ?_)
  refine SO.v rfl (opv_assign rfl) ?_
  refine SO.nil ?_
  refine S.seq ?_
  refine S.region ?_
  refine SO.b1 ?_
  refine SO.loadN rfl Try.isAgg45 Try.sizeOf45 rfl rfl rfl ?_
  obtain ⟨t3, ht4, h⟩ := opt_bind h
  refine SO.call (pre := []) rfl Try.call49 rfl rfl rfl (ref01_May.ct _ _ _ ht4) trivial ?_
  rintro _ _ ⟨rfl, rfl⟩
  refine SO.v rfl (opv_assign rfl) ?_
  refine SO.nil ?_
  refine S.seq ?_
  refine S.seq ?_
  refine S.region ?_
  refine SO.v rfl (opv_move rfl) ?_
  refine SO.v rfl (opv_not rfl) ?_
  refine SO.v rfl (opv_move rfl) ?_
  refine SO.cut 4 18 (.bool ((!t3) || (a0.Kind == 0))) [Box b1 [.int .i64 a0.Kind, .int .i64 a0.Rights, .int .i64 a0.Obj, .int .i64 a0.Badge, .int .i64 a0.Guard, .int .i64 a0.Bits], Box b2 [.int .i64 0, .int .i64 0, .int .i64 0, .int .i64 0, .int .i64 0, .int .i64 0], F] (fun l2 hk2 => ?_) ?_
  · rcases bool_or (!t3) with b5 | b5
    · refine SO.passF rfl rfl rfl b5 rfl rfl ?_
      refine SO.passF rfl rfl rfl b5 rfl rfl ?_
      refine SO.passF rfl rfl rfl b5 rfl rfl ?_
      refine SO.v rfl (opv_pick_t' b5 rfl rfl) ?_
      refine SO.b2 ?_
      refine SO.b2 ?_
      refine SO.b2 ?_
      exact hk2.fitc (m := 4) rfl (or_t b5) rfl
    · refine SO.takeT rfl rfl rfl b5 ?_
      refine SO.v rfl (opv_fieldAddr Try.underlying45 rfl Try.sizeOf3 rfl rfl) ?_
      refine SO.takeT rfl rfl rfl b5 ?_
      refine SO.load1 rfl Try.isAgg3 rfl rfl ?_
      refine SO.takeT rfl rfl rfl b5 ?_
      refine SO.v rfl (opv_eql rfl rfl) ?_
      refine SO.v rfl (opv_pick_f' b5 rfl rfl) ?_
      refine SO.b2 ?_
      refine SO.b2 ?_
      refine SO.b2 ?_
      exact hk2.fitc (m := 4) rfl (or_f b5) rfl
  refine SO.nil ?_
  refine S.to (ρ' := [(1, .int .i64 a1), (2, .int .i64 a2), (3, bp b1 0), (6, bp b2 0), (7, .int .i64 0), (18, .bool ((!t3) || (a0.Kind == 0)))]) ⟨rfl, rfl, rfl, rfl, rfl, rfl, trivial⟩ ?_
  rcases bool_or ((!t3) || (a0.Kind == 0)) with b6 | b6
  · replace h := cond_t b6 h
    refine S.condT rfl b6 ?_
    refine S.seq ?_
    refine S.region ?_
    refine SO.v rfl (opv_build (v := .agg #[.int .i64 0, .int .i64 0, .int .i64 0, .int .i64 0, .int .i64 0, .int .i64 0]) rfl (by intro w; kernel_rfl)) ?_
    refine SO.b1 ?_
    refine SO.storeN Try.sizeOf45 rfl rfl rfl rfl rfl rfl ?_
    refine SO.v rfl (opv_assign rfl) ?_
    refine SO.nil ?_
    cases h
    refine S.b1 ?_
    refine S.drop ?_
    refine S.b1 ?_
    refine S.b1 ?_
    exact S.retC1 Try.func31 rfl rfl rfl Try.isAgg45 Try.sizeOf45 rfl rfl (fun w hs hk => hR w _ _ ⟨rfl, rfl⟩ hs.drop hk)
  · replace h := cond_f b6 h
    refine S.condF rfl b6 ?_
    refine S.skip ?_
    refine S.seq ?_
    refine S.seq ?_
    refine S.region ?_
    refine SO.v rfl (opv_fieldAddr Try.underlying45 rfl Try.sizeOf3 rfl rfl) ?_
    refine SO.load1 rfl Try.isAgg3 rfl rfl ?_
    refine SO.v rfl (opv_neq rfl rfl) ?_
    refine SO.nil ?_
    rcases bool_or (a0.Kind != 2) with b7 | b7
    · replace h := cond_t b7 h
      refine S.condT rfl b7 ?_
      refine S.seq ?_
      refine S.region ?_
      refine SO.v rfl (opv_build (v := .agg #[.int .i64 0, .int .i64 0, .int .i64 0, .int .i64 0, .int .i64 0, .int .i64 0]) rfl (by intro w; kernel_rfl)) ?_
      refine SO.b1 ?_
      refine SO.storeN Try.sizeOf45 rfl rfl rfl rfl rfl rfl ?_
      refine SO.v rfl (opv_assign rfl) ?_
      refine SO.nil ?_
      refine S.to (ρ' := [(6, bp b2 0), (7, .int .i64 5)]) ⟨rfl, rfl, trivial⟩ ?_
      cases h
      refine S.b1 ?_
      refine S.drop ?_
      refine S.b1 ?_
      refine S.b1 ?_
      exact S.retC1 Try.func31 rfl rfl rfl Try.isAgg45 Try.sizeOf45 rfl rfl (fun w hs hk => hR w _ _ ⟨rfl, rfl⟩ hs.drop hk)
    · replace h := cond_f b7 h
      refine S.condF rfl b7 ?_
      refine S.skip ?_
      refine S.seq ?_
      refine S.region ?_
      refine SO.v rfl (opv_move rfl) ?_
      refine SO.v rfl (opv_fieldAddr Try.underlying45 rfl Try.sizeOf3 rfl rfl) ?_
      refine SO.store1 Try.sizeOf3 rfl rfl rfl rfl ?_
      refine SO.nil ?_
      refine S.to (ρ' := [(2, .int .i64 a2), (3, bp b1 0), (6, bp b2 0), (7, .int .i64 0)]) ⟨rfl, rfl, rfl, rfl, trivial⟩ ?_
      refine S.seq ?_
      refine S.region ?_
      refine SO.v rfl (opv_move rfl) ?_
      refine SO.v rfl (opv_fieldAddr Try.underlying45 rfl Try.sizeOf3 rfl rfl) ?_
      refine SO.store1 Try.sizeOf3 rfl rfl rfl rfl ?_
      refine SO.nil ?_
      refine S.seq ?_
      refine S.region ?_
      refine SO.loadN rfl Try.isAgg45 Try.sizeOf45 rfl rfl rfl ?_
      obtain ⟨t8, ht9, h⟩ := opt_bind h
      have ct11 := ref01_May.ct _ _ _ ht9
      dsimp only at ct11
      refine SO.call (pre := []) rfl Try.call49 rfl rfl rfl ct11 trivial ?_
      rintro _ _ ⟨rfl, rfl⟩
      refine SO.v rfl (opv_assign rfl) ?_
      refine SO.nil ?_
      refine S.seq ?_
      refine S.seq ?_
      refine S.region ?_
      refine SO.v rfl (opv_move rfl) ?_
      refine SO.v rfl (opv_not rfl) ?_
      refine SO.nil ?_
      refine S.to (ρ' := [(3, bp b1 0), (6, bp b2 0), (7, .int .i64 0), (31, .bool (!t8))]) ⟨rfl, rfl, rfl, rfl, trivial⟩ ?_
      rcases bool_or (!t8) with b10 | b10
      · replace h := cond_t b10 h
        refine S.condT rfl b10 ?_
        refine S.seq ?_
        refine S.region ?_
        refine SO.v rfl (opv_build (v := .agg #[.int .i64 0, .int .i64 0, .int .i64 0, .int .i64 0, .int .i64 0, .int .i64 0]) rfl (by intro w; kernel_rfl)) ?_
        refine SO.b1 ?_
        refine SO.storeN Try.sizeOf45 rfl rfl rfl rfl rfl rfl ?_
        refine SO.v rfl (opv_assign rfl) ?_
        refine SO.nil ?_
        cases h
        refine S.b1 ?_
        refine S.drop ?_
        refine S.b1 ?_
        refine S.b1 ?_
        exact S.retC1 Try.func31 rfl rfl rfl Try.isAgg45 Try.sizeOf45 rfl rfl (fun w hs hk => hR w _ _ ⟨rfl, rfl⟩ hs.drop hk)
      · replace h := cond_f b10 h
        refine S.condF rfl b10 ?_
        refine S.skip ?_
        refine S.seq ?_
        refine S.region ?_
        refine SO.loadN rfl Try.isAgg45 Try.sizeOf45 rfl rfl rfl ?_
        refine SO.b1 ?_
        refine SO.storeN Try.sizeOf45 rfl rfl rfl rfl rfl rfl ?_
        refine SO.v rfl (opv_assign rfl) ?_
        refine SO.nil ?_
        cases h
        refine S.b1 ?_
        refine S.drop ?_
        refine S.b1 ?_
        refine S.b1 ?_
        exact S.retC1 Try.func31 rfl rfl rfl Try.isAgg45 Try.sizeOf45 rfl rfl (fun w hs hk => hR w _ _ ⟨rfl, rfl⟩ hs.drop hk)
end Go.Proofs
namespace Go.Proofs
open Go.Sl Go.RowKit
/-! 32 (*padstone/padstoneref10.State).Replace -/
def ref10_State_Replace.l2 (a1 : Int) (a2 : Int) : Nat → (Int × (List Int)) → Option ((List Int))
  | 0, _ => none
  | k + 1, (x11_2, qv53_2) => bif decide (x11_2 < (qv53_2.length : Int)) then ((at_ qv53_2 x11_2).bind fun x57 => bif x57 == a1 then ((at_ qv53_2 x11_2).bind fun x60 => ref10_State_Replace.l2 a1 a2 k (w64 (x11_2 + 1), qv53_2.set x11_2.toNat a2)) else (ref10_State_Replace.l2 a1 a2 k (w64 (x11_2 + 1), qv53_2))) else (some qv53_2)
def ref10_State_Replace.l3 (a2 : Int) : Nat → (Int × (List ref10_Slot)) → Option ((List ref10_Slot))
  | 0, _ => none
  | k + 1, (x12_3, qv0_Slots_3) => (at_ qv0_Slots_3 a2).bind fun x125 => bif decide (x12_3 < (x125.Kids.length : Int)) then ((at_ qv0_Slots_3 a2).bind fun x138 => (at_ x138.Kids x12_3).bind fun x146 => (at_ qv0_Slots_3 x146).bind fun x148 => ref10_State_Replace.l3 a2 k (w64 (x12_3 + 1), qv0_Slots_3.set x146.toNat ({ x148 with Parent := a2 } : ref10_Slot))) else (some qv0_Slots_3)
def ref10_State_Replace.f (k : Nat) (a0 : ref10_State) (a1 : Int) (a2 : Int) : Option ((Int × ref10_State)) :=
  (ref10_slot.f a1).bind fun t1 => (ref10_slot.f a2).bind fun t3 => bif (!t1) || (!t3) then (some (2, a0)) else ((bif a1 == a2 then (some true) else ((at_ a0.Slots a2).bind fun x14 => some (decide (0 ≤ x14.Parent)))).bind fun c12 => (bif c12 then (some true) else ((at_ a0.Slots a2).bind fun x26 => some (decide (0 < (x26.Kids.length : Int))))).bind fun c24 => bif c24 then (some (10, a0)) else ((at_ a0.Slots a1).bind fun x35 => (bif decide (0 ≤ x35.Parent) then ((at_ a0.Slots x35.Parent).bind fun x43 => (app ([]) x43.Kids).bind fun zs51 => (ref10_State_Replace.l2 a1 a2 k (0, zs51)).bind fun qv53_e2 => (at_ a0.Slots x35.Parent).bind fun x64 => some (a0.Slots.set x35.Parent.toNat ({ x64 with Kids := qv53_e2 } : ref10_Slot))) else (some a0.Slots)).bind fun qv0_Slots_1 => (at_ qv0_Slots_1 a2).bind fun x77 => (at_ (qv0_Slots_1.set a2.toNat ({ x77 with Parent := x35.Parent } : ref10_Slot)) a1).bind fun x89 => (at_ ((qv0_Slots_1.set a2.toNat ({ x77 with Parent := x35.Parent } : ref10_Slot)).set a1.toNat ({ x89 with Parent := -1 } : ref10_Slot)) a1).bind fun x97 => (at_ ((qv0_Slots_1.set a2.toNat ({ x77 with Parent := x35.Parent } : ref10_Slot)).set a1.toNat ({ x89 with Parent := -1 } : ref10_Slot)) a2).bind fun x105 => (at_ (((qv0_Slots_1.set a2.toNat ({ x77 with Parent := x35.Parent } : ref10_Slot)).set a1.toNat ({ x89 with Parent := -1 } : ref10_Slot)).set a2.toNat ({ x105 with Kids := x97.Kids } : ref10_Slot)) a1).bind fun x113 => (ref10_State_Replace.l3 a2 k (0, (((qv0_Slots_1.set a2.toNat ({ x77 with Parent := x35.Parent } : ref10_Slot)).set a1.toNat ({ x89 with Parent := -1 } : ref10_Slot)).set a2.toNat ({ x105 with Kids := x97.Kids } : ref10_Slot)).set a1.toNat ({ x113 with Kids := [] } : ref10_Slot))).bind fun qv0_Slots_e3 => some (0, ({ a0 with Slots := qv0_Slots_e3 } : ref10_State))))
set_option maxHeartbeats 8000000 in
set_option maxRecDepth 100000 in
theorem ref10_State_Replace.ct (k : Nat) (bp0 : Nat) (v0_Slots : Value) (v0_Objs : Value) (a0 : ref10_State) (a1 : Int) (a2 : Int) (r0 : Int) (rp0 : ref10_State) (h : ref10_State_Replace.f k a0 a1 a2 = some (r0, rp0)) :
    Ct Try.prog 32 [bp bp0 0, .int .i64 a1, .int .i64 a2] (fun _ => True) [Box bp0 [v0_Slots, v0_Objs, .int .i64 a0.NS, .int .i64 a0.NO], OwnR 65 kr_ref10_Slot v0_Slots a0.Slots, OwnR 58 kr_ref10_Obj v0_Objs a0.Objs] (fun u H' => ∃ rw0_Slots rw0_Objs, u = .int .i64 r0 ∧ H' = [Box bp0 [rw0_Slots, rw0_Objs, .int .i64 rp0.NS, .int .i64 rp0.NO], OwnR 65 kr_ref10_Slot rw0_Slots rp0.Slots, OwnR 58 kr_ref10_Obj rw0_Objs rp0.Objs]) := by
  unfold ref10_State_Replace.f at h
  refine Ct.intro (n := 161) Try.func32 rfl rfl rfl ?_
  intro R w0 F hF hR
  refine S.seq ?_
  refine S.region ?_
  refine SO.v rfl (opv_assign rfl) ?_
  refine SO.nil ?_
  refine S.seq ?_
  refine S.region ?_
  refine SO.v rfl (opv_move rfl) ?_
  obtain ⟨t1, ht2, h⟩ := opt_bind h
  refine SO.call (pre := []) rfl Try.call33 rfl rfl rfl (ref10_slot.ct _ _ ht2) trivial ?_
  rintro _ _ ⟨rfl, rfl⟩
  refine SO.v rfl (opv_assign rfl) ?_
  refine SO.nil ?_
  refine S.seq ?_
  refine S.region ?_
  refine SO.v rfl (opv_move rfl) ?_
  obtain ⟨t3, ht4, h⟩ := opt_bind h
  refine SO.call (pre := []) rfl Try.call33 rfl rfl rfl (ref10_slot.ct _ _ ht4) trivial ?_
  rintro _ _ ⟨rfl, rfl⟩
  refine SO.v rfl (opv_assign rfl) ?_
  refine SO.nil ?_
  refine S.seq ?_
  refine S.seq ?_
  refine S.region ?_
  refine SO.v rfl (opv_move rfl) ?_
  refine SO.v rfl (opv_not rfl) ?_
  refine SO.v rfl (opv_move rfl) ?_
  refine SO.cut 3 22 (.bool ((!t1) || (!t3))) [Box bp0 [v0_Slots, v0_Objs, .int .i64 a0.NS, .int .i64 a0.NO], OwnR 65 kr_ref10_Slot v0_Slots a0.Slots, OwnR 58 kr_ref10_Obj v0_Objs a0.Objs, F] (fun l2 hk2 => ?_) ?_
  · rcases bool_or (!t1) with b5 | b5
    · refine SO.passF rfl rfl rfl b5 rfl rfl ?_
      refine SO.passF rfl rfl rfl b5 rfl rfl ?_
      refine SO.v rfl (opv_pick_t' b5 rfl rfl) ?_
      refine SO.b3 ?_
      refine SO.b3 ?_
      refine SO.b3 ?_
      refine SO.b3 ?_
      exact hk2.fitc (m := 3) rfl (or_t b5) rfl
    · refine SO.takeT rfl rfl rfl b5 ?_
      refine SO.v rfl (opv_move rfl) ?_
      refine SO.takeT rfl rfl rfl b5 ?_
      refine SO.v rfl (opv_not rfl) ?_
      refine SO.v rfl (opv_pick_f' b5 rfl rfl) ?_
      refine SO.b3 ?_
      refine SO.b3 ?_
      refine SO.b3 ?_
      refine SO.b3 ?_
      exact hk2.fitc (m := 3) rfl (or_f b5) rfl
  refine SO.nil ?_
  refine S.to (ρ' := [(0, bp bp0 0), (1, .int .i64 a1), (2, .int .i64 a2), (6, .int .i64 0), (22, .bool ((!t1) || (!t3)))]) ⟨rfl, rfl, rfl, rfl, rfl, trivial⟩ ?_
  rcases bool_or ((!t1) || (!t3)) with b6 | b6
  · replace h := cond_t b6 h
    refine S.condT rfl b6 ?_
    refine S.seq ?_
    refine S.region ?_
    refine SO.v rfl (opv_assign rfl) ?_
    refine SO.nil ?_
    cases h
    refine S.b3 ?_
    refine S.b3 ?_
    refine S.b3 ?_
    refine S.b3 ?_
    exact S.ret1 Try.func32 rfl rfl (fun w hs hk => hR w _ _ ⟨v0_Slots, v0_Objs, rfl, rfl⟩ hs hk)
  · replace h := cond_f b6 h
    refine S.condF rfl b6 ?_
    refine S.skip ?_
    refine S.seq ?_
    refine S.seq ?_
    refine S.region ?_
    refine SO.v rfl (opv_move rfl) ?_
    refine SO.v rfl (opv_move rfl) ?_
    refine SO.v rfl (opv_eql rfl rfl) ?_
    refine SO.v rfl (opv_move rfl) ?_
    refine SO.b1 ?_
    refine SO.openR fun raws7 A8 hrel9 hR10 => ?_
    obtain ⟨c12, hc13, hgk⟩ := opt_bind h
    refine SO.cut 10 36 (.bool c12) [OwnO 65 kr_ref10_Slot v0_Slots raws7 A8 a0.Slots, Box bp0 [v0_Slots, v0_Objs, .int .i64 a0.NS, .int .i64 a0.NO], OwnR 58 kr_ref10_Obj v0_Objs a0.Objs, F] (fun l2 hk2 => ?_) ?_
    · clear hgk
      replace h := hc13
      rcases bool_or (a1 == a2) with b11 | b11
      · replace h := cond_t b11 h
        refine SO.passF rfl rfl rfl b11 rfl rfl ?_
        refine SO.passF rfl rfl rfl b11 rfl rfl ?_
        refine SO.passF rfl rfl rfl b11 rfl rfl ?_
        refine SO.passF rfl rfl rfl b11 rfl rfl ?_
        refine SO.passF rfl rfl rfl b11 rfl rfl ?_
        refine SO.passF rfl rfl rfl b11 rfl rfl ?_
        refine SO.passF rfl rfl rfl b11 rfl rfl ?_
        refine SO.passF rfl rfl rfl b11 rfl rfl ?_
        refine SO.passF rfl rfl rfl b11 rfl rfl ?_
        cases h
        refine SO.v rfl (opv_pick_t' b11 rfl rfl) ?_
        refine SO.b3 ?_
        refine SO.b3 ?_
        refine SO.b3 ?_
        refine SO.b3 ?_
        exact hk2.fitc (m := 10) rfl (rfl) rfl
      · replace h := cond_f b11 h
        refine SO.takeT rfl rfl rfl b11 ?_
        refine SO.v rfl (opv_move rfl) ?_
        refine SO.takeT rfl rfl rfl b11 ?_
        refine SO.v rfl (opv_nilCheck rfl) ?_
        refine SO.takeT rfl rfl rfl b11 ?_
        refine SO.v rfl (opv_fieldAddr Try.underlying63 rfl Try.sizeOf60 rfl rfl) ?_
        refine SO.takeT rfl rfl rfl b11 ?_
        refine SO.b1 ?_
        refine SO.load1 rfl Try.isAgg60 rfl rfl ?_
        refine SO.takeT rfl rfl rfl b11 ?_
        refine SO.v rfl (opv_move rfl) ?_
        refine SO.takeT rfl rfl rfl b11 ?_
        obtain ⟨x14, hx15, h⟩ := opt_bind h
        obtain ⟨r16, hr17, hc18⟩ := relR.at hrel9 hx15
        refine SO.v rfl (opv_idx Try.underlying60 Try.sizeOf65 hR10 rfl rfl hr17) ?_
        refine SO.takeT rfl rfl rfl b11 ?_
        refine SO.v rfl (opv_fieldIdx Try.underlying65 rfl Try.sizeOf3 hR10 hr17 rfl rfl) ?_
        refine SO.takeT rfl rfl rfl b11 ?_
        refine SO.loadI1 (j := 6) rfl Try.isAgg3 (Rd.tail (Rd.head hR10)) hr17 rfl rfl rfl (hc18.val rfl) ?_
        refine SO.takeT rfl rfl rfl b11 ?_
        refine SO.v rfl (opv_geq rfl rfl) ?_
        cases h
        refine SO.v rfl (opv_pick_f' b11 rfl rfl) ?_
        refine SO.b3 ?_
        refine SO.b3 ?_
        refine SO.b2 ?_
        refine SO.b3 ?_
        exact hk2.fitc (m := 10) rfl (rfl) rfl
    clear hc13
    replace h := hgk
    refine SO.v rfl (opv_move rfl) ?_
    refine SO.b2 ?_
    refine SO.openR fun raws19 A20 hrel21 hR22 => ?_
    obtain ⟨c24, hc25, hgk⟩ := opt_bind h
    refine SO.cut 11 48 (.bool c24) [OwnO 58 kr_ref10_Obj v0_Objs raws19 A20 a0.Objs, OwnO 65 kr_ref10_Slot v0_Slots raws7 A8 a0.Slots, Box bp0 [v0_Slots, v0_Objs, .int .i64 a0.NS, .int .i64 a0.NO], F] (fun l2 hk2 => ?_) ?_
    · clear hgk
      replace h := hc25
      rcases bool_or c12 with b23 | b23
      · replace h := cond_t b23 h
        refine SO.passF rfl rfl rfl b23 rfl rfl ?_
        refine SO.passF rfl rfl rfl b23 rfl rfl ?_
        refine SO.passF rfl rfl rfl b23 rfl rfl ?_
        refine SO.passF rfl rfl rfl b23 rfl rfl ?_
        refine SO.passF rfl rfl rfl b23 rfl rfl ?_
        refine SO.passF rfl rfl rfl b23 rfl rfl ?_
        refine SO.passF rfl rfl rfl b23 rfl rfl ?_
        refine SO.passF rfl rfl rfl b23 rfl rfl ?_
        refine SO.passF rfl rfl rfl b23 rfl rfl ?_
        refine SO.passF rfl rfl rfl b23 rfl rfl ?_
        cases h
        refine SO.v rfl (opv_pick_t' b23 rfl rfl) ?_
        refine SO.b3 ?_
        refine SO.b3 ?_
        refine SO.b3 ?_
        refine SO.b3 ?_
        exact hk2.fitc (m := 11) rfl (rfl) rfl
      · replace h := cond_f b23 h
        refine SO.takeT rfl rfl rfl b23 ?_
        refine SO.v rfl (opv_move rfl) ?_
        refine SO.takeT rfl rfl rfl b23 ?_
        refine SO.v rfl (opv_nilCheck rfl) ?_
        refine SO.takeT rfl rfl rfl b23 ?_
        refine SO.v rfl (opv_fieldAddr Try.underlying63 rfl Try.sizeOf60 rfl rfl) ?_
        refine SO.takeT rfl rfl rfl b23 ?_
        refine SO.b2 ?_
        refine SO.load1 rfl Try.isAgg60 rfl rfl ?_
        refine SO.takeT rfl rfl rfl b23 ?_
        refine SO.v rfl (opv_move rfl) ?_
        refine SO.takeT rfl rfl rfl b23 ?_
        obtain ⟨x26, hx27, h⟩ := opt_bind h
        obtain ⟨r28, hr29, hc30⟩ := relR.at hrel9 hx27
        refine SO.v rfl (opv_idx Try.underlying60 Try.sizeOf65 hR10 rfl rfl hr29) ?_
        refine SO.takeT rfl rfl rfl b23 ?_
        refine SO.v rfl (opv_fieldIdx Try.underlying65 rfl Try.sizeOf55 hR10 hr29 rfl rfl) ?_
        refine SO.takeT rfl rfl rfl b23 ?_
        obtain ⟨u31, hu32, hru33⟩ := hc30.sl 7 rfl
        refine SO.loadI1 (j := 7) rfl Try.isAgg55 (Rd.tail (Rd.tail (Rd.head hR10))) hr29 rfl rfl rfl hu32 ?_
        refine SO.takeT rfl rfl rfl b23 ?_
        refine SO.v rfl (opv_lenR rfl Try.underlying55 hru33 rfl) ?_
        refine SO.takeT rfl rfl rfl b23 ?_
        refine SO.v rfl (opv_gtr rfl rfl) ?_
        cases h
        refine SO.v rfl (opv_pick_f' b23 rfl rfl) ?_
        refine SO.b3 ?_
        refine SO.b1 ?_
        refine SO.b3 ?_
        refine SO.b3 ?_
        exact hk2.fitc (m := 11) rfl (rfl) rfl
    clear hc25
    replace h := hgk
    refine SO.nil ?_
    refine S.to (ρ' := [(0, bp bp0 0), (1, .int .i64 a1), (2, .int .i64 a2), (6, .int .i64 0), (48, .bool c24)]) ⟨rfl, rfl, rfl, rfl, rfl, trivial⟩ ?_
    rcases bool_or c24 with b34 | b34
    · replace h := cond_t b34 h
      refine S.condT rfl b34 ?_
      refine S.seq ?_
      refine S.region ?_
      refine SO.v rfl (opv_assign rfl) ?_
      refine SO.nil ?_
      cases h
      refine S.closeR ?_
      refine S.b1 ?_
      refine S.closeR ?_
      refine S.b3 ?_
      refine S.b2 ?_
      refine S.b2 ?_
      refine S.b3 ?_
      exact S.ret1 Try.func32 rfl rfl (fun w hs hk => hR w _ _ ⟨v0_Slots, v0_Objs, rfl, rfl⟩ hs hk)
    · replace h := cond_f b34 h
      refine S.condF rfl b34 ?_
      refine S.skip ?_
      refine S.seq ?_
      refine S.region ?_
      refine SO.v rfl (opv_move rfl) ?_
      refine SO.v rfl (opv_nilCheck rfl) ?_
      refine SO.v rfl (opv_fieldAddr Try.underlying63 rfl Try.sizeOf60 rfl rfl) ?_
      refine SO.b2 ?_
      refine SO.load1 rfl Try.isAgg60 rfl rfl ?_
      refine SO.v rfl (opv_move rfl) ?_
      obtain ⟨x35, hx36, h⟩ := opt_bind h
      obtain ⟨r37, hr38, hc39⟩ := relR.at hrel9 hx36
      refine SO.v rfl (opv_idx Try.underlying60 Try.sizeOf65 hR10 rfl rfl hr38) ?_
      refine SO.v rfl (opv_fieldIdx Try.underlying65 rfl Try.sizeOf3 hR10 hr38 rfl rfl) ?_
      refine SO.loadI1 (j := 6) rfl Try.isAgg3 (Rd.tail (Rd.tail (Rd.head hR10))) hr38 rfl rfl rfl (hc39.val rfl) ?_
      refine SO.v rfl (opv_assign rfl) ?_
      refine SO.nil ?_
      refine S.to (ρ' := [(0, bp bp0 0), (1, .int .i64 a1), (2, .int .i64 a2), (6, .int .i64 0), (9, .int .i64 x35.Parent)]) ⟨rfl, rfl, rfl, rfl, rfl, trivial⟩ ?_
      refine S.seq ?_
      refine S.seq ?_
      refine S.region ?_
      refine SO.v rfl (opv_move rfl) ?_
      refine SO.v rfl (opv_geq rfl rfl) ?_
      refine SO.nil ?_
      obtain ⟨qv0_Slots_1, hC1, hJ1⟩ := opt_bind h
      clear h
      refine S.cutP (G := Unit) (fun _ => True) (fun _ => [(0, bp bp0 0), (1, .int .i64 a1), (2, .int .i64 a2), (6, .int .i64 0), (9, .int .i64 x35.Parent)]) (fun _ => [Box bp0 [v0_Slots, v0_Objs, .int .i64 a0.NS, .int .i64 a0.NO], OwnO 58 kr_ref10_Obj v0_Objs raws19 A20 a0.Objs, OwnR 65 kr_ref10_Slot v0_Slots qv0_Slots_1, F]) (fun hk1 => ?_) ?_
      · replace h := hC1
        rcases bool_or (decide (0 ≤ x35.Parent)) with b40 | b40
        · replace h := cond_t b40 h
          refine S.condT rfl b40 ?_
          refine S.seq ?_
          refine S.region ?_
          refine SO.buildSlice0 (ekI .i64) rfl Try.underlying55 Try.sizeOf3 (fun v41 hr42 => ?_)
          refine SO.v rfl (opv_move rfl) ?_
          refine SO.v rfl (opv_nilCheck rfl) ?_
          refine SO.v rfl (opv_fieldAddr Try.underlying63 rfl Try.sizeOf60 rfl rfl) ?_
          refine SO.b1 ?_
          refine SO.load1 rfl Try.isAgg60 rfl rfl ?_
          refine SO.v rfl (opv_move rfl) ?_
          obtain ⟨x43, hx44, h⟩ := opt_bind h
          obtain ⟨r45, hr46, hc47⟩ := relR.at hrel9 hx44
          refine SO.v rfl (opv_idx Try.underlying60 Try.sizeOf65 hR10 rfl rfl hr46) ?_
          refine SO.v rfl (opv_fieldIdx Try.underlying65 rfl Try.sizeOf55 hR10 hr46 rfl rfl) ?_
          obtain ⟨u48, hu49, hru50⟩ := hc47.sl 7 rfl
          refine SO.loadI1 (j := 7) rfl Try.isAgg55 (Rd.tail (Rd.tail (Rd.tail (Rd.head hR10)))) hr46 rfl rfl rfl hu49 ?_
          obtain ⟨zs51, hz52, h⟩ := opt_bind h
          refine SO.b1 ?_
          refine SO.append rfl Try.underlying55 Try.underlying55 inf3 rfl rfl rfl (by decide) rfl rfl rfl (Rd.tail (Rd.tail (Rd.head (Rd.pool hru50)))) hz52 (fun v53 => ?_)
          refine SO.rd fun hr54 => ?_
          refine SO.v rfl (opv_assign rfl) ?_
          refine SO.nil ?_
          refine S.to (ρ' := [(0, bp bp0 0), (1, .int .i64 a1), (2, .int .i64 a2), (6, .int .i64 0), (9, .int .i64 x35.Parent), (10, v53)]) ⟨rfl, rfl, rfl, rfl, rfl, rfl, trivial⟩ ?_
          refine S.seq ?_
          refine S.seq ?_
          refine S.region ?_
          refine SO.v rfl (opv_assign rfl) ?_
          refine SO.nil ?_
          obtain ⟨qv53_e2, hl2, h⟩ := opt_bind h
          refine S.b4 ?_
          refine S.b4 ?_
          refine S.b4 ?_
          refine S.b4 ?_
          refine S.b4 ?_
          refine S.to (ρ' := [(11, .int .i64 0), (0, bp bp0 0), (1, .int .i64 a1), (2, .int .i64 a2), (6, .int .i64 0), (9, .int .i64 x35.Parent), (10, v53)]) ⟨rfl, rfl, rfl, rfl, rfl, rfl, rfl, trivial⟩ ?_
          refine S.forloop (X := (Int × (List Int)) × Unit) (O := (List Int)) (fun m x => ref10_State_Replace.l2 a1 a2 m x.1) (fun x => match x with | ((x11_2, qv53_2), _) => [(11, .int .i64 x11_2), (0, bp bp0 0), (1, .int .i64 a1), (2, .int .i64 a2), (6, .int .i64 0), (9, .int .i64 x35.Parent), (10, v53)]) (fun x => match x with | ((x11_2, qv53_2), _) => [Own 3 (ekI .i64) v53 qv53_2, Box bp0 [v0_Slots, v0_Objs, .int .i64 a0.NS, .int .i64 a0.NO], OwnO 58 kr_ref10_Obj v0_Objs raws19 A20 a0.Objs, OwnO 65 kr_ref10_Slot v0_Slots raws7 A8 a0.Slots, F]) (fun Sk => (fun qv53_e2 => ∀ _ : Unit, Sk [(0, bp bp0 0), (1, .int .i64 a1), (2, .int .i64 a2), (6, .int .i64 0), (9, .int .i64 x35.Parent), (10, v53)] [Own 3 (ekI .i64) v53 qv53_e2, Box bp0 [v0_Slots, v0_Objs, .int .i64 a0.NS, .int .i64 a0.NO], OwnO 58 kr_ref10_Obj v0_Objs raws19 A20 a0.Objs, OwnO 65 kr_ref10_Slot v0_Slots raws7 A8 a0.Slots, F])) (fun _ => rfl) ?_ (m := k) (x := ((0, zs51), ())) hl2 ?_
          · clear h hl2
            intro k x o_2 h hK2 ih2
            obtain ⟨⟨x11_2, qv53_2⟩, _⟩ := x
            replace h : ref10_State_Replace.l2 a1 a2 (k + 1) (x11_2, qv53_2) = some o_2 := h
            first | rw [ref10_State_Replace.l2] at h | unfold ref10_State_Replace.l2 at h
            refine S.rd fun hr55 => ?_
            refine S.seq ?_
            refine S.seq ?_
            refine S.region ?_
            refine SO.v rfl (opv_move rfl) ?_
            refine SO.v rfl (opv_move rfl) ?_
            refine SO.v rfl (opv_lenR rfl Try.underlying55 hr55 rfl) ?_
            refine SO.v rfl (opv_lss rfl rfl) ?_
            refine SO.nil ?_
            rcases bool_or (decide (x11_2 < (qv53_2.length : Int))) with b56 | b56
            · replace h := cond_t b56 h
              refine S.condT rfl b56 ?_
              refine S.skip ?_
              refine S.seq ?_
              refine S.block ?_
              refine S.seq ?_
              refine S.region ?_
              refine SO.v rfl (opv_move rfl) ?_
              refine SO.v rfl (opv_move rfl) ?_
              obtain ⟨x57, hx58, h⟩ := opt_bind h
              refine SO.v rfl (opv_idx Try.underlying55 Try.sizeOf3 hr55 rfl rfl hx58) ?_
              refine SO.loadI1 (j := 0) rfl Try.isAgg3 (Rd.head hr55) hx58 rfl rfl rfl rfl ?_
              refine SO.v rfl (opv_move rfl) ?_
              refine SO.v rfl (opv_eql rfl rfl) ?_
              refine SO.nil ?_
              refine S.to (ρ' := [(11, .int .i64 x11_2), (0, bp bp0 0), (1, .int .i64 a1), (2, .int .i64 a2), (6, .int .i64 0), (9, .int .i64 x35.Parent), (10, v53), (80, .bool (x57 == a1))]) ⟨rfl, rfl, rfl, rfl, rfl, rfl, rfl, rfl, trivial⟩ ?_
              rcases bool_or (x57 == a1) with b59 | b59
              · replace h := cond_t b59 h
                refine S.condT rfl b59 ?_
                refine S.region ?_
                refine SO.v rfl (opv_move rfl) ?_
                refine SO.v rfl (opv_move rfl) ?_
                refine SO.v rfl (opv_move rfl) ?_
                obtain ⟨x60, hx61, h⟩ := opt_bind h
                refine SO.v rfl (opv_idx Try.underlying55 Try.sizeOf3 hr55 rfl rfl hx61) ?_
                refine SO.storeI1 (j := 0) (z' := a2) Try.sizeOf3 hx61 rfl rfl rfl rfl rfl rfl ?_
                refine SO.rd fun hr62 => ?_
                refine SO.nil ?_
                refine S.inBlock ?_
                refine S.region ?_
                refine SO.v rfl (opv_move rfl) ?_
                refine SO.v rfl (opv_add rfl rfl) ?_
                refine SO.v rfl (opv_assign rfl) ?_
                refine SO.nil ?_
                refine S.to (ρ' := [(11, .int .i64 (w64 (x11_2 + 1))), (0, bp bp0 0), (1, .int .i64 a1), (2, .int .i64 a2), (6, .int .i64 0), (9, .int .i64 x35.Parent), (10, v53)]) ⟨rfl, rfl, rfl, rfl, rfl, rfl, rfl, trivial⟩ ?_
                refine S.b4 ?_
                refine S.b4 ?_
                refine S.b4 ?_
                refine S.b4 ?_
                refine S.b4 ?_
                refine S.to ?_ (ih2 ((w64 (x11_2 + 1), qv53_2.set x11_2.toNat a2), ()) h)
                exact ⟨rfl, rfl, rfl, rfl, rfl, rfl, rfl, trivial⟩
              · replace h := cond_f b59 h
                refine S.condF rfl b59 ?_
                refine S.skip ?_
                refine S.inBlock ?_
                refine S.region ?_
                refine SO.v rfl (opv_move rfl) ?_
                refine SO.v rfl (opv_add rfl rfl) ?_
                refine SO.v rfl (opv_assign rfl) ?_
                refine SO.nil ?_
                refine S.b4 ?_
                refine S.b4 ?_
                refine S.b4 ?_
                refine S.b4 ?_
                refine S.b4 ?_
                refine S.to ?_ (ih2 ((w64 (x11_2 + 1), qv53_2), ()) h)
                exact ⟨rfl, rfl, rfl, rfl, rfl, rfl, rfl, trivial⟩
            · replace h := cond_f b56 h
              refine S.condF rfl b56 ?_
              refine S.exit rfl ?_
              cases h
              refine S.b4 ?_
              refine S.b4 ?_
              refine S.b4 ?_
              refine S.b4 ?_
              refine S.b4 ?_
              refine S.to ?_ (hK2 ())
              exact ⟨rfl, rfl, rfl, rfl, rfl, rfl, trivial⟩
          rintro _
          refine S.rd fun hr63 => ?_
          refine S.region ?_
          refine SO.v rfl (opv_move rfl) ?_
          refine SO.v rfl (opv_nilCheck rfl) ?_
          refine SO.v rfl (opv_fieldAddr Try.underlying63 rfl Try.sizeOf60 rfl rfl) ?_
          refine SO.b1 ?_
          refine SO.load1 rfl Try.isAgg60 rfl rfl ?_
          refine SO.v rfl (opv_move rfl) ?_
          refine SO.v rfl (opv_move rfl) ?_
          obtain ⟨x64, hx65, h⟩ := opt_bind h
          obtain ⟨r66, hr67, hc68⟩ := relR.at hrel9 hx65
          refine SO.v rfl (opv_idx Try.underlying60 Try.sizeOf65 hR10 rfl rfl hr67) ?_
          refine SO.v rfl (opv_fieldIdx Try.underlying65 rfl Try.sizeOf55 hR10 hr67 rfl rfl) ?_
          refine SO.b3 ?_
          refine SO.b2 ?_
          refine SO.freeze hrel9 fun A69 hcov70 hru71 hrel72 hR73 => ?_
          refine SO.storeO1 (j := 7) (q := .sl (ekI .i64) qv53_e2) (z' := ({ x64 with Kids := qv53_e2 } : ref10_Slot)) Try.sizeOf55 hrel72 hx65 rfl rfl (Rd.one hru71) rfl rfl rfl hru71 (fun raws74 hrel75 hR76 => ?_)
          refine SO.nil ?_
          refine S.to (ρ' := [(0, bp bp0 0), (1, .int .i64 a1), (2, .int .i64 a2), (6, .int .i64 0), (9, .int .i64 x35.Parent)]) ⟨rfl, rfl, rfl, rfl, rfl, trivial⟩ ?_
          cases h
          refine S.closeR ?_
          refine S.b3 ?_
          refine S.b1 ?_
          refine S.b3 ?_
          refine S.b3 ?_
          refine S.to ?_ (hk1 () trivial)
          exact ⟨rfl, rfl, rfl, rfl, rfl, trivial⟩
        · replace h := cond_f b40 h
          refine S.condF rfl b40 ?_
          refine S.skip ?_
          cases h
          refine S.b2 ?_
          refine S.closeR ?_
          refine S.b3 ?_
          refine S.b1 ?_
          refine S.b3 ?_
          refine S.b3 ?_
          refine S.to ?_ (hk1 () trivial)
          exact ⟨rfl, rfl, rfl, rfl, rfl, trivial⟩
      rintro _ -
      replace h := hJ1
      refine S.seq ?_
      refine S.region ?_
      refine SO.v rfl (opv_move rfl) ?_
      refine SO.v rfl (opv_nilCheck rfl) ?_
      refine SO.v rfl (opv_fieldAddr Try.underlying63 rfl Try.sizeOf60 rfl rfl) ?_
      refine SO.load1 rfl Try.isAgg60 rfl rfl ?_
      refine SO.v rfl (opv_move rfl) ?_
      refine SO.v rfl (opv_move rfl) ?_
      refine SO.b2 ?_
      refine SO.openR fun raws82 A83 hrel84 hR85 => ?_
      obtain ⟨x77, hx78, h⟩ := opt_bind h
      obtain ⟨r79, hr80, hc81⟩ := relR.at hrel84 hx78
      refine SO.v rfl (opv_idx Try.underlying60 Try.sizeOf65 hR85 rfl rfl hr80) ?_
      refine SO.v rfl (opv_fieldIdx Try.underlying65 rfl Try.sizeOf3 hR85 hr80 rfl rfl) ?_
      refine SO.storeO1 (j := 6) (q := .val (.int .i64 x35.Parent)) (z' := ({ x77 with Parent := x35.Parent } : ref10_Slot)) Try.sizeOf3 hrel84 hx78 rfl rfl rfl rfl rfl rfl rfl (fun raws86 hrel87 hR88 => ?_)
      refine SO.nil ?_
      refine S.to (ρ' := [(0, bp bp0 0), (1, .int .i64 a1), (2, .int .i64 a2), (6, .int .i64 0)]) ⟨rfl, rfl, rfl, rfl, trivial⟩ ?_
      refine S.seq ?_
      refine S.region ?_
      refine SO.v rfl (opv_move rfl) ?_
      refine SO.v rfl (opv_nilCheck rfl) ?_
      refine SO.v rfl (opv_fieldAddr Try.underlying63 rfl Try.sizeOf60 rfl rfl) ?_
      refine SO.b1 ?_
      refine SO.load1 rfl Try.isAgg60 rfl rfl ?_
      refine SO.v rfl (opv_move rfl) ?_
      obtain ⟨x89, hx90, h⟩ := opt_bind h
      obtain ⟨r91, hr92, hc93⟩ := relR.at hrel87 hx90
      refine SO.v rfl (opv_idx Try.underlying60 Try.sizeOf65 hR88 rfl rfl hr92) ?_
      refine SO.v rfl (opv_fieldIdx Try.underlying65 rfl Try.sizeOf3 hR88 hr92 rfl rfl) ?_
      refine SO.b1 ?_
      refine SO.storeO1 (j := 6) (q := .val (.int .i64 (-1))) (z' := ({ x89 with Parent := -1 } : ref10_Slot)) Try.sizeOf3 hrel87 hx90 rfl rfl rfl rfl rfl rfl rfl (fun raws94 hrel95 hR96 => ?_)
      refine SO.nil ?_
      refine S.to (ρ' := [(0, bp bp0 0), (1, .int .i64 a1), (2, .int .i64 a2), (6, .int .i64 0)]) ⟨rfl, rfl, rfl, rfl, trivial⟩ ?_
      refine S.seq ?_
      obtain ⟨x97, hx98, h⟩ := opt_bind h
      obtain ⟨r99, hr100, hc101⟩ := relR.at hrel95 hx98
      obtain ⟨u102, hu103, hru104⟩ := hc101.sl 7 rfl
      obtain ⟨x105, hx106, h⟩ := opt_bind h
      obtain ⟨r107, hr108, hc109⟩ := relR.at hrel95 hx106
      refine S.draw' (Z := fun Q => ∀ (_ : Unit) (_ : Unit) (_ : Unit) (_ : Unit) (_ : Unit) (_ : Unit) (_ : Unit) (_ : Unit), Q [(0, bp bp0 0), (1, .int .i64 a1), (2, .int .i64 a2), (6, .int .i64 0)] [OwnR 65 kr_ref10_Slot v0_Slots (((qv0_Slots_1.set a2.toNat ({ x77 with Parent := x35.Parent } : ref10_Slot)).set a1.toNat ({ x89 with Parent := -1 } : ref10_Slot)).set a2.toNat ({ x105 with Kids := x97.Kids } : ref10_Slot)), Box bp0 [v0_Slots, v0_Objs, .int .i64 a0.NS, .int .i64 a0.NO], OwnO 58 kr_ref10_Obj v0_Objs raws19 A20 a0.Objs, F]) (T := [tS 0 (bp bp0 0), tS 2 (.int .i64 a2), tS 1 (.int .i64 a1), tS 6 (.int .i64 0), tR (OwnO 65 kr_ref10_Slot v0_Slots raws94 A83 ((qv0_Slots_1.set a2.toNat ({ x77 with Parent := x35.Parent } : ref10_Slot)).set a1.toNat ({ x89 with Parent := -1 } : ref10_Slot))), tR (Box bp0 [v0_Slots, v0_Objs, .int .i64 a0.NS, .int .i64 a0.NO]), tR (OwnO 58 kr_ref10_Obj v0_Objs raws19 A20 a0.Objs), tR (F), tS 108 (bp bp0 0), tS 109 (bp bp0 0), tS 110 (bp bp0 0), tS 111 (v0_Slots), tS 112 (.int .i64 a2), tS 113 (bp bp0 0), tS 114 (bp bp0 0), tS 115 (bp bp0 0), tS 116 (v0_Slots), tS 117 (.int .i64 a1), tS 118 (idxp v0_Slots (a1.toNat * kr_ref10_Slot.sz)), tS 119 (idxp v0_Slots (a1.toNat * kr_ref10_Slot.sz + 7)), tS 120 (u102), tS 121 (idxp v0_Slots (a2.toNat * kr_ref10_Slot.sz)), tS 122 (idxp v0_Slots (a2.toNat * kr_ref10_Slot.sz + 7)), tR (OwnR 65 kr_ref10_Slot v0_Slots (((qv0_Slots_1.set a2.toNat ({ x77 with Parent := x35.Parent } : ref10_Slot)).set a1.toNat ({ x89 with Parent := -1 } : ref10_Slot)).set a2.toNat ({ x105 with Kids := x97.Kids } : ref10_Slot)))]) (D := [⟨[0], [], [8]⟩, ⟨[8], [], [9]⟩, ⟨[9], [], [10]⟩, ⟨[10, 5], [], [11]⟩, ⟨[1], [], [12]⟩, ⟨[0], [], [13]⟩, ⟨[13], [], [14]⟩, ⟨[14], [], [15]⟩, ⟨[15, 5], [], [16]⟩, ⟨[2], [], [17]⟩, ⟨[16, 17, 4], [], [18]⟩, ⟨[18, 4], [], [19]⟩, ⟨[19, 4], [], [20]⟩, ⟨[11, 12, 4], [], [21]⟩, ⟨[21, 4], [], [22]⟩, ⟨[20, 22], [4], [23]⟩]) (ini := [0, 1, 2, 3, 4, 5, 6, 7]) (fin := [0, 2, 1, 3, 23, 5, 6, 7]) (bf := [[], [0], [0, 1], [0, 1, 2], [], [], [5], [5, 6], [5, 6, 7], [], [5, 6, 7, 8, 9], [5, 6, 7, 8, 9, 10], [5, 6, 7, 8, 9, 10, 11], [0, 1, 2, 3, 4, 5, 6, 7, 8, 9, 10, 11, 12], [0, 1, 2, 3, 4, 5, 6, 7, 8, 9, 10, 11, 12, 13], [0, 1, 2, 3, 4, 5, 6, 7, 8, 9, 10, 11, 12, 13, 14]]) (by kernel_rfl) (by kernel_rfl) (fun x w h1 h2 => (.cons () (.cons () (.cons () (.cons () (.cons () (.cons () (.cons () (.cons () (.nil ⟨EnvAll.of h1 ⟨rfl, rfl, rfl, rfl, trivial⟩, h2⟩)))))))))) (fun Q => by kernel_rfl) ⟨?_, ?_, ?_, ?_, ?_, ?_, ?_, ?_, ?_, ?_, ?_, ?_, ?_, ?_, ?_, ?_, trivial⟩ ?_
      · rintro Fr _
        refine SO.v rfl (opv_move rfl) ?_
        exact SO.nilZ fun a w h1 h2 h3 h4 h5 => PZ.of h1 h3 h5 (.cons () (.cons () (.nil ⟨EnvAll.of h2 ⟨rfl, rfl, trivial⟩, h4⟩)))
      · rintro Fr _
        refine SO.v rfl (opv_nilCheck rfl) ?_
        exact SO.nilZ fun a w h1 h2 h3 h4 h5 => PZ.of h1 h3 h5 (.cons () (.cons () (.nil ⟨EnvAll.of h2 ⟨rfl, rfl, trivial⟩, h4⟩)))
      · rintro Fr _
        refine SO.v rfl (opv_fieldAddr Try.underlying63 rfl Try.sizeOf60 rfl rfl) ?_
        exact SO.nilZ fun a w h1 h2 h3 h4 h5 => PZ.of h1 h3 h5 (.cons () (.cons () (.nil ⟨EnvAll.of h2 ⟨rfl, rfl, trivial⟩, h4⟩)))
      · rintro Fr _ _
        refine SO.load1 rfl Try.isAgg60 rfl rfl ?_
        exact SO.nilZ fun a w h1 h2 h3 h4 h5 => PZ.of h1 h3 h5 (.cons () (.cons () (.cons () (.nil ⟨EnvAll.of h2 ⟨rfl, rfl, trivial⟩, h4⟩))))
      · rintro Fr _
        refine SO.v rfl (opv_move rfl) ?_
        exact SO.nilZ fun a w h1 h2 h3 h4 h5 => PZ.of h1 h3 h5 (.cons () (.cons () (.nil ⟨EnvAll.of h2 ⟨rfl, rfl, trivial⟩, h4⟩)))
      · rintro Fr _
        refine SO.v rfl (opv_move rfl) ?_
        exact SO.nilZ fun a w h1 h2 h3 h4 h5 => PZ.of h1 h3 h5 (.cons () (.cons () (.nil ⟨EnvAll.of h2 ⟨rfl, rfl, trivial⟩, h4⟩)))
      · rintro Fr _
        refine SO.v rfl (opv_nilCheck rfl) ?_
        exact SO.nilZ fun a w h1 h2 h3 h4 h5 => PZ.of h1 h3 h5 (.cons () (.cons () (.nil ⟨EnvAll.of h2 ⟨rfl, rfl, trivial⟩, h4⟩)))
      · rintro Fr _
        refine SO.v rfl (opv_fieldAddr Try.underlying63 rfl Try.sizeOf60 rfl rfl) ?_
        exact SO.nilZ fun a w h1 h2 h3 h4 h5 => PZ.of h1 h3 h5 (.cons () (.cons () (.nil ⟨EnvAll.of h2 ⟨rfl, rfl, trivial⟩, h4⟩)))
      · rintro Fr _ _
        refine SO.load1 rfl Try.isAgg60 rfl rfl ?_
        exact SO.nilZ fun a w h1 h2 h3 h4 h5 => PZ.of h1 h3 h5 (.cons () (.cons () (.cons () (.nil ⟨EnvAll.of h2 ⟨rfl, rfl, trivial⟩, h4⟩))))
      · rintro Fr _
        refine SO.v rfl (opv_move rfl) ?_
        exact SO.nilZ fun a w h1 h2 h3 h4 h5 => PZ.of h1 h3 h5 (.cons () (.cons () (.nil ⟨EnvAll.of h2 ⟨rfl, rfl, trivial⟩, h4⟩)))
      · rintro Fr _ _ _
        refine SO.v rfl (opv_idx Try.underlying60 Try.sizeOf65 hR96 rfl rfl hr100) ?_
        exact SO.nilZ fun a w h1 h2 h3 h4 h5 => PZ.of h1 h3 h5 (.cons () (.cons () (.cons () (.cons () (.nil ⟨EnvAll.of h2 ⟨rfl, rfl, rfl, trivial⟩, h4⟩)))))
      · rintro Fr _ _
        refine SO.v rfl (opv_fieldIdx Try.underlying65 rfl Try.sizeOf55 hR96 hr100 rfl rfl) ?_
        exact SO.nilZ fun a w h1 h2 h3 h4 h5 => PZ.of h1 h3 h5 (.cons () (.cons () (.cons () (.nil ⟨EnvAll.of h2 ⟨rfl, rfl, trivial⟩, h4⟩))))
      · rintro Fr _ _
        refine SO.loadI1 (j := 7) rfl Try.isAgg55 (Rd.head hR96) hr100 rfl rfl rfl hu103 ?_
        exact SO.nilZ fun a w h1 h2 h3 h4 h5 => PZ.of h1 h3 h5 (.cons () (.cons () (.cons () (.nil ⟨EnvAll.of h2 ⟨rfl, rfl, trivial⟩, h4⟩))))
      · rintro Fr _ _ _
        refine SO.v rfl (opv_idx Try.underlying60 Try.sizeOf65 hR96 rfl rfl hr108) ?_
        exact SO.nilZ fun a w h1 h2 h3 h4 h5 => PZ.of h1 h3 h5 (.cons () (.cons () (.cons () (.cons () (.nil ⟨EnvAll.of h2 ⟨rfl, rfl, rfl, trivial⟩, h4⟩)))))
      · rintro Fr _ _
        refine SO.v rfl (opv_fieldIdx Try.underlying65 rfl Try.sizeOf55 hR96 hr108 rfl rfl) ?_
        exact SO.nilZ fun a w h1 h2 h3 h4 h5 => PZ.of h1 h3 h5 (.cons () (.cons () (.cons () (.nil ⟨EnvAll.of h2 ⟨rfl, rfl, trivial⟩, h4⟩))))
      · rintro Fr _ _ _
        refine SO.storeO1 (j := 7) (q := .sl (ekI .i64) x97.Kids) (z' := ({ x105 with Kids := x97.Kids } : ref10_Slot)) Try.sizeOf55 hrel95 hx106 rfl rfl (Rd.one hru104) rfl rfl rfl hru104 (fun raws110 hrel111 hR112 => ?_)
        refine SO.closeR ?_
        exact SO.nilZ fun a w h1 h2 h3 h4 h5 => PZ.of h1 h3 h5 (.cons () (.cons () (.cons () (.nil ⟨EnvAll.of h2 ⟨rfl, rfl, trivial⟩, h4⟩))))
      rintro _ _ _ _ _ _ _ _
      refine S.to (ρ' := [(0, bp bp0 0), (1, .int .i64 a1), (2, .int .i64 a2), (6, .int .i64 0)]) ⟨rfl, rfl, rfl, rfl, trivial⟩ ?_
      refine S.seq ?_
      refine S.region ?_
      refine SO.v rfl (opv_move rfl) ?_
      refine SO.v rfl (opv_nilCheck rfl) ?_
      refine SO.v rfl (opv_fieldAddr Try.underlying63 rfl Try.sizeOf60 rfl rfl) ?_
      refine SO.b1 ?_
      refine SO.load1 rfl Try.isAgg60 rfl rfl ?_
      refine SO.v rfl (opv_move rfl) ?_
      refine SO.b1 ?_
      refine SO.openR fun raws118 A119 hrel120 hR121 => ?_
      obtain ⟨x113, hx114, h⟩ := opt_bind h
      obtain ⟨r115, hr116, hc117⟩ := relR.at hrel120 hx114
      refine SO.v rfl (opv_idx Try.underlying60 Try.sizeOf65 hR121 rfl rfl hr116) ?_
      refine SO.v rfl (opv_fieldIdx Try.underlying65 rfl Try.sizeOf55 hR121 hr116 rfl rfl) ?_
      refine SO.storeO1 (j := 7) (q := .sl (ekI .i64) ([])) (z' := ({ x113 with Kids := [] } : ref10_Slot)) Try.sizeOf55 hrel120 hx114 rfl rfl rfl rfl rfl rfl Rd.nil0 (fun raws122 hrel123 hR124 => ?_)
      refine SO.nil ?_
      refine S.to (ρ' := [(0, bp bp0 0), (2, .int .i64 a2), (6, .int .i64 0)]) ⟨rfl, rfl, rfl, trivial⟩ ?_
      refine S.seq ?_
      refine S.seq ?_
      refine S.region ?_
      refine SO.v rfl (opv_assign rfl) ?_
      refine SO.nil ?_
      obtain ⟨qv0_Slots_e3, hl3, h⟩ := opt_bind h
      refine S.closeR ?_
      refine S.b3 ?_
      refine S.b3 ?_
      refine S.b3 ?_
      refine S.b3 ?_
      refine S.to (ρ' := [(12, .int .i64 0), (0, bp bp0 0), (2, .int .i64 a2), (6, .int .i64 0)]) ⟨rfl, rfl, rfl, rfl, trivial⟩ ?_
      refine S.forloop (X := (Int × (List ref10_Slot)) × Unit) (O := (List ref10_Slot)) (fun m x => ref10_State_Replace.l3 a2 m x.1) (fun x => match x with | ((x12_3, qv0_Slots_3), _) => [(12, .int .i64 x12_3), (0, bp bp0 0), (2, .int .i64 a2), (6, .int .i64 0)]) (fun x => match x with | ((x12_3, qv0_Slots_3), _) => [OwnR 65 kr_ref10_Slot v0_Slots qv0_Slots_3, Box bp0 [v0_Slots, v0_Objs, .int .i64 a0.NS, .int .i64 a0.NO], OwnO 58 kr_ref10_Obj v0_Objs raws19 A20 a0.Objs, F]) (fun Sk => (fun qv0_Slots_e3 => ∀ _ : Unit, Sk [(6, .int .i64 0)] [OwnR 65 kr_ref10_Slot v0_Slots qv0_Slots_e3, Box bp0 [v0_Slots, v0_Objs, .int .i64 a0.NS, .int .i64 a0.NO], OwnO 58 kr_ref10_Obj v0_Objs raws19 A20 a0.Objs, F])) (fun _ => rfl) ?_ (m := k) (x := ((0, (((qv0_Slots_1.set a2.toNat ({ x77 with Parent := x35.Parent } : ref10_Slot)).set a1.toNat ({ x89 with Parent := -1 } : ref10_Slot)).set a2.toNat ({ x105 with Kids := x97.Kids } : ref10_Slot)).set a1.toNat ({ x113 with Kids := [] } : ref10_Slot)), ())) hl3 ?_
      · clear h hl3
        intro k x o_3 h hK3 ih3
        obtain ⟨⟨x12_3, qv0_Slots_3⟩, _⟩ := x
        replace h : ref10_State_Replace.l3 a2 (k + 1) (x12_3, qv0_Slots_3) = some o_3 := h
        first | rw [ref10_State_Replace.l3] at h | unfold ref10_State_Replace.l3 at h
        refine S.seq ?_
        refine S.seq ?_
        refine S.region ?_
        refine SO.v rfl (opv_move rfl) ?_
        refine SO.v rfl (opv_move rfl) ?_
        refine SO.v rfl (opv_nilCheck rfl) ?_
        refine SO.v rfl (opv_fieldAddr Try.underlying63 rfl Try.sizeOf60 rfl rfl) ?_
        refine SO.b1 ?_
        refine SO.load1 rfl Try.isAgg60 rfl rfl ?_
        refine SO.v rfl (opv_move rfl) ?_
        refine SO.b1 ?_
        refine SO.openR fun raws130 A131 hrel132 hR133 => ?_
        obtain ⟨x125, hx126, h⟩ := opt_bind h
        obtain ⟨r127, hr128, hc129⟩ := relR.at hrel132 hx126
        refine SO.v rfl (opv_idx Try.underlying60 Try.sizeOf65 hR133 rfl rfl hr128) ?_
        refine SO.v rfl (opv_fieldIdx Try.underlying65 rfl Try.sizeOf55 hR133 hr128 rfl rfl) ?_
        obtain ⟨u134, hu135, hru136⟩ := hc129.sl 7 rfl
        refine SO.loadI1 (j := 7) rfl Try.isAgg55 (Rd.head hR133) hr128 rfl rfl rfl hu135 ?_
        refine SO.v rfl (opv_lenR rfl Try.underlying55 hru136 rfl) ?_
        refine SO.v rfl (opv_lss rfl rfl) ?_
        refine SO.nil ?_
        refine S.to (ρ' := [(12, .int .i64 x12_3), (0, bp bp0 0), (2, .int .i64 a2), (6, .int .i64 0), (140, .bool (decide (x12_3 < (x125.Kids.length : Int))))]) ⟨rfl, rfl, rfl, rfl, rfl, trivial⟩ ?_
        rcases bool_or (decide (x12_3 < (x125.Kids.length : Int))) with b137 | b137
        · replace h := cond_t b137 h
          refine S.condT rfl b137 ?_
          refine S.skip ?_
          refine S.seq ?_
          refine S.block ?_
          obtain ⟨x138, hx139, h⟩ := opt_bind h
          obtain ⟨r140, hr141, hc142⟩ := relR.at hrel132 hx139
          obtain ⟨u143, hu144, hru145⟩ := hc142.sl 7 rfl
          obtain ⟨x146, hx147, h⟩ := opt_bind h
          obtain ⟨x148, hx149, h⟩ := opt_bind h
          obtain ⟨r150, hr151, hc152⟩ := relR.at hrel132 hx149
          refine S.draw' (Z := fun Q => ∀ (_ : Unit) (_ : Unit) (_ : Unit) (_ : Unit) (_ : Unit) (_ : Unit) (_ : Unit) (_ : Unit), Q [(12, .int .i64 x12_3), (0, bp bp0 0), (2, .int .i64 a2), (6, .int .i64 0)] [OwnR 65 kr_ref10_Slot v0_Slots (qv0_Slots_3.set x146.toNat ({ x148 with Parent := a2 } : ref10_Slot)), Box bp0 [v0_Slots, v0_Objs, .int .i64 a0.NS, .int .i64 a0.NO], OwnO 58 kr_ref10_Obj v0_Objs raws19 A20 a0.Objs, F]) (T := [tS 0 (bp bp0 0), tS 2 (.int .i64 a2), tS 12 (.int .i64 x12_3), tS 6 (.int .i64 0), tR (OwnO 65 kr_ref10_Slot v0_Slots raws130 A131 qv0_Slots_3), tR (Box bp0 [v0_Slots, v0_Objs, .int .i64 a0.NS, .int .i64 a0.NO]), tR (OwnO 58 kr_ref10_Obj v0_Objs raws19 A20 a0.Objs), tR (F), tS 143 (bp bp0 0), tS 144 (bp bp0 0), tS 145 (bp bp0 0), tS 146 (v0_Slots), tS 147 (bp bp0 0), tS 148 (bp bp0 0), tS 149 (bp bp0 0), tS 150 (v0_Slots), tS 151 (.int .i64 a2), tS 152 (idxp v0_Slots (a2.toNat * kr_ref10_Slot.sz)), tS 153 (idxp v0_Slots (a2.toNat * kr_ref10_Slot.sz + 7)), tS 154 (u143), tS 155 (.int .i64 x12_3), tS 156 (idxp u143 (x12_3.toNat * (ekI .i64).sz)), tS 157 (.int .i64 x146), tS 158 (.int .i64 a2), tS 159 (idxp v0_Slots (x146.toNat * kr_ref10_Slot.sz)), tS 160 (idxp v0_Slots (x146.toNat * kr_ref10_Slot.sz + 6)), tR (OwnR 65 kr_ref10_Slot v0_Slots (qv0_Slots_3.set x146.toNat ({ x148 with Parent := a2 } : ref10_Slot)))]) (D := [⟨[0], [], [8]⟩, ⟨[8], [], [9]⟩, ⟨[9], [], [10]⟩, ⟨[10, 5], [], [11]⟩, ⟨[0], [], [12]⟩, ⟨[12], [], [13]⟩, ⟨[13], [], [14]⟩, ⟨[14, 5], [], [15]⟩, ⟨[1], [], [16]⟩, ⟨[15, 16, 4], [], [17]⟩, ⟨[17, 4], [], [18]⟩, ⟨[18, 4], [], [19]⟩, ⟨[2], [], [20]⟩, ⟨[19, 20, 4], [], [21]⟩, ⟨[21, 4], [], [22]⟩, ⟨[1], [], [23]⟩, ⟨[11, 22, 4], [], [24]⟩, ⟨[24, 4], [], [25]⟩, ⟨[23, 25], [4], [26]⟩]) (ini := [0, 1, 2, 3, 4, 5, 6, 7]) (fin := [2, 0, 1, 3, 26, 5, 6, 7]) (bf := [[], [0], [0, 1], [0, 1, 2], [], [4], [4, 5], [4, 5, 6], [], [4, 5, 6, 7, 8], [4, 5, 6, 7, 8, 9], [4, 5, 6, 7, 8, 9, 10], [], [4, 5, 6, 7, 8, 9, 10, 11, 12], [4, 5, 6, 7, 8, 9, 10, 11, 12, 13], [], [0, 1, 2, 3, 4, 5, 6, 7, 8, 9, 10, 11, 12, 13, 14, 15], [0, 1, 2, 3, 4, 5, 6, 7, 8, 9, 10, 11, 12, 13, 14, 15, 16], [0, 1, 2, 3, 4, 5, 6, 7, 8, 9, 10, 11, 12, 13, 14, 15, 16, 17]]) (by kernel_rfl) (by kernel_rfl) (fun x w h1 h2 => (.cons () (.cons () (.cons () (.cons () (.cons () (.cons () (.cons () (.cons () (.nil ⟨EnvAll.of h1 ⟨rfl, rfl, rfl, rfl, trivial⟩, h2⟩)))))))))) (fun Q => by kernel_rfl) ⟨?_, ?_, ?_, ?_, ?_, ?_, ?_, ?_, ?_, ?_, ?_, ?_, ?_, ?_, ?_, ?_, ?_, ?_, ?_, trivial⟩ ?_
          · rintro Fr _
            refine SO.v rfl (opv_move rfl) ?_
            exact SO.nilZ fun a w h1 h2 h3 h4 h5 => PZ.of h1 h3 h5 (.cons () (.cons () (.nil ⟨EnvAll.of h2 ⟨rfl, rfl, trivial⟩, h4⟩)))
          · rintro Fr _
            refine SO.v rfl (opv_nilCheck rfl) ?_
            exact SO.nilZ fun a w h1 h2 h3 h4 h5 => PZ.of h1 h3 h5 (.cons () (.cons () (.nil ⟨EnvAll.of h2 ⟨rfl, rfl, trivial⟩, h4⟩)))
          · rintro Fr _
            refine SO.v rfl (opv_fieldAddr Try.underlying63 rfl Try.sizeOf60 rfl rfl) ?_
            exact SO.nilZ fun a w h1 h2 h3 h4 h5 => PZ.of h1 h3 h5 (.cons () (.cons () (.nil ⟨EnvAll.of h2 ⟨rfl, rfl, trivial⟩, h4⟩)))
          · rintro Fr _ _
            refine SO.load1 rfl Try.isAgg60 rfl rfl ?_
            exact SO.nilZ fun a w h1 h2 h3 h4 h5 => PZ.of h1 h3 h5 (.cons () (.cons () (.cons () (.nil ⟨EnvAll.of h2 ⟨rfl, rfl, trivial⟩, h4⟩))))
          · rintro Fr _
            refine SO.v rfl (opv_move rfl) ?_
            exact SO.nilZ fun a w h1 h2 h3 h4 h5 => PZ.of h1 h3 h5 (.cons () (.cons () (.nil ⟨EnvAll.of h2 ⟨rfl, rfl, trivial⟩, h4⟩)))
          · rintro Fr _
            refine SO.v rfl (opv_nilCheck rfl) ?_
            exact SO.nilZ fun a w h1 h2 h3 h4 h5 => PZ.of h1 h3 h5 (.cons () (.cons () (.nil ⟨EnvAll.of h2 ⟨rfl, rfl, trivial⟩, h4⟩)))
          · rintro Fr _
            refine SO.v rfl (opv_fieldAddr Try.underlying63 rfl Try.sizeOf60 rfl rfl) ?_
            exact SO.nilZ fun a w h1 h2 h3 h4 h5 => PZ.of h1 h3 h5 (.cons () (.cons () (.nil ⟨EnvAll.of h2 ⟨rfl, rfl, trivial⟩, h4⟩)))
          · rintro Fr _ _
            refine SO.load1 rfl Try.isAgg60 rfl rfl ?_
            exact SO.nilZ fun a w h1 h2 h3 h4 h5 => PZ.of h1 h3 h5 (.cons () (.cons () (.cons () (.nil ⟨EnvAll.of h2 ⟨rfl, rfl, trivial⟩, h4⟩))))
          · rintro Fr _
            refine SO.v rfl (opv_move rfl) ?_
            exact SO.nilZ fun a w h1 h2 h3 h4 h5 => PZ.of h1 h3 h5 (.cons () (.cons () (.nil ⟨EnvAll.of h2 ⟨rfl, rfl, trivial⟩, h4⟩)))
          · rintro Fr _ _ _
            refine SO.v rfl (opv_idx Try.underlying60 Try.sizeOf65 hR133 rfl rfl hr141) ?_
            exact SO.nilZ fun a w h1 h2 h3 h4 h5 => PZ.of h1 h3 h5 (.cons () (.cons () (.cons () (.cons () (.nil ⟨EnvAll.of h2 ⟨rfl, rfl, rfl, trivial⟩, h4⟩)))))
          · rintro Fr _ _
            refine SO.v rfl (opv_fieldIdx Try.underlying65 rfl Try.sizeOf55 hR133 hr141 rfl rfl) ?_
            exact SO.nilZ fun a w h1 h2 h3 h4 h5 => PZ.of h1 h3 h5 (.cons () (.cons () (.cons () (.nil ⟨EnvAll.of h2 ⟨rfl, rfl, trivial⟩, h4⟩))))
          · rintro Fr _ _
            refine SO.loadI1 (j := 7) rfl Try.isAgg55 (Rd.head hR133) hr141 rfl rfl rfl hu144 ?_
            exact SO.nilZ fun a w h1 h2 h3 h4 h5 => PZ.of h1 h3 h5 (.cons () (.cons () (.cons () (.nil ⟨EnvAll.of h2 ⟨rfl, rfl, trivial⟩, h4⟩))))
          · rintro Fr _
            refine SO.v rfl (opv_move rfl) ?_
            exact SO.nilZ fun a w h1 h2 h3 h4 h5 => PZ.of h1 h3 h5 (.cons () (.cons () (.nil ⟨EnvAll.of h2 ⟨rfl, rfl, trivial⟩, h4⟩)))
          · rintro Fr _ _ _
            refine SO.v rfl (opv_idx Try.underlying55 Try.sizeOf3 hru145 rfl rfl hx147) ?_
            exact SO.nilZ fun a w h1 h2 h3 h4 h5 => PZ.of h1 h3 h5 (.cons () (.cons () (.cons () (.cons () (.nil ⟨EnvAll.of h2 ⟨rfl, rfl, rfl, trivial⟩, h4⟩)))))
          · rintro Fr _ _
            refine SO.loadI1 (j := 0) rfl Try.isAgg3 (Rd.head (Rd.pool hru145)) hx147 rfl rfl rfl rfl ?_
            exact SO.nilZ fun a w h1 h2 h3 h4 h5 => PZ.of h1 h3 h5 (.cons () (.cons () (.cons () (.nil ⟨EnvAll.of h2 ⟨rfl, rfl, trivial⟩, h4⟩))))
          · rintro Fr _
            refine SO.v rfl (opv_move rfl) ?_
            exact SO.nilZ fun a w h1 h2 h3 h4 h5 => PZ.of h1 h3 h5 (.cons () (.cons () (.nil ⟨EnvAll.of h2 ⟨rfl, rfl, trivial⟩, h4⟩)))
          · rintro Fr _ _ _
            refine SO.v rfl (opv_idx Try.underlying60 Try.sizeOf65 hR133 rfl rfl hr151) ?_
            exact SO.nilZ fun a w h1 h2 h3 h4 h5 => PZ.of h1 h3 h5 (.cons () (.cons () (.cons () (.cons () (.nil ⟨EnvAll.of h2 ⟨rfl, rfl, rfl, trivial⟩, h4⟩)))))
          · rintro Fr _ _
            refine SO.v rfl (opv_fieldIdx Try.underlying65 rfl Try.sizeOf3 hR133 hr151 rfl rfl) ?_
            exact SO.nilZ fun a w h1 h2 h3 h4 h5 => PZ.of h1 h3 h5 (.cons () (.cons () (.cons () (.nil ⟨EnvAll.of h2 ⟨rfl, rfl, trivial⟩, h4⟩))))
          · rintro Fr _ _ _
            refine SO.storeO1 (j := 6) (q := .val (.int .i64 a2)) (z' := ({ x148 with Parent := a2 } : ref10_Slot)) Try.sizeOf3 hrel132 hx149 rfl rfl rfl rfl rfl rfl rfl (fun raws153 hrel154 hR155 => ?_)
            refine SO.closeR ?_
            exact SO.nilZ fun a w h1 h2 h3 h4 h5 => PZ.of h1 h3 h5 (.cons () (.cons () (.cons () (.nil ⟨EnvAll.of h2 ⟨rfl, rfl, trivial⟩, h4⟩))))
          rintro _ _ _ _ _ _ _ _
          refine S.to (ρ' := [(12, .int .i64 x12_3), (0, bp bp0 0), (2, .int .i64 a2), (6, .int .i64 0)]) ⟨rfl, rfl, rfl, rfl, trivial⟩ ?_
          refine S.inBlock ?_
          refine S.region ?_
          refine SO.v rfl (opv_move rfl) ?_
          refine SO.v rfl (opv_add rfl rfl) ?_
          refine SO.v rfl (opv_assign rfl) ?_
          refine SO.nil ?_
          refine S.b3 ?_
          refine S.b3 ?_
          refine S.b3 ?_
          refine S.b3 ?_
          refine S.to ?_ (ih3 ((w64 (x12_3 + 1), qv0_Slots_3.set x146.toNat ({ x148 with Parent := a2 } : ref10_Slot)), ()) h)
          exact ⟨rfl, rfl, rfl, rfl, trivial⟩
        · replace h := cond_f b137 h
          refine S.condF rfl b137 ?_
          refine S.exit rfl ?_
          cases h
          refine S.closeR ?_
          refine S.b3 ?_
          refine S.b3 ?_
          refine S.b3 ?_
          refine S.b3 ?_
          refine S.to ?_ (hK3 ())
          exact ⟨rfl, trivial⟩
      rintro _
      refine S.seq ?_
      refine S.region ?_
      refine SO.v rfl (opv_assign rfl) ?_
      refine SO.nil ?_
      cases h
      refine S.b2 ?_
      refine S.closeR ?_
      refine S.b3 ?_
      refine S.b1 ?_
      refine S.b2 ?_
      refine S.b3 ?_
      exact S.ret1 Try.func32 rfl rfl (fun w hs hk => hR w _ _ ⟨v0_Slots, v0_Objs, rfl, rfl⟩ hs hk)
end Go.Proofs
namespace Go.Proofs
open Go.Sl Go.RowKit
/-! 11 (*padstone/padstoneref10.State).Move -/
def ref10_State_Move.f (k : Nat) (a0 : ref10_State) (a1 : Int) (a2 : Int) (a3 : Int) (a4 : Int) (a5 : Bool) : Option ((Int × ref10_State)) :=
  (ref10_State_ends.f a0 a1 a2).bind fun (t9, t10) => bif t10 != 0 then (some (t10, a0)) else ((((bif a5 then ((ref01_Mutate.f k t9 a3 a4).bind fun (t15, t16) => bif t16 != 0 then (some (Brk.ret (t16, a0))) else (some (Brk.nx (t15.Kind, t15.Rights, t15.Obj, t15.Badge, t15.Guard, t15.Bits)))) else (some (Brk.nx (t9.Kind, t9.Rights, t9.Obj, t9.Badge, t9.Guard, t9.Bits)))) : Option (Brk (Int × ref10_State) (Int × Int × Int × Int × Int × Int)))).bind fun o1 => Brk.go o1 (fun r => some r) (fun (y12_0_1, y12_1_1, y12_2_1, y12_3_1, y12_4_1, y12_5_1) => (ref10_State_Replace.f k a0 a1 a2).bind fun (t19, p20) => bif t19 == 0 then ((at_ p20.Slots a2).bind fun x28 => (at_ (p20.Slots.set a2.toNat ({ x28 with Cap := (⟨y12_0_1, y12_1_1, y12_2_1, y12_3_1, y12_4_1, y12_5_1⟩ : api_Cap) } : ref10_Slot)) a1).bind fun x36 => some (t19, ({ p20 with Slots := (p20.Slots.set a2.toNat ({ x28 with Cap := (⟨y12_0_1, y12_1_1, y12_2_1, y12_3_1, y12_4_1, y12_5_1⟩ : api_Cap) } : ref10_Slot)).set a1.toNat ({ x36 with Cap := (⟨0, 0, 0, 0, 0, 0⟩ : api_Cap) } : ref10_Slot) } : ref10_State))) else (some (t19, p20))))
set_option maxHeartbeats 8000000 in
set_option maxRecDepth 100000 in
theorem ref10_State_Move.ct (k : Nat) (bp0 : Nat) (v0_Slots : Value) (v0_Objs : Value) (a0 : ref10_State) (a1 : Int) (a2 : Int) (a3 : Int) (a4 : Int) (a5 : Bool) (r0 : Int) (rp0 : ref10_State) (h : ref10_State_Move.f k a0 a1 a2 a3 a4 a5 = some (r0, rp0)) :
    Ct Try.prog 11 [bp bp0 0, .int .i64 a1, .int .i64 a2, .int .i64 a3, .int .i64 a4, .bool a5] (fun _ => True) [Box bp0 [v0_Slots, v0_Objs, .int .i64 a0.NS, .int .i64 a0.NO], OwnR 65 kr_ref10_Slot v0_Slots a0.Slots, OwnR 58 kr_ref10_Obj v0_Objs a0.Objs] (fun u H' => ∃ rw0_Slots rw0_Objs, u = .int .i64 r0 ∧ H' = [Box bp0 [rw0_Slots, rw0_Objs, .int .i64 rp0.NS, .int .i64 rp0.NO], OwnR 65 kr_ref10_Slot rw0_Slots rp0.Slots, OwnR 58 kr_ref10_Obj rw0_Objs rp0.Objs]) := by
  unfold ref10_State_Move.f at h
  refine Ct.intro (n := 59) Try.func11 rfl rfl rfl ?_
  intro R w0 F hF hR
  refine S.seq ?_
  refine S.region ?_
  refine SO.v rfl (opv_assign rfl) ?_
  refine SO.nil ?_
  refine S.seq ?_
  refine S.region ?_
  refine SO.v rfl (opv_move rfl) ?_
  refine SO.v rfl (opv_move rfl) ?_
  refine SO.v rfl (opv_move rfl) ?_
  obtain ⟨⟨t9, t10⟩, ht11, h⟩ := opt_bind h
  refine SO.b1 ?_
  refine SO.openR fun raws1 A2 hrel3 hR4 => ?_
  refine SO.b2 ?_
  refine SO.openR fun raws5 A6 hrel7 hR8 => ?_
  refine SO.b1 ?_
  refine SO.b2 ?_
  refine SO.call (pre := [Box _ _, OwnO _ _ _ _ _ _, OwnO _ _ _ _ _ _]) rfl Try.call27 rfl rfl rfl (ref10_State_ends.ct bp0 v0_Slots v0_Objs raws1 A2 raws5 A6 _ _ _ _ _ ht11) trivial ?_
  rintro _ _ ⟨rfl, rfl⟩
  refine SO.v rfl (opv_move rfl) ?_
  refine SO.v rfl (opv_extract rfl rfl) ?_
  refine SO.v rfl (opv_extract rfl rfl) ?_
  refine SO.alloc rfl Try.zeroValue45 rfl (fun b12 => ?_)
  refine SO.storeN Try.sizeOf45 rfl rfl rfl rfl rfl rfl ?_
  refine SO.v rfl (opv_assign rfl) ?_
  refine SO.nil ?_
  refine S.to (ρ' := [(0, bp bp0 0), (1, .int .i64 a1), (2, .int .i64 a2), (3, .int .i64 a3), (4, .int .i64 a4), (5, .bool a5), (12, .int .i64 0), (13, bp b12 0), (14, .int .i64 t10)]) ⟨rfl, rfl, rfl, rfl, rfl, rfl, rfl, rfl, rfl, trivial⟩ ?_
  refine S.seq ?_
  refine S.seq ?_
  refine S.region ?_
  refine SO.v rfl (opv_move rfl) ?_
  refine SO.v rfl (opv_neq rfl rfl) ?_
  refine SO.nil ?_
  rcases bool_or (t10 != 0) with b13 | b13
  · replace h := cond_t b13 h
    refine S.condT rfl b13 ?_
    refine S.seq ?_
    refine S.region ?_
    refine SO.v rfl (opv_move rfl) ?_
    refine SO.v rfl (opv_assign rfl) ?_
    refine SO.nil ?_
    refine S.to (ρ' := [(12, .int .i64 t10)]) ⟨rfl, trivial⟩ ?_
    cases h
    refine S.b2 ?_
    refine S.closeR ?_
    refine S.b3 ?_
    refine S.closeR ?_
    refine S.b2 ?_
    refine S.drop ?_
    refine S.b3 ?_
    refine S.b1 ?_
    refine S.b2 ?_
    refine S.b3 ?_
    exact S.ret1 Try.func11 rfl rfl (fun w hs hk => hR w _ _ ⟨v0_Slots, v0_Objs, rfl, rfl⟩ hs hk)
  · replace h := cond_f b13 h
    refine S.condF rfl b13 ?_
    refine S.skip ?_
    refine S.seq ?_
    refine S.seq ?_
    refine S.region ?_
    refine SO.v rfl (opv_move rfl) ?_
    refine SO.nil ?_
    obtain ⟨o1, hC1, hJ1⟩ := opt_bind h
    clear h
    refine S.cutP (G := (Int × Int × Int × Int × Int × Int) × Unit) (fun x => o1 = Brk.nx x.1) (fun x => match x with | ((y12_0_1, y12_1_1, y12_2_1, y12_3_1, y12_4_1, y12_5_1), _) => [(0, bp bp0 0), (1, .int .i64 a1), (2, .int .i64 a2), (12, .int .i64 0), (13, bp b12 0)]) (fun x => match x with | ((y12_0_1, y12_1_1, y12_2_1, y12_3_1, y12_4_1, y12_5_1), _) => [Box b12 [.int .i64 y12_0_1, .int .i64 y12_1_1, .int .i64 y12_2_1, .int .i64 y12_3_1, .int .i64 y12_4_1, .int .i64 y12_5_1], Box bp0 [v0_Slots, v0_Objs, .int .i64 a0.NS, .int .i64 a0.NO], OwnO 65 kr_ref10_Slot v0_Slots raws1 A2 a0.Slots, OwnO 58 kr_ref10_Obj v0_Objs raws5 A6 a0.Objs, F]) (fun hk1 => ?_) ?_
    · replace h := hC1
      rcases bool_or a5 with b14 | b14
      · replace h := cond_t b14 h
        refine S.condT rfl b14 ?_
        refine S.seq ?_
        refine S.region ?_
        refine SO.loadN rfl Try.isAgg45 Try.sizeOf45 rfl rfl rfl ?_
        refine SO.v rfl (opv_move rfl) ?_
        refine SO.v rfl (opv_move rfl) ?_
        obtain ⟨⟨t15, t16⟩, ht17, h⟩ := opt_bind h
        refine SO.call (pre := []) rfl Try.call31 rfl rfl rfl (ref01_Mutate.ct _ _ _ _ _ _ ht17) trivial ?_
        rintro _ _ ⟨rfl, rfl⟩
        refine SO.v rfl (opv_move rfl) ?_
        refine SO.v rfl (opv_extract rfl rfl) ?_
        refine SO.v rfl (opv_extract rfl rfl) ?_
        refine SO.storeN Try.sizeOf45 rfl rfl rfl rfl rfl rfl ?_
        refine SO.v rfl (opv_assign rfl) ?_
        refine SO.nil ?_
        refine S.to (ρ' := [(0, bp bp0 0), (1, .int .i64 a1), (2, .int .i64 a2), (12, .int .i64 0), (13, bp b12 0), (14, .int .i64 t16)]) ⟨rfl, rfl, rfl, rfl, rfl, rfl, trivial⟩ ?_
        refine S.seq ?_
        refine S.region ?_
        refine SO.v rfl (opv_move rfl) ?_
        refine SO.v rfl (opv_neq rfl rfl) ?_
        refine SO.nil ?_
        rcases bool_or (t16 != 0) with b18 | b18
        · replace h := cond_t b18 h
          refine S.condT rfl b18 ?_
          refine S.seq ?_
          refine S.region ?_
          refine SO.v rfl (opv_move rfl) ?_
          refine SO.v rfl (opv_assign rfl) ?_
          refine SO.nil ?_
          refine S.to (ρ' := [(12, .int .i64 t16)]) ⟨rfl, trivial⟩ ?_
          cases h
          replace h := Brk.of_ret hJ1
          cases h
          refine S.b2 ?_
          refine S.closeR ?_
          refine S.b3 ?_
          refine S.closeR ?_
          refine S.b2 ?_
          refine S.drop ?_
          refine S.b3 ?_
          refine S.b1 ?_
          refine S.b2 ?_
          refine S.b3 ?_
          exact S.ret1 Try.func11 rfl rfl (fun w hs hk => hR w _ _ ⟨v0_Slots, v0_Objs, rfl, rfl⟩ hs hk)
        · replace h := cond_f b18 h
          refine S.condF rfl b18 ?_
          refine S.skip ?_
          cases h
          refine S.b4 ?_
          refine S.b4 ?_
          refine S.b4 ?_
          refine S.b4 ?_
          refine S.b4 ?_
          refine S.to ?_ (hk1 ((t15.Kind, t15.Rights, t15.Obj, t15.Badge, t15.Guard, t15.Bits), ()) rfl)
          exact ⟨rfl, rfl, rfl, rfl, rfl, trivial⟩
      · replace h := cond_f b14 h
        refine S.condF rfl b14 ?_
        refine S.skip ?_
        cases h
        refine S.b4 ?_
        refine S.b4 ?_
        refine S.b4 ?_
        refine S.b4 ?_
        refine S.b4 ?_
        refine S.to ?_ (hk1 ((t9.Kind, t9.Rights, t9.Obj, t9.Badge, t9.Guard, t9.Bits), ()) rfl)
        exact ⟨rfl, rfl, rfl, rfl, rfl, trivial⟩
    rintro ⟨⟨y12_0_1, y12_1_1, y12_2_1, y12_3_1, y12_4_1, y12_5_1⟩, _⟩ hq
    subst hq
    replace h := Brk.of_nx hJ1
    refine S.seq ?_
    refine S.region ?_
    refine SO.v rfl (opv_move rfl) ?_
    refine SO.v rfl (opv_move rfl) ?_
    refine SO.v rfl (opv_move rfl) ?_
    obtain ⟨⟨t19, p20⟩, ht21, h⟩ := opt_bind h
    refine SO.b2 ?_
    refine SO.closeR ?_
    refine SO.b3 ?_
    refine SO.closeR ?_
    refine SO.b1 ?_
    refine SO.b3 ?_
    refine SO.call (pre := [Box _ _, OwnR _ _ _ _, OwnR _ _ _ _]) rfl Try.call32 rfl rfl rfl (ref10_State_Replace.ct _ bp0 v0_Slots v0_Objs _ _ _ _ _ ht21) trivial ?_
    rintro _ _ ⟨u22_Slots, u22_Objs, rfl, rfl⟩
    refine SO.v rfl (opv_assign rfl) ?_
    refine SO.nil ?_
    refine S.seq ?_
    refine S.seq ?_
    refine S.region ?_
    refine SO.v rfl (opv_move rfl) ?_
    refine SO.v rfl (opv_eql rfl rfl) ?_
    refine SO.nil ?_
    rcases bool_or (t19 == 0) with b23 | b23
    · replace h := cond_t b23 h
      refine S.condT rfl b23 ?_
      refine S.seq ?_
      refine S.b1 ?_
      refine S.openR fun raws24 A25 hrel26 hR27 => ?_
      obtain ⟨x28, hx29, h⟩ := opt_bind h
      obtain ⟨r30, hr31, hc32⟩ := relR.at hrel26 hx29
      refine S.draw' (Z := fun Q => ∀ (_ : Unit) (_ : Unit) (_ : Unit) (_ : Unit) (_ : Unit) (_ : Unit) (_ : Unit), Q [(0, bp bp0 0), (14, .int .i64 t19), (1, .int .i64 a1), (12, .int .i64 0)] [OwnR 65 kr_ref10_Slot u22_Slots (p20.Slots.set a2.toNat ({ x28 with Cap := (⟨y12_0_1, y12_1_1, y12_2_1, y12_3_1, y12_4_1, y12_5_1⟩ : api_Cap) } : ref10_Slot)), Box bp0 [u22_Slots, u22_Objs, .int .i64 p20.NS, .int .i64 p20.NO], OwnR 58 kr_ref10_Obj u22_Objs p20.Objs, Box b12 [.int .i64 y12_0_1, .int .i64 y12_1_1, .int .i64 y12_2_1, .int .i64 y12_3_1, .int .i64 y12_4_1, .int .i64 y12_5_1], F]) (T := [tS 0 (bp bp0 0), tS 2 (.int .i64 a2), tS 13 (bp b12 0), tE [(14, .int .i64 t19), (1, .int .i64 a1), (12, .int .i64 0)], tR (OwnO 65 kr_ref10_Slot u22_Slots raws24 A25 p20.Slots), tR (Box bp0 [u22_Slots, u22_Objs, .int .i64 p20.NS, .int .i64 p20.NO]), tR (OwnR 58 kr_ref10_Obj u22_Objs p20.Objs), tR (Box b12 [.int .i64 y12_0_1, .int .i64 y12_1_1, .int .i64 y12_2_1, .int .i64 y12_3_1, .int .i64 y12_4_1, .int .i64 y12_5_1]), tR (F), tS 42 (bp bp0 0), tS 43 (bp bp0 0), tS 44 (bp bp0 0), tS 45 (u22_Slots), tS 46 (.int .i64 a2), tS 47 (.agg #[.int .i64 y12_0_1, .int .i64 y12_1_1, .int .i64 y12_2_1, .int .i64 y12_3_1, .int .i64 y12_4_1, .int .i64 y12_5_1]), tS 48 (idxp u22_Slots (a2.toNat * kr_ref10_Slot.sz)), tS 49 (idxp u22_Slots (a2.toNat * kr_ref10_Slot.sz)), tR (OwnR 65 kr_ref10_Slot u22_Slots (p20.Slots.set a2.toNat ({ x28 with Cap := (⟨y12_0_1, y12_1_1, y12_2_1, y12_3_1, y12_4_1, y12_5_1⟩ : api_Cap) } : ref10_Slot)))]) (D := [⟨[0], [], [9]⟩, ⟨[9], [], [10]⟩, ⟨[10], [], [11]⟩, ⟨[11, 5], [], [12]⟩, ⟨[1], [], [13]⟩, ⟨[2, 7], [], [14]⟩, ⟨[12, 13, 4], [], [15]⟩, ⟨[15, 4], [], [16]⟩, ⟨[14, 16], [4], [17]⟩]) (ini := [0, 1, 2, 3, 4, 5, 6, 7, 8]) (fin := [0, 3, 17, 5, 6, 7, 8]) (bf := [[], [0], [0, 1], [0, 1, 2], [], [], [0, 1, 2, 3, 4, 5], [0, 1, 2, 3, 4, 5, 6], [0, 1, 2, 3, 4, 5, 6, 7]]) (by kernel_rfl) (by kernel_rfl) (fun x w h1 h2 => (.cons () (.cons () (.cons () (.cons () (.cons () (.cons () (.cons () (.cons () (.cons () (.nil ⟨EnvAll.of h1 ⟨rfl, rfl, rfl, rfl, rfl, rfl, trivial⟩, h2⟩))))))))))) (fun Q => by kernel_rfl) ⟨?_, ?_, ?_, ?_, ?_, ?_, ?_, ?_, ?_, trivial⟩ ?_
      · rintro Fr _
        refine SO.v rfl (opv_move rfl) ?_
        exact SO.nilZ fun a w h1 h2 h3 h4 h5 => PZ.of h1 h3 h5 (.cons () (.cons () (.nil ⟨EnvAll.of h2 ⟨rfl, rfl, trivial⟩, h4⟩)))
      · rintro Fr _
        refine SO.v rfl (opv_nilCheck rfl) ?_
        exact SO.nilZ fun a w h1 h2 h3 h4 h5 => PZ.of h1 h3 h5 (.cons () (.cons () (.nil ⟨EnvAll.of h2 ⟨rfl, rfl, trivial⟩, h4⟩)))
      · rintro Fr _
        refine SO.v rfl (opv_fieldAddr Try.underlying63 rfl Try.sizeOf60 rfl rfl) ?_
        exact SO.nilZ fun a w h1 h2 h3 h4 h5 => PZ.of h1 h3 h5 (.cons () (.cons () (.nil ⟨EnvAll.of h2 ⟨rfl, rfl, trivial⟩, h4⟩)))
      · rintro Fr _ _
        refine SO.load1 rfl Try.isAgg60 rfl rfl ?_
        exact SO.nilZ fun a w h1 h2 h3 h4 h5 => PZ.of h1 h3 h5 (.cons () (.cons () (.cons () (.nil ⟨EnvAll.of h2 ⟨rfl, rfl, trivial⟩, h4⟩))))
      · rintro Fr _
        refine SO.v rfl (opv_move rfl) ?_
        exact SO.nilZ fun a w h1 h2 h3 h4 h5 => PZ.of h1 h3 h5 (.cons () (.cons () (.nil ⟨EnvAll.of h2 ⟨rfl, rfl, trivial⟩, h4⟩)))
      · rintro Fr _ _
        refine SO.loadN rfl Try.isAgg45 Try.sizeOf45 rfl rfl rfl ?_
        exact SO.nilZ fun a w h1 h2 h3 h4 h5 => PZ.of h1 h3 h5 (.cons () (.cons () (.cons () (.nil ⟨EnvAll.of h2 ⟨rfl, rfl, trivial⟩, h4⟩))))
      · rintro Fr _ _ _
        refine SO.v rfl (opv_idx Try.underlying60 Try.sizeOf65 hR27 rfl rfl hr31) ?_
        exact SO.nilZ fun a w h1 h2 h3 h4 h5 => PZ.of h1 h3 h5 (.cons () (.cons () (.cons () (.cons () (.nil ⟨EnvAll.of h2 ⟨rfl, rfl, rfl, trivial⟩, h4⟩)))))
      · rintro Fr _ _
        refine SO.v rfl (opv_fieldIdx Try.underlying65 rfl Try.sizeOf45 hR27 hr31 rfl rfl) ?_
        exact SO.nilZ fun a w h1 h2 h3 h4 h5 => PZ.of h1 h3 h5 (.cons () (.cons () (.cons () (.nil ⟨EnvAll.of h2 ⟨rfl, rfl, trivial⟩, h4⟩))))
      · rintro Fr _ _ _
        refine SO.storeOP (j := 0) (us := [.int .i64 y12_0_1, .int .i64 y12_1_1, .int .i64 y12_2_1, .int .i64 y12_3_1, .int .i64 y12_4_1, .int .i64 y12_5_1]) (z' := ({ x28 with Cap := (⟨y12_0_1, y12_1_1, y12_2_1, y12_3_1, y12_4_1, y12_5_1⟩ : api_Cap) } : ref10_Slot)) Try.sizeOf45 hrel26 hx29 rfl rfl rfl rfl rfl rfl rfl (fun raws33 hrel34 hR35 => ?_)
        refine SO.closeR ?_
        exact SO.nilZ fun a w h1 h2 h3 h4 h5 => PZ.of h1 h3 h5 (.cons () (.cons () (.cons () (.nil ⟨EnvAll.of h2 ⟨rfl, rfl, trivial⟩, h4⟩))))
      rintro _ _ _ _ _ _ _
      refine S.to (ρ' := [(0, bp bp0 0), (14, .int .i64 t19), (1, .int .i64 a1), (12, .int .i64 0)]) ⟨rfl, rfl, rfl, rfl, trivial⟩ ?_
      refine S.region ?_
      refine SO.v rfl (opv_move rfl) ?_
      refine SO.v rfl (opv_nilCheck rfl) ?_
      refine SO.v rfl (opv_fieldAddr Try.underlying63 rfl Try.sizeOf60 rfl rfl) ?_
      refine SO.b1 ?_
      refine SO.load1 rfl Try.isAgg60 rfl rfl ?_
      refine SO.v rfl (opv_move rfl) ?_
      refine SO.v rfl (opv_build (v := .agg #[.int .i64 0, .int .i64 0, .int .i64 0, .int .i64 0, .int .i64 0, .int .i64 0]) rfl (by intro w; kernel_rfl)) ?_
      refine SO.b1 ?_
      refine SO.openR fun raws41 A42 hrel43 hR44 => ?_
      obtain ⟨x36, hx37, h⟩ := opt_bind h
      obtain ⟨r38, hr39, hc40⟩ := relR.at hrel43 hx37
      refine SO.v rfl (opv_idx Try.underlying60 Try.sizeOf65 hR44 rfl rfl hr39) ?_
      refine SO.v rfl (opv_fieldIdx Try.underlying65 rfl Try.sizeOf45 hR44 hr39 rfl rfl) ?_
      refine SO.storeOP (j := 0) (us := [.int .i64 0, .int .i64 0, .int .i64 0, .int .i64 0, .int .i64 0, .int .i64 0]) (z' := ({ x36 with Cap := (⟨0, 0, 0, 0, 0, 0⟩ : api_Cap) } : ref10_Slot)) Try.sizeOf45 hrel43 hx37 rfl rfl rfl rfl rfl rfl rfl (fun raws45 hrel46 hR47 => ?_)
      refine SO.nil ?_
      refine S.to (ρ' := [(14, .int .i64 t19), (12, .int .i64 0)]) ⟨rfl, rfl, trivial⟩ ?_
      refine S.seq ?_
      refine S.region ?_
      refine SO.v rfl (opv_move rfl) ?_
      refine SO.v rfl (opv_assign rfl) ?_
      refine SO.nil ?_
      cases h
      refine S.closeR ?_
      refine S.b3 ?_
      refine S.drop ?_
      refine S.b3 ?_
      refine S.b3 ?_
      refine S.b2 ?_
      refine S.b3 ?_
      exact S.ret1 Try.func11 rfl rfl (fun w hs hk => hR w _ _ ⟨u22_Slots, u22_Objs, rfl, rfl⟩ hs hk)
    · replace h := cond_f b23 h
      refine S.condF rfl b23 ?_
      refine S.skip ?_
      refine S.seq ?_
      refine S.region ?_
      refine SO.v rfl (opv_move rfl) ?_
      refine SO.v rfl (opv_assign rfl) ?_
      refine SO.nil ?_
      refine S.to (ρ' := [(12, .int .i64 t19)]) ⟨rfl, trivial⟩ ?_
      cases h
      refine S.b3 ?_
      refine S.drop ?_
      refine S.b3 ?_
      refine S.b3 ?_
      refine S.b3 ?_
      refine S.b3 ?_
      exact S.ret1 Try.func11 rfl rfl (fun w hs hk => hR w _ _ ⟨u22_Slots, u22_Objs, rfl, rfl⟩ hs hk)
end Go.Proofs
namespace Go.Proofs
open Go.Sl Go.RowKit
/-! 35 (*padstone/padstoneref10.State).Leaf -/
def ref10_State_Leaf.l1 (a0 : ref10_State) : Nat → (Int × Int) → Option (Int)
  | 0, _ => none
  | k + 1, (x6_1, x1_1) => (bif decide (x6_1 < 96) then ((at_ a0.Slots x1_1).bind fun x11 => some (decide (0 < (x11.Kids.length : Int)))) else (some false)).bind fun c9 => bif c9 then ((at_ a0.Slots x1_1).bind fun x20 => (at_ x20.Kids 0).bind fun x28 => ref10_State_Leaf.l1 a0 k (w64 (x6_1 + 1), x28)) else (some x1_1)
def ref10_State_Leaf.f (k : Nat) (a0 : ref10_State) (a1 : Int) : Option (Int) :=
  (ref10_slot.f a1).bind fun t5 => bif !t5 then (some (-1)) else ((ref10_State_Leaf.l1 a0 k (0, a1)).bind fun j1_e1 => some j1_e1)
set_option maxHeartbeats 8000000 in
set_option maxRecDepth 100000 in
theorem ref10_State_Leaf.ct (k : Nat) (bp0 : Nat) (v0_Slots : Value) (v0_Objs : Value) (raws_v0_Slots : List (Raw (kr_ref10_Slot).sz)) (A_v0_Slots : HProp) (raws_v0_Objs : List (Raw (kr_ref10_Obj).sz)) (A_v0_Objs : HProp) (a0 : ref10_State) (a1 : Int) (r0 : Int) (h : ref10_State_Leaf.f k a0 a1 = some r0) :
    Ct Try.prog 35 [bp bp0 0, .int .i64 a1] (fun _ => True) [Box bp0 [v0_Slots, v0_Objs, .int .i64 a0.NS, .int .i64 a0.NO], OwnO 65 kr_ref10_Slot v0_Slots raws_v0_Slots A_v0_Slots a0.Slots, OwnO 58 kr_ref10_Obj v0_Objs raws_v0_Objs A_v0_Objs a0.Objs] (fun u H' => u = .int .i64 r0 ∧ H' = [Box bp0 [v0_Slots, v0_Objs, .int .i64 a0.NS, .int .i64 a0.NO], OwnO 65 kr_ref10_Slot v0_Slots raws_v0_Slots A_v0_Slots a0.Slots, OwnO 58 kr_ref10_Obj v0_Objs raws_v0_Objs A_v0_Objs a0.Objs]) := by
  unfold ref10_State_Leaf.f at h
  refine Ct.intro (n := 38) Try.func35 rfl rfl rfl ?_
  intro R w0 F hF hR
  refine S.b1 ?_
  refine S.rdO fun hrel1 hR2 => ?_
  refine S.b2 ?_
  refine S.rdO fun hrel3 hR4 => ?_
  refine S.seq ?_
  refine S.region ?_
  refine SO.v rfl (opv_assign rfl) ?_
  refine SO.nil ?_
  refine S.seq ?_
  refine S.region ?_
  refine SO.v rfl (opv_move rfl) ?_
  obtain ⟨t5, ht6, h⟩ := opt_bind h
  refine SO.call (pre := []) rfl Try.call33 rfl rfl rfl (ref10_slot.ct _ _ ht6) trivial ?_
  rintro _ _ ⟨rfl, rfl⟩
  refine SO.v rfl (opv_assign rfl) ?_
  refine SO.nil ?_
  refine S.seq ?_
  refine S.seq ?_
  refine S.region ?_
  refine SO.v rfl (opv_move rfl) ?_
  refine SO.v rfl (opv_not rfl) ?_
  refine SO.nil ?_
  rcases bool_or (!t5) with b7 | b7
  · replace h := cond_t b7 h
    refine S.condT rfl b7 ?_
    refine S.seq ?_
    refine S.region ?_
    refine SO.v rfl (opv_assign rfl) ?_
    refine SO.nil ?_
    refine S.to (ρ' := [(4, .int .i64 (-1))]) ⟨rfl, trivial⟩ ?_
    cases h
    refine S.b3 ?_
    refine S.b1 ?_
    refine S.b2 ?_
    refine S.b3 ?_
    exact S.ret1 Try.func35 rfl rfl (fun w hs hk => hR w _ _ ⟨rfl, rfl⟩ hs hk)
  · replace h := cond_f b7 h
    refine S.condF rfl b7 ?_
    refine S.skip ?_
    refine S.seq ?_
    refine S.seq ?_
    refine S.region ?_
    refine SO.v rfl (opv_assign rfl) ?_
    refine SO.nil ?_
    obtain ⟨j1_e1, hl1, h⟩ := opt_bind h
    refine S.b3 ?_
    refine S.b3 ?_
    refine S.b3 ?_
    refine S.b3 ?_
    refine S.to (ρ' := [(6, .int .i64 0), (4, .int .i64 0), (0, bp bp0 0), (1, .int .i64 a1)]) ⟨rfl, rfl, rfl, rfl, trivial⟩ ?_
    refine S.forloop (X := (Int × Int) × Unit) (O := Int) (fun m x => ref10_State_Leaf.l1 a0 m x.1) (fun x => match x with | ((x6_1, x1_1), _) => [(6, .int .i64 x6_1), (4, .int .i64 0), (0, bp bp0 0), (1, .int .i64 x1_1)]) (fun x => match x with | ((x6_1, x1_1), _) => [OwnO 58 kr_ref10_Obj v0_Objs raws_v0_Objs A_v0_Objs a0.Objs, OwnO 65 kr_ref10_Slot v0_Slots raws_v0_Slots A_v0_Slots a0.Slots, Box bp0 [v0_Slots, v0_Objs, .int .i64 a0.NS, .int .i64 a0.NO], F]) (fun Sk => (fun j1_e1 => ∀ _ : Unit, Sk [(1, .int .i64 j1_e1), (4, .int .i64 0)] [OwnO 58 kr_ref10_Obj v0_Objs raws_v0_Objs A_v0_Objs a0.Objs, OwnO 65 kr_ref10_Slot v0_Slots raws_v0_Slots A_v0_Slots a0.Slots, Box bp0 [v0_Slots, v0_Objs, .int .i64 a0.NS, .int .i64 a0.NO], F])) (fun _ => rfl) ?_ (m := k) (x := ((0, a1), ())) hl1 ?_
    · clear h hl1
      intro k x o_1 h hK1 ih1
      obtain ⟨⟨x6_1, x1_1⟩, _⟩ := x
      replace h : ref10_State_Leaf.l1 a0 (k + 1) (x6_1, x1_1) = some o_1 := h
      first | rw [ref10_State_Leaf.l1] at h | unfold ref10_State_Leaf.l1 at h
      refine S.seq ?_
      refine S.seq ?_
      refine S.region ?_
      refine SO.v rfl (opv_move rfl) ?_
      refine SO.v rfl (opv_lss rfl rfl) ?_
      refine SO.v rfl (opv_move rfl) ?_
      obtain ⟨c9, hc10, hgk⟩ := opt_bind h
      refine SO.cut 11 24 (.bool c9) [OwnO 58 kr_ref10_Obj v0_Objs raws_v0_Objs A_v0_Objs a0.Objs, OwnO 65 kr_ref10_Slot v0_Slots raws_v0_Slots A_v0_Slots a0.Slots, Box bp0 [v0_Slots, v0_Objs, .int .i64 a0.NS, .int .i64 a0.NO], F] (fun l2 hk2 => ?_) ?_
      · clear hgk
        replace h := hc10
        rcases bool_or (decide (x6_1 < 96)) with b8 | b8
        · replace h := cond_t b8 h
          refine SO.takeT rfl rfl rfl b8 ?_
          refine SO.v rfl (opv_move rfl) ?_
          refine SO.takeT rfl rfl rfl b8 ?_
          refine SO.v rfl (opv_nilCheck rfl) ?_
          refine SO.takeT rfl rfl rfl b8 ?_
          refine SO.v rfl (opv_fieldAddr Try.underlying63 rfl Try.sizeOf60 rfl rfl) ?_
          refine SO.takeT rfl rfl rfl b8 ?_
          refine SO.b2 ?_
          refine SO.load1 rfl Try.isAgg60 rfl rfl ?_
          refine SO.takeT rfl rfl rfl b8 ?_
          refine SO.v rfl (opv_move rfl) ?_
          refine SO.takeT rfl rfl rfl b8 ?_
          obtain ⟨x11, hx12, h⟩ := opt_bind h
          obtain ⟨r13, hr14, hc15⟩ := relR.at hrel1 hx12
          refine SO.v rfl (opv_idx Try.underlying60 Try.sizeOf65 hR2 rfl rfl hr14) ?_
          refine SO.takeT rfl rfl rfl b8 ?_
          refine SO.v rfl (opv_fieldIdx Try.underlying65 rfl Try.sizeOf55 hR2 hr14 rfl rfl) ?_
          refine SO.takeT rfl rfl rfl b8 ?_
          obtain ⟨u16, hu17, hru18⟩ := hc15.sl 7 rfl
          refine SO.loadI1 (j := 7) rfl Try.isAgg55 (Rd.tail (Rd.tail (Rd.head hR2))) hr14 rfl rfl rfl hu17 ?_
          refine SO.takeT rfl rfl rfl b8 ?_
          refine SO.v rfl (opv_lenR rfl Try.underlying55 hru18 rfl) ?_
          refine SO.takeT rfl rfl rfl b8 ?_
          refine SO.v rfl (opv_gtr rfl rfl) ?_
          cases h
          refine SO.v rfl (opv_pick_t' b8 rfl rfl) ?_
          refine SO.b3 ?_
          refine SO.b1 ?_
          refine SO.b3 ?_
          refine SO.b3 ?_
          exact hk2.fitc (m := 11) rfl (rfl) rfl
        · replace h := cond_f b8 h
          refine SO.passF rfl rfl rfl b8 rfl rfl ?_
          refine SO.passF rfl rfl rfl b8 rfl rfl ?_
          refine SO.passF rfl rfl rfl b8 rfl rfl ?_
          refine SO.passF rfl rfl rfl b8 rfl rfl ?_
          refine SO.passF rfl rfl rfl b8 rfl rfl ?_
          refine SO.passF rfl rfl rfl b8 rfl rfl ?_
          refine SO.passF rfl rfl rfl b8 rfl rfl ?_
          refine SO.passF rfl rfl rfl b8 rfl rfl ?_
          refine SO.passF rfl rfl rfl b8 rfl rfl ?_
          refine SO.passF rfl rfl rfl b8 rfl rfl ?_
          cases h
          refine SO.v rfl (opv_pick_f' b8 rfl rfl) ?_
          refine SO.b3 ?_
          refine SO.b3 ?_
          refine SO.b3 ?_
          refine SO.b3 ?_
          exact hk2.fitc (m := 11) rfl (rfl) rfl
      clear hc10
      replace h := hgk
      refine SO.nil ?_
      rcases bool_or c9 with b19 | b19
      · replace h := cond_t b19 h
        refine S.condT rfl b19 ?_
        refine S.skip ?_
        refine S.seq ?_
        refine S.block ?_
        refine S.region ?_
        refine SO.v rfl (opv_move rfl) ?_
        refine SO.v rfl (opv_nilCheck rfl) ?_
        refine SO.v rfl (opv_fieldAddr Try.underlying63 rfl Try.sizeOf60 rfl rfl) ?_
        refine SO.b2 ?_
        refine SO.load1 rfl Try.isAgg60 rfl rfl ?_
        refine SO.v rfl (opv_move rfl) ?_
        obtain ⟨x20, hx21, h⟩ := opt_bind h
        obtain ⟨r22, hr23, hc24⟩ := relR.at hrel1 hx21
        refine SO.v rfl (opv_idx Try.underlying60 Try.sizeOf65 hR2 rfl rfl hr23) ?_
        refine SO.v rfl (opv_fieldIdx Try.underlying65 rfl Try.sizeOf55 hR2 hr23 rfl rfl) ?_
        obtain ⟨u25, hu26, hru27⟩ := hc24.sl 7 rfl
        refine SO.loadI1 (j := 7) rfl Try.isAgg55 (Rd.tail (Rd.tail (Rd.head hR2))) hr23 rfl rfl rfl hu26 ?_
        obtain ⟨x28, hx29, h⟩ := opt_bind h
        refine SO.v rfl (opv_idx Try.underlying55 Try.sizeOf3 hru27 rfl rfl hx29) ?_
        refine SO.loadI1 (j := 0) rfl Try.isAgg3 (Rd.tail (Rd.tail (Rd.head (Rd.pool hru27)))) hx29 rfl rfl rfl rfl ?_
        refine SO.v rfl (opv_assign rfl) ?_
        refine SO.nil ?_
        refine S.to (ρ' := [(6, .int .i64 x6_1), (4, .int .i64 0), (0, bp bp0 0), (1, .int .i64 x28)]) ⟨rfl, rfl, rfl, rfl, trivial⟩ ?_
        refine S.inBlock ?_
        refine S.region ?_
        refine SO.v rfl (opv_move rfl) ?_
        refine SO.v rfl (opv_add rfl rfl) ?_
        refine SO.v rfl (opv_assign rfl) ?_
        refine SO.nil ?_
        refine S.b3 ?_
        refine S.b1 ?_
        refine S.b3 ?_
        refine S.b3 ?_
        refine S.to ?_ (ih1 ((w64 (x6_1 + 1), x28), ()) h)
        exact ⟨rfl, rfl, rfl, rfl, trivial⟩
      · replace h := cond_f b19 h
        refine S.condF rfl b19 ?_
        refine S.exit rfl ?_
        cases h
        refine S.b3 ?_
        refine S.b3 ?_
        refine S.b3 ?_
        refine S.b3 ?_
        refine S.to ?_ (hK1 ())
        exact ⟨rfl, rfl, trivial⟩
    rintro _
    refine S.seq ?_
    refine S.region ?_
    refine SO.v rfl (opv_move rfl) ?_
    refine SO.v rfl (opv_assign rfl) ?_
    refine SO.nil ?_
    cases h
    refine S.b3 ?_
    refine S.b1 ?_
    refine S.b2 ?_
    refine S.b3 ?_
    exact S.ret1 Try.func35 rfl rfl (fun w hs hk => hR w _ _ ⟨rfl, rfl⟩ hs hk)
end Go.Proofs
namespace Go.Proofs
open Go.Sl Go.RowKit
/-! 13 (*padstone/padstoneref10.State).One -/
def ref10_State_One.f (k : Nat) (a0 : ref10_State) (a1 : Int) : Option ((Bool × Int × ref10_State)) :=
  (ref10_State_Leaf.f k a0 a1).bind fun t9 => bif decide (t9 < 0) then (some (false, 2, a0)) else (bif t9 == a1 then (some (false, 0, a0)) else ((ref10_State_Delete.f k a0 t9).bind fun (t13, p14) => some (true, t13, p14)))
set_option maxHeartbeats 8000000 in
set_option maxRecDepth 100000 in
theorem ref10_State_One.ct (k : Nat) (bp0 : Nat) (v0_Slots : Value) (v0_Objs : Value) (a0 : ref10_State) (a1 : Int) (r0 : Bool) (r1 : Int) (rp0 : ref10_State) (h : ref10_State_One.f k a0 a1 = some (r0, r1, rp0)) :
    Ct Try.prog 13 [bp bp0 0, .int .i64 a1] (fun _ => True) [Box bp0 [v0_Slots, v0_Objs, .int .i64 a0.NS, .int .i64 a0.NO], OwnR 65 kr_ref10_Slot v0_Slots a0.Slots, OwnR 58 kr_ref10_Obj v0_Objs a0.Objs] (fun u H' => ∃ rw0_Slots rw0_Objs, u = .tuple #[.bool r0, .int .i64 r1] ∧ H' = [Box bp0 [rw0_Slots, rw0_Objs, .int .i64 rp0.NS, .int .i64 rp0.NO], OwnR 65 kr_ref10_Slot rw0_Slots rp0.Slots, OwnR 58 kr_ref10_Obj rw0_Objs rp0.Objs]) := by
  unfold ref10_State_One.f at h
  refine Ct.intro (n := 18) Try.func13 rfl rfl rfl ?_
  intro R w0 F hF hR
  refine S.seq ?_
  refine S.region ?_
  refine SO.v rfl (opv_assign rfl) ?_
  refine SO.v rfl (opv_assign rfl) ?_
  refine SO.nil ?_
  refine S.seq ?_
  refine S.region ?_
  refine SO.v rfl (opv_move rfl) ?_
  refine SO.v rfl (opv_move rfl) ?_
  obtain ⟨t9, ht10, h⟩ := opt_bind h
  refine SO.b1 ?_
  refine SO.openR fun raws1 A2 hrel3 hR4 => ?_
  refine SO.b2 ?_
  refine SO.openR fun raws5 A6 hrel7 hR8 => ?_
  refine SO.b1 ?_
  refine SO.b2 ?_
  refine SO.call (pre := [Box _ _, OwnO _ _ _ _ _ _, OwnO _ _ _ _ _ _]) rfl Try.call35 rfl rfl rfl (ref10_State_Leaf.ct _ bp0 v0_Slots v0_Objs raws1 A2 raws5 A6 _ _ _ ht10) trivial ?_
  rintro _ _ ⟨rfl, rfl⟩
  refine SO.v rfl (opv_assign rfl) ?_
  refine SO.nil ?_
  refine S.seq ?_
  refine S.seq ?_
  refine S.region ?_
  refine SO.v rfl (opv_move rfl) ?_
  refine SO.v rfl (opv_lss rfl rfl) ?_
  refine SO.nil ?_
  rcases bool_or (decide (t9 < 0)) with b11 | b11
  · replace h := cond_t b11 h
    refine S.condT rfl b11 ?_
    refine S.seq ?_
    refine S.region ?_
    refine SO.v rfl (opv_assign rfl) ?_
    refine SO.v rfl (opv_assign rfl) ?_
    refine SO.nil ?_
    refine S.to (ρ' := [(4, .bool false), (5, .int .i64 2)]) ⟨rfl, rfl, trivial⟩ ?_
    cases h
    refine S.b1 ?_
    refine S.closeR ?_
    refine S.b2 ?_
    refine S.closeR ?_
    refine S.b3 ?_
    refine S.b1 ?_
    refine S.b2 ?_
    refine S.b3 ?_
    exact S.ret2 Try.func13 rfl rfl rfl (fun w hs hk => hR w _ _ ⟨v0_Slots, v0_Objs, rfl, rfl⟩ hs hk)
  · replace h := cond_f b11 h
    refine S.condF rfl b11 ?_
    refine S.skip ?_
    refine S.seq ?_
    refine S.seq ?_
    refine S.region ?_
    refine SO.v rfl (opv_move rfl) ?_
    refine SO.v rfl (opv_move rfl) ?_
    refine SO.v rfl (opv_eql rfl rfl) ?_
    refine SO.nil ?_
    refine S.to (ρ' := [(0, bp bp0 0), (4, .bool false), (5, .int .i64 0), (6, .int .i64 t9), (14, .bool (t9 == a1))]) ⟨rfl, rfl, rfl, rfl, rfl, trivial⟩ ?_
    rcases bool_or (t9 == a1) with b12 | b12
    · replace h := cond_t b12 h
      refine S.condT rfl b12 ?_
      refine S.seq ?_
      refine S.region ?_
      refine SO.v rfl (opv_assign rfl) ?_
      refine SO.v rfl (opv_assign rfl) ?_
      refine SO.nil ?_
      cases h
      refine S.b1 ?_
      refine S.closeR ?_
      refine S.b2 ?_
      refine S.closeR ?_
      refine S.b3 ?_
      refine S.b1 ?_
      refine S.b2 ?_
      refine S.b3 ?_
      exact S.ret2 Try.func13 rfl rfl rfl (fun w hs hk => hR w _ _ ⟨v0_Slots, v0_Objs, rfl, rfl⟩ hs hk)
    · replace h := cond_f b12 h
      refine S.condF rfl b12 ?_
      refine S.skip ?_
      refine S.seq ?_
      refine S.region ?_
      refine SO.v rfl (opv_move rfl) ?_
      refine SO.v rfl (opv_move rfl) ?_
      obtain ⟨⟨t13, p14⟩, ht15, h⟩ := opt_bind h
      refine SO.b1 ?_
      refine SO.closeR ?_
      refine SO.b2 ?_
      refine SO.closeR ?_
      refine SO.b1 ?_
      refine SO.b2 ?_
      refine SO.call (pre := [Box _ _, OwnR _ _ _ _, OwnR _ _ _ _]) rfl Try.call12 rfl rfl rfl (ref10_State_Delete.ct _ bp0 v0_Slots v0_Objs _ _ _ _ ht15) trivial ?_
      rintro _ _ ⟨u16_Slots, u16_Objs, rfl, rfl⟩
      refine SO.v rfl (opv_assign rfl) ?_
      refine SO.v rfl (opv_assign rfl) ?_
      refine SO.nil ?_
      cases h
      refine S.b3 ?_
      refine S.b3 ?_
      refine S.b3 ?_
      refine S.b3 ?_
      exact S.ret2 Try.func13 rfl rfl rfl (fun w hs hk => hR w _ _ ⟨u16_Slots, u16_Objs, rfl, rfl⟩ hs hk)
end Go.Proofs
namespace Go.Proofs
open Go.Sl Go.RowKit
/-! 3 padstone/padstonelaw12.DerivePlays -/
def law12_DerivePlays.l1 (a1 : List law12_Deed) : Nat → (Int × (List ref10_Slot) × (List ref10_Obj) × Int × Int × (List Int)) → Option (Brk Bool ((List ref10_Slot) × (List ref10_Obj) × Int × Int × (List Int)))
  | 0, _ => none
  | k + 1, (x8_1, y8_0_1, y8_1_1, y8_2_1, y8_3_1, qv20_1) => bif decide (x8_1 < (a1.length : Int)) then ((at_ a1 x8_1).bind fun x24 => (VM.run plainI (law12_do.f k x24) qv20_1).bind fun ((t27, t28), s30) => (law10_Pick.f x24.What 8).bind fun t32 => ((bif t32 == 0 then (some (t32 == 0)) else (some (t32 == 1))).bind fun j58_3 => bif j58_3 then ((ref10_State_Derive.f k (⟨y8_0_1, y8_1_1, y8_2_1, y8_3_1⟩ : ref10_State) x24.A x24.B x24.M 0 false).bind fun (t36, p37) => some (t36, false, p37.Slots, p37.Objs, p37.NS, p37.NO)) else ((bif t32 == 2 then (some (t32 == 2)) else (some (t32 == 3))).bind fun j69_4 => bif j69_4 then ((ref10_State_Derive.f k (⟨y8_0_1, y8_1_1, y8_2_1, y8_3_1⟩ : ref10_State) x24.A x24.B x24.M x24.N true).bind fun (t43, p44) => some (t43, false, p44.Slots, p44.Objs, p44.NS, p44.NO)) else (bif t32 == 4 then ((ref10_State_Move.f k (⟨y8_0_1, y8_1_1, y8_2_1, y8_3_1⟩ : ref10_State) x24.A x24.B 0 0 false).bind fun (t49, p50) => some (t49, false, p50.Slots, p50.Objs, p50.NS, p50.NO)) else (bif t32 == 5 then ((ref10_State_Move.f k (⟨y8_0_1, y8_1_1, y8_2_1, y8_3_1⟩ : ref10_State) x24.A x24.B x24.M x24.N true).bind fun (t55, p56) => some (t55, false, p56.Slots, p56.Objs, p56.NS, p56.NO)) else (bif t32 == 6 then ((ref10_State_Delete.f k (⟨y8_0_1, y8_1_1, y8_2_1, y8_3_1⟩ : ref10_State) x24.A).bind fun (t61, p62) => some (t61, false, p62.Slots, p62.Objs, p62.NS, p62.NO)) else ((ref10_State_One.f k (⟨y8_0_1, y8_1_1, y8_2_1, y8_3_1⟩ : ref10_State) x24.A).bind fun (t66, t67, p68) => some (t67, t66, p68.Slots, p68.Objs, p68.NS, p68.NO))))))).bind fun (j12_2, j13_2, y8_0_2, y8_1_2, y8_2_2, y8_3_2) => (law00_Code.f k t27).bind fun t72 => (bif (t72 != j12_2) || (t28 != j13_2) then (some true) else ((ref10_State_Words.f k (⟨y8_0_2, y8_1_2, y8_2_2, y8_3_2⟩ : ref10_State)).bind fun t86 => (ref10_Same.f k s30 t86).bind fun t90 => some (!t90))).bind fun c84 => bif c84 then (some (Brk.ret false)) else (law12_DerivePlays.l1 a1 k (w64 (x8_1 + 1), y8_0_2, y8_1_2, y8_2_2, y8_3_2, s30))) else (some (Brk.nx (y8_0_1, y8_1_1, y8_2_1, y8_3_1, qv20_1)))
def law12_DerivePlays.f (k : Nat) (a0 : Int) (a1 : List law12_Deed) : Option (Bool) :=
  (law12_up.f k ).bind fun t1 => bif ((decide (a0 < 0)) || (decide (7 < a0))) || (decide (100 < (a1.length : Int))) then (some t1) else ((ref10_Boot.f k a0).bind fun t6 => (ref10_State_Words.f k t6).bind fun t18 => (law12_DerivePlays.l1 a1 k (0, t6.Slots, t6.Objs, t6.NS, t6.NO, t18)).bind fun o1 => Brk.go o1 (fun r => some r) (fun (y8_0_e1, y8_1_e1, y8_2_e1, y8_3_e1, qv20_e1) => some t1))
set_option maxHeartbeats 8000000 in
set_option maxRecDepth 100000 in
theorem law12_DerivePlays.ct (k : Nat) (v1 : Value) (a0 : Int) (a1 : List law12_Deed) (r0 : Bool) (h : law12_DerivePlays.f k a0 a1 = some r0) :
    Ct Try.prog 3 [.int .i64 a0, v1] (fun F => Rd ek_law12_Deed v1 a1 F) [] (fun u H' => u = .bool r0 ∧ H' = []) := by
  unfold law12_DerivePlays.f at h
  refine Ct.intro (n := 125) Try.func3 rfl rfl rfl ?_
  intro R w0 F hF hR
  have hF1 := hF
  refine S.seq ?_
  refine S.region ?_
  refine SO.v rfl (opv_assign rfl) ?_
  refine SO.nil ?_
  refine S.seq ?_
  refine S.region ?_
  obtain ⟨t1, ht2, h⟩ := opt_bind h
  refine SO.call (pre := []) rfl Try.call5 rfl rfl rfl (law12_up.ct _ _ ht2) trivial ?_
  rintro _ _ ⟨rfl, rfl⟩
  refine SO.v rfl (opv_assign rfl) ?_
  refine SO.nil ?_
  refine S.seq ?_
  refine S.seq ?_
  refine S.region ?_
  refine SO.v rfl (opv_move rfl) ?_
  refine SO.v rfl (opv_lss rfl rfl) ?_
  refine SO.v rfl (opv_move rfl) ?_
  refine SO.cut 3 20 (.bool ((decide (a0 < 0)) || (decide (7 < a0)))) [F] (fun l2 hk2 => ?_) ?_
  · rcases bool_or (decide (a0 < 0)) with b3 | b3
    · refine SO.passF rfl rfl rfl b3 rfl rfl ?_
      refine SO.passF rfl rfl rfl b3 rfl rfl ?_
      refine SO.v rfl (opv_pick_t' b3 rfl rfl) ?_
      exact hk2.fitc (m := 3) rfl (or_t b3) rfl
    · refine SO.takeT rfl rfl rfl b3 ?_
      refine SO.v rfl (opv_move rfl) ?_
      refine SO.takeT rfl rfl rfl b3 ?_
      refine SO.v rfl (opv_gtr rfl rfl) ?_
      refine SO.v rfl (opv_pick_f' b3 rfl rfl) ?_
      exact hk2.fitc (m := 3) rfl (or_f b3) rfl
  refine SO.v rfl (opv_move rfl) ?_
  refine SO.cut 4 25 (.bool (((decide (a0 < 0)) || (decide (7 < a0))) || (decide (100 < (a1.length : Int))))) [F] (fun l2 hk2 => ?_) ?_
  · rcases bool_or ((decide (a0 < 0)) || (decide (7 < a0))) with b4 | b4
    · refine SO.passF rfl rfl rfl b4 rfl rfl ?_
      refine SO.passF rfl rfl rfl b4 rfl rfl ?_
      refine SO.passF rfl rfl rfl b4 rfl rfl ?_
      refine SO.v rfl (opv_pick_t' b4 rfl rfl) ?_
      exact hk2.fitc (m := 4) rfl (or_t b4) rfl
    · refine SO.takeT rfl rfl rfl b4 ?_
      refine SO.v rfl (opv_move rfl) ?_
      refine SO.takeT rfl rfl rfl b4 ?_
      refine SO.v rfl (opv_lenR rfl Try.underlying22 hF1 rfl) ?_
      refine SO.takeT rfl rfl rfl b4 ?_
      refine SO.v rfl (opv_gtr rfl rfl) ?_
      refine SO.v rfl (opv_pick_f' b4 rfl rfl) ?_
      exact hk2.fitc (m := 4) rfl (or_f b4) rfl
  refine SO.nil ?_
  rcases bool_or (((decide (a0 < 0)) || (decide (7 < a0))) || (decide (100 < (a1.length : Int)))) with b5 | b5
  · replace h := cond_t b5 h
    refine S.condT rfl b5 ?_
    refine S.seq ?_
    refine S.region ?_
    refine SO.v rfl (opv_move rfl) ?_
    refine SO.v rfl (opv_assign rfl) ?_
    refine SO.nil ?_
    refine S.to (ρ' := [(4, .bool t1)]) ⟨rfl, trivial⟩ ?_
    cases h
    exact S.ret1 Try.func3 rfl rfl (fun w hs hk => hR w _ _ ⟨rfl, rfl⟩ hs hk)
  · replace h := cond_f b5 h
    refine S.condF rfl b5 ?_
    refine S.skip ?_
    refine S.seq ?_
    refine S.region ?_
    refine SO.v rfl (opv_move rfl) ?_
    obtain ⟨t6, ht7, h⟩ := opt_bind h
    refine SO.call (pre := []) rfl Try.call6 rfl rfl rfl (ref10_Boot.ct _ _ _ ht7) trivial ?_
    rintro _ _ ⟨b8, u9_Slots, u9_Objs, rfl, rfl⟩
    refine SO.v rfl (opv_assign rfl) ?_
    refine SO.nil ?_
    refine S.to (ρ' := [(1, v1), (4, .bool false), (5, .bool t1), (6, bp b8 0)]) ⟨rfl, rfl, rfl, rfl, trivial⟩ ?_
    refine S.seq ?_
    refine S.region ?_
    refine SO.v rfl (opv_move rfl) ?_
    obtain ⟨t18, ht19, h⟩ := opt_bind h
    refine SO.b1 ?_
    refine SO.openR fun raws10 A11 hrel12 hR13 => ?_
    refine SO.b2 ?_
    refine SO.openR fun raws14 A15 hrel16 hR17 => ?_
    refine SO.b1 ?_
    refine SO.b2 ?_
    refine SO.call (pre := [Box _ _, OwnO _ _ _ _ _ _, OwnO _ _ _ _ _ _]) rfl Try.call7 rfl rfl rfl (ref10_State_Words.ct _ b8 u9_Slots u9_Objs raws10 A11 raws14 A15 _ _ ht19) trivial ?_
    rintro v20 _ ⟨_, rfl, rfl⟩
    refine SO.rd fun hr21 => ?_
    refine SO.v rfl (opv_assign rfl) ?_
    refine SO.nil ?_
    refine S.seq ?_
    refine S.seq ?_
    refine S.region ?_
    refine SO.v rfl (opv_assign rfl) ?_
    refine SO.nil ?_
    obtain ⟨o1, hl1, h⟩ := opt_bind h
    refine S.b2 ?_
    refine S.closeR ?_
    refine S.b3 ?_
    refine S.closeR ?_
    refine S.b4 ?_
    refine S.b4 ?_
    refine S.b4 ?_
    refine S.b4 ?_
    refine S.b4 ?_
    refine S.to (ρ' := [(8, .int .i64 0), (7, v20), (1, v1), (4, .bool false), (5, .bool t1), (6, bp b8 0)]) ⟨rfl, rfl, rfl, rfl, rfl, rfl, trivial⟩ ?_
    refine S.forloop (X := (Int × (List ref10_Slot) × (List ref10_Obj) × Int × Int × (List Int)) × (Value × Value)) (O := Brk Bool ((List ref10_Slot) × (List ref10_Obj) × Int × Int × (List Int))) (fun m x => law12_DerivePlays.l1 a1 m x.1) (fun x => match x with | ((x8_1, y8_0_1, y8_1_1, y8_2_1, y8_3_1, qv20_1), (vy8_0_1, vy8_1_1)) => [(8, .int .i64 x8_1), (7, v20), (1, v1), (4, .bool false), (5, .bool t1), (6, bp b8 0)]) (fun x => match x with | ((x8_1, y8_0_1, y8_1_1, y8_2_1, y8_3_1, qv20_1), (vy8_0_1, vy8_1_1)) => [OwnR 58 kr_ref10_Obj vy8_1_1 y8_1_1, OwnR 65 kr_ref10_Slot vy8_0_1 y8_0_1, Own 66 (ekI .u64) v20 qv20_1, Box b8 [vy8_0_1, vy8_1_1, .int .i64 y8_2_1, .int .i64 y8_3_1], F]) (fun Sk o' => (∀ r', o' = Brk.ret r' → some r' = some r0) ∧ ∀ j : ((List ref10_Slot) × (List ref10_Obj) × Int × Int × (List Int)), match j with | (y8_0_e1, y8_1_e1, y8_2_e1, y8_3_e1, qv20_e1) => ∀ g : (Value × Value), match g with | (vy8_0_e1, vy8_1_e1) => o' = Brk.nx (y8_0_e1, y8_1_e1, y8_2_e1, y8_3_e1, qv20_e1) → Sk [(4, .bool false), (5, .bool t1)] [OwnR 58 kr_ref10_Obj vy8_1_e1 y8_1_e1, OwnR 65 kr_ref10_Slot vy8_0_e1 y8_0_e1, Own 66 (ekI .u64) v20 qv20_e1, Box b8 [vy8_0_e1, vy8_1_e1, .int .i64 y8_2_e1, .int .i64 y8_3_e1], F]) (fun _ => rfl) ?_ (m := k) (x := ((0, t6.Slots, t6.Objs, t6.NS, t6.NO, t18), (u9_Slots, u9_Objs))) hl1 ?_
    · clear h hl1
      intro k x o_1 h hK1 ih1
      obtain ⟨⟨x8_1, y8_0_1, y8_1_1, y8_2_1, y8_3_1, qv20_1⟩, ⟨vy8_0_1, vy8_1_1⟩⟩ := x
      replace h : law12_DerivePlays.l1 a1 (k + 1) (x8_1, y8_0_1, y8_1_1, y8_2_1, y8_3_1, qv20_1) = some o_1 := h
      first | rw [law12_DerivePlays.l1] at h | unfold law12_DerivePlays.l1 at h
      refine S.b2 ?_
      refine S.rd fun hr22 => ?_
      refine S.seq ?_
      refine S.seq ?_
      refine S.region ?_
      refine SO.v rfl (opv_move rfl) ?_
      refine SO.v rfl (opv_move rfl) ?_
      refine SO.v rfl (opv_lenR rfl Try.underlying22 hF1 rfl) ?_
      refine SO.v rfl (opv_lss rfl rfl) ?_
      refine SO.nil ?_
      rcases bool_or (decide (x8_1 < (a1.length : Int))) with b23 | b23
      · replace h := cond_t b23 h
        refine S.condT rfl b23 ?_
        refine S.skip ?_
        refine S.seq ?_
        refine S.block ?_
        refine S.seq ?_
        refine S.region ?_
        refine SO.v rfl (opv_move rfl) ?_
        refine SO.v rfl (opv_move rfl) ?_
        obtain ⟨x24, hx25, h⟩ := opt_bind h
        refine SO.v rfl (opv_idx Try.underlying22 Try.sizeOf30 hF1 rfl rfl hx25) ?_
        refine SO.loadIN rfl Try.isAgg30 Try.sizeOf30 (Rd.tail (Rd.tail (Rd.tail (Rd.tail (Rd.head hF1))))) hx25 rfl rfl rfl ?_
        refine SO.alloc rfl Try.zeroValue30 rfl (fun b26 => ?_)
        refine SO.storeN Try.sizeOf30 rfl rfl rfl rfl rfl rfl ?_
        refine SO.nil ?_
        refine S.to (ρ' := [(8, .int .i64 x8_1), (7, v20), (1, v1), (4, .bool false), (5, .bool t1), (6, bp b8 0), (9, bp b26 0)]) ⟨rfl, rfl, rfl, rfl, rfl, rfl, rfl, trivial⟩ ?_
        refine S.seq ?_
        refine S.region ?_
        refine SO.v rfl (opv_move rfl) ?_
        refine SO.v rfl (opv_iface Try.underlying27 rfl rfl) ?_
        refine SO.loadN rfl Try.isAgg30 Try.sizeOf30 rfl rfl rfl ?_
        obtain ⟨⟨⟨t27, t28⟩, s30⟩, ht29, h⟩ := opt_bind h
        refine SO.b1 ?_
        refine SO.call (pre := [(plainV v20).rep _]) rfl Try.call8 rfl rfl rfl (law12_do.ct (plainV v20) _ _ _ _ _ _ ht29) trivial ?_
        rintro _ _ ⟨rfl, rfl⟩
        refine headEq (plainV_rep _ _) ?_
        refine SO.rd fun hr31 => ?_
        refine SO.v rfl (opv_move rfl) ?_
        refine SO.v rfl (opv_extract rfl rfl) ?_
        refine SO.v rfl (opv_extract rfl rfl) ?_
        refine SO.v rfl (opv_assign rfl) ?_
        refine SO.v rfl (opv_assign rfl) ?_
        refine SO.nil ?_
        refine S.to (ρ' := [(8, .int .i64 x8_1), (7, v20), (1, v1), (4, .bool false), (5, .bool t1), (6, bp b8 0), (9, bp b26 0), (10, errV 50 t27), (11, .bool t28)]) ⟨rfl, rfl, rfl, rfl, rfl, rfl, rfl, rfl, rfl, trivial⟩ ?_
        refine S.seq ?_
        refine S.region ?_
        refine SO.v rfl (opv_assign rfl) ?_
        refine SO.nil ?_
        refine S.seq ?_
        refine S.region ?_
        refine SO.v rfl (opv_assign rfl) ?_
        refine SO.nil ?_
        refine S.seq ?_
        refine S.seq ?_
        refine S.region ?_
        refine SO.v rfl (opv_fieldAddr Try.underlying30 rfl Try.sizeOf3 rfl rfl) ?_
        refine SO.b1 ?_
        refine SO.load1 rfl Try.isAgg3 rfl rfl ?_
        obtain ⟨t32, ht33, h⟩ := opt_bind h
        refine SO.call (pre := []) rfl Try.call9 rfl rfl rfl (law10_Pick.ct _ _ _ ht33) trivial ?_
        rintro _ _ ⟨rfl, rfl⟩
        refine SO.nil ?_
        obtain ⟨⟨j12_2, j13_2, y8_0_2, y8_1_2, y8_2_2, y8_3_2⟩, hC2, hJ2⟩ := opt_bind h
        clear h
        refine S.cutP (G := (Value × Value)) (fun _ => True) (fun x => match x with | (vy8_0_2, vy8_1_2) => [(1, v1), (4, .bool false), (5, .bool t1), (6, bp b8 0), (7, v20), (8, .int .i64 x8_1), (10, errV 50 t27), (11, .bool t28), (12, .int .i64 j12_2), (13, .bool j13_2)]) (fun x => match x with | (vy8_0_2, vy8_1_2) => [OwnR 58 kr_ref10_Obj vy8_1_2 y8_1_2, OwnR 65 kr_ref10_Slot vy8_0_2 y8_0_2, Box b26 [.int .i64 x24.What, .int .i64 x24.A, .int .i64 x24.B, .int .i64 x24.M, .int .i64 x24.N], Own 66 (ekI .u64) v20 s30, Box b8 [vy8_0_2, vy8_1_2, .int .i64 y8_2_2, .int .i64 y8_3_2], F]) (fun hk2 => ?_) ?_
        · replace h := hC2
          refine S.block ?_
          refine S.seq ?_
          refine S.seq ?_
          refine S.region ?_
          refine SO.v rfl (opv_eql rfl rfl) ?_
          refine SO.v rfl (opv_assign rfl) ?_
          refine SO.nil ?_
          obtain ⟨j58_3, hC3, hJ3⟩ := opt_bind h
          clear h
          refine S.cutP (G := Unit) (fun _ => True) (fun _ => [(1, v1), (4, .bool false), (5, .bool t1), (6, bp b8 0), (7, v20), (8, .int .i64 x8_1), (9, bp b26 0), (10, errV 50 t27), (11, .bool t28), (13, .bool false), (50, .int .i64 t32), (58, .bool j58_3)]) (fun _ => [Box b26 [.int .i64 x24.What, .int .i64 x24.A, .int .i64 x24.B, .int .i64 x24.M, .int .i64 x24.N], Own 66 (ekI .u64) v20 s30, OwnR 58 kr_ref10_Obj vy8_1_1 y8_1_1, OwnR 65 kr_ref10_Slot vy8_0_1 y8_0_1, Box b8 [vy8_0_1, vy8_1_1, .int .i64 y8_2_1, .int .i64 y8_3_1], F]) (fun hk3 => ?_) ?_
          · replace h := hC3
            rcases bool_or (t32 == 0) with b34 | b34
            · replace h := cond_t b34 h
              refine S.condT rfl b34 ?_
              refine S.skip ?_
              cases h
              refine S.b5 ?_
              refine S.b5 ?_
              refine S.b5 ?_
              refine S.b5 ?_
              refine S.b5 ?_
              refine S.b5 ?_
              refine S.to ?_ (hk3 () trivial)
              exact ⟨rfl, rfl, rfl, rfl, rfl, rfl, rfl, rfl, rfl, rfl, rfl, rfl, trivial⟩
            · replace h := cond_f b34 h
              refine S.condF rfl b34 ?_
              refine S.region ?_
              refine SO.v rfl (opv_eql rfl rfl) ?_
              refine SO.v rfl (opv_assign rfl) ?_
              refine SO.nil ?_
              cases h
              refine S.b5 ?_
              refine S.b5 ?_
              refine S.b5 ?_
              refine S.b5 ?_
              refine S.b5 ?_
              refine S.b5 ?_
              refine S.to ?_ (hk3 () trivial)
              exact ⟨rfl, rfl, rfl, rfl, rfl, rfl, rfl, rfl, rfl, rfl, rfl, rfl, trivial⟩
          rintro _ -
          replace h := hJ3
          rcases bool_or j58_3 with b35 | b35
          · replace h := cond_t b35 h
            refine S.condT rfl b35 ?_
            refine S.region ?_
            refine SO.v rfl (opv_move rfl) ?_
            refine SO.v rfl (opv_fieldAddr Try.underlying30 rfl Try.sizeOf3 rfl rfl) ?_
            refine SO.load1 rfl Try.isAgg3 rfl rfl ?_
            refine SO.v rfl (opv_fieldAddr Try.underlying30 rfl Try.sizeOf3 rfl rfl) ?_
            refine SO.load1 rfl Try.isAgg3 rfl rfl ?_
            refine SO.v rfl (opv_fieldAddr Try.underlying30 rfl Try.sizeOf3 rfl rfl) ?_
            refine SO.load1 rfl Try.isAgg3 rfl rfl ?_
            obtain ⟨⟨t36, p37⟩, ht38, h⟩ := opt_bind h
            refine SO.b2 ?_
            refine SO.b3 ?_
            refine SO.b4 ?_
            have ct40 := ref10_State_Derive.ct _ b8 vy8_0_1 vy8_1_1 _ _ _ _ _ _ _ _ ht38
            dsimp only at ct40
            refine SO.call (pre := [Box _ _, OwnR _ _ _ _, OwnR _ _ _ _]) rfl Try.call10 rfl rfl rfl ct40 trivial ?_
            rintro _ _ ⟨u39_Slots, u39_Objs, rfl, rfl⟩
            refine SO.v rfl (opv_assign rfl) ?_
            refine SO.nil ?_
            refine S.to (ρ' := [(1, v1), (4, .bool false), (5, .bool t1), (6, bp b8 0), (7, v20), (8, .int .i64 x8_1), (10, errV 50 t27), (11, .bool t28), (13, .bool false), (12, .int .i64 t36)]) ⟨rfl, rfl, rfl, rfl, rfl, rfl, rfl, rfl, rfl, rfl, trivial⟩ ?_
            refine S.inBlock ?_
            cases h
            refine S.b5 ?_
            refine S.b1 ?_
            refine S.b5 ?_
            refine S.b5 ?_
            refine S.b4 ?_
            refine S.b5 ?_
            refine S.to ?_ (hk2 (u39_Slots, u39_Objs) trivial)
            exact ⟨rfl, rfl, rfl, rfl, rfl, rfl, rfl, rfl, rfl, rfl, trivial⟩
          · replace h := cond_f b35 h
            refine S.condF rfl b35 ?_
            refine S.seq ?_
            refine S.seq ?_
            refine S.region ?_
            refine SO.v rfl (opv_eql rfl rfl) ?_
            refine SO.v rfl (opv_assign rfl) ?_
            refine SO.nil ?_
            obtain ⟨j69_4, hC4, hJ4⟩ := opt_bind h
            clear h
            refine S.cutP (G := Unit) (fun _ => True) (fun _ => [(1, v1), (4, .bool false), (5, .bool t1), (6, bp b8 0), (7, v20), (8, .int .i64 x8_1), (9, bp b26 0), (10, errV 50 t27), (11, .bool t28), (13, .bool false), (50, .int .i64 t32), (69, .bool j69_4)]) (fun _ => [Box b26 [.int .i64 x24.What, .int .i64 x24.A, .int .i64 x24.B, .int .i64 x24.M, .int .i64 x24.N], Own 66 (ekI .u64) v20 s30, OwnR 58 kr_ref10_Obj vy8_1_1 y8_1_1, OwnR 65 kr_ref10_Slot vy8_0_1 y8_0_1, Box b8 [vy8_0_1, vy8_1_1, .int .i64 y8_2_1, .int .i64 y8_3_1], F]) (fun hk4 => ?_) ?_
            · replace h := hC4
              rcases bool_or (t32 == 2) with b41 | b41
              · replace h := cond_t b41 h
                refine S.condT rfl b41 ?_
                refine S.skip ?_
                cases h
                refine S.b5 ?_
                refine S.b5 ?_
                refine S.b5 ?_
                refine S.b5 ?_
                refine S.b5 ?_
                refine S.b5 ?_
                refine S.to ?_ (hk4 () trivial)
                exact ⟨rfl, rfl, rfl, rfl, rfl, rfl, rfl, rfl, rfl, rfl, rfl, rfl, trivial⟩
              · replace h := cond_f b41 h
                refine S.condF rfl b41 ?_
                refine S.region ?_
                refine SO.v rfl (opv_eql rfl rfl) ?_
                refine SO.v rfl (opv_assign rfl) ?_
                refine SO.nil ?_
                cases h
                refine S.b5 ?_
                refine S.b5 ?_
                refine S.b5 ?_
                refine S.b5 ?_
                refine S.b5 ?_
                refine S.b5 ?_
                refine S.to ?_ (hk4 () trivial)
                exact ⟨rfl, rfl, rfl, rfl, rfl, rfl, rfl, rfl, rfl, rfl, rfl, rfl, trivial⟩
            rintro _ -
            replace h := hJ4
            rcases bool_or j69_4 with b42 | b42
            · replace h := cond_t b42 h
              refine S.condT rfl b42 ?_
              refine S.region ?_
              refine SO.v rfl (opv_move rfl) ?_
              refine SO.v rfl (opv_fieldAddr Try.underlying30 rfl Try.sizeOf3 rfl rfl) ?_
              refine SO.load1 rfl Try.isAgg3 rfl rfl ?_
              refine SO.v rfl (opv_fieldAddr Try.underlying30 rfl Try.sizeOf3 rfl rfl) ?_
              refine SO.load1 rfl Try.isAgg3 rfl rfl ?_
              refine SO.v rfl (opv_fieldAddr Try.underlying30 rfl Try.sizeOf3 rfl rfl) ?_
              refine SO.load1 rfl Try.isAgg3 rfl rfl ?_
              refine SO.v rfl (opv_fieldAddr Try.underlying30 rfl Try.sizeOf3 rfl rfl) ?_
              refine SO.load1 rfl Try.isAgg3 rfl rfl ?_
              obtain ⟨⟨t43, p44⟩, ht45, h⟩ := opt_bind h
              refine SO.b2 ?_
              refine SO.b3 ?_
              refine SO.b4 ?_
              have ct47 := ref10_State_Derive.ct _ b8 vy8_0_1 vy8_1_1 _ _ _ _ _ _ _ _ ht45
              dsimp only at ct47
              refine SO.call (pre := [Box _ _, OwnR _ _ _ _, OwnR _ _ _ _]) rfl Try.call10 rfl rfl rfl ct47 trivial ?_
              rintro _ _ ⟨u46_Slots, u46_Objs, rfl, rfl⟩
              refine SO.v rfl (opv_assign rfl) ?_
              refine SO.nil ?_
              refine S.to (ρ' := [(1, v1), (4, .bool false), (5, .bool t1), (6, bp b8 0), (7, v20), (8, .int .i64 x8_1), (10, errV 50 t27), (11, .bool t28), (13, .bool false), (12, .int .i64 t43)]) ⟨rfl, rfl, rfl, rfl, rfl, rfl, rfl, rfl, rfl, rfl, trivial⟩ ?_
              refine S.inBlock ?_
              cases h
              refine S.b5 ?_
              refine S.b1 ?_
              refine S.b5 ?_
              refine S.b5 ?_
              refine S.b4 ?_
              refine S.b5 ?_
              refine S.to ?_ (hk2 (u46_Slots, u46_Objs) trivial)
              exact ⟨rfl, rfl, rfl, rfl, rfl, rfl, rfl, rfl, rfl, rfl, trivial⟩
            · replace h := cond_f b42 h
              refine S.condF rfl b42 ?_
              refine S.seq ?_
              refine S.region ?_
              refine SO.v rfl (opv_eql rfl rfl) ?_
              refine SO.v rfl (opv_assign rfl) ?_
              refine SO.nil ?_
              rcases bool_or (t32 == 4) with b48 | b48
              · replace h := cond_t b48 h
                refine S.condT rfl b48 ?_
                refine S.region ?_
                refine SO.v rfl (opv_move rfl) ?_
                refine SO.v rfl (opv_fieldAddr Try.underlying30 rfl Try.sizeOf3 rfl rfl) ?_
                refine SO.load1 rfl Try.isAgg3 rfl rfl ?_
                refine SO.v rfl (opv_fieldAddr Try.underlying30 rfl Try.sizeOf3 rfl rfl) ?_
                refine SO.load1 rfl Try.isAgg3 rfl rfl ?_
                obtain ⟨⟨t49, p50⟩, ht51, h⟩ := opt_bind h
                refine SO.b2 ?_
                refine SO.b3 ?_
                refine SO.b4 ?_
                have ct53 := ref10_State_Move.ct _ b8 vy8_0_1 vy8_1_1 _ _ _ _ _ _ _ _ ht51
                dsimp only at ct53
                refine SO.call (pre := [Box _ _, OwnR _ _ _ _, OwnR _ _ _ _]) rfl Try.call11 rfl rfl rfl ct53 trivial ?_
                rintro _ _ ⟨u52_Slots, u52_Objs, rfl, rfl⟩
                refine SO.v rfl (opv_assign rfl) ?_
                refine SO.nil ?_
                refine S.to (ρ' := [(1, v1), (4, .bool false), (5, .bool t1), (6, bp b8 0), (7, v20), (8, .int .i64 x8_1), (10, errV 50 t27), (11, .bool t28), (13, .bool false), (12, .int .i64 t49)]) ⟨rfl, rfl, rfl, rfl, rfl, rfl, rfl, rfl, rfl, rfl, trivial⟩ ?_
                refine S.inBlock ?_
                cases h
                refine S.b5 ?_
                refine S.b1 ?_
                refine S.b5 ?_
                refine S.b5 ?_
                refine S.b4 ?_
                refine S.b5 ?_
                refine S.to ?_ (hk2 (u52_Slots, u52_Objs) trivial)
                exact ⟨rfl, rfl, rfl, rfl, rfl, rfl, rfl, rfl, rfl, rfl, trivial⟩
              · replace h := cond_f b48 h
                refine S.condF rfl b48 ?_
                refine S.seq ?_
                refine S.region ?_
                refine SO.v rfl (opv_eql rfl rfl) ?_
                refine SO.v rfl (opv_assign rfl) ?_
                refine SO.nil ?_
                rcases bool_or (t32 == 5) with b54 | b54
                · replace h := cond_t b54 h
                  refine S.condT rfl b54 ?_
                  refine S.region ?_
                  refine SO.v rfl (opv_move rfl) ?_
                  refine SO.v rfl (opv_fieldAddr Try.underlying30 rfl Try.sizeOf3 rfl rfl) ?_
                  refine SO.load1 rfl Try.isAgg3 rfl rfl ?_
                  refine SO.v rfl (opv_fieldAddr Try.underlying30 rfl Try.sizeOf3 rfl rfl) ?_
                  refine SO.load1 rfl Try.isAgg3 rfl rfl ?_
                  refine SO.v rfl (opv_fieldAddr Try.underlying30 rfl Try.sizeOf3 rfl rfl) ?_
                  refine SO.load1 rfl Try.isAgg3 rfl rfl ?_
                  refine SO.v rfl (opv_fieldAddr Try.underlying30 rfl Try.sizeOf3 rfl rfl) ?_
                  refine SO.load1 rfl Try.isAgg3 rfl rfl ?_
                  obtain ⟨⟨t55, p56⟩, ht57, h⟩ := opt_bind h
                  refine SO.b2 ?_
                  refine SO.b3 ?_
                  refine SO.b4 ?_
                  have ct59 := ref10_State_Move.ct _ b8 vy8_0_1 vy8_1_1 _ _ _ _ _ _ _ _ ht57
                  dsimp only at ct59
                  refine SO.call (pre := [Box _ _, OwnR _ _ _ _, OwnR _ _ _ _]) rfl Try.call11 rfl rfl rfl ct59 trivial ?_
                  rintro _ _ ⟨u58_Slots, u58_Objs, rfl, rfl⟩
                  refine SO.v rfl (opv_assign rfl) ?_
                  refine SO.nil ?_
                  refine S.to (ρ' := [(1, v1), (4, .bool false), (5, .bool t1), (6, bp b8 0), (7, v20), (8, .int .i64 x8_1), (10, errV 50 t27), (11, .bool t28), (13, .bool false), (12, .int .i64 t55)]) ⟨rfl, rfl, rfl, rfl, rfl, rfl, rfl, rfl, rfl, rfl, trivial⟩ ?_
                  refine S.inBlock ?_
                  cases h
                  refine S.b5 ?_
                  refine S.b1 ?_
                  refine S.b5 ?_
                  refine S.b5 ?_
                  refine S.b4 ?_
                  refine S.b5 ?_
                  refine S.to ?_ (hk2 (u58_Slots, u58_Objs) trivial)
                  exact ⟨rfl, rfl, rfl, rfl, rfl, rfl, rfl, rfl, rfl, rfl, trivial⟩
                · replace h := cond_f b54 h
                  refine S.condF rfl b54 ?_
                  refine S.seq ?_
                  refine S.region ?_
                  refine SO.v rfl (opv_eql rfl rfl) ?_
                  refine SO.v rfl (opv_assign rfl) ?_
                  refine SO.nil ?_
                  refine S.to (ρ' := [(1, v1), (4, .bool false), (5, .bool t1), (6, bp b8 0), (7, v20), (8, .int .i64 x8_1), (9, bp b26 0), (10, errV 50 t27), (11, .bool t28), (13, .bool false), (102, .bool (t32 == 6))]) ⟨rfl, rfl, rfl, rfl, rfl, rfl, rfl, rfl, rfl, rfl, rfl, trivial⟩ ?_
                  rcases bool_or (t32 == 6) with b60 | b60
                  · replace h := cond_t b60 h
                    refine S.condT rfl b60 ?_
                    refine S.region ?_
                    refine SO.v rfl (opv_move rfl) ?_
                    refine SO.v rfl (opv_fieldAddr Try.underlying30 rfl Try.sizeOf3 rfl rfl) ?_
                    refine SO.load1 rfl Try.isAgg3 rfl rfl ?_
                    obtain ⟨⟨t61, p62⟩, ht63, h⟩ := opt_bind h
                    refine SO.b2 ?_
                    refine SO.b3 ?_
                    refine SO.b4 ?_
                    have ct65 := ref10_State_Delete.ct _ b8 vy8_0_1 vy8_1_1 _ _ _ _ ht63
                    dsimp only at ct65
                    refine SO.call (pre := [Box _ _, OwnR _ _ _ _, OwnR _ _ _ _]) rfl Try.call12 rfl rfl rfl ct65 trivial ?_
                    rintro _ _ ⟨u64_Slots, u64_Objs, rfl, rfl⟩
                    refine SO.v rfl (opv_assign rfl) ?_
                    refine SO.nil ?_
                    refine S.inBlock ?_
                    cases h
                    refine S.b5 ?_
                    refine S.b1 ?_
                    refine S.b5 ?_
                    refine S.b5 ?_
                    refine S.b4 ?_
                    refine S.b5 ?_
                    refine S.to ?_ (hk2 (u64_Slots, u64_Objs) trivial)
                    exact ⟨rfl, rfl, rfl, rfl, rfl, rfl, rfl, rfl, rfl, rfl, trivial⟩
                  · replace h := cond_f b60 h
                    refine S.condF rfl b60 ?_
                    refine S.region ?_
                    refine SO.v rfl (opv_move rfl) ?_
                    refine SO.v rfl (opv_fieldAddr Try.underlying30 rfl Try.sizeOf3 rfl rfl) ?_
                    refine SO.load1 rfl Try.isAgg3 rfl rfl ?_
                    obtain ⟨⟨t66, t67, p68⟩, ht69, h⟩ := opt_bind h
                    refine SO.b2 ?_
                    refine SO.b3 ?_
                    refine SO.b4 ?_
                    have ct71 := ref10_State_One.ct _ b8 vy8_0_1 vy8_1_1 _ _ _ _ _ ht69
                    dsimp only at ct71
                    refine SO.call (pre := [Box _ _, OwnR _ _ _ _, OwnR _ _ _ _]) rfl Try.call13 rfl rfl rfl ct71 trivial ?_
                    rintro _ _ ⟨u70_Slots, u70_Objs, rfl, rfl⟩
                    refine SO.v rfl (opv_move rfl) ?_
                    refine SO.v rfl (opv_extract rfl rfl) ?_
                    refine SO.v rfl (opv_extract rfl rfl) ?_
                    refine SO.v rfl (opv_assign rfl) ?_
                    refine SO.v rfl (opv_assign rfl) ?_
                    refine SO.nil ?_
                    refine S.to (ρ' := [(1, v1), (4, .bool false), (5, .bool t1), (6, bp b8 0), (7, v20), (8, .int .i64 x8_1), (10, errV 50 t27), (11, .bool t28), (13, .bool t66), (12, .int .i64 t67)]) ⟨rfl, rfl, rfl, rfl, rfl, rfl, rfl, rfl, rfl, rfl, trivial⟩ ?_
                    refine S.inBlock ?_
                    cases h
                    refine S.b5 ?_
                    refine S.b1 ?_
                    refine S.b5 ?_
                    refine S.b5 ?_
                    refine S.b4 ?_
                    refine S.b5 ?_
                    refine S.to ?_ (hk2 (u70_Slots, u70_Objs) trivial)
                    exact ⟨rfl, rfl, rfl, rfl, rfl, rfl, rfl, rfl, rfl, rfl, trivial⟩
        rintro ⟨vy8_0_2, vy8_1_2⟩ -
        replace h := hJ2
        refine S.seq ?_
        refine S.region ?_
        refine SO.v rfl (opv_move rfl) ?_
        obtain ⟨t72, ht73, h⟩ := opt_bind h
        refine SO.call (pre := []) rfl Try.call14 rfl rfl rfl (law00_Code.ct _ _ _ ht73) trivial ?_
        rintro _ _ ⟨rfl, rfl⟩
        refine SO.v rfl (opv_move rfl) ?_
        refine SO.v rfl (opv_neq rfl rfl) ?_
        refine SO.v rfl (opv_move rfl) ?_
        refine SO.cut 4 116 (.bool ((t72 != j12_2) || (t28 != j13_2))) [OwnR 58 kr_ref10_Obj vy8_1_2 y8_1_2, OwnR 65 kr_ref10_Slot vy8_0_2 y8_0_2, Box b26 [.int .i64 x24.What, .int .i64 x24.A, .int .i64 x24.B, .int .i64 x24.M, .int .i64 x24.N], Own 66 (ekI .u64) v20 s30, Box b8 [vy8_0_2, vy8_1_2, .int .i64 y8_2_2, .int .i64 y8_3_2], F] (fun l2 hk2 => ?_) ?_
        · rcases bool_or (t72 != j12_2) with b74 | b74
          · refine SO.passF rfl rfl rfl b74 rfl rfl ?_
            refine SO.passF rfl rfl rfl b74 rfl rfl ?_
            refine SO.passF rfl rfl rfl b74 rfl rfl ?_
            refine SO.v rfl (opv_pick_t' b74 rfl rfl) ?_
            refine SO.b5 ?_
            refine SO.b5 ?_
            refine SO.b5 ?_
            refine SO.b5 ?_
            refine SO.b5 ?_
            refine SO.b5 ?_
            exact hk2.fitc (m := 4) rfl (or_t b74) rfl
          · refine SO.takeT rfl rfl rfl b74 ?_
            refine SO.v rfl (opv_move rfl) ?_
            refine SO.takeT rfl rfl rfl b74 ?_
            refine SO.v rfl (opv_move rfl) ?_
            refine SO.takeT rfl rfl rfl b74 ?_
            refine SO.v rfl (opv_neqB Try.underlying4 rfl rfl) ?_
            refine SO.v rfl (opv_pick_f' b74 rfl rfl) ?_
            refine SO.b5 ?_
            refine SO.b5 ?_
            refine SO.b5 ?_
            refine SO.b5 ?_
            refine SO.b5 ?_
            refine SO.b5 ?_
            exact hk2.fitc (m := 4) rfl (or_f b74) rfl
        refine SO.v rfl (opv_move rfl) ?_
        refine SO.openR fun raws75 A76 hrel77 hR78 => ?_
        refine SO.b1 ?_
        refine SO.openR fun raws79 A80 hrel81 hR82 => ?_
        obtain ⟨c84, hc85, hgk⟩ := opt_bind h
        refine SO.cut 6 123 (.bool c84) [OwnO 65 kr_ref10_Slot vy8_0_2 raws79 A80 y8_0_2, OwnO 58 kr_ref10_Obj vy8_1_2 raws75 A76 y8_1_2, Box b26 [.int .i64 x24.What, .int .i64 x24.A, .int .i64 x24.B, .int .i64 x24.M, .int .i64 x24.N], Own 66 (ekI .u64) v20 s30, Box b8 [vy8_0_2, vy8_1_2, .int .i64 y8_2_2, .int .i64 y8_3_2], F] (fun l2 hk2 => ?_) ?_
        · clear hgk
          replace h := hc85
          rcases bool_or ((t72 != j12_2) || (t28 != j13_2)) with b83 | b83
          · replace h := cond_t b83 h
            refine SO.passF rfl rfl rfl b83 rfl rfl ?_
            refine SO.passF rfl rfl rfl b83 rfl rfl ?_
            refine SO.passF rfl rfl rfl b83 rfl rfl ?_
            refine SO.passF rfl rfl rfl b83 rfl rfl ?_
            refine SO.passF rfl rfl rfl b83 rfl rfl ?_
            cases h
            refine SO.v rfl (opv_pick_t' b83 rfl rfl) ?_
            refine SO.b5 ?_
            refine SO.b5 ?_
            refine SO.b5 ?_
            refine SO.b5 ?_
            refine SO.b5 ?_
            refine SO.b5 ?_
            exact hk2.fitc (m := 6) rfl (rfl) rfl
          · replace h := cond_f b83 h
            refine SO.takeT rfl rfl rfl b83 ?_
            refine SO.v rfl (opv_move rfl) ?_
            refine SO.takeT rfl rfl rfl b83 ?_
            refine SO.v rfl (opv_move rfl) ?_
            refine SO.takeT rfl rfl rfl b83 ?_
            obtain ⟨t86, ht87, h⟩ := opt_bind h
            refine SO.b1 ?_
            refine SO.b1 ?_
            refine SO.b4 ?_
            have ct92 := ref10_State_Words.ct _ b8 vy8_0_2 vy8_1_2 raws79 A80 raws75 A76 _ _ ht87
            dsimp only at ct92
            refine SO.call (pre := [Box _ _, OwnO _ _ _ _ _ _, OwnO _ _ _ _ _ _]) rfl Try.call7 rfl rfl rfl ct92 trivial ?_
            rintro v88 _ ⟨_, rfl, rfl⟩
            refine SO.rd fun hr89 => ?_
            refine SO.takeT rfl rfl rfl b83 ?_
            obtain ⟨t90, ht91, h⟩ := opt_bind h
            refine SO.call (pre := []) rfl Try.call15 rfl rfl rfl (ref10_Same.ct _ v20 v88 _ _ _ ht91) ⟨(Rd.tail (Rd.tail (Rd.tail (Rd.tail (Rd.tail (Rd.head hr31)))))), (Rd.head hr89)⟩ ?_
            rintro _ _ ⟨rfl, rfl⟩
            refine SO.takeT rfl rfl rfl b83 ?_
            refine SO.v rfl (opv_not rfl) ?_
            cases h
            refine SO.v rfl (opv_pick_f' b83 rfl rfl) ?_
            refine SO.drop ?_
            refine SO.b5 ?_
            refine SO.b1 ?_
            refine SO.b5 ?_
            refine SO.b5 ?_
            refine SO.b5 ?_
            refine SO.b5 ?_
            exact hk2.fitc (m := 6) rfl (rfl) rfl
        clear hc85
        replace h := hgk
        refine SO.nil ?_
        refine S.to (ρ' := [(1, v1), (4, .bool false), (5, .bool t1), (6, bp b8 0), (7, v20), (8, .int .i64 x8_1), (123, .bool c84)]) ⟨rfl, rfl, rfl, rfl, rfl, rfl, rfl, trivial⟩ ?_
        rcases bool_or c84 with b93 | b93
        · replace h := cond_t b93 h
          refine S.condT rfl b93 ?_
          refine S.seq ?_
          refine S.region ?_
          refine SO.v rfl (opv_assign rfl) ?_
          refine SO.nil ?_
          cases h
          replace h := hK1.1 _ rfl
          cases h
          refine S.closeR ?_
          refine S.b1 ?_
          refine S.closeR ?_
          refine S.drop ?_
          refine S.drop ?_
          refine S.drop ?_
          refine S.drop ?_
          refine S.drop ?_
          exact S.ret1 Try.func3 rfl rfl (fun w hs hk => hR w _ _ ⟨rfl, rfl⟩ hs hk)
        · replace h := cond_f b93 h
          refine S.condF rfl b93 ?_
          refine S.skip ?_
          refine S.inBlock ?_
          refine S.region ?_
          refine SO.v rfl (opv_move rfl) ?_
          refine SO.v rfl (opv_add rfl rfl) ?_
          refine SO.v rfl (opv_assign rfl) ?_
          refine SO.nil ?_
          refine S.closeR ?_
          refine S.b1 ?_
          refine S.closeR ?_
          refine S.b2 ?_
          refine S.drop ?_
          refine S.b4 ?_
          refine S.b4 ?_
          refine S.b4 ?_
          refine S.b4 ?_
          refine S.b4 ?_
          refine S.to ?_ (ih1 ((w64 (x8_1 + 1), y8_0_2, y8_1_2, y8_2_2, y8_3_2, s30), (vy8_0_2, vy8_1_2)) h)
          exact ⟨rfl, rfl, rfl, rfl, rfl, rfl, trivial⟩
      · replace h := cond_f b23 h
        refine S.condF rfl b23 ?_
        refine S.exit rfl ?_
        cases h
        refine S.b4 ?_
        refine S.b4 ?_
        refine S.b2 ?_
        refine S.b4 ?_
        refine S.b4 ?_
        refine S.to ?_ (hK1.2 (y8_0_1, y8_1_1, y8_2_1, y8_3_1, qv20_1) (vy8_0_1, vy8_1_1) rfl)
        exact ⟨rfl, rfl, trivial⟩
    refine ⟨fun r' e' => ?_, ?_⟩
    · subst e'
      have h9 := Brk.of_ret h
      exact h9
    rintro ⟨y8_0_e1, y8_1_e1, y8_2_e1, y8_3_e1, qv20_e1⟩ ⟨vy8_0_e1, vy8_1_e1⟩ e'
    subst e'
    replace h := Brk.of_nx h
    refine S.b2 ?_
    refine S.rd fun hr94 => ?_
    refine S.seq ?_
    refine S.region ?_
    refine SO.v rfl (opv_move rfl) ?_
    refine SO.v rfl (opv_assign rfl) ?_
    refine SO.nil ?_
    cases h
    refine S.drop ?_
    refine S.drop ?_
    refine S.drop ?_
    refine S.drop ?_
    exact S.ret1 Try.func3 rfl rfl (fun w hs hk => hR w _ _ ⟨rfl, rfl⟩ hs hk)
end Go.Proofs
namespace Go.Proofs
open Go.Sl Go.RowKit
/-! 17 padstone/rights.Within -/
def rights_Within.f (a0 : api_Cap) (a1 : api_Cap) : Option (Bool) :=
  some ((((a0.Kind == a1.Kind) && (a0.Obj == a1.Obj)) && ((bclr .i64 a0.Rights a1.Rights) == 0)) && ((a1.Badge == 0) || (a0.Badge == a1.Badge)))
set_option maxHeartbeats 8000000 in
set_option maxRecDepth 100000 in
theorem rights_Within.ct (a0 : api_Cap) (a1 : api_Cap) (r0 : Bool) (h : rights_Within.f a0 a1 = some r0) :
    Ct Try.prog 17 [.agg #[.int .i64 a0.Kind, .int .i64 a0.Rights, .int .i64 a0.Obj, .int .i64 a0.Badge, .int .i64 a0.Guard, .int .i64 a0.Bits], .agg #[.int .i64 a1.Kind, .int .i64 a1.Rights, .int .i64 a1.Obj, .int .i64 a1.Badge, .int .i64 a1.Guard, .int .i64 a1.Bits]] (fun _ => True) [] (fun u H' => u = .bool r0 ∧ H' = []) := by
  unfold rights_Within.f at h
  refine Ct.intro (n := 37) Try.func17 rfl rfl rfl ?_
  intro R w0 F hF hR
  refine S.seq ?_
  refine S.region ?_
  refine SO.box rfl rfl rfl (fun b1 => ?_)
  refine SO.box rfl rfl rfl (fun b2 => ?_)
  refine SO.v rfl (opv_assign rfl) ?_
  refine SO.nil ?_
  refine S.seq ?_
  refine S.region ?_
  refine SO.v rfl (opv_fieldAddr Try.underlying45 rfl Try.sizeOf3 rfl rfl) ?_
  refine SO.b1 ?_
  refine SO.load1 rfl Try.isAgg3 rfl rfl ?_
  refine SO.v rfl (opv_fieldAddr Try.underlying45 rfl Try.sizeOf3 rfl rfl) ?_
  refine SO.b1 ?_
  refine SO.load1 rfl Try.isAgg3 rfl rfl ?_
  refine SO.v rfl (opv_eql rfl rfl) ?_
  refine SO.v rfl (opv_move rfl) ?_
  refine SO.cut 6 16 (.bool ((a0.Kind == a1.Kind) && (a0.Obj == a1.Obj))) [Box b2 [.int .i64 a1.Kind, .int .i64 a1.Rights, .int .i64 a1.Obj, .int .i64 a1.Badge, .int .i64 a1.Guard, .int .i64 a1.Bits], Box b1 [.int .i64 a0.Kind, .int .i64 a0.Rights, .int .i64 a0.Obj, .int .i64 a0.Badge, .int .i64 a0.Guard, .int .i64 a0.Bits], F] (fun l2 hk2 => ?_) ?_
  · rcases bool_or (a0.Kind == a1.Kind) with b3 | b3
    · refine SO.takeT rfl rfl rfl b3 ?_
      refine SO.v rfl (opv_fieldAddr Try.underlying45 rfl Try.sizeOf3 rfl rfl) ?_
      refine SO.takeT rfl rfl rfl b3 ?_
      refine SO.b1 ?_
      refine SO.load1 rfl Try.isAgg3 rfl rfl ?_
      refine SO.takeT rfl rfl rfl b3 ?_
      refine SO.v rfl (opv_fieldAddr Try.underlying45 rfl Try.sizeOf3 rfl rfl) ?_
      refine SO.takeT rfl rfl rfl b3 ?_
      refine SO.b1 ?_
      refine SO.load1 rfl Try.isAgg3 rfl rfl ?_
      refine SO.takeT rfl rfl rfl b3 ?_
      refine SO.v rfl (opv_eql rfl rfl) ?_
      refine SO.v rfl (opv_pick_t' b3 rfl rfl) ?_
      refine SO.b2 ?_
      refine SO.b2 ?_
      refine SO.b2 ?_
      exact hk2.fitc (m := 6) rfl (and_t b3) rfl
    · refine SO.passF rfl rfl rfl b3 rfl rfl ?_
      refine SO.passF rfl rfl rfl b3 rfl rfl ?_
      refine SO.passF rfl rfl rfl b3 rfl rfl ?_
      refine SO.passF rfl rfl rfl b3 rfl rfl ?_
      refine SO.passF rfl rfl rfl b3 rfl rfl ?_
      refine SO.v rfl (opv_pick_f' b3 rfl rfl) ?_
      refine SO.b2 ?_
      refine SO.b2 ?_
      refine SO.b2 ?_
      exact hk2.fitc (m := 6) rfl (and_f b3) rfl
  refine SO.v rfl (opv_move rfl) ?_
  refine SO.cut 7 24 (.bool (((a0.Kind == a1.Kind) && (a0.Obj == a1.Obj)) && ((bclr .i64 a0.Rights a1.Rights) == 0))) [Box b2 [.int .i64 a1.Kind, .int .i64 a1.Rights, .int .i64 a1.Obj, .int .i64 a1.Badge, .int .i64 a1.Guard, .int .i64 a1.Bits], Box b1 [.int .i64 a0.Kind, .int .i64 a0.Rights, .int .i64 a0.Obj, .int .i64 a0.Badge, .int .i64 a0.Guard, .int .i64 a0.Bits], F] (fun l2 hk2 => ?_) ?_
  · rcases bool_or ((a0.Kind == a1.Kind) && (a0.Obj == a1.Obj)) with b4 | b4
    · refine SO.takeT rfl rfl rfl b4 ?_
      refine SO.v rfl (opv_fieldAddr Try.underlying45 rfl Try.sizeOf3 rfl rfl) ?_
      refine SO.takeT rfl rfl rfl b4 ?_
      refine SO.b1 ?_
      refine SO.load1 rfl Try.isAgg3 rfl rfl ?_
      refine SO.takeT rfl rfl rfl b4 ?_
      refine SO.v rfl (opv_fieldAddr Try.underlying45 rfl Try.sizeOf3 rfl rfl) ?_
      refine SO.takeT rfl rfl rfl b4 ?_
      refine SO.b1 ?_
      refine SO.load1 rfl Try.isAgg3 rfl rfl ?_
      refine SO.takeT rfl rfl rfl b4 ?_
      refine SO.v rfl (opv_andNot rfl rfl) ?_
      refine SO.takeT rfl rfl rfl b4 ?_
      refine SO.v rfl (opv_eql rfl rfl) ?_
      refine SO.v rfl (opv_pick_t' b4 rfl rfl) ?_
      refine SO.b2 ?_
      refine SO.b2 ?_
      refine SO.b2 ?_
      exact hk2.fitc (m := 7) rfl (and_t b4) rfl
    · refine SO.passF rfl rfl rfl b4 rfl rfl ?_
      refine SO.passF rfl rfl rfl b4 rfl rfl ?_
      refine SO.passF rfl rfl rfl b4 rfl rfl ?_
      refine SO.passF rfl rfl rfl b4 rfl rfl ?_
      refine SO.passF rfl rfl rfl b4 rfl rfl ?_
      refine SO.passF rfl rfl rfl b4 rfl rfl ?_
      refine SO.v rfl (opv_pick_f' b4 rfl rfl) ?_
      refine SO.b2 ?_
      refine SO.b2 ?_
      refine SO.b2 ?_
      exact hk2.fitc (m := 7) rfl (and_f b4) rfl
  refine SO.v rfl (opv_move rfl) ?_
  refine SO.cut 11 36 (.bool ((((a0.Kind == a1.Kind) && (a0.Obj == a1.Obj)) && ((bclr .i64 a0.Rights a1.Rights) == 0)) && ((a1.Badge == 0) || (a0.Badge == a1.Badge)))) [Box b2 [.int .i64 a1.Kind, .int .i64 a1.Rights, .int .i64 a1.Obj, .int .i64 a1.Badge, .int .i64 a1.Guard, .int .i64 a1.Bits], Box b1 [.int .i64 a0.Kind, .int .i64 a0.Rights, .int .i64 a0.Obj, .int .i64 a0.Badge, .int .i64 a0.Guard, .int .i64 a0.Bits], F] (fun l2 hk2 => ?_) ?_
  · rcases bool_or (((a0.Kind == a1.Kind) && (a0.Obj == a1.Obj)) && ((bclr .i64 a0.Rights a1.Rights) == 0)) with b5 | b5
    · refine SO.takeT rfl rfl rfl b5 ?_
      refine SO.v rfl (opv_fieldAddr Try.underlying45 rfl Try.sizeOf3 rfl rfl) ?_
      refine SO.takeT rfl rfl rfl b5 ?_
      refine SO.load1 rfl Try.isAgg3 rfl rfl ?_
      refine SO.takeT rfl rfl rfl b5 ?_
      refine SO.v rfl (opv_eql rfl rfl) ?_
      refine SO.takeT rfl rfl rfl b5 ?_
      refine SO.v rfl (opv_move rfl) ?_
      refine SO.cut 6 35 (.bool ((a1.Badge == 0) || (a0.Badge == a1.Badge))) [Box b2 [.int .i64 a1.Kind, .int .i64 a1.Rights, .int .i64 a1.Obj, .int .i64 a1.Badge, .int .i64 a1.Guard, .int .i64 a1.Bits], Box b1 [.int .i64 a0.Kind, .int .i64 a0.Rights, .int .i64 a0.Obj, .int .i64 a0.Badge, .int .i64 a0.Guard, .int .i64 a0.Bits], F] (fun l2 hk2 => ?_) ?_
      · rcases bool_or (a1.Badge == 0) with b6 | b6
        · refine SO.passF rfl rfl rfl b6 rfl rfl ?_
          refine SO.passF rfl rfl rfl b6 rfl rfl ?_
          refine SO.passF rfl rfl rfl b6 rfl rfl ?_
          refine SO.passF rfl rfl rfl b6 rfl rfl ?_
          refine SO.passF rfl rfl rfl b6 rfl rfl ?_
          refine SO.takeT rfl rfl rfl b5 ?_
          refine SO.v rfl (opv_pick_t' b6 rfl rfl) ?_
          refine SO.b2 ?_
          refine SO.b2 ?_
          refine SO.b2 ?_
          exact hk2.fitc (m := 6) rfl (or_t b6) rfl
        · refine SO.takeT rfl rfl rfl b6 ?_
          refine SO.v rfl (opv_fieldAddr Try.underlying45 rfl Try.sizeOf3 rfl rfl) ?_
          refine SO.takeT rfl rfl rfl b6 ?_
          refine SO.b1 ?_
          refine SO.load1 rfl Try.isAgg3 rfl rfl ?_
          refine SO.takeT rfl rfl rfl b6 ?_
          refine SO.v rfl (opv_fieldAddr Try.underlying45 rfl Try.sizeOf3 rfl rfl) ?_
          refine SO.takeT rfl rfl rfl b6 ?_
          refine SO.b1 ?_
          refine SO.load1 rfl Try.isAgg3 rfl rfl ?_
          refine SO.takeT rfl rfl rfl b6 ?_
          refine SO.v rfl (opv_eql rfl rfl) ?_
          refine SO.takeT rfl rfl rfl b5 ?_
          refine SO.v rfl (opv_pick_f' b6 rfl rfl) ?_
          refine SO.b2 ?_
          refine SO.b2 ?_
          refine SO.b2 ?_
          exact hk2.fitc (m := 6) rfl (or_f b6) rfl
      refine SO.v rfl (opv_pick_t' b5 rfl rfl) ?_
      refine SO.b2 ?_
      refine SO.b2 ?_
      refine SO.b2 ?_
      exact hk2.fitc (m := 6) rfl (and_t b5) rfl
    · refine SO.passF rfl rfl rfl b5 rfl rfl ?_
      refine SO.passF rfl rfl rfl b5 rfl rfl ?_
      refine SO.passF rfl rfl rfl b5 rfl rfl ?_
      refine SO.passF rfl rfl rfl b5 rfl rfl ?_
      refine SO.pass_undef rfl rfl rfl rfl ?_
      refine SO.pass_undef rfl rfl rfl rfl ?_
      refine SO.pass_undef rfl rfl rfl rfl ?_
      refine SO.pass_undef rfl rfl rfl rfl ?_
      refine SO.pass_undef rfl rfl rfl rfl ?_
      refine SO.passF rfl rfl rfl b5 rfl rfl ?_
      refine SO.v rfl (opv_pick_f' b5 rfl rfl) ?_
      refine SO.b2 ?_
      refine SO.b2 ?_
      refine SO.b2 ?_
      exact hk2.fitc (m := 11) rfl (and_f b5) rfl
  refine SO.v rfl (opv_assign rfl) ?_
  refine SO.nil ?_
  refine S.to (ρ' := [(4, .bool ((((a0.Kind == a1.Kind) && (a0.Obj == a1.Obj)) && ((bclr .i64 a0.Rights a1.Rights) == 0)) && ((a1.Badge == 0) || (a0.Badge == a1.Badge))))]) ⟨rfl, trivial⟩ ?_
  cases h
  refine S.drop ?_
  refine S.drop ?_
  exact S.ret1 Try.func17 rfl rfl (fun w hs hk => hR w _ _ ⟨rfl, rfl⟩ hs hk)
end Go.Proofs
