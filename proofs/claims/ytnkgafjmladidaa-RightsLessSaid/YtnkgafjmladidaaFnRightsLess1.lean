/- What the functions that RightsLess reaches come to, and that they do. On no condition. -/
import Derived.Test.YtnkgafjmladidaaFnRightsLess0
set_option linter.all false
namespace Go.Proofs
open Go.Sl Go.RowKit
/-! 52 padstone/padstoneref01.Derive -/
def ref01_Derive.f (k : Nat) (a0 : api_Cap) (a1 : Int) : Option (api_Cap × Int) :=
  (ref01_May.f k a0).bind fun t3 => bif (((!t3) || (a0.Kind == 0)) || (decide (a1 < 0))) || (decide (7 < a1)) then (some ((⟨0, 0, 0, 0, 0, 0⟩ : api_Cap), 1)) else (bif a0.Kind == 1 then (some ((⟨0, 0, 0, 0, 0, 0⟩ : api_Cap), 5)) else ((ref01_both.f k a0.Rights a1).bind fun t10 => some ((⟨a0.Kind, t10, a0.Obj, a0.Badge, a0.Guard, a0.Bits⟩ : api_Cap), 0)))
set_option maxHeartbeats 8000000 in
set_option maxRecDepth 100000 in
theorem ref01_Derive.ct (k : Nat) (a0 : api_Cap) (a1 : Int) (r0 : api_Cap) (r1 : Int) (h : ref01_Derive.f k a0 a1 = some (r0, r1)) :
    Ct Try.prog 52 [.agg #[.int .i64 a0.Kind, .int .i64 a0.Rights, .int .i64 a0.Obj, .int .i64 a0.Badge, .int .i64 a0.Guard, .int .i64 a0.Bits], .int .i64 a1] (fun _ => True) [] (fun u H' => u = .tuple #[.agg #[.int .i64 r0.Kind, .int .i64 r0.Rights, .int .i64 r0.Obj, .int .i64 r0.Badge, .int .i64 r0.Guard, .int .i64 r0.Bits], .int .i64 r1] ∧ H' = []) := by
  unfold ref01_Derive.f at h
  refine Ct.intro (n := 35) Try.func52 rfl rfl rfl ?_
  intro R w0 F hF hR
  refine S.seq ?_
  refine S.region ?_
  refine SO.box rfl rfl rfl (fun b1 => ?_)
  refine SO.alloc rfl Try.zeroValue53 rfl (fun b2 => ?_)
  refine SO.v rfl (opv_assign rfl) ?_
  refine SO.nil ?_
  refine S.seq ?_
  refine S.region ?_
  refine SO.b1 ?_
  refine SO.loadN rfl Try.isAgg53 Try.sizeOf53 rfl rfl rfl ?_
  obtain ⟨t3, ht4, h⟩ := opt_bind h
  refine SO.call (pre := []) rfl Try.call31 rfl rfl rfl (ref01_May.ct _ _ _ ht4) trivial ?_
  rintro _ _ ⟨rfl, rfl⟩
  refine SO.v rfl (opv_assign rfl) ?_
  refine SO.nil ?_
  refine S.seq ?_
  refine S.seq ?_
  refine S.region ?_
  refine SO.v rfl (opv_move rfl) ?_
  refine SO.v rfl (opv_not rfl) ?_
  refine SO.v rfl (opv_move rfl) ?_
  refine SO.cut 4 15 (.bool ((!t3) || (a0.Kind == 0))) [Box b1 [.int .i64 a0.Kind, .int .i64 a0.Rights, .int .i64 a0.Obj, .int .i64 a0.Badge, .int .i64 a0.Guard, .int .i64 a0.Bits], Box b2 [.int .i64 0, .int .i64 0, .int .i64 0, .int .i64 0, .int .i64 0, .int .i64 0], F] (fun l2 hk2 => ?_) ?_
  · rcases bool_or (!t3) with b5 | b5
    · refine SO.passF rfl rfl rfl b5 rfl rfl ?_
      refine SO.passF rfl rfl rfl b5 rfl rfl ?_
      refine SO.passF rfl rfl rfl b5 rfl rfl ?_
      refine SO.v rfl (opv_pick_t' b5 rfl rfl) ?_
      refine SO.b2 ?_
      refine SO.b2 ?_
      refine SO.b2 ?_
      exact hk2.fitc (m := 4) rfl (or_t b5) rfl
    · refine SO.takeT rfl rfl rfl b5 ?_
      refine SO.v rfl (opv_fieldAddr Try.underlying53 rfl Try.sizeOf3 rfl rfl) ?_
      refine SO.takeT rfl rfl rfl b5 ?_
      refine SO.load1 rfl Try.isAgg3 rfl rfl ?_
      refine SO.takeT rfl rfl rfl b5 ?_
      refine SO.v rfl (opv_eql rfl rfl) ?_
      refine SO.v rfl (opv_pick_f' b5 rfl rfl) ?_
      refine SO.b2 ?_
      refine SO.b2 ?_
      refine SO.b2 ?_
      exact hk2.fitc (m := 4) rfl (or_f b5) rfl
  refine SO.v rfl (opv_move rfl) ?_
  refine SO.cut 3 19 (.bool (((!t3) || (a0.Kind == 0)) || (decide (a1 < 0)))) [Box b1 [.int .i64 a0.Kind, .int .i64 a0.Rights, .int .i64 a0.Obj, .int .i64 a0.Badge, .int .i64 a0.Guard, .int .i64 a0.Bits], Box b2 [.int .i64 0, .int .i64 0, .int .i64 0, .int .i64 0, .int .i64 0, .int .i64 0], F] (fun l2 hk2 => ?_) ?_
  · rcases bool_or ((!t3) || (a0.Kind == 0)) with b6 | b6
    · refine SO.passF rfl rfl rfl b6 rfl rfl ?_
      refine SO.passF rfl rfl rfl b6 rfl rfl ?_
      refine SO.v rfl (opv_pick_t' b6 rfl rfl) ?_
      refine SO.b2 ?_
      refine SO.b2 ?_
      refine SO.b2 ?_
      exact hk2.fitc (m := 3) rfl (or_t b6) rfl
    · refine SO.takeT rfl rfl rfl b6 ?_
      refine SO.v rfl (opv_move rfl) ?_
      refine SO.takeT rfl rfl rfl b6 ?_
      refine SO.v rfl (opv_lss rfl rfl) ?_
      refine SO.v rfl (opv_pick_f' b6 rfl rfl) ?_
      refine SO.b2 ?_
      refine SO.b2 ?_
      refine SO.b2 ?_
      exact hk2.fitc (m := 3) rfl (or_f b6) rfl
  refine SO.v rfl (opv_move rfl) ?_
  refine SO.cut 3 23 (.bool ((((!t3) || (a0.Kind == 0)) || (decide (a1 < 0))) || (decide (7 < a1)))) [Box b1 [.int .i64 a0.Kind, .int .i64 a0.Rights, .int .i64 a0.Obj, .int .i64 a0.Badge, .int .i64 a0.Guard, .int .i64 a0.Bits], Box b2 [.int .i64 0, .int .i64 0, .int .i64 0, .int .i64 0, .int .i64 0, .int .i64 0], F] (fun l2 hk2 => ?_) ?_
  · rcases bool_or (((!t3) || (a0.Kind == 0)) || (decide (a1 < 0))) with b7 | b7
    · refine SO.passF rfl rfl rfl b7 rfl rfl ?_
      refine SO.passF rfl rfl rfl b7 rfl rfl ?_
      refine SO.v rfl (opv_pick_t' b7 rfl rfl) ?_
      refine SO.b2 ?_
      refine SO.b2 ?_
      refine SO.b2 ?_
      exact hk2.fitc (m := 3) rfl (or_t b7) rfl
    · refine SO.takeT rfl rfl rfl b7 ?_
      refine SO.v rfl (opv_move rfl) ?_
      refine SO.takeT rfl rfl rfl b7 ?_
      refine SO.v rfl (opv_gtr rfl rfl) ?_
      refine SO.v rfl (opv_pick_f' b7 rfl rfl) ?_
      refine SO.b2 ?_
      refine SO.b2 ?_
      refine SO.b2 ?_
      exact hk2.fitc (m := 3) rfl (or_f b7) rfl
  refine SO.nil ?_
  refine S.to (ρ' := [(1, .int .i64 a1), (2, bp b1 0), (4, bp b2 0), (5, .int .i64 0), (23, .bool ((((!t3) || (a0.Kind == 0)) || (decide (a1 < 0))) || (decide (7 < a1))))]) ⟨rfl, rfl, rfl, rfl, rfl, trivial⟩ ?_
  rcases bool_or ((((!t3) || (a0.Kind == 0)) || (decide (a1 < 0))) || (decide (7 < a1))) with b8 | b8
  · replace h := cond_t b8 h
    refine S.condT rfl b8 ?_
    refine S.seq ?_
    refine S.region ?_
    refine SO.v rfl (opv_build (v := .agg #[.int .i64 0, .int .i64 0, .int .i64 0, .int .i64 0, .int .i64 0, .int .i64 0]) rfl (by intro w; kernel_rfl)) ?_
    refine SO.b1 ?_
    refine SO.storeN Try.sizeOf53 rfl rfl rfl rfl rfl rfl ?_
    refine SO.v rfl (opv_assign rfl) ?_
    refine SO.nil ?_
    cases h
    refine S.b1 ?_
    refine S.drop ?_
    refine S.b1 ?_
    refine S.b1 ?_
    exact S.retC1 Try.func52 rfl rfl rfl Try.isAgg53 Try.sizeOf53 rfl rfl (fun w hs hk => hR w _ _ ⟨rfl, rfl⟩ hs.drop hk)
  · replace h := cond_f b8 h
    refine S.condF rfl b8 ?_
    refine S.skip ?_
    refine S.seq ?_
    refine S.seq ?_
    refine S.region ?_
    refine SO.v rfl (opv_fieldAddr Try.underlying53 rfl Try.sizeOf3 rfl rfl) ?_
    refine SO.load1 rfl Try.isAgg3 rfl rfl ?_
    refine SO.v rfl (opv_eql rfl rfl) ?_
    refine SO.nil ?_
    rcases bool_or (a0.Kind == 1) with b9 | b9
    · replace h := cond_t b9 h
      refine S.condT rfl b9 ?_
      refine S.seq ?_
      refine S.region ?_
      refine SO.v rfl (opv_build (v := .agg #[.int .i64 0, .int .i64 0, .int .i64 0, .int .i64 0, .int .i64 0, .int .i64 0]) rfl (by intro w; kernel_rfl)) ?_
      refine SO.b1 ?_
      refine SO.storeN Try.sizeOf53 rfl rfl rfl rfl rfl rfl ?_
      refine SO.v rfl (opv_assign rfl) ?_
      refine SO.nil ?_
      cases h
      refine S.b1 ?_
      refine S.drop ?_
      refine S.b1 ?_
      refine S.b1 ?_
      exact S.retC1 Try.func52 rfl rfl rfl Try.isAgg53 Try.sizeOf53 rfl rfl (fun w hs hk => hR w _ _ ⟨rfl, rfl⟩ hs.drop hk)
    · replace h := cond_f b9 h
      refine S.condF rfl b9 ?_
      refine S.skip ?_
      refine S.seq ?_
      refine S.region ?_
      refine SO.v rfl (opv_fieldAddr Try.underlying53 rfl Try.sizeOf3 rfl rfl) ?_
      refine SO.load1 rfl Try.isAgg3 rfl rfl ?_
      refine SO.v rfl (opv_move rfl) ?_
      obtain ⟨t10, ht11, h⟩ := opt_bind h
      refine SO.call (pre := []) rfl Try.call74 rfl rfl rfl (ref01_both.ct _ _ _ _ ht11) trivial ?_
      rintro _ _ ⟨rfl, rfl⟩
      refine SO.v rfl (opv_fieldAddr Try.underlying53 rfl Try.sizeOf3 rfl rfl) ?_
      refine SO.store1 Try.sizeOf3 rfl rfl rfl rfl ?_
      refine SO.nil ?_
      refine S.to (ρ' := [(2, bp b1 0), (4, bp b2 0), (5, .int .i64 0)]) ⟨rfl, rfl, rfl, trivial⟩ ?_
      refine S.seq ?_
      refine S.region ?_
      refine SO.loadN rfl Try.isAgg53 Try.sizeOf53 rfl rfl rfl ?_
      refine SO.b1 ?_
      refine SO.storeN Try.sizeOf53 rfl rfl rfl rfl rfl rfl ?_
      refine SO.v rfl (opv_assign rfl) ?_
      refine SO.nil ?_
      cases h
      refine S.b1 ?_
      refine S.drop ?_
      refine S.b1 ?_
      refine S.b1 ?_
      exact S.retC1 Try.func52 rfl rfl rfl Try.isAgg53 Try.sizeOf53 rfl rfl (fun w hs hk => hR w _ _ ⟨rfl, rfl⟩ hs.drop hk)
end Go.Proofs
namespace Go.Proofs
open Go.Sl Go.RowKit
/-! 53 padstone/padstoneref01.Mint -/
def ref01_Mint.f (k : Nat) (a0 : api_Cap) (a1 : Int) (a2 : Int) : Option (api_Cap × Int) :=
  (ref01_May.f k a0).bind fun t3 => bif (((((!t3) || (a0.Kind == 0)) || (decide (a1 < 0))) || (decide (7 < a1))) || (decide (a2 < 1))) || (decide (65535 < a2)) then (some ((⟨0, 0, 0, 0, 0, 0⟩ : api_Cap), 1)) else (bif (a0.Kind != 3) && (a0.Kind != 4) then (some ((⟨0, 0, 0, 0, 0, 0⟩ : api_Cap), 5)) else (bif a0.Badge != 0 then (some ((⟨0, 0, 0, 0, 0, 0⟩ : api_Cap), 10)) else ((ref01_both.f k a0.Rights a1).bind fun t14 => some ((⟨a0.Kind, t14, a0.Obj, a2, a0.Guard, a0.Bits⟩ : api_Cap), 0))))
set_option maxHeartbeats 8000000 in
set_option maxRecDepth 100000 in
theorem ref01_Mint.ct (k : Nat) (a0 : api_Cap) (a1 : Int) (a2 : Int) (r0 : api_Cap) (r1 : Int) (h : ref01_Mint.f k a0 a1 a2 = some (r0, r1)) :
    Ct Try.prog 53 [.agg #[.int .i64 a0.Kind, .int .i64 a0.Rights, .int .i64 a0.Obj, .int .i64 a0.Badge, .int .i64 a0.Guard, .int .i64 a0.Bits], .int .i64 a1, .int .i64 a2] (fun _ => True) [] (fun u H' => u = .tuple #[.agg #[.int .i64 r0.Kind, .int .i64 r0.Rights, .int .i64 r0.Obj, .int .i64 r0.Badge, .int .i64 r0.Guard, .int .i64 r0.Bits], .int .i64 r1] ∧ H' = []) := by
  unfold ref01_Mint.f at h
  refine Ct.intro (n := 56) Try.func53 rfl rfl rfl ?_
  intro R w0 F hF hR
  refine S.seq ?_
  refine S.region ?_
  refine SO.box rfl rfl rfl (fun b1 => ?_)
  refine SO.alloc rfl Try.zeroValue53 rfl (fun b2 => ?_)
  refine SO.v rfl (opv_assign rfl) ?_
  refine SO.nil ?_
  refine S.seq ?_
  refine S.region ?_
  refine SO.b1 ?_
  refine SO.loadN rfl Try.isAgg53 Try.sizeOf53 rfl rfl rfl ?_
  obtain ⟨t3, ht4, h⟩ := opt_bind h
  refine SO.call (pre := []) rfl Try.call31 rfl rfl rfl (ref01_May.ct _ _ _ ht4) trivial ?_
  rintro _ _ ⟨rfl, rfl⟩
  refine SO.v rfl (opv_assign rfl) ?_
  refine SO.nil ?_
  refine S.seq ?_
  refine S.seq ?_
  refine S.region ?_
  refine SO.v rfl (opv_move rfl) ?_
  refine SO.v rfl (opv_not rfl) ?_
  refine SO.v rfl (opv_move rfl) ?_
  refine SO.cut 4 17 (.bool ((!t3) || (a0.Kind == 0))) [Box b1 [.int .i64 a0.Kind, .int .i64 a0.Rights, .int .i64 a0.Obj, .int .i64 a0.Badge, .int .i64 a0.Guard, .int .i64 a0.Bits], Box b2 [.int .i64 0, .int .i64 0, .int .i64 0, .int .i64 0, .int .i64 0, .int .i64 0], F] (fun l2 hk2 => ?_) ?_
  · rcases bool_or (!t3) with b5 | b5
    · refine SO.passF rfl rfl rfl b5 rfl rfl ?_
      refine SO.passF rfl rfl rfl b5 rfl rfl ?_
      refine SO.passF rfl rfl rfl b5 rfl rfl ?_
      refine SO.v rfl (opv_pick_t' b5 rfl rfl) ?_
      refine SO.b2 ?_
      refine SO.b2 ?_
      refine SO.b2 ?_
      exact hk2.fitc (m := 4) rfl (or_t b5) rfl
    · refine SO.takeT rfl rfl rfl b5 ?_
      refine SO.v rfl (opv_fieldAddr Try.underlying53 rfl Try.sizeOf3 rfl rfl) ?_
      refine SO.takeT rfl rfl rfl b5 ?_
      refine SO.load1 rfl Try.isAgg3 rfl rfl ?_
      refine SO.takeT rfl rfl rfl b5 ?_
      refine SO.v rfl (opv_eql rfl rfl) ?_
      refine SO.v rfl (opv_pick_f' b5 rfl rfl) ?_
      refine SO.b2 ?_
      refine SO.b2 ?_
      refine SO.b2 ?_
      exact hk2.fitc (m := 4) rfl (or_f b5) rfl
  refine SO.v rfl (opv_move rfl) ?_
  refine SO.cut 3 21 (.bool (((!t3) || (a0.Kind == 0)) || (decide (a1 < 0)))) [Box b1 [.int .i64 a0.Kind, .int .i64 a0.Rights, .int .i64 a0.Obj, .int .i64 a0.Badge, .int .i64 a0.Guard, .int .i64 a0.Bits], Box b2 [.int .i64 0, .int .i64 0, .int .i64 0, .int .i64 0, .int .i64 0, .int .i64 0], F] (fun l2 hk2 => ?_) ?_
  · rcases bool_or ((!t3) || (a0.Kind == 0)) with b6 | b6
    · refine SO.passF rfl rfl rfl b6 rfl rfl ?_
      refine SO.passF rfl rfl rfl b6 rfl rfl ?_
      refine SO.v rfl (opv_pick_t' b6 rfl rfl) ?_
      refine SO.b2 ?_
      refine SO.b2 ?_
      refine SO.b2 ?_
      exact hk2.fitc (m := 3) rfl (or_t b6) rfl
    · refine SO.takeT rfl rfl rfl b6 ?_
      refine SO.v rfl (opv_move rfl) ?_
      refine SO.takeT rfl rfl rfl b6 ?_
      refine SO.v rfl (opv_lss rfl rfl) ?_
      refine SO.v rfl (opv_pick_f' b6 rfl rfl) ?_
      refine SO.b2 ?_
      refine SO.b2 ?_
      refine SO.b2 ?_
      exact hk2.fitc (m := 3) rfl (or_f b6) rfl
  refine SO.v rfl (opv_move rfl) ?_
  refine SO.cut 3 25 (.bool ((((!t3) || (a0.Kind == 0)) || (decide (a1 < 0))) || (decide (7 < a1)))) [Box b1 [.int .i64 a0.Kind, .int .i64 a0.Rights, .int .i64 a0.Obj, .int .i64 a0.Badge, .int .i64 a0.Guard, .int .i64 a0.Bits], Box b2 [.int .i64 0, .int .i64 0, .int .i64 0, .int .i64 0, .int .i64 0, .int .i64 0], F] (fun l2 hk2 => ?_) ?_
  · rcases bool_or (((!t3) || (a0.Kind == 0)) || (decide (a1 < 0))) with b7 | b7
    · refine SO.passF rfl rfl rfl b7 rfl rfl ?_
      refine SO.passF rfl rfl rfl b7 rfl rfl ?_
      refine SO.v rfl (opv_pick_t' b7 rfl rfl) ?_
      refine SO.b2 ?_
      refine SO.b2 ?_
      refine SO.b2 ?_
      exact hk2.fitc (m := 3) rfl (or_t b7) rfl
    · refine SO.takeT rfl rfl rfl b7 ?_
      refine SO.v rfl (opv_move rfl) ?_
      refine SO.takeT rfl rfl rfl b7 ?_
      refine SO.v rfl (opv_gtr rfl rfl) ?_
      refine SO.v rfl (opv_pick_f' b7 rfl rfl) ?_
      refine SO.b2 ?_
      refine SO.b2 ?_
      refine SO.b2 ?_
      exact hk2.fitc (m := 3) rfl (or_f b7) rfl
  refine SO.v rfl (opv_move rfl) ?_
  refine SO.cut 3 29 (.bool (((((!t3) || (a0.Kind == 0)) || (decide (a1 < 0))) || (decide (7 < a1))) || (decide (a2 < 1)))) [Box b1 [.int .i64 a0.Kind, .int .i64 a0.Rights, .int .i64 a0.Obj, .int .i64 a0.Badge, .int .i64 a0.Guard, .int .i64 a0.Bits], Box b2 [.int .i64 0, .int .i64 0, .int .i64 0, .int .i64 0, .int .i64 0, .int .i64 0], F] (fun l2 hk2 => ?_) ?_
  · rcases bool_or ((((!t3) || (a0.Kind == 0)) || (decide (a1 < 0))) || (decide (7 < a1))) with b8 | b8
    · refine SO.passF rfl rfl rfl b8 rfl rfl ?_
      refine SO.passF rfl rfl rfl b8 rfl rfl ?_
      refine SO.v rfl (opv_pick_t' b8 rfl rfl) ?_
      refine SO.b2 ?_
      refine SO.b2 ?_
      refine SO.b2 ?_
      exact hk2.fitc (m := 3) rfl (or_t b8) rfl
    · refine SO.takeT rfl rfl rfl b8 ?_
      refine SO.v rfl (opv_move rfl) ?_
      refine SO.takeT rfl rfl rfl b8 ?_
      refine SO.v rfl (opv_lss rfl rfl) ?_
      refine SO.v rfl (opv_pick_f' b8 rfl rfl) ?_
      refine SO.b2 ?_
      refine SO.b2 ?_
      refine SO.b2 ?_
      exact hk2.fitc (m := 3) rfl (or_f b8) rfl
  refine SO.v rfl (opv_move rfl) ?_
  refine SO.cut 3 33 (.bool ((((((!t3) || (a0.Kind == 0)) || (decide (a1 < 0))) || (decide (7 < a1))) || (decide (a2 < 1))) || (decide (65535 < a2)))) [Box b1 [.int .i64 a0.Kind, .int .i64 a0.Rights, .int .i64 a0.Obj, .int .i64 a0.Badge, .int .i64 a0.Guard, .int .i64 a0.Bits], Box b2 [.int .i64 0, .int .i64 0, .int .i64 0, .int .i64 0, .int .i64 0, .int .i64 0], F] (fun l2 hk2 => ?_) ?_
  · rcases bool_or (((((!t3) || (a0.Kind == 0)) || (decide (a1 < 0))) || (decide (7 < a1))) || (decide (a2 < 1))) with b9 | b9
    · refine SO.passF rfl rfl rfl b9 rfl rfl ?_
      refine SO.passF rfl rfl rfl b9 rfl rfl ?_
      refine SO.v rfl (opv_pick_t' b9 rfl rfl) ?_
      refine SO.b2 ?_
      refine SO.b2 ?_
      refine SO.b2 ?_
      exact hk2.fitc (m := 3) rfl (or_t b9) rfl
    · refine SO.takeT rfl rfl rfl b9 ?_
      refine SO.v rfl (opv_move rfl) ?_
      refine SO.takeT rfl rfl rfl b9 ?_
      refine SO.v rfl (opv_gtr rfl rfl) ?_
      refine SO.v rfl (opv_pick_f' b9 rfl rfl) ?_
      refine SO.b2 ?_
      refine SO.b2 ?_
      refine SO.b2 ?_
      exact hk2.fitc (m := 3) rfl (or_f b9) rfl
  refine SO.nil ?_
  refine S.to (ρ' := [(1, .int .i64 a1), (2, .int .i64 a2), (3, bp b1 0), (6, bp b2 0), (7, .int .i64 0), (33, .bool ((((((!t3) || (a0.Kind == 0)) || (decide (a1 < 0))) || (decide (7 < a1))) || (decide (a2 < 1))) || (decide (65535 < a2))))]) ⟨rfl, rfl, rfl, rfl, rfl, rfl, trivial⟩ ?_
  rcases bool_or ((((((!t3) || (a0.Kind == 0)) || (decide (a1 < 0))) || (decide (7 < a1))) || (decide (a2 < 1))) || (decide (65535 < a2))) with b10 | b10
  · replace h := cond_t b10 h
    refine S.condT rfl b10 ?_
    refine S.seq ?_
    refine S.region ?_
    refine SO.v rfl (opv_build (v := .agg #[.int .i64 0, .int .i64 0, .int .i64 0, .int .i64 0, .int .i64 0, .int .i64 0]) rfl (by intro w; kernel_rfl)) ?_
    refine SO.b1 ?_
    refine SO.storeN Try.sizeOf53 rfl rfl rfl rfl rfl rfl ?_
    refine SO.v rfl (opv_assign rfl) ?_
    refine SO.nil ?_
    cases h
    refine S.b1 ?_
    refine S.drop ?_
    refine S.b1 ?_
    refine S.b1 ?_
    exact S.retC1 Try.func53 rfl rfl rfl Try.isAgg53 Try.sizeOf53 rfl rfl (fun w hs hk => hR w _ _ ⟨rfl, rfl⟩ hs.drop hk)
  · replace h := cond_f b10 h
    refine S.condF rfl b10 ?_
    refine S.skip ?_
    refine S.seq ?_
    refine S.seq ?_
    refine S.region ?_
    refine SO.v rfl (opv_fieldAddr Try.underlying53 rfl Try.sizeOf3 rfl rfl) ?_
    refine SO.load1 rfl Try.isAgg3 rfl rfl ?_
    refine SO.v rfl (opv_neq rfl rfl) ?_
    refine SO.v rfl (opv_move rfl) ?_
    refine SO.cut 4 42 (.bool ((a0.Kind != 3) && (a0.Kind != 4))) [Box b1 [.int .i64 a0.Kind, .int .i64 a0.Rights, .int .i64 a0.Obj, .int .i64 a0.Badge, .int .i64 a0.Guard, .int .i64 a0.Bits], Box b2 [.int .i64 0, .int .i64 0, .int .i64 0, .int .i64 0, .int .i64 0, .int .i64 0], F] (fun l2 hk2 => ?_) ?_
    · rcases bool_or (a0.Kind != 3) with b11 | b11
      · refine SO.takeT rfl rfl rfl b11 ?_
        refine SO.v rfl (opv_fieldAddr Try.underlying53 rfl Try.sizeOf3 rfl rfl) ?_
        refine SO.takeT rfl rfl rfl b11 ?_
        refine SO.load1 rfl Try.isAgg3 rfl rfl ?_
        refine SO.takeT rfl rfl rfl b11 ?_
        refine SO.v rfl (opv_neq rfl rfl) ?_
        refine SO.v rfl (opv_pick_t' b11 rfl rfl) ?_
        refine SO.b2 ?_
        refine SO.b2 ?_
        refine SO.b2 ?_
        exact hk2.fitc (m := 4) rfl (and_t b11) rfl
      · refine SO.passF rfl rfl rfl b11 rfl rfl ?_
        refine SO.passF rfl rfl rfl b11 rfl rfl ?_
        refine SO.passF rfl rfl rfl b11 rfl rfl ?_
        refine SO.v rfl (opv_pick_f' b11 rfl rfl) ?_
        refine SO.b2 ?_
        refine SO.b2 ?_
        refine SO.b2 ?_
        exact hk2.fitc (m := 4) rfl (and_f b11) rfl
    refine SO.nil ?_
    rcases bool_or ((a0.Kind != 3) && (a0.Kind != 4)) with b12 | b12
    · replace h := cond_t b12 h
      refine S.condT rfl b12 ?_
      refine S.seq ?_
      refine S.region ?_
      refine SO.v rfl (opv_build (v := .agg #[.int .i64 0, .int .i64 0, .int .i64 0, .int .i64 0, .int .i64 0, .int .i64 0]) rfl (by intro w; kernel_rfl)) ?_
      refine SO.b1 ?_
      refine SO.storeN Try.sizeOf53 rfl rfl rfl rfl rfl rfl ?_
      refine SO.v rfl (opv_assign rfl) ?_
      refine SO.nil ?_
      refine S.to (ρ' := [(1, .int .i64 a1), (2, .int .i64 a2), (3, bp b1 0), (6, bp b2 0), (7, .int .i64 5)]) ⟨rfl, rfl, rfl, rfl, rfl, trivial⟩ ?_
      cases h
      refine S.b1 ?_
      refine S.drop ?_
      refine S.b1 ?_
      refine S.b1 ?_
      exact S.retC1 Try.func53 rfl rfl rfl Try.isAgg53 Try.sizeOf53 rfl rfl (fun w hs hk => hR w _ _ ⟨rfl, rfl⟩ hs.drop hk)
    · replace h := cond_f b12 h
      refine S.condF rfl b12 ?_
      refine S.skip ?_
      refine S.seq ?_
      refine S.seq ?_
      refine S.region ?_
      refine SO.v rfl (opv_fieldAddr Try.underlying53 rfl Try.sizeOf3 rfl rfl) ?_
      refine SO.load1 rfl Try.isAgg3 rfl rfl ?_
      refine SO.v rfl (opv_neq rfl rfl) ?_
      refine SO.nil ?_
      refine S.to (ρ' := [(1, .int .i64 a1), (2, .int .i64 a2), (3, bp b1 0), (6, bp b2 0), (7, .int .i64 0), (46, .bool (a0.Badge != 0))]) ⟨rfl, rfl, rfl, rfl, rfl, rfl, trivial⟩ ?_
      rcases bool_or (a0.Badge != 0) with b13 | b13
      · replace h := cond_t b13 h
        refine S.condT rfl b13 ?_
        refine S.seq ?_
        refine S.region ?_
        refine SO.v rfl (opv_build (v := .agg #[.int .i64 0, .int .i64 0, .int .i64 0, .int .i64 0, .int .i64 0, .int .i64 0]) rfl (by intro w; kernel_rfl)) ?_
        refine SO.b1 ?_
        refine SO.storeN Try.sizeOf53 rfl rfl rfl rfl rfl rfl ?_
        refine SO.v rfl (opv_assign rfl) ?_
        refine SO.nil ?_
        cases h
        refine S.b1 ?_
        refine S.drop ?_
        refine S.b1 ?_
        refine S.b1 ?_
        exact S.retC1 Try.func53 rfl rfl rfl Try.isAgg53 Try.sizeOf53 rfl rfl (fun w hs hk => hR w _ _ ⟨rfl, rfl⟩ hs.drop hk)
      · replace h := cond_f b13 h
        refine S.condF rfl b13 ?_
        refine S.skip ?_
        refine S.seq ?_
        refine S.region ?_
        refine SO.v rfl (opv_fieldAddr Try.underlying53 rfl Try.sizeOf3 rfl rfl) ?_
        refine SO.load1 rfl Try.isAgg3 rfl rfl ?_
        refine SO.v rfl (opv_move rfl) ?_
        obtain ⟨t14, ht15, h⟩ := opt_bind h
        refine SO.call (pre := []) rfl Try.call74 rfl rfl rfl (ref01_both.ct _ _ _ _ ht15) trivial ?_
        rintro _ _ ⟨rfl, rfl⟩
        refine SO.v rfl (opv_fieldAddr Try.underlying53 rfl Try.sizeOf3 rfl rfl) ?_
        refine SO.store1 Try.sizeOf3 rfl rfl rfl rfl ?_
        refine SO.nil ?_
        refine S.to (ρ' := [(2, .int .i64 a2), (3, bp b1 0), (6, bp b2 0), (7, .int .i64 0)]) ⟨rfl, rfl, rfl, rfl, trivial⟩ ?_
        refine S.seq ?_
        refine S.region ?_
        refine SO.v rfl (opv_move rfl) ?_
        refine SO.v rfl (opv_fieldAddr Try.underlying53 rfl Try.sizeOf3 rfl rfl) ?_
        refine SO.store1 Try.sizeOf3 rfl rfl rfl rfl ?_
        refine SO.nil ?_
        refine S.seq ?_
        refine S.region ?_
        refine SO.loadN rfl Try.isAgg53 Try.sizeOf53 rfl rfl rfl ?_
        refine SO.b1 ?_
        refine SO.storeN Try.sizeOf53 rfl rfl rfl rfl rfl rfl ?_
        refine SO.v rfl (opv_assign rfl) ?_
        refine SO.nil ?_
        cases h
        refine S.b1 ?_
        refine S.drop ?_
        refine S.b1 ?_
        refine S.b1 ?_
        exact S.retC1 Try.func53 rfl rfl rfl Try.isAgg53 Try.sizeOf53 rfl rfl (fun w hs hk => hR w _ _ ⟨rfl, rfl⟩ hs.drop hk)
end Go.Proofs
namespace Go.Proofs
open Go.Sl Go.RowKit
/-! 54 padstone/padstoneref01.Mutate -/
def ref01_Mutate.f (k : Nat) (a0 : api_Cap) (a1 : Int) (a2 : Int) : Option (api_Cap × Int) :=
  (ref01_May.f k a0).bind fun t3 => bif (!t3) || (a0.Kind == 0) then (some ((⟨0, 0, 0, 0, 0, 0⟩ : api_Cap), 1)) else (bif a0.Kind != 2 then (some ((⟨0, 0, 0, 0, 0, 0⟩ : api_Cap), 5)) else ((ref01_May.f k (⟨a0.Kind, a0.Rights, a0.Obj, a0.Badge, a1, a2⟩ : api_Cap)).bind fun t8 => bif !t8 then (some ((⟨0, 0, 0, 0, 0, 0⟩ : api_Cap), 1)) else (some ((⟨a0.Kind, a0.Rights, a0.Obj, a0.Badge, a1, a2⟩ : api_Cap), 0))))
set_option maxHeartbeats 8000000 in
set_option maxRecDepth 100000 in
theorem ref01_Mutate.ct (k : Nat) (a0 : api_Cap) (a1 : Int) (a2 : Int) (r0 : api_Cap) (r1 : Int) (h : ref01_Mutate.f k a0 a1 a2 = some (r0, r1)) :
    Ct Try.prog 54 [.agg #[.int .i64 a0.Kind, .int .i64 a0.Rights, .int .i64 a0.Obj, .int .i64 a0.Badge, .int .i64 a0.Guard, .int .i64 a0.Bits], .int .i64 a1, .int .i64 a2] (fun _ => True) [] (fun u H' => u = .tuple #[.agg #[.int .i64 r0.Kind, .int .i64 r0.Rights, .int .i64 r0.Obj, .int .i64 r0.Badge, .int .i64 r0.Guard, .int .i64 r0.Bits], .int .i64 r1] ∧ H' = []) := by
  unfold ref01_Mutate.f at h
  refine Ct.intro (n := 34) Try.func54 rfl rfl rfl ?_
  intro R w0 F hF hR
  refine S.seq ?_
  refine S.region ?_
  refine SO.box rfl rfl rfl (fun b1 => ?_)
  refine SO.alloc rfl Try.zeroValue53 rfl (fun b2 => ?_)
  refine SO.v rfl (opv_assign rfl) ?_
  refine SO.nil ?_
  refine S.seq ?_
  refine S.region ?_
  refine SO.b1 ?_
  refine SO.loadN rfl Try.isAgg53 Try.sizeOf53 rfl rfl rfl ?_
  obtain ⟨t3, ht4, h⟩ := opt_bind h
  refine SO.call (pre := []) rfl Try.call31 rfl rfl rfl (ref01_May.ct _ _ _ ht4) trivial ?_
  rintro _ _ ⟨rfl, rfl⟩
  refine SO.v rfl (opv_assign rfl) ?_
  refine SO.nil ?_
  refine S.seq ?_
  refine S.seq ?_
  refine S.region ?_
  refine SO.v rfl (opv_move rfl) ?_
  refine SO.v rfl (opv_not rfl) ?_
  refine SO.v rfl (opv_move rfl) ?_
  refine SO.cut 4 18 (.bool ((!t3) || (a0.Kind == 0))) [Box b1 [.int .i64 a0.Kind, .int .i64 a0.Rights, .int .i64 a0.Obj, .int .i64 a0.Badge, .int .i64 a0.Guard, .int .i64 a0.Bits], Box b2 [.int .i64 0, .int .i64 0, .int .i64 0, .int .i64 0, .int .i64 0, .int .i64 0], F] (fun l2 hk2 => ?_) ?_
  · rcases bool_or (!t3) with b5 | b5
    · refine SO.passF rfl rfl rfl b5 rfl rfl ?_
      refine SO.passF rfl rfl rfl b5 rfl rfl ?_
      refine SO.passF rfl rfl rfl b5 rfl rfl ?_
      refine SO.v rfl (opv_pick_t' b5 rfl rfl) ?_
      refine SO.b2 ?_
      refine SO.b2 ?_
      refine SO.b2 ?_
      exact hk2.fitc (m := 4) rfl (or_t b5) rfl
    · refine SO.takeT rfl rfl rfl b5 ?_
      refine SO.v rfl (opv_fieldAddr Try.underlying53 rfl Try.sizeOf3 rfl rfl) ?_
      refine SO.takeT rfl rfl rfl b5 ?_
      refine SO.load1 rfl Try.isAgg3 rfl rfl ?_
      refine SO.takeT rfl rfl rfl b5 ?_
      refine SO.v rfl (opv_eql rfl rfl) ?_
      refine SO.v rfl (opv_pick_f' b5 rfl rfl) ?_
      refine SO.b2 ?_
      refine SO.b2 ?_
      refine SO.b2 ?_
      exact hk2.fitc (m := 4) rfl (or_f b5) rfl
  refine SO.nil ?_
  refine S.to (ρ' := [(1, .int .i64 a1), (2, .int .i64 a2), (3, bp b1 0), (6, bp b2 0), (7, .int .i64 0), (18, .bool ((!t3) || (a0.Kind == 0)))]) ⟨rfl, rfl, rfl, rfl, rfl, rfl, trivial⟩ ?_
  rcases bool_or ((!t3) || (a0.Kind == 0)) with b6 | b6
  · replace h := cond_t b6 h
    refine S.condT rfl b6 ?_
    refine S.seq ?_
    refine S.region ?_
    refine SO.v rfl (opv_build (v := .agg #[.int .i64 0, .int .i64 0, .int .i64 0, .int .i64 0, .int .i64 0, .int .i64 0]) rfl (by intro w; kernel_rfl)) ?_
    refine SO.b1 ?_
    refine SO.storeN Try.sizeOf53 rfl rfl rfl rfl rfl rfl ?_
    refine SO.v rfl (opv_assign rfl) ?_
    refine SO.nil ?_
    cases h
    refine S.b1 ?_
    refine S.drop ?_
    refine S.b1 ?_
    refine S.b1 ?_
    exact S.retC1 Try.func54 rfl rfl rfl Try.isAgg53 Try.sizeOf53 rfl rfl (fun w hs hk => hR w _ _ ⟨rfl, rfl⟩ hs.drop hk)
  · replace h := cond_f b6 h
    refine S.condF rfl b6 ?_
    refine S.skip ?_
    refine S.seq ?_
    refine S.seq ?_
    refine S.region ?_
    refine SO.v rfl (opv_fieldAddr Try.underlying53 rfl Try.sizeOf3 rfl rfl) ?_
    refine SO.load1 rfl Try.isAgg3 rfl rfl ?_
    refine SO.v rfl (opv_neq rfl rfl) ?_
    refine SO.nil ?_
    rcases bool_or (a0.Kind != 2) with b7 | b7
    · replace h := cond_t b7 h
      refine S.condT rfl b7 ?_
      refine S.seq ?_
      refine S.region ?_
      refine SO.v rfl (opv_build (v := .agg #[.int .i64 0, .int .i64 0, .int .i64 0, .int .i64 0, .int .i64 0, .int .i64 0]) rfl (by intro w; kernel_rfl)) ?_
      refine SO.b1 ?_
      refine SO.storeN Try.sizeOf53 rfl rfl rfl rfl rfl rfl ?_
      refine SO.v rfl (opv_assign rfl) ?_
      refine SO.nil ?_
      cases h
      refine S.b1 ?_
      refine S.drop ?_
      refine S.b1 ?_
      refine S.b1 ?_
      exact S.retC1 Try.func54 rfl rfl rfl Try.isAgg53 Try.sizeOf53 rfl rfl (fun w hs hk => hR w _ _ ⟨rfl, rfl⟩ hs.drop hk)
    · replace h := cond_f b7 h
      refine S.condF rfl b7 ?_
      refine S.skip ?_
      refine S.seq ?_
      refine S.region ?_
      refine SO.v rfl (opv_move rfl) ?_
      refine SO.v rfl (opv_fieldAddr Try.underlying53 rfl Try.sizeOf3 rfl rfl) ?_
      refine SO.store1 Try.sizeOf3 rfl rfl rfl rfl ?_
      refine SO.nil ?_
      refine S.to (ρ' := [(2, .int .i64 a2), (3, bp b1 0), (6, bp b2 0), (7, .int .i64 0)]) ⟨rfl, rfl, rfl, rfl, trivial⟩ ?_
      refine S.seq ?_
      refine S.region ?_
      refine SO.v rfl (opv_move rfl) ?_
      refine SO.v rfl (opv_fieldAddr Try.underlying53 rfl Try.sizeOf3 rfl rfl) ?_
      refine SO.store1 Try.sizeOf3 rfl rfl rfl rfl ?_
      refine SO.nil ?_
      refine S.seq ?_
      refine S.region ?_
      refine SO.loadN rfl Try.isAgg53 Try.sizeOf53 rfl rfl rfl ?_
      obtain ⟨t8, ht9, h⟩ := opt_bind h
      have ct11 := ref01_May.ct _ _ _ ht9
      dsimp only at ct11
      refine SO.call (pre := []) rfl Try.call31 rfl rfl rfl ct11 trivial ?_
      rintro _ _ ⟨rfl, rfl⟩
      refine SO.v rfl (opv_assign rfl) ?_
      refine SO.nil ?_
      refine S.seq ?_
      refine S.seq ?_
      refine S.region ?_
      refine SO.v rfl (opv_move rfl) ?_
      refine SO.v rfl (opv_not rfl) ?_
      refine SO.nil ?_
      refine S.to (ρ' := [(3, bp b1 0), (6, bp b2 0), (7, .int .i64 0), (31, .bool (!t8))]) ⟨rfl, rfl, rfl, rfl, trivial⟩ ?_
      rcases bool_or (!t8) with b10 | b10
      · replace h := cond_t b10 h
        refine S.condT rfl b10 ?_
        refine S.seq ?_
        refine S.region ?_
        refine SO.v rfl (opv_build (v := .agg #[.int .i64 0, .int .i64 0, .int .i64 0, .int .i64 0, .int .i64 0, .int .i64 0]) rfl (by intro w; kernel_rfl)) ?_
        refine SO.b1 ?_
        refine SO.storeN Try.sizeOf53 rfl rfl rfl rfl rfl rfl ?_
        refine SO.v rfl (opv_assign rfl) ?_
        refine SO.nil ?_
        cases h
        refine S.b1 ?_
        refine S.drop ?_
        refine S.b1 ?_
        refine S.b1 ?_
        exact S.retC1 Try.func54 rfl rfl rfl Try.isAgg53 Try.sizeOf53 rfl rfl (fun w hs hk => hR w _ _ ⟨rfl, rfl⟩ hs.drop hk)
      · replace h := cond_f b10 h
        refine S.condF rfl b10 ?_
        refine S.skip ?_
        refine S.seq ?_
        refine S.region ?_
        refine SO.loadN rfl Try.isAgg53 Try.sizeOf53 rfl rfl rfl ?_
        refine SO.b1 ?_
        refine SO.storeN Try.sizeOf53 rfl rfl rfl rfl rfl rfl ?_
        refine SO.v rfl (opv_assign rfl) ?_
        refine SO.nil ?_
        cases h
        refine S.b1 ?_
        refine S.drop ?_
        refine S.b1 ?_
        refine S.b1 ?_
        exact S.retC1 Try.func54 rfl rfl rfl Try.isAgg53 Try.sizeOf53 rfl rfl (fun w hs hk => hR w _ _ ⟨rfl, rfl⟩ hs.drop hk)
end Go.Proofs
namespace Go.Proofs
open Go.Sl Go.RowKit
/-! 56 padstone/padstoneref01.Has -/
def ref01_Has.f (k : Nat) (a0 : api_Cap) (a1 : Int) : Option (Bool) :=
  (ref01_both.f k a0.Rights a1).bind fun t2 => some (t2 == a1)
set_option maxHeartbeats 8000000 in
set_option maxRecDepth 100000 in
theorem ref01_Has.ct (k : Nat) (a0 : api_Cap) (a1 : Int) (r0 : Bool) (h : ref01_Has.f k a0 a1 = some r0) :
    Ct Try.prog 56 [.agg #[.int .i64 a0.Kind, .int .i64 a0.Rights, .int .i64 a0.Obj, .int .i64 a0.Badge, .int .i64 a0.Guard, .int .i64 a0.Bits], .int .i64 a1] (fun _ => True) [] (fun u H' => u = .bool r0 ∧ H' = []) := by
  unfold ref01_Has.f at h
  refine Ct.intro (n := 11) Try.func56 rfl rfl rfl ?_
  intro R w0 F hF hR
  refine S.seq ?_
  refine S.region ?_
  refine SO.box rfl rfl rfl (fun b1 => ?_)
  refine SO.v rfl (opv_assign rfl) ?_
  refine SO.nil ?_
  refine S.seq ?_
  refine S.region ?_
  refine SO.v rfl (opv_fieldAddr Try.underlying53 rfl Try.sizeOf3 rfl rfl) ?_
  refine SO.load1 rfl Try.isAgg3 rfl rfl ?_
  refine SO.v rfl (opv_move rfl) ?_
  obtain ⟨t2, ht3, h⟩ := opt_bind h
  refine SO.call (pre := []) rfl Try.call74 rfl rfl rfl (ref01_both.ct _ _ _ _ ht3) trivial ?_
  rintro _ _ ⟨rfl, rfl⟩
  refine SO.v rfl (opv_move rfl) ?_
  refine SO.v rfl (opv_eql rfl rfl) ?_
  refine SO.v rfl (opv_assign rfl) ?_
  refine SO.nil ?_
  refine S.to (ρ' := [(4, .bool (t2 == a1))]) ⟨rfl, trivial⟩ ?_
  cases h
  refine S.drop ?_
  exact S.ret1 Try.func56 rfl rfl (fun w hs hk => hR w _ _ ⟨rfl, rfl⟩ hs hk)
end Go.Proofs
namespace Go.Proofs
open Go.Sl Go.RowKit
/-! 57 padstone/padstoneref01.Within -/
def ref01_Within.f (k : Nat) (a0 : api_Cap) (a1 : api_Cap) : Option (Bool) :=
  (bif a0.Kind == a1.Kind then (bif a0.Obj == a1.Obj then ((ref01_both.f k a0.Rights a1.Rights).bind fun t5 => bif t5 == a0.Rights then (bif a1.Badge == 0 then (some true) else (some (a0.Badge == a1.Badge))) else (some false)) else (some false)) else (some false)).bind fun j4_1 => some j4_1
set_option maxHeartbeats 8000000 in
set_option maxRecDepth 100000 in
theorem ref01_Within.ct (k : Nat) (a0 : api_Cap) (a1 : api_Cap) (r0 : Bool) (h : ref01_Within.f k a0 a1 = some r0) :
    Ct Try.prog 57 [.agg #[.int .i64 a0.Kind, .int .i64 a0.Rights, .int .i64 a0.Obj, .int .i64 a0.Badge, .int .i64 a0.Guard, .int .i64 a0.Bits], .agg #[.int .i64 a1.Kind, .int .i64 a1.Rights, .int .i64 a1.Obj, .int .i64 a1.Badge, .int .i64 a1.Guard, .int .i64 a1.Bits]] (fun _ => True) [] (fun u H' => u = .bool r0 ∧ H' = []) := by
  unfold ref01_Within.f at h
  refine Ct.intro (n := 39) Try.func57 rfl rfl rfl ?_
  intro R w0 F hF hR
  refine S.seq ?_
  refine S.region ?_
  refine SO.box rfl rfl rfl (fun b1 => ?_)
  refine SO.box rfl rfl rfl (fun b2 => ?_)
  refine SO.v rfl (opv_assign rfl) ?_
  refine SO.nil ?_
  refine S.seq ?_
  obtain ⟨j4_1, hC1, hJ1⟩ := opt_bind h
  clear h
  refine S.cutP (G := Unit) (fun _ => True) (fun _ => [(4, .bool j4_1)]) (fun _ => [Box b2 [.int .i64 a1.Kind, .int .i64 a1.Rights, .int .i64 a1.Obj, .int .i64 a1.Badge, .int .i64 a1.Guard, .int .i64 a1.Bits], Box b1 [.int .i64 a0.Kind, .int .i64 a0.Rights, .int .i64 a0.Obj, .int .i64 a0.Badge, .int .i64 a0.Guard, .int .i64 a0.Bits], F]) (fun hk1 => ?_) ?_
  · replace h := hC1
    rcases bool_or (a0.Kind == a1.Kind) with b3 | b3
    · replace h := cond_t b3 h
      rcases bool_or (a0.Obj == a1.Obj) with b4 | b4
      · replace h := cond_t b4 h
        obtain ⟨t5, ht6, h⟩ := opt_bind h
        rcases bool_or (t5 == a0.Rights) with b7 | b7
        · replace h := cond_t b7 h
          rcases bool_or (a1.Badge == 0) with b8 | b8
          · replace h := cond_t b8 h
            refine S.draw (T := [tS 2 (bp b1 0), tS 3 (bp b2 0), tR (Box b2 [.int .i64 a1.Kind, .int .i64 a1.Rights, .int .i64 a1.Obj, .int .i64 a1.Badge, .int .i64 a1.Guard, .int .i64 a1.Bits]), tR (Box b1 [.int .i64 a0.Kind, .int .i64 a0.Rights, .int .i64 a0.Obj, .int .i64 a0.Badge, .int .i64 a0.Guard, .int .i64 a0.Bits]), tR (F), tS 5 (bp b1 0), tS 6 (.int .i64 a0.Kind), tS 7 (bp b2 0), tS 8 (.int .i64 a1.Kind), tS 9 (.bool (a0.Kind == a1.Kind)), tS 10 (.bool (a0.Kind == a1.Kind)), tS 11 (bp b1 2), tS 12 (.int .i64 a0.Obj), tS 13 (bp b2 2), tS 14 (.int .i64 a1.Obj), tS 15 (.bool (a0.Obj == a1.Obj)), tS 16 (.bool (a0.Obj == a1.Obj)), tS 17 (.bool (a0.Obj == a1.Obj)), tS 18 (bp b1 1), tS 19 (.int .i64 a0.Rights), tS 20 (bp b2 1), tS 21 (.int .i64 a1.Rights), tS 22 (.int .i64 t5), tS 23 (bp b1 1), tS 24 (.int .i64 a0.Rights), tS 25 (.bool (t5 == a0.Rights)), tS 26 (.bool (t5 == a0.Rights)), tS 27 (.bool (t5 == a0.Rights)), tS 28 (bp b2 3), tS 29 (.int .i64 a1.Badge), tS 30 (.bool (a1.Badge == 0)), tS 31 (.bool (a1.Badge == 0)), tS 32 (undef), tS 33 (undef), tS 34 (undef), tS 35 (undef), tS 36 (undef), tS 37 (.bool true), tS 38 (.bool true), tS 4 (.bool true)]) (D := [⟨[0], [], [5]⟩, ⟨[5, 3], [], [6]⟩, ⟨[1], [], [7]⟩, ⟨[7, 2], [], [8]⟩, ⟨[6, 8], [], [9]⟩, ⟨[9], [], [10]⟩, ⟨[0, 10], [], [11]⟩, ⟨[10, 11, 3], [], [12]⟩, ⟨[1, 10], [], [13]⟩, ⟨[10, 13, 2], [], [14]⟩, ⟨[10, 12, 14], [], [15]⟩, ⟨[10, 15], [], [16]⟩, ⟨[16], [], [17]⟩, ⟨[0, 17], [], [18]⟩, ⟨[17, 18, 3], [], [19]⟩, ⟨[1, 17], [], [20]⟩, ⟨[17, 20, 2], [], [21]⟩, ⟨[17, 19, 21], [], [22]⟩, ⟨[0, 17], [], [23]⟩, ⟨[17, 23, 3], [], [24]⟩, ⟨[17, 22, 24], [], [25]⟩, ⟨[17, 25], [], [26]⟩, ⟨[26], [], [27]⟩, ⟨[1, 27], [], [28]⟩, ⟨[27, 28, 2], [], [29]⟩, ⟨[27, 29], [], [30]⟩, ⟨[27, 30], [], [31]⟩, ⟨[31], [], [32]⟩, ⟨[31], [], [33]⟩, ⟨[31], [], [34]⟩, ⟨[31], [], [35]⟩, ⟨[31], [], [36]⟩, ⟨[27, 31, 36], [], [37]⟩, ⟨[27, 37], [], [38]⟩, ⟨[38], [], [39]⟩]) (ini := [0, 1, 2, 3, 4]) (fin := [39, 2, 3, 4]) (bf := [[], [0], [], [2], [0, 1, 2, 3], [0, 1, 2, 3, 4], [0, 1, 2, 3, 4, 5], [0, 1, 2, 3, 4, 5, 6], [0, 1, 2, 3, 4, 5], [0, 1, 2, 3, 4, 5, 8], [0, 1, 2, 3, 4, 5, 6, 7, 8, 9], [0, 1, 2, 3, 4, 5, 6, 7, 8, 9, 10], [0, 1, 2, 3, 4, 5, 6, 7, 8, 9, 10, 11], [0, 1, 2, 3, 4, 5, 6, 7, 8, 9, 10, 11, 12], [0, 1, 2, 3, 4, 5, 6, 7, 8, 9, 10, 11, 12, 13], [0, 1, 2, 3, 4, 5, 6, 7, 8, 9, 10, 11, 12], [0, 1, 2, 3, 4, 5, 6, 7, 8, 9, 10, 11, 12, 15], [0, 1, 2, 3, 4, 5, 6, 7, 8, 9, 10, 11, 12, 13, 14, 15, 16], [0, 1, 2, 3, 4, 5, 6, 7, 8, 9, 10, 11, 12], [0, 1, 2, 3, 4, 5, 6, 7, 8, 9, 10, 11, 12, 18], [0, 1, 2, 3, 4, 5, 6, 7, 8, 9, 10, 11, 12, 13, 14, 15, 16, 17, 18, 19], [0, 1, 2, 3, 4, 5, 6, 7, 8, 9, 10, 11, 12, 13, 14, 15, 16, 17, 18, 19, 20], [0, 1, 2, 3, 4, 5, 6, 7, 8, 9, 10, 11, 12, 13, 14, 15, 16, 17, 18, 19, 20, 21], [0, 1, 2, 3, 4, 5, 6, 7, 8, 9, 10, 11, 12, 13, 14, 15, 16, 17, 18, 19, 20, 21, 22], [0, 1, 2, 3, 4, 5, 6, 7, 8, 9, 10, 11, 12, 13, 14, 15, 16, 17, 18, 19, 20, 21, 22, 23], [0, 1, 2, 3, 4, 5, 6, 7, 8, 9, 10, 11, 12, 13, 14, 15, 16, 17, 18, 19, 20, 21, 22, 23, 24], [0, 1, 2, 3, 4, 5, 6, 7, 8, 9, 10, 11, 12, 13, 14, 15, 16, 17, 18, 19, 20, 21, 22, 23, 24, 25], [0, 1, 2, 3, 4, 5, 6, 7, 8, 9, 10, 11, 12, 13, 14, 15, 16, 17, 18, 19, 20, 21, 22, 23, 24, 25, 26], [0, 1, 2, 3, 4, 5, 6, 7, 8, 9, 10, 11, 12, 13, 14, 15, 16, 17, 18, 19, 20, 21, 22, 23, 24, 25, 26, 27], [0, 1, 2, 3, 4, 5, 6, 7, 8, 9, 10, 11, 12, 13, 14, 15, 16, 17, 18, 19, 20, 21, 22, 23, 24, 25, 26], [0, 1, 2, 3, 4, 5, 6, 7, 8, 9, 10, 11, 12, 13, 14, 15, 16, 17, 18, 19, 20, 21, 22, 23, 24, 25, 26, 29], [0, 1, 2, 3, 4, 5, 6, 7, 8, 9, 10, 11, 12, 13, 14, 15, 16, 17, 18, 19, 20, 21, 22, 23, 24, 25, 26, 27, 28, 29, 30], [0, 1, 2, 3, 4, 5, 6, 7, 8, 9, 10, 11, 12, 13, 14, 15, 16, 17, 18, 19, 20, 21, 22, 23, 24, 25, 26, 27, 28, 29, 30, 31], [0, 1, 2, 3, 4, 5, 6, 7, 8, 9, 10, 11, 12, 13, 14, 15, 16, 17, 18, 19, 20, 21, 22, 23, 24, 25, 26, 27, 28, 29, 30, 31, 32], [0, 1, 2, 3, 4, 5, 6, 7, 8, 9, 10, 11, 12, 13, 14, 15, 16, 17, 18, 19, 20, 21, 22, 23, 24, 25, 26, 27, 28, 29, 30, 31, 32, 33]]) (by kernel_rfl) (by kernel_rfl) (fun x w h1 h2 => (.cons () (.cons () (.cons () (.cons () (.cons () (.nil ⟨EnvAll.of h1 ⟨rfl, rfl, trivial⟩, h2⟩))))))) ⟨?_, ?_, ?_, ?_, ?_, ?_, ?_, ?_, ?_, ?_, ?_, ?_, ?_, ?_, ?_, ?_, ?_, ?_, ?_, ?_, ?_, ?_, ?_, ?_, ?_, ?_, ?_, ?_, ?_, ?_, ?_, ?_, ?_, ?_, ?_, trivial⟩ ?_
            · rintro Fr _
              refine SO.v rfl (opv_fieldAddr Try.underlying53 rfl Try.sizeOf3 rfl rfl) ?_
              exact SO.nilZ fun a w h1 h2 h3 h4 h5 => PZ.of h1 h3 h5 (.cons () (.cons () (.nil ⟨EnvAll.of h2 ⟨rfl, rfl, trivial⟩, h4⟩)))
            · rintro Fr _ _
              refine SO.load1 rfl Try.isAgg3 rfl rfl ?_
              exact SO.nilZ fun a w h1 h2 h3 h4 h5 => PZ.of h1 h3 h5 (.cons () (.cons () (.cons () (.nil ⟨EnvAll.of h2 ⟨rfl, rfl, trivial⟩, h4⟩))))
            · rintro Fr _
              refine SO.v rfl (opv_fieldAddr Try.underlying53 rfl Try.sizeOf3 rfl rfl) ?_
              exact SO.nilZ fun a w h1 h2 h3 h4 h5 => PZ.of h1 h3 h5 (.cons () (.cons () (.nil ⟨EnvAll.of h2 ⟨rfl, rfl, trivial⟩, h4⟩)))
            · rintro Fr _ _
              refine SO.load1 rfl Try.isAgg3 rfl rfl ?_
              exact SO.nilZ fun a w h1 h2 h3 h4 h5 => PZ.of h1 h3 h5 (.cons () (.cons () (.cons () (.nil ⟨EnvAll.of h2 ⟨rfl, rfl, trivial⟩, h4⟩))))
            · rintro Fr _ _
              refine SO.v rfl (opv_eql rfl rfl) ?_
              exact SO.nilZ fun a w h1 h2 h3 h4 h5 => PZ.of h1 h3 h5 (.cons () (.cons () (.cons () (.nil ⟨EnvAll.of h2 ⟨rfl, rfl, rfl, trivial⟩, h4⟩))))
            · rintro Fr _
              refine SO.v rfl (opv_move rfl) ?_
              exact SO.nilZ fun a w h1 h2 h3 h4 h5 => PZ.of h1 h3 h5 (.cons () (.cons () (.nil ⟨EnvAll.of h2 ⟨rfl, rfl, trivial⟩, h4⟩)))
            · rintro Fr _ _
              refine SO.takeT rfl rfl rfl b3 ?_
              refine SO.v rfl (opv_fieldAddr Try.underlying53 rfl Try.sizeOf3 rfl rfl) ?_
              exact SO.nilZ fun a w h1 h2 h3 h4 h5 => PZ.of h1 h3 h5 (.cons () (.cons () (.cons () (.nil ⟨EnvAll.of h2 ⟨rfl, rfl, rfl, trivial⟩, h4⟩))))
            · rintro Fr _ _ _
              refine SO.takeT rfl rfl rfl b3 ?_
              refine SO.load1 rfl Try.isAgg3 rfl rfl ?_
              exact SO.nilZ fun a w h1 h2 h3 h4 h5 => PZ.of h1 h3 h5 (.cons () (.cons () (.cons () (.cons () (.nil ⟨EnvAll.of h2 ⟨rfl, rfl, rfl, trivial⟩, h4⟩)))))
            · rintro Fr _ _
              refine SO.takeT rfl rfl rfl b3 ?_
              refine SO.v rfl (opv_fieldAddr Try.underlying53 rfl Try.sizeOf3 rfl rfl) ?_
              exact SO.nilZ fun a w h1 h2 h3 h4 h5 => PZ.of h1 h3 h5 (.cons () (.cons () (.cons () (.nil ⟨EnvAll.of h2 ⟨rfl, rfl, rfl, trivial⟩, h4⟩))))
            · rintro Fr _ _ _
              refine SO.takeT rfl rfl rfl b3 ?_
              refine SO.load1 rfl Try.isAgg3 rfl rfl ?_
              exact SO.nilZ fun a w h1 h2 h3 h4 h5 => PZ.of h1 h3 h5 (.cons () (.cons () (.cons () (.cons () (.nil ⟨EnvAll.of h2 ⟨rfl, rfl, rfl, trivial⟩, h4⟩)))))
            · rintro Fr _ _ _
              refine SO.takeT rfl rfl rfl b3 ?_
              refine SO.v rfl (opv_eql rfl rfl) ?_
              exact SO.nilZ fun a w h1 h2 h3 h4 h5 => PZ.of h1 h3 h5 (.cons () (.cons () (.cons () (.cons () (.nil ⟨EnvAll.of h2 ⟨rfl, rfl, rfl, rfl, trivial⟩, h4⟩)))))
            · rintro Fr _ _
              refine SO.v rfl (opv_pick_t' b3 rfl rfl) ?_
              exact SO.nilZ fun a w h1 h2 h3 h4 h5 => PZ.of h1 h3 h5 (.cons () (.cons () (.cons () (.nil ⟨EnvAll.of h2 ⟨rfl, rfl, rfl, trivial⟩, h4⟩))))
            · rintro Fr _
              refine SO.v rfl (opv_move rfl) ?_
              exact SO.nilZ fun a w h1 h2 h3 h4 h5 => PZ.of h1 h3 h5 (.cons () (.cons () (.nil ⟨EnvAll.of h2 ⟨rfl, rfl, trivial⟩, h4⟩)))
            · rintro Fr _ _
              refine SO.takeT rfl rfl rfl b4 ?_
              refine SO.v rfl (opv_fieldAddr Try.underlying53 rfl Try.sizeOf3 rfl rfl) ?_
              exact SO.nilZ fun a w h1 h2 h3 h4 h5 => PZ.of h1 h3 h5 (.cons () (.cons () (.cons () (.nil ⟨EnvAll.of h2 ⟨rfl, rfl, rfl, trivial⟩, h4⟩))))
            · rintro Fr _ _ _
              refine SO.takeT rfl rfl rfl b4 ?_
              refine SO.load1 rfl Try.isAgg3 rfl rfl ?_
              exact SO.nilZ fun a w h1 h2 h3 h4 h5 => PZ.of h1 h3 h5 (.cons () (.cons () (.cons () (.cons () (.nil ⟨EnvAll.of h2 ⟨rfl, rfl, rfl, trivial⟩, h4⟩)))))
            · rintro Fr _ _
              refine SO.takeT rfl rfl rfl b4 ?_
              refine SO.v rfl (opv_fieldAddr Try.underlying53 rfl Try.sizeOf3 rfl rfl) ?_
              exact SO.nilZ fun a w h1 h2 h3 h4 h5 => PZ.of h1 h3 h5 (.cons () (.cons () (.cons () (.nil ⟨EnvAll.of h2 ⟨rfl, rfl, rfl, trivial⟩, h4⟩))))
            · rintro Fr _ _ _
              refine SO.takeT rfl rfl rfl b4 ?_
              refine SO.load1 rfl Try.isAgg3 rfl rfl ?_
              exact SO.nilZ fun a w h1 h2 h3 h4 h5 => PZ.of h1 h3 h5 (.cons () (.cons () (.cons () (.cons () (.nil ⟨EnvAll.of h2 ⟨rfl, rfl, rfl, trivial⟩, h4⟩)))))
            · rintro Fr _ _ _
              refine SO.takeT rfl rfl rfl b4 ?_
              refine SO.call (pre := []) rfl Try.call74 rfl rfl rfl (ref01_both.ct _ _ _ _ ht6) trivial ?_
              rintro _ _ ⟨rfl, rfl⟩
              exact SO.nilZ fun a w h1 h2 h3 h4 h5 => PZ.of h1 h3 h5 (.cons () (.cons () (.cons () (.cons () (.nil ⟨EnvAll.of h2 ⟨rfl, rfl, rfl, rfl, trivial⟩, h4⟩)))))
            · rintro Fr _ _
              refine SO.takeT rfl rfl rfl b4 ?_
              refine SO.v rfl (opv_fieldAddr Try.underlying53 rfl Try.sizeOf3 rfl rfl) ?_
              exact SO.nilZ fun a w h1 h2 h3 h4 h5 => PZ.of h1 h3 h5 (.cons () (.cons () (.cons () (.nil ⟨EnvAll.of h2 ⟨rfl, rfl, rfl, trivial⟩, h4⟩))))
            · rintro Fr _ _ _
              refine SO.takeT rfl rfl rfl b4 ?_
              refine SO.load1 rfl Try.isAgg3 rfl rfl ?_
              exact SO.nilZ fun a w h1 h2 h3 h4 h5 => PZ.of h1 h3 h5 (.cons () (.cons () (.cons () (.cons () (.nil ⟨EnvAll.of h2 ⟨rfl, rfl, rfl, trivial⟩, h4⟩)))))
            · rintro Fr _ _ _
              refine SO.takeT rfl rfl rfl b4 ?_
              refine SO.v rfl (opv_eql rfl rfl) ?_
              exact SO.nilZ fun a w h1 h2 h3 h4 h5 => PZ.of h1 h3 h5 (.cons () (.cons () (.cons () (.cons () (.nil ⟨EnvAll.of h2 ⟨rfl, rfl, rfl, rfl, trivial⟩, h4⟩)))))
            · rintro Fr _ _
              refine SO.v rfl (opv_pick_t' b4 rfl rfl) ?_
              exact SO.nilZ fun a w h1 h2 h3 h4 h5 => PZ.of h1 h3 h5 (.cons () (.cons () (.cons () (.nil ⟨EnvAll.of h2 ⟨rfl, rfl, rfl, trivial⟩, h4⟩))))
            · rintro Fr _
              refine SO.v rfl (opv_move rfl) ?_
              exact SO.nilZ fun a w h1 h2 h3 h4 h5 => PZ.of h1 h3 h5 (.cons () (.cons () (.nil ⟨EnvAll.of h2 ⟨rfl, rfl, trivial⟩, h4⟩)))
            · rintro Fr _ _
              refine SO.takeT rfl rfl rfl b7 ?_
              refine SO.v rfl (opv_fieldAddr Try.underlying53 rfl Try.sizeOf3 rfl rfl) ?_
              exact SO.nilZ fun a w h1 h2 h3 h4 h5 => PZ.of h1 h3 h5 (.cons () (.cons () (.cons () (.nil ⟨EnvAll.of h2 ⟨rfl, rfl, rfl, trivial⟩, h4⟩))))
            · rintro Fr _ _ _
              refine SO.takeT rfl rfl rfl b7 ?_
              refine SO.load1 rfl Try.isAgg3 rfl rfl ?_
              exact SO.nilZ fun a w h1 h2 h3 h4 h5 => PZ.of h1 h3 h5 (.cons () (.cons () (.cons () (.cons () (.nil ⟨EnvAll.of h2 ⟨rfl, rfl, rfl, trivial⟩, h4⟩)))))
            · rintro Fr _ _
              refine SO.takeT rfl rfl rfl b7 ?_
              refine SO.v rfl (opv_eql rfl rfl) ?_
              exact SO.nilZ fun a w h1 h2 h3 h4 h5 => PZ.of h1 h3 h5 (.cons () (.cons () (.cons () (.nil ⟨EnvAll.of h2 ⟨rfl, rfl, rfl, trivial⟩, h4⟩))))
            · rintro Fr _ _
              refine SO.takeT rfl rfl rfl b7 ?_
              refine SO.v rfl (opv_move rfl) ?_
              exact SO.nilZ fun a w h1 h2 h3 h4 h5 => PZ.of h1 h3 h5 (.cons () (.cons () (.cons () (.nil ⟨EnvAll.of h2 ⟨rfl, rfl, rfl, trivial⟩, h4⟩))))
            · rintro Fr _
              refine SO.passF rfl rfl rfl b8 rfl rfl ?_
              exact SO.nilZ fun a w h1 h2 h3 h4 h5 => PZ.of h1 h3 h5 (.cons () (.cons () (.nil ⟨EnvAll.of h2 ⟨rfl, rfl, trivial⟩, h4⟩)))
            · rintro Fr _
              refine SO.passF rfl rfl rfl b8 rfl rfl ?_
              exact SO.nilZ fun a w h1 h2 h3 h4 h5 => PZ.of h1 h3 h5 (.cons () (.cons () (.nil ⟨EnvAll.of h2 ⟨rfl, rfl, trivial⟩, h4⟩)))
            · rintro Fr _
              refine SO.passF rfl rfl rfl b8 rfl rfl ?_
              exact SO.nilZ fun a w h1 h2 h3 h4 h5 => PZ.of h1 h3 h5 (.cons () (.cons () (.nil ⟨EnvAll.of h2 ⟨rfl, rfl, trivial⟩, h4⟩)))
            · rintro Fr _
              refine SO.passF rfl rfl rfl b8 rfl rfl ?_
              exact SO.nilZ fun a w h1 h2 h3 h4 h5 => PZ.of h1 h3 h5 (.cons () (.cons () (.nil ⟨EnvAll.of h2 ⟨rfl, rfl, trivial⟩, h4⟩)))
            · rintro Fr _
              refine SO.passF rfl rfl rfl b8 rfl rfl ?_
              exact SO.nilZ fun a w h1 h2 h3 h4 h5 => PZ.of h1 h3 h5 (.cons () (.cons () (.nil ⟨EnvAll.of h2 ⟨rfl, rfl, trivial⟩, h4⟩)))
            · rintro Fr _ _ _
              refine SO.takeT rfl rfl rfl b7 ?_
              refine SO.v rfl (opv_pick_t' b8 rfl rfl) ?_
              exact SO.nilZ fun a w h1 h2 h3 h4 h5 => PZ.of h1 h3 h5 (.cons () (.cons () (.cons () (.cons () (.nil ⟨EnvAll.of h2 ⟨rfl, rfl, rfl, rfl, trivial⟩, h4⟩)))))
            · rintro Fr _ _
              refine SO.v rfl (opv_pick_t' b7 rfl rfl) ?_
              exact SO.nilZ fun a w h1 h2 h3 h4 h5 => PZ.of h1 h3 h5 (.cons () (.cons () (.cons () (.nil ⟨EnvAll.of h2 ⟨rfl, rfl, rfl, trivial⟩, h4⟩))))
            · rintro Fr _
              refine SO.v rfl (opv_assign rfl) ?_
              exact SO.nilZ fun a w h1 h2 h3 h4 h5 => PZ.of h1 h3 h5 (.cons () (.cons () (.nil ⟨EnvAll.of h2 ⟨rfl, rfl, trivial⟩, h4⟩)))
            rintro _ _ _ _
            show S _ _ _ _ _ _ _ [Box b2 [.int .i64 a1.Kind, .int .i64 a1.Rights, .int .i64 a1.Obj, .int .i64 a1.Badge, .int .i64 a1.Guard, .int .i64 a1.Bits], Box b1 [.int .i64 a0.Kind, .int .i64 a0.Rights, .int .i64 a0.Obj, .int .i64 a0.Badge, .int .i64 a0.Guard, .int .i64 a0.Bits], F]
            refine S.to (ρ' := [(4, .bool true)]) ⟨rfl, trivial⟩ ?_
            cases h
            refine S.b2 ?_
            refine S.b2 ?_
            refine S.b2 ?_
            refine S.to ?_ (hk1 () trivial)
            exact ⟨rfl, trivial⟩
          · replace h := cond_f b8 h
            refine S.draw (T := [tS 2 (bp b1 0), tS 3 (bp b2 0), tR (Box b2 [.int .i64 a1.Kind, .int .i64 a1.Rights, .int .i64 a1.Obj, .int .i64 a1.Badge, .int .i64 a1.Guard, .int .i64 a1.Bits]), tR (Box b1 [.int .i64 a0.Kind, .int .i64 a0.Rights, .int .i64 a0.Obj, .int .i64 a0.Badge, .int .i64 a0.Guard, .int .i64 a0.Bits]), tR (F), tS 5 (bp b1 0), tS 6 (.int .i64 a0.Kind), tS 7 (bp b2 0), tS 8 (.int .i64 a1.Kind), tS 9 (.bool (a0.Kind == a1.Kind)), tS 10 (.bool (a0.Kind == a1.Kind)), tS 11 (bp b1 2), tS 12 (.int .i64 a0.Obj), tS 13 (bp b2 2), tS 14 (.int .i64 a1.Obj), tS 15 (.bool (a0.Obj == a1.Obj)), tS 16 (.bool (a0.Obj == a1.Obj)), tS 17 (.bool (a0.Obj == a1.Obj)), tS 18 (bp b1 1), tS 19 (.int .i64 a0.Rights), tS 20 (bp b2 1), tS 21 (.int .i64 a1.Rights), tS 22 (.int .i64 t5), tS 23 (bp b1 1), tS 24 (.int .i64 a0.Rights), tS 25 (.bool (t5 == a0.Rights)), tS 26 (.bool (t5 == a0.Rights)), tS 27 (.bool (t5 == a0.Rights)), tS 28 (bp b2 3), tS 29 (.int .i64 a1.Badge), tS 30 (.bool (a1.Badge == 0)), tS 31 (.bool (a1.Badge == 0)), tS 32 (bp b1 3), tS 33 (.int .i64 a0.Badge), tS 34 (bp b2 3), tS 35 (.int .i64 a1.Badge), tS 36 (.bool (a0.Badge == a1.Badge)), tS 37 (.bool (a0.Badge == a1.Badge)), tS 38 (.bool (a0.Badge == a1.Badge)), tS 4 (.bool (a0.Badge == a1.Badge))]) (D := [⟨[0], [], [5]⟩, ⟨[5, 3], [], [6]⟩, ⟨[1], [], [7]⟩, ⟨[7, 2], [], [8]⟩, ⟨[6, 8], [], [9]⟩, ⟨[9], [], [10]⟩, ⟨[0, 10], [], [11]⟩, ⟨[10, 11, 3], [], [12]⟩, ⟨[1, 10], [], [13]⟩, ⟨[10, 13, 2], [], [14]⟩, ⟨[10, 12, 14], [], [15]⟩, ⟨[10, 15], [], [16]⟩, ⟨[16], [], [17]⟩, ⟨[0, 17], [], [18]⟩, ⟨[17, 18, 3], [], [19]⟩, ⟨[1, 17], [], [20]⟩, ⟨[17, 20, 2], [], [21]⟩, ⟨[17, 19, 21], [], [22]⟩, ⟨[0, 17], [], [23]⟩, ⟨[17, 23, 3], [], [24]⟩, ⟨[17, 22, 24], [], [25]⟩, ⟨[17, 25], [], [26]⟩, ⟨[26], [], [27]⟩, ⟨[1, 27], [], [28]⟩, ⟨[27, 28, 2], [], [29]⟩, ⟨[27, 29], [], [30]⟩, ⟨[27, 30], [], [31]⟩, ⟨[0, 31], [], [32]⟩, ⟨[31, 32, 3], [], [33]⟩, ⟨[1, 31], [], [34]⟩, ⟨[31, 34, 2], [], [35]⟩, ⟨[31, 33, 35], [], [36]⟩, ⟨[27, 31, 36], [], [37]⟩, ⟨[27, 37], [], [38]⟩, ⟨[38], [], [39]⟩]) (ini := [0, 1, 2, 3, 4]) (fin := [39, 2, 3, 4]) (bf := [[], [0], [], [2], [0, 1, 2, 3], [0, 1, 2, 3, 4], [0, 1, 2, 3, 4, 5], [0, 1, 2, 3, 4, 5, 6], [0, 1, 2, 3, 4, 5], [0, 1, 2, 3, 4, 5, 8], [0, 1, 2, 3, 4, 5, 6, 7, 8, 9], [0, 1, 2, 3, 4, 5, 6, 7, 8, 9, 10], [0, 1, 2, 3, 4, 5, 6, 7, 8, 9, 10, 11], [0, 1, 2, 3, 4, 5, 6, 7, 8, 9, 10, 11, 12], [0, 1, 2, 3, 4, 5, 6, 7, 8, 9, 10, 11, 12, 13], [0, 1, 2, 3, 4, 5, 6, 7, 8, 9, 10, 11, 12], [0, 1, 2, 3, 4, 5, 6, 7, 8, 9, 10, 11, 12, 15], [0, 1, 2, 3, 4, 5, 6, 7, 8, 9, 10, 11, 12, 13, 14, 15, 16], [0, 1, 2, 3, 4, 5, 6, 7, 8, 9, 10, 11, 12], [0, 1, 2, 3, 4, 5, 6, 7, 8, 9, 10, 11, 12, 18], [0, 1, 2, 3, 4, 5, 6, 7, 8, 9, 10, 11, 12, 13, 14, 15, 16, 17, 18, 19], [0, 1, 2, 3, 4, 5, 6, 7, 8, 9, 10, 11, 12, 13, 14, 15, 16, 17, 18, 19, 20], [0, 1, 2, 3, 4, 5, 6, 7, 8, 9, 10, 11, 12, 13, 14, 15, 16, 17, 18, 19, 20, 21], [0, 1, 2, 3, 4, 5, 6, 7, 8, 9, 10, 11, 12, 13, 14, 15, 16, 17, 18, 19, 20, 21, 22], [0, 1, 2, 3, 4, 5, 6, 7, 8, 9, 10, 11, 12, 13, 14, 15, 16, 17, 18, 19, 20, 21, 22, 23], [0, 1, 2, 3, 4, 5, 6, 7, 8, 9, 10, 11, 12, 13, 14, 15, 16, 17, 18, 19, 20, 21, 22, 23, 24], [0, 1, 2, 3, 4, 5, 6, 7, 8, 9, 10, 11, 12, 13, 14, 15, 16, 17, 18, 19, 20, 21, 22, 23, 24, 25], [0, 1, 2, 3, 4, 5, 6, 7, 8, 9, 10, 11, 12, 13, 14, 15, 16, 17, 18, 19, 20, 21, 22, 23, 24, 25, 26], [0, 1, 2, 3, 4, 5, 6, 7, 8, 9, 10, 11, 12, 13, 14, 15, 16, 17, 18, 19, 20, 21, 22, 23, 24, 25, 26, 27], [0, 1, 2, 3, 4, 5, 6, 7, 8, 9, 10, 11, 12, 13, 14, 15, 16, 17, 18, 19, 20, 21, 22, 23, 24, 25, 26], [0, 1, 2, 3, 4, 5, 6, 7, 8, 9, 10, 11, 12, 13, 14, 15, 16, 17, 18, 19, 20, 21, 22, 23, 24, 25, 26, 29], [0, 1, 2, 3, 4, 5, 6, 7, 8, 9, 10, 11, 12, 13, 14, 15, 16, 17, 18, 19, 20, 21, 22, 23, 24, 25, 26, 27, 28, 29, 30], [0, 1, 2, 3, 4, 5, 6, 7, 8, 9, 10, 11, 12, 13, 14, 15, 16, 17, 18, 19, 20, 21, 22, 23, 24, 25, 26, 27, 28, 29, 30, 31], [0, 1, 2, 3, 4, 5, 6, 7, 8, 9, 10, 11, 12, 13, 14, 15, 16, 17, 18, 19, 20, 21, 22, 23, 24, 25, 26, 27, 28, 29, 30, 31, 32], [0, 1, 2, 3, 4, 5, 6, 7, 8, 9, 10, 11, 12, 13, 14, 15, 16, 17, 18, 19, 20, 21, 22, 23, 24, 25, 26, 27, 28, 29, 30, 31, 32, 33]]) (by kernel_rfl) (by kernel_rfl) (fun x w h1 h2 => (.cons () (.cons () (.cons () (.cons () (.cons () (.nil ⟨EnvAll.of h1 ⟨rfl, rfl, trivial⟩, h2⟩))))))) ⟨?_, ?_, ?_, ?_, ?_, ?_, ?_, ?_, ?_, ?_, ?_, ?_, ?_, ?_, ?_, ?_, ?_, ?_, ?_, ?_, ?_, ?_, ?_, ?_, ?_, ?_, ?_, ?_, ?_, ?_, ?_, ?_, ?_, ?_, ?_, trivial⟩ ?_
            · rintro Fr _
              refine SO.v rfl (opv_fieldAddr Try.underlying53 rfl Try.sizeOf3 rfl rfl) ?_
              exact SO.nilZ fun a w h1 h2 h3 h4 h5 => PZ.of h1 h3 h5 (.cons () (.cons () (.nil ⟨EnvAll.of h2 ⟨rfl, rfl, trivial⟩, h4⟩)))
            · rintro Fr _ _
              refine SO.load1 rfl Try.isAgg3 rfl rfl ?_
              exact SO.nilZ fun a w h1 h2 h3 h4 h5 => PZ.of h1 h3 h5 (.cons () (.cons () (.cons () (.nil ⟨EnvAll.of h2 ⟨rfl, rfl, trivial⟩, h4⟩))))
            · rintro Fr _
              refine SO.v rfl (opv_fieldAddr Try.underlying53 rfl Try.sizeOf3 rfl rfl) ?_
              exact SO.nilZ fun a w h1 h2 h3 h4 h5 => PZ.of h1 h3 h5 (.cons () (.cons () (.nil ⟨EnvAll.of h2 ⟨rfl, rfl, trivial⟩, h4⟩)))
            · rintro Fr _ _
              refine SO.load1 rfl Try.isAgg3 rfl rfl ?_
              exact SO.nilZ fun a w h1 h2 h3 h4 h5 => PZ.of h1 h3 h5 (.cons () (.cons () (.cons () (.nil ⟨EnvAll.of h2 ⟨rfl, rfl, trivial⟩, h4⟩))))
            · rintro Fr _ _
              refine SO.v rfl (opv_eql rfl rfl) ?_
              exact SO.nilZ fun a w h1 h2 h3 h4 h5 => PZ.of h1 h3 h5 (.cons () (.cons () (.cons () (.nil ⟨EnvAll.of h2 ⟨rfl, rfl, rfl, trivial⟩, h4⟩))))
            · rintro Fr _
              refine SO.v rfl (opv_move rfl) ?_
              exact SO.nilZ fun a w h1 h2 h3 h4 h5 => PZ.of h1 h3 h5 (.cons () (.cons () (.nil ⟨EnvAll.of h2 ⟨rfl, rfl, trivial⟩, h4⟩)))
            · rintro Fr _ _
              refine SO.takeT rfl rfl rfl b3 ?_
              refine SO.v rfl (opv_fieldAddr Try.underlying53 rfl Try.sizeOf3 rfl rfl) ?_
              exact SO.nilZ fun a w h1 h2 h3 h4 h5 => PZ.of h1 h3 h5 (.cons () (.cons () (.cons () (.nil ⟨EnvAll.of h2 ⟨rfl, rfl, rfl, trivial⟩, h4⟩))))
            · rintro Fr _ _ _
              refine SO.takeT rfl rfl rfl b3 ?_
              refine SO.load1 rfl Try.isAgg3 rfl rfl ?_
              exact SO.nilZ fun a w h1 h2 h3 h4 h5 => PZ.of h1 h3 h5 (.cons () (.cons () (.cons () (.cons () (.nil ⟨EnvAll.of h2 ⟨rfl, rfl, rfl, trivial⟩, h4⟩)))))
            · rintro Fr _ _
              refine SO.takeT rfl rfl rfl b3 ?_
              refine SO.v rfl (opv_fieldAddr Try.underlying53 rfl Try.sizeOf3 rfl rfl) ?_
              exact SO.nilZ fun a w h1 h2 h3 h4 h5 => PZ.of h1 h3 h5 (.cons () (.cons () (.cons () (.nil ⟨EnvAll.of h2 ⟨rfl, rfl, rfl, trivial⟩, h4⟩))))
            · rintro Fr _ _ _
              refine SO.takeT rfl rfl rfl b3 ?_
              refine SO.load1 rfl Try.isAgg3 rfl rfl ?_
              exact SO.nilZ fun a w h1 h2 h3 h4 h5 => PZ.of h1 h3 h5 (.cons () (.cons () (.cons () (.cons () (.nil ⟨EnvAll.of h2 ⟨rfl, rfl, rfl, trivial⟩, h4⟩)))))
            · rintro Fr _ _ _
              refine SO.takeT rfl rfl rfl b3 ?_
              refine SO.v rfl (opv_eql rfl rfl) ?_
              exact SO.nilZ fun a w h1 h2 h3 h4 h5 => PZ.of h1 h3 h5 (.cons () (.cons () (.cons () (.cons () (.nil ⟨EnvAll.of h2 ⟨rfl, rfl, rfl, rfl, trivial⟩, h4⟩)))))
            · rintro Fr _ _
              refine SO.v rfl (opv_pick_t' b3 rfl rfl) ?_
              exact SO.nilZ fun a w h1 h2 h3 h4 h5 => PZ.of h1 h3 h5 (.cons () (.cons () (.cons () (.nil ⟨EnvAll.of h2 ⟨rfl, rfl, rfl, trivial⟩, h4⟩))))
            · rintro Fr _
              refine SO.v rfl (opv_move rfl) ?_
              exact SO.nilZ fun a w h1 h2 h3 h4 h5 => PZ.of h1 h3 h5 (.cons () (.cons () (.nil ⟨EnvAll.of h2 ⟨rfl, rfl, trivial⟩, h4⟩)))
            · rintro Fr _ _
              refine SO.takeT rfl rfl rfl b4 ?_
              refine SO.v rfl (opv_fieldAddr Try.underlying53 rfl Try.sizeOf3 rfl rfl) ?_
              exact SO.nilZ fun a w h1 h2 h3 h4 h5 => PZ.of h1 h3 h5 (.cons () (.cons () (.cons () (.nil ⟨EnvAll.of h2 ⟨rfl, rfl, rfl, trivial⟩, h4⟩))))
            · rintro Fr _ _ _
              refine SO.takeT rfl rfl rfl b4 ?_
              refine SO.load1 rfl Try.isAgg3 rfl rfl ?_
              exact SO.nilZ fun a w h1 h2 h3 h4 h5 => PZ.of h1 h3 h5 (.cons () (.cons () (.cons () (.cons () (.nil ⟨EnvAll.of h2 ⟨rfl, rfl, rfl, trivial⟩, h4⟩)))))
            · rintro Fr _ _
              refine SO.takeT rfl rfl rfl b4 ?_
              refine SO.v rfl (opv_fieldAddr Try.underlying53 rfl Try.sizeOf3 rfl rfl) ?_
              exact SO.nilZ fun a w h1 h2 h3 h4 h5 => PZ.of h1 h3 h5 (.cons () (.cons () (.cons () (.nil ⟨EnvAll.of h2 ⟨rfl, rfl, rfl, trivial⟩, h4⟩))))
            · rintro Fr _ _ _
              refine SO.takeT rfl rfl rfl b4 ?_
              refine SO.load1 rfl Try.isAgg3 rfl rfl ?_
              exact SO.nilZ fun a w h1 h2 h3 h4 h5 => PZ.of h1 h3 h5 (.cons () (.cons () (.cons () (.cons () (.nil ⟨EnvAll.of h2 ⟨rfl, rfl, rfl, trivial⟩, h4⟩)))))
            · rintro Fr _ _ _
              refine SO.takeT rfl rfl rfl b4 ?_
              refine SO.call (pre := []) rfl Try.call74 rfl rfl rfl (ref01_both.ct _ _ _ _ ht6) trivial ?_
              rintro _ _ ⟨rfl, rfl⟩
              exact SO.nilZ fun a w h1 h2 h3 h4 h5 => PZ.of h1 h3 h5 (.cons () (.cons () (.cons () (.cons () (.nil ⟨EnvAll.of h2 ⟨rfl, rfl, rfl, rfl, trivial⟩, h4⟩)))))
            · rintro Fr _ _
              refine SO.takeT rfl rfl rfl b4 ?_
              refine SO.v rfl (opv_fieldAddr Try.underlying53 rfl Try.sizeOf3 rfl rfl) ?_
              exact SO.nilZ fun a w h1 h2 h3 h4 h5 => PZ.of h1 h3 h5 (.cons () (.cons () (.cons () (.nil ⟨EnvAll.of h2 ⟨rfl, rfl, rfl, trivial⟩, h4⟩))))
            · rintro Fr _ _ _
              refine SO.takeT rfl rfl rfl b4 ?_
              refine SO.load1 rfl Try.isAgg3 rfl rfl ?_
              exact SO.nilZ fun a w h1 h2 h3 h4 h5 => PZ.of h1 h3 h5 (.cons () (.cons () (.cons () (.cons () (.nil ⟨EnvAll.of h2 ⟨rfl, rfl, rfl, trivial⟩, h4⟩)))))
            · rintro Fr _ _ _
              refine SO.takeT rfl rfl rfl b4 ?_
              refine SO.v rfl (opv_eql rfl rfl) ?_
              exact SO.nilZ fun a w h1 h2 h3 h4 h5 => PZ.of h1 h3 h5 (.cons () (.cons () (.cons () (.cons () (.nil ⟨EnvAll.of h2 ⟨rfl, rfl, rfl, rfl, trivial⟩, h4⟩)))))
            · rintro Fr _ _
              refine SO.v rfl (opv_pick_t' b4 rfl rfl) ?_
              exact SO.nilZ fun a w h1 h2 h3 h4 h5 => PZ.of h1 h3 h5 (.cons () (.cons () (.cons () (.nil ⟨EnvAll.of h2 ⟨rfl, rfl, rfl, trivial⟩, h4⟩))))
            · rintro Fr _
              refine SO.v rfl (opv_move rfl) ?_
              exact SO.nilZ fun a w h1 h2 h3 h4 h5 => PZ.of h1 h3 h5 (.cons () (.cons () (.nil ⟨EnvAll.of h2 ⟨rfl, rfl, trivial⟩, h4⟩)))
            · rintro Fr _ _
              refine SO.takeT rfl rfl rfl b7 ?_
              refine SO.v rfl (opv_fieldAddr Try.underlying53 rfl Try.sizeOf3 rfl rfl) ?_
              exact SO.nilZ fun a w h1 h2 h3 h4 h5 => PZ.of h1 h3 h5 (.cons () (.cons () (.cons () (.nil ⟨EnvAll.of h2 ⟨rfl, rfl, rfl, trivial⟩, h4⟩))))
            · rintro Fr _ _ _
              refine SO.takeT rfl rfl rfl b7 ?_
              refine SO.load1 rfl Try.isAgg3 rfl rfl ?_
              exact SO.nilZ fun a w h1 h2 h3 h4 h5 => PZ.of h1 h3 h5 (.cons () (.cons () (.cons () (.cons () (.nil ⟨EnvAll.of h2 ⟨rfl, rfl, rfl, trivial⟩, h4⟩)))))
            · rintro Fr _ _
              refine SO.takeT rfl rfl rfl b7 ?_
              refine SO.v rfl (opv_eql rfl rfl) ?_
              exact SO.nilZ fun a w h1 h2 h3 h4 h5 => PZ.of h1 h3 h5 (.cons () (.cons () (.cons () (.nil ⟨EnvAll.of h2 ⟨rfl, rfl, rfl, trivial⟩, h4⟩))))
            · rintro Fr _ _
              refine SO.takeT rfl rfl rfl b7 ?_
              refine SO.v rfl (opv_move rfl) ?_
              exact SO.nilZ fun a w h1 h2 h3 h4 h5 => PZ.of h1 h3 h5 (.cons () (.cons () (.cons () (.nil ⟨EnvAll.of h2 ⟨rfl, rfl, rfl, trivial⟩, h4⟩))))
            · rintro Fr _ _
              refine SO.takeT rfl rfl rfl b8 ?_
              refine SO.v rfl (opv_fieldAddr Try.underlying53 rfl Try.sizeOf3 rfl rfl) ?_
              exact SO.nilZ fun a w h1 h2 h3 h4 h5 => PZ.of h1 h3 h5 (.cons () (.cons () (.cons () (.nil ⟨EnvAll.of h2 ⟨rfl, rfl, rfl, trivial⟩, h4⟩))))
            · rintro Fr _ _ _
              refine SO.takeT rfl rfl rfl b8 ?_
              refine SO.load1 rfl Try.isAgg3 rfl rfl ?_
              exact SO.nilZ fun a w h1 h2 h3 h4 h5 => PZ.of h1 h3 h5 (.cons () (.cons () (.cons () (.cons () (.nil ⟨EnvAll.of h2 ⟨rfl, rfl, rfl, trivial⟩, h4⟩)))))
            · rintro Fr _ _
              refine SO.takeT rfl rfl rfl b8 ?_
              refine SO.v rfl (opv_fieldAddr Try.underlying53 rfl Try.sizeOf3 rfl rfl) ?_
              exact SO.nilZ fun a w h1 h2 h3 h4 h5 => PZ.of h1 h3 h5 (.cons () (.cons () (.cons () (.nil ⟨EnvAll.of h2 ⟨rfl, rfl, rfl, trivial⟩, h4⟩))))
            · rintro Fr _ _ _
              refine SO.takeT rfl rfl rfl b8 ?_
              refine SO.load1 rfl Try.isAgg3 rfl rfl ?_
              exact SO.nilZ fun a w h1 h2 h3 h4 h5 => PZ.of h1 h3 h5 (.cons () (.cons () (.cons () (.cons () (.nil ⟨EnvAll.of h2 ⟨rfl, rfl, rfl, trivial⟩, h4⟩)))))
            · rintro Fr _ _ _
              refine SO.takeT rfl rfl rfl b8 ?_
              refine SO.v rfl (opv_eql rfl rfl) ?_
              exact SO.nilZ fun a w h1 h2 h3 h4 h5 => PZ.of h1 h3 h5 (.cons () (.cons () (.cons () (.cons () (.nil ⟨EnvAll.of h2 ⟨rfl, rfl, rfl, rfl, trivial⟩, h4⟩)))))
            · rintro Fr _ _ _
              refine SO.takeT rfl rfl rfl b7 ?_
              refine SO.v rfl (opv_pick_f' b8 rfl rfl) ?_
              exact SO.nilZ fun a w h1 h2 h3 h4 h5 => PZ.of h1 h3 h5 (.cons () (.cons () (.cons () (.cons () (.nil ⟨EnvAll.of h2 ⟨rfl, rfl, rfl, rfl, trivial⟩, h4⟩)))))
            · rintro Fr _ _
              refine SO.v rfl (opv_pick_t' b7 rfl rfl) ?_
              exact SO.nilZ fun a w h1 h2 h3 h4 h5 => PZ.of h1 h3 h5 (.cons () (.cons () (.cons () (.nil ⟨EnvAll.of h2 ⟨rfl, rfl, rfl, trivial⟩, h4⟩))))
            · rintro Fr _
              refine SO.v rfl (opv_assign rfl) ?_
              exact SO.nilZ fun a w h1 h2 h3 h4 h5 => PZ.of h1 h3 h5 (.cons () (.cons () (.nil ⟨EnvAll.of h2 ⟨rfl, rfl, trivial⟩, h4⟩)))
            rintro _ _ _ _
            show S _ _ _ _ _ _ _ [Box b2 [.int .i64 a1.Kind, .int .i64 a1.Rights, .int .i64 a1.Obj, .int .i64 a1.Badge, .int .i64 a1.Guard, .int .i64 a1.Bits], Box b1 [.int .i64 a0.Kind, .int .i64 a0.Rights, .int .i64 a0.Obj, .int .i64 a0.Badge, .int .i64 a0.Guard, .int .i64 a0.Bits], F]
            refine S.to (ρ' := [(4, .bool (a0.Badge == a1.Badge))]) ⟨rfl, trivial⟩ ?_
            cases h
            refine S.b2 ?_
            refine S.b2 ?_
            refine S.b2 ?_
            refine S.to ?_ (hk1 () trivial)
            exact ⟨rfl, trivial⟩
        · replace h := cond_f b7 h
          refine S.draw (T := [tS 2 (bp b1 0), tS 3 (bp b2 0), tR (Box b2 [.int .i64 a1.Kind, .int .i64 a1.Rights, .int .i64 a1.Obj, .int .i64 a1.Badge, .int .i64 a1.Guard, .int .i64 a1.Bits]), tR (Box b1 [.int .i64 a0.Kind, .int .i64 a0.Rights, .int .i64 a0.Obj, .int .i64 a0.Badge, .int .i64 a0.Guard, .int .i64 a0.Bits]), tR (F), tS 5 (bp b1 0), tS 6 (.int .i64 a0.Kind), tS 7 (bp b2 0), tS 8 (.int .i64 a1.Kind), tS 9 (.bool (a0.Kind == a1.Kind)), tS 10 (.bool (a0.Kind == a1.Kind)), tS 11 (bp b1 2), tS 12 (.int .i64 a0.Obj), tS 13 (bp b2 2), tS 14 (.int .i64 a1.Obj), tS 15 (.bool (a0.Obj == a1.Obj)), tS 16 (.bool (a0.Obj == a1.Obj)), tS 17 (.bool (a0.Obj == a1.Obj)), tS 18 (bp b1 1), tS 19 (.int .i64 a0.Rights), tS 20 (bp b2 1), tS 21 (.int .i64 a1.Rights), tS 22 (.int .i64 t5), tS 23 (bp b1 1), tS 24 (.int .i64 a0.Rights), tS 25 (.bool (t5 == a0.Rights)), tS 26 (.bool (t5 == a0.Rights)), tS 27 (.bool (t5 == a0.Rights)), tS 28 (undef), tS 29 (undef), tS 30 (undef), tS 31 (undef), tS 32 (undef), tS 33 (undef), tS 34 (undef), tS 35 (undef), tS 36 (undef), tS 37 (undef), tS 38 (.bool false), tS 4 (.bool false)]) (D := [⟨[0], [], [5]⟩, ⟨[5, 3], [], [6]⟩, ⟨[1], [], [7]⟩, ⟨[7, 2], [], [8]⟩, ⟨[6, 8], [], [9]⟩, ⟨[9], [], [10]⟩, ⟨[0, 10], [], [11]⟩, ⟨[10, 11, 3], [], [12]⟩, ⟨[1, 10], [], [13]⟩, ⟨[10, 13, 2], [], [14]⟩, ⟨[10, 12, 14], [], [15]⟩, ⟨[10, 15], [], [16]⟩, ⟨[16], [], [17]⟩, ⟨[0, 17], [], [18]⟩, ⟨[17, 18, 3], [], [19]⟩, ⟨[1, 17], [], [20]⟩, ⟨[17, 20, 2], [], [21]⟩, ⟨[17, 19, 21], [], [22]⟩, ⟨[0, 17], [], [23]⟩, ⟨[17, 23, 3], [], [24]⟩, ⟨[17, 22, 24], [], [25]⟩, ⟨[17, 25], [], [26]⟩, ⟨[26], [], [27]⟩, ⟨[27], [], [28]⟩, ⟨[27], [], [29]⟩, ⟨[27], [], [30]⟩, ⟨[27], [], [31]⟩, ⟨[31], [], [32]⟩, ⟨[31], [], [33]⟩, ⟨[31], [], [34]⟩, ⟨[31], [], [35]⟩, ⟨[31], [], [36]⟩, ⟨[27], [], [37]⟩, ⟨[27, 37], [], [38]⟩, ⟨[38], [], [39]⟩]) (ini := [0, 1, 2, 3, 4]) (fin := [39, 2, 3, 4]) (bf := [[], [0], [], [2], [0, 1, 2, 3], [0, 1, 2, 3, 4], [0, 1, 2, 3, 4, 5], [0, 1, 2, 3, 4, 5, 6], [0, 1, 2, 3, 4, 5], [0, 1, 2, 3, 4, 5, 8], [0, 1, 2, 3, 4, 5, 6, 7, 8, 9], [0, 1, 2, 3, 4, 5, 6, 7, 8, 9, 10], [0, 1, 2, 3, 4, 5, 6, 7, 8, 9, 10, 11], [0, 1, 2, 3, 4, 5, 6, 7, 8, 9, 10, 11, 12], [0, 1, 2, 3, 4, 5, 6, 7, 8, 9, 10, 11, 12, 13], [0, 1, 2, 3, 4, 5, 6, 7, 8, 9, 10, 11, 12], [0, 1, 2, 3, 4, 5, 6, 7, 8, 9, 10, 11, 12, 15], [0, 1, 2, 3, 4, 5, 6, 7, 8, 9, 10, 11, 12, 13, 14, 15, 16], [0, 1, 2, 3, 4, 5, 6, 7, 8, 9, 10, 11, 12], [0, 1, 2, 3, 4, 5, 6, 7, 8, 9, 10, 11, 12, 18], [0, 1, 2, 3, 4, 5, 6, 7, 8, 9, 10, 11, 12, 13, 14, 15, 16, 17, 18, 19], [0, 1, 2, 3, 4, 5, 6, 7, 8, 9, 10, 11, 12, 13, 14, 15, 16, 17, 18, 19, 20], [0, 1, 2, 3, 4, 5, 6, 7, 8, 9, 10, 11, 12, 13, 14, 15, 16, 17, 18, 19, 20, 21], [0, 1, 2, 3, 4, 5, 6, 7, 8, 9, 10, 11, 12, 13, 14, 15, 16, 17, 18, 19, 20, 21, 22], [0, 1, 2, 3, 4, 5, 6, 7, 8, 9, 10, 11, 12, 13, 14, 15, 16, 17, 18, 19, 20, 21, 22, 23], [0, 1, 2, 3, 4, 5, 6, 7, 8, 9, 10, 11, 12, 13, 14, 15, 16, 17, 18, 19, 20, 21, 22, 23, 24], [0, 1, 2, 3, 4, 5, 6, 7, 8, 9, 10, 11, 12, 13, 14, 15, 16, 17, 18, 19, 20, 21, 22, 23, 24, 25], [0, 1, 2, 3, 4, 5, 6, 7, 8, 9, 10, 11, 12, 13, 14, 15, 16, 17, 18, 19, 20, 21, 22, 23, 24, 25, 26], [0, 1, 2, 3, 4, 5, 6, 7, 8, 9, 10, 11, 12, 13, 14, 15, 16, 17, 18, 19, 20, 21, 22, 23, 24, 25, 26, 27], [0, 1, 2, 3, 4, 5, 6, 7, 8, 9, 10, 11, 12, 13, 14, 15, 16, 17, 18, 19, 20, 21, 22, 23, 24, 25, 26], [0, 1, 2, 3, 4, 5, 6, 7, 8, 9, 10, 11, 12, 13, 14, 15, 16, 17, 18, 19, 20, 21, 22, 23, 24, 25, 26, 29], [0, 1, 2, 3, 4, 5, 6, 7, 8, 9, 10, 11, 12, 13, 14, 15, 16, 17, 18, 19, 20, 21, 22, 23, 24, 25, 26, 27, 28, 29, 30], [0, 1, 2, 3, 4, 5, 6, 7, 8, 9, 10, 11, 12, 13, 14, 15, 16, 17, 18, 19, 20, 21, 22, 23, 24, 25, 26, 27, 28, 29, 30, 31], [0, 1, 2, 3, 4, 5, 6, 7, 8, 9, 10, 11, 12, 13, 14, 15, 16, 17, 18, 19, 20, 21, 22, 23, 24, 25, 26, 27, 28, 29, 30, 31, 32], [0, 1, 2, 3, 4, 5, 6, 7, 8, 9, 10, 11, 12, 13, 14, 15, 16, 17, 18, 19, 20, 21, 22, 23, 24, 25, 26, 27, 28, 29, 30, 31, 32, 33]]) (by kernel_rfl) (by kernel_rfl) (fun x w h1 h2 => (.cons () (.cons () (.cons () (.cons () (.cons () (.nil ⟨EnvAll.of h1 ⟨rfl, rfl, trivial⟩, h2⟩))))))) ⟨?_, ?_, ?_, ?_, ?_, ?_, ?_, ?_, ?_, ?_, ?_, ?_, ?_, ?_, ?_, ?_, ?_, ?_, ?_, ?_, ?_, ?_, ?_, ?_, ?_, ?_, ?_, ?_, ?_, ?_, ?_, ?_, ?_, ?_, ?_, trivial⟩ ?_
          · rintro Fr _
            refine SO.v rfl (opv_fieldAddr Try.underlying53 rfl Try.sizeOf3 rfl rfl) ?_
            exact SO.nilZ fun a w h1 h2 h3 h4 h5 => PZ.of h1 h3 h5 (.cons () (.cons () (.nil ⟨EnvAll.of h2 ⟨rfl, rfl, trivial⟩, h4⟩)))
          · rintro Fr _ _
            refine SO.load1 rfl Try.isAgg3 rfl rfl ?_
            exact SO.nilZ fun a w h1 h2 h3 h4 h5 => PZ.of h1 h3 h5 (.cons () (.cons () (.cons () (.nil ⟨EnvAll.of h2 ⟨rfl, rfl, trivial⟩, h4⟩))))
          · rintro Fr _
            refine SO.v rfl (opv_fieldAddr Try.underlying53 rfl Try.sizeOf3 rfl rfl) ?_
            exact SO.nilZ fun a w h1 h2 h3 h4 h5 => PZ.of h1 h3 h5 (.cons () (.cons () (.nil ⟨EnvAll.of h2 ⟨rfl, rfl, trivial⟩, h4⟩)))
          · rintro Fr _ _
            refine SO.load1 rfl Try.isAgg3 rfl rfl ?_
            exact SO.nilZ fun a w h1 h2 h3 h4 h5 => PZ.of h1 h3 h5 (.cons () (.cons () (.cons () (.nil ⟨EnvAll.of h2 ⟨rfl, rfl, trivial⟩, h4⟩))))
          · rintro Fr _ _
            refine SO.v rfl (opv_eql rfl rfl) ?_
            exact SO.nilZ fun a w h1 h2 h3 h4 h5 => PZ.of h1 h3 h5 (.cons () (.cons () (.cons () (.nil ⟨EnvAll.of h2 ⟨rfl, rfl, rfl, trivial⟩, h4⟩))))
          · rintro Fr _
            refine SO.v rfl (opv_move rfl) ?_
            exact SO.nilZ fun a w h1 h2 h3 h4 h5 => PZ.of h1 h3 h5 (.cons () (.cons () (.nil ⟨EnvAll.of h2 ⟨rfl, rfl, trivial⟩, h4⟩)))
          · rintro Fr _ _
            refine SO.takeT rfl rfl rfl b3 ?_
            refine SO.v rfl (opv_fieldAddr Try.underlying53 rfl Try.sizeOf3 rfl rfl) ?_
            exact SO.nilZ fun a w h1 h2 h3 h4 h5 => PZ.of h1 h3 h5 (.cons () (.cons () (.cons () (.nil ⟨EnvAll.of h2 ⟨rfl, rfl, rfl, trivial⟩, h4⟩))))
          · rintro Fr _ _ _
            refine SO.takeT rfl rfl rfl b3 ?_
            refine SO.load1 rfl Try.isAgg3 rfl rfl ?_
            exact SO.nilZ fun a w h1 h2 h3 h4 h5 => PZ.of h1 h3 h5 (.cons () (.cons () (.cons () (.cons () (.nil ⟨EnvAll.of h2 ⟨rfl, rfl, rfl, trivial⟩, h4⟩)))))
          · rintro Fr _ _
            refine SO.takeT rfl rfl rfl b3 ?_
            refine SO.v rfl (opv_fieldAddr Try.underlying53 rfl Try.sizeOf3 rfl rfl) ?_
            exact SO.nilZ fun a w h1 h2 h3 h4 h5 => PZ.of h1 h3 h5 (.cons () (.cons () (.cons () (.nil ⟨EnvAll.of h2 ⟨rfl, rfl, rfl, trivial⟩, h4⟩))))
          · rintro Fr _ _ _
            refine SO.takeT rfl rfl rfl b3 ?_
            refine SO.load1 rfl Try.isAgg3 rfl rfl ?_
            exact SO.nilZ fun a w h1 h2 h3 h4 h5 => PZ.of h1 h3 h5 (.cons () (.cons () (.cons () (.cons () (.nil ⟨EnvAll.of h2 ⟨rfl, rfl, rfl, trivial⟩, h4⟩)))))
          · rintro Fr _ _ _
            refine SO.takeT rfl rfl rfl b3 ?_
            refine SO.v rfl (opv_eql rfl rfl) ?_
            exact SO.nilZ fun a w h1 h2 h3 h4 h5 => PZ.of h1 h3 h5 (.cons () (.cons () (.cons () (.cons () (.nil ⟨EnvAll.of h2 ⟨rfl, rfl, rfl, rfl, trivial⟩, h4⟩)))))
          · rintro Fr _ _
            refine SO.v rfl (opv_pick_t' b3 rfl rfl) ?_
            exact SO.nilZ fun a w h1 h2 h3 h4 h5 => PZ.of h1 h3 h5 (.cons () (.cons () (.cons () (.nil ⟨EnvAll.of h2 ⟨rfl, rfl, rfl, trivial⟩, h4⟩))))
          · rintro Fr _
            refine SO.v rfl (opv_move rfl) ?_
            exact SO.nilZ fun a w h1 h2 h3 h4 h5 => PZ.of h1 h3 h5 (.cons () (.cons () (.nil ⟨EnvAll.of h2 ⟨rfl, rfl, trivial⟩, h4⟩)))
          · rintro Fr _ _
            refine SO.takeT rfl rfl rfl b4 ?_
            refine SO.v rfl (opv_fieldAddr Try.underlying53 rfl Try.sizeOf3 rfl rfl) ?_
            exact SO.nilZ fun a w h1 h2 h3 h4 h5 => PZ.of h1 h3 h5 (.cons () (.cons () (.cons () (.nil ⟨EnvAll.of h2 ⟨rfl, rfl, rfl, trivial⟩, h4⟩))))
          · rintro Fr _ _ _
            refine SO.takeT rfl rfl rfl b4 ?_
            refine SO.load1 rfl Try.isAgg3 rfl rfl ?_
            exact SO.nilZ fun a w h1 h2 h3 h4 h5 => PZ.of h1 h3 h5 (.cons () (.cons () (.cons () (.cons () (.nil ⟨EnvAll.of h2 ⟨rfl, rfl, rfl, trivial⟩, h4⟩)))))
          · rintro Fr _ _
            refine SO.takeT rfl rfl rfl b4 ?_
            refine SO.v rfl (opv_fieldAddr Try.underlying53 rfl Try.sizeOf3 rfl rfl) ?_
            exact SO.nilZ fun a w h1 h2 h3 h4 h5 => PZ.of h1 h3 h5 (.cons () (.cons () (.cons () (.nil ⟨EnvAll.of h2 ⟨rfl, rfl, rfl, trivial⟩, h4⟩))))
          · rintro Fr _ _ _
            refine SO.takeT rfl rfl rfl b4 ?_
            refine SO.load1 rfl Try.isAgg3 rfl rfl ?_
            exact SO.nilZ fun a w h1 h2 h3 h4 h5 => PZ.of h1 h3 h5 (.cons () (.cons () (.cons () (.cons () (.nil ⟨EnvAll.of h2 ⟨rfl, rfl, rfl, trivial⟩, h4⟩)))))
          · rintro Fr _ _ _
            refine SO.takeT rfl rfl rfl b4 ?_
            refine SO.call (pre := []) rfl Try.call74 rfl rfl rfl (ref01_both.ct _ _ _ _ ht6) trivial ?_
            rintro _ _ ⟨rfl, rfl⟩
            exact SO.nilZ fun a w h1 h2 h3 h4 h5 => PZ.of h1 h3 h5 (.cons () (.cons () (.cons () (.cons () (.nil ⟨EnvAll.of h2 ⟨rfl, rfl, rfl, rfl, trivial⟩, h4⟩)))))
          · rintro Fr _ _
            refine SO.takeT rfl rfl rfl b4 ?_
            refine SO.v rfl (opv_fieldAddr Try.underlying53 rfl Try.sizeOf3 rfl rfl) ?_
            exact SO.nilZ fun a w h1 h2 h3 h4 h5 => PZ.of h1 h3 h5 (.cons () (.cons () (.cons () (.nil ⟨EnvAll.of h2 ⟨rfl, rfl, rfl, trivial⟩, h4⟩))))
          · rintro Fr _ _ _
            refine SO.takeT rfl rfl rfl b4 ?_
            refine SO.load1 rfl Try.isAgg3 rfl rfl ?_
            exact SO.nilZ fun a w h1 h2 h3 h4 h5 => PZ.of h1 h3 h5 (.cons () (.cons () (.cons () (.cons () (.nil ⟨EnvAll.of h2 ⟨rfl, rfl, rfl, trivial⟩, h4⟩)))))
          · rintro Fr _ _ _
            refine SO.takeT rfl rfl rfl b4 ?_
            refine SO.v rfl (opv_eql rfl rfl) ?_
            exact SO.nilZ fun a w h1 h2 h3 h4 h5 => PZ.of h1 h3 h5 (.cons () (.cons () (.cons () (.cons () (.nil ⟨EnvAll.of h2 ⟨rfl, rfl, rfl, rfl, trivial⟩, h4⟩)))))
          · rintro Fr _ _
            refine SO.v rfl (opv_pick_t' b4 rfl rfl) ?_
            exact SO.nilZ fun a w h1 h2 h3 h4 h5 => PZ.of h1 h3 h5 (.cons () (.cons () (.cons () (.nil ⟨EnvAll.of h2 ⟨rfl, rfl, rfl, trivial⟩, h4⟩))))
          · rintro Fr _
            refine SO.v rfl (opv_move rfl) ?_
            exact SO.nilZ fun a w h1 h2 h3 h4 h5 => PZ.of h1 h3 h5 (.cons () (.cons () (.nil ⟨EnvAll.of h2 ⟨rfl, rfl, trivial⟩, h4⟩)))
          · rintro Fr _
            refine SO.passF rfl rfl rfl b7 rfl rfl ?_
            exact SO.nilZ fun a w h1 h2 h3 h4 h5 => PZ.of h1 h3 h5 (.cons () (.cons () (.nil ⟨EnvAll.of h2 ⟨rfl, rfl, trivial⟩, h4⟩)))
          · rintro Fr _
            refine SO.passF rfl rfl rfl b7 rfl rfl ?_
            exact SO.nilZ fun a w h1 h2 h3 h4 h5 => PZ.of h1 h3 h5 (.cons () (.cons () (.nil ⟨EnvAll.of h2 ⟨rfl, rfl, trivial⟩, h4⟩)))
          · rintro Fr _
            refine SO.passF rfl rfl rfl b7 rfl rfl ?_
            exact SO.nilZ fun a w h1 h2 h3 h4 h5 => PZ.of h1 h3 h5 (.cons () (.cons () (.nil ⟨EnvAll.of h2 ⟨rfl, rfl, trivial⟩, h4⟩)))
          · rintro Fr _
            refine SO.passF rfl rfl rfl b7 rfl rfl ?_
            exact SO.nilZ fun a w h1 h2 h3 h4 h5 => PZ.of h1 h3 h5 (.cons () (.cons () (.nil ⟨EnvAll.of h2 ⟨rfl, rfl, trivial⟩, h4⟩)))
          · rintro Fr _
            refine SO.pass_undef rfl rfl rfl rfl ?_
            exact SO.nilZ fun a w h1 h2 h3 h4 h5 => PZ.of h1 h3 h5 (.cons () (.cons () (.nil ⟨EnvAll.of h2 ⟨rfl, rfl, trivial⟩, h4⟩)))
          · rintro Fr _
            refine SO.pass_undef rfl rfl rfl rfl ?_
            exact SO.nilZ fun a w h1 h2 h3 h4 h5 => PZ.of h1 h3 h5 (.cons () (.cons () (.nil ⟨EnvAll.of h2 ⟨rfl, rfl, trivial⟩, h4⟩)))
          · rintro Fr _
            refine SO.pass_undef rfl rfl rfl rfl ?_
            exact SO.nilZ fun a w h1 h2 h3 h4 h5 => PZ.of h1 h3 h5 (.cons () (.cons () (.nil ⟨EnvAll.of h2 ⟨rfl, rfl, trivial⟩, h4⟩)))
          · rintro Fr _
            refine SO.pass_undef rfl rfl rfl rfl ?_
            exact SO.nilZ fun a w h1 h2 h3 h4 h5 => PZ.of h1 h3 h5 (.cons () (.cons () (.nil ⟨EnvAll.of h2 ⟨rfl, rfl, trivial⟩, h4⟩)))
          · rintro Fr _
            refine SO.pass_undef rfl rfl rfl rfl ?_
            exact SO.nilZ fun a w h1 h2 h3 h4 h5 => PZ.of h1 h3 h5 (.cons () (.cons () (.nil ⟨EnvAll.of h2 ⟨rfl, rfl, trivial⟩, h4⟩)))
          · rintro Fr _
            refine SO.passF rfl rfl rfl b7 rfl rfl ?_
            exact SO.nilZ fun a w h1 h2 h3 h4 h5 => PZ.of h1 h3 h5 (.cons () (.cons () (.nil ⟨EnvAll.of h2 ⟨rfl, rfl, trivial⟩, h4⟩)))
          · rintro Fr _ _
            refine SO.v rfl (opv_pick_f' b7 rfl rfl) ?_
            exact SO.nilZ fun a w h1 h2 h3 h4 h5 => PZ.of h1 h3 h5 (.cons () (.cons () (.cons () (.nil ⟨EnvAll.of h2 ⟨rfl, rfl, rfl, trivial⟩, h4⟩))))
          · rintro Fr _
            refine SO.v rfl (opv_assign rfl) ?_
            exact SO.nilZ fun a w h1 h2 h3 h4 h5 => PZ.of h1 h3 h5 (.cons () (.cons () (.nil ⟨EnvAll.of h2 ⟨rfl, rfl, trivial⟩, h4⟩)))
          rintro _ _ _ _
          show S _ _ _ _ _ _ _ [Box b2 [.int .i64 a1.Kind, .int .i64 a1.Rights, .int .i64 a1.Obj, .int .i64 a1.Badge, .int .i64 a1.Guard, .int .i64 a1.Bits], Box b1 [.int .i64 a0.Kind, .int .i64 a0.Rights, .int .i64 a0.Obj, .int .i64 a0.Badge, .int .i64 a0.Guard, .int .i64 a0.Bits], F]
          refine S.to (ρ' := [(4, .bool false)]) ⟨rfl, trivial⟩ ?_
          cases h
          refine S.b2 ?_
          refine S.b2 ?_
          refine S.b2 ?_
          refine S.to ?_ (hk1 () trivial)
          exact ⟨rfl, trivial⟩
      · replace h := cond_f b4 h
        refine S.draw (T := [tS 2 (bp b1 0), tS 3 (bp b2 0), tR (Box b2 [.int .i64 a1.Kind, .int .i64 a1.Rights, .int .i64 a1.Obj, .int .i64 a1.Badge, .int .i64 a1.Guard, .int .i64 a1.Bits]), tR (Box b1 [.int .i64 a0.Kind, .int .i64 a0.Rights, .int .i64 a0.Obj, .int .i64 a0.Badge, .int .i64 a0.Guard, .int .i64 a0.Bits]), tR (F), tS 5 (bp b1 0), tS 6 (.int .i64 a0.Kind), tS 7 (bp b2 0), tS 8 (.int .i64 a1.Kind), tS 9 (.bool (a0.Kind == a1.Kind)), tS 10 (.bool (a0.Kind == a1.Kind)), tS 11 (bp b1 2), tS 12 (.int .i64 a0.Obj), tS 13 (bp b2 2), tS 14 (.int .i64 a1.Obj), tS 15 (.bool (a0.Obj == a1.Obj)), tS 16 (.bool (a0.Obj == a1.Obj)), tS 17 (.bool (a0.Obj == a1.Obj)), tS 18 (undef), tS 19 (undef), tS 20 (undef), tS 21 (undef), tS 22 (undef), tS 23 (undef), tS 24 (undef), tS 25 (undef), tS 26 (.bool false), tS 27 (.bool false), tS 28 (undef), tS 29 (undef), tS 30 (undef), tS 31 (undef), tS 32 (undef), tS 33 (undef), tS 34 (undef), tS 35 (undef), tS 36 (undef), tS 37 (undef), tS 38 (.bool false), tS 4 (.bool false)]) (D := [⟨[0], [], [5]⟩, ⟨[5, 3], [], [6]⟩, ⟨[1], [], [7]⟩, ⟨[7, 2], [], [8]⟩, ⟨[6, 8], [], [9]⟩, ⟨[9], [], [10]⟩, ⟨[0, 10], [], [11]⟩, ⟨[10, 11, 3], [], [12]⟩, ⟨[1, 10], [], [13]⟩, ⟨[10, 13, 2], [], [14]⟩, ⟨[10, 12, 14], [], [15]⟩, ⟨[10, 15], [], [16]⟩, ⟨[16], [], [17]⟩, ⟨[17], [], [18]⟩, ⟨[17], [], [19]⟩, ⟨[17], [], [20]⟩, ⟨[17], [], [21]⟩, ⟨[17], [], [22]⟩, ⟨[17], [], [23]⟩, ⟨[17], [], [24]⟩, ⟨[17], [], [25]⟩, ⟨[17, 25], [], [26]⟩, ⟨[26], [], [27]⟩, ⟨[27], [], [28]⟩, ⟨[27], [], [29]⟩, ⟨[27], [], [30]⟩, ⟨[27], [], [31]⟩, ⟨[31], [], [32]⟩, ⟨[31], [], [33]⟩, ⟨[31], [], [34]⟩, ⟨[31], [], [35]⟩, ⟨[31], [], [36]⟩, ⟨[27], [], [37]⟩, ⟨[27, 37], [], [38]⟩, ⟨[38], [], [39]⟩]) (ini := [0, 1, 2, 3, 4]) (fin := [39, 2, 3, 4]) (bf := [[], [0], [], [2], [0, 1, 2, 3], [0, 1, 2, 3, 4], [0, 1, 2, 3, 4, 5], [0, 1, 2, 3, 4, 5, 6], [0, 1, 2, 3, 4, 5], [0, 1, 2, 3, 4, 5, 8], [0, 1, 2, 3, 4, 5, 6, 7, 8, 9], [0, 1, 2, 3, 4, 5, 6, 7, 8, 9, 10], [0, 1, 2, 3, 4, 5, 6, 7, 8, 9, 10, 11], [0, 1, 2, 3, 4, 5, 6, 7, 8, 9, 10, 11, 12], [0, 1, 2, 3, 4, 5, 6, 7, 8, 9, 10, 11, 12, 13], [0, 1, 2, 3, 4, 5, 6, 7, 8, 9, 10, 11, 12], [0, 1, 2, 3, 4, 5, 6, 7, 8, 9, 10, 11, 12, 15], [0, 1, 2, 3, 4, 5, 6, 7, 8, 9, 10, 11, 12, 13, 14, 15, 16], [0, 1, 2, 3, 4, 5, 6, 7, 8, 9, 10, 11, 12], [0, 1, 2, 3, 4, 5, 6, 7, 8, 9, 10, 11, 12, 18], [0, 1, 2, 3, 4, 5, 6, 7, 8, 9, 10, 11, 12, 13, 14, 15, 16, 17, 18, 19], [0, 1, 2, 3, 4, 5, 6, 7, 8, 9, 10, 11, 12, 13, 14, 15, 16, 17, 18, 19, 20], [0, 1, 2, 3, 4, 5, 6, 7, 8, 9, 10, 11, 12, 13, 14, 15, 16, 17, 18, 19, 20, 21], [0, 1, 2, 3, 4, 5, 6, 7, 8, 9, 10, 11, 12, 13, 14, 15, 16, 17, 18, 19, 20, 21, 22], [0, 1, 2, 3, 4, 5, 6, 7, 8, 9, 10, 11, 12, 13, 14, 15, 16, 17, 18, 19, 20, 21, 22, 23], [0, 1, 2, 3, 4, 5, 6, 7, 8, 9, 10, 11, 12, 13, 14, 15, 16, 17, 18, 19, 20, 21, 22, 23, 24], [0, 1, 2, 3, 4, 5, 6, 7, 8, 9, 10, 11, 12, 13, 14, 15, 16, 17, 18, 19, 20, 21, 22, 23, 24, 25], [0, 1, 2, 3, 4, 5, 6, 7, 8, 9, 10, 11, 12, 13, 14, 15, 16, 17, 18, 19, 20, 21, 22, 23, 24, 25, 26], [0, 1, 2, 3, 4, 5, 6, 7, 8, 9, 10, 11, 12, 13, 14, 15, 16, 17, 18, 19, 20, 21, 22, 23, 24, 25, 26, 27], [0, 1, 2, 3, 4, 5, 6, 7, 8, 9, 10, 11, 12, 13, 14, 15, 16, 17, 18, 19, 20, 21, 22, 23, 24, 25, 26], [0, 1, 2, 3, 4, 5, 6, 7, 8, 9, 10, 11, 12, 13, 14, 15, 16, 17, 18, 19, 20, 21, 22, 23, 24, 25, 26, 29], [0, 1, 2, 3, 4, 5, 6, 7, 8, 9, 10, 11, 12, 13, 14, 15, 16, 17, 18, 19, 20, 21, 22, 23, 24, 25, 26, 27, 28, 29, 30], [0, 1, 2, 3, 4, 5, 6, 7, 8, 9, 10, 11, 12, 13, 14, 15, 16, 17, 18, 19, 20, 21, 22, 23, 24, 25, 26, 27, 28, 29, 30, 31], [0, 1, 2, 3, 4, 5, 6, 7, 8, 9, 10, 11, 12, 13, 14, 15, 16, 17, 18, 19, 20, 21, 22, 23, 24, 25, 26, 27, 28, 29, 30, 31, 32], [0, 1, 2, 3, 4, 5, 6, 7, 8, 9, 10, 11, 12, 13, 14, 15, 16, 17, 18, 19, 20, 21, 22, 23, 24, 25, 26, 27, 28, 29, 30, 31, 32, 33]]) (by kernel_rfl) (by kernel_rfl) (fun x w h1 h2 => (.cons () (.cons () (.cons () (.cons () (.cons () (.nil ⟨EnvAll.of h1 ⟨rfl, rfl, trivial⟩, h2⟩))))))) ⟨?_, ?_, ?_, ?_, ?_, ?_, ?_, ?_, ?_, ?_, ?_, ?_, ?_, ?_, ?_, ?_, ?_, ?_, ?_, ?_, ?_, ?_, ?_, ?_, ?_, ?_, ?_, ?_, ?_, ?_, ?_, ?_, ?_, ?_, ?_, trivial⟩ ?_
        · rintro Fr _
          refine SO.v rfl (opv_fieldAddr Try.underlying53 rfl Try.sizeOf3 rfl rfl) ?_
          exact SO.nilZ fun a w h1 h2 h3 h4 h5 => PZ.of h1 h3 h5 (.cons () (.cons () (.nil ⟨EnvAll.of h2 ⟨rfl, rfl, trivial⟩, h4⟩)))
        · rintro Fr _ _
          refine SO.load1 rfl Try.isAgg3 rfl rfl ?_
          exact SO.nilZ fun a w h1 h2 h3 h4 h5 => PZ.of h1 h3 h5 (.cons () (.cons () (.cons () (.nil ⟨EnvAll.of h2 ⟨rfl, rfl, trivial⟩, h4⟩))))
        · rintro Fr _
          refine SO.v rfl (opv_fieldAddr Try.underlying53 rfl Try.sizeOf3 rfl rfl) ?_
          exact SO.nilZ fun a w h1 h2 h3 h4 h5 => PZ.of h1 h3 h5 (.cons () (.cons () (.nil ⟨EnvAll.of h2 ⟨rfl, rfl, trivial⟩, h4⟩)))
        · rintro Fr _ _
          refine SO.load1 rfl Try.isAgg3 rfl rfl ?_
          exact SO.nilZ fun a w h1 h2 h3 h4 h5 => PZ.of h1 h3 h5 (.cons () (.cons () (.cons () (.nil ⟨EnvAll.of h2 ⟨rfl, rfl, trivial⟩, h4⟩))))
        · rintro Fr _ _
          refine SO.v rfl (opv_eql rfl rfl) ?_
          exact SO.nilZ fun a w h1 h2 h3 h4 h5 => PZ.of h1 h3 h5 (.cons () (.cons () (.cons () (.nil ⟨EnvAll.of h2 ⟨rfl, rfl, rfl, trivial⟩, h4⟩))))
        · rintro Fr _
          refine SO.v rfl (opv_move rfl) ?_
          exact SO.nilZ fun a w h1 h2 h3 h4 h5 => PZ.of h1 h3 h5 (.cons () (.cons () (.nil ⟨EnvAll.of h2 ⟨rfl, rfl, trivial⟩, h4⟩)))
        · rintro Fr _ _
          refine SO.takeT rfl rfl rfl b3 ?_
          refine SO.v rfl (opv_fieldAddr Try.underlying53 rfl Try.sizeOf3 rfl rfl) ?_
          exact SO.nilZ fun a w h1 h2 h3 h4 h5 => PZ.of h1 h3 h5 (.cons () (.cons () (.cons () (.nil ⟨EnvAll.of h2 ⟨rfl, rfl, rfl, trivial⟩, h4⟩))))
        · rintro Fr _ _ _
          refine SO.takeT rfl rfl rfl b3 ?_
          refine SO.load1 rfl Try.isAgg3 rfl rfl ?_
          exact SO.nilZ fun a w h1 h2 h3 h4 h5 => PZ.of h1 h3 h5 (.cons () (.cons () (.cons () (.cons () (.nil ⟨EnvAll.of h2 ⟨rfl, rfl, rfl, trivial⟩, h4⟩)))))
        · rintro Fr _ _
          refine SO.takeT rfl rfl rfl b3 ?_
          refine SO.v rfl (opv_fieldAddr Try.underlying53 rfl Try.sizeOf3 rfl rfl) ?_
          exact SO.nilZ fun a w h1 h2 h3 h4 h5 => PZ.of h1 h3 h5 (.cons () (.cons () (.cons () (.nil ⟨EnvAll.of h2 ⟨rfl, rfl, rfl, trivial⟩, h4⟩))))
        · rintro Fr _ _ _
          refine SO.takeT rfl rfl rfl b3 ?_
          refine SO.load1 rfl Try.isAgg3 rfl rfl ?_
          exact SO.nilZ fun a w h1 h2 h3 h4 h5 => PZ.of h1 h3 h5 (.cons () (.cons () (.cons () (.cons () (.nil ⟨EnvAll.of h2 ⟨rfl, rfl, rfl, trivial⟩, h4⟩)))))
        · rintro Fr _ _ _
          refine SO.takeT rfl rfl rfl b3 ?_
          refine SO.v rfl (opv_eql rfl rfl) ?_
          exact SO.nilZ fun a w h1 h2 h3 h4 h5 => PZ.of h1 h3 h5 (.cons () (.cons () (.cons () (.cons () (.nil ⟨EnvAll.of h2 ⟨rfl, rfl, rfl, rfl, trivial⟩, h4⟩)))))
        · rintro Fr _ _
          refine SO.v rfl (opv_pick_t' b3 rfl rfl) ?_
          exact SO.nilZ fun a w h1 h2 h3 h4 h5 => PZ.of h1 h3 h5 (.cons () (.cons () (.cons () (.nil ⟨EnvAll.of h2 ⟨rfl, rfl, rfl, trivial⟩, h4⟩))))
        · rintro Fr _
          refine SO.v rfl (opv_move rfl) ?_
          exact SO.nilZ fun a w h1 h2 h3 h4 h5 => PZ.of h1 h3 h5 (.cons () (.cons () (.nil ⟨EnvAll.of h2 ⟨rfl, rfl, trivial⟩, h4⟩)))
        · rintro Fr _
          refine SO.passF rfl rfl rfl b4 rfl rfl ?_
          exact SO.nilZ fun a w h1 h2 h3 h4 h5 => PZ.of h1 h3 h5 (.cons () (.cons () (.nil ⟨EnvAll.of h2 ⟨rfl, rfl, trivial⟩, h4⟩)))
        · rintro Fr _
          refine SO.passF rfl rfl rfl b4 rfl rfl ?_
          exact SO.nilZ fun a w h1 h2 h3 h4 h5 => PZ.of h1 h3 h5 (.cons () (.cons () (.nil ⟨EnvAll.of h2 ⟨rfl, rfl, trivial⟩, h4⟩)))
        · rintro Fr _
          refine SO.passF rfl rfl rfl b4 rfl rfl ?_
          exact SO.nilZ fun a w h1 h2 h3 h4 h5 => PZ.of h1 h3 h5 (.cons () (.cons () (.nil ⟨EnvAll.of h2 ⟨rfl, rfl, trivial⟩, h4⟩)))
        · rintro Fr _
          refine SO.passF rfl rfl rfl b4 rfl rfl ?_
          exact SO.nilZ fun a w h1 h2 h3 h4 h5 => PZ.of h1 h3 h5 (.cons () (.cons () (.nil ⟨EnvAll.of h2 ⟨rfl, rfl, trivial⟩, h4⟩)))
        · rintro Fr _
          refine SO.passF rfl rfl rfl b4 rfl rfl ?_
          exact SO.nilZ fun a w h1 h2 h3 h4 h5 => PZ.of h1 h3 h5 (.cons () (.cons () (.nil ⟨EnvAll.of h2 ⟨rfl, rfl, trivial⟩, h4⟩)))
        · rintro Fr _
          refine SO.passF rfl rfl rfl b4 rfl rfl ?_
          exact SO.nilZ fun a w h1 h2 h3 h4 h5 => PZ.of h1 h3 h5 (.cons () (.cons () (.nil ⟨EnvAll.of h2 ⟨rfl, rfl, trivial⟩, h4⟩)))
        · rintro Fr _
          refine SO.passF rfl rfl rfl b4 rfl rfl ?_
          exact SO.nilZ fun a w h1 h2 h3 h4 h5 => PZ.of h1 h3 h5 (.cons () (.cons () (.nil ⟨EnvAll.of h2 ⟨rfl, rfl, trivial⟩, h4⟩)))
        · rintro Fr _
          refine SO.passF rfl rfl rfl b4 rfl rfl ?_
          exact SO.nilZ fun a w h1 h2 h3 h4 h5 => PZ.of h1 h3 h5 (.cons () (.cons () (.nil ⟨EnvAll.of h2 ⟨rfl, rfl, trivial⟩, h4⟩)))
        · rintro Fr _ _
          refine SO.v rfl (opv_pick_f' b4 rfl rfl) ?_
          exact SO.nilZ fun a w h1 h2 h3 h4 h5 => PZ.of h1 h3 h5 (.cons () (.cons () (.cons () (.nil ⟨EnvAll.of h2 ⟨rfl, rfl, rfl, trivial⟩, h4⟩))))
        · rintro Fr _
          refine SO.v rfl (opv_move rfl) ?_
          exact SO.nilZ fun a w h1 h2 h3 h4 h5 => PZ.of h1 h3 h5 (.cons () (.cons () (.nil ⟨EnvAll.of h2 ⟨rfl, rfl, trivial⟩, h4⟩)))
        · rintro Fr _
          refine SO.passF rfl rfl rfl rfl rfl rfl ?_
          exact SO.nilZ fun a w h1 h2 h3 h4 h5 => PZ.of h1 h3 h5 (.cons () (.cons () (.nil ⟨EnvAll.of h2 ⟨rfl, rfl, trivial⟩, h4⟩)))
        · rintro Fr _
          refine SO.passF rfl rfl rfl rfl rfl rfl ?_
          exact SO.nilZ fun a w h1 h2 h3 h4 h5 => PZ.of h1 h3 h5 (.cons () (.cons () (.nil ⟨EnvAll.of h2 ⟨rfl, rfl, trivial⟩, h4⟩)))
        · rintro Fr _
          refine SO.passF rfl rfl rfl rfl rfl rfl ?_
          exact SO.nilZ fun a w h1 h2 h3 h4 h5 => PZ.of h1 h3 h5 (.cons () (.cons () (.nil ⟨EnvAll.of h2 ⟨rfl, rfl, trivial⟩, h4⟩)))
        · rintro Fr _
          refine SO.passF rfl rfl rfl rfl rfl rfl ?_
          exact SO.nilZ fun a w h1 h2 h3 h4 h5 => PZ.of h1 h3 h5 (.cons () (.cons () (.nil ⟨EnvAll.of h2 ⟨rfl, rfl, trivial⟩, h4⟩)))
        · rintro Fr _
          refine SO.pass_undef rfl rfl rfl rfl ?_
          exact SO.nilZ fun a w h1 h2 h3 h4 h5 => PZ.of h1 h3 h5 (.cons () (.cons () (.nil ⟨EnvAll.of h2 ⟨rfl, rfl, trivial⟩, h4⟩)))
        · rintro Fr _
          refine SO.pass_undef rfl rfl rfl rfl ?_
          exact SO.nilZ fun a w h1 h2 h3 h4 h5 => PZ.of h1 h3 h5 (.cons () (.cons () (.nil ⟨EnvAll.of h2 ⟨rfl, rfl, trivial⟩, h4⟩)))
        · rintro Fr _
          refine SO.pass_undef rfl rfl rfl rfl ?_
          exact SO.nilZ fun a w h1 h2 h3 h4 h5 => PZ.of h1 h3 h5 (.cons () (.cons () (.nil ⟨EnvAll.of h2 ⟨rfl, rfl, trivial⟩, h4⟩)))
        · rintro Fr _
          refine SO.pass_undef rfl rfl rfl rfl ?_
          exact SO.nilZ fun a w h1 h2 h3 h4 h5 => PZ.of h1 h3 h5 (.cons () (.cons () (.nil ⟨EnvAll.of h2 ⟨rfl, rfl, trivial⟩, h4⟩)))
        · rintro Fr _
          refine SO.pass_undef rfl rfl rfl rfl ?_
          exact SO.nilZ fun a w h1 h2 h3 h4 h5 => PZ.of h1 h3 h5 (.cons () (.cons () (.nil ⟨EnvAll.of h2 ⟨rfl, rfl, trivial⟩, h4⟩)))
        · rintro Fr _
          refine SO.passF rfl rfl rfl rfl rfl rfl ?_
          exact SO.nilZ fun a w h1 h2 h3 h4 h5 => PZ.of h1 h3 h5 (.cons () (.cons () (.nil ⟨EnvAll.of h2 ⟨rfl, rfl, trivial⟩, h4⟩)))
        · rintro Fr _ _
          refine SO.v rfl (opv_pick_ff rfl rfl) ?_
          exact SO.nilZ fun a w h1 h2 h3 h4 h5 => PZ.of h1 h3 h5 (.cons () (.cons () (.cons () (.nil ⟨EnvAll.of h2 ⟨rfl, rfl, rfl, trivial⟩, h4⟩))))
        · rintro Fr _
          refine SO.v rfl (opv_assign rfl) ?_
          exact SO.nilZ fun a w h1 h2 h3 h4 h5 => PZ.of h1 h3 h5 (.cons () (.cons () (.nil ⟨EnvAll.of h2 ⟨rfl, rfl, trivial⟩, h4⟩)))
        rintro _ _ _ _
        show S _ _ _ _ _ _ _ [Box b2 [.int .i64 a1.Kind, .int .i64 a1.Rights, .int .i64 a1.Obj, .int .i64 a1.Badge, .int .i64 a1.Guard, .int .i64 a1.Bits], Box b1 [.int .i64 a0.Kind, .int .i64 a0.Rights, .int .i64 a0.Obj, .int .i64 a0.Badge, .int .i64 a0.Guard, .int .i64 a0.Bits], F]
        refine S.to (ρ' := [(4, .bool false)]) ⟨rfl, trivial⟩ ?_
        cases h
        refine S.b2 ?_
        refine S.b2 ?_
        refine S.b2 ?_
        refine S.to ?_ (hk1 () trivial)
        exact ⟨rfl, trivial⟩
    · replace h := cond_f b3 h
      refine S.draw (T := [tS 2 (bp b1 0), tS 3 (bp b2 0), tR (Box b2 [.int .i64 a1.Kind, .int .i64 a1.Rights, .int .i64 a1.Obj, .int .i64 a1.Badge, .int .i64 a1.Guard, .int .i64 a1.Bits]), tR (Box b1 [.int .i64 a0.Kind, .int .i64 a0.Rights, .int .i64 a0.Obj, .int .i64 a0.Badge, .int .i64 a0.Guard, .int .i64 a0.Bits]), tR (F), tS 5 (bp b1 0), tS 6 (.int .i64 a0.Kind), tS 7 (bp b2 0), tS 8 (.int .i64 a1.Kind), tS 9 (.bool (a0.Kind == a1.Kind)), tS 10 (.bool (a0.Kind == a1.Kind)), tS 11 (undef), tS 12 (undef), tS 13 (undef), tS 14 (undef), tS 15 (undef), tS 16 (.bool false), tS 17 (.bool false), tS 18 (undef), tS 19 (undef), tS 20 (undef), tS 21 (undef), tS 22 (undef), tS 23 (undef), tS 24 (undef), tS 25 (undef), tS 26 (.bool false), tS 27 (.bool false), tS 28 (undef), tS 29 (undef), tS 30 (undef), tS 31 (undef), tS 32 (undef), tS 33 (undef), tS 34 (undef), tS 35 (undef), tS 36 (undef), tS 37 (undef), tS 38 (.bool false), tS 4 (.bool false)]) (D := [⟨[0], [], [5]⟩, ⟨[5, 3], [], [6]⟩, ⟨[1], [], [7]⟩, ⟨[7, 2], [], [8]⟩, ⟨[6, 8], [], [9]⟩, ⟨[9], [], [10]⟩, ⟨[10], [], [11]⟩, ⟨[10], [], [12]⟩, ⟨[10], [], [13]⟩, ⟨[10], [], [14]⟩, ⟨[10], [], [15]⟩, ⟨[10, 15], [], [16]⟩, ⟨[16], [], [17]⟩, ⟨[17], [], [18]⟩, ⟨[17], [], [19]⟩, ⟨[17], [], [20]⟩, ⟨[17], [], [21]⟩, ⟨[17], [], [22]⟩, ⟨[17], [], [23]⟩, ⟨[17], [], [24]⟩, ⟨[17], [], [25]⟩, ⟨[17, 25], [], [26]⟩, ⟨[26], [], [27]⟩, ⟨[27], [], [28]⟩, ⟨[27], [], [29]⟩, ⟨[27], [], [30]⟩, ⟨[27], [], [31]⟩, ⟨[31], [], [32]⟩, ⟨[31], [], [33]⟩, ⟨[31], [], [34]⟩, ⟨[31], [], [35]⟩, ⟨[31], [], [36]⟩, ⟨[27], [], [37]⟩, ⟨[27, 37], [], [38]⟩, ⟨[38], [], [39]⟩]) (ini := [0, 1, 2, 3, 4]) (fin := [39, 2, 3, 4]) (bf := [[], [0], [], [2], [0, 1, 2, 3], [0, 1, 2, 3, 4], [0, 1, 2, 3, 4, 5], [0, 1, 2, 3, 4, 5, 6], [0, 1, 2, 3, 4, 5], [0, 1, 2, 3, 4, 5, 8], [0, 1, 2, 3, 4, 5, 6, 7, 8, 9], [0, 1, 2, 3, 4, 5, 6, 7, 8, 9, 10], [0, 1, 2, 3, 4, 5, 6, 7, 8, 9, 10, 11], [0, 1, 2, 3, 4, 5, 6, 7, 8, 9, 10, 11, 12], [0, 1, 2, 3, 4, 5, 6, 7, 8, 9, 10, 11, 12, 13], [0, 1, 2, 3, 4, 5, 6, 7, 8, 9, 10, 11, 12], [0, 1, 2, 3, 4, 5, 6, 7, 8, 9, 10, 11, 12, 15], [0, 1, 2, 3, 4, 5, 6, 7, 8, 9, 10, 11, 12, 13, 14, 15, 16], [0, 1, 2, 3, 4, 5, 6, 7, 8, 9, 10, 11, 12], [0, 1, 2, 3, 4, 5, 6, 7, 8, 9, 10, 11, 12, 18], [0, 1, 2, 3, 4, 5, 6, 7, 8, 9, 10, 11, 12, 13, 14, 15, 16, 17, 18, 19], [0, 1, 2, 3, 4, 5, 6, 7, 8, 9, 10, 11, 12, 13, 14, 15, 16, 17, 18, 19, 20], [0, 1, 2, 3, 4, 5, 6, 7, 8, 9, 10, 11, 12, 13, 14, 15, 16, 17, 18, 19, 20, 21], [0, 1, 2, 3, 4, 5, 6, 7, 8, 9, 10, 11, 12, 13, 14, 15, 16, 17, 18, 19, 20, 21, 22], [0, 1, 2, 3, 4, 5, 6, 7, 8, 9, 10, 11, 12, 13, 14, 15, 16, 17, 18, 19, 20, 21, 22, 23], [0, 1, 2, 3, 4, 5, 6, 7, 8, 9, 10, 11, 12, 13, 14, 15, 16, 17, 18, 19, 20, 21, 22, 23, 24], [0, 1, 2, 3, 4, 5, 6, 7, 8, 9, 10, 11, 12, 13, 14, 15, 16, 17, 18, 19, 20, 21, 22, 23, 24, 25], [0, 1, 2, 3, 4, 5, 6, 7, 8, 9, 10, 11, 12, 13, 14, 15, 16, 17, 18, 19, 20, 21, 22, 23, 24, 25, 26], [0, 1, 2, 3, 4, 5, 6, 7, 8, 9, 10, 11, 12, 13, 14, 15, 16, 17, 18, 19, 20, 21, 22, 23, 24, 25, 26, 27], [0, 1, 2, 3, 4, 5, 6, 7, 8, 9, 10, 11, 12, 13, 14, 15, 16, 17, 18, 19, 20, 21, 22, 23, 24, 25, 26], [0, 1, 2, 3, 4, 5, 6, 7, 8, 9, 10, 11, 12, 13, 14, 15, 16, 17, 18, 19, 20, 21, 22, 23, 24, 25, 26, 29], [0, 1, 2, 3, 4, 5, 6, 7, 8, 9, 10, 11, 12, 13, 14, 15, 16, 17, 18, 19, 20, 21, 22, 23, 24, 25, 26, 27, 28, 29, 30], [0, 1, 2, 3, 4, 5, 6, 7, 8, 9, 10, 11, 12, 13, 14, 15, 16, 17, 18, 19, 20, 21, 22, 23, 24, 25, 26, 27, 28, 29, 30, 31], [0, 1, 2, 3, 4, 5, 6, 7, 8, 9, 10, 11, 12, 13, 14, 15, 16, 17, 18, 19, 20, 21, 22, 23, 24, 25, 26, 27, 28, 29, 30, 31, 32], [0, 1, 2, 3, 4, 5, 6, 7, 8, 9, 10, 11, 12, 13, 14, 15, 16, 17, 18, 19, 20, 21, 22, 23, 24, 25, 26, 27, 28, 29, 30, 31, 32, 33]]) (by kernel_rfl) (by kernel_rfl) (fun x w h1 h2 => (.cons () (.cons () (.cons () (.cons () (.cons () (.nil ⟨EnvAll.of h1 ⟨rfl, rfl, trivial⟩, h2⟩))))))) ⟨?_, ?_, ?_, ?_, ?_, ?_, ?_, ?_, ?_, ?_, ?_, ?_, ?_, ?_, ?_, ?_, ?_, ?_, ?_, ?_, ?_, ?_, ?_, ?_, ?_, ?_, ?_, ?_, ?_, ?_, ?_, ?_, ?_, ?_, ?_, trivial⟩ ?_
      · rintro Fr _
        refine SO.v rfl (opv_fieldAddr Try.underlying53 rfl Try.sizeOf3 rfl rfl) ?_
        exact SO.nilZ fun a w h1 h2 h3 h4 h5 => PZ.of h1 h3 h5 (.cons () (.cons () (.nil ⟨EnvAll.of h2 ⟨rfl, rfl, trivial⟩, h4⟩)))
      · rintro Fr _ _
        refine SO.load1 rfl Try.isAgg3 rfl rfl ?_
        exact SO.nilZ fun a w h1 h2 h3 h4 h5 => PZ.of h1 h3 h5 (.cons () (.cons () (.cons () (.nil ⟨EnvAll.of h2 ⟨rfl, rfl, trivial⟩, h4⟩))))
      · rintro Fr _
        refine SO.v rfl (opv_fieldAddr Try.underlying53 rfl Try.sizeOf3 rfl rfl) ?_
        exact SO.nilZ fun a w h1 h2 h3 h4 h5 => PZ.of h1 h3 h5 (.cons () (.cons () (.nil ⟨EnvAll.of h2 ⟨rfl, rfl, trivial⟩, h4⟩)))
      · rintro Fr _ _
        refine SO.load1 rfl Try.isAgg3 rfl rfl ?_
        exact SO.nilZ fun a w h1 h2 h3 h4 h5 => PZ.of h1 h3 h5 (.cons () (.cons () (.cons () (.nil ⟨EnvAll.of h2 ⟨rfl, rfl, trivial⟩, h4⟩))))
      · rintro Fr _ _
        refine SO.v rfl (opv_eql rfl rfl) ?_
        exact SO.nilZ fun a w h1 h2 h3 h4 h5 => PZ.of h1 h3 h5 (.cons () (.cons () (.cons () (.nil ⟨EnvAll.of h2 ⟨rfl, rfl, rfl, trivial⟩, h4⟩))))
      · rintro Fr _
        refine SO.v rfl (opv_move rfl) ?_
        exact SO.nilZ fun a w h1 h2 h3 h4 h5 => PZ.of h1 h3 h5 (.cons () (.cons () (.nil ⟨EnvAll.of h2 ⟨rfl, rfl, trivial⟩, h4⟩)))
      · rintro Fr _
        refine SO.passF rfl rfl rfl b3 rfl rfl ?_
        exact SO.nilZ fun a w h1 h2 h3 h4 h5 => PZ.of h1 h3 h5 (.cons () (.cons () (.nil ⟨EnvAll.of h2 ⟨rfl, rfl, trivial⟩, h4⟩)))
      · rintro Fr _
        refine SO.passF rfl rfl rfl b3 rfl rfl ?_
        exact SO.nilZ fun a w h1 h2 h3 h4 h5 => PZ.of h1 h3 h5 (.cons () (.cons () (.nil ⟨EnvAll.of h2 ⟨rfl, rfl, trivial⟩, h4⟩)))
      · rintro Fr _
        refine SO.passF rfl rfl rfl b3 rfl rfl ?_
        exact SO.nilZ fun a w h1 h2 h3 h4 h5 => PZ.of h1 h3 h5 (.cons () (.cons () (.nil ⟨EnvAll.of h2 ⟨rfl, rfl, trivial⟩, h4⟩)))
      · rintro Fr _
        refine SO.passF rfl rfl rfl b3 rfl rfl ?_
        exact SO.nilZ fun a w h1 h2 h3 h4 h5 => PZ.of h1 h3 h5 (.cons () (.cons () (.nil ⟨EnvAll.of h2 ⟨rfl, rfl, trivial⟩, h4⟩)))
      · rintro Fr _
        refine SO.passF rfl rfl rfl b3 rfl rfl ?_
        exact SO.nilZ fun a w h1 h2 h3 h4 h5 => PZ.of h1 h3 h5 (.cons () (.cons () (.nil ⟨EnvAll.of h2 ⟨rfl, rfl, trivial⟩, h4⟩)))
      · rintro Fr _ _
        refine SO.v rfl (opv_pick_f' b3 rfl rfl) ?_
        exact SO.nilZ fun a w h1 h2 h3 h4 h5 => PZ.of h1 h3 h5 (.cons () (.cons () (.cons () (.nil ⟨EnvAll.of h2 ⟨rfl, rfl, rfl, trivial⟩, h4⟩))))
      · rintro Fr _
        refine SO.v rfl (opv_move rfl) ?_
        exact SO.nilZ fun a w h1 h2 h3 h4 h5 => PZ.of h1 h3 h5 (.cons () (.cons () (.nil ⟨EnvAll.of h2 ⟨rfl, rfl, trivial⟩, h4⟩)))
      · rintro Fr _
        refine SO.passF rfl rfl rfl rfl rfl rfl ?_
        exact SO.nilZ fun a w h1 h2 h3 h4 h5 => PZ.of h1 h3 h5 (.cons () (.cons () (.nil ⟨EnvAll.of h2 ⟨rfl, rfl, trivial⟩, h4⟩)))
      · rintro Fr _
        refine SO.passF rfl rfl rfl rfl rfl rfl ?_
        exact SO.nilZ fun a w h1 h2 h3 h4 h5 => PZ.of h1 h3 h5 (.cons () (.cons () (.nil ⟨EnvAll.of h2 ⟨rfl, rfl, trivial⟩, h4⟩)))
      · rintro Fr _
        refine SO.passF rfl rfl rfl rfl rfl rfl ?_
        exact SO.nilZ fun a w h1 h2 h3 h4 h5 => PZ.of h1 h3 h5 (.cons () (.cons () (.nil ⟨EnvAll.of h2 ⟨rfl, rfl, trivial⟩, h4⟩)))
      · rintro Fr _
        refine SO.passF rfl rfl rfl rfl rfl rfl ?_
        exact SO.nilZ fun a w h1 h2 h3 h4 h5 => PZ.of h1 h3 h5 (.cons () (.cons () (.nil ⟨EnvAll.of h2 ⟨rfl, rfl, trivial⟩, h4⟩)))
      · rintro Fr _
        refine SO.passF rfl rfl rfl rfl rfl rfl ?_
        exact SO.nilZ fun a w h1 h2 h3 h4 h5 => PZ.of h1 h3 h5 (.cons () (.cons () (.nil ⟨EnvAll.of h2 ⟨rfl, rfl, trivial⟩, h4⟩)))
      · rintro Fr _
        refine SO.passF rfl rfl rfl rfl rfl rfl ?_
        exact SO.nilZ fun a w h1 h2 h3 h4 h5 => PZ.of h1 h3 h5 (.cons () (.cons () (.nil ⟨EnvAll.of h2 ⟨rfl, rfl, trivial⟩, h4⟩)))
      · rintro Fr _
        refine SO.passF rfl rfl rfl rfl rfl rfl ?_
        exact SO.nilZ fun a w h1 h2 h3 h4 h5 => PZ.of h1 h3 h5 (.cons () (.cons () (.nil ⟨EnvAll.of h2 ⟨rfl, rfl, trivial⟩, h4⟩)))
      · rintro Fr _
        refine SO.passF rfl rfl rfl rfl rfl rfl ?_
        exact SO.nilZ fun a w h1 h2 h3 h4 h5 => PZ.of h1 h3 h5 (.cons () (.cons () (.nil ⟨EnvAll.of h2 ⟨rfl, rfl, trivial⟩, h4⟩)))
      · rintro Fr _ _
        refine SO.v rfl (opv_pick_ff rfl rfl) ?_
        exact SO.nilZ fun a w h1 h2 h3 h4 h5 => PZ.of h1 h3 h5 (.cons () (.cons () (.cons () (.nil ⟨EnvAll.of h2 ⟨rfl, rfl, rfl, trivial⟩, h4⟩))))
      · rintro Fr _
        refine SO.v rfl (opv_move rfl) ?_
        exact SO.nilZ fun a w h1 h2 h3 h4 h5 => PZ.of h1 h3 h5 (.cons () (.cons () (.nil ⟨EnvAll.of h2 ⟨rfl, rfl, trivial⟩, h4⟩)))
      · rintro Fr _
        refine SO.passF rfl rfl rfl rfl rfl rfl ?_
        exact SO.nilZ fun a w h1 h2 h3 h4 h5 => PZ.of h1 h3 h5 (.cons () (.cons () (.nil ⟨EnvAll.of h2 ⟨rfl, rfl, trivial⟩, h4⟩)))
      · rintro Fr _
        refine SO.passF rfl rfl rfl rfl rfl rfl ?_
        exact SO.nilZ fun a w h1 h2 h3 h4 h5 => PZ.of h1 h3 h5 (.cons () (.cons () (.nil ⟨EnvAll.of h2 ⟨rfl, rfl, trivial⟩, h4⟩)))
      · rintro Fr _
        refine SO.passF rfl rfl rfl rfl rfl rfl ?_
        exact SO.nilZ fun a w h1 h2 h3 h4 h5 => PZ.of h1 h3 h5 (.cons () (.cons () (.nil ⟨EnvAll.of h2 ⟨rfl, rfl, trivial⟩, h4⟩)))
      · rintro Fr _
        refine SO.passF rfl rfl rfl rfl rfl rfl ?_
        exact SO.nilZ fun a w h1 h2 h3 h4 h5 => PZ.of h1 h3 h5 (.cons () (.cons () (.nil ⟨EnvAll.of h2 ⟨rfl, rfl, trivial⟩, h4⟩)))
      · rintro Fr _
        refine SO.pass_undef rfl rfl rfl rfl ?_
        exact SO.nilZ fun a w h1 h2 h3 h4 h5 => PZ.of h1 h3 h5 (.cons () (.cons () (.nil ⟨EnvAll.of h2 ⟨rfl, rfl, trivial⟩, h4⟩)))
      · rintro Fr _
        refine SO.pass_undef rfl rfl rfl rfl ?_
        exact SO.nilZ fun a w h1 h2 h3 h4 h5 => PZ.of h1 h3 h5 (.cons () (.cons () (.nil ⟨EnvAll.of h2 ⟨rfl, rfl, trivial⟩, h4⟩)))
      · rintro Fr _
        refine SO.pass_undef rfl rfl rfl rfl ?_
        exact SO.nilZ fun a w h1 h2 h3 h4 h5 => PZ.of h1 h3 h5 (.cons () (.cons () (.nil ⟨EnvAll.of h2 ⟨rfl, rfl, trivial⟩, h4⟩)))
      · rintro Fr _
        refine SO.pass_undef rfl rfl rfl rfl ?_
        exact SO.nilZ fun a w h1 h2 h3 h4 h5 => PZ.of h1 h3 h5 (.cons () (.cons () (.nil ⟨EnvAll.of h2 ⟨rfl, rfl, trivial⟩, h4⟩)))
      · rintro Fr _
        refine SO.pass_undef rfl rfl rfl rfl ?_
        exact SO.nilZ fun a w h1 h2 h3 h4 h5 => PZ.of h1 h3 h5 (.cons () (.cons () (.nil ⟨EnvAll.of h2 ⟨rfl, rfl, trivial⟩, h4⟩)))
      · rintro Fr _
        refine SO.passF rfl rfl rfl rfl rfl rfl ?_
        exact SO.nilZ fun a w h1 h2 h3 h4 h5 => PZ.of h1 h3 h5 (.cons () (.cons () (.nil ⟨EnvAll.of h2 ⟨rfl, rfl, trivial⟩, h4⟩)))
      · rintro Fr _ _
        refine SO.v rfl (opv_pick_ff rfl rfl) ?_
        exact SO.nilZ fun a w h1 h2 h3 h4 h5 => PZ.of h1 h3 h5 (.cons () (.cons () (.cons () (.nil ⟨EnvAll.of h2 ⟨rfl, rfl, rfl, trivial⟩, h4⟩))))
      · rintro Fr _
        refine SO.v rfl (opv_assign rfl) ?_
        exact SO.nilZ fun a w h1 h2 h3 h4 h5 => PZ.of h1 h3 h5 (.cons () (.cons () (.nil ⟨EnvAll.of h2 ⟨rfl, rfl, trivial⟩, h4⟩)))
      rintro _ _ _ _
      show S _ _ _ _ _ _ _ [Box b2 [.int .i64 a1.Kind, .int .i64 a1.Rights, .int .i64 a1.Obj, .int .i64 a1.Badge, .int .i64 a1.Guard, .int .i64 a1.Bits], Box b1 [.int .i64 a0.Kind, .int .i64 a0.Rights, .int .i64 a0.Obj, .int .i64 a0.Badge, .int .i64 a0.Guard, .int .i64 a0.Bits], F]
      refine S.to (ρ' := [(4, .bool false)]) ⟨rfl, trivial⟩ ?_
      cases h
      refine S.b2 ?_
      refine S.b2 ?_
      refine S.b2 ?_
      refine S.to ?_ (hk1 () trivial)
      exact ⟨rfl, trivial⟩
  rintro _ -
  replace h := hJ1
  cases h
  refine S.drop ?_
  refine S.drop ?_
  exact S.ret1 Try.func57 rfl rfl (fun w hs hk => hR w _ _ ⟨rfl, rfl⟩ hs hk)
end Go.Proofs
