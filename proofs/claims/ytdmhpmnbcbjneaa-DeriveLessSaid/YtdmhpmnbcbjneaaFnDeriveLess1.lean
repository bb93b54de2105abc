/- What the functions that DeriveLess reaches come to, and that they do. On no condition. -/
import Derived.Test.YtdmhpmnbcbjneaaFnDeriveLess0
set_option linter.all false
namespace Go.Proofs
open Go.Sl Go.RowKit
/-! 47 padstone/derive.turn -/
def derive_turn.f (k : Nat) (a1 : Int) (a2 : Int) (a3 : api_Cap) : VM ((Option Int)) :=
  (cdt_Replace.f k a1 a2).bind fun t2 => bif t2.isSome then (VM.ret t2) else ((cspace_Set.f k a2 a3).bind fun t6 => bif t6.isSome then (VM.ret t6) else ((cspace_Set.f k a1 (⟨0, 0, 0, 0, 0, 0⟩ : api_Cap)).bind fun t10 => VM.ret t10))
set_option maxHeartbeats 8000000 in
set_option maxRecDepth 100000 in
theorem derive_turn.ct (V : VW Try.prog) (k : Nat) (a1 : Int) (a2 : Int) (a3 : api_Cap) (r0 : Option Int) (s s' : V.S) (h : VM.run V.toVI (derive_turn.f k a1 a2 a3) s = some (r0, s')) :
    Ct Try.prog 47 [V.val, .int .i64 a1, .int .i64 a2, .agg #[.int .i64 a3.Kind, .int .i64 a3.Rights, .int .i64 a3.Obj, .int .i64 a3.Badge, .int .i64 a3.Guard, .int .i64 a3.Bits]] (fun _ => True) [V.rep s] (fun u H' => u = errV 50 r0 ∧ H' = [V.rep s']) := by
  unfold derive_turn.f at h
  refine Ct.intro (n := 29) Try.func47 rfl rfl rfl ?_
  intro R w0 F hF hR
  refine S.seq ?_
  refine S.region ?_
  refine SO.box rfl rfl rfl (fun b1 => ?_)
  refine SO.v rfl (opv_assign rfl) ?_
  refine SO.nil ?_
  refine S.seq ?_
  refine S.seq ?_
  refine S.region ?_
  refine SO.v rfl (opv_move rfl) ?_
  refine SO.v rfl (opv_move rfl) ?_
  refine SO.v rfl (opv_move rfl) ?_
  obtain ⟨t2, s4, ht3, h⟩ := VM.bind_some V.toVI h
  refine SO.b1 ?_
  refine SO.call (pre := [V.rep _]) rfl Try.call65 rfl rfl rfl (cdt_Replace.ct V _ _ _ _ _ _ ht3) trivial ?_
  rintro _ _ ⟨rfl, rfl⟩
  refine SO.v rfl (opv_assign rfl) ?_
  refine SO.nil ?_
  refine S.seq ?_
  refine S.region ?_
  refine SO.v rfl (opv_move rfl) ?_
  refine SO.v rfl (opv_neqN (e := t2) Try.underlying32 rfl) ?_
  refine SO.nil ?_
  rcases bool_or t2.isSome with b5 | b5
  · replace h := VM.cond_t V.toVI b5 h
    refine S.condT rfl b5 ?_
    refine S.seq ?_
    refine S.region ?_
    refine SO.v rfl (opv_move rfl) ?_
    refine SO.v rfl (opv_assign rfl) ?_
    refine SO.nil ?_
    refine S.to (ρ' := [(8, errV 50 t2)]) ⟨rfl, trivial⟩ ?_
    obtain ⟨hq, rfl⟩ := VM.ret_some V.toVI h
    cases hq
    refine S.b1 ?_
    refine S.drop ?_
    refine S.b1 ?_
    refine S.b1 ?_
    exact S.ret1 Try.func47 rfl rfl (fun w hs hk => hR w _ _ ⟨rfl, rfl⟩ hs hk)
  · replace h := VM.cond_f V.toVI b5 h
    refine S.condF rfl b5 ?_
    refine S.skip ?_
    refine S.seq ?_
    refine S.seq ?_
    refine S.region ?_
    refine SO.v rfl (opv_move rfl) ?_
    refine SO.v rfl (opv_move rfl) ?_
    refine SO.b1 ?_
    refine SO.loadN rfl Try.isAgg45 Try.sizeOf45 rfl rfl rfl ?_
    obtain ⟨t6, s8, ht7, h⟩ := VM.bind_some V.toVI h
    refine SO.b1 ?_
    refine SO.call (pre := [V.rep _]) rfl Try.call45 rfl rfl rfl (cspace_Set.ct V _ _ _ _ _ _ ht7) trivial ?_
    rintro _ _ ⟨rfl, rfl⟩
    refine SO.v rfl (opv_assign rfl) ?_
    refine SO.nil ?_
    refine S.to (ρ' := [(0, V.val), (1, .int .i64 a1), (8, errV 50 none), (10, errV 50 t6)]) ⟨rfl, rfl, rfl, rfl, trivial⟩ ?_
    refine S.seq ?_
    refine S.region ?_
    refine SO.v rfl (opv_move rfl) ?_
    refine SO.v rfl (opv_neqN (e := t6) Try.underlying32 rfl) ?_
    refine SO.nil ?_
    rcases bool_or t6.isSome with b9 | b9
    · replace h := VM.cond_t V.toVI b9 h
      refine S.condT rfl b9 ?_
      refine S.seq ?_
      refine S.region ?_
      refine SO.v rfl (opv_move rfl) ?_
      refine SO.v rfl (opv_assign rfl) ?_
      refine SO.nil ?_
      obtain ⟨hq, rfl⟩ := VM.ret_some V.toVI h
      cases hq
      refine S.b1 ?_
      refine S.drop ?_
      refine S.b1 ?_
      refine S.b1 ?_
      exact S.ret1 Try.func47 rfl rfl (fun w hs hk => hR w _ _ ⟨rfl, rfl⟩ hs hk)
    · replace h := VM.cond_f V.toVI b9 h
      refine S.condF rfl b9 ?_
      refine S.skip ?_
      refine S.seq ?_
      refine S.region ?_
      refine SO.v rfl (opv_move rfl) ?_
      refine SO.v rfl (opv_move rfl) ?_
      refine SO.v rfl (opv_build (v := .agg #[.int .i64 0, .int .i64 0, .int .i64 0, .int .i64 0, .int .i64 0, .int .i64 0]) rfl (by intro w; kernel_rfl)) ?_
      obtain ⟨t10, s12, ht11, h⟩ := VM.bind_some V.toVI h
      have ct13 := cspace_Set.ct V _ _ _ _ _ _ ht11
      dsimp only at ct13
      refine SO.call (pre := [V.rep _]) rfl Try.call45 rfl rfl rfl ct13 trivial ?_
      rintro _ _ ⟨rfl, rfl⟩
      refine SO.v rfl (opv_assign rfl) ?_
      refine SO.nil ?_
      refine S.to (ρ' := [(8, errV 50 t10)]) ⟨rfl, trivial⟩ ?_
      obtain ⟨hq, rfl⟩ := VM.ret_some V.toVI h
      cases hq
      refine S.b1 ?_
      refine S.drop ?_
      refine S.b1 ?_
      refine S.b1 ?_
      exact S.ret1 Try.func47 rfl rfl (fun w hs hk => hR w _ _ ⟨rfl, rfl⟩ hs hk)
end Go.Proofs
namespace Go.Proofs
open Go.Sl Go.RowKit
/-! 25 padstone/derive.Move -/
def derive_Move.f (k : Nat) (a1 : Int) (a2 : Int) : VM ((Option Int)) :=
  (derive_ends.f k a1 a2).bind fun (t1, t2) => bif t2.isSome then (VM.ret t2) else ((derive_turn.f k a1 a2 t1).bind fun t7 => VM.ret t7)
set_option maxHeartbeats 8000000 in
set_option maxRecDepth 100000 in
theorem derive_Move.ct (V : VW Try.prog) (k : Nat) (a1 : Int) (a2 : Int) (r0 : Option Int) (s s' : V.S) (h : VM.run V.toVI (derive_Move.f k a1 a2) s = some (r0, s')) :
    Ct Try.prog 25 [V.val, .int .i64 a1, .int .i64 a2] (fun _ => True) [V.rep s] (fun u H' => u = errV 50 r0 ∧ H' = [V.rep s']) := by
  unfold derive_Move.f at h
  refine Ct.intro (n := 24) Try.func25 rfl rfl rfl ?_
  intro R w0 F hF hR
  refine S.seq ?_
  refine S.region ?_
  refine SO.v rfl (opv_assign rfl) ?_
  refine SO.nil ?_
  refine S.seq ?_
  refine S.region ?_
  refine SO.v rfl (opv_move rfl) ?_
  refine SO.v rfl (opv_move rfl) ?_
  refine SO.v rfl (opv_move rfl) ?_
  obtain ⟨⟨t1, t2⟩, s4, ht3, h⟩ := VM.bind_some V.toVI h
  refine SO.call (pre := [V.rep _]) rfl Try.call41 rfl rfl rfl (derive_ends.ct V _ _ _ _ _ _ _ ht3) trivial ?_
  rintro _ _ ⟨rfl, rfl⟩
  refine SO.v rfl (opv_move rfl) ?_
  refine SO.v rfl (opv_extract rfl rfl) ?_
  refine SO.v rfl (opv_extract rfl rfl) ?_
  refine SO.alloc rfl Try.zeroValue45 rfl (fun b5 => ?_)
  refine SO.storeN Try.sizeOf45 rfl rfl rfl rfl rfl rfl ?_
  refine SO.v rfl (opv_assign rfl) ?_
  refine SO.nil ?_
  refine S.to (ρ' := [(0, V.val), (1, .int .i64 a1), (2, .int .i64 a2), (6, errV 50 none), (7, bp b5 0), (8, errV 50 t2)]) ⟨rfl, rfl, rfl, rfl, rfl, rfl, trivial⟩ ?_
  refine S.seq ?_
  refine S.seq ?_
  refine S.region ?_
  refine SO.v rfl (opv_move rfl) ?_
  refine SO.v rfl (opv_neqN (e := t2) Try.underlying32 rfl) ?_
  refine SO.nil ?_
  rcases bool_or t2.isSome with b6 | b6
  · replace h := VM.cond_t V.toVI b6 h
    refine S.condT rfl b6 ?_
    refine S.seq ?_
    refine S.region ?_
    refine SO.v rfl (opv_move rfl) ?_
    refine SO.v rfl (opv_assign rfl) ?_
    refine SO.nil ?_
    refine S.to (ρ' := [(6, errV 50 t2)]) ⟨rfl, trivial⟩ ?_
    obtain ⟨hq, rfl⟩ := VM.ret_some V.toVI h
    cases hq
    refine S.drop ?_
    refine S.b1 ?_
    refine S.b1 ?_
    exact S.ret1 Try.func25 rfl rfl (fun w hs hk => hR w _ _ ⟨rfl, rfl⟩ hs hk)
  · replace h := VM.cond_f V.toVI b6 h
    refine S.condF rfl b6 ?_
    refine S.skip ?_
    refine S.seq ?_
    refine S.region ?_
    refine SO.v rfl (opv_move rfl) ?_
    refine SO.v rfl (opv_move rfl) ?_
    refine SO.v rfl (opv_move rfl) ?_
    refine SO.loadN rfl Try.isAgg45 Try.sizeOf45 rfl rfl rfl ?_
    obtain ⟨t7, s9, ht8, h⟩ := VM.bind_some V.toVI h
    refine SO.b1 ?_
    refine SO.call (pre := [V.rep _]) rfl Try.call47 rfl rfl rfl (derive_turn.ct V _ _ _ _ _ _ _ ht8) trivial ?_
    rintro _ _ ⟨rfl, rfl⟩
    refine SO.v rfl (opv_assign rfl) ?_
    refine SO.nil ?_
    refine S.to (ρ' := [(6, errV 50 t7)]) ⟨rfl, trivial⟩ ?_
    obtain ⟨hq, rfl⟩ := VM.ret_some V.toVI h
    cases hq
    refine S.b1 ?_
    refine S.drop ?_
    refine S.b1 ?_
    refine S.b1 ?_
    exact S.ret1 Try.func25 rfl rfl (fun w hs hk => hR w _ _ ⟨rfl, rfl⟩ hs hk)
end Go.Proofs
namespace Go.Proofs
open Go.Sl Go.RowKit
/-! 48 padstone/rights.Mutate -/
def rights_Mutate.f (a0 : api_Cap) (a1 : Int) (a2 : Int) : Option ((api_Cap × (Option Int))) :=
  (rights_real.f a0).bind fun t3 => bif !t3 then (some ((⟨0, 0, 0, 0, 0, 0⟩ : api_Cap), (some 1))) else (bif a0.Kind != 2 then (some ((⟨0, 0, 0, 0, 0, 0⟩ : api_Cap), (some 5))) else ((pack_May.f ({ a0 with Guard := a1, Bits := a2 } : api_Cap)).bind fun t7 => bif !t7 then (some ((⟨0, 0, 0, 0, 0, 0⟩ : api_Cap), (some 1))) else (some (({ a0 with Guard := a1, Bits := a2 } : api_Cap), none))))
set_option maxHeartbeats 8000000 in
set_option maxRecDepth 100000 in
theorem rights_Mutate.ct (a0 : api_Cap) (a1 : Int) (a2 : Int) (r0 : api_Cap) (r1 : Option Int) (h : rights_Mutate.f a0 a1 a2 = some (r0, r1)) :
    Ct Try.prog 48 [.agg #[.int .i64 a0.Kind, .int .i64 a0.Rights, .int .i64 a0.Obj, .int .i64 a0.Badge, .int .i64 a0.Guard, .int .i64 a0.Bits], .int .i64 a1, .int .i64 a2] (fun _ => True) [] (fun u H' => u = .tuple #[.agg #[.int .i64 r0.Kind, .int .i64 r0.Rights, .int .i64 r0.Obj, .int .i64 r0.Badge, .int .i64 r0.Guard, .int .i64 r0.Bits], errV 50 r1] ∧ H' = []) := by
  unfold rights_Mutate.f at h
  refine Ct.intro (n := 30) Try.func48 rfl rfl rfl ?_
  intro R w0 F hF hR
  refine S.seq ?_
  refine S.region ?_
  refine SO.box rfl rfl rfl (fun b1 => ?_)
  refine SO.alloc rfl Try.zeroValue45 rfl (fun b2 => ?_)
  refine SO.v rfl (opv_assign rfl) ?_
  refine SO.nil ?_
  refine S.seq ?_
  refine S.block ?_
  refine S.seq ?_
  refine S.region ?_
  refine SO.b1 ?_
  refine SO.loadN rfl Try.isAgg45 Try.sizeOf45 rfl rfl rfl ?_
  obtain ⟨t3, ht4, h⟩ := opt_bind h
  refine SO.call (pre := []) rfl Try.call58 rfl rfl rfl (rights_real.ct _ _ ht4) trivial ?_
  rintro _ _ ⟨rfl, rfl⟩
  refine SO.v rfl (opv_not rfl) ?_
  refine SO.v rfl (opv_assign rfl) ?_
  refine SO.nil ?_
  rcases bool_or (!t3) with b5 | b5
  · replace h := cond_t b5 h
    refine S.condT rfl b5 ?_
    refine S.seq ?_
    refine S.region ?_
    refine SO.v rfl (opv_build (v := .agg #[.int .i64 0, .int .i64 0, .int .i64 0, .int .i64 0, .int .i64 0, .int .i64 0]) rfl (by intro w; kernel_rfl)) ?_
    refine SO.v rfl (opv_iface Try.underlying50 rfl rfl) ?_
    refine SO.b1 ?_
    refine SO.storeN Try.sizeOf45 rfl rfl rfl rfl rfl rfl ?_
    refine SO.v rfl (opv_assign rfl) ?_
    refine SO.nil ?_
    refine S.to (ρ' := [(6, bp b2 0), (7, errV 50 (some 1))]) ⟨rfl, rfl, trivial⟩ ?_
    cases h
    refine S.b1 ?_
    refine S.drop ?_
    refine S.b1 ?_
    refine S.b1 ?_
    exact S.retC1 Try.func48 rfl rfl rfl Try.isAgg45 Try.sizeOf45 rfl rfl (fun w hs hk => hR w _ _ ⟨rfl, rfl⟩ hs.drop hk)
  · replace h := cond_f b5 h
    refine S.condF rfl b5 ?_
    refine S.seq ?_
    refine S.region ?_
    refine SO.v rfl (opv_fieldAddr Try.underlying45 rfl Try.sizeOf3 rfl rfl) ?_
    refine SO.load1 rfl Try.isAgg3 rfl rfl ?_
    refine SO.v rfl (opv_neq rfl rfl) ?_
    refine SO.v rfl (opv_assign rfl) ?_
    refine SO.nil ?_
    refine S.to (ρ' := [(1, .int .i64 a1), (2, .int .i64 a2), (3, bp b1 0), (6, bp b2 0), (7, errV 50 none), (14, .bool (a0.Kind != 2))]) ⟨rfl, rfl, rfl, rfl, rfl, rfl, trivial⟩ ?_
    rcases bool_or (a0.Kind != 2) with b6 | b6
    · replace h := cond_t b6 h
      refine S.condT rfl b6 ?_
      refine S.seq ?_
      refine S.region ?_
      refine SO.v rfl (opv_build (v := .agg #[.int .i64 0, .int .i64 0, .int .i64 0, .int .i64 0, .int .i64 0, .int .i64 0]) rfl (by intro w; kernel_rfl)) ?_
      refine SO.v rfl (opv_iface Try.underlying50 rfl rfl) ?_
      refine SO.b1 ?_
      refine SO.storeN Try.sizeOf45 rfl rfl rfl rfl rfl rfl ?_
      refine SO.v rfl (opv_assign rfl) ?_
      refine SO.nil ?_
      cases h
      refine S.b1 ?_
      refine S.drop ?_
      refine S.b1 ?_
      refine S.b1 ?_
      exact S.retC1 Try.func48 rfl rfl rfl Try.isAgg45 Try.sizeOf45 rfl rfl (fun w hs hk => hR w _ _ ⟨rfl, rfl⟩ hs.drop hk)
    · replace h := cond_f b6 h
      refine S.condF rfl b6 ?_
      refine S.skip ?_
      refine S.inBlock ?_
      refine S.seq ?_
      refine S.region ?_
      refine SO.v rfl (opv_move rfl) ?_
      refine SO.v rfl (opv_move rfl) ?_
      refine SO.v rfl (opv_fieldAddr Try.underlying45 rfl Try.sizeOf3 rfl rfl) ?_
      refine SO.store1 Try.sizeOf3 rfl rfl rfl rfl ?_
      refine SO.v rfl (opv_fieldAddr Try.underlying45 rfl Try.sizeOf3 rfl rfl) ?_
      refine SO.store1 Try.sizeOf3 rfl rfl rfl rfl ?_
      refine SO.nil ?_
      refine S.to (ρ' := [(3, bp b1 0), (6, bp b2 0), (7, errV 50 none)]) ⟨rfl, rfl, rfl, trivial⟩ ?_
      refine S.seq ?_
      refine S.seq ?_
      refine S.region ?_
      refine SO.loadN rfl Try.isAgg45 Try.sizeOf45 rfl rfl rfl ?_
      obtain ⟨t7, ht8, h⟩ := opt_bind h
      have ct10 := pack_May.ct _ _ ht8
      dsimp only at ct10
      refine SO.call (pre := []) rfl Try.call55 rfl rfl rfl ct10 trivial ?_
      rintro _ _ ⟨rfl, rfl⟩
      refine SO.v rfl (opv_not rfl) ?_
      refine SO.nil ?_
      rcases bool_or (!t7) with b9 | b9
      · replace h := cond_t b9 h
        refine S.condT rfl b9 ?_
        refine S.seq ?_
        refine S.region ?_
        refine SO.v rfl (opv_build (v := .agg #[.int .i64 0, .int .i64 0, .int .i64 0, .int .i64 0, .int .i64 0, .int .i64 0]) rfl (by intro w; kernel_rfl)) ?_
        refine SO.v rfl (opv_iface Try.underlying50 rfl rfl) ?_
        refine SO.b1 ?_
        refine SO.storeN Try.sizeOf45 rfl rfl rfl rfl rfl rfl ?_
        refine SO.v rfl (opv_assign rfl) ?_
        refine SO.nil ?_
        cases h
        refine S.b1 ?_
        refine S.drop ?_
        refine S.b1 ?_
        refine S.b1 ?_
        exact S.retC1 Try.func48 rfl rfl rfl Try.isAgg45 Try.sizeOf45 rfl rfl (fun w hs hk => hR w _ _ ⟨rfl, rfl⟩ hs.drop hk)
      · replace h := cond_f b9 h
        refine S.condF rfl b9 ?_
        refine S.skip ?_
        refine S.seq ?_
        refine S.region ?_
        refine SO.loadN rfl Try.isAgg45 Try.sizeOf45 rfl rfl rfl ?_
        refine SO.b1 ?_
        refine SO.storeN Try.sizeOf45 rfl rfl rfl rfl rfl rfl ?_
        refine SO.v rfl (opv_assign rfl) ?_
        refine SO.nil ?_
        cases h
        refine S.b1 ?_
        refine S.drop ?_
        refine S.b1 ?_
        refine S.b1 ?_
        exact S.retC1 Try.func48 rfl rfl rfl Try.isAgg45 Try.sizeOf45 rfl rfl (fun w hs hk => hR w _ _ ⟨rfl, rfl⟩ hs.drop hk)
end Go.Proofs
namespace Go.Proofs
open Go.Sl Go.RowKit
/-! 26 padstone/derive.Mutate -/
def derive_Mutate.f (k : Nat) (a1 : Int) (a2 : Int) (a3 : Int) (a4 : Int) : VM ((Option Int)) :=
  (derive_ends.f k a1 a2).bind fun (t1, t2) => bif t2.isSome then (VM.ret t2) else ((VM.opt (rights_Mutate.f t1 a3 a4)).bind fun (t7, t8) => bif t8.isSome then (VM.ret t8) else ((derive_turn.f k a1 a2 t7).bind fun t11 => VM.ret t11))
set_option maxHeartbeats 8000000 in
set_option maxRecDepth 100000 in
theorem derive_Mutate.ct (V : VW Try.prog) (k : Nat) (a1 : Int) (a2 : Int) (a3 : Int) (a4 : Int) (r0 : Option Int) (s s' : V.S) (h : VM.run V.toVI (derive_Mutate.f k a1 a2 a3 a4) s = some (r0, s')) :
    Ct Try.prog 26 [V.val, .int .i64 a1, .int .i64 a2, .int .i64 a3, .int .i64 a4] (fun _ => True) [V.rep s] (fun u H' => u = errV 50 r0 ∧ H' = [V.rep s']) := by
  unfold derive_Mutate.f at h
  refine Ct.intro (n := 38) Try.func26 rfl rfl rfl ?_
  intro R w0 F hF hR
  refine S.seq ?_
  refine S.region ?_
  refine SO.v rfl (opv_assign rfl) ?_
  refine SO.nil ?_
  refine S.seq ?_
  refine S.region ?_
  refine SO.v rfl (opv_move rfl) ?_
  refine SO.v rfl (opv_move rfl) ?_
  refine SO.v rfl (opv_move rfl) ?_
  obtain ⟨⟨t1, t2⟩, s4, ht3, h⟩ := VM.bind_some V.toVI h
  refine SO.call (pre := [V.rep _]) rfl Try.call41 rfl rfl rfl (derive_ends.ct V _ _ _ _ _ _ _ ht3) trivial ?_
  rintro _ _ ⟨rfl, rfl⟩
  refine SO.v rfl (opv_move rfl) ?_
  refine SO.v rfl (opv_extract rfl rfl) ?_
  refine SO.v rfl (opv_extract rfl rfl) ?_
  refine SO.alloc rfl Try.zeroValue45 rfl (fun b5 => ?_)
  refine SO.storeN Try.sizeOf45 rfl rfl rfl rfl rfl rfl ?_
  refine SO.v rfl (opv_assign rfl) ?_
  refine SO.nil ?_
  refine S.to (ρ' := [(0, V.val), (1, .int .i64 a1), (2, .int .i64 a2), (3, .int .i64 a3), (4, .int .i64 a4), (10, errV 50 none), (11, bp b5 0), (12, errV 50 t2)]) ⟨rfl, rfl, rfl, rfl, rfl, rfl, rfl, rfl, trivial⟩ ?_
  refine S.seq ?_
  refine S.seq ?_
  refine S.region ?_
  refine SO.v rfl (opv_move rfl) ?_
  refine SO.v rfl (opv_neqN (e := t2) Try.underlying32 rfl) ?_
  refine SO.nil ?_
  rcases bool_or t2.isSome with b6 | b6
  · replace h := VM.cond_t V.toVI b6 h
    refine S.condT rfl b6 ?_
    refine S.seq ?_
    refine S.region ?_
    refine SO.v rfl (opv_move rfl) ?_
    refine SO.v rfl (opv_assign rfl) ?_
    refine SO.nil ?_
    refine S.to (ρ' := [(10, errV 50 t2)]) ⟨rfl, trivial⟩ ?_
    obtain ⟨hq, rfl⟩ := VM.ret_some V.toVI h
    cases hq
    refine S.drop ?_
    refine S.b1 ?_
    refine S.b1 ?_
    exact S.ret1 Try.func26 rfl rfl (fun w hs hk => hR w _ _ ⟨rfl, rfl⟩ hs hk)
  · replace h := VM.cond_f V.toVI b6 h
    refine S.condF rfl b6 ?_
    refine S.skip ?_
    refine S.seq ?_
    refine S.seq ?_
    refine S.region ?_
    refine SO.loadN rfl Try.isAgg45 Try.sizeOf45 rfl rfl rfl ?_
    refine SO.v rfl (opv_move rfl) ?_
    refine SO.v rfl (opv_move rfl) ?_
    obtain ⟨⟨t7, t8⟩, ht9, h⟩ := VM.opt_some V.toVI h
    refine SO.call (pre := []) rfl Try.call48 rfl rfl rfl (rights_Mutate.ct _ _ _ _ _ ht9) trivial ?_
    rintro _ _ ⟨rfl, rfl⟩
    refine SO.v rfl (opv_move rfl) ?_
    refine SO.v rfl (opv_extract rfl rfl) ?_
    refine SO.v rfl (opv_extract rfl rfl) ?_
    refine SO.storeN Try.sizeOf45 rfl rfl rfl rfl rfl rfl ?_
    refine SO.v rfl (opv_assign rfl) ?_
    refine SO.nil ?_
    refine S.to (ρ' := [(0, V.val), (1, .int .i64 a1), (2, .int .i64 a2), (10, errV 50 none), (11, bp b5 0), (12, errV 50 t8)]) ⟨rfl, rfl, rfl, rfl, rfl, rfl, trivial⟩ ?_
    refine S.seq ?_
    refine S.region ?_
    refine SO.v rfl (opv_move rfl) ?_
    refine SO.v rfl (opv_neqN (e := t8) Try.underlying32 rfl) ?_
    refine SO.nil ?_
    rcases bool_or t8.isSome with b10 | b10
    · replace h := VM.cond_t V.toVI b10 h
      refine S.condT rfl b10 ?_
      refine S.seq ?_
      refine S.region ?_
      refine SO.v rfl (opv_move rfl) ?_
      refine SO.v rfl (opv_assign rfl) ?_
      refine SO.nil ?_
      refine S.to (ρ' := [(10, errV 50 t8)]) ⟨rfl, trivial⟩ ?_
      obtain ⟨hq, rfl⟩ := VM.ret_some V.toVI h
      cases hq
      refine S.drop ?_
      refine S.b1 ?_
      refine S.b1 ?_
      exact S.ret1 Try.func26 rfl rfl (fun w hs hk => hR w _ _ ⟨rfl, rfl⟩ hs hk)
    · replace h := VM.cond_f V.toVI b10 h
      refine S.condF rfl b10 ?_
      refine S.skip ?_
      refine S.seq ?_
      refine S.region ?_
      refine SO.v rfl (opv_move rfl) ?_
      refine SO.v rfl (opv_move rfl) ?_
      refine SO.v rfl (opv_move rfl) ?_
      refine SO.loadN rfl Try.isAgg45 Try.sizeOf45 rfl rfl rfl ?_
      obtain ⟨t11, s13, ht12, h⟩ := VM.bind_some V.toVI h
      refine SO.b1 ?_
      refine SO.call (pre := [V.rep _]) rfl Try.call47 rfl rfl rfl (derive_turn.ct V _ _ _ _ _ _ _ ht12) trivial ?_
      rintro _ _ ⟨rfl, rfl⟩
      refine SO.v rfl (opv_assign rfl) ?_
      refine SO.nil ?_
      refine S.to (ρ' := [(10, errV 50 t11)]) ⟨rfl, trivial⟩ ?_
      obtain ⟨hq, rfl⟩ := VM.ret_some V.toVI h
      cases hq
      refine S.b1 ?_
      refine S.drop ?_
      refine S.b1 ?_
      refine S.b1 ?_
      exact S.ret1 Try.func26 rfl rfl (fun w hs hk => hR w _ _ ⟨rfl, rfl⟩ hs hk)
end Go.Proofs
namespace Go.Proofs
open Go.Sl Go.RowKit
/-! 9 padstone/padstonelaw10.Pick -/
def law10_Pick.f (a0 : Int) (a1 : Int) : Option (Int) :=
  bif decide (a0 < 0) then ((chk (decide (a1 ≠ 0))).bind fun _ => some ((w64 (0 - (w64 (a0 + 1)))).tmod a1)) else ((chk (decide (a1 ≠ 0))).bind fun _ => some (a0.tmod a1))
set_option maxHeartbeats 8000000 in
set_option maxRecDepth 100000 in
theorem law10_Pick.ct (a0 : Int) (a1 : Int) (r0 : Int) (h : law10_Pick.f a0 a1 = some r0) :
    Ct Try.prog 9 [.int .i64 a0, .int .i64 a1] (fun _ => True) [] (fun u H' => u = .int .i64 r0 ∧ H' = []) := by
  unfold law10_Pick.f at h
  refine Ct.intro (n := 13) Try.func9 rfl rfl rfl ?_
  intro R w0 F hF hR
  refine S.seq ?_
  refine S.region ?_
  refine SO.v rfl (opv_assign rfl) ?_
  refine SO.nil ?_
  refine S.seq ?_
  refine S.seq ?_
  refine S.region ?_
  refine SO.v rfl (opv_move rfl) ?_
  refine SO.v rfl (opv_lss rfl rfl) ?_
  refine SO.nil ?_
  rcases bool_or (decide (a0 < 0)) with b1 | b1
  · replace h := cond_t b1 h
    refine S.condT rfl b1 ?_
    refine S.region ?_
    refine SO.v rfl (opv_move rfl) ?_
    refine SO.v rfl (opv_add rfl rfl) ?_
    refine SO.v rfl (opv_neg rfl) ?_
    refine SO.v rfl (opv_assign rfl) ?_
    refine SO.nil ?_
    refine S.seq ?_
    refine S.region ?_
    refine SO.v rfl (opv_move rfl) ?_
    refine SO.v rfl (opv_move rfl) ?_
    obtain ⟨_, hc2, h⟩ := opt_bind h
    refine SO.v rfl (opv_rem rfl rfl (of_decide_eq_true (chk_some hc2))) ?_
    refine SO.v rfl (opv_assign rfl) ?_
    refine SO.nil ?_
    refine S.to (ρ' := [(4, .int .i64 ((w64 (0 - (w64 (a0 + 1)))).tmod a1))]) ⟨rfl, trivial⟩ ?_
    cases h
    exact S.ret1 Try.func9 rfl rfl (fun w hs hk => hR w _ _ ⟨rfl, rfl⟩ hs hk)
  · replace h := cond_f b1 h
    refine S.condF rfl b1 ?_
    refine S.skip ?_
    refine S.seq ?_
    refine S.region ?_
    refine SO.v rfl (opv_move rfl) ?_
    refine SO.v rfl (opv_move rfl) ?_
    obtain ⟨_, hc3, h⟩ := opt_bind h
    refine SO.v rfl (opv_rem rfl rfl (of_decide_eq_true (chk_some hc3))) ?_
    refine SO.v rfl (opv_assign rfl) ?_
    refine SO.nil ?_
    refine S.to (ρ' := [(4, .int .i64 (a0.tmod a1))]) ⟨rfl, trivial⟩ ?_
    cases h
    exact S.ret1 Try.func9 rfl rfl (fun w hs hk => hR w _ _ ⟨rfl, rfl⟩ hs hk)
end Go.Proofs
namespace Go.Proofs
open Go.Sl Go.RowKit
/-! 8 padstone/padstonelaw12.do -/
def law12_do.f (k : Nat) (a1 : law12_Deed) : VM (((Option Int) × Bool)) :=
  (VM.opt (law10_Pick.f a1.What 8)).bind fun t2 => ((((bif t2 == 0 then (VM.ret (t2 == 0)) else (VM.ret (t2 == 1))).bind fun j11_2 => bif j11_2 then ((derive_Copy.f k a1.A a1.B a1.M).bind fun t6 => VM.ret (Brk.ret (t6, false))) else ((bif t2 == 2 then (VM.ret (t2 == 2)) else (VM.ret (t2 == 3))).bind fun j22_3 => bif j22_3 then ((derive_Mint.f k a1.A a1.B a1.M a1.N).bind fun t11 => VM.ret (Brk.ret (t11, false))) else (bif t2 == 4 then ((derive_Move.f k a1.A a1.B).bind fun t15 => VM.ret (Brk.ret (t15, false))) else (bif t2 == 5 then ((derive_Mutate.f k a1.A a1.B a1.M a1.N).bind fun t19 => VM.ret (Brk.ret (t19, false))) else (bif t2 == 6 then ((derive_Delete.f k a1.A).bind fun t23 => VM.ret (Brk.ret (t23, false))) else (VM.ret (Brk.nx ()))))))) : VM (Brk ((Option Int) × Bool) Unit))).bind fun o1 => Brk.go o1 (fun r => VM.ret r) (fun _ => (derive_One.f k a1.A).bind fun (t26, t27) => VM.ret (t27, t26))
set_option maxHeartbeats 8000000 in
set_option maxRecDepth 100000 in
theorem law12_do.ct (V : VW Try.prog) (k : Nat) (a1 : law12_Deed) (r0 : Option Int) (r1 : Bool) (s s' : V.S) (h : VM.run V.toVI (law12_do.f k a1) s = some ((r0, r1), s')) :
    Ct Try.prog 8 [V.val, .agg #[.int .i64 a1.What, .int .i64 a1.A, .int .i64 a1.B, .int .i64 a1.M, .int .i64 a1.N]] (fun _ => True) [V.rep s] (fun u H' => u = .tuple #[errV 50 r0, .bool r1] ∧ H' = [V.rep s']) := by
  unfold law12_do.f at h
  refine Ct.intro (n := 70) Try.func8 rfl rfl rfl ?_
  intro R w0 F hF hR
  refine S.seq ?_
  refine S.region ?_
  refine SO.box rfl rfl rfl (fun b1 => ?_)
  refine SO.v rfl (opv_assign rfl) ?_
  refine SO.v rfl (opv_assign rfl) ?_
  refine SO.nil ?_
  refine S.seq ?_
  refine S.seq ?_
  refine S.region ?_
  refine SO.v rfl (opv_fieldAddr Try.underlying30 rfl Try.sizeOf3 rfl rfl) ?_
  refine SO.load1 rfl Try.isAgg3 rfl rfl ?_
  obtain ⟨t2, ht3, h⟩ := VM.opt_some V.toVI h
  refine SO.call (pre := []) rfl Try.call9 rfl rfl rfl (law10_Pick.ct _ _ _ ht3) trivial ?_
  rintro _ _ ⟨rfl, rfl⟩
  refine SO.nil ?_
  obtain ⟨o1, s_1, hC1, hJ1⟩ := VM.bind_some V.toVI h
  clear h
  refine S.cutP (G := Unit × Unit) (fun x => o1 = Brk.nx x.1) (fun x => match x with | (_, _) => [(0, V.val), (3, bp b1 0), (4, errV 50 none), (5, .bool false)]) (fun x => match x with | (_, _) => [Box b1 [.int .i64 a1.What, .int .i64 a1.A, .int .i64 a1.B, .int .i64 a1.M, .int .i64 a1.N], V.rep s_1, F]) (fun hk1 => ?_) ?_
  · replace h := hC1
    refine S.block ?_
    refine S.seq ?_
    refine S.seq ?_
    refine S.region ?_
    refine SO.v rfl (opv_eql rfl rfl) ?_
    refine SO.v rfl (opv_assign rfl) ?_
    refine SO.nil ?_
    obtain ⟨j11_2, s_2, hC2, hJ2⟩ := VM.bind_some V.toVI h
    clear h
    refine S.cutP (G := Unit) (fun _ => True) (fun _ => [(0, V.val), (3, bp b1 0), (4, errV 50 none), (5, .bool false), (10, .int .i64 t2), (11, .bool j11_2)]) (fun _ => [Box b1 [.int .i64 a1.What, .int .i64 a1.A, .int .i64 a1.B, .int .i64 a1.M, .int .i64 a1.N], V.rep s_2, F]) (fun hk2 => ?_) ?_
    · replace h := hC2
      rcases bool_or (t2 == 0) with b4 | b4
      · replace h := VM.cond_t V.toVI b4 h
        refine S.condT rfl b4 ?_
        refine S.skip ?_
        obtain ⟨hq, rfl⟩ := VM.ret_some V.toVI h
        cases hq
        refine S.b2 ?_
        refine S.b2 ?_
        refine S.b2 ?_
        refine S.to ?_ (hk2 () trivial)
        exact ⟨rfl, rfl, rfl, rfl, rfl, rfl, trivial⟩
      · replace h := VM.cond_f V.toVI b4 h
        refine S.condF rfl b4 ?_
        refine S.region ?_
        refine SO.v rfl (opv_eql rfl rfl) ?_
        refine SO.v rfl (opv_assign rfl) ?_
        refine SO.nil ?_
        obtain ⟨hq, rfl⟩ := VM.ret_some V.toVI h
        cases hq
        refine S.b2 ?_
        refine S.b2 ?_
        refine S.b2 ?_
        refine S.to ?_ (hk2 () trivial)
        exact ⟨rfl, rfl, rfl, rfl, rfl, rfl, trivial⟩
    rintro _ -
    replace h := hJ2
    rcases bool_or j11_2 with b5 | b5
    · replace h := VM.cond_t V.toVI b5 h
      refine S.condT rfl b5 ?_
      refine S.seq ?_
      refine S.region ?_
      refine SO.v rfl (opv_move rfl) ?_
      refine SO.v rfl (opv_fieldAddr Try.underlying30 rfl Try.sizeOf3 rfl rfl) ?_
      refine SO.load1 rfl Try.isAgg3 rfl rfl ?_
      refine SO.v rfl (opv_fieldAddr Try.underlying30 rfl Try.sizeOf3 rfl rfl) ?_
      refine SO.load1 rfl Try.isAgg3 rfl rfl ?_
      refine SO.v rfl (opv_fieldAddr Try.underlying30 rfl Try.sizeOf3 rfl rfl) ?_
      refine SO.load1 rfl Try.isAgg3 rfl rfl ?_
      obtain ⟨t6, s8, ht7, h⟩ := VM.bind_some V.toVI h
      refine SO.b1 ?_
      refine SO.call (pre := [V.rep _]) rfl Try.call19 rfl rfl rfl (derive_Copy.ct V _ _ _ _ _ _ _ ht7) trivial ?_
      rintro _ _ ⟨rfl, rfl⟩
      refine SO.v rfl (opv_assign rfl) ?_
      refine SO.v rfl (opv_assign rfl) ?_
      refine SO.nil ?_
      refine S.to (ρ' := [(4, errV 50 t6), (5, .bool false)]) ⟨rfl, rfl, trivial⟩ ?_
      obtain ⟨hq, rfl⟩ := VM.ret_some V.toVI h
      cases hq
      replace h := VM.of_ret hJ1
      obtain ⟨hq, rfl⟩ := VM.ret_some V.toVI h
      cases hq
      refine S.b1 ?_
      refine S.drop ?_
      refine S.b1 ?_
      refine S.b1 ?_
      exact S.ret2 Try.func8 rfl rfl rfl (fun w hs hk => hR w _ _ ⟨rfl, rfl⟩ hs hk)
    · replace h := VM.cond_f V.toVI b5 h
      refine S.condF rfl b5 ?_
      refine S.seq ?_
      refine S.seq ?_
      refine S.region ?_
      refine SO.v rfl (opv_eql rfl rfl) ?_
      refine SO.v rfl (opv_assign rfl) ?_
      refine SO.nil ?_
      obtain ⟨j22_3, s_3, hC3, hJ3⟩ := VM.bind_some V.toVI h
      clear h
      refine S.cutP (G := Unit) (fun _ => True) (fun _ => [(0, V.val), (3, bp b1 0), (4, errV 50 none), (5, .bool false), (10, .int .i64 t2), (22, .bool j22_3)]) (fun _ => [Box b1 [.int .i64 a1.What, .int .i64 a1.A, .int .i64 a1.B, .int .i64 a1.M, .int .i64 a1.N], V.rep s_3, F]) (fun hk3 => ?_) ?_
      · replace h := hC3
        rcases bool_or (t2 == 2) with b9 | b9
        · replace h := VM.cond_t V.toVI b9 h
          refine S.condT rfl b9 ?_
          refine S.skip ?_
          obtain ⟨hq, rfl⟩ := VM.ret_some V.toVI h
          cases hq
          refine S.b2 ?_
          refine S.b2 ?_
          refine S.b2 ?_
          refine S.to ?_ (hk3 () trivial)
          exact ⟨rfl, rfl, rfl, rfl, rfl, rfl, trivial⟩
        · replace h := VM.cond_f V.toVI b9 h
          refine S.condF rfl b9 ?_
          refine S.region ?_
          refine SO.v rfl (opv_eql rfl rfl) ?_
          refine SO.v rfl (opv_assign rfl) ?_
          refine SO.nil ?_
          obtain ⟨hq, rfl⟩ := VM.ret_some V.toVI h
          cases hq
          refine S.b2 ?_
          refine S.b2 ?_
          refine S.b2 ?_
          refine S.to ?_ (hk3 () trivial)
          exact ⟨rfl, rfl, rfl, rfl, rfl, rfl, trivial⟩
      rintro _ -
      replace h := hJ3
      rcases bool_or j22_3 with b10 | b10
      · replace h := VM.cond_t V.toVI b10 h
        refine S.condT rfl b10 ?_
        refine S.seq ?_
        refine S.region ?_
        refine SO.v rfl (opv_move rfl) ?_
        refine SO.v rfl (opv_fieldAddr Try.underlying30 rfl Try.sizeOf3 rfl rfl) ?_
        refine SO.load1 rfl Try.isAgg3 rfl rfl ?_
        refine SO.v rfl (opv_fieldAddr Try.underlying30 rfl Try.sizeOf3 rfl rfl) ?_
        refine SO.load1 rfl Try.isAgg3 rfl rfl ?_
        refine SO.v rfl (opv_fieldAddr Try.underlying30 rfl Try.sizeOf3 rfl rfl) ?_
        refine SO.load1 rfl Try.isAgg3 rfl rfl ?_
        refine SO.v rfl (opv_fieldAddr Try.underlying30 rfl Try.sizeOf3 rfl rfl) ?_
        refine SO.load1 rfl Try.isAgg3 rfl rfl ?_
        obtain ⟨t11, s13, ht12, h⟩ := VM.bind_some V.toVI h
        refine SO.b1 ?_
        refine SO.call (pre := [V.rep _]) rfl Try.call24 rfl rfl rfl (derive_Mint.ct V _ _ _ _ _ _ _ _ ht12) trivial ?_
        rintro _ _ ⟨rfl, rfl⟩
        refine SO.v rfl (opv_assign rfl) ?_
        refine SO.v rfl (opv_assign rfl) ?_
        refine SO.nil ?_
        refine S.to (ρ' := [(4, errV 50 t11), (5, .bool false)]) ⟨rfl, rfl, trivial⟩ ?_
        obtain ⟨hq, rfl⟩ := VM.ret_some V.toVI h
        cases hq
        replace h := VM.of_ret hJ1
        obtain ⟨hq, rfl⟩ := VM.ret_some V.toVI h
        cases hq
        refine S.b1 ?_
        refine S.drop ?_
        refine S.b1 ?_
        refine S.b1 ?_
        exact S.ret2 Try.func8 rfl rfl rfl (fun w hs hk => hR w _ _ ⟨rfl, rfl⟩ hs hk)
      · replace h := VM.cond_f V.toVI b10 h
        refine S.condF rfl b10 ?_
        refine S.seq ?_
        refine S.region ?_
        refine SO.v rfl (opv_eql rfl rfl) ?_
        refine SO.v rfl (opv_assign rfl) ?_
        refine SO.nil ?_
        rcases bool_or (t2 == 4) with b14 | b14
        · replace h := VM.cond_t V.toVI b14 h
          refine S.condT rfl b14 ?_
          refine S.seq ?_
          refine S.region ?_
          refine SO.v rfl (opv_move rfl) ?_
          refine SO.v rfl (opv_fieldAddr Try.underlying30 rfl Try.sizeOf3 rfl rfl) ?_
          refine SO.load1 rfl Try.isAgg3 rfl rfl ?_
          refine SO.v rfl (opv_fieldAddr Try.underlying30 rfl Try.sizeOf3 rfl rfl) ?_
          refine SO.load1 rfl Try.isAgg3 rfl rfl ?_
          obtain ⟨t15, s17, ht16, h⟩ := VM.bind_some V.toVI h
          refine SO.b1 ?_
          refine SO.call (pre := [V.rep _]) rfl Try.call25 rfl rfl rfl (derive_Move.ct V _ _ _ _ _ _ ht16) trivial ?_
          rintro _ _ ⟨rfl, rfl⟩
          refine SO.v rfl (opv_assign rfl) ?_
          refine SO.v rfl (opv_assign rfl) ?_
          refine SO.nil ?_
          refine S.to (ρ' := [(4, errV 50 t15), (5, .bool false)]) ⟨rfl, rfl, trivial⟩ ?_
          obtain ⟨hq, rfl⟩ := VM.ret_some V.toVI h
          cases hq
          replace h := VM.of_ret hJ1
          obtain ⟨hq, rfl⟩ := VM.ret_some V.toVI h
          cases hq
          refine S.b1 ?_
          refine S.drop ?_
          refine S.b1 ?_
          refine S.b1 ?_
          exact S.ret2 Try.func8 rfl rfl rfl (fun w hs hk => hR w _ _ ⟨rfl, rfl⟩ hs hk)
        · replace h := VM.cond_f V.toVI b14 h
          refine S.condF rfl b14 ?_
          refine S.seq ?_
          refine S.region ?_
          refine SO.v rfl (opv_eql rfl rfl) ?_
          refine SO.v rfl (opv_assign rfl) ?_
          refine SO.nil ?_
          rcases bool_or (t2 == 5) with b18 | b18
          · replace h := VM.cond_t V.toVI b18 h
            refine S.condT rfl b18 ?_
            refine S.seq ?_
            refine S.region ?_
            refine SO.v rfl (opv_move rfl) ?_
            refine SO.v rfl (opv_fieldAddr Try.underlying30 rfl Try.sizeOf3 rfl rfl) ?_
            refine SO.load1 rfl Try.isAgg3 rfl rfl ?_
            refine SO.v rfl (opv_fieldAddr Try.underlying30 rfl Try.sizeOf3 rfl rfl) ?_
            refine SO.load1 rfl Try.isAgg3 rfl rfl ?_
            refine SO.v rfl (opv_fieldAddr Try.underlying30 rfl Try.sizeOf3 rfl rfl) ?_
            refine SO.load1 rfl Try.isAgg3 rfl rfl ?_
            refine SO.v rfl (opv_fieldAddr Try.underlying30 rfl Try.sizeOf3 rfl rfl) ?_
            refine SO.load1 rfl Try.isAgg3 rfl rfl ?_
            obtain ⟨t19, s21, ht20, h⟩ := VM.bind_some V.toVI h
            refine SO.b1 ?_
            refine SO.call (pre := [V.rep _]) rfl Try.call26 rfl rfl rfl (derive_Mutate.ct V _ _ _ _ _ _ _ _ ht20) trivial ?_
            rintro _ _ ⟨rfl, rfl⟩
            refine SO.v rfl (opv_assign rfl) ?_
            refine SO.v rfl (opv_assign rfl) ?_
            refine SO.nil ?_
            refine S.to (ρ' := [(4, errV 50 t19), (5, .bool false)]) ⟨rfl, rfl, trivial⟩ ?_
            obtain ⟨hq, rfl⟩ := VM.ret_some V.toVI h
            cases hq
            replace h := VM.of_ret hJ1
            obtain ⟨hq, rfl⟩ := VM.ret_some V.toVI h
            cases hq
            refine S.b1 ?_
            refine S.drop ?_
            refine S.b1 ?_
            refine S.b1 ?_
            exact S.ret2 Try.func8 rfl rfl rfl (fun w hs hk => hR w _ _ ⟨rfl, rfl⟩ hs hk)
          · replace h := VM.cond_f V.toVI b18 h
            refine S.condF rfl b18 ?_
            refine S.seq ?_
            refine S.region ?_
            refine SO.v rfl (opv_eql rfl rfl) ?_
            refine SO.v rfl (opv_assign rfl) ?_
            refine SO.nil ?_
            refine S.to (ρ' := [(0, V.val), (3, bp b1 0), (4, errV 50 none), (5, .bool false), (55, .bool (t2 == 6))]) ⟨rfl, rfl, rfl, rfl, rfl, trivial⟩ ?_
            rcases bool_or (t2 == 6) with b22 | b22
            · replace h := VM.cond_t V.toVI b22 h
              refine S.condT rfl b22 ?_
              refine S.seq ?_
              refine S.region ?_
              refine SO.v rfl (opv_move rfl) ?_
              refine SO.v rfl (opv_fieldAddr Try.underlying30 rfl Try.sizeOf3 rfl rfl) ?_
              refine SO.load1 rfl Try.isAgg3 rfl rfl ?_
              obtain ⟨t23, s25, ht24, h⟩ := VM.bind_some V.toVI h
              refine SO.b1 ?_
              refine SO.call (pre := [V.rep _]) rfl Try.call20 rfl rfl rfl (derive_Delete.ct V _ _ _ _ _ ht24) trivial ?_
              rintro _ _ ⟨rfl, rfl⟩
              refine SO.v rfl (opv_assign rfl) ?_
              refine SO.v rfl (opv_assign rfl) ?_
              refine SO.nil ?_
              refine S.to (ρ' := [(4, errV 50 t23), (5, .bool false)]) ⟨rfl, rfl, trivial⟩ ?_
              obtain ⟨hq, rfl⟩ := VM.ret_some V.toVI h
              cases hq
              replace h := VM.of_ret hJ1
              obtain ⟨hq, rfl⟩ := VM.ret_some V.toVI h
              cases hq
              refine S.b1 ?_
              refine S.drop ?_
              refine S.b1 ?_
              refine S.b1 ?_
              exact S.ret2 Try.func8 rfl rfl rfl (fun w hs hk => hR w _ _ ⟨rfl, rfl⟩ hs hk)
            · replace h := VM.cond_f V.toVI b22 h
              refine S.condF rfl b22 ?_
              refine S.skip ?_
              refine S.inBlock ?_
              obtain ⟨hq, rfl⟩ := VM.ret_some V.toVI h
              cases hq
              refine S.b2 ?_
              refine S.b2 ?_
              refine S.b2 ?_
              refine S.to ?_ (hk1 ((), ()) rfl)
              exact ⟨rfl, rfl, rfl, rfl, trivial⟩
  rintro ⟨_, _⟩ hq
  subst hq
  replace h := VM.of_nx hJ1
  refine S.seq ?_
  refine S.region ?_
  refine SO.v rfl (opv_move rfl) ?_
  refine SO.v rfl (opv_fieldAddr Try.underlying30 rfl Try.sizeOf3 rfl rfl) ?_
  refine SO.load1 rfl Try.isAgg3 rfl rfl ?_
  obtain ⟨⟨t26, t27⟩, s29, ht28, h⟩ := VM.bind_some V.toVI h
  refine SO.b1 ?_
  refine SO.call (pre := [V.rep _]) rfl Try.call18 rfl rfl rfl (derive_One.ct V _ _ _ _ _ _ ht28) trivial ?_
  rintro _ _ ⟨rfl, rfl⟩
  refine SO.v rfl (opv_move rfl) ?_
  refine SO.v rfl (opv_extract rfl rfl) ?_
  refine SO.v rfl (opv_extract rfl rfl) ?_
  refine SO.v rfl (opv_assign rfl) ?_
  refine SO.v rfl (opv_assign rfl) ?_
  refine SO.nil ?_
  refine S.to (ρ' := [(4, errV 50 none), (5, .bool false), (6, .bool t26), (7, errV 50 t27)]) ⟨rfl, rfl, rfl, rfl, trivial⟩ ?_
  refine S.seq ?_
  refine S.region ?_
  refine SO.v rfl (opv_move rfl) ?_
  refine SO.v rfl (opv_move rfl) ?_
  refine SO.v rfl (opv_assign rfl) ?_
  refine SO.v rfl (opv_assign rfl) ?_
  refine SO.nil ?_
  obtain ⟨hq, rfl⟩ := VM.ret_some V.toVI h
  cases hq
  refine S.b1 ?_
  refine S.drop ?_
  refine S.b1 ?_
  refine S.b1 ?_
  exact S.ret2 Try.func8 rfl rfl rfl (fun w hs hk => hR w _ _ ⟨rfl, rfl⟩ hs hk)
end Go.Proofs
namespace Go.Proofs
open Go.Sl Go.RowKit
/-! 22 padstone/padstoneref10.Fresh -/
def ref10_Fresh.f (a0 : Int) : Option (ref10_Obj) :=
  some (⟨a0, 0, 0, 0, 0, 0, [], 0, 0, -1, 0, 0, -1, -1, (⟨0, 0, 0, 0, 0, 0⟩ : api_Cap), (⟨-1, -1, -1, -1⟩ : A4), (⟨0, 0, 0, 0⟩ : A4), -1, 0, -1, 0⟩ : ref10_Obj)
set_option maxHeartbeats 8000000 in
set_option maxRecDepth 100000 in
theorem ref10_Fresh.ct (a0 : Int) (r0 : ref10_Obj) (h : ref10_Fresh.f a0 = some r0) :
    Ct Try.prog 22 [.int .i64 a0] (fun _ => True) [] (fun u H' => ∃ w_r0_Queue, u = .agg #[.int .i64 r0.Kind, .int .i64 r0.Size, .int .i64 r0.Used, .int .i64 r0.First, .int .i64 r0.Radix, .int .i64 r0.Wait, w_r0_Queue, .int .i64 r0.Word, .int .i64 r0.State, .int .i64 r0.Owing, .int .i64 r0.Badge, .int .i64 r0.Prio, .int .i64 r0.On, .int .i64 r0.Owes, .int .i64 r0.Root.Kind, .int .i64 r0.Root.Rights, .int .i64 r0.Root.Obj, .int .i64 r0.Root.Badge, .int .i64 r0.Root.Guard, .int .i64 r0.Root.Bits, .int .i64 r0.Pages.a0, .int .i64 r0.Pages.a1, .int .i64 r0.Pages.a2, .int .i64 r0.Pages.a3, .int .i64 r0.Right.a0, .int .i64 r0.Right.a1, .int .i64 r0.Right.a2, .int .i64 r0.Right.a3, .int .i64 r0.In, .int .i64 r0.Page, .int .i64 r0.Bound, .int .i64 r0.Mask] ∧ H' = [Own 3 (ekI .i64) w_r0_Queue r0.Queue]) := by
  unfold ref10_Fresh.f at h
  refine Ct.intro (n := 6) Try.func22 rfl rfl rfl ?_
  intro R w0 F hF hR
  refine S.seq ?_
  refine S.region ?_
  refine SO.alloc rfl Try.zeroValue58 rfl (fun b1 => ?_)
  refine SO.nil ?_
  refine S.seq ?_
  refine S.region ?_
  refine SO.v rfl (opv_move rfl) ?_
  refine SO.v rfl (opv_build (v := .agg #[.int .i64 (-1), .int .i64 (-1), .int .i64 (-1), .int .i64 (-1)]) rfl (by intro w; kernel_rfl)) ?_
  refine SO.v rfl (opv_build (v := .agg #[.int .i64 a0, .int .i64 0, .int .i64 0, .int .i64 0, .int .i64 0, .int .i64 0, .slice none 0 0, .int .i64 0, .int .i64 0, .int .i64 (-1), .int .i64 0, .int .i64 0, .int .i64 (-1), .int .i64 (-1), .int .i64 0, .int .i64 0, .int .i64 0, .int .i64 0, .int .i64 0, .int .i64 0, .int .i64 (-1), .int .i64 (-1), .int .i64 (-1), .int .i64 (-1), .int .i64 0, .int .i64 0, .int .i64 0, .int .i64 0, .int .i64 (-1), .int .i64 0, .int .i64 (-1), .int .i64 0]) rfl (by intro w; kernel_rfl)) ?_
  refine SO.storeN Try.sizeOf58 rfl rfl rfl rfl rfl rfl ?_
  refine SO.nil ?_
  cases h
  refine S.newOwn 3 (ekI .i64) ?_
  refine S.b2 ?_
  refine S.b1 ?_
  refine S.b2 ?_
  exact S.retC Try.func22 rfl rfl Try.isAgg58 Try.sizeOf58 rfl rfl (fun w hs hk => hR w _ _ ⟨(.slice none 0 0), rfl, rfl⟩ hs.drop hk)
end Go.Proofs
namespace Go.Proofs
open Go.Sl Go.RowKit
/-! 21 padstone/padstoneref10.New -/
def ref10_New.l1 : Nat → (Int × (List ref10_Slot)) → Option ((List ref10_Slot))
  | 0, _ => none
  | k + 1, (x2_1, y1_0_1) => bif decide (x2_1 < 96) then ((app y1_0_1 ([(⟨(⟨0, 0, 0, 0, 0, 0⟩ : api_Cap), -1, []⟩ : ref10_Slot)])).bind fun zs5 => ref10_New.l1  k (w64 (x2_1 + 1), zs5)) else (some y1_0_1)
def ref10_New.l2 : Nat → (Int × (List ref10_Obj)) → Option ((List ref10_Obj))
  | 0, _ => none
  | k + 1, (x3_2, y1_1_2) => bif decide (x3_2 < 32) then ((ref10_Fresh.f 0).bind fun t18 => (app y1_1_2 ([t18])).bind fun zs25 => ref10_New.l2  k (w64 (x3_2 + 1), zs25)) else (some y1_1_2)
def ref10_New.f (k : Nat) : Option (ref10_State) :=
  (ref10_New.l1 k (0, [])).bind fun y1_0_e1 => (ref10_New.l2 k (0, [])).bind fun y1_1_e2 => some (⟨y1_0_e1, y1_1_e2, 0, 0⟩ : ref10_State)
set_option maxHeartbeats 8000000 in
set_option maxRecDepth 100000 in
theorem ref10_New.ct (k : Nat) (r0 : ref10_State) (h : ref10_New.f k  = some r0) :
    Ct Try.prog 21 [] (fun _ => True) [] (fun u H' => ∃ b_r0 w_r0_Slots w_r0_Objs, u = bp b_r0 0 ∧ H' = [Box b_r0 [w_r0_Slots, w_r0_Objs, .int .i64 r0.NS, .int .i64 r0.NO], OwnR 65 kr_ref10_Slot w_r0_Slots r0.Slots, OwnR 58 kr_ref10_Obj w_r0_Objs r0.Objs]) := by
  unfold ref10_New.f at h
  refine Ct.intro (n := 35) Try.func21 rfl rfl rfl ?_
  intro R w0 F hF hR
  refine S.seq ?_
  refine S.region ?_
  refine SO.v rfl (opv_assign rfl) ?_
  refine SO.nil ?_
  refine S.seq ?_
  refine S.region ?_
  refine SO.v rfl (opv_build (v := .agg #[.slice none 0 0, .slice none 0 0, .int .i64 0, .int .i64 0]) rfl (by intro w; kernel_rfl)) ?_
  refine SO.box rfl rfl rfl (fun b1 => ?_)
  refine SO.v rfl (opv_assign rfl) ?_
  refine SO.nil ?_
  refine S.seq ?_
  refine S.seq ?_
  refine S.region ?_
  refine SO.v rfl (opv_assign rfl) ?_
  refine SO.nil ?_
  obtain ⟨y1_0_e1, hl1, h⟩ := opt_bind h
  refine S.newOwnR 65 kr_ref10_Slot ?_
  refine S.b2 ?_
  refine S.b2 ?_
  refine S.b2 ?_
  refine S.to (ρ' := [(2, .int .i64 0), (1, bp b1 0), (0, .pointer none)]) ⟨rfl, rfl, rfl, trivial⟩ ?_
  refine S.forloop (X := (Int × (List ref10_Slot)) × Value) (O := (List ref10_Slot)) (fun m x => ref10_New.l1  m x.1) (fun x => match x with | ((x2_1, y1_0_1), vy1_0_1) => [(2, .int .i64 x2_1), (1, bp b1 0), (0, .pointer none)]) (fun x => match x with | ((x2_1, y1_0_1), vy1_0_1) => [OwnR 65 kr_ref10_Slot vy1_0_1 y1_0_1, Box b1 [vy1_0_1, .slice none 0 0, .int .i64 0, .int .i64 0], F]) (fun Sk => (fun y1_0_e1 => ∀ vy1_0_e1 : Value, Sk [(0, .pointer none), (1, bp b1 0)] [OwnR 65 kr_ref10_Slot vy1_0_e1 y1_0_e1, Box b1 [vy1_0_e1, .slice none 0 0, .int .i64 0, .int .i64 0], F])) (fun _ => rfl) ?_ (m := k) (x := ((0, []), .slice none 0 0)) hl1 ?_
  · clear h hl1
    intro k x o_1 h hK1 ih1
    obtain ⟨⟨x2_1, y1_0_1⟩, vy1_0_1⟩ := x
    replace h : ref10_New.l1  (k + 1) (x2_1, y1_0_1) = some o_1 := h
    first | rw [ref10_New.l1] at h | unfold ref10_New.l1 at h
    refine S.seq ?_
    refine S.seq ?_
    refine S.region ?_
    refine SO.v rfl (opv_move rfl) ?_
    refine SO.v rfl (opv_lss rfl rfl) ?_
    refine SO.nil ?_
    rcases bool_or (decide (x2_1 < 96)) with b2 | b2
    · replace h := cond_t b2 h
      refine S.condT rfl b2 ?_
      refine S.skip ?_
      refine S.seq ?_
      refine S.block ?_
      refine S.region ?_
      refine SO.v rfl (opv_move rfl) ?_
      refine SO.v rfl (opv_move rfl) ?_
      refine SO.v rfl (opv_nilCheck rfl) ?_
      refine SO.v rfl (opv_fieldAddr Try.underlying63 rfl Try.sizeOf60 rfl rfl) ?_
      refine SO.b1 ?_
      refine SO.load1 rfl Try.isAgg60 rfl rfl ?_
      refine SO.v rfl (opv_build (v := .agg #[.int .i64 0, .int .i64 0, .int .i64 0, .int .i64 0, .int .i64 0, .int .i64 0, .int .i64 (-1), .slice none 0 0]) rfl (by intro w; kernel_rfl)) ?_
      refine SO.emp ?_
      refine SO.buildSliceR1 (K := kr_ref10_Slot) (y := (⟨(⟨0, 0, 0, 0, 0, 0⟩ : api_Cap), -1, []⟩ : ref10_Slot)) (cs := [.int .i64 0, .int .i64 0, .int .i64 0, .int .i64 0, .int .i64 0, .int .i64 0, .int .i64 (-1), .slice none 0 0]) rfl Try.underlying60 Try.sizeOf65 Try.zeroValue65 rfl rfl (by kernel_rfl) ⟨rfl, rfl, rfl, rfl, rfl, rfl, rfl, Rd.nil0, trivial⟩ (fun v3 => ?_)
      obtain ⟨zs5, hz6, h⟩ := opt_bind h
      refine SO.b2 ?_
      refine SO.b1 ?_
      refine SO.b1 ?_
      refine SO.appendR rfl Try.underlying60 inf65 rfl rfl rfl (by decide) rfl rfl rfl hz6 (fun v7 => ?_)
      refine SO.v rfl (opv_nilCheck rfl) ?_
      refine SO.v rfl (opv_fieldAddr Try.underlying63 rfl Try.sizeOf60 rfl rfl) ?_
      refine SO.oneR fun h18 => ?_
      refine SO.b1 ?_
      refine SO.store1 Try.sizeOf60 rfl rfl h18 rfl ?_
      refine SO.nil ?_
      refine S.to (ρ' := [(2, .int .i64 x2_1), (1, bp b1 0), (0, .pointer none)]) ⟨rfl, rfl, rfl, trivial⟩ ?_
      refine S.inBlock ?_
      refine S.region ?_
      refine SO.v rfl (opv_move rfl) ?_
      refine SO.v rfl (opv_add rfl rfl) ?_
      refine SO.v rfl (opv_assign rfl) ?_
      refine SO.nil ?_
      refine S.b2 ?_
      refine S.b1 ?_
      refine S.b2 ?_
      refine S.to ?_ (ih1 ((w64 (x2_1 + 1), zs5), v7) h)
      exact ⟨rfl, rfl, rfl, trivial⟩
    · replace h := cond_f b2 h
      refine S.condF rfl b2 ?_
      refine S.exit rfl ?_
      cases h
      refine S.b2 ?_
      refine S.b2 ?_
      refine S.b2 ?_
      refine S.to ?_ (hK1 vy1_0_1)
      exact ⟨rfl, rfl, trivial⟩
  rintro vy1_0_e1
  refine S.seq ?_
  refine S.seq ?_
  refine S.region ?_
  refine SO.v rfl (opv_assign rfl) ?_
  refine SO.nil ?_
  obtain ⟨y1_1_e2, hl2, h⟩ := opt_bind h
  refine S.newOwnR 58 kr_ref10_Obj ?_
  refine S.b3 ?_
  refine S.b3 ?_
  refine S.b3 ?_
  refine S.b3 ?_
  refine S.to (ρ' := [(3, .int .i64 0), (0, .pointer none), (1, bp b1 0)]) ⟨rfl, rfl, rfl, trivial⟩ ?_
  refine S.forloop (X := (Int × (List ref10_Obj)) × Value) (O := (List ref10_Obj)) (fun m x => ref10_New.l2  m x.1) (fun x => match x with | ((x3_2, y1_1_2), vy1_1_2) => [(3, .int .i64 x3_2), (0, .pointer none), (1, bp b1 0)]) (fun x => match x with | ((x3_2, y1_1_2), vy1_1_2) => [OwnR 58 kr_ref10_Obj vy1_1_2 y1_1_2, OwnR 65 kr_ref10_Slot vy1_0_e1 y1_0_e1, Box b1 [vy1_0_e1, vy1_1_2, .int .i64 0, .int .i64 0], F]) (fun Sk => (fun y1_1_e2 => ∀ vy1_1_e2 : Value, Sk [(0, .pointer none), (1, bp b1 0)] [OwnR 58 kr_ref10_Obj vy1_1_e2 y1_1_e2, OwnR 65 kr_ref10_Slot vy1_0_e1 y1_0_e1, Box b1 [vy1_0_e1, vy1_1_e2, .int .i64 0, .int .i64 0], F])) (fun _ => rfl) ?_ (m := k) (x := ((0, []), .slice none 0 0)) hl2 ?_
  · clear h hl2
    intro k x o_2 h hK2 ih2
    obtain ⟨⟨x3_2, y1_1_2⟩, vy1_1_2⟩ := x
    replace h : ref10_New.l2  (k + 1) (x3_2, y1_1_2) = some o_2 := h
    first | rw [ref10_New.l2] at h | unfold ref10_New.l2 at h
    refine S.seq ?_
    refine S.seq ?_
    refine S.region ?_
    refine SO.v rfl (opv_move rfl) ?_
    refine SO.v rfl (opv_lss rfl rfl) ?_
    refine SO.nil ?_
    rcases bool_or (decide (x3_2 < 32)) with b9 | b9
    · replace h := cond_t b9 h
      refine S.condT rfl b9 ?_
      refine S.skip ?_
      refine S.seq ?_
      refine S.block ?_
      refine S.openR fun raws10 A11 hrel12 hR13 => ?_
      refine S.b1 ?_
      refine S.openR fun raws14 A15 hrel16 hR17 => ?_
      obtain ⟨t18, ht19, h⟩ := opt_bind h
      obtain ⟨zs25, hz26, h⟩ := opt_bind h
      refine S.draw' (Z := fun Q => ∀ (_ : Unit) (_ : Unit) (v27 : Value) (_ : Unit) (_ : Unit), Q [(3, .int .i64 x3_2), (0, .pointer none), (1, bp b1 0), (31, v27)] [OwnR 58 kr_ref10_Obj v27 zs25, Box b1 [vy1_0_e1, v27, .int .i64 0, .int .i64 0], OwnO 65 kr_ref10_Slot vy1_0_e1 raws14 A15 y1_0_e1, F]) (T := [tS 1 (bp b1 0), tE [(3, .int .i64 x3_2), (0, .pointer none)], tR (OwnO 65 kr_ref10_Slot vy1_0_e1 raws14 A15 y1_0_e1), tR (OwnO 58 kr_ref10_Obj vy1_1_2 raws10 A11 y1_1_2), tR (Box b1 [vy1_0_e1, vy1_1_2, .int .i64 0, .int .i64 0]), tR (F), tS 24 (bp b1 0), tS 25 (bp b1 0), tS 26 (bp b1 0), tS 27 (bp b1 1), tS 28 (vy1_1_2), ⟨Value, [29], (fun u20_Queue => [(29, .agg #[.int .i64 t18.Kind, .int .i64 t18.Size, .int .i64 t18.Used, .int .i64 t18.First, .int .i64 t18.Radix, .int .i64 t18.Wait, u20_Queue, .int .i64 t18.Word, .int .i64 t18.State, .int .i64 t18.Owing, .int .i64 t18.Badge, .int .i64 t18.Prio, .int .i64 t18.On, .int .i64 t18.Owes, .int .i64 t18.Root.Kind, .int .i64 t18.Root.Rights, .int .i64 t18.Root.Obj, .int .i64 t18.Root.Badge, .int .i64 t18.Root.Guard, .int .i64 t18.Root.Bits, .int .i64 t18.Pages.a0, .int .i64 t18.Pages.a1, .int .i64 t18.Pages.a2, .int .i64 t18.Pages.a3, .int .i64 t18.Right.a0, .int .i64 t18.Right.a1, .int .i64 t18.Right.a2, .int .i64 t18.Right.a3, .int .i64 t18.In, .int .i64 t18.Page, .int .i64 t18.Bound, .int .i64 t18.Mask])]), (fun u20_Queue => [Own 3 (ekI .i64) u20_Queue t18.Queue]), fun _ => rfl⟩, ⟨Value, [30], (fun v23 => [(30, v23)]), (fun v23 => [OwnR 58 kr_ref10_Obj v23 ([t18])]), fun _ => rfl⟩, ⟨Value, [31], (fun v27 => [(31, v27)]), (fun v27 => [OwnR 58 kr_ref10_Obj v27 zs25]), fun _ => rfl⟩, tS 32 (bp b1 0), tS 33 (bp b1 1), ⟨Value, [31], (fun v27 => [(31, v27)]), (fun v27 => [OwnR 58 kr_ref10_Obj v27 zs25, Box b1 [vy1_0_e1, v27, .int .i64 0, .int .i64 0]]), fun _ => rfl⟩]) (D := [⟨[0], [], [6]⟩, ⟨[0], [], [7]⟩, ⟨[7], [], [8]⟩, ⟨[8], [], [9]⟩, ⟨[9, 4], [], [10]⟩, ⟨[], [], [11]⟩, ⟨[], [11], [12]⟩, ⟨[10], [12, 3], [13]⟩, ⟨[6], [], [14]⟩, ⟨[14], [], [15]⟩, ⟨[15], [4, 13], [16]⟩]) (ini := [0, 1, 2, 3, 4, 5]) (fin := [1, 0, 16, 2, 5]) (bf := [[], [], [1], [1, 2], [1, 2, 3], [], [5], [1, 2, 3, 4, 5, 6], [0, 1, 2, 3, 4, 5, 6, 7], [0, 1, 2, 3, 4, 5, 6, 7, 8], [0, 1, 2, 3, 4, 5, 6, 7, 8, 9]]) (by kernel_rfl) (by kernel_rfl) (fun x w h1 h2 => (.cons () (.cons () (.cons () (.cons () (.cons () (.cons () (.nil ⟨EnvAll.of h1 ⟨rfl, rfl, rfl, trivial⟩, h2⟩)))))))) (fun Q => by kernel_rfl) ⟨?_, ?_, ?_, ?_, ?_, ?_, ?_, ?_, ?_, ?_, ?_, trivial⟩ ?_
      · rintro Fr _
        refine SO.v rfl (opv_move rfl) ?_
        exact SO.nilZ fun a w h1 h2 h3 h4 h5 => PZ.of h1 h3 h5 (.cons () (.cons () (.nil ⟨EnvAll.of h2 ⟨rfl, rfl, trivial⟩, h4⟩)))
      · rintro Fr _
        refine SO.v rfl (opv_move rfl) ?_
        exact SO.nilZ fun a w h1 h2 h3 h4 h5 => PZ.of h1 h3 h5 (.cons () (.cons () (.nil ⟨EnvAll.of h2 ⟨rfl, rfl, trivial⟩, h4⟩)))
      · rintro Fr _
        refine SO.v rfl (opv_nilCheck rfl) ?_
        exact SO.nilZ fun a w h1 h2 h3 h4 h5 => PZ.of h1 h3 h5 (.cons () (.cons () (.nil ⟨EnvAll.of h2 ⟨rfl, rfl, trivial⟩, h4⟩)))
      · rintro Fr _
        refine SO.v rfl (opv_fieldAddr Try.underlying63 rfl Try.sizeOf61 rfl rfl) ?_
        exact SO.nilZ fun a w h1 h2 h3 h4 h5 => PZ.of h1 h3 h5 (.cons () (.cons () (.nil ⟨EnvAll.of h2 ⟨rfl, rfl, trivial⟩, h4⟩)))
      · rintro Fr _ _
        refine SO.load1 rfl Try.isAgg61 rfl rfl ?_
        exact SO.nilZ fun a w h1 h2 h3 h4 h5 => PZ.of h1 h3 h5 (.cons () (.cons () (.cons () (.nil ⟨EnvAll.of h2 ⟨rfl, rfl, trivial⟩, h4⟩))))
      · rintro Fr 
        refine SO.call (pre := []) rfl Try.call22 rfl rfl rfl (ref10_Fresh.ct _ _ ht19) trivial ?_
        rintro _ _ ⟨u20_Queue, rfl, rfl⟩
        refine SO.rd fun hr21 => ?_
        exact SO.nilZ fun a w h1 h2 h3 h4 h5 => PZ.of h1 h3 h5 (.cons u20_Queue (.nil ⟨EnvAll.of h2 ⟨rfl, trivial⟩, h4⟩))
      · rintro Fr u20_Queue
        refine SO.rd fun hr22 => ?_
        refine SO.buildSliceR1 (K := kr_ref10_Obj) (y := t18) (cs := [.int .i64 t18.Kind, .int .i64 t18.Size, .int .i64 t18.Used, .int .i64 t18.First, .int .i64 t18.Radix, .int .i64 t18.Wait, u20_Queue, .int .i64 t18.Word, .int .i64 t18.State, .int .i64 t18.Owing, .int .i64 t18.Badge, .int .i64 t18.Prio, .int .i64 t18.On, .int .i64 t18.Owes, .int .i64 t18.Root.Kind, .int .i64 t18.Root.Rights, .int .i64 t18.Root.Obj, .int .i64 t18.Root.Badge, .int .i64 t18.Root.Guard, .int .i64 t18.Root.Bits, .int .i64 t18.Pages.a0, .int .i64 t18.Pages.a1, .int .i64 t18.Pages.a2, .int .i64 t18.Pages.a3, .int .i64 t18.Right.a0, .int .i64 t18.Right.a1, .int .i64 t18.Right.a2, .int .i64 t18.Right.a3, .int .i64 t18.In, .int .i64 t18.Page, .int .i64 t18.Bound, .int .i64 t18.Mask]) rfl Try.underlying61 Try.sizeOf58 Try.zeroValue58 rfl rfl (by kernel_rfl) ⟨rfl, rfl, rfl, rfl, rfl, rfl, hr22, rfl, rfl, rfl, rfl, rfl, rfl, rfl, rfl, rfl, rfl, rfl, rfl, rfl, rfl, rfl, rfl, rfl, rfl, rfl, rfl, rfl, rfl, rfl, rfl, rfl, trivial⟩ (fun v23 => ?_)
        exact SO.nilZ fun a w h1 h2 h3 h4 h5 => PZ.of h1 h3 h5 (.cons v23 (.nil ⟨EnvAll.of h2 ⟨rfl, trivial⟩, h4⟩))
      · rintro Fr _ v23 _
        refine SO.b1 ?_
        refine SO.closeR ?_
        refine SO.b1 ?_
        refine SO.b1 ?_
        refine SO.appendR rfl Try.underlying61 inf58 rfl rfl rfl (by decide) rfl rfl rfl hz26 (fun v27 => ?_)
        exact SO.nilZ fun a w h1 h2 h3 h4 h5 => PZ.of h1 h3 h5 (.cons () (.cons v27 (.nil ⟨EnvAll.of h2 ⟨rfl, rfl, trivial⟩, h4⟩)))
      · rintro Fr _
        refine SO.v rfl (opv_nilCheck rfl) ?_
        exact SO.nilZ fun a w h1 h2 h3 h4 h5 => PZ.of h1 h3 h5 (.cons () (.cons () (.nil ⟨EnvAll.of h2 ⟨rfl, rfl, trivial⟩, h4⟩)))
      · rintro Fr _
        refine SO.v rfl (opv_fieldAddr Try.underlying63 rfl Try.sizeOf61 rfl rfl) ?_
        exact SO.nilZ fun a w h1 h2 h3 h4 h5 => PZ.of h1 h3 h5 (.cons () (.cons () (.nil ⟨EnvAll.of h2 ⟨rfl, rfl, trivial⟩, h4⟩)))
      · rintro Fr _ _ v27
        refine SO.b1 ?_
        refine SO.oneR fun h128 => ?_
        refine SO.b1 ?_
        refine SO.store1 Try.sizeOf61 rfl rfl h128 rfl ?_
        refine SO.b1 ?_
        exact SO.nilZ fun a w h1 h2 h3 h4 h5 => PZ.of h1 h3 h5 (.cons () (.cons v27 (.nil ⟨EnvAll.of h2 ⟨rfl, rfl, trivial⟩, h4⟩)))
      rintro _ _ v27 _ _
      refine S.to (ρ' := [(3, .int .i64 x3_2), (0, .pointer none), (1, bp b1 0)]) ⟨rfl, rfl, rfl, trivial⟩ ?_
      refine S.inBlock ?_
      refine S.region ?_
      refine SO.v rfl (opv_move rfl) ?_
      refine SO.v rfl (opv_add rfl rfl) ?_
      refine SO.v rfl (opv_assign rfl) ?_
      refine SO.nil ?_
      refine S.b2 ?_
      refine S.closeR ?_
      refine S.b3 ?_
      refine S.b3 ?_
      refine S.b2 ?_
      refine S.b3 ?_
      refine S.to ?_ (ih2 ((w64 (x3_2 + 1), zs25), v27) h)
      exact ⟨rfl, rfl, rfl, trivial⟩
    · replace h := cond_f b9 h
      refine S.condF rfl b9 ?_
      refine S.exit rfl ?_
      cases h
      refine S.b3 ?_
      refine S.b3 ?_
      refine S.b3 ?_
      refine S.b3 ?_
      refine S.to ?_ (hK2 vy1_1_2)
      exact ⟨rfl, rfl, trivial⟩
  rintro vy1_1_e2
  refine S.seq ?_
  refine S.region ?_
  refine SO.v rfl (opv_move rfl) ?_
  refine SO.v rfl (opv_assign rfl) ?_
  refine SO.nil ?_
  cases h
  refine S.b3 ?_
  refine S.b1 ?_
  refine S.b2 ?_
  refine S.b3 ?_
  exact S.ret1 Try.func21 rfl rfl (fun w hs hk => hR w _ _ ⟨b1, vy1_0_e1, vy1_1_e2, rfl, rfl⟩ hs hk)
end Go.Proofs
namespace Go.Proofs
open Go.Sl Go.RowKit
/-! 6 padstone/padstoneref10.Boot -/
def ref10_Boot.l1 (a0 : Int) : Nat → (Int × (List ref10_Obj) × (List ref10_Slot)) → Option (((List ref10_Slot) × (List ref10_Obj)))
  | 0, _ => none
  | k + 1, (x6_1, qu4_Objs_1, qu4_Slots_1) => bif decide (x6_1 < a0) then ((ref10_Fresh.f 5).bind fun t9 => (at_ qu4_Objs_1 x6_1).bind fun x18 => (at_ qu4_Slots_1 (w64 (14 + x6_1))).bind fun x31 => ref10_Boot.l1 a0 k (w64 (x6_1 + 1), qu4_Objs_1.set x6_1.toNat ({ t9 with State := 1, Root := (⟨2, 7, a0, 0, 0, 8⟩ : api_Cap) } : ref10_Obj), qu4_Slots_1.set (w64 (14 + x6_1)).toNat ({ x31 with Cap := (⟨5, 7, x6_1, 0, 0, 0⟩ : api_Cap) } : ref10_Slot))) else (some (qu4_Slots_1, qu4_Objs_1))
def ref10_Boot.l2 (a0 : Int) : Nat → (Int × (List ref10_Obj) × (List ref10_Slot)) → Option (((List ref10_Slot) × (List ref10_Obj)))
  | 0, _ => none
  | k + 1, (x8_2, qu4_Objs_2, qu4_Slots_2) => bif decide (x8_2 < 8) then ((at_ ([2, 2, 1, 3, 4, 8, 7, 6]) x8_2).bind fun x52 => (ref10_Fresh.f x52).bind fun t54 => (at_ qu4_Objs_2 (w64 (a0 + x8_2))).bind fun x58 => bif decide (2 ≤ x8_2) then ((at_ ([2, 2, 1, 3, 4, 8, 7, 6]) x8_2).bind fun x73 => (at_ qu4_Slots_2 (w64 (6 + x8_2))).bind fun x75 => ref10_Boot.l2 a0 k (w64 (x8_2 + 1), qu4_Objs_2.set (w64 (a0 + x8_2)).toNat t54, qu4_Slots_2.set (w64 (6 + x8_2)).toNat ({ x75 with Cap := (⟨x73, 7, w64 (a0 + x8_2), 0, 0, 0⟩ : api_Cap) } : ref10_Slot))) else (ref10_Boot.l2 a0 k (w64 (x8_2 + 1), qu4_Objs_2.set (w64 (a0 + x8_2)).toNat t54, qu4_Slots_2))) else (some (qu4_Slots_2, qu4_Objs_2))
def ref10_Boot.f (k : Nat) (a0 : Int) : Option (ref10_State) :=
  (ref10_New.f k ).bind fun t1 => (ref10_Boot.l1 a0 k (0, t1.Objs, t1.Slots)).bind fun (qu4_Slots_e1, qu4_Objs_e1) => (ref10_Boot.l2 a0 k (0, qu4_Objs_e1, qu4_Slots_e1)).bind fun (qu4_Slots_e2, qu4_Objs_e2) => (at_ qu4_Objs_e2 a0).bind fun x83 => (at_ (qu4_Objs_e2.set a0.toNat ({ x83 with Radix := 3 } : ref10_Obj)) (w64 (a0 + 1))).bind fun x95 => (at_ ((qu4_Objs_e2.set a0.toNat ({ x83 with Radix := 3 } : ref10_Obj)).set (w64 (a0 + 1)).toNat ({ x95 with First := 8 } : ref10_Obj)) (w64 (a0 + 1))).bind fun x103 => (at_ (((qu4_Objs_e2.set a0.toNat ({ x83 with Radix := 3 } : ref10_Obj)).set (w64 (a0 + 1)).toNat ({ x95 with First := 8 } : ref10_Obj)).set (w64 (a0 + 1)).toNat ({ x103 with Radix := 5 } : ref10_Obj)) (w64 (a0 + 2))).bind fun x111 => (at_ qu4_Slots_e2 0).bind fun x119 => (at_ (qu4_Slots_e2.set (0 : Int).toNat ({ x119 with Cap := (⟨2, 7, w64 (a0 + 1), 0, 0, 0⟩ : api_Cap) } : ref10_Slot)) 1).bind fun x131 => some (⟨(qu4_Slots_e2.set (0 : Int).toNat ({ x119 with Cap := (⟨2, 7, w64 (a0 + 1), 0, 0, 0⟩ : api_Cap) } : ref10_Slot)).set (1 : Int).toNat ({ x131 with Cap := (⟨2, 7, a0, 0, 0, 8⟩ : api_Cap) } : ref10_Slot), (((qu4_Objs_e2.set a0.toNat ({ x83 with Radix := 3 } : ref10_Obj)).set (w64 (a0 + 1)).toNat ({ x95 with First := 8 } : ref10_Obj)).set (w64 (a0 + 1)).toNat ({ x103 with Radix := 5 } : ref10_Obj)).set (w64 (a0 + 2)).toNat ({ x111 with Size := 200 } : ref10_Obj), 40, w64 (a0 + 8)⟩ : ref10_State)
set_option maxHeartbeats 8000000 in
set_option maxRecDepth 100000 in
theorem ref10_Boot.ct (k : Nat) (a0 : Int) (r0 : ref10_State) (h : ref10_Boot.f k a0 = some r0) :
    Ct Try.prog 6 [.int .i64 a0] (fun _ => True) [] (fun u H' => ∃ b_r0 w_r0_Slots w_r0_Objs, u = bp b_r0 0 ∧ H' = [Box b_r0 [w_r0_Slots, w_r0_Objs, .int .i64 r0.NS, .int .i64 r0.NO], OwnR 65 kr_ref10_Slot w_r0_Slots r0.Slots, OwnR 58 kr_ref10_Obj w_r0_Objs r0.Objs]) := by
  unfold ref10_Boot.f at h
  refine Ct.intro (n := 130) Try.func6 rfl rfl rfl ?_
  intro R w0 F hF hR
  refine S.seq ?_
  refine S.region ?_
  refine SO.v rfl (opv_assign rfl) ?_
  refine SO.nil ?_
  refine S.seq ?_
  refine S.region ?_
  obtain ⟨t1, ht2, h⟩ := opt_bind h
  refine SO.call (pre := []) rfl Try.call21 rfl rfl rfl (ref10_New.ct _ _ ht2) trivial ?_
  rintro _ _ ⟨b3, u4_Slots, u4_Objs, rfl, rfl⟩
  refine SO.v rfl (opv_assign rfl) ?_
  refine SO.nil ?_
  refine S.seq ?_
  refine S.region ?_
  refine SO.v rfl (opv_move rfl) ?_
  refine SO.v rfl (opv_build (v := .agg #[.int .i64 2, .int .i64 7, .int .i64 a0, .int .i64 0, .int .i64 0, .int .i64 8]) rfl (by intro w; kernel_rfl)) ?_
  refine SO.alloc rfl Try.zeroValue45 rfl (fun b5 => ?_)
  refine SO.storeN Try.sizeOf45 rfl rfl rfl rfl rfl rfl ?_
  refine SO.nil ?_
  refine S.seq ?_
  refine S.region ?_
  refine SO.buildSlice (K := ekI .i64) (xs := [2, 2, 1, 3, 4, 8, 7, 6]) (cs := [.int .i64 2, .int .i64 2, .int .i64 1, .int .i64 3, .int .i64 4, .int .i64 8, .int .i64 7, .int .i64 6]) rfl Try.underlying55 Try.sizeOf3 Try.zeroValue3 rfl rfl rfl (by kernel_rfl) rfl rfl rfl (fun v6 hr7 => ?_)
  refine SO.v rfl (opv_assign rfl) ?_
  refine SO.nil ?_
  refine S.seq ?_
  refine S.seq ?_
  refine S.region ?_
  refine SO.v rfl (opv_assign rfl) ?_
  refine SO.nil ?_
  obtain ⟨⟨qu4_Slots_e1, qu4_Objs_e1⟩, hl1, h⟩ := opt_bind h
  refine S.b5 ?_
  refine S.b5 ?_
  refine S.b5 ?_
  refine S.b5 ?_
  refine S.b5 ?_
  refine S.b5 ?_
  refine S.to (ρ' := [(6, .int .i64 0), (5, v6), (4, bp b5 0), (3, bp b3 0), (2, .pointer none), (0, .int .i64 a0)]) ⟨rfl, rfl, rfl, rfl, rfl, rfl, trivial⟩ ?_
  refine S.forloop (X := (Int × (List ref10_Obj) × (List ref10_Slot)) × Unit) (O := ((List ref10_Slot) × (List ref10_Obj))) (fun m x => ref10_Boot.l1 a0 m x.1) (fun x => match x with | ((x6_1, qu4_Objs_1, qu4_Slots_1), _) => [(6, .int .i64 x6_1), (5, v6), (4, bp b5 0), (3, bp b3 0), (2, .pointer none), (0, .int .i64 a0)]) (fun x => match x with | ((x6_1, qu4_Objs_1, qu4_Slots_1), _) => [Own 3 (ekI .i64) v6 ([2, 2, 1, 3, 4, 8, 7, 6]), Box b5 [.int .i64 2, .int .i64 7, .int .i64 a0, .int .i64 0, .int .i64 0, .int .i64 8], Box b3 [u4_Slots, u4_Objs, .int .i64 t1.NS, .int .i64 t1.NO], OwnR 65 kr_ref10_Slot u4_Slots qu4_Slots_1, OwnR 58 kr_ref10_Obj u4_Objs qu4_Objs_1, F]) (fun Sk => (fun x => match x with | (qu4_Slots_e1, qu4_Objs_e1) => ∀ _ : Unit, Sk [(0, .int .i64 a0), (2, .pointer none), (3, bp b3 0), (4, bp b5 0), (5, v6)] [Own 3 (ekI .i64) v6 ([2, 2, 1, 3, 4, 8, 7, 6]), Box b5 [.int .i64 2, .int .i64 7, .int .i64 a0, .int .i64 0, .int .i64 0, .int .i64 8], Box b3 [u4_Slots, u4_Objs, .int .i64 t1.NS, .int .i64 t1.NO], OwnR 65 kr_ref10_Slot u4_Slots qu4_Slots_e1, OwnR 58 kr_ref10_Obj u4_Objs qu4_Objs_e1, F])) (fun _ => rfl) ?_ (m := k) (x := ((0, t1.Objs, t1.Slots), ())) hl1 ?_
  · clear h hl1
    intro k x o_1 h hK1 ih1
    obtain ⟨⟨x6_1, qu4_Objs_1, qu4_Slots_1⟩, _⟩ := x
    replace h : ref10_Boot.l1 a0 (k + 1) (x6_1, qu4_Objs_1, qu4_Slots_1) = some o_1 := h
    first | rw [ref10_Boot.l1] at h | unfold ref10_Boot.l1 at h
    refine S.seq ?_
    refine S.seq ?_
    refine S.region ?_
    refine SO.v rfl (opv_move rfl) ?_
    refine SO.v rfl (opv_move rfl) ?_
    refine SO.v rfl (opv_lss rfl rfl) ?_
    refine SO.nil ?_
    rcases bool_or (decide (x6_1 < a0)) with b8 | b8
    · replace h := cond_t b8 h
      refine S.condT rfl b8 ?_
      refine S.skip ?_
      refine S.seq ?_
      refine S.block ?_
      refine S.seq ?_
      refine S.region ?_
      obtain ⟨t9, ht10, h⟩ := opt_bind h
      refine SO.call (pre := []) rfl Try.call22 rfl rfl rfl (ref10_Fresh.ct _ _ ht10) trivial ?_
      rintro _ _ ⟨u11_Queue, rfl, rfl⟩
      refine SO.rd fun hr12 => ?_
      refine SO.alloc rfl Try.zeroValue58 rfl (fun b13 => ?_)
      refine SO.storeN Try.sizeOf58 rfl rfl (all1 rfl (all1 rfl (all1 rfl (all1 rfl (all1 rfl (all1 rfl (all1 (Rd.one hr12) (all1 rfl (all1 rfl (all1 rfl (all1 rfl (all1 rfl (all1 rfl (all1 rfl (all1 rfl (all1 rfl (all1 rfl (all1 rfl (all1 rfl (all1 rfl (all1 rfl (all1 rfl (all1 rfl (all1 rfl (all1 rfl (all1 rfl (all1 rfl (all1 rfl (all1 rfl (all1 rfl (all1 rfl (all1 rfl rfl)))))))))))))))))))))))))))))))) rfl rfl rfl ?_
      refine SO.nil ?_
      refine S.seq ?_
      refine S.region ?_
      refine SO.v rfl (opv_fieldAddr Try.underlying58 rfl Try.sizeOf3 rfl rfl) ?_
      refine SO.store1 Try.sizeOf3 rfl rfl rfl rfl ?_
      refine SO.nil ?_
      refine S.seq ?_
      refine S.region ?_
      refine SO.b3 ?_
      refine SO.loadN rfl Try.isAgg45 Try.sizeOf45 rfl rfl rfl ?_
      refine SO.v rfl (opv_fieldAddr Try.underlying58 rfl Try.sizeOf45 rfl rfl) ?_
      refine SO.b1 ?_
      refine SO.storeN Try.sizeOf45 rfl rfl rfl rfl rfl rfl ?_
      refine SO.nil ?_
      refine S.to (ρ' := [(6, .int .i64 x6_1), (5, v6), (4, bp b5 0), (3, bp b3 0), (2, .pointer none), (0, .int .i64 a0), (7, bp b13 0)]) ⟨rfl, rfl, rfl, rfl, rfl, rfl, rfl, trivial⟩ ?_
      refine S.seq ?_
      refine S.b6 ?_
      refine S.openR fun raws14 A15 hrel16 hR17 => ?_
      obtain ⟨x18, hx19, h⟩ := opt_bind h
      obtain ⟨r20, hr21, hc22⟩ := relR.at hrel16 hx19
      refine S.draw' (Z := fun Q => ∀ (_ : Unit) (_ : Unit) (_ : Unit) (_ : Unit) (_ : Unit) (_ : Unit) (_ : Unit) (_ : Unit) (_ : Unit) (_ : Unit), Q [(6, .int .i64 x6_1), (5, v6), (4, bp b5 0), (2, .pointer none), (0, .int .i64 a0), (3, bp b3 0)] [OwnR 58 kr_ref10_Obj u4_Objs (qu4_Objs_1.set x6_1.toNat ({ t9 with State := 1, Root := (⟨2, 7, a0, 0, 0, 8⟩ : api_Cap) } : ref10_Obj)), Box b13 [.int .i64 t9.Kind, .int .i64 t9.Size, .int .i64 t9.Used, .int .i64 t9.First, .int .i64 t9.Radix, .int .i64 t9.Wait, u11_Queue, .int .i64 t9.Word, .int .i64 1, .int .i64 t9.Owing, .int .i64 t9.Badge, .int .i64 t9.Prio, .int .i64 t9.On, .int .i64 t9.Owes, .int .i64 2, .int .i64 7, .int .i64 a0, .int .i64 0, .int .i64 0, .int .i64 8, .int .i64 t9.Pages.a0, .int .i64 t9.Pages.a1, .int .i64 t9.Pages.a2, .int .i64 t9.Pages.a3, .int .i64 t9.Right.a0, .int .i64 t9.Right.a1, .int .i64 t9.Right.a2, .int .i64 t9.Right.a3, .int .i64 t9.In, .int .i64 t9.Page, .int .i64 t9.Bound, .int .i64 t9.Mask], Box b5 [.int .i64 2, .int .i64 7, .int .i64 a0, .int .i64 0, .int .i64 0, .int .i64 8], Own 3 (ekI .i64) v6 ([2, 2, 1, 3, 4, 8, 7, 6]), Box b3 [u4_Slots, u4_Objs, .int .i64 t1.NS, .int .i64 t1.NO], OwnR 65 kr_ref10_Slot u4_Slots qu4_Slots_1, F]) (T := [tS 3 (bp b3 0), tS 6 (.int .i64 x6_1), tS 7 (bp b13 0), tE [(5, v6), (4, bp b5 0), (2, .pointer none), (0, .int .i64 a0)], tR (OwnO 58 kr_ref10_Obj u4_Objs raws14 A15 qu4_Objs_1), tR (Box b13 [.int .i64 t9.Kind, .int .i64 t9.Size, .int .i64 t9.Used, .int .i64 t9.First, .int .i64 t9.Radix, .int .i64 t9.Wait, u11_Queue, .int .i64 t9.Word, .int .i64 1, .int .i64 t9.Owing, .int .i64 t9.Badge, .int .i64 t9.Prio, .int .i64 t9.On, .int .i64 t9.Owes, .int .i64 2, .int .i64 7, .int .i64 a0, .int .i64 0, .int .i64 0, .int .i64 8, .int .i64 t9.Pages.a0, .int .i64 t9.Pages.a1, .int .i64 t9.Pages.a2, .int .i64 t9.Pages.a3, .int .i64 t9.Right.a0, .int .i64 t9.Right.a1, .int .i64 t9.Right.a2, .int .i64 t9.Right.a3, .int .i64 t9.In, .int .i64 t9.Page, .int .i64 t9.Bound, .int .i64 t9.Mask]), tR (Box b5 [.int .i64 2, .int .i64 7, .int .i64 a0, .int .i64 0, .int .i64 0, .int .i64 8]), tR (Own 3 (ekI .i64) u11_Queue t9.Queue), tR (Own 3 (ekI .i64) v6 ([2, 2, 1, 3, 4, 8, 7, 6])), tR (Box b3 [u4_Slots, u4_Objs, .int .i64 t1.NS, .int .i64 t1.NO]), tR (OwnR 65 kr_ref10_Slot u4_Slots qu4_Slots_1), tR (F), tS 22 (bp b3 0), tS 23 (bp b3 0), tS 24 (bp b3 1), tS 25 (u4_Objs), tS 26 (.int .i64 x6_1), tS 27 (.agg #[.int .i64 t9.Kind, .int .i64 t9.Size, .int .i64 t9.Used, .int .i64 t9.First, .int .i64 t9.Radix, .int .i64 t9.Wait, u11_Queue, .int .i64 t9.Word, .int .i64 1, .int .i64 t9.Owing, .int .i64 t9.Badge, .int .i64 t9.Prio, .int .i64 t9.On, .int .i64 t9.Owes, .int .i64 2, .int .i64 7, .int .i64 a0, .int .i64 0, .int .i64 0, .int .i64 8, .int .i64 t9.Pages.a0, .int .i64 t9.Pages.a1, .int .i64 t9.Pages.a2, .int .i64 t9.Pages.a3, .int .i64 t9.Right.a0, .int .i64 t9.Right.a1, .int .i64 t9.Right.a2, .int .i64 t9.Right.a3, .int .i64 t9.In, .int .i64 t9.Page, .int .i64 t9.Bound, .int .i64 t9.Mask]), tS 28 (idxp u4_Objs (x6_1.toNat * kr_ref10_Obj.sz)), tR (OwnR 58 kr_ref10_Obj u4_Objs (qu4_Objs_1.set x6_1.toNat ({ t9 with State := 1, Root := (⟨2, 7, a0, 0, 0, 8⟩ : api_Cap) } : ref10_Obj)))]) (D := [⟨[0], [], [12]⟩, ⟨[12], [], [13]⟩, ⟨[13], [], [14]⟩, ⟨[14, 9], [], [15]⟩, ⟨[1], [], [16]⟩, ⟨[2, 5], [], [17]⟩, ⟨[15, 16, 4], [], [18]⟩, ⟨[17, 18], [4, 7], [19]⟩]) (ini := [0, 1, 2, 3, 4, 5, 6, 7, 8, 9, 10, 11]) (fin := [1, 3, 0, 19, 5, 6, 8, 9, 10, 11]) (bf := [[], [0], [0, 1], [0, 1, 2], [], [], [0, 1, 2, 3, 4, 5], [0, 1, 2, 3, 4, 5, 6]]) (by kernel_rfl) (by kernel_rfl) (fun x w h1 h2 => (.cons () (.cons () (.cons () (.cons () (.cons () (.cons () (.cons () (.cons () (.cons () (.cons () (.cons () (.cons () (.nil ⟨EnvAll.of h1 ⟨rfl, rfl, rfl, rfl, rfl, rfl, rfl, trivial⟩, h2⟩)))))))))))))) (fun Q => by kernel_rfl) ⟨?_, ?_, ?_, ?_, ?_, ?_, ?_, ?_, trivial⟩ ?_
      · rintro Fr _
        refine SO.v rfl (opv_move rfl) ?_
        exact SO.nilZ fun a w h1 h2 h3 h4 h5 => PZ.of h1 h3 h5 (.cons () (.cons () (.nil ⟨EnvAll.of h2 ⟨rfl, rfl, trivial⟩, h4⟩)))
      · rintro Fr _
        refine SO.v rfl (opv_nilCheck rfl) ?_
        exact SO.nilZ fun a w h1 h2 h3 h4 h5 => PZ.of h1 h3 h5 (.cons () (.cons () (.nil ⟨EnvAll.of h2 ⟨rfl, rfl, trivial⟩, h4⟩)))
      · rintro Fr _
        refine SO.v rfl (opv_fieldAddr Try.underlying63 rfl Try.sizeOf61 rfl rfl) ?_
        exact SO.nilZ fun a w h1 h2 h3 h4 h5 => PZ.of h1 h3 h5 (.cons () (.cons () (.nil ⟨EnvAll.of h2 ⟨rfl, rfl, trivial⟩, h4⟩)))
      · rintro Fr _ _
        refine SO.load1 rfl Try.isAgg61 rfl rfl ?_
        exact SO.nilZ fun a w h1 h2 h3 h4 h5 => PZ.of h1 h3 h5 (.cons () (.cons () (.cons () (.nil ⟨EnvAll.of h2 ⟨rfl, rfl, trivial⟩, h4⟩))))
      · rintro Fr _
        refine SO.v rfl (opv_move rfl) ?_
        exact SO.nilZ fun a w h1 h2 h3 h4 h5 => PZ.of h1 h3 h5 (.cons () (.cons () (.nil ⟨EnvAll.of h2 ⟨rfl, rfl, trivial⟩, h4⟩)))
      · rintro Fr _ _
        refine SO.loadN rfl Try.isAgg58 Try.sizeOf58 rfl rfl rfl ?_
        exact SO.nilZ fun a w h1 h2 h3 h4 h5 => PZ.of h1 h3 h5 (.cons () (.cons () (.cons () (.nil ⟨EnvAll.of h2 ⟨rfl, rfl, trivial⟩, h4⟩))))
      · rintro Fr _ _ _
        refine SO.v rfl (opv_idx Try.underlying61 Try.sizeOf58 hR17 rfl rfl hr21) ?_
        exact SO.nilZ fun a w h1 h2 h3 h4 h5 => PZ.of h1 h3 h5 (.cons () (.cons () (.cons () (.cons () (.nil ⟨EnvAll.of h2 ⟨rfl, rfl, rfl, trivial⟩, h4⟩)))))
      · rintro Fr _ _ _ _
        refine SO.b1 ?_
        refine SO.freeze hrel16 fun A23 hcov24 hru25 hrel26 hR27 => ?_
        refine SO.storeON (z' := ({ t9 with State := 1, Root := (⟨2, 7, a0, 0, 0, 8⟩ : api_Cap) } : ref10_Obj)) Try.sizeOf58 hrel26 hx19 rfl rfl rfl ⟨rfl, rfl, rfl, rfl, rfl, rfl, hru25, rfl, rfl, rfl, rfl, rfl, rfl, rfl, rfl, rfl, rfl, rfl, rfl, rfl, rfl, rfl, rfl, rfl, rfl, rfl, rfl, rfl, rfl, rfl, rfl, rfl, trivial⟩ (fun raws28 hrel29 hR30 => ?_)
        refine SO.closeR ?_
        exact SO.nilZ fun a w h1 h2 h3 h4 h5 => PZ.of h1 h3 h5 (.cons () (.cons () (.cons () (.nil ⟨EnvAll.of h2 ⟨rfl, rfl, trivial⟩, h4⟩))))
      rintro _ _ _ _ _ _ _ _ _ _
      refine S.to (ρ' := [(6, .int .i64 x6_1), (5, v6), (4, bp b5 0), (2, .pointer none), (0, .int .i64 a0), (3, bp b3 0)]) ⟨rfl, rfl, rfl, rfl, rfl, rfl, trivial⟩ ?_
      refine S.region ?_
      refine SO.v rfl (opv_move rfl) ?_
      refine SO.v rfl (opv_nilCheck rfl) ?_
      refine SO.v rfl (opv_fieldAddr Try.underlying63 rfl Try.sizeOf60 rfl rfl) ?_
      refine SO.b4 ?_
      refine SO.load1 rfl Try.isAgg60 rfl rfl ?_
      refine SO.v rfl (opv_move rfl) ?_
      refine SO.v rfl (opv_add rfl rfl) ?_
      refine SO.v rfl (opv_move rfl) ?_
      refine SO.v rfl (opv_build (v := .agg #[.int .i64 5, .int .i64 7, .int .i64 x6_1, .int .i64 0, .int .i64 0, .int .i64 0]) rfl (by intro w; kernel_rfl)) ?_
      refine SO.b5 ?_
      refine SO.openR fun raws36 A37 hrel38 hR39 => ?_
      obtain ⟨x31, hx32, h⟩ := opt_bind h
      obtain ⟨r33, hr34, hc35⟩ := relR.at hrel38 hx32
      refine SO.v rfl (opv_idx Try.underlying60 Try.sizeOf65 hR39 rfl rfl hr34) ?_
      refine SO.v rfl (opv_fieldIdx Try.underlying65 rfl Try.sizeOf45 hR39 hr34 rfl rfl) ?_
      refine SO.storeOP (j := 0) (us := [.int .i64 5, .int .i64 7, .int .i64 x6_1, .int .i64 0, .int .i64 0, .int .i64 0]) (z' := ({ x31 with Cap := (⟨5, 7, x6_1, 0, 0, 0⟩ : api_Cap) } : ref10_Slot)) Try.sizeOf45 hrel38 hx32 rfl rfl rfl rfl rfl rfl rfl (fun raws40 hrel41 hR42 => ?_)
      refine SO.nil ?_
      refine S.to (ρ' := [(6, .int .i64 x6_1), (5, v6), (4, bp b5 0), (2, .pointer none), (0, .int .i64 a0), (3, bp b3 0)]) ⟨rfl, rfl, rfl, rfl, rfl, rfl, trivial⟩ ?_
      refine S.inBlock ?_
      refine S.region ?_
      refine SO.v rfl (opv_move rfl) ?_
      refine SO.v rfl (opv_add rfl rfl) ?_
      refine SO.v rfl (opv_assign rfl) ?_
      refine SO.nil ?_
      refine S.closeR ?_
      refine S.b3 ?_
      refine S.drop ?_
      refine S.b5 ?_
      refine S.b3 ?_
      refine S.b2 ?_
      refine S.b3 ?_
      refine S.b4 ?_
      refine S.b5 ?_
      refine S.to ?_ (ih1 ((w64 (x6_1 + 1), qu4_Objs_1.set x6_1.toNat ({ t9 with State := 1, Root := (⟨2, 7, a0, 0, 0, 8⟩ : api_Cap) } : ref10_Obj), qu4_Slots_1.set (w64 (14 + x6_1)).toNat ({ x31 with Cap := (⟨5, 7, x6_1, 0, 0, 0⟩ : api_Cap) } : ref10_Slot)), ()) h)
      exact ⟨rfl, rfl, rfl, rfl, rfl, rfl, trivial⟩
    · replace h := cond_f b8 h
      refine S.condF rfl b8 ?_
      refine S.exit rfl ?_
      cases h
      refine S.b5 ?_
      refine S.b5 ?_
      refine S.b5 ?_
      refine S.b5 ?_
      refine S.b5 ?_
      refine S.b5 ?_
      refine S.to ?_ (hK1 ())
      exact ⟨rfl, rfl, rfl, rfl, rfl, trivial⟩
  rintro _
  refine S.seq ?_
  refine S.seq ?_
  refine S.region ?_
  refine SO.v rfl (opv_assign rfl) ?_
  refine SO.nil ?_
  obtain ⟨⟨qu4_Slots_e2, qu4_Objs_e2⟩, hl2, h⟩ := opt_bind h
  refine S.b5 ?_
  refine S.b5 ?_
  refine S.b5 ?_
  refine S.b5 ?_
  refine S.b5 ?_
  refine S.b5 ?_
  refine S.to (ρ' := [(8, .int .i64 0), (0, .int .i64 a0), (2, .pointer none), (3, bp b3 0), (4, bp b5 0), (5, v6)]) ⟨rfl, rfl, rfl, rfl, rfl, rfl, trivial⟩ ?_
  refine S.forloop (X := (Int × (List ref10_Obj) × (List ref10_Slot)) × Unit) (O := ((List ref10_Slot) × (List ref10_Obj))) (fun m x => ref10_Boot.l2 a0 m x.1) (fun x => match x with | ((x8_2, qu4_Objs_2, qu4_Slots_2), _) => [(8, .int .i64 x8_2), (0, .int .i64 a0), (2, .pointer none), (3, bp b3 0), (4, bp b5 0), (5, v6)]) (fun x => match x with | ((x8_2, qu4_Objs_2, qu4_Slots_2), _) => [Own 3 (ekI .i64) v6 ([2, 2, 1, 3, 4, 8, 7, 6]), Box b5 [.int .i64 2, .int .i64 7, .int .i64 a0, .int .i64 0, .int .i64 0, .int .i64 8], Box b3 [u4_Slots, u4_Objs, .int .i64 t1.NS, .int .i64 t1.NO], OwnR 65 kr_ref10_Slot u4_Slots qu4_Slots_2, OwnR 58 kr_ref10_Obj u4_Objs qu4_Objs_2, F]) (fun Sk => (fun x => match x with | (qu4_Slots_e2, qu4_Objs_e2) => ∀ _ : Unit, Sk [(0, .int .i64 a0), (2, .pointer none), (3, bp b3 0), (4, bp b5 0)] [Own 3 (ekI .i64) v6 ([2, 2, 1, 3, 4, 8, 7, 6]), Box b5 [.int .i64 2, .int .i64 7, .int .i64 a0, .int .i64 0, .int .i64 0, .int .i64 8], Box b3 [u4_Slots, u4_Objs, .int .i64 t1.NS, .int .i64 t1.NO], OwnR 65 kr_ref10_Slot u4_Slots qu4_Slots_e2, OwnR 58 kr_ref10_Obj u4_Objs qu4_Objs_e2, F])) (fun _ => rfl) ?_ (m := k) (x := ((0, qu4_Objs_e1, qu4_Slots_e1), ())) hl2 ?_
  · clear h hl2
    intro k x o_2 h hK2 ih2
    obtain ⟨⟨x8_2, qu4_Objs_2, qu4_Slots_2⟩, _⟩ := x
    replace h : ref10_Boot.l2 a0 (k + 1) (x8_2, qu4_Objs_2, qu4_Slots_2) = some o_2 := h
    first | rw [ref10_Boot.l2] at h | unfold ref10_Boot.l2 at h
    refine S.seq ?_
    refine S.seq ?_
    refine S.region ?_
    refine SO.v rfl (opv_move rfl) ?_
    refine SO.v rfl (opv_lss rfl rfl) ?_
    refine SO.nil ?_
    rcases bool_or (decide (x8_2 < 8)) with b43 | b43
    · replace h := cond_t b43 h
      refine S.condT rfl b43 ?_
      refine S.skip ?_
      refine S.seq ?_
      refine S.block ?_
      refine S.seq ?_
      refine S.b3 ?_
      refine S.openR fun raws44 A45 hrel46 hR47 => ?_
      refine S.b4 ?_
      refine S.openR fun raws48 A49 hrel50 hR51 => ?_
      obtain ⟨x52, hx53, h⟩ := opt_bind h
      obtain ⟨t54, ht55, h⟩ := opt_bind h
      obtain ⟨x58, hx59, h⟩ := opt_bind h
      obtain ⟨r60, hr61, hc62⟩ := relR.at hrel50 hx59
      refine S.draw' (Z := fun Q => ∀ (_ : Unit) (_ : Unit) (_ : Unit) (_ : Unit) (_ : Unit) (_ : Unit) (_ : Unit) (_ : Unit) (_ : Unit) (_ : Unit) (_ : Unit), Q [(8, .int .i64 x8_2), (0, .int .i64 a0), (2, .pointer none), (4, bp b5 0), (3, bp b3 0), (5, v6)] [OwnR 58 kr_ref10_Obj u4_Objs (qu4_Objs_2.set (w64 (a0 + x8_2)).toNat t54), OwnO 65 kr_ref10_Slot u4_Slots raws44 A45 qu4_Slots_2, Own 3 (ekI .i64) v6 ([2, 2, 1, 3, 4, 8, 7, 6]), Box b5 [.int .i64 2, .int .i64 7, .int .i64 a0, .int .i64 0, .int .i64 0, .int .i64 8], Box b3 [u4_Slots, u4_Objs, .int .i64 t1.NS, .int .i64 t1.NO], F]) (T := [tS 3 (bp b3 0), tS 0 (.int .i64 a0), tS 8 (.int .i64 x8_2), tS 5 (v6), tE [(2, .pointer none), (4, bp b5 0)], tR (OwnO 58 kr_ref10_Obj u4_Objs raws48 A49 qu4_Objs_2), tR (OwnO 65 kr_ref10_Slot u4_Slots raws44 A45 qu4_Slots_2), tR (Own 3 (ekI .i64) v6 ([2, 2, 1, 3, 4, 8, 7, 6])), tR (Box b5 [.int .i64 2, .int .i64 7, .int .i64 a0, .int .i64 0, .int .i64 0, .int .i64 8]), tR (Box b3 [u4_Slots, u4_Objs, .int .i64 t1.NS, .int .i64 t1.NO]), tR (F), tS 43 (bp b3 0), tS 44 (bp b3 0), tS 45 (bp b3 1), tS 46 (u4_Objs), tS 47 (.int .i64 a0), tS 48 (.int .i64 x8_2), tS 49 (.int .i64 (w64 (a0 + x8_2))), tS 50 (v6), tS 51 (.int .i64 x8_2), tS 52 (idxp v6 (x8_2.toNat * (ekI .i64).sz)), tS 53 (.int .i64 x52), ⟨Value, [54], (fun u56_Queue => [(54, .agg #[.int .i64 t54.Kind, .int .i64 t54.Size, .int .i64 t54.Used, .int .i64 t54.First, .int .i64 t54.Radix, .int .i64 t54.Wait, u56_Queue, .int .i64 t54.Word, .int .i64 t54.State, .int .i64 t54.Owing, .int .i64 t54.Badge, .int .i64 t54.Prio, .int .i64 t54.On, .int .i64 t54.Owes, .int .i64 t54.Root.Kind, .int .i64 t54.Root.Rights, .int .i64 t54.Root.Obj, .int .i64 t54.Root.Badge, .int .i64 t54.Root.Guard, .int .i64 t54.Root.Bits, .int .i64 t54.Pages.a0, .int .i64 t54.Pages.a1, .int .i64 t54.Pages.a2, .int .i64 t54.Pages.a3, .int .i64 t54.Right.a0, .int .i64 t54.Right.a1, .int .i64 t54.Right.a2, .int .i64 t54.Right.a3, .int .i64 t54.In, .int .i64 t54.Page, .int .i64 t54.Bound, .int .i64 t54.Mask])]), (fun u56_Queue => [Own 3 (ekI .i64) u56_Queue t54.Queue]), fun _ => rfl⟩, tS 55 (idxp u4_Objs ((w64 (a0 + x8_2)).toNat * kr_ref10_Obj.sz)), tR (OwnR 58 kr_ref10_Obj u4_Objs (qu4_Objs_2.set (w64 (a0 + x8_2)).toNat t54))]) (D := [⟨[0], [], [11]⟩, ⟨[11], [], [12]⟩, ⟨[12], [], [13]⟩, ⟨[13, 9], [], [14]⟩, ⟨[1], [], [15]⟩, ⟨[2], [], [16]⟩, ⟨[15, 16], [], [17]⟩, ⟨[3], [], [18]⟩, ⟨[2], [], [19]⟩, ⟨[18, 19, 7], [], [20]⟩, ⟨[20, 7], [], [21]⟩, ⟨[21], [], [22]⟩, ⟨[14, 17, 5], [], [23]⟩, ⟨[23], [22, 5], [24]⟩]) (ini := [0, 1, 2, 3, 4, 5, 6, 7, 8, 9, 10]) (fin := [2, 1, 4, 0, 3, 24, 6, 7, 8, 9, 10]) (bf := [[], [0], [0, 1], [0, 1, 2], [], [], [4, 5], [], [], [7, 8], [7, 8, 9], [7, 8, 9, 10], [0, 1, 2, 3, 4, 5, 6, 7, 8, 9, 10, 11], [0, 1, 2, 3, 4, 5, 6, 7, 8, 9, 10, 11, 12]]) (by kernel_rfl) (by kernel_rfl) (fun x w h1 h2 => (.cons () (.cons () (.cons () (.cons () (.cons () (.cons () (.cons () (.cons () (.cons () (.cons () (.cons () (.nil ⟨EnvAll.of h1 ⟨rfl, rfl, rfl, rfl, rfl, rfl, trivial⟩, h2⟩))))))))))))) (fun Q => by kernel_rfl) ⟨?_, ?_, ?_, ?_, ?_, ?_, ?_, ?_, ?_, ?_, ?_, ?_, ?_, ?_, trivial⟩ ?_
      · rintro Fr _
        refine SO.v rfl (opv_move rfl) ?_
        exact SO.nilZ fun a w h1 h2 h3 h4 h5 => PZ.of h1 h3 h5 (.cons () (.cons () (.nil ⟨EnvAll.of h2 ⟨rfl, rfl, trivial⟩, h4⟩)))
      · rintro Fr _
        refine SO.v rfl (opv_nilCheck rfl) ?_
        exact SO.nilZ fun a w h1 h2 h3 h4 h5 => PZ.of h1 h3 h5 (.cons () (.cons () (.nil ⟨EnvAll.of h2 ⟨rfl, rfl, trivial⟩, h4⟩)))
      · rintro Fr _
        refine SO.v rfl (opv_fieldAddr Try.underlying63 rfl Try.sizeOf61 rfl rfl) ?_
        exact SO.nilZ fun a w h1 h2 h3 h4 h5 => PZ.of h1 h3 h5 (.cons () (.cons () (.nil ⟨EnvAll.of h2 ⟨rfl, rfl, trivial⟩, h4⟩)))
      · rintro Fr _ _
        refine SO.load1 rfl Try.isAgg61 rfl rfl ?_
        exact SO.nilZ fun a w h1 h2 h3 h4 h5 => PZ.of h1 h3 h5 (.cons () (.cons () (.cons () (.nil ⟨EnvAll.of h2 ⟨rfl, rfl, trivial⟩, h4⟩))))
      · rintro Fr _
        refine SO.v rfl (opv_move rfl) ?_
        exact SO.nilZ fun a w h1 h2 h3 h4 h5 => PZ.of h1 h3 h5 (.cons () (.cons () (.nil ⟨EnvAll.of h2 ⟨rfl, rfl, trivial⟩, h4⟩)))
      · rintro Fr _
        refine SO.v rfl (opv_move rfl) ?_
        exact SO.nilZ fun a w h1 h2 h3 h4 h5 => PZ.of h1 h3 h5 (.cons () (.cons () (.nil ⟨EnvAll.of h2 ⟨rfl, rfl, trivial⟩, h4⟩)))
      · rintro Fr _ _
        refine SO.v rfl (opv_add rfl rfl) ?_
        exact SO.nilZ fun a w h1 h2 h3 h4 h5 => PZ.of h1 h3 h5 (.cons () (.cons () (.cons () (.nil ⟨EnvAll.of h2 ⟨rfl, rfl, rfl, trivial⟩, h4⟩))))
      · rintro Fr _
        refine SO.v rfl (opv_move rfl) ?_
        exact SO.nilZ fun a w h1 h2 h3 h4 h5 => PZ.of h1 h3 h5 (.cons () (.cons () (.nil ⟨EnvAll.of h2 ⟨rfl, rfl, trivial⟩, h4⟩)))
      · rintro Fr _
        refine SO.v rfl (opv_move rfl) ?_
        exact SO.nilZ fun a w h1 h2 h3 h4 h5 => PZ.of h1 h3 h5 (.cons () (.cons () (.nil ⟨EnvAll.of h2 ⟨rfl, rfl, trivial⟩, h4⟩)))
      · rintro Fr _ _ _
        refine SO.v rfl (opv_idx Try.underlying55 Try.sizeOf3 hr7 rfl rfl hx53) ?_
        exact SO.nilZ fun a w h1 h2 h3 h4 h5 => PZ.of h1 h3 h5 (.cons () (.cons () (.cons () (.cons () (.nil ⟨EnvAll.of h2 ⟨rfl, rfl, rfl, trivial⟩, h4⟩)))))
      · rintro Fr _ _
        refine SO.loadI1 (j := 0) rfl Try.isAgg3 (Rd.head hr7) hx53 rfl rfl rfl rfl ?_
        exact SO.nilZ fun a w h1 h2 h3 h4 h5 => PZ.of h1 h3 h5 (.cons () (.cons () (.cons () (.nil ⟨EnvAll.of h2 ⟨rfl, rfl, trivial⟩, h4⟩))))
      · rintro Fr _
        refine SO.call (pre := []) rfl Try.call22 rfl rfl rfl (ref10_Fresh.ct _ _ ht55) trivial ?_
        rintro _ _ ⟨u56_Queue, rfl, rfl⟩
        refine SO.rd fun hr57 => ?_
        exact SO.nilZ fun a w h1 h2 h3 h4 h5 => PZ.of h1 h3 h5 (.cons () (.cons u56_Queue (.nil ⟨EnvAll.of h2 ⟨rfl, rfl, trivial⟩, h4⟩)))
      · rintro Fr _ _ _
        refine SO.v rfl (opv_idx Try.underlying61 Try.sizeOf58 hR51 rfl rfl hr61) ?_
        exact SO.nilZ fun a w h1 h2 h3 h4 h5 => PZ.of h1 h3 h5 (.cons () (.cons () (.cons () (.cons () (.nil ⟨EnvAll.of h2 ⟨rfl, rfl, rfl, trivial⟩, h4⟩)))))
      · rintro Fr _ u56_Queue _
        refine SO.rd fun hr63 => ?_
        refine SO.b1 ?_
        refine SO.b1 ?_
        refine SO.freeze hrel50 fun A64 hcov65 hru66 hrel67 hR68 => ?_
        refine SO.storeON (z' := t54) Try.sizeOf58 hrel67 hx59 rfl rfl rfl ⟨rfl, rfl, rfl, rfl, rfl, rfl, hru66, rfl, rfl, rfl, rfl, rfl, rfl, rfl, rfl, rfl, rfl, rfl, rfl, rfl, rfl, rfl, rfl, rfl, rfl, rfl, rfl, rfl, rfl, rfl, rfl, rfl, trivial⟩ (fun raws69 hrel70 hR71 => ?_)
        refine SO.closeR ?_
        exact SO.nilZ fun a w h1 h2 h3 h4 h5 => PZ.of h1 h3 h5 (.cons () (.cons () (.nil ⟨EnvAll.of h2 ⟨rfl, trivial⟩, h4⟩)))
      rintro _ _ _ _ _ _ _ _ _ _ _
      refine S.to (ρ' := [(8, .int .i64 x8_2), (0, .int .i64 a0), (2, .pointer none), (4, bp b5 0), (3, bp b3 0), (5, v6)]) ⟨rfl, rfl, rfl, rfl, rfl, rfl, trivial⟩ ?_
      refine S.seq ?_
      refine S.region ?_
      refine SO.v rfl (opv_move rfl) ?_
      refine SO.v rfl (opv_geq rfl rfl) ?_
      refine SO.nil ?_
      rcases bool_or (decide (2 ≤ x8_2)) with b72 | b72
      · replace h := cond_t b72 h
        refine S.condT rfl b72 ?_
        obtain ⟨x73, hx74, h⟩ := opt_bind h
        obtain ⟨x75, hx76, h⟩ := opt_bind h
        obtain ⟨r77, hr78, hc79⟩ := relR.at hrel46 hx76
        refine S.draw' (Z := fun Q => ∀ (_ : Unit) (_ : Unit) (_ : Unit) (_ : Unit) (_ : Unit) (_ : Unit) (_ : Unit) (_ : Unit) (_ : Unit) (_ : Unit) (_ : Unit), Q [(8, .int .i64 x8_2), (0, .int .i64 a0), (2, .pointer none), (4, bp b5 0), (3, bp b3 0), (5, v6)] [OwnR 58 kr_ref10_Obj u4_Objs (qu4_Objs_2.set (w64 (a0 + x8_2)).toNat t54), OwnR 65 kr_ref10_Slot u4_Slots (qu4_Slots_2.set (w64 (6 + x8_2)).toNat ({ x75 with Cap := (⟨x73, 7, w64 (a0 + x8_2), 0, 0, 0⟩ : api_Cap) } : ref10_Slot)), Own 3 (ekI .i64) v6 ([2, 2, 1, 3, 4, 8, 7, 6]), Box b5 [.int .i64 2, .int .i64 7, .int .i64 a0, .int .i64 0, .int .i64 0, .int .i64 8], Box b3 [u4_Slots, u4_Objs, .int .i64 t1.NS, .int .i64 t1.NO], F]) (T := [tS 3 (bp b3 0), tS 8 (.int .i64 x8_2), tS 5 (v6), tS 0 (.int .i64 a0), tE [(2, .pointer none), (4, bp b5 0)], tR (OwnR 58 kr_ref10_Obj u4_Objs (qu4_Objs_2.set (w64 (a0 + x8_2)).toNat t54)), tR (OwnO 65 kr_ref10_Slot u4_Slots raws44 A45 qu4_Slots_2), tR (Own 3 (ekI .i64) v6 ([2, 2, 1, 3, 4, 8, 7, 6])), tR (Box b5 [.int .i64 2, .int .i64 7, .int .i64 a0, .int .i64 0, .int .i64 0, .int .i64 8]), tR (Box b3 [u4_Slots, u4_Objs, .int .i64 t1.NS, .int .i64 t1.NO]), tR (F), tS 58 (bp b3 0), tS 59 (bp b3 0), tS 60 (bp b3 0), tS 61 (u4_Slots), tS 62 (.int .i64 x8_2), tS 63 (.int .i64 (w64 (6 + x8_2))), tS 64 (v6), tS 65 (.int .i64 x8_2), tS 66 (idxp v6 (x8_2.toNat * (ekI .i64).sz)), tS 67 (.int .i64 x73), tS 68 (.int .i64 a0), tS 69 (.int .i64 x8_2), tS 70 (.int .i64 (w64 (a0 + x8_2))), tS 71 (.agg #[.int .i64 x73, .int .i64 7, .int .i64 (w64 (a0 + x8_2)), .int .i64 0, .int .i64 0, .int .i64 0]), tS 72 (idxp u4_Slots ((w64 (6 + x8_2)).toNat * kr_ref10_Slot.sz)), tS 73 (idxp u4_Slots ((w64 (6 + x8_2)).toNat * kr_ref10_Slot.sz)), tR (OwnR 65 kr_ref10_Slot u4_Slots (qu4_Slots_2.set (w64 (6 + x8_2)).toNat ({ x75 with Cap := (⟨x73, 7, w64 (a0 + x8_2), 0, 0, 0⟩ : api_Cap) } : ref10_Slot)))]) (D := [⟨[0], [], [11]⟩, ⟨[11], [], [12]⟩, ⟨[12], [], [13]⟩, ⟨[13, 9], [], [14]⟩, ⟨[1], [], [15]⟩, ⟨[15], [], [16]⟩, ⟨[2], [], [17]⟩, ⟨[1], [], [18]⟩, ⟨[17, 18, 7], [], [19]⟩, ⟨[19, 7], [], [20]⟩, ⟨[3], [], [21]⟩, ⟨[1], [], [22]⟩, ⟨[21, 22], [], [23]⟩, ⟨[20, 23], [], [24]⟩, ⟨[14, 16, 6], [], [25]⟩, ⟨[25, 6], [], [26]⟩, ⟨[24, 26], [6], [27]⟩]) (ini := [0, 1, 2, 3, 4, 5, 6, 7, 8, 9, 10]) (fin := [1, 3, 4, 0, 2, 5, 27, 7, 8, 9, 10]) (bf := [[], [0], [0, 1], [0, 1, 2], [], [4], [], [], [6, 7], [6, 7, 8], [], [], [10, 11], [6, 7, 8, 9, 10, 11, 12], [0, 1, 2, 3, 4, 5, 6, 7, 8, 9, 10, 11, 12, 13], [0, 1, 2, 3, 4, 5, 6, 7, 8, 9, 10, 11, 12, 13, 14], [0, 1, 2, 3, 4, 5, 6, 7, 8, 9, 10, 11, 12, 13, 14, 15]]) (by kernel_rfl) (by kernel_rfl) (fun x w h1 h2 => (.cons () (.cons () (.cons () (.cons () (.cons () (.cons () (.cons () (.cons () (.cons () (.cons () (.cons () (.nil ⟨EnvAll.of h1 ⟨rfl, rfl, rfl, rfl, rfl, rfl, trivial⟩, h2⟩))))))))))))) (fun Q => by kernel_rfl) ⟨?_, ?_, ?_, ?_, ?_, ?_, ?_, ?_, ?_, ?_, ?_, ?_, ?_, ?_, ?_, ?_, ?_, trivial⟩ ?_
        · rintro Fr _
          refine SO.v rfl (opv_move rfl) ?_
          exact SO.nilZ fun a w h1 h2 h3 h4 h5 => PZ.of h1 h3 h5 (.cons () (.cons () (.nil ⟨EnvAll.of h2 ⟨rfl, rfl, trivial⟩, h4⟩)))
        · rintro Fr _
          refine SO.v rfl (opv_nilCheck rfl) ?_
          exact SO.nilZ fun a w h1 h2 h3 h4 h5 => PZ.of h1 h3 h5 (.cons () (.cons () (.nil ⟨EnvAll.of h2 ⟨rfl, rfl, trivial⟩, h4⟩)))
        · rintro Fr _
          refine SO.v rfl (opv_fieldAddr Try.underlying63 rfl Try.sizeOf60 rfl rfl) ?_
          exact SO.nilZ fun a w h1 h2 h3 h4 h5 => PZ.of h1 h3 h5 (.cons () (.cons () (.nil ⟨EnvAll.of h2 ⟨rfl, rfl, trivial⟩, h4⟩)))
        · rintro Fr _ _
          refine SO.load1 rfl Try.isAgg60 rfl rfl ?_
          exact SO.nilZ fun a w h1 h2 h3 h4 h5 => PZ.of h1 h3 h5 (.cons () (.cons () (.cons () (.nil ⟨EnvAll.of h2 ⟨rfl, rfl, trivial⟩, h4⟩))))
        · rintro Fr _
          refine SO.v rfl (opv_move rfl) ?_
          exact SO.nilZ fun a w h1 h2 h3 h4 h5 => PZ.of h1 h3 h5 (.cons () (.cons () (.nil ⟨EnvAll.of h2 ⟨rfl, rfl, trivial⟩, h4⟩)))
        · rintro Fr _
          refine SO.v rfl (opv_add rfl rfl) ?_
          exact SO.nilZ fun a w h1 h2 h3 h4 h5 => PZ.of h1 h3 h5 (.cons () (.cons () (.nil ⟨EnvAll.of h2 ⟨rfl, rfl, trivial⟩, h4⟩)))
        · rintro Fr _
          refine SO.v rfl (opv_move rfl) ?_
          exact SO.nilZ fun a w h1 h2 h3 h4 h5 => PZ.of h1 h3 h5 (.cons () (.cons () (.nil ⟨EnvAll.of h2 ⟨rfl, rfl, trivial⟩, h4⟩)))
        · rintro Fr _
          refine SO.v rfl (opv_move rfl) ?_
          exact SO.nilZ fun a w h1 h2 h3 h4 h5 => PZ.of h1 h3 h5 (.cons () (.cons () (.nil ⟨EnvAll.of h2 ⟨rfl, rfl, trivial⟩, h4⟩)))
        · rintro Fr _ _ _
          refine SO.v rfl (opv_idx Try.underlying55 Try.sizeOf3 hr7 rfl rfl hx74) ?_
          exact SO.nilZ fun a w h1 h2 h3 h4 h5 => PZ.of h1 h3 h5 (.cons () (.cons () (.cons () (.cons () (.nil ⟨EnvAll.of h2 ⟨rfl, rfl, rfl, trivial⟩, h4⟩)))))
        · rintro Fr _ _
          refine SO.loadI1 (j := 0) rfl Try.isAgg3 (Rd.head hr7) hx74 rfl rfl rfl rfl ?_
          exact SO.nilZ fun a w h1 h2 h3 h4 h5 => PZ.of h1 h3 h5 (.cons () (.cons () (.cons () (.nil ⟨EnvAll.of h2 ⟨rfl, rfl, trivial⟩, h4⟩))))
        · rintro Fr _
          refine SO.v rfl (opv_move rfl) ?_
          exact SO.nilZ fun a w h1 h2 h3 h4 h5 => PZ.of h1 h3 h5 (.cons () (.cons () (.nil ⟨EnvAll.of h2 ⟨rfl, rfl, trivial⟩, h4⟩)))
        · rintro Fr _
          refine SO.v rfl (opv_move rfl) ?_
          exact SO.nilZ fun a w h1 h2 h3 h4 h5 => PZ.of h1 h3 h5 (.cons () (.cons () (.nil ⟨EnvAll.of h2 ⟨rfl, rfl, trivial⟩, h4⟩)))
        · rintro Fr _ _
          refine SO.v rfl (opv_add rfl rfl) ?_
          exact SO.nilZ fun a w h1 h2 h3 h4 h5 => PZ.of h1 h3 h5 (.cons () (.cons () (.cons () (.nil ⟨EnvAll.of h2 ⟨rfl, rfl, rfl, trivial⟩, h4⟩))))
        · rintro Fr _ _
          refine SO.v rfl (opv_build (v := .agg #[.int .i64 x73, .int .i64 7, .int .i64 (w64 (a0 + x8_2)), .int .i64 0, .int .i64 0, .int .i64 0]) rfl (by intro w; kernel_rfl)) ?_
          exact SO.nilZ fun a w h1 h2 h3 h4 h5 => PZ.of h1 h3 h5 (.cons () (.cons () (.cons () (.nil ⟨EnvAll.of h2 ⟨rfl, rfl, rfl, trivial⟩, h4⟩))))
        · rintro Fr _ _ _
          refine SO.v rfl (opv_idx Try.underlying60 Try.sizeOf65 hR47 rfl rfl hr78) ?_
          exact SO.nilZ fun a w h1 h2 h3 h4 h5 => PZ.of h1 h3 h5 (.cons () (.cons () (.cons () (.cons () (.nil ⟨EnvAll.of h2 ⟨rfl, rfl, rfl, trivial⟩, h4⟩)))))
        · rintro Fr _ _
          refine SO.v rfl (opv_fieldIdx Try.underlying65 rfl Try.sizeOf45 hR47 hr78 rfl rfl) ?_
          exact SO.nilZ fun a w h1 h2 h3 h4 h5 => PZ.of h1 h3 h5 (.cons () (.cons () (.cons () (.nil ⟨EnvAll.of h2 ⟨rfl, rfl, trivial⟩, h4⟩))))
        · rintro Fr _ _ _
          refine SO.storeOP (j := 0) (us := [.int .i64 x73, .int .i64 7, .int .i64 (w64 (a0 + x8_2)), .int .i64 0, .int .i64 0, .int .i64 0]) (z' := ({ x75 with Cap := (⟨x73, 7, w64 (a0 + x8_2), 0, 0, 0⟩ : api_Cap) } : ref10_Slot)) Try.sizeOf45 hrel46 hx76 rfl rfl rfl rfl rfl rfl rfl (fun raws80 hrel81 hR82 => ?_)
          refine SO.closeR ?_
          exact SO.nilZ fun a w h1 h2 h3 h4 h5 => PZ.of h1 h3 h5 (.cons () (.cons () (.cons () (.nil ⟨EnvAll.of h2 ⟨rfl, rfl, trivial⟩, h4⟩))))
        rintro _ _ _ _ _ _ _ _ _ _ _
        refine S.to (ρ' := [(8, .int .i64 x8_2), (0, .int .i64 a0), (2, .pointer none), (4, bp b5 0), (3, bp b3 0), (5, v6)]) ⟨rfl, rfl, rfl, rfl, rfl, rfl, trivial⟩ ?_
        refine S.inBlock ?_
        refine S.region ?_
        refine SO.v rfl (opv_move rfl) ?_
        refine SO.v rfl (opv_add rfl rfl) ?_
        refine SO.v rfl (opv_assign rfl) ?_
        refine SO.nil ?_
        refine S.b5 ?_
        refine S.b1 ?_
        refine S.b2 ?_
        refine S.b5 ?_
        refine S.b5 ?_
        refine S.b5 ?_
        refine S.to ?_ (ih2 ((w64 (x8_2 + 1), qu4_Objs_2.set (w64 (a0 + x8_2)).toNat t54, qu4_Slots_2.set (w64 (6 + x8_2)).toNat ({ x75 with Cap := (⟨x73, 7, w64 (a0 + x8_2), 0, 0, 0⟩ : api_Cap) } : ref10_Slot)), ()) h)
        exact ⟨rfl, rfl, rfl, rfl, rfl, rfl, trivial⟩
      · replace h := cond_f b72 h
        refine S.condF rfl b72 ?_
        refine S.skip ?_
        refine S.inBlock ?_
        refine S.region ?_
        refine SO.v rfl (opv_move rfl) ?_
        refine SO.v rfl (opv_add rfl rfl) ?_
        refine SO.v rfl (opv_assign rfl) ?_
        refine SO.nil ?_
        refine S.b1 ?_
        refine S.closeR ?_
        refine S.b5 ?_
        refine S.b2 ?_
        refine S.b2 ?_
        refine S.b5 ?_
        refine S.b5 ?_
        refine S.b5 ?_
        refine S.to ?_ (ih2 ((w64 (x8_2 + 1), qu4_Objs_2.set (w64 (a0 + x8_2)).toNat t54, qu4_Slots_2), ()) h)
        exact ⟨rfl, rfl, rfl, rfl, rfl, rfl, trivial⟩
    · replace h := cond_f b43 h
      refine S.condF rfl b43 ?_
      refine S.exit rfl ?_
      cases h
      refine S.b5 ?_
      refine S.b5 ?_
      refine S.b5 ?_
      refine S.b5 ?_
      refine S.b5 ?_
      refine S.b5 ?_
      refine S.to ?_ (hK2 ())
      exact ⟨rfl, rfl, rfl, rfl, trivial⟩
  rintro _
  refine S.seq ?_
  refine S.region ?_
  refine SO.v rfl (opv_move rfl) ?_
  refine SO.v rfl (opv_nilCheck rfl) ?_
  refine SO.v rfl (opv_fieldAddr Try.underlying63 rfl Try.sizeOf61 rfl rfl) ?_
  refine SO.b2 ?_
  refine SO.load1 rfl Try.isAgg61 rfl rfl ?_
  refine SO.v rfl (opv_move rfl) ?_
  refine SO.b4 ?_
  refine SO.openR fun raws88 A89 hrel90 hR91 => ?_
  obtain ⟨x83, hx84, h⟩ := opt_bind h
  obtain ⟨r85, hr86, hc87⟩ := relR.at hrel90 hx84
  refine SO.v rfl (opv_idx Try.underlying61 Try.sizeOf58 hR91 rfl rfl hr86) ?_
  refine SO.v rfl (opv_fieldIdx Try.underlying58 rfl Try.sizeOf3 hR91 hr86 rfl rfl) ?_
  refine SO.storeO1 (j := 4) (q := .val (.int .i64 3)) (z' := ({ x83 with Radix := 3 } : ref10_Obj)) Try.sizeOf3 hrel90 hx84 rfl rfl rfl rfl rfl rfl rfl (fun raws92 hrel93 hR94 => ?_)
  refine SO.nil ?_
  refine S.to (ρ' := [(0, .int .i64 a0), (2, .pointer none), (3, bp b3 0), (4, bp b5 0)]) ⟨rfl, rfl, rfl, rfl, trivial⟩ ?_
  refine S.seq ?_
  refine S.region ?_
  refine SO.v rfl (opv_move rfl) ?_
  refine SO.v rfl (opv_nilCheck rfl) ?_
  refine SO.v rfl (opv_fieldAddr Try.underlying63 rfl Try.sizeOf61 rfl rfl) ?_
  refine SO.b1 ?_
  refine SO.load1 rfl Try.isAgg61 rfl rfl ?_
  refine SO.v rfl (opv_move rfl) ?_
  refine SO.v rfl (opv_add rfl rfl) ?_
  obtain ⟨x95, hx96, h⟩ := opt_bind h
  obtain ⟨r97, hr98, hc99⟩ := relR.at hrel93 hx96
  refine SO.v rfl (opv_idx Try.underlying61 Try.sizeOf58 hR94 rfl rfl hr98) ?_
  refine SO.v rfl (opv_fieldIdx Try.underlying58 rfl Try.sizeOf3 hR94 hr98 rfl rfl) ?_
  refine SO.b1 ?_
  refine SO.storeO1 (j := 3) (q := .val (.int .i64 8)) (z' := ({ x95 with First := 8 } : ref10_Obj)) Try.sizeOf3 hrel93 hx96 rfl rfl rfl rfl rfl rfl rfl (fun raws100 hrel101 hR102 => ?_)
  refine SO.nil ?_
  refine S.to (ρ' := [(0, .int .i64 a0), (2, .pointer none), (3, bp b3 0), (4, bp b5 0)]) ⟨rfl, rfl, rfl, rfl, trivial⟩ ?_
  refine S.seq ?_
  refine S.region ?_
  refine SO.v rfl (opv_move rfl) ?_
  refine SO.v rfl (opv_nilCheck rfl) ?_
  refine SO.v rfl (opv_fieldAddr Try.underlying63 rfl Try.sizeOf61 rfl rfl) ?_
  refine SO.b1 ?_
  refine SO.load1 rfl Try.isAgg61 rfl rfl ?_
  refine SO.v rfl (opv_move rfl) ?_
  refine SO.v rfl (opv_add rfl rfl) ?_
  obtain ⟨x103, hx104, h⟩ := opt_bind h
  obtain ⟨r105, hr106, hc107⟩ := relR.at hrel101 hx104
  refine SO.v rfl (opv_idx Try.underlying61 Try.sizeOf58 hR102 rfl rfl hr106) ?_
  refine SO.v rfl (opv_fieldIdx Try.underlying58 rfl Try.sizeOf3 hR102 hr106 rfl rfl) ?_
  refine SO.b1 ?_
  refine SO.storeO1 (j := 4) (q := .val (.int .i64 5)) (z' := ({ x103 with Radix := 5 } : ref10_Obj)) Try.sizeOf3 hrel101 hx104 rfl rfl rfl rfl rfl rfl rfl (fun raws108 hrel109 hR110 => ?_)
  refine SO.nil ?_
  refine S.to (ρ' := [(0, .int .i64 a0), (2, .pointer none), (3, bp b3 0), (4, bp b5 0)]) ⟨rfl, rfl, rfl, rfl, trivial⟩ ?_
  refine S.seq ?_
  refine S.region ?_
  refine SO.v rfl (opv_move rfl) ?_
  refine SO.v rfl (opv_nilCheck rfl) ?_
  refine SO.v rfl (opv_fieldAddr Try.underlying63 rfl Try.sizeOf61 rfl rfl) ?_
  refine SO.b1 ?_
  refine SO.load1 rfl Try.isAgg61 rfl rfl ?_
  refine SO.v rfl (opv_move rfl) ?_
  refine SO.v rfl (opv_add rfl rfl) ?_
  obtain ⟨x111, hx112, h⟩ := opt_bind h
  obtain ⟨r113, hr114, hc115⟩ := relR.at hrel109 hx112
  refine SO.v rfl (opv_idx Try.underlying61 Try.sizeOf58 hR110 rfl rfl hr114) ?_
  refine SO.v rfl (opv_fieldIdx Try.underlying58 rfl Try.sizeOf3 hR110 hr114 rfl rfl) ?_
  refine SO.b1 ?_
  refine SO.storeO1 (j := 1) (q := .val (.int .i64 200)) (z' := ({ x111 with Size := 200 } : ref10_Obj)) Try.sizeOf3 hrel109 hx112 rfl rfl rfl rfl rfl rfl rfl (fun raws116 hrel117 hR118 => ?_)
  refine SO.nil ?_
  refine S.to (ρ' := [(0, .int .i64 a0), (2, .pointer none), (3, bp b3 0), (4, bp b5 0)]) ⟨rfl, rfl, rfl, rfl, trivial⟩ ?_
  refine S.seq ?_
  refine S.region ?_
  refine SO.v rfl (opv_move rfl) ?_
  refine SO.v rfl (opv_nilCheck rfl) ?_
  refine SO.v rfl (opv_fieldAddr Try.underlying63 rfl Try.sizeOf60 rfl rfl) ?_
  refine SO.b1 ?_
  refine SO.load1 rfl Try.isAgg60 rfl rfl ?_
  refine SO.v rfl (opv_move rfl) ?_
  refine SO.v rfl (opv_add rfl rfl) ?_
  refine SO.v rfl (opv_build (v := .agg #[.int .i64 2, .int .i64 7, .int .i64 (w64 (a0 + 1)), .int .i64 0, .int .i64 0, .int .i64 0]) rfl (by intro w; kernel_rfl)) ?_
  refine SO.b4 ?_
  refine SO.openR fun raws124 A125 hrel126 hR127 => ?_
  obtain ⟨x119, hx120, h⟩ := opt_bind h
  obtain ⟨r121, hr122, hc123⟩ := relR.at hrel126 hx120
  refine SO.v rfl (opv_idx Try.underlying60 Try.sizeOf65 hR127 rfl rfl hr122) ?_
  refine SO.v rfl (opv_fieldIdx Try.underlying65 rfl Try.sizeOf45 hR127 hr122 rfl rfl) ?_
  refine SO.storeOP (j := 0) (us := [.int .i64 2, .int .i64 7, .int .i64 (w64 (a0 + 1)), .int .i64 0, .int .i64 0, .int .i64 0]) (z' := ({ x119 with Cap := (⟨2, 7, w64 (a0 + 1), 0, 0, 0⟩ : api_Cap) } : ref10_Slot)) Try.sizeOf45 hrel126 hx120 rfl rfl rfl rfl rfl rfl rfl (fun raws128 hrel129 hR130 => ?_)
  refine SO.nil ?_
  refine S.to (ρ' := [(0, .int .i64 a0), (2, .pointer none), (3, bp b3 0), (4, bp b5 0)]) ⟨rfl, rfl, rfl, rfl, trivial⟩ ?_
  refine S.seq ?_
  obtain ⟨x131, hx132, h⟩ := opt_bind h
  obtain ⟨r133, hr134, hc135⟩ := relR.at hrel129 hx132
  refine S.draw' (Z := fun Q => ∀ (_ : Unit) (_ : Unit) (_ : Unit) (_ : Unit) (_ : Unit) (_ : Unit) (_ : Unit) (_ : Unit), Q [(0, .int .i64 a0), (2, .pointer none), (3, bp b3 0)] [OwnR 65 kr_ref10_Slot u4_Slots ((qu4_Slots_e2.set (0 : Int).toNat ({ x119 with Cap := (⟨2, 7, w64 (a0 + 1), 0, 0, 0⟩ : api_Cap) } : ref10_Slot)).set (1 : Int).toNat ({ x131 with Cap := (⟨2, 7, a0, 0, 0, 8⟩ : api_Cap) } : ref10_Slot)), Box b3 [u4_Slots, u4_Objs, .int .i64 t1.NS, .int .i64 t1.NO], OwnO 58 kr_ref10_Obj u4_Objs raws116 A89 ((((qu4_Objs_e2.set a0.toNat ({ x83 with Radix := 3 } : ref10_Obj)).set (w64 (a0 + 1)).toNat ({ x95 with First := 8 } : ref10_Obj)).set (w64 (a0 + 1)).toNat ({ x103 with Radix := 5 } : ref10_Obj)).set (w64 (a0 + 2)).toNat ({ x111 with Size := 200 } : ref10_Obj)), Own 3 (ekI .i64) v6 ([2, 2, 1, 3, 4, 8, 7, 6]), Box b5 [.int .i64 2, .int .i64 7, .int .i64 a0, .int .i64 0, .int .i64 0, .int .i64 8], F]) (T := [tS 3 (bp b3 0), tS 4 (bp b5 0), tE [(0, .int .i64 a0), (2, .pointer none)], tR (OwnO 65 kr_ref10_Slot u4_Slots raws128 A125 (qu4_Slots_e2.set (0 : Int).toNat ({ x119 with Cap := (⟨2, 7, w64 (a0 + 1), 0, 0, 0⟩ : api_Cap) } : ref10_Slot))), tR (Box b3 [u4_Slots, u4_Objs, .int .i64 t1.NS, .int .i64 t1.NO]), tR (OwnO 58 kr_ref10_Obj u4_Objs raws116 A89 ((((qu4_Objs_e2.set a0.toNat ({ x83 with Radix := 3 } : ref10_Obj)).set (w64 (a0 + 1)).toNat ({ x95 with First := 8 } : ref10_Obj)).set (w64 (a0 + 1)).toNat ({ x103 with Radix := 5 } : ref10_Obj)).set (w64 (a0 + 2)).toNat ({ x111 with Size := 200 } : ref10_Obj))), tR (Own 3 (ekI .i64) v6 ([2, 2, 1, 3, 4, 8, 7, 6])), tR (Box b5 [.int .i64 2, .int .i64 7, .int .i64 a0, .int .i64 0, .int .i64 0, .int .i64 8]), tR (F), tS 114 (bp b3 0), tS 115 (bp b3 0), tS 116 (bp b3 0), tS 117 (u4_Slots), tS 118 (.agg #[.int .i64 2, .int .i64 7, .int .i64 a0, .int .i64 0, .int .i64 0, .int .i64 8]), tS 119 (idxp u4_Slots ((1 : Int).toNat * kr_ref10_Slot.sz)), tS 120 (idxp u4_Slots ((1 : Int).toNat * kr_ref10_Slot.sz)), tR (OwnR 65 kr_ref10_Slot u4_Slots ((qu4_Slots_e2.set (0 : Int).toNat ({ x119 with Cap := (⟨2, 7, w64 (a0 + 1), 0, 0, 0⟩ : api_Cap) } : ref10_Slot)).set (1 : Int).toNat ({ x131 with Cap := (⟨2, 7, a0, 0, 0, 8⟩ : api_Cap) } : ref10_Slot)))]) (D := [⟨[0], [], [9]⟩, ⟨[9], [], [10]⟩, ⟨[10], [], [11]⟩, ⟨[11, 4], [], [12]⟩, ⟨[1, 7], [], [13]⟩, ⟨[12, 3], [], [14]⟩, ⟨[14, 3], [], [15]⟩, ⟨[13, 15], [3], [16]⟩]) (ini := [0, 1, 2, 3, 4, 5, 6, 7, 8]) (fin := [2, 0, 16, 4, 5, 6, 7, 8]) (bf := [[], [0], [0, 1], [0, 1, 2], [], [0, 1, 2, 3, 4], [0, 1, 2, 3, 4, 5], [0, 1, 2, 3, 4, 5, 6]]) (by kernel_rfl) (by kernel_rfl) (fun x w h1 h2 => (.cons () (.cons () (.cons () (.cons () (.cons () (.cons () (.cons () (.cons () (.cons () (.nil ⟨EnvAll.of h1 ⟨rfl, rfl, rfl, rfl, trivial⟩, h2⟩))))))))))) (fun Q => by kernel_rfl) ⟨?_, ?_, ?_, ?_, ?_, ?_, ?_, ?_, trivial⟩ ?_
  · rintro Fr _
    refine SO.v rfl (opv_move rfl) ?_
    exact SO.nilZ fun a w h1 h2 h3 h4 h5 => PZ.of h1 h3 h5 (.cons () (.cons () (.nil ⟨EnvAll.of h2 ⟨rfl, rfl, trivial⟩, h4⟩)))
  · rintro Fr _
    refine SO.v rfl (opv_nilCheck rfl) ?_
    exact SO.nilZ fun a w h1 h2 h3 h4 h5 => PZ.of h1 h3 h5 (.cons () (.cons () (.nil ⟨EnvAll.of h2 ⟨rfl, rfl, trivial⟩, h4⟩)))
  · rintro Fr _
    refine SO.v rfl (opv_fieldAddr Try.underlying63 rfl Try.sizeOf60 rfl rfl) ?_
    exact SO.nilZ fun a w h1 h2 h3 h4 h5 => PZ.of h1 h3 h5 (.cons () (.cons () (.nil ⟨EnvAll.of h2 ⟨rfl, rfl, trivial⟩, h4⟩)))
  · rintro Fr _ _
    refine SO.load1 rfl Try.isAgg60 rfl rfl ?_
    exact SO.nilZ fun a w h1 h2 h3 h4 h5 => PZ.of h1 h3 h5 (.cons () (.cons () (.cons () (.nil ⟨EnvAll.of h2 ⟨rfl, rfl, trivial⟩, h4⟩))))
  · rintro Fr _ _
    refine SO.loadN rfl Try.isAgg45 Try.sizeOf45 rfl rfl rfl ?_
    exact SO.nilZ fun a w h1 h2 h3 h4 h5 => PZ.of h1 h3 h5 (.cons () (.cons () (.cons () (.nil ⟨EnvAll.of h2 ⟨rfl, rfl, trivial⟩, h4⟩))))
  · rintro Fr _ _
    refine SO.v rfl (opv_idx Try.underlying60 Try.sizeOf65 hR130 rfl rfl hr134) ?_
    exact SO.nilZ fun a w h1 h2 h3 h4 h5 => PZ.of h1 h3 h5 (.cons () (.cons () (.cons () (.nil ⟨EnvAll.of h2 ⟨rfl, rfl, trivial⟩, h4⟩))))
  · rintro Fr _ _
    refine SO.v rfl (opv_fieldIdx Try.underlying65 rfl Try.sizeOf45 hR130 hr134 rfl rfl) ?_
    exact SO.nilZ fun a w h1 h2 h3 h4 h5 => PZ.of h1 h3 h5 (.cons () (.cons () (.cons () (.nil ⟨EnvAll.of h2 ⟨rfl, rfl, trivial⟩, h4⟩))))
  · rintro Fr _ _ _
    refine SO.storeOP (j := 0) (us := [.int .i64 2, .int .i64 7, .int .i64 a0, .int .i64 0, .int .i64 0, .int .i64 8]) (z' := ({ x131 with Cap := (⟨2, 7, a0, 0, 0, 8⟩ : api_Cap) } : ref10_Slot)) Try.sizeOf45 hrel129 hx132 rfl rfl rfl rfl rfl rfl rfl (fun raws136 hrel137 hR138 => ?_)
    refine SO.closeR ?_
    exact SO.nilZ fun a w h1 h2 h3 h4 h5 => PZ.of h1 h3 h5 (.cons () (.cons () (.cons () (.nil ⟨EnvAll.of h2 ⟨rfl, rfl, trivial⟩, h4⟩))))
  rintro _ _ _ _ _ _ _ _
  refine S.to (ρ' := [(0, .int .i64 a0), (2, .pointer none), (3, bp b3 0)]) ⟨rfl, rfl, rfl, trivial⟩ ?_
  refine S.seq ?_
  refine S.region ?_
  refine SO.v rfl (opv_move rfl) ?_
  refine SO.v rfl (opv_nilCheck rfl) ?_
  refine SO.v rfl (opv_fieldAddr Try.underlying63 rfl Try.sizeOf3 rfl rfl) ?_
  refine SO.b1 ?_
  refine SO.store1 Try.sizeOf3 rfl rfl rfl rfl ?_
  refine SO.nil ?_
  refine S.seq ?_
  refine S.region ?_
  refine SO.v rfl (opv_move rfl) ?_
  refine SO.v rfl (opv_move rfl) ?_
  refine SO.v rfl (opv_add rfl rfl) ?_
  refine SO.v rfl (opv_nilCheck rfl) ?_
  refine SO.v rfl (opv_fieldAddr Try.underlying63 rfl Try.sizeOf3 rfl rfl) ?_
  refine SO.store1 Try.sizeOf3 rfl rfl rfl rfl ?_
  refine SO.nil ?_
  refine S.to (ρ' := [(2, .pointer none), (3, bp b3 0)]) ⟨rfl, rfl, trivial⟩ ?_
  refine S.seq ?_
  refine S.region ?_
  refine SO.v rfl (opv_move rfl) ?_
  refine SO.v rfl (opv_assign rfl) ?_
  refine SO.nil ?_
  cases h
  refine S.b2 ?_
  refine S.closeR ?_
  refine S.b3 ?_
  refine S.drop ?_
  refine S.b3 ?_
  refine S.drop ?_
  refine S.b3 ?_
  refine S.b1 ?_
  refine S.b3 ?_
  refine S.b3 ?_
  exact S.ret1 Try.func6 rfl rfl (fun w hs hk => hR w _ _ ⟨b3, u4_Slots, u4_Objs, rfl, rfl⟩ hs hk)
end Go.Proofs
namespace Go.Proofs
open Go.Sl Go.RowKit
/-! 23 padstone/padstoneref01.Word -/
def ref01_Word.f (a0 : api_Cap) : Option (Int) :=
  some (wu64 ((wu64 ((wu64 ((wu64 ((wu64 ((wu64 a0.Kind) + (wu64 (16 * (wu64 a0.Rights))))) + (wu64 (128 * (wu64 a0.Obj))))) + (wu64 (4096 * (wu64 a0.Badge))))) + (wu64 (268435456 * (wu64 a0.Bits))))) + (wu64 (4294967296 * (wu64 a0.Guard)))))
set_option maxHeartbeats 8000000 in
set_option maxRecDepth 100000 in
theorem ref01_Word.ct (a0 : api_Cap) (r0 : Int) (h : ref01_Word.f a0 = some r0) :
    Ct Try.prog 23 [.agg #[.int .i64 a0.Kind, .int .i64 a0.Rights, .int .i64 a0.Obj, .int .i64 a0.Badge, .int .i64 a0.Guard, .int .i64 a0.Bits]] (fun _ => True) [] (fun u H' => u = .int .u64 r0 ∧ H' = []) := by
  unfold ref01_Word.f at h
  refine Ct.intro (n := 31) Try.func23 rfl rfl rfl ?_
  intro R w0 F hF hR
  refine S.seq ?_
  refine S.region ?_
  refine SO.box rfl rfl rfl (fun b1 => ?_)
  refine SO.v rfl (opv_assign rfl) ?_
  refine SO.nil ?_
  refine S.seq ?_
  refine S.region ?_
  refine SO.v rfl (opv_fieldAddr Try.underlying45 rfl Try.sizeOf3 rfl rfl) ?_
  refine SO.load1 rfl Try.isAgg3 rfl rfl ?_
  refine SO.v rfl (opv_conv Try.underlying3 Try.underlying66 rfl) ?_
  refine SO.v rfl (opv_fieldAddr Try.underlying45 rfl Try.sizeOf3 rfl rfl) ?_
  refine SO.load1 rfl Try.isAgg3 rfl rfl ?_
  refine SO.v rfl (opv_conv Try.underlying3 Try.underlying66 rfl) ?_
  refine SO.v rfl (opv_mul rfl rfl) ?_
  refine SO.v rfl (opv_add rfl rfl) ?_
  refine SO.v rfl (opv_fieldAddr Try.underlying45 rfl Try.sizeOf3 rfl rfl) ?_
  refine SO.load1 rfl Try.isAgg3 rfl rfl ?_
  refine SO.v rfl (opv_conv Try.underlying3 Try.underlying66 rfl) ?_
  refine SO.v rfl (opv_mul rfl rfl) ?_
  refine SO.v rfl (opv_add rfl rfl) ?_
  refine SO.v rfl (opv_fieldAddr Try.underlying45 rfl Try.sizeOf3 rfl rfl) ?_
  refine SO.load1 rfl Try.isAgg3 rfl rfl ?_
  refine SO.v rfl (opv_conv Try.underlying3 Try.underlying66 rfl) ?_
  refine SO.v rfl (opv_mul rfl rfl) ?_
  refine SO.v rfl (opv_add rfl rfl) ?_
  refine SO.v rfl (opv_fieldAddr Try.underlying45 rfl Try.sizeOf3 rfl rfl) ?_
  refine SO.load1 rfl Try.isAgg3 rfl rfl ?_
  refine SO.v rfl (opv_conv Try.underlying3 Try.underlying66 rfl) ?_
  refine SO.v rfl (opv_mul rfl rfl) ?_
  refine SO.v rfl (opv_add rfl rfl) ?_
  refine SO.v rfl (opv_fieldAddr Try.underlying45 rfl Try.sizeOf3 rfl rfl) ?_
  refine SO.load1 rfl Try.isAgg3 rfl rfl ?_
  refine SO.v rfl (opv_conv Try.underlying3 Try.underlying66 rfl) ?_
  refine SO.v rfl (opv_mul rfl rfl) ?_
  refine SO.v rfl (opv_add rfl rfl) ?_
  refine SO.v rfl (opv_assign rfl) ?_
  refine SO.nil ?_
  refine S.to (ρ' := [(2, .int .u64 (wu64 ((wu64 ((wu64 ((wu64 ((wu64 ((wu64 a0.Kind) + (wu64 (16 * (wu64 a0.Rights))))) + (wu64 (128 * (wu64 a0.Obj))))) + (wu64 (4096 * (wu64 a0.Badge))))) + (wu64 (268435456 * (wu64 a0.Bits))))) + (wu64 (4294967296 * (wu64 a0.Guard))))))]) ⟨rfl, trivial⟩ ?_
  cases h
  refine S.drop ?_
  exact S.ret1 Try.func23 rfl rfl (fun w hs hk => hR w _ _ ⟨rfl, rfl⟩ hs hk)
end Go.Proofs
