/- What the functions that CallBack reaches come to, and that they do. On no condition. -/
import Derived.Test.YtnkgafjmladidaaSlDraw
import Derived.Test.YtnkgafjmladidaaProg
set_option linter.all false
namespace Go.Proofs
open Go.Sl Go.RowKit
theorem inf3 : Try.prog.info? 3 = some Try.t3 := by kernel_rfl
theorem inf48 : Try.prog.info? 48 = some Try.t48 := by kernel_rfl
structure api_Call where
  Op : Int
  Cap : Int
  A : Int
  B : Int
  C : Int
  D : Int
  deriving DecidableEq, Inhabited
def ek_api_Call : EK api_Call := ⟨6, fun x => [.int .i64 x.Op, .int .i64 x.Cap, .int .i64 x.A, .int .i64 x.B, .int .i64 x.C, .int .i64 x.D], fun _ => rfl, fun x v hv => by
  simp only [List.mem_cons, List.not_mem_nil, or_false] at hv
  rcases hv with rfl | rfl | rfl | rfl | rfl | rfl <;> rfl, by decide⟩
theorem eqI_api_Call (x y : api_Call) : eqI [x.Op, x.Cap, x.A, x.B, x.C, x.D] [y.Op, y.Cap, y.A, y.B, y.C, y.D] = decide (x = y) := by
  cases x; cases y
  rw [Bool.eq_iff_iff]
  simp [eqI]
theorem fi_api_Call : ∀ fs, Try.prog.underlying 42 = some (.struct fs) → FI Try.prog fs.toList 0 [.i64, .i64, .i64, .i64, .i64, .i64] := by
  intro fs h
  rw [Try.underlying42] at h
  injection h with h
  injection h with h
  subst h
  exact ⟨by decide, Try.underlying3, rfl, ⟨by decide, Try.underlying3, rfl, ⟨by decide, Try.underlying3, rfl, ⟨by decide, Try.underlying3, rfl, ⟨by decide, Try.underlying3, rfl, ⟨by decide, Try.underlying3, rfl, trivial⟩⟩⟩⟩⟩⟩
theorem eq_eql_api_Call {ρ : Env} {t2 : TypeId} {x y : api_Call} {a b : Operand} (ha : ev ρ a = some (.agg (encI [.i64, .i64, .i64, .i64, .i64, .i64] [x.Op, x.Cap, x.A, x.B, x.C, x.D]).toArray)) (hb : ev ρ b = some (.agg (encI [.i64, .i64, .i64, .i64, .i64, .i64] [y.Op, y.Cap, y.A, y.B, y.C, y.D]).toArray)) : OpV Try.prog ρ (.binOp .eql 42 a b t2) (.bool (decide (x = y))) :=
  opv_eqlS Try.underlying42 Try.stoodInHeld42 Try.eqGuardType42 (fi_api_Call _ Try.underlying42) rfl rfl ha hb (by rw [eqI_api_Call])
theorem eq_neq_api_Call {ρ : Env} {t2 : TypeId} {x y : api_Call} {a b : Operand} (ha : ev ρ a = some (.agg (encI [.i64, .i64, .i64, .i64, .i64, .i64] [x.Op, x.Cap, x.A, x.B, x.C, x.D]).toArray)) (hb : ev ρ b = some (.agg (encI [.i64, .i64, .i64, .i64, .i64, .i64] [y.Op, y.Cap, y.A, y.B, y.C, y.D]).toArray)) : OpV Try.prog ρ (.binOp .neq 42 a b t2) (.bool (!decide (x = y))) :=
  opv_neqS Try.underlying42 Try.stoodInHeld42 Try.eqGuardType42 (fi_api_Call _ Try.underlying42) rfl rfl ha hb (by rw [eqI_api_Call])
structure api_Reply where
  Code : Int
  Word : Int
  Badge : Int
  deriving DecidableEq, Inhabited
def ek_api_Reply : EK api_Reply := ⟨3, fun x => [.int .i64 x.Code, .int .i64 x.Word, .int .i64 x.Badge], fun _ => rfl, fun x v hv => by
  simp only [List.mem_cons, List.not_mem_nil, or_false] at hv
  rcases hv with rfl | rfl | rfl <;> rfl, by decide⟩
theorem eqI_api_Reply (x y : api_Reply) : eqI [x.Code, x.Word, x.Badge] [y.Code, y.Word, y.Badge] = decide (x = y) := by
  cases x; cases y
  rw [Bool.eq_iff_iff]
  simp [eqI]
theorem fi_api_Reply : ∀ fs, Try.prog.underlying 82 = some (.struct fs) → FI Try.prog fs.toList 0 [.i64, .i64, .i64] := by
  intro fs h
  rw [Try.underlying82] at h
  injection h with h
  injection h with h
  subst h
  exact ⟨by decide, Try.underlying3, rfl, ⟨by decide, Try.underlying3, rfl, ⟨by decide, Try.underlying3, rfl, trivial⟩⟩⟩
theorem eq_eql_api_Reply {ρ : Env} {t2 : TypeId} {x y : api_Reply} {a b : Operand} (ha : ev ρ a = some (.agg (encI [.i64, .i64, .i64] [x.Code, x.Word, x.Badge]).toArray)) (hb : ev ρ b = some (.agg (encI [.i64, .i64, .i64] [y.Code, y.Word, y.Badge]).toArray)) : OpV Try.prog ρ (.binOp .eql 82 a b t2) (.bool (decide (x = y))) :=
  opv_eqlS Try.underlying82 Try.stoodInHeld82 Try.eqGuardType82 (fi_api_Reply _ Try.underlying82) rfl rfl ha hb (by rw [eqI_api_Reply])
theorem eq_neq_api_Reply {ρ : Env} {t2 : TypeId} {x y : api_Reply} {a b : Operand} (ha : ev ρ a = some (.agg (encI [.i64, .i64, .i64] [x.Code, x.Word, x.Badge]).toArray)) (hb : ev ρ b = some (.agg (encI [.i64, .i64, .i64] [y.Code, y.Word, y.Badge]).toArray)) : OpV Try.prog ρ (.binOp .neq 82 a b t2) (.bool (!decide (x = y))) :=
  opv_neqS Try.underlying82 Try.stoodInHeld82 Try.eqGuardType82 (fi_api_Reply _ Try.underlying82) rfl rfl ha hb (by rw [eqI_api_Reply])
structure api_Cap where
  Kind : Int
  Rights : Int
  Obj : Int
  Badge : Int
  Guard : Int
  Bits : Int
  deriving DecidableEq, Inhabited
def ek_api_Cap : EK api_Cap := ⟨6, fun x => [.int .i64 x.Kind, .int .i64 x.Rights, .int .i64 x.Obj, .int .i64 x.Badge, .int .i64 x.Guard, .int .i64 x.Bits], fun _ => rfl, fun x v hv => by
  simp only [List.mem_cons, List.not_mem_nil, or_false] at hv
  rcases hv with rfl | rfl | rfl | rfl | rfl | rfl <;> rfl, by decide⟩
theorem eqI_api_Cap (x y : api_Cap) : eqI [x.Kind, x.Rights, x.Obj, x.Badge, x.Guard, x.Bits] [y.Kind, y.Rights, y.Obj, y.Badge, y.Guard, y.Bits] = decide (x = y) := by
  cases x; cases y
  rw [Bool.eq_iff_iff]
  simp [eqI]
theorem fi_api_Cap : ∀ fs, Try.prog.underlying 53 = some (.struct fs) → FI Try.prog fs.toList 0 [.i64, .i64, .i64, .i64, .i64, .i64] := by
  intro fs h
  rw [Try.underlying53] at h
  injection h with h
  injection h with h
  subst h
  exact ⟨by decide, Try.underlying3, rfl, ⟨by decide, Try.underlying3, rfl, ⟨by decide, Try.underlying3, rfl, ⟨by decide, Try.underlying3, rfl, ⟨by decide, Try.underlying3, rfl, ⟨by decide, Try.underlying3, rfl, trivial⟩⟩⟩⟩⟩⟩
theorem eq_eql_api_Cap {ρ : Env} {t2 : TypeId} {x y : api_Cap} {a b : Operand} (ha : ev ρ a = some (.agg (encI [.i64, .i64, .i64, .i64, .i64, .i64] [x.Kind, x.Rights, x.Obj, x.Badge, x.Guard, x.Bits]).toArray)) (hb : ev ρ b = some (.agg (encI [.i64, .i64, .i64, .i64, .i64, .i64] [y.Kind, y.Rights, y.Obj, y.Badge, y.Guard, y.Bits]).toArray)) : OpV Try.prog ρ (.binOp .eql 53 a b t2) (.bool (decide (x = y))) :=
  opv_eqlS Try.underlying53 Try.stoodInHeld53 Try.eqGuardType53 (fi_api_Cap _ Try.underlying53) rfl rfl ha hb (by rw [eqI_api_Cap])
theorem eq_neq_api_Cap {ρ : Env} {t2 : TypeId} {x y : api_Cap} {a b : Operand} (ha : ev ρ a = some (.agg (encI [.i64, .i64, .i64, .i64, .i64, .i64] [x.Kind, x.Rights, x.Obj, x.Badge, x.Guard, x.Bits]).toArray)) (hb : ev ρ b = some (.agg (encI [.i64, .i64, .i64, .i64, .i64, .i64] [y.Kind, y.Rights, y.Obj, y.Badge, y.Guard, y.Bits]).toArray)) : OpV Try.prog ρ (.binOp .neq 53 a b t2) (.bool (!decide (x = y))) :=
  opv_neqS Try.underlying53 Try.stoodInHeld53 Try.eqGuardType53 (fi_api_Cap _ Try.underlying53) rfl rfl ha hb (by rw [eqI_api_Cap])
end Go.Proofs
namespace Go.Proofs
open Go.Sl Go.RowKit
/-! 64 padstone/call.Get$1 -/
def call_Get_1.f (a0 : Int) : Option (Int) :=
  some (w64 (band .u64 a0 4294967295))
set_option maxHeartbeats 8000000 in
set_option maxRecDepth 100000 in
theorem call_Get_1.ct (a0 : Int) (r0 : Int) (h : call_Get_1.f a0 = some r0) :
    Ct Try.prog 64 [.int .u64 a0] (fun _ => True) [] (fun u H' => u = .int .i64 r0 ∧ H' = []) := by
  unfold call_Get_1.f at h
  refine Ct.intro (n := 6) Try.func64 rfl rfl rfl ?_
  intro R w0 F hF hR
  refine S.seq ?_
  refine S.region ?_
  refine SO.v rfl (opv_assign rfl) ?_
  refine SO.nil ?_
  refine S.seq ?_
  refine S.region ?_
  refine SO.v rfl (opv_move rfl) ?_
  refine SO.v rfl (opv_and rfl rfl) ?_
  refine SO.v rfl (opv_conv Try.underlying27 Try.underlying3 rfl) ?_
  refine SO.v rfl (opv_assign rfl) ?_
  refine SO.nil ?_
  cases h
  exact S.ret1 Try.func64 rfl rfl (fun w hs hk => hR w _ _ ⟨rfl, rfl⟩ hs hk)
end Go.Proofs
namespace Go.Proofs
open Go.Sl Go.RowKit
/-! 65 padstone/call.Get$2 -/
def call_Get_2.f (a0 : Int) : Option (Int) :=
  some (w64 (bshr .u64 a0 32))
set_option maxHeartbeats 8000000 in
set_option maxRecDepth 100000 in
theorem call_Get_2.ct (a0 : Int) (r0 : Int) (h : call_Get_2.f a0 = some r0) :
    Ct Try.prog 65 [.int .u64 a0] (fun _ => True) [] (fun u H' => u = .int .i64 r0 ∧ H' = []) := by
  unfold call_Get_2.f at h
  refine Ct.intro (n := 6) Try.func65 rfl rfl rfl ?_
  intro R w0 F hF hR
  refine S.seq ?_
  refine S.region ?_
  refine SO.v rfl (opv_assign rfl) ?_
  refine SO.nil ?_
  refine S.seq ?_
  refine S.region ?_
  refine SO.v rfl (opv_move rfl) ?_
  refine SO.v rfl (opv_shr rfl rfl (by decide)) ?_
  refine SO.v rfl (opv_conv Try.underlying27 Try.underlying3 rfl) ?_
  refine SO.v rfl (opv_assign rfl) ?_
  refine SO.nil ?_
  cases h
  exact S.ret1 Try.func65 rfl rfl (fun w hs hk => hR w _ _ ⟨rfl, rfl⟩ hs hk)
end Go.Proofs
namespace Go.Proofs
open Go.Sl Go.RowKit
/-! 63 padstone/call.in -/
def call_in.f (a0 : Int) (a1 : Int) : Option (Bool) :=
  some ((decide (0 ≤ a0)) && (decide (a0 ≤ a1)))
set_option maxHeartbeats 8000000 in
set_option maxRecDepth 100000 in
theorem call_in.ct (a0 : Int) (a1 : Int) (r0 : Bool) (h : call_in.f a0 a1 = some r0) :
    Ct Try.prog 63 [.int .i64 a0, .int .i64 a1] (fun _ => True) [] (fun u H' => u = .bool r0 ∧ H' = []) := by
  unfold call_in.f at h
  refine Ct.intro (n := 12) Try.func63 rfl rfl rfl ?_
  intro R w0 F hF hR
  refine S.seq ?_
  refine S.region ?_
  refine SO.v rfl (opv_assign rfl) ?_
  refine SO.nil ?_
  refine S.seq ?_
  refine S.region ?_
  refine SO.v rfl (opv_move rfl) ?_
  refine SO.v rfl (opv_geq rfl rfl) ?_
  refine SO.v rfl (opv_move rfl) ?_
  refine SO.cut 4 11 (.bool ((decide (0 ≤ a0)) && (decide (a0 ≤ a1)))) [F] (fun l2 hk2 => ?_) ?_
  · rcases bool_or (decide (0 ≤ a0)) with b1 | b1
    · refine SO.takeT rfl rfl rfl b1 ?_
      refine SO.v rfl (opv_move rfl) ?_
      refine SO.takeT rfl rfl rfl b1 ?_
      refine SO.v rfl (opv_move rfl) ?_
      refine SO.takeT rfl rfl rfl b1 ?_
      refine SO.v rfl (opv_leq rfl rfl) ?_
      refine SO.v rfl (opv_pick_t' b1 rfl rfl) ?_
      exact hk2.fitc (m := 4) rfl (and_t b1) rfl
    · refine SO.passF rfl rfl rfl b1 rfl rfl ?_
      refine SO.passF rfl rfl rfl b1 rfl rfl ?_
      refine SO.passF rfl rfl rfl b1 rfl rfl ?_
      refine SO.v rfl (opv_pick_f' b1 rfl rfl) ?_
      exact hk2.fitc (m := 4) rfl (and_f b1) rfl
  refine SO.v rfl (opv_assign rfl) ?_
  refine SO.nil ?_
  cases h
  exact S.ret1 Try.func63 rfl rfl (fun w hs hk => hR w _ _ ⟨rfl, rfl⟩ hs hk)
end Go.Proofs
namespace Go.Proofs
open Go.Sl Go.RowKit
/-! 28 padstone/call.May -/
def call_May.f (a0 : api_Call) : Option (Bool) :=
  (bif (decide (1 ≤ a0.Op)) && (decide (a0.Op ≤ 22)) then ((call_in.f a0.Cap 65535).bind fun t6 => some t6) else (some false)).bind fun c4 => (bif c4 then ((call_in.f a0.A 2147483647).bind fun t11 => some t11) else (some false)).bind fun c9 => (bif c9 then ((call_in.f a0.B 2147483647).bind fun t16 => some t16) else (some false)).bind fun c14 => (bif c14 then ((call_in.f a0.C 2147483647).bind fun t21 => some t21) else (some false)).bind fun c19 => (bif c19 then ((call_in.f a0.D 2147483647).bind fun t26 => some t26) else (some false)).bind fun c24 => some c24
set_option maxHeartbeats 8000000 in
set_option maxRecDepth 100000 in
theorem call_May.ct (a0 : api_Call) (r0 : Bool) (h : call_May.f a0 = some r0) :
    Ct Try.prog 28 [.agg #[.int .i64 a0.Op, .int .i64 a0.Cap, .int .i64 a0.A, .int .i64 a0.B, .int .i64 a0.C, .int .i64 a0.D]] (fun _ => True) [] (fun u H' => u = .bool r0 ∧ H' = []) := by
  unfold call_May.f at h
  refine Ct.intro (n := 36) Try.func28 rfl rfl rfl ?_
  intro R w0 F hF hR
  refine S.seq ?_
  refine S.region ?_
  refine SO.box rfl rfl rfl (fun b1 => ?_)
  refine SO.v rfl (opv_assign rfl) ?_
  refine SO.nil ?_
  refine S.seq ?_
  refine S.region ?_
  refine SO.v rfl (opv_fieldAddr Try.underlying42 rfl Try.sizeOf3 rfl rfl) ?_
  refine SO.load1 rfl Try.isAgg3 rfl rfl ?_
  refine SO.v rfl (opv_geq rfl rfl) ?_
  refine SO.v rfl (opv_move rfl) ?_
  refine SO.cut 4 10 (.bool ((decide (1 ≤ a0.Op)) && (decide (a0.Op ≤ 22)))) [Box b1 [.int .i64 a0.Op, .int .i64 a0.Cap, .int .i64 a0.A, .int .i64 a0.B, .int .i64 a0.C, .int .i64 a0.D], F] (fun l2 hk2 => ?_) ?_
  · rcases bool_or (decide (1 ≤ a0.Op)) with b2 | b2
    · refine SO.takeT rfl rfl rfl b2 ?_
      refine SO.v rfl (opv_fieldAddr Try.underlying42 rfl Try.sizeOf3 rfl rfl) ?_
      refine SO.takeT rfl rfl rfl b2 ?_
      refine SO.load1 rfl Try.isAgg3 rfl rfl ?_
      refine SO.takeT rfl rfl rfl b2 ?_
      refine SO.v rfl (opv_leq rfl rfl) ?_
      refine SO.v rfl (opv_pick_t' b2 rfl rfl) ?_
      refine SO.b1 ?_
      refine SO.b1 ?_
      exact hk2.fitc (m := 4) rfl (and_t b2) rfl
    · refine SO.passF rfl rfl rfl b2 rfl rfl ?_
      refine SO.passF rfl rfl rfl b2 rfl rfl ?_
      refine SO.passF rfl rfl rfl b2 rfl rfl ?_
      refine SO.v rfl (opv_pick_f' b2 rfl rfl) ?_
      refine SO.b1 ?_
      refine SO.b1 ?_
      exact hk2.fitc (m := 4) rfl (and_f b2) rfl
  refine SO.v rfl (opv_move rfl) ?_
  obtain ⟨c4, hc5, hgk⟩ := opt_bind h
  refine SO.cut 4 15 (.bool c4) [Box b1 [.int .i64 a0.Op, .int .i64 a0.Cap, .int .i64 a0.A, .int .i64 a0.B, .int .i64 a0.C, .int .i64 a0.D], F] (fun l2 hk2 => ?_) ?_
  · clear hgk
    replace h := hc5
    rcases bool_or ((decide (1 ≤ a0.Op)) && (decide (a0.Op ≤ 22))) with b3 | b3
    · replace h := cond_t b3 h
      refine SO.takeT rfl rfl rfl b3 ?_
      refine SO.v rfl (opv_fieldAddr Try.underlying42 rfl Try.sizeOf3 rfl rfl) ?_
      refine SO.takeT rfl rfl rfl b3 ?_
      refine SO.load1 rfl Try.isAgg3 rfl rfl ?_
      refine SO.takeT rfl rfl rfl b3 ?_
      obtain ⟨t6, ht7, h⟩ := opt_bind h
      refine SO.call (pre := []) rfl Try.call63 rfl rfl rfl (call_in.ct _ _ _ ht7) trivial ?_
      rintro _ _ ⟨rfl, rfl⟩
      cases h
      refine SO.v rfl (opv_pick_t' b3 rfl rfl) ?_
      refine SO.b1 ?_
      refine SO.b1 ?_
      exact hk2.fitc (m := 4) rfl (rfl) rfl
    · replace h := cond_f b3 h
      refine SO.passF rfl rfl rfl b3 rfl rfl ?_
      refine SO.passF rfl rfl rfl b3 rfl rfl ?_
      refine SO.passF rfl rfl rfl b3 rfl rfl ?_
      cases h
      refine SO.v rfl (opv_pick_f' b3 rfl rfl) ?_
      refine SO.b1 ?_
      refine SO.b1 ?_
      exact hk2.fitc (m := 4) rfl (rfl) rfl
  clear hc5
  replace h := hgk
  refine SO.v rfl (opv_move rfl) ?_
  obtain ⟨c9, hc10, hgk⟩ := opt_bind h
  refine SO.cut 4 20 (.bool c9) [Box b1 [.int .i64 a0.Op, .int .i64 a0.Cap, .int .i64 a0.A, .int .i64 a0.B, .int .i64 a0.C, .int .i64 a0.D], F] (fun l2 hk2 => ?_) ?_
  · clear hgk
    replace h := hc10
    rcases bool_or c4 with b8 | b8
    · replace h := cond_t b8 h
      refine SO.takeT rfl rfl rfl b8 ?_
      refine SO.v rfl (opv_fieldAddr Try.underlying42 rfl Try.sizeOf3 rfl rfl) ?_
      refine SO.takeT rfl rfl rfl b8 ?_
      refine SO.load1 rfl Try.isAgg3 rfl rfl ?_
      refine SO.takeT rfl rfl rfl b8 ?_
      obtain ⟨t11, ht12, h⟩ := opt_bind h
      refine SO.call (pre := []) rfl Try.call63 rfl rfl rfl (call_in.ct _ _ _ ht12) trivial ?_
      rintro _ _ ⟨rfl, rfl⟩
      cases h
      refine SO.v rfl (opv_pick_t' b8 rfl rfl) ?_
      refine SO.b1 ?_
      refine SO.b1 ?_
      exact hk2.fitc (m := 4) rfl (rfl) rfl
    · replace h := cond_f b8 h
      refine SO.passF rfl rfl rfl b8 rfl rfl ?_
      refine SO.passF rfl rfl rfl b8 rfl rfl ?_
      refine SO.passF rfl rfl rfl b8 rfl rfl ?_
      cases h
      refine SO.v rfl (opv_pick_f' b8 rfl rfl) ?_
      refine SO.b1 ?_
      refine SO.b1 ?_
      exact hk2.fitc (m := 4) rfl (rfl) rfl
  clear hc10
  replace h := hgk
  refine SO.v rfl (opv_move rfl) ?_
  obtain ⟨c14, hc15, hgk⟩ := opt_bind h
  refine SO.cut 4 25 (.bool c14) [Box b1 [.int .i64 a0.Op, .int .i64 a0.Cap, .int .i64 a0.A, .int .i64 a0.B, .int .i64 a0.C, .int .i64 a0.D], F] (fun l2 hk2 => ?_) ?_
  · clear hgk
    replace h := hc15
    rcases bool_or c9 with b13 | b13
    · replace h := cond_t b13 h
      refine SO.takeT rfl rfl rfl b13 ?_
      refine SO.v rfl (opv_fieldAddr Try.underlying42 rfl Try.sizeOf3 rfl rfl) ?_
      refine SO.takeT rfl rfl rfl b13 ?_
      refine SO.load1 rfl Try.isAgg3 rfl rfl ?_
      refine SO.takeT rfl rfl rfl b13 ?_
      obtain ⟨t16, ht17, h⟩ := opt_bind h
      refine SO.call (pre := []) rfl Try.call63 rfl rfl rfl (call_in.ct _ _ _ ht17) trivial ?_
      rintro _ _ ⟨rfl, rfl⟩
      cases h
      refine SO.v rfl (opv_pick_t' b13 rfl rfl) ?_
      refine SO.b1 ?_
      refine SO.b1 ?_
      exact hk2.fitc (m := 4) rfl (rfl) rfl
    · replace h := cond_f b13 h
      refine SO.passF rfl rfl rfl b13 rfl rfl ?_
      refine SO.passF rfl rfl rfl b13 rfl rfl ?_
      refine SO.passF rfl rfl rfl b13 rfl rfl ?_
      cases h
      refine SO.v rfl (opv_pick_f' b13 rfl rfl) ?_
      refine SO.b1 ?_
      refine SO.b1 ?_
      exact hk2.fitc (m := 4) rfl (rfl) rfl
  clear hc15
  replace h := hgk
  refine SO.v rfl (opv_move rfl) ?_
  obtain ⟨c19, hc20, hgk⟩ := opt_bind h
  refine SO.cut 4 30 (.bool c19) [Box b1 [.int .i64 a0.Op, .int .i64 a0.Cap, .int .i64 a0.A, .int .i64 a0.B, .int .i64 a0.C, .int .i64 a0.D], F] (fun l2 hk2 => ?_) ?_
  · clear hgk
    replace h := hc20
    rcases bool_or c14 with b18 | b18
    · replace h := cond_t b18 h
      refine SO.takeT rfl rfl rfl b18 ?_
      refine SO.v rfl (opv_fieldAddr Try.underlying42 rfl Try.sizeOf3 rfl rfl) ?_
      refine SO.takeT rfl rfl rfl b18 ?_
      refine SO.load1 rfl Try.isAgg3 rfl rfl ?_
      refine SO.takeT rfl rfl rfl b18 ?_
      obtain ⟨t21, ht22, h⟩ := opt_bind h
      refine SO.call (pre := []) rfl Try.call63 rfl rfl rfl (call_in.ct _ _ _ ht22) trivial ?_
      rintro _ _ ⟨rfl, rfl⟩
      cases h
      refine SO.v rfl (opv_pick_t' b18 rfl rfl) ?_
      refine SO.b1 ?_
      refine SO.b1 ?_
      exact hk2.fitc (m := 4) rfl (rfl) rfl
    · replace h := cond_f b18 h
      refine SO.passF rfl rfl rfl b18 rfl rfl ?_
      refine SO.passF rfl rfl rfl b18 rfl rfl ?_
      refine SO.passF rfl rfl rfl b18 rfl rfl ?_
      cases h
      refine SO.v rfl (opv_pick_f' b18 rfl rfl) ?_
      refine SO.b1 ?_
      refine SO.b1 ?_
      exact hk2.fitc (m := 4) rfl (rfl) rfl
  clear hc20
  replace h := hgk
  refine SO.v rfl (opv_move rfl) ?_
  obtain ⟨c24, hc25, hgk⟩ := opt_bind h
  refine SO.cut 4 35 (.bool c24) [Box b1 [.int .i64 a0.Op, .int .i64 a0.Cap, .int .i64 a0.A, .int .i64 a0.B, .int .i64 a0.C, .int .i64 a0.D], F] (fun l2 hk2 => ?_) ?_
  · clear hgk
    replace h := hc25
    rcases bool_or c19 with b23 | b23
    · replace h := cond_t b23 h
      refine SO.takeT rfl rfl rfl b23 ?_
      refine SO.v rfl (opv_fieldAddr Try.underlying42 rfl Try.sizeOf3 rfl rfl) ?_
      refine SO.takeT rfl rfl rfl b23 ?_
      refine SO.load1 rfl Try.isAgg3 rfl rfl ?_
      refine SO.takeT rfl rfl rfl b23 ?_
      obtain ⟨t26, ht27, h⟩ := opt_bind h
      refine SO.call (pre := []) rfl Try.call63 rfl rfl rfl (call_in.ct _ _ _ ht27) trivial ?_
      rintro _ _ ⟨rfl, rfl⟩
      cases h
      refine SO.v rfl (opv_pick_t' b23 rfl rfl) ?_
      refine SO.b1 ?_
      refine SO.b1 ?_
      exact hk2.fitc (m := 4) rfl (rfl) rfl
    · replace h := cond_f b23 h
      refine SO.passF rfl rfl rfl b23 rfl rfl ?_
      refine SO.passF rfl rfl rfl b23 rfl rfl ?_
      refine SO.passF rfl rfl rfl b23 rfl rfl ?_
      cases h
      refine SO.v rfl (opv_pick_f' b23 rfl rfl) ?_
      refine SO.b1 ?_
      refine SO.b1 ?_
      exact hk2.fitc (m := 4) rfl (rfl) rfl
  clear hc25
  replace h := hgk
  refine SO.v rfl (opv_assign rfl) ?_
  refine SO.nil ?_
  refine S.to (ρ' := [(2, .bool c24)]) ⟨rfl, trivial⟩ ?_
  cases h
  refine S.drop ?_
  exact S.ret1 Try.func28 rfl rfl (fun w hs hk => hR w _ _ ⟨rfl, rfl⟩ hs hk)
end Go.Proofs
namespace Go.Proofs
open Go.Sl Go.RowKit
/-! 29 padstone/call.Get -/
def call_Get.f (a0 : List Int) : Option (api_Call × (Option Int)) :=
  bif (a0.length : Int) != 3 then (some ((⟨0, 0, 0, 0, 0, 0⟩ : api_Call), (some 1))) else ((at_ a0 0).bind fun x3 => (at_ a0 1).bind fun x5 => (call_Get_1.f x5).bind fun t7 => (at_ a0 1).bind fun x9 => (call_Get_2.f x9).bind fun t11 => (at_ a0 2).bind fun x13 => (call_Get_1.f x13).bind fun t15 => (at_ a0 2).bind fun x17 => (call_Get_2.f x17).bind fun t19 => (at_ a0 0).bind fun x22 => bif decide (65536 ≤ (bshr .u64 x22 8)) then (some ((⟨0, 0, 0, 0, 0, 0⟩ : api_Call), (some 1))) else ((call_May.f (⟨w64 (band .u64 x3 255), w64 (bshr .u64 x22 8), t7, t11, t15, t19⟩ : api_Call)).bind fun t25 => bif !t25 then (some ((⟨0, 0, 0, 0, 0, 0⟩ : api_Call), (some 1))) else (some ((⟨w64 (band .u64 x3 255), w64 (bshr .u64 x22 8), t7, t11, t15, t19⟩ : api_Call), none))))
set_option maxHeartbeats 8000000 in
set_option maxRecDepth 100000 in
theorem call_Get.ct (v0 : Value) (a0 : List Int) (r0 : api_Call) (r1 : Option Int) (h : call_Get.f a0 = some (r0, r1)) :
    Ct Try.prog 29 [v0] (fun F => Rd (ekI .u64) v0 a0 F) [] (fun u H' => u = .tuple #[.agg #[.int .i64 r0.Op, .int .i64 r0.Cap, .int .i64 r0.A, .int .i64 r0.B, .int .i64 r0.C, .int .i64 r0.D], errV 48 r1] ∧ H' = []) := by
  unfold call_Get.f at h
  refine Ct.intro (n := 56) Try.func29 rfl rfl rfl ?_
  intro R w0 F hF hR
  have hF0 := hF
  refine S.seq ?_
  refine S.region ?_
  refine SO.alloc rfl Try.zeroValue42 rfl (fun b1 => ?_)
  refine SO.v rfl (opv_assign rfl) ?_
  refine SO.nil ?_
  refine S.seq ?_
  refine S.seq ?_
  refine S.region ?_
  refine SO.v rfl (opv_move rfl) ?_
  refine SO.v rfl (opv_lenR rfl Try.underlying26 hF0 rfl) ?_
  refine SO.v rfl (opv_neq rfl rfl) ?_
  refine SO.nil ?_
  rcases bool_or ((a0.length : Int) != 3) with b2 | b2
  · replace h := cond_t b2 h
    refine S.condT rfl b2 ?_
    refine S.seq ?_
    refine S.region ?_
    refine SO.v rfl (opv_build (v := .agg #[.int .i64 0, .int .i64 0, .int .i64 0, .int .i64 0, .int .i64 0, .int .i64 0]) rfl (by intro w; kernel_rfl)) ?_
    refine SO.v rfl (opv_iface Try.underlying48 rfl rfl) ?_
    refine SO.storeN Try.sizeOf42 rfl rfl rfl rfl rfl rfl ?_
    refine SO.v rfl (opv_assign rfl) ?_
    refine SO.nil ?_
    cases h
    refine S.b1 ?_
    refine S.b1 ?_
    exact S.retC1 Try.func29 rfl rfl rfl Try.isAgg42 Try.sizeOf42 rfl rfl (fun w hs hk => hR w _ _ ⟨rfl, rfl⟩ hs.drop hk)
  · replace h := cond_f b2 h
    refine S.condF rfl b2 ?_
    refine S.skip ?_
    refine S.seq ?_
    refine S.region ?_
    refine SO.v rfl (opv_assign rfl) ?_
    refine SO.nil ?_
    refine S.seq ?_
    refine S.region ?_
    refine SO.v rfl (opv_assign rfl) ?_
    refine SO.nil ?_
    refine S.seq ?_
    obtain ⟨x3, hx4, h⟩ := opt_bind h
    obtain ⟨x5, hx6, h⟩ := opt_bind h
    obtain ⟨t7, ht8, h⟩ := opt_bind h
    obtain ⟨x9, hx10, h⟩ := opt_bind h
    obtain ⟨t11, ht12, h⟩ := opt_bind h
    obtain ⟨x13, hx14, h⟩ := opt_bind h
    obtain ⟨t15, ht16, h⟩ := opt_bind h
    obtain ⟨x17, hx18, h⟩ := opt_bind h
    obtain ⟨t19, ht20, h⟩ := opt_bind h
    refine S.draw' (Z := fun Q => ∀ (_ : Unit) (_ : Unit) (b21 : Nat) (_ : Unit) (_ : Unit), Q [(0, v0), (3, errV 48 none), (2, bp b1 0), (6, bp b21 0)] [Box b21 [.int .i64 (w64 (band .u64 x3 255)), .int .i64 0, .int .i64 t7, .int .i64 t11, .int .i64 t15, .int .i64 t19], Box b1 [.int .i64 0, .int .i64 0, .int .i64 0, .int .i64 0, .int .i64 0, .int .i64 0], F]) (T := [tS 0 (v0), tS 4 (.func (.func 64) #[] #[]), tS 5 (.func (.func 65) #[] #[]), tE [(3, errV 48 none), (2, bp b1 0)], tR (Box b1 [.int .i64 0, .int .i64 0, .int .i64 0, .int .i64 0, .int .i64 0, .int .i64 0]), tR (F), tS 13 (v0), tS 14 (idxp v0 ((0 : Int).toNat * (ekI .u64).sz)), tS 15 (.int .u64 x3), tS 16 (.int .u64 (band .u64 x3 255)), tS 17 (.int .i64 (w64 (band .u64 x3 255))), tS 18 (.func (.func 64) #[] #[]), tS 19 (v0), tS 20 (idxp v0 ((1 : Int).toNat * (ekI .u64).sz)), tS 21 (.int .u64 x5), tS 22 (.int .i64 t7), tS 23 (.func (.func 65) #[] #[]), tS 24 (v0), tS 25 (idxp v0 ((1 : Int).toNat * (ekI .u64).sz)), tS 26 (.int .u64 x9), tS 27 (.int .i64 t11), tS 28 (.func (.func 64) #[] #[]), tS 29 (v0), tS 30 (idxp v0 ((2 : Int).toNat * (ekI .u64).sz)), tS 31 (.int .u64 x13), tS 32 (.int .i64 t15), tS 33 (.func (.func 65) #[] #[]), tS 34 (v0), tS 35 (idxp v0 ((2 : Int).toNat * (ekI .u64).sz)), tS 36 (.int .u64 x17), tS 37 (.int .i64 t19), tS 38 (.agg #[.int .i64 (w64 (band .u64 x3 255)), .int .i64 0, .int .i64 t7, .int .i64 t11, .int .i64 t15, .int .i64 t19]), ⟨Nat, [6], (fun b21 => [(6, bp b21 0)]), (fun b21 => [Box b21 [.int .i64 0, .int .i64 0, .int .i64 0, .int .i64 0, .int .i64 0, .int .i64 0]]), fun _ => rfl⟩, ⟨Nat, [6], (fun b21 => [(6, bp b21 0)]), (fun b21 => [Box b21 [.int .i64 (w64 (band .u64 x3 255)), .int .i64 0, .int .i64 t7, .int .i64 t11, .int .i64 t15, .int .i64 t19]]), fun _ => rfl⟩]) (D := [⟨[0], [], [6]⟩, ⟨[6, 5], [], [7]⟩, ⟨[7, 5], [], [8]⟩, ⟨[8], [], [9]⟩, ⟨[9], [], [10]⟩, ⟨[1], [], [11]⟩, ⟨[0], [], [12]⟩, ⟨[12, 5], [], [13]⟩, ⟨[13, 5], [], [14]⟩, ⟨[11, 14], [], [15]⟩, ⟨[2], [], [16]⟩, ⟨[0], [], [17]⟩, ⟨[17, 5], [], [18]⟩, ⟨[18, 5], [], [19]⟩, ⟨[16, 19], [], [20]⟩, ⟨[1], [], [21]⟩, ⟨[0], [], [22]⟩, ⟨[22, 5], [], [23]⟩, ⟨[23, 5], [], [24]⟩, ⟨[21, 24], [], [25]⟩, ⟨[2], [], [26]⟩, ⟨[0], [], [27]⟩, ⟨[27, 5], [], [28]⟩, ⟨[28, 5], [], [29]⟩, ⟨[26, 29], [], [30]⟩, ⟨[10, 15, 20, 25, 30], [], [31]⟩, ⟨[], [], [32]⟩, ⟨[31], [32], [33]⟩]) (ini := [0, 1, 2, 3, 4, 5]) (fin := [0, 3, 33, 4, 5]) (bf := [[], [0], [0, 1], [0, 1, 2], [0, 1, 2, 3], [], [], [6], [6, 7], [5, 6, 7, 8], [], [], [11], [11, 12], [5, 6, 7, 8, 9, 10, 11, 12, 13], [], [], [16], [16, 17], [5, 6, 7, 8, 9, 10, 11, 12, 13, 14, 15, 16, 17, 18], [], [], [21], [21, 22], [5, 6, 7, 8, 9, 10, 11, 12, 13, 14, 15, 16, 17, 18, 19, 20, 21, 22, 23], [0, 1, 2, 3, 4, 5, 6, 7, 8, 9, 10, 11, 12, 13, 14, 15, 16, 17, 18, 19, 20, 21, 22, 23, 24], [], [0, 1, 2, 3, 4, 5, 6, 7, 8, 9, 10, 11, 12, 13, 14, 15, 16, 17, 18, 19, 20, 21, 22, 23, 24, 25, 26]]) (by kernel_rfl) (by kernel_rfl) (fun x w h1 h2 => (.cons () (.cons () (.cons () (.cons () (.cons () (.cons () (.nil ⟨EnvAll.of h1 ⟨rfl, rfl, rfl, rfl, rfl, trivial⟩, h2⟩)))))))) (fun Q => by kernel_rfl) ⟨?_, ?_, ?_, ?_, ?_, ?_, ?_, ?_, ?_, ?_, ?_, ?_, ?_, ?_, ?_, ?_, ?_, ?_, ?_, ?_, ?_, ?_, ?_, ?_, ?_, ?_, ?_, ?_, trivial⟩ ?_
    · rintro Fr _
      refine SO.v rfl (opv_move rfl) ?_
      exact SO.nilZ fun a w h1 h2 h3 h4 h5 => PZ.of h1 h3 h5 (.cons () (.cons () (.nil ⟨EnvAll.of h2 ⟨rfl, rfl, trivial⟩, h4⟩)))
    · rintro Fr _ _
      refine SO.v rfl (opv_idx Try.underlying26 Try.sizeOf27 hF0 rfl rfl hx4) ?_
      exact SO.nilZ fun a w h1 h2 h3 h4 h5 => PZ.of h1 h3 h5 (.cons () (.cons () (.cons () (.nil ⟨EnvAll.of h2 ⟨rfl, rfl, trivial⟩, h4⟩))))
    · rintro Fr _ _
      refine SO.loadI1 (j := 0) rfl Try.isAgg27 (Rd.head hF0) hx4 rfl rfl rfl rfl ?_
      exact SO.nilZ fun a w h1 h2 h3 h4 h5 => PZ.of h1 h3 h5 (.cons () (.cons () (.cons () (.nil ⟨EnvAll.of h2 ⟨rfl, rfl, trivial⟩, h4⟩))))
    · rintro Fr _
      refine SO.v rfl (opv_and rfl rfl) ?_
      exact SO.nilZ fun a w h1 h2 h3 h4 h5 => PZ.of h1 h3 h5 (.cons () (.cons () (.nil ⟨EnvAll.of h2 ⟨rfl, rfl, trivial⟩, h4⟩)))
    · rintro Fr _
      refine SO.v rfl (opv_conv Try.underlying27 Try.underlying3 rfl) ?_
      exact SO.nilZ fun a w h1 h2 h3 h4 h5 => PZ.of h1 h3 h5 (.cons () (.cons () (.nil ⟨EnvAll.of h2 ⟨rfl, rfl, trivial⟩, h4⟩)))
    · rintro Fr _
      refine SO.v rfl (opv_move rfl) ?_
      exact SO.nilZ fun a w h1 h2 h3 h4 h5 => PZ.of h1 h3 h5 (.cons () (.cons () (.nil ⟨EnvAll.of h2 ⟨rfl, rfl, trivial⟩, h4⟩)))
    · rintro Fr _
      refine SO.v rfl (opv_move rfl) ?_
      exact SO.nilZ fun a w h1 h2 h3 h4 h5 => PZ.of h1 h3 h5 (.cons () (.cons () (.nil ⟨EnvAll.of h2 ⟨rfl, rfl, trivial⟩, h4⟩)))
    · rintro Fr _ _
      refine SO.v rfl (opv_idx Try.underlying26 Try.sizeOf27 hF0 rfl rfl hx6) ?_
      exact SO.nilZ fun a w h1 h2 h3 h4 h5 => PZ.of h1 h3 h5 (.cons () (.cons () (.cons () (.nil ⟨EnvAll.of h2 ⟨rfl, rfl, trivial⟩, h4⟩))))
    · rintro Fr _ _
      refine SO.loadI1 (j := 0) rfl Try.isAgg27 (Rd.head hF0) hx6 rfl rfl rfl rfl ?_
      exact SO.nilZ fun a w h1 h2 h3 h4 h5 => PZ.of h1 h3 h5 (.cons () (.cons () (.cons () (.nil ⟨EnvAll.of h2 ⟨rfl, rfl, trivial⟩, h4⟩))))
    · rintro Fr _ _
      refine SO.call (pre := []) rfl Try.call64 rfl rfl rfl (call_Get_1.ct _ _ ht8) trivial ?_
      rintro _ _ ⟨rfl, rfl⟩
      exact SO.nilZ fun a w h1 h2 h3 h4 h5 => PZ.of h1 h3 h5 (.cons () (.cons () (.cons () (.nil ⟨EnvAll.of h2 ⟨rfl, rfl, rfl, trivial⟩, h4⟩))))
    · rintro Fr _
      refine SO.v rfl (opv_move rfl) ?_
      exact SO.nilZ fun a w h1 h2 h3 h4 h5 => PZ.of h1 h3 h5 (.cons () (.cons () (.nil ⟨EnvAll.of h2 ⟨rfl, rfl, trivial⟩, h4⟩)))
    · rintro Fr _
      refine SO.v rfl (opv_move rfl) ?_
      exact SO.nilZ fun a w h1 h2 h3 h4 h5 => PZ.of h1 h3 h5 (.cons () (.cons () (.nil ⟨EnvAll.of h2 ⟨rfl, rfl, trivial⟩, h4⟩)))
    · rintro Fr _ _
      refine SO.v rfl (opv_idx Try.underlying26 Try.sizeOf27 hF0 rfl rfl hx10) ?_
      exact SO.nilZ fun a w h1 h2 h3 h4 h5 => PZ.of h1 h3 h5 (.cons () (.cons () (.cons () (.nil ⟨EnvAll.of h2 ⟨rfl, rfl, trivial⟩, h4⟩))))
    · rintro Fr _ _
      refine SO.loadI1 (j := 0) rfl Try.isAgg27 (Rd.head hF0) hx10 rfl rfl rfl rfl ?_
      exact SO.nilZ fun a w h1 h2 h3 h4 h5 => PZ.of h1 h3 h5 (.cons () (.cons () (.cons () (.nil ⟨EnvAll.of h2 ⟨rfl, rfl, trivial⟩, h4⟩))))
    · rintro Fr _ _
      refine SO.call (pre := []) rfl Try.call65 rfl rfl rfl (call_Get_2.ct _ _ ht12) trivial ?_
      rintro _ _ ⟨rfl, rfl⟩
      exact SO.nilZ fun a w h1 h2 h3 h4 h5 => PZ.of h1 h3 h5 (.cons () (.cons () (.cons () (.nil ⟨EnvAll.of h2 ⟨rfl, rfl, rfl, trivial⟩, h4⟩))))
    · rintro Fr _
      refine SO.v rfl (opv_move rfl) ?_
      exact SO.nilZ fun a w h1 h2 h3 h4 h5 => PZ.of h1 h3 h5 (.cons () (.cons () (.nil ⟨EnvAll.of h2 ⟨rfl, rfl, trivial⟩, h4⟩)))
    · rintro Fr _
      refine SO.v rfl (opv_move rfl) ?_
      exact SO.nilZ fun a w h1 h2 h3 h4 h5 => PZ.of h1 h3 h5 (.cons () (.cons () (.nil ⟨EnvAll.of h2 ⟨rfl, rfl, trivial⟩, h4⟩)))
    · rintro Fr _ _
      refine SO.v rfl (opv_idx Try.underlying26 Try.sizeOf27 hF0 rfl rfl hx14) ?_
      exact SO.nilZ fun a w h1 h2 h3 h4 h5 => PZ.of h1 h3 h5 (.cons () (.cons () (.cons () (.nil ⟨EnvAll.of h2 ⟨rfl, rfl, trivial⟩, h4⟩))))
    · rintro Fr _ _
      refine SO.loadI1 (j := 0) rfl Try.isAgg27 (Rd.head hF0) hx14 rfl rfl rfl rfl ?_
      exact SO.nilZ fun a w h1 h2 h3 h4 h5 => PZ.of h1 h3 h5 (.cons () (.cons () (.cons () (.nil ⟨EnvAll.of h2 ⟨rfl, rfl, trivial⟩, h4⟩))))
    · rintro Fr _ _
      refine SO.call (pre := []) rfl Try.call64 rfl rfl rfl (call_Get_1.ct _ _ ht16) trivial ?_
      rintro _ _ ⟨rfl, rfl⟩
      exact SO.nilZ fun a w h1 h2 h3 h4 h5 => PZ.of h1 h3 h5 (.cons () (.cons () (.cons () (.nil ⟨EnvAll.of h2 ⟨rfl, rfl, rfl, trivial⟩, h4⟩))))
    · rintro Fr _
      refine SO.v rfl (opv_move rfl) ?_
      exact SO.nilZ fun a w h1 h2 h3 h4 h5 => PZ.of h1 h3 h5 (.cons () (.cons () (.nil ⟨EnvAll.of h2 ⟨rfl, rfl, trivial⟩, h4⟩)))
    · rintro Fr _
      refine SO.v rfl (opv_move rfl) ?_
      exact SO.nilZ fun a w h1 h2 h3 h4 h5 => PZ.of h1 h3 h5 (.cons () (.cons () (.nil ⟨EnvAll.of h2 ⟨rfl, rfl, trivial⟩, h4⟩)))
    · rintro Fr _ _
      refine SO.v rfl (opv_idx Try.underlying26 Try.sizeOf27 hF0 rfl rfl hx18) ?_
      exact SO.nilZ fun a w h1 h2 h3 h4 h5 => PZ.of h1 h3 h5 (.cons () (.cons () (.cons () (.nil ⟨EnvAll.of h2 ⟨rfl, rfl, trivial⟩, h4⟩))))
    · rintro Fr _ _
      refine SO.loadI1 (j := 0) rfl Try.isAgg27 (Rd.head hF0) hx18 rfl rfl rfl rfl ?_
      exact SO.nilZ fun a w h1 h2 h3 h4 h5 => PZ.of h1 h3 h5 (.cons () (.cons () (.cons () (.nil ⟨EnvAll.of h2 ⟨rfl, rfl, trivial⟩, h4⟩))))
    · rintro Fr _ _
      refine SO.call (pre := []) rfl Try.call65 rfl rfl rfl (call_Get_2.ct _ _ ht20) trivial ?_
      rintro _ _ ⟨rfl, rfl⟩
      exact SO.nilZ fun a w h1 h2 h3 h4 h5 => PZ.of h1 h3 h5 (.cons () (.cons () (.cons () (.nil ⟨EnvAll.of h2 ⟨rfl, rfl, rfl, trivial⟩, h4⟩))))
    · rintro Fr _ _ _ _ _
      refine SO.v rfl (opv_build (v := .agg #[.int .i64 (w64 (band .u64 x3 255)), .int .i64 0, .int .i64 t7, .int .i64 t11, .int .i64 t15, .int .i64 t19]) rfl (by intro w; kernel_rfl)) ?_
      exact SO.nilZ fun a w h1 h2 h3 h4 h5 => PZ.of h1 h3 h5 (.cons () (.cons () (.cons () (.cons () (.cons () (.cons () (.nil ⟨EnvAll.of h2 ⟨rfl, rfl, rfl, rfl, rfl, rfl, trivial⟩, h4⟩)))))))
    · rintro Fr 
      refine SO.alloc rfl Try.zeroValue42 rfl (fun b21 => ?_)
      exact SO.nilZ fun a w h1 h2 h3 h4 h5 => PZ.of h1 h3 h5 (.cons b21 (.nil ⟨EnvAll.of h2 ⟨rfl, trivial⟩, h4⟩))
    · rintro Fr _ b21
      refine SO.storeN Try.sizeOf42 rfl rfl rfl rfl rfl rfl ?_
      exact SO.nilZ fun a w h1 h2 h3 h4 h5 => PZ.of h1 h3 h5 (.cons () (.cons b21 (.nil ⟨EnvAll.of h2 ⟨rfl, rfl, trivial⟩, h4⟩)))
    rintro _ _ b21 _ _
    refine S.to (ρ' := [(0, v0), (3, errV 48 none), (2, bp b1 0), (6, bp b21 0)]) ⟨rfl, rfl, rfl, rfl, trivial⟩ ?_
    refine S.seq ?_
    refine S.region ?_
    refine SO.v rfl (opv_move rfl) ?_
    obtain ⟨x22, hx23, h⟩ := opt_bind h
    refine SO.v rfl (opv_idx Try.underlying26 Try.sizeOf27 hF0 rfl rfl hx23) ?_
    refine SO.loadI1 (j := 0) rfl Try.isAgg27 (Rd.tail (Rd.tail (Rd.head hF0))) hx23 rfl rfl rfl rfl ?_
    refine SO.v rfl (opv_shr rfl rfl (by decide)) ?_
    refine SO.v rfl (opv_assign rfl) ?_
    refine SO.nil ?_
    refine S.seq ?_
    refine S.seq ?_
    refine S.region ?_
    refine SO.v rfl (opv_move rfl) ?_
    refine SO.v rfl (opv_geq rfl rfl) ?_
    refine SO.nil ?_
    rcases bool_or (decide (65536 ≤ (bshr .u64 x22 8))) with b24 | b24
    · replace h := cond_t b24 h
      refine S.condT rfl b24 ?_
      refine S.seq ?_
      refine S.region ?_
      refine SO.v rfl (opv_build (v := .agg #[.int .i64 0, .int .i64 0, .int .i64 0, .int .i64 0, .int .i64 0, .int .i64 0]) rfl (by intro w; kernel_rfl)) ?_
      refine SO.v rfl (opv_iface Try.underlying48 rfl rfl) ?_
      refine SO.b1 ?_
      refine SO.storeN Try.sizeOf42 rfl rfl rfl rfl rfl rfl ?_
      refine SO.v rfl (opv_assign rfl) ?_
      refine SO.nil ?_
      refine S.to (ρ' := [(3, errV 48 (some 1)), (2, bp b1 0), (6, bp b21 0), (7, .int .u64 (bshr .u64 x22 8))]) ⟨rfl, rfl, rfl, rfl, trivial⟩ ?_
      cases h
      refine S.b1 ?_
      refine S.drop ?_
      refine S.b1 ?_
      refine S.b1 ?_
      exact S.retC1 Try.func29 rfl rfl rfl Try.isAgg42 Try.sizeOf42 rfl rfl (fun w hs hk => hR w _ _ ⟨rfl, rfl⟩ hs.drop hk)
    · replace h := cond_f b24 h
      refine S.condF rfl b24 ?_
      refine S.skip ?_
      refine S.seq ?_
      refine S.region ?_
      refine SO.v rfl (opv_move rfl) ?_
      refine SO.v rfl (opv_conv Try.underlying27 Try.underlying3 rfl) ?_
      refine SO.v rfl (opv_fieldAddr Try.underlying42 rfl Try.sizeOf3 rfl rfl) ?_
      refine SO.store1 Try.sizeOf3 rfl rfl rfl rfl ?_
      refine SO.nil ?_
      refine S.to (ρ' := [(3, errV 48 none), (2, bp b1 0), (6, bp b21 0)]) ⟨rfl, rfl, rfl, trivial⟩ ?_
      refine S.seq ?_
      refine S.seq ?_
      refine S.region ?_
      refine SO.loadN rfl Try.isAgg42 Try.sizeOf42 rfl rfl rfl ?_
      obtain ⟨t25, ht26, h⟩ := opt_bind h
      have ct28 := call_May.ct _ _ ht26
      dsimp only at ct28
      refine SO.call (pre := []) rfl Try.call28 rfl rfl rfl ct28 trivial ?_
      rintro _ _ ⟨rfl, rfl⟩
      refine SO.v rfl (opv_not rfl) ?_
      refine SO.nil ?_
      rcases bool_or (!t25) with b27 | b27
      · replace h := cond_t b27 h
        refine S.condT rfl b27 ?_
        refine S.seq ?_
        refine S.region ?_
        refine SO.v rfl (opv_build (v := .agg #[.int .i64 0, .int .i64 0, .int .i64 0, .int .i64 0, .int .i64 0, .int .i64 0]) rfl (by intro w; kernel_rfl)) ?_
        refine SO.v rfl (opv_iface Try.underlying48 rfl rfl) ?_
        refine SO.b1 ?_
        refine SO.storeN Try.sizeOf42 rfl rfl rfl rfl rfl rfl ?_
        refine SO.v rfl (opv_assign rfl) ?_
        refine SO.nil ?_
        cases h
        refine S.b1 ?_
        refine S.drop ?_
        refine S.b1 ?_
        refine S.b1 ?_
        exact S.retC1 Try.func29 rfl rfl rfl Try.isAgg42 Try.sizeOf42 rfl rfl (fun w hs hk => hR w _ _ ⟨rfl, rfl⟩ hs.drop hk)
      · replace h := cond_f b27 h
        refine S.condF rfl b27 ?_
        refine S.skip ?_
        refine S.seq ?_
        refine S.region ?_
        refine SO.loadN rfl Try.isAgg42 Try.sizeOf42 rfl rfl rfl ?_
        refine SO.b1 ?_
        refine SO.storeN Try.sizeOf42 rfl rfl rfl rfl rfl rfl ?_
        refine SO.v rfl (opv_assign rfl) ?_
        refine SO.nil ?_
        cases h
        refine S.b1 ?_
        refine S.drop ?_
        refine S.b1 ?_
        refine S.b1 ?_
        exact S.retC1 Try.func29 rfl rfl rfl Try.isAgg42 Try.sizeOf42 rfl rfl (fun w hs hk => hR w _ _ ⟨rfl, rfl⟩ hs.drop hk)
end Go.Proofs
namespace Go.Proofs
open Go.Sl Go.RowKit
/-! 73 padstone/call.fits -/
def call_fits.f (a0 : api_Reply) : Option (Bool) :=
  (call_in.f a0.Code 14).bind fun t2 => (bif t2 then ((call_in.f a0.Word 2147483647).bind fun t7 => some t7) else (some false)).bind fun c5 => (bif c5 then ((call_in.f a0.Badge 65535).bind fun t12 => some t12) else (some false)).bind fun c10 => some c10
set_option maxHeartbeats 8000000 in
set_option maxRecDepth 100000 in
theorem call_fits.ct (a0 : api_Reply) (r0 : Bool) (h : call_fits.f a0 = some r0) :
    Ct Try.prog 73 [.agg #[.int .i64 a0.Code, .int .i64 a0.Word, .int .i64 a0.Badge]] (fun _ => True) [] (fun u H' => u = .bool r0 ∧ H' = []) := by
  unfold call_fits.f at h
  refine Ct.intro (n := 16) Try.func73 rfl rfl rfl ?_
  intro R w0 F hF hR
  refine S.seq ?_
  refine S.region ?_
  refine SO.box rfl rfl rfl (fun b1 => ?_)
  refine SO.v rfl (opv_assign rfl) ?_
  refine SO.nil ?_
  refine S.seq ?_
  refine S.region ?_
  refine SO.v rfl (opv_fieldAddr Try.underlying82 rfl Try.sizeOf3 rfl rfl) ?_
  refine SO.load1 rfl Try.isAgg3 rfl rfl ?_
  obtain ⟨t2, ht3, h⟩ := opt_bind h
  refine SO.call (pre := []) rfl Try.call63 rfl rfl rfl (call_in.ct _ _ _ ht3) trivial ?_
  rintro _ _ ⟨rfl, rfl⟩
  refine SO.v rfl (opv_move rfl) ?_
  obtain ⟨c5, hc6, hgk⟩ := opt_bind h
  refine SO.cut 4 10 (.bool c5) [Box b1 [.int .i64 a0.Code, .int .i64 a0.Word, .int .i64 a0.Badge], F] (fun l2 hk2 => ?_) ?_
  · clear hgk
    replace h := hc6
    rcases bool_or t2 with b4 | b4
    · replace h := cond_t b4 h
      refine SO.takeT rfl rfl rfl b4 ?_
      refine SO.v rfl (opv_fieldAddr Try.underlying82 rfl Try.sizeOf3 rfl rfl) ?_
      refine SO.takeT rfl rfl rfl b4 ?_
      refine SO.load1 rfl Try.isAgg3 rfl rfl ?_
      refine SO.takeT rfl rfl rfl b4 ?_
      obtain ⟨t7, ht8, h⟩ := opt_bind h
      refine SO.call (pre := []) rfl Try.call63 rfl rfl rfl (call_in.ct _ _ _ ht8) trivial ?_
      rintro _ _ ⟨rfl, rfl⟩
      cases h
      refine SO.v rfl (opv_pick_t' b4 rfl rfl) ?_
      refine SO.b1 ?_
      refine SO.b1 ?_
      exact hk2.fitc (m := 4) rfl (rfl) rfl
    · replace h := cond_f b4 h
      refine SO.passF rfl rfl rfl b4 rfl rfl ?_
      refine SO.passF rfl rfl rfl b4 rfl rfl ?_
      refine SO.passF rfl rfl rfl b4 rfl rfl ?_
      cases h
      refine SO.v rfl (opv_pick_f' b4 rfl rfl) ?_
      refine SO.b1 ?_
      refine SO.b1 ?_
      exact hk2.fitc (m := 4) rfl (rfl) rfl
  clear hc6
  replace h := hgk
  refine SO.v rfl (opv_move rfl) ?_
  obtain ⟨c10, hc11, hgk⟩ := opt_bind h
  refine SO.cut 4 15 (.bool c10) [Box b1 [.int .i64 a0.Code, .int .i64 a0.Word, .int .i64 a0.Badge], F] (fun l2 hk2 => ?_) ?_
  · clear hgk
    replace h := hc11
    rcases bool_or c5 with b9 | b9
    · replace h := cond_t b9 h
      refine SO.takeT rfl rfl rfl b9 ?_
      refine SO.v rfl (opv_fieldAddr Try.underlying82 rfl Try.sizeOf3 rfl rfl) ?_
      refine SO.takeT rfl rfl rfl b9 ?_
      refine SO.load1 rfl Try.isAgg3 rfl rfl ?_
      refine SO.takeT rfl rfl rfl b9 ?_
      obtain ⟨t12, ht13, h⟩ := opt_bind h
      refine SO.call (pre := []) rfl Try.call63 rfl rfl rfl (call_in.ct _ _ _ ht13) trivial ?_
      rintro _ _ ⟨rfl, rfl⟩
      cases h
      refine SO.v rfl (opv_pick_t' b9 rfl rfl) ?_
      refine SO.b1 ?_
      refine SO.b1 ?_
      exact hk2.fitc (m := 4) rfl (rfl) rfl
    · replace h := cond_f b9 h
      refine SO.passF rfl rfl rfl b9 rfl rfl ?_
      refine SO.passF rfl rfl rfl b9 rfl rfl ?_
      refine SO.passF rfl rfl rfl b9 rfl rfl ?_
      cases h
      refine SO.v rfl (opv_pick_f' b9 rfl rfl) ?_
      refine SO.b1 ?_
      refine SO.b1 ?_
      exact hk2.fitc (m := 4) rfl (rfl) rfl
  clear hc11
  replace h := hgk
  refine SO.v rfl (opv_assign rfl) ?_
  refine SO.nil ?_
  refine S.to (ρ' := [(2, .bool c10)]) ⟨rfl, trivial⟩ ?_
  cases h
  refine S.drop ?_
  exact S.ret1 Try.func73 rfl rfl (fun w hs hk => hR w _ _ ⟨rfl, rfl⟩ hs hk)
end Go.Proofs
namespace Go.Proofs
open Go.Sl Go.RowKit
/-! 49 padstone/call.Pack -/
def call_Pack.f (a0 : api_Reply) : Option (Int × (Option Int)) :=
  (call_fits.f a0).bind fun t2 => bif !t2 then (some (0, (some 1))) else (some (bor .i64 (bor .i64 a0.Code (bshl .i64 a0.Word 4)) (bshl .i64 a0.Badge 35), none))
set_option maxHeartbeats 8000000 in
set_option maxRecDepth 100000 in
theorem call_Pack.ct (a0 : api_Reply) (r0 : Int) (r1 : Option Int) (h : call_Pack.f a0 = some (r0, r1)) :
    Ct Try.prog 49 [.agg #[.int .i64 a0.Code, .int .i64 a0.Word, .int .i64 a0.Badge]] (fun _ => True) [] (fun u H' => u = .tuple #[.int .i64 r0, errV 48 r1] ∧ H' = []) := by
  unfold call_Pack.f at h
  refine Ct.intro (n := 18) Try.func49 rfl rfl rfl ?_
  intro R w0 F hF hR
  refine S.seq ?_
  refine S.region ?_
  refine SO.box rfl rfl rfl (fun b1 => ?_)
  refine SO.v rfl (opv_assign rfl) ?_
  refine SO.v rfl (opv_assign rfl) ?_
  refine SO.nil ?_
  refine S.seq ?_
  refine S.seq ?_
  refine S.region ?_
  refine SO.loadN rfl Try.isAgg82 Try.sizeOf82 rfl rfl rfl ?_
  obtain ⟨t2, ht3, h⟩ := opt_bind h
  refine SO.call (pre := []) rfl Try.call73 rfl rfl rfl (call_fits.ct _ _ ht3) trivial ?_
  rintro _ _ ⟨rfl, rfl⟩
  refine SO.v rfl (opv_not rfl) ?_
  refine SO.nil ?_
  rcases bool_or (!t2) with b4 | b4
  · replace h := cond_t b4 h
    refine S.condT rfl b4 ?_
    refine S.seq ?_
    refine S.region ?_
    refine SO.v rfl (opv_iface Try.underlying48 rfl rfl) ?_
    refine SO.v rfl (opv_assign rfl) ?_
    refine SO.v rfl (opv_assign rfl) ?_
    refine SO.nil ?_
    cases h
    refine S.drop ?_
    exact S.ret2 Try.func49 rfl rfl rfl (fun w hs hk => hR w _ _ ⟨rfl, rfl⟩ hs hk)
  · replace h := cond_f b4 h
    refine S.condF rfl b4 ?_
    refine S.skip ?_
    refine S.seq ?_
    refine S.region ?_
    refine SO.v rfl (opv_fieldAddr Try.underlying82 rfl Try.sizeOf3 rfl rfl) ?_
    refine SO.load1 rfl Try.isAgg3 rfl rfl ?_
    refine SO.v rfl (opv_fieldAddr Try.underlying82 rfl Try.sizeOf3 rfl rfl) ?_
    refine SO.load1 rfl Try.isAgg3 rfl rfl ?_
    refine SO.v rfl (opv_shl rfl rfl (by decide)) ?_
    refine SO.v rfl (opv_or rfl rfl) ?_
    refine SO.v rfl (opv_fieldAddr Try.underlying82 rfl Try.sizeOf3 rfl rfl) ?_
    refine SO.load1 rfl Try.isAgg3 rfl rfl ?_
    refine SO.v rfl (opv_shl rfl rfl (by decide)) ?_
    refine SO.v rfl (opv_or rfl rfl) ?_
    refine SO.v rfl (opv_assign rfl) ?_
    refine SO.v rfl (opv_assign rfl) ?_
    refine SO.nil ?_
    refine S.to (ρ' := [(2, .int .i64 (bor .i64 (bor .i64 a0.Code (bshl .i64 a0.Word 4)) (bshl .i64 a0.Badge 35))), (3, errV 48 none)]) ⟨rfl, rfl, trivial⟩ ?_
    cases h
    refine S.drop ?_
    exact S.ret2 Try.func49 rfl rfl rfl (fun w hs hk => hR w _ _ ⟨rfl, rfl⟩ hs hk)
end Go.Proofs
namespace Go.Proofs
open Go.Sl Go.RowKit
/-! 27 padstone/call.Put -/
def call_Put.f (a0 : api_Call) : Option ((List Int) × (Option Int)) :=
  (call_May.f a0).bind fun t2 => bif !t2 then (some ([], (some 1))) else (some ([bor .u64 (wu64 a0.Op) (bshl .u64 (wu64 a0.Cap) 8), bor .u64 (wu64 a0.A) (bshl .u64 (wu64 a0.B) 32), bor .u64 (wu64 a0.C) (bshl .u64 (wu64 a0.D) 32)], none))
set_option maxHeartbeats 8000000 in
set_option maxRecDepth 100000 in
theorem call_Put.ct (a0 : api_Call) (r0 : List Int) (r1 : Option Int) (h : call_Put.f a0 = some (r0, r1)) :
    Ct Try.prog 27 [.agg #[.int .i64 a0.Op, .int .i64 a0.Cap, .int .i64 a0.A, .int .i64 a0.B, .int .i64 a0.C, .int .i64 a0.D]] (fun _ => True) [] (fun u H' => ∃ v_r0, u = .tuple #[v_r0, errV 48 r1] ∧ H' = [Own 27 (ekI .u64) v_r0 r0]) := by
  unfold call_Put.f at h
  refine Ct.intro (n := 33) Try.func27 rfl rfl rfl ?_
  intro R w0 F hF hR
  refine S.seq ?_
  refine S.region ?_
  refine SO.box rfl rfl rfl (fun b1 => ?_)
  refine SO.v rfl (opv_assign rfl) ?_
  refine SO.v rfl (opv_assign rfl) ?_
  refine SO.nil ?_
  refine S.seq ?_
  refine S.seq ?_
  refine S.region ?_
  refine SO.loadN rfl Try.isAgg42 Try.sizeOf42 rfl rfl rfl ?_
  obtain ⟨t2, ht3, h⟩ := opt_bind h
  refine SO.call (pre := []) rfl Try.call28 rfl rfl rfl (call_May.ct _ _ ht3) trivial ?_
  rintro _ _ ⟨rfl, rfl⟩
  refine SO.v rfl (opv_not rfl) ?_
  refine SO.nil ?_
  rcases bool_or (!t2) with b4 | b4
  · replace h := cond_t b4 h
    refine S.condT rfl b4 ?_
    refine S.seq ?_
    refine S.region ?_
    refine SO.v rfl (opv_iface Try.underlying48 rfl rfl) ?_
    refine SO.v rfl (opv_assign rfl) ?_
    refine SO.v rfl (opv_assign rfl) ?_
    refine SO.nil ?_
    cases h
    refine S.newOwn 27 (ekI .u64) ?_
    refine S.b1 ?_
    refine S.drop ?_
    refine S.b1 ?_
    refine S.b1 ?_
    exact S.ret2 Try.func27 rfl rfl rfl (fun w hs hk => hR w _ _ ⟨(.slice none 0 0), rfl, rfl⟩ hs hk)
  · replace h := cond_f b4 h
    refine S.condF rfl b4 ?_
    refine S.skip ?_
    refine S.seq ?_
    refine S.region ?_
    refine SO.v rfl (opv_fieldAddr Try.underlying42 rfl Try.sizeOf3 rfl rfl) ?_
    refine SO.load1 rfl Try.isAgg3 rfl rfl ?_
    refine SO.v rfl (opv_conv Try.underlying3 Try.underlying27 rfl) ?_
    refine SO.v rfl (opv_fieldAddr Try.underlying42 rfl Try.sizeOf3 rfl rfl) ?_
    refine SO.load1 rfl Try.isAgg3 rfl rfl ?_
    refine SO.v rfl (opv_conv Try.underlying3 Try.underlying27 rfl) ?_
    refine SO.v rfl (opv_shl rfl rfl (by decide)) ?_
    refine SO.v rfl (opv_or rfl rfl) ?_
    refine SO.v rfl (opv_fieldAddr Try.underlying42 rfl Try.sizeOf3 rfl rfl) ?_
    refine SO.load1 rfl Try.isAgg3 rfl rfl ?_
    refine SO.v rfl (opv_conv Try.underlying3 Try.underlying27 rfl) ?_
    refine SO.v rfl (opv_fieldAddr Try.underlying42 rfl Try.sizeOf3 rfl rfl) ?_
    refine SO.load1 rfl Try.isAgg3 rfl rfl ?_
    refine SO.v rfl (opv_conv Try.underlying3 Try.underlying27 rfl) ?_
    refine SO.v rfl (opv_shl rfl rfl (by decide)) ?_
    refine SO.v rfl (opv_or rfl rfl) ?_
    refine SO.v rfl (opv_fieldAddr Try.underlying42 rfl Try.sizeOf3 rfl rfl) ?_
    refine SO.load1 rfl Try.isAgg3 rfl rfl ?_
    refine SO.v rfl (opv_conv Try.underlying3 Try.underlying27 rfl) ?_
    refine SO.v rfl (opv_fieldAddr Try.underlying42 rfl Try.sizeOf3 rfl rfl) ?_
    refine SO.load1 rfl Try.isAgg3 rfl rfl ?_
    refine SO.v rfl (opv_conv Try.underlying3 Try.underlying27 rfl) ?_
    refine SO.v rfl (opv_shl rfl rfl (by decide)) ?_
    refine SO.v rfl (opv_or rfl rfl) ?_
    refine SO.buildSlice (K := ekI .u64) (xs := [bor .u64 (wu64 a0.Op) (bshl .u64 (wu64 a0.Cap) 8), bor .u64 (wu64 a0.A) (bshl .u64 (wu64 a0.B) 32), bor .u64 (wu64 a0.C) (bshl .u64 (wu64 a0.D) 32)]) (cs := [.int .u64 (bor .u64 (wu64 a0.Op) (bshl .u64 (wu64 a0.Cap) 8)), .int .u64 (bor .u64 (wu64 a0.A) (bshl .u64 (wu64 a0.B) 32)), .int .u64 (bor .u64 (wu64 a0.C) (bshl .u64 (wu64 a0.D) 32))]) rfl Try.underlying26 Try.sizeOf27 Try.zeroValue27 rfl rfl rfl (by kernel_rfl) rfl rfl rfl (fun v5 hr6 => ?_)
    refine SO.v rfl (opv_assign rfl) ?_
    refine SO.v rfl (opv_assign rfl) ?_
    refine SO.nil ?_
    refine S.to (ρ' := [(2, v5), (3, errV 48 none)]) ⟨rfl, rfl, trivial⟩ ?_
    cases h
    refine S.b1 ?_
    refine S.drop ?_
    refine S.b1 ?_
    refine S.b1 ?_
    exact S.ret2 Try.func27 rfl rfl rfl (fun w hs hk => hR w _ _ ⟨v5, rfl, rfl⟩ hs hk)
end Go.Proofs
namespace Go.Proofs
open Go.Sl Go.RowKit
/-! 50 padstone/call.Unpack -/
def call_Unpack.f (a0 : Int) : Option (api_Reply × (Option Int)) :=
  bif decide (a0 < 0) then (some ((⟨0, 0, 0⟩ : api_Reply), (some 1))) else ((call_fits.f (⟨band .i64 a0 15, band .i64 (bshr .i64 a0 4) 2147483647, bshr .i64 a0 35⟩ : api_Reply)).bind fun t4 => bif !t4 then (some ((⟨0, 0, 0⟩ : api_Reply), (some 1))) else (some ((⟨band .i64 a0 15, band .i64 (bshr .i64 a0 4) 2147483647, bshr .i64 a0 35⟩ : api_Reply), none)))
set_option maxHeartbeats 8000000 in
set_option maxRecDepth 100000 in
theorem call_Unpack.ct (a0 : Int) (r0 : api_Reply) (r1 : Option Int) (h : call_Unpack.f a0 = some (r0, r1)) :
    Ct Try.prog 50 [.int .i64 a0] (fun _ => True) [] (fun u H' => u = .tuple #[.agg #[.int .i64 r0.Code, .int .i64 r0.Word, .int .i64 r0.Badge], errV 48 r1] ∧ H' = []) := by
  unfold call_Unpack.f at h
  refine Ct.intro (n := 23) Try.func50 rfl rfl rfl ?_
  intro R w0 F hF hR
  refine S.seq ?_
  refine S.region ?_
  refine SO.alloc rfl Try.zeroValue82 rfl (fun b1 => ?_)
  refine SO.v rfl (opv_assign rfl) ?_
  refine SO.nil ?_
  refine S.seq ?_
  refine S.seq ?_
  refine S.region ?_
  refine SO.v rfl (opv_move rfl) ?_
  refine SO.v rfl (opv_lss rfl rfl) ?_
  refine SO.nil ?_
  rcases bool_or (decide (a0 < 0)) with b2 | b2
  · replace h := cond_t b2 h
    refine S.condT rfl b2 ?_
    refine S.seq ?_
    refine S.region ?_
    refine SO.v rfl (opv_build (v := .agg #[.int .i64 0, .int .i64 0, .int .i64 0]) rfl (by intro w; kernel_rfl)) ?_
    refine SO.v rfl (opv_iface Try.underlying48 rfl rfl) ?_
    refine SO.storeN Try.sizeOf82 rfl rfl rfl rfl rfl rfl ?_
    refine SO.v rfl (opv_assign rfl) ?_
    refine SO.nil ?_
    cases h
    refine S.b1 ?_
    refine S.b1 ?_
    exact S.retC1 Try.func50 rfl rfl rfl Try.isAgg82 Try.sizeOf82 rfl rfl (fun w hs hk => hR w _ _ ⟨rfl, rfl⟩ hs.drop hk)
  · replace h := cond_f b2 h
    refine S.condF rfl b2 ?_
    refine S.skip ?_
    refine S.seq ?_
    refine S.region ?_
    refine SO.v rfl (opv_move rfl) ?_
    refine SO.v rfl (opv_and rfl rfl) ?_
    refine SO.v rfl (opv_move rfl) ?_
    refine SO.v rfl (opv_shr rfl rfl (by decide)) ?_
    refine SO.v rfl (opv_and rfl rfl) ?_
    refine SO.v rfl (opv_move rfl) ?_
    refine SO.v rfl (opv_shr rfl rfl (by decide)) ?_
    refine SO.v rfl (opv_build (v := .agg #[.int .i64 (band .i64 a0 15), .int .i64 (band .i64 (bshr .i64 a0 4) 2147483647), .int .i64 (bshr .i64 a0 35)]) rfl (by intro w; kernel_rfl)) ?_
    refine SO.alloc rfl Try.zeroValue82 rfl (fun b3 => ?_)
    refine SO.storeN Try.sizeOf82 rfl rfl rfl rfl rfl rfl ?_
    refine SO.nil ?_
    refine S.to (ρ' := [(2, bp b1 0), (3, errV 48 none), (4, bp b3 0)]) ⟨rfl, rfl, rfl, trivial⟩ ?_
    refine S.seq ?_
    refine S.seq ?_
    refine S.region ?_
    refine SO.loadN rfl Try.isAgg82 Try.sizeOf82 rfl rfl rfl ?_
    obtain ⟨t4, ht5, h⟩ := opt_bind h
    have ct7 := call_fits.ct _ _ ht5
    dsimp only at ct7
    refine SO.call (pre := []) rfl Try.call73 rfl rfl rfl ct7 trivial ?_
    rintro _ _ ⟨rfl, rfl⟩
    refine SO.v rfl (opv_not rfl) ?_
    refine SO.nil ?_
    rcases bool_or (!t4) with b6 | b6
    · replace h := cond_t b6 h
      refine S.condT rfl b6 ?_
      refine S.seq ?_
      refine S.region ?_
      refine SO.v rfl (opv_build (v := .agg #[.int .i64 0, .int .i64 0, .int .i64 0]) rfl (by intro w; kernel_rfl)) ?_
      refine SO.v rfl (opv_iface Try.underlying48 rfl rfl) ?_
      refine SO.b1 ?_
      refine SO.storeN Try.sizeOf82 rfl rfl rfl rfl rfl rfl ?_
      refine SO.v rfl (opv_assign rfl) ?_
      refine SO.nil ?_
      cases h
      refine S.b1 ?_
      refine S.drop ?_
      refine S.b1 ?_
      refine S.b1 ?_
      exact S.retC1 Try.func50 rfl rfl rfl Try.isAgg82 Try.sizeOf82 rfl rfl (fun w hs hk => hR w _ _ ⟨rfl, rfl⟩ hs.drop hk)
    · replace h := cond_f b6 h
      refine S.condF rfl b6 ?_
      refine S.skip ?_
      refine S.seq ?_
      refine S.region ?_
      refine SO.loadN rfl Try.isAgg82 Try.sizeOf82 rfl rfl rfl ?_
      refine SO.b1 ?_
      refine SO.storeN Try.sizeOf82 rfl rfl rfl rfl rfl rfl ?_
      refine SO.v rfl (opv_assign rfl) ?_
      refine SO.nil ?_
      cases h
      refine S.b1 ?_
      refine S.drop ?_
      refine S.b1 ?_
      refine S.b1 ?_
      exact S.retC1 Try.func50 rfl rfl rfl Try.isAgg82 Try.sizeOf82 rfl rfl (fun w hs hk => hR w _ _ ⟨rfl, rfl⟩ hs.drop hk)
end Go.Proofs
namespace Go.Proofs
open Go.Sl Go.RowKit
/-! 25 padstone/padstonelaw20.up -/
def law20_up.f : Option (Bool) :=
  (call_Put.f (⟨7, 3, 0, 0, 0, 0⟩ : api_Call)).bind fun (t1, t2) => (call_Get.f ([])).bind fun (t6, t7) => (call_Pack.f (⟨5, 1, 0⟩ : api_Reply)).bind fun (t10, t11) => (bif t2.isNone && ((t1.length : Int) == 3) then ((at_ t1 0).bind fun x17 => some (x17 == 775)) else (some false)).bind fun c15 => (bif ((c15 && (t7 == some 1)) && (t10 == 21)) && t11.isNone then ((call_May.f (⟨1, 0, 0, 0, 0, 0⟩ : api_Call)).bind fun t25 => some t25) else (some false)).bind fun c23 => (bif c23 then ((call_May.f (⟨0, 0, 0, 0, 0, 0⟩ : api_Call)).bind fun t31 => some (!t31)) else (some false)).bind fun c29 => some c29
set_option maxHeartbeats 8000000 in
set_option maxRecDepth 100000 in
theorem law20_up.ct (r0 : Bool) (h : law20_up.f  = some r0) :
    Ct Try.prog 25 [] (fun _ => True) [] (fun u H' => u = .bool r0 ∧ H' = []) := by
  unfold law20_up.f at h
  refine Ct.intro (n := 56) Try.func25 rfl rfl rfl ?_
  intro R w0 F hF hR
  refine S.seq ?_
  refine S.region ?_
  refine SO.v rfl (opv_assign rfl) ?_
  refine SO.nil ?_
  refine S.seq ?_
  refine S.region ?_
  refine SO.v rfl (opv_build (v := .agg #[.int .i64 7, .int .i64 3, .int .i64 0, .int .i64 0, .int .i64 0, .int .i64 0]) rfl (by intro w; kernel_rfl)) ?_
  obtain ⟨⟨t1, t2⟩, ht3, h⟩ := opt_bind h
  have ct35 := call_Put.ct _ _ _ ht3
  dsimp only at ct35
  refine SO.call (pre := []) rfl Try.call27 rfl rfl rfl ct35 trivial ?_
  rintro _ _ ⟨v4, rfl, rfl⟩
  refine SO.rd fun hr5 => ?_
  refine SO.v rfl (opv_move rfl) ?_
  refine SO.v rfl (opv_extract rfl rfl) ?_
  refine SO.v rfl (opv_extract rfl rfl) ?_
  refine SO.v rfl (opv_assign rfl) ?_
  refine SO.v rfl (opv_assign rfl) ?_
  refine SO.nil ?_
  refine S.seq ?_
  refine S.region ?_
  obtain ⟨⟨t6, t7⟩, ht8, h⟩ := opt_bind h
  refine SO.call (pre := []) rfl Try.call29 rfl rfl rfl (call_Get.ct _ _ _ _ ht8) ⟨none, 0, rfl, fun _ _ h => by simp at h⟩ ?_
  rintro _ _ ⟨rfl, rfl⟩
  refine SO.v rfl (opv_move rfl) ?_
  refine SO.v rfl (opv_extract rfl rfl) ?_
  refine SO.v rfl (opv_extract rfl rfl) ?_
  refine SO.alloc rfl Try.zeroValue42 rfl (fun b9 => ?_)
  refine SO.storeN Try.sizeOf42 rfl rfl rfl rfl rfl rfl ?_
  refine SO.v rfl (opv_assign rfl) ?_
  refine SO.nil ?_
  refine S.to (ρ' := [(0, .bool false), (1, v4), (2, errV 48 t2), (4, errV 48 t7)]) ⟨rfl, rfl, rfl, rfl, trivial⟩ ?_
  refine S.seq ?_
  refine S.region ?_
  refine SO.v rfl (opv_build (v := .agg #[.int .i64 5, .int .i64 1, .int .i64 0]) rfl (by intro w; kernel_rfl)) ?_
  obtain ⟨⟨t10, t11⟩, ht12, h⟩ := opt_bind h
  have ct34 := call_Pack.ct _ _ _ ht12
  dsimp only at ct34
  refine SO.call (pre := []) rfl Try.call49 rfl rfl rfl ct34 trivial ?_
  rintro _ _ ⟨rfl, rfl⟩
  refine SO.v rfl (opv_move rfl) ?_
  refine SO.v rfl (opv_extract rfl rfl) ?_
  refine SO.v rfl (opv_extract rfl rfl) ?_
  refine SO.v rfl (opv_assign rfl) ?_
  refine SO.v rfl (opv_assign rfl) ?_
  refine SO.nil ?_
  refine S.seq ?_
  refine S.region ?_
  refine SO.v rfl (opv_move rfl) ?_
  refine SO.v rfl (opv_eqlN (e := t2) Try.underlying45 rfl) ?_
  refine SO.v rfl (opv_move rfl) ?_
  refine SO.cut 4 27 (.bool (t2.isNone && ((t1.length : Int) == 3))) [Box b9 [.int .i64 t6.Op, .int .i64 t6.Cap, .int .i64 t6.A, .int .i64 t6.B, .int .i64 t6.C, .int .i64 t6.D], Own 27 (ekI .u64) v4 t1, F] (fun l2 hk2 => ?_) ?_
  · rcases bool_or t2.isNone with b13 | b13
    · refine SO.takeT rfl rfl rfl b13 ?_
      refine SO.v rfl (opv_move rfl) ?_
      refine SO.takeT rfl rfl rfl b13 ?_
      refine SO.v rfl (opv_lenR rfl Try.underlying26 hr5 rfl) ?_
      refine SO.takeT rfl rfl rfl b13 ?_
      refine SO.v rfl (opv_eql rfl rfl) ?_
      refine SO.v rfl (opv_pick_t' b13 rfl rfl) ?_
      refine SO.b2 ?_
      refine SO.b2 ?_
      refine SO.b2 ?_
      exact hk2.fitc (m := 4) rfl (and_t b13) rfl
    · refine SO.passF rfl rfl rfl b13 rfl rfl ?_
      refine SO.passF rfl rfl rfl b13 rfl rfl ?_
      refine SO.passF rfl rfl rfl b13 rfl rfl ?_
      refine SO.v rfl (opv_pick_f' b13 rfl rfl) ?_
      refine SO.b2 ?_
      refine SO.b2 ?_
      refine SO.b2 ?_
      exact hk2.fitc (m := 4) rfl (and_f b13) rfl
  refine SO.v rfl (opv_move rfl) ?_
  obtain ⟨c15, hc16, hgk⟩ := opt_bind h
  refine SO.cut 5 33 (.bool c15) [Box b9 [.int .i64 t6.Op, .int .i64 t6.Cap, .int .i64 t6.A, .int .i64 t6.B, .int .i64 t6.C, .int .i64 t6.D], Own 27 (ekI .u64) v4 t1, F] (fun l2 hk2 => ?_) ?_
  · clear hgk
    replace h := hc16
    rcases bool_or (t2.isNone && ((t1.length : Int) == 3)) with b14 | b14
    · replace h := cond_t b14 h
      refine SO.takeT rfl rfl rfl b14 ?_
      refine SO.v rfl (opv_move rfl) ?_
      refine SO.takeT rfl rfl rfl b14 ?_
      obtain ⟨x17, hx18, h⟩ := opt_bind h
      refine SO.v rfl (opv_idx Try.underlying26 Try.sizeOf27 hr5 rfl rfl hx18) ?_
      refine SO.takeT rfl rfl rfl b14 ?_
      refine SO.loadI1 (j := 0) rfl Try.isAgg27 (Rd.tail (Rd.head hr5)) hx18 rfl rfl rfl rfl ?_
      refine SO.takeT rfl rfl rfl b14 ?_
      refine SO.v rfl (opv_eql rfl rfl) ?_
      cases h
      refine SO.v rfl (opv_pick_t' b14 rfl rfl) ?_
      refine SO.b2 ?_
      refine SO.b2 ?_
      refine SO.b2 ?_
      exact hk2.fitc (m := 5) rfl (rfl) rfl
    · replace h := cond_f b14 h
      refine SO.passF rfl rfl rfl b14 rfl rfl ?_
      refine SO.passF rfl rfl rfl b14 rfl rfl ?_
      refine SO.passF rfl rfl rfl b14 rfl rfl ?_
      refine SO.passF rfl rfl rfl b14 rfl rfl ?_
      cases h
      refine SO.v rfl (opv_pick_f' b14 rfl rfl) ?_
      refine SO.b2 ?_
      refine SO.b2 ?_
      refine SO.b2 ?_
      exact hk2.fitc (m := 5) rfl (rfl) rfl
  clear hc16
  replace h := hgk
  refine SO.v rfl (opv_move rfl) ?_
  refine SO.cut 4 38 (.bool (c15 && (t7 == some 1))) [Box b9 [.int .i64 t6.Op, .int .i64 t6.Cap, .int .i64 t6.A, .int .i64 t6.B, .int .i64 t6.C, .int .i64 t6.D], Own 27 (ekI .u64) v4 t1, F] (fun l2 hk2 => ?_) ?_
  · rcases bool_or c15 with b19 | b19
    · refine SO.takeT rfl rfl rfl b19 ?_
      refine SO.v rfl (opv_move rfl) ?_
      refine SO.takeT rfl rfl rfl b19 ?_
      refine SO.v rfl (opv_iface Try.underlying48 rfl rfl) ?_
      refine SO.takeT rfl rfl rfl b19 ?_
      refine SO.v rfl (opv_eqlE (e := t7) (c := 1) Try.underlying45 Try.underlying48 inf48 rfl rfl rfl) ?_
      refine SO.v rfl (opv_pick_t' b19 rfl rfl) ?_
      refine SO.b2 ?_
      refine SO.b2 ?_
      refine SO.b2 ?_
      exact hk2.fitc (m := 4) rfl (and_t b19) rfl
    · refine SO.passF rfl rfl rfl b19 rfl rfl ?_
      refine SO.passF rfl rfl rfl b19 rfl rfl ?_
      refine SO.passF rfl rfl rfl b19 rfl rfl ?_
      refine SO.v rfl (opv_pick_f' b19 rfl rfl) ?_
      refine SO.b2 ?_
      refine SO.b2 ?_
      refine SO.b2 ?_
      exact hk2.fitc (m := 4) rfl (and_f b19) rfl
  refine SO.v rfl (opv_move rfl) ?_
  refine SO.cut 3 42 (.bool ((c15 && (t7 == some 1)) && (t10 == 21))) [Box b9 [.int .i64 t6.Op, .int .i64 t6.Cap, .int .i64 t6.A, .int .i64 t6.B, .int .i64 t6.C, .int .i64 t6.D], Own 27 (ekI .u64) v4 t1, F] (fun l2 hk2 => ?_) ?_
  · rcases bool_or (c15 && (t7 == some 1)) with b20 | b20
    · refine SO.takeT rfl rfl rfl b20 ?_
      refine SO.v rfl (opv_move rfl) ?_
      refine SO.takeT rfl rfl rfl b20 ?_
      refine SO.v rfl (opv_eql rfl rfl) ?_
      refine SO.v rfl (opv_pick_t' b20 rfl rfl) ?_
      refine SO.b2 ?_
      refine SO.b2 ?_
      refine SO.b2 ?_
      exact hk2.fitc (m := 3) rfl (and_t b20) rfl
    · refine SO.passF rfl rfl rfl b20 rfl rfl ?_
      refine SO.passF rfl rfl rfl b20 rfl rfl ?_
      refine SO.v rfl (opv_pick_f' b20 rfl rfl) ?_
      refine SO.b2 ?_
      refine SO.b2 ?_
      refine SO.b2 ?_
      exact hk2.fitc (m := 3) rfl (and_f b20) rfl
  refine SO.v rfl (opv_move rfl) ?_
  refine SO.cut 3 46 (.bool (((c15 && (t7 == some 1)) && (t10 == 21)) && t11.isNone)) [Box b9 [.int .i64 t6.Op, .int .i64 t6.Cap, .int .i64 t6.A, .int .i64 t6.B, .int .i64 t6.C, .int .i64 t6.D], Own 27 (ekI .u64) v4 t1, F] (fun l2 hk2 => ?_) ?_
  · rcases bool_or ((c15 && (t7 == some 1)) && (t10 == 21)) with b21 | b21
    · refine SO.takeT rfl rfl rfl b21 ?_
      refine SO.v rfl (opv_move rfl) ?_
      refine SO.takeT rfl rfl rfl b21 ?_
      refine SO.v rfl (opv_eqlN (e := t11) Try.underlying45 rfl) ?_
      refine SO.v rfl (opv_pick_t' b21 rfl rfl) ?_
      refine SO.b2 ?_
      refine SO.b2 ?_
      refine SO.b2 ?_
      exact hk2.fitc (m := 3) rfl (and_t b21) rfl
    · refine SO.passF rfl rfl rfl b21 rfl rfl ?_
      refine SO.passF rfl rfl rfl b21 rfl rfl ?_
      refine SO.v rfl (opv_pick_f' b21 rfl rfl) ?_
      refine SO.b2 ?_
      refine SO.b2 ?_
      refine SO.b2 ?_
      exact hk2.fitc (m := 3) rfl (and_f b21) rfl
  refine SO.v rfl (opv_move rfl) ?_
  obtain ⟨c23, hc24, hgk⟩ := opt_bind h
  refine SO.cut 3 50 (.bool c23) [Box b9 [.int .i64 t6.Op, .int .i64 t6.Cap, .int .i64 t6.A, .int .i64 t6.B, .int .i64 t6.C, .int .i64 t6.D], Own 27 (ekI .u64) v4 t1, F] (fun l2 hk2 => ?_) ?_
  · clear hgk
    replace h := hc24
    rcases bool_or (((c15 && (t7 == some 1)) && (t10 == 21)) && t11.isNone) with b22 | b22
    · replace h := cond_t b22 h
      refine SO.takeT rfl rfl rfl b22 ?_
      refine SO.v rfl (opv_build (v := .agg #[.int .i64 1, .int .i64 0, .int .i64 0, .int .i64 0, .int .i64 0, .int .i64 0]) rfl (by intro w; kernel_rfl)) ?_
      refine SO.takeT rfl rfl rfl b22 ?_
      obtain ⟨t25, ht26, h⟩ := opt_bind h
      have ct27 := call_May.ct _ _ ht26
      dsimp only at ct27
      refine SO.call (pre := []) rfl Try.call28 rfl rfl rfl ct27 trivial ?_
      rintro _ _ ⟨rfl, rfl⟩
      cases h
      refine SO.v rfl (opv_pick_t' b22 rfl rfl) ?_
      refine SO.b2 ?_
      refine SO.b2 ?_
      refine SO.b2 ?_
      exact hk2.fitc (m := 3) rfl (rfl) rfl
    · replace h := cond_f b22 h
      refine SO.passF rfl rfl rfl b22 rfl rfl ?_
      refine SO.passF rfl rfl rfl b22 rfl rfl ?_
      cases h
      refine SO.v rfl (opv_pick_f' b22 rfl rfl) ?_
      refine SO.b2 ?_
      refine SO.b2 ?_
      refine SO.b2 ?_
      exact hk2.fitc (m := 3) rfl (rfl) rfl
  clear hc24
  replace h := hgk
  refine SO.v rfl (opv_move rfl) ?_
  obtain ⟨c29, hc30, hgk⟩ := opt_bind h
  refine SO.cut 4 55 (.bool c29) [Box b9 [.int .i64 t6.Op, .int .i64 t6.Cap, .int .i64 t6.A, .int .i64 t6.B, .int .i64 t6.C, .int .i64 t6.D], Own 27 (ekI .u64) v4 t1, F] (fun l2 hk2 => ?_) ?_
  · clear hgk
    replace h := hc30
    rcases bool_or c23 with b28 | b28
    · replace h := cond_t b28 h
      refine SO.takeT rfl rfl rfl b28 ?_
      refine SO.v rfl (opv_build (v := .agg #[.int .i64 0, .int .i64 0, .int .i64 0, .int .i64 0, .int .i64 0, .int .i64 0]) rfl (by intro w; kernel_rfl)) ?_
      refine SO.takeT rfl rfl rfl b28 ?_
      obtain ⟨t31, ht32, h⟩ := opt_bind h
      have ct33 := call_May.ct _ _ ht32
      dsimp only at ct33
      refine SO.call (pre := []) rfl Try.call28 rfl rfl rfl ct33 trivial ?_
      rintro _ _ ⟨rfl, rfl⟩
      refine SO.takeT rfl rfl rfl b28 ?_
      refine SO.v rfl (opv_not rfl) ?_
      cases h
      refine SO.v rfl (opv_pick_t' b28 rfl rfl) ?_
      refine SO.b2 ?_
      refine SO.b2 ?_
      refine SO.b2 ?_
      exact hk2.fitc (m := 4) rfl (rfl) rfl
    · replace h := cond_f b28 h
      refine SO.passF rfl rfl rfl b28 rfl rfl ?_
      refine SO.passF rfl rfl rfl b28 rfl rfl ?_
      refine SO.passF rfl rfl rfl b28 rfl rfl ?_
      cases h
      refine SO.v rfl (opv_pick_f' b28 rfl rfl) ?_
      refine SO.b2 ?_
      refine SO.b2 ?_
      refine SO.b2 ?_
      exact hk2.fitc (m := 4) rfl (rfl) rfl
  clear hc30
  replace h := hgk
  refine SO.v rfl (opv_assign rfl) ?_
  refine SO.nil ?_
  refine S.to (ρ' := [(0, .bool c29)]) ⟨rfl, trivial⟩ ?_
  cases h
  refine S.drop ?_
  refine S.drop ?_
  exact S.ret1 Try.func25 rfl rfl (fun w hs hk => hR w _ _ ⟨rfl, rfl⟩ hs hk)
end Go.Proofs
namespace Go.Proofs
open Go.Sl Go.RowKit
/-! 14 padstone/padstonelaw20.CallBack -/
def law20_CallBack.l3 (a1 : List Int) (t25 : List Int) : Nat → Int → Option (Brk Bool Unit)
  | 0, _ => none
  | k + 1, x18_3 => bif decide (x18_3 < (a1.length : Int)) then ((at_ t25 x18_3).bind fun x33 => (at_ a1 x18_3).bind fun x35 => bif x33 != x35 then (some (Brk.ret false)) else (law20_CallBack.l3 a1 t25 k (w64 (x18_3 + 1)))) else (some (Brk.nx ()))
def law20_CallBack.f (k : Nat) (a0 : api_Call) (a1 : List Int) (a2 : api_Reply) (a3 : Int) : Option (Bool) :=
  (law20_up.f ).bind fun t3 => bif decide (100 < (a1.length : Int)) then (some t3) else ((call_Put.f a0).bind fun (t6, t7) => (((bif t7.isNone then ((call_Get.f t6).bind fun (t12, t13) => (bif t13.isSome then (some true) else (some (!decide (t12 = a0)))).bind fun c17 => bif c17 then (some (Brk.ret false)) else (some (Brk.nx ()))) else (some (Brk.nx ()))) : Option (Brk Bool Unit))).bind fun o1 => Brk.go o1 (fun r => some r) (fun _ => (call_Get.f a1).bind fun (t20, t21) => (((bif t21.isNone then ((call_Put.f t20).bind fun (t25, t26) => bif t26.isSome || ((t25.length : Int) != (a1.length : Int)) then (some (Brk.ret false)) else ((law20_CallBack.l3 a1 t25 k 0).bind fun o3 => Brk.go o3 (fun r => some (Brk.ret r)) (fun _ => some (Brk.nx ())))) else (some (Brk.nx ()))) : Option (Brk Bool Unit))).bind fun o2 => Brk.go o2 (fun r => some r) (fun _ => (call_Pack.f a2).bind fun (t38, t39) => (((bif t39.isNone then ((call_Unpack.f t38).bind fun (t42, t43) => (bif t43.isSome then (some true) else (some (!decide (t42 = a2)))).bind fun c47 => bif c47 then (some (Brk.ret false)) else (some (Brk.nx ()))) else (some (Brk.nx ()))) : Option (Brk Bool Unit))).bind fun o4 => Brk.go o4 (fun r => some r) (fun _ => (call_Unpack.f a3).bind fun (t50, t51) => bif t51.isSome then (some t3) else ((call_Pack.f t50).bind fun (t55, t56) => some ((t3 && t56.isNone) && (t55 == a3)))))))
set_option maxHeartbeats 8000000 in
set_option maxRecDepth 100000 in
theorem law20_CallBack.ct (k : Nat) (v1 : Value) (a0 : api_Call) (a1 : List Int) (a2 : api_Reply) (a3 : Int) (r0 : Bool) (h : law20_CallBack.f k a0 a1 a2 a3 = some r0) :
    Ct Try.prog 14 [.agg #[.int .i64 a0.Op, .int .i64 a0.Cap, .int .i64 a0.A, .int .i64 a0.B, .int .i64 a0.C, .int .i64 a0.D], v1, .agg #[.int .i64 a2.Code, .int .i64 a2.Word, .int .i64 a2.Badge], .int .i64 a3] (fun F => Rd (ekI .u64) v1 a1 F) [] (fun u H' => u = .bool r0 ∧ H' = []) := by
  unfold law20_CallBack.f at h
  refine Ct.intro (n := 129) Try.func14 rfl rfl rfl ?_
  intro R w0 F hF hR
  have hF1 := hF
  refine S.seq ?_
  refine S.region ?_
  refine SO.box rfl rfl rfl (fun b1 => ?_)
  refine SO.box rfl rfl rfl (fun b2 => ?_)
  refine SO.v rfl (opv_assign rfl) ?_
  refine SO.nil ?_
  refine S.seq ?_
  refine S.region ?_
  obtain ⟨t3, ht4, h⟩ := opt_bind h
  refine SO.call (pre := []) rfl Try.call25 rfl rfl rfl (law20_up.ct _ ht4) trivial ?_
  rintro _ _ ⟨rfl, rfl⟩
  refine SO.v rfl (opv_assign rfl) ?_
  refine SO.nil ?_
  refine S.seq ?_
  refine S.seq ?_
  refine S.region ?_
  refine SO.v rfl (opv_move rfl) ?_
  refine SO.v rfl (opv_lenR rfl Try.underlying26 hF1 rfl) ?_
  refine SO.v rfl (opv_gtr rfl rfl) ?_
  refine SO.nil ?_
  rcases bool_or (decide (100 < (a1.length : Int))) with b5 | b5
  · replace h := cond_t b5 h
    refine S.condT rfl b5 ?_
    refine S.seq ?_
    refine S.region ?_
    refine SO.v rfl (opv_move rfl) ?_
    refine SO.v rfl (opv_assign rfl) ?_
    refine SO.nil ?_
    refine S.to (ρ' := [(1, v1), (3, .int .i64 a3), (4, bp b1 0), (6, bp b2 0), (8, .bool t3), (9, .bool t3)]) ⟨rfl, rfl, rfl, rfl, rfl, rfl, trivial⟩ ?_
    cases h
    refine S.drop ?_
    refine S.drop ?_
    exact S.ret1 Try.func14 rfl rfl (fun w hs hk => hR w _ _ ⟨rfl, rfl⟩ hs hk)
  · replace h := cond_f b5 h
    refine S.condF rfl b5 ?_
    refine S.skip ?_
    refine S.seq ?_
    refine S.region ?_
    refine SO.b1 ?_
    refine SO.loadN rfl Try.isAgg42 Try.sizeOf42 rfl rfl rfl ?_
    obtain ⟨⟨t6, t7⟩, ht8, h⟩ := opt_bind h
    refine SO.call (pre := []) rfl Try.call27 rfl rfl rfl (call_Put.ct _ _ _ ht8) trivial ?_
    rintro _ _ ⟨v9, rfl, rfl⟩
    refine SO.rd fun hr10 => ?_
    refine SO.v rfl (opv_move rfl) ?_
    refine SO.v rfl (opv_extract rfl rfl) ?_
    refine SO.v rfl (opv_extract rfl rfl) ?_
    refine SO.v rfl (opv_assign rfl) ?_
    refine SO.v rfl (opv_assign rfl) ?_
    refine SO.nil ?_
    refine S.to (ρ' := [(1, v1), (3, .int .i64 a3), (4, bp b1 0), (6, bp b2 0), (8, .bool false), (9, .bool t3), (10, v9), (11, errV 48 t7)]) ⟨rfl, rfl, rfl, rfl, rfl, rfl, rfl, rfl, trivial⟩ ?_
    refine S.seq ?_
    refine S.seq ?_
    refine S.region ?_
    refine SO.v rfl (opv_move rfl) ?_
    refine SO.v rfl (opv_eqlN (e := t7) Try.underlying45 rfl) ?_
    refine SO.nil ?_
    obtain ⟨o1, hC1, hJ1⟩ := opt_bind h
    clear h
    refine S.cutP (G := Unit × Unit) (fun x => o1 = Brk.nx x.1) (fun x => match x with | (_, _) => [(1, v1), (3, .int .i64 a3), (6, bp b2 0), (8, .bool false), (9, .bool t3)]) (fun x => match x with | (_, _) => [Own 27 (ekI .u64) v9 t6, Box b1 [.int .i64 a0.Op, .int .i64 a0.Cap, .int .i64 a0.A, .int .i64 a0.B, .int .i64 a0.C, .int .i64 a0.D], Box b2 [.int .i64 a2.Code, .int .i64 a2.Word, .int .i64 a2.Badge], F]) (fun hk1 => ?_) ?_
    · replace h := hC1
      rcases bool_or t7.isNone with b11 | b11
      · replace h := cond_t b11 h
        refine S.condT rfl b11 ?_
        refine S.seq ?_
        refine S.region ?_
        refine SO.v rfl (opv_move rfl) ?_
        obtain ⟨⟨t12, t13⟩, ht14, h⟩ := opt_bind h
        refine SO.call (pre := []) rfl Try.call29 rfl rfl rfl (call_Get.ct _ _ _ _ ht14) (Rd.head hr10) ?_
        rintro _ _ ⟨rfl, rfl⟩
        refine SO.v rfl (opv_move rfl) ?_
        refine SO.v rfl (opv_extract rfl rfl) ?_
        refine SO.v rfl (opv_extract rfl rfl) ?_
        refine SO.alloc rfl Try.zeroValue42 rfl (fun b15 => ?_)
        refine SO.storeN Try.sizeOf42 rfl rfl rfl rfl rfl rfl ?_
        refine SO.v rfl (opv_assign rfl) ?_
        refine SO.nil ?_
        refine S.to (ρ' := [(1, v1), (3, .int .i64 a3), (4, bp b1 0), (6, bp b2 0), (8, .bool false), (9, .bool t3), (12, bp b15 0), (13, errV 48 t13)]) ⟨rfl, rfl, rfl, rfl, rfl, rfl, rfl, rfl, trivial⟩ ?_
        refine S.seq ?_
        refine S.region ?_
        refine SO.v rfl (opv_move rfl) ?_
        refine SO.v rfl (opv_neqN (e := t13) Try.underlying45 rfl) ?_
        refine SO.v rfl (opv_move rfl) ?_
        obtain ⟨c17, hc18, hgk⟩ := opt_bind h
        refine SO.cut 4 50 (.bool c17) [Box b15 [.int .i64 t12.Op, .int .i64 t12.Cap, .int .i64 t12.A, .int .i64 t12.B, .int .i64 t12.C, .int .i64 t12.D], Own 27 (ekI .u64) v9 t6, Box b1 [.int .i64 a0.Op, .int .i64 a0.Cap, .int .i64 a0.A, .int .i64 a0.B, .int .i64 a0.C, .int .i64 a0.D], Box b2 [.int .i64 a2.Code, .int .i64 a2.Word, .int .i64 a2.Badge], F] (fun l2 hk2 => ?_) ?_
        · clear hgk
          replace h := hc18
          rcases bool_or t13.isSome with b16 | b16
          · replace h := cond_t b16 h
            refine SO.passF rfl rfl rfl b16 rfl rfl ?_
            refine SO.passF rfl rfl rfl b16 rfl rfl ?_
            refine SO.passF rfl rfl rfl b16 rfl rfl ?_
            cases h
            refine SO.v rfl (opv_pick_t' b16 rfl rfl) ?_
            refine SO.b4 ?_
            refine SO.b4 ?_
            refine SO.b4 ?_
            refine SO.b4 ?_
            refine SO.b4 ?_
            exact hk2.fitc (m := 4) rfl (rfl) rfl
          · replace h := cond_f b16 h
            refine SO.takeT rfl rfl rfl b16 ?_
            refine SO.loadN rfl Try.isAgg42 Try.sizeOf42 rfl rfl rfl ?_
            refine SO.takeT rfl rfl rfl b16 ?_
            refine SO.b2 ?_
            refine SO.loadN rfl Try.isAgg42 Try.sizeOf42 rfl rfl rfl ?_
            refine SO.takeT rfl rfl rfl b16 ?_
            refine SO.v rfl (eq_neq_api_Call (x := t12) (y := a0) rfl rfl) ?_
            cases h
            refine SO.v rfl (opv_pick_f' b16 rfl rfl) ?_
            refine SO.b4 ?_
            refine SO.b4 ?_
            refine SO.b2 ?_
            refine SO.b4 ?_
            refine SO.b4 ?_
            exact hk2.fitc (m := 4) rfl (rfl) rfl
        clear hc18
        replace h := hgk
        refine SO.nil ?_
        rcases bool_or c17 with b19 | b19
        · replace h := cond_t b19 h
          refine S.condT rfl b19 ?_
          refine S.seq ?_
          refine S.region ?_
          refine SO.v rfl (opv_assign rfl) ?_
          refine SO.nil ?_
          refine S.to (ρ' := [(1, v1), (3, .int .i64 a3), (6, bp b2 0), (8, .bool false), (9, .bool t3)]) ⟨rfl, rfl, rfl, rfl, rfl, trivial⟩ ?_
          cases h
          replace h := Brk.of_ret hJ1
          cases h
          refine S.drop ?_
          refine S.drop ?_
          refine S.drop ?_
          refine S.drop ?_
          exact S.ret1 Try.func14 rfl rfl (fun w hs hk => hR w _ _ ⟨rfl, rfl⟩ hs hk)
        · replace h := cond_f b19 h
          refine S.condF rfl b19 ?_
          refine S.skip ?_
          cases h
          refine S.drop ?_
          refine S.b3 ?_
          refine S.b3 ?_
          refine S.b3 ?_
          refine S.b3 ?_
          refine S.to ?_ (hk1 ((), ()) rfl)
          exact ⟨rfl, rfl, rfl, rfl, rfl, trivial⟩
      · replace h := cond_f b11 h
        refine S.condF rfl b11 ?_
        refine S.skip ?_
        cases h
        refine S.b3 ?_
        refine S.b3 ?_
        refine S.b3 ?_
        refine S.b3 ?_
        refine S.to ?_ (hk1 ((), ()) rfl)
        exact ⟨rfl, rfl, rfl, rfl, rfl, trivial⟩
    rintro ⟨_, _⟩ hq
    subst hq
    replace h := Brk.of_nx hJ1
    refine S.seq ?_
    refine S.region ?_
    refine SO.v rfl (opv_move rfl) ?_
    obtain ⟨⟨t20, t21⟩, ht22, h⟩ := opt_bind h
    refine SO.call (pre := []) rfl Try.call29 rfl rfl rfl (call_Get.ct _ _ _ _ ht22) (Rd.tail (Rd.tail (Rd.tail (Rd.head hF1)))) ?_
    rintro _ _ ⟨rfl, rfl⟩
    refine SO.v rfl (opv_move rfl) ?_
    refine SO.v rfl (opv_extract rfl rfl) ?_
    refine SO.v rfl (opv_extract rfl rfl) ?_
    refine SO.alloc rfl Try.zeroValue42 rfl (fun b23 => ?_)
    refine SO.storeN Try.sizeOf42 rfl rfl rfl rfl rfl rfl ?_
    refine SO.v rfl (opv_assign rfl) ?_
    refine SO.nil ?_
    refine S.seq ?_
    refine S.seq ?_
    refine S.region ?_
    refine SO.v rfl (opv_move rfl) ?_
    refine SO.v rfl (opv_eqlN (e := t21) Try.underlying45 rfl) ?_
    refine SO.nil ?_
    refine S.to (ρ' := [(1, v1), (3, .int .i64 a3), (6, bp b2 0), (8, .bool false), (9, .bool t3), (14, bp b23 0), (57, .bool t21.isNone)]) ⟨rfl, rfl, rfl, rfl, rfl, rfl, rfl, trivial⟩ ?_
    obtain ⟨o2, hC2, hJ2⟩ := opt_bind h
    clear h
    refine S.cutP (G := Unit × Unit) (fun x => o2 = Brk.nx x.1) (fun x => match x with | (_, _) => [(3, .int .i64 a3), (6, bp b2 0), (8, .bool false), (9, .bool t3)]) (fun x => match x with | (_, _) => [Box b23 [.int .i64 t20.Op, .int .i64 t20.Cap, .int .i64 t20.A, .int .i64 t20.B, .int .i64 t20.C, .int .i64 t20.D], Own 27 (ekI .u64) v9 t6, Box b1 [.int .i64 a0.Op, .int .i64 a0.Cap, .int .i64 a0.A, .int .i64 a0.B, .int .i64 a0.C, .int .i64 a0.D], Box b2 [.int .i64 a2.Code, .int .i64 a2.Word, .int .i64 a2.Badge], F]) (fun hk2 => ?_) ?_
    · replace h := hC2
      rcases bool_or t21.isNone with b24 | b24
      · replace h := cond_t b24 h
        refine S.condT rfl b24 ?_
        refine S.seq ?_
        refine S.region ?_
        refine SO.loadN rfl Try.isAgg42 Try.sizeOf42 rfl rfl rfl ?_
        obtain ⟨⟨t25, t26⟩, ht27, h⟩ := opt_bind h
        refine SO.call (pre := []) rfl Try.call27 rfl rfl rfl (call_Put.ct _ _ _ ht27) trivial ?_
        rintro _ _ ⟨v28, rfl, rfl⟩
        refine SO.rd fun hr29 => ?_
        refine SO.v rfl (opv_move rfl) ?_
        refine SO.v rfl (opv_extract rfl rfl) ?_
        refine SO.v rfl (opv_extract rfl rfl) ?_
        refine SO.v rfl (opv_assign rfl) ?_
        refine SO.v rfl (opv_assign rfl) ?_
        refine SO.nil ?_
        refine S.to (ρ' := [(1, v1), (3, .int .i64 a3), (6, bp b2 0), (8, .bool false), (9, .bool t3), (16, v28), (17, errV 48 t26)]) ⟨rfl, rfl, rfl, rfl, rfl, rfl, rfl, trivial⟩ ?_
        refine S.seq ?_
        refine S.seq ?_
        refine S.region ?_
        refine SO.v rfl (opv_move rfl) ?_
        refine SO.v rfl (opv_neqN (e := t26) Try.underlying45 rfl) ?_
        refine SO.v rfl (opv_move rfl) ?_
        refine SO.cut 6 71 (.bool (t26.isSome || ((t25.length : Int) != (a1.length : Int)))) [Own 27 (ekI .u64) v28 t25, Box b23 [.int .i64 t20.Op, .int .i64 t20.Cap, .int .i64 t20.A, .int .i64 t20.B, .int .i64 t20.C, .int .i64 t20.D], Own 27 (ekI .u64) v9 t6, Box b1 [.int .i64 a0.Op, .int .i64 a0.Cap, .int .i64 a0.A, .int .i64 a0.B, .int .i64 a0.C, .int .i64 a0.D], Box b2 [.int .i64 a2.Code, .int .i64 a2.Word, .int .i64 a2.Badge], F] (fun l2 hk2 => ?_) ?_
        · rcases bool_or t26.isSome with b30 | b30
          · refine SO.passF rfl rfl rfl b30 rfl rfl ?_
            refine SO.passF rfl rfl rfl b30 rfl rfl ?_
            refine SO.passF rfl rfl rfl b30 rfl rfl ?_
            refine SO.passF rfl rfl rfl b30 rfl rfl ?_
            refine SO.passF rfl rfl rfl b30 rfl rfl ?_
            refine SO.v rfl (opv_pick_t' b30 rfl rfl) ?_
            refine SO.b5 ?_
            refine SO.b5 ?_
            refine SO.b5 ?_
            refine SO.b5 ?_
            refine SO.b5 ?_
            refine SO.b5 ?_
            exact hk2.fitc (m := 6) rfl (or_t b30) rfl
          · refine SO.takeT rfl rfl rfl b30 ?_
            refine SO.v rfl (opv_move rfl) ?_
            refine SO.takeT rfl rfl rfl b30 ?_
            refine SO.v rfl (opv_lenR rfl Try.underlying26 hr29 rfl) ?_
            refine SO.takeT rfl rfl rfl b30 ?_
            refine SO.v rfl (opv_move rfl) ?_
            refine SO.takeT rfl rfl rfl b30 ?_
            refine SO.v rfl (opv_lenR rfl Try.underlying26 hF1 rfl) ?_
            refine SO.takeT rfl rfl rfl b30 ?_
            refine SO.v rfl (opv_neq rfl rfl) ?_
            refine SO.v rfl (opv_pick_f' b30 rfl rfl) ?_
            refine SO.b5 ?_
            refine SO.b5 ?_
            refine SO.b5 ?_
            refine SO.b5 ?_
            refine SO.b5 ?_
            refine SO.b5 ?_
            exact hk2.fitc (m := 6) rfl (or_f b30) rfl
        refine SO.nil ?_
        rcases bool_or (t26.isSome || ((t25.length : Int) != (a1.length : Int))) with b31 | b31
        · replace h := cond_t b31 h
          refine S.condT rfl b31 ?_
          refine S.seq ?_
          refine S.region ?_
          refine SO.v rfl (opv_assign rfl) ?_
          refine SO.nil ?_
          cases h
          replace h := Brk.of_ret hJ2
          cases h
          refine S.drop ?_
          refine S.drop ?_
          refine S.drop ?_
          refine S.drop ?_
          refine S.drop ?_
          exact S.ret1 Try.func14 rfl rfl (fun w hs hk => hR w _ _ ⟨rfl, rfl⟩ hs hk)
        · replace h := cond_f b31 h
          refine S.condF rfl b31 ?_
          refine S.skip ?_
          refine S.seq ?_
          refine S.region ?_
          refine SO.v rfl (opv_assign rfl) ?_
          refine SO.nil ?_
          obtain ⟨o3, hl3, h⟩ := opt_bind h
          refine S.b5 ?_
          refine S.b5 ?_
          refine S.b5 ?_
          refine S.b5 ?_
          refine S.b5 ?_
          refine S.b5 ?_
          refine S.to (ρ' := [(18, .int .i64 0), (1, v1), (3, .int .i64 a3), (6, bp b2 0), (8, .bool false), (9, .bool t3), (16, v28)]) ⟨rfl, rfl, rfl, rfl, rfl, rfl, rfl, trivial⟩ ?_
          refine S.forloop (X := Int × Unit) (O := Brk Bool Unit) (fun m x => law20_CallBack.l3 a1 t25 m x.1) (fun x => match x with | (x18_3, _) => [(18, .int .i64 x18_3), (1, v1), (3, .int .i64 a3), (6, bp b2 0), (8, .bool false), (9, .bool t3), (16, v28)]) (fun x => match x with | (x18_3, _) => [Own 27 (ekI .u64) v28 t25, Box b23 [.int .i64 t20.Op, .int .i64 t20.Cap, .int .i64 t20.A, .int .i64 t20.B, .int .i64 t20.C, .int .i64 t20.D], Own 27 (ekI .u64) v9 t6, Box b1 [.int .i64 a0.Op, .int .i64 a0.Cap, .int .i64 a0.A, .int .i64 a0.B, .int .i64 a0.C, .int .i64 a0.D], Box b2 [.int .i64 a2.Code, .int .i64 a2.Word, .int .i64 a2.Badge], F]) (fun Sk o' => (∀ r', o' = Brk.ret r' → some (Brk.ret r') = some o2) ∧ ∀ _ : Unit, ∀ _ : Unit, o' = Brk.nx () → Sk [(3, .int .i64 a3), (6, bp b2 0), (8, .bool false), (9, .bool t3)] [Own 27 (ekI .u64) v28 t25, Box b23 [.int .i64 t20.Op, .int .i64 t20.Cap, .int .i64 t20.A, .int .i64 t20.B, .int .i64 t20.C, .int .i64 t20.D], Own 27 (ekI .u64) v9 t6, Box b1 [.int .i64 a0.Op, .int .i64 a0.Cap, .int .i64 a0.A, .int .i64 a0.B, .int .i64 a0.C, .int .i64 a0.D], Box b2 [.int .i64 a2.Code, .int .i64 a2.Word, .int .i64 a2.Badge], F]) (fun _ => rfl) ?_ (m := k) (x := (0, ())) hl3 ?_
          · clear h hl3
            intro k x o_3 h hK3 ih3
            obtain ⟨x18_3, _⟩ := x
            replace h : law20_CallBack.l3 a1 t25 (k + 1) x18_3 = some o_3 := h
            rw [law20_CallBack.l3] at h
            refine S.seq ?_
            refine S.seq ?_
            refine S.region ?_
            refine SO.v rfl (opv_move rfl) ?_
            refine SO.v rfl (opv_move rfl) ?_
            refine SO.v rfl (opv_lenR rfl Try.underlying26 hF1 rfl) ?_
            refine SO.v rfl (opv_lss rfl rfl) ?_
            refine SO.nil ?_
            rcases bool_or (decide (x18_3 < (a1.length : Int))) with b32 | b32
            · replace h := cond_t b32 h
              refine S.condT rfl b32 ?_
              refine S.skip ?_
              refine S.seq ?_
              refine S.block ?_
              refine S.seq ?_
              obtain ⟨x33, hx34, h⟩ := opt_bind h
              obtain ⟨x35, hx36, h⟩ := opt_bind h
              refine S.draw' (Z := fun Q => ∀ (_ : Unit) (_ : Unit) (_ : Unit) (_ : Unit) (_ : Unit) (_ : Unit) (_ : Unit) (_ : Unit) (_ : Unit) (_ : Unit) (_ : Unit) (_ : Unit) (_ : Unit) (_ : Unit) (_ : Unit) (_ : Unit) (_ : Unit) (_ : Unit) (_ : Unit), Q [(18, .int .i64 x18_3), (1, v1), (75, .bool (decide (x18_3 < (a1.length : Int)))), (74, .int .i64 (a1.length : Int)), (73, v1), (72, .int .i64 x18_3), (3, .int .i64 a3), (6, bp b2 0), (8, .bool false), (9, .bool t3), (16, v28), (78, v28), (79, .int .i64 x18_3), (80, idxp v28 (x18_3.toNat * (ekI .u64).sz)), (81, .int .u64 x33), (82, v1), (83, .int .i64 x18_3), (84, idxp v1 (x18_3.toNat * (ekI .u64).sz)), (85, .int .u64 x35), (86, .bool (x33 != x35))] [Own 27 (ekI .u64) v28 t25, Box b23 [.int .i64 t20.Op, .int .i64 t20.Cap, .int .i64 t20.A, .int .i64 t20.B, .int .i64 t20.C, .int .i64 t20.D], Own 27 (ekI .u64) v9 t6, Box b1 [.int .i64 a0.Op, .int .i64 a0.Cap, .int .i64 a0.A, .int .i64 a0.B, .int .i64 a0.C, .int .i64 a0.D], Box b2 [.int .i64 a2.Code, .int .i64 a2.Word, .int .i64 a2.Badge], F]) (T := [tS 16 (v28), tS 18 (.int .i64 x18_3), tS 1 (v1), tE [(75, .bool (decide (x18_3 < (a1.length : Int)))), (74, .int .i64 (a1.length : Int)), (73, v1), (72, .int .i64 x18_3), (3, .int .i64 a3), (6, bp b2 0), (8, .bool false), (9, .bool t3)], tR (Own 27 (ekI .u64) v28 t25), tR (Box b23 [.int .i64 t20.Op, .int .i64 t20.Cap, .int .i64 t20.A, .int .i64 t20.B, .int .i64 t20.C, .int .i64 t20.D]), tR (Own 27 (ekI .u64) v9 t6), tR (Box b1 [.int .i64 a0.Op, .int .i64 a0.Cap, .int .i64 a0.A, .int .i64 a0.B, .int .i64 a0.C, .int .i64 a0.D]), tR (Box b2 [.int .i64 a2.Code, .int .i64 a2.Word, .int .i64 a2.Badge]), tR (F), tS 78 (v28), tS 79 (.int .i64 x18_3), tS 80 (idxp v28 (x18_3.toNat * (ekI .u64).sz)), tS 81 (.int .u64 x33), tS 82 (v1), tS 83 (.int .i64 x18_3), tS 84 (idxp v1 (x18_3.toNat * (ekI .u64).sz)), tS 85 (.int .u64 x35), tS 86 (.bool (x33 != x35))]) (D := [⟨[0], [], [10]⟩, ⟨[1], [], [11]⟩, ⟨[10, 11, 4], [], [12]⟩, ⟨[12, 4], [], [13]⟩, ⟨[2], [], [14]⟩, ⟨[1], [], [15]⟩, ⟨[14, 15, 9], [], [16]⟩, ⟨[16, 9], [], [17]⟩, ⟨[13, 17], [], [18]⟩]) (ini := [0, 1, 2, 3, 4, 5, 6, 7, 8, 9]) (fin := [1, 2, 3, 0, 10, 11, 12, 13, 14, 15, 16, 17, 18, 4, 5, 6, 7, 8, 9]) (bf := [[], [], [0, 1], [0, 1, 2], [], [], [4, 5], [4, 5, 6], [0, 1, 2, 3, 4, 5, 6, 7]]) (by kernel_rfl) (by kernel_rfl) (fun x w h1 h2 => (.cons () (.cons () (.cons () (.cons () (.cons () (.cons () (.cons () (.cons () (.cons () (.cons () (.nil ⟨EnvAll.of h1 ⟨rfl, rfl, rfl, rfl, rfl, rfl, rfl, rfl, rfl, rfl, rfl, trivial⟩, h2⟩)))))))))))) (fun Q => by kernel_rfl) ⟨?_, ?_, ?_, ?_, ?_, ?_, ?_, ?_, ?_, trivial⟩ ?_
              · rintro Fr _
                refine SO.v rfl (opv_move rfl) ?_
                exact SO.nilZ fun a w h1 h2 h3 h4 h5 => PZ.of h1 h3 h5 (.cons () (.cons () (.nil ⟨EnvAll.of h2 ⟨rfl, rfl, trivial⟩, h4⟩)))
              · rintro Fr _
                refine SO.v rfl (opv_move rfl) ?_
                exact SO.nilZ fun a w h1 h2 h3 h4 h5 => PZ.of h1 h3 h5 (.cons () (.cons () (.nil ⟨EnvAll.of h2 ⟨rfl, rfl, trivial⟩, h4⟩)))
              · rintro Fr _ _ _
                refine SO.v rfl (opv_idx Try.underlying26 Try.sizeOf27 hr29 rfl rfl hx34) ?_
                exact SO.nilZ fun a w h1 h2 h3 h4 h5 => PZ.of h1 h3 h5 (.cons () (.cons () (.cons () (.cons () (.nil ⟨EnvAll.of h2 ⟨rfl, rfl, rfl, trivial⟩, h4⟩)))))
              · rintro Fr _ _
                refine SO.loadI1 (j := 0) rfl Try.isAgg27 (Rd.head hr29) hx34 rfl rfl rfl rfl ?_
                exact SO.nilZ fun a w h1 h2 h3 h4 h5 => PZ.of h1 h3 h5 (.cons () (.cons () (.cons () (.nil ⟨EnvAll.of h2 ⟨rfl, rfl, trivial⟩, h4⟩))))
              · rintro Fr _
                refine SO.v rfl (opv_move rfl) ?_
                exact SO.nilZ fun a w h1 h2 h3 h4 h5 => PZ.of h1 h3 h5 (.cons () (.cons () (.nil ⟨EnvAll.of h2 ⟨rfl, rfl, trivial⟩, h4⟩)))
              · rintro Fr _
                refine SO.v rfl (opv_move rfl) ?_
                exact SO.nilZ fun a w h1 h2 h3 h4 h5 => PZ.of h1 h3 h5 (.cons () (.cons () (.nil ⟨EnvAll.of h2 ⟨rfl, rfl, trivial⟩, h4⟩)))
              · rintro Fr _ _ _
                refine SO.v rfl (opv_idx Try.underlying26 Try.sizeOf27 hF1 rfl rfl hx36) ?_
                exact SO.nilZ fun a w h1 h2 h3 h4 h5 => PZ.of h1 h3 h5 (.cons () (.cons () (.cons () (.cons () (.nil ⟨EnvAll.of h2 ⟨rfl, rfl, rfl, trivial⟩, h4⟩)))))
              · rintro Fr _ _
                refine SO.loadI1 (j := 0) rfl Try.isAgg27 (Rd.head hF1) hx36 rfl rfl rfl rfl ?_
                exact SO.nilZ fun a w h1 h2 h3 h4 h5 => PZ.of h1 h3 h5 (.cons () (.cons () (.cons () (.nil ⟨EnvAll.of h2 ⟨rfl, rfl, trivial⟩, h4⟩))))
              · rintro Fr _ _
                refine SO.v rfl (opv_neq rfl rfl) ?_
                exact SO.nilZ fun a w h1 h2 h3 h4 h5 => PZ.of h1 h3 h5 (.cons () (.cons () (.cons () (.nil ⟨EnvAll.of h2 ⟨rfl, rfl, rfl, trivial⟩, h4⟩))))
              rintro _ _ _ _ _ _ _ _ _ _ _ _ _ _ _ _ _ _ _
              refine S.to (ρ' := [(18, .int .i64 x18_3), (1, v1), (75, .bool (decide (x18_3 < (a1.length : Int)))), (74, .int .i64 (a1.length : Int)), (73, v1), (72, .int .i64 x18_3), (3, .int .i64 a3), (6, bp b2 0), (8, .bool false), (9, .bool t3), (16, v28), (78, v28), (79, .int .i64 x18_3), (80, idxp v28 (x18_3.toNat * (ekI .u64).sz)), (81, .int .u64 x33), (82, v1), (83, .int .i64 x18_3), (84, idxp v1 (x18_3.toNat * (ekI .u64).sz)), (85, .int .u64 x35), (86, .bool (x33 != x35))]) ⟨rfl, rfl, rfl, rfl, rfl, rfl, rfl, rfl, rfl, rfl, rfl, rfl, rfl, rfl, rfl, rfl, rfl, rfl, rfl, rfl, trivial⟩ ?_
              rcases bool_or (x33 != x35) with b37 | b37
              · replace h := cond_t b37 h
                refine S.condT rfl b37 ?_
                refine S.seq ?_
                refine S.region ?_
                refine SO.v rfl (opv_assign rfl) ?_
                refine SO.nil ?_
                cases h
                replace h := hK3.1 _ rfl
                cases h
                replace h := Brk.of_ret hJ2
                cases h
                refine S.drop ?_
                refine S.drop ?_
                refine S.drop ?_
                refine S.drop ?_
                refine S.drop ?_
                exact S.ret1 Try.func14 rfl rfl (fun w hs hk => hR w _ _ ⟨rfl, rfl⟩ hs hk)
              · replace h := cond_f b37 h
                refine S.condF rfl b37 ?_
                refine S.skip ?_
                refine S.inBlock ?_
                refine S.region ?_
                refine SO.v rfl (opv_move rfl) ?_
                refine SO.v rfl (opv_add rfl rfl) ?_
                refine SO.v rfl (opv_assign rfl) ?_
                refine SO.nil ?_
                refine S.b5 ?_
                refine S.b5 ?_
                refine S.b5 ?_
                refine S.b5 ?_
                refine S.b5 ?_
                refine S.b5 ?_
                refine S.to ?_ (ih3 (w64 (x18_3 + 1), ()) h)
                exact ⟨rfl, rfl, rfl, rfl, rfl, rfl, rfl, trivial⟩
            · replace h := cond_f b32 h
              refine S.condF rfl b32 ?_
              refine S.exit rfl ?_
              cases h
              refine S.b5 ?_
              refine S.b5 ?_
              refine S.b5 ?_
              refine S.b5 ?_
              refine S.b5 ?_
              refine S.b5 ?_
              refine S.to ?_ (hK3.2 () () rfl)
              exact ⟨rfl, rfl, rfl, rfl, trivial⟩
          refine ⟨fun r' e' => ?_, ?_⟩
          · subst e'
            have h9 := Brk.of_ret h
            exact h9
          rintro _ _ e'
          subst e'
          replace h := Brk.of_nx h
          cases h
          refine S.drop ?_
          refine S.b4 ?_
          refine S.b4 ?_
          refine S.b4 ?_
          refine S.b4 ?_
          refine S.b4 ?_
          refine S.to ?_ (hk2 ((), ()) rfl)
          exact ⟨rfl, rfl, rfl, rfl, trivial⟩
      · replace h := cond_f b24 h
        refine S.condF rfl b24 ?_
        refine S.skip ?_
        cases h
        refine S.b4 ?_
        refine S.b4 ?_
        refine S.b4 ?_
        refine S.b4 ?_
        refine S.b4 ?_
        refine S.to ?_ (hk2 ((), ()) rfl)
        exact ⟨rfl, rfl, rfl, rfl, trivial⟩
    rintro ⟨_, _⟩ hq
    subst hq
    replace h := Brk.of_nx hJ2
    refine S.seq ?_
    refine S.region ?_
    refine SO.b3 ?_
    refine SO.loadN rfl Try.isAgg82 Try.sizeOf82 rfl rfl rfl ?_
    obtain ⟨⟨t38, t39⟩, ht40, h⟩ := opt_bind h
    refine SO.call (pre := []) rfl Try.call49 rfl rfl rfl (call_Pack.ct _ _ _ ht40) trivial ?_
    rintro _ _ ⟨rfl, rfl⟩
    refine SO.v rfl (opv_move rfl) ?_
    refine SO.v rfl (opv_extract rfl rfl) ?_
    refine SO.v rfl (opv_extract rfl rfl) ?_
    refine SO.v rfl (opv_assign rfl) ?_
    refine SO.v rfl (opv_assign rfl) ?_
    refine SO.nil ?_
    refine S.seq ?_
    refine S.seq ?_
    refine S.region ?_
    refine SO.v rfl (opv_move rfl) ?_
    refine SO.v rfl (opv_eqlN (e := t39) Try.underlying45 rfl) ?_
    refine SO.nil ?_
    refine S.to (ρ' := [(3, .int .i64 a3), (6, bp b2 0), (8, .bool false), (9, .bool t3), (19, .int .i64 t38), (93, .bool t39.isNone)]) ⟨rfl, rfl, rfl, rfl, rfl, rfl, trivial⟩ ?_
    obtain ⟨o4, hC4, hJ4⟩ := opt_bind h
    clear h
    refine S.cutP (G := Unit × Unit) (fun x => o4 = Brk.nx x.1) (fun x => match x with | (_, _) => [(3, .int .i64 a3), (8, .bool false), (9, .bool t3)]) (fun x => match x with | (_, _) => [Box b2 [.int .i64 a2.Code, .int .i64 a2.Word, .int .i64 a2.Badge], Box b23 [.int .i64 t20.Op, .int .i64 t20.Cap, .int .i64 t20.A, .int .i64 t20.B, .int .i64 t20.C, .int .i64 t20.D], Own 27 (ekI .u64) v9 t6, Box b1 [.int .i64 a0.Op, .int .i64 a0.Cap, .int .i64 a0.A, .int .i64 a0.B, .int .i64 a0.C, .int .i64 a0.D], F]) (fun hk4 => ?_) ?_
    · replace h := hC4
      rcases bool_or t39.isNone with b41 | b41
      · replace h := cond_t b41 h
        refine S.condT rfl b41 ?_
        refine S.seq ?_
        refine S.region ?_
        refine SO.v rfl (opv_move rfl) ?_
        obtain ⟨⟨t42, t43⟩, ht44, h⟩ := opt_bind h
        refine SO.call (pre := []) rfl Try.call50 rfl rfl rfl (call_Unpack.ct _ _ _ ht44) trivial ?_
        rintro _ _ ⟨rfl, rfl⟩
        refine SO.v rfl (opv_move rfl) ?_
        refine SO.v rfl (opv_extract rfl rfl) ?_
        refine SO.v rfl (opv_extract rfl rfl) ?_
        refine SO.alloc rfl Try.zeroValue82 rfl (fun b45 => ?_)
        refine SO.storeN Try.sizeOf82 rfl rfl rfl rfl rfl rfl ?_
        refine SO.v rfl (opv_assign rfl) ?_
        refine SO.nil ?_
        refine S.to (ρ' := [(3, .int .i64 a3), (6, bp b2 0), (8, .bool false), (9, .bool t3), (21, bp b45 0), (22, errV 48 t43)]) ⟨rfl, rfl, rfl, rfl, rfl, rfl, trivial⟩ ?_
        refine S.seq ?_
        refine S.region ?_
        refine SO.v rfl (opv_move rfl) ?_
        refine SO.v rfl (opv_neqN (e := t43) Try.underlying45 rfl) ?_
        refine SO.v rfl (opv_move rfl) ?_
        obtain ⟨c47, hc48, hgk⟩ := opt_bind h
        refine SO.cut 4 105 (.bool c47) [Box b45 [.int .i64 t42.Code, .int .i64 t42.Word, .int .i64 t42.Badge], Box b2 [.int .i64 a2.Code, .int .i64 a2.Word, .int .i64 a2.Badge], Box b23 [.int .i64 t20.Op, .int .i64 t20.Cap, .int .i64 t20.A, .int .i64 t20.B, .int .i64 t20.C, .int .i64 t20.D], Own 27 (ekI .u64) v9 t6, Box b1 [.int .i64 a0.Op, .int .i64 a0.Cap, .int .i64 a0.A, .int .i64 a0.B, .int .i64 a0.C, .int .i64 a0.D], F] (fun l2 hk2 => ?_) ?_
        · clear hgk
          replace h := hc48
          rcases bool_or t43.isSome with b46 | b46
          · replace h := cond_t b46 h
            refine SO.passF rfl rfl rfl b46 rfl rfl ?_
            refine SO.passF rfl rfl rfl b46 rfl rfl ?_
            refine SO.passF rfl rfl rfl b46 rfl rfl ?_
            cases h
            refine SO.v rfl (opv_pick_t' b46 rfl rfl) ?_
            refine SO.b5 ?_
            refine SO.b5 ?_
            refine SO.b5 ?_
            refine SO.b5 ?_
            refine SO.b5 ?_
            refine SO.b5 ?_
            exact hk2.fitc (m := 4) rfl (rfl) rfl
          · replace h := cond_f b46 h
            refine SO.takeT rfl rfl rfl b46 ?_
            refine SO.loadN rfl Try.isAgg82 Try.sizeOf82 rfl rfl rfl ?_
            refine SO.takeT rfl rfl rfl b46 ?_
            refine SO.b1 ?_
            refine SO.loadN rfl Try.isAgg82 Try.sizeOf82 rfl rfl rfl ?_
            refine SO.takeT rfl rfl rfl b46 ?_
            refine SO.v rfl (eq_neq_api_Reply (x := t42) (y := a2) rfl rfl) ?_
            cases h
            refine SO.v rfl (opv_pick_f' b46 rfl rfl) ?_
            refine SO.b5 ?_
            refine SO.b5 ?_
            refine SO.b5 ?_
            refine SO.b5 ?_
            refine SO.b4 ?_
            refine SO.b5 ?_
            exact hk2.fitc (m := 4) rfl (rfl) rfl
        clear hc48
        replace h := hgk
        refine SO.nil ?_
        rcases bool_or c47 with b49 | b49
        · replace h := cond_t b49 h
          refine S.condT rfl b49 ?_
          refine S.seq ?_
          refine S.region ?_
          refine SO.v rfl (opv_assign rfl) ?_
          refine SO.nil ?_
          refine S.to (ρ' := [(3, .int .i64 a3), (8, .bool false), (9, .bool t3)]) ⟨rfl, rfl, rfl, trivial⟩ ?_
          cases h
          replace h := Brk.of_ret hJ4
          cases h
          refine S.drop ?_
          refine S.drop ?_
          refine S.drop ?_
          refine S.drop ?_
          refine S.drop ?_
          exact S.ret1 Try.func14 rfl rfl (fun w hs hk => hR w _ _ ⟨rfl, rfl⟩ hs hk)
        · replace h := cond_f b49 h
          refine S.condF rfl b49 ?_
          refine S.skip ?_
          cases h
          refine S.drop ?_
          refine S.b4 ?_
          refine S.b4 ?_
          refine S.b4 ?_
          refine S.b4 ?_
          refine S.b4 ?_
          refine S.to ?_ (hk4 ((), ()) rfl)
          exact ⟨rfl, rfl, rfl, trivial⟩
      · replace h := cond_f b41 h
        refine S.condF rfl b41 ?_
        refine S.skip ?_
        cases h
        refine S.b4 ?_
        refine S.b4 ?_
        refine S.b4 ?_
        refine S.b4 ?_
        refine S.b4 ?_
        refine S.to ?_ (hk4 ((), ()) rfl)
        exact ⟨rfl, rfl, rfl, trivial⟩
    rintro ⟨_, _⟩ hq
    subst hq
    replace h := Brk.of_nx hJ4
    refine S.seq ?_
    refine S.region ?_
    refine SO.v rfl (opv_move rfl) ?_
    obtain ⟨⟨t50, t51⟩, ht52, h⟩ := opt_bind h
    refine SO.call (pre := []) rfl Try.call50 rfl rfl rfl (call_Unpack.ct _ _ _ ht52) trivial ?_
    rintro _ _ ⟨rfl, rfl⟩
    refine SO.v rfl (opv_move rfl) ?_
    refine SO.v rfl (opv_extract rfl rfl) ?_
    refine SO.v rfl (opv_extract rfl rfl) ?_
    refine SO.alloc rfl Try.zeroValue82 rfl (fun b53 => ?_)
    refine SO.storeN Try.sizeOf82 rfl rfl rfl rfl rfl rfl ?_
    refine SO.v rfl (opv_assign rfl) ?_
    refine SO.nil ?_
    refine S.seq ?_
    refine S.seq ?_
    refine S.region ?_
    refine SO.v rfl (opv_move rfl) ?_
    refine SO.v rfl (opv_neqN (e := t51) Try.underlying45 rfl) ?_
    refine SO.nil ?_
    refine S.to (ρ' := [(3, .int .i64 a3), (8, .bool false), (9, .bool t3), (23, bp b53 0), (112, .bool t51.isSome)]) ⟨rfl, rfl, rfl, rfl, rfl, trivial⟩ ?_
    rcases bool_or t51.isSome with b54 | b54
    · replace h := cond_t b54 h
      refine S.condT rfl b54 ?_
      refine S.seq ?_
      refine S.region ?_
      refine SO.v rfl (opv_move rfl) ?_
      refine SO.v rfl (opv_assign rfl) ?_
      refine SO.nil ?_
      cases h
      refine S.drop ?_
      refine S.drop ?_
      refine S.drop ?_
      refine S.drop ?_
      refine S.drop ?_
      exact S.ret1 Try.func14 rfl rfl (fun w hs hk => hR w _ _ ⟨rfl, rfl⟩ hs hk)
    · replace h := cond_f b54 h
      refine S.condF rfl b54 ?_
      refine S.skip ?_
      refine S.seq ?_
      refine S.region ?_
      refine SO.loadN rfl Try.isAgg82 Try.sizeOf82 rfl rfl rfl ?_
      obtain ⟨⟨t55, t56⟩, ht57, h⟩ := opt_bind h
      refine SO.call (pre := []) rfl Try.call49 rfl rfl rfl (call_Pack.ct _ _ _ ht57) trivial ?_
      rintro _ _ ⟨rfl, rfl⟩
      refine SO.v rfl (opv_move rfl) ?_
      refine SO.v rfl (opv_extract rfl rfl) ?_
      refine SO.v rfl (opv_extract rfl rfl) ?_
      refine SO.v rfl (opv_assign rfl) ?_
      refine SO.v rfl (opv_assign rfl) ?_
      refine SO.nil ?_
      refine S.to (ρ' := [(3, .int .i64 a3), (8, .bool false), (9, .bool t3), (25, .int .i64 t55), (26, errV 48 t56)]) ⟨rfl, rfl, rfl, rfl, rfl, trivial⟩ ?_
      refine S.seq ?_
      refine S.region ?_
      refine SO.v rfl (opv_move rfl) ?_
      refine SO.v rfl (opv_move rfl) ?_
      refine SO.cut 3 123 (.bool (t3 && t56.isNone)) [Box b53 [.int .i64 t50.Code, .int .i64 t50.Word, .int .i64 t50.Badge], Box b2 [.int .i64 a2.Code, .int .i64 a2.Word, .int .i64 a2.Badge], Box b23 [.int .i64 t20.Op, .int .i64 t20.Cap, .int .i64 t20.A, .int .i64 t20.B, .int .i64 t20.C, .int .i64 t20.D], Own 27 (ekI .u64) v9 t6, Box b1 [.int .i64 a0.Op, .int .i64 a0.Cap, .int .i64 a0.A, .int .i64 a0.B, .int .i64 a0.C, .int .i64 a0.D], F] (fun l2 hk2 => ?_) ?_
      · rcases bool_or t3 with b58 | b58
        · refine SO.takeT rfl rfl rfl b58 ?_
          refine SO.v rfl (opv_move rfl) ?_
          refine SO.takeT rfl rfl rfl b58 ?_
          refine SO.v rfl (opv_eqlN (e := t56) Try.underlying45 rfl) ?_
          refine SO.v rfl (opv_pick_t' b58 rfl rfl) ?_
          refine SO.b5 ?_
          refine SO.b5 ?_
          refine SO.b5 ?_
          refine SO.b5 ?_
          refine SO.b5 ?_
          refine SO.b5 ?_
          exact hk2.fitc (m := 3) rfl (and_t b58) rfl
        · refine SO.passF rfl rfl rfl b58 rfl rfl ?_
          refine SO.passF rfl rfl rfl b58 rfl rfl ?_
          refine SO.v rfl (opv_pick_f' b58 rfl rfl) ?_
          refine SO.b5 ?_
          refine SO.b5 ?_
          refine SO.b5 ?_
          refine SO.b5 ?_
          refine SO.b5 ?_
          refine SO.b5 ?_
          exact hk2.fitc (m := 3) rfl (and_f b58) rfl
      refine SO.v rfl (opv_move rfl) ?_
      refine SO.cut 4 128 (.bool ((t3 && t56.isNone) && (t55 == a3))) [Box b53 [.int .i64 t50.Code, .int .i64 t50.Word, .int .i64 t50.Badge], Box b2 [.int .i64 a2.Code, .int .i64 a2.Word, .int .i64 a2.Badge], Box b23 [.int .i64 t20.Op, .int .i64 t20.Cap, .int .i64 t20.A, .int .i64 t20.B, .int .i64 t20.C, .int .i64 t20.D], Own 27 (ekI .u64) v9 t6, Box b1 [.int .i64 a0.Op, .int .i64 a0.Cap, .int .i64 a0.A, .int .i64 a0.B, .int .i64 a0.C, .int .i64 a0.D], F] (fun l2 hk2 => ?_) ?_
      · rcases bool_or (t3 && t56.isNone) with b59 | b59
        · refine SO.takeT rfl rfl rfl b59 ?_
          refine SO.v rfl (opv_move rfl) ?_
          refine SO.takeT rfl rfl rfl b59 ?_
          refine SO.v rfl (opv_move rfl) ?_
          refine SO.takeT rfl rfl rfl b59 ?_
          refine SO.v rfl (opv_eql rfl rfl) ?_
          refine SO.v rfl (opv_pick_t' b59 rfl rfl) ?_
          refine SO.b5 ?_
          refine SO.b5 ?_
          refine SO.b5 ?_
          refine SO.b5 ?_
          refine SO.b5 ?_
          refine SO.b5 ?_
          exact hk2.fitc (m := 4) rfl (and_t b59) rfl
        · refine SO.passF rfl rfl rfl b59 rfl rfl ?_
          refine SO.passF rfl rfl rfl b59 rfl rfl ?_
          refine SO.passF rfl rfl rfl b59 rfl rfl ?_
          refine SO.v rfl (opv_pick_f' b59 rfl rfl) ?_
          refine SO.b5 ?_
          refine SO.b5 ?_
          refine SO.b5 ?_
          refine SO.b5 ?_
          refine SO.b5 ?_
          refine SO.b5 ?_
          exact hk2.fitc (m := 4) rfl (and_f b59) rfl
      refine SO.v rfl (opv_assign rfl) ?_
      refine SO.nil ?_
      refine S.to (ρ' := [(8, .bool ((t3 && t56.isNone) && (t55 == a3)))]) ⟨rfl, trivial⟩ ?_
      cases h
      refine S.drop ?_
      refine S.drop ?_
      refine S.drop ?_
      refine S.drop ?_
      refine S.drop ?_
      exact S.ret1 Try.func14 rfl rfl (fun w hs hk => hR w _ _ ⟨rfl, rfl⟩ hs hk)
end Go.Proofs
namespace Go.Proofs
open Go.Sl Go.RowKit
/-! 62 padstone/padstoneref10.in -/
def ref10_in.f (a0 : Int) (a1 : Int) : Option (Bool) :=
  some ((decide (0 ≤ a0)) && (decide (a0 ≤ a1)))
set_option maxHeartbeats 8000000 in
set_option maxRecDepth 100000 in
theorem ref10_in.ct (a0 : Int) (a1 : Int) (r0 : Bool) (h : ref10_in.f a0 a1 = some r0) :
    Ct Try.prog 62 [.int .i64 a0, .int .i64 a1] (fun _ => True) [] (fun u H' => u = .bool r0 ∧ H' = []) := by
  unfold ref10_in.f at h
  refine Ct.intro (n := 12) Try.func62 rfl rfl rfl ?_
  intro R w0 F hF hR
  refine S.seq ?_
  refine S.region ?_
  refine SO.v rfl (opv_assign rfl) ?_
  refine SO.nil ?_
  refine S.seq ?_
  refine S.region ?_
  refine SO.v rfl (opv_move rfl) ?_
  refine SO.v rfl (opv_geq rfl rfl) ?_
  refine SO.v rfl (opv_move rfl) ?_
  refine SO.cut 4 11 (.bool ((decide (0 ≤ a0)) && (decide (a0 ≤ a1)))) [F] (fun l2 hk2 => ?_) ?_
  · rcases bool_or (decide (0 ≤ a0)) with b1 | b1
    · refine SO.takeT rfl rfl rfl b1 ?_
      refine SO.v rfl (opv_move rfl) ?_
      refine SO.takeT rfl rfl rfl b1 ?_
      refine SO.v rfl (opv_move rfl) ?_
      refine SO.takeT rfl rfl rfl b1 ?_
      refine SO.v rfl (opv_leq rfl rfl) ?_
      refine SO.v rfl (opv_pick_t' b1 rfl rfl) ?_
      exact hk2.fitc (m := 4) rfl (and_t b1) rfl
    · refine SO.passF rfl rfl rfl b1 rfl rfl ?_
      refine SO.passF rfl rfl rfl b1 rfl rfl ?_
      refine SO.passF rfl rfl rfl b1 rfl rfl ?_
      refine SO.v rfl (opv_pick_f' b1 rfl rfl) ?_
      exact hk2.fitc (m := 4) rfl (and_f b1) rfl
  refine SO.v rfl (opv_assign rfl) ?_
  refine SO.nil ?_
  cases h
  exact S.ret1 Try.func62 rfl rfl (fun w hs hk => hR w _ _ ⟨rfl, rfl⟩ hs hk)
end Go.Proofs
namespace Go.Proofs
open Go.Sl Go.RowKit
/-! 26 padstone/padstoneref10.May -/
def ref10_May.f (a0 : api_Call) : Option (Bool) :=
  (ref10_in.f a0.A 2147483647).bind fun t2 => (ref10_in.f a0.B 2147483647).bind fun t4 => (ref10_in.f a0.C 2147483647).bind fun t6 => (ref10_in.f a0.D 2147483647).bind fun t8 => (ref10_in.f a0.Cap 65535).bind fun t10 => some ((((((t2 && t4) && t6) && t8) && t10) && (decide (1 ≤ a0.Op))) && (decide (a0.Op ≤ 22)))
set_option maxHeartbeats 8000000 in
set_option maxRecDepth 100000 in
theorem ref10_May.ct (a0 : api_Call) (r0 : Bool) (h : ref10_May.f a0 = some r0) :
    Ct Try.prog 26 [.agg #[.int .i64 a0.Op, .int .i64 a0.Cap, .int .i64 a0.A, .int .i64 a0.B, .int .i64 a0.C, .int .i64 a0.D]] (fun _ => True) [] (fun u H' => u = .bool r0 ∧ H' = []) := by
  unfold ref10_May.f at h
  refine Ct.intro (n := 46) Try.func26 rfl rfl rfl ?_
  intro R w0 F hF hR
  refine S.seq ?_
  refine S.region ?_
  refine SO.box rfl rfl rfl (fun b1 => ?_)
  refine SO.v rfl (opv_assign rfl) ?_
  refine SO.nil ?_
  refine S.seq ?_
  refine S.region ?_
  refine SO.v rfl (opv_fieldAddr Try.underlying42 rfl Try.sizeOf3 rfl rfl) ?_
  refine SO.load1 rfl Try.isAgg3 rfl rfl ?_
  obtain ⟨t2, ht3, h⟩ := opt_bind h
  refine SO.call (pre := []) rfl Try.call62 rfl rfl rfl (ref10_in.ct _ _ _ ht3) trivial ?_
  rintro _ _ ⟨rfl, rfl⟩
  refine SO.v rfl (opv_assign rfl) ?_
  refine SO.nil ?_
  refine S.seq ?_
  refine S.region ?_
  refine SO.v rfl (opv_fieldAddr Try.underlying42 rfl Try.sizeOf3 rfl rfl) ?_
  refine SO.load1 rfl Try.isAgg3 rfl rfl ?_
  obtain ⟨t4, ht5, h⟩ := opt_bind h
  refine SO.call (pre := []) rfl Try.call62 rfl rfl rfl (ref10_in.ct _ _ _ ht5) trivial ?_
  rintro _ _ ⟨rfl, rfl⟩
  refine SO.v rfl (opv_assign rfl) ?_
  refine SO.nil ?_
  refine S.to (ρ' := [(1, bp b1 0), (2, .bool false), (3, .bool t2), (4, .bool t4)]) ⟨rfl, rfl, rfl, rfl, trivial⟩ ?_
  refine S.seq ?_
  refine S.region ?_
  refine SO.v rfl (opv_fieldAddr Try.underlying42 rfl Try.sizeOf3 rfl rfl) ?_
  refine SO.load1 rfl Try.isAgg3 rfl rfl ?_
  obtain ⟨t6, ht7, h⟩ := opt_bind h
  refine SO.call (pre := []) rfl Try.call62 rfl rfl rfl (ref10_in.ct _ _ _ ht7) trivial ?_
  rintro _ _ ⟨rfl, rfl⟩
  refine SO.v rfl (opv_assign rfl) ?_
  refine SO.nil ?_
  refine S.seq ?_
  refine S.region ?_
  refine SO.v rfl (opv_fieldAddr Try.underlying42 rfl Try.sizeOf3 rfl rfl) ?_
  refine SO.load1 rfl Try.isAgg3 rfl rfl ?_
  obtain ⟨t8, ht9, h⟩ := opt_bind h
  refine SO.call (pre := []) rfl Try.call62 rfl rfl rfl (ref10_in.ct _ _ _ ht9) trivial ?_
  rintro _ _ ⟨rfl, rfl⟩
  refine SO.v rfl (opv_assign rfl) ?_
  refine SO.nil ?_
  refine S.seq ?_
  refine S.region ?_
  refine SO.v rfl (opv_fieldAddr Try.underlying42 rfl Try.sizeOf3 rfl rfl) ?_
  refine SO.load1 rfl Try.isAgg3 rfl rfl ?_
  obtain ⟨t10, ht11, h⟩ := opt_bind h
  refine SO.call (pre := []) rfl Try.call62 rfl rfl rfl (ref10_in.ct _ _ _ ht11) trivial ?_
  rintro _ _ ⟨rfl, rfl⟩
  refine SO.v rfl (opv_assign rfl) ?_
  refine SO.nil ?_
  refine S.to (ρ' := [(1, bp b1 0), (2, .bool false), (3, .bool t2), (4, .bool t4), (5, .bool t6), (6, .bool t8), (7, .bool t10)]) ⟨rfl, rfl, rfl, rfl, rfl, rfl, rfl, trivial⟩ ?_
  refine S.seq ?_
  refine S.region ?_
  refine SO.v rfl (opv_move rfl) ?_
  refine SO.v rfl (opv_move rfl) ?_
  refine SO.cut 2 26 (.bool (t2 && t4)) [Box b1 [.int .i64 a0.Op, .int .i64 a0.Cap, .int .i64 a0.A, .int .i64 a0.B, .int .i64 a0.C, .int .i64 a0.D], F] (fun l2 hk2 => ?_) ?_
  · rcases bool_or t2 with b12 | b12
    · refine SO.takeT rfl rfl rfl b12 ?_
      refine SO.v rfl (opv_move rfl) ?_
      refine SO.v rfl (opv_pick_t' b12 rfl rfl) ?_
      refine SO.b1 ?_
      refine SO.b1 ?_
      exact hk2.fitc (m := 2) rfl (and_t b12) rfl
    · refine SO.passF rfl rfl rfl b12 rfl rfl ?_
      refine SO.v rfl (opv_pick_f' b12 rfl rfl) ?_
      refine SO.b1 ?_
      refine SO.b1 ?_
      exact hk2.fitc (m := 2) rfl (and_f b12) rfl
  refine SO.v rfl (opv_move rfl) ?_
  refine SO.cut 2 29 (.bool ((t2 && t4) && t6)) [Box b1 [.int .i64 a0.Op, .int .i64 a0.Cap, .int .i64 a0.A, .int .i64 a0.B, .int .i64 a0.C, .int .i64 a0.D], F] (fun l2 hk2 => ?_) ?_
  · rcases bool_or (t2 && t4) with b13 | b13
    · refine SO.takeT rfl rfl rfl b13 ?_
      refine SO.v rfl (opv_move rfl) ?_
      refine SO.v rfl (opv_pick_t' b13 rfl rfl) ?_
      refine SO.b1 ?_
      refine SO.b1 ?_
      exact hk2.fitc (m := 2) rfl (and_t b13) rfl
    · refine SO.passF rfl rfl rfl b13 rfl rfl ?_
      refine SO.v rfl (opv_pick_f' b13 rfl rfl) ?_
      refine SO.b1 ?_
      refine SO.b1 ?_
      exact hk2.fitc (m := 2) rfl (and_f b13) rfl
  refine SO.v rfl (opv_move rfl) ?_
  refine SO.cut 2 32 (.bool (((t2 && t4) && t6) && t8)) [Box b1 [.int .i64 a0.Op, .int .i64 a0.Cap, .int .i64 a0.A, .int .i64 a0.B, .int .i64 a0.C, .int .i64 a0.D], F] (fun l2 hk2 => ?_) ?_
  · rcases bool_or ((t2 && t4) && t6) with b14 | b14
    · refine SO.takeT rfl rfl rfl b14 ?_
      refine SO.v rfl (opv_move rfl) ?_
      refine SO.v rfl (opv_pick_t' b14 rfl rfl) ?_
      refine SO.b1 ?_
      refine SO.b1 ?_
      exact hk2.fitc (m := 2) rfl (and_t b14) rfl
    · refine SO.passF rfl rfl rfl b14 rfl rfl ?_
      refine SO.v rfl (opv_pick_f' b14 rfl rfl) ?_
      refine SO.b1 ?_
      refine SO.b1 ?_
      exact hk2.fitc (m := 2) rfl (and_f b14) rfl
  refine SO.v rfl (opv_move rfl) ?_
  refine SO.cut 2 35 (.bool ((((t2 && t4) && t6) && t8) && t10)) [Box b1 [.int .i64 a0.Op, .int .i64 a0.Cap, .int .i64 a0.A, .int .i64 a0.B, .int .i64 a0.C, .int .i64 a0.D], F] (fun l2 hk2 => ?_) ?_
  · rcases bool_or (((t2 && t4) && t6) && t8) with b15 | b15
    · refine SO.takeT rfl rfl rfl b15 ?_
      refine SO.v rfl (opv_move rfl) ?_
      refine SO.v rfl (opv_pick_t' b15 rfl rfl) ?_
      refine SO.b1 ?_
      refine SO.b1 ?_
      exact hk2.fitc (m := 2) rfl (and_t b15) rfl
    · refine SO.passF rfl rfl rfl b15 rfl rfl ?_
      refine SO.v rfl (opv_pick_f' b15 rfl rfl) ?_
      refine SO.b1 ?_
      refine SO.b1 ?_
      exact hk2.fitc (m := 2) rfl (and_f b15) rfl
  refine SO.v rfl (opv_move rfl) ?_
  refine SO.cut 4 40 (.bool (((((t2 && t4) && t6) && t8) && t10) && (decide (1 ≤ a0.Op)))) [Box b1 [.int .i64 a0.Op, .int .i64 a0.Cap, .int .i64 a0.A, .int .i64 a0.B, .int .i64 a0.C, .int .i64 a0.D], F] (fun l2 hk2 => ?_) ?_
  · rcases bool_or ((((t2 && t4) && t6) && t8) && t10) with b16 | b16
    · refine SO.takeT rfl rfl rfl b16 ?_
      refine SO.v rfl (opv_fieldAddr Try.underlying42 rfl Try.sizeOf3 rfl rfl) ?_
      refine SO.takeT rfl rfl rfl b16 ?_
      refine SO.load1 rfl Try.isAgg3 rfl rfl ?_
      refine SO.takeT rfl rfl rfl b16 ?_
      refine SO.v rfl (opv_geq rfl rfl) ?_
      refine SO.v rfl (opv_pick_t' b16 rfl rfl) ?_
      refine SO.b1 ?_
      refine SO.b1 ?_
      exact hk2.fitc (m := 4) rfl (and_t b16) rfl
    · refine SO.passF rfl rfl rfl b16 rfl rfl ?_
      refine SO.passF rfl rfl rfl b16 rfl rfl ?_
      refine SO.passF rfl rfl rfl b16 rfl rfl ?_
      refine SO.v rfl (opv_pick_f' b16 rfl rfl) ?_
      refine SO.b1 ?_
      refine SO.b1 ?_
      exact hk2.fitc (m := 4) rfl (and_f b16) rfl
  refine SO.v rfl (opv_move rfl) ?_
  refine SO.cut 4 45 (.bool ((((((t2 && t4) && t6) && t8) && t10) && (decide (1 ≤ a0.Op))) && (decide (a0.Op ≤ 22)))) [Box b1 [.int .i64 a0.Op, .int .i64 a0.Cap, .int .i64 a0.A, .int .i64 a0.B, .int .i64 a0.C, .int .i64 a0.D], F] (fun l2 hk2 => ?_) ?_
  · rcases bool_or (((((t2 && t4) && t6) && t8) && t10) && (decide (1 ≤ a0.Op))) with b17 | b17
    · refine SO.takeT rfl rfl rfl b17 ?_
      refine SO.v rfl (opv_fieldAddr Try.underlying42 rfl Try.sizeOf3 rfl rfl) ?_
      refine SO.takeT rfl rfl rfl b17 ?_
      refine SO.load1 rfl Try.isAgg3 rfl rfl ?_
      refine SO.takeT rfl rfl rfl b17 ?_
      refine SO.v rfl (opv_leq rfl rfl) ?_
      refine SO.v rfl (opv_pick_t' b17 rfl rfl) ?_
      refine SO.b1 ?_
      refine SO.b1 ?_
      exact hk2.fitc (m := 4) rfl (and_t b17) rfl
    · refine SO.passF rfl rfl rfl b17 rfl rfl ?_
      refine SO.passF rfl rfl rfl b17 rfl rfl ?_
      refine SO.passF rfl rfl rfl b17 rfl rfl ?_
      refine SO.v rfl (opv_pick_f' b17 rfl rfl) ?_
      refine SO.b1 ?_
      refine SO.b1 ?_
      exact hk2.fitc (m := 4) rfl (and_f b17) rfl
  refine SO.v rfl (opv_assign rfl) ?_
  refine SO.nil ?_
  refine S.to (ρ' := [(2, .bool ((((((t2 && t4) && t6) && t8) && t10) && (decide (1 ≤ a0.Op))) && (decide (a0.Op ≤ 22))))]) ⟨rfl, trivial⟩ ?_
  cases h
  refine S.drop ?_
  exact S.ret1 Try.func26 rfl rfl (fun w hs hk => hR w _ _ ⟨rfl, rfl⟩ hs hk)
end Go.Proofs
