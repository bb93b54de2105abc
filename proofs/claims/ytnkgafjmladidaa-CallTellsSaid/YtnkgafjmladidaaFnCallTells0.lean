/- What the functions that CallTells reaches come to, and that they do. On no condition. -/
import Derived.Test.YtnkgafjmladidaaSlDraw
import Derived.Test.YtnkgafjmladidaaProg
set_option linter.all false
namespace Go.Proofs
open Go.Sl Go.RowKit
theorem inf3 : Try.prog.info? 3 = some Try.t3 := by kernel_rfl
theorem inf48 : Try.prog.info? 48 = some Try.t48 := by kernel_rfl
structure api_Call where
  Op : Int
  Cap : Int
  A : Int
  B : Int
  C : Int
  D : Int
  deriving DecidableEq, Inhabited
def ek_api_Call : EK api_Call := ⟨6, fun x => [.int .i64 x.Op, .int .i64 x.Cap, .int .i64 x.A, .int .i64 x.B, .int .i64 x.C, .int .i64 x.D], fun _ => rfl, fun x v hv => by
  simp only [List.mem_cons, List.not_mem_nil, or_false] at hv
  rcases hv with rfl | rfl | rfl | rfl | rfl | rfl <;> rfl, by decide⟩
theorem eqI_api_Call (x y : api_Call) : eqI [x.Op, x.Cap, x.A, x.B, x.C, x.D] [y.Op, y.Cap, y.A, y.B, y.C, y.D] = decide (x = y) := by
  cases x; cases y
  rw [Bool.eq_iff_iff]
  simp [eqI]
theorem fi_api_Call : ∀ fs, Try.prog.underlying 42 = some (.struct fs) → FI Try.prog fs.toList 0 [.i64, .i64, .i64, .i64, .i64, .i64] := by
  intro fs h
  rw [Try.underlying42] at h
  injection h with h
  injection h with h
  subst h
  exact ⟨by decide, Try.underlying3, rfl, ⟨by decide, Try.underlying3, rfl, ⟨by decide, Try.underlying3, rfl, ⟨by decide, Try.underlying3, rfl, ⟨by decide, Try.underlying3, rfl, ⟨by decide, Try.underlying3, rfl, trivial⟩⟩⟩⟩⟩⟩
theorem eq_eql_api_Call {ρ : Env} {t2 : TypeId} {x y : api_Call} {a b : Operand} (ha : ev ρ a = some (.agg (encI [.i64, .i64, .i64, .i64, .i64, .i64] [x.Op, x.Cap, x.A, x.B, x.C, x.D]).toArray)) (hb : ev ρ b = some (.agg (encI [.i64, .i64, .i64, .i64, .i64, .i64] [y.Op, y.Cap, y.A, y.B, y.C, y.D]).toArray)) : OpV Try.prog ρ (.binOp .eql 42 a b t2) (.bool (decide (x = y))) :=
  opv_eqlS Try.underlying42 Try.stoodInHeld42 Try.eqGuardType42 (fi_api_Call _ Try.underlying42) rfl rfl ha hb (by rw [eqI_api_Call])
theorem eq_neq_api_Call {ρ : Env} {t2 : TypeId} {x y : api_Call} {a b : Operand} (ha : ev ρ a = some (.agg (encI [.i64, .i64, .i64, .i64, .i64, .i64] [x.Op, x.Cap, x.A, x.B, x.C, x.D]).toArray)) (hb : ev ρ b = some (.agg (encI [.i64, .i64, .i64, .i64, .i64, .i64] [y.Op, y.Cap, y.A, y.B, y.C, y.D]).toArray)) : OpV Try.prog ρ (.binOp .neq 42 a b t2) (.bool (!decide (x = y))) :=
  opv_neqS Try.underlying42 Try.stoodInHeld42 Try.eqGuardType42 (fi_api_Call _ Try.underlying42) rfl rfl ha hb (by rw [eqI_api_Call])
structure api_Reply where
  Code : Int
  Word : Int
  Badge : Int
  deriving DecidableEq, Inhabited
def ek_api_Reply : EK api_Reply := ⟨3, fun x => [.int .i64 x.Code, .int .i64 x.Word, .int .i64 x.Badge], fun _ => rfl, fun x v hv => by
  simp only [List.mem_cons, List.not_mem_nil, or_false] at hv
  rcases hv with rfl | rfl | rfl <;> rfl, by decide⟩
theorem eqI_api_Reply (x y : api_Reply) : eqI [x.Code, x.Word, x.Badge] [y.Code, y.Word, y.Badge] = decide (x = y) := by
  cases x; cases y
  rw [Bool.eq_iff_iff]
  simp [eqI]
theorem fi_api_Reply : ∀ fs, Try.prog.underlying 82 = some (.struct fs) → FI Try.prog fs.toList 0 [.i64, .i64, .i64] := by
  intro fs h
  rw [Try.underlying82] at h
  injection h with h
  injection h with h
  subst h
  exact ⟨by decide, Try.underlying3, rfl, ⟨by decide, Try.underlying3, rfl, ⟨by decide, Try.underlying3, rfl, trivial⟩⟩⟩
theorem eq_eql_api_Reply {ρ : Env} {t2 : TypeId} {x y : api_Reply} {a b : Operand} (ha : ev ρ a = some (.agg (encI [.i64, .i64, .i64] [x.Code, x.Word, x.Badge]).toArray)) (hb : ev ρ b = some (.agg (encI [.i64, .i64, .i64] [y.Code, y.Word, y.Badge]).toArray)) : OpV Try.prog ρ (.binOp .eql 82 a b t2) (.bool (decide (x = y))) :=
  opv_eqlS Try.underlying82 Try.stoodInHeld82 Try.eqGuardType82 (fi_api_Reply _ Try.underlying82) rfl rfl ha hb (by rw [eqI_api_Reply])
theorem eq_neq_api_Reply {ρ : Env} {t2 : TypeId} {x y : api_Reply} {a b : Operand} (ha : ev ρ a = some (.agg (encI [.i64, .i64, .i64] [x.Code, x.Word, x.Badge]).toArray)) (hb : ev ρ b = some (.agg (encI [.i64, .i64, .i64] [y.Code, y.Word, y.Badge]).toArray)) : OpV Try.prog ρ (.binOp .neq 82 a b t2) (.bool (!decide (x = y))) :=
  opv_neqS Try.underlying82 Try.stoodInHeld82 Try.eqGuardType82 (fi_api_Reply _ Try.underlying82) rfl rfl ha hb (by rw [eqI_api_Reply])
structure api_Cap where
  Kind : Int
  Rights : Int
  Obj : Int
  Badge : Int
  Guard : Int
  Bits : Int
  deriving DecidableEq, Inhabited
def ek_api_Cap : EK api_Cap := ⟨6, fun x => [.int .i64 x.Kind, .int .i64 x.Rights, .int .i64 x.Obj, .int .i64 x.Badge, .int .i64 x.Guard, .int .i64 x.Bits], fun _ => rfl, fun x v hv => by
  simp only [List.mem_cons, List.not_mem_nil, or_false] at hv
  rcases hv with rfl | rfl | rfl | rfl | rfl | rfl <;> rfl, by decide⟩
theorem eqI_api_Cap (x y : api_Cap) : eqI [x.Kind, x.Rights, x.Obj, x.Badge, x.Guard, x.Bits] [y.Kind, y.Rights, y.Obj, y.Badge, y.Guard, y.Bits] = decide (x = y) := by
  cases x; cases y
  rw [Bool.eq_iff_iff]
  simp [eqI]
theorem fi_api_Cap : ∀ fs, Try.prog.underlying 53 = some (.struct fs) → FI Try.prog fs.toList 0 [.i64, .i64, .i64, .i64, .i64, .i64] := by
  intro fs h
  rw [Try.underlying53] at h
  injection h with h
  injection h with h
  subst h
  exact ⟨by decide, Try.underlying3, rfl, ⟨by decide, Try.underlying3, rfl, ⟨by decide, Try.underlying3, rfl, ⟨by decide, Try.underlying3, rfl, ⟨by decide, Try.underlying3, rfl, ⟨by decide, Try.underlying3, rfl, trivial⟩⟩⟩⟩⟩⟩
theorem eq_eql_api_Cap {ρ : Env} {t2 : TypeId} {x y : api_Cap} {a b : Operand} (ha : ev ρ a = some (.agg (encI [.i64, .i64, .i64, .i64, .i64, .i64] [x.Kind, x.Rights, x.Obj, x.Badge, x.Guard, x.Bits]).toArray)) (hb : ev ρ b = some (.agg (encI [.i64, .i64, .i64, .i64, .i64, .i64] [y.Kind, y.Rights, y.Obj, y.Badge, y.Guard, y.Bits]).toArray)) : OpV Try.prog ρ (.binOp .eql 53 a b t2) (.bool (decide (x = y))) :=
  opv_eqlS Try.underlying53 Try.stoodInHeld53 Try.eqGuardType53 (fi_api_Cap _ Try.underlying53) rfl rfl ha hb (by rw [eqI_api_Cap])
theorem eq_neq_api_Cap {ρ : Env} {t2 : TypeId} {x y : api_Cap} {a b : Operand} (ha : ev ρ a = some (.agg (encI [.i64, .i64, .i64, .i64, .i64, .i64] [x.Kind, x.Rights, x.Obj, x.Badge, x.Guard, x.Bits]).toArray)) (hb : ev ρ b = some (.agg (encI [.i64, .i64, .i64, .i64, .i64, .i64] [y.Kind, y.Rights, y.Obj, y.Badge, y.Guard, y.Bits]).toArray)) : OpV Try.prog ρ (.binOp .neq 53 a b t2) (.bool (!decide (x = y))) :=
  opv_neqS Try.underlying53 Try.stoodInHeld53 Try.eqGuardType53 (fi_api_Cap _ Try.underlying53) rfl rfl ha hb (by rw [eqI_api_Cap])
end Go.Proofs
namespace Go.Proofs
open Go.Sl Go.RowKit
/-! 64 padstone/call.Get$1 -/
def call_Get_1.f (a0 : Int) : Option (Int) :=
  some (w64 (band .u64 a0 4294967295))
set_option maxHeartbeats 8000000 in
set_option maxRecDepth 100000 in
theorem call_Get_1.ct (a0 : Int) (r0 : Int) (h : call_Get_1.f a0 = some r0) :
    Ct Try.prog 64 [.int .u64 a0] (fun _ => True) [] (fun u H' => u = .int .i64 r0 ∧ H' = []) := by
  unfold call_Get_1.f at h
  refine Ct.intro (n := 6) Try.func64 rfl rfl rfl ?_
  intro R w0 F hF hR
  refine S.seq ?_
  refine S.region ?_
  refine SO.v rfl (opv_assign rfl) ?_
  refine SO.nil ?_
  refine S.seq ?_
  refine S.region ?_
  refine SO.v rfl (opv_move rfl) ?_
  refine SO.v rfl (opv_and rfl rfl) ?_
  refine SO.v rfl (opv_conv Try.underlying27 Try.underlying3 rfl) ?_
  refine SO.v rfl (opv_assign rfl) ?_
  refine SO.nil ?_
  cases h
  exact S.ret1 Try.func64 rfl rfl (fun w hs hk => hR w _ _ ⟨rfl, rfl⟩ hs hk)
end Go.Proofs
namespace Go.Proofs
open Go.Sl Go.RowKit
/-! 65 padstone/call.Get$2 -/
def call_Get_2.f (a0 : Int) : Option (Int) :=
  some (w64 (bshr .u64 a0 32))
set_option maxHeartbeats 8000000 in
set_option maxRecDepth 100000 in
theorem call_Get_2.ct (a0 : Int) (r0 : Int) (h : call_Get_2.f a0 = some r0) :
    Ct Try.prog 65 [.int .u64 a0] (fun _ => True) [] (fun u H' => u = .int .i64 r0 ∧ H' = []) := by
  unfold call_Get_2.f at h
  refine Ct.intro (n := 6) Try.func65 rfl rfl rfl ?_
  intro R w0 F hF hR
  refine S.seq ?_
  refine S.region ?_
  refine SO.v rfl (opv_assign rfl) ?_
  refine SO.nil ?_
  refine S.seq ?_
  refine S.region ?_
  refine SO.v rfl (opv_move rfl) ?_
  refine SO.v rfl (opv_shr rfl rfl (by decide)) ?_
  refine SO.v rfl (opv_conv Try.underlying27 Try.underlying3 rfl) ?_
  refine SO.v rfl (opv_assign rfl) ?_
  refine SO.nil ?_
  cases h
  exact S.ret1 Try.func65 rfl rfl (fun w hs hk => hR w _ _ ⟨rfl, rfl⟩ hs hk)
end Go.Proofs
namespace Go.Proofs
open Go.Sl Go.RowKit
/-! 63 padstone/call.in -/
def call_in.f (a0 : Int) (a1 : Int) : Option (Bool) :=
  some ((decide (0 ≤ a0)) && (decide (a0 ≤ a1)))
set_option maxHeartbeats 8000000 in
set_option maxRecDepth 100000 in
theorem call_in.ct (a0 : Int) (a1 : Int) (r0 : Bool) (h : call_in.f a0 a1 = some r0) :
    Ct Try.prog 63 [.int .i64 a0, .int .i64 a1] (fun _ => True) [] (fun u H' => u = .bool r0 ∧ H' = []) := by
  unfold call_in.f at h
  refine Ct.intro (n := 12) Try.func63 rfl rfl rfl ?_
  intro R w0 F hF hR
  refine S.seq ?_
  refine S.region ?_
  refine SO.v rfl (opv_assign rfl) ?_
  refine SO.nil ?_
  refine S.seq ?_
  refine S.region ?_
  refine SO.v rfl (opv_move rfl) ?_
  refine SO.v rfl (opv_geq rfl rfl) ?_
  refine SO.v rfl (opv_move rfl) ?_
  refine SO.cut 4 11 (.bool ((decide (0 ≤ a0)) && (decide (a0 ≤ a1)))) [F] (fun l2 hk2 => ?_) ?_
  · rcases bool_or (decide (0 ≤ a0)) with b1 | b1
    · refine SO.takeT rfl rfl rfl b1 ?_
      refine SO.v rfl (opv_move rfl) ?_
      refine SO.takeT rfl rfl rfl b1 ?_
      refine SO.v rfl (opv_move rfl) ?_
      refine SO.takeT rfl rfl rfl b1 ?_
      refine SO.v rfl (opv_leq rfl rfl) ?_
      refine SO.v rfl (opv_pick_t' b1 rfl rfl) ?_
      exact hk2.fitc (m := 4) rfl (and_t b1) rfl
    · refine SO.passF rfl rfl rfl b1 rfl rfl ?_
      refine SO.passF rfl rfl rfl b1 rfl rfl ?_
      refine SO.passF rfl rfl rfl b1 rfl rfl ?_
      refine SO.v rfl (opv_pick_f' b1 rfl rfl) ?_
      exact hk2.fitc (m := 4) rfl (and_f b1) rfl
  refine SO.v rfl (opv_assign rfl) ?_
  refine SO.nil ?_
  cases h
  exact S.ret1 Try.func63 rfl rfl (fun w hs hk => hR w _ _ ⟨rfl, rfl⟩ hs hk)
end Go.Proofs
namespace Go.Proofs
open Go.Sl Go.RowKit
/-! 28 padstone/call.May -/
def call_May.f (a0 : api_Call) : Option (Bool) :=
  (bif (decide (1 ≤ a0.Op)) && (decide (a0.Op ≤ 22)) then ((call_in.f a0.Cap 65535).bind fun t6 => some t6) else (some false)).bind fun c4 => (bif c4 then ((call_in.f a0.A 2147483647).bind fun t11 => some t11) else (some false)).bind fun c9 => (bif c9 then ((call_in.f a0.B 2147483647).bind fun t16 => some t16) else (some false)).bind fun c14 => (bif c14 then ((call_in.f a0.C 2147483647).bind fun t21 => some t21) else (some false)).bind fun c19 => (bif c19 then ((call_in.f a0.D 2147483647).bind fun t26 => some t26) else (some false)).bind fun c24 => some c24
set_option maxHeartbeats 8000000 in
set_option maxRecDepth 100000 in
theorem call_May.ct (a0 : api_Call) (r0 : Bool) (h : call_May.f a0 = some r0) :
    Ct Try.prog 28 [.agg #[.int .i64 a0.Op, .int .i64 a0.Cap, .int .i64 a0.A, .int .i64 a0.B, .int .i64 a0.C, .int .i64 a0.D]] (fun _ => True) [] (fun u H' => u = .bool r0 ∧ H' = []) := by
  unfold call_May.f at h
  refine Ct.intro (n := 36) Try.func28 rfl rfl rfl ?_
  intro R w0 F hF hR
  refine S.seq ?_
  refine S.region ?_
  refine SO.box rfl rfl rfl (fun b1 => ?_)
  refine SO.v rfl (opv_assign rfl) ?_
  refine SO.nil ?_
  refine S.seq ?_
  refine S.region ?_
  refine SO.v rfl (opv_fieldAddr Try.underlying42 rfl Try.sizeOf3 rfl rfl) ?_
  refine SO.load1 rfl Try.isAgg3 rfl rfl ?_
  refine SO.v rfl (opv_geq rfl rfl) ?_
  refine SO.v rfl (opv_move rfl) ?_
  refine SO.cut 4 10 (.bool ((decide (1 ≤ a0.Op)) && (decide (a0.Op ≤ 22)))) [Box b1 [.int .i64 a0.Op, .int .i64 a0.Cap, .int .i64 a0.A, .int .i64 a0.B, .int .i64 a0.C, .int .i64 a0.D], F] (fun l2 hk2 => ?_) ?_
  · rcases bool_or (decide (1 ≤ a0.Op)) with b2 | b2
    · refine SO.takeT rfl rfl rfl b2 ?_
      refine SO.v rfl (opv_fieldAddr Try.underlying42 rfl Try.sizeOf3 rfl rfl) ?_
      refine SO.takeT rfl rfl rfl b2 ?_
      refine SO.load1 rfl Try.isAgg3 rfl rfl ?_
      refine SO.takeT rfl rfl rfl b2 ?_
      refine SO.v rfl (opv_leq rfl rfl) ?_
      refine SO.v rfl (opv_pick_t' b2 rfl rfl) ?_
      refine SO.b1 ?_
      refine SO.b1 ?_
      exact hk2.fitc (m := 4) rfl (and_t b2) rfl
    · refine SO.passF rfl rfl rfl b2 rfl rfl ?_
      refine SO.passF rfl rfl rfl b2 rfl rfl ?_
      refine SO.passF rfl rfl rfl b2 rfl rfl ?_
      refine SO.v rfl (opv_pick_f' b2 rfl rfl) ?_
      refine SO.b1 ?_
      refine SO.b1 ?_
      exact hk2.fitc (m := 4) rfl (and_f b2) rfl
  refine SO.v rfl (opv_move rfl) ?_
  obtain ⟨c4, hc5, hgk⟩ := opt_bind h
  refine SO.cut 4 15 (.bool c4) [Box b1 [.int .i64 a0.Op, .int .i64 a0.Cap, .int .i64 a0.A, .int .i64 a0.B, .int .i64 a0.C, .int .i64 a0.D], F] (fun l2 hk2 => ?_) ?_
  · clear hgk
    replace h := hc5
    rcases bool_or ((decide (1 ≤ a0.Op)) && (decide (a0.Op ≤ 22))) with b3 | b3
    · replace h := cond_t b3 h
      refine SO.takeT rfl rfl rfl b3 ?_
      refine SO.v rfl (opv_fieldAddr Try.underlying42 rfl Try.sizeOf3 rfl rfl) ?_
      refine SO.takeT rfl rfl rfl b3 ?_
      refine SO.load1 rfl Try.isAgg3 rfl rfl ?_
      refine SO.takeT rfl rfl rfl b3 ?_
      obtain ⟨t6, ht7, h⟩ := opt_bind h
      refine SO.call (pre := []) rfl Try.call63 rfl rfl rfl (call_in.ct _ _ _ ht7) trivial ?_
      rintro _ _ ⟨rfl, rfl⟩
      cases h
      refine SO.v rfl (opv_pick_t' b3 rfl rfl) ?_
      refine SO.b1 ?_
      refine SO.b1 ?_
      exact hk2.fitc (m := 4) rfl (rfl) rfl
    · replace h := cond_f b3 h
      refine SO.passF rfl rfl rfl b3 rfl rfl ?_
      refine SO.passF rfl rfl rfl b3 rfl rfl ?_
      refine SO.passF rfl rfl rfl b3 rfl rfl ?_
      cases h
      refine SO.v rfl (opv_pick_f' b3 rfl rfl) ?_
      refine SO.b1 ?_
      refine SO.b1 ?_
      exact hk2.fitc (m := 4) rfl (rfl) rfl
  clear hc5
  replace h := hgk
  refine SO.v rfl (opv_move rfl) ?_
  obtain ⟨c9, hc10, hgk⟩ := opt_bind h
  refine SO.cut 4 20 (.bool c9) [Box b1 [.int .i64 a0.Op, .int .i64 a0.Cap, .int .i64 a0.A, .int .i64 a0.B, .int .i64 a0.C, .int .i64 a0.D], F] (fun l2 hk2 => ?_) ?_
  · clear hgk
    replace h := hc10
    rcases bool_or c4 with b8 | b8
    · replace h := cond_t b8 h
      refine SO.takeT rfl rfl rfl b8 ?_
      refine SO.v rfl (opv_fieldAddr Try.underlying42 rfl Try.sizeOf3 rfl rfl) ?_
      refine SO.takeT rfl rfl rfl b8 ?_
      refine SO.load1 rfl Try.isAgg3 rfl rfl ?_
      refine SO.takeT rfl rfl rfl b8 ?_
      obtain ⟨t11, ht12, h⟩ := opt_bind h
      refine SO.call (pre := []) rfl Try.call63 rfl rfl rfl (call_in.ct _ _ _ ht12) trivial ?_
      rintro _ _ ⟨rfl, rfl⟩
      cases h
      refine SO.v rfl (opv_pick_t' b8 rfl rfl) ?_
      refine SO.b1 ?_
      refine SO.b1 ?_
      exact hk2.fitc (m := 4) rfl (rfl) rfl
    · replace h := cond_f b8 h
      refine SO.passF rfl rfl rfl b8 rfl rfl ?_
      refine SO.passF rfl rfl rfl b8 rfl rfl ?_
      refine SO.passF rfl rfl rfl b8 rfl rfl ?_
      cases h
      refine SO.v rfl (opv_pick_f' b8 rfl rfl) ?_
      refine SO.b1 ?_
      refine SO.b1 ?_
      exact hk2.fitc (m := 4) rfl (rfl) rfl
  clear hc10
  replace h := hgk
  refine SO.v rfl (opv_move rfl) ?_
  obtain ⟨c14, hc15, hgk⟩ := opt_bind h
  refine SO.cut 4 25 (.bool c14) [Box b1 [.int .i64 a0.Op, .int .i64 a0.Cap, .int .i64 a0.A, .int .i64 a0.B, .int .i64 a0.C, .int .i64 a0.D], F] (fun l2 hk2 => ?_) ?_
  · clear hgk
    replace h := hc15
    rcases bool_or c9 with b13 | b13
    · replace h := cond_t b13 h
      refine SO.takeT rfl rfl rfl b13 ?_
      refine SO.v rfl (opv_fieldAddr Try.underlying42 rfl Try.sizeOf3 rfl rfl) ?_
      refine SO.takeT rfl rfl rfl b13 ?_
      refine SO.load1 rfl Try.isAgg3 rfl rfl ?_
      refine SO.takeT rfl rfl rfl b13 ?_
      obtain ⟨t16, ht17, h⟩ := opt_bind h
      refine SO.call (pre := []) rfl Try.call63 rfl rfl rfl (call_in.ct _ _ _ ht17) trivial ?_
      rintro _ _ ⟨rfl, rfl⟩
      cases h
      refine SO.v rfl (opv_pick_t' b13 rfl rfl) ?_
      refine SO.b1 ?_
      refine SO.b1 ?_
      exact hk2.fitc (m := 4) rfl (rfl) rfl
    · replace h := cond_f b13 h
      refine SO.passF rfl rfl rfl b13 rfl rfl ?_
      refine SO.passF rfl rfl rfl b13 rfl rfl ?_
      refine SO.passF rfl rfl rfl b13 rfl rfl ?_
      cases h
      refine SO.v rfl (opv_pick_f' b13 rfl rfl) ?_
      refine SO.b1 ?_
      refine SO.b1 ?_
      exact hk2.fitc (m := 4) rfl (rfl) rfl
  clear hc15
  replace h := hgk
  refine SO.v rfl (opv_move rfl) ?_
  obtain ⟨c19, hc20, hgk⟩ := opt_bind h
  refine SO.cut 4 30 (.bool c19) [Box b1 [.int .i64 a0.Op, .int .i64 a0.Cap, .int .i64 a0.A, .int .i64 a0.B, .int .i64 a0.C, .int .i64 a0.D], F] (fun l2 hk2 => ?_) ?_
  · clear hgk
    replace h := hc20
    rcases bool_or c14 with b18 | b18
    · replace h := cond_t b18 h
      refine SO.takeT rfl rfl rfl b18 ?_
      refine SO.v rfl (opv_fieldAddr Try.underlying42 rfl Try.sizeOf3 rfl rfl) ?_
      refine SO.takeT rfl rfl rfl b18 ?_
      refine SO.load1 rfl Try.isAgg3 rfl rfl ?_
      refine SO.takeT rfl rfl rfl b18 ?_
      obtain ⟨t21, ht22, h⟩ := opt_bind h
      refine SO.call (pre := []) rfl Try.call63 rfl rfl rfl (call_in.ct _ _ _ ht22) trivial ?_
      rintro _ _ ⟨rfl, rfl⟩
      cases h
      refine SO.v rfl (opv_pick_t' b18 rfl rfl) ?_
      refine SO.b1 ?_
      refine SO.b1 ?_
      exact hk2.fitc (m := 4) rfl (rfl) rfl
    · replace h := cond_f b18 h
      refine SO.passF rfl rfl rfl b18 rfl rfl ?_
      refine SO.passF rfl rfl rfl b18 rfl rfl ?_
      refine SO.passF rfl rfl rfl b18 rfl rfl ?_
      cases h
      refine SO.v rfl (opv_pick_f' b18 rfl rfl) ?_
      refine SO.b1 ?_
      refine SO.b1 ?_
      exact hk2.fitc (m := 4) rfl (rfl) rfl
  clear hc20
  replace h := hgk
  refine SO.v rfl (opv_move rfl) ?_
  obtain ⟨c24, hc25, hgk⟩ := opt_bind h
  refine SO.cut 4 35 (.bool c24) [Box b1 [.int .i64 a0.Op, .int .i64 a0.Cap, .int .i64 a0.A, .int .i64 a0.B, .int .i64 a0.C, .int .i64 a0.D], F] (fun l2 hk2 => ?_) ?_
  · clear hgk
    replace h := hc25
    rcases bool_or c19 with b23 | b23
    · replace h := cond_t b23 h
      refine SO.takeT rfl rfl rfl b23 ?_
      refine SO.v rfl (opv_fieldAddr Try.underlying42 rfl Try.sizeOf3 rfl rfl) ?_
      refine SO.takeT rfl rfl rfl b23 ?_
      refine SO.load1 rfl Try.isAgg3 rfl rfl ?_
      refine SO.takeT rfl rfl rfl b23 ?_
      obtain ⟨t26, ht27, h⟩ := opt_bind h
      refine SO.call (pre := []) rfl Try.call63 rfl rfl rfl (call_in.ct _ _ _ ht27) trivial ?_
      rintro _ _ ⟨rfl, rfl⟩
      cases h
      refine SO.v rfl (opv_pick_t' b23 rfl rfl) ?_
      refine SO.b1 ?_
      refine SO.b1 ?_
      exact hk2.fitc (m := 4) rfl (rfl) rfl
    · replace h := cond_f b23 h
      refine SO.passF rfl rfl rfl b23 rfl rfl ?_
      refine SO.passF rfl rfl rfl b23 rfl rfl ?_
      refine SO.passF rfl rfl rfl b23 rfl rfl ?_
      cases h
      refine SO.v rfl (opv_pick_f' b23 rfl rfl) ?_
      refine SO.b1 ?_
      refine SO.b1 ?_
      exact hk2.fitc (m := 4) rfl (rfl) rfl
  clear hc25
  replace h := hgk
  refine SO.v rfl (opv_assign rfl) ?_
  refine SO.nil ?_
  refine S.to (ρ' := [(2, .bool c24)]) ⟨rfl, trivial⟩ ?_
  cases h
  refine S.drop ?_
  exact S.ret1 Try.func28 rfl rfl (fun w hs hk => hR w _ _ ⟨rfl, rfl⟩ hs hk)
end Go.Proofs
namespace Go.Proofs
open Go.Sl Go.RowKit
/-! 29 padstone/call.Get -/
def call_Get.f (a0 : List Int) : Option (api_Call × (Option Int)) :=
  bif (a0.length : Int) != 3 then (some ((⟨0, 0, 0, 0, 0, 0⟩ : api_Call), (some 1))) else ((at_ a0 0).bind fun x3 => (at_ a0 1).bind fun x5 => (call_Get_1.f x5).bind fun t7 => (at_ a0 1).bind fun x9 => (call_Get_2.f x9).bind fun t11 => (at_ a0 2).bind fun x13 => (call_Get_1.f x13).bind fun t15 => (at_ a0 2).bind fun x17 => (call_Get_2.f x17).bind fun t19 => (at_ a0 0).bind fun x22 => bif decide (65536 ≤ (bshr .u64 x22 8)) then (some ((⟨0, 0, 0, 0, 0, 0⟩ : api_Call), (some 1))) else ((call_May.f (⟨w64 (band .u64 x3 255), w64 (bshr .u64 x22 8), t7, t11, t15, t19⟩ : api_Call)).bind fun t25 => bif !t25 then (some ((⟨0, 0, 0, 0, 0, 0⟩ : api_Call), (some 1))) else (some ((⟨w64 (band .u64 x3 255), w64 (bshr .u64 x22 8), t7, t11, t15, t19⟩ : api_Call), none))))
set_option maxHeartbeats 8000000 in
set_option maxRecDepth 100000 in
theorem call_Get.ct (v0 : Value) (a0 : List Int) (r0 : api_Call) (r1 : Option Int) (h : call_Get.f a0 = some (r0, r1)) :
    Ct Try.prog 29 [v0] (fun F => Rd (ekI .u64) v0 a0 F) [] (fun u H' => u = .tuple #[.agg #[.int .i64 r0.Op, .int .i64 r0.Cap, .int .i64 r0.A, .int .i64 r0.B, .int .i64 r0.C, .int .i64 r0.D], errV 48 r1] ∧ H' = []) := by
  unfold call_Get.f at h
  refine Ct.intro (n := 56) Try.func29 rfl rfl rfl ?_
  intro R w0 F hF hR
  have hF0 := hF
  refine S.seq ?_
  refine S.region ?_
  refine SO.alloc rfl Try.zeroValue42 rfl (fun b1 => ?_)
  refine SO.v rfl (opv_assign rfl) ?_
  refine SO.nil ?_
  refine S.seq ?_
  refine S.seq ?_
  refine S.region ?_
  refine SO.v rfl (opv_move rfl) ?_
  refine SO.v rfl (opv_lenR rfl Try.underlying26 hF0 rfl) ?_
  refine SO.v rfl (opv_neq rfl rfl) ?_
  refine SO.nil ?_
  rcases bool_or ((a0.length : Int) != 3) with b2 | b2
  · replace h := cond_t b2 h
    refine S.condT rfl b2 ?_
    refine S.seq ?_
    refine S.region ?_
    refine SO.v rfl (opv_build (v := .agg #[.int .i64 0, .int .i64 0, .int .i64 0, .int .i64 0, .int .i64 0, .int .i64 0]) rfl (by intro w; kernel_rfl)) ?_
    refine SO.v rfl (opv_iface Try.underlying48 rfl rfl) ?_
    refine SO.storeN Try.sizeOf42 rfl rfl rfl rfl rfl rfl ?_
    refine SO.v rfl (opv_assign rfl) ?_
    refine SO.nil ?_
    cases h
    refine S.b1 ?_
    refine S.b1 ?_
    exact S.retC1 Try.func29 rfl rfl rfl Try.isAgg42 Try.sizeOf42 rfl rfl (fun w hs hk => hR w _ _ ⟨rfl, rfl⟩ hs.drop hk)
  · replace h := cond_f b2 h
    refine S.condF rfl b2 ?_
    refine S.skip ?_
    refine S.seq ?_
    refine S.region ?_
    refine SO.v rfl (opv_assign rfl) ?_
    refine SO.nil ?_
    refine S.seq ?_
    refine S.region ?_
    refine SO.v rfl (opv_assign rfl) ?_
    refine SO.nil ?_
    refine S.seq ?_
    obtain ⟨x3, hx4, h⟩ := opt_bind h
    obtain ⟨x5, hx6, h⟩ := opt_bind h
    obtain ⟨t7, ht8, h⟩ := opt_bind h
    obtain ⟨x9, hx10, h⟩ := opt_bind h
    obtain ⟨t11, ht12, h⟩ := opt_bind h
    obtain ⟨x13, hx14, h⟩ := opt_bind h
    obtain ⟨t15, ht16, h⟩ := opt_bind h
    obtain ⟨x17, hx18, h⟩ := opt_bind h
    obtain ⟨t19, ht20, h⟩ := opt_bind h
    refine S.draw' (Z := fun Q => ∀ (_ : Unit) (_ : Unit) (b21 : Nat) (_ : Unit) (_ : Unit), Q [(0, v0), (3, errV 48 none), (2, bp b1 0), (6, bp b21 0)] [Box b21 [.int .i64 (w64 (band .u64 x3 255)), .int .i64 0, .int .i64 t7, .int .i64 t11, .int .i64 t15, .int .i64 t19], Box b1 [.int .i64 0, .int .i64 0, .int .i64 0, .int .i64 0, .int .i64 0, .int .i64 0], F]) (T := [tS 0 (v0), tS 4 (.func (.func 64) #[] #[]), tS 5 (.func (.func 65) #[] #[]), tE [(3, errV 48 none), (2, bp b1 0)], tR (Box b1 [.int .i64 0, .int .i64 0, .int .i64 0, .int .i64 0, .int .i64 0, .int .i64 0]), tR (F), tS 13 (v0), tS 14 (idxp v0 ((0 : Int).toNat * (ekI .u64).sz)), tS 15 (.int .u64 x3), tS 16 (.int .u64 (band .u64 x3 255)), tS 17 (.int .i64 (w64 (band .u64 x3 255))), tS 18 (.func (.func 64) #[] #[]), tS 19 (v0), tS 20 (idxp v0 ((1 : Int).toNat * (ekI .u64).sz)), tS 21 (.int .u64 x5), tS 22 (.int .i64 t7), tS 23 (.func (.func 65) #[] #[]), tS 24 (v0), tS 25 (idxp v0 ((1 : Int).toNat * (ekI .u64).sz)), tS 26 (.int .u64 x9), tS 27 (.int .i64 t11), tS 28 (.func (.func 64) #[] #[]), tS 29 (v0), tS 30 (idxp v0 ((2 : Int).toNat * (ekI .u64).sz)), tS 31 (.int .u64 x13), tS 32 (.int .i64 t15), tS 33 (.func (.func 65) #[] #[]), tS 34 (v0), tS 35 (idxp v0 ((2 : Int).toNat * (ekI .u64).sz)), tS 36 (.int .u64 x17), tS 37 (.int .i64 t19), tS 38 (.agg #[.int .i64 (w64 (band .u64 x3 255)), .int .i64 0, .int .i64 t7, .int .i64 t11, .int .i64 t15, .int .i64 t19]), ⟨Nat, [6], (fun b21 => [(6, bp b21 0)]), (fun b21 => [Box b21 [.int .i64 0, .int .i64 0, .int .i64 0, .int .i64 0, .int .i64 0, .int .i64 0]]), fun _ => rfl⟩, ⟨Nat, [6], (fun b21 => [(6, bp b21 0)]), (fun b21 => [Box b21 [.int .i64 (w64 (band .u64 x3 255)), .int .i64 0, .int .i64 t7, .int .i64 t11, .int .i64 t15, .int .i64 t19]]), fun _ => rfl⟩]) (D := [⟨[0], [], [6]⟩, ⟨[6, 5], [], [7]⟩, ⟨[7, 5], [], [8]⟩, ⟨[8], [], [9]⟩, ⟨[9], [], [10]⟩, ⟨[1], [], [11]⟩, ⟨[0], [], [12]⟩, ⟨[12, 5], [], [13]⟩, ⟨[13, 5], [], [14]⟩, ⟨[11, 14], [], [15]⟩, ⟨[2], [], [16]⟩, ⟨[0], [], [17]⟩, ⟨[17, 5], [], [18]⟩, ⟨[18, 5], [], [19]⟩, ⟨[16, 19], [], [20]⟩, ⟨[1], [], [21]⟩, ⟨[0], [], [22]⟩, ⟨[22, 5], [], [23]⟩, ⟨[23, 5], [], [24]⟩, ⟨[21, 24], [], [25]⟩, ⟨[2], [], [26]⟩, ⟨[0], [], [27]⟩, ⟨[27, 5], [], [28]⟩, ⟨[28, 5], [], [29]⟩, ⟨[26, 29], [], [30]⟩, ⟨[10, 15, 20, 25, 30], [], [31]⟩, ⟨[], [], [32]⟩, ⟨[31], [32], [33]⟩]) (ini := [0, 1, 2, 3, 4, 5]) (fin := [0, 3, 33, 4, 5]) (bf := [[], [0], [0, 1], [0, 1, 2], [0, 1, 2, 3], [], [], [6], [6, 7], [5, 6, 7, 8], [], [], [11], [11, 12], [5, 6, 7, 8, 9, 10, 11, 12, 13], [], [], [16], [16, 17], [5, 6, 7, 8, 9, 10, 11, 12, 13, 14, 15, 16, 17, 18], [], [], [21], [21, 22], [5, 6, 7, 8, 9, 10, 11, 12, 13, 14, 15, 16, 17, 18, 19, 20, 21, 22, 23], [0, 1, 2, 3, 4, 5, 6, 7, 8, 9, 10, 11, 12, 13, 14, 15, 16, 17, 18, 19, 20, 21, 22, 23, 24], [], [0, 1, 2, 3, 4, 5, 6, 7, 8, 9, 10, 11, 12, 13, 14, 15, 16, 17, 18, 19, 20, 21, 22, 23, 24, 25, 26]]) (by kernel_rfl) (by kernel_rfl) (fun x w h1 h2 => (.cons () (.cons () (.cons () (.cons () (.cons () (.cons () (.nil ⟨EnvAll.of h1 ⟨rfl, rfl, rfl, rfl, rfl, trivial⟩, h2⟩)))))))) (fun Q => by kernel_rfl) ⟨?_, ?_, ?_, ?_, ?_, ?_, ?_, ?_, ?_, ?_, ?_, ?_, ?_, ?_, ?_, ?_, ?_, ?_, ?_, ?_, ?_, ?_, ?_, ?_, ?_, ?_, ?_, ?_, trivial⟩ ?_
    · rintro Fr _
      refine SO.v rfl (opv_move rfl) ?_
      exact SO.nilZ fun a w h1 h2 h3 h4 h5 => PZ.of h1 h3 h5 (.cons () (.cons () (.nil ⟨EnvAll.of h2 ⟨rfl, rfl, trivial⟩, h4⟩)))
    · rintro Fr _ _
      refine SO.v rfl (opv_idx Try.underlying26 Try.sizeOf27 hF0 rfl rfl hx4) ?_
      exact SO.nilZ fun a w h1 h2 h3 h4 h5 => PZ.of h1 h3 h5 (.cons () (.cons () (.cons () (.nil ⟨EnvAll.of h2 ⟨rfl, rfl, trivial⟩, h4⟩))))
    · rintro Fr _ _
      refine SO.loadI1 (j := 0) rfl Try.isAgg27 (Rd.head hF0) hx4 rfl rfl rfl rfl ?_
      exact SO.nilZ fun a w h1 h2 h3 h4 h5 => PZ.of h1 h3 h5 (.cons () (.cons () (.cons () (.nil ⟨EnvAll.of h2 ⟨rfl, rfl, trivial⟩, h4⟩))))
    · rintro Fr _
      refine SO.v rfl (opv_and rfl rfl) ?_
      exact SO.nilZ fun a w h1 h2 h3 h4 h5 => PZ.of h1 h3 h5 (.cons () (.cons () (.nil ⟨EnvAll.of h2 ⟨rfl, rfl, trivial⟩, h4⟩)))
    · rintro Fr _
      refine SO.v rfl (opv_conv Try.underlying27 Try.underlying3 rfl) ?_
      exact SO.nilZ fun a w h1 h2 h3 h4 h5 => PZ.of h1 h3 h5 (.cons () (.cons () (.nil ⟨EnvAll.of h2 ⟨rfl, rfl, trivial⟩, h4⟩)))
    · rintro Fr _
      refine SO.v rfl (opv_move rfl) ?_
      exact SO.nilZ fun a w h1 h2 h3 h4 h5 => PZ.of h1 h3 h5 (.cons () (.cons () (.nil ⟨EnvAll.of h2 ⟨rfl, rfl, trivial⟩, h4⟩)))
    · rintro Fr _
      refine SO.v rfl (opv_move rfl) ?_
      exact SO.nilZ fun a w h1 h2 h3 h4 h5 => PZ.of h1 h3 h5 (.cons () (.cons () (.nil ⟨EnvAll.of h2 ⟨rfl, rfl, trivial⟩, h4⟩)))
    · rintro Fr _ _
      refine SO.v rfl (opv_idx Try.underlying26 Try.sizeOf27 hF0 rfl rfl hx6) ?_
      exact SO.nilZ fun a w h1 h2 h3 h4 h5 => PZ.of h1 h3 h5 (.cons () (.cons () (.cons () (.nil ⟨EnvAll.of h2 ⟨rfl, rfl, trivial⟩, h4⟩))))
    · rintro Fr _ _
      refine SO.loadI1 (j := 0) rfl Try.isAgg27 (Rd.head hF0) hx6 rfl rfl rfl rfl ?_
      exact SO.nilZ fun a w h1 h2 h3 h4 h5 => PZ.of h1 h3 h5 (.cons () (.cons () (.cons () (.nil ⟨EnvAll.of h2 ⟨rfl, rfl, trivial⟩, h4⟩))))
    · rintro Fr _ _
      refine SO.call (pre := []) rfl Try.call64 rfl rfl rfl (call_Get_1.ct _ _ ht8) trivial ?_
      rintro _ _ ⟨rfl, rfl⟩
      exact SO.nilZ fun a w h1 h2 h3 h4 h5 => PZ.of h1 h3 h5 (.cons () (.cons () (.cons () (.nil ⟨EnvAll.of h2 ⟨rfl, rfl, rfl, trivial⟩, h4⟩))))
    · rintro Fr _
      refine SO.v rfl (opv_move rfl) ?_
      exact SO.nilZ fun a w h1 h2 h3 h4 h5 => PZ.of h1 h3 h5 (.cons () (.cons () (.nil ⟨EnvAll.of h2 ⟨rfl, rfl, trivial⟩, h4⟩)))
    · rintro Fr _
      refine SO.v rfl (opv_move rfl) ?_
      exact SO.nilZ fun a w h1 h2 h3 h4 h5 => PZ.of h1 h3 h5 (.cons () (.cons () (.nil ⟨EnvAll.of h2 ⟨rfl, rfl, trivial⟩, h4⟩)))
    · rintro Fr _ _
      refine SO.v rfl (opv_idx Try.underlying26 Try.sizeOf27 hF0 rfl rfl hx10) ?_
      exact SO.nilZ fun a w h1 h2 h3 h4 h5 => PZ.of h1 h3 h5 (.cons () (.cons () (.cons () (.nil ⟨EnvAll.of h2 ⟨rfl, rfl, trivial⟩, h4⟩))))
    · rintro Fr _ _
      refine SO.loadI1 (j := 0) rfl Try.isAgg27 (Rd.head hF0) hx10 rfl rfl rfl rfl ?_
      exact SO.nilZ fun a w h1 h2 h3 h4 h5 => PZ.of h1 h3 h5 (.cons () (.cons () (.cons () (.nil ⟨EnvAll.of h2 ⟨rfl, rfl, trivial⟩, h4⟩))))
    · rintro Fr _ _
      refine SO.call (pre := []) rfl Try.call65 rfl rfl rfl (call_Get_2.ct _ _ ht12) trivial ?_
      rintro _ _ ⟨rfl, rfl⟩
      exact SO.nilZ fun a w h1 h2 h3 h4 h5 => PZ.of h1 h3 h5 (.cons () (.cons () (.cons () (.nil ⟨EnvAll.of h2 ⟨rfl, rfl, rfl, trivial⟩, h4⟩))))
    · rintro Fr _
      refine SO.v rfl (opv_move rfl) ?_
      exact SO.nilZ fun a w h1 h2 h3 h4 h5 => PZ.of h1 h3 h5 (.cons () (.cons () (.nil ⟨EnvAll.of h2 ⟨rfl, rfl, trivial⟩, h4⟩)))
    · rintro Fr _
      refine SO.v rfl (opv_move rfl) ?_
      exact SO.nilZ fun a w h1 h2 h3 h4 h5 => PZ.of h1 h3 h5 (.cons () (.cons () (.nil ⟨EnvAll.of h2 ⟨rfl, rfl, trivial⟩, h4⟩)))
    · rintro Fr _ _
      refine SO.v rfl (opv_idx Try.underlying26 Try.sizeOf27 hF0 rfl rfl hx14) ?_
      exact SO.nilZ fun a w h1 h2 h3 h4 h5 => PZ.of h1 h3 h5 (.cons () (.cons () (.cons () (.nil ⟨EnvAll.of h2 ⟨rfl, rfl, trivial⟩, h4⟩))))
    · rintro Fr _ _
      refine SO.loadI1 (j := 0) rfl Try.isAgg27 (Rd.head hF0) hx14 rfl rfl rfl rfl ?_
      exact SO.nilZ fun a w h1 h2 h3 h4 h5 => PZ.of h1 h3 h5 (.cons () (.cons () (.cons () (.nil ⟨EnvAll.of h2 ⟨rfl, rfl, trivial⟩, h4⟩))))
    · rintro Fr _ _
      refine SO.call (pre := []) rfl Try.call64 rfl rfl rfl (call_Get_1.ct _ _ ht16) trivial ?_
      rintro _ _ ⟨rfl, rfl⟩
      exact SO.nilZ fun a w h1 h2 h3 h4 h5 => PZ.of h1 h3 h5 (.cons () (.cons () (.cons () (.nil ⟨EnvAll.of h2 ⟨rfl, rfl, rfl, trivial⟩, h4⟩))))
    · rintro Fr _
      refine SO.v rfl (opv_move rfl) ?_
      exact SO.nilZ fun a w h1 h2 h3 h4 h5 => PZ.of h1 h3 h5 (.cons () (.cons () (.nil ⟨EnvAll.of h2 ⟨rfl, rfl, trivial⟩, h4⟩)))
    · rintro Fr _
      refine SO.v rfl (opv_move rfl) ?_
      exact SO.nilZ fun a w h1 h2 h3 h4 h5 => PZ.of h1 h3 h5 (.cons () (.cons () (.nil ⟨EnvAll.of h2 ⟨rfl, rfl, trivial⟩, h4⟩)))
    · rintro Fr _ _
      refine SO.v rfl (opv_idx Try.underlying26 Try.sizeOf27 hF0 rfl rfl hx18) ?_
      exact SO.nilZ fun a w h1 h2 h3 h4 h5 => PZ.of h1 h3 h5 (.cons () (.cons () (.cons () (.nil ⟨EnvAll.of h2 ⟨rfl, rfl, trivial⟩, h4⟩))))
    · rintro Fr _ _
      refine SO.loadI1 (j := 0) rfl Try.isAgg27 (Rd.head hF0) hx18 rfl rfl rfl rfl ?_
      exact SO.nilZ fun a w h1 h2 h3 h4 h5 => PZ.of h1 h3 h5 (.cons () (.cons () (.cons () (.nil ⟨EnvAll.of h2 ⟨rfl, rfl, trivial⟩, h4⟩))))
    · rintro Fr _ _
      refine SO.call (pre := []) rfl Try.call65 rfl rfl rfl (call_Get_2.ct _ _ ht20) trivial ?_
      rintro _ _ ⟨rfl, rfl⟩
      exact SO.nilZ fun a w h1 h2 h3 h4 h5 => PZ.of h1 h3 h5 (.cons () (.cons () (.cons () (.nil ⟨EnvAll.of h2 ⟨rfl, rfl, rfl, trivial⟩, h4⟩))))
    · rintro Fr _ _ _ _ _
      refine SO.v rfl (opv_build (v := .agg #[.int .i64 (w64 (band .u64 x3 255)), .int .i64 0, .int .i64 t7, .int .i64 t11, .int .i64 t15, .int .i64 t19]) rfl (by intro w; kernel_rfl)) ?_
      exact SO.nilZ fun a w h1 h2 h3 h4 h5 => PZ.of h1 h3 h5 (.cons () (.cons () (.cons () (.cons () (.cons () (.cons () (.nil ⟨EnvAll.of h2 ⟨rfl, rfl, rfl, rfl, rfl, rfl, trivial⟩, h4⟩)))))))
    · rintro Fr 
      refine SO.alloc rfl Try.zeroValue42 rfl (fun b21 => ?_)
      exact SO.nilZ fun a w h1 h2 h3 h4 h5 => PZ.of h1 h3 h5 (.cons b21 (.nil ⟨EnvAll.of h2 ⟨rfl, trivial⟩, h4⟩))
    · rintro Fr _ b21
      refine SO.storeN Try.sizeOf42 rfl rfl rfl rfl rfl rfl ?_
      exact SO.nilZ fun a w h1 h2 h3 h4 h5 => PZ.of h1 h3 h5 (.cons () (.cons b21 (.nil ⟨EnvAll.of h2 ⟨rfl, rfl, trivial⟩, h4⟩)))
    rintro _ _ b21 _ _
    refine S.to (ρ' := [(0, v0), (3, errV 48 none), (2, bp b1 0), (6, bp b21 0)]) ⟨rfl, rfl, rfl, rfl, trivial⟩ ?_
    refine S.seq ?_
    refine S.region ?_
    refine SO.v rfl (opv_move rfl) ?_
    obtain ⟨x22, hx23, h⟩ := opt_bind h
    refine SO.v rfl (opv_idx Try.underlying26 Try.sizeOf27 hF0 rfl rfl hx23) ?_
    refine SO.loadI1 (j := 0) rfl Try.isAgg27 (Rd.tail (Rd.tail (Rd.head hF0))) hx23 rfl rfl rfl rfl ?_
    refine SO.v rfl (opv_shr rfl rfl (by decide)) ?_
    refine SO.v rfl (opv_assign rfl) ?_
    refine SO.nil ?_
    refine S.seq ?_
    refine S.seq ?_
    refine S.region ?_
    refine SO.v rfl (opv_move rfl) ?_
    refine SO.v rfl (opv_geq rfl rfl) ?_
    refine SO.nil ?_
    rcases bool_or (decide (65536 ≤ (bshr .u64 x22 8))) with b24 | b24
    · replace h := cond_t b24 h
      refine S.condT rfl b24 ?_
      refine S.seq ?_
      refine S.region ?_
      refine SO.v rfl (opv_build (v := .agg #[.int .i64 0, .int .i64 0, .int .i64 0, .int .i64 0, .int .i64 0, .int .i64 0]) rfl (by intro w; kernel_rfl)) ?_
      refine SO.v rfl (opv_iface Try.underlying48 rfl rfl) ?_
      refine SO.b1 ?_
      refine SO.storeN Try.sizeOf42 rfl rfl rfl rfl rfl rfl ?_
      refine SO.v rfl (opv_assign rfl) ?_
      refine SO.nil ?_
      refine S.to (ρ' := [(3, errV 48 (some 1)), (2, bp b1 0), (6, bp b21 0), (7, .int .u64 (bshr .u64 x22 8))]) ⟨rfl, rfl, rfl, rfl, trivial⟩ ?_
      cases h
      refine S.b1 ?_
      refine S.drop ?_
      refine S.b1 ?_
      refine S.b1 ?_
      exact S.retC1 Try.func29 rfl rfl rfl Try.isAgg42 Try.sizeOf42 rfl rfl (fun w hs hk => hR w _ _ ⟨rfl, rfl⟩ hs.drop hk)
    · replace h := cond_f b24 h
      refine S.condF rfl b24 ?_
      refine S.skip ?_
      refine S.seq ?_
      refine S.region ?_
      refine SO.v rfl (opv_move rfl) ?_
      refine SO.v rfl (opv_conv Try.underlying27 Try.underlying3 rfl) ?_
      refine SO.v rfl (opv_fieldAddr Try.underlying42 rfl Try.sizeOf3 rfl rfl) ?_
      refine SO.store1 Try.sizeOf3 rfl rfl rfl rfl ?_
      refine SO.nil ?_
      refine S.to (ρ' := [(3, errV 48 none), (2, bp b1 0), (6, bp b21 0)]) ⟨rfl, rfl, rfl, trivial⟩ ?_
      refine S.seq ?_
      refine S.seq ?_
      refine S.region ?_
      refine SO.loadN rfl Try.isAgg42 Try.sizeOf42 rfl rfl rfl ?_
      obtain ⟨t25, ht26, h⟩ := opt_bind h
      have ct28 := call_May.ct _ _ ht26
      dsimp only at ct28
      refine SO.call (pre := []) rfl Try.call28 rfl rfl rfl ct28 trivial ?_
      rintro _ _ ⟨rfl, rfl⟩
      refine SO.v rfl (opv_not rfl) ?_
      refine SO.nil ?_
      rcases bool_or (!t25) with b27 | b27
      · replace h := cond_t b27 h
        refine S.condT rfl b27 ?_
        refine S.seq ?_
        refine S.region ?_
        refine SO.v rfl (opv_build (v := .agg #[.int .i64 0, .int .i64 0, .int .i64 0, .int .i64 0, .int .i64 0, .int .i64 0]) rfl (by intro w; kernel_rfl)) ?_
        refine SO.v rfl (opv_iface Try.underlying48 rfl rfl) ?_
        refine SO.b1 ?_
        refine SO.storeN Try.sizeOf42 rfl rfl rfl rfl rfl rfl ?_
        refine SO.v rfl (opv_assign rfl) ?_
        refine SO.nil ?_
        cases h
        refine S.b1 ?_
        refine S.drop ?_
        refine S.b1 ?_
        refine S.b1 ?_
        exact S.retC1 Try.func29 rfl rfl rfl Try.isAgg42 Try.sizeOf42 rfl rfl (fun w hs hk => hR w _ _ ⟨rfl, rfl⟩ hs.drop hk)
      · replace h := cond_f b27 h
        refine S.condF rfl b27 ?_
        refine S.skip ?_
        refine S.seq ?_
        refine S.region ?_
        refine SO.loadN rfl Try.isAgg42 Try.sizeOf42 rfl rfl rfl ?_
        refine SO.b1 ?_
        refine SO.storeN Try.sizeOf42 rfl rfl rfl rfl rfl rfl ?_
        refine SO.v rfl (opv_assign rfl) ?_
        refine SO.nil ?_
        cases h
        refine S.b1 ?_
        refine S.drop ?_
        refine S.b1 ?_
        refine S.b1 ?_
        exact S.retC1 Try.func29 rfl rfl rfl Try.isAgg42 Try.sizeOf42 rfl rfl (fun w hs hk => hR w _ _ ⟨rfl, rfl⟩ hs.drop hk)
end Go.Proofs
namespace Go.Proofs
open Go.Sl Go.RowKit
/-! 27 padstone/call.Put -/
def call_Put.f (a0 : api_Call) : Option ((List Int) × (Option Int)) :=
  (call_May.f a0).bind fun t2 => bif !t2 then (some ([], (some 1))) else (some ([bor .u64 (wu64 a0.Op) (bshl .u64 (wu64 a0.Cap) 8), bor .u64 (wu64 a0.A) (bshl .u64 (wu64 a0.B) 32), bor .u64 (wu64 a0.C) (bshl .u64 (wu64 a0.D) 32)], none))
set_option maxHeartbeats 8000000 in
set_option maxRecDepth 100000 in
theorem call_Put.ct (a0 : api_Call) (r0 : List Int) (r1 : Option Int) (h : call_Put.f a0 = some (r0, r1)) :
    Ct Try.prog 27 [.agg #[.int .i64 a0.Op, .int .i64 a0.Cap, .int .i64 a0.A, .int .i64 a0.B, .int .i64 a0.C, .int .i64 a0.D]] (fun _ => True) [] (fun u H' => ∃ v_r0, u = .tuple #[v_r0, errV 48 r1] ∧ H' = [Own 27 (ekI .u64) v_r0 r0]) := by
  unfold call_Put.f at h
  refine Ct.intro (n := 33) Try.func27 rfl rfl rfl ?_
  intro R w0 F hF hR
  refine S.seq ?_
  refine S.region ?_
  refine SO.box rfl rfl rfl (fun b1 => ?_)
  refine SO.v rfl (opv_assign rfl) ?_
  refine SO.v rfl (opv_assign rfl) ?_
  refine SO.nil ?_
  refine S.seq ?_
  refine S.seq ?_
  refine S.region ?_
  refine SO.loadN rfl Try.isAgg42 Try.sizeOf42 rfl rfl rfl ?_
  obtain ⟨t2, ht3, h⟩ := opt_bind h
  refine SO.call (pre := []) rfl Try.call28 rfl rfl rfl (call_May.ct _ _ ht3) trivial ?_
  rintro _ _ ⟨rfl, rfl⟩
  refine SO.v rfl (opv_not rfl) ?_
  refine SO.nil ?_
  rcases bool_or (!t2) with b4 | b4
  · replace h := cond_t b4 h
    refine S.condT rfl b4 ?_
    refine S.seq ?_
    refine S.region ?_
    refine SO.v rfl (opv_iface Try.underlying48 rfl rfl) ?_
    refine SO.v rfl (opv_assign rfl) ?_
    refine SO.v rfl (opv_assign rfl) ?_
    refine SO.nil ?_
    cases h
    refine S.newOwn 27 (ekI .u64) ?_
    refine S.b1 ?_
    refine S.drop ?_
    refine S.b1 ?_
    refine S.b1 ?_
    exact S.ret2 Try.func27 rfl rfl rfl (fun w hs hk => hR w _ _ ⟨(.slice none 0 0), rfl, rfl⟩ hs hk)
  · replace h := cond_f b4 h
    refine S.condF rfl b4 ?_
    refine S.skip ?_
    refine S.seq ?_
    refine S.region ?_
    refine SO.v rfl (opv_fieldAddr Try.underlying42 rfl Try.sizeOf3 rfl rfl) ?_
    refine SO.load1 rfl Try.isAgg3 rfl rfl ?_
    refine SO.v rfl (opv_conv Try.underlying3 Try.underlying27 rfl) ?_
    refine SO.v rfl (opv_fieldAddr Try.underlying42 rfl Try.sizeOf3 rfl rfl) ?_
    refine SO.load1 rfl Try.isAgg3 rfl rfl ?_
    refine SO.v rfl (opv_conv Try.underlying3 Try.underlying27 rfl) ?_
    refine SO.v rfl (opv_shl rfl rfl (by decide)) ?_
    refine SO.v rfl (opv_or rfl rfl) ?_
    refine SO.v rfl (opv_fieldAddr Try.underlying42 rfl Try.sizeOf3 rfl rfl) ?_
    refine SO.load1 rfl Try.isAgg3 rfl rfl ?_
    refine SO.v rfl (opv_conv Try.underlying3 Try.underlying27 rfl) ?_
    refine SO.v rfl (opv_fieldAddr Try.underlying42 rfl Try.sizeOf3 rfl rfl) ?_
    refine SO.load1 rfl Try.isAgg3 rfl rfl ?_
    refine SO.v rfl (opv_conv Try.underlying3 Try.underlying27 rfl) ?_
    refine SO.v rfl (opv_shl rfl rfl (by decide)) ?_
    refine SO.v rfl (opv_or rfl rfl) ?_
    refine SO.v rfl (opv_fieldAddr Try.underlying42 rfl Try.sizeOf3 rfl rfl) ?_
    refine SO.load1 rfl Try.isAgg3 rfl rfl ?_
    refine SO.v rfl (opv_conv Try.underlying3 Try.underlying27 rfl) ?_
    refine SO.v rfl (opv_fieldAddr Try.underlying42 rfl Try.sizeOf3 rfl rfl) ?_
    refine SO.load1 rfl Try.isAgg3 rfl rfl ?_
    refine SO.v rfl (opv_conv Try.underlying3 Try.underlying27 rfl) ?_
    refine SO.v rfl (opv_shl rfl rfl (by decide)) ?_
    refine SO.v rfl (opv_or rfl rfl) ?_
    refine SO.buildSlice (K := ekI .u64) (xs := [bor .u64 (wu64 a0.Op) (bshl .u64 (wu64 a0.Cap) 8), bor .u64 (wu64 a0.A) (bshl .u64 (wu64 a0.B) 32), bor .u64 (wu64 a0.C) (bshl .u64 (wu64 a0.D) 32)]) (cs := [.int .u64 (bor .u64 (wu64 a0.Op) (bshl .u64 (wu64 a0.Cap) 8)), .int .u64 (bor .u64 (wu64 a0.A) (bshl .u64 (wu64 a0.B) 32)), .int .u64 (bor .u64 (wu64 a0.C) (bshl .u64 (wu64 a0.D) 32))]) rfl Try.underlying26 Try.sizeOf27 Try.zeroValue27 rfl rfl rfl (by kernel_rfl) rfl rfl rfl (fun v5 hr6 => ?_)
    refine SO.v rfl (opv_assign rfl) ?_
    refine SO.v rfl (opv_assign rfl) ?_
    refine SO.nil ?_
    refine S.to (ρ' := [(2, v5), (3, errV 48 none)]) ⟨rfl, rfl, trivial⟩ ?_
    cases h
    refine S.b1 ?_
    refine S.drop ?_
    refine S.b1 ?_
    refine S.b1 ?_
    exact S.ret2 Try.func27 rfl rfl rfl (fun w hs hk => hR w _ _ ⟨v5, rfl, rfl⟩ hs hk)
end Go.Proofs
namespace Go.Proofs
open Go.Sl Go.RowKit
/-! 73 padstone/call.fits -/
def call_fits.f (a0 : api_Reply) : Option (Bool) :=
  (call_in.f a0.Code 14).bind fun t2 => (bif t2 then ((call_in.f a0.Word 2147483647).bind fun t7 => some t7) else (some false)).bind fun c5 => (bif c5 then ((call_in.f a0.Badge 65535).bind fun t12 => some t12) else (some false)).bind fun c10 => some c10
set_option maxHeartbeats 8000000 in
set_option maxRecDepth 100000 in
theorem call_fits.ct (a0 : api_Reply) (r0 : Bool) (h : call_fits.f a0 = some r0) :
    Ct Try.prog 73 [.agg #[.int .i64 a0.Code, .int .i64 a0.Word, .int .i64 a0.Badge]] (fun _ => True) [] (fun u H' => u = .bool r0 ∧ H' = []) := by
  unfold call_fits.f at h
  refine Ct.intro (n := 16) Try.func73 rfl rfl rfl ?_
  intro R w0 F hF hR
  refine S.seq ?_
  refine S.region ?_
  refine SO.box rfl rfl rfl (fun b1 => ?_)
  refine SO.v rfl (opv_assign rfl) ?_
  refine SO.nil ?_
  refine S.seq ?_
  refine S.region ?_
  refine SO.v rfl (opv_fieldAddr Try.underlying82 rfl Try.sizeOf3 rfl rfl) ?_
  refine SO.load1 rfl Try.isAgg3 rfl rfl ?_
  obtain ⟨t2, ht3, h⟩ := opt_bind h
  refine SO.call (pre := []) rfl Try.call63 rfl rfl rfl (call_in.ct _ _ _ ht3) trivial ?_
  rintro _ _ ⟨rfl, rfl⟩
  refine SO.v rfl (opv_move rfl) ?_
  obtain ⟨c5, hc6, hgk⟩ := opt_bind h
  refine SO.cut 4 10 (.bool c5) [Box b1 [.int .i64 a0.Code, .int .i64 a0.Word, .int .i64 a0.Badge], F] (fun l2 hk2 => ?_) ?_
  · clear hgk
    replace h := hc6
    rcases bool_or t2 with b4 | b4
    · replace h := cond_t b4 h
      refine SO.takeT rfl rfl rfl b4 ?_
      refine SO.v rfl (opv_fieldAddr Try.underlying82 rfl Try.sizeOf3 rfl rfl) ?_
      refine SO.takeT rfl rfl rfl b4 ?_
      refine SO.load1 rfl Try.isAgg3 rfl rfl ?_
      refine SO.takeT rfl rfl rfl b4 ?_
      obtain ⟨t7, ht8, h⟩ := opt_bind h
      refine SO.call (pre := []) rfl Try.call63 rfl rfl rfl (call_in.ct _ _ _ ht8) trivial ?_
      rintro _ _ ⟨rfl, rfl⟩
      cases h
      refine SO.v rfl (opv_pick_t' b4 rfl rfl) ?_
      refine SO.b1 ?_
      refine SO.b1 ?_
      exact hk2.fitc (m := 4) rfl (rfl) rfl
    · replace h := cond_f b4 h
      refine SO.passF rfl rfl rfl b4 rfl rfl ?_
      refine SO.passF rfl rfl rfl b4 rfl rfl ?_
      refine SO.passF rfl rfl rfl b4 rfl rfl ?_
      cases h
      refine SO.v rfl (opv_pick_f' b4 rfl rfl) ?_
      refine SO.b1 ?_
      refine SO.b1 ?_
      exact hk2.fitc (m := 4) rfl (rfl) rfl
  clear hc6
  replace h := hgk
  refine SO.v rfl (opv_move rfl) ?_
  obtain ⟨c10, hc11, hgk⟩ := opt_bind h
  refine SO.cut 4 15 (.bool c10) [Box b1 [.int .i64 a0.Code, .int .i64 a0.Word, .int .i64 a0.Badge], F] (fun l2 hk2 => ?_) ?_
  · clear hgk
    replace h := hc11
    rcases bool_or c5 with b9 | b9
    · replace h := cond_t b9 h
      refine SO.takeT rfl rfl rfl b9 ?_
      refine SO.v rfl (opv_fieldAddr Try.underlying82 rfl Try.sizeOf3 rfl rfl) ?_
      refine SO.takeT rfl rfl rfl b9 ?_
      refine SO.load1 rfl Try.isAgg3 rfl rfl ?_
      refine SO.takeT rfl rfl rfl b9 ?_
      obtain ⟨t12, ht13, h⟩ := opt_bind h
      refine SO.call (pre := []) rfl Try.call63 rfl rfl rfl (call_in.ct _ _ _ ht13) trivial ?_
      rintro _ _ ⟨rfl, rfl⟩
      cases h
      refine SO.v rfl (opv_pick_t' b9 rfl rfl) ?_
      refine SO.b1 ?_
      refine SO.b1 ?_
      exact hk2.fitc (m := 4) rfl (rfl) rfl
    · replace h := cond_f b9 h
      refine SO.passF rfl rfl rfl b9 rfl rfl ?_
      refine SO.passF rfl rfl rfl b9 rfl rfl ?_
      refine SO.passF rfl rfl rfl b9 rfl rfl ?_
      cases h
      refine SO.v rfl (opv_pick_f' b9 rfl rfl) ?_
      refine SO.b1 ?_
      refine SO.b1 ?_
      exact hk2.fitc (m := 4) rfl (rfl) rfl
  clear hc11
  replace h := hgk
  refine SO.v rfl (opv_assign rfl) ?_
  refine SO.nil ?_
  refine S.to (ρ' := [(2, .bool c10)]) ⟨rfl, trivial⟩ ?_
  cases h
  refine S.drop ?_
  exact S.ret1 Try.func73 rfl rfl (fun w hs hk => hR w _ _ ⟨rfl, rfl⟩ hs hk)
end Go.Proofs
namespace Go.Proofs
open Go.Sl Go.RowKit
/-! 49 padstone/call.Pack -/
def call_Pack.f (a0 : api_Reply) : Option (Int × (Option Int)) :=
  (call_fits.f a0).bind fun t2 => bif !t2 then (some (0, (some 1))) else (some (bor .i64 (bor .i64 a0.Code (bshl .i64 a0.Word 4)) (bshl .i64 a0.Badge 35), none))
set_option maxHeartbeats 8000000 in
set_option maxRecDepth 100000 in
theorem call_Pack.ct (a0 : api_Reply) (r0 : Int) (r1 : Option Int) (h : call_Pack.f a0 = some (r0, r1)) :
    Ct Try.prog 49 [.agg #[.int .i64 a0.Code, .int .i64 a0.Word, .int .i64 a0.Badge]] (fun _ => True) [] (fun u H' => u = .tuple #[.int .i64 r0, errV 48 r1] ∧ H' = []) := by
  unfold call_Pack.f at h
  refine Ct.intro (n := 18) Try.func49 rfl rfl rfl ?_
  intro R w0 F hF hR
  refine S.seq ?_
  refine S.region ?_
  refine SO.box rfl rfl rfl (fun b1 => ?_)
  refine SO.v rfl (opv_assign rfl) ?_
  refine SO.v rfl (opv_assign rfl) ?_
  refine SO.nil ?_
  refine S.seq ?_
  refine S.seq ?_
  refine S.region ?_
  refine SO.loadN rfl Try.isAgg82 Try.sizeOf82 rfl rfl rfl ?_
  obtain ⟨t2, ht3, h⟩ := opt_bind h
  refine SO.call (pre := []) rfl Try.call73 rfl rfl rfl (call_fits.ct _ _ ht3) trivial ?_
  rintro _ _ ⟨rfl, rfl⟩
  refine SO.v rfl (opv_not rfl) ?_
  refine SO.nil ?_
  rcases bool_or (!t2) with b4 | b4
  · replace h := cond_t b4 h
    refine S.condT rfl b4 ?_
    refine S.seq ?_
    refine S.region ?_
    refine SO.v rfl (opv_iface Try.underlying48 rfl rfl) ?_
    refine SO.v rfl (opv_assign rfl) ?_
    refine SO.v rfl (opv_assign rfl) ?_
    refine SO.nil ?_
    cases h
    refine S.drop ?_
    exact S.ret2 Try.func49 rfl rfl rfl (fun w hs hk => hR w _ _ ⟨rfl, rfl⟩ hs hk)
  · replace h := cond_f b4 h
    refine S.condF rfl b4 ?_
    refine S.skip ?_
    refine S.seq ?_
    refine S.region ?_
    refine SO.v rfl (opv_fieldAddr Try.underlying82 rfl Try.sizeOf3 rfl rfl) ?_
    refine SO.load1 rfl Try.isAgg3 rfl rfl ?_
    refine SO.v rfl (opv_fieldAddr Try.underlying82 rfl Try.sizeOf3 rfl rfl) ?_
    refine SO.load1 rfl Try.isAgg3 rfl rfl ?_
    refine SO.v rfl (opv_shl rfl rfl (by decide)) ?_
    refine SO.v rfl (opv_or rfl rfl) ?_
    refine SO.v rfl (opv_fieldAddr Try.underlying82 rfl Try.sizeOf3 rfl rfl) ?_
    refine SO.load1 rfl Try.isAgg3 rfl rfl ?_
    refine SO.v rfl (opv_shl rfl rfl (by decide)) ?_
    refine SO.v rfl (opv_or rfl rfl) ?_
    refine SO.v rfl (opv_assign rfl) ?_
    refine SO.v rfl (opv_assign rfl) ?_
    refine SO.nil ?_
    refine S.to (ρ' := [(2, .int .i64 (bor .i64 (bor .i64 a0.Code (bshl .i64 a0.Word 4)) (bshl .i64 a0.Badge 35))), (3, errV 48 none)]) ⟨rfl, rfl, trivial⟩ ?_
    cases h
    refine S.drop ?_
    exact S.ret2 Try.func49 rfl rfl rfl (fun w hs hk => hR w _ _ ⟨rfl, rfl⟩ hs hk)
end Go.Proofs
namespace Go.Proofs
open Go.Sl Go.RowKit
/-! 25 padstone/padstonelaw20.up -/
def law20_up.f : Option (Bool) :=
  (call_Put.f (⟨7, 3, 0, 0, 0, 0⟩ : api_Call)).bind fun (t1, t2) => (call_Get.f ([])).bind fun (t6, t7) => (call_Pack.f (⟨5, 1, 0⟩ : api_Reply)).bind fun (t10, t11) => (bif t2.isNone && ((t1.length : Int) == 3) then ((at_ t1 0).bind fun x17 => some (x17 == 775)) else (some false)).bind fun c15 => (bif ((c15 && (t7 == some 1)) && (t10 == 21)) && t11.isNone then ((call_May.f (⟨1, 0, 0, 0, 0, 0⟩ : api_Call)).bind fun t25 => some t25) else (some false)).bind fun c23 => (bif c23 then ((call_May.f (⟨0, 0, 0, 0, 0, 0⟩ : api_Call)).bind fun t31 => some (!t31)) else (some false)).bind fun c29 => some c29
set_option maxHeartbeats 8000000 in
set_option maxRecDepth 100000 in
theorem law20_up.ct (r0 : Bool) (h : law20_up.f  = some r0) :
    Ct Try.prog 25 [] (fun _ => True) [] (fun u H' => u = .bool r0 ∧ H' = []) := by
  unfold law20_up.f at h
  refine Ct.intro (n := 56) Try.func25 rfl rfl rfl ?_
  intro R w0 F hF hR
  refine S.seq ?_
  refine S.region ?_
  refine SO.v rfl (opv_assign rfl) ?_
  refine SO.nil ?_
  refine S.seq ?_
  refine S.region ?_
  refine SO.v rfl (opv_build (v := .agg #[.int .i64 7, .int .i64 3, .int .i64 0, .int .i64 0, .int .i64 0, .int .i64 0]) rfl (by intro w; kernel_rfl)) ?_
  obtain ⟨⟨t1, t2⟩, ht3, h⟩ := opt_bind h
  have ct35 := call_Put.ct _ _ _ ht3
  dsimp only at ct35
  refine SO.call (pre := []) rfl Try.call27 rfl rfl rfl ct35 trivial ?_
  rintro _ _ ⟨v4, rfl, rfl⟩
  refine SO.rd fun hr5 => ?_
  refine SO.v rfl (opv_move rfl) ?_
  refine SO.v rfl (opv_extract rfl rfl) ?_
  refine SO.v rfl (opv_extract rfl rfl) ?_
  refine SO.v rfl (opv_assign rfl) ?_
  refine SO.v rfl (opv_assign rfl) ?_
  refine SO.nil ?_
  refine S.seq ?_
  refine S.region ?_
  obtain ⟨⟨t6, t7⟩, ht8, h⟩ := opt_bind h
  refine SO.call (pre := []) rfl Try.call29 rfl rfl rfl (call_Get.ct _ _ _ _ ht8) ⟨none, 0, rfl, fun _ _ h => by simp at h⟩ ?_
  rintro _ _ ⟨rfl, rfl⟩
  refine SO.v rfl (opv_move rfl) ?_
  refine SO.v rfl (opv_extract rfl rfl) ?_
  refine SO.v rfl (opv_extract rfl rfl) ?_
  refine SO.alloc rfl Try.zeroValue42 rfl (fun b9 => ?_)
  refine SO.storeN Try.sizeOf42 rfl rfl rfl rfl rfl rfl ?_
  refine SO.v rfl (opv_assign rfl) ?_
  refine SO.nil ?_
  refine S.to (ρ' := [(0, .bool false), (1, v4), (2, errV 48 t2), (4, errV 48 t7)]) ⟨rfl, rfl, rfl, rfl, trivial⟩ ?_
  refine S.seq ?_
  refine S.region ?_
  refine SO.v rfl (opv_build (v := .agg #[.int .i64 5, .int .i64 1, .int .i64 0]) rfl (by intro w; kernel_rfl)) ?_
  obtain ⟨⟨t10, t11⟩, ht12, h⟩ := opt_bind h
  have ct34 := call_Pack.ct _ _ _ ht12
  dsimp only at ct34
  refine SO.call (pre := []) rfl Try.call49 rfl rfl rfl ct34 trivial ?_
  rintro _ _ ⟨rfl, rfl⟩
  refine SO.v rfl (opv_move rfl) ?_
  refine SO.v rfl (opv_extract rfl rfl) ?_
  refine SO.v rfl (opv_extract rfl rfl) ?_
  refine SO.v rfl (opv_assign rfl) ?_
  refine SO.v rfl (opv_assign rfl) ?_
  refine SO.nil ?_
  refine S.seq ?_
  refine S.region ?_
  refine SO.v rfl (opv_move rfl) ?_
  refine SO.v rfl (opv_eqlN (e := t2) Try.underlying45 rfl) ?_
  refine SO.v rfl (opv_move rfl) ?_
  refine SO.cut 4 27 (.bool (t2.isNone && ((t1.length : Int) == 3))) [Box b9 [.int .i64 t6.Op, .int .i64 t6.Cap, .int .i64 t6.A, .int .i64 t6.B, .int .i64 t6.C, .int .i64 t6.D], Own 27 (ekI .u64) v4 t1, F] (fun l2 hk2 => ?_) ?_
  · rcases bool_or t2.isNone with b13 | b13
    · refine SO.takeT rfl rfl rfl b13 ?_
      refine SO.v rfl (opv_move rfl) ?_
      refine SO.takeT rfl rfl rfl b13 ?_
      refine SO.v rfl (opv_lenR rfl Try.underlying26 hr5 rfl) ?_
      refine SO.takeT rfl rfl rfl b13 ?_
      refine SO.v rfl (opv_eql rfl rfl) ?_
      refine SO.v rfl (opv_pick_t' b13 rfl rfl) ?_
      refine SO.b2 ?_
      refine SO.b2 ?_
      refine SO.b2 ?_
      exact hk2.fitc (m := 4) rfl (and_t b13) rfl
    · refine SO.passF rfl rfl rfl b13 rfl rfl ?_
      refine SO.passF rfl rfl rfl b13 rfl rfl ?_
      refine SO.passF rfl rfl rfl b13 rfl rfl ?_
      refine SO.v rfl (opv_pick_f' b13 rfl rfl) ?_
      refine SO.b2 ?_
      refine SO.b2 ?_
      refine SO.b2 ?_
      exact hk2.fitc (m := 4) rfl (and_f b13) rfl
  refine SO.v rfl (opv_move rfl) ?_
  obtain ⟨c15, hc16, hgk⟩ := opt_bind h
  refine SO.cut 5 33 (.bool c15) [Box b9 [.int .i64 t6.Op, .int .i64 t6.Cap, .int .i64 t6.A, .int .i64 t6.B, .int .i64 t6.C, .int .i64 t6.D], Own 27 (ekI .u64) v4 t1, F] (fun l2 hk2 => ?_) ?_
  · clear hgk
    replace h := hc16
    rcases bool_or (t2.isNone && ((t1.length : Int) == 3)) with b14 | b14
    · replace h := cond_t b14 h
      refine SO.takeT rfl rfl rfl b14 ?_
      refine SO.v rfl (opv_move rfl) ?_
      refine SO.takeT rfl rfl rfl b14 ?_
      obtain ⟨x17, hx18, h⟩ := opt_bind h
      refine SO.v rfl (opv_idx Try.underlying26 Try.sizeOf27 hr5 rfl rfl hx18) ?_
      refine SO.takeT rfl rfl rfl b14 ?_
      refine SO.loadI1 (j := 0) rfl Try.isAgg27 (Rd.tail (Rd.head hr5)) hx18 rfl rfl rfl rfl ?_
      refine SO.takeT rfl rfl rfl b14 ?_
      refine SO.v rfl (opv_eql rfl rfl) ?_
      cases h
      refine SO.v rfl (opv_pick_t' b14 rfl rfl) ?_
      refine SO.b2 ?_
      refine SO.b2 ?_
      refine SO.b2 ?_
      exact hk2.fitc (m := 5) rfl (rfl) rfl
    · replace h := cond_f b14 h
      refine SO.passF rfl rfl rfl b14 rfl rfl ?_
      refine SO.passF rfl rfl rfl b14 rfl rfl ?_
      refine SO.passF rfl rfl rfl b14 rfl rfl ?_
      refine SO.passF rfl rfl rfl b14 rfl rfl ?_
      cases h
      refine SO.v rfl (opv_pick_f' b14 rfl rfl) ?_
      refine SO.b2 ?_
      refine SO.b2 ?_
      refine SO.b2 ?_
      exact hk2.fitc (m := 5) rfl (rfl) rfl
  clear hc16
  replace h := hgk
  refine SO.v rfl (opv_move rfl) ?_
  refine SO.cut 4 38 (.bool (c15 && (t7 == some 1))) [Box b9 [.int .i64 t6.Op, .int .i64 t6.Cap, .int .i64 t6.A, .int .i64 t6.B, .int .i64 t6.C, .int .i64 t6.D], Own 27 (ekI .u64) v4 t1, F] (fun l2 hk2 => ?_) ?_
  · rcases bool_or c15 with b19 | b19
    · refine SO.takeT rfl rfl rfl b19 ?_
      refine SO.v rfl (opv_move rfl) ?_
      refine SO.takeT rfl rfl rfl b19 ?_
      refine SO.v rfl (opv_iface Try.underlying48 rfl rfl) ?_
      refine SO.takeT rfl rfl rfl b19 ?_
      refine SO.v rfl (opv_eqlE (e := t7) (c := 1) Try.underlying45 Try.underlying48 inf48 rfl rfl rfl) ?_
      refine SO.v rfl (opv_pick_t' b19 rfl rfl) ?_
      refine SO.b2 ?_
      refine SO.b2 ?_
      refine SO.b2 ?_
      exact hk2.fitc (m := 4) rfl (and_t b19) rfl
    · refine SO.passF rfl rfl rfl b19 rfl rfl ?_
      refine SO.passF rfl rfl rfl b19 rfl rfl ?_
      refine SO.passF rfl rfl rfl b19 rfl rfl ?_
      refine SO.v rfl (opv_pick_f' b19 rfl rfl) ?_
      refine SO.b2 ?_
      refine SO.b2 ?_
      refine SO.b2 ?_
      exact hk2.fitc (m := 4) rfl (and_f b19) rfl
  refine SO.v rfl (opv_move rfl) ?_
  refine SO.cut 3 42 (.bool ((c15 && (t7 == some 1)) && (t10 == 21))) [Box b9 [.int .i64 t6.Op, .int .i64 t6.Cap, .int .i64 t6.A, .int .i64 t6.B, .int .i64 t6.C, .int .i64 t6.D], Own 27 (ekI .u64) v4 t1, F] (fun l2 hk2 => ?_) ?_
  · rcases bool_or (c15 && (t7 == some 1)) with b20 | b20
    · refine SO.takeT rfl rfl rfl b20 ?_
      refine SO.v rfl (opv_move rfl) ?_
      refine SO.takeT rfl rfl rfl b20 ?_
      refine SO.v rfl (opv_eql rfl rfl) ?_
      refine SO.v rfl (opv_pick_t' b20 rfl rfl) ?_
      refine SO.b2 ?_
      refine SO.b2 ?_
      refine SO.b2 ?_
      exact hk2.fitc (m := 3) rfl (and_t b20) rfl
    · refine SO.passF rfl rfl rfl b20 rfl rfl ?_
      refine SO.passF rfl rfl rfl b20 rfl rfl ?_
      refine SO.v rfl (opv_pick_f' b20 rfl rfl) ?_
      refine SO.b2 ?_
      refine SO.b2 ?_
      refine SO.b2 ?_
      exact hk2.fitc (m := 3) rfl (and_f b20) rfl
  refine SO.v rfl (opv_move rfl) ?_
  refine SO.cut 3 46 (.bool (((c15 && (t7 == some 1)) && (t10 == 21)) && t11.isNone)) [Box b9 [.int .i64 t6.Op, .int .i64 t6.Cap, .int .i64 t6.A, .int .i64 t6.B, .int .i64 t6.C, .int .i64 t6.D], Own 27 (ekI .u64) v4 t1, F] (fun l2 hk2 => ?_) ?_
  · rcases bool_or ((c15 && (t7 == some 1)) && (t10 == 21)) with b21 | b21
    · refine SO.takeT rfl rfl rfl b21 ?_
      refine SO.v rfl (opv_move rfl) ?_
      refine SO.takeT rfl rfl rfl b21 ?_
      refine SO.v rfl (opv_eqlN (e := t11) Try.underlying45 rfl) ?_
      refine SO.v rfl (opv_pick_t' b21 rfl rfl) ?_
      refine SO.b2 ?_
      refine SO.b2 ?_
      refine SO.b2 ?_
      exact hk2.fitc (m := 3) rfl (and_t b21) rfl
    · refine SO.passF rfl rfl rfl b21 rfl rfl ?_
      refine SO.passF rfl rfl rfl b21 rfl rfl ?_
      refine SO.v rfl (opv_pick_f' b21 rfl rfl) ?_
      refine SO.b2 ?_
      refine SO.b2 ?_
      refine SO.b2 ?_
      exact hk2.fitc (m := 3) rfl (and_f b21) rfl
  refine SO.v rfl (opv_move rfl) ?_
  obtain ⟨c23, hc24, hgk⟩ := opt_bind h
  refine SO.cut 3 50 (.bool c23) [Box b9 [.int .i64 t6.Op, .int .i64 t6.Cap, .int .i64 t6.A, .int .i64 t6.B, .int .i64 t6.C, .int .i64 t6.D], Own 27 (ekI .u64) v4 t1, F] (fun l2 hk2 => ?_) ?_
  · clear hgk
    replace h := hc24
    rcases bool_or (((c15 && (t7 == some 1)) && (t10 == 21)) && t11.isNone) with b22 | b22
    · replace h := cond_t b22 h
      refine SO.takeT rfl rfl rfl b22 ?_
      refine SO.v rfl (opv_build (v := .agg #[.int .i64 1, .int .i64 0, .int .i64 0, .int .i64 0, .int .i64 0, .int .i64 0]) rfl (by intro w; kernel_rfl)) ?_
      refine SO.takeT rfl rfl rfl b22 ?_
      obtain ⟨t25, ht26, h⟩ := opt_bind h
      have ct27 := call_May.ct _ _ ht26
      dsimp only at ct27
      refine SO.call (pre := []) rfl Try.call28 rfl rfl rfl ct27 trivial ?_
      rintro _ _ ⟨rfl, rfl⟩
      cases h
      refine SO.v rfl (opv_pick_t' b22 rfl rfl) ?_
      refine SO.b2 ?_
      refine SO.b2 ?_
      refine SO.b2 ?_
      exact hk2.fitc (m := 3) rfl (rfl) rfl
    · replace h := cond_f b22 h
      refine SO.passF rfl rfl rfl b22 rfl rfl ?_
      refine SO.passF rfl rfl rfl b22 rfl rfl ?_
      cases h
      refine SO.v rfl (opv_pick_f' b22 rfl rfl) ?_
      refine SO.b2 ?_
      refine SO.b2 ?_
      refine SO.b2 ?_
      exact hk2.fitc (m := 3) rfl (rfl) rfl
  clear hc24
  replace h := hgk
  refine SO.v rfl (opv_move rfl) ?_
  obtain ⟨c29, hc30, hgk⟩ := opt_bind h
  refine SO.cut 4 55 (.bool c29) [Box b9 [.int .i64 t6.Op, .int .i64 t6.Cap, .int .i64 t6.A, .int .i64 t6.B, .int .i64 t6.C, .int .i64 t6.D], Own 27 (ekI .u64) v4 t1, F] (fun l2 hk2 => ?_) ?_
  · clear hgk
    replace h := hc30
    rcases bool_or c23 with b28 | b28
    · replace h := cond_t b28 h
      refine SO.takeT rfl rfl rfl b28 ?_
      refine SO.v rfl (opv_build (v := .agg #[.int .i64 0, .int .i64 0, .int .i64 0, .int .i64 0, .int .i64 0, .int .i64 0]) rfl (by intro w; kernel_rfl)) ?_
      refine SO.takeT rfl rfl rfl b28 ?_
      obtain ⟨t31, ht32, h⟩ := opt_bind h
      have ct33 := call_May.ct _ _ ht32
      dsimp only at ct33
      refine SO.call (pre := []) rfl Try.call28 rfl rfl rfl ct33 trivial ?_
      rintro _ _ ⟨rfl, rfl⟩
      refine SO.takeT rfl rfl rfl b28 ?_
      refine SO.v rfl (opv_not rfl) ?_
      cases h
      refine SO.v rfl (opv_pick_t' b28 rfl rfl) ?_
      refine SO.b2 ?_
      refine SO.b2 ?_
      refine SO.b2 ?_
      exact hk2.fitc (m := 4) rfl (rfl) rfl
    · replace h := cond_f b28 h
      refine SO.passF rfl rfl rfl b28 rfl rfl ?_
      refine SO.passF rfl rfl rfl b28 rfl rfl ?_
      refine SO.passF rfl rfl rfl b28 rfl rfl ?_
      cases h
      refine SO.v rfl (opv_pick_f' b28 rfl rfl) ?_
      refine SO.b2 ?_
      refine SO.b2 ?_
      refine SO.b2 ?_
      exact hk2.fitc (m := 4) rfl (rfl) rfl
  clear hc30
  replace h := hgk
  refine SO.v rfl (opv_assign rfl) ?_
  refine SO.nil ?_
  refine S.to (ρ' := [(0, .bool c29)]) ⟨rfl, trivial⟩ ?_
  cases h
  refine S.drop ?_
  refine S.drop ?_
  exact S.ret1 Try.func25 rfl rfl (fun w hs hk => hR w _ _ ⟨rfl, rfl⟩ hs hk)
end Go.Proofs
namespace Go.Proofs
open Go.Sl Go.RowKit
/-! 62 padstone/padstoneref10.in -/
def ref10_in.f (a0 : Int) (a1 : Int) : Option (Bool) :=
  some ((decide (0 ≤ a0)) && (decide (a0 ≤ a1)))
set_option maxHeartbeats 8000000 in
set_option maxRecDepth 100000 in
theorem ref10_in.ct (a0 : Int) (a1 : Int) (r0 : Bool) (h : ref10_in.f a0 a1 = some r0) :
    Ct Try.prog 62 [.int .i64 a0, .int .i64 a1] (fun _ => True) [] (fun u H' => u = .bool r0 ∧ H' = []) := by
  unfold ref10_in.f at h
  refine Ct.intro (n := 12) Try.func62 rfl rfl rfl ?_
  intro R w0 F hF hR
  refine S.seq ?_
  refine S.region ?_
  refine SO.v rfl (opv_assign rfl) ?_
  refine SO.nil ?_
  refine S.seq ?_
  refine S.region ?_
  refine SO.v rfl (opv_move rfl) ?_
  refine SO.v rfl (opv_geq rfl rfl) ?_
  refine SO.v rfl (opv_move rfl) ?_
  refine SO.cut 4 11 (.bool ((decide (0 ≤ a0)) && (decide (a0 ≤ a1)))) [F] (fun l2 hk2 => ?_) ?_
  · rcases bool_or (decide (0 ≤ a0)) with b1 | b1
    · refine SO.takeT rfl rfl rfl b1 ?_
      refine SO.v rfl (opv_move rfl) ?_
      refine SO.takeT rfl rfl rfl b1 ?_
      refine SO.v rfl (opv_move rfl) ?_
      refine SO.takeT rfl rfl rfl b1 ?_
      refine SO.v rfl (opv_leq rfl rfl) ?_
      refine SO.v rfl (opv_pick_t' b1 rfl rfl) ?_
      exact hk2.fitc (m := 4) rfl (and_t b1) rfl
    · refine SO.passF rfl rfl rfl b1 rfl rfl ?_
      refine SO.passF rfl rfl rfl b1 rfl rfl ?_
      refine SO.passF rfl rfl rfl b1 rfl rfl ?_
      refine SO.v rfl (opv_pick_f' b1 rfl rfl) ?_
      exact hk2.fitc (m := 4) rfl (and_f b1) rfl
  refine SO.v rfl (opv_assign rfl) ?_
  refine SO.nil ?_
  cases h
  exact S.ret1 Try.func62 rfl rfl (fun w hs hk => hR w _ _ ⟨rfl, rfl⟩ hs hk)
end Go.Proofs
namespace Go.Proofs
open Go.Sl Go.RowKit
/-! 26 padstone/padstoneref10.May -/
def ref10_May.f (a0 : api_Call) : Option (Bool) :=
  (ref10_in.f a0.A 2147483647).bind fun t2 => (ref10_in.f a0.B 2147483647).bind fun t4 => (ref10_in.f a0.C 2147483647).bind fun t6 => (ref10_in.f a0.D 2147483647).bind fun t8 => (ref10_in.f a0.Cap 65535).bind fun t10 => some ((((((t2 && t4) && t6) && t8) && t10) && (decide (1 ≤ a0.Op))) && (decide (a0.Op ≤ 22)))
set_option maxHeartbeats 8000000 in
set_option maxRecDepth 100000 in
theorem ref10_May.ct (a0 : api_Call) (r0 : Bool) (h : ref10_May.f a0 = some r0) :
    Ct Try.prog 26 [.agg #[.int .i64 a0.Op, .int .i64 a0.Cap, .int .i64 a0.A, .int .i64 a0.B, .int .i64 a0.C, .int .i64 a0.D]] (fun _ => True) [] (fun u H' => u = .bool r0 ∧ H' = []) := by
  unfold ref10_May.f at h
  refine Ct.intro (n := 46) Try.func26 rfl rfl rfl ?_
  intro R w0 F hF hR
  refine S.seq ?_
  refine S.region ?_
  refine SO.box rfl rfl rfl (fun b1 => ?_)
  refine SO.v rfl (opv_assign rfl) ?_
  refine SO.nil ?_
  refine S.seq ?_
  refine S.region ?_
  refine SO.v rfl (opv_fieldAddr Try.underlying42 rfl Try.sizeOf3 rfl rfl) ?_
  refine SO.load1 rfl Try.isAgg3 rfl rfl ?_
  obtain ⟨t2, ht3, h⟩ := opt_bind h
  refine SO.call (pre := []) rfl Try.call62 rfl rfl rfl (ref10_in.ct _ _ _ ht3) trivial ?_
  rintro _ _ ⟨rfl, rfl⟩
  refine SO.v rfl (opv_assign rfl) ?_
  refine SO.nil ?_
  refine S.seq ?_
  refine S.region ?_
  refine SO.v rfl (opv_fieldAddr Try.underlying42 rfl Try.sizeOf3 rfl rfl) ?_
  refine SO.load1 rfl Try.isAgg3 rfl rfl ?_
  obtain ⟨t4, ht5, h⟩ := opt_bind h
  refine SO.call (pre := []) rfl Try.call62 rfl rfl rfl (ref10_in.ct _ _ _ ht5) trivial ?_
  rintro _ _ ⟨rfl, rfl⟩
  refine SO.v rfl (opv_assign rfl) ?_
  refine SO.nil ?_
  refine S.to (ρ' := [(1, bp b1 0), (2, .bool false), (3, .bool t2), (4, .bool t4)]) ⟨rfl, rfl, rfl, rfl, trivial⟩ ?_
  refine S.seq ?_
  refine S.region ?_
  refine SO.v rfl (opv_fieldAddr Try.underlying42 rfl Try.sizeOf3 rfl rfl) ?_
  refine SO.load1 rfl Try.isAgg3 rfl rfl ?_
  obtain ⟨t6, ht7, h⟩ := opt_bind h
  refine SO.call (pre := []) rfl Try.call62 rfl rfl rfl (ref10_in.ct _ _ _ ht7) trivial ?_
  rintro _ _ ⟨rfl, rfl⟩
  refine SO.v rfl (opv_assign rfl) ?_
  refine SO.nil ?_
  refine S.seq ?_
  refine S.region ?_
  refine SO.v rfl (opv_fieldAddr Try.underlying42 rfl Try.sizeOf3 rfl rfl) ?_
  refine SO.load1 rfl Try.isAgg3 rfl rfl ?_
  obtain ⟨t8, ht9, h⟩ := opt_bind h
  refine SO.call (pre := []) rfl Try.call62 rfl rfl rfl (ref10_in.ct _ _ _ ht9) trivial ?_
  rintro _ _ ⟨rfl, rfl⟩
  refine SO.v rfl (opv_assign rfl) ?_
  refine SO.nil ?_
  refine S.seq ?_
  refine S.region ?_
  refine SO.v rfl (opv_fieldAddr Try.underlying42 rfl Try.sizeOf3 rfl rfl) ?_
  refine SO.load1 rfl Try.isAgg3 rfl rfl ?_
  obtain ⟨t10, ht11, h⟩ := opt_bind h
  refine SO.call (pre := []) rfl Try.call62 rfl rfl rfl (ref10_in.ct _ _ _ ht11) trivial ?_
  rintro _ _ ⟨rfl, rfl⟩
  refine SO.v rfl (opv_assign rfl) ?_
  refine SO.nil ?_
  refine S.to (ρ' := [(1, bp b1 0), (2, .bool false), (3, .bool t2), (4, .bool t4), (5, .bool t6), (6, .bool t8), (7, .bool t10)]) ⟨rfl, rfl, rfl, rfl, rfl, rfl, rfl, trivial⟩ ?_
  refine S.seq ?_
  refine S.region ?_
  refine SO.v rfl (opv_move rfl) ?_
  refine SO.v rfl (opv_move rfl) ?_
  refine SO.cut 2 26 (.bool (t2 && t4)) [Box b1 [.int .i64 a0.Op, .int .i64 a0.Cap, .int .i64 a0.A, .int .i64 a0.B, .int .i64 a0.C, .int .i64 a0.D], F] (fun l2 hk2 => ?_) ?_
  · rcases bool_or t2 with b12 | b12
    · refine SO.takeT rfl rfl rfl b12 ?_
      refine SO.v rfl (opv_move rfl) ?_
      refine SO.v rfl (opv_pick_t' b12 rfl rfl) ?_
      refine SO.b1 ?_
      refine SO.b1 ?_
      exact hk2.fitc (m := 2) rfl (and_t b12) rfl
    · refine SO.passF rfl rfl rfl b12 rfl rfl ?_
      refine SO.v rfl (opv_pick_f' b12 rfl rfl) ?_
      refine SO.b1 ?_
      refine SO.b1 ?_
      exact hk2.fitc (m := 2) rfl (and_f b12) rfl
  refine SO.v rfl (opv_move rfl) ?_
  refine SO.cut 2 29 (.bool ((t2 && t4) && t6)) [Box b1 [.int .i64 a0.Op, .int .i64 a0.Cap, .int .i64 a0.A, .int .i64 a0.B, .int .i64 a0.C, .int .i64 a0.D], F] (fun l2 hk2 => ?_) ?_
  · rcases bool_or (t2 && t4) with b13 | b13
    · refine SO.takeT rfl rfl rfl b13 ?_
      refine SO.v rfl (opv_move rfl) ?_
      refine SO.v rfl (opv_pick_t' b13 rfl rfl) ?_
      refine SO.b1 ?_
      refine SO.b1 ?_
      exact hk2.fitc (m := 2) rfl (and_t b13) rfl
    · refine SO.passF rfl rfl rfl b13 rfl rfl ?_
      refine SO.v rfl (opv_pick_f' b13 rfl rfl) ?_
      refine SO.b1 ?_
      refine SO.b1 ?_
      exact hk2.fitc (m := 2) rfl (and_f b13) rfl
  refine SO.v rfl (opv_move rfl) ?_
  refine SO.cut 2 32 (.bool (((t2 && t4) && t6) && t8)) [Box b1 [.int .i64 a0.Op, .int .i64 a0.Cap, .int .i64 a0.A, .int .i64 a0.B, .int .i64 a0.C, .int .i64 a0.D], F] (fun l2 hk2 => ?_) ?_
  · rcases bool_or ((t2 && t4) && t6) with b14 | b14
    · refine SO.takeT rfl rfl rfl b14 ?_
      refine SO.v rfl (opv_move rfl) ?_
      refine SO.v rfl (opv_pick_t' b14 rfl rfl) ?_
      refine SO.b1 ?_
      refine SO.b1 ?_
      exact hk2.fitc (m := 2) rfl (and_t b14) rfl
    · refine SO.passF rfl rfl rfl b14 rfl rfl ?_
      refine SO.v rfl (opv_pick_f' b14 rfl rfl) ?_
      refine SO.b1 ?_
      refine SO.b1 ?_
      exact hk2.fitc (m := 2) rfl (and_f b14) rfl
  refine SO.v rfl (opv_move rfl) ?_
  refine SO.cut 2 35 (.bool ((((t2 && t4) && t6) && t8) && t10)) [Box b1 [.int .i64 a0.Op, .int .i64 a0.Cap, .int .i64 a0.A, .int .i64 a0.B, .int .i64 a0.C, .int .i64 a0.D], F] (fun l2 hk2 => ?_) ?_
  · rcases bool_or (((t2 && t4) && t6) && t8) with b15 | b15
    · refine SO.takeT rfl rfl rfl b15 ?_
      refine SO.v rfl (opv_move rfl) ?_
      refine SO.v rfl (opv_pick_t' b15 rfl rfl) ?_
      refine SO.b1 ?_
      refine SO.b1 ?_
      exact hk2.fitc (m := 2) rfl (and_t b15) rfl
    · refine SO.passF rfl rfl rfl b15 rfl rfl ?_
      refine SO.v rfl (opv_pick_f' b15 rfl rfl) ?_
      refine SO.b1 ?_
      refine SO.b1 ?_
      exact hk2.fitc (m := 2) rfl (and_f b15) rfl
  refine SO.v rfl (opv_move rfl) ?_
  refine SO.cut 4 40 (.bool (((((t2 && t4) && t6) && t8) && t10) && (decide (1 ≤ a0.Op)))) [Box b1 [.int .i64 a0.Op, .int .i64 a0.Cap, .int .i64 a0.A, .int .i64 a0.B, .int .i64 a0.C, .int .i64 a0.D], F] (fun l2 hk2 => ?_) ?_
  · rcases bool_or ((((t2 && t4) && t6) && t8) && t10) with b16 | b16
    · refine SO.takeT rfl rfl rfl b16 ?_
      refine SO.v rfl (opv_fieldAddr Try.underlying42 rfl Try.sizeOf3 rfl rfl) ?_
      refine SO.takeT rfl rfl rfl b16 ?_
      refine SO.load1 rfl Try.isAgg3 rfl rfl ?_
      refine SO.takeT rfl rfl rfl b16 ?_
      refine SO.v rfl (opv_geq rfl rfl) ?_
      refine SO.v rfl (opv_pick_t' b16 rfl rfl) ?_
      refine SO.b1 ?_
      refine SO.b1 ?_
      exact hk2.fitc (m := 4) rfl (and_t b16) rfl
    · refine SO.passF rfl rfl rfl b16 rfl rfl ?_
      refine SO.passF rfl rfl rfl b16 rfl rfl ?_
      refine SO.passF rfl rfl rfl b16 rfl rfl ?_
      refine SO.v rfl (opv_pick_f' b16 rfl rfl) ?_
      refine SO.b1 ?_
      refine SO.b1 ?_
      exact hk2.fitc (m := 4) rfl (and_f b16) rfl
  refine SO.v rfl (opv_move rfl) ?_
  refine SO.cut 4 45 (.bool ((((((t2 && t4) && t6) && t8) && t10) && (decide (1 ≤ a0.Op))) && (decide (a0.Op ≤ 22)))) [Box b1 [.int .i64 a0.Op, .int .i64 a0.Cap, .int .i64 a0.A, .int .i64 a0.B, .int .i64 a0.C, .int .i64 a0.D], F] (fun l2 hk2 => ?_) ?_
  · rcases bool_or (((((t2 && t4) && t6) && t8) && t10) && (decide (1 ≤ a0.Op))) with b17 | b17
    · refine SO.takeT rfl rfl rfl b17 ?_
      refine SO.v rfl (opv_fieldAddr Try.underlying42 rfl Try.sizeOf3 rfl rfl) ?_
      refine SO.takeT rfl rfl rfl b17 ?_
      refine SO.load1 rfl Try.isAgg3 rfl rfl ?_
      refine SO.takeT rfl rfl rfl b17 ?_
      refine SO.v rfl (opv_leq rfl rfl) ?_
      refine SO.v rfl (opv_pick_t' b17 rfl rfl) ?_
      refine SO.b1 ?_
      refine SO.b1 ?_
      exact hk2.fitc (m := 4) rfl (and_t b17) rfl
    · refine SO.passF rfl rfl rfl b17 rfl rfl ?_
      refine SO.passF rfl rfl rfl b17 rfl rfl ?_
      refine SO.passF rfl rfl rfl b17 rfl rfl ?_
      refine SO.v rfl (opv_pick_f' b17 rfl rfl) ?_
      refine SO.b1 ?_
      refine SO.b1 ?_
      exact hk2.fitc (m := 4) rfl (and_f b17) rfl
  refine SO.v rfl (opv_assign rfl) ?_
  refine SO.nil ?_
  refine S.to (ρ' := [(2, .bool ((((((t2 && t4) && t6) && t8) && t10) && (decide (1 ≤ a0.Op))) && (decide (a0.Op ≤ 22))))]) ⟨rfl, trivial⟩ ?_
  cases h
  refine S.drop ?_
  exact S.ret1 Try.func26 rfl rfl (fun w hs hk => hR w _ _ ⟨rfl, rfl⟩ hs hk)
end Go.Proofs
namespace Go.Proofs
open Go.Sl Go.RowKit
/-! 6 padstone/padstonelaw20.CallTells -/
def law20_CallTells.f (a0 : api_Call) (a1 : List Int) : Option (Bool) :=
  (law20_up.f ).bind fun t2 => bif decide (100 < (a1.length : Int)) then (some t2) else ((ref10_May.f a0).bind fun t5 => (call_Put.f a0).bind fun (t7, t8) => (call_May.f a0).bind fun t12 => bif t12 != t5 then (some false) else ((((bif !t5 then (bif (t8 != some 1) || ((t7.length : Int) != 0) then (some (Brk.ret false)) else (some (Brk.nx ()))) else (bif t8.isSome || ((t7.length : Int) != 3) then (some (Brk.ret false)) else (((at_ t7 0).bind fun x20 => bif x20 != (wu64 ((wu64 a0.Op) + (wu64 (256 * (wu64 a0.Cap))))) then (some true) else ((at_ t7 1).bind fun x23 => bif x23 != (wu64 ((wu64 a0.A) + (wu64 (4294967296 * (wu64 a0.B))))) then (some true) else ((at_ t7 2).bind fun x26 => some (x26 != (wu64 ((wu64 a0.C) + (wu64 (4294967296 * (wu64 a0.D))))))))).bind fun j85_2 => bif j85_2 then (some (Brk.ret false)) else (some (Brk.nx ()))))) : Option (Brk Bool Unit))).bind fun o1 => Brk.go o1 (fun r => some r) (fun _ => (call_Get.f a1).bind fun (t29, t30) => bif (a1.length : Int) != 3 then (some ((t2 && (t30 == some 1)) && (decide (t29 = (⟨0, 0, 0, 0, 0, 0⟩ : api_Call))))) else ((at_ a1 0).bind fun x37 => (bif decide (x37 < 16777216) then ((at_ a1 0).bind fun x40 => (at_ a1 0).bind fun x42 => (at_ a1 1).bind fun x44 => (at_ a1 1).bind fun x46 => (at_ a1 2).bind fun x48 => (at_ a1 2).bind fun x50 => (ref10_May.f (⟨w64 (x40.tmod 256), w64 (wu64 (x42.tdiv 256)), w64 (x44.tmod 4294967296), w64 (wu64 (x46.tdiv 4294967296)), w64 (x48.tmod 4294967296), w64 (wu64 (x50.tdiv 4294967296))⟩ : api_Call)).bind fun t52 => some (t52, w64 (x40.tmod 256), w64 (wu64 (x42.tdiv 256)), w64 (x44.tmod 4294967296), w64 (wu64 (x46.tdiv 4294967296)), w64 (x48.tmod 4294967296), w64 (wu64 (x50.tdiv 4294967296)))) else (some (decide (x37 < 16777216), 0, 0, 0, 0, 0, 0))).bind fun (j12_3, y36_0_3, y36_1_3, y36_2_3, y36_3_3, y36_4_3, y36_5_3) => bif !j12_3 then ((bif t2 && (t30 == some 1) then (some (decide (t29 = (⟨0, 0, 0, 0, 0, 0⟩ : api_Call)))) else (some false)).bind fun c58 => some c58) else (some ((t2 && t30.isNone) && (decide (t29 = (⟨y36_0_3, y36_1_3, y36_2_3, y36_3_3, y36_4_3, y36_5_3⟩ : api_Call)))))))))
set_option maxHeartbeats 8000000 in
set_option maxRecDepth 100000 in
theorem law20_CallTells.ct (v1 : Value) (a0 : api_Call) (a1 : List Int) (r0 : Bool) (h : law20_CallTells.f a0 a1 = some r0) :
    Ct Try.prog 6 [.agg #[.int .i64 a0.Op, .int .i64 a0.Cap, .int .i64 a0.A, .int .i64 a0.B, .int .i64 a0.C, .int .i64 a0.D], v1] (fun F => Rd (ekI .u64) v1 a1 F) [] (fun u H' => u = .bool r0 ∧ H' = []) := by
  unfold law20_CallTells.f at h
  refine Ct.intro (n := 166) Try.func6 rfl rfl rfl ?_
  intro R w0 F hF hR
  have hF1 := hF
  refine S.seq ?_
  refine S.region ?_
  refine SO.box rfl rfl rfl (fun b1 => ?_)
  refine SO.v rfl (opv_assign rfl) ?_
  refine SO.nil ?_
  refine S.seq ?_
  refine S.region ?_
  obtain ⟨t2, ht3, h⟩ := opt_bind h
  refine SO.call (pre := []) rfl Try.call25 rfl rfl rfl (law20_up.ct _ ht3) trivial ?_
  rintro _ _ ⟨rfl, rfl⟩
  refine SO.v rfl (opv_assign rfl) ?_
  refine SO.nil ?_
  refine S.seq ?_
  refine S.seq ?_
  refine S.region ?_
  refine SO.v rfl (opv_move rfl) ?_
  refine SO.v rfl (opv_lenR rfl Try.underlying26 hF1 rfl) ?_
  refine SO.v rfl (opv_gtr rfl rfl) ?_
  refine SO.nil ?_
  rcases bool_or (decide (100 < (a1.length : Int))) with b4 | b4
  · replace h := cond_t b4 h
    refine S.condT rfl b4 ?_
    refine S.seq ?_
    refine S.region ?_
    refine SO.v rfl (opv_move rfl) ?_
    refine SO.v rfl (opv_assign rfl) ?_
    refine SO.nil ?_
    cases h
    refine S.drop ?_
    exact S.ret1 Try.func6 rfl rfl (fun w hs hk => hR w _ _ ⟨rfl, rfl⟩ hs hk)
  · replace h := cond_f b4 h
    refine S.condF rfl b4 ?_
    refine S.skip ?_
    refine S.seq ?_
    refine S.region ?_
    refine SO.loadN rfl Try.isAgg42 Try.sizeOf42 rfl rfl rfl ?_
    obtain ⟨t5, ht6, h⟩ := opt_bind h
    refine SO.call (pre := []) rfl Try.call26 rfl rfl rfl (ref10_May.ct _ _ ht6) trivial ?_
    rintro _ _ ⟨rfl, rfl⟩
    refine SO.v rfl (opv_assign rfl) ?_
    refine SO.nil ?_
    refine S.to (ρ' := [(1, v1), (2, bp b1 0), (4, .bool false), (5, .bool t2), (6, .bool t5)]) ⟨rfl, rfl, rfl, rfl, rfl, trivial⟩ ?_
    refine S.seq ?_
    refine S.region ?_
    refine SO.loadN rfl Try.isAgg42 Try.sizeOf42 rfl rfl rfl ?_
    obtain ⟨⟨t7, t8⟩, ht9, h⟩ := opt_bind h
    refine SO.call (pre := []) rfl Try.call27 rfl rfl rfl (call_Put.ct _ _ _ ht9) trivial ?_
    rintro _ _ ⟨v10, rfl, rfl⟩
    refine SO.rd fun hr11 => ?_
    refine SO.v rfl (opv_move rfl) ?_
    refine SO.v rfl (opv_extract rfl rfl) ?_
    refine SO.v rfl (opv_extract rfl rfl) ?_
    refine SO.v rfl (opv_assign rfl) ?_
    refine SO.v rfl (opv_assign rfl) ?_
    refine SO.nil ?_
    refine S.seq ?_
    refine S.seq ?_
    refine S.region ?_
    refine SO.b1 ?_
    refine SO.loadN rfl Try.isAgg42 Try.sizeOf42 rfl rfl rfl ?_
    obtain ⟨t12, ht13, h⟩ := opt_bind h
    refine SO.call (pre := []) rfl Try.call28 rfl rfl rfl (call_May.ct _ _ ht13) trivial ?_
    rintro _ _ ⟨rfl, rfl⟩
    refine SO.v rfl (opv_move rfl) ?_
    refine SO.v rfl (opv_neqB Try.underlying4 rfl rfl) ?_
    refine SO.nil ?_
    refine S.to (ρ' := [(1, v1), (2, bp b1 0), (4, .bool false), (5, .bool t2), (6, .bool t5), (7, v10), (8, errV 48 t8), (28, .bool (t12 != t5))]) ⟨rfl, rfl, rfl, rfl, rfl, rfl, rfl, rfl, trivial⟩ ?_
    rcases bool_or (t12 != t5) with b14 | b14
    · replace h := cond_t b14 h
      refine S.condT rfl b14 ?_
      refine S.seq ?_
      refine S.region ?_
      refine SO.v rfl (opv_assign rfl) ?_
      refine SO.nil ?_
      cases h
      refine S.drop ?_
      refine S.drop ?_
      exact S.ret1 Try.func6 rfl rfl (fun w hs hk => hR w _ _ ⟨rfl, rfl⟩ hs hk)
    · replace h := cond_f b14 h
      refine S.condF rfl b14 ?_
      refine S.skip ?_
      refine S.seq ?_
      refine S.seq ?_
      refine S.region ?_
      refine SO.v rfl (opv_move rfl) ?_
      refine SO.v rfl (opv_not rfl) ?_
      refine SO.nil ?_
      obtain ⟨o1, hC1, hJ1⟩ := opt_bind h
      clear h
      refine S.cutP (G := Unit × Unit) (fun x => o1 = Brk.nx x.1) (fun x => match x with | (_, _) => [(1, v1), (4, .bool false), (5, .bool t2)]) (fun x => match x with | (_, _) => [Box b1 [.int .i64 a0.Op, .int .i64 a0.Cap, .int .i64 a0.A, .int .i64 a0.B, .int .i64 a0.C, .int .i64 a0.D], Own 27 (ekI .u64) v10 t7, F]) (fun hk1 => ?_) ?_
      · replace h := hC1
        rcases bool_or (!t5) with b15 | b15
        · replace h := cond_t b15 h
          refine S.condT rfl b15 ?_
          refine S.seq ?_
          refine S.region ?_
          refine SO.v rfl (opv_move rfl) ?_
          refine SO.v rfl (opv_iface Try.underlying48 rfl rfl) ?_
          refine SO.v rfl (opv_neqE (e := t8) (c := 1) Try.underlying45 Try.underlying48 inf48 rfl rfl rfl) ?_
          refine SO.v rfl (opv_move rfl) ?_
          refine SO.cut 4 38 (.bool ((t8 != some 1) || ((t7.length : Int) != 0))) [Box b1 [.int .i64 a0.Op, .int .i64 a0.Cap, .int .i64 a0.A, .int .i64 a0.B, .int .i64 a0.C, .int .i64 a0.D], Own 27 (ekI .u64) v10 t7, F] (fun l2 hk2 => ?_) ?_
          · rcases bool_or (t8 != some 1) with b16 | b16
            · refine SO.passF rfl rfl rfl b16 rfl rfl ?_
              refine SO.passF rfl rfl rfl b16 rfl rfl ?_
              refine SO.passF rfl rfl rfl b16 rfl rfl ?_
              refine SO.v rfl (opv_pick_t' b16 rfl rfl) ?_
              refine SO.b2 ?_
              refine SO.b2 ?_
              refine SO.b2 ?_
              exact hk2.fitc (m := 4) rfl (or_t b16) rfl
            · refine SO.takeT rfl rfl rfl b16 ?_
              refine SO.v rfl (opv_move rfl) ?_
              refine SO.takeT rfl rfl rfl b16 ?_
              refine SO.v rfl (opv_lenR rfl Try.underlying26 hr11 rfl) ?_
              refine SO.takeT rfl rfl rfl b16 ?_
              refine SO.v rfl (opv_neq rfl rfl) ?_
              refine SO.v rfl (opv_pick_f' b16 rfl rfl) ?_
              refine SO.b2 ?_
              refine SO.b2 ?_
              refine SO.b2 ?_
              exact hk2.fitc (m := 4) rfl (or_f b16) rfl
          refine SO.nil ?_
          refine S.to (ρ' := [(1, v1), (4, .bool false), (5, .bool t2), (38, .bool ((t8 != some 1) || ((t7.length : Int) != 0)))]) ⟨rfl, rfl, rfl, rfl, trivial⟩ ?_
          rcases bool_or ((t8 != some 1) || ((t7.length : Int) != 0)) with b17 | b17
          · replace h := cond_t b17 h
            refine S.condT rfl b17 ?_
            refine S.seq ?_
            refine S.region ?_
            refine SO.v rfl (opv_assign rfl) ?_
            refine SO.nil ?_
            cases h
            replace h := Brk.of_ret hJ1
            cases h
            refine S.drop ?_
            refine S.drop ?_
            exact S.ret1 Try.func6 rfl rfl (fun w hs hk => hR w _ _ ⟨rfl, rfl⟩ hs hk)
          · replace h := cond_f b17 h
            refine S.condF rfl b17 ?_
            refine S.skip ?_
            cases h
            refine S.b2 ?_
            refine S.b2 ?_
            refine S.b2 ?_
            refine S.to ?_ (hk1 ((), ()) rfl)
            exact ⟨rfl, rfl, rfl, trivial⟩
        · replace h := cond_f b15 h
          refine S.condF rfl b15 ?_
          refine S.seq ?_
          refine S.seq ?_
          refine S.region ?_
          refine SO.v rfl (opv_move rfl) ?_
          refine SO.v rfl (opv_neqN (e := t8) Try.underlying45 rfl) ?_
          refine SO.v rfl (opv_move rfl) ?_
          refine SO.cut 4 45 (.bool (t8.isSome || ((t7.length : Int) != 3))) [Box b1 [.int .i64 a0.Op, .int .i64 a0.Cap, .int .i64 a0.A, .int .i64 a0.B, .int .i64 a0.C, .int .i64 a0.D], Own 27 (ekI .u64) v10 t7, F] (fun l2 hk2 => ?_) ?_
          · rcases bool_or t8.isSome with b18 | b18
            · refine SO.passF rfl rfl rfl b18 rfl rfl ?_
              refine SO.passF rfl rfl rfl b18 rfl rfl ?_
              refine SO.passF rfl rfl rfl b18 rfl rfl ?_
              refine SO.v rfl (opv_pick_t' b18 rfl rfl) ?_
              refine SO.b2 ?_
              refine SO.b2 ?_
              refine SO.b2 ?_
              exact hk2.fitc (m := 4) rfl (or_t b18) rfl
            · refine SO.takeT rfl rfl rfl b18 ?_
              refine SO.v rfl (opv_move rfl) ?_
              refine SO.takeT rfl rfl rfl b18 ?_
              refine SO.v rfl (opv_lenR rfl Try.underlying26 hr11 rfl) ?_
              refine SO.takeT rfl rfl rfl b18 ?_
              refine SO.v rfl (opv_neq rfl rfl) ?_
              refine SO.v rfl (opv_pick_f' b18 rfl rfl) ?_
              refine SO.b2 ?_
              refine SO.b2 ?_
              refine SO.b2 ?_
              exact hk2.fitc (m := 4) rfl (or_f b18) rfl
          refine SO.nil ?_
          refine S.to (ρ' := [(1, v1), (2, bp b1 0), (4, .bool false), (5, .bool t2), (7, v10), (45, .bool (t8.isSome || ((t7.length : Int) != 3)))]) ⟨rfl, rfl, rfl, rfl, rfl, rfl, trivial⟩ ?_
          rcases bool_or (t8.isSome || ((t7.length : Int) != 3)) with b19 | b19
          · replace h := cond_t b19 h
            refine S.condT rfl b19 ?_
            refine S.seq ?_
            refine S.region ?_
            refine SO.v rfl (opv_assign rfl) ?_
            refine SO.nil ?_
            cases h
            replace h := Brk.of_ret hJ1
            cases h
            refine S.drop ?_
            refine S.drop ?_
            exact S.ret1 Try.func6 rfl rfl (fun w hs hk => hR w _ _ ⟨rfl, rfl⟩ hs hk)
          · replace h := cond_f b19 h
            refine S.condF rfl b19 ?_
            refine S.skip ?_
            refine S.seq ?_
            obtain ⟨j85_2, hC2, hJ2⟩ := opt_bind h
            clear h
            refine S.cutP (G := Unit) (fun _ => True) (fun _ => [(1, v1), (4, .bool false), (5, .bool t2), (85, .bool j85_2)]) (fun _ => [Box b1 [.int .i64 a0.Op, .int .i64 a0.Cap, .int .i64 a0.A, .int .i64 a0.B, .int .i64 a0.C, .int .i64 a0.D], Own 27 (ekI .u64) v10 t7, F]) (fun hk2 => ?_) ?_
            · replace h := hC2
              obtain ⟨x20, hx21, h⟩ := opt_bind h
              rcases bool_or (x20 != (wu64 ((wu64 a0.Op) + (wu64 (256 * (wu64 a0.Cap)))))) with b22 | b22
              · replace h := cond_t b22 h
                refine S.draw' (Z := fun Q => ∀ (_ : Unit) (_ : Unit) (_ : Unit) (_ : Unit) (_ : Unit), Q [(1, v1), (4, .bool false), (5, .bool t2), (85, .bool true)] [Box b1 [.int .i64 a0.Op, .int .i64 a0.Cap, .int .i64 a0.A, .int .i64 a0.B, .int .i64 a0.C, .int .i64 a0.D], Own 27 (ekI .u64) v10 t7, F]) (T := [tS 7 (v10), tS 2 (bp b1 0), tE [(1, v1), (4, .bool false), (5, .bool t2)], tR (Box b1 [.int .i64 a0.Op, .int .i64 a0.Cap, .int .i64 a0.A, .int .i64 a0.B, .int .i64 a0.C, .int .i64 a0.D]), tR (Own 27 (ekI .u64) v10 t7), tR (F), tS 46 (v10), tS 47 (idxp v10 ((0 : Int).toNat * (ekI .u64).sz)), tS 48 (.int .u64 x20), tS 49 (bp b1 0), tS 50 (.int .i64 a0.Op), tS 51 (.int .u64 (wu64 a0.Op)), tS 52 (bp b1 1), tS 53 (.int .i64 a0.Cap), tS 54 (.int .u64 (wu64 a0.Cap)), tS 55 (.int .u64 (wu64 (256 * (wu64 a0.Cap)))), tS 56 (.int .u64 (wu64 ((wu64 a0.Op) + (wu64 (256 * (wu64 a0.Cap)))))), tS 57 (.bool (x20 != (wu64 ((wu64 a0.Op) + (wu64 (256 * (wu64 a0.Cap))))))), tS 58 (.bool (x20 != (wu64 ((wu64 a0.Op) + (wu64 (256 * (wu64 a0.Cap))))))), tS 59 (undef), tS 60 (undef), tS 61 (undef), tS 62 (undef), tS 63 (undef), tS 64 (undef), tS 65 (undef), tS 66 (undef), tS 67 (undef), tS 68 (undef), tS 69 (undef), tS 70 (undef), tS 71 (.bool true), tS 72 (.bool true), tS 73 (undef), tS 74 (undef), tS 75 (undef), tS 76 (undef), tS 77 (undef), tS 78 (undef), tS 79 (undef), tS 80 (undef), tS 81 (undef), tS 82 (undef), tS 83 (undef), tS 84 (undef), tS 85 (.bool true)]) (D := [⟨[0], [], [6]⟩, ⟨[6, 4], [], [7]⟩, ⟨[7, 4], [], [8]⟩, ⟨[1], [], [9]⟩, ⟨[9, 3], [], [10]⟩, ⟨[10], [], [11]⟩, ⟨[1], [], [12]⟩, ⟨[12, 3], [], [13]⟩, ⟨[13], [], [14]⟩, ⟨[14], [], [15]⟩, ⟨[11, 15], [], [16]⟩, ⟨[8, 16], [], [17]⟩, ⟨[17], [], [18]⟩, ⟨[18], [], [19]⟩, ⟨[18], [], [20]⟩, ⟨[18], [], [21]⟩, ⟨[18], [], [22]⟩, ⟨[18], [], [23]⟩, ⟨[18], [], [24]⟩, ⟨[18], [], [25]⟩, ⟨[18], [], [26]⟩, ⟨[18], [], [27]⟩, ⟨[18], [], [28]⟩, ⟨[18], [], [29]⟩, ⟨[18], [], [30]⟩, ⟨[18, 30], [], [31]⟩, ⟨[31], [], [32]⟩, ⟨[32], [], [33]⟩, ⟨[32], [], [34]⟩, ⟨[32], [], [35]⟩, ⟨[32], [], [36]⟩, ⟨[32], [], [37]⟩, ⟨[32], [], [38]⟩, ⟨[32], [], [39]⟩, ⟨[32], [], [40]⟩, ⟨[32], [], [41]⟩, ⟨[32], [], [42]⟩, ⟨[32], [], [43]⟩, ⟨[32], [], [44]⟩, ⟨[32, 44], [], [45]⟩]) (ini := [0, 1, 2, 3, 4, 5]) (fin := [2, 45, 3, 4, 5]) (bf := [[], [0], [0, 1], [], [3], [3, 4], [], [6], [6, 7], [6, 7, 8], [3, 4, 5, 6, 7, 8, 9], [0, 1, 2, 3, 4, 5, 6, 7, 8, 9, 10], [0, 1, 2, 3, 4, 5, 6, 7, 8, 9, 10, 11], [0, 1, 2, 3, 4, 5, 6, 7, 8, 9, 10, 11, 12], [0, 1, 2, 3, 4, 5, 6, 7, 8, 9, 10, 11, 12, 13], [0, 1, 2, 3, 4, 5, 6, 7, 8, 9, 10, 11, 12, 13, 14], [0, 1, 2, 3, 4, 5, 6, 7, 8, 9, 10, 11, 12], [0, 1, 2, 3, 4, 5, 6, 7, 8, 9, 10, 11, 12, 16], [0, 1, 2, 3, 4, 5, 6, 7, 8, 9, 10, 11, 12, 16, 17], [0, 1, 2, 3, 4, 5, 6, 7, 8, 9, 10, 11, 12], [0, 1, 2, 3, 4, 5, 6, 7, 8, 9, 10, 11, 12, 19], [0, 1, 2, 3, 4, 5, 6, 7, 8, 9, 10, 11, 12, 19, 20], [0, 1, 2, 3, 4, 5, 6, 7, 8, 9, 10, 11, 12, 19, 20, 21], [0, 1, 2, 3, 4, 5, 6, 7, 8, 9, 10, 11, 12, 16, 17, 18, 19, 20, 21, 22], [0, 1, 2, 3, 4, 5, 6, 7, 8, 9, 10, 11, 12, 13, 14, 15, 16, 17, 18, 19, 20, 21, 22, 23], [0, 1, 2, 3, 4, 5, 6, 7, 8, 9, 10, 11, 12, 13, 14, 15, 16, 17, 18, 19, 20, 21, 22, 23, 24], [0, 1, 2, 3, 4, 5, 6, 7, 8, 9, 10, 11, 12, 13, 14, 15, 16, 17, 18, 19, 20, 21, 22, 23, 24, 25], [0, 1, 2, 3, 4, 5, 6, 7, 8, 9, 10, 11, 12, 13, 14, 15, 16, 17, 18, 19, 20, 21, 22, 23, 24, 25, 26], [0, 1, 2, 3, 4, 5, 6, 7, 8, 9, 10, 11, 12, 13, 14, 15, 16, 17, 18, 19, 20, 21, 22, 23, 24, 25, 26, 27], [0, 1, 2, 3, 4, 5, 6, 7, 8, 9, 10, 11, 12, 13, 14, 15, 16, 17, 18, 19, 20, 21, 22, 23, 24, 25, 26, 27, 28], [0, 1, 2, 3, 4, 5, 6, 7, 8, 9, 10, 11, 12, 13, 14, 15, 16, 17, 18, 19, 20, 21, 22, 23, 24, 25, 26], [0, 1, 2, 3, 4, 5, 6, 7, 8, 9, 10, 11, 12, 13, 14, 15, 16, 17, 18, 19, 20, 21, 22, 23, 24, 25, 26, 30], [0, 1, 2, 3, 4, 5, 6, 7, 8, 9, 10, 11, 12, 13, 14, 15, 16, 17, 18, 19, 20, 21, 22, 23, 24, 25, 26, 30, 31], [0, 1, 2, 3, 4, 5, 6, 7, 8, 9, 10, 11, 12, 13, 14, 15, 16, 17, 18, 19, 20, 21, 22, 23, 24, 25, 26], [0, 1, 2, 3, 4, 5, 6, 7, 8, 9, 10, 11, 12, 13, 14, 15, 16, 17, 18, 19, 20, 21, 22, 23, 24, 25, 26, 33], [0, 1, 2, 3, 4, 5, 6, 7, 8, 9, 10, 11, 12, 13, 14, 15, 16, 17, 18, 19, 20, 21, 22, 23, 24, 25, 26, 33, 34], [0, 1, 2, 3, 4, 5, 6, 7, 8, 9, 10, 11, 12, 13, 14, 15, 16, 17, 18, 19, 20, 21, 22, 23, 24, 25, 26, 33, 34, 35], [0, 1, 2, 3, 4, 5, 6, 7, 8, 9, 10, 11, 12, 13, 14, 15, 16, 17, 18, 19, 20, 21, 22, 23, 24, 25, 26, 30, 31, 32, 33, 34, 35, 36], [0, 1, 2, 3, 4, 5, 6, 7, 8, 9, 10, 11, 12, 13, 14, 15, 16, 17, 18, 19, 20, 21, 22, 23, 24, 25, 26, 27, 28, 29, 30, 31, 32, 33, 34, 35, 36, 37], [0, 1, 2, 3, 4, 5, 6, 7, 8, 9, 10, 11, 12, 13, 14, 15, 16, 17, 18, 19, 20, 21, 22, 23, 24, 25, 26, 27, 28, 29, 30, 31, 32, 33, 34, 35, 36, 37, 38]]) (by kernel_rfl) (by kernel_rfl) (fun x w h1 h2 => (.cons () (.cons () (.cons () (.cons () (.cons () (.cons () (.nil ⟨EnvAll.of h1 ⟨rfl, rfl, rfl, rfl, rfl, trivial⟩, h2⟩)))))))) (fun Q => by kernel_rfl) ⟨?_, ?_, ?_, ?_, ?_, ?_, ?_, ?_, ?_, ?_, ?_, ?_, ?_, ?_, ?_, ?_, ?_, ?_, ?_, ?_, ?_, ?_, ?_, ?_, ?_, ?_, ?_, ?_, ?_, ?_, ?_, ?_, ?_, ?_, ?_, ?_, ?_, ?_, ?_, ?_, trivial⟩ ?_
                · rintro Fr _
                  refine SO.v rfl (opv_move rfl) ?_
                  exact SO.nilZ fun a w h1 h2 h3 h4 h5 => PZ.of h1 h3 h5 (.cons () (.cons () (.nil ⟨EnvAll.of h2 ⟨rfl, rfl, trivial⟩, h4⟩)))
                · rintro Fr _ _
                  refine SO.v rfl (opv_idx Try.underlying26 Try.sizeOf27 hr11 rfl rfl hx21) ?_
                  exact SO.nilZ fun a w h1 h2 h3 h4 h5 => PZ.of h1 h3 h5 (.cons () (.cons () (.cons () (.nil ⟨EnvAll.of h2 ⟨rfl, rfl, trivial⟩, h4⟩))))
                · rintro Fr _ _
                  refine SO.loadI1 (j := 0) rfl Try.isAgg27 (Rd.head hr11) hx21 rfl rfl rfl rfl ?_
                  exact SO.nilZ fun a w h1 h2 h3 h4 h5 => PZ.of h1 h3 h5 (.cons () (.cons () (.cons () (.nil ⟨EnvAll.of h2 ⟨rfl, rfl, trivial⟩, h4⟩))))
                · rintro Fr _
                  refine SO.v rfl (opv_fieldAddr Try.underlying42 rfl Try.sizeOf3 rfl rfl) ?_
                  exact SO.nilZ fun a w h1 h2 h3 h4 h5 => PZ.of h1 h3 h5 (.cons () (.cons () (.nil ⟨EnvAll.of h2 ⟨rfl, rfl, trivial⟩, h4⟩)))
                · rintro Fr _ _
                  refine SO.load1 rfl Try.isAgg3 rfl rfl ?_
                  exact SO.nilZ fun a w h1 h2 h3 h4 h5 => PZ.of h1 h3 h5 (.cons () (.cons () (.cons () (.nil ⟨EnvAll.of h2 ⟨rfl, rfl, trivial⟩, h4⟩))))
                · rintro Fr _
                  refine SO.v rfl (opv_conv Try.underlying3 Try.underlying27 rfl) ?_
                  exact SO.nilZ fun a w h1 h2 h3 h4 h5 => PZ.of h1 h3 h5 (.cons () (.cons () (.nil ⟨EnvAll.of h2 ⟨rfl, rfl, trivial⟩, h4⟩)))
                · rintro Fr _
                  refine SO.v rfl (opv_fieldAddr Try.underlying42 rfl Try.sizeOf3 rfl rfl) ?_
                  exact SO.nilZ fun a w h1 h2 h3 h4 h5 => PZ.of h1 h3 h5 (.cons () (.cons () (.nil ⟨EnvAll.of h2 ⟨rfl, rfl, trivial⟩, h4⟩)))
                · rintro Fr _ _
                  refine SO.load1 rfl Try.isAgg3 rfl rfl ?_
                  exact SO.nilZ fun a w h1 h2 h3 h4 h5 => PZ.of h1 h3 h5 (.cons () (.cons () (.cons () (.nil ⟨EnvAll.of h2 ⟨rfl, rfl, trivial⟩, h4⟩))))
                · rintro Fr _
                  refine SO.v rfl (opv_conv Try.underlying3 Try.underlying27 rfl) ?_
                  exact SO.nilZ fun a w h1 h2 h3 h4 h5 => PZ.of h1 h3 h5 (.cons () (.cons () (.nil ⟨EnvAll.of h2 ⟨rfl, rfl, trivial⟩, h4⟩)))
                · rintro Fr _
                  refine SO.v rfl (opv_mul rfl rfl) ?_
                  exact SO.nilZ fun a w h1 h2 h3 h4 h5 => PZ.of h1 h3 h5 (.cons () (.cons () (.nil ⟨EnvAll.of h2 ⟨rfl, rfl, trivial⟩, h4⟩)))
                · rintro Fr _ _
                  refine SO.v rfl (opv_add rfl rfl) ?_
                  exact SO.nilZ fun a w h1 h2 h3 h4 h5 => PZ.of h1 h3 h5 (.cons () (.cons () (.cons () (.nil ⟨EnvAll.of h2 ⟨rfl, rfl, rfl, trivial⟩, h4⟩))))
                · rintro Fr _ _
                  refine SO.v rfl (opv_neq rfl rfl) ?_
                  exact SO.nilZ fun a w h1 h2 h3 h4 h5 => PZ.of h1 h3 h5 (.cons () (.cons () (.cons () (.nil ⟨EnvAll.of h2 ⟨rfl, rfl, rfl, trivial⟩, h4⟩))))
                · rintro Fr _
                  refine SO.v rfl (opv_move rfl) ?_
                  exact SO.nilZ fun a w h1 h2 h3 h4 h5 => PZ.of h1 h3 h5 (.cons () (.cons () (.nil ⟨EnvAll.of h2 ⟨rfl, rfl, trivial⟩, h4⟩)))
                · rintro Fr _
                  refine SO.passF rfl rfl rfl b22 rfl rfl ?_
                  exact SO.nilZ fun a w h1 h2 h3 h4 h5 => PZ.of h1 h3 h5 (.cons () (.cons () (.nil ⟨EnvAll.of h2 ⟨rfl, rfl, trivial⟩, h4⟩)))
                · rintro Fr _
                  refine SO.passF rfl rfl rfl b22 rfl rfl ?_
                  exact SO.nilZ fun a w h1 h2 h3 h4 h5 => PZ.of h1 h3 h5 (.cons () (.cons () (.nil ⟨EnvAll.of h2 ⟨rfl, rfl, trivial⟩, h4⟩)))
                · rintro Fr _
                  refine SO.passF rfl rfl rfl b22 rfl rfl ?_
                  exact SO.nilZ fun a w h1 h2 h3 h4 h5 => PZ.of h1 h3 h5 (.cons () (.cons () (.nil ⟨EnvAll.of h2 ⟨rfl, rfl, trivial⟩, h4⟩)))
                · rintro Fr _
                  refine SO.passF rfl rfl rfl b22 rfl rfl ?_
                  exact SO.nilZ fun a w h1 h2 h3 h4 h5 => PZ.of h1 h3 h5 (.cons () (.cons () (.nil ⟨EnvAll.of h2 ⟨rfl, rfl, trivial⟩, h4⟩)))
                · rintro Fr _
                  refine SO.passF rfl rfl rfl b22 rfl rfl ?_
                  exact SO.nilZ fun a w h1 h2 h3 h4 h5 => PZ.of h1 h3 h5 (.cons () (.cons () (.nil ⟨EnvAll.of h2 ⟨rfl, rfl, trivial⟩, h4⟩)))
                · rintro Fr _
                  refine SO.passF rfl rfl rfl b22 rfl rfl ?_
                  exact SO.nilZ fun a w h1 h2 h3 h4 h5 => PZ.of h1 h3 h5 (.cons () (.cons () (.nil ⟨EnvAll.of h2 ⟨rfl, rfl, trivial⟩, h4⟩)))
                · rintro Fr _
                  refine SO.passF rfl rfl rfl b22 rfl rfl ?_
                  exact SO.nilZ fun a w h1 h2 h3 h4 h5 => PZ.of h1 h3 h5 (.cons () (.cons () (.nil ⟨EnvAll.of h2 ⟨rfl, rfl, trivial⟩, h4⟩)))
                · rintro Fr _
                  refine SO.passF rfl rfl rfl b22 rfl rfl ?_
                  exact SO.nilZ fun a w h1 h2 h3 h4 h5 => PZ.of h1 h3 h5 (.cons () (.cons () (.nil ⟨EnvAll.of h2 ⟨rfl, rfl, trivial⟩, h4⟩)))
                · rintro Fr _
                  refine SO.passF rfl rfl rfl b22 rfl rfl ?_
                  exact SO.nilZ fun a w h1 h2 h3 h4 h5 => PZ.of h1 h3 h5 (.cons () (.cons () (.nil ⟨EnvAll.of h2 ⟨rfl, rfl, trivial⟩, h4⟩)))
                · rintro Fr _
                  refine SO.passF rfl rfl rfl b22 rfl rfl ?_
                  exact SO.nilZ fun a w h1 h2 h3 h4 h5 => PZ.of h1 h3 h5 (.cons () (.cons () (.nil ⟨EnvAll.of h2 ⟨rfl, rfl, trivial⟩, h4⟩)))
                · rintro Fr _
                  refine SO.passF rfl rfl rfl b22 rfl rfl ?_
                  exact SO.nilZ fun a w h1 h2 h3 h4 h5 => PZ.of h1 h3 h5 (.cons () (.cons () (.nil ⟨EnvAll.of h2 ⟨rfl, rfl, trivial⟩, h4⟩)))
                · rintro Fr _
                  refine SO.passF rfl rfl rfl b22 rfl rfl ?_
                  exact SO.nilZ fun a w h1 h2 h3 h4 h5 => PZ.of h1 h3 h5 (.cons () (.cons () (.nil ⟨EnvAll.of h2 ⟨rfl, rfl, trivial⟩, h4⟩)))
                · rintro Fr _ _
                  refine SO.v rfl (opv_pick_t' b22 rfl rfl) ?_
                  exact SO.nilZ fun a w h1 h2 h3 h4 h5 => PZ.of h1 h3 h5 (.cons () (.cons () (.cons () (.nil ⟨EnvAll.of h2 ⟨rfl, rfl, rfl, trivial⟩, h4⟩))))
                · rintro Fr _
                  refine SO.v rfl (opv_move rfl) ?_
                  exact SO.nilZ fun a w h1 h2 h3 h4 h5 => PZ.of h1 h3 h5 (.cons () (.cons () (.nil ⟨EnvAll.of h2 ⟨rfl, rfl, trivial⟩, h4⟩)))
                · rintro Fr _
                  refine SO.passF rfl rfl rfl rfl rfl rfl ?_
                  exact SO.nilZ fun a w h1 h2 h3 h4 h5 => PZ.of h1 h3 h5 (.cons () (.cons () (.nil ⟨EnvAll.of h2 ⟨rfl, rfl, trivial⟩, h4⟩)))
                · rintro Fr _
                  refine SO.passF rfl rfl rfl rfl rfl rfl ?_
                  exact SO.nilZ fun a w h1 h2 h3 h4 h5 => PZ.of h1 h3 h5 (.cons () (.cons () (.nil ⟨EnvAll.of h2 ⟨rfl, rfl, trivial⟩, h4⟩)))
                · rintro Fr _
                  refine SO.passF rfl rfl rfl rfl rfl rfl ?_
                  exact SO.nilZ fun a w h1 h2 h3 h4 h5 => PZ.of h1 h3 h5 (.cons () (.cons () (.nil ⟨EnvAll.of h2 ⟨rfl, rfl, trivial⟩, h4⟩)))
                · rintro Fr _
                  refine SO.passF rfl rfl rfl rfl rfl rfl ?_
                  exact SO.nilZ fun a w h1 h2 h3 h4 h5 => PZ.of h1 h3 h5 (.cons () (.cons () (.nil ⟨EnvAll.of h2 ⟨rfl, rfl, trivial⟩, h4⟩)))
                · rintro Fr _
                  refine SO.passF rfl rfl rfl rfl rfl rfl ?_
                  exact SO.nilZ fun a w h1 h2 h3 h4 h5 => PZ.of h1 h3 h5 (.cons () (.cons () (.nil ⟨EnvAll.of h2 ⟨rfl, rfl, trivial⟩, h4⟩)))
                · rintro Fr _
                  refine SO.passF rfl rfl rfl rfl rfl rfl ?_
                  exact SO.nilZ fun a w h1 h2 h3 h4 h5 => PZ.of h1 h3 h5 (.cons () (.cons () (.nil ⟨EnvAll.of h2 ⟨rfl, rfl, trivial⟩, h4⟩)))
                · rintro Fr _
                  refine SO.passF rfl rfl rfl rfl rfl rfl ?_
                  exact SO.nilZ fun a w h1 h2 h3 h4 h5 => PZ.of h1 h3 h5 (.cons () (.cons () (.nil ⟨EnvAll.of h2 ⟨rfl, rfl, trivial⟩, h4⟩)))
                · rintro Fr _
                  refine SO.passF rfl rfl rfl rfl rfl rfl ?_
                  exact SO.nilZ fun a w h1 h2 h3 h4 h5 => PZ.of h1 h3 h5 (.cons () (.cons () (.nil ⟨EnvAll.of h2 ⟨rfl, rfl, trivial⟩, h4⟩)))
                · rintro Fr _
                  refine SO.passF rfl rfl rfl rfl rfl rfl ?_
                  exact SO.nilZ fun a w h1 h2 h3 h4 h5 => PZ.of h1 h3 h5 (.cons () (.cons () (.nil ⟨EnvAll.of h2 ⟨rfl, rfl, trivial⟩, h4⟩)))
                · rintro Fr _
                  refine SO.passF rfl rfl rfl rfl rfl rfl ?_
                  exact SO.nilZ fun a w h1 h2 h3 h4 h5 => PZ.of h1 h3 h5 (.cons () (.cons () (.nil ⟨EnvAll.of h2 ⟨rfl, rfl, trivial⟩, h4⟩)))
                · rintro Fr _
                  refine SO.passF rfl rfl rfl rfl rfl rfl ?_
                  exact SO.nilZ fun a w h1 h2 h3 h4 h5 => PZ.of h1 h3 h5 (.cons () (.cons () (.nil ⟨EnvAll.of h2 ⟨rfl, rfl, trivial⟩, h4⟩)))
                · rintro Fr _
                  refine SO.passF rfl rfl rfl rfl rfl rfl ?_
                  exact SO.nilZ fun a w h1 h2 h3 h4 h5 => PZ.of h1 h3 h5 (.cons () (.cons () (.nil ⟨EnvAll.of h2 ⟨rfl, rfl, trivial⟩, h4⟩)))
                · rintro Fr _ _
                  refine SO.v rfl (opv_pick_tt rfl rfl) ?_
                  exact SO.nilZ fun a w h1 h2 h3 h4 h5 => PZ.of h1 h3 h5 (.cons () (.cons () (.cons () (.nil ⟨EnvAll.of h2 ⟨rfl, rfl, rfl, trivial⟩, h4⟩))))
                rintro _ _ _ _ _
                refine S.to (ρ' := [(1, v1), (4, .bool false), (5, .bool t2), (85, .bool true)]) ⟨rfl, rfl, rfl, rfl, trivial⟩ ?_
                cases h
                refine S.b2 ?_
                refine S.b2 ?_
                refine S.b2 ?_
                refine S.to ?_ (hk2 () trivial)
                exact ⟨rfl, rfl, rfl, rfl, trivial⟩
              · replace h := cond_f b22 h
                obtain ⟨x23, hx24, h⟩ := opt_bind h
                rcases bool_or (x23 != (wu64 ((wu64 a0.A) + (wu64 (4294967296 * (wu64 a0.B)))))) with b25 | b25
                · replace h := cond_t b25 h
                  refine S.draw' (Z := fun Q => ∀ (_ : Unit) (_ : Unit) (_ : Unit) (_ : Unit) (_ : Unit), Q [(1, v1), (4, .bool false), (5, .bool t2), (85, .bool true)] [Box b1 [.int .i64 a0.Op, .int .i64 a0.Cap, .int .i64 a0.A, .int .i64 a0.B, .int .i64 a0.C, .int .i64 a0.D], Own 27 (ekI .u64) v10 t7, F]) (T := [tS 7 (v10), tS 2 (bp b1 0), tE [(1, v1), (4, .bool false), (5, .bool t2)], tR (Box b1 [.int .i64 a0.Op, .int .i64 a0.Cap, .int .i64 a0.A, .int .i64 a0.B, .int .i64 a0.C, .int .i64 a0.D]), tR (Own 27 (ekI .u64) v10 t7), tR (F), tS 46 (v10), tS 47 (idxp v10 ((0 : Int).toNat * (ekI .u64).sz)), tS 48 (.int .u64 x20), tS 49 (bp b1 0), tS 50 (.int .i64 a0.Op), tS 51 (.int .u64 (wu64 a0.Op)), tS 52 (bp b1 1), tS 53 (.int .i64 a0.Cap), tS 54 (.int .u64 (wu64 a0.Cap)), tS 55 (.int .u64 (wu64 (256 * (wu64 a0.Cap)))), tS 56 (.int .u64 (wu64 ((wu64 a0.Op) + (wu64 (256 * (wu64 a0.Cap)))))), tS 57 (.bool (x20 != (wu64 ((wu64 a0.Op) + (wu64 (256 * (wu64 a0.Cap))))))), tS 58 (.bool (x20 != (wu64 ((wu64 a0.Op) + (wu64 (256 * (wu64 a0.Cap))))))), tS 59 (v10), tS 60 (idxp v10 ((1 : Int).toNat * (ekI .u64).sz)), tS 61 (.int .u64 x23), tS 62 (bp b1 2), tS 63 (.int .i64 a0.A), tS 64 (.int .u64 (wu64 a0.A)), tS 65 (bp b1 3), tS 66 (.int .i64 a0.B), tS 67 (.int .u64 (wu64 a0.B)), tS 68 (.int .u64 (wu64 (4294967296 * (wu64 a0.B)))), tS 69 (.int .u64 (wu64 ((wu64 a0.A) + (wu64 (4294967296 * (wu64 a0.B)))))), tS 70 (.bool (x23 != (wu64 ((wu64 a0.A) + (wu64 (4294967296 * (wu64 a0.B))))))), tS 71 (.bool (x23 != (wu64 ((wu64 a0.A) + (wu64 (4294967296 * (wu64 a0.B))))))), tS 72 (.bool (x23 != (wu64 ((wu64 a0.A) + (wu64 (4294967296 * (wu64 a0.B))))))), tS 73 (undef), tS 74 (undef), tS 75 (undef), tS 76 (undef), tS 77 (undef), tS 78 (undef), tS 79 (undef), tS 80 (undef), tS 81 (undef), tS 82 (undef), tS 83 (undef), tS 84 (undef), tS 85 (.bool true)]) (D := [⟨[0], [], [6]⟩, ⟨[6, 4], [], [7]⟩, ⟨[7, 4], [], [8]⟩, ⟨[1], [], [9]⟩, ⟨[9, 3], [], [10]⟩, ⟨[10], [], [11]⟩, ⟨[1], [], [12]⟩, ⟨[12, 3], [], [13]⟩, ⟨[13], [], [14]⟩, ⟨[14], [], [15]⟩, ⟨[11, 15], [], [16]⟩, ⟨[8, 16], [], [17]⟩, ⟨[17], [], [18]⟩, ⟨[0, 18], [], [19]⟩, ⟨[18, 19, 4], [], [20]⟩, ⟨[18, 20, 4], [], [21]⟩, ⟨[1, 18], [], [22]⟩, ⟨[18, 22, 3], [], [23]⟩, ⟨[18, 23], [], [24]⟩, ⟨[1, 18], [], [25]⟩, ⟨[18, 25, 3], [], [26]⟩, ⟨[18, 26], [], [27]⟩, ⟨[18, 27], [], [28]⟩, ⟨[18, 24, 28], [], [29]⟩, ⟨[18, 21, 29], [], [30]⟩, ⟨[18, 30], [], [31]⟩, ⟨[31], [], [32]⟩, ⟨[32], [], [33]⟩, ⟨[32], [], [34]⟩, ⟨[32], [], [35]⟩, ⟨[32], [], [36]⟩, ⟨[32], [], [37]⟩, ⟨[32], [], [38]⟩, ⟨[32], [], [39]⟩, ⟨[32], [], [40]⟩, ⟨[32], [], [41]⟩, ⟨[32], [], [42]⟩, ⟨[32], [], [43]⟩, ⟨[32], [], [44]⟩, ⟨[32, 44], [], [45]⟩]) (ini := [0, 1, 2, 3, 4, 5]) (fin := [2, 45, 3, 4, 5]) (bf := [[], [0], [0, 1], [], [3], [3, 4], [], [6], [6, 7], [6, 7, 8], [3, 4, 5, 6, 7, 8, 9], [0, 1, 2, 3, 4, 5, 6, 7, 8, 9, 10], [0, 1, 2, 3, 4, 5, 6, 7, 8, 9, 10, 11], [0, 1, 2, 3, 4, 5, 6, 7, 8, 9, 10, 11, 12], [0, 1, 2, 3, 4, 5, 6, 7, 8, 9, 10, 11, 12, 13], [0, 1, 2, 3, 4, 5, 6, 7, 8, 9, 10, 11, 12, 13, 14], [0, 1, 2, 3, 4, 5, 6, 7, 8, 9, 10, 11, 12], [0, 1, 2, 3, 4, 5, 6, 7, 8, 9, 10, 11, 12, 16], [0, 1, 2, 3, 4, 5, 6, 7, 8, 9, 10, 11, 12, 16, 17], [0, 1, 2, 3, 4, 5, 6, 7, 8, 9, 10, 11, 12], [0, 1, 2, 3, 4, 5, 6, 7, 8, 9, 10, 11, 12, 19], [0, 1, 2, 3, 4, 5, 6, 7, 8, 9, 10, 11, 12, 19, 20], [0, 1, 2, 3, 4, 5, 6, 7, 8, 9, 10, 11, 12, 19, 20, 21], [0, 1, 2, 3, 4, 5, 6, 7, 8, 9, 10, 11, 12, 16, 17, 18, 19, 20, 21, 22], [0, 1, 2, 3, 4, 5, 6, 7, 8, 9, 10, 11, 12, 13, 14, 15, 16, 17, 18, 19, 20, 21, 22, 23], [0, 1, 2, 3, 4, 5, 6, 7, 8, 9, 10, 11, 12, 13, 14, 15, 16, 17, 18, 19, 20, 21, 22, 23, 24], [0, 1, 2, 3, 4, 5, 6, 7, 8, 9, 10, 11, 12, 13, 14, 15, 16, 17, 18, 19, 20, 21, 22, 23, 24, 25], [0, 1, 2, 3, 4, 5, 6, 7, 8, 9, 10, 11, 12, 13, 14, 15, 16, 17, 18, 19, 20, 21, 22, 23, 24, 25, 26], [0, 1, 2, 3, 4, 5, 6, 7, 8, 9, 10, 11, 12, 13, 14, 15, 16, 17, 18, 19, 20, 21, 22, 23, 24, 25, 26, 27], [0, 1, 2, 3, 4, 5, 6, 7, 8, 9, 10, 11, 12, 13, 14, 15, 16, 17, 18, 19, 20, 21, 22, 23, 24, 25, 26, 27, 28], [0, 1, 2, 3, 4, 5, 6, 7, 8, 9, 10, 11, 12, 13, 14, 15, 16, 17, 18, 19, 20, 21, 22, 23, 24, 25, 26], [0, 1, 2, 3, 4, 5, 6, 7, 8, 9, 10, 11, 12, 13, 14, 15, 16, 17, 18, 19, 20, 21, 22, 23, 24, 25, 26, 30], [0, 1, 2, 3, 4, 5, 6, 7, 8, 9, 10, 11, 12, 13, 14, 15, 16, 17, 18, 19, 20, 21, 22, 23, 24, 25, 26, 30, 31], [0, 1, 2, 3, 4, 5, 6, 7, 8, 9, 10, 11, 12, 13, 14, 15, 16, 17, 18, 19, 20, 21, 22, 23, 24, 25, 26], [0, 1, 2, 3, 4, 5, 6, 7, 8, 9, 10, 11, 12, 13, 14, 15, 16, 17, 18, 19, 20, 21, 22, 23, 24, 25, 26, 33], [0, 1, 2, 3, 4, 5, 6, 7, 8, 9, 10, 11, 12, 13, 14, 15, 16, 17, 18, 19, 20, 21, 22, 23, 24, 25, 26, 33, 34], [0, 1, 2, 3, 4, 5, 6, 7, 8, 9, 10, 11, 12, 13, 14, 15, 16, 17, 18, 19, 20, 21, 22, 23, 24, 25, 26, 33, 34, 35], [0, 1, 2, 3, 4, 5, 6, 7, 8, 9, 10, 11, 12, 13, 14, 15, 16, 17, 18, 19, 20, 21, 22, 23, 24, 25, 26, 30, 31, 32, 33, 34, 35, 36], [0, 1, 2, 3, 4, 5, 6, 7, 8, 9, 10, 11, 12, 13, 14, 15, 16, 17, 18, 19, 20, 21, 22, 23, 24, 25, 26, 27, 28, 29, 30, 31, 32, 33, 34, 35, 36, 37], [0, 1, 2, 3, 4, 5, 6, 7, 8, 9, 10, 11, 12, 13, 14, 15, 16, 17, 18, 19, 20, 21, 22, 23, 24, 25, 26, 27, 28, 29, 30, 31, 32, 33, 34, 35, 36, 37, 38]]) (by kernel_rfl) (by kernel_rfl) (fun x w h1 h2 => (.cons () (.cons () (.cons () (.cons () (.cons () (.cons () (.nil ⟨EnvAll.of h1 ⟨rfl, rfl, rfl, rfl, rfl, trivial⟩, h2⟩)))))))) (fun Q => by kernel_rfl) ⟨?_, ?_, ?_, ?_, ?_, ?_, ?_, ?_, ?_, ?_, ?_, ?_, ?_, ?_, ?_, ?_, ?_, ?_, ?_, ?_, ?_, ?_, ?_, ?_, ?_, ?_, ?_, ?_, ?_, ?_, ?_, ?_, ?_, ?_, ?_, ?_, ?_, ?_, ?_, ?_, trivial⟩ ?_
                  · rintro Fr _
                    refine SO.v rfl (opv_move rfl) ?_
                    exact SO.nilZ fun a w h1 h2 h3 h4 h5 => PZ.of h1 h3 h5 (.cons () (.cons () (.nil ⟨EnvAll.of h2 ⟨rfl, rfl, trivial⟩, h4⟩)))
                  · rintro Fr _ _
                    refine SO.v rfl (opv_idx Try.underlying26 Try.sizeOf27 hr11 rfl rfl hx21) ?_
                    exact SO.nilZ fun a w h1 h2 h3 h4 h5 => PZ.of h1 h3 h5 (.cons () (.cons () (.cons () (.nil ⟨EnvAll.of h2 ⟨rfl, rfl, trivial⟩, h4⟩))))
                  · rintro Fr _ _
                    refine SO.loadI1 (j := 0) rfl Try.isAgg27 (Rd.head hr11) hx21 rfl rfl rfl rfl ?_
                    exact SO.nilZ fun a w h1 h2 h3 h4 h5 => PZ.of h1 h3 h5 (.cons () (.cons () (.cons () (.nil ⟨EnvAll.of h2 ⟨rfl, rfl, trivial⟩, h4⟩))))
                  · rintro Fr _
                    refine SO.v rfl (opv_fieldAddr Try.underlying42 rfl Try.sizeOf3 rfl rfl) ?_
                    exact SO.nilZ fun a w h1 h2 h3 h4 h5 => PZ.of h1 h3 h5 (.cons () (.cons () (.nil ⟨EnvAll.of h2 ⟨rfl, rfl, trivial⟩, h4⟩)))
                  · rintro Fr _ _
                    refine SO.load1 rfl Try.isAgg3 rfl rfl ?_
                    exact SO.nilZ fun a w h1 h2 h3 h4 h5 => PZ.of h1 h3 h5 (.cons () (.cons () (.cons () (.nil ⟨EnvAll.of h2 ⟨rfl, rfl, trivial⟩, h4⟩))))
                  · rintro Fr _
                    refine SO.v rfl (opv_conv Try.underlying3 Try.underlying27 rfl) ?_
                    exact SO.nilZ fun a w h1 h2 h3 h4 h5 => PZ.of h1 h3 h5 (.cons () (.cons () (.nil ⟨EnvAll.of h2 ⟨rfl, rfl, trivial⟩, h4⟩)))
                  · rintro Fr _
                    refine SO.v rfl (opv_fieldAddr Try.underlying42 rfl Try.sizeOf3 rfl rfl) ?_
                    exact SO.nilZ fun a w h1 h2 h3 h4 h5 => PZ.of h1 h3 h5 (.cons () (.cons () (.nil ⟨EnvAll.of h2 ⟨rfl, rfl, trivial⟩, h4⟩)))
                  · rintro Fr _ _
                    refine SO.load1 rfl Try.isAgg3 rfl rfl ?_
                    exact SO.nilZ fun a w h1 h2 h3 h4 h5 => PZ.of h1 h3 h5 (.cons () (.cons () (.cons () (.nil ⟨EnvAll.of h2 ⟨rfl, rfl, trivial⟩, h4⟩))))
                  · rintro Fr _
                    refine SO.v rfl (opv_conv Try.underlying3 Try.underlying27 rfl) ?_
                    exact SO.nilZ fun a w h1 h2 h3 h4 h5 => PZ.of h1 h3 h5 (.cons () (.cons () (.nil ⟨EnvAll.of h2 ⟨rfl, rfl, trivial⟩, h4⟩)))
                  · rintro Fr _
                    refine SO.v rfl (opv_mul rfl rfl) ?_
                    exact SO.nilZ fun a w h1 h2 h3 h4 h5 => PZ.of h1 h3 h5 (.cons () (.cons () (.nil ⟨EnvAll.of h2 ⟨rfl, rfl, trivial⟩, h4⟩)))
                  · rintro Fr _ _
                    refine SO.v rfl (opv_add rfl rfl) ?_
                    exact SO.nilZ fun a w h1 h2 h3 h4 h5 => PZ.of h1 h3 h5 (.cons () (.cons () (.cons () (.nil ⟨EnvAll.of h2 ⟨rfl, rfl, rfl, trivial⟩, h4⟩))))
                  · rintro Fr _ _
                    refine SO.v rfl (opv_neq rfl rfl) ?_
                    exact SO.nilZ fun a w h1 h2 h3 h4 h5 => PZ.of h1 h3 h5 (.cons () (.cons () (.cons () (.nil ⟨EnvAll.of h2 ⟨rfl, rfl, rfl, trivial⟩, h4⟩))))
                  · rintro Fr _
                    refine SO.v rfl (opv_move rfl) ?_
                    exact SO.nilZ fun a w h1 h2 h3 h4 h5 => PZ.of h1 h3 h5 (.cons () (.cons () (.nil ⟨EnvAll.of h2 ⟨rfl, rfl, trivial⟩, h4⟩)))
                  · rintro Fr _ _
                    refine SO.takeT rfl rfl rfl b22 ?_
                    refine SO.v rfl (opv_move rfl) ?_
                    exact SO.nilZ fun a w h1 h2 h3 h4 h5 => PZ.of h1 h3 h5 (.cons () (.cons () (.cons () (.nil ⟨EnvAll.of h2 ⟨rfl, rfl, rfl, trivial⟩, h4⟩))))
                  · rintro Fr _ _ _
                    refine SO.takeT rfl rfl rfl b22 ?_
                    refine SO.v rfl (opv_idx Try.underlying26 Try.sizeOf27 hr11 rfl rfl hx24) ?_
                    exact SO.nilZ fun a w h1 h2 h3 h4 h5 => PZ.of h1 h3 h5 (.cons () (.cons () (.cons () (.cons () (.nil ⟨EnvAll.of h2 ⟨rfl, rfl, rfl, trivial⟩, h4⟩)))))
                  · rintro Fr _ _ _
                    refine SO.takeT rfl rfl rfl b22 ?_
                    refine SO.loadI1 (j := 0) rfl Try.isAgg27 (Rd.head hr11) hx24 rfl rfl rfl rfl ?_
                    exact SO.nilZ fun a w h1 h2 h3 h4 h5 => PZ.of h1 h3 h5 (.cons () (.cons () (.cons () (.cons () (.nil ⟨EnvAll.of h2 ⟨rfl, rfl, rfl, trivial⟩, h4⟩)))))
                  · rintro Fr _ _
                    refine SO.takeT rfl rfl rfl b22 ?_
                    refine SO.v rfl (opv_fieldAddr Try.underlying42 rfl Try.sizeOf3 rfl rfl) ?_
                    exact SO.nilZ fun a w h1 h2 h3 h4 h5 => PZ.of h1 h3 h5 (.cons () (.cons () (.cons () (.nil ⟨EnvAll.of h2 ⟨rfl, rfl, rfl, trivial⟩, h4⟩))))
                  · rintro Fr _ _ _
                    refine SO.takeT rfl rfl rfl b22 ?_
                    refine SO.load1 rfl Try.isAgg3 rfl rfl ?_
                    exact SO.nilZ fun a w h1 h2 h3 h4 h5 => PZ.of h1 h3 h5 (.cons () (.cons () (.cons () (.cons () (.nil ⟨EnvAll.of h2 ⟨rfl, rfl, rfl, trivial⟩, h4⟩)))))
                  · rintro Fr _ _
                    refine SO.takeT rfl rfl rfl b22 ?_
                    refine SO.v rfl (opv_conv Try.underlying3 Try.underlying27 rfl) ?_
                    exact SO.nilZ fun a w h1 h2 h3 h4 h5 => PZ.of h1 h3 h5 (.cons () (.cons () (.cons () (.nil ⟨EnvAll.of h2 ⟨rfl, rfl, rfl, trivial⟩, h4⟩))))
                  · rintro Fr _ _
                    refine SO.takeT rfl rfl rfl b22 ?_
                    refine SO.v rfl (opv_fieldAddr Try.underlying42 rfl Try.sizeOf3 rfl rfl) ?_
                    exact SO.nilZ fun a w h1 h2 h3 h4 h5 => PZ.of h1 h3 h5 (.cons () (.cons () (.cons () (.nil ⟨EnvAll.of h2 ⟨rfl, rfl, rfl, trivial⟩, h4⟩))))
                  · rintro Fr _ _ _
                    refine SO.takeT rfl rfl rfl b22 ?_
                    refine SO.load1 rfl Try.isAgg3 rfl rfl ?_
                    exact SO.nilZ fun a w h1 h2 h3 h4 h5 => PZ.of h1 h3 h5 (.cons () (.cons () (.cons () (.cons () (.nil ⟨EnvAll.of h2 ⟨rfl, rfl, rfl, trivial⟩, h4⟩)))))
                  · rintro Fr _ _
                    refine SO.takeT rfl rfl rfl b22 ?_
                    refine SO.v rfl (opv_conv Try.underlying3 Try.underlying27 rfl) ?_
                    exact SO.nilZ fun a w h1 h2 h3 h4 h5 => PZ.of h1 h3 h5 (.cons () (.cons () (.cons () (.nil ⟨EnvAll.of h2 ⟨rfl, rfl, rfl, trivial⟩, h4⟩))))
                  · rintro Fr _ _
                    refine SO.takeT rfl rfl rfl b22 ?_
                    refine SO.v rfl (opv_mul rfl rfl) ?_
                    exact SO.nilZ fun a w h1 h2 h3 h4 h5 => PZ.of h1 h3 h5 (.cons () (.cons () (.cons () (.nil ⟨EnvAll.of h2 ⟨rfl, rfl, rfl, trivial⟩, h4⟩))))
                  · rintro Fr _ _ _
                    refine SO.takeT rfl rfl rfl b22 ?_
                    refine SO.v rfl (opv_add rfl rfl) ?_
                    exact SO.nilZ fun a w h1 h2 h3 h4 h5 => PZ.of h1 h3 h5 (.cons () (.cons () (.cons () (.cons () (.nil ⟨EnvAll.of h2 ⟨rfl, rfl, rfl, rfl, trivial⟩, h4⟩)))))
                  · rintro Fr _ _ _
                    refine SO.takeT rfl rfl rfl b22 ?_
                    refine SO.v rfl (opv_neq rfl rfl) ?_
                    exact SO.nilZ fun a w h1 h2 h3 h4 h5 => PZ.of h1 h3 h5 (.cons () (.cons () (.cons () (.cons () (.nil ⟨EnvAll.of h2 ⟨rfl, rfl, rfl, rfl, trivial⟩, h4⟩)))))
                  · rintro Fr _ _
                    refine SO.v rfl (opv_pick_f' b22 rfl rfl) ?_
                    exact SO.nilZ fun a w h1 h2 h3 h4 h5 => PZ.of h1 h3 h5 (.cons () (.cons () (.cons () (.nil ⟨EnvAll.of h2 ⟨rfl, rfl, rfl, trivial⟩, h4⟩))))
                  · rintro Fr _
                    refine SO.v rfl (opv_move rfl) ?_
                    exact SO.nilZ fun a w h1 h2 h3 h4 h5 => PZ.of h1 h3 h5 (.cons () (.cons () (.nil ⟨EnvAll.of h2 ⟨rfl, rfl, trivial⟩, h4⟩)))
                  · rintro Fr _
                    refine SO.passF rfl rfl rfl b25 rfl rfl ?_
                    exact SO.nilZ fun a w h1 h2 h3 h4 h5 => PZ.of h1 h3 h5 (.cons () (.cons () (.nil ⟨EnvAll.of h2 ⟨rfl, rfl, trivial⟩, h4⟩)))
                  · rintro Fr _
                    refine SO.passF rfl rfl rfl b25 rfl rfl ?_
                    exact SO.nilZ fun a w h1 h2 h3 h4 h5 => PZ.of h1 h3 h5 (.cons () (.cons () (.nil ⟨EnvAll.of h2 ⟨rfl, rfl, trivial⟩, h4⟩)))
                  · rintro Fr _
                    refine SO.passF rfl rfl rfl b25 rfl rfl ?_
                    exact SO.nilZ fun a w h1 h2 h3 h4 h5 => PZ.of h1 h3 h5 (.cons () (.cons () (.nil ⟨EnvAll.of h2 ⟨rfl, rfl, trivial⟩, h4⟩)))
                  · rintro Fr _
                    refine SO.passF rfl rfl rfl b25 rfl rfl ?_
                    exact SO.nilZ fun a w h1 h2 h3 h4 h5 => PZ.of h1 h3 h5 (.cons () (.cons () (.nil ⟨EnvAll.of h2 ⟨rfl, rfl, trivial⟩, h4⟩)))
                  · rintro Fr _
                    refine SO.passF rfl rfl rfl b25 rfl rfl ?_
                    exact SO.nilZ fun a w h1 h2 h3 h4 h5 => PZ.of h1 h3 h5 (.cons () (.cons () (.nil ⟨EnvAll.of h2 ⟨rfl, rfl, trivial⟩, h4⟩)))
                  · rintro Fr _
                    refine SO.passF rfl rfl rfl b25 rfl rfl ?_
                    exact SO.nilZ fun a w h1 h2 h3 h4 h5 => PZ.of h1 h3 h5 (.cons () (.cons () (.nil ⟨EnvAll.of h2 ⟨rfl, rfl, trivial⟩, h4⟩)))
                  · rintro Fr _
                    refine SO.passF rfl rfl rfl b25 rfl rfl ?_
                    exact SO.nilZ fun a w h1 h2 h3 h4 h5 => PZ.of h1 h3 h5 (.cons () (.cons () (.nil ⟨EnvAll.of h2 ⟨rfl, rfl, trivial⟩, h4⟩)))
                  · rintro Fr _
                    refine SO.passF rfl rfl rfl b25 rfl rfl ?_
                    exact SO.nilZ fun a w h1 h2 h3 h4 h5 => PZ.of h1 h3 h5 (.cons () (.cons () (.nil ⟨EnvAll.of h2 ⟨rfl, rfl, trivial⟩, h4⟩)))
                  · rintro Fr _
                    refine SO.passF rfl rfl rfl b25 rfl rfl ?_
                    exact SO.nilZ fun a w h1 h2 h3 h4 h5 => PZ.of h1 h3 h5 (.cons () (.cons () (.nil ⟨EnvAll.of h2 ⟨rfl, rfl, trivial⟩, h4⟩)))
                  · rintro Fr _
                    refine SO.passF rfl rfl rfl b25 rfl rfl ?_
                    exact SO.nilZ fun a w h1 h2 h3 h4 h5 => PZ.of h1 h3 h5 (.cons () (.cons () (.nil ⟨EnvAll.of h2 ⟨rfl, rfl, trivial⟩, h4⟩)))
                  · rintro Fr _
                    refine SO.passF rfl rfl rfl b25 rfl rfl ?_
                    exact SO.nilZ fun a w h1 h2 h3 h4 h5 => PZ.of h1 h3 h5 (.cons () (.cons () (.nil ⟨EnvAll.of h2 ⟨rfl, rfl, trivial⟩, h4⟩)))
                  · rintro Fr _
                    refine SO.passF rfl rfl rfl b25 rfl rfl ?_
                    exact SO.nilZ fun a w h1 h2 h3 h4 h5 => PZ.of h1 h3 h5 (.cons () (.cons () (.nil ⟨EnvAll.of h2 ⟨rfl, rfl, trivial⟩, h4⟩)))
                  · rintro Fr _ _
                    refine SO.v rfl (opv_pick_t' b25 rfl rfl) ?_
                    exact SO.nilZ fun a w h1 h2 h3 h4 h5 => PZ.of h1 h3 h5 (.cons () (.cons () (.cons () (.nil ⟨EnvAll.of h2 ⟨rfl, rfl, rfl, trivial⟩, h4⟩))))
                  rintro _ _ _ _ _
                  refine S.to (ρ' := [(1, v1), (4, .bool false), (5, .bool t2), (85, .bool true)]) ⟨rfl, rfl, rfl, rfl, trivial⟩ ?_
                  cases h
                  refine S.b2 ?_
                  refine S.b2 ?_
                  refine S.b2 ?_
                  refine S.to ?_ (hk2 () trivial)
                  exact ⟨rfl, rfl, rfl, rfl, trivial⟩
                · replace h := cond_f b25 h
                  obtain ⟨x26, hx27, h⟩ := opt_bind h
                  refine S.draw' (Z := fun Q => ∀ (_ : Unit) (_ : Unit) (_ : Unit) (_ : Unit) (_ : Unit), Q [(1, v1), (4, .bool false), (5, .bool t2), (85, .bool (x26 != (wu64 ((wu64 a0.C) + (wu64 (4294967296 * (wu64 a0.D)))))))] [Box b1 [.int .i64 a0.Op, .int .i64 a0.Cap, .int .i64 a0.A, .int .i64 a0.B, .int .i64 a0.C, .int .i64 a0.D], Own 27 (ekI .u64) v10 t7, F]) (T := [tS 7 (v10), tS 2 (bp b1 0), tE [(1, v1), (4, .bool false), (5, .bool t2)], tR (Box b1 [.int .i64 a0.Op, .int .i64 a0.Cap, .int .i64 a0.A, .int .i64 a0.B, .int .i64 a0.C, .int .i64 a0.D]), tR (Own 27 (ekI .u64) v10 t7), tR (F), tS 46 (v10), tS 47 (idxp v10 ((0 : Int).toNat * (ekI .u64).sz)), tS 48 (.int .u64 x20), tS 49 (bp b1 0), tS 50 (.int .i64 a0.Op), tS 51 (.int .u64 (wu64 a0.Op)), tS 52 (bp b1 1), tS 53 (.int .i64 a0.Cap), tS 54 (.int .u64 (wu64 a0.Cap)), tS 55 (.int .u64 (wu64 (256 * (wu64 a0.Cap)))), tS 56 (.int .u64 (wu64 ((wu64 a0.Op) + (wu64 (256 * (wu64 a0.Cap)))))), tS 57 (.bool (x20 != (wu64 ((wu64 a0.Op) + (wu64 (256 * (wu64 a0.Cap))))))), tS 58 (.bool (x20 != (wu64 ((wu64 a0.Op) + (wu64 (256 * (wu64 a0.Cap))))))), tS 59 (v10), tS 60 (idxp v10 ((1 : Int).toNat * (ekI .u64).sz)), tS 61 (.int .u64 x23), tS 62 (bp b1 2), tS 63 (.int .i64 a0.A), tS 64 (.int .u64 (wu64 a0.A)), tS 65 (bp b1 3), tS 66 (.int .i64 a0.B), tS 67 (.int .u64 (wu64 a0.B)), tS 68 (.int .u64 (wu64 (4294967296 * (wu64 a0.B)))), tS 69 (.int .u64 (wu64 ((wu64 a0.A) + (wu64 (4294967296 * (wu64 a0.B)))))), tS 70 (.bool (x23 != (wu64 ((wu64 a0.A) + (wu64 (4294967296 * (wu64 a0.B))))))), tS 71 (.bool (x23 != (wu64 ((wu64 a0.A) + (wu64 (4294967296 * (wu64 a0.B))))))), tS 72 (.bool (x23 != (wu64 ((wu64 a0.A) + (wu64 (4294967296 * (wu64 a0.B))))))), tS 73 (v10), tS 74 (idxp v10 ((2 : Int).toNat * (ekI .u64).sz)), tS 75 (.int .u64 x26), tS 76 (bp b1 4), tS 77 (.int .i64 a0.C), tS 78 (.int .u64 (wu64 a0.C)), tS 79 (bp b1 5), tS 80 (.int .i64 a0.D), tS 81 (.int .u64 (wu64 a0.D)), tS 82 (.int .u64 (wu64 (4294967296 * (wu64 a0.D)))), tS 83 (.int .u64 (wu64 ((wu64 a0.C) + (wu64 (4294967296 * (wu64 a0.D)))))), tS 84 (.bool (x26 != (wu64 ((wu64 a0.C) + (wu64 (4294967296 * (wu64 a0.D))))))), tS 85 (.bool (x26 != (wu64 ((wu64 a0.C) + (wu64 (4294967296 * (wu64 a0.D)))))))]) (D := [⟨[0], [], [6]⟩, ⟨[6, 4], [], [7]⟩, ⟨[7, 4], [], [8]⟩, ⟨[1], [], [9]⟩, ⟨[9, 3], [], [10]⟩, ⟨[10], [], [11]⟩, ⟨[1], [], [12]⟩, ⟨[12, 3], [], [13]⟩, ⟨[13], [], [14]⟩, ⟨[14], [], [15]⟩, ⟨[11, 15], [], [16]⟩, ⟨[8, 16], [], [17]⟩, ⟨[17], [], [18]⟩, ⟨[0, 18], [], [19]⟩, ⟨[18, 19, 4], [], [20]⟩, ⟨[18, 20, 4], [], [21]⟩, ⟨[1, 18], [], [22]⟩, ⟨[18, 22, 3], [], [23]⟩, ⟨[18, 23], [], [24]⟩, ⟨[1, 18], [], [25]⟩, ⟨[18, 25, 3], [], [26]⟩, ⟨[18, 26], [], [27]⟩, ⟨[18, 27], [], [28]⟩, ⟨[18, 24, 28], [], [29]⟩, ⟨[18, 21, 29], [], [30]⟩, ⟨[18, 30], [], [31]⟩, ⟨[31], [], [32]⟩, ⟨[0, 32], [], [33]⟩, ⟨[32, 33, 4], [], [34]⟩, ⟨[32, 34, 4], [], [35]⟩, ⟨[1, 32], [], [36]⟩, ⟨[32, 36, 3], [], [37]⟩, ⟨[32, 37], [], [38]⟩, ⟨[1, 32], [], [39]⟩, ⟨[32, 39, 3], [], [40]⟩, ⟨[32, 40], [], [41]⟩, ⟨[32, 41], [], [42]⟩, ⟨[32, 38, 42], [], [43]⟩, ⟨[32, 35, 43], [], [44]⟩, ⟨[32, 44], [], [45]⟩]) (ini := [0, 1, 2, 3, 4, 5]) (fin := [2, 45, 3, 4, 5]) (bf := [[], [0], [0, 1], [], [3], [3, 4], [], [6], [6, 7], [6, 7, 8], [3, 4, 5, 6, 7, 8, 9], [0, 1, 2, 3, 4, 5, 6, 7, 8, 9, 10], [0, 1, 2, 3, 4, 5, 6, 7, 8, 9, 10, 11], [0, 1, 2, 3, 4, 5, 6, 7, 8, 9, 10, 11, 12], [0, 1, 2, 3, 4, 5, 6, 7, 8, 9, 10, 11, 12, 13], [0, 1, 2, 3, 4, 5, 6, 7, 8, 9, 10, 11, 12, 13, 14], [0, 1, 2, 3, 4, 5, 6, 7, 8, 9, 10, 11, 12], [0, 1, 2, 3, 4, 5, 6, 7, 8, 9, 10, 11, 12, 16], [0, 1, 2, 3, 4, 5, 6, 7, 8, 9, 10, 11, 12, 16, 17], [0, 1, 2, 3, 4, 5, 6, 7, 8, 9, 10, 11, 12], [0, 1, 2, 3, 4, 5, 6, 7, 8, 9, 10, 11, 12, 19], [0, 1, 2, 3, 4, 5, 6, 7, 8, 9, 10, 11, 12, 19, 20], [0, 1, 2, 3, 4, 5, 6, 7, 8, 9, 10, 11, 12, 19, 20, 21], [0, 1, 2, 3, 4, 5, 6, 7, 8, 9, 10, 11, 12, 16, 17, 18, 19, 20, 21, 22], [0, 1, 2, 3, 4, 5, 6, 7, 8, 9, 10, 11, 12, 13, 14, 15, 16, 17, 18, 19, 20, 21, 22, 23], [0, 1, 2, 3, 4, 5, 6, 7, 8, 9, 10, 11, 12, 13, 14, 15, 16, 17, 18, 19, 20, 21, 22, 23, 24], [0, 1, 2, 3, 4, 5, 6, 7, 8, 9, 10, 11, 12, 13, 14, 15, 16, 17, 18, 19, 20, 21, 22, 23, 24, 25], [0, 1, 2, 3, 4, 5, 6, 7, 8, 9, 10, 11, 12, 13, 14, 15, 16, 17, 18, 19, 20, 21, 22, 23, 24, 25, 26], [0, 1, 2, 3, 4, 5, 6, 7, 8, 9, 10, 11, 12, 13, 14, 15, 16, 17, 18, 19, 20, 21, 22, 23, 24, 25, 26, 27], [0, 1, 2, 3, 4, 5, 6, 7, 8, 9, 10, 11, 12, 13, 14, 15, 16, 17, 18, 19, 20, 21, 22, 23, 24, 25, 26, 27, 28], [0, 1, 2, 3, 4, 5, 6, 7, 8, 9, 10, 11, 12, 13, 14, 15, 16, 17, 18, 19, 20, 21, 22, 23, 24, 25, 26], [0, 1, 2, 3, 4, 5, 6, 7, 8, 9, 10, 11, 12, 13, 14, 15, 16, 17, 18, 19, 20, 21, 22, 23, 24, 25, 26, 30], [0, 1, 2, 3, 4, 5, 6, 7, 8, 9, 10, 11, 12, 13, 14, 15, 16, 17, 18, 19, 20, 21, 22, 23, 24, 25, 26, 30, 31], [0, 1, 2, 3, 4, 5, 6, 7, 8, 9, 10, 11, 12, 13, 14, 15, 16, 17, 18, 19, 20, 21, 22, 23, 24, 25, 26], [0, 1, 2, 3, 4, 5, 6, 7, 8, 9, 10, 11, 12, 13, 14, 15, 16, 17, 18, 19, 20, 21, 22, 23, 24, 25, 26, 33], [0, 1, 2, 3, 4, 5, 6, 7, 8, 9, 10, 11, 12, 13, 14, 15, 16, 17, 18, 19, 20, 21, 22, 23, 24, 25, 26, 33, 34], [0, 1, 2, 3, 4, 5, 6, 7, 8, 9, 10, 11, 12, 13, 14, 15, 16, 17, 18, 19, 20, 21, 22, 23, 24, 25, 26, 33, 34, 35], [0, 1, 2, 3, 4, 5, 6, 7, 8, 9, 10, 11, 12, 13, 14, 15, 16, 17, 18, 19, 20, 21, 22, 23, 24, 25, 26, 30, 31, 32, 33, 34, 35, 36], [0, 1, 2, 3, 4, 5, 6, 7, 8, 9, 10, 11, 12, 13, 14, 15, 16, 17, 18, 19, 20, 21, 22, 23, 24, 25, 26, 27, 28, 29, 30, 31, 32, 33, 34, 35, 36, 37], [0, 1, 2, 3, 4, 5, 6, 7, 8, 9, 10, 11, 12, 13, 14, 15, 16, 17, 18, 19, 20, 21, 22, 23, 24, 25, 26, 27, 28, 29, 30, 31, 32, 33, 34, 35, 36, 37, 38]]) (by kernel_rfl) (by kernel_rfl) (fun x w h1 h2 => (.cons () (.cons () (.cons () (.cons () (.cons () (.cons () (.nil ⟨EnvAll.of h1 ⟨rfl, rfl, rfl, rfl, rfl, trivial⟩, h2⟩)))))))) (fun Q => by kernel_rfl) ⟨?_, ?_, ?_, ?_, ?_, ?_, ?_, ?_, ?_, ?_, ?_, ?_, ?_, ?_, ?_, ?_, ?_, ?_, ?_, ?_, ?_, ?_, ?_, ?_, ?_, ?_, ?_, ?_, ?_, ?_, ?_, ?_, ?_, ?_, ?_, ?_, ?_, ?_, ?_, ?_, trivial⟩ ?_
                  · rintro Fr _
                    refine SO.v rfl (opv_move rfl) ?_
                    exact SO.nilZ fun a w h1 h2 h3 h4 h5 => PZ.of h1 h3 h5 (.cons () (.cons () (.nil ⟨EnvAll.of h2 ⟨rfl, rfl, trivial⟩, h4⟩)))
                  · rintro Fr _ _
                    refine SO.v rfl (opv_idx Try.underlying26 Try.sizeOf27 hr11 rfl rfl hx21) ?_
                    exact SO.nilZ fun a w h1 h2 h3 h4 h5 => PZ.of h1 h3 h5 (.cons () (.cons () (.cons () (.nil ⟨EnvAll.of h2 ⟨rfl, rfl, trivial⟩, h4⟩))))
                  · rintro Fr _ _
                    refine SO.loadI1 (j := 0) rfl Try.isAgg27 (Rd.head hr11) hx21 rfl rfl rfl rfl ?_
                    exact SO.nilZ fun a w h1 h2 h3 h4 h5 => PZ.of h1 h3 h5 (.cons () (.cons () (.cons () (.nil ⟨EnvAll.of h2 ⟨rfl, rfl, trivial⟩, h4⟩))))
                  · rintro Fr _
                    refine SO.v rfl (opv_fieldAddr Try.underlying42 rfl Try.sizeOf3 rfl rfl) ?_
                    exact SO.nilZ fun a w h1 h2 h3 h4 h5 => PZ.of h1 h3 h5 (.cons () (.cons () (.nil ⟨EnvAll.of h2 ⟨rfl, rfl, trivial⟩, h4⟩)))
                  · rintro Fr _ _
                    refine SO.load1 rfl Try.isAgg3 rfl rfl ?_
                    exact SO.nilZ fun a w h1 h2 h3 h4 h5 => PZ.of h1 h3 h5 (.cons () (.cons () (.cons () (.nil ⟨EnvAll.of h2 ⟨rfl, rfl, trivial⟩, h4⟩))))
                  · rintro Fr _
                    refine SO.v rfl (opv_conv Try.underlying3 Try.underlying27 rfl) ?_
                    exact SO.nilZ fun a w h1 h2 h3 h4 h5 => PZ.of h1 h3 h5 (.cons () (.cons () (.nil ⟨EnvAll.of h2 ⟨rfl, rfl, trivial⟩, h4⟩)))
                  · rintro Fr _
                    refine SO.v rfl (opv_fieldAddr Try.underlying42 rfl Try.sizeOf3 rfl rfl) ?_
                    exact SO.nilZ fun a w h1 h2 h3 h4 h5 => PZ.of h1 h3 h5 (.cons () (.cons () (.nil ⟨EnvAll.of h2 ⟨rfl, rfl, trivial⟩, h4⟩)))
                  · rintro Fr _ _
                    refine SO.load1 rfl Try.isAgg3 rfl rfl ?_
                    exact SO.nilZ fun a w h1 h2 h3 h4 h5 => PZ.of h1 h3 h5 (.cons () (.cons () (.cons () (.nil ⟨EnvAll.of h2 ⟨rfl, rfl, trivial⟩, h4⟩))))
                  · rintro Fr _
                    refine SO.v rfl (opv_conv Try.underlying3 Try.underlying27 rfl) ?_
                    exact SO.nilZ fun a w h1 h2 h3 h4 h5 => PZ.of h1 h3 h5 (.cons () (.cons () (.nil ⟨EnvAll.of h2 ⟨rfl, rfl, trivial⟩, h4⟩)))
                  · rintro Fr _
                    refine SO.v rfl (opv_mul rfl rfl) ?_
                    exact SO.nilZ fun a w h1 h2 h3 h4 h5 => PZ.of h1 h3 h5 (.cons () (.cons () (.nil ⟨EnvAll.of h2 ⟨rfl, rfl, trivial⟩, h4⟩)))
                  · rintro Fr _ _
                    refine SO.v rfl (opv_add rfl rfl) ?_
                    exact SO.nilZ fun a w h1 h2 h3 h4 h5 => PZ.of h1 h3 h5 (.cons () (.cons () (.cons () (.nil ⟨EnvAll.of h2 ⟨rfl, rfl, rfl, trivial⟩, h4⟩))))
                  · rintro Fr _ _
                    refine SO.v rfl (opv_neq rfl rfl) ?_
                    exact SO.nilZ fun a w h1 h2 h3 h4 h5 => PZ.of h1 h3 h5 (.cons () (.cons () (.cons () (.nil ⟨EnvAll.of h2 ⟨rfl, rfl, rfl, trivial⟩, h4⟩))))
                  · rintro Fr _
                    refine SO.v rfl (opv_move rfl) ?_
                    exact SO.nilZ fun a w h1 h2 h3 h4 h5 => PZ.of h1 h3 h5 (.cons () (.cons () (.nil ⟨EnvAll.of h2 ⟨rfl, rfl, trivial⟩, h4⟩)))
                  · rintro Fr _ _
                    refine SO.takeT rfl rfl rfl b22 ?_
                    refine SO.v rfl (opv_move rfl) ?_
                    exact SO.nilZ fun a w h1 h2 h3 h4 h5 => PZ.of h1 h3 h5 (.cons () (.cons () (.cons () (.nil ⟨EnvAll.of h2 ⟨rfl, rfl, rfl, trivial⟩, h4⟩))))
                  · rintro Fr _ _ _
                    refine SO.takeT rfl rfl rfl b22 ?_
                    refine SO.v rfl (opv_idx Try.underlying26 Try.sizeOf27 hr11 rfl rfl hx24) ?_
                    exact SO.nilZ fun a w h1 h2 h3 h4 h5 => PZ.of h1 h3 h5 (.cons () (.cons () (.cons () (.cons () (.nil ⟨EnvAll.of h2 ⟨rfl, rfl, rfl, trivial⟩, h4⟩)))))
                  · rintro Fr _ _ _
                    refine SO.takeT rfl rfl rfl b22 ?_
                    refine SO.loadI1 (j := 0) rfl Try.isAgg27 (Rd.head hr11) hx24 rfl rfl rfl rfl ?_
                    exact SO.nilZ fun a w h1 h2 h3 h4 h5 => PZ.of h1 h3 h5 (.cons () (.cons () (.cons () (.cons () (.nil ⟨EnvAll.of h2 ⟨rfl, rfl, rfl, trivial⟩, h4⟩)))))
                  · rintro Fr _ _
                    refine SO.takeT rfl rfl rfl b22 ?_
                    refine SO.v rfl (opv_fieldAddr Try.underlying42 rfl Try.sizeOf3 rfl rfl) ?_
                    exact SO.nilZ fun a w h1 h2 h3 h4 h5 => PZ.of h1 h3 h5 (.cons () (.cons () (.cons () (.nil ⟨EnvAll.of h2 ⟨rfl, rfl, rfl, trivial⟩, h4⟩))))
                  · rintro Fr _ _ _
                    refine SO.takeT rfl rfl rfl b22 ?_
                    refine SO.load1 rfl Try.isAgg3 rfl rfl ?_
                    exact SO.nilZ fun a w h1 h2 h3 h4 h5 => PZ.of h1 h3 h5 (.cons () (.cons () (.cons () (.cons () (.nil ⟨EnvAll.of h2 ⟨rfl, rfl, rfl, trivial⟩, h4⟩)))))
                  · rintro Fr _ _
                    refine SO.takeT rfl rfl rfl b22 ?_
                    refine SO.v rfl (opv_conv Try.underlying3 Try.underlying27 rfl) ?_
                    exact SO.nilZ fun a w h1 h2 h3 h4 h5 => PZ.of h1 h3 h5 (.cons () (.cons () (.cons () (.nil ⟨EnvAll.of h2 ⟨rfl, rfl, rfl, trivial⟩, h4⟩))))
                  · rintro Fr _ _
                    refine SO.takeT rfl rfl rfl b22 ?_
                    refine SO.v rfl (opv_fieldAddr Try.underlying42 rfl Try.sizeOf3 rfl rfl) ?_
                    exact SO.nilZ fun a w h1 h2 h3 h4 h5 => PZ.of h1 h3 h5 (.cons () (.cons () (.cons () (.nil ⟨EnvAll.of h2 ⟨rfl, rfl, rfl, trivial⟩, h4⟩))))
                  · rintro Fr _ _ _
                    refine SO.takeT rfl rfl rfl b22 ?_
                    refine SO.load1 rfl Try.isAgg3 rfl rfl ?_
                    exact SO.nilZ fun a w h1 h2 h3 h4 h5 => PZ.of h1 h3 h5 (.cons () (.cons () (.cons () (.cons () (.nil ⟨EnvAll.of h2 ⟨rfl, rfl, rfl, trivial⟩, h4⟩)))))
                  · rintro Fr _ _
                    refine SO.takeT rfl rfl rfl b22 ?_
                    refine SO.v rfl (opv_conv Try.underlying3 Try.underlying27 rfl) ?_
                    exact SO.nilZ fun a w h1 h2 h3 h4 h5 => PZ.of h1 h3 h5 (.cons () (.cons () (.cons () (.nil ⟨EnvAll.of h2 ⟨rfl, rfl, rfl, trivial⟩, h4⟩))))
                  · rintro Fr _ _
                    refine SO.takeT rfl rfl rfl b22 ?_
                    refine SO.v rfl (opv_mul rfl rfl) ?_
                    exact SO.nilZ fun a w h1 h2 h3 h4 h5 => PZ.of h1 h3 h5 (.cons () (.cons () (.cons () (.nil ⟨EnvAll.of h2 ⟨rfl, rfl, rfl, trivial⟩, h4⟩))))
                  · rintro Fr _ _ _
                    refine SO.takeT rfl rfl rfl b22 ?_
                    refine SO.v rfl (opv_add rfl rfl) ?_
                    exact SO.nilZ fun a w h1 h2 h3 h4 h5 => PZ.of h1 h3 h5 (.cons () (.cons () (.cons () (.cons () (.nil ⟨EnvAll.of h2 ⟨rfl, rfl, rfl, rfl, trivial⟩, h4⟩)))))
                  · rintro Fr _ _ _
                    refine SO.takeT rfl rfl rfl b22 ?_
                    refine SO.v rfl (opv_neq rfl rfl) ?_
                    exact SO.nilZ fun a w h1 h2 h3 h4 h5 => PZ.of h1 h3 h5 (.cons () (.cons () (.cons () (.cons () (.nil ⟨EnvAll.of h2 ⟨rfl, rfl, rfl, rfl, trivial⟩, h4⟩)))))
                  · rintro Fr _ _
                    refine SO.v rfl (opv_pick_f' b22 rfl rfl) ?_
                    exact SO.nilZ fun a w h1 h2 h3 h4 h5 => PZ.of h1 h3 h5 (.cons () (.cons () (.cons () (.nil ⟨EnvAll.of h2 ⟨rfl, rfl, rfl, trivial⟩, h4⟩))))
                  · rintro Fr _
                    refine SO.v rfl (opv_move rfl) ?_
                    exact SO.nilZ fun a w h1 h2 h3 h4 h5 => PZ.of h1 h3 h5 (.cons () (.cons () (.nil ⟨EnvAll.of h2 ⟨rfl, rfl, trivial⟩, h4⟩)))
                  · rintro Fr _ _
                    refine SO.takeT rfl rfl rfl b25 ?_
                    refine SO.v rfl (opv_move rfl) ?_
                    exact SO.nilZ fun a w h1 h2 h3 h4 h5 => PZ.of h1 h3 h5 (.cons () (.cons () (.cons () (.nil ⟨EnvAll.of h2 ⟨rfl, rfl, rfl, trivial⟩, h4⟩))))
                  · rintro Fr _ _ _
                    refine SO.takeT rfl rfl rfl b25 ?_
                    refine SO.v rfl (opv_idx Try.underlying26 Try.sizeOf27 hr11 rfl rfl hx27) ?_
                    exact SO.nilZ fun a w h1 h2 h3 h4 h5 => PZ.of h1 h3 h5 (.cons () (.cons () (.cons () (.cons () (.nil ⟨EnvAll.of h2 ⟨rfl, rfl, rfl, trivial⟩, h4⟩)))))
                  · rintro Fr _ _ _
                    refine SO.takeT rfl rfl rfl b25 ?_
                    refine SO.loadI1 (j := 0) rfl Try.isAgg27 (Rd.head hr11) hx27 rfl rfl rfl rfl ?_
                    exact SO.nilZ fun a w h1 h2 h3 h4 h5 => PZ.of h1 h3 h5 (.cons () (.cons () (.cons () (.cons () (.nil ⟨EnvAll.of h2 ⟨rfl, rfl, rfl, trivial⟩, h4⟩)))))
                  · rintro Fr _ _
                    refine SO.takeT rfl rfl rfl b25 ?_
                    refine SO.v rfl (opv_fieldAddr Try.underlying42 rfl Try.sizeOf3 rfl rfl) ?_
                    exact SO.nilZ fun a w h1 h2 h3 h4 h5 => PZ.of h1 h3 h5 (.cons () (.cons () (.cons () (.nil ⟨EnvAll.of h2 ⟨rfl, rfl, rfl, trivial⟩, h4⟩))))
                  · rintro Fr _ _ _
                    refine SO.takeT rfl rfl rfl b25 ?_
                    refine SO.load1 rfl Try.isAgg3 rfl rfl ?_
                    exact SO.nilZ fun a w h1 h2 h3 h4 h5 => PZ.of h1 h3 h5 (.cons () (.cons () (.cons () (.cons () (.nil ⟨EnvAll.of h2 ⟨rfl, rfl, rfl, trivial⟩, h4⟩)))))
                  · rintro Fr _ _
                    refine SO.takeT rfl rfl rfl b25 ?_
                    refine SO.v rfl (opv_conv Try.underlying3 Try.underlying27 rfl) ?_
                    exact SO.nilZ fun a w h1 h2 h3 h4 h5 => PZ.of h1 h3 h5 (.cons () (.cons () (.cons () (.nil ⟨EnvAll.of h2 ⟨rfl, rfl, rfl, trivial⟩, h4⟩))))
                  · rintro Fr _ _
                    refine SO.takeT rfl rfl rfl b25 ?_
                    refine SO.v rfl (opv_fieldAddr Try.underlying42 rfl Try.sizeOf3 rfl rfl) ?_
                    exact SO.nilZ fun a w h1 h2 h3 h4 h5 => PZ.of h1 h3 h5 (.cons () (.cons () (.cons () (.nil ⟨EnvAll.of h2 ⟨rfl, rfl, rfl, trivial⟩, h4⟩))))
                  · rintro Fr _ _ _
                    refine SO.takeT rfl rfl rfl b25 ?_
                    refine SO.load1 rfl Try.isAgg3 rfl rfl ?_
                    exact SO.nilZ fun a w h1 h2 h3 h4 h5 => PZ.of h1 h3 h5 (.cons () (.cons () (.cons () (.cons () (.nil ⟨EnvAll.of h2 ⟨rfl, rfl, rfl, trivial⟩, h4⟩)))))
                  · rintro Fr _ _
                    refine SO.takeT rfl rfl rfl b25 ?_
                    refine SO.v rfl (opv_conv Try.underlying3 Try.underlying27 rfl) ?_
                    exact SO.nilZ fun a w h1 h2 h3 h4 h5 => PZ.of h1 h3 h5 (.cons () (.cons () (.cons () (.nil ⟨EnvAll.of h2 ⟨rfl, rfl, rfl, trivial⟩, h4⟩))))
                  · rintro Fr _ _
                    refine SO.takeT rfl rfl rfl b25 ?_
                    refine SO.v rfl (opv_mul rfl rfl) ?_
                    exact SO.nilZ fun a w h1 h2 h3 h4 h5 => PZ.of h1 h3 h5 (.cons () (.cons () (.cons () (.nil ⟨EnvAll.of h2 ⟨rfl, rfl, rfl, trivial⟩, h4⟩))))
                  · rintro Fr _ _ _
                    refine SO.takeT rfl rfl rfl b25 ?_
                    refine SO.v rfl (opv_add rfl rfl) ?_
                    exact SO.nilZ fun a w h1 h2 h3 h4 h5 => PZ.of h1 h3 h5 (.cons () (.cons () (.cons () (.cons () (.nil ⟨EnvAll.of h2 ⟨rfl, rfl, rfl, rfl, trivial⟩, h4⟩)))))
                  · rintro Fr _ _ _
                    refine SO.takeT rfl rfl rfl b25 ?_
                    refine SO.v rfl (opv_neq rfl rfl) ?_
                    exact SO.nilZ fun a w h1 h2 h3 h4 h5 => PZ.of h1 h3 h5 (.cons () (.cons () (.cons () (.cons () (.nil ⟨EnvAll.of h2 ⟨rfl, rfl, rfl, rfl, trivial⟩, h4⟩)))))
                  · rintro Fr _ _
                    refine SO.v rfl (opv_pick_f' b25 rfl rfl) ?_
                    exact SO.nilZ fun a w h1 h2 h3 h4 h5 => PZ.of h1 h3 h5 (.cons () (.cons () (.cons () (.nil ⟨EnvAll.of h2 ⟨rfl, rfl, rfl, trivial⟩, h4⟩))))
                  rintro _ _ _ _ _
                  refine S.to (ρ' := [(1, v1), (4, .bool false), (5, .bool t2), (85, .bool (x26 != (wu64 ((wu64 a0.C) + (wu64 (4294967296 * (wu64 a0.D)))))))]) ⟨rfl, rfl, rfl, rfl, trivial⟩ ?_
                  cases h
                  refine S.b2 ?_
                  refine S.b2 ?_
                  refine S.b2 ?_
                  refine S.to ?_ (hk2 () trivial)
                  exact ⟨rfl, rfl, rfl, rfl, trivial⟩
            rintro _ -
            replace h := hJ2
            rcases bool_or j85_2 with b28 | b28
            · replace h := cond_t b28 h
              refine S.condT rfl b28 ?_
              refine S.seq ?_
              refine S.region ?_
              refine SO.v rfl (opv_assign rfl) ?_
              refine SO.nil ?_
              cases h
              replace h := Brk.of_ret hJ1
              cases h
              refine S.drop ?_
              refine S.drop ?_
              exact S.ret1 Try.func6 rfl rfl (fun w hs hk => hR w _ _ ⟨rfl, rfl⟩ hs hk)
            · replace h := cond_f b28 h
              refine S.condF rfl b28 ?_
              refine S.skip ?_
              cases h
              refine S.b2 ?_
              refine S.b2 ?_
              refine S.b2 ?_
              refine S.to ?_ (hk1 ((), ()) rfl)
              exact ⟨rfl, rfl, rfl, trivial⟩
      rintro ⟨_, _⟩ hq
      subst hq
      replace h := Brk.of_nx hJ1
      refine S.seq ?_
      refine S.region ?_
      refine SO.v rfl (opv_move rfl) ?_
      obtain ⟨⟨t29, t30⟩, ht31, h⟩ := opt_bind h
      refine SO.call (pre := []) rfl Try.call29 rfl rfl rfl (call_Get.ct _ _ _ _ ht31) (Rd.tail (Rd.tail (Rd.head hF1))) ?_
      rintro _ _ ⟨rfl, rfl⟩
      refine SO.v rfl (opv_move rfl) ?_
      refine SO.v rfl (opv_extract rfl rfl) ?_
      refine SO.v rfl (opv_extract rfl rfl) ?_
      refine SO.alloc rfl Try.zeroValue42 rfl (fun b32 => ?_)
      refine SO.storeN Try.sizeOf42 rfl rfl rfl rfl rfl rfl ?_
      refine SO.v rfl (opv_assign rfl) ?_
      refine SO.nil ?_
      refine S.seq ?_
      refine S.seq ?_
      refine S.region ?_
      refine SO.v rfl (opv_move rfl) ?_
      refine SO.v rfl (opv_lenR rfl Try.underlying26 hF1 rfl) ?_
      refine SO.v rfl (opv_neq rfl rfl) ?_
      refine SO.nil ?_
      refine S.to (ρ' := [(1, v1), (4, .bool false), (5, .bool t2), (9, bp b32 0), (10, errV 48 t30), (93, .bool ((a1.length : Int) != 3))]) ⟨rfl, rfl, rfl, rfl, rfl, rfl, trivial⟩ ?_
      rcases bool_or ((a1.length : Int) != 3) with b33 | b33
      · replace h := cond_t b33 h
        refine S.condT rfl b33 ?_
        refine S.seq ?_
        refine S.region ?_
        refine SO.v rfl (opv_move rfl) ?_
        refine SO.v rfl (opv_move rfl) ?_
        refine SO.cut 4 99 (.bool (t2 && (t30 == some 1))) [Box b32 [.int .i64 t29.Op, .int .i64 t29.Cap, .int .i64 t29.A, .int .i64 t29.B, .int .i64 t29.C, .int .i64 t29.D], Box b1 [.int .i64 a0.Op, .int .i64 a0.Cap, .int .i64 a0.A, .int .i64 a0.B, .int .i64 a0.C, .int .i64 a0.D], Own 27 (ekI .u64) v10 t7, F] (fun l2 hk2 => ?_) ?_
        · rcases bool_or t2 with b34 | b34
          · refine SO.takeT rfl rfl rfl b34 ?_
            refine SO.v rfl (opv_move rfl) ?_
            refine SO.takeT rfl rfl rfl b34 ?_
            refine SO.v rfl (opv_iface Try.underlying48 rfl rfl) ?_
            refine SO.takeT rfl rfl rfl b34 ?_
            refine SO.v rfl (opv_eqlE (e := t30) (c := 1) Try.underlying45 Try.underlying48 inf48 rfl rfl rfl) ?_
            refine SO.v rfl (opv_pick_t' b34 rfl rfl) ?_
            refine SO.b3 ?_
            refine SO.b3 ?_
            refine SO.b3 ?_
            refine SO.b3 ?_
            exact hk2.fitc (m := 4) rfl (and_t b34) rfl
          · refine SO.passF rfl rfl rfl b34 rfl rfl ?_
            refine SO.passF rfl rfl rfl b34 rfl rfl ?_
            refine SO.passF rfl rfl rfl b34 rfl rfl ?_
            refine SO.v rfl (opv_pick_f' b34 rfl rfl) ?_
            refine SO.b3 ?_
            refine SO.b3 ?_
            refine SO.b3 ?_
            refine SO.b3 ?_
            exact hk2.fitc (m := 4) rfl (and_f b34) rfl
        refine SO.v rfl (opv_move rfl) ?_
        refine SO.cut 4 104 (.bool ((t2 && (t30 == some 1)) && (decide (t29 = (⟨0, 0, 0, 0, 0, 0⟩ : api_Call))))) [Box b32 [.int .i64 t29.Op, .int .i64 t29.Cap, .int .i64 t29.A, .int .i64 t29.B, .int .i64 t29.C, .int .i64 t29.D], Box b1 [.int .i64 a0.Op, .int .i64 a0.Cap, .int .i64 a0.A, .int .i64 a0.B, .int .i64 a0.C, .int .i64 a0.D], Own 27 (ekI .u64) v10 t7, F] (fun l2 hk2 => ?_) ?_
        · rcases bool_or (t2 && (t30 == some 1)) with b35 | b35
          · refine SO.takeT rfl rfl rfl b35 ?_
            refine SO.loadN rfl Try.isAgg42 Try.sizeOf42 rfl rfl rfl ?_
            refine SO.takeT rfl rfl rfl b35 ?_
            refine SO.v rfl (opv_build (v := .agg #[.int .i64 0, .int .i64 0, .int .i64 0, .int .i64 0, .int .i64 0, .int .i64 0]) rfl (by intro w; kernel_rfl)) ?_
            refine SO.takeT rfl rfl rfl b35 ?_
            refine SO.v rfl (eq_eql_api_Call (x := t29) (y := (⟨0, 0, 0, 0, 0, 0⟩ : api_Call)) rfl rfl) ?_
            refine SO.v rfl (opv_pick_t' b35 rfl rfl) ?_
            refine SO.b3 ?_
            refine SO.b3 ?_
            refine SO.b3 ?_
            refine SO.b3 ?_
            exact hk2.fitc (m := 4) rfl (and_t b35) rfl
          · refine SO.passF rfl rfl rfl b35 rfl rfl ?_
            refine SO.passF rfl rfl rfl b35 rfl rfl ?_
            refine SO.passF rfl rfl rfl b35 rfl rfl ?_
            refine SO.v rfl (opv_pick_f' b35 rfl rfl) ?_
            refine SO.b3 ?_
            refine SO.b3 ?_
            refine SO.b3 ?_
            refine SO.b3 ?_
            exact hk2.fitc (m := 4) rfl (and_f b35) rfl
        refine SO.v rfl (opv_assign rfl) ?_
        refine SO.nil ?_
        cases h
        refine S.drop ?_
        refine S.drop ?_
        refine S.drop ?_
        exact S.ret1 Try.func6 rfl rfl (fun w hs hk => hR w _ _ ⟨rfl, rfl⟩ hs hk)
      · replace h := cond_f b33 h
        refine S.condF rfl b33 ?_
        refine S.skip ?_
        refine S.seq ?_
        refine S.region ?_
        refine SO.alloc rfl Try.zeroValue42 rfl (fun b36 => ?_)
        refine SO.nil ?_
        refine S.seq ?_
        refine S.region ?_
        refine SO.v rfl (opv_move rfl) ?_
        obtain ⟨x37, hx38, h⟩ := opt_bind h
        refine SO.v rfl (opv_idx Try.underlying26 Try.sizeOf27 hF1 rfl rfl hx38) ?_
        refine SO.loadI1 (j := 0) rfl Try.isAgg27 (Rd.tail (Rd.tail (Rd.tail (Rd.tail (Rd.head hF1))))) hx38 rfl rfl rfl rfl ?_
        refine SO.v rfl (opv_lss rfl rfl) ?_
        refine SO.v rfl (opv_assign rfl) ?_
        refine SO.nil ?_
        refine S.seq ?_
        refine S.seq ?_
        refine S.region ?_
        refine SO.v rfl (opv_move rfl) ?_
        refine SO.nil ?_
        obtain ⟨⟨j12_3, y36_0_3, y36_1_3, y36_2_3, y36_3_3, y36_4_3, y36_5_3⟩, hC3, hJ3⟩ := opt_bind h
        clear h
        refine S.cutP (G := Unit) (fun _ => True) (fun _ => [(4, .bool false), (5, .bool t2), (9, bp b32 0), (10, errV 48 t30), (11, bp b36 0), (12, .bool j12_3)]) (fun _ => [Box b36 [.int .i64 y36_0_3, .int .i64 y36_1_3, .int .i64 y36_2_3, .int .i64 y36_3_3, .int .i64 y36_4_3, .int .i64 y36_5_3], Box b32 [.int .i64 t29.Op, .int .i64 t29.Cap, .int .i64 t29.A, .int .i64 t29.B, .int .i64 t29.C, .int .i64 t29.D], Box b1 [.int .i64 a0.Op, .int .i64 a0.Cap, .int .i64 a0.A, .int .i64 a0.B, .int .i64 a0.C, .int .i64 a0.D], Own 27 (ekI .u64) v10 t7, F]) (fun hk3 => ?_) ?_
        · replace h := hC3
          rcases bool_or (decide (x37 < 16777216)) with b39 | b39
          · replace h := cond_t b39 h
            refine S.condT rfl b39 ?_
            refine S.seq ?_
            obtain ⟨x40, hx41, h⟩ := opt_bind h
            obtain ⟨x42, hx43, h⟩ := opt_bind h
            obtain ⟨x44, hx45, h⟩ := opt_bind h
            obtain ⟨x46, hx47, h⟩ := opt_bind h
            obtain ⟨x48, hx49, h⟩ := opt_bind h
            obtain ⟨x50, hx51, h⟩ := opt_bind h
            refine S.draw' (Z := fun Q => ∀ (_ : Unit) (_ : Unit) (_ : Unit) (_ : Unit) (_ : Unit) (_ : Unit) (_ : Unit), Q [(12, .bool (decide (x37 < 16777216))), (4, .bool false), (5, .bool t2), (9, bp b32 0), (10, errV 48 t30), (11, bp b36 0)] [Box b36 [.int .i64 (w64 (x40.tmod 256)), .int .i64 (w64 (wu64 (x42.tdiv 256))), .int .i64 (w64 (x44.tmod 4294967296)), .int .i64 (w64 (wu64 (x46.tdiv 4294967296))), .int .i64 (w64 (x48.tmod 4294967296)), .int .i64 (w64 (wu64 (x50.tdiv 4294967296)))], Box b32 [.int .i64 t29.Op, .int .i64 t29.Cap, .int .i64 t29.A, .int .i64 t29.B, .int .i64 t29.C, .int .i64 t29.D], Box b1 [.int .i64 a0.Op, .int .i64 a0.Cap, .int .i64 a0.A, .int .i64 a0.B, .int .i64 a0.C, .int .i64 a0.D], Own 27 (ekI .u64) v10 t7, F]) (T := [tS 1 (v1), tS 11 (bp b36 0), tE [(12, .bool (decide (x37 < 16777216))), (4, .bool false), (5, .bool t2), (9, bp b32 0), (10, errV 48 t30)], tR (Box b36 [.int .i64 0, .int .i64 0, .int .i64 0, .int .i64 0, .int .i64 0, .int .i64 0]), tR (Box b32 [.int .i64 t29.Op, .int .i64 t29.Cap, .int .i64 t29.A, .int .i64 t29.B, .int .i64 t29.C, .int .i64 t29.D]), tR (Box b1 [.int .i64 a0.Op, .int .i64 a0.Cap, .int .i64 a0.A, .int .i64 a0.B, .int .i64 a0.C, .int .i64 a0.D]), tR (Own 27 (ekI .u64) v10 t7), tR (F), tS 110 (v1), tS 111 (idxp v1 ((0 : Int).toNat * (ekI .u64).sz)), tS 112 (.int .u64 x40), tS 113 (.int .u64 (x40.tmod 256)), tS 114 (.int .i64 (w64 (x40.tmod 256))), tS 115 (v1), tS 116 (idxp v1 ((0 : Int).toNat * (ekI .u64).sz)), tS 117 (.int .u64 x42), tS 118 (.int .u64 (wu64 (x42.tdiv 256))), tS 119 (.int .i64 (w64 (wu64 (x42.tdiv 256)))), tS 120 (v1), tS 121 (idxp v1 ((1 : Int).toNat * (ekI .u64).sz)), tS 122 (.int .u64 x44), tS 123 (.int .u64 (x44.tmod 4294967296)), tS 124 (.int .i64 (w64 (x44.tmod 4294967296))), tS 125 (v1), tS 126 (idxp v1 ((1 : Int).toNat * (ekI .u64).sz)), tS 127 (.int .u64 x46), tS 128 (.int .u64 (wu64 (x46.tdiv 4294967296))), tS 129 (.int .i64 (w64 (wu64 (x46.tdiv 4294967296)))), tS 130 (v1), tS 131 (idxp v1 ((2 : Int).toNat * (ekI .u64).sz)), tS 132 (.int .u64 x48), tS 133 (.int .u64 (x48.tmod 4294967296)), tS 134 (.int .i64 (w64 (x48.tmod 4294967296))), tS 135 (v1), tS 136 (idxp v1 ((2 : Int).toNat * (ekI .u64).sz)), tS 137 (.int .u64 x50), tS 138 (.int .u64 (wu64 (x50.tdiv 4294967296))), tS 139 (.int .i64 (w64 (wu64 (x50.tdiv 4294967296)))), tS 140 (.agg #[.int .i64 (w64 (x40.tmod 256)), .int .i64 (w64 (wu64 (x42.tdiv 256))), .int .i64 (w64 (x44.tmod 4294967296)), .int .i64 (w64 (wu64 (x46.tdiv 4294967296))), .int .i64 (w64 (x48.tmod 4294967296)), .int .i64 (w64 (wu64 (x50.tdiv 4294967296)))]), tR (Box b36 [.int .i64 (w64 (x40.tmod 256)), .int .i64 (w64 (wu64 (x42.tdiv 256))), .int .i64 (w64 (x44.tmod 4294967296)), .int .i64 (w64 (wu64 (x46.tdiv 4294967296))), .int .i64 (w64 (x48.tmod 4294967296)), .int .i64 (w64 (wu64 (x50.tdiv 4294967296)))])]) (D := [⟨[0], [], [8]⟩, ⟨[8, 7], [], [9]⟩, ⟨[9, 7], [], [10]⟩, ⟨[10], [], [11]⟩, ⟨[11], [], [12]⟩, ⟨[0], [], [13]⟩, ⟨[13, 7], [], [14]⟩, ⟨[14, 7], [], [15]⟩, ⟨[15], [], [16]⟩, ⟨[16], [], [17]⟩, ⟨[0], [], [18]⟩, ⟨[18, 7], [], [19]⟩, ⟨[19, 7], [], [20]⟩, ⟨[20], [], [21]⟩, ⟨[21], [], [22]⟩, ⟨[0], [], [23]⟩, ⟨[23, 7], [], [24]⟩, ⟨[24, 7], [], [25]⟩, ⟨[25], [], [26]⟩, ⟨[26], [], [27]⟩, ⟨[0], [], [28]⟩, ⟨[28, 7], [], [29]⟩, ⟨[29, 7], [], [30]⟩, ⟨[30], [], [31]⟩, ⟨[31], [], [32]⟩, ⟨[0], [], [33]⟩, ⟨[33, 7], [], [34]⟩, ⟨[34, 7], [], [35]⟩, ⟨[35], [], [36]⟩, ⟨[36], [], [37]⟩, ⟨[12, 17, 22, 27, 32, 37], [], [38]⟩, ⟨[1, 38], [3], [39]⟩]) (ini := [0, 1, 2, 3, 4, 5, 6, 7]) (fin := [2, 1, 39, 4, 5, 6, 7]) (bf := [[], [0], [0, 1], [0, 1, 2], [0, 1, 2, 3], [], [5], [5, 6], [5, 6, 7], [5, 6, 7, 8], [], [10], [10, 11], [10, 11, 12], [10, 11, 12, 13], [], [15], [15, 16], [15, 16, 17], [15, 16, 17, 18], [], [20], [20, 21], [20, 21, 22], [20, 21, 22, 23], [], [25], [25, 26], [25, 26, 27], [25, 26, 27, 28], [0, 1, 2, 3, 4, 5, 6, 7, 8, 9, 10, 11, 12, 13, 14, 15, 16, 17, 18, 19, 20, 21, 22, 23, 24, 25, 26, 27, 28, 29], [0, 1, 2, 3, 4, 5, 6, 7, 8, 9, 10, 11, 12, 13, 14, 15, 16, 17, 18, 19, 20, 21, 22, 23, 24, 25, 26, 27, 28, 29, 30]]) (by kernel_rfl) (by kernel_rfl) (fun x w h1 h2 => (.cons () (.cons () (.cons () (.cons () (.cons () (.cons () (.cons () (.cons () (.nil ⟨EnvAll.of h1 ⟨rfl, rfl, rfl, rfl, rfl, rfl, rfl, trivial⟩, h2⟩)))))))))) (fun Q => by kernel_rfl) ⟨?_, ?_, ?_, ?_, ?_, ?_, ?_, ?_, ?_, ?_, ?_, ?_, ?_, ?_, ?_, ?_, ?_, ?_, ?_, ?_, ?_, ?_, ?_, ?_, ?_, ?_, ?_, ?_, ?_, ?_, ?_, ?_, trivial⟩ ?_
            · rintro Fr _
              refine SO.v rfl (opv_move rfl) ?_
              exact SO.nilZ fun a w h1 h2 h3 h4 h5 => PZ.of h1 h3 h5 (.cons () (.cons () (.nil ⟨EnvAll.of h2 ⟨rfl, rfl, trivial⟩, h4⟩)))
            · rintro Fr _ _
              refine SO.v rfl (opv_idx Try.underlying26 Try.sizeOf27 hF1 rfl rfl hx41) ?_
              exact SO.nilZ fun a w h1 h2 h3 h4 h5 => PZ.of h1 h3 h5 (.cons () (.cons () (.cons () (.nil ⟨EnvAll.of h2 ⟨rfl, rfl, trivial⟩, h4⟩))))
            · rintro Fr _ _
              refine SO.loadI1 (j := 0) rfl Try.isAgg27 (Rd.head hF1) hx41 rfl rfl rfl rfl ?_
              exact SO.nilZ fun a w h1 h2 h3 h4 h5 => PZ.of h1 h3 h5 (.cons () (.cons () (.cons () (.nil ⟨EnvAll.of h2 ⟨rfl, rfl, trivial⟩, h4⟩))))
            · rintro Fr _
              refine SO.v rfl (opv_rem rfl rfl (by decide)) ?_
              exact SO.nilZ fun a w h1 h2 h3 h4 h5 => PZ.of h1 h3 h5 (.cons () (.cons () (.nil ⟨EnvAll.of h2 ⟨rfl, rfl, trivial⟩, h4⟩)))
            · rintro Fr _
              refine SO.v rfl (opv_conv Try.underlying27 Try.underlying3 rfl) ?_
              exact SO.nilZ fun a w h1 h2 h3 h4 h5 => PZ.of h1 h3 h5 (.cons () (.cons () (.nil ⟨EnvAll.of h2 ⟨rfl, rfl, trivial⟩, h4⟩)))
            · rintro Fr _
              refine SO.v rfl (opv_move rfl) ?_
              exact SO.nilZ fun a w h1 h2 h3 h4 h5 => PZ.of h1 h3 h5 (.cons () (.cons () (.nil ⟨EnvAll.of h2 ⟨rfl, rfl, trivial⟩, h4⟩)))
            · rintro Fr _ _
              refine SO.v rfl (opv_idx Try.underlying26 Try.sizeOf27 hF1 rfl rfl hx43) ?_
              exact SO.nilZ fun a w h1 h2 h3 h4 h5 => PZ.of h1 h3 h5 (.cons () (.cons () (.cons () (.nil ⟨EnvAll.of h2 ⟨rfl, rfl, trivial⟩, h4⟩))))
            · rintro Fr _ _
              refine SO.loadI1 (j := 0) rfl Try.isAgg27 (Rd.head hF1) hx43 rfl rfl rfl rfl ?_
              exact SO.nilZ fun a w h1 h2 h3 h4 h5 => PZ.of h1 h3 h5 (.cons () (.cons () (.cons () (.nil ⟨EnvAll.of h2 ⟨rfl, rfl, trivial⟩, h4⟩))))
            · rintro Fr _
              refine SO.v rfl (opv_quo rfl rfl (by decide)) ?_
              exact SO.nilZ fun a w h1 h2 h3 h4 h5 => PZ.of h1 h3 h5 (.cons () (.cons () (.nil ⟨EnvAll.of h2 ⟨rfl, rfl, trivial⟩, h4⟩)))
            · rintro Fr _
              refine SO.v rfl (opv_conv Try.underlying27 Try.underlying3 rfl) ?_
              exact SO.nilZ fun a w h1 h2 h3 h4 h5 => PZ.of h1 h3 h5 (.cons () (.cons () (.nil ⟨EnvAll.of h2 ⟨rfl, rfl, trivial⟩, h4⟩)))
            · rintro Fr _
              refine SO.v rfl (opv_move rfl) ?_
              exact SO.nilZ fun a w h1 h2 h3 h4 h5 => PZ.of h1 h3 h5 (.cons () (.cons () (.nil ⟨EnvAll.of h2 ⟨rfl, rfl, trivial⟩, h4⟩)))
            · rintro Fr _ _
              refine SO.v rfl (opv_idx Try.underlying26 Try.sizeOf27 hF1 rfl rfl hx45) ?_
              exact SO.nilZ fun a w h1 h2 h3 h4 h5 => PZ.of h1 h3 h5 (.cons () (.cons () (.cons () (.nil ⟨EnvAll.of h2 ⟨rfl, rfl, trivial⟩, h4⟩))))
            · rintro Fr _ _
              refine SO.loadI1 (j := 0) rfl Try.isAgg27 (Rd.head hF1) hx45 rfl rfl rfl rfl ?_
              exact SO.nilZ fun a w h1 h2 h3 h4 h5 => PZ.of h1 h3 h5 (.cons () (.cons () (.cons () (.nil ⟨EnvAll.of h2 ⟨rfl, rfl, trivial⟩, h4⟩))))
            · rintro Fr _
              refine SO.v rfl (opv_rem rfl rfl (by decide)) ?_
              exact SO.nilZ fun a w h1 h2 h3 h4 h5 => PZ.of h1 h3 h5 (.cons () (.cons () (.nil ⟨EnvAll.of h2 ⟨rfl, rfl, trivial⟩, h4⟩)))
            · rintro Fr _
              refine SO.v rfl (opv_conv Try.underlying27 Try.underlying3 rfl) ?_
              exact SO.nilZ fun a w h1 h2 h3 h4 h5 => PZ.of h1 h3 h5 (.cons () (.cons () (.nil ⟨EnvAll.of h2 ⟨rfl, rfl, trivial⟩, h4⟩)))
            · rintro Fr _
              refine SO.v rfl (opv_move rfl) ?_
              exact SO.nilZ fun a w h1 h2 h3 h4 h5 => PZ.of h1 h3 h5 (.cons () (.cons () (.nil ⟨EnvAll.of h2 ⟨rfl, rfl, trivial⟩, h4⟩)))
            · rintro Fr _ _
              refine SO.v rfl (opv_idx Try.underlying26 Try.sizeOf27 hF1 rfl rfl hx47) ?_
              exact SO.nilZ fun a w h1 h2 h3 h4 h5 => PZ.of h1 h3 h5 (.cons () (.cons () (.cons () (.nil ⟨EnvAll.of h2 ⟨rfl, rfl, trivial⟩, h4⟩))))
            · rintro Fr _ _
              refine SO.loadI1 (j := 0) rfl Try.isAgg27 (Rd.head hF1) hx47 rfl rfl rfl rfl ?_
              exact SO.nilZ fun a w h1 h2 h3 h4 h5 => PZ.of h1 h3 h5 (.cons () (.cons () (.cons () (.nil ⟨EnvAll.of h2 ⟨rfl, rfl, trivial⟩, h4⟩))))
            · rintro Fr _
              refine SO.v rfl (opv_quo rfl rfl (by decide)) ?_
              exact SO.nilZ fun a w h1 h2 h3 h4 h5 => PZ.of h1 h3 h5 (.cons () (.cons () (.nil ⟨EnvAll.of h2 ⟨rfl, rfl, trivial⟩, h4⟩)))
            · rintro Fr _
              refine SO.v rfl (opv_conv Try.underlying27 Try.underlying3 rfl) ?_
              exact SO.nilZ fun a w h1 h2 h3 h4 h5 => PZ.of h1 h3 h5 (.cons () (.cons () (.nil ⟨EnvAll.of h2 ⟨rfl, rfl, trivial⟩, h4⟩)))
            · rintro Fr _
              refine SO.v rfl (opv_move rfl) ?_
              exact SO.nilZ fun a w h1 h2 h3 h4 h5 => PZ.of h1 h3 h5 (.cons () (.cons () (.nil ⟨EnvAll.of h2 ⟨rfl, rfl, trivial⟩, h4⟩)))
            · rintro Fr _ _
              refine SO.v rfl (opv_idx Try.underlying26 Try.sizeOf27 hF1 rfl rfl hx49) ?_
              exact SO.nilZ fun a w h1 h2 h3 h4 h5 => PZ.of h1 h3 h5 (.cons () (.cons () (.cons () (.nil ⟨EnvAll.of h2 ⟨rfl, rfl, trivial⟩, h4⟩))))
            · rintro Fr _ _
              refine SO.loadI1 (j := 0) rfl Try.isAgg27 (Rd.head hF1) hx49 rfl rfl rfl rfl ?_
              exact SO.nilZ fun a w h1 h2 h3 h4 h5 => PZ.of h1 h3 h5 (.cons () (.cons () (.cons () (.nil ⟨EnvAll.of h2 ⟨rfl, rfl, trivial⟩, h4⟩))))
            · rintro Fr _
              refine SO.v rfl (opv_rem rfl rfl (by decide)) ?_
              exact SO.nilZ fun a w h1 h2 h3 h4 h5 => PZ.of h1 h3 h5 (.cons () (.cons () (.nil ⟨EnvAll.of h2 ⟨rfl, rfl, trivial⟩, h4⟩)))
            · rintro Fr _
              refine SO.v rfl (opv_conv Try.underlying27 Try.underlying3 rfl) ?_
              exact SO.nilZ fun a w h1 h2 h3 h4 h5 => PZ.of h1 h3 h5 (.cons () (.cons () (.nil ⟨EnvAll.of h2 ⟨rfl, rfl, trivial⟩, h4⟩)))
            · rintro Fr _
              refine SO.v rfl (opv_move rfl) ?_
              exact SO.nilZ fun a w h1 h2 h3 h4 h5 => PZ.of h1 h3 h5 (.cons () (.cons () (.nil ⟨EnvAll.of h2 ⟨rfl, rfl, trivial⟩, h4⟩)))
            · rintro Fr _ _
              refine SO.v rfl (opv_idx Try.underlying26 Try.sizeOf27 hF1 rfl rfl hx51) ?_
              exact SO.nilZ fun a w h1 h2 h3 h4 h5 => PZ.of h1 h3 h5 (.cons () (.cons () (.cons () (.nil ⟨EnvAll.of h2 ⟨rfl, rfl, trivial⟩, h4⟩))))
            · rintro Fr _ _
              refine SO.loadI1 (j := 0) rfl Try.isAgg27 (Rd.head hF1) hx51 rfl rfl rfl rfl ?_
              exact SO.nilZ fun a w h1 h2 h3 h4 h5 => PZ.of h1 h3 h5 (.cons () (.cons () (.cons () (.nil ⟨EnvAll.of h2 ⟨rfl, rfl, trivial⟩, h4⟩))))
            · rintro Fr _
              refine SO.v rfl (opv_quo rfl rfl (by decide)) ?_
              exact SO.nilZ fun a w h1 h2 h3 h4 h5 => PZ.of h1 h3 h5 (.cons () (.cons () (.nil ⟨EnvAll.of h2 ⟨rfl, rfl, trivial⟩, h4⟩)))
            · rintro Fr _
              refine SO.v rfl (opv_conv Try.underlying27 Try.underlying3 rfl) ?_
              exact SO.nilZ fun a w h1 h2 h3 h4 h5 => PZ.of h1 h3 h5 (.cons () (.cons () (.nil ⟨EnvAll.of h2 ⟨rfl, rfl, trivial⟩, h4⟩)))
            · rintro Fr _ _ _ _ _ _
              refine SO.v rfl (opv_build (v := .agg #[.int .i64 (w64 (x40.tmod 256)), .int .i64 (w64 (wu64 (x42.tdiv 256))), .int .i64 (w64 (x44.tmod 4294967296)), .int .i64 (w64 (wu64 (x46.tdiv 4294967296))), .int .i64 (w64 (x48.tmod 4294967296)), .int .i64 (w64 (wu64 (x50.tdiv 4294967296)))]) rfl (by intro w; kernel_rfl)) ?_
              exact SO.nilZ fun a w h1 h2 h3 h4 h5 => PZ.of h1 h3 h5 (.cons () (.cons () (.cons () (.cons () (.cons () (.cons () (.cons () (.nil ⟨EnvAll.of h2 ⟨rfl, rfl, rfl, rfl, rfl, rfl, rfl, trivial⟩, h4⟩))))))))
            · rintro Fr _ _ _
              refine SO.storeN Try.sizeOf42 rfl rfl rfl rfl rfl rfl ?_
              exact SO.nilZ fun a w h1 h2 h3 h4 h5 => PZ.of h1 h3 h5 (.cons () (.cons () (.cons () (.nil ⟨EnvAll.of h2 ⟨rfl, rfl, trivial⟩, h4⟩))))
            rintro _ _ _ _ _ _ _
            refine S.to (ρ' := [(12, .bool (decide (x37 < 16777216))), (4, .bool false), (5, .bool t2), (9, bp b32 0), (10, errV 48 t30), (11, bp b36 0)]) ⟨rfl, rfl, rfl, rfl, rfl, rfl, trivial⟩ ?_
            refine S.region ?_
            refine SO.loadN rfl Try.isAgg42 Try.sizeOf42 rfl rfl rfl ?_
            obtain ⟨t52, ht53, h⟩ := opt_bind h
            have ct54 := ref10_May.ct _ _ ht53
            dsimp only at ct54
            refine SO.call (pre := []) rfl Try.call26 rfl rfl rfl ct54 trivial ?_
            rintro _ _ ⟨rfl, rfl⟩
            refine SO.v rfl (opv_assign rfl) ?_
            refine SO.nil ?_
            cases h
            refine S.b4 ?_
            refine S.b4 ?_
            refine S.b4 ?_
            refine S.b4 ?_
            refine S.b4 ?_
            refine S.to ?_ (hk3 () trivial)
            exact ⟨rfl, rfl, rfl, rfl, rfl, rfl, trivial⟩
          · replace h := cond_f b39 h
            refine S.condF rfl b39 ?_
            refine S.skip ?_
            cases h
            refine S.b4 ?_
            refine S.b4 ?_
            refine S.b4 ?_
            refine S.b4 ?_
            refine S.b4 ?_
            refine S.to ?_ (hk3 () trivial)
            exact ⟨rfl, rfl, rfl, rfl, rfl, rfl, trivial⟩
        rintro _ -
        replace h := hJ3
        refine S.seq ?_
        refine S.seq ?_
        refine S.region ?_
        refine SO.v rfl (opv_move rfl) ?_
        refine SO.v rfl (opv_not rfl) ?_
        refine SO.nil ?_
        rcases bool_or (!j12_3) with b55 | b55
        · replace h := cond_t b55 h
          refine S.condT rfl b55 ?_
          refine S.seq ?_
          refine S.region ?_
          refine SO.v rfl (opv_move rfl) ?_
          refine SO.v rfl (opv_move rfl) ?_
          refine SO.cut 4 150 (.bool (t2 && (t30 == some 1))) [Box b36 [.int .i64 y36_0_3, .int .i64 y36_1_3, .int .i64 y36_2_3, .int .i64 y36_3_3, .int .i64 y36_4_3, .int .i64 y36_5_3], Box b32 [.int .i64 t29.Op, .int .i64 t29.Cap, .int .i64 t29.A, .int .i64 t29.B, .int .i64 t29.C, .int .i64 t29.D], Box b1 [.int .i64 a0.Op, .int .i64 a0.Cap, .int .i64 a0.A, .int .i64 a0.B, .int .i64 a0.C, .int .i64 a0.D], Own 27 (ekI .u64) v10 t7, F] (fun l2 hk2 => ?_) ?_
          · rcases bool_or t2 with b56 | b56
            · refine SO.takeT rfl rfl rfl b56 ?_
              refine SO.v rfl (opv_move rfl) ?_
              refine SO.takeT rfl rfl rfl b56 ?_
              refine SO.v rfl (opv_iface Try.underlying48 rfl rfl) ?_
              refine SO.takeT rfl rfl rfl b56 ?_
              refine SO.v rfl (opv_eqlE (e := t30) (c := 1) Try.underlying45 Try.underlying48 inf48 rfl rfl rfl) ?_
              refine SO.v rfl (opv_pick_t' b56 rfl rfl) ?_
              refine SO.b4 ?_
              refine SO.b4 ?_
              refine SO.b4 ?_
              refine SO.b4 ?_
              refine SO.b4 ?_
              exact hk2.fitc (m := 4) rfl (and_t b56) rfl
            · refine SO.passF rfl rfl rfl b56 rfl rfl ?_
              refine SO.passF rfl rfl rfl b56 rfl rfl ?_
              refine SO.passF rfl rfl rfl b56 rfl rfl ?_
              refine SO.v rfl (opv_pick_f' b56 rfl rfl) ?_
              refine SO.b4 ?_
              refine SO.b4 ?_
              refine SO.b4 ?_
              refine SO.b4 ?_
              refine SO.b4 ?_
              exact hk2.fitc (m := 4) rfl (and_f b56) rfl
          refine SO.v rfl (opv_move rfl) ?_
          obtain ⟨c58, hc59, hgk⟩ := opt_bind h
          refine SO.cut 4 155 (.bool c58) [Box b36 [.int .i64 y36_0_3, .int .i64 y36_1_3, .int .i64 y36_2_3, .int .i64 y36_3_3, .int .i64 y36_4_3, .int .i64 y36_5_3], Box b32 [.int .i64 t29.Op, .int .i64 t29.Cap, .int .i64 t29.A, .int .i64 t29.B, .int .i64 t29.C, .int .i64 t29.D], Box b1 [.int .i64 a0.Op, .int .i64 a0.Cap, .int .i64 a0.A, .int .i64 a0.B, .int .i64 a0.C, .int .i64 a0.D], Own 27 (ekI .u64) v10 t7, F] (fun l2 hk2 => ?_) ?_
          · clear hgk
            replace h := hc59
            rcases bool_or (t2 && (t30 == some 1)) with b57 | b57
            · replace h := cond_t b57 h
              refine SO.takeT rfl rfl rfl b57 ?_
              refine SO.b1 ?_
              refine SO.loadN rfl Try.isAgg42 Try.sizeOf42 rfl rfl rfl ?_
              refine SO.takeT rfl rfl rfl b57 ?_
              refine SO.v rfl (opv_build (v := .agg #[.int .i64 0, .int .i64 0, .int .i64 0, .int .i64 0, .int .i64 0, .int .i64 0]) rfl (by intro w; kernel_rfl)) ?_
              refine SO.takeT rfl rfl rfl b57 ?_
              refine SO.v rfl (eq_eql_api_Call (x := t29) (y := (⟨0, 0, 0, 0, 0, 0⟩ : api_Call)) rfl rfl) ?_
              cases h
              refine SO.v rfl (opv_pick_t' b57 rfl rfl) ?_
              refine SO.b4 ?_
              refine SO.b4 ?_
              refine SO.b4 ?_
              refine SO.b3 ?_
              refine SO.b4 ?_
              exact hk2.fitc (m := 4) rfl (rfl) rfl
            · replace h := cond_f b57 h
              refine SO.passF rfl rfl rfl b57 rfl rfl ?_
              refine SO.passF rfl rfl rfl b57 rfl rfl ?_
              refine SO.passF rfl rfl rfl b57 rfl rfl ?_
              cases h
              refine SO.v rfl (opv_pick_f' b57 rfl rfl) ?_
              refine SO.b4 ?_
              refine SO.b4 ?_
              refine SO.b4 ?_
              refine SO.b4 ?_
              refine SO.b4 ?_
              exact hk2.fitc (m := 4) rfl (rfl) rfl
          clear hc59
          replace h := hgk
          refine SO.v rfl (opv_assign rfl) ?_
          refine SO.nil ?_
          refine S.to (ρ' := [(4, .bool c58), (5, .bool t2), (9, bp b32 0), (10, errV 48 t30), (11, bp b36 0)]) ⟨rfl, rfl, rfl, rfl, rfl, trivial⟩ ?_
          cases h
          refine S.drop ?_
          refine S.drop ?_
          refine S.drop ?_
          refine S.drop ?_
          exact S.ret1 Try.func6 rfl rfl (fun w hs hk => hR w _ _ ⟨rfl, rfl⟩ hs hk)
        · replace h := cond_f b55 h
          refine S.condF rfl b55 ?_
          refine S.skip ?_
          refine S.seq ?_
          refine S.region ?_
          refine SO.v rfl (opv_move rfl) ?_
          refine SO.v rfl (opv_move rfl) ?_
          refine SO.cut 3 160 (.bool (t2 && t30.isNone)) [Box b36 [.int .i64 y36_0_3, .int .i64 y36_1_3, .int .i64 y36_2_3, .int .i64 y36_3_3, .int .i64 y36_4_3, .int .i64 y36_5_3], Box b32 [.int .i64 t29.Op, .int .i64 t29.Cap, .int .i64 t29.A, .int .i64 t29.B, .int .i64 t29.C, .int .i64 t29.D], Box b1 [.int .i64 a0.Op, .int .i64 a0.Cap, .int .i64 a0.A, .int .i64 a0.B, .int .i64 a0.C, .int .i64 a0.D], Own 27 (ekI .u64) v10 t7, F] (fun l2 hk2 => ?_) ?_
          · rcases bool_or t2 with b60 | b60
            · refine SO.takeT rfl rfl rfl b60 ?_
              refine SO.v rfl (opv_move rfl) ?_
              refine SO.takeT rfl rfl rfl b60 ?_
              refine SO.v rfl (opv_eqlN (e := t30) Try.underlying45 rfl) ?_
              refine SO.v rfl (opv_pick_t' b60 rfl rfl) ?_
              refine SO.b4 ?_
              refine SO.b4 ?_
              refine SO.b4 ?_
              refine SO.b4 ?_
              refine SO.b4 ?_
              exact hk2.fitc (m := 3) rfl (and_t b60) rfl
            · refine SO.passF rfl rfl rfl b60 rfl rfl ?_
              refine SO.passF rfl rfl rfl b60 rfl rfl ?_
              refine SO.v rfl (opv_pick_f' b60 rfl rfl) ?_
              refine SO.b4 ?_
              refine SO.b4 ?_
              refine SO.b4 ?_
              refine SO.b4 ?_
              refine SO.b4 ?_
              exact hk2.fitc (m := 3) rfl (and_f b60) rfl
          refine SO.v rfl (opv_move rfl) ?_
          refine SO.cut 4 165 (.bool ((t2 && t30.isNone) && (decide (t29 = (⟨y36_0_3, y36_1_3, y36_2_3, y36_3_3, y36_4_3, y36_5_3⟩ : api_Call))))) [Box b36 [.int .i64 y36_0_3, .int .i64 y36_1_3, .int .i64 y36_2_3, .int .i64 y36_3_3, .int .i64 y36_4_3, .int .i64 y36_5_3], Box b32 [.int .i64 t29.Op, .int .i64 t29.Cap, .int .i64 t29.A, .int .i64 t29.B, .int .i64 t29.C, .int .i64 t29.D], Box b1 [.int .i64 a0.Op, .int .i64 a0.Cap, .int .i64 a0.A, .int .i64 a0.B, .int .i64 a0.C, .int .i64 a0.D], Own 27 (ekI .u64) v10 t7, F] (fun l2 hk2 => ?_) ?_
          · rcases bool_or (t2 && t30.isNone) with b61 | b61
            · refine SO.takeT rfl rfl rfl b61 ?_
              refine SO.b1 ?_
              refine SO.loadN rfl Try.isAgg42 Try.sizeOf42 rfl rfl rfl ?_
              refine SO.takeT rfl rfl rfl b61 ?_
              refine SO.b1 ?_
              refine SO.loadN rfl Try.isAgg42 Try.sizeOf42 rfl rfl rfl ?_
              refine SO.takeT rfl rfl rfl b61 ?_
              refine SO.v rfl (eq_eql_api_Call (x := t29) (y := (⟨y36_0_3, y36_1_3, y36_2_3, y36_3_3, y36_4_3, y36_5_3⟩ : api_Call)) rfl rfl) ?_
              refine SO.v rfl (opv_pick_t' b61 rfl rfl) ?_
              refine SO.b4 ?_
              refine SO.b4 ?_
              refine SO.b4 ?_
              refine SO.b4 ?_
              refine SO.b4 ?_
              exact hk2.fitc (m := 4) rfl (and_t b61) rfl
            · refine SO.passF rfl rfl rfl b61 rfl rfl ?_
              refine SO.passF rfl rfl rfl b61 rfl rfl ?_
              refine SO.passF rfl rfl rfl b61 rfl rfl ?_
              refine SO.v rfl (opv_pick_f' b61 rfl rfl) ?_
              refine SO.b4 ?_
              refine SO.b4 ?_
              refine SO.b4 ?_
              refine SO.b4 ?_
              refine SO.b4 ?_
              exact hk2.fitc (m := 4) rfl (and_f b61) rfl
          refine SO.v rfl (opv_assign rfl) ?_
          refine SO.nil ?_
          refine S.to (ρ' := [(4, .bool ((t2 && t30.isNone) && (decide (t29 = (⟨y36_0_3, y36_1_3, y36_2_3, y36_3_3, y36_4_3, y36_5_3⟩ : api_Call)))))]) ⟨rfl, trivial⟩ ?_
          cases h
          refine S.drop ?_
          refine S.drop ?_
          refine S.drop ?_
          refine S.drop ?_
          exact S.ret1 Try.func6 rfl rfl (fun w hs hk => hR w _ _ ⟨rfl, rfl⟩ hs hk)
end Go.Proofs
namespace Go.Proofs
open Go.Sl Go.RowKit
/-! 50 padstone/call.Unpack -/
def call_Unpack.f (a0 : Int) : Option (api_Reply × (Option Int)) :=
  bif decide (a0 < 0) then (some ((⟨0, 0, 0⟩ : api_Reply), (some 1))) else ((call_fits.f (⟨band .i64 a0 15, band .i64 (bshr .i64 a0 4) 2147483647, bshr .i64 a0 35⟩ : api_Reply)).bind fun t4 => bif !t4 then (some ((⟨0, 0, 0⟩ : api_Reply), (some 1))) else (some ((⟨band .i64 a0 15, band .i64 (bshr .i64 a0 4) 2147483647, bshr .i64 a0 35⟩ : api_Reply), none)))
set_option maxHeartbeats 8000000 in
set_option maxRecDepth 100000 in
theorem call_Unpack.ct (a0 : Int) (r0 : api_Reply) (r1 : Option Int) (h : call_Unpack.f a0 = some (r0, r1)) :
    Ct Try.prog 50 [.int .i64 a0] (fun _ => True) [] (fun u H' => u = .tuple #[.agg #[.int .i64 r0.Code, .int .i64 r0.Word, .int .i64 r0.Badge], errV 48 r1] ∧ H' = []) := by
  unfold call_Unpack.f at h
  refine Ct.intro (n := 23) Try.func50 rfl rfl rfl ?_
  intro R w0 F hF hR
  refine S.seq ?_
  refine S.region ?_
  refine SO.alloc rfl Try.zeroValue82 rfl (fun b1 => ?_)
  refine SO.v rfl (opv_assign rfl) ?_
  refine SO.nil ?_
  refine S.seq ?_
  refine S.seq ?_
  refine S.region ?_
  refine SO.v rfl (opv_move rfl) ?_
  refine SO.v rfl (opv_lss rfl rfl) ?_
  refine SO.nil ?_
  rcases bool_or (decide (a0 < 0)) with b2 | b2
  · replace h := cond_t b2 h
    refine S.condT rfl b2 ?_
    refine S.seq ?_
    refine S.region ?_
    refine SO.v rfl (opv_build (v := .agg #[.int .i64 0, .int .i64 0, .int .i64 0]) rfl (by intro w; kernel_rfl)) ?_
    refine SO.v rfl (opv_iface Try.underlying48 rfl rfl) ?_
    refine SO.storeN Try.sizeOf82 rfl rfl rfl rfl rfl rfl ?_
    refine SO.v rfl (opv_assign rfl) ?_
    refine SO.nil ?_
    cases h
    refine S.b1 ?_
    refine S.b1 ?_
    exact S.retC1 Try.func50 rfl rfl rfl Try.isAgg82 Try.sizeOf82 rfl rfl (fun w hs hk => hR w _ _ ⟨rfl, rfl⟩ hs.drop hk)
  · replace h := cond_f b2 h
    refine S.condF rfl b2 ?_
    refine S.skip ?_
    refine S.seq ?_
    refine S.region ?_
    refine SO.v rfl (opv_move rfl) ?_
    refine SO.v rfl (opv_and rfl rfl) ?_
    refine SO.v rfl (opv_move rfl) ?_
    refine SO.v rfl (opv_shr rfl rfl (by decide)) ?_
    refine SO.v rfl (opv_and rfl rfl) ?_
    refine SO.v rfl (opv_move rfl) ?_
    refine SO.v rfl (opv_shr rfl rfl (by decide)) ?_
    refine SO.v rfl (opv_build (v := .agg #[.int .i64 (band .i64 a0 15), .int .i64 (band .i64 (bshr .i64 a0 4) 2147483647), .int .i64 (bshr .i64 a0 35)]) rfl (by intro w; kernel_rfl)) ?_
    refine SO.alloc rfl Try.zeroValue82 rfl (fun b3 => ?_)
    refine SO.storeN Try.sizeOf82 rfl rfl rfl rfl rfl rfl ?_
    refine SO.nil ?_
    refine S.to (ρ' := [(2, bp b1 0), (3, errV 48 none), (4, bp b3 0)]) ⟨rfl, rfl, rfl, trivial⟩ ?_
    refine S.seq ?_
    refine S.seq ?_
    refine S.region ?_
    refine SO.loadN rfl Try.isAgg82 Try.sizeOf82 rfl rfl rfl ?_
    obtain ⟨t4, ht5, h⟩ := opt_bind h
    have ct7 := call_fits.ct _ _ ht5
    dsimp only at ct7
    refine SO.call (pre := []) rfl Try.call73 rfl rfl rfl ct7 trivial ?_
    rintro _ _ ⟨rfl, rfl⟩
    refine SO.v rfl (opv_not rfl) ?_
    refine SO.nil ?_
    rcases bool_or (!t4) with b6 | b6
    · replace h := cond_t b6 h
      refine S.condT rfl b6 ?_
      refine S.seq ?_
      refine S.region ?_
      refine SO.v rfl (opv_build (v := .agg #[.int .i64 0, .int .i64 0, .int .i64 0]) rfl (by intro w; kernel_rfl)) ?_
      refine SO.v rfl (opv_iface Try.underlying48 rfl rfl) ?_
      refine SO.b1 ?_
      refine SO.storeN Try.sizeOf82 rfl rfl rfl rfl rfl rfl ?_
      refine SO.v rfl (opv_assign rfl) ?_
      refine SO.nil ?_
      cases h
      refine S.b1 ?_
      refine S.drop ?_
      refine S.b1 ?_
      refine S.b1 ?_
      exact S.retC1 Try.func50 rfl rfl rfl Try.isAgg82 Try.sizeOf82 rfl rfl (fun w hs hk => hR w _ _ ⟨rfl, rfl⟩ hs.drop hk)
    · replace h := cond_f b6 h
      refine S.condF rfl b6 ?_
      refine S.skip ?_
      refine S.seq ?_
      refine S.region ?_
      refine SO.loadN rfl Try.isAgg82 Try.sizeOf82 rfl rfl rfl ?_
      refine SO.b1 ?_
      refine SO.storeN Try.sizeOf82 rfl rfl rfl rfl rfl rfl ?_
      refine SO.v rfl (opv_assign rfl) ?_
      refine SO.nil ?_
      cases h
      refine S.b1 ?_
      refine S.drop ?_
      refine S.b1 ?_
      refine S.b1 ?_
      exact S.retC1 Try.func50 rfl rfl rfl Try.isAgg82 Try.sizeOf82 rfl rfl (fun w hs hk => hR w _ _ ⟨rfl, rfl⟩ hs.drop hk)
end Go.Proofs
