/- What the functions that RightsLess reaches come to, and that they do. On no condition. -/
import Derived.Test.YtnkgafjmladidaaSlDraw
import Derived.Test.YtnkgafjmladidaaProg
set_option linter.all false
namespace Go.Proofs
open Go.Sl Go.RowKit
theorem inf3 : Try.prog.info? 3 = some Try.t3 := by kernel_rfl
theorem inf48 : Try.prog.info? 48 = some Try.t48 := by kernel_rfl
structure api_Call where
  Op : Int
  Cap : Int
  A : Int
  B : Int
  C : Int
  D : Int
  deriving DecidableEq, Inhabited
def ek_api_Call : EK api_Call := ⟨6, fun x => [.int .i64 x.Op, .int .i64 x.Cap, .int .i64 x.A, .int .i64 x.B, .int .i64 x.C, .int .i64 x.D], fun _ => rfl, fun x v hv => by
  simp only [List.mem_cons, List.not_mem_nil, or_false] at hv
  rcases hv with rfl | rfl | rfl | rfl | rfl | rfl <;> rfl, by decide⟩
theorem eqI_api_Call (x y : api_Call) : eqI [x.Op, x.Cap, x.A, x.B, x.C, x.D] [y.Op, y.Cap, y.A, y.B, y.C, y.D] = decide (x = y) := by
  cases x; cases y
  rw [Bool.eq_iff_iff]
  simp [eqI]
theorem fi_api_Call : ∀ fs, Try.prog.underlying 42 = some (.struct fs) → FI Try.prog fs.toList 0 [.i64, .i64, .i64, .i64, .i64, .i64] := by
  intro fs h
  rw [Try.underlying42] at h
  injection h with h
  injection h with h
  subst h
  exact ⟨by decide, Try.underlying3, rfl, ⟨by decide, Try.underlying3, rfl, ⟨by decide, Try.underlying3, rfl, ⟨by decide, Try.underlying3, rfl, ⟨by decide, Try.underlying3, rfl, ⟨by decide, Try.underlying3, rfl, trivial⟩⟩⟩⟩⟩⟩
theorem eq_eql_api_Call {ρ : Env} {t2 : TypeId} {x y : api_Call} {a b : Operand} (ha : ev ρ a = some (.agg (encI [.i64, .i64, .i64, .i64, .i64, .i64] [x.Op, x.Cap, x.A, x.B, x.C, x.D]).toArray)) (hb : ev ρ b = some (.agg (encI [.i64, .i64, .i64, .i64, .i64, .i64] [y.Op, y.Cap, y.A, y.B, y.C, y.D]).toArray)) : OpV Try.prog ρ (.binOp .eql 42 a b t2) (.bool (decide (x = y))) :=
  opv_eqlS Try.underlying42 Try.stoodInHeld42 Try.eqGuardType42 (fi_api_Call _ Try.underlying42) rfl rfl ha hb (by rw [eqI_api_Call])
theorem eq_neq_api_Call {ρ : Env} {t2 : TypeId} {x y : api_Call} {a b : Operand} (ha : ev ρ a = some (.agg (encI [.i64, .i64, .i64, .i64, .i64, .i64] [x.Op, x.Cap, x.A, x.B, x.C, x.D]).toArray)) (hb : ev ρ b = some (.agg (encI [.i64, .i64, .i64, .i64, .i64, .i64] [y.Op, y.Cap, y.A, y.B, y.C, y.D]).toArray)) : OpV Try.prog ρ (.binOp .neq 42 a b t2) (.bool (!decide (x = y))) :=
  opv_neqS Try.underlying42 Try.stoodInHeld42 Try.eqGuardType42 (fi_api_Call _ Try.underlying42) rfl rfl ha hb (by rw [eqI_api_Call])
structure api_Reply where
  Code : Int
  Word : Int
  Badge : Int
  deriving DecidableEq, Inhabited
def ek_api_Reply : EK api_Reply := ⟨3, fun x => [.int .i64 x.Code, .int .i64 x.Word, .int .i64 x.Badge], fun _ => rfl, fun x v hv => by
  simp only [List.mem_cons, List.not_mem_nil, or_false] at hv
  rcases hv with rfl | rfl | rfl <;> rfl, by decide⟩
theorem eqI_api_Reply (x y : api_Reply) : eqI [x.Code, x.Word, x.Badge] [y.Code, y.Word, y.Badge] = decide (x = y) := by
  cases x; cases y
  rw [Bool.eq_iff_iff]
  simp [eqI]
theorem fi_api_Reply : ∀ fs, Try.prog.underlying 82 = some (.struct fs) → FI Try.prog fs.toList 0 [.i64, .i64, .i64] := by
  intro fs h
  rw [Try.underlying82] at h
  injection h with h
  injection h with h
  subst h
  exact ⟨by decide, Try.underlying3, rfl, ⟨by decide, Try.underlying3, rfl, ⟨by decide, Try.underlying3, rfl, trivial⟩⟩⟩
theorem eq_eql_api_Reply {ρ : Env} {t2 : TypeId} {x y : api_Reply} {a b : Operand} (ha : ev ρ a = some (.agg (encI [.i64, .i64, .i64] [x.Code, x.Word, x.Badge]).toArray)) (hb : ev ρ b = some (.agg (encI [.i64, .i64, .i64] [y.Code, y.Word, y.Badge]).toArray)) : OpV Try.prog ρ (.binOp .eql 82 a b t2) (.bool (decide (x = y))) :=
  opv_eqlS Try.underlying82 Try.stoodInHeld82 Try.eqGuardType82 (fi_api_Reply _ Try.underlying82) rfl rfl ha hb (by rw [eqI_api_Reply])
theorem eq_neq_api_Reply {ρ : Env} {t2 : TypeId} {x y : api_Reply} {a b : Operand} (ha : ev ρ a = some (.agg (encI [.i64, .i64, .i64] [x.Code, x.Word, x.Badge]).toArray)) (hb : ev ρ b = some (.agg (encI [.i64, .i64, .i64] [y.Code, y.Word, y.Badge]).toArray)) : OpV Try.prog ρ (.binOp .neq 82 a b t2) (.bool (!decide (x = y))) :=
  opv_neqS Try.underlying82 Try.stoodInHeld82 Try.eqGuardType82 (fi_api_Reply _ Try.underlying82) rfl rfl ha hb (by rw [eqI_api_Reply])
structure api_Cap where
  Kind : Int
  Rights : Int
  Obj : Int
  Badge : Int
  Guard : Int
  Bits : Int
  deriving DecidableEq, Inhabited
def ek_api_Cap : EK api_Cap := ⟨6, fun x => [.int .i64 x.Kind, .int .i64 x.Rights, .int .i64 x.Obj, .int .i64 x.Badge, .int .i64 x.Guard, .int .i64 x.Bits], fun _ => rfl, fun x v hv => by
  simp only [List.mem_cons, List.not_mem_nil, or_false] at hv
  rcases hv with rfl | rfl | rfl | rfl | rfl | rfl <;> rfl, by decide⟩
theorem eqI_api_Cap (x y : api_Cap) : eqI [x.Kind, x.Rights, x.Obj, x.Badge, x.Guard, x.Bits] [y.Kind, y.Rights, y.Obj, y.Badge, y.Guard, y.Bits] = decide (x = y) := by
  cases x; cases y
  rw [Bool.eq_iff_iff]
  simp [eqI]
theorem fi_api_Cap : ∀ fs, Try.prog.underlying 53 = some (.struct fs) → FI Try.prog fs.toList 0 [.i64, .i64, .i64, .i64, .i64, .i64] := by
  intro fs h
  rw [Try.underlying53] at h
  injection h with h
  injection h with h
  subst h
  exact ⟨by decide, Try.underlying3, rfl, ⟨by decide, Try.underlying3, rfl, ⟨by decide, Try.underlying3, rfl, ⟨by decide, Try.underlying3, rfl, ⟨by decide, Try.underlying3, rfl, ⟨by decide, Try.underlying3, rfl, trivial⟩⟩⟩⟩⟩⟩
theorem eq_eql_api_Cap {ρ : Env} {t2 : TypeId} {x y : api_Cap} {a b : Operand} (ha : ev ρ a = some (.agg (encI [.i64, .i64, .i64, .i64, .i64, .i64] [x.Kind, x.Rights, x.Obj, x.Badge, x.Guard, x.Bits]).toArray)) (hb : ev ρ b = some (.agg (encI [.i64, .i64, .i64, .i64, .i64, .i64] [y.Kind, y.Rights, y.Obj, y.Badge, y.Guard, y.Bits]).toArray)) : OpV Try.prog ρ (.binOp .eql 53 a b t2) (.bool (decide (x = y))) :=
  opv_eqlS Try.underlying53 Try.stoodInHeld53 Try.eqGuardType53 (fi_api_Cap _ Try.underlying53) rfl rfl ha hb (by rw [eqI_api_Cap])
theorem eq_neq_api_Cap {ρ : Env} {t2 : TypeId} {x y : api_Cap} {a b : Operand} (ha : ev ρ a = some (.agg (encI [.i64, .i64, .i64, .i64, .i64, .i64] [x.Kind, x.Rights, x.Obj, x.Badge, x.Guard, x.Bits]).toArray)) (hb : ev ρ b = some (.agg (encI [.i64, .i64, .i64, .i64, .i64, .i64] [y.Kind, y.Rights, y.Obj, y.Badge, y.Guard, y.Bits]).toArray)) : OpV Try.prog ρ (.binOp .neq 53 a b t2) (.bool (!decide (x = y))) :=
  opv_neqS Try.underlying53 Try.stoodInHeld53 Try.eqGuardType53 (fi_api_Cap _ Try.underlying53) rfl rfl ha hb (by rw [eqI_api_Cap])
end Go.Proofs
namespace Go.Proofs
open Go.Sl Go.RowKit
/-! 72 padstone/rights.mask -/
def rights_mask.f (a0 : Int) : Option (Bool) :=
  some ((decide (0 ≤ a0)) && (decide (a0 ≤ 7)))
set_option maxHeartbeats 8000000 in
set_option maxRecDepth 100000 in
theorem rights_mask.ct (a0 : Int) (r0 : Bool) (h : rights_mask.f a0 = some r0) :
    Ct Try.prog 72 [.int .i64 a0] (fun _ => True) [] (fun u H' => u = .bool r0 ∧ H' = []) := by
  unfold rights_mask.f at h
  refine Ct.intro (n := 9) Try.func72 rfl rfl rfl ?_
  intro R w0 F hF hR
  refine S.seq ?_
  refine S.region ?_
  refine SO.v rfl (opv_assign rfl) ?_
  refine SO.nil ?_
  refine S.seq ?_
  refine S.region ?_
  refine SO.v rfl (opv_move rfl) ?_
  refine SO.v rfl (opv_geq rfl rfl) ?_
  refine SO.v rfl (opv_move rfl) ?_
  refine SO.cut 3 8 (.bool ((decide (0 ≤ a0)) && (decide (a0 ≤ 7)))) [F] (fun l2 hk2 => ?_) ?_
  · rcases bool_or (decide (0 ≤ a0)) with b1 | b1
    · refine SO.takeT rfl rfl rfl b1 ?_
      refine SO.v rfl (opv_move rfl) ?_
      refine SO.takeT rfl rfl rfl b1 ?_
      refine SO.v rfl (opv_leq rfl rfl) ?_
      refine SO.v rfl (opv_pick_t' b1 rfl rfl) ?_
      exact hk2.fitc (m := 3) rfl (and_t b1) rfl
    · refine SO.passF rfl rfl rfl b1 rfl rfl ?_
      refine SO.passF rfl rfl rfl b1 rfl rfl ?_
      refine SO.v rfl (opv_pick_f' b1 rfl rfl) ?_
      exact hk2.fitc (m := 3) rfl (and_f b1) rfl
  refine SO.v rfl (opv_assign rfl) ?_
  refine SO.nil ?_
  cases h
  exact S.ret1 Try.func72 rfl rfl (fun w hs hk => hR w _ _ ⟨rfl, rfl⟩ hs hk)
end Go.Proofs
namespace Go.Proofs
open Go.Sl Go.RowKit
/-! 69 padstone/pack.May$1 -/
def pack_May_1.f (a0 : Int) (a1 : Int) : Option (Bool) :=
  some ((decide (0 ≤ a0)) && (decide (a0 ≤ a1)))
set_option maxHeartbeats 8000000 in
set_option maxRecDepth 100000 in
theorem pack_May_1.ct (a0 : Int) (a1 : Int) (r0 : Bool) (h : pack_May_1.f a0 a1 = some r0) :
    Ct Try.prog 69 [.int .i64 a0, .int .i64 a1] (fun _ => True) [] (fun u H' => u = .bool r0 ∧ H' = []) := by
  unfold pack_May_1.f at h
  refine Ct.intro (n := 12) Try.func69 rfl rfl rfl ?_
  intro R w0 F hF hR
  refine S.seq ?_
  refine S.region ?_
  refine SO.v rfl (opv_assign rfl) ?_
  refine SO.nil ?_
  refine S.seq ?_
  refine S.region ?_
  refine SO.v rfl (opv_move rfl) ?_
  refine SO.v rfl (opv_geq rfl rfl) ?_
  refine SO.v rfl (opv_move rfl) ?_
  refine SO.cut 4 11 (.bool ((decide (0 ≤ a0)) && (decide (a0 ≤ a1)))) [F] (fun l2 hk2 => ?_) ?_
  · rcases bool_or (decide (0 ≤ a0)) with b1 | b1
    · refine SO.takeT rfl rfl rfl b1 ?_
      refine SO.v rfl (opv_move rfl) ?_
      refine SO.takeT rfl rfl rfl b1 ?_
      refine SO.v rfl (opv_move rfl) ?_
      refine SO.takeT rfl rfl rfl b1 ?_
      refine SO.v rfl (opv_leq rfl rfl) ?_
      refine SO.v rfl (opv_pick_t' b1 rfl rfl) ?_
      exact hk2.fitc (m := 4) rfl (and_t b1) rfl
    · refine SO.passF rfl rfl rfl b1 rfl rfl ?_
      refine SO.passF rfl rfl rfl b1 rfl rfl ?_
      refine SO.passF rfl rfl rfl b1 rfl rfl ?_
      refine SO.v rfl (opv_pick_f' b1 rfl rfl) ?_
      exact hk2.fitc (m := 4) rfl (and_f b1) rfl
  refine SO.v rfl (opv_assign rfl) ?_
  refine SO.nil ?_
  cases h
  exact S.ret1 Try.func69 rfl rfl (fun w hs hk => hR w _ _ ⟨rfl, rfl⟩ hs hk)
end Go.Proofs
namespace Go.Proofs
open Go.Sl Go.RowKit
/-! 33 padstone/pack.May -/
def pack_May.f (a0 : api_Cap) : Option (Bool) :=
  bif a0.Kind == 0 then (some (decide (a0 = (⟨0, 0, 0, 0, 0, 0⟩ : api_Cap)))) else ((pack_May_1.f a0.Kind 8).bind fun t4 => (bif !t4 then (some true) else ((pack_May_1.f a0.Rights 7).bind fun t9 => some (!t9))).bind fun c7 => (bif c7 then (some true) else ((pack_May_1.f a0.Obj 31).bind fun t14 => some (!t14))).bind fun c12 => (bif c12 then (some true) else ((pack_May_1.f a0.Badge 65535).bind fun t19 => some (!t19))).bind fun c17 => (bif c17 then (some true) else ((pack_May_1.f a0.Bits 8).bind fun t24 => some (!t24))).bind fun c22 => bif c22 then (some false) else (bif ((!((a0.Kind == 3) || (a0.Kind == 4))) && (a0.Badge != 0)) || ((a0.Kind != 2) && ((a0.Bits != 0) || (a0.Guard != 0))) then (some false) else ((chk (decide (0 ≤ a0.Bits))).bind fun _ => (pack_May_1.f a0.Guard (w64 ((bshl .i64 1 a0.Bits) - 1))).bind fun t33 => some t33)))
set_option maxHeartbeats 8000000 in
set_option maxRecDepth 100000 in
theorem pack_May.ct (a0 : api_Cap) (r0 : Bool) (h : pack_May.f a0 = some r0) :
    Ct Try.prog 33 [.agg #[.int .i64 a0.Kind, .int .i64 a0.Rights, .int .i64 a0.Obj, .int .i64 a0.Badge, .int .i64 a0.Guard, .int .i64 a0.Bits]] (fun _ => True) [] (fun u H' => u = .bool r0 ∧ H' = []) := by
  unfold pack_May.f at h
  refine Ct.intro (n := 85) Try.func33 rfl rfl rfl ?_
  intro R w0 F hF hR
  refine S.seq ?_
  refine S.region ?_
  refine SO.box rfl rfl rfl (fun b1 => ?_)
  refine SO.v rfl (opv_assign rfl) ?_
  refine SO.nil ?_
  refine S.seq ?_
  refine S.region ?_
  refine SO.v rfl (opv_assign rfl) ?_
  refine SO.nil ?_
  refine S.seq ?_
  refine S.region ?_
  refine SO.v rfl (opv_fieldAddr Try.underlying53 rfl Try.sizeOf3 rfl rfl) ?_
  refine SO.load1 rfl Try.isAgg3 rfl rfl ?_
  refine SO.v rfl (opv_eql rfl rfl) ?_
  refine SO.v rfl (opv_move rfl) ?_
  refine SO.cut 4 12 (.bool ((a0.Kind == 3) || (a0.Kind == 4))) [Box b1 [.int .i64 a0.Kind, .int .i64 a0.Rights, .int .i64 a0.Obj, .int .i64 a0.Badge, .int .i64 a0.Guard, .int .i64 a0.Bits], F] (fun l2 hk2 => ?_) ?_
  · rcases bool_or (a0.Kind == 3) with b2 | b2
    · refine SO.passF rfl rfl rfl b2 rfl rfl ?_
      refine SO.passF rfl rfl rfl b2 rfl rfl ?_
      refine SO.passF rfl rfl rfl b2 rfl rfl ?_
      refine SO.v rfl (opv_pick_t' b2 rfl rfl) ?_
      refine SO.b1 ?_
      refine SO.b1 ?_
      exact hk2.fitc (m := 4) rfl (or_t b2) rfl
    · refine SO.takeT rfl rfl rfl b2 ?_
      refine SO.v rfl (opv_fieldAddr Try.underlying53 rfl Try.sizeOf3 rfl rfl) ?_
      refine SO.takeT rfl rfl rfl b2 ?_
      refine SO.load1 rfl Try.isAgg3 rfl rfl ?_
      refine SO.takeT rfl rfl rfl b2 ?_
      refine SO.v rfl (opv_eql rfl rfl) ?_
      refine SO.v rfl (opv_pick_f' b2 rfl rfl) ?_
      refine SO.b1 ?_
      refine SO.b1 ?_
      exact hk2.fitc (m := 4) rfl (or_f b2) rfl
  refine SO.v rfl (opv_assign rfl) ?_
  refine SO.nil ?_
  refine S.seq ?_
  refine S.block ?_
  refine S.seq ?_
  refine S.region ?_
  refine SO.v rfl (opv_fieldAddr Try.underlying53 rfl Try.sizeOf3 rfl rfl) ?_
  refine SO.load1 rfl Try.isAgg3 rfl rfl ?_
  refine SO.v rfl (opv_eql rfl rfl) ?_
  refine SO.v rfl (opv_assign rfl) ?_
  refine SO.nil ?_
  refine S.to (ρ' := [(1, bp b1 0), (2, .bool false), (3, .func (.func 69) #[] #[]), (4, .bool ((a0.Kind == 3) || (a0.Kind == 4))), (13, .bool (a0.Kind == 0))]) ⟨rfl, rfl, rfl, rfl, rfl, trivial⟩ ?_
  rcases bool_or (a0.Kind == 0) with b3 | b3
  · replace h := cond_t b3 h
    refine S.condT rfl b3 ?_
    refine S.seq ?_
    refine S.region ?_
    refine SO.loadN rfl Try.isAgg53 Try.sizeOf53 rfl rfl rfl ?_
    refine SO.v rfl (opv_build (v := .agg #[.int .i64 0, .int .i64 0, .int .i64 0, .int .i64 0, .int .i64 0, .int .i64 0]) rfl (by intro w; kernel_rfl)) ?_
    refine SO.v rfl (eq_eql_api_Cap (x := a0) (y := (⟨0, 0, 0, 0, 0, 0⟩ : api_Cap)) rfl rfl) ?_
    refine SO.v rfl (opv_assign rfl) ?_
    refine SO.nil ?_
    cases h
    refine S.drop ?_
    exact S.ret1 Try.func33 rfl rfl (fun w hs hk => hR w _ _ ⟨rfl, rfl⟩ hs hk)
  · replace h := cond_f b3 h
    refine S.condF rfl b3 ?_
    refine S.seq ?_
    refine S.region ?_
    refine SO.v rfl (opv_move rfl) ?_
    refine SO.v rfl (opv_fieldAddr Try.underlying53 rfl Try.sizeOf3 rfl rfl) ?_
    refine SO.load1 rfl Try.isAgg3 rfl rfl ?_
    obtain ⟨t4, ht5, h⟩ := opt_bind h
    refine SO.call (pre := []) rfl Try.call69 rfl rfl rfl (pack_May_1.ct _ _ _ ht5) trivial ?_
    rintro _ _ ⟨rfl, rfl⟩
    refine SO.v rfl (opv_not rfl) ?_
    refine SO.v rfl (opv_move rfl) ?_
    obtain ⟨c7, hc8, hgk⟩ := opt_bind h
    refine SO.cut 6 32 (.bool c7) [Box b1 [.int .i64 a0.Kind, .int .i64 a0.Rights, .int .i64 a0.Obj, .int .i64 a0.Badge, .int .i64 a0.Guard, .int .i64 a0.Bits], F] (fun l2 hk2 => ?_) ?_
    · clear hgk
      replace h := hc8
      rcases bool_or (!t4) with b6 | b6
      · replace h := cond_t b6 h
        refine SO.passF rfl rfl rfl b6 rfl rfl ?_
        refine SO.passF rfl rfl rfl b6 rfl rfl ?_
        refine SO.passF rfl rfl rfl b6 rfl rfl ?_
        refine SO.passF rfl rfl rfl b6 rfl rfl ?_
        refine SO.passF rfl rfl rfl b6 rfl rfl ?_
        cases h
        refine SO.v rfl (opv_pick_t' b6 rfl rfl) ?_
        refine SO.b1 ?_
        refine SO.b1 ?_
        exact hk2.fitc (m := 6) rfl (rfl) rfl
      · replace h := cond_f b6 h
        refine SO.takeT rfl rfl rfl b6 ?_
        refine SO.v rfl (opv_move rfl) ?_
        refine SO.takeT rfl rfl rfl b6 ?_
        refine SO.v rfl (opv_fieldAddr Try.underlying53 rfl Try.sizeOf3 rfl rfl) ?_
        refine SO.takeT rfl rfl rfl b6 ?_
        refine SO.load1 rfl Try.isAgg3 rfl rfl ?_
        refine SO.takeT rfl rfl rfl b6 ?_
        obtain ⟨t9, ht10, h⟩ := opt_bind h
        refine SO.call (pre := []) rfl Try.call69 rfl rfl rfl (pack_May_1.ct _ _ _ ht10) trivial ?_
        rintro _ _ ⟨rfl, rfl⟩
        refine SO.takeT rfl rfl rfl b6 ?_
        refine SO.v rfl (opv_not rfl) ?_
        cases h
        refine SO.v rfl (opv_pick_f' b6 rfl rfl) ?_
        refine SO.b1 ?_
        refine SO.b1 ?_
        exact hk2.fitc (m := 6) rfl (rfl) rfl
    clear hc8
    replace h := hgk
    refine SO.v rfl (opv_move rfl) ?_
    obtain ⟨c12, hc13, hgk⟩ := opt_bind h
    refine SO.cut 6 39 (.bool c12) [Box b1 [.int .i64 a0.Kind, .int .i64 a0.Rights, .int .i64 a0.Obj, .int .i64 a0.Badge, .int .i64 a0.Guard, .int .i64 a0.Bits], F] (fun l2 hk2 => ?_) ?_
    · clear hgk
      replace h := hc13
      rcases bool_or c7 with b11 | b11
      · replace h := cond_t b11 h
        refine SO.passF rfl rfl rfl b11 rfl rfl ?_
        refine SO.passF rfl rfl rfl b11 rfl rfl ?_
        refine SO.passF rfl rfl rfl b11 rfl rfl ?_
        refine SO.passF rfl rfl rfl b11 rfl rfl ?_
        refine SO.passF rfl rfl rfl b11 rfl rfl ?_
        cases h
        refine SO.v rfl (opv_pick_t' b11 rfl rfl) ?_
        refine SO.b1 ?_
        refine SO.b1 ?_
        exact hk2.fitc (m := 6) rfl (rfl) rfl
      · replace h := cond_f b11 h
        refine SO.takeT rfl rfl rfl b11 ?_
        refine SO.v rfl (opv_move rfl) ?_
        refine SO.takeT rfl rfl rfl b11 ?_
        refine SO.v rfl (opv_fieldAddr Try.underlying53 rfl Try.sizeOf3 rfl rfl) ?_
        refine SO.takeT rfl rfl rfl b11 ?_
        refine SO.load1 rfl Try.isAgg3 rfl rfl ?_
        refine SO.takeT rfl rfl rfl b11 ?_
        obtain ⟨t14, ht15, h⟩ := opt_bind h
        refine SO.call (pre := []) rfl Try.call69 rfl rfl rfl (pack_May_1.ct _ _ _ ht15) trivial ?_
        rintro _ _ ⟨rfl, rfl⟩
        refine SO.takeT rfl rfl rfl b11 ?_
        refine SO.v rfl (opv_not rfl) ?_
        cases h
        refine SO.v rfl (opv_pick_f' b11 rfl rfl) ?_
        refine SO.b1 ?_
        refine SO.b1 ?_
        exact hk2.fitc (m := 6) rfl (rfl) rfl
    clear hc13
    replace h := hgk
    refine SO.v rfl (opv_move rfl) ?_
    obtain ⟨c17, hc18, hgk⟩ := opt_bind h
    refine SO.cut 6 46 (.bool c17) [Box b1 [.int .i64 a0.Kind, .int .i64 a0.Rights, .int .i64 a0.Obj, .int .i64 a0.Badge, .int .i64 a0.Guard, .int .i64 a0.Bits], F] (fun l2 hk2 => ?_) ?_
    · clear hgk
      replace h := hc18
      rcases bool_or c12 with b16 | b16
      · replace h := cond_t b16 h
        refine SO.passF rfl rfl rfl b16 rfl rfl ?_
        refine SO.passF rfl rfl rfl b16 rfl rfl ?_
        refine SO.passF rfl rfl rfl b16 rfl rfl ?_
        refine SO.passF rfl rfl rfl b16 rfl rfl ?_
        refine SO.passF rfl rfl rfl b16 rfl rfl ?_
        cases h
        refine SO.v rfl (opv_pick_t' b16 rfl rfl) ?_
        refine SO.b1 ?_
        refine SO.b1 ?_
        exact hk2.fitc (m := 6) rfl (rfl) rfl
      · replace h := cond_f b16 h
        refine SO.takeT rfl rfl rfl b16 ?_
        refine SO.v rfl (opv_move rfl) ?_
        refine SO.takeT rfl rfl rfl b16 ?_
        refine SO.v rfl (opv_fieldAddr Try.underlying53 rfl Try.sizeOf3 rfl rfl) ?_
        refine SO.takeT rfl rfl rfl b16 ?_
        refine SO.load1 rfl Try.isAgg3 rfl rfl ?_
        refine SO.takeT rfl rfl rfl b16 ?_
        obtain ⟨t19, ht20, h⟩ := opt_bind h
        refine SO.call (pre := []) rfl Try.call69 rfl rfl rfl (pack_May_1.ct _ _ _ ht20) trivial ?_
        rintro _ _ ⟨rfl, rfl⟩
        refine SO.takeT rfl rfl rfl b16 ?_
        refine SO.v rfl (opv_not rfl) ?_
        cases h
        refine SO.v rfl (opv_pick_f' b16 rfl rfl) ?_
        refine SO.b1 ?_
        refine SO.b1 ?_
        exact hk2.fitc (m := 6) rfl (rfl) rfl
    clear hc18
    replace h := hgk
    refine SO.v rfl (opv_move rfl) ?_
    obtain ⟨c22, hc23, hgk⟩ := opt_bind h
    refine SO.cut 6 53 (.bool c22) [Box b1 [.int .i64 a0.Kind, .int .i64 a0.Rights, .int .i64 a0.Obj, .int .i64 a0.Badge, .int .i64 a0.Guard, .int .i64 a0.Bits], F] (fun l2 hk2 => ?_) ?_
    · clear hgk
      replace h := hc23
      rcases bool_or c17 with b21 | b21
      · replace h := cond_t b21 h
        refine SO.passF rfl rfl rfl b21 rfl rfl ?_
        refine SO.passF rfl rfl rfl b21 rfl rfl ?_
        refine SO.passF rfl rfl rfl b21 rfl rfl ?_
        refine SO.passF rfl rfl rfl b21 rfl rfl ?_
        refine SO.passF rfl rfl rfl b21 rfl rfl ?_
        cases h
        refine SO.v rfl (opv_pick_t' b21 rfl rfl) ?_
        refine SO.b1 ?_
        refine SO.b1 ?_
        exact hk2.fitc (m := 6) rfl (rfl) rfl
      · replace h := cond_f b21 h
        refine SO.takeT rfl rfl rfl b21 ?_
        refine SO.v rfl (opv_move rfl) ?_
        refine SO.takeT rfl rfl rfl b21 ?_
        refine SO.v rfl (opv_fieldAddr Try.underlying53 rfl Try.sizeOf3 rfl rfl) ?_
        refine SO.takeT rfl rfl rfl b21 ?_
        refine SO.load1 rfl Try.isAgg3 rfl rfl ?_
        refine SO.takeT rfl rfl rfl b21 ?_
        obtain ⟨t24, ht25, h⟩ := opt_bind h
        refine SO.call (pre := []) rfl Try.call69 rfl rfl rfl (pack_May_1.ct _ _ _ ht25) trivial ?_
        rintro _ _ ⟨rfl, rfl⟩
        refine SO.takeT rfl rfl rfl b21 ?_
        refine SO.v rfl (opv_not rfl) ?_
        cases h
        refine SO.v rfl (opv_pick_f' b21 rfl rfl) ?_
        refine SO.b1 ?_
        refine SO.b1 ?_
        exact hk2.fitc (m := 6) rfl (rfl) rfl
    clear hc23
    replace h := hgk
    refine SO.v rfl (opv_assign rfl) ?_
    refine SO.nil ?_
    refine S.to (ρ' := [(1, bp b1 0), (2, .bool false), (3, .func (.func 69) #[] #[]), (4, .bool ((a0.Kind == 3) || (a0.Kind == 4))), (20, .bool c22)]) ⟨rfl, rfl, rfl, rfl, rfl, trivial⟩ ?_
    rcases bool_or c22 with b26 | b26
    · replace h := cond_t b26 h
      refine S.condT rfl b26 ?_
      refine S.seq ?_
      refine S.region ?_
      refine SO.v rfl (opv_assign rfl) ?_
      refine SO.nil ?_
      cases h
      refine S.drop ?_
      exact S.ret1 Try.func33 rfl rfl (fun w hs hk => hR w _ _ ⟨rfl, rfl⟩ hs hk)
    · replace h := cond_f b26 h
      refine S.condF rfl b26 ?_
      refine S.seq ?_
      refine S.region ?_
      refine SO.v rfl (opv_move rfl) ?_
      refine SO.v rfl (opv_not rfl) ?_
      refine SO.v rfl (opv_move rfl) ?_
      refine SO.cut 4 61 (.bool ((!((a0.Kind == 3) || (a0.Kind == 4))) && (a0.Badge != 0))) [Box b1 [.int .i64 a0.Kind, .int .i64 a0.Rights, .int .i64 a0.Obj, .int .i64 a0.Badge, .int .i64 a0.Guard, .int .i64 a0.Bits], F] (fun l2 hk2 => ?_) ?_
      · rcases bool_or (!((a0.Kind == 3) || (a0.Kind == 4))) with b27 | b27
        · refine SO.takeT rfl rfl rfl b27 ?_
          refine SO.v rfl (opv_fieldAddr Try.underlying53 rfl Try.sizeOf3 rfl rfl) ?_
          refine SO.takeT rfl rfl rfl b27 ?_
          refine SO.load1 rfl Try.isAgg3 rfl rfl ?_
          refine SO.takeT rfl rfl rfl b27 ?_
          refine SO.v rfl (opv_neq rfl rfl) ?_
          refine SO.v rfl (opv_pick_t' b27 rfl rfl) ?_
          refine SO.b1 ?_
          refine SO.b1 ?_
          exact hk2.fitc (m := 4) rfl (and_t b27) rfl
        · refine SO.passF rfl rfl rfl b27 rfl rfl ?_
          refine SO.passF rfl rfl rfl b27 rfl rfl ?_
          refine SO.passF rfl rfl rfl b27 rfl rfl ?_
          refine SO.v rfl (opv_pick_f' b27 rfl rfl) ?_
          refine SO.b1 ?_
          refine SO.b1 ?_
          exact hk2.fitc (m := 4) rfl (and_f b27) rfl
      refine SO.v rfl (opv_move rfl) ?_
      refine SO.cut 14 76 (.bool (((!((a0.Kind == 3) || (a0.Kind == 4))) && (a0.Badge != 0)) || ((a0.Kind != 2) && ((a0.Bits != 0) || (a0.Guard != 0))))) [Box b1 [.int .i64 a0.Kind, .int .i64 a0.Rights, .int .i64 a0.Obj, .int .i64 a0.Badge, .int .i64 a0.Guard, .int .i64 a0.Bits], F] (fun l2 hk2 => ?_) ?_
      · rcases bool_or ((!((a0.Kind == 3) || (a0.Kind == 4))) && (a0.Badge != 0)) with b28 | b28
        · refine SO.passF rfl rfl rfl b28 rfl rfl ?_
          refine SO.passF rfl rfl rfl b28 rfl rfl ?_
          refine SO.passF rfl rfl rfl b28 rfl rfl ?_
          refine SO.passF rfl rfl rfl b28 rfl rfl ?_
          refine SO.pass_undef rfl rfl rfl rfl ?_
          refine SO.pass_undef rfl rfl rfl rfl ?_
          refine SO.pass_undef rfl rfl rfl rfl ?_
          refine SO.pass_undef rfl rfl rfl rfl ?_
          refine SO.pass_undef rfl rfl rfl rfl ?_
          refine SO.pass_undef rfl rfl rfl rfl ?_
          refine SO.pass_undef rfl rfl rfl rfl ?_
          refine SO.pass_undef rfl rfl rfl rfl ?_
          refine SO.passF rfl rfl rfl b28 rfl rfl ?_
          refine SO.v rfl (opv_pick_t' b28 rfl rfl) ?_
          refine SO.b1 ?_
          refine SO.b1 ?_
          exact hk2.fitc (m := 14) rfl (or_t b28) rfl
        · refine SO.takeT rfl rfl rfl b28 ?_
          refine SO.v rfl (opv_fieldAddr Try.underlying53 rfl Try.sizeOf3 rfl rfl) ?_
          refine SO.takeT rfl rfl rfl b28 ?_
          refine SO.load1 rfl Try.isAgg3 rfl rfl ?_
          refine SO.takeT rfl rfl rfl b28 ?_
          refine SO.v rfl (opv_neq rfl rfl) ?_
          refine SO.takeT rfl rfl rfl b28 ?_
          refine SO.v rfl (opv_move rfl) ?_
          refine SO.cut 9 75 (.bool ((a0.Kind != 2) && ((a0.Bits != 0) || (a0.Guard != 0)))) [Box b1 [.int .i64 a0.Kind, .int .i64 a0.Rights, .int .i64 a0.Obj, .int .i64 a0.Badge, .int .i64 a0.Guard, .int .i64 a0.Bits], F] (fun l2 hk2 => ?_) ?_
          · rcases bool_or (a0.Kind != 2) with b29 | b29
            · refine SO.takeT rfl rfl rfl b29 ?_
              refine SO.v rfl (opv_fieldAddr Try.underlying53 rfl Try.sizeOf3 rfl rfl) ?_
              refine SO.takeT rfl rfl rfl b29 ?_
              refine SO.load1 rfl Try.isAgg3 rfl rfl ?_
              refine SO.takeT rfl rfl rfl b29 ?_
              refine SO.v rfl (opv_neq rfl rfl) ?_
              refine SO.takeT rfl rfl rfl b29 ?_
              refine SO.v rfl (opv_move rfl) ?_
              refine SO.cut 4 74 (.bool ((a0.Bits != 0) || (a0.Guard != 0))) [Box b1 [.int .i64 a0.Kind, .int .i64 a0.Rights, .int .i64 a0.Obj, .int .i64 a0.Badge, .int .i64 a0.Guard, .int .i64 a0.Bits], F] (fun l2 hk2 => ?_) ?_
              · rcases bool_or (a0.Bits != 0) with b30 | b30
                · refine SO.passF rfl rfl rfl b30 rfl rfl ?_
                  refine SO.passF rfl rfl rfl b30 rfl rfl ?_
                  refine SO.passF rfl rfl rfl b30 rfl rfl ?_
                  refine SO.takeT rfl rfl rfl b29 ?_
                  refine SO.v rfl (opv_pick_t' b30 rfl rfl) ?_
                  refine SO.b1 ?_
                  refine SO.b1 ?_
                  exact hk2.fitc (m := 4) rfl (or_t b30) rfl
                · refine SO.takeT rfl rfl rfl b30 ?_
                  refine SO.v rfl (opv_fieldAddr Try.underlying53 rfl Try.sizeOf3 rfl rfl) ?_
                  refine SO.takeT rfl rfl rfl b30 ?_
                  refine SO.load1 rfl Try.isAgg3 rfl rfl ?_
                  refine SO.takeT rfl rfl rfl b30 ?_
                  refine SO.v rfl (opv_neq rfl rfl) ?_
                  refine SO.takeT rfl rfl rfl b29 ?_
                  refine SO.v rfl (opv_pick_f' b30 rfl rfl) ?_
                  refine SO.b1 ?_
                  refine SO.b1 ?_
                  exact hk2.fitc (m := 4) rfl (or_f b30) rfl
              refine SO.takeT rfl rfl rfl b28 ?_
              refine SO.v rfl (opv_pick_t' b29 rfl rfl) ?_
              refine SO.b1 ?_
              refine SO.b1 ?_
              exact hk2.fitc (m := 6) rfl (and_t b29) rfl
            · refine SO.passF rfl rfl rfl b29 rfl rfl ?_
              refine SO.passF rfl rfl rfl b29 rfl rfl ?_
              refine SO.passF rfl rfl rfl b29 rfl rfl ?_
              refine SO.passF rfl rfl rfl b29 rfl rfl ?_
              refine SO.pass_undef rfl rfl rfl rfl ?_
              refine SO.pass_undef rfl rfl rfl rfl ?_
              refine SO.pass_undef rfl rfl rfl rfl ?_
              refine SO.passF rfl rfl rfl b29 rfl rfl ?_
              refine SO.takeT rfl rfl rfl b28 ?_
              refine SO.v rfl (opv_pick_f' b29 rfl rfl) ?_
              refine SO.b1 ?_
              refine SO.b1 ?_
              exact hk2.fitc (m := 9) rfl (and_f b29) rfl
          refine SO.v rfl (opv_pick_f' b28 rfl rfl) ?_
          refine SO.b1 ?_
          refine SO.b1 ?_
          exact hk2.fitc (m := 6) rfl (or_f b28) rfl
      refine SO.v rfl (opv_assign rfl) ?_
      refine SO.nil ?_
      refine S.to (ρ' := [(1, bp b1 0), (2, .bool false), (3, .func (.func 69) #[] #[]), (54, .bool (((!((a0.Kind == 3) || (a0.Kind == 4))) && (a0.Badge != 0)) || ((a0.Kind != 2) && ((a0.Bits != 0) || (a0.Guard != 0)))))]) ⟨rfl, rfl, rfl, rfl, trivial⟩ ?_
      rcases bool_or (((!((a0.Kind == 3) || (a0.Kind == 4))) && (a0.Badge != 0)) || ((a0.Kind != 2) && ((a0.Bits != 0) || (a0.Guard != 0)))) with b31 | b31
      · replace h := cond_t b31 h
        refine S.condT rfl b31 ?_
        refine S.seq ?_
        refine S.region ?_
        refine SO.v rfl (opv_assign rfl) ?_
        refine SO.nil ?_
        cases h
        refine S.drop ?_
        exact S.ret1 Try.func33 rfl rfl (fun w hs hk => hR w _ _ ⟨rfl, rfl⟩ hs hk)
      · replace h := cond_f b31 h
        refine S.condF rfl b31 ?_
        refine S.skip ?_
        refine S.inBlock ?_
        refine S.seq ?_
        obtain ⟨_, hc32, h⟩ := opt_bind h
        obtain ⟨t33, ht34, h⟩ := opt_bind h
        refine S.draw (T := [tS 3 (.func (.func 69) #[] #[]), tS 1 (bp b1 0), tR (Box b1 [.int .i64 a0.Kind, .int .i64 a0.Rights, .int .i64 a0.Obj, .int .i64 a0.Badge, .int .i64 a0.Guard, .int .i64 a0.Bits]), tR (F), tS 77 (.func (.func 69) #[] #[]), tS 78 (bp b1 4), tS 79 (.int .i64 a0.Guard), tS 80 (bp b1 5), tS 81 (.int .i64 a0.Bits), tS 82 (.int .i64 (bshl .i64 1 a0.Bits)), tS 83 (.int .i64 (w64 ((bshl .i64 1 a0.Bits) - 1))), tS 84 (.bool t33), tS 2 (.bool t33)]) (D := [⟨[0], [], [4]⟩, ⟨[1], [], [5]⟩, ⟨[5, 2], [], [6]⟩, ⟨[1], [], [7]⟩, ⟨[7, 2], [], [8]⟩, ⟨[8], [], [9]⟩, ⟨[9], [], [10]⟩, ⟨[4, 6, 10], [], [11]⟩, ⟨[11], [], [12]⟩]) (ini := [0, 1, 2, 3]) (fin := [12, 2, 3]) (bf := [[], [], [1], [], [3], [3, 4], [3, 4, 5], [0, 1, 2, 3, 4, 5, 6], [0, 1, 2, 3, 4, 5, 6, 7]]) (by kernel_rfl) (by kernel_rfl) (fun x w h1 h2 => (.cons () (.cons () (.cons () (.cons () (.nil ⟨EnvAll.of h1 ⟨rfl, rfl, trivial⟩, h2⟩)))))) ⟨?_, ?_, ?_, ?_, ?_, ?_, ?_, ?_, ?_, trivial⟩ ?_
        · rintro Fr _
          refine SO.v rfl (opv_move rfl) ?_
          exact SO.nilZ fun a w h1 h2 h3 h4 h5 => PZ.of h1 h3 h5 (.cons () (.cons () (.nil ⟨EnvAll.of h2 ⟨rfl, rfl, trivial⟩, h4⟩)))
        · rintro Fr _
          refine SO.v rfl (opv_fieldAddr Try.underlying53 rfl Try.sizeOf3 rfl rfl) ?_
          exact SO.nilZ fun a w h1 h2 h3 h4 h5 => PZ.of h1 h3 h5 (.cons () (.cons () (.nil ⟨EnvAll.of h2 ⟨rfl, rfl, trivial⟩, h4⟩)))
        · rintro Fr _ _
          refine SO.load1 rfl Try.isAgg3 rfl rfl ?_
          exact SO.nilZ fun a w h1 h2 h3 h4 h5 => PZ.of h1 h3 h5 (.cons () (.cons () (.cons () (.nil ⟨EnvAll.of h2 ⟨rfl, rfl, trivial⟩, h4⟩))))
        · rintro Fr _
          refine SO.v rfl (opv_fieldAddr Try.underlying53 rfl Try.sizeOf3 rfl rfl) ?_
          exact SO.nilZ fun a w h1 h2 h3 h4 h5 => PZ.of h1 h3 h5 (.cons () (.cons () (.nil ⟨EnvAll.of h2 ⟨rfl, rfl, trivial⟩, h4⟩)))
        · rintro Fr _ _
          refine SO.load1 rfl Try.isAgg3 rfl rfl ?_
          exact SO.nilZ fun a w h1 h2 h3 h4 h5 => PZ.of h1 h3 h5 (.cons () (.cons () (.cons () (.nil ⟨EnvAll.of h2 ⟨rfl, rfl, trivial⟩, h4⟩))))
        · rintro Fr _
          refine SO.v rfl (opv_shl rfl rfl (of_decide_eq_true (chk_some hc32))) ?_
          exact SO.nilZ fun a w h1 h2 h3 h4 h5 => PZ.of h1 h3 h5 (.cons () (.cons () (.nil ⟨EnvAll.of h2 ⟨rfl, rfl, trivial⟩, h4⟩)))
        · rintro Fr _
          refine SO.v rfl (opv_sub rfl rfl) ?_
          exact SO.nilZ fun a w h1 h2 h3 h4 h5 => PZ.of h1 h3 h5 (.cons () (.cons () (.nil ⟨EnvAll.of h2 ⟨rfl, rfl, trivial⟩, h4⟩)))
        · rintro Fr _ _ _
          refine SO.call (pre := []) rfl Try.call69 rfl rfl rfl (pack_May_1.ct _ _ _ ht34) trivial ?_
          rintro _ _ ⟨rfl, rfl⟩
          exact SO.nilZ fun a w h1 h2 h3 h4 h5 => PZ.of h1 h3 h5 (.cons () (.cons () (.cons () (.cons () (.nil ⟨EnvAll.of h2 ⟨rfl, rfl, rfl, rfl, trivial⟩, h4⟩)))))
        · rintro Fr _
          refine SO.v rfl (opv_assign rfl) ?_
          exact SO.nilZ fun a w h1 h2 h3 h4 h5 => PZ.of h1 h3 h5 (.cons () (.cons () (.nil ⟨EnvAll.of h2 ⟨rfl, rfl, trivial⟩, h4⟩)))
        rintro _ _ _
        show S _ _ _ _ _ _ _ [Box b1 [.int .i64 a0.Kind, .int .i64 a0.Rights, .int .i64 a0.Obj, .int .i64 a0.Badge, .int .i64 a0.Guard, .int .i64 a0.Bits], F]
        refine S.to (ρ' := [(2, .bool t33)]) ⟨rfl, trivial⟩ ?_
        cases h
        refine S.drop ?_
        exact S.ret1 Try.func33 rfl rfl (fun w hs hk => hR w _ _ ⟨rfl, rfl⟩ hs hk)
end Go.Proofs
namespace Go.Proofs
open Go.Sl Go.RowKit
/-! 71 padstone/rights.real -/
def rights_real.f (a0 : api_Cap) : Option (Bool) :=
  (bif a0.Kind != 0 then ((pack_May.f a0).bind fun t5 => some t5) else (some false)).bind fun c3 => some c3
set_option maxHeartbeats 8000000 in
set_option maxRecDepth 100000 in
theorem rights_real.ct (a0 : api_Cap) (r0 : Bool) (h : rights_real.f a0 = some r0) :
    Ct Try.prog 71 [.agg #[.int .i64 a0.Kind, .int .i64 a0.Rights, .int .i64 a0.Obj, .int .i64 a0.Badge, .int .i64 a0.Guard, .int .i64 a0.Bits]] (fun _ => True) [] (fun u H' => u = .bool r0 ∧ H' = []) := by
  unfold rights_real.f at h
  refine Ct.intro (n := 10) Try.func71 rfl rfl rfl ?_
  intro R w0 F hF hR
  refine S.seq ?_
  refine S.region ?_
  refine SO.box rfl rfl rfl (fun b1 => ?_)
  refine SO.v rfl (opv_assign rfl) ?_
  refine SO.nil ?_
  refine S.seq ?_
  refine S.region ?_
  refine SO.v rfl (opv_fieldAddr Try.underlying53 rfl Try.sizeOf3 rfl rfl) ?_
  refine SO.load1 rfl Try.isAgg3 rfl rfl ?_
  refine SO.v rfl (opv_neq rfl rfl) ?_
  refine SO.v rfl (opv_move rfl) ?_
  obtain ⟨c3, hc4, hgk⟩ := opt_bind h
  refine SO.cut 3 9 (.bool c3) [Box b1 [.int .i64 a0.Kind, .int .i64 a0.Rights, .int .i64 a0.Obj, .int .i64 a0.Badge, .int .i64 a0.Guard, .int .i64 a0.Bits], F] (fun l2 hk2 => ?_) ?_
  · clear hgk
    replace h := hc4
    rcases bool_or (a0.Kind != 0) with b2 | b2
    · replace h := cond_t b2 h
      refine SO.takeT rfl rfl rfl b2 ?_
      refine SO.loadN rfl Try.isAgg53 Try.sizeOf53 rfl rfl rfl ?_
      refine SO.takeT rfl rfl rfl b2 ?_
      obtain ⟨t5, ht6, h⟩ := opt_bind h
      refine SO.call (pre := []) rfl Try.call33 rfl rfl rfl (pack_May.ct _ _ ht6) trivial ?_
      rintro _ _ ⟨rfl, rfl⟩
      cases h
      refine SO.v rfl (opv_pick_t' b2 rfl rfl) ?_
      refine SO.b1 ?_
      refine SO.b1 ?_
      exact hk2.fitc (m := 3) rfl (rfl) rfl
    · replace h := cond_f b2 h
      refine SO.passF rfl rfl rfl b2 rfl rfl ?_
      refine SO.passF rfl rfl rfl b2 rfl rfl ?_
      cases h
      refine SO.v rfl (opv_pick_f' b2 rfl rfl) ?_
      refine SO.b1 ?_
      refine SO.b1 ?_
      exact hk2.fitc (m := 3) rfl (rfl) rfl
  clear hc4
  replace h := hgk
  refine SO.v rfl (opv_assign rfl) ?_
  refine SO.nil ?_
  refine S.to (ρ' := [(2, .bool c3)]) ⟨rfl, trivial⟩ ?_
  cases h
  refine S.drop ?_
  exact S.ret1 Try.func71 rfl rfl (fun w hs hk => hR w _ _ ⟨rfl, rfl⟩ hs hk)
end Go.Proofs
namespace Go.Proofs
open Go.Sl Go.RowKit
/-! 46 padstone/rights.Derive -/
def rights_Derive.f (a0 : api_Cap) (a1 : Int) : Option (api_Cap × (Option Int)) :=
  (rights_real.f a0).bind fun t3 => (bif !t3 then (some true) else ((rights_mask.f a1).bind fun t8 => some (!t8))).bind fun c6 => bif c6 then (some ((⟨0, 0, 0, 0, 0, 0⟩ : api_Cap), (some 1))) else (bif a0.Kind == 1 then (some ((⟨0, 0, 0, 0, 0, 0⟩ : api_Cap), (some 5))) else (some ((⟨a0.Kind, band .i64 a0.Rights a1, a0.Obj, a0.Badge, a0.Guard, a0.Bits⟩ : api_Cap), none)))
set_option maxHeartbeats 8000000 in
set_option maxRecDepth 100000 in
theorem rights_Derive.ct (a0 : api_Cap) (a1 : Int) (r0 : api_Cap) (r1 : Option Int) (h : rights_Derive.f a0 a1 = some (r0, r1)) :
    Ct Try.prog 46 [.agg #[.int .i64 a0.Kind, .int .i64 a0.Rights, .int .i64 a0.Obj, .int .i64 a0.Badge, .int .i64 a0.Guard, .int .i64 a0.Bits], .int .i64 a1] (fun _ => True) [] (fun u H' => u = .tuple #[.agg #[.int .i64 r0.Kind, .int .i64 r0.Rights, .int .i64 r0.Obj, .int .i64 r0.Badge, .int .i64 r0.Guard, .int .i64 r0.Bits], errV 48 r1] ∧ H' = []) := by
  unfold rights_Derive.f at h
  refine Ct.intro (n := 29) Try.func46 rfl rfl rfl ?_
  intro R w0 F hF hR
  refine S.seq ?_
  refine S.region ?_
  refine SO.box rfl rfl rfl (fun b1 => ?_)
  refine SO.alloc rfl Try.zeroValue53 rfl (fun b2 => ?_)
  refine SO.v rfl (opv_assign rfl) ?_
  refine SO.nil ?_
  refine S.seq ?_
  refine S.block ?_
  refine S.seq ?_
  refine S.region ?_
  refine SO.b1 ?_
  refine SO.loadN rfl Try.isAgg53 Try.sizeOf53 rfl rfl rfl ?_
  obtain ⟨t3, ht4, h⟩ := opt_bind h
  refine SO.call (pre := []) rfl Try.call71 rfl rfl rfl (rights_real.ct _ _ ht4) trivial ?_
  rintro _ _ ⟨rfl, rfl⟩
  refine SO.v rfl (opv_not rfl) ?_
  refine SO.v rfl (opv_move rfl) ?_
  obtain ⟨c6, hc7, hgk⟩ := opt_bind h
  refine SO.cut 4 14 (.bool c6) [Box b1 [.int .i64 a0.Kind, .int .i64 a0.Rights, .int .i64 a0.Obj, .int .i64 a0.Badge, .int .i64 a0.Guard, .int .i64 a0.Bits], Box b2 [.int .i64 0, .int .i64 0, .int .i64 0, .int .i64 0, .int .i64 0, .int .i64 0], F] (fun l2 hk2 => ?_) ?_
  · clear hgk
    replace h := hc7
    rcases bool_or (!t3) with b5 | b5
    · replace h := cond_t b5 h
      refine SO.passF rfl rfl rfl b5 rfl rfl ?_
      refine SO.passF rfl rfl rfl b5 rfl rfl ?_
      refine SO.passF rfl rfl rfl b5 rfl rfl ?_
      cases h
      refine SO.v rfl (opv_pick_t' b5 rfl rfl) ?_
      refine SO.b2 ?_
      refine SO.b2 ?_
      refine SO.b2 ?_
      exact hk2.fitc (m := 4) rfl (rfl) rfl
    · replace h := cond_f b5 h
      refine SO.takeT rfl rfl rfl b5 ?_
      refine SO.v rfl (opv_move rfl) ?_
      refine SO.takeT rfl rfl rfl b5 ?_
      obtain ⟨t8, ht9, h⟩ := opt_bind h
      refine SO.call (pre := []) rfl Try.call72 rfl rfl rfl (rights_mask.ct _ _ ht9) trivial ?_
      rintro _ _ ⟨rfl, rfl⟩
      refine SO.takeT rfl rfl rfl b5 ?_
      refine SO.v rfl (opv_not rfl) ?_
      cases h
      refine SO.v rfl (opv_pick_f' b5 rfl rfl) ?_
      refine SO.b2 ?_
      refine SO.b2 ?_
      refine SO.b2 ?_
      exact hk2.fitc (m := 4) rfl (rfl) rfl
  clear hc7
  replace h := hgk
  refine SO.v rfl (opv_assign rfl) ?_
  refine SO.nil ?_
  rcases bool_or c6 with b10 | b10
  · replace h := cond_t b10 h
    refine S.condT rfl b10 ?_
    refine S.seq ?_
    refine S.region ?_
    refine SO.v rfl (opv_build (v := .agg #[.int .i64 0, .int .i64 0, .int .i64 0, .int .i64 0, .int .i64 0, .int .i64 0]) rfl (by intro w; kernel_rfl)) ?_
    refine SO.v rfl (opv_iface Try.underlying48 rfl rfl) ?_
    refine SO.b1 ?_
    refine SO.storeN Try.sizeOf53 rfl rfl rfl rfl rfl rfl ?_
    refine SO.v rfl (opv_assign rfl) ?_
    refine SO.nil ?_
    refine S.to (ρ' := [(1, .int .i64 a1), (2, bp b1 0), (4, bp b2 0), (5, errV 48 (some 1))]) ⟨rfl, rfl, rfl, rfl, trivial⟩ ?_
    cases h
    refine S.b1 ?_
    refine S.drop ?_
    refine S.b1 ?_
    refine S.b1 ?_
    exact S.retC1 Try.func46 rfl rfl rfl Try.isAgg53 Try.sizeOf53 rfl rfl (fun w hs hk => hR w _ _ ⟨rfl, rfl⟩ hs.drop hk)
  · replace h := cond_f b10 h
    refine S.condF rfl b10 ?_
    refine S.seq ?_
    refine S.region ?_
    refine SO.v rfl (opv_fieldAddr Try.underlying53 rfl Try.sizeOf3 rfl rfl) ?_
    refine SO.load1 rfl Try.isAgg3 rfl rfl ?_
    refine SO.v rfl (opv_eql rfl rfl) ?_
    refine SO.v rfl (opv_assign rfl) ?_
    refine SO.nil ?_
    refine S.to (ρ' := [(1, .int .i64 a1), (2, bp b1 0), (4, bp b2 0), (5, errV 48 none), (17, .bool (a0.Kind == 1))]) ⟨rfl, rfl, rfl, rfl, rfl, trivial⟩ ?_
    rcases bool_or (a0.Kind == 1) with b11 | b11
    · replace h := cond_t b11 h
      refine S.condT rfl b11 ?_
      refine S.seq ?_
      refine S.region ?_
      refine SO.v rfl (opv_build (v := .agg #[.int .i64 0, .int .i64 0, .int .i64 0, .int .i64 0, .int .i64 0, .int .i64 0]) rfl (by intro w; kernel_rfl)) ?_
      refine SO.v rfl (opv_iface Try.underlying48 rfl rfl) ?_
      refine SO.b1 ?_
      refine SO.storeN Try.sizeOf53 rfl rfl rfl rfl rfl rfl ?_
      refine SO.v rfl (opv_assign rfl) ?_
      refine SO.nil ?_
      cases h
      refine S.b1 ?_
      refine S.drop ?_
      refine S.b1 ?_
      refine S.b1 ?_
      exact S.retC1 Try.func46 rfl rfl rfl Try.isAgg53 Try.sizeOf53 rfl rfl (fun w hs hk => hR w _ _ ⟨rfl, rfl⟩ hs.drop hk)
    · replace h := cond_f b11 h
      refine S.condF rfl b11 ?_
      refine S.skip ?_
      refine S.inBlock ?_
      refine S.seq ?_
      refine S.region ?_
      refine SO.v rfl (opv_fieldAddr Try.underlying53 rfl Try.sizeOf3 rfl rfl) ?_
      refine SO.load1 rfl Try.isAgg3 rfl rfl ?_
      refine SO.v rfl (opv_move rfl) ?_
      refine SO.v rfl (opv_and rfl rfl) ?_
      refine SO.v rfl (opv_fieldAddr Try.underlying53 rfl Try.sizeOf3 rfl rfl) ?_
      refine SO.store1 Try.sizeOf3 rfl rfl rfl rfl ?_
      refine SO.nil ?_
      refine S.to (ρ' := [(2, bp b1 0), (4, bp b2 0), (5, errV 48 none)]) ⟨rfl, rfl, rfl, trivial⟩ ?_
      refine S.seq ?_
      refine S.region ?_
      refine SO.loadN rfl Try.isAgg53 Try.sizeOf53 rfl rfl rfl ?_
      refine SO.b1 ?_
      refine SO.storeN Try.sizeOf53 rfl rfl rfl rfl rfl rfl ?_
      refine SO.v rfl (opv_assign rfl) ?_
      refine SO.nil ?_
      cases h
      refine S.b1 ?_
      refine S.drop ?_
      refine S.b1 ?_
      refine S.b1 ?_
      exact S.retC1 Try.func46 rfl rfl rfl Try.isAgg53 Try.sizeOf53 rfl rfl (fun w hs hk => hR w _ _ ⟨rfl, rfl⟩ hs.drop hk)
end Go.Proofs
namespace Go.Proofs
open Go.Sl Go.RowKit
/-! 55 padstone/rights.Has -/
def rights_Has.f (a0 : api_Cap) (a1 : Int) : Option (Bool) :=
  some ((band .i64 a0.Rights a1) == a1)
set_option maxHeartbeats 8000000 in
set_option maxRecDepth 100000 in
theorem rights_Has.ct (a0 : api_Cap) (a1 : Int) (r0 : Bool) (h : rights_Has.f a0 a1 = some r0) :
    Ct Try.prog 55 [.agg #[.int .i64 a0.Kind, .int .i64 a0.Rights, .int .i64 a0.Obj, .int .i64 a0.Badge, .int .i64 a0.Guard, .int .i64 a0.Bits], .int .i64 a1] (fun _ => True) [] (fun u H' => u = .bool r0 ∧ H' = []) := by
  unfold rights_Has.f at h
  refine Ct.intro (n := 11) Try.func55 rfl rfl rfl ?_
  intro R w0 F hF hR
  refine S.seq ?_
  refine S.region ?_
  refine SO.box rfl rfl rfl (fun b1 => ?_)
  refine SO.v rfl (opv_assign rfl) ?_
  refine SO.nil ?_
  refine S.seq ?_
  refine S.region ?_
  refine SO.v rfl (opv_fieldAddr Try.underlying53 rfl Try.sizeOf3 rfl rfl) ?_
  refine SO.load1 rfl Try.isAgg3 rfl rfl ?_
  refine SO.v rfl (opv_move rfl) ?_
  refine SO.v rfl (opv_and rfl rfl) ?_
  refine SO.v rfl (opv_move rfl) ?_
  refine SO.v rfl (opv_eql rfl rfl) ?_
  refine SO.v rfl (opv_assign rfl) ?_
  refine SO.nil ?_
  refine S.to (ρ' := [(4, .bool ((band .i64 a0.Rights a1) == a1))]) ⟨rfl, trivial⟩ ?_
  cases h
  refine S.drop ?_
  exact S.ret1 Try.func55 rfl rfl (fun w hs hk => hR w _ _ ⟨rfl, rfl⟩ hs hk)
end Go.Proofs
namespace Go.Proofs
open Go.Sl Go.RowKit
/-! 48 padstone/rights.Mint -/
def rights_Mint.f (a0 : api_Cap) (a1 : Int) (a2 : Int) : Option (api_Cap × (Option Int)) :=
  (rights_real.f a0).bind fun t3 => (bif !t3 then (some true) else ((rights_mask.f a1).bind fun t8 => some (!t8))).bind fun c6 => bif (c6 || (decide (a2 < 1))) || (decide (65535 < a2)) then (some ((⟨0, 0, 0, 0, 0, 0⟩ : api_Cap), (some 1))) else (bif (a0.Kind != 3) && (a0.Kind != 4) then (some ((⟨0, 0, 0, 0, 0, 0⟩ : api_Cap), (some 5))) else (bif a0.Badge != 0 then (some ((⟨0, 0, 0, 0, 0, 0⟩ : api_Cap), (some 10))) else (some ((⟨a0.Kind, band .i64 a0.Rights a1, a0.Obj, a2, a0.Guard, a0.Bits⟩ : api_Cap), none))))
set_option maxHeartbeats 8000000 in
set_option maxRecDepth 100000 in
theorem rights_Mint.ct (a0 : api_Cap) (a1 : Int) (a2 : Int) (r0 : api_Cap) (r1 : Option Int) (h : rights_Mint.f a0 a1 a2 = some (r0, r1)) :
    Ct Try.prog 48 [.agg #[.int .i64 a0.Kind, .int .i64 a0.Rights, .int .i64 a0.Obj, .int .i64 a0.Badge, .int .i64 a0.Guard, .int .i64 a0.Bits], .int .i64 a1, .int .i64 a2] (fun _ => True) [] (fun u H' => u = .tuple #[.agg #[.int .i64 r0.Kind, .int .i64 r0.Rights, .int .i64 r0.Obj, .int .i64 r0.Badge, .int .i64 r0.Guard, .int .i64 r0.Bits], errV 48 r1] ∧ H' = []) := by
  unfold rights_Mint.f at h
  refine Ct.intro (n := 52) Try.func48 rfl rfl rfl ?_
  intro R w0 F hF hR
  refine S.seq ?_
  refine S.region ?_
  refine SO.box rfl rfl rfl (fun b1 => ?_)
  refine SO.alloc rfl Try.zeroValue53 rfl (fun b2 => ?_)
  refine SO.v rfl (opv_assign rfl) ?_
  refine SO.nil ?_
  refine S.seq ?_
  refine S.block ?_
  refine S.seq ?_
  refine S.region ?_
  refine SO.b1 ?_
  refine SO.loadN rfl Try.isAgg53 Try.sizeOf53 rfl rfl rfl ?_
  obtain ⟨t3, ht4, h⟩ := opt_bind h
  refine SO.call (pre := []) rfl Try.call71 rfl rfl rfl (rights_real.ct _ _ ht4) trivial ?_
  rintro _ _ ⟨rfl, rfl⟩
  refine SO.v rfl (opv_not rfl) ?_
  refine SO.v rfl (opv_move rfl) ?_
  obtain ⟨c6, hc7, hgk⟩ := opt_bind h
  refine SO.cut 4 16 (.bool c6) [Box b1 [.int .i64 a0.Kind, .int .i64 a0.Rights, .int .i64 a0.Obj, .int .i64 a0.Badge, .int .i64 a0.Guard, .int .i64 a0.Bits], Box b2 [.int .i64 0, .int .i64 0, .int .i64 0, .int .i64 0, .int .i64 0, .int .i64 0], F] (fun l2 hk2 => ?_) ?_
  · clear hgk
    replace h := hc7
    rcases bool_or (!t3) with b5 | b5
    · replace h := cond_t b5 h
      refine SO.passF rfl rfl rfl b5 rfl rfl ?_
      refine SO.passF rfl rfl rfl b5 rfl rfl ?_
      refine SO.passF rfl rfl rfl b5 rfl rfl ?_
      cases h
      refine SO.v rfl (opv_pick_t' b5 rfl rfl) ?_
      refine SO.b2 ?_
      refine SO.b2 ?_
      refine SO.b2 ?_
      exact hk2.fitc (m := 4) rfl (rfl) rfl
    · replace h := cond_f b5 h
      refine SO.takeT rfl rfl rfl b5 ?_
      refine SO.v rfl (opv_move rfl) ?_
      refine SO.takeT rfl rfl rfl b5 ?_
      obtain ⟨t8, ht9, h⟩ := opt_bind h
      refine SO.call (pre := []) rfl Try.call72 rfl rfl rfl (rights_mask.ct _ _ ht9) trivial ?_
      rintro _ _ ⟨rfl, rfl⟩
      refine SO.takeT rfl rfl rfl b5 ?_
      refine SO.v rfl (opv_not rfl) ?_
      cases h
      refine SO.v rfl (opv_pick_f' b5 rfl rfl) ?_
      refine SO.b2 ?_
      refine SO.b2 ?_
      refine SO.b2 ?_
      exact hk2.fitc (m := 4) rfl (rfl) rfl
  clear hc7
  replace h := hgk
  refine SO.v rfl (opv_move rfl) ?_
  refine SO.cut 3 20 (.bool (c6 || (decide (a2 < 1)))) [Box b1 [.int .i64 a0.Kind, .int .i64 a0.Rights, .int .i64 a0.Obj, .int .i64 a0.Badge, .int .i64 a0.Guard, .int .i64 a0.Bits], Box b2 [.int .i64 0, .int .i64 0, .int .i64 0, .int .i64 0, .int .i64 0, .int .i64 0], F] (fun l2 hk2 => ?_) ?_
  · rcases bool_or c6 with b10 | b10
    · refine SO.passF rfl rfl rfl b10 rfl rfl ?_
      refine SO.passF rfl rfl rfl b10 rfl rfl ?_
      refine SO.v rfl (opv_pick_t' b10 rfl rfl) ?_
      refine SO.b2 ?_
      refine SO.b2 ?_
      refine SO.b2 ?_
      exact hk2.fitc (m := 3) rfl (or_t b10) rfl
    · refine SO.takeT rfl rfl rfl b10 ?_
      refine SO.v rfl (opv_move rfl) ?_
      refine SO.takeT rfl rfl rfl b10 ?_
      refine SO.v rfl (opv_lss rfl rfl) ?_
      refine SO.v rfl (opv_pick_f' b10 rfl rfl) ?_
      refine SO.b2 ?_
      refine SO.b2 ?_
      refine SO.b2 ?_
      exact hk2.fitc (m := 3) rfl (or_f b10) rfl
  refine SO.v rfl (opv_move rfl) ?_
  refine SO.cut 3 24 (.bool ((c6 || (decide (a2 < 1))) || (decide (65535 < a2)))) [Box b1 [.int .i64 a0.Kind, .int .i64 a0.Rights, .int .i64 a0.Obj, .int .i64 a0.Badge, .int .i64 a0.Guard, .int .i64 a0.Bits], Box b2 [.int .i64 0, .int .i64 0, .int .i64 0, .int .i64 0, .int .i64 0, .int .i64 0], F] (fun l2 hk2 => ?_) ?_
  · rcases bool_or (c6 || (decide (a2 < 1))) with b11 | b11
    · refine SO.passF rfl rfl rfl b11 rfl rfl ?_
      refine SO.passF rfl rfl rfl b11 rfl rfl ?_
      refine SO.v rfl (opv_pick_t' b11 rfl rfl) ?_
      refine SO.b2 ?_
      refine SO.b2 ?_
      refine SO.b2 ?_
      exact hk2.fitc (m := 3) rfl (or_t b11) rfl
    · refine SO.takeT rfl rfl rfl b11 ?_
      refine SO.v rfl (opv_move rfl) ?_
      refine SO.takeT rfl rfl rfl b11 ?_
      refine SO.v rfl (opv_gtr rfl rfl) ?_
      refine SO.v rfl (opv_pick_f' b11 rfl rfl) ?_
      refine SO.b2 ?_
      refine SO.b2 ?_
      refine SO.b2 ?_
      exact hk2.fitc (m := 3) rfl (or_f b11) rfl
  refine SO.v rfl (opv_assign rfl) ?_
  refine SO.nil ?_
  refine S.to (ρ' := [(1, .int .i64 a1), (2, .int .i64 a2), (3, bp b1 0), (6, bp b2 0), (7, errV 48 none), (8, .bool ((c6 || (decide (a2 < 1))) || (decide (65535 < a2))))]) ⟨rfl, rfl, rfl, rfl, rfl, rfl, trivial⟩ ?_
  rcases bool_or ((c6 || (decide (a2 < 1))) || (decide (65535 < a2))) with b12 | b12
  · replace h := cond_t b12 h
    refine S.condT rfl b12 ?_
    refine S.seq ?_
    refine S.region ?_
    refine SO.v rfl (opv_build (v := .agg #[.int .i64 0, .int .i64 0, .int .i64 0, .int .i64 0, .int .i64 0, .int .i64 0]) rfl (by intro w; kernel_rfl)) ?_
    refine SO.v rfl (opv_iface Try.underlying48 rfl rfl) ?_
    refine SO.b1 ?_
    refine SO.storeN Try.sizeOf53 rfl rfl rfl rfl rfl rfl ?_
    refine SO.v rfl (opv_assign rfl) ?_
    refine SO.nil ?_
    cases h
    refine S.b1 ?_
    refine S.drop ?_
    refine S.b1 ?_
    refine S.b1 ?_
    exact S.retC1 Try.func48 rfl rfl rfl Try.isAgg53 Try.sizeOf53 rfl rfl (fun w hs hk => hR w _ _ ⟨rfl, rfl⟩ hs.drop hk)
  · replace h := cond_f b12 h
    refine S.condF rfl b12 ?_
    refine S.seq ?_
    refine S.region ?_
    refine SO.v rfl (opv_fieldAddr Try.underlying53 rfl Try.sizeOf3 rfl rfl) ?_
    refine SO.load1 rfl Try.isAgg3 rfl rfl ?_
    refine SO.v rfl (opv_neq rfl rfl) ?_
    refine SO.v rfl (opv_move rfl) ?_
    refine SO.cut 4 35 (.bool ((a0.Kind != 3) && (a0.Kind != 4))) [Box b1 [.int .i64 a0.Kind, .int .i64 a0.Rights, .int .i64 a0.Obj, .int .i64 a0.Badge, .int .i64 a0.Guard, .int .i64 a0.Bits], Box b2 [.int .i64 0, .int .i64 0, .int .i64 0, .int .i64 0, .int .i64 0, .int .i64 0], F] (fun l2 hk2 => ?_) ?_
    · rcases bool_or (a0.Kind != 3) with b13 | b13
      · refine SO.takeT rfl rfl rfl b13 ?_
        refine SO.v rfl (opv_fieldAddr Try.underlying53 rfl Try.sizeOf3 rfl rfl) ?_
        refine SO.takeT rfl rfl rfl b13 ?_
        refine SO.load1 rfl Try.isAgg3 rfl rfl ?_
        refine SO.takeT rfl rfl rfl b13 ?_
        refine SO.v rfl (opv_neq rfl rfl) ?_
        refine SO.v rfl (opv_pick_t' b13 rfl rfl) ?_
        refine SO.b2 ?_
        refine SO.b2 ?_
        refine SO.b2 ?_
        exact hk2.fitc (m := 4) rfl (and_t b13) rfl
      · refine SO.passF rfl rfl rfl b13 rfl rfl ?_
        refine SO.passF rfl rfl rfl b13 rfl rfl ?_
        refine SO.passF rfl rfl rfl b13 rfl rfl ?_
        refine SO.v rfl (opv_pick_f' b13 rfl rfl) ?_
        refine SO.b2 ?_
        refine SO.b2 ?_
        refine SO.b2 ?_
        exact hk2.fitc (m := 4) rfl (and_f b13) rfl
    refine SO.v rfl (opv_assign rfl) ?_
    refine SO.nil ?_
    rcases bool_or ((a0.Kind != 3) && (a0.Kind != 4)) with b14 | b14
    · replace h := cond_t b14 h
      refine S.condT rfl b14 ?_
      refine S.seq ?_
      refine S.region ?_
      refine SO.v rfl (opv_build (v := .agg #[.int .i64 0, .int .i64 0, .int .i64 0, .int .i64 0, .int .i64 0, .int .i64 0]) rfl (by intro w; kernel_rfl)) ?_
      refine SO.v rfl (opv_iface Try.underlying48 rfl rfl) ?_
      refine SO.b1 ?_
      refine SO.storeN Try.sizeOf53 rfl rfl rfl rfl rfl rfl ?_
      refine SO.v rfl (opv_assign rfl) ?_
      refine SO.nil ?_
      refine S.to (ρ' := [(1, .int .i64 a1), (2, .int .i64 a2), (3, bp b1 0), (6, bp b2 0), (7, errV 48 (some 5))]) ⟨rfl, rfl, rfl, rfl, rfl, trivial⟩ ?_
      cases h
      refine S.b1 ?_
      refine S.drop ?_
      refine S.b1 ?_
      refine S.b1 ?_
      exact S.retC1 Try.func48 rfl rfl rfl Try.isAgg53 Try.sizeOf53 rfl rfl (fun w hs hk => hR w _ _ ⟨rfl, rfl⟩ hs.drop hk)
    · replace h := cond_f b14 h
      refine S.condF rfl b14 ?_
      refine S.seq ?_
      refine S.region ?_
      refine SO.v rfl (opv_fieldAddr Try.underlying53 rfl Try.sizeOf3 rfl rfl) ?_
      refine SO.load1 rfl Try.isAgg3 rfl rfl ?_
      refine SO.v rfl (opv_neq rfl rfl) ?_
      refine SO.v rfl (opv_assign rfl) ?_
      refine SO.nil ?_
      refine S.to (ρ' := [(1, .int .i64 a1), (2, .int .i64 a2), (3, bp b1 0), (6, bp b2 0), (7, errV 48 none), (38, .bool (a0.Badge != 0))]) ⟨rfl, rfl, rfl, rfl, rfl, rfl, trivial⟩ ?_
      rcases bool_or (a0.Badge != 0) with b15 | b15
      · replace h := cond_t b15 h
        refine S.condT rfl b15 ?_
        refine S.seq ?_
        refine S.region ?_
        refine SO.v rfl (opv_build (v := .agg #[.int .i64 0, .int .i64 0, .int .i64 0, .int .i64 0, .int .i64 0, .int .i64 0]) rfl (by intro w; kernel_rfl)) ?_
        refine SO.v rfl (opv_iface Try.underlying48 rfl rfl) ?_
        refine SO.b1 ?_
        refine SO.storeN Try.sizeOf53 rfl rfl rfl rfl rfl rfl ?_
        refine SO.v rfl (opv_assign rfl) ?_
        refine SO.nil ?_
        cases h
        refine S.b1 ?_
        refine S.drop ?_
        refine S.b1 ?_
        refine S.b1 ?_
        exact S.retC1 Try.func48 rfl rfl rfl Try.isAgg53 Try.sizeOf53 rfl rfl (fun w hs hk => hR w _ _ ⟨rfl, rfl⟩ hs.drop hk)
      · replace h := cond_f b15 h
        refine S.condF rfl b15 ?_
        refine S.skip ?_
        refine S.inBlock ?_
        refine S.seq ?_
        refine S.region ?_
        refine SO.v rfl (opv_fieldAddr Try.underlying53 rfl Try.sizeOf3 rfl rfl) ?_
        refine SO.load1 rfl Try.isAgg3 rfl rfl ?_
        refine SO.v rfl (opv_move rfl) ?_
        refine SO.v rfl (opv_and rfl rfl) ?_
        refine SO.v rfl (opv_fieldAddr Try.underlying53 rfl Try.sizeOf3 rfl rfl) ?_
        refine SO.store1 Try.sizeOf3 rfl rfl rfl rfl ?_
        refine SO.nil ?_
        refine S.to (ρ' := [(2, .int .i64 a2), (3, bp b1 0), (6, bp b2 0), (7, errV 48 none)]) ⟨rfl, rfl, rfl, rfl, trivial⟩ ?_
        refine S.seq ?_
        refine S.region ?_
        refine SO.v rfl (opv_move rfl) ?_
        refine SO.v rfl (opv_fieldAddr Try.underlying53 rfl Try.sizeOf3 rfl rfl) ?_
        refine SO.store1 Try.sizeOf3 rfl rfl rfl rfl ?_
        refine SO.nil ?_
        refine S.seq ?_
        refine S.region ?_
        refine SO.loadN rfl Try.isAgg53 Try.sizeOf53 rfl rfl rfl ?_
        refine SO.b1 ?_
        refine SO.storeN Try.sizeOf53 rfl rfl rfl rfl rfl rfl ?_
        refine SO.v rfl (opv_assign rfl) ?_
        refine SO.nil ?_
        cases h
        refine S.b1 ?_
        refine S.drop ?_
        refine S.b1 ?_
        refine S.b1 ?_
        exact S.retC1 Try.func48 rfl rfl rfl Try.isAgg53 Try.sizeOf53 rfl rfl (fun w hs hk => hR w _ _ ⟨rfl, rfl⟩ hs.drop hk)
end Go.Proofs
namespace Go.Proofs
open Go.Sl Go.RowKit
/-! 47 padstone/rights.Within -/
def rights_Within.f (a0 : api_Cap) (a1 : api_Cap) : Option (Bool) :=
  some ((((a0.Kind == a1.Kind) && (a0.Obj == a1.Obj)) && ((bclr .i64 a0.Rights a1.Rights) == 0)) && ((a1.Badge == 0) || (a0.Badge == a1.Badge)))
set_option maxHeartbeats 8000000 in
set_option maxRecDepth 100000 in
theorem rights_Within.ct (a0 : api_Cap) (a1 : api_Cap) (r0 : Bool) (h : rights_Within.f a0 a1 = some r0) :
    Ct Try.prog 47 [.agg #[.int .i64 a0.Kind, .int .i64 a0.Rights, .int .i64 a0.Obj, .int .i64 a0.Badge, .int .i64 a0.Guard, .int .i64 a0.Bits], .agg #[.int .i64 a1.Kind, .int .i64 a1.Rights, .int .i64 a1.Obj, .int .i64 a1.Badge, .int .i64 a1.Guard, .int .i64 a1.Bits]] (fun _ => True) [] (fun u H' => u = .bool r0 ∧ H' = []) := by
  unfold rights_Within.f at h
  refine Ct.intro (n := 37) Try.func47 rfl rfl rfl ?_
  intro R w0 F hF hR
  refine S.seq ?_
  refine S.region ?_
  refine SO.box rfl rfl rfl (fun b1 => ?_)
  refine SO.box rfl rfl rfl (fun b2 => ?_)
  refine SO.v rfl (opv_assign rfl) ?_
  refine SO.nil ?_
  refine S.seq ?_
  refine S.region ?_
  refine SO.v rfl (opv_fieldAddr Try.underlying53 rfl Try.sizeOf3 rfl rfl) ?_
  refine SO.b1 ?_
  refine SO.load1 rfl Try.isAgg3 rfl rfl ?_
  refine SO.v rfl (opv_fieldAddr Try.underlying53 rfl Try.sizeOf3 rfl rfl) ?_
  refine SO.b1 ?_
  refine SO.load1 rfl Try.isAgg3 rfl rfl ?_
  refine SO.v rfl (opv_eql rfl rfl) ?_
  refine SO.v rfl (opv_move rfl) ?_
  refine SO.cut 6 16 (.bool ((a0.Kind == a1.Kind) && (a0.Obj == a1.Obj))) [Box b2 [.int .i64 a1.Kind, .int .i64 a1.Rights, .int .i64 a1.Obj, .int .i64 a1.Badge, .int .i64 a1.Guard, .int .i64 a1.Bits], Box b1 [.int .i64 a0.Kind, .int .i64 a0.Rights, .int .i64 a0.Obj, .int .i64 a0.Badge, .int .i64 a0.Guard, .int .i64 a0.Bits], F] (fun l2 hk2 => ?_) ?_
  · rcases bool_or (a0.Kind == a1.Kind) with b3 | b3
    · refine SO.takeT rfl rfl rfl b3 ?_
      refine SO.v rfl (opv_fieldAddr Try.underlying53 rfl Try.sizeOf3 rfl rfl) ?_
      refine SO.takeT rfl rfl rfl b3 ?_
      refine SO.b1 ?_
      refine SO.load1 rfl Try.isAgg3 rfl rfl ?_
      refine SO.takeT rfl rfl rfl b3 ?_
      refine SO.v rfl (opv_fieldAddr Try.underlying53 rfl Try.sizeOf3 rfl rfl) ?_
      refine SO.takeT rfl rfl rfl b3 ?_
      refine SO.b1 ?_
      refine SO.load1 rfl Try.isAgg3 rfl rfl ?_
      refine SO.takeT rfl rfl rfl b3 ?_
      refine SO.v rfl (opv_eql rfl rfl) ?_
      refine SO.v rfl (opv_pick_t' b3 rfl rfl) ?_
      refine SO.b2 ?_
      refine SO.b2 ?_
      refine SO.b2 ?_
      exact hk2.fitc (m := 6) rfl (and_t b3) rfl
    · refine SO.passF rfl rfl rfl b3 rfl rfl ?_
      refine SO.passF rfl rfl rfl b3 rfl rfl ?_
      refine SO.passF rfl rfl rfl b3 rfl rfl ?_
      refine SO.passF rfl rfl rfl b3 rfl rfl ?_
      refine SO.passF rfl rfl rfl b3 rfl rfl ?_
      refine SO.v rfl (opv_pick_f' b3 rfl rfl) ?_
      refine SO.b2 ?_
      refine SO.b2 ?_
      refine SO.b2 ?_
      exact hk2.fitc (m := 6) rfl (and_f b3) rfl
  refine SO.v rfl (opv_move rfl) ?_
  refine SO.cut 7 24 (.bool (((a0.Kind == a1.Kind) && (a0.Obj == a1.Obj)) && ((bclr .i64 a0.Rights a1.Rights) == 0))) [Box b2 [.int .i64 a1.Kind, .int .i64 a1.Rights, .int .i64 a1.Obj, .int .i64 a1.Badge, .int .i64 a1.Guard, .int .i64 a1.Bits], Box b1 [.int .i64 a0.Kind, .int .i64 a0.Rights, .int .i64 a0.Obj, .int .i64 a0.Badge, .int .i64 a0.Guard, .int .i64 a0.Bits], F] (fun l2 hk2 => ?_) ?_
  · rcases bool_or ((a0.Kind == a1.Kind) && (a0.Obj == a1.Obj)) with b4 | b4
    · refine SO.takeT rfl rfl rfl b4 ?_
      refine SO.v rfl (opv_fieldAddr Try.underlying53 rfl Try.sizeOf3 rfl rfl) ?_
      refine SO.takeT rfl rfl rfl b4 ?_
      refine SO.b1 ?_
      refine SO.load1 rfl Try.isAgg3 rfl rfl ?_
      refine SO.takeT rfl rfl rfl b4 ?_
      refine SO.v rfl (opv_fieldAddr Try.underlying53 rfl Try.sizeOf3 rfl rfl) ?_
      refine SO.takeT rfl rfl rfl b4 ?_
      refine SO.b1 ?_
      refine SO.load1 rfl Try.isAgg3 rfl rfl ?_
      refine SO.takeT rfl rfl rfl b4 ?_
      refine SO.v rfl (opv_andNot rfl rfl) ?_
      refine SO.takeT rfl rfl rfl b4 ?_
      refine SO.v rfl (opv_eql rfl rfl) ?_
      refine SO.v rfl (opv_pick_t' b4 rfl rfl) ?_
      refine SO.b2 ?_
      refine SO.b2 ?_
      refine SO.b2 ?_
      exact hk2.fitc (m := 7) rfl (and_t b4) rfl
    · refine SO.passF rfl rfl rfl b4 rfl rfl ?_
      refine SO.passF rfl rfl rfl b4 rfl rfl ?_
      refine SO.passF rfl rfl rfl b4 rfl rfl ?_
      refine SO.passF rfl rfl rfl b4 rfl rfl ?_
      refine SO.passF rfl rfl rfl b4 rfl rfl ?_
      refine SO.passF rfl rfl rfl b4 rfl rfl ?_
      refine SO.v rfl (opv_pick_f' b4 rfl rfl) ?_
      refine SO.b2 ?_
      refine SO.b2 ?_
      refine SO.b2 ?_
      exact hk2.fitc (m := 7) rfl (and_f b4) rfl
  refine SO.v rfl (opv_move rfl) ?_
  refine SO.cut 11 36 (.bool ((((a0.Kind == a1.Kind) && (a0.Obj == a1.Obj)) && ((bclr .i64 a0.Rights a1.Rights) == 0)) && ((a1.Badge == 0) || (a0.Badge == a1.Badge)))) [Box b2 [.int .i64 a1.Kind, .int .i64 a1.Rights, .int .i64 a1.Obj, .int .i64 a1.Badge, .int .i64 a1.Guard, .int .i64 a1.Bits], Box b1 [.int .i64 a0.Kind, .int .i64 a0.Rights, .int .i64 a0.Obj, .int .i64 a0.Badge, .int .i64 a0.Guard, .int .i64 a0.Bits], F] (fun l2 hk2 => ?_) ?_
  · rcases bool_or (((a0.Kind == a1.Kind) && (a0.Obj == a1.Obj)) && ((bclr .i64 a0.Rights a1.Rights) == 0)) with b5 | b5
    · refine SO.takeT rfl rfl rfl b5 ?_
      refine SO.v rfl (opv_fieldAddr Try.underlying53 rfl Try.sizeOf3 rfl rfl) ?_
      refine SO.takeT rfl rfl rfl b5 ?_
      refine SO.load1 rfl Try.isAgg3 rfl rfl ?_
      refine SO.takeT rfl rfl rfl b5 ?_
      refine SO.v rfl (opv_eql rfl rfl) ?_
      refine SO.takeT rfl rfl rfl b5 ?_
      refine SO.v rfl (opv_move rfl) ?_
      refine SO.cut 6 35 (.bool ((a1.Badge == 0) || (a0.Badge == a1.Badge))) [Box b2 [.int .i64 a1.Kind, .int .i64 a1.Rights, .int .i64 a1.Obj, .int .i64 a1.Badge, .int .i64 a1.Guard, .int .i64 a1.Bits], Box b1 [.int .i64 a0.Kind, .int .i64 a0.Rights, .int .i64 a0.Obj, .int .i64 a0.Badge, .int .i64 a0.Guard, .int .i64 a0.Bits], F] (fun l2 hk2 => ?_) ?_
      · rcases bool_or (a1.Badge == 0) with b6 | b6
        · refine SO.passF rfl rfl rfl b6 rfl rfl ?_
          refine SO.passF rfl rfl rfl b6 rfl rfl ?_
          refine SO.passF rfl rfl rfl b6 rfl rfl ?_
          refine SO.passF rfl rfl rfl b6 rfl rfl ?_
          refine SO.passF rfl rfl rfl b6 rfl rfl ?_
          refine SO.takeT rfl rfl rfl b5 ?_
          refine SO.v rfl (opv_pick_t' b6 rfl rfl) ?_
          refine SO.b2 ?_
          refine SO.b2 ?_
          refine SO.b2 ?_
          exact hk2.fitc (m := 6) rfl (or_t b6) rfl
        · refine SO.takeT rfl rfl rfl b6 ?_
          refine SO.v rfl (opv_fieldAddr Try.underlying53 rfl Try.sizeOf3 rfl rfl) ?_
          refine SO.takeT rfl rfl rfl b6 ?_
          refine SO.b1 ?_
          refine SO.load1 rfl Try.isAgg3 rfl rfl ?_
          refine SO.takeT rfl rfl rfl b6 ?_
          refine SO.v rfl (opv_fieldAddr Try.underlying53 rfl Try.sizeOf3 rfl rfl) ?_
          refine SO.takeT rfl rfl rfl b6 ?_
          refine SO.b1 ?_
          refine SO.load1 rfl Try.isAgg3 rfl rfl ?_
          refine SO.takeT rfl rfl rfl b6 ?_
          refine SO.v rfl (opv_eql rfl rfl) ?_
          refine SO.takeT rfl rfl rfl b5 ?_
          refine SO.v rfl (opv_pick_f' b6 rfl rfl) ?_
          refine SO.b2 ?_
          refine SO.b2 ?_
          refine SO.b2 ?_
          exact hk2.fitc (m := 6) rfl (or_f b6) rfl
      refine SO.v rfl (opv_pick_t' b5 rfl rfl) ?_
      refine SO.b2 ?_
      refine SO.b2 ?_
      refine SO.b2 ?_
      exact hk2.fitc (m := 6) rfl (and_t b5) rfl
    · refine SO.passF rfl rfl rfl b5 rfl rfl ?_
      refine SO.passF rfl rfl rfl b5 rfl rfl ?_
      refine SO.passF rfl rfl rfl b5 rfl rfl ?_
      refine SO.passF rfl rfl rfl b5 rfl rfl ?_
      refine SO.pass_undef rfl rfl rfl rfl ?_
      refine SO.pass_undef rfl rfl rfl rfl ?_
      refine SO.pass_undef rfl rfl rfl rfl ?_
      refine SO.pass_undef rfl rfl rfl rfl ?_
      refine SO.pass_undef rfl rfl rfl rfl ?_
      refine SO.passF rfl rfl rfl b5 rfl rfl ?_
      refine SO.v rfl (opv_pick_f' b5 rfl rfl) ?_
      refine SO.b2 ?_
      refine SO.b2 ?_
      refine SO.b2 ?_
      exact hk2.fitc (m := 11) rfl (and_f b5) rfl
  refine SO.v rfl (opv_assign rfl) ?_
  refine SO.nil ?_
  refine S.to (ρ' := [(4, .bool ((((a0.Kind == a1.Kind) && (a0.Obj == a1.Obj)) && ((bclr .i64 a0.Rights a1.Rights) == 0)) && ((a1.Badge == 0) || (a0.Badge == a1.Badge))))]) ⟨rfl, trivial⟩ ?_
  cases h
  refine S.drop ?_
  refine S.drop ?_
  exact S.ret1 Try.func47 rfl rfl (fun w hs hk => hR w _ _ ⟨rfl, rfl⟩ hs hk)
end Go.Proofs
namespace Go.Proofs
open Go.Sl Go.RowKit
/-! 45 padstone/padstonelaw03.up -/
def law03_up.f : Option (Bool) :=
  (rights_Derive.f (⟨3, 7, 1, 0, 0, 0⟩ : api_Cap) 3).bind fun (t2, t3) => (rights_Mint.f (⟨3, 7, 1, 0, 0, 0⟩ : api_Cap) 3 0).bind fun (t6, t7) => (bif t3.isNone then (some (t2.Rights == 3)) else (some false)).bind fun c11 => (bif c11 && (t7 == some 1) then ((rights_Has.f (⟨3, 7, 1, 0, 0, 0⟩ : api_Cap) 6).bind fun t17 => some t17) else (some false)).bind fun c15 => (bif c15 then ((rights_Has.f t2 4).bind fun t23 => some (!t23)) else (some false)).bind fun c21 => (bif c21 then ((rights_Within.f t2 (⟨3, 7, 1, 0, 0, 0⟩ : api_Cap)).bind fun t28 => some t28) else (some false)).bind fun c26 => (bif c26 then ((rights_Within.f (⟨3, 7, 1, 0, 0, 0⟩ : api_Cap) t2).bind fun t34 => some (!t34)) else (some false)).bind fun c32 => some c32
set_option maxHeartbeats 8000000 in
set_option maxRecDepth 100000 in
theorem law03_up.ct (r0 : Bool) (h : law03_up.f  = some r0) :
    Ct Try.prog 45 [] (fun _ => True) [] (fun u H' => u = .bool r0 ∧ H' = []) := by
  unfold law03_up.f at h
  refine Ct.intro (n := 49) Try.func45 rfl rfl rfl ?_
  intro R w0 F hF hR
  refine S.seq ?_
  refine S.region ?_
  refine SO.v rfl (opv_assign rfl) ?_
  refine SO.nil ?_
  refine S.seq ?_
  refine S.region ?_
  refine SO.v rfl (opv_build (v := .agg #[.int .i64 3, .int .i64 7, .int .i64 1, .int .i64 0, .int .i64 0, .int .i64 0]) rfl (by intro w; kernel_rfl)) ?_
  refine SO.alloc rfl Try.zeroValue53 rfl (fun b1 => ?_)
  refine SO.storeN Try.sizeOf53 rfl rfl rfl rfl rfl rfl ?_
  refine SO.nil ?_
  refine S.seq ?_
  refine S.region ?_
  refine SO.loadN rfl Try.isAgg53 Try.sizeOf53 rfl rfl rfl ?_
  obtain ⟨⟨t2, t3⟩, ht4, h⟩ := opt_bind h
  have ct38 := rights_Derive.ct _ _ _ _ ht4
  dsimp only at ct38
  refine SO.call (pre := []) rfl Try.call46 rfl rfl rfl ct38 trivial ?_
  rintro _ _ ⟨rfl, rfl⟩
  refine SO.v rfl (opv_move rfl) ?_
  refine SO.v rfl (opv_extract rfl rfl) ?_
  refine SO.v rfl (opv_extract rfl rfl) ?_
  refine SO.alloc rfl Try.zeroValue53 rfl (fun b5 => ?_)
  refine SO.storeN Try.sizeOf53 rfl rfl rfl rfl rfl rfl ?_
  refine SO.v rfl (opv_assign rfl) ?_
  refine SO.nil ?_
  refine S.seq ?_
  refine S.region ?_
  refine SO.b1 ?_
  refine SO.loadN rfl Try.isAgg53 Try.sizeOf53 rfl rfl rfl ?_
  obtain ⟨⟨t6, t7⟩, ht8, h⟩ := opt_bind h
  have ct37 := rights_Mint.ct _ _ _ _ _ ht8
  dsimp only at ct37
  refine SO.call (pre := []) rfl Try.call48 rfl rfl rfl ct37 trivial ?_
  rintro _ _ ⟨rfl, rfl⟩
  refine SO.v rfl (opv_move rfl) ?_
  refine SO.v rfl (opv_extract rfl rfl) ?_
  refine SO.v rfl (opv_extract rfl rfl) ?_
  refine SO.alloc rfl Try.zeroValue53 rfl (fun b9 => ?_)
  refine SO.storeN Try.sizeOf53 rfl rfl rfl rfl rfl rfl ?_
  refine SO.v rfl (opv_assign rfl) ?_
  refine SO.nil ?_
  refine S.to (ρ' := [(0, .bool false), (1, bp b1 0), (2, bp b5 0), (3, errV 48 t3), (5, errV 48 t7)]) ⟨rfl, rfl, rfl, rfl, rfl, trivial⟩ ?_
  refine S.seq ?_
  refine S.region ?_
  refine SO.v rfl (opv_move rfl) ?_
  refine SO.v rfl (opv_eqlN (e := t3) Try.underlying45 rfl) ?_
  refine SO.v rfl (opv_move rfl) ?_
  obtain ⟨c11, hc12, hgk⟩ := opt_bind h
  refine SO.cut 4 23 (.bool c11) [Box b9 [.int .i64 t6.Kind, .int .i64 t6.Rights, .int .i64 t6.Obj, .int .i64 t6.Badge, .int .i64 t6.Guard, .int .i64 t6.Bits], Box b1 [.int .i64 3, .int .i64 7, .int .i64 1, .int .i64 0, .int .i64 0, .int .i64 0], Box b5 [.int .i64 t2.Kind, .int .i64 t2.Rights, .int .i64 t2.Obj, .int .i64 t2.Badge, .int .i64 t2.Guard, .int .i64 t2.Bits], F] (fun l2 hk2 => ?_) ?_
  · clear hgk
    replace h := hc12
    rcases bool_or t3.isNone with b10 | b10
    · replace h := cond_t b10 h
      refine SO.takeT rfl rfl rfl b10 ?_
      refine SO.v rfl (opv_fieldAddr Try.underlying53 rfl Try.sizeOf3 rfl rfl) ?_
      refine SO.takeT rfl rfl rfl b10 ?_
      refine SO.b2 ?_
      refine SO.load1 rfl Try.isAgg3 rfl rfl ?_
      refine SO.takeT rfl rfl rfl b10 ?_
      refine SO.v rfl (opv_eql rfl rfl) ?_
      cases h
      refine SO.v rfl (opv_pick_t' b10 rfl rfl) ?_
      refine SO.b3 ?_
      refine SO.b1 ?_
      refine SO.b3 ?_
      refine SO.b3 ?_
      exact hk2.fitc (m := 4) rfl (rfl) rfl
    · replace h := cond_f b10 h
      refine SO.passF rfl rfl rfl b10 rfl rfl ?_
      refine SO.passF rfl rfl rfl b10 rfl rfl ?_
      refine SO.passF rfl rfl rfl b10 rfl rfl ?_
      cases h
      refine SO.v rfl (opv_pick_f' b10 rfl rfl) ?_
      refine SO.b3 ?_
      refine SO.b3 ?_
      refine SO.b3 ?_
      refine SO.b3 ?_
      exact hk2.fitc (m := 4) rfl (rfl) rfl
  clear hc12
  replace h := hgk
  refine SO.v rfl (opv_move rfl) ?_
  refine SO.cut 4 28 (.bool (c11 && (t7 == some 1))) [Box b9 [.int .i64 t6.Kind, .int .i64 t6.Rights, .int .i64 t6.Obj, .int .i64 t6.Badge, .int .i64 t6.Guard, .int .i64 t6.Bits], Box b1 [.int .i64 3, .int .i64 7, .int .i64 1, .int .i64 0, .int .i64 0, .int .i64 0], Box b5 [.int .i64 t2.Kind, .int .i64 t2.Rights, .int .i64 t2.Obj, .int .i64 t2.Badge, .int .i64 t2.Guard, .int .i64 t2.Bits], F] (fun l2 hk2 => ?_) ?_
  · rcases bool_or c11 with b13 | b13
    · refine SO.takeT rfl rfl rfl b13 ?_
      refine SO.v rfl (opv_move rfl) ?_
      refine SO.takeT rfl rfl rfl b13 ?_
      refine SO.v rfl (opv_iface Try.underlying48 rfl rfl) ?_
      refine SO.takeT rfl rfl rfl b13 ?_
      refine SO.v rfl (opv_eqlE (e := t7) (c := 1) Try.underlying45 Try.underlying48 inf48 rfl rfl rfl) ?_
      refine SO.v rfl (opv_pick_t' b13 rfl rfl) ?_
      refine SO.b3 ?_
      refine SO.b3 ?_
      refine SO.b3 ?_
      refine SO.b3 ?_
      exact hk2.fitc (m := 4) rfl (and_t b13) rfl
    · refine SO.passF rfl rfl rfl b13 rfl rfl ?_
      refine SO.passF rfl rfl rfl b13 rfl rfl ?_
      refine SO.passF rfl rfl rfl b13 rfl rfl ?_
      refine SO.v rfl (opv_pick_f' b13 rfl rfl) ?_
      refine SO.b3 ?_
      refine SO.b3 ?_
      refine SO.b3 ?_
      refine SO.b3 ?_
      exact hk2.fitc (m := 4) rfl (and_f b13) rfl
  refine SO.v rfl (opv_move rfl) ?_
  obtain ⟨c15, hc16, hgk⟩ := opt_bind h
  refine SO.cut 3 32 (.bool c15) [Box b9 [.int .i64 t6.Kind, .int .i64 t6.Rights, .int .i64 t6.Obj, .int .i64 t6.Badge, .int .i64 t6.Guard, .int .i64 t6.Bits], Box b1 [.int .i64 3, .int .i64 7, .int .i64 1, .int .i64 0, .int .i64 0, .int .i64 0], Box b5 [.int .i64 t2.Kind, .int .i64 t2.Rights, .int .i64 t2.Obj, .int .i64 t2.Badge, .int .i64 t2.Guard, .int .i64 t2.Bits], F] (fun l2 hk2 => ?_) ?_
  · clear hgk
    replace h := hc16
    rcases bool_or (c11 && (t7 == some 1)) with b14 | b14
    · replace h := cond_t b14 h
      refine SO.takeT rfl rfl rfl b14 ?_
      refine SO.b1 ?_
      refine SO.loadN rfl Try.isAgg53 Try.sizeOf53 rfl rfl rfl ?_
      refine SO.takeT rfl rfl rfl b14 ?_
      obtain ⟨t17, ht18, h⟩ := opt_bind h
      have ct19 := rights_Has.ct _ _ _ ht18
      dsimp only at ct19
      refine SO.call (pre := []) rfl Try.call55 rfl rfl rfl ct19 trivial ?_
      rintro _ _ ⟨rfl, rfl⟩
      cases h
      refine SO.v rfl (opv_pick_t' b14 rfl rfl) ?_
      refine SO.b3 ?_
      refine SO.b3 ?_
      refine SO.b2 ?_
      refine SO.b3 ?_
      exact hk2.fitc (m := 3) rfl (rfl) rfl
    · replace h := cond_f b14 h
      refine SO.passF rfl rfl rfl b14 rfl rfl ?_
      refine SO.passF rfl rfl rfl b14 rfl rfl ?_
      cases h
      refine SO.v rfl (opv_pick_f' b14 rfl rfl) ?_
      refine SO.b3 ?_
      refine SO.b3 ?_
      refine SO.b3 ?_
      refine SO.b3 ?_
      exact hk2.fitc (m := 3) rfl (rfl) rfl
  clear hc16
  replace h := hgk
  refine SO.v rfl (opv_move rfl) ?_
  obtain ⟨c21, hc22, hgk⟩ := opt_bind h
  refine SO.cut 4 37 (.bool c21) [Box b9 [.int .i64 t6.Kind, .int .i64 t6.Rights, .int .i64 t6.Obj, .int .i64 t6.Badge, .int .i64 t6.Guard, .int .i64 t6.Bits], Box b1 [.int .i64 3, .int .i64 7, .int .i64 1, .int .i64 0, .int .i64 0, .int .i64 0], Box b5 [.int .i64 t2.Kind, .int .i64 t2.Rights, .int .i64 t2.Obj, .int .i64 t2.Badge, .int .i64 t2.Guard, .int .i64 t2.Bits], F] (fun l2 hk2 => ?_) ?_
  · clear hgk
    replace h := hc22
    rcases bool_or c15 with b20 | b20
    · replace h := cond_t b20 h
      refine SO.takeT rfl rfl rfl b20 ?_
      refine SO.b2 ?_
      refine SO.loadN rfl Try.isAgg53 Try.sizeOf53 rfl rfl rfl ?_
      refine SO.takeT rfl rfl rfl b20 ?_
      obtain ⟨t23, ht24, h⟩ := opt_bind h
      refine SO.call (pre := []) rfl Try.call55 rfl rfl rfl (rights_Has.ct _ _ _ ht24) trivial ?_
      rintro _ _ ⟨rfl, rfl⟩
      refine SO.takeT rfl rfl rfl b20 ?_
      refine SO.v rfl (opv_not rfl) ?_
      cases h
      refine SO.v rfl (opv_pick_t' b20 rfl rfl) ?_
      refine SO.b3 ?_
      refine SO.b1 ?_
      refine SO.b3 ?_
      refine SO.b3 ?_
      exact hk2.fitc (m := 4) rfl (rfl) rfl
    · replace h := cond_f b20 h
      refine SO.passF rfl rfl rfl b20 rfl rfl ?_
      refine SO.passF rfl rfl rfl b20 rfl rfl ?_
      refine SO.passF rfl rfl rfl b20 rfl rfl ?_
      cases h
      refine SO.v rfl (opv_pick_f' b20 rfl rfl) ?_
      refine SO.b3 ?_
      refine SO.b3 ?_
      refine SO.b3 ?_
      refine SO.b3 ?_
      exact hk2.fitc (m := 4) rfl (rfl) rfl
  clear hc22
  replace h := hgk
  refine SO.v rfl (opv_move rfl) ?_
  obtain ⟨c26, hc27, hgk⟩ := opt_bind h
  refine SO.cut 4 42 (.bool c26) [Box b9 [.int .i64 t6.Kind, .int .i64 t6.Rights, .int .i64 t6.Obj, .int .i64 t6.Badge, .int .i64 t6.Guard, .int .i64 t6.Bits], Box b1 [.int .i64 3, .int .i64 7, .int .i64 1, .int .i64 0, .int .i64 0, .int .i64 0], Box b5 [.int .i64 t2.Kind, .int .i64 t2.Rights, .int .i64 t2.Obj, .int .i64 t2.Badge, .int .i64 t2.Guard, .int .i64 t2.Bits], F] (fun l2 hk2 => ?_) ?_
  · clear hgk
    replace h := hc27
    rcases bool_or c21 with b25 | b25
    · replace h := cond_t b25 h
      refine SO.takeT rfl rfl rfl b25 ?_
      refine SO.b2 ?_
      refine SO.loadN rfl Try.isAgg53 Try.sizeOf53 rfl rfl rfl ?_
      refine SO.takeT rfl rfl rfl b25 ?_
      refine SO.b2 ?_
      refine SO.loadN rfl Try.isAgg53 Try.sizeOf53 rfl rfl rfl ?_
      refine SO.takeT rfl rfl rfl b25 ?_
      obtain ⟨t28, ht29, h⟩ := opt_bind h
      have ct30 := rights_Within.ct _ _ _ ht29
      dsimp only at ct30
      refine SO.call (pre := []) rfl Try.call47 rfl rfl rfl ct30 trivial ?_
      rintro _ _ ⟨rfl, rfl⟩
      cases h
      refine SO.v rfl (opv_pick_t' b25 rfl rfl) ?_
      refine SO.b3 ?_
      refine SO.b2 ?_
      refine SO.b2 ?_
      refine SO.b3 ?_
      exact hk2.fitc (m := 4) rfl (rfl) rfl
    · replace h := cond_f b25 h
      refine SO.passF rfl rfl rfl b25 rfl rfl ?_
      refine SO.passF rfl rfl rfl b25 rfl rfl ?_
      refine SO.passF rfl rfl rfl b25 rfl rfl ?_
      cases h
      refine SO.v rfl (opv_pick_f' b25 rfl rfl) ?_
      refine SO.b3 ?_
      refine SO.b3 ?_
      refine SO.b3 ?_
      refine SO.b3 ?_
      exact hk2.fitc (m := 4) rfl (rfl) rfl
  clear hc27
  replace h := hgk
  refine SO.v rfl (opv_move rfl) ?_
  obtain ⟨c32, hc33, hgk⟩ := opt_bind h
  refine SO.cut 5 48 (.bool c32) [Box b9 [.int .i64 t6.Kind, .int .i64 t6.Rights, .int .i64 t6.Obj, .int .i64 t6.Badge, .int .i64 t6.Guard, .int .i64 t6.Bits], Box b1 [.int .i64 3, .int .i64 7, .int .i64 1, .int .i64 0, .int .i64 0, .int .i64 0], Box b5 [.int .i64 t2.Kind, .int .i64 t2.Rights, .int .i64 t2.Obj, .int .i64 t2.Badge, .int .i64 t2.Guard, .int .i64 t2.Bits], F] (fun l2 hk2 => ?_) ?_
  · clear hgk
    replace h := hc33
    rcases bool_or c26 with b31 | b31
    · replace h := cond_t b31 h
      refine SO.takeT rfl rfl rfl b31 ?_
      refine SO.b1 ?_
      refine SO.loadN rfl Try.isAgg53 Try.sizeOf53 rfl rfl rfl ?_
      refine SO.takeT rfl rfl rfl b31 ?_
      refine SO.b2 ?_
      refine SO.loadN rfl Try.isAgg53 Try.sizeOf53 rfl rfl rfl ?_
      refine SO.takeT rfl rfl rfl b31 ?_
      obtain ⟨t34, ht35, h⟩ := opt_bind h
      have ct36 := rights_Within.ct _ _ _ ht35
      dsimp only at ct36
      refine SO.call (pre := []) rfl Try.call47 rfl rfl rfl ct36 trivial ?_
      rintro _ _ ⟨rfl, rfl⟩
      refine SO.takeT rfl rfl rfl b31 ?_
      refine SO.v rfl (opv_not rfl) ?_
      cases h
      refine SO.v rfl (opv_pick_t' b31 rfl rfl) ?_
      refine SO.b3 ?_
      refine SO.b1 ?_
      refine SO.b2 ?_
      refine SO.b3 ?_
      exact hk2.fitc (m := 5) rfl (rfl) rfl
    · replace h := cond_f b31 h
      refine SO.passF rfl rfl rfl b31 rfl rfl ?_
      refine SO.passF rfl rfl rfl b31 rfl rfl ?_
      refine SO.passF rfl rfl rfl b31 rfl rfl ?_
      refine SO.passF rfl rfl rfl b31 rfl rfl ?_
      cases h
      refine SO.v rfl (opv_pick_f' b31 rfl rfl) ?_
      refine SO.b3 ?_
      refine SO.b3 ?_
      refine SO.b3 ?_
      refine SO.b3 ?_
      exact hk2.fitc (m := 5) rfl (rfl) rfl
  clear hc33
  replace h := hgk
  refine SO.v rfl (opv_assign rfl) ?_
  refine SO.nil ?_
  refine S.to (ρ' := [(0, .bool c32)]) ⟨rfl, trivial⟩ ?_
  cases h
  refine S.drop ?_
  refine S.drop ?_
  refine S.drop ?_
  exact S.ret1 Try.func45 rfl rfl (fun w hs hk => hR w _ _ ⟨rfl, rfl⟩ hs hk)
end Go.Proofs
namespace Go.Proofs
open Go.Sl Go.RowKit
/-! 66 padstone/padstoneref01.in -/
def ref01_in.f (a0 : Int) (a1 : Int) : Option (Bool) :=
  some ((decide (0 ≤ a0)) && (decide (a0 ≤ a1)))
set_option maxHeartbeats 8000000 in
set_option maxRecDepth 100000 in
theorem ref01_in.ct (a0 : Int) (a1 : Int) (r0 : Bool) (h : ref01_in.f a0 a1 = some r0) :
    Ct Try.prog 66 [.int .i64 a0, .int .i64 a1] (fun _ => True) [] (fun u H' => u = .bool r0 ∧ H' = []) := by
  unfold ref01_in.f at h
  refine Ct.intro (n := 12) Try.func66 rfl rfl rfl ?_
  intro R w0 F hF hR
  refine S.seq ?_
  refine S.region ?_
  refine SO.v rfl (opv_assign rfl) ?_
  refine SO.nil ?_
  refine S.seq ?_
  refine S.region ?_
  refine SO.v rfl (opv_move rfl) ?_
  refine SO.v rfl (opv_geq rfl rfl) ?_
  refine SO.v rfl (opv_move rfl) ?_
  refine SO.cut 4 11 (.bool ((decide (0 ≤ a0)) && (decide (a0 ≤ a1)))) [F] (fun l2 hk2 => ?_) ?_
  · rcases bool_or (decide (0 ≤ a0)) with b1 | b1
    · refine SO.takeT rfl rfl rfl b1 ?_
      refine SO.v rfl (opv_move rfl) ?_
      refine SO.takeT rfl rfl rfl b1 ?_
      refine SO.v rfl (opv_move rfl) ?_
      refine SO.takeT rfl rfl rfl b1 ?_
      refine SO.v rfl (opv_leq rfl rfl) ?_
      refine SO.v rfl (opv_pick_t' b1 rfl rfl) ?_
      exact hk2.fitc (m := 4) rfl (and_t b1) rfl
    · refine SO.passF rfl rfl rfl b1 rfl rfl ?_
      refine SO.passF rfl rfl rfl b1 rfl rfl ?_
      refine SO.passF rfl rfl rfl b1 rfl rfl ?_
      refine SO.v rfl (opv_pick_f' b1 rfl rfl) ?_
      exact hk2.fitc (m := 4) rfl (and_f b1) rfl
  refine SO.v rfl (opv_assign rfl) ?_
  refine SO.nil ?_
  cases h
  exact S.ret1 Try.func66 rfl rfl (fun w hs hk => hR w _ _ ⟨rfl, rfl⟩ hs hk)
end Go.Proofs
namespace Go.Proofs
open Go.Sl Go.RowKit
/-! 67 padstone/padstoneref01.two -/
def ref01_two.l1 (a0 : Int) : Nat → (Int × Int) → Option (Int)
  | 0, _ => none
  | k + 1, (x4_1, x3_1) => bif decide (x4_1 < a0) then (ref01_two.l1 a0 k (w64 (x4_1 + 1), w64 (2 * x3_1))) else (some x3_1)
def ref01_two.f (k : Nat) (a0 : Int) : Option (Int) :=
  (ref01_two.l1 a0 k (0, 1)).bind fun j3_e1 => some j3_e1
set_option maxHeartbeats 8000000 in
set_option maxRecDepth 100000 in
theorem ref01_two.ct (k : Nat) (a0 : Int) (r0 : Int) (h : ref01_two.f k a0 = some r0) :
    Ct Try.prog 67 [.int .i64 a0] (fun _ => True) [] (fun u H' => u = .int .i64 r0 ∧ H' = []) := by
  unfold ref01_two.f at h
  refine Ct.intro (n := 13) Try.func67 rfl rfl rfl ?_
  intro R w0 F hF hR
  refine S.seq ?_
  refine S.region ?_
  refine SO.v rfl (opv_assign rfl) ?_
  refine SO.nil ?_
  refine S.seq ?_
  refine S.region ?_
  refine SO.v rfl (opv_assign rfl) ?_
  refine SO.nil ?_
  refine S.seq ?_
  refine S.seq ?_
  refine S.region ?_
  refine SO.v rfl (opv_assign rfl) ?_
  refine SO.nil ?_
  obtain ⟨j3_e1, hl1, h⟩ := opt_bind h
  refine S.to (ρ' := [(4, .int .i64 0), (3, .int .i64 1), (2, .int .i64 0), (0, .int .i64 a0)]) ⟨rfl, rfl, rfl, rfl, trivial⟩ ?_
  refine S.forloop (X := (Int × Int) × Unit) (O := Int) (fun m x => ref01_two.l1 a0 m x.1) (fun x => match x with | ((x4_1, x3_1), _) => [(4, .int .i64 x4_1), (3, .int .i64 x3_1), (2, .int .i64 0), (0, .int .i64 a0)]) (fun x => match x with | ((x4_1, x3_1), _) => [F]) (fun Sk => (fun j3_e1 => ∀ _ : Unit, Sk [(2, .int .i64 0), (3, .int .i64 j3_e1)] [F])) (fun _ => rfl) ?_ (m := k) (x := ((0, 1), ())) hl1 ?_
  · clear h hl1
    intro k x o_1 h hK1 ih1
    obtain ⟨⟨x4_1, x3_1⟩, _⟩ := x
    replace h : ref01_two.l1 a0 (k + 1) (x4_1, x3_1) = some o_1 := h
    rw [ref01_two.l1] at h
    refine S.seq ?_
    refine S.seq ?_
    refine S.region ?_
    refine SO.v rfl (opv_move rfl) ?_
    refine SO.v rfl (opv_move rfl) ?_
    refine SO.v rfl (opv_lss rfl rfl) ?_
    refine SO.nil ?_
    rcases bool_or (decide (x4_1 < a0)) with b1 | b1
    · replace h := cond_t b1 h
      refine S.condT rfl b1 ?_
      refine S.skip ?_
      refine S.seq ?_
      refine S.block ?_
      refine S.region ?_
      refine SO.v rfl (opv_move rfl) ?_
      refine SO.v rfl (opv_mul rfl rfl) ?_
      refine SO.v rfl (opv_assign rfl) ?_
      refine SO.nil ?_
      refine S.inBlock ?_
      refine S.region ?_
      refine SO.v rfl (opv_move rfl) ?_
      refine SO.v rfl (opv_add rfl rfl) ?_
      refine SO.v rfl (opv_assign rfl) ?_
      refine SO.nil ?_
      refine S.to ?_ (ih1 ((w64 (x4_1 + 1), w64 (2 * x3_1)), ()) h)
      exact ⟨rfl, rfl, rfl, rfl, trivial⟩
    · replace h := cond_f b1 h
      refine S.condF rfl b1 ?_
      refine S.exit rfl ?_
      cases h
      refine S.to ?_ (hK1 ())
      exact ⟨rfl, rfl, trivial⟩
  rintro _
  refine S.seq ?_
  refine S.region ?_
  refine SO.v rfl (opv_move rfl) ?_
  refine SO.v rfl (opv_assign rfl) ?_
  refine SO.nil ?_
  cases h
  exact S.ret1 Try.func67 rfl rfl (fun w hs hk => hR w _ _ ⟨rfl, rfl⟩ hs hk)
end Go.Proofs
namespace Go.Proofs
open Go.Sl Go.RowKit
/-! 31 padstone/padstoneref01.May -/
def ref01_May.f (k : Nat) (a0 : api_Cap) : Option (Bool) :=
  (ref01_in.f a0.Kind 8).bind fun t2 => (ref01_in.f a0.Rights 7).bind fun t4 => (ref01_in.f a0.Obj 31).bind fun t6 => (ref01_in.f a0.Badge 65535).bind fun t8 => (ref01_in.f a0.Bits 8).bind fun t10 => bif ((((!t2) || (!t4)) || (!t6)) || (!t8)) || (!t10) then (some false) else (bif (a0.Kind == 0) && ((a0.Rights != 0) || (a0.Obj != 0)) then (some false) else (bif ((a0.Kind != 3) && (a0.Kind != 4)) && (a0.Badge != 0) then (some false) else (bif (a0.Kind != 2) && ((a0.Bits != 0) || (a0.Guard != 0)) then (some false) else ((bif decide (0 ≤ a0.Guard) then ((ref01_two.f k a0.Bits).bind fun t27 => some (decide (a0.Guard < t27))) else (some false)).bind fun j2_1 => some j2_1))))
set_option maxHeartbeats 8000000 in
set_option maxRecDepth 100000 in
theorem ref01_May.ct (k : Nat) (a0 : api_Cap) (r0 : Bool) (h : ref01_May.f k a0 = some r0) :
    Ct Try.prog 31 [.agg #[.int .i64 a0.Kind, .int .i64 a0.Rights, .int .i64 a0.Obj, .int .i64 a0.Badge, .int .i64 a0.Guard, .int .i64 a0.Bits]] (fun _ => True) [] (fun u H' => u = .bool r0 ∧ H' = []) := by
  unfold ref01_May.f at h
  refine Ct.intro (n := 91) Try.func31 rfl rfl rfl ?_
  intro R w0 F hF hR
  refine S.seq ?_
  refine S.region ?_
  refine SO.box rfl rfl rfl (fun b1 => ?_)
  refine SO.v rfl (opv_assign rfl) ?_
  refine SO.nil ?_
  refine S.seq ?_
  refine S.region ?_
  refine SO.v rfl (opv_fieldAddr Try.underlying53 rfl Try.sizeOf3 rfl rfl) ?_
  refine SO.load1 rfl Try.isAgg3 rfl rfl ?_
  obtain ⟨t2, ht3, h⟩ := opt_bind h
  refine SO.call (pre := []) rfl Try.call66 rfl rfl rfl (ref01_in.ct _ _ _ ht3) trivial ?_
  rintro _ _ ⟨rfl, rfl⟩
  refine SO.v rfl (opv_assign rfl) ?_
  refine SO.nil ?_
  refine S.seq ?_
  refine S.region ?_
  refine SO.v rfl (opv_fieldAddr Try.underlying53 rfl Try.sizeOf3 rfl rfl) ?_
  refine SO.load1 rfl Try.isAgg3 rfl rfl ?_
  obtain ⟨t4, ht5, h⟩ := opt_bind h
  refine SO.call (pre := []) rfl Try.call66 rfl rfl rfl (ref01_in.ct _ _ _ ht5) trivial ?_
  rintro _ _ ⟨rfl, rfl⟩
  refine SO.v rfl (opv_assign rfl) ?_
  refine SO.nil ?_
  refine S.to (ρ' := [(1, bp b1 0), (2, .bool false), (3, .bool t2), (4, .bool t4)]) ⟨rfl, rfl, rfl, rfl, trivial⟩ ?_
  refine S.seq ?_
  refine S.region ?_
  refine SO.v rfl (opv_fieldAddr Try.underlying53 rfl Try.sizeOf3 rfl rfl) ?_
  refine SO.load1 rfl Try.isAgg3 rfl rfl ?_
  obtain ⟨t6, ht7, h⟩ := opt_bind h
  refine SO.call (pre := []) rfl Try.call66 rfl rfl rfl (ref01_in.ct _ _ _ ht7) trivial ?_
  rintro _ _ ⟨rfl, rfl⟩
  refine SO.v rfl (opv_assign rfl) ?_
  refine SO.nil ?_
  refine S.seq ?_
  refine S.region ?_
  refine SO.v rfl (opv_fieldAddr Try.underlying53 rfl Try.sizeOf3 rfl rfl) ?_
  refine SO.load1 rfl Try.isAgg3 rfl rfl ?_
  obtain ⟨t8, ht9, h⟩ := opt_bind h
  refine SO.call (pre := []) rfl Try.call66 rfl rfl rfl (ref01_in.ct _ _ _ ht9) trivial ?_
  rintro _ _ ⟨rfl, rfl⟩
  refine SO.v rfl (opv_assign rfl) ?_
  refine SO.nil ?_
  refine S.seq ?_
  refine S.region ?_
  refine SO.v rfl (opv_fieldAddr Try.underlying53 rfl Try.sizeOf3 rfl rfl) ?_
  refine SO.load1 rfl Try.isAgg3 rfl rfl ?_
  obtain ⟨t10, ht11, h⟩ := opt_bind h
  refine SO.call (pre := []) rfl Try.call66 rfl rfl rfl (ref01_in.ct _ _ _ ht11) trivial ?_
  rintro _ _ ⟨rfl, rfl⟩
  refine SO.v rfl (opv_assign rfl) ?_
  refine SO.nil ?_
  refine S.to (ρ' := [(1, bp b1 0), (2, .bool false), (3, .bool t2), (4, .bool t4), (5, .bool t6), (6, .bool t8), (7, .bool t10)]) ⟨rfl, rfl, rfl, rfl, rfl, rfl, rfl, trivial⟩ ?_
  refine S.seq ?_
  refine S.seq ?_
  refine S.region ?_
  refine SO.v rfl (opv_move rfl) ?_
  refine SO.v rfl (opv_not rfl) ?_
  refine SO.v rfl (opv_move rfl) ?_
  refine SO.cut 3 28 (.bool ((!t2) || (!t4))) [Box b1 [.int .i64 a0.Kind, .int .i64 a0.Rights, .int .i64 a0.Obj, .int .i64 a0.Badge, .int .i64 a0.Guard, .int .i64 a0.Bits], F] (fun l2 hk2 => ?_) ?_
  · rcases bool_or (!t2) with b12 | b12
    · refine SO.passF rfl rfl rfl b12 rfl rfl ?_
      refine SO.passF rfl rfl rfl b12 rfl rfl ?_
      refine SO.v rfl (opv_pick_t' b12 rfl rfl) ?_
      refine SO.b1 ?_
      refine SO.b1 ?_
      exact hk2.fitc (m := 3) rfl (or_t b12) rfl
    · refine SO.takeT rfl rfl rfl b12 ?_
      refine SO.v rfl (opv_move rfl) ?_
      refine SO.takeT rfl rfl rfl b12 ?_
      refine SO.v rfl (opv_not rfl) ?_
      refine SO.v rfl (opv_pick_f' b12 rfl rfl) ?_
      refine SO.b1 ?_
      refine SO.b1 ?_
      exact hk2.fitc (m := 3) rfl (or_f b12) rfl
  refine SO.v rfl (opv_move rfl) ?_
  refine SO.cut 3 32 (.bool (((!t2) || (!t4)) || (!t6))) [Box b1 [.int .i64 a0.Kind, .int .i64 a0.Rights, .int .i64 a0.Obj, .int .i64 a0.Badge, .int .i64 a0.Guard, .int .i64 a0.Bits], F] (fun l2 hk2 => ?_) ?_
  · rcases bool_or ((!t2) || (!t4)) with b13 | b13
    · refine SO.passF rfl rfl rfl b13 rfl rfl ?_
      refine SO.passF rfl rfl rfl b13 rfl rfl ?_
      refine SO.v rfl (opv_pick_t' b13 rfl rfl) ?_
      refine SO.b1 ?_
      refine SO.b1 ?_
      exact hk2.fitc (m := 3) rfl (or_t b13) rfl
    · refine SO.takeT rfl rfl rfl b13 ?_
      refine SO.v rfl (opv_move rfl) ?_
      refine SO.takeT rfl rfl rfl b13 ?_
      refine SO.v rfl (opv_not rfl) ?_
      refine SO.v rfl (opv_pick_f' b13 rfl rfl) ?_
      refine SO.b1 ?_
      refine SO.b1 ?_
      exact hk2.fitc (m := 3) rfl (or_f b13) rfl
  refine SO.v rfl (opv_move rfl) ?_
  refine SO.cut 3 36 (.bool ((((!t2) || (!t4)) || (!t6)) || (!t8))) [Box b1 [.int .i64 a0.Kind, .int .i64 a0.Rights, .int .i64 a0.Obj, .int .i64 a0.Badge, .int .i64 a0.Guard, .int .i64 a0.Bits], F] (fun l2 hk2 => ?_) ?_
  · rcases bool_or (((!t2) || (!t4)) || (!t6)) with b14 | b14
    · refine SO.passF rfl rfl rfl b14 rfl rfl ?_
      refine SO.passF rfl rfl rfl b14 rfl rfl ?_
      refine SO.v rfl (opv_pick_t' b14 rfl rfl) ?_
      refine SO.b1 ?_
      refine SO.b1 ?_
      exact hk2.fitc (m := 3) rfl (or_t b14) rfl
    · refine SO.takeT rfl rfl rfl b14 ?_
      refine SO.v rfl (opv_move rfl) ?_
      refine SO.takeT rfl rfl rfl b14 ?_
      refine SO.v rfl (opv_not rfl) ?_
      refine SO.v rfl (opv_pick_f' b14 rfl rfl) ?_
      refine SO.b1 ?_
      refine SO.b1 ?_
      exact hk2.fitc (m := 3) rfl (or_f b14) rfl
  refine SO.v rfl (opv_move rfl) ?_
  refine SO.cut 3 40 (.bool (((((!t2) || (!t4)) || (!t6)) || (!t8)) || (!t10))) [Box b1 [.int .i64 a0.Kind, .int .i64 a0.Rights, .int .i64 a0.Obj, .int .i64 a0.Badge, .int .i64 a0.Guard, .int .i64 a0.Bits], F] (fun l2 hk2 => ?_) ?_
  · rcases bool_or ((((!t2) || (!t4)) || (!t6)) || (!t8)) with b15 | b15
    · refine SO.passF rfl rfl rfl b15 rfl rfl ?_
      refine SO.passF rfl rfl rfl b15 rfl rfl ?_
      refine SO.v rfl (opv_pick_t' b15 rfl rfl) ?_
      refine SO.b1 ?_
      refine SO.b1 ?_
      exact hk2.fitc (m := 3) rfl (or_t b15) rfl
    · refine SO.takeT rfl rfl rfl b15 ?_
      refine SO.v rfl (opv_move rfl) ?_
      refine SO.takeT rfl rfl rfl b15 ?_
      refine SO.v rfl (opv_not rfl) ?_
      refine SO.v rfl (opv_pick_f' b15 rfl rfl) ?_
      refine SO.b1 ?_
      refine SO.b1 ?_
      exact hk2.fitc (m := 3) rfl (or_f b15) rfl
  refine SO.nil ?_
  refine S.to (ρ' := [(1, bp b1 0), (2, .bool false), (40, .bool (((((!t2) || (!t4)) || (!t6)) || (!t8)) || (!t10)))]) ⟨rfl, rfl, rfl, trivial⟩ ?_
  rcases bool_or (((((!t2) || (!t4)) || (!t6)) || (!t8)) || (!t10)) with b16 | b16
  · replace h := cond_t b16 h
    refine S.condT rfl b16 ?_
    refine S.seq ?_
    refine S.region ?_
    refine SO.v rfl (opv_assign rfl) ?_
    refine SO.nil ?_
    cases h
    refine S.drop ?_
    exact S.ret1 Try.func31 rfl rfl (fun w hs hk => hR w _ _ ⟨rfl, rfl⟩ hs hk)
  · replace h := cond_f b16 h
    refine S.condF rfl b16 ?_
    refine S.skip ?_
    refine S.seq ?_
    refine S.seq ?_
    refine S.region ?_
    refine SO.v rfl (opv_fieldAddr Try.underlying53 rfl Try.sizeOf3 rfl rfl) ?_
    refine SO.load1 rfl Try.isAgg3 rfl rfl ?_
    refine SO.v rfl (opv_eql rfl rfl) ?_
    refine SO.v rfl (opv_move rfl) ?_
    refine SO.cut 9 53 (.bool ((a0.Kind == 0) && ((a0.Rights != 0) || (a0.Obj != 0)))) [Box b1 [.int .i64 a0.Kind, .int .i64 a0.Rights, .int .i64 a0.Obj, .int .i64 a0.Badge, .int .i64 a0.Guard, .int .i64 a0.Bits], F] (fun l2 hk2 => ?_) ?_
    · rcases bool_or (a0.Kind == 0) with b17 | b17
      · refine SO.takeT rfl rfl rfl b17 ?_
        refine SO.v rfl (opv_fieldAddr Try.underlying53 rfl Try.sizeOf3 rfl rfl) ?_
        refine SO.takeT rfl rfl rfl b17 ?_
        refine SO.load1 rfl Try.isAgg3 rfl rfl ?_
        refine SO.takeT rfl rfl rfl b17 ?_
        refine SO.v rfl (opv_neq rfl rfl) ?_
        refine SO.takeT rfl rfl rfl b17 ?_
        refine SO.v rfl (opv_move rfl) ?_
        refine SO.cut 4 52 (.bool ((a0.Rights != 0) || (a0.Obj != 0))) [Box b1 [.int .i64 a0.Kind, .int .i64 a0.Rights, .int .i64 a0.Obj, .int .i64 a0.Badge, .int .i64 a0.Guard, .int .i64 a0.Bits], F] (fun l2 hk2 => ?_) ?_
        · rcases bool_or (a0.Rights != 0) with b18 | b18
          · refine SO.passF rfl rfl rfl b18 rfl rfl ?_
            refine SO.passF rfl rfl rfl b18 rfl rfl ?_
            refine SO.passF rfl rfl rfl b18 rfl rfl ?_
            refine SO.takeT rfl rfl rfl b17 ?_
            refine SO.v rfl (opv_pick_t' b18 rfl rfl) ?_
            refine SO.b1 ?_
            refine SO.b1 ?_
            exact hk2.fitc (m := 4) rfl (or_t b18) rfl
          · refine SO.takeT rfl rfl rfl b18 ?_
            refine SO.v rfl (opv_fieldAddr Try.underlying53 rfl Try.sizeOf3 rfl rfl) ?_
            refine SO.takeT rfl rfl rfl b18 ?_
            refine SO.load1 rfl Try.isAgg3 rfl rfl ?_
            refine SO.takeT rfl rfl rfl b18 ?_
            refine SO.v rfl (opv_neq rfl rfl) ?_
            refine SO.takeT rfl rfl rfl b17 ?_
            refine SO.v rfl (opv_pick_f' b18 rfl rfl) ?_
            refine SO.b1 ?_
            refine SO.b1 ?_
            exact hk2.fitc (m := 4) rfl (or_f b18) rfl
        refine SO.v rfl (opv_pick_t' b17 rfl rfl) ?_
        refine SO.b1 ?_
        refine SO.b1 ?_
        exact hk2.fitc (m := 6) rfl (and_t b17) rfl
      · refine SO.passF rfl rfl rfl b17 rfl rfl ?_
        refine SO.passF rfl rfl rfl b17 rfl rfl ?_
        refine SO.passF rfl rfl rfl b17 rfl rfl ?_
        refine SO.passF rfl rfl rfl b17 rfl rfl ?_
        refine SO.pass_undef rfl rfl rfl rfl ?_
        refine SO.pass_undef rfl rfl rfl rfl ?_
        refine SO.pass_undef rfl rfl rfl rfl ?_
        refine SO.passF rfl rfl rfl b17 rfl rfl ?_
        refine SO.v rfl (opv_pick_f' b17 rfl rfl) ?_
        refine SO.b1 ?_
        refine SO.b1 ?_
        exact hk2.fitc (m := 9) rfl (and_f b17) rfl
    refine SO.nil ?_
    rcases bool_or ((a0.Kind == 0) && ((a0.Rights != 0) || (a0.Obj != 0))) with b19 | b19
    · replace h := cond_t b19 h
      refine S.condT rfl b19 ?_
      refine S.seq ?_
      refine S.region ?_
      refine SO.v rfl (opv_assign rfl) ?_
      refine SO.nil ?_
      cases h
      refine S.drop ?_
      exact S.ret1 Try.func31 rfl rfl (fun w hs hk => hR w _ _ ⟨rfl, rfl⟩ hs hk)
    · replace h := cond_f b19 h
      refine S.condF rfl b19 ?_
      refine S.skip ?_
      refine S.seq ?_
      refine S.seq ?_
      refine S.region ?_
      refine SO.v rfl (opv_fieldAddr Try.underlying53 rfl Try.sizeOf3 rfl rfl) ?_
      refine SO.load1 rfl Try.isAgg3 rfl rfl ?_
      refine SO.v rfl (opv_neq rfl rfl) ?_
      refine SO.v rfl (opv_move rfl) ?_
      refine SO.cut 4 61 (.bool ((a0.Kind != 3) && (a0.Kind != 4))) [Box b1 [.int .i64 a0.Kind, .int .i64 a0.Rights, .int .i64 a0.Obj, .int .i64 a0.Badge, .int .i64 a0.Guard, .int .i64 a0.Bits], F] (fun l2 hk2 => ?_) ?_
      · rcases bool_or (a0.Kind != 3) with b20 | b20
        · refine SO.takeT rfl rfl rfl b20 ?_
          refine SO.v rfl (opv_fieldAddr Try.underlying53 rfl Try.sizeOf3 rfl rfl) ?_
          refine SO.takeT rfl rfl rfl b20 ?_
          refine SO.load1 rfl Try.isAgg3 rfl rfl ?_
          refine SO.takeT rfl rfl rfl b20 ?_
          refine SO.v rfl (opv_neq rfl rfl) ?_
          refine SO.v rfl (opv_pick_t' b20 rfl rfl) ?_
          refine SO.b1 ?_
          refine SO.b1 ?_
          exact hk2.fitc (m := 4) rfl (and_t b20) rfl
        · refine SO.passF rfl rfl rfl b20 rfl rfl ?_
          refine SO.passF rfl rfl rfl b20 rfl rfl ?_
          refine SO.passF rfl rfl rfl b20 rfl rfl ?_
          refine SO.v rfl (opv_pick_f' b20 rfl rfl) ?_
          refine SO.b1 ?_
          refine SO.b1 ?_
          exact hk2.fitc (m := 4) rfl (and_f b20) rfl
      refine SO.v rfl (opv_move rfl) ?_
      refine SO.cut 4 66 (.bool (((a0.Kind != 3) && (a0.Kind != 4)) && (a0.Badge != 0))) [Box b1 [.int .i64 a0.Kind, .int .i64 a0.Rights, .int .i64 a0.Obj, .int .i64 a0.Badge, .int .i64 a0.Guard, .int .i64 a0.Bits], F] (fun l2 hk2 => ?_) ?_
      · rcases bool_or ((a0.Kind != 3) && (a0.Kind != 4)) with b21 | b21
        · refine SO.takeT rfl rfl rfl b21 ?_
          refine SO.v rfl (opv_fieldAddr Try.underlying53 rfl Try.sizeOf3 rfl rfl) ?_
          refine SO.takeT rfl rfl rfl b21 ?_
          refine SO.load1 rfl Try.isAgg3 rfl rfl ?_
          refine SO.takeT rfl rfl rfl b21 ?_
          refine SO.v rfl (opv_neq rfl rfl) ?_
          refine SO.v rfl (opv_pick_t' b21 rfl rfl) ?_
          refine SO.b1 ?_
          refine SO.b1 ?_
          exact hk2.fitc (m := 4) rfl (and_t b21) rfl
        · refine SO.passF rfl rfl rfl b21 rfl rfl ?_
          refine SO.passF rfl rfl rfl b21 rfl rfl ?_
          refine SO.passF rfl rfl rfl b21 rfl rfl ?_
          refine SO.v rfl (opv_pick_f' b21 rfl rfl) ?_
          refine SO.b1 ?_
          refine SO.b1 ?_
          exact hk2.fitc (m := 4) rfl (and_f b21) rfl
      refine SO.nil ?_
      refine S.to (ρ' := [(1, bp b1 0), (2, .bool false), (66, .bool (((a0.Kind != 3) && (a0.Kind != 4)) && (a0.Badge != 0)))]) ⟨rfl, rfl, rfl, trivial⟩ ?_
      rcases bool_or (((a0.Kind != 3) && (a0.Kind != 4)) && (a0.Badge != 0)) with b22 | b22
      · replace h := cond_t b22 h
        refine S.condT rfl b22 ?_
        refine S.seq ?_
        refine S.region ?_
        refine SO.v rfl (opv_assign rfl) ?_
        refine SO.nil ?_
        cases h
        refine S.drop ?_
        exact S.ret1 Try.func31 rfl rfl (fun w hs hk => hR w _ _ ⟨rfl, rfl⟩ hs hk)
      · replace h := cond_f b22 h
        refine S.condF rfl b22 ?_
        refine S.skip ?_
        refine S.seq ?_
        refine S.seq ?_
        refine S.region ?_
        refine SO.v rfl (opv_fieldAddr Try.underlying53 rfl Try.sizeOf3 rfl rfl) ?_
        refine SO.load1 rfl Try.isAgg3 rfl rfl ?_
        refine SO.v rfl (opv_neq rfl rfl) ?_
        refine SO.v rfl (opv_move rfl) ?_
        refine SO.cut 9 79 (.bool ((a0.Kind != 2) && ((a0.Bits != 0) || (a0.Guard != 0)))) [Box b1 [.int .i64 a0.Kind, .int .i64 a0.Rights, .int .i64 a0.Obj, .int .i64 a0.Badge, .int .i64 a0.Guard, .int .i64 a0.Bits], F] (fun l2 hk2 => ?_) ?_
        · rcases bool_or (a0.Kind != 2) with b23 | b23
          · refine SO.takeT rfl rfl rfl b23 ?_
            refine SO.v rfl (opv_fieldAddr Try.underlying53 rfl Try.sizeOf3 rfl rfl) ?_
            refine SO.takeT rfl rfl rfl b23 ?_
            refine SO.load1 rfl Try.isAgg3 rfl rfl ?_
            refine SO.takeT rfl rfl rfl b23 ?_
            refine SO.v rfl (opv_neq rfl rfl) ?_
            refine SO.takeT rfl rfl rfl b23 ?_
            refine SO.v rfl (opv_move rfl) ?_
            refine SO.cut 4 78 (.bool ((a0.Bits != 0) || (a0.Guard != 0))) [Box b1 [.int .i64 a0.Kind, .int .i64 a0.Rights, .int .i64 a0.Obj, .int .i64 a0.Badge, .int .i64 a0.Guard, .int .i64 a0.Bits], F] (fun l2 hk2 => ?_) ?_
            · rcases bool_or (a0.Bits != 0) with b24 | b24
              · refine SO.passF rfl rfl rfl b24 rfl rfl ?_
                refine SO.passF rfl rfl rfl b24 rfl rfl ?_
                refine SO.passF rfl rfl rfl b24 rfl rfl ?_
                refine SO.takeT rfl rfl rfl b23 ?_
                refine SO.v rfl (opv_pick_t' b24 rfl rfl) ?_
                refine SO.b1 ?_
                refine SO.b1 ?_
                exact hk2.fitc (m := 4) rfl (or_t b24) rfl
              · refine SO.takeT rfl rfl rfl b24 ?_
                refine SO.v rfl (opv_fieldAddr Try.underlying53 rfl Try.sizeOf3 rfl rfl) ?_
                refine SO.takeT rfl rfl rfl b24 ?_
                refine SO.load1 rfl Try.isAgg3 rfl rfl ?_
                refine SO.takeT rfl rfl rfl b24 ?_
                refine SO.v rfl (opv_neq rfl rfl) ?_
                refine SO.takeT rfl rfl rfl b23 ?_
                refine SO.v rfl (opv_pick_f' b24 rfl rfl) ?_
                refine SO.b1 ?_
                refine SO.b1 ?_
                exact hk2.fitc (m := 4) rfl (or_f b24) rfl
            refine SO.v rfl (opv_pick_t' b23 rfl rfl) ?_
            refine SO.b1 ?_
            refine SO.b1 ?_
            exact hk2.fitc (m := 6) rfl (and_t b23) rfl
          · refine SO.passF rfl rfl rfl b23 rfl rfl ?_
            refine SO.passF rfl rfl rfl b23 rfl rfl ?_
            refine SO.passF rfl rfl rfl b23 rfl rfl ?_
            refine SO.passF rfl rfl rfl b23 rfl rfl ?_
            refine SO.pass_undef rfl rfl rfl rfl ?_
            refine SO.pass_undef rfl rfl rfl rfl ?_
            refine SO.pass_undef rfl rfl rfl rfl ?_
            refine SO.passF rfl rfl rfl b23 rfl rfl ?_
            refine SO.v rfl (opv_pick_f' b23 rfl rfl) ?_
            refine SO.b1 ?_
            refine SO.b1 ?_
            exact hk2.fitc (m := 9) rfl (and_f b23) rfl
        refine SO.nil ?_
        rcases bool_or ((a0.Kind != 2) && ((a0.Bits != 0) || (a0.Guard != 0))) with b25 | b25
        · replace h := cond_t b25 h
          refine S.condT rfl b25 ?_
          refine S.seq ?_
          refine S.region ?_
          refine SO.v rfl (opv_assign rfl) ?_
          refine SO.nil ?_
          cases h
          refine S.drop ?_
          exact S.ret1 Try.func31 rfl rfl (fun w hs hk => hR w _ _ ⟨rfl, rfl⟩ hs hk)
        · replace h := cond_f b25 h
          refine S.condF rfl b25 ?_
          refine S.skip ?_
          refine S.seq ?_
          obtain ⟨j2_1, hC1, hJ1⟩ := opt_bind h
          clear h
          refine S.cutP (G := Unit) (fun _ => True) (fun _ => [(2, .bool j2_1)]) (fun _ => [Box b1 [.int .i64 a0.Kind, .int .i64 a0.Rights, .int .i64 a0.Obj, .int .i64 a0.Badge, .int .i64 a0.Guard, .int .i64 a0.Bits], F]) (fun hk1 => ?_) ?_
          · replace h := hC1
            rcases bool_or (decide (0 ≤ a0.Guard)) with b26 | b26
            · replace h := cond_t b26 h
              obtain ⟨t27, ht28, h⟩ := opt_bind h
              refine S.draw (T := [tS 1 (bp b1 0), tR (Box b1 [.int .i64 a0.Kind, .int .i64 a0.Rights, .int .i64 a0.Obj, .int .i64 a0.Badge, .int .i64 a0.Guard, .int .i64 a0.Bits]), tR (F), tS 80 (bp b1 4), tS 81 (.int .i64 a0.Guard), tS 82 (.bool (decide (0 ≤ a0.Guard))), tS 83 (.bool (decide (0 ≤ a0.Guard))), tS 84 (bp b1 4), tS 85 (.int .i64 a0.Guard), tS 86 (bp b1 5), tS 87 (.int .i64 a0.Bits), tS 88 (.int .i64 t27), tS 89 (.bool (decide (a0.Guard < t27))), tS 90 (.bool (decide (a0.Guard < t27))), tS 2 (.bool (decide (a0.Guard < t27)))]) (D := [⟨[0], [], [3]⟩, ⟨[3, 1], [], [4]⟩, ⟨[4], [], [5]⟩, ⟨[5], [], [6]⟩, ⟨[0, 6], [], [7]⟩, ⟨[6, 7, 1], [], [8]⟩, ⟨[0, 6], [], [9]⟩, ⟨[6, 9, 1], [], [10]⟩, ⟨[6, 10], [], [11]⟩, ⟨[6, 8, 11], [], [12]⟩, ⟨[6, 12], [], [13]⟩, ⟨[13], [], [14]⟩]) (ini := [0, 1, 2]) (fin := [14, 1, 2]) (bf := [[], [0], [0, 1], [0, 1, 2], [0, 1, 2, 3], [0, 1, 2, 3, 4], [0, 1, 2, 3], [0, 1, 2, 3, 6], [0, 1, 2, 3, 6, 7], [0, 1, 2, 3, 4, 5, 6, 7, 8], [0, 1, 2, 3, 4, 5, 6, 7, 8, 9], [0, 1, 2, 3, 4, 5, 6, 7, 8, 9, 10]]) (by kernel_rfl) (by kernel_rfl) (fun x w h1 h2 => (.cons () (.cons () (.cons () (.nil ⟨EnvAll.of h1 ⟨rfl, trivial⟩, h2⟩))))) ⟨?_, ?_, ?_, ?_, ?_, ?_, ?_, ?_, ?_, ?_, ?_, ?_, trivial⟩ ?_
              · rintro Fr _
                refine SO.v rfl (opv_fieldAddr Try.underlying53 rfl Try.sizeOf3 rfl rfl) ?_
                exact SO.nilZ fun a w h1 h2 h3 h4 h5 => PZ.of h1 h3 h5 (.cons () (.cons () (.nil ⟨EnvAll.of h2 ⟨rfl, rfl, trivial⟩, h4⟩)))
              · rintro Fr _ _
                refine SO.load1 rfl Try.isAgg3 rfl rfl ?_
                exact SO.nilZ fun a w h1 h2 h3 h4 h5 => PZ.of h1 h3 h5 (.cons () (.cons () (.cons () (.nil ⟨EnvAll.of h2 ⟨rfl, rfl, trivial⟩, h4⟩))))
              · rintro Fr _
                refine SO.v rfl (opv_geq rfl rfl) ?_
                exact SO.nilZ fun a w h1 h2 h3 h4 h5 => PZ.of h1 h3 h5 (.cons () (.cons () (.nil ⟨EnvAll.of h2 ⟨rfl, rfl, trivial⟩, h4⟩)))
              · rintro Fr _
                refine SO.v rfl (opv_move rfl) ?_
                exact SO.nilZ fun a w h1 h2 h3 h4 h5 => PZ.of h1 h3 h5 (.cons () (.cons () (.nil ⟨EnvAll.of h2 ⟨rfl, rfl, trivial⟩, h4⟩)))
              · rintro Fr _ _
                refine SO.takeT rfl rfl rfl b26 ?_
                refine SO.v rfl (opv_fieldAddr Try.underlying53 rfl Try.sizeOf3 rfl rfl) ?_
                exact SO.nilZ fun a w h1 h2 h3 h4 h5 => PZ.of h1 h3 h5 (.cons () (.cons () (.cons () (.nil ⟨EnvAll.of h2 ⟨rfl, rfl, rfl, trivial⟩, h4⟩))))
              · rintro Fr _ _ _
                refine SO.takeT rfl rfl rfl b26 ?_
                refine SO.load1 rfl Try.isAgg3 rfl rfl ?_
                exact SO.nilZ fun a w h1 h2 h3 h4 h5 => PZ.of h1 h3 h5 (.cons () (.cons () (.cons () (.cons () (.nil ⟨EnvAll.of h2 ⟨rfl, rfl, rfl, trivial⟩, h4⟩)))))
              · rintro Fr _ _
                refine SO.takeT rfl rfl rfl b26 ?_
                refine SO.v rfl (opv_fieldAddr Try.underlying53 rfl Try.sizeOf3 rfl rfl) ?_
                exact SO.nilZ fun a w h1 h2 h3 h4 h5 => PZ.of h1 h3 h5 (.cons () (.cons () (.cons () (.nil ⟨EnvAll.of h2 ⟨rfl, rfl, rfl, trivial⟩, h4⟩))))
              · rintro Fr _ _ _
                refine SO.takeT rfl rfl rfl b26 ?_
                refine SO.load1 rfl Try.isAgg3 rfl rfl ?_
                exact SO.nilZ fun a w h1 h2 h3 h4 h5 => PZ.of h1 h3 h5 (.cons () (.cons () (.cons () (.cons () (.nil ⟨EnvAll.of h2 ⟨rfl, rfl, rfl, trivial⟩, h4⟩)))))
              · rintro Fr _ _
                refine SO.takeT rfl rfl rfl b26 ?_
                refine SO.call (pre := []) rfl Try.call67 rfl rfl rfl (ref01_two.ct _ _ _ ht28) trivial ?_
                rintro _ _ ⟨rfl, rfl⟩
                exact SO.nilZ fun a w h1 h2 h3 h4 h5 => PZ.of h1 h3 h5 (.cons () (.cons () (.cons () (.nil ⟨EnvAll.of h2 ⟨rfl, rfl, rfl, trivial⟩, h4⟩))))
              · rintro Fr _ _ _
                refine SO.takeT rfl rfl rfl b26 ?_
                refine SO.v rfl (opv_lss rfl rfl) ?_
                exact SO.nilZ fun a w h1 h2 h3 h4 h5 => PZ.of h1 h3 h5 (.cons () (.cons () (.cons () (.cons () (.nil ⟨EnvAll.of h2 ⟨rfl, rfl, rfl, rfl, trivial⟩, h4⟩)))))
              · rintro Fr _ _
                refine SO.v rfl (opv_pick_t' b26 rfl rfl) ?_
                exact SO.nilZ fun a w h1 h2 h3 h4 h5 => PZ.of h1 h3 h5 (.cons () (.cons () (.cons () (.nil ⟨EnvAll.of h2 ⟨rfl, rfl, rfl, trivial⟩, h4⟩))))
              · rintro Fr _
                refine SO.v rfl (opv_assign rfl) ?_
                exact SO.nilZ fun a w h1 h2 h3 h4 h5 => PZ.of h1 h3 h5 (.cons () (.cons () (.nil ⟨EnvAll.of h2 ⟨rfl, rfl, trivial⟩, h4⟩)))
              rintro _ _ _
              show S _ _ _ _ _ _ _ [Box b1 [.int .i64 a0.Kind, .int .i64 a0.Rights, .int .i64 a0.Obj, .int .i64 a0.Badge, .int .i64 a0.Guard, .int .i64 a0.Bits], F]
              refine S.to (ρ' := [(2, .bool (decide (a0.Guard < t27)))]) ⟨rfl, trivial⟩ ?_
              cases h
              refine S.b1 ?_
              refine S.b1 ?_
              refine S.to ?_ (hk1 () trivial)
              exact ⟨rfl, trivial⟩
            · replace h := cond_f b26 h
              refine S.draw (T := [tS 1 (bp b1 0), tR (Box b1 [.int .i64 a0.Kind, .int .i64 a0.Rights, .int .i64 a0.Obj, .int .i64 a0.Badge, .int .i64 a0.Guard, .int .i64 a0.Bits]), tR (F), tS 80 (bp b1 4), tS 81 (.int .i64 a0.Guard), tS 82 (.bool (decide (0 ≤ a0.Guard))), tS 83 (.bool (decide (0 ≤ a0.Guard))), tS 84 (undef), tS 85 (undef), tS 86 (undef), tS 87 (undef), tS 88 (undef), tS 89 (undef), tS 90 (.bool false), tS 2 (.bool false)]) (D := [⟨[0], [], [3]⟩, ⟨[3, 1], [], [4]⟩, ⟨[4], [], [5]⟩, ⟨[5], [], [6]⟩, ⟨[6], [], [7]⟩, ⟨[6], [], [8]⟩, ⟨[6], [], [9]⟩, ⟨[6], [], [10]⟩, ⟨[6], [], [11]⟩, ⟨[6], [], [12]⟩, ⟨[6, 12], [], [13]⟩, ⟨[13], [], [14]⟩]) (ini := [0, 1, 2]) (fin := [14, 1, 2]) (bf := [[], [0], [0, 1], [0, 1, 2], [0, 1, 2, 3], [0, 1, 2, 3, 4], [0, 1, 2, 3], [0, 1, 2, 3, 6], [0, 1, 2, 3, 6, 7], [0, 1, 2, 3, 4, 5, 6, 7, 8], [0, 1, 2, 3, 4, 5, 6, 7, 8, 9], [0, 1, 2, 3, 4, 5, 6, 7, 8, 9, 10]]) (by kernel_rfl) (by kernel_rfl) (fun x w h1 h2 => (.cons () (.cons () (.cons () (.nil ⟨EnvAll.of h1 ⟨rfl, trivial⟩, h2⟩))))) ⟨?_, ?_, ?_, ?_, ?_, ?_, ?_, ?_, ?_, ?_, ?_, ?_, trivial⟩ ?_
              · rintro Fr _
                refine SO.v rfl (opv_fieldAddr Try.underlying53 rfl Try.sizeOf3 rfl rfl) ?_
                exact SO.nilZ fun a w h1 h2 h3 h4 h5 => PZ.of h1 h3 h5 (.cons () (.cons () (.nil ⟨EnvAll.of h2 ⟨rfl, rfl, trivial⟩, h4⟩)))
              · rintro Fr _ _
                refine SO.load1 rfl Try.isAgg3 rfl rfl ?_
                exact SO.nilZ fun a w h1 h2 h3 h4 h5 => PZ.of h1 h3 h5 (.cons () (.cons () (.cons () (.nil ⟨EnvAll.of h2 ⟨rfl, rfl, trivial⟩, h4⟩))))
              · rintro Fr _
                refine SO.v rfl (opv_geq rfl rfl) ?_
                exact SO.nilZ fun a w h1 h2 h3 h4 h5 => PZ.of h1 h3 h5 (.cons () (.cons () (.nil ⟨EnvAll.of h2 ⟨rfl, rfl, trivial⟩, h4⟩)))
              · rintro Fr _
                refine SO.v rfl (opv_move rfl) ?_
                exact SO.nilZ fun a w h1 h2 h3 h4 h5 => PZ.of h1 h3 h5 (.cons () (.cons () (.nil ⟨EnvAll.of h2 ⟨rfl, rfl, trivial⟩, h4⟩)))
              · rintro Fr _
                refine SO.passF rfl rfl rfl b26 rfl rfl ?_
                exact SO.nilZ fun a w h1 h2 h3 h4 h5 => PZ.of h1 h3 h5 (.cons () (.cons () (.nil ⟨EnvAll.of h2 ⟨rfl, rfl, trivial⟩, h4⟩)))
              · rintro Fr _
                refine SO.passF rfl rfl rfl b26 rfl rfl ?_
                exact SO.nilZ fun a w h1 h2 h3 h4 h5 => PZ.of h1 h3 h5 (.cons () (.cons () (.nil ⟨EnvAll.of h2 ⟨rfl, rfl, trivial⟩, h4⟩)))
              · rintro Fr _
                refine SO.passF rfl rfl rfl b26 rfl rfl ?_
                exact SO.nilZ fun a w h1 h2 h3 h4 h5 => PZ.of h1 h3 h5 (.cons () (.cons () (.nil ⟨EnvAll.of h2 ⟨rfl, rfl, trivial⟩, h4⟩)))
              · rintro Fr _
                refine SO.passF rfl rfl rfl b26 rfl rfl ?_
                exact SO.nilZ fun a w h1 h2 h3 h4 h5 => PZ.of h1 h3 h5 (.cons () (.cons () (.nil ⟨EnvAll.of h2 ⟨rfl, rfl, trivial⟩, h4⟩)))
              · rintro Fr _
                refine SO.passF rfl rfl rfl b26 rfl rfl ?_
                exact SO.nilZ fun a w h1 h2 h3 h4 h5 => PZ.of h1 h3 h5 (.cons () (.cons () (.nil ⟨EnvAll.of h2 ⟨rfl, rfl, trivial⟩, h4⟩)))
              · rintro Fr _
                refine SO.passF rfl rfl rfl b26 rfl rfl ?_
                exact SO.nilZ fun a w h1 h2 h3 h4 h5 => PZ.of h1 h3 h5 (.cons () (.cons () (.nil ⟨EnvAll.of h2 ⟨rfl, rfl, trivial⟩, h4⟩)))
              · rintro Fr _ _
                refine SO.v rfl (opv_pick_f' b26 rfl rfl) ?_
                exact SO.nilZ fun a w h1 h2 h3 h4 h5 => PZ.of h1 h3 h5 (.cons () (.cons () (.cons () (.nil ⟨EnvAll.of h2 ⟨rfl, rfl, rfl, trivial⟩, h4⟩))))
              · rintro Fr _
                refine SO.v rfl (opv_assign rfl) ?_
                exact SO.nilZ fun a w h1 h2 h3 h4 h5 => PZ.of h1 h3 h5 (.cons () (.cons () (.nil ⟨EnvAll.of h2 ⟨rfl, rfl, trivial⟩, h4⟩)))
              rintro _ _ _
              show S _ _ _ _ _ _ _ [Box b1 [.int .i64 a0.Kind, .int .i64 a0.Rights, .int .i64 a0.Obj, .int .i64 a0.Badge, .int .i64 a0.Guard, .int .i64 a0.Bits], F]
              refine S.to (ρ' := [(2, .bool false)]) ⟨rfl, trivial⟩ ?_
              cases h
              refine S.b1 ?_
              refine S.b1 ?_
              refine S.to ?_ (hk1 () trivial)
              exact ⟨rfl, trivial⟩
          rintro _ -
          replace h := hJ1
          cases h
          refine S.drop ?_
          exact S.ret1 Try.func31 rfl rfl (fun w hs hk => hR w _ _ ⟨rfl, rfl⟩ hs hk)
end Go.Proofs
namespace Go.Proofs
open Go.Sl Go.RowKit
/-! 12 padstone/padstonelaw03.RightsLess -/
def law03_RightsLess.f (k : Nat) (a0 : api_Cap) (a1 : Int) (a2 : Int) (a3 : Int) : Option (Bool) :=
  (law03_up.f ).bind fun t2 => (rights_Derive.f a0 a1).bind fun (t4, t5) => (((bif t5.isNone then ((ref01_May.f k t4).bind fun t9 => (bif !t9 then (some true) else ((rights_Within.f t4 a0).bind fun t14 => some (!t14))).bind fun c12 => (bif c12 then (some true) else ((rights_Within.f t4 t4).bind fun t19 => some (!t19))).bind fun c17 => bif c17 then (some (Brk.ret false)) else ((rights_Derive.f t4 a2).bind fun (t22, t23) => (rights_Derive.f a0 a2).bind fun (t26, t27) => bif t23.isNone != t27.isNone then (some (Brk.ret false)) else (bif t23.isNone then ((rights_Derive.f t26 a1).bind fun (t32, t33) => (bif t33.isSome then (some true) else (some (!decide (t32 = t22)))).bind fun c37 => bif c37 then (some (Brk.ret false)) else (some (Brk.nx ()))) else (some (Brk.nx ()))))) else (some (Brk.nx ()))) : Option (Brk Bool Unit))).bind fun o1 => Brk.go o1 (fun r => some r) (fun _ => (rights_Mint.f a0 a1 a3).bind fun (t40, t41) => bif t41.isSome then (some t2) else ((ref01_May.f k t40).bind fun t45 => (rights_Mint.f t40 a1 a3).bind fun (t47, t48) => (bif t2 && t45 then ((rights_Within.f t40 a0).bind fun t55 => some t55) else (some false)).bind fun c53 => (bif c53 then (some (t40.Badge == a3)) else (some false)).bind fun c58 => some (c58 && (t48 == some 10))))
set_option maxHeartbeats 8000000 in
set_option maxRecDepth 100000 in
theorem law03_RightsLess.ct (k : Nat) (a0 : api_Cap) (a1 : Int) (a2 : Int) (a3 : Int) (r0 : Bool) (h : law03_RightsLess.f k a0 a1 a2 a3 = some r0) :
    Ct Try.prog 12 [.agg #[.int .i64 a0.Kind, .int .i64 a0.Rights, .int .i64 a0.Obj, .int .i64 a0.Badge, .int .i64 a0.Guard, .int .i64 a0.Bits], .int .i64 a1, .int .i64 a2, .int .i64 a3] (fun _ => True) [] (fun u H' => u = .bool r0 ∧ H' = []) := by
  unfold law03_RightsLess.f at h
  refine Ct.intro (n := 120) Try.func12 rfl rfl rfl ?_
  intro R w0 F hF hR
  refine S.seq ?_
  refine S.region ?_
  refine SO.box rfl rfl rfl (fun b1 => ?_)
  refine SO.v rfl (opv_assign rfl) ?_
  refine SO.nil ?_
  refine S.seq ?_
  refine S.region ?_
  obtain ⟨t2, ht3, h⟩ := opt_bind h
  refine SO.call (pre := []) rfl Try.call45 rfl rfl rfl (law03_up.ct _ ht3) trivial ?_
  rintro _ _ ⟨rfl, rfl⟩
  refine SO.v rfl (opv_assign rfl) ?_
  refine SO.nil ?_
  refine S.seq ?_
  refine S.region ?_
  refine SO.loadN rfl Try.isAgg53 Try.sizeOf53 rfl rfl rfl ?_
  refine SO.v rfl (opv_move rfl) ?_
  obtain ⟨⟨t4, t5⟩, ht6, h⟩ := opt_bind h
  refine SO.call (pre := []) rfl Try.call46 rfl rfl rfl (rights_Derive.ct _ _ _ _ ht6) trivial ?_
  rintro _ _ ⟨rfl, rfl⟩
  refine SO.v rfl (opv_move rfl) ?_
  refine SO.v rfl (opv_extract rfl rfl) ?_
  refine SO.v rfl (opv_extract rfl rfl) ?_
  refine SO.alloc rfl Try.zeroValue53 rfl (fun b7 => ?_)
  refine SO.storeN Try.sizeOf53 rfl rfl rfl rfl rfl rfl ?_
  refine SO.v rfl (opv_assign rfl) ?_
  refine SO.nil ?_
  refine S.to (ρ' := [(1, .int .i64 a1), (2, .int .i64 a2), (3, .int .i64 a3), (4, bp b1 0), (8, .bool false), (9, .bool t2), (10, bp b7 0), (11, errV 48 t5)]) ⟨rfl, rfl, rfl, rfl, rfl, rfl, rfl, rfl, trivial⟩ ?_
  refine S.seq ?_
  refine S.seq ?_
  refine S.region ?_
  refine SO.v rfl (opv_move rfl) ?_
  refine SO.v rfl (opv_eqlN (e := t5) Try.underlying45 rfl) ?_
  refine SO.nil ?_
  obtain ⟨o1, hC1, hJ1⟩ := opt_bind h
  clear h
  refine S.cutP (G := Unit × Unit) (fun x => o1 = Brk.nx x.1) (fun x => match x with | (_, _) => [(1, .int .i64 a1), (3, .int .i64 a3), (4, bp b1 0), (8, .bool false), (9, .bool t2)]) (fun x => match x with | (_, _) => [Box b7 [.int .i64 t4.Kind, .int .i64 t4.Rights, .int .i64 t4.Obj, .int .i64 t4.Badge, .int .i64 t4.Guard, .int .i64 t4.Bits], Box b1 [.int .i64 a0.Kind, .int .i64 a0.Rights, .int .i64 a0.Obj, .int .i64 a0.Badge, .int .i64 a0.Guard, .int .i64 a0.Bits], F]) (fun hk1 => ?_) ?_
  · replace h := hC1
    rcases bool_or t5.isNone with b8 | b8
    · replace h := cond_t b8 h
      refine S.condT rfl b8 ?_
      refine S.seq ?_
      refine S.region ?_
      refine SO.loadN rfl Try.isAgg53 Try.sizeOf53 rfl rfl rfl ?_
      obtain ⟨t9, ht10, h⟩ := opt_bind h
      refine SO.call (pre := []) rfl Try.call31 rfl rfl rfl (ref01_May.ct _ _ _ ht10) trivial ?_
      rintro _ _ ⟨rfl, rfl⟩
      refine SO.v rfl (opv_assign rfl) ?_
      refine SO.nil ?_
      refine S.seq ?_
      refine S.seq ?_
      refine S.region ?_
      refine SO.v rfl (opv_move rfl) ?_
      refine SO.v rfl (opv_not rfl) ?_
      refine SO.v rfl (opv_move rfl) ?_
      obtain ⟨c12, hc13, hgk⟩ := opt_bind h
      refine SO.cut 5 42 (.bool c12) [Box b7 [.int .i64 t4.Kind, .int .i64 t4.Rights, .int .i64 t4.Obj, .int .i64 t4.Badge, .int .i64 t4.Guard, .int .i64 t4.Bits], Box b1 [.int .i64 a0.Kind, .int .i64 a0.Rights, .int .i64 a0.Obj, .int .i64 a0.Badge, .int .i64 a0.Guard, .int .i64 a0.Bits], F] (fun l2 hk2 => ?_) ?_
      · clear hgk
        replace h := hc13
        rcases bool_or (!t9) with b11 | b11
        · replace h := cond_t b11 h
          refine SO.passF rfl rfl rfl b11 rfl rfl ?_
          refine SO.passF rfl rfl rfl b11 rfl rfl ?_
          refine SO.passF rfl rfl rfl b11 rfl rfl ?_
          refine SO.passF rfl rfl rfl b11 rfl rfl ?_
          cases h
          refine SO.v rfl (opv_pick_t' b11 rfl rfl) ?_
          refine SO.b2 ?_
          refine SO.b2 ?_
          refine SO.b2 ?_
          exact hk2.fitc (m := 5) rfl (rfl) rfl
        · replace h := cond_f b11 h
          refine SO.takeT rfl rfl rfl b11 ?_
          refine SO.loadN rfl Try.isAgg53 Try.sizeOf53 rfl rfl rfl ?_
          refine SO.takeT rfl rfl rfl b11 ?_
          refine SO.b1 ?_
          refine SO.loadN rfl Try.isAgg53 Try.sizeOf53 rfl rfl rfl ?_
          refine SO.takeT rfl rfl rfl b11 ?_
          obtain ⟨t14, ht15, h⟩ := opt_bind h
          refine SO.call (pre := []) rfl Try.call47 rfl rfl rfl (rights_Within.ct _ _ _ ht15) trivial ?_
          rintro _ _ ⟨rfl, rfl⟩
          refine SO.takeT rfl rfl rfl b11 ?_
          refine SO.v rfl (opv_not rfl) ?_
          cases h
          refine SO.v rfl (opv_pick_f' b11 rfl rfl) ?_
          refine SO.b2 ?_
          refine SO.b1 ?_
          refine SO.b2 ?_
          exact hk2.fitc (m := 5) rfl (rfl) rfl
      clear hc13
      replace h := hgk
      refine SO.v rfl (opv_move rfl) ?_
      obtain ⟨c17, hc18, hgk⟩ := opt_bind h
      refine SO.cut 5 48 (.bool c17) [Box b7 [.int .i64 t4.Kind, .int .i64 t4.Rights, .int .i64 t4.Obj, .int .i64 t4.Badge, .int .i64 t4.Guard, .int .i64 t4.Bits], Box b1 [.int .i64 a0.Kind, .int .i64 a0.Rights, .int .i64 a0.Obj, .int .i64 a0.Badge, .int .i64 a0.Guard, .int .i64 a0.Bits], F] (fun l2 hk2 => ?_) ?_
      · clear hgk
        replace h := hc18
        rcases bool_or c12 with b16 | b16
        · replace h := cond_t b16 h
          refine SO.passF rfl rfl rfl b16 rfl rfl ?_
          refine SO.passF rfl rfl rfl b16 rfl rfl ?_
          refine SO.passF rfl rfl rfl b16 rfl rfl ?_
          refine SO.passF rfl rfl rfl b16 rfl rfl ?_
          cases h
          refine SO.v rfl (opv_pick_t' b16 rfl rfl) ?_
          refine SO.b2 ?_
          refine SO.b2 ?_
          refine SO.b2 ?_
          exact hk2.fitc (m := 5) rfl (rfl) rfl
        · replace h := cond_f b16 h
          refine SO.takeT rfl rfl rfl b16 ?_
          refine SO.loadN rfl Try.isAgg53 Try.sizeOf53 rfl rfl rfl ?_
          refine SO.takeT rfl rfl rfl b16 ?_
          refine SO.loadN rfl Try.isAgg53 Try.sizeOf53 rfl rfl rfl ?_
          refine SO.takeT rfl rfl rfl b16 ?_
          obtain ⟨t19, ht20, h⟩ := opt_bind h
          refine SO.call (pre := []) rfl Try.call47 rfl rfl rfl (rights_Within.ct _ _ _ ht20) trivial ?_
          rintro _ _ ⟨rfl, rfl⟩
          refine SO.takeT rfl rfl rfl b16 ?_
          refine SO.v rfl (opv_not rfl) ?_
          cases h
          refine SO.v rfl (opv_pick_f' b16 rfl rfl) ?_
          refine SO.b2 ?_
          refine SO.b2 ?_
          refine SO.b2 ?_
          exact hk2.fitc (m := 5) rfl (rfl) rfl
      clear hc18
      replace h := hgk
      refine SO.nil ?_
      refine S.to (ρ' := [(1, .int .i64 a1), (2, .int .i64 a2), (3, .int .i64 a3), (4, bp b1 0), (8, .bool false), (9, .bool t2), (10, bp b7 0), (48, .bool c17)]) ⟨rfl, rfl, rfl, rfl, rfl, rfl, rfl, rfl, trivial⟩ ?_
      rcases bool_or c17 with b21 | b21
      · replace h := cond_t b21 h
        refine S.condT rfl b21 ?_
        refine S.seq ?_
        refine S.region ?_
        refine SO.v rfl (opv_assign rfl) ?_
        refine SO.nil ?_
        cases h
        replace h := Brk.of_ret hJ1
        cases h
        refine S.drop ?_
        refine S.drop ?_
        exact S.ret1 Try.func12 rfl rfl (fun w hs hk => hR w _ _ ⟨rfl, rfl⟩ hs hk)
      · replace h := cond_f b21 h
        refine S.condF rfl b21 ?_
        refine S.skip ?_
        refine S.seq ?_
        refine S.region ?_
        refine SO.loadN rfl Try.isAgg53 Try.sizeOf53 rfl rfl rfl ?_
        refine SO.v rfl (opv_move rfl) ?_
        obtain ⟨⟨t22, t23⟩, ht24, h⟩ := opt_bind h
        refine SO.call (pre := []) rfl Try.call46 rfl rfl rfl (rights_Derive.ct _ _ _ _ ht24) trivial ?_
        rintro _ _ ⟨rfl, rfl⟩
        refine SO.v rfl (opv_move rfl) ?_
        refine SO.v rfl (opv_extract rfl rfl) ?_
        refine SO.v rfl (opv_extract rfl rfl) ?_
        refine SO.alloc rfl Try.zeroValue53 rfl (fun b25 => ?_)
        refine SO.storeN Try.sizeOf53 rfl rfl rfl rfl rfl rfl ?_
        refine SO.v rfl (opv_assign rfl) ?_
        refine SO.nil ?_
        refine S.to (ρ' := [(1, .int .i64 a1), (2, .int .i64 a2), (3, .int .i64 a3), (4, bp b1 0), (8, .bool false), (9, .bool t2), (13, bp b25 0), (14, errV 48 t23)]) ⟨rfl, rfl, rfl, rfl, rfl, rfl, rfl, rfl, trivial⟩ ?_
        refine S.seq ?_
        refine S.region ?_
        refine SO.b2 ?_
        refine SO.loadN rfl Try.isAgg53 Try.sizeOf53 rfl rfl rfl ?_
        refine SO.v rfl (opv_move rfl) ?_
        obtain ⟨⟨t26, t27⟩, ht28, h⟩ := opt_bind h
        refine SO.call (pre := []) rfl Try.call46 rfl rfl rfl (rights_Derive.ct _ _ _ _ ht28) trivial ?_
        rintro _ _ ⟨rfl, rfl⟩
        refine SO.v rfl (opv_move rfl) ?_
        refine SO.v rfl (opv_extract rfl rfl) ?_
        refine SO.v rfl (opv_extract rfl rfl) ?_
        refine SO.alloc rfl Try.zeroValue53 rfl (fun b29 => ?_)
        refine SO.storeN Try.sizeOf53 rfl rfl rfl rfl rfl rfl ?_
        refine SO.v rfl (opv_assign rfl) ?_
        refine SO.nil ?_
        refine S.to (ρ' := [(1, .int .i64 a1), (3, .int .i64 a3), (4, bp b1 0), (8, .bool false), (9, .bool t2), (13, bp b25 0), (14, errV 48 t23), (15, bp b29 0), (16, errV 48 t27)]) ⟨rfl, rfl, rfl, rfl, rfl, rfl, rfl, rfl, rfl, trivial⟩ ?_
        refine S.seq ?_
        refine S.seq ?_
        refine S.draw (T := [tS 14 (errV 48 t23), tS 16 (errV 48 t27), tE [(1, .int .i64 a1), (3, .int .i64 a3), (4, bp b1 0), (8, .bool false), (9, .bool t2), (13, bp b25 0), (15, bp b29 0)], tR (Box b29 [.int .i64 t26.Kind, .int .i64 t26.Rights, .int .i64 t26.Obj, .int .i64 t26.Badge, .int .i64 t26.Guard, .int .i64 t26.Bits]), tR (Box b1 [.int .i64 a0.Kind, .int .i64 a0.Rights, .int .i64 a0.Obj, .int .i64 a0.Badge, .int .i64 a0.Guard, .int .i64 a0.Bits]), tR (Box b25 [.int .i64 t22.Kind, .int .i64 t22.Rights, .int .i64 t22.Obj, .int .i64 t22.Badge, .int .i64 t22.Guard, .int .i64 t22.Bits]), tR (Box b7 [.int .i64 t4.Kind, .int .i64 t4.Rights, .int .i64 t4.Obj, .int .i64 t4.Badge, .int .i64 t4.Guard, .int .i64 t4.Bits]), tR (F), tS 61 (errV 48 t23), tS 62 (.bool t23.isNone), tS 63 (errV 48 t27), tS 64 (.bool t27.isNone), tS 65 (.bool (t23.isNone != t27.isNone))]) (D := [⟨[0], [], [8]⟩, ⟨[8], [], [9]⟩, ⟨[1], [], [10]⟩, ⟨[10], [], [11]⟩, ⟨[9, 11], [], [12]⟩]) (ini := [0, 1, 2, 3, 4, 5, 6, 7]) (fin := [2, 0, 12, 3, 4, 5, 6, 7]) (bf := [[], [0], [], [2], [0, 1, 2, 3]]) (by kernel_rfl) (by kernel_rfl) (fun x w h1 h2 => (.cons () (.cons () (.cons () (.cons () (.cons () (.cons () (.cons () (.cons () (.nil ⟨EnvAll.of h1 ⟨rfl, rfl, rfl, rfl, rfl, rfl, rfl, rfl, rfl, trivial⟩, h2⟩)))))))))) ⟨?_, ?_, ?_, ?_, ?_, trivial⟩ ?_
        · rintro Fr _
          refine SO.v rfl (opv_move rfl) ?_
          exact SO.nilZ fun a w h1 h2 h3 h4 h5 => PZ.of h1 h3 h5 (.cons () (.cons () (.nil ⟨EnvAll.of h2 ⟨rfl, rfl, trivial⟩, h4⟩)))
        · rintro Fr _
          refine SO.v rfl (opv_eqlN (e := t23) Try.underlying45 rfl) ?_
          exact SO.nilZ fun a w h1 h2 h3 h4 h5 => PZ.of h1 h3 h5 (.cons () (.cons () (.nil ⟨EnvAll.of h2 ⟨rfl, rfl, trivial⟩, h4⟩)))
        · rintro Fr _
          refine SO.v rfl (opv_move rfl) ?_
          exact SO.nilZ fun a w h1 h2 h3 h4 h5 => PZ.of h1 h3 h5 (.cons () (.cons () (.nil ⟨EnvAll.of h2 ⟨rfl, rfl, trivial⟩, h4⟩)))
        · rintro Fr _
          refine SO.v rfl (opv_eqlN (e := t27) Try.underlying45 rfl) ?_
          exact SO.nilZ fun a w h1 h2 h3 h4 h5 => PZ.of h1 h3 h5 (.cons () (.cons () (.nil ⟨EnvAll.of h2 ⟨rfl, rfl, trivial⟩, h4⟩)))
        · rintro Fr _ _
          refine SO.v rfl (opv_neqB Try.underlying4 rfl rfl) ?_
          exact SO.nilZ fun a w h1 h2 h3 h4 h5 => PZ.of h1 h3 h5 (.cons () (.cons () (.cons () (.nil ⟨EnvAll.of h2 ⟨rfl, rfl, rfl, trivial⟩, h4⟩))))
        rintro _ _ _ _ _ _ _ _
        show S _ _ _ _ _ _ _ [Box b29 [.int .i64 t26.Kind, .int .i64 t26.Rights, .int .i64 t26.Obj, .int .i64 t26.Badge, .int .i64 t26.Guard, .int .i64 t26.Bits], Box b1 [.int .i64 a0.Kind, .int .i64 a0.Rights, .int .i64 a0.Obj, .int .i64 a0.Badge, .int .i64 a0.Guard, .int .i64 a0.Bits], Box b25 [.int .i64 t22.Kind, .int .i64 t22.Rights, .int .i64 t22.Obj, .int .i64 t22.Badge, .int .i64 t22.Guard, .int .i64 t22.Bits], Box b7 [.int .i64 t4.Kind, .int .i64 t4.Rights, .int .i64 t4.Obj, .int .i64 t4.Badge, .int .i64 t4.Guard, .int .i64 t4.Bits], F]
        refine S.to (ρ' := [(1, .int .i64 a1), (3, .int .i64 a3), (4, bp b1 0), (8, .bool false), (9, .bool t2), (13, bp b25 0), (15, bp b29 0), (14, errV 48 t23), (65, .bool (t23.isNone != t27.isNone))]) ⟨rfl, rfl, rfl, rfl, rfl, rfl, rfl, rfl, rfl, trivial⟩ ?_
        rcases bool_or (t23.isNone != t27.isNone) with b30 | b30
        · replace h := cond_t b30 h
          refine S.condT rfl b30 ?_
          refine S.seq ?_
          refine S.region ?_
          refine SO.v rfl (opv_assign rfl) ?_
          refine SO.nil ?_
          cases h
          replace h := Brk.of_ret hJ1
          cases h
          refine S.drop ?_
          refine S.drop ?_
          refine S.drop ?_
          refine S.drop ?_
          exact S.ret1 Try.func12 rfl rfl (fun w hs hk => hR w _ _ ⟨rfl, rfl⟩ hs hk)
        · replace h := cond_f b30 h
          refine S.condF rfl b30 ?_
          refine S.skip ?_
          refine S.seq ?_
          refine S.region ?_
          refine SO.v rfl (opv_move rfl) ?_
          refine SO.v rfl (opv_eqlN (e := t23) Try.underlying45 rfl) ?_
          refine SO.nil ?_
          rcases bool_or t23.isNone with b31 | b31
          · replace h := cond_t b31 h
            refine S.condT rfl b31 ?_
            refine S.seq ?_
            refine S.region ?_
            refine SO.loadN rfl Try.isAgg53 Try.sizeOf53 rfl rfl rfl ?_
            refine SO.v rfl (opv_move rfl) ?_
            obtain ⟨⟨t32, t33⟩, ht34, h⟩ := opt_bind h
            refine SO.call (pre := []) rfl Try.call46 rfl rfl rfl (rights_Derive.ct _ _ _ _ ht34) trivial ?_
            rintro _ _ ⟨rfl, rfl⟩
            refine SO.v rfl (opv_move rfl) ?_
            refine SO.v rfl (opv_extract rfl rfl) ?_
            refine SO.v rfl (opv_extract rfl rfl) ?_
            refine SO.alloc rfl Try.zeroValue53 rfl (fun b35 => ?_)
            refine SO.storeN Try.sizeOf53 rfl rfl rfl rfl rfl rfl ?_
            refine SO.v rfl (opv_assign rfl) ?_
            refine SO.nil ?_
            refine S.to (ρ' := [(1, .int .i64 a1), (3, .int .i64 a3), (4, bp b1 0), (8, .bool false), (9, .bool t2), (13, bp b25 0), (17, bp b35 0), (18, errV 48 t33)]) ⟨rfl, rfl, rfl, rfl, rfl, rfl, rfl, rfl, trivial⟩ ?_
            refine S.seq ?_
            refine S.region ?_
            refine SO.v rfl (opv_move rfl) ?_
            refine SO.v rfl (opv_neqN (e := t33) Try.underlying45 rfl) ?_
            refine SO.v rfl (opv_move rfl) ?_
            obtain ⟨c37, hc38, hgk⟩ := opt_bind h
            refine SO.cut 4 80 (.bool c37) [Box b35 [.int .i64 t32.Kind, .int .i64 t32.Rights, .int .i64 t32.Obj, .int .i64 t32.Badge, .int .i64 t32.Guard, .int .i64 t32.Bits], Box b29 [.int .i64 t26.Kind, .int .i64 t26.Rights, .int .i64 t26.Obj, .int .i64 t26.Badge, .int .i64 t26.Guard, .int .i64 t26.Bits], Box b1 [.int .i64 a0.Kind, .int .i64 a0.Rights, .int .i64 a0.Obj, .int .i64 a0.Badge, .int .i64 a0.Guard, .int .i64 a0.Bits], Box b25 [.int .i64 t22.Kind, .int .i64 t22.Rights, .int .i64 t22.Obj, .int .i64 t22.Badge, .int .i64 t22.Guard, .int .i64 t22.Bits], Box b7 [.int .i64 t4.Kind, .int .i64 t4.Rights, .int .i64 t4.Obj, .int .i64 t4.Badge, .int .i64 t4.Guard, .int .i64 t4.Bits], F] (fun l2 hk2 => ?_) ?_
            · clear hgk
              replace h := hc38
              rcases bool_or t33.isSome with b36 | b36
              · replace h := cond_t b36 h
                refine SO.passF rfl rfl rfl b36 rfl rfl ?_
                refine SO.passF rfl rfl rfl b36 rfl rfl ?_
                refine SO.passF rfl rfl rfl b36 rfl rfl ?_
                cases h
                refine SO.v rfl (opv_pick_t' b36 rfl rfl) ?_
                refine SO.b5 ?_
                refine SO.b5 ?_
                refine SO.b5 ?_
                refine SO.b5 ?_
                refine SO.b5 ?_
                refine SO.b5 ?_
                exact hk2.fitc (m := 4) rfl (rfl) rfl
              · replace h := cond_f b36 h
                refine SO.takeT rfl rfl rfl b36 ?_
                refine SO.loadN rfl Try.isAgg53 Try.sizeOf53 rfl rfl rfl ?_
                refine SO.takeT rfl rfl rfl b36 ?_
                refine SO.b3 ?_
                refine SO.loadN rfl Try.isAgg53 Try.sizeOf53 rfl rfl rfl ?_
                refine SO.takeT rfl rfl rfl b36 ?_
                refine SO.v rfl (eq_neq_api_Cap (x := t32) (y := t22) rfl rfl) ?_
                cases h
                refine SO.v rfl (opv_pick_f' b36 rfl rfl) ?_
                refine SO.b5 ?_
                refine SO.b5 ?_
                refine SO.b2 ?_
                refine SO.b5 ?_
                refine SO.b5 ?_
                refine SO.b5 ?_
                exact hk2.fitc (m := 4) rfl (rfl) rfl
            clear hc38
            replace h := hgk
            refine SO.nil ?_
            rcases bool_or c37 with b39 | b39
            · replace h := cond_t b39 h
              refine S.condT rfl b39 ?_
              refine S.seq ?_
              refine S.region ?_
              refine SO.v rfl (opv_assign rfl) ?_
              refine SO.nil ?_
              refine S.to (ρ' := [(1, .int .i64 a1), (3, .int .i64 a3), (4, bp b1 0), (8, .bool false), (9, .bool t2)]) ⟨rfl, rfl, rfl, rfl, rfl, trivial⟩ ?_
              cases h
              replace h := Brk.of_ret hJ1
              cases h
              refine S.drop ?_
              refine S.drop ?_
              refine S.drop ?_
              refine S.drop ?_
              refine S.drop ?_
              exact S.ret1 Try.func12 rfl rfl (fun w hs hk => hR w _ _ ⟨rfl, rfl⟩ hs hk)
            · replace h := cond_f b39 h
              refine S.condF rfl b39 ?_
              refine S.skip ?_
              cases h
              refine S.drop ?_
              refine S.drop ?_
              refine S.b1 ?_
              refine S.drop ?_
              refine S.b2 ?_
              refine S.b1 ?_
              refine S.b2 ?_
              refine S.to ?_ (hk1 ((), ()) rfl)
              exact ⟨rfl, rfl, rfl, rfl, rfl, trivial⟩
          · replace h := cond_f b31 h
            refine S.condF rfl b31 ?_
            refine S.skip ?_
            cases h
            refine S.drop ?_
            refine S.b1 ?_
            refine S.drop ?_
            refine S.b2 ?_
            refine S.b1 ?_
            refine S.b2 ?_
            refine S.to ?_ (hk1 ((), ()) rfl)
            exact ⟨rfl, rfl, rfl, rfl, rfl, trivial⟩
    · replace h := cond_f b8 h
      refine S.condF rfl b8 ?_
      refine S.skip ?_
      cases h
      refine S.b2 ?_
      refine S.b2 ?_
      refine S.b2 ?_
      refine S.to ?_ (hk1 ((), ()) rfl)
      exact ⟨rfl, rfl, rfl, rfl, rfl, trivial⟩
  rintro ⟨_, _⟩ hq
  subst hq
  replace h := Brk.of_nx hJ1
  refine S.seq ?_
  refine S.region ?_
  refine SO.b1 ?_
  refine SO.loadN rfl Try.isAgg53 Try.sizeOf53 rfl rfl rfl ?_
  refine SO.v rfl (opv_move rfl) ?_
  refine SO.v rfl (opv_move rfl) ?_
  obtain ⟨⟨t40, t41⟩, ht42, h⟩ := opt_bind h
  refine SO.call (pre := []) rfl Try.call48 rfl rfl rfl (rights_Mint.ct _ _ _ _ _ ht42) trivial ?_
  rintro _ _ ⟨rfl, rfl⟩
  refine SO.v rfl (opv_move rfl) ?_
  refine SO.v rfl (opv_extract rfl rfl) ?_
  refine SO.v rfl (opv_extract rfl rfl) ?_
  refine SO.alloc rfl Try.zeroValue53 rfl (fun b43 => ?_)
  refine SO.storeN Try.sizeOf53 rfl rfl rfl rfl rfl rfl ?_
  refine SO.v rfl (opv_assign rfl) ?_
  refine SO.nil ?_
  refine S.to (ρ' := [(1, .int .i64 a1), (3, .int .i64 a3), (4, bp b1 0), (8, .bool false), (9, .bool t2), (19, bp b43 0), (20, errV 48 t41)]) ⟨rfl, rfl, rfl, rfl, rfl, rfl, rfl, trivial⟩ ?_
  refine S.seq ?_
  refine S.seq ?_
  refine S.region ?_
  refine SO.v rfl (opv_move rfl) ?_
  refine SO.v rfl (opv_neqN (e := t41) Try.underlying45 rfl) ?_
  refine SO.nil ?_
  rcases bool_or t41.isSome with b44 | b44
  · replace h := cond_t b44 h
    refine S.condT rfl b44 ?_
    refine S.seq ?_
    refine S.region ?_
    refine SO.v rfl (opv_move rfl) ?_
    refine SO.v rfl (opv_assign rfl) ?_
    refine SO.nil ?_
    cases h
    refine S.drop ?_
    refine S.drop ?_
    refine S.drop ?_
    exact S.ret1 Try.func12 rfl rfl (fun w hs hk => hR w _ _ ⟨rfl, rfl⟩ hs hk)
  · replace h := cond_f b44 h
    refine S.condF rfl b44 ?_
    refine S.skip ?_
    refine S.seq ?_
    refine S.region ?_
    refine SO.loadN rfl Try.isAgg53 Try.sizeOf53 rfl rfl rfl ?_
    obtain ⟨t45, ht46, h⟩ := opt_bind h
    refine SO.call (pre := []) rfl Try.call31 rfl rfl rfl (ref01_May.ct _ _ _ ht46) trivial ?_
    rintro _ _ ⟨rfl, rfl⟩
    refine SO.v rfl (opv_assign rfl) ?_
    refine SO.nil ?_
    refine S.seq ?_
    refine S.region ?_
    refine SO.loadN rfl Try.isAgg53 Try.sizeOf53 rfl rfl rfl ?_
    refine SO.v rfl (opv_move rfl) ?_
    refine SO.v rfl (opv_move rfl) ?_
    obtain ⟨⟨t47, t48⟩, ht49, h⟩ := opt_bind h
    refine SO.call (pre := []) rfl Try.call48 rfl rfl rfl (rights_Mint.ct _ _ _ _ _ ht49) trivial ?_
    rintro _ _ ⟨rfl, rfl⟩
    refine SO.v rfl (opv_move rfl) ?_
    refine SO.v rfl (opv_extract rfl rfl) ?_
    refine SO.v rfl (opv_extract rfl rfl) ?_
    refine SO.alloc rfl Try.zeroValue53 rfl (fun b50 => ?_)
    refine SO.storeN Try.sizeOf53 rfl rfl rfl rfl rfl rfl ?_
    refine SO.v rfl (opv_assign rfl) ?_
    refine SO.nil ?_
    refine S.to (ρ' := [(3, .int .i64 a3), (4, bp b1 0), (8, .bool false), (9, .bool t2), (19, bp b43 0), (21, .bool t45), (23, errV 48 t48)]) ⟨rfl, rfl, rfl, rfl, rfl, rfl, rfl, trivial⟩ ?_
    refine S.seq ?_
    refine S.region ?_
    refine SO.v rfl (opv_move rfl) ?_
    refine SO.v rfl (opv_move rfl) ?_
    refine SO.cut 2 103 (.bool (t2 && t45)) [Box b50 [.int .i64 t47.Kind, .int .i64 t47.Rights, .int .i64 t47.Obj, .int .i64 t47.Badge, .int .i64 t47.Guard, .int .i64 t47.Bits], Box b43 [.int .i64 t40.Kind, .int .i64 t40.Rights, .int .i64 t40.Obj, .int .i64 t40.Badge, .int .i64 t40.Guard, .int .i64 t40.Bits], Box b1 [.int .i64 a0.Kind, .int .i64 a0.Rights, .int .i64 a0.Obj, .int .i64 a0.Badge, .int .i64 a0.Guard, .int .i64 a0.Bits], Box b7 [.int .i64 t4.Kind, .int .i64 t4.Rights, .int .i64 t4.Obj, .int .i64 t4.Badge, .int .i64 t4.Guard, .int .i64 t4.Bits], F] (fun l2 hk2 => ?_) ?_
    · rcases bool_or t2 with b51 | b51
      · refine SO.takeT rfl rfl rfl b51 ?_
        refine SO.v rfl (opv_move rfl) ?_
        refine SO.v rfl (opv_pick_t' b51 rfl rfl) ?_
        refine SO.b4 ?_
        refine SO.b4 ?_
        refine SO.b4 ?_
        refine SO.b4 ?_
        refine SO.b4 ?_
        exact hk2.fitc (m := 2) rfl (and_t b51) rfl
      · refine SO.passF rfl rfl rfl b51 rfl rfl ?_
        refine SO.v rfl (opv_pick_f' b51 rfl rfl) ?_
        refine SO.b4 ?_
        refine SO.b4 ?_
        refine SO.b4 ?_
        refine SO.b4 ?_
        refine SO.b4 ?_
        exact hk2.fitc (m := 2) rfl (and_f b51) rfl
    refine SO.v rfl (opv_move rfl) ?_
    obtain ⟨c53, hc54, hgk⟩ := opt_bind h
    refine SO.cut 4 108 (.bool c53) [Box b50 [.int .i64 t47.Kind, .int .i64 t47.Rights, .int .i64 t47.Obj, .int .i64 t47.Badge, .int .i64 t47.Guard, .int .i64 t47.Bits], Box b43 [.int .i64 t40.Kind, .int .i64 t40.Rights, .int .i64 t40.Obj, .int .i64 t40.Badge, .int .i64 t40.Guard, .int .i64 t40.Bits], Box b1 [.int .i64 a0.Kind, .int .i64 a0.Rights, .int .i64 a0.Obj, .int .i64 a0.Badge, .int .i64 a0.Guard, .int .i64 a0.Bits], Box b7 [.int .i64 t4.Kind, .int .i64 t4.Rights, .int .i64 t4.Obj, .int .i64 t4.Badge, .int .i64 t4.Guard, .int .i64 t4.Bits], F] (fun l2 hk2 => ?_) ?_
    · clear hgk
      replace h := hc54
      rcases bool_or (t2 && t45) with b52 | b52
      · replace h := cond_t b52 h
        refine SO.takeT rfl rfl rfl b52 ?_
        refine SO.b1 ?_
        refine SO.loadN rfl Try.isAgg53 Try.sizeOf53 rfl rfl rfl ?_
        refine SO.takeT rfl rfl rfl b52 ?_
        refine SO.b2 ?_
        refine SO.loadN rfl Try.isAgg53 Try.sizeOf53 rfl rfl rfl ?_
        refine SO.takeT rfl rfl rfl b52 ?_
        obtain ⟨t55, ht56, h⟩ := opt_bind h
        refine SO.call (pre := []) rfl Try.call47 rfl rfl rfl (rights_Within.ct _ _ _ ht56) trivial ?_
        rintro _ _ ⟨rfl, rfl⟩
        cases h
        refine SO.v rfl (opv_pick_t' b52 rfl rfl) ?_
        refine SO.b4 ?_
        refine SO.b4 ?_
        refine SO.b2 ?_
        refine SO.b3 ?_
        refine SO.b4 ?_
        exact hk2.fitc (m := 4) rfl (rfl) rfl
      · replace h := cond_f b52 h
        refine SO.passF rfl rfl rfl b52 rfl rfl ?_
        refine SO.passF rfl rfl rfl b52 rfl rfl ?_
        refine SO.passF rfl rfl rfl b52 rfl rfl ?_
        cases h
        refine SO.v rfl (opv_pick_f' b52 rfl rfl) ?_
        refine SO.b4 ?_
        refine SO.b4 ?_
        refine SO.b4 ?_
        refine SO.b4 ?_
        refine SO.b4 ?_
        exact hk2.fitc (m := 4) rfl (rfl) rfl
    clear hc54
    replace h := hgk
    refine SO.v rfl (opv_move rfl) ?_
    obtain ⟨c58, hc59, hgk⟩ := opt_bind h
    refine SO.cut 5 114 (.bool c58) [Box b50 [.int .i64 t47.Kind, .int .i64 t47.Rights, .int .i64 t47.Obj, .int .i64 t47.Badge, .int .i64 t47.Guard, .int .i64 t47.Bits], Box b43 [.int .i64 t40.Kind, .int .i64 t40.Rights, .int .i64 t40.Obj, .int .i64 t40.Badge, .int .i64 t40.Guard, .int .i64 t40.Bits], Box b1 [.int .i64 a0.Kind, .int .i64 a0.Rights, .int .i64 a0.Obj, .int .i64 a0.Badge, .int .i64 a0.Guard, .int .i64 a0.Bits], Box b7 [.int .i64 t4.Kind, .int .i64 t4.Rights, .int .i64 t4.Obj, .int .i64 t4.Badge, .int .i64 t4.Guard, .int .i64 t4.Bits], F] (fun l2 hk2 => ?_) ?_
    · clear hgk
      replace h := hc59
      rcases bool_or c53 with b57 | b57
      · replace h := cond_t b57 h
        refine SO.takeT rfl rfl rfl b57 ?_
        refine SO.v rfl (opv_fieldAddr Try.underlying53 rfl Try.sizeOf3 rfl rfl) ?_
        refine SO.takeT rfl rfl rfl b57 ?_
        refine SO.b1 ?_
        refine SO.load1 rfl Try.isAgg3 rfl rfl ?_
        refine SO.takeT rfl rfl rfl b57 ?_
        refine SO.v rfl (opv_move rfl) ?_
        refine SO.takeT rfl rfl rfl b57 ?_
        refine SO.v rfl (opv_eql rfl rfl) ?_
        cases h
        refine SO.v rfl (opv_pick_t' b57 rfl rfl) ?_
        refine SO.b4 ?_
        refine SO.b4 ?_
        refine SO.b4 ?_
        refine SO.b3 ?_
        refine SO.b4 ?_
        exact hk2.fitc (m := 5) rfl (rfl) rfl
      · replace h := cond_f b57 h
        refine SO.passF rfl rfl rfl b57 rfl rfl ?_
        refine SO.passF rfl rfl rfl b57 rfl rfl ?_
        refine SO.passF rfl rfl rfl b57 rfl rfl ?_
        refine SO.passF rfl rfl rfl b57 rfl rfl ?_
        cases h
        refine SO.v rfl (opv_pick_f' b57 rfl rfl) ?_
        refine SO.b4 ?_
        refine SO.b4 ?_
        refine SO.b4 ?_
        refine SO.b4 ?_
        refine SO.b4 ?_
        exact hk2.fitc (m := 5) rfl (rfl) rfl
    clear hc59
    replace h := hgk
    refine SO.v rfl (opv_move rfl) ?_
    refine SO.cut 4 119 (.bool (c58 && (t48 == some 10))) [Box b50 [.int .i64 t47.Kind, .int .i64 t47.Rights, .int .i64 t47.Obj, .int .i64 t47.Badge, .int .i64 t47.Guard, .int .i64 t47.Bits], Box b43 [.int .i64 t40.Kind, .int .i64 t40.Rights, .int .i64 t40.Obj, .int .i64 t40.Badge, .int .i64 t40.Guard, .int .i64 t40.Bits], Box b1 [.int .i64 a0.Kind, .int .i64 a0.Rights, .int .i64 a0.Obj, .int .i64 a0.Badge, .int .i64 a0.Guard, .int .i64 a0.Bits], Box b7 [.int .i64 t4.Kind, .int .i64 t4.Rights, .int .i64 t4.Obj, .int .i64 t4.Badge, .int .i64 t4.Guard, .int .i64 t4.Bits], F] (fun l2 hk2 => ?_) ?_
    · rcases bool_or c58 with b60 | b60
      · refine SO.takeT rfl rfl rfl b60 ?_
        refine SO.v rfl (opv_move rfl) ?_
        refine SO.takeT rfl rfl rfl b60 ?_
        refine SO.v rfl (opv_iface Try.underlying48 rfl rfl) ?_
        refine SO.takeT rfl rfl rfl b60 ?_
        refine SO.v rfl (opv_eqlE (e := t48) (c := 10) Try.underlying45 Try.underlying48 inf48 rfl rfl rfl) ?_
        refine SO.v rfl (opv_pick_t' b60 rfl rfl) ?_
        refine SO.b4 ?_
        refine SO.b4 ?_
        refine SO.b4 ?_
        refine SO.b4 ?_
        refine SO.b4 ?_
        exact hk2.fitc (m := 4) rfl (and_t b60) rfl
      · refine SO.passF rfl rfl rfl b60 rfl rfl ?_
        refine SO.passF rfl rfl rfl b60 rfl rfl ?_
        refine SO.passF rfl rfl rfl b60 rfl rfl ?_
        refine SO.v rfl (opv_pick_f' b60 rfl rfl) ?_
        refine SO.b4 ?_
        refine SO.b4 ?_
        refine SO.b4 ?_
        refine SO.b4 ?_
        refine SO.b4 ?_
        exact hk2.fitc (m := 4) rfl (and_f b60) rfl
    refine SO.v rfl (opv_assign rfl) ?_
    refine SO.nil ?_
    refine S.to (ρ' := [(8, .bool (c58 && (t48 == some 10)))]) ⟨rfl, trivial⟩ ?_
    cases h
    refine S.drop ?_
    refine S.drop ?_
    refine S.drop ?_
    refine S.drop ?_
    exact S.ret1 Try.func12 rfl rfl (fun w hs hk => hR w _ _ ⟨rfl, rfl⟩ hs hk)
end Go.Proofs
namespace Go.Proofs
open Go.Sl Go.RowKit
/-! 68 padstone/pack.widths -/
def pack_widths.f : Option ((List Int)) :=
  some ([4, 3, 5, 16, 4, 8])
set_option maxHeartbeats 8000000 in
set_option maxRecDepth 100000 in
theorem pack_widths.ct (r0 : List Int) (h : pack_widths.f  = some r0) :
    Ct Try.prog 68 [] (fun _ => True) [] (fun u H' => ∃ v_r0, u = v_r0 ∧ H' = [Own 3 (ekI .i64) v_r0 r0]) := by
  unfold pack_widths.f at h
  refine Ct.intro (n := 2) Try.func68 rfl rfl rfl ?_
  intro R w0 F hF hR
  refine S.seq ?_
  refine S.region ?_
  refine SO.v rfl (opv_assign rfl) ?_
  refine SO.nil ?_
  refine S.seq ?_
  refine S.region ?_
  refine SO.buildSlice (K := ekI .i64) (xs := [4, 3, 5, 16, 4, 8]) (cs := [.int .i64 4, .int .i64 3, .int .i64 5, .int .i64 16, .int .i64 4, .int .i64 8]) rfl Try.underlying73 Try.sizeOf3 Try.zeroValue3 rfl rfl rfl (by kernel_rfl) rfl rfl rfl (fun v1 hr2 => ?_)
  refine SO.v rfl (opv_assign rfl) ?_
  refine SO.nil ?_
  cases h
  refine S.b1 ?_
  refine S.b1 ?_
  exact S.ret1 Try.func68 rfl rfl (fun w hs hk => hR w _ _ ⟨v1, rfl, rfl⟩ hs hk)
end Go.Proofs
namespace Go.Proofs
open Go.Sl Go.RowKit
/-! 32 padstone/pack.Put -/
def pack_Put.l1 (a0 : api_Cap) (t7 : List Int) : Nat → (Int × Int × Int) → Option (Int)
  | 0, _ => none
  | k + 1, (x28_1, x4_1, x5_1) => bif decide (x28_1 < (t7.length : Int)) then ((at_ t7 x28_1).bind fun x12 => (at_ ([a0.Kind, a0.Rights, a0.Obj, a0.Badge, a0.Bits, a0.Guard]) x28_1).bind fun x14 => (chk (decide (0 ≤ x5_1))).bind fun _ => pack_Put.l1 a0 t7 k (w64 (x28_1 + 1), bor .u64 x4_1 (bshl .u64 (wu64 x14) x5_1), w64 (x5_1 + x12))) else (some x4_1)
def pack_Put.f (k : Nat) (a0 : api_Cap) : Option (Int × (Option Int)) :=
  (pack_May.f a0).bind fun t2 => bif !t2 then (some (0, (some 1))) else ((pack_widths.f ).bind fun t7 => (pack_Put.l1 a0 t7 k (0, 0, 0)).bind fun j4_e1 => some (j4_e1, none))
set_option maxHeartbeats 8000000 in
set_option maxRecDepth 100000 in
theorem pack_Put.ct (k : Nat) (a0 : api_Cap) (r0 : Int) (r1 : Option Int) (h : pack_Put.f k a0 = some (r0, r1)) :
    Ct Try.prog 32 [.agg #[.int .i64 a0.Kind, .int .i64 a0.Rights, .int .i64 a0.Obj, .int .i64 a0.Badge, .int .i64 a0.Guard, .int .i64 a0.Bits]] (fun _ => True) [] (fun u H' => u = .tuple #[.int .u64 r0, errV 48 r1] ∧ H' = []) := by
  unfold pack_Put.f at h
  refine Ct.intro (n := 47) Try.func32 rfl rfl rfl ?_
  intro R w0 F hF hR
  refine S.seq ?_
  refine S.region ?_
  refine SO.box rfl rfl rfl (fun b1 => ?_)
  refine SO.v rfl (opv_assign rfl) ?_
  refine SO.v rfl (opv_assign rfl) ?_
  refine SO.nil ?_
  refine S.seq ?_
  refine S.seq ?_
  refine S.region ?_
  refine SO.loadN rfl Try.isAgg53 Try.sizeOf53 rfl rfl rfl ?_
  obtain ⟨t2, ht3, h⟩ := opt_bind h
  refine SO.call (pre := []) rfl Try.call33 rfl rfl rfl (pack_May.ct _ _ ht3) trivial ?_
  rintro _ _ ⟨rfl, rfl⟩
  refine SO.v rfl (opv_not rfl) ?_
  refine SO.nil ?_
  rcases bool_or (!t2) with b4 | b4
  · replace h := cond_t b4 h
    refine S.condT rfl b4 ?_
    refine S.seq ?_
    refine S.region ?_
    refine SO.v rfl (opv_iface Try.underlying48 rfl rfl) ?_
    refine SO.v rfl (opv_assign rfl) ?_
    refine SO.v rfl (opv_assign rfl) ?_
    refine SO.nil ?_
    cases h
    refine S.drop ?_
    exact S.ret2 Try.func32 rfl rfl rfl (fun w hs hk => hR w _ _ ⟨rfl, rfl⟩ hs hk)
  · replace h := cond_f b4 h
    refine S.condF rfl b4 ?_
    refine S.skip ?_
    refine S.seq ?_
    refine S.region ?_
    refine SO.v rfl (opv_assign rfl) ?_
    refine SO.nil ?_
    refine S.seq ?_
    refine S.region ?_
    refine SO.v rfl (opv_assign rfl) ?_
    refine SO.nil ?_
    refine S.seq ?_
    refine S.region ?_
    refine SO.v rfl (opv_fieldAddr Try.underlying53 rfl Try.sizeOf3 rfl rfl) ?_
    refine SO.load1 rfl Try.isAgg3 rfl rfl ?_
    refine SO.v rfl (opv_fieldAddr Try.underlying53 rfl Try.sizeOf3 rfl rfl) ?_
    refine SO.load1 rfl Try.isAgg3 rfl rfl ?_
    refine SO.v rfl (opv_fieldAddr Try.underlying53 rfl Try.sizeOf3 rfl rfl) ?_
    refine SO.load1 rfl Try.isAgg3 rfl rfl ?_
    refine SO.v rfl (opv_fieldAddr Try.underlying53 rfl Try.sizeOf3 rfl rfl) ?_
    refine SO.load1 rfl Try.isAgg3 rfl rfl ?_
    refine SO.v rfl (opv_fieldAddr Try.underlying53 rfl Try.sizeOf3 rfl rfl) ?_
    refine SO.load1 rfl Try.isAgg3 rfl rfl ?_
    refine SO.v rfl (opv_fieldAddr Try.underlying53 rfl Try.sizeOf3 rfl rfl) ?_
    refine SO.load1 rfl Try.isAgg3 rfl rfl ?_
    refine SO.buildSlice (K := ekI .i64) (xs := [a0.Kind, a0.Rights, a0.Obj, a0.Badge, a0.Bits, a0.Guard]) (cs := [.int .i64 a0.Kind, .int .i64 a0.Rights, .int .i64 a0.Obj, .int .i64 a0.Badge, .int .i64 a0.Bits, .int .i64 a0.Guard]) rfl Try.underlying73 Try.sizeOf3 Try.zeroValue3 rfl rfl rfl (by kernel_rfl) rfl rfl rfl (fun v5 hr6 => ?_)
    refine SO.v rfl (opv_assign rfl) ?_
    refine SO.nil ?_
    refine S.to (ρ' := [(2, .int .u64 0), (3, errV 48 none), (4, .int .u64 0), (5, .int .i64 0), (6, v5)]) ⟨rfl, rfl, rfl, rfl, rfl, trivial⟩ ?_
    refine S.seq ?_
    refine S.seq ?_
    refine S.region ?_
    obtain ⟨t7, ht8, h⟩ := opt_bind h
    refine SO.call (pre := []) rfl Try.call68 rfl rfl rfl (pack_widths.ct _ ht8) trivial ?_
    rintro v9 _ ⟨_, rfl, rfl⟩
    refine SO.rd fun hr10 => ?_
    refine SO.v rfl (opv_lenR rfl Try.underlying73 hr10 rfl) ?_
    refine SO.v rfl (opv_move rfl) ?_
    refine SO.nil ?_
    obtain ⟨j4_e1, hl1, h⟩ := opt_bind h
    refine S.b3 ?_
    refine S.b3 ?_
    refine S.b3 ?_
    refine S.b3 ?_
    refine S.to (ρ' := [(28, .int .i64 0), (27, .int .i64 (t7.length : Int)), (26, v9), (2, .int .u64 0), (3, errV 48 none), (4, .int .u64 0), (5, .int .i64 0), (6, v5)]) ⟨rfl, rfl, rfl, rfl, rfl, rfl, rfl, rfl, trivial⟩ ?_
    refine S.forloop (X := (Int × Int × Int) × Unit) (O := Int) (fun m x => pack_Put.l1 a0 t7 m x.1) (fun x => match x with | ((x28_1, x4_1, x5_1), _) => [(28, .int .i64 x28_1), (27, .int .i64 (t7.length : Int)), (26, v9), (2, .int .u64 0), (3, errV 48 none), (4, .int .u64 x4_1), (5, .int .i64 x5_1), (6, v5)]) (fun x => match x with | ((x28_1, x4_1, x5_1), _) => [Own 3 (ekI .i64) v9 t7, Own 3 (ekI .i64) v5 ([a0.Kind, a0.Rights, a0.Obj, a0.Badge, a0.Bits, a0.Guard]), Box b1 [.int .i64 a0.Kind, .int .i64 a0.Rights, .int .i64 a0.Obj, .int .i64 a0.Badge, .int .i64 a0.Guard, .int .i64 a0.Bits], F]) (fun Sk => (fun j4_e1 => ∀ _ : Unit, Sk [(2, .int .u64 0), (3, errV 48 none), (4, .int .u64 j4_e1)] [Own 3 (ekI .i64) v9 t7, Own 3 (ekI .i64) v5 ([a0.Kind, a0.Rights, a0.Obj, a0.Badge, a0.Bits, a0.Guard]), Box b1 [.int .i64 a0.Kind, .int .i64 a0.Rights, .int .i64 a0.Obj, .int .i64 a0.Badge, .int .i64 a0.Guard, .int .i64 a0.Bits], F])) (fun _ => rfl) ?_ (m := k) (x := ((0, 0, 0), ())) hl1 ?_
    · clear h hl1
      intro k x o_1 h hK1 ih1
      obtain ⟨⟨x28_1, x4_1, x5_1⟩, _⟩ := x
      replace h : pack_Put.l1 a0 t7 (k + 1) (x28_1, x4_1, x5_1) = some o_1 := h
      rw [pack_Put.l1] at h
      refine S.seq ?_
      refine S.region ?_
      refine SO.v rfl (opv_lss rfl rfl) ?_
      refine SO.nil ?_
      refine S.seq ?_
      rcases bool_or (decide (x28_1 < (t7.length : Int))) with b11 | b11
      · replace h := cond_t b11 h
        refine S.condT rfl b11 ?_
        refine S.skip ?_
        refine S.seq ?_
        refine S.block ?_
        refine S.seq ?_
        refine S.region ?_
        refine SO.v rfl (opv_move rfl) ?_
        obtain ⟨x12, hx13, h⟩ := opt_bind h
        refine SO.v rfl (opv_idx Try.underlying73 Try.sizeOf3 hr10 rfl rfl hx13) ?_
        refine SO.loadI1 (j := 0) rfl Try.isAgg3 (Rd.head hr10) hx13 rfl rfl rfl rfl ?_
        refine SO.v rfl (opv_assign rfl) ?_
        refine SO.v rfl (opv_assign rfl) ?_
        refine SO.nil ?_
        refine S.seq ?_
        refine S.region ?_
        refine SO.v rfl (opv_move rfl) ?_
        refine SO.v rfl (opv_move rfl) ?_
        refine SO.v rfl (opv_move rfl) ?_
        obtain ⟨x14, hx15, h⟩ := opt_bind h
        refine SO.v rfl (opv_idx Try.underlying73 Try.sizeOf3 hr6 rfl rfl hx15) ?_
        refine SO.loadI1 (j := 0) rfl Try.isAgg3 (Rd.tail (Rd.head hr6)) hx15 rfl rfl rfl rfl ?_
        refine SO.v rfl (opv_conv Try.underlying3 Try.underlying27 rfl) ?_
        refine SO.v rfl (opv_move rfl) ?_
        obtain ⟨_, hc16, h⟩ := opt_bind h
        refine SO.v rfl (opv_shl rfl rfl (of_decide_eq_true (chk_some hc16))) ?_
        refine SO.v rfl (opv_or rfl rfl) ?_
        refine SO.v rfl (opv_assign rfl) ?_
        refine SO.nil ?_
        refine S.region ?_
        refine SO.v rfl (opv_move rfl) ?_
        refine SO.v rfl (opv_move rfl) ?_
        refine SO.v rfl (opv_add rfl rfl) ?_
        refine SO.v rfl (opv_assign rfl) ?_
        refine SO.nil ?_
        refine S.inBlock ?_
        refine S.region ?_
        refine SO.v rfl (opv_add rfl rfl) ?_
        refine SO.v rfl (opv_move rfl) ?_
        refine SO.nil ?_
        refine S.b3 ?_
        refine S.b3 ?_
        refine S.b3 ?_
        refine S.b3 ?_
        refine S.to ?_ (ih1 ((w64 (x28_1 + 1), bor .u64 x4_1 (bshl .u64 (wu64 x14) x5_1), w64 (x5_1 + x12)), ()) h)
        exact ⟨rfl, rfl, rfl, rfl, rfl, rfl, rfl, rfl, trivial⟩
      · replace h := cond_f b11 h
        refine S.condF rfl b11 ?_
        refine S.exit rfl ?_
        cases h
        refine S.b3 ?_
        refine S.b3 ?_
        refine S.b3 ?_
        refine S.b3 ?_
        refine S.to ?_ (hK1 ())
        exact ⟨rfl, rfl, rfl, trivial⟩
    rintro _
    refine S.seq ?_
    refine S.region ?_
    refine SO.v rfl (opv_move rfl) ?_
    refine SO.v rfl (opv_assign rfl) ?_
    refine SO.v rfl (opv_assign rfl) ?_
    refine SO.nil ?_
    cases h
    refine S.drop ?_
    refine S.drop ?_
    refine S.drop ?_
    exact S.ret2 Try.func32 rfl rfl rfl (fun w hs hk => hR w _ _ ⟨rfl, rfl⟩ hs hk)
end Go.Proofs
namespace Go.Proofs
open Go.Sl Go.RowKit
/-! 35 padstone/pack.Get -/
def pack_Get.l1 (t2 : List Int) : Nat → (Int × Int × (List Int)) → Option (((List Int) × Int))
  | 0, _ => none
  | k + 1, (x12_1, x5_1, x4_1) => bif decide (x12_1 < (t2.length : Int)) then ((at_ t2 x12_1).bind fun x8 => (chk (decide (0 ≤ x8))).bind fun _ => (app x4_1 ([w64 (band .u64 x5_1 (wu64 ((bshl .u64 1 x8) - 1)))])).bind fun zs13 => (chk (decide (0 ≤ x8))).bind fun _ => pack_Get.l1 t2 k (w64 (x12_1 + 1), bshr .u64 x5_1 x8, zs13)) else (some (x4_1, x5_1))
def pack_Get.f (k : Nat) (a0 : Int) : Option (api_Cap × (Option Int)) :=
  (pack_widths.f ).bind fun t2 => (pack_Get.l1 t2 k (0, a0, [])).bind fun (j4_e1, j5_e1) => (at_ j4_e1 0).bind fun x19 => (at_ j4_e1 1).bind fun x21 => (at_ j4_e1 2).bind fun x23 => (at_ j4_e1 3).bind fun x25 => (at_ j4_e1 4).bind fun x27 => (at_ j4_e1 5).bind fun x29 => (bif j5_e1 != 0 then (some true) else ((pack_May.f (⟨x19, x21, x23, x25, x29, x27⟩ : api_Cap)).bind fun t35 => some (!t35))).bind fun c33 => bif c33 then (some ((⟨0, 0, 0, 0, 0, 0⟩ : api_Cap), (some 1))) else (some ((⟨x19, x21, x23, x25, x29, x27⟩ : api_Cap), none))
set_option maxHeartbeats 8000000 in
set_option maxRecDepth 100000 in
theorem pack_Get.ct (k : Nat) (a0 : Int) (r0 : api_Cap) (r1 : Option Int) (h : pack_Get.f k a0 = some (r0, r1)) :
    Ct Try.prog 35 [.int .u64 a0] (fun _ => True) [] (fun u H' => u = .tuple #[.agg #[.int .i64 r0.Kind, .int .i64 r0.Rights, .int .i64 r0.Obj, .int .i64 r0.Badge, .int .i64 r0.Guard, .int .i64 r0.Bits], errV 48 r1] ∧ H' = []) := by
  unfold pack_Get.f at h
  refine Ct.intro (n := 58) Try.func35 rfl rfl rfl ?_
  intro R w0 F hF hR
  refine S.seq ?_
  refine S.region ?_
  refine SO.alloc rfl Try.zeroValue53 rfl (fun b1 => ?_)
  refine SO.v rfl (opv_assign rfl) ?_
  refine SO.nil ?_
  refine S.seq ?_
  refine S.region ?_
  refine SO.v rfl (opv_assign rfl) ?_
  refine SO.nil ?_
  refine S.seq ?_
  refine S.region ?_
  refine SO.v rfl (opv_move rfl) ?_
  refine SO.v rfl (opv_assign rfl) ?_
  refine SO.nil ?_
  refine S.seq ?_
  refine S.seq ?_
  refine S.region ?_
  obtain ⟨t2, ht3, h⟩ := opt_bind h
  refine SO.call (pre := []) rfl Try.call68 rfl rfl rfl (pack_widths.ct _ ht3) trivial ?_
  rintro v4 _ ⟨_, rfl, rfl⟩
  refine SO.rd fun hr5 => ?_
  refine SO.v rfl (opv_lenR rfl Try.underlying73 hr5 rfl) ?_
  refine SO.v rfl (opv_move rfl) ?_
  refine SO.nil ?_
  obtain ⟨⟨j4_e1, j5_e1⟩, hl1, h⟩ := opt_bind h
  refine S.newOwn 3 (ekI .i64) ?_
  refine S.b3 ?_
  refine S.b3 ?_
  refine S.b3 ?_
  refine S.b3 ?_
  refine S.to (ρ' := [(12, .int .i64 0), (11, .int .i64 (t2.length : Int)), (10, v4), (5, .int .u64 a0), (4, .slice none 0 0), (3, errV 48 none), (2, bp b1 0)]) ⟨rfl, rfl, rfl, rfl, rfl, rfl, rfl, trivial⟩ ?_
  refine S.forloop (X := (Int × Int × (List Int)) × Value) (O := ((List Int) × Int)) (fun m x => pack_Get.l1 t2 m x.1) (fun x => match x with | ((x12_1, x5_1, x4_1), v4_1) => [(12, .int .i64 x12_1), (11, .int .i64 (t2.length : Int)), (10, v4), (5, .int .u64 x5_1), (4, v4_1), (3, errV 48 none), (2, bp b1 0)]) (fun x => match x with | ((x12_1, x5_1, x4_1), v4_1) => [Own 3 (ekI .i64) v4_1 x4_1, Own 3 (ekI .i64) v4 t2, Box b1 [.int .i64 0, .int .i64 0, .int .i64 0, .int .i64 0, .int .i64 0, .int .i64 0], F]) (fun Sk => (fun x => match x with | (j4_e1, j5_e1) => ∀ v4_e1 : Value, Sk [(2, bp b1 0), (3, errV 48 none), (4, v4_e1), (5, .int .u64 j5_e1)] [Own 3 (ekI .i64) v4_e1 j4_e1, Own 3 (ekI .i64) v4 t2, Box b1 [.int .i64 0, .int .i64 0, .int .i64 0, .int .i64 0, .int .i64 0, .int .i64 0], F])) (fun _ => rfl) ?_ (m := k) (x := ((0, a0, []), .slice none 0 0)) hl1 ?_
  · clear h hl1
    intro k x o_1 h hK1 ih1
    obtain ⟨⟨x12_1, x5_1, x4_1⟩, v4_1⟩ := x
    replace h : pack_Get.l1 t2 (k + 1) (x12_1, x5_1, x4_1) = some o_1 := h
    rw [pack_Get.l1] at h
    refine S.rd fun hr6 => ?_
    refine S.seq ?_
    refine S.region ?_
    refine SO.v rfl (opv_lss rfl rfl) ?_
    refine SO.nil ?_
    refine S.seq ?_
    rcases bool_or (decide (x12_1 < (t2.length : Int))) with b7 | b7
    · replace h := cond_t b7 h
      refine S.condT rfl b7 ?_
      refine S.skip ?_
      refine S.seq ?_
      refine S.block ?_
      refine S.seq ?_
      refine S.region ?_
      obtain ⟨x8, hx9, h⟩ := opt_bind h
      refine SO.v rfl (opv_idx Try.underlying73 Try.sizeOf3 hr5 rfl rfl hx9) ?_
      refine SO.loadI1 (j := 0) rfl Try.isAgg3 (Rd.tail (Rd.head hr5)) hx9 rfl rfl rfl rfl ?_
      refine SO.v rfl (opv_assign rfl) ?_
      refine SO.nil ?_
      refine S.seq ?_
      refine S.region ?_
      refine SO.v rfl (opv_move rfl) ?_
      refine SO.v rfl (opv_move rfl) ?_
      refine SO.v rfl (opv_move rfl) ?_
      obtain ⟨_, hc10, h⟩ := opt_bind h
      refine SO.v rfl (opv_shl rfl rfl (of_decide_eq_true (chk_some hc10))) ?_
      refine SO.v rfl (opv_sub rfl rfl) ?_
      refine SO.v rfl (opv_and rfl rfl) ?_
      refine SO.v rfl (opv_conv Try.underlying27 Try.underlying3 rfl) ?_
      refine SO.buildSlice (K := ekI .i64) (xs := [w64 (band .u64 x5_1 (wu64 ((bshl .u64 1 x8) - 1)))]) (cs := [.int .i64 (w64 (band .u64 x5_1 (wu64 ((bshl .u64 1 x8) - 1))))]) rfl Try.underlying73 Try.sizeOf3 Try.zeroValue3 rfl rfl rfl (by kernel_rfl) rfl rfl rfl (fun v11 hr12 => ?_)
      obtain ⟨zs13, hz14, h⟩ := opt_bind h
      refine SO.b1 ?_
      refine SO.append rfl Try.underlying73 inf3 rfl rfl rfl (by decide) rfl rfl rfl (Rd.head hr12) hz14 (fun v15 => ?_)
      refine SO.rd fun hr16 => ?_
      refine SO.v rfl (opv_assign rfl) ?_
      refine SO.nil ?_
      refine S.region ?_
      refine SO.v rfl (opv_move rfl) ?_
      refine SO.v rfl (opv_move rfl) ?_
      obtain ⟨_, hc17, h⟩ := opt_bind h
      refine SO.v rfl (opv_shr rfl rfl (of_decide_eq_true (chk_some hc17))) ?_
      refine SO.v rfl (opv_assign rfl) ?_
      refine SO.nil ?_
      refine S.inBlock ?_
      refine S.region ?_
      refine SO.v rfl (opv_add rfl rfl) ?_
      refine SO.v rfl (opv_move rfl) ?_
      refine SO.nil ?_
      refine S.b1 ?_
      refine S.drop ?_
      refine S.b3 ?_
      refine S.b3 ?_
      refine S.b3 ?_
      refine S.b3 ?_
      refine S.to ?_ (ih1 ((w64 (x12_1 + 1), bshr .u64 x5_1 x8, zs13), v15) h)
      exact ⟨rfl, rfl, rfl, rfl, rfl, rfl, rfl, trivial⟩
    · replace h := cond_f b7 h
      refine S.condF rfl b7 ?_
      refine S.exit rfl ?_
      cases h
      refine S.b3 ?_
      refine S.b3 ?_
      refine S.b3 ?_
      refine S.b3 ?_
      refine S.to ?_ (hK1 v4_1)
      exact ⟨rfl, rfl, rfl, rfl, trivial⟩
  rintro v4_e1
  refine S.rd fun hr18 => ?_
  refine S.seq ?_
  obtain ⟨x19, hx20, h⟩ := opt_bind h
  obtain ⟨x21, hx22, h⟩ := opt_bind h
  obtain ⟨x23, hx24, h⟩ := opt_bind h
  obtain ⟨x25, hx26, h⟩ := opt_bind h
  obtain ⟨x27, hx28, h⟩ := opt_bind h
  obtain ⟨x29, hx30, h⟩ := opt_bind h
  refine S.draw (T := [tS 4 (v4_e1), tE [(2, bp b1 0), (3, errV 48 none), (5, .int .u64 j5_e1)], tR (Own 3 (ekI .i64) v4_e1 j4_e1), tR (Own 3 (ekI .i64) v4 t2), tR (Box b1 [.int .i64 0, .int .i64 0, .int .i64 0, .int .i64 0, .int .i64 0, .int .i64 0]), tR (F), tS 29 (v4_e1), tS 30 (idxp v4_e1 ((0 : Int).toNat * (ekI .i64).sz)), tS 31 (.int .i64 x19), tS 32 (v4_e1), tS 33 (idxp v4_e1 ((1 : Int).toNat * (ekI .i64).sz)), tS 34 (.int .i64 x21), tS 35 (v4_e1), tS 36 (idxp v4_e1 ((2 : Int).toNat * (ekI .i64).sz)), tS 37 (.int .i64 x23), tS 38 (v4_e1), tS 39 (idxp v4_e1 ((3 : Int).toNat * (ekI .i64).sz)), tS 40 (.int .i64 x25), tS 41 (v4_e1), tS 42 (idxp v4_e1 ((4 : Int).toNat * (ekI .i64).sz)), tS 43 (.int .i64 x27), tS 44 (v4_e1), tS 45 (idxp v4_e1 ((5 : Int).toNat * (ekI .i64).sz)), tS 46 (.int .i64 x29), tS 47 (.agg #[.int .i64 x19, .int .i64 x21, .int .i64 x23, .int .i64 x25, .int .i64 x29, .int .i64 x27]), ⟨Nat, [8], (fun b31 => [(8, bp b31 0)]), (fun b31 => [Box b31 [.int .i64 0, .int .i64 0, .int .i64 0, .int .i64 0, .int .i64 0, .int .i64 0]]), fun _ => rfl⟩, ⟨Nat, [8], (fun b31 => [(8, bp b31 0)]), (fun b31 => [Box b31 [.int .i64 x19, .int .i64 x21, .int .i64 x23, .int .i64 x25, .int .i64 x29, .int .i64 x27]]), fun _ => rfl⟩]) (D := [⟨[0], [], [6]⟩, ⟨[6, 2], [], [7]⟩, ⟨[7, 2], [], [8]⟩, ⟨[0], [], [9]⟩, ⟨[9, 2], [], [10]⟩, ⟨[10, 2], [], [11]⟩, ⟨[0], [], [12]⟩, ⟨[12, 2], [], [13]⟩, ⟨[13, 2], [], [14]⟩, ⟨[0], [], [15]⟩, ⟨[15, 2], [], [16]⟩, ⟨[16, 2], [], [17]⟩, ⟨[0], [], [18]⟩, ⟨[18, 2], [], [19]⟩, ⟨[19, 2], [], [20]⟩, ⟨[0], [], [21]⟩, ⟨[21, 2], [], [22]⟩, ⟨[22, 2], [], [23]⟩, ⟨[8, 11, 14, 17, 20, 23], [], [24]⟩, ⟨[], [], [25]⟩, ⟨[24], [25], [26]⟩]) (ini := [0, 1, 2, 3, 4, 5]) (fin := [1, 26, 2, 3, 4, 5]) (bf := [[], [0], [0, 1], [], [3], [3, 4], [], [6], [6, 7], [], [9], [9, 10], [], [12], [12, 13], [], [15], [15, 16], [0, 1, 2, 3, 4, 5, 6, 7, 8, 9, 10, 11, 12, 13, 14, 15, 16, 17], [], [0, 1, 2, 3, 4, 5, 6, 7, 8, 9, 10, 11, 12, 13, 14, 15, 16, 17, 18, 19]]) (by kernel_rfl) (by kernel_rfl) (fun x w h1 h2 => (.cons () (.cons () (.cons () (.cons () (.cons () (.cons () (.nil ⟨EnvAll.of h1 ⟨rfl, rfl, rfl, rfl, trivial⟩, h2⟩)))))))) ⟨?_, ?_, ?_, ?_, ?_, ?_, ?_, ?_, ?_, ?_, ?_, ?_, ?_, ?_, ?_, ?_, ?_, ?_, ?_, ?_, ?_, trivial⟩ ?_
  · rintro Fr _
    refine SO.v rfl (opv_move rfl) ?_
    exact SO.nilZ fun a w h1 h2 h3 h4 h5 => PZ.of h1 h3 h5 (.cons () (.cons () (.nil ⟨EnvAll.of h2 ⟨rfl, rfl, trivial⟩, h4⟩)))
  · rintro Fr _ _
    refine SO.v rfl (opv_idx Try.underlying73 Try.sizeOf3 hr18 rfl rfl hx20) ?_
    exact SO.nilZ fun a w h1 h2 h3 h4 h5 => PZ.of h1 h3 h5 (.cons () (.cons () (.cons () (.nil ⟨EnvAll.of h2 ⟨rfl, rfl, trivial⟩, h4⟩))))
  · rintro Fr _ _
    refine SO.loadI1 (j := 0) rfl Try.isAgg3 (Rd.head hr18) hx20 rfl rfl rfl rfl ?_
    exact SO.nilZ fun a w h1 h2 h3 h4 h5 => PZ.of h1 h3 h5 (.cons () (.cons () (.cons () (.nil ⟨EnvAll.of h2 ⟨rfl, rfl, trivial⟩, h4⟩))))
  · rintro Fr _
    refine SO.v rfl (opv_move rfl) ?_
    exact SO.nilZ fun a w h1 h2 h3 h4 h5 => PZ.of h1 h3 h5 (.cons () (.cons () (.nil ⟨EnvAll.of h2 ⟨rfl, rfl, trivial⟩, h4⟩)))
  · rintro Fr _ _
    refine SO.v rfl (opv_idx Try.underlying73 Try.sizeOf3 hr18 rfl rfl hx22) ?_
    exact SO.nilZ fun a w h1 h2 h3 h4 h5 => PZ.of h1 h3 h5 (.cons () (.cons () (.cons () (.nil ⟨EnvAll.of h2 ⟨rfl, rfl, trivial⟩, h4⟩))))
  · rintro Fr _ _
    refine SO.loadI1 (j := 0) rfl Try.isAgg3 (Rd.head hr18) hx22 rfl rfl rfl rfl ?_
    exact SO.nilZ fun a w h1 h2 h3 h4 h5 => PZ.of h1 h3 h5 (.cons () (.cons () (.cons () (.nil ⟨EnvAll.of h2 ⟨rfl, rfl, trivial⟩, h4⟩))))
  · rintro Fr _
    refine SO.v rfl (opv_move rfl) ?_
    exact SO.nilZ fun a w h1 h2 h3 h4 h5 => PZ.of h1 h3 h5 (.cons () (.cons () (.nil ⟨EnvAll.of h2 ⟨rfl, rfl, trivial⟩, h4⟩)))
  · rintro Fr _ _
    refine SO.v rfl (opv_idx Try.underlying73 Try.sizeOf3 hr18 rfl rfl hx24) ?_
    exact SO.nilZ fun a w h1 h2 h3 h4 h5 => PZ.of h1 h3 h5 (.cons () (.cons () (.cons () (.nil ⟨EnvAll.of h2 ⟨rfl, rfl, trivial⟩, h4⟩))))
  · rintro Fr _ _
    refine SO.loadI1 (j := 0) rfl Try.isAgg3 (Rd.head hr18) hx24 rfl rfl rfl rfl ?_
    exact SO.nilZ fun a w h1 h2 h3 h4 h5 => PZ.of h1 h3 h5 (.cons () (.cons () (.cons () (.nil ⟨EnvAll.of h2 ⟨rfl, rfl, trivial⟩, h4⟩))))
  · rintro Fr _
    refine SO.v rfl (opv_move rfl) ?_
    exact SO.nilZ fun a w h1 h2 h3 h4 h5 => PZ.of h1 h3 h5 (.cons () (.cons () (.nil ⟨EnvAll.of h2 ⟨rfl, rfl, trivial⟩, h4⟩)))
  · rintro Fr _ _
    refine SO.v rfl (opv_idx Try.underlying73 Try.sizeOf3 hr18 rfl rfl hx26) ?_
    exact SO.nilZ fun a w h1 h2 h3 h4 h5 => PZ.of h1 h3 h5 (.cons () (.cons () (.cons () (.nil ⟨EnvAll.of h2 ⟨rfl, rfl, trivial⟩, h4⟩))))
  · rintro Fr _ _
    refine SO.loadI1 (j := 0) rfl Try.isAgg3 (Rd.head hr18) hx26 rfl rfl rfl rfl ?_
    exact SO.nilZ fun a w h1 h2 h3 h4 h5 => PZ.of h1 h3 h5 (.cons () (.cons () (.cons () (.nil ⟨EnvAll.of h2 ⟨rfl, rfl, trivial⟩, h4⟩))))
  · rintro Fr _
    refine SO.v rfl (opv_move rfl) ?_
    exact SO.nilZ fun a w h1 h2 h3 h4 h5 => PZ.of h1 h3 h5 (.cons () (.cons () (.nil ⟨EnvAll.of h2 ⟨rfl, rfl, trivial⟩, h4⟩)))
  · rintro Fr _ _
    refine SO.v rfl (opv_idx Try.underlying73 Try.sizeOf3 hr18 rfl rfl hx28) ?_
    exact SO.nilZ fun a w h1 h2 h3 h4 h5 => PZ.of h1 h3 h5 (.cons () (.cons () (.cons () (.nil ⟨EnvAll.of h2 ⟨rfl, rfl, trivial⟩, h4⟩))))
  · rintro Fr _ _
    refine SO.loadI1 (j := 0) rfl Try.isAgg3 (Rd.head hr18) hx28 rfl rfl rfl rfl ?_
    exact SO.nilZ fun a w h1 h2 h3 h4 h5 => PZ.of h1 h3 h5 (.cons () (.cons () (.cons () (.nil ⟨EnvAll.of h2 ⟨rfl, rfl, trivial⟩, h4⟩))))
  · rintro Fr _
    refine SO.v rfl (opv_move rfl) ?_
    exact SO.nilZ fun a w h1 h2 h3 h4 h5 => PZ.of h1 h3 h5 (.cons () (.cons () (.nil ⟨EnvAll.of h2 ⟨rfl, rfl, trivial⟩, h4⟩)))
  · rintro Fr _ _
    refine SO.v rfl (opv_idx Try.underlying73 Try.sizeOf3 hr18 rfl rfl hx30) ?_
    exact SO.nilZ fun a w h1 h2 h3 h4 h5 => PZ.of h1 h3 h5 (.cons () (.cons () (.cons () (.nil ⟨EnvAll.of h2 ⟨rfl, rfl, trivial⟩, h4⟩))))
  · rintro Fr _ _
    refine SO.loadI1 (j := 0) rfl Try.isAgg3 (Rd.head hr18) hx30 rfl rfl rfl rfl ?_
    exact SO.nilZ fun a w h1 h2 h3 h4 h5 => PZ.of h1 h3 h5 (.cons () (.cons () (.cons () (.nil ⟨EnvAll.of h2 ⟨rfl, rfl, trivial⟩, h4⟩))))
  · rintro Fr _ _ _ _ _ _
    refine SO.v rfl (opv_build (v := .agg #[.int .i64 x19, .int .i64 x21, .int .i64 x23, .int .i64 x25, .int .i64 x29, .int .i64 x27]) rfl (by intro w; kernel_rfl)) ?_
    exact SO.nilZ fun a w h1 h2 h3 h4 h5 => PZ.of h1 h3 h5 (.cons () (.cons () (.cons () (.cons () (.cons () (.cons () (.cons () (.nil ⟨EnvAll.of h2 ⟨rfl, rfl, rfl, rfl, rfl, rfl, rfl, trivial⟩, h4⟩))))))))
  · rintro Fr 
    refine SO.alloc rfl Try.zeroValue53 rfl (fun b31 => ?_)
    exact SO.nilZ fun a w h1 h2 h3 h4 h5 => PZ.of h1 h3 h5 (.cons b31 (.nil ⟨EnvAll.of h2 ⟨rfl, trivial⟩, h4⟩))
  · rintro Fr _ b31
    refine SO.storeN Try.sizeOf53 rfl rfl rfl rfl rfl rfl ?_
    exact SO.nilZ fun a w h1 h2 h3 h4 h5 => PZ.of h1 h3 h5 (.cons () (.cons b31 (.nil ⟨EnvAll.of h2 ⟨rfl, rfl, trivial⟩, h4⟩)))
  rintro _ b31 _ _ _ _
  show S _ _ _ _ _ _ _ [Box b31 [.int .i64 x19, .int .i64 x21, .int .i64 x23, .int .i64 x25, .int .i64 x29, .int .i64 x27], Own 3 (ekI .i64) v4_e1 j4_e1, Own 3 (ekI .i64) v4 t2, Box b1 [.int .i64 0, .int .i64 0, .int .i64 0, .int .i64 0, .int .i64 0, .int .i64 0], F]
  refine S.to (ρ' := [(2, bp b1 0), (3, errV 48 none), (5, .int .u64 j5_e1), (8, bp b31 0)]) ⟨rfl, rfl, rfl, rfl, trivial⟩ ?_
  refine S.seq ?_
  refine S.seq ?_
  refine S.region ?_
  refine SO.v rfl (opv_move rfl) ?_
  refine SO.v rfl (opv_neq rfl rfl) ?_
  refine SO.v rfl (opv_move rfl) ?_
  obtain ⟨c33, hc34, hgk⟩ := opt_bind h
  refine SO.cut 4 54 (.bool c33) [Box b31 [.int .i64 x19, .int .i64 x21, .int .i64 x23, .int .i64 x25, .int .i64 x29, .int .i64 x27], Own 3 (ekI .i64) v4_e1 j4_e1, Own 3 (ekI .i64) v4 t2, Box b1 [.int .i64 0, .int .i64 0, .int .i64 0, .int .i64 0, .int .i64 0, .int .i64 0], F] (fun l2 hk2 => ?_) ?_
  · clear hgk
    replace h := hc34
    rcases bool_or (j5_e1 != 0) with b32 | b32
    · replace h := cond_t b32 h
      refine SO.passF rfl rfl rfl b32 rfl rfl ?_
      refine SO.passF rfl rfl rfl b32 rfl rfl ?_
      refine SO.passF rfl rfl rfl b32 rfl rfl ?_
      cases h
      refine SO.v rfl (opv_pick_t' b32 rfl rfl) ?_
      refine SO.b4 ?_
      refine SO.b4 ?_
      refine SO.b4 ?_
      refine SO.b4 ?_
      refine SO.b4 ?_
      exact hk2.fitc (m := 4) rfl (rfl) rfl
    · replace h := cond_f b32 h
      refine SO.takeT rfl rfl rfl b32 ?_
      refine SO.loadN rfl Try.isAgg53 Try.sizeOf53 rfl rfl rfl ?_
      refine SO.takeT rfl rfl rfl b32 ?_
      obtain ⟨t35, ht36, h⟩ := opt_bind h
      have ct37 := pack_May.ct _ _ ht36
      dsimp only at ct37
      refine SO.call (pre := []) rfl Try.call33 rfl rfl rfl ct37 trivial ?_
      rintro _ _ ⟨rfl, rfl⟩
      refine SO.takeT rfl rfl rfl b32 ?_
      refine SO.v rfl (opv_not rfl) ?_
      cases h
      refine SO.v rfl (opv_pick_f' b32 rfl rfl) ?_
      refine SO.b4 ?_
      refine SO.b4 ?_
      refine SO.b4 ?_
      refine SO.b4 ?_
      refine SO.b4 ?_
      exact hk2.fitc (m := 4) rfl (rfl) rfl
  clear hc34
  replace h := hgk
  refine SO.nil ?_
  rcases bool_or c33 with b38 | b38
  · replace h := cond_t b38 h
    refine S.condT rfl b38 ?_
    refine S.seq ?_
    refine S.region ?_
    refine SO.v rfl (opv_build (v := .agg #[.int .i64 0, .int .i64 0, .int .i64 0, .int .i64 0, .int .i64 0, .int .i64 0]) rfl (by intro w; kernel_rfl)) ?_
    refine SO.v rfl (opv_iface Try.underlying48 rfl rfl) ?_
    refine SO.b3 ?_
    refine SO.storeN Try.sizeOf53 rfl rfl rfl rfl rfl rfl ?_
    refine SO.v rfl (opv_assign rfl) ?_
    refine SO.nil ?_
    refine S.to (ρ' := [(2, bp b1 0), (3, errV 48 (some 1)), (8, bp b31 0)]) ⟨rfl, rfl, rfl, trivial⟩ ?_
    cases h
    refine S.b1 ?_
    refine S.drop ?_
    refine S.b1 ?_
    refine S.drop ?_
    refine S.b1 ?_
    refine S.drop ?_
    refine S.b1 ?_
    refine S.b1 ?_
    exact S.retC1 Try.func35 rfl rfl rfl Try.isAgg53 Try.sizeOf53 rfl rfl (fun w hs hk => hR w _ _ ⟨rfl, rfl⟩ hs.drop hk)
  · replace h := cond_f b38 h
    refine S.condF rfl b38 ?_
    refine S.skip ?_
    refine S.seq ?_
    refine S.region ?_
    refine SO.loadN rfl Try.isAgg53 Try.sizeOf53 rfl rfl rfl ?_
    refine SO.b3 ?_
    refine SO.storeN Try.sizeOf53 rfl rfl rfl rfl rfl rfl ?_
    refine SO.v rfl (opv_assign rfl) ?_
    refine SO.nil ?_
    refine S.to (ρ' := [(2, bp b1 0), (3, errV 48 none)]) ⟨rfl, rfl, trivial⟩ ?_
    cases h
    refine S.b1 ?_
    refine S.drop ?_
    refine S.b1 ?_
    refine S.drop ?_
    refine S.b1 ?_
    refine S.drop ?_
    refine S.b1 ?_
    refine S.b1 ?_
    exact S.retC1 Try.func35 rfl rfl rfl Try.isAgg53 Try.sizeOf53 rfl rfl (fun w hs hk => hR w _ _ ⟨rfl, rfl⟩ hs.drop hk)
end Go.Proofs
namespace Go.Proofs
open Go.Sl Go.RowKit
/-! 34 padstone/padstoneref01.Word -/
def ref01_Word.f (a0 : api_Cap) : Option (Int) :=
  some (wu64 ((wu64 ((wu64 ((wu64 ((wu64 ((wu64 a0.Kind) + (wu64 (16 * (wu64 a0.Rights))))) + (wu64 (128 * (wu64 a0.Obj))))) + (wu64 (4096 * (wu64 a0.Badge))))) + (wu64 (268435456 * (wu64 a0.Bits))))) + (wu64 (4294967296 * (wu64 a0.Guard)))))
set_option maxHeartbeats 8000000 in
set_option maxRecDepth 100000 in
theorem ref01_Word.ct (a0 : api_Cap) (r0 : Int) (h : ref01_Word.f a0 = some r0) :
    Ct Try.prog 34 [.agg #[.int .i64 a0.Kind, .int .i64 a0.Rights, .int .i64 a0.Obj, .int .i64 a0.Badge, .int .i64 a0.Guard, .int .i64 a0.Bits]] (fun _ => True) [] (fun u H' => u = .int .u64 r0 ∧ H' = []) := by
  unfold ref01_Word.f at h
  refine Ct.intro (n := 31) Try.func34 rfl rfl rfl ?_
  intro R w0 F hF hR
  refine S.seq ?_
  refine S.region ?_
  refine SO.box rfl rfl rfl (fun b1 => ?_)
  refine SO.v rfl (opv_assign rfl) ?_
  refine SO.nil ?_
  refine S.seq ?_
  refine S.region ?_
  refine SO.v rfl (opv_fieldAddr Try.underlying53 rfl Try.sizeOf3 rfl rfl) ?_
  refine SO.load1 rfl Try.isAgg3 rfl rfl ?_
  refine SO.v rfl (opv_conv Try.underlying3 Try.underlying27 rfl) ?_
  refine SO.v rfl (opv_fieldAddr Try.underlying53 rfl Try.sizeOf3 rfl rfl) ?_
  refine SO.load1 rfl Try.isAgg3 rfl rfl ?_
  refine SO.v rfl (opv_conv Try.underlying3 Try.underlying27 rfl) ?_
  refine SO.v rfl (opv_mul rfl rfl) ?_
  refine SO.v rfl (opv_add rfl rfl) ?_
  refine SO.v rfl (opv_fieldAddr Try.underlying53 rfl Try.sizeOf3 rfl rfl) ?_
  refine SO.load1 rfl Try.isAgg3 rfl rfl ?_
  refine SO.v rfl (opv_conv Try.underlying3 Try.underlying27 rfl) ?_
  refine SO.v rfl (opv_mul rfl rfl) ?_
  refine SO.v rfl (opv_add rfl rfl) ?_
  refine SO.v rfl (opv_fieldAddr Try.underlying53 rfl Try.sizeOf3 rfl rfl) ?_
  refine SO.load1 rfl Try.isAgg3 rfl rfl ?_
  refine SO.v rfl (opv_conv Try.underlying3 Try.underlying27 rfl) ?_
  refine SO.v rfl (opv_mul rfl rfl) ?_
  refine SO.v rfl (opv_add rfl rfl) ?_
  refine SO.v rfl (opv_fieldAddr Try.underlying53 rfl Try.sizeOf3 rfl rfl) ?_
  refine SO.load1 rfl Try.isAgg3 rfl rfl ?_
  refine SO.v rfl (opv_conv Try.underlying3 Try.underlying27 rfl) ?_
  refine SO.v rfl (opv_mul rfl rfl) ?_
  refine SO.v rfl (opv_add rfl rfl) ?_
  refine SO.v rfl (opv_fieldAddr Try.underlying53 rfl Try.sizeOf3 rfl rfl) ?_
  refine SO.load1 rfl Try.isAgg3 rfl rfl ?_
  refine SO.v rfl (opv_conv Try.underlying3 Try.underlying27 rfl) ?_
  refine SO.v rfl (opv_mul rfl rfl) ?_
  refine SO.v rfl (opv_add rfl rfl) ?_
  refine SO.v rfl (opv_assign rfl) ?_
  refine SO.nil ?_
  refine S.to (ρ' := [(2, .int .u64 (wu64 ((wu64 ((wu64 ((wu64 ((wu64 ((wu64 a0.Kind) + (wu64 (16 * (wu64 a0.Rights))))) + (wu64 (128 * (wu64 a0.Obj))))) + (wu64 (4096 * (wu64 a0.Badge))))) + (wu64 (268435456 * (wu64 a0.Bits))))) + (wu64 (4294967296 * (wu64 a0.Guard))))))]) ⟨rfl, trivial⟩ ?_
  cases h
  refine S.drop ?_
  exact S.ret1 Try.func34 rfl rfl (fun w hs hk => hR w _ _ ⟨rfl, rfl⟩ hs hk)
end Go.Proofs
namespace Go.Proofs
open Go.Sl Go.RowKit
/-! 36 padstone/padstoneref01.Of -/
def ref01_Of.f (k : Nat) (a0 : Int) : Option (api_Cap × Bool) :=
  (ref01_May.f k (⟨w64 (a0.tmod 16), w64 ((wu64 (a0.tdiv 16)).tmod 8), w64 ((wu64 (a0.tdiv 128)).tmod 32), w64 ((wu64 (a0.tdiv 4096)).tmod 65536), w64 ((wu64 (a0.tdiv 4294967296)).tmod 256), w64 ((wu64 (a0.tdiv 268435456)).tmod 16)⟩ : api_Cap)).bind fun t3 => (bif !t3 then (some true) else ((ref01_Word.f (⟨w64 (a0.tmod 16), w64 ((wu64 (a0.tdiv 16)).tmod 8), w64 ((wu64 (a0.tdiv 128)).tmod 32), w64 ((wu64 (a0.tdiv 4096)).tmod 65536), w64 ((wu64 (a0.tdiv 4294967296)).tmod 256), w64 ((wu64 (a0.tdiv 268435456)).tmod 16)⟩ : api_Cap)).bind fun t8 => some (t8 != a0))).bind fun c6 => bif c6 then (some ((⟨0, 0, 0, 0, 0, 0⟩ : api_Cap), false)) else (some ((⟨w64 (a0.tmod 16), w64 ((wu64 (a0.tdiv 16)).tmod 8), w64 ((wu64 (a0.tdiv 128)).tmod 32), w64 ((wu64 (a0.tdiv 4096)).tmod 65536), w64 ((wu64 (a0.tdiv 4294967296)).tmod 256), w64 ((wu64 (a0.tdiv 268435456)).tmod 16)⟩ : api_Cap), true))
set_option maxHeartbeats 8000000 in
set_option maxRecDepth 100000 in
theorem ref01_Of.ct (k : Nat) (a0 : Int) (r0 : api_Cap) (r1 : Bool) (h : ref01_Of.f k a0 = some (r0, r1)) :
    Ct Try.prog 36 [.int .u64 a0] (fun _ => True) [] (fun u H' => u = .tuple #[.agg #[.int .i64 r0.Kind, .int .i64 r0.Rights, .int .i64 r0.Obj, .int .i64 r0.Badge, .int .i64 r0.Guard, .int .i64 r0.Bits], .bool r1] ∧ H' = []) := by
  unfold ref01_Of.f at h
  refine Ct.intro (n := 47) Try.func36 rfl rfl rfl ?_
  intro R w0 F hF hR
  refine S.seq ?_
  refine S.region ?_
  refine SO.alloc rfl Try.zeroValue53 rfl (fun b1 => ?_)
  refine SO.v rfl (opv_assign rfl) ?_
  refine SO.nil ?_
  refine S.seq ?_
  refine S.region ?_
  refine SO.alloc rfl Try.zeroValue53 rfl (fun b2 => ?_)
  refine SO.nil ?_
  refine S.seq ?_
  refine S.region ?_
  refine SO.v rfl (opv_move rfl) ?_
  refine SO.v rfl (opv_rem rfl rfl (by decide)) ?_
  refine SO.v rfl (opv_conv Try.underlying27 Try.underlying3 rfl) ?_
  refine SO.v rfl (opv_fieldAddr Try.underlying53 rfl Try.sizeOf3 rfl rfl) ?_
  refine SO.store1 Try.sizeOf3 rfl rfl rfl rfl ?_
  refine SO.nil ?_
  refine S.seq ?_
  refine S.region ?_
  refine SO.v rfl (opv_move rfl) ?_
  refine SO.v rfl (opv_quo rfl rfl (by decide)) ?_
  refine SO.v rfl (opv_rem rfl rfl (by decide)) ?_
  refine SO.v rfl (opv_conv Try.underlying27 Try.underlying3 rfl) ?_
  refine SO.v rfl (opv_fieldAddr Try.underlying53 rfl Try.sizeOf3 rfl rfl) ?_
  refine SO.store1 Try.sizeOf3 rfl rfl rfl rfl ?_
  refine SO.nil ?_
  refine S.to (ρ' := [(0, .int .u64 a0), (2, bp b1 0), (3, .bool false), (4, bp b2 0)]) ⟨rfl, rfl, rfl, rfl, trivial⟩ ?_
  refine S.seq ?_
  refine S.region ?_
  refine SO.v rfl (opv_move rfl) ?_
  refine SO.v rfl (opv_quo rfl rfl (by decide)) ?_
  refine SO.v rfl (opv_rem rfl rfl (by decide)) ?_
  refine SO.v rfl (opv_conv Try.underlying27 Try.underlying3 rfl) ?_
  refine SO.v rfl (opv_fieldAddr Try.underlying53 rfl Try.sizeOf3 rfl rfl) ?_
  refine SO.store1 Try.sizeOf3 rfl rfl rfl rfl ?_
  refine SO.nil ?_
  refine S.seq ?_
  refine S.region ?_
  refine SO.v rfl (opv_move rfl) ?_
  refine SO.v rfl (opv_quo rfl rfl (by decide)) ?_
  refine SO.v rfl (opv_rem rfl rfl (by decide)) ?_
  refine SO.v rfl (opv_conv Try.underlying27 Try.underlying3 rfl) ?_
  refine SO.v rfl (opv_fieldAddr Try.underlying53 rfl Try.sizeOf3 rfl rfl) ?_
  refine SO.store1 Try.sizeOf3 rfl rfl rfl rfl ?_
  refine SO.nil ?_
  refine S.to (ρ' := [(0, .int .u64 a0), (2, bp b1 0), (3, .bool false), (4, bp b2 0)]) ⟨rfl, rfl, rfl, rfl, trivial⟩ ?_
  refine S.seq ?_
  refine S.region ?_
  refine SO.v rfl (opv_move rfl) ?_
  refine SO.v rfl (opv_quo rfl rfl (by decide)) ?_
  refine SO.v rfl (opv_rem rfl rfl (by decide)) ?_
  refine SO.v rfl (opv_conv Try.underlying27 Try.underlying3 rfl) ?_
  refine SO.v rfl (opv_fieldAddr Try.underlying53 rfl Try.sizeOf3 rfl rfl) ?_
  refine SO.store1 Try.sizeOf3 rfl rfl rfl rfl ?_
  refine SO.nil ?_
  refine S.seq ?_
  refine S.region ?_
  refine SO.v rfl (opv_move rfl) ?_
  refine SO.v rfl (opv_quo rfl rfl (by decide)) ?_
  refine SO.v rfl (opv_rem rfl rfl (by decide)) ?_
  refine SO.v rfl (opv_conv Try.underlying27 Try.underlying3 rfl) ?_
  refine SO.v rfl (opv_fieldAddr Try.underlying53 rfl Try.sizeOf3 rfl rfl) ?_
  refine SO.store1 Try.sizeOf3 rfl rfl rfl rfl ?_
  refine SO.nil ?_
  refine S.to (ρ' := [(0, .int .u64 a0), (2, bp b1 0), (3, .bool false), (4, bp b2 0)]) ⟨rfl, rfl, rfl, rfl, trivial⟩ ?_
  refine S.seq ?_
  refine S.region ?_
  refine SO.loadN rfl Try.isAgg53 Try.sizeOf53 rfl rfl rfl ?_
  obtain ⟨t3, ht4, h⟩ := opt_bind h
  have ct12 := ref01_May.ct _ _ _ ht4
  dsimp only at ct12
  refine SO.call (pre := []) rfl Try.call31 rfl rfl rfl ct12 trivial ?_
  rintro _ _ ⟨rfl, rfl⟩
  refine SO.v rfl (opv_assign rfl) ?_
  refine SO.nil ?_
  refine S.seq ?_
  refine S.seq ?_
  refine S.region ?_
  refine SO.v rfl (opv_move rfl) ?_
  refine SO.v rfl (opv_not rfl) ?_
  refine SO.v rfl (opv_move rfl) ?_
  obtain ⟨c6, hc7, hgk⟩ := opt_bind h
  refine SO.cut 5 44 (.bool c6) [Box b2 [.int .i64 (w64 (a0.tmod 16)), .int .i64 (w64 ((wu64 (a0.tdiv 16)).tmod 8)), .int .i64 (w64 ((wu64 (a0.tdiv 128)).tmod 32)), .int .i64 (w64 ((wu64 (a0.tdiv 4096)).tmod 65536)), .int .i64 (w64 ((wu64 (a0.tdiv 4294967296)).tmod 256)), .int .i64 (w64 ((wu64 (a0.tdiv 268435456)).tmod 16))], Box b1 [.int .i64 0, .int .i64 0, .int .i64 0, .int .i64 0, .int .i64 0, .int .i64 0], F] (fun l2 hk2 => ?_) ?_
  · clear hgk
    replace h := hc7
    rcases bool_or (!t3) with b5 | b5
    · replace h := cond_t b5 h
      refine SO.passF rfl rfl rfl b5 rfl rfl ?_
      refine SO.passF rfl rfl rfl b5 rfl rfl ?_
      refine SO.passF rfl rfl rfl b5 rfl rfl ?_
      refine SO.passF rfl rfl rfl b5 rfl rfl ?_
      cases h
      refine SO.v rfl (opv_pick_t' b5 rfl rfl) ?_
      refine SO.b2 ?_
      refine SO.b2 ?_
      refine SO.b2 ?_
      exact hk2.fitc (m := 5) rfl (rfl) rfl
    · replace h := cond_f b5 h
      refine SO.takeT rfl rfl rfl b5 ?_
      refine SO.loadN rfl Try.isAgg53 Try.sizeOf53 rfl rfl rfl ?_
      refine SO.takeT rfl rfl rfl b5 ?_
      obtain ⟨t8, ht9, h⟩ := opt_bind h
      have ct10 := ref01_Word.ct _ _ ht9
      dsimp only at ct10
      refine SO.call (pre := []) rfl Try.call34 rfl rfl rfl ct10 trivial ?_
      rintro _ _ ⟨rfl, rfl⟩
      refine SO.takeT rfl rfl rfl b5 ?_
      refine SO.v rfl (opv_move rfl) ?_
      refine SO.takeT rfl rfl rfl b5 ?_
      refine SO.v rfl (opv_neq rfl rfl) ?_
      cases h
      refine SO.v rfl (opv_pick_f' b5 rfl rfl) ?_
      refine SO.b2 ?_
      refine SO.b2 ?_
      refine SO.b2 ?_
      exact hk2.fitc (m := 5) rfl (rfl) rfl
  clear hc7
  replace h := hgk
  refine SO.nil ?_
  refine S.to (ρ' := [(2, bp b1 0), (3, .bool false), (4, bp b2 0), (44, .bool c6)]) ⟨rfl, rfl, rfl, rfl, trivial⟩ ?_
  rcases bool_or c6 with b11 | b11
  · replace h := cond_t b11 h
    refine S.condT rfl b11 ?_
    refine S.seq ?_
    refine S.region ?_
    refine SO.v rfl (opv_build (v := .agg #[.int .i64 0, .int .i64 0, .int .i64 0, .int .i64 0, .int .i64 0, .int .i64 0]) rfl (by intro w; kernel_rfl)) ?_
    refine SO.b1 ?_
    refine SO.storeN Try.sizeOf53 rfl rfl rfl rfl rfl rfl ?_
    refine SO.v rfl (opv_assign rfl) ?_
    refine SO.nil ?_
    cases h
    refine S.b1 ?_
    refine S.drop ?_
    refine S.b1 ?_
    refine S.b1 ?_
    exact S.retC1 Try.func36 rfl rfl rfl Try.isAgg53 Try.sizeOf53 rfl rfl (fun w hs hk => hR w _ _ ⟨rfl, rfl⟩ hs.drop hk)
  · replace h := cond_f b11 h
    refine S.condF rfl b11 ?_
    refine S.skip ?_
    refine S.seq ?_
    refine S.region ?_
    refine SO.loadN rfl Try.isAgg53 Try.sizeOf53 rfl rfl rfl ?_
    refine SO.b1 ?_
    refine SO.storeN Try.sizeOf53 rfl rfl rfl rfl rfl rfl ?_
    refine SO.v rfl (opv_assign rfl) ?_
    refine SO.nil ?_
    cases h
    refine S.b1 ?_
    refine S.drop ?_
    refine S.b1 ?_
    refine S.b1 ?_
    exact S.retC1 Try.func36 rfl rfl rfl Try.isAgg53 Try.sizeOf53 rfl rfl (fun w hs hk => hR w _ _ ⟨rfl, rfl⟩ hs.drop hk)
end Go.Proofs
namespace Go.Proofs
open Go.Sl Go.RowKit
/-! 37 padstone/padstonelaw00.Code -/
def law00_Code.l1 (a0 : Option Int) : Nat → Int → Option (Brk Int Unit)
  | 0, _ => none
  | k + 1, x3_1 => bif decide (x3_1 ≤ 14) then (bif a0 == some x3_1 then (some (Brk.ret x3_1)) else (law00_Code.l1 a0 k (w64 (x3_1 + 1)))) else (some (Brk.nx ()))
def law00_Code.f (k : Nat) (a0 : Option Int) : Option (Int) :=
  bif a0.isNone then (some 0) else ((law00_Code.l1 a0 k 1).bind fun o1 => Brk.go o1 (fun r => some r) (fun _ => some (-1)))
set_option maxHeartbeats 8000000 in
set_option maxRecDepth 100000 in
theorem law00_Code.ct (k : Nat) (a0 : Option Int) (r0 : Int) (h : law00_Code.f k a0 = some r0) :
    Ct Try.prog 37 [errV 48 a0] (fun _ => True) [] (fun u H' => u = .int .i64 r0 ∧ H' = []) := by
  unfold law00_Code.f at h
  refine Ct.intro (n := 15) Try.func37 rfl rfl rfl ?_
  intro R w0 F hF hR
  refine S.seq ?_
  refine S.region ?_
  refine SO.v rfl (opv_assign rfl) ?_
  refine SO.nil ?_
  refine S.seq ?_
  refine S.seq ?_
  refine S.region ?_
  refine SO.v rfl (opv_move rfl) ?_
  refine SO.v rfl (opv_eqlN (e := a0) Try.underlying45 rfl) ?_
  refine SO.nil ?_
  rcases bool_or a0.isNone with b1 | b1
  · replace h := cond_t b1 h
    refine S.condT rfl b1 ?_
    refine S.seq ?_
    refine S.region ?_
    refine SO.v rfl (opv_assign rfl) ?_
    refine SO.nil ?_
    cases h
    exact S.ret1 Try.func37 rfl rfl (fun w hs hk => hR w _ _ ⟨rfl, rfl⟩ hs hk)
  · replace h := cond_f b1 h
    refine S.condF rfl b1 ?_
    refine S.skip ?_
    refine S.seq ?_
    refine S.seq ?_
    refine S.region ?_
    refine SO.v rfl (opv_assign rfl) ?_
    refine SO.nil ?_
    obtain ⟨o1, hl1, h⟩ := opt_bind h
    refine S.to (ρ' := [(3, .int .i64 1), (2, .int .i64 0), (0, errV 48 a0)]) ⟨rfl, rfl, rfl, trivial⟩ ?_
    refine S.forloop (X := Int × Unit) (O := Brk Int Unit) (fun m x => law00_Code.l1 a0 m x.1) (fun x => match x with | (x3_1, _) => [(3, .int .i64 x3_1), (2, .int .i64 0), (0, errV 48 a0)]) (fun x => match x with | (x3_1, _) => [F]) (fun Sk o' => (∀ r', o' = Brk.ret r' → some r' = some r0) ∧ ∀ _ : Unit, ∀ _ : Unit, o' = Brk.nx () → Sk [(2, .int .i64 0)] [F]) (fun _ => rfl) ?_ (m := k) (x := (1, ())) hl1 ?_
    · clear h hl1
      intro k x o_1 h hK1 ih1
      obtain ⟨x3_1, _⟩ := x
      replace h : law00_Code.l1 a0 (k + 1) x3_1 = some o_1 := h
      rw [law00_Code.l1] at h
      refine S.seq ?_
      refine S.seq ?_
      refine S.region ?_
      refine SO.v rfl (opv_move rfl) ?_
      refine SO.v rfl (opv_leq rfl rfl) ?_
      refine SO.nil ?_
      rcases bool_or (decide (x3_1 ≤ 14)) with b2 | b2
      · replace h := cond_t b2 h
        refine S.condT rfl b2 ?_
        refine S.skip ?_
        refine S.seq ?_
        refine S.block ?_
        refine S.seq ?_
        refine S.region ?_
        refine SO.v rfl (opv_move rfl) ?_
        refine SO.v rfl (opv_move rfl) ?_
        refine SO.v rfl (opv_iface Try.underlying48 rfl rfl) ?_
        refine SO.v rfl (opv_eqlE (e := a0) (c := x3_1) Try.underlying45 Try.underlying48 inf48 rfl rfl rfl) ?_
        refine SO.nil ?_
        rcases bool_or (a0 == some x3_1) with b3 | b3
        · replace h := cond_t b3 h
          refine S.condT rfl b3 ?_
          refine S.seq ?_
          refine S.region ?_
          refine SO.v rfl (opv_move rfl) ?_
          refine SO.v rfl (opv_assign rfl) ?_
          refine SO.nil ?_
          cases h
          replace h := hK1.1 _ rfl
          cases h
          exact S.ret1 Try.func37 rfl rfl (fun w hs hk => hR w _ _ ⟨rfl, rfl⟩ hs hk)
        · replace h := cond_f b3 h
          refine S.condF rfl b3 ?_
          refine S.skip ?_
          refine S.inBlock ?_
          refine S.region ?_
          refine SO.v rfl (opv_move rfl) ?_
          refine SO.v rfl (opv_add rfl rfl) ?_
          refine SO.v rfl (opv_assign rfl) ?_
          refine SO.nil ?_
          refine S.to ?_ (ih1 (w64 (x3_1 + 1), ()) h)
          exact ⟨rfl, rfl, rfl, trivial⟩
      · replace h := cond_f b2 h
        refine S.condF rfl b2 ?_
        refine S.exit rfl ?_
        cases h
        refine S.to ?_ (hK1.2 () () rfl)
        exact ⟨rfl, trivial⟩
    refine ⟨fun r' e' => ?_, ?_⟩
    · subst e'
      exact Brk.of_ret h
    rintro _ _ e'
    subst e'
    replace h := Brk.of_nx h
    refine S.seq ?_
    refine S.region ?_
    refine SO.v rfl (opv_assign rfl) ?_
    refine SO.nil ?_
    cases h
    exact S.ret1 Try.func37 rfl rfl (fun w hs hk => hR w _ _ ⟨rfl, rfl⟩ hs hk)
end Go.Proofs
namespace Go.Proofs
open Go.Sl Go.RowKit
/-! 51 padstone/rights.Mutate -/
def rights_Mutate.f (a0 : api_Cap) (a1 : Int) (a2 : Int) : Option (api_Cap × (Option Int)) :=
  (rights_real.f a0).bind fun t3 => bif !t3 then (some ((⟨0, 0, 0, 0, 0, 0⟩ : api_Cap), (some 1))) else (bif a0.Kind != 2 then (some ((⟨0, 0, 0, 0, 0, 0⟩ : api_Cap), (some 5))) else ((pack_May.f (⟨a0.Kind, a0.Rights, a0.Obj, a0.Badge, a1, a2⟩ : api_Cap)).bind fun t7 => bif !t7 then (some ((⟨0, 0, 0, 0, 0, 0⟩ : api_Cap), (some 1))) else (some ((⟨a0.Kind, a0.Rights, a0.Obj, a0.Badge, a1, a2⟩ : api_Cap), none))))
set_option maxHeartbeats 8000000 in
set_option maxRecDepth 100000 in
theorem rights_Mutate.ct (a0 : api_Cap) (a1 : Int) (a2 : Int) (r0 : api_Cap) (r1 : Option Int) (h : rights_Mutate.f a0 a1 a2 = some (r0, r1)) :
    Ct Try.prog 51 [.agg #[.int .i64 a0.Kind, .int .i64 a0.Rights, .int .i64 a0.Obj, .int .i64 a0.Badge, .int .i64 a0.Guard, .int .i64 a0.Bits], .int .i64 a1, .int .i64 a2] (fun _ => True) [] (fun u H' => u = .tuple #[.agg #[.int .i64 r0.Kind, .int .i64 r0.Rights, .int .i64 r0.Obj, .int .i64 r0.Badge, .int .i64 r0.Guard, .int .i64 r0.Bits], errV 48 r1] ∧ H' = []) := by
  unfold rights_Mutate.f at h
  refine Ct.intro (n := 30) Try.func51 rfl rfl rfl ?_
  intro R w0 F hF hR
  refine S.seq ?_
  refine S.region ?_
  refine SO.box rfl rfl rfl (fun b1 => ?_)
  refine SO.alloc rfl Try.zeroValue53 rfl (fun b2 => ?_)
  refine SO.v rfl (opv_assign rfl) ?_
  refine SO.nil ?_
  refine S.seq ?_
  refine S.block ?_
  refine S.seq ?_
  refine S.region ?_
  refine SO.b1 ?_
  refine SO.loadN rfl Try.isAgg53 Try.sizeOf53 rfl rfl rfl ?_
  obtain ⟨t3, ht4, h⟩ := opt_bind h
  refine SO.call (pre := []) rfl Try.call71 rfl rfl rfl (rights_real.ct _ _ ht4) trivial ?_
  rintro _ _ ⟨rfl, rfl⟩
  refine SO.v rfl (opv_not rfl) ?_
  refine SO.v rfl (opv_assign rfl) ?_
  refine SO.nil ?_
  rcases bool_or (!t3) with b5 | b5
  · replace h := cond_t b5 h
    refine S.condT rfl b5 ?_
    refine S.seq ?_
    refine S.region ?_
    refine SO.v rfl (opv_build (v := .agg #[.int .i64 0, .int .i64 0, .int .i64 0, .int .i64 0, .int .i64 0, .int .i64 0]) rfl (by intro w; kernel_rfl)) ?_
    refine SO.v rfl (opv_iface Try.underlying48 rfl rfl) ?_
    refine SO.b1 ?_
    refine SO.storeN Try.sizeOf53 rfl rfl rfl rfl rfl rfl ?_
    refine SO.v rfl (opv_assign rfl) ?_
    refine SO.nil ?_
    refine S.to (ρ' := [(1, .int .i64 a1), (2, .int .i64 a2), (3, bp b1 0), (6, bp b2 0), (7, errV 48 (some 1))]) ⟨rfl, rfl, rfl, rfl, rfl, trivial⟩ ?_
    cases h
    refine S.b1 ?_
    refine S.drop ?_
    refine S.b1 ?_
    refine S.b1 ?_
    exact S.retC1 Try.func51 rfl rfl rfl Try.isAgg53 Try.sizeOf53 rfl rfl (fun w hs hk => hR w _ _ ⟨rfl, rfl⟩ hs.drop hk)
  · replace h := cond_f b5 h
    refine S.condF rfl b5 ?_
    refine S.seq ?_
    refine S.region ?_
    refine SO.v rfl (opv_fieldAddr Try.underlying53 rfl Try.sizeOf3 rfl rfl) ?_
    refine SO.load1 rfl Try.isAgg3 rfl rfl ?_
    refine SO.v rfl (opv_neq rfl rfl) ?_
    refine SO.v rfl (opv_assign rfl) ?_
    refine SO.nil ?_
    refine S.to (ρ' := [(1, .int .i64 a1), (2, .int .i64 a2), (3, bp b1 0), (6, bp b2 0), (7, errV 48 none), (14, .bool (a0.Kind != 2))]) ⟨rfl, rfl, rfl, rfl, rfl, rfl, trivial⟩ ?_
    rcases bool_or (a0.Kind != 2) with b6 | b6
    · replace h := cond_t b6 h
      refine S.condT rfl b6 ?_
      refine S.seq ?_
      refine S.region ?_
      refine SO.v rfl (opv_build (v := .agg #[.int .i64 0, .int .i64 0, .int .i64 0, .int .i64 0, .int .i64 0, .int .i64 0]) rfl (by intro w; kernel_rfl)) ?_
      refine SO.v rfl (opv_iface Try.underlying48 rfl rfl) ?_
      refine SO.b1 ?_
      refine SO.storeN Try.sizeOf53 rfl rfl rfl rfl rfl rfl ?_
      refine SO.v rfl (opv_assign rfl) ?_
      refine SO.nil ?_
      cases h
      refine S.b1 ?_
      refine S.drop ?_
      refine S.b1 ?_
      refine S.b1 ?_
      exact S.retC1 Try.func51 rfl rfl rfl Try.isAgg53 Try.sizeOf53 rfl rfl (fun w hs hk => hR w _ _ ⟨rfl, rfl⟩ hs.drop hk)
    · replace h := cond_f b6 h
      refine S.condF rfl b6 ?_
      refine S.skip ?_
      refine S.inBlock ?_
      refine S.seq ?_
      refine S.region ?_
      refine SO.v rfl (opv_move rfl) ?_
      refine SO.v rfl (opv_move rfl) ?_
      refine SO.v rfl (opv_fieldAddr Try.underlying53 rfl Try.sizeOf3 rfl rfl) ?_
      refine SO.store1 Try.sizeOf3 rfl rfl rfl rfl ?_
      refine SO.v rfl (opv_fieldAddr Try.underlying53 rfl Try.sizeOf3 rfl rfl) ?_
      refine SO.store1 Try.sizeOf3 rfl rfl rfl rfl ?_
      refine SO.nil ?_
      refine S.to (ρ' := [(3, bp b1 0), (6, bp b2 0), (7, errV 48 none)]) ⟨rfl, rfl, rfl, trivial⟩ ?_
      refine S.seq ?_
      refine S.seq ?_
      refine S.region ?_
      refine SO.loadN rfl Try.isAgg53 Try.sizeOf53 rfl rfl rfl ?_
      obtain ⟨t7, ht8, h⟩ := opt_bind h
      have ct10 := pack_May.ct _ _ ht8
      dsimp only at ct10
      refine SO.call (pre := []) rfl Try.call33 rfl rfl rfl ct10 trivial ?_
      rintro _ _ ⟨rfl, rfl⟩
      refine SO.v rfl (opv_not rfl) ?_
      refine SO.nil ?_
      rcases bool_or (!t7) with b9 | b9
      · replace h := cond_t b9 h
        refine S.condT rfl b9 ?_
        refine S.seq ?_
        refine S.region ?_
        refine SO.v rfl (opv_build (v := .agg #[.int .i64 0, .int .i64 0, .int .i64 0, .int .i64 0, .int .i64 0, .int .i64 0]) rfl (by intro w; kernel_rfl)) ?_
        refine SO.v rfl (opv_iface Try.underlying48 rfl rfl) ?_
        refine SO.b1 ?_
        refine SO.storeN Try.sizeOf53 rfl rfl rfl rfl rfl rfl ?_
        refine SO.v rfl (opv_assign rfl) ?_
        refine SO.nil ?_
        cases h
        refine S.b1 ?_
        refine S.drop ?_
        refine S.b1 ?_
        refine S.b1 ?_
        exact S.retC1 Try.func51 rfl rfl rfl Try.isAgg53 Try.sizeOf53 rfl rfl (fun w hs hk => hR w _ _ ⟨rfl, rfl⟩ hs.drop hk)
      · replace h := cond_f b9 h
        refine S.condF rfl b9 ?_
        refine S.skip ?_
        refine S.seq ?_
        refine S.region ?_
        refine SO.loadN rfl Try.isAgg53 Try.sizeOf53 rfl rfl rfl ?_
        refine SO.b1 ?_
        refine SO.storeN Try.sizeOf53 rfl rfl rfl rfl rfl rfl ?_
        refine SO.v rfl (opv_assign rfl) ?_
        refine SO.nil ?_
        cases h
        refine S.b1 ?_
        refine S.drop ?_
        refine S.b1 ?_
        refine S.b1 ?_
        exact S.retC1 Try.func51 rfl rfl rfl Try.isAgg53 Try.sizeOf53 rfl rfl (fun w hs hk => hR w _ _ ⟨rfl, rfl⟩ hs.drop hk)
end Go.Proofs
namespace Go.Proofs
open Go.Sl Go.RowKit
/-! 74 padstone/padstoneref01.both -/
def ref01_both.l1 (a0 : Int) (a1 : Int) : Nat → (Int × Int) → Option (Int)
  | 0, _ => none
  | k + 1, (x6_1, x5_1) => bif decide (x6_1 < 8) then ((chk (decide (x6_1 ≠ 0))).bind fun _ => (bif ((w64 (a0.tdiv x6_1)).tmod 2) == 1 then ((chk (decide (x6_1 ≠ 0))).bind fun _ => some (((w64 (a1.tdiv x6_1)).tmod 2) == 1)) else (some false)).bind fun c4 => bif c4 then (ref01_both.l1 a0 a1 k (w64 (2 * x6_1), w64 (x5_1 + x6_1))) else (ref01_both.l1 a0 a1 k (w64 (2 * x6_1), x5_1))) else (some x5_1)
def ref01_both.f (k : Nat) (a0 : Int) (a1 : Int) : Option (Int) :=
  (ref01_both.l1 a0 a1 k (1, 0)).bind fun j5_e1 => some j5_e1
set_option maxHeartbeats 8000000 in
set_option maxRecDepth 100000 in
theorem ref01_both.ct (k : Nat) (a0 : Int) (a1 : Int) (r0 : Int) (h : ref01_both.f k a0 a1 = some r0) :
    Ct Try.prog 74 [.int .i64 a0, .int .i64 a1] (fun _ => True) [] (fun u H' => u = .int .i64 r0 ∧ H' = []) := by
  unfold ref01_both.f at h
  refine Ct.intro (n := 27) Try.func74 rfl rfl rfl ?_
  intro R w0 F hF hR
  refine S.seq ?_
  refine S.region ?_
  refine SO.v rfl (opv_assign rfl) ?_
  refine SO.nil ?_
  refine S.seq ?_
  refine S.region ?_
  refine SO.v rfl (opv_assign rfl) ?_
  refine SO.nil ?_
  refine S.seq ?_
  refine S.seq ?_
  refine S.region ?_
  refine SO.v rfl (opv_assign rfl) ?_
  refine SO.nil ?_
  obtain ⟨j5_e1, hl1, h⟩ := opt_bind h
  refine S.to (ρ' := [(6, .int .i64 1), (5, .int .i64 0), (4, .int .i64 0), (0, .int .i64 a0), (1, .int .i64 a1)]) ⟨rfl, rfl, rfl, rfl, rfl, trivial⟩ ?_
  refine S.forloop (X := (Int × Int) × Unit) (O := Int) (fun m x => ref01_both.l1 a0 a1 m x.1) (fun x => match x with | ((x6_1, x5_1), _) => [(6, .int .i64 x6_1), (5, .int .i64 x5_1), (4, .int .i64 0), (0, .int .i64 a0), (1, .int .i64 a1)]) (fun x => match x with | ((x6_1, x5_1), _) => [F]) (fun Sk => (fun j5_e1 => ∀ _ : Unit, Sk [(4, .int .i64 0), (5, .int .i64 j5_e1)] [F])) (fun _ => rfl) ?_ (m := k) (x := ((1, 0), ())) hl1 ?_
  · clear h hl1
    intro k x o_1 h hK1 ih1
    obtain ⟨⟨x6_1, x5_1⟩, _⟩ := x
    replace h : ref01_both.l1 a0 a1 (k + 1) (x6_1, x5_1) = some o_1 := h
    rw [ref01_both.l1] at h
    refine S.seq ?_
    refine S.seq ?_
    refine S.region ?_
    refine SO.v rfl (opv_move rfl) ?_
    refine SO.v rfl (opv_lss rfl rfl) ?_
    refine SO.nil ?_
    rcases bool_or (decide (x6_1 < 8)) with b1 | b1
    · replace h := cond_t b1 h
      refine S.condT rfl b1 ?_
      refine S.skip ?_
      refine S.seq ?_
      refine S.block ?_
      refine S.seq ?_
      refine S.region ?_
      refine SO.v rfl (opv_move rfl) ?_
      refine SO.v rfl (opv_move rfl) ?_
      obtain ⟨_, hc2, h⟩ := opt_bind h
      refine SO.v rfl (opv_quo rfl rfl (of_decide_eq_true (chk_some hc2))) ?_
      refine SO.v rfl (opv_rem rfl rfl (by decide)) ?_
      refine SO.v rfl (opv_eql rfl rfl) ?_
      refine SO.v rfl (opv_move rfl) ?_
      obtain ⟨c4, hc5, hgk⟩ := opt_bind h
      refine SO.cut 6 22 (.bool c4) [F] (fun l2 hk2 => ?_) ?_
      · clear hgk
        replace h := hc5
        rcases bool_or (((w64 (a0.tdiv x6_1)).tmod 2) == 1) with b3 | b3
        · replace h := cond_t b3 h
          refine SO.takeT rfl rfl rfl b3 ?_
          refine SO.v rfl (opv_move rfl) ?_
          refine SO.takeT rfl rfl rfl b3 ?_
          refine SO.v rfl (opv_move rfl) ?_
          refine SO.takeT rfl rfl rfl b3 ?_
          obtain ⟨_, hc6, h⟩ := opt_bind h
          refine SO.v rfl (opv_quo rfl rfl (of_decide_eq_true (chk_some hc6))) ?_
          refine SO.takeT rfl rfl rfl b3 ?_
          refine SO.v rfl (opv_rem rfl rfl (by decide)) ?_
          refine SO.takeT rfl rfl rfl b3 ?_
          refine SO.v rfl (opv_eql rfl rfl) ?_
          cases h
          refine SO.v rfl (opv_pick_t' b3 rfl rfl) ?_
          exact hk2.fitc (m := 6) rfl (rfl) rfl
        · replace h := cond_f b3 h
          refine SO.passF rfl rfl rfl b3 rfl rfl ?_
          refine SO.passF rfl rfl rfl b3 rfl rfl ?_
          refine SO.passF rfl rfl rfl b3 rfl rfl ?_
          refine SO.passF rfl rfl rfl b3 rfl rfl ?_
          refine SO.passF rfl rfl rfl b3 rfl rfl ?_
          cases h
          refine SO.v rfl (opv_pick_f' b3 rfl rfl) ?_
          exact hk2.fitc (m := 6) rfl (rfl) rfl
      clear hc5
      replace h := hgk
      refine SO.nil ?_
      rcases bool_or c4 with b7 | b7
      · replace h := cond_t b7 h
        refine S.condT rfl b7 ?_
        refine S.region ?_
        refine SO.v rfl (opv_move rfl) ?_
        refine SO.v rfl (opv_move rfl) ?_
        refine SO.v rfl (opv_add rfl rfl) ?_
        refine SO.v rfl (opv_assign rfl) ?_
        refine SO.nil ?_
        refine S.inBlock ?_
        refine S.region ?_
        refine SO.v rfl (opv_move rfl) ?_
        refine SO.v rfl (opv_mul rfl rfl) ?_
        refine SO.v rfl (opv_assign rfl) ?_
        refine SO.nil ?_
        refine S.to ?_ (ih1 ((w64 (2 * x6_1), w64 (x5_1 + x6_1)), ()) h)
        exact ⟨rfl, rfl, rfl, rfl, rfl, trivial⟩
      · replace h := cond_f b7 h
        refine S.condF rfl b7 ?_
        refine S.skip ?_
        refine S.inBlock ?_
        refine S.region ?_
        refine SO.v rfl (opv_move rfl) ?_
        refine SO.v rfl (opv_mul rfl rfl) ?_
        refine SO.v rfl (opv_assign rfl) ?_
        refine SO.nil ?_
        refine S.to ?_ (ih1 ((w64 (2 * x6_1), x5_1), ()) h)
        exact ⟨rfl, rfl, rfl, rfl, rfl, trivial⟩
    · replace h := cond_f b1 h
      refine S.condF rfl b1 ?_
      refine S.exit rfl ?_
      cases h
      refine S.to ?_ (hK1 ())
      exact ⟨rfl, rfl, trivial⟩
  rintro _
  refine S.seq ?_
  refine S.region ?_
  refine SO.v rfl (opv_move rfl) ?_
  refine SO.v rfl (opv_assign rfl) ?_
  refine SO.nil ?_
  cases h
  exact S.ret1 Try.func74 rfl rfl (fun w hs hk => hR w _ _ ⟨rfl, rfl⟩ hs hk)
end Go.Proofs
