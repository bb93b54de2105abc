/- What the functions that LayTells reaches come to, and that they do. On no condition. -/
import Derived.Test.YtnkgafjmladidaaSlDraw
import Derived.Test.YtnkgafjmladidaaProg
set_option linter.all false
namespace Go.Proofs
open Go.Sl Go.RowKit
theorem inf3 : Try.prog.info? 3 = some Try.t3 := by kernel_rfl
theorem inf48 : Try.prog.info? 48 = some Try.t48 := by kernel_rfl
structure api_Call where
  Op : Int
  Cap : Int
  A : Int
  B : Int
  C : Int
  D : Int
  deriving DecidableEq, Inhabited
def ek_api_Call : EK api_Call := ⟨6, fun x => [.int .i64 x.Op, .int .i64 x.Cap, .int .i64 x.A, .int .i64 x.B, .int .i64 x.C, .int .i64 x.D], fun _ => rfl, fun x v hv => by
  simp only [List.mem_cons, List.not_mem_nil, or_false] at hv
  rcases hv with rfl | rfl | rfl | rfl | rfl | rfl <;> rfl, by decide⟩
theorem eqI_api_Call (x y : api_Call) : eqI [x.Op, x.Cap, x.A, x.B, x.C, x.D] [y.Op, y.Cap, y.A, y.B, y.C, y.D] = decide (x = y) := by
  cases x; cases y
  rw [Bool.eq_iff_iff]
  simp [eqI]
theorem fi_api_Call : ∀ fs, Try.prog.underlying 42 = some (.struct fs) → FI Try.prog fs.toList 0 [.i64, .i64, .i64, .i64, .i64, .i64] := by
  intro fs h
  rw [Try.underlying42] at h
  injection h with h
  injection h with h
  subst h
  exact ⟨by decide, Try.underlying3, rfl, ⟨by decide, Try.underlying3, rfl, ⟨by decide, Try.underlying3, rfl, ⟨by decide, Try.underlying3, rfl, ⟨by decide, Try.underlying3, rfl, ⟨by decide, Try.underlying3, rfl, trivial⟩⟩⟩⟩⟩⟩
theorem eq_eql_api_Call {ρ : Env} {t2 : TypeId} {x y : api_Call} {a b : Operand} (ha : ev ρ a = some (.agg (encI [.i64, .i64, .i64, .i64, .i64, .i64] [x.Op, x.Cap, x.A, x.B, x.C, x.D]).toArray)) (hb : ev ρ b = some (.agg (encI [.i64, .i64, .i64, .i64, .i64, .i64] [y.Op, y.Cap, y.A, y.B, y.C, y.D]).toArray)) : OpV Try.prog ρ (.binOp .eql 42 a b t2) (.bool (decide (x = y))) :=
  opv_eqlS Try.underlying42 Try.stoodInHeld42 Try.eqGuardType42 (fi_api_Call _ Try.underlying42) rfl rfl ha hb (by rw [eqI_api_Call])
theorem eq_neq_api_Call {ρ : Env} {t2 : TypeId} {x y : api_Call} {a b : Operand} (ha : ev ρ a = some (.agg (encI [.i64, .i64, .i64, .i64, .i64, .i64] [x.Op, x.Cap, x.A, x.B, x.C, x.D]).toArray)) (hb : ev ρ b = some (.agg (encI [.i64, .i64, .i64, .i64, .i64, .i64] [y.Op, y.Cap, y.A, y.B, y.C, y.D]).toArray)) : OpV Try.prog ρ (.binOp .neq 42 a b t2) (.bool (!decide (x = y))) :=
  opv_neqS Try.underlying42 Try.stoodInHeld42 Try.eqGuardType42 (fi_api_Call _ Try.underlying42) rfl rfl ha hb (by rw [eqI_api_Call])
structure api_Reply where
  Code : Int
  Word : Int
  Badge : Int
  deriving DecidableEq, Inhabited
def ek_api_Reply : EK api_Reply := ⟨3, fun x => [.int .i64 x.Code, .int .i64 x.Word, .int .i64 x.Badge], fun _ => rfl, fun x v hv => by
  simp only [List.mem_cons, List.not_mem_nil, or_false] at hv
  rcases hv with rfl | rfl | rfl <;> rfl, by decide⟩
theorem eqI_api_Reply (x y : api_Reply) : eqI [x.Code, x.Word, x.Badge] [y.Code, y.Word, y.Badge] = decide (x = y) := by
  cases x; cases y
  rw [Bool.eq_iff_iff]
  simp [eqI]
theorem fi_api_Reply : ∀ fs, Try.prog.underlying 82 = some (.struct fs) → FI Try.prog fs.toList 0 [.i64, .i64, .i64] := by
  intro fs h
  rw [Try.underlying82] at h
  injection h with h
  injection h with h
  subst h
  exact ⟨by decide, Try.underlying3, rfl, ⟨by decide, Try.underlying3, rfl, ⟨by decide, Try.underlying3, rfl, trivial⟩⟩⟩
theorem eq_eql_api_Reply {ρ : Env} {t2 : TypeId} {x y : api_Reply} {a b : Operand} (ha : ev ρ a = some (.agg (encI [.i64, .i64, .i64] [x.Code, x.Word, x.Badge]).toArray)) (hb : ev ρ b = some (.agg (encI [.i64, .i64, .i64] [y.Code, y.Word, y.Badge]).toArray)) : OpV Try.prog ρ (.binOp .eql 82 a b t2) (.bool (decide (x = y))) :=
  opv_eqlS Try.underlying82 Try.stoodInHeld82 Try.eqGuardType82 (fi_api_Reply _ Try.underlying82) rfl rfl ha hb (by rw [eqI_api_Reply])
theorem eq_neq_api_Reply {ρ : Env} {t2 : TypeId} {x y : api_Reply} {a b : Operand} (ha : ev ρ a = some (.agg (encI [.i64, .i64, .i64] [x.Code, x.Word, x.Badge]).toArray)) (hb : ev ρ b = some (.agg (encI [.i64, .i64, .i64] [y.Code, y.Word, y.Badge]).toArray)) : OpV Try.prog ρ (.binOp .neq 82 a b t2) (.bool (!decide (x = y))) :=
  opv_neqS Try.underlying82 Try.stoodInHeld82 Try.eqGuardType82 (fi_api_Reply _ Try.underlying82) rfl rfl ha hb (by rw [eqI_api_Reply])
structure api_Cap where
  Kind : Int
  Rights : Int
  Obj : Int
  Badge : Int
  Guard : Int
  Bits : Int
  deriving DecidableEq, Inhabited
def ek_api_Cap : EK api_Cap := ⟨6, fun x => [.int .i64 x.Kind, .int .i64 x.Rights, .int .i64 x.Obj, .int .i64 x.Badge, .int .i64 x.Guard, .int .i64 x.Bits], fun _ => rfl, fun x v hv => by
  simp only [List.mem_cons, List.not_mem_nil, or_false] at hv
  rcases hv with rfl | rfl | rfl | rfl | rfl | rfl <;> rfl, by decide⟩
theorem eqI_api_Cap (x y : api_Cap) : eqI [x.Kind, x.Rights, x.Obj, x.Badge, x.Guard, x.Bits] [y.Kind, y.Rights, y.Obj, y.Badge, y.Guard, y.Bits] = decide (x = y) := by
  cases x; cases y
  rw [Bool.eq_iff_iff]
  simp [eqI]
theorem fi_api_Cap : ∀ fs, Try.prog.underlying 53 = some (.struct fs) → FI Try.prog fs.toList 0 [.i64, .i64, .i64, .i64, .i64, .i64] := by
  intro fs h
  rw [Try.underlying53] at h
  injection h with h
  injection h with h
  subst h
  exact ⟨by decide, Try.underlying3, rfl, ⟨by decide, Try.underlying3, rfl, ⟨by decide, Try.underlying3, rfl, ⟨by decide, Try.underlying3, rfl, ⟨by decide, Try.underlying3, rfl, ⟨by decide, Try.underlying3, rfl, trivial⟩⟩⟩⟩⟩⟩
theorem eq_eql_api_Cap {ρ : Env} {t2 : TypeId} {x y : api_Cap} {a b : Operand} (ha : ev ρ a = some (.agg (encI [.i64, .i64, .i64, .i64, .i64, .i64] [x.Kind, x.Rights, x.Obj, x.Badge, x.Guard, x.Bits]).toArray)) (hb : ev ρ b = some (.agg (encI [.i64, .i64, .i64, .i64, .i64, .i64] [y.Kind, y.Rights, y.Obj, y.Badge, y.Guard, y.Bits]).toArray)) : OpV Try.prog ρ (.binOp .eql 53 a b t2) (.bool (decide (x = y))) :=
  opv_eqlS Try.underlying53 Try.stoodInHeld53 Try.eqGuardType53 (fi_api_Cap _ Try.underlying53) rfl rfl ha hb (by rw [eqI_api_Cap])
theorem eq_neq_api_Cap {ρ : Env} {t2 : TypeId} {x y : api_Cap} {a b : Operand} (ha : ev ρ a = some (.agg (encI [.i64, .i64, .i64, .i64, .i64, .i64] [x.Kind, x.Rights, x.Obj, x.Badge, x.Guard, x.Bits]).toArray)) (hb : ev ρ b = some (.agg (encI [.i64, .i64, .i64, .i64, .i64, .i64] [y.Kind, y.Rights, y.Obj, y.Badge, y.Guard, y.Bits]).toArray)) : OpV Try.prog ρ (.binOp .neq 53 a b t2) (.bool (!decide (x = y))) :=
  opv_neqS Try.underlying53 Try.stoodInHeld53 Try.eqGuardType53 (fi_api_Cap _ Try.underlying53) rfl rfl ha hb (by rw [eqI_api_Cap])
end Go.Proofs
namespace Go.Proofs
open Go.Sl Go.RowKit
/-! 59 padstone/lay.in -/
def lay_in.f (a0 : Int) (a1 : Int) : Option (Bool) :=
  some ((decide (0 ≤ a0)) && (decide (a0 < a1)))
set_option maxHeartbeats 8000000 in
set_option maxRecDepth 100000 in
theorem lay_in.ct (a0 : Int) (a1 : Int) (r0 : Bool) (h : lay_in.f a0 a1 = some r0) :
    Ct Try.prog 59 [.int .i64 a0, .int .i64 a1] (fun _ => True) [] (fun u H' => u = .bool r0 ∧ H' = []) := by
  unfold lay_in.f at h
  refine Ct.intro (n := 12) Try.func59 rfl rfl rfl ?_
  intro R w0 F hF hR
  refine S.seq ?_
  refine S.region ?_
  refine SO.v rfl (opv_assign rfl) ?_
  refine SO.nil ?_
  refine S.seq ?_
  refine S.region ?_
  refine SO.v rfl (opv_move rfl) ?_
  refine SO.v rfl (opv_geq rfl rfl) ?_
  refine SO.v rfl (opv_move rfl) ?_
  refine SO.cut 4 11 (.bool ((decide (0 ≤ a0)) && (decide (a0 < a1)))) [F] (fun l2 hk2 => ?_) ?_
  · rcases bool_or (decide (0 ≤ a0)) with b1 | b1
    · refine SO.takeT rfl rfl rfl b1 ?_
      refine SO.v rfl (opv_move rfl) ?_
      refine SO.takeT rfl rfl rfl b1 ?_
      refine SO.v rfl (opv_move rfl) ?_
      refine SO.takeT rfl rfl rfl b1 ?_
      refine SO.v rfl (opv_lss rfl rfl) ?_
      refine SO.v rfl (opv_pick_t' b1 rfl rfl) ?_
      exact hk2.fitc (m := 4) rfl (and_t b1) rfl
    · refine SO.passF rfl rfl rfl b1 rfl rfl ?_
      refine SO.passF rfl rfl rfl b1 rfl rfl ?_
      refine SO.passF rfl rfl rfl b1 rfl rfl ?_
      refine SO.v rfl (opv_pick_f' b1 rfl rfl) ?_
      exact hk2.fitc (m := 4) rfl (and_f b1) rfl
  refine SO.v rfl (opv_assign rfl) ?_
  refine SO.nil ?_
  cases h
  exact S.ret1 Try.func59 rfl rfl (fun w hs hk => hR w _ _ ⟨rfl, rfl⟩ hs hk)
end Go.Proofs
namespace Go.Proofs
open Go.Sl Go.RowKit
/-! 18 padstone/lay.Obj -/
def lay_Obj.f (a0 : Int) (a1 : Int) : Option (Int × Bool) :=
  (lay_in.f a0 32).bind fun t1 => (bif !t1 then (some true) else ((lay_in.f a1 8).bind fun t6 => some (!t6))).bind fun c4 => bif c4 then (some (0, false)) else (some (w64 ((w64 (480 + (w64 (a0 * 8)))) + a1), true))
set_option maxHeartbeats 8000000 in
set_option maxRecDepth 100000 in
theorem lay_Obj.ct (a0 : Int) (a1 : Int) (r0 : Int) (r1 : Bool) (h : lay_Obj.f a0 a1 = some (r0, r1)) :
    Ct Try.prog 18 [.int .i64 a0, .int .i64 a1] (fun _ => True) [] (fun u H' => u = .tuple #[.int .i64 r0, .bool r1] ∧ H' = []) := by
  unfold lay_Obj.f at h
  refine Ct.intro (n := 19) Try.func18 rfl rfl rfl ?_
  intro R w0 F hF hR
  refine S.seq ?_
  refine S.region ?_
  refine SO.v rfl (opv_assign rfl) ?_
  refine SO.v rfl (opv_assign rfl) ?_
  refine SO.nil ?_
  refine S.seq ?_
  refine S.seq ?_
  refine S.region ?_
  refine SO.v rfl (opv_move rfl) ?_
  obtain ⟨t1, ht2, h⟩ := opt_bind h
  refine SO.call (pre := []) rfl Try.call59 rfl rfl rfl (lay_in.ct _ _ _ ht2) trivial ?_
  rintro _ _ ⟨rfl, rfl⟩
  refine SO.v rfl (opv_not rfl) ?_
  refine SO.v rfl (opv_move rfl) ?_
  obtain ⟨c4, hc5, hk1⟩ := opt_bind h
  refine SO.cut 4 13 (.bool c4) [F] (fun l2 hk2 => ?_) ?_
  · clear hk1
    replace h := hc5
    rcases bool_or (!t1) with b3 | b3
    · replace h := cond_t b3 h
      refine SO.passF rfl rfl rfl b3 rfl rfl ?_
      refine SO.passF rfl rfl rfl b3 rfl rfl ?_
      refine SO.passF rfl rfl rfl b3 rfl rfl ?_
      cases h
      refine SO.v rfl (opv_pick_t' b3 rfl rfl) ?_
      exact hk2.fitc (m := 4) rfl (rfl) rfl
    · replace h := cond_f b3 h
      refine SO.takeT rfl rfl rfl b3 ?_
      refine SO.v rfl (opv_move rfl) ?_
      refine SO.takeT rfl rfl rfl b3 ?_
      obtain ⟨t6, ht7, h⟩ := opt_bind h
      refine SO.call (pre := []) rfl Try.call59 rfl rfl rfl (lay_in.ct _ _ _ ht7) trivial ?_
      rintro _ _ ⟨rfl, rfl⟩
      refine SO.takeT rfl rfl rfl b3 ?_
      refine SO.v rfl (opv_not rfl) ?_
      cases h
      refine SO.v rfl (opv_pick_f' b3 rfl rfl) ?_
      exact hk2.fitc (m := 4) rfl (rfl) rfl
  clear hc5
  replace h := hk1
  refine SO.nil ?_
  rcases bool_or c4 with b8 | b8
  · replace h := cond_t b8 h
    refine S.condT rfl b8 ?_
    refine S.seq ?_
    refine S.region ?_
    refine SO.v rfl (opv_assign rfl) ?_
    refine SO.v rfl (opv_assign rfl) ?_
    refine SO.nil ?_
    cases h
    exact S.ret2 Try.func18 rfl rfl rfl (fun w hs hk => hR w _ _ ⟨rfl, rfl⟩ hs hk)
  · replace h := cond_f b8 h
    refine S.condF rfl b8 ?_
    refine S.skip ?_
    refine S.seq ?_
    refine S.region ?_
    refine SO.v rfl (opv_move rfl) ?_
    refine SO.v rfl (opv_mul rfl rfl) ?_
    refine SO.v rfl (opv_add rfl rfl) ?_
    refine SO.v rfl (opv_move rfl) ?_
    refine SO.v rfl (opv_add rfl rfl) ?_
    refine SO.v rfl (opv_assign rfl) ?_
    refine SO.v rfl (opv_assign rfl) ?_
    refine SO.nil ?_
    refine S.to (ρ' := [(4, .int .i64 (w64 ((w64 (480 + (w64 (a0 * 8)))) + a1))), (5, .bool true)]) ⟨rfl, rfl, trivial⟩ ?_
    cases h
    exact S.ret2 Try.func18 rfl rfl rfl (fun w hs hk => hR w _ _ ⟨rfl, rfl⟩ hs hk)
end Go.Proofs
namespace Go.Proofs
open Go.Sl Go.RowKit
/-! 58 padstone/lay.Size -/
def lay_Size.f : Option (Int) :=
  some 738
set_option maxHeartbeats 8000000 in
set_option maxRecDepth 100000 in
theorem lay_Size.ct (r0 : Int) (h : lay_Size.f  = some r0) :
    Ct Try.prog 58 [] (fun _ => True) [] (fun u H' => u = .int .i64 r0 ∧ H' = []) := by
  unfold lay_Size.f at h
  refine Ct.intro (n := 1) Try.func58 rfl rfl rfl ?_
  intro R w0 F hF hR
  refine S.seq ?_
  refine S.region ?_
  refine SO.v rfl (opv_assign rfl) ?_
  refine SO.nil ?_
  refine S.seq ?_
  refine S.region ?_
  refine SO.v rfl (opv_assign rfl) ?_
  refine SO.nil ?_
  cases h
  exact S.ret1 Try.func58 rfl rfl (fun w hs hk => hR w _ _ ⟨rfl, rfl⟩ hs hk)
end Go.Proofs
namespace Go.Proofs
open Go.Sl Go.RowKit
/-! 17 padstone/lay.Slot -/
def lay_Slot.f (a0 : Int) (a1 : Int) : Option (Int × Bool) :=
  (lay_in.f a0 96).bind fun t1 => (bif !t1 then (some true) else ((lay_in.f a1 5).bind fun t6 => some (!t6))).bind fun c4 => bif c4 then (some (0, false)) else (some (w64 ((w64 (a0 * 5)) + a1), true))
set_option maxHeartbeats 8000000 in
set_option maxRecDepth 100000 in
theorem lay_Slot.ct (a0 : Int) (a1 : Int) (r0 : Int) (r1 : Bool) (h : lay_Slot.f a0 a1 = some (r0, r1)) :
    Ct Try.prog 17 [.int .i64 a0, .int .i64 a1] (fun _ => True) [] (fun u H' => u = .tuple #[.int .i64 r0, .bool r1] ∧ H' = []) := by
  unfold lay_Slot.f at h
  refine Ct.intro (n := 18) Try.func17 rfl rfl rfl ?_
  intro R w0 F hF hR
  refine S.seq ?_
  refine S.region ?_
  refine SO.v rfl (opv_assign rfl) ?_
  refine SO.v rfl (opv_assign rfl) ?_
  refine SO.nil ?_
  refine S.seq ?_
  refine S.seq ?_
  refine S.region ?_
  refine SO.v rfl (opv_move rfl) ?_
  obtain ⟨t1, ht2, h⟩ := opt_bind h
  refine SO.call (pre := []) rfl Try.call59 rfl rfl rfl (lay_in.ct _ _ _ ht2) trivial ?_
  rintro _ _ ⟨rfl, rfl⟩
  refine SO.v rfl (opv_not rfl) ?_
  refine SO.v rfl (opv_move rfl) ?_
  obtain ⟨c4, hc5, hk1⟩ := opt_bind h
  refine SO.cut 4 13 (.bool c4) [F] (fun l2 hk2 => ?_) ?_
  · clear hk1
    replace h := hc5
    rcases bool_or (!t1) with b3 | b3
    · replace h := cond_t b3 h
      refine SO.passF rfl rfl rfl b3 rfl rfl ?_
      refine SO.passF rfl rfl rfl b3 rfl rfl ?_
      refine SO.passF rfl rfl rfl b3 rfl rfl ?_
      cases h
      refine SO.v rfl (opv_pick_t' b3 rfl rfl) ?_
      exact hk2.fitc (m := 4) rfl (rfl) rfl
    · replace h := cond_f b3 h
      refine SO.takeT rfl rfl rfl b3 ?_
      refine SO.v rfl (opv_move rfl) ?_
      refine SO.takeT rfl rfl rfl b3 ?_
      obtain ⟨t6, ht7, h⟩ := opt_bind h
      refine SO.call (pre := []) rfl Try.call59 rfl rfl rfl (lay_in.ct _ _ _ ht7) trivial ?_
      rintro _ _ ⟨rfl, rfl⟩
      refine SO.takeT rfl rfl rfl b3 ?_
      refine SO.v rfl (opv_not rfl) ?_
      cases h
      refine SO.v rfl (opv_pick_f' b3 rfl rfl) ?_
      exact hk2.fitc (m := 4) rfl (rfl) rfl
  clear hc5
  replace h := hk1
  refine SO.nil ?_
  rcases bool_or c4 with b8 | b8
  · replace h := cond_t b8 h
    refine S.condT rfl b8 ?_
    refine S.seq ?_
    refine S.region ?_
    refine SO.v rfl (opv_assign rfl) ?_
    refine SO.v rfl (opv_assign rfl) ?_
    refine SO.nil ?_
    cases h
    exact S.ret2 Try.func17 rfl rfl rfl (fun w hs hk => hR w _ _ ⟨rfl, rfl⟩ hs hk)
  · replace h := cond_f b8 h
    refine S.condF rfl b8 ?_
    refine S.skip ?_
    refine S.seq ?_
    refine S.region ?_
    refine SO.v rfl (opv_move rfl) ?_
    refine SO.v rfl (opv_mul rfl rfl) ?_
    refine SO.v rfl (opv_move rfl) ?_
    refine SO.v rfl (opv_add rfl rfl) ?_
    refine SO.v rfl (opv_assign rfl) ?_
    refine SO.v rfl (opv_assign rfl) ?_
    refine SO.nil ?_
    refine S.to (ρ' := [(4, .int .i64 (w64 ((w64 (a0 * 5)) + a1))), (5, .bool true)]) ⟨rfl, rfl, trivial⟩ ?_
    cases h
    exact S.ret2 Try.func17 rfl rfl rfl (fun w hs hk => hR w _ _ ⟨rfl, rfl⟩ hs hk)
end Go.Proofs
namespace Go.Proofs
open Go.Sl Go.RowKit
/-! 16 padstone/padstonelaw09.up -/
def law09_up.f : Option (Bool) :=
  (lay_Slot.f 1 1).bind fun (t1, t2) => (lay_Obj.f 32 0).bind fun (t4, t5) => (bif ((t1 == 6) && t2) && (!t5) then ((lay_Size.f ).bind fun t12 => some (t12 == 738)) else (some false)).bind fun c10 => some c10
set_option maxHeartbeats 8000000 in
set_option maxRecDepth 100000 in
theorem law09_up.ct (r0 : Bool) (h : law09_up.f  = some r0) :
    Ct Try.prog 16 [] (fun _ => True) [] (fun u H' => u = .bool r0 ∧ H' = []) := by
  unfold law09_up.f at h
  refine Ct.intro (n := 26) Try.func16 rfl rfl rfl ?_
  intro R w0 F hF hR
  refine S.seq ?_
  refine S.region ?_
  refine SO.v rfl (opv_assign rfl) ?_
  refine SO.nil ?_
  refine S.seq ?_
  refine S.region ?_
  obtain ⟨⟨t1, t2⟩, ht3, h⟩ := opt_bind h
  refine SO.call (pre := []) rfl Try.call17 rfl rfl rfl (lay_Slot.ct _ _ _ _ ht3) trivial ?_
  rintro _ _ ⟨rfl, rfl⟩
  refine SO.v rfl (opv_move rfl) ?_
  refine SO.v rfl (opv_extract rfl rfl) ?_
  refine SO.v rfl (opv_extract rfl rfl) ?_
  refine SO.v rfl (opv_assign rfl) ?_
  refine SO.v rfl (opv_assign rfl) ?_
  refine SO.nil ?_
  refine S.seq ?_
  refine S.region ?_
  obtain ⟨⟨t4, t5⟩, ht6, h⟩ := opt_bind h
  refine SO.call (pre := []) rfl Try.call18 rfl rfl rfl (lay_Obj.ct _ _ _ _ ht6) trivial ?_
  rintro _ _ ⟨rfl, rfl⟩
  refine SO.v rfl (opv_move rfl) ?_
  refine SO.v rfl (opv_extract rfl rfl) ?_
  refine SO.v rfl (opv_extract rfl rfl) ?_
  refine SO.v rfl (opv_assign rfl) ?_
  refine SO.v rfl (opv_assign rfl) ?_
  refine SO.nil ?_
  refine S.to (ρ' := [(0, .bool false), (1, .int .i64 t1), (2, .bool t2), (4, .bool t5)]) ⟨rfl, rfl, rfl, rfl, trivial⟩ ?_
  refine S.seq ?_
  refine S.region ?_
  refine SO.v rfl (opv_move rfl) ?_
  refine SO.v rfl (opv_eql rfl rfl) ?_
  refine SO.v rfl (opv_move rfl) ?_
  refine SO.cut 2 17 (.bool ((t1 == 6) && t2)) [F] (fun l2 hk2 => ?_) ?_
  · rcases bool_or (t1 == 6) with b7 | b7
    · refine SO.takeT rfl rfl rfl b7 ?_
      refine SO.v rfl (opv_move rfl) ?_
      refine SO.v rfl (opv_pick_t' b7 rfl rfl) ?_
      exact hk2.fitc (m := 2) rfl (and_t b7) rfl
    · refine SO.passF rfl rfl rfl b7 rfl rfl ?_
      refine SO.v rfl (opv_pick_f' b7 rfl rfl) ?_
      exact hk2.fitc (m := 2) rfl (and_f b7) rfl
  refine SO.v rfl (opv_move rfl) ?_
  refine SO.cut 3 21 (.bool (((t1 == 6) && t2) && (!t5))) [F] (fun l2 hk2 => ?_) ?_
  · rcases bool_or ((t1 == 6) && t2) with b8 | b8
    · refine SO.takeT rfl rfl rfl b8 ?_
      refine SO.v rfl (opv_move rfl) ?_
      refine SO.takeT rfl rfl rfl b8 ?_
      refine SO.v rfl (opv_not rfl) ?_
      refine SO.v rfl (opv_pick_t' b8 rfl rfl) ?_
      exact hk2.fitc (m := 3) rfl (and_t b8) rfl
    · refine SO.passF rfl rfl rfl b8 rfl rfl ?_
      refine SO.passF rfl rfl rfl b8 rfl rfl ?_
      refine SO.v rfl (opv_pick_f' b8 rfl rfl) ?_
      exact hk2.fitc (m := 3) rfl (and_f b8) rfl
  refine SO.v rfl (opv_move rfl) ?_
  obtain ⟨c10, hc11, hk1⟩ := opt_bind h
  refine SO.cut 3 25 (.bool c10) [F] (fun l2 hk2 => ?_) ?_
  · clear hk1
    replace h := hc11
    rcases bool_or (((t1 == 6) && t2) && (!t5)) with b9 | b9
    · replace h := cond_t b9 h
      refine SO.takeT rfl rfl rfl b9 ?_
      obtain ⟨t12, ht13, h⟩ := opt_bind h
      refine SO.call (pre := []) rfl Try.call58 rfl rfl rfl (lay_Size.ct _ ht13) trivial ?_
      rintro _ _ ⟨rfl, rfl⟩
      refine SO.takeT rfl rfl rfl b9 ?_
      refine SO.v rfl (opv_eql rfl rfl) ?_
      cases h
      refine SO.v rfl (opv_pick_t' b9 rfl rfl) ?_
      exact hk2.fitc (m := 3) rfl (rfl) rfl
    · replace h := cond_f b9 h
      refine SO.passF rfl rfl rfl b9 rfl rfl ?_
      refine SO.passF rfl rfl rfl b9 rfl rfl ?_
      cases h
      refine SO.v rfl (opv_pick_f' b9 rfl rfl) ?_
      exact hk2.fitc (m := 3) rfl (rfl) rfl
  clear hc11
  replace h := hk1
  refine SO.v rfl (opv_assign rfl) ?_
  refine SO.nil ?_
  refine S.to (ρ' := [(0, .bool c10)]) ⟨rfl, trivial⟩ ?_
  cases h
  exact S.ret1 Try.func16 rfl rfl (fun w hs hk => hR w _ _ ⟨rfl, rfl⟩ hs hk)
end Go.Proofs
namespace Go.Proofs
open Go.Sl Go.RowKit
/-! 3 padstone/padstonelaw09.LayTells -/
def law09_LayTells.f (a0 : Int) (a1 : Int) : Option (Bool) :=
  (law09_up.f ).bind fun t1 => (lay_Slot.f a0 a1).bind fun (t3, t4) => (lay_Obj.f a0 a1).bind fun (t6, t7) => bif (((t4 != ((((decide (0 ≤ a0)) && (decide (a0 < 96))) && (decide (0 ≤ a1))) && (decide (a1 < 5)))) || (t7 != ((((decide (0 ≤ a0)) && (decide (a0 < 32))) && (decide (0 ≤ a1))) && (decide (a1 < 8))))) || ((!((((decide (0 ≤ a0)) && (decide (a0 < 96))) && (decide (0 ≤ a1))) && (decide (a1 < 5)))) && (t3 != 0))) || ((!((((decide (0 ≤ a0)) && (decide (a0 < 32))) && (decide (0 ≤ a1))) && (decide (a1 < 8)))) && (t6 != 0)) then (some false) else (bif (((((decide (0 ≤ a0)) && (decide (a0 < 96))) && (decide (0 ≤ a1))) && (decide (a1 < 5))) && (t3 != (w64 ((w64 (5 * a0)) + a1)))) || (((((decide (0 ≤ a0)) && (decide (a0 < 32))) && (decide (0 ≤ a1))) && (decide (a1 < 8))) && (t6 != (w64 ((w64 (480 + (w64 (8 * a0)))) + a1)))) then (some false) else (some t1))
set_option maxHeartbeats 8000000 in
set_option maxRecDepth 100000 in
theorem law09_LayTells.ct (a0 : Int) (a1 : Int) (r0 : Bool) (h : law09_LayTells.f a0 a1 = some r0) :
    Ct Try.prog 3 [.int .i64 a0, .int .i64 a1] (fun _ => True) [] (fun u H' => u = .bool r0 ∧ H' = []) := by
  unfold law09_LayTells.f at h
  refine Ct.intro (n := 99) Try.func3 rfl rfl rfl ?_
  intro R w0 F hF hR
  refine S.seq ?_
  refine S.region ?_
  refine SO.v rfl (opv_assign rfl) ?_
  refine SO.nil ?_
  refine S.seq ?_
  refine S.region ?_
  obtain ⟨t1, ht2, h⟩ := opt_bind h
  refine SO.call (pre := []) rfl Try.call16 rfl rfl rfl (law09_up.ct _ ht2) trivial ?_
  rintro _ _ ⟨rfl, rfl⟩
  refine SO.v rfl (opv_assign rfl) ?_
  refine SO.nil ?_
  refine S.seq ?_
  refine S.region ?_
  refine SO.v rfl (opv_move rfl) ?_
  refine SO.v rfl (opv_move rfl) ?_
  obtain ⟨⟨t3, t4⟩, ht5, h⟩ := opt_bind h
  refine SO.call (pre := []) rfl Try.call17 rfl rfl rfl (lay_Slot.ct _ _ _ _ ht5) trivial ?_
  rintro _ _ ⟨rfl, rfl⟩
  refine SO.v rfl (opv_move rfl) ?_
  refine SO.v rfl (opv_extract rfl rfl) ?_
  refine SO.v rfl (opv_extract rfl rfl) ?_
  refine SO.v rfl (opv_assign rfl) ?_
  refine SO.v rfl (opv_assign rfl) ?_
  refine SO.nil ?_
  refine S.to (ρ' := [(0, .int .i64 a0), (1, .int .i64 a1), (4, .bool false), (5, .bool t1), (6, .int .i64 t3), (7, .bool t4)]) ⟨rfl, rfl, rfl, rfl, rfl, rfl, trivial⟩ ?_
  refine S.seq ?_
  refine S.region ?_
  refine SO.v rfl (opv_move rfl) ?_
  refine SO.v rfl (opv_move rfl) ?_
  obtain ⟨⟨t6, t7⟩, ht8, h⟩ := opt_bind h
  refine SO.call (pre := []) rfl Try.call18 rfl rfl rfl (lay_Obj.ct _ _ _ _ ht8) trivial ?_
  rintro _ _ ⟨rfl, rfl⟩
  refine SO.v rfl (opv_move rfl) ?_
  refine SO.v rfl (opv_extract rfl rfl) ?_
  refine SO.v rfl (opv_extract rfl rfl) ?_
  refine SO.v rfl (opv_assign rfl) ?_
  refine SO.v rfl (opv_assign rfl) ?_
  refine SO.nil ?_
  refine S.seq ?_
  refine S.region ?_
  refine SO.v rfl (opv_move rfl) ?_
  refine SO.v rfl (opv_geq rfl rfl) ?_
  refine SO.v rfl (opv_move rfl) ?_
  refine SO.cut 3 30 (.bool ((decide (0 ≤ a0)) && (decide (a0 < 96)))) [F] (fun l2 hk2 => ?_) ?_
  · rcases bool_or (decide (0 ≤ a0)) with b9 | b9
    · refine SO.takeT rfl rfl rfl b9 ?_
      refine SO.v rfl (opv_move rfl) ?_
      refine SO.takeT rfl rfl rfl b9 ?_
      refine SO.v rfl (opv_lss rfl rfl) ?_
      refine SO.v rfl (opv_pick_t' b9 rfl rfl) ?_
      exact hk2.fitc (m := 3) rfl (and_t b9) rfl
    · refine SO.passF rfl rfl rfl b9 rfl rfl ?_
      refine SO.passF rfl rfl rfl b9 rfl rfl ?_
      refine SO.v rfl (opv_pick_f' b9 rfl rfl) ?_
      exact hk2.fitc (m := 3) rfl (and_f b9) rfl
  refine SO.v rfl (opv_move rfl) ?_
  refine SO.cut 3 34 (.bool (((decide (0 ≤ a0)) && (decide (a0 < 96))) && (decide (0 ≤ a1)))) [F] (fun l2 hk2 => ?_) ?_
  · rcases bool_or ((decide (0 ≤ a0)) && (decide (a0 < 96))) with b10 | b10
    · refine SO.takeT rfl rfl rfl b10 ?_
      refine SO.v rfl (opv_move rfl) ?_
      refine SO.takeT rfl rfl rfl b10 ?_
      refine SO.v rfl (opv_geq rfl rfl) ?_
      refine SO.v rfl (opv_pick_t' b10 rfl rfl) ?_
      exact hk2.fitc (m := 3) rfl (and_t b10) rfl
    · refine SO.passF rfl rfl rfl b10 rfl rfl ?_
      refine SO.passF rfl rfl rfl b10 rfl rfl ?_
      refine SO.v rfl (opv_pick_f' b10 rfl rfl) ?_
      exact hk2.fitc (m := 3) rfl (and_f b10) rfl
  refine SO.v rfl (opv_move rfl) ?_
  refine SO.cut 3 38 (.bool ((((decide (0 ≤ a0)) && (decide (a0 < 96))) && (decide (0 ≤ a1))) && (decide (a1 < 5)))) [F] (fun l2 hk2 => ?_) ?_
  · rcases bool_or (((decide (0 ≤ a0)) && (decide (a0 < 96))) && (decide (0 ≤ a1))) with b11 | b11
    · refine SO.takeT rfl rfl rfl b11 ?_
      refine SO.v rfl (opv_move rfl) ?_
      refine SO.takeT rfl rfl rfl b11 ?_
      refine SO.v rfl (opv_lss rfl rfl) ?_
      refine SO.v rfl (opv_pick_t' b11 rfl rfl) ?_
      exact hk2.fitc (m := 3) rfl (and_t b11) rfl
    · refine SO.passF rfl rfl rfl b11 rfl rfl ?_
      refine SO.passF rfl rfl rfl b11 rfl rfl ?_
      refine SO.v rfl (opv_pick_f' b11 rfl rfl) ?_
      exact hk2.fitc (m := 3) rfl (and_f b11) rfl
  refine SO.v rfl (opv_assign rfl) ?_
  refine SO.nil ?_
  refine S.to (ρ' := [(0, .int .i64 a0), (1, .int .i64 a1), (4, .bool false), (5, .bool t1), (6, .int .i64 t3), (7, .bool t4), (8, .int .i64 t6), (9, .bool t7), (10, .bool ((((decide (0 ≤ a0)) && (decide (a0 < 96))) && (decide (0 ≤ a1))) && (decide (a1 < 5))))]) ⟨rfl, rfl, rfl, rfl, rfl, rfl, rfl, rfl, rfl, trivial⟩ ?_
  refine S.seq ?_
  refine S.region ?_
  refine SO.v rfl (opv_move rfl) ?_
  refine SO.v rfl (opv_geq rfl rfl) ?_
  refine SO.v rfl (opv_move rfl) ?_
  refine SO.cut 3 44 (.bool ((decide (0 ≤ a0)) && (decide (a0 < 32)))) [F] (fun l2 hk2 => ?_) ?_
  · rcases bool_or (decide (0 ≤ a0)) with b12 | b12
    · refine SO.takeT rfl rfl rfl b12 ?_
      refine SO.v rfl (opv_move rfl) ?_
      refine SO.takeT rfl rfl rfl b12 ?_
      refine SO.v rfl (opv_lss rfl rfl) ?_
      refine SO.v rfl (opv_pick_t' b12 rfl rfl) ?_
      exact hk2.fitc (m := 3) rfl (and_t b12) rfl
    · refine SO.passF rfl rfl rfl b12 rfl rfl ?_
      refine SO.passF rfl rfl rfl b12 rfl rfl ?_
      refine SO.v rfl (opv_pick_f' b12 rfl rfl) ?_
      exact hk2.fitc (m := 3) rfl (and_f b12) rfl
  refine SO.v rfl (opv_move rfl) ?_
  refine SO.cut 3 48 (.bool (((decide (0 ≤ a0)) && (decide (a0 < 32))) && (decide (0 ≤ a1)))) [F] (fun l2 hk2 => ?_) ?_
  · rcases bool_or ((decide (0 ≤ a0)) && (decide (a0 < 32))) with b13 | b13
    · refine SO.takeT rfl rfl rfl b13 ?_
      refine SO.v rfl (opv_move rfl) ?_
      refine SO.takeT rfl rfl rfl b13 ?_
      refine SO.v rfl (opv_geq rfl rfl) ?_
      refine SO.v rfl (opv_pick_t' b13 rfl rfl) ?_
      exact hk2.fitc (m := 3) rfl (and_t b13) rfl
    · refine SO.passF rfl rfl rfl b13 rfl rfl ?_
      refine SO.passF rfl rfl rfl b13 rfl rfl ?_
      refine SO.v rfl (opv_pick_f' b13 rfl rfl) ?_
      exact hk2.fitc (m := 3) rfl (and_f b13) rfl
  refine SO.v rfl (opv_move rfl) ?_
  refine SO.cut 3 52 (.bool ((((decide (0 ≤ a0)) && (decide (a0 < 32))) && (decide (0 ≤ a1))) && (decide (a1 < 8)))) [F] (fun l2 hk2 => ?_) ?_
  · rcases bool_or (((decide (0 ≤ a0)) && (decide (a0 < 32))) && (decide (0 ≤ a1))) with b14 | b14
    · refine SO.takeT rfl rfl rfl b14 ?_
      refine SO.v rfl (opv_move rfl) ?_
      refine SO.takeT rfl rfl rfl b14 ?_
      refine SO.v rfl (opv_lss rfl rfl) ?_
      refine SO.v rfl (opv_pick_t' b14 rfl rfl) ?_
      exact hk2.fitc (m := 3) rfl (and_t b14) rfl
    · refine SO.passF rfl rfl rfl b14 rfl rfl ?_
      refine SO.passF rfl rfl rfl b14 rfl rfl ?_
      refine SO.v rfl (opv_pick_f' b14 rfl rfl) ?_
      exact hk2.fitc (m := 3) rfl (and_f b14) rfl
  refine SO.v rfl (opv_assign rfl) ?_
  refine SO.nil ?_
  refine S.to (ρ' := [(0, .int .i64 a0), (1, .int .i64 a1), (4, .bool false), (5, .bool t1), (6, .int .i64 t3), (7, .bool t4), (8, .int .i64 t6), (9, .bool t7), (10, .bool ((((decide (0 ≤ a0)) && (decide (a0 < 96))) && (decide (0 ≤ a1))) && (decide (a1 < 5)))), (11, .bool ((((decide (0 ≤ a0)) && (decide (a0 < 32))) && (decide (0 ≤ a1))) && (decide (a1 < 8))))]) ⟨rfl, rfl, rfl, rfl, rfl, rfl, rfl, rfl, rfl, rfl, trivial⟩ ?_
  refine S.seq ?_
  refine S.seq ?_
  refine S.region ?_
  refine SO.v rfl (opv_move rfl) ?_
  refine SO.v rfl (opv_move rfl) ?_
  refine SO.v rfl (opv_neqB Try.underlying4 rfl rfl) ?_
  refine SO.v rfl (opv_move rfl) ?_
  refine SO.cut 4 60 (.bool ((t4 != ((((decide (0 ≤ a0)) && (decide (a0 < 96))) && (decide (0 ≤ a1))) && (decide (a1 < 5)))) || (t7 != ((((decide (0 ≤ a0)) && (decide (a0 < 32))) && (decide (0 ≤ a1))) && (decide (a1 < 8)))))) [F] (fun l2 hk2 => ?_) ?_
  · rcases bool_or (t4 != ((((decide (0 ≤ a0)) && (decide (a0 < 96))) && (decide (0 ≤ a1))) && (decide (a1 < 5)))) with b15 | b15
    · refine SO.passF rfl rfl rfl b15 rfl rfl ?_
      refine SO.passF rfl rfl rfl b15 rfl rfl ?_
      refine SO.passF rfl rfl rfl b15 rfl rfl ?_
      refine SO.v rfl (opv_pick_t' b15 rfl rfl) ?_
      exact hk2.fitc (m := 4) rfl (or_t b15) rfl
    · refine SO.takeT rfl rfl rfl b15 ?_
      refine SO.v rfl (opv_move rfl) ?_
      refine SO.takeT rfl rfl rfl b15 ?_
      refine SO.v rfl (opv_move rfl) ?_
      refine SO.takeT rfl rfl rfl b15 ?_
      refine SO.v rfl (opv_neqB Try.underlying4 rfl rfl) ?_
      refine SO.v rfl (opv_pick_f' b15 rfl rfl) ?_
      exact hk2.fitc (m := 4) rfl (or_f b15) rfl
  refine SO.v rfl (opv_move rfl) ?_
  refine SO.cut 7 68 (.bool (((t4 != ((((decide (0 ≤ a0)) && (decide (a0 < 96))) && (decide (0 ≤ a1))) && (decide (a1 < 5)))) || (t7 != ((((decide (0 ≤ a0)) && (decide (a0 < 32))) && (decide (0 ≤ a1))) && (decide (a1 < 8))))) || ((!((((decide (0 ≤ a0)) && (decide (a0 < 96))) && (decide (0 ≤ a1))) && (decide (a1 < 5)))) && (t3 != 0)))) [F] (fun l2 hk2 => ?_) ?_
  · rcases bool_or ((t4 != ((((decide (0 ≤ a0)) && (decide (a0 < 96))) && (decide (0 ≤ a1))) && (decide (a1 < 5)))) || (t7 != ((((decide (0 ≤ a0)) && (decide (a0 < 32))) && (decide (0 ≤ a1))) && (decide (a1 < 8))))) with b16 | b16
    · refine SO.passF rfl rfl rfl b16 rfl rfl ?_
      refine SO.passF rfl rfl rfl b16 rfl rfl ?_
      refine SO.passF rfl rfl rfl b16 rfl rfl ?_
      refine SO.pass_undef rfl rfl rfl rfl ?_
      refine SO.pass_undef rfl rfl rfl rfl ?_
      refine SO.passF rfl rfl rfl b16 rfl rfl ?_
      refine SO.v rfl (opv_pick_t' b16 rfl rfl) ?_
      exact hk2.fitc (m := 7) rfl (or_t b16) rfl
    · refine SO.takeT rfl rfl rfl b16 ?_
      refine SO.v rfl (opv_move rfl) ?_
      refine SO.takeT rfl rfl rfl b16 ?_
      refine SO.v rfl (opv_not rfl) ?_
      refine SO.takeT rfl rfl rfl b16 ?_
      refine SO.v rfl (opv_move rfl) ?_
      refine SO.cut 3 67 (.bool ((!((((decide (0 ≤ a0)) && (decide (a0 < 96))) && (decide (0 ≤ a1))) && (decide (a1 < 5)))) && (t3 != 0))) [F] (fun l2 hk2 => ?_) ?_
      · rcases bool_or (!((((decide (0 ≤ a0)) && (decide (a0 < 96))) && (decide (0 ≤ a1))) && (decide (a1 < 5)))) with b17 | b17
        · refine SO.takeT rfl rfl rfl b17 ?_
          refine SO.v rfl (opv_move rfl) ?_
          refine SO.takeT rfl rfl rfl b17 ?_
          refine SO.v rfl (opv_neq rfl rfl) ?_
          refine SO.takeT rfl rfl rfl b16 ?_
          refine SO.v rfl (opv_pick_t' b17 rfl rfl) ?_
          exact hk2.fitc (m := 3) rfl (and_t b17) rfl
        · refine SO.passF rfl rfl rfl b17 rfl rfl ?_
          refine SO.passF rfl rfl rfl b17 rfl rfl ?_
          refine SO.takeT rfl rfl rfl b16 ?_
          refine SO.v rfl (opv_pick_f' b17 rfl rfl) ?_
          exact hk2.fitc (m := 3) rfl (and_f b17) rfl
      refine SO.v rfl (opv_pick_f' b16 rfl rfl) ?_
      exact hk2.fitc (m := 5) rfl (or_f b16) rfl
  refine SO.v rfl (opv_move rfl) ?_
  refine SO.cut 7 76 (.bool ((((t4 != ((((decide (0 ≤ a0)) && (decide (a0 < 96))) && (decide (0 ≤ a1))) && (decide (a1 < 5)))) || (t7 != ((((decide (0 ≤ a0)) && (decide (a0 < 32))) && (decide (0 ≤ a1))) && (decide (a1 < 8))))) || ((!((((decide (0 ≤ a0)) && (decide (a0 < 96))) && (decide (0 ≤ a1))) && (decide (a1 < 5)))) && (t3 != 0))) || ((!((((decide (0 ≤ a0)) && (decide (a0 < 32))) && (decide (0 ≤ a1))) && (decide (a1 < 8)))) && (t6 != 0)))) [F] (fun l2 hk2 => ?_) ?_
  · rcases bool_or (((t4 != ((((decide (0 ≤ a0)) && (decide (a0 < 96))) && (decide (0 ≤ a1))) && (decide (a1 < 5)))) || (t7 != ((((decide (0 ≤ a0)) && (decide (a0 < 32))) && (decide (0 ≤ a1))) && (decide (a1 < 8))))) || ((!((((decide (0 ≤ a0)) && (decide (a0 < 96))) && (decide (0 ≤ a1))) && (decide (a1 < 5)))) && (t3 != 0))) with b18 | b18
    · refine SO.passF rfl rfl rfl b18 rfl rfl ?_
      refine SO.passF rfl rfl rfl b18 rfl rfl ?_
      refine SO.passF rfl rfl rfl b18 rfl rfl ?_
      refine SO.pass_undef rfl rfl rfl rfl ?_
      refine SO.pass_undef rfl rfl rfl rfl ?_
      refine SO.passF rfl rfl rfl b18 rfl rfl ?_
      refine SO.v rfl (opv_pick_t' b18 rfl rfl) ?_
      exact hk2.fitc (m := 7) rfl (or_t b18) rfl
    · refine SO.takeT rfl rfl rfl b18 ?_
      refine SO.v rfl (opv_move rfl) ?_
      refine SO.takeT rfl rfl rfl b18 ?_
      refine SO.v rfl (opv_not rfl) ?_
      refine SO.takeT rfl rfl rfl b18 ?_
      refine SO.v rfl (opv_move rfl) ?_
      refine SO.cut 3 75 (.bool ((!((((decide (0 ≤ a0)) && (decide (a0 < 32))) && (decide (0 ≤ a1))) && (decide (a1 < 8)))) && (t6 != 0))) [F] (fun l2 hk2 => ?_) ?_
      · rcases bool_or (!((((decide (0 ≤ a0)) && (decide (a0 < 32))) && (decide (0 ≤ a1))) && (decide (a1 < 8)))) with b19 | b19
        · refine SO.takeT rfl rfl rfl b19 ?_
          refine SO.v rfl (opv_move rfl) ?_
          refine SO.takeT rfl rfl rfl b19 ?_
          refine SO.v rfl (opv_neq rfl rfl) ?_
          refine SO.takeT rfl rfl rfl b18 ?_
          refine SO.v rfl (opv_pick_t' b19 rfl rfl) ?_
          exact hk2.fitc (m := 3) rfl (and_t b19) rfl
        · refine SO.passF rfl rfl rfl b19 rfl rfl ?_
          refine SO.passF rfl rfl rfl b19 rfl rfl ?_
          refine SO.takeT rfl rfl rfl b18 ?_
          refine SO.v rfl (opv_pick_f' b19 rfl rfl) ?_
          exact hk2.fitc (m := 3) rfl (and_f b19) rfl
      refine SO.v rfl (opv_pick_f' b18 rfl rfl) ?_
      exact hk2.fitc (m := 5) rfl (or_f b18) rfl
  refine SO.nil ?_
  refine S.to (ρ' := [(0, .int .i64 a0), (1, .int .i64 a1), (4, .bool false), (5, .bool t1), (6, .int .i64 t3), (8, .int .i64 t6), (10, .bool ((((decide (0 ≤ a0)) && (decide (a0 < 96))) && (decide (0 ≤ a1))) && (decide (a1 < 5)))), (11, .bool ((((decide (0 ≤ a0)) && (decide (a0 < 32))) && (decide (0 ≤ a1))) && (decide (a1 < 8)))), (76, .bool ((((t4 != ((((decide (0 ≤ a0)) && (decide (a0 < 96))) && (decide (0 ≤ a1))) && (decide (a1 < 5)))) || (t7 != ((((decide (0 ≤ a0)) && (decide (a0 < 32))) && (decide (0 ≤ a1))) && (decide (a1 < 8))))) || ((!((((decide (0 ≤ a0)) && (decide (a0 < 96))) && (decide (0 ≤ a1))) && (decide (a1 < 5)))) && (t3 != 0))) || ((!((((decide (0 ≤ a0)) && (decide (a0 < 32))) && (decide (0 ≤ a1))) && (decide (a1 < 8)))) && (t6 != 0))))]) ⟨rfl, rfl, rfl, rfl, rfl, rfl, rfl, rfl, rfl, trivial⟩ ?_
  rcases bool_or ((((t4 != ((((decide (0 ≤ a0)) && (decide (a0 < 96))) && (decide (0 ≤ a1))) && (decide (a1 < 5)))) || (t7 != ((((decide (0 ≤ a0)) && (decide (a0 < 32))) && (decide (0 ≤ a1))) && (decide (a1 < 8))))) || ((!((((decide (0 ≤ a0)) && (decide (a0 < 96))) && (decide (0 ≤ a1))) && (decide (a1 < 5)))) && (t3 != 0))) || ((!((((decide (0 ≤ a0)) && (decide (a0 < 32))) && (decide (0 ≤ a1))) && (decide (a1 < 8)))) && (t6 != 0))) with b20 | b20
  · replace h := cond_t b20 h
    refine S.condT rfl b20 ?_
    refine S.seq ?_
    refine S.region ?_
    refine SO.v rfl (opv_assign rfl) ?_
    refine SO.nil ?_
    cases h
    exact S.ret1 Try.func3 rfl rfl (fun w hs hk => hR w _ _ ⟨rfl, rfl⟩ hs hk)
  · replace h := cond_f b20 h
    refine S.condF rfl b20 ?_
    refine S.skip ?_
    refine S.seq ?_
    refine S.seq ?_
    refine S.region ?_
    refine SO.v rfl (opv_move rfl) ?_
    refine SO.v rfl (opv_move rfl) ?_
    refine SO.cut 7 85 (.bool (((((decide (0 ≤ a0)) && (decide (a0 < 96))) && (decide (0 ≤ a1))) && (decide (a1 < 5))) && (t3 != (w64 ((w64 (5 * a0)) + a1))))) [F] (fun l2 hk2 => ?_) ?_
    · rcases bool_or ((((decide (0 ≤ a0)) && (decide (a0 < 96))) && (decide (0 ≤ a1))) && (decide (a1 < 5))) with b21 | b21
      · refine SO.takeT rfl rfl rfl b21 ?_
        refine SO.v rfl (opv_move rfl) ?_
        refine SO.takeT rfl rfl rfl b21 ?_
        refine SO.v rfl (opv_move rfl) ?_
        refine SO.takeT rfl rfl rfl b21 ?_
        refine SO.v rfl (opv_mul rfl rfl) ?_
        refine SO.takeT rfl rfl rfl b21 ?_
        refine SO.v rfl (opv_move rfl) ?_
        refine SO.takeT rfl rfl rfl b21 ?_
        refine SO.v rfl (opv_add rfl rfl) ?_
        refine SO.takeT rfl rfl rfl b21 ?_
        refine SO.v rfl (opv_neq rfl rfl) ?_
        refine SO.v rfl (opv_pick_t' b21 rfl rfl) ?_
        exact hk2.fitc (m := 7) rfl (and_t b21) rfl
      · refine SO.passF rfl rfl rfl b21 rfl rfl ?_
        refine SO.passF rfl rfl rfl b21 rfl rfl ?_
        refine SO.passF rfl rfl rfl b21 rfl rfl ?_
        refine SO.passF rfl rfl rfl b21 rfl rfl ?_
        refine SO.passF rfl rfl rfl b21 rfl rfl ?_
        refine SO.passF rfl rfl rfl b21 rfl rfl ?_
        refine SO.v rfl (opv_pick_f' b21 rfl rfl) ?_
        exact hk2.fitc (m := 7) rfl (and_f b21) rfl
    refine SO.v rfl (opv_move rfl) ?_
    refine SO.cut 11 97 (.bool ((((((decide (0 ≤ a0)) && (decide (a0 < 96))) && (decide (0 ≤ a1))) && (decide (a1 < 5))) && (t3 != (w64 ((w64 (5 * a0)) + a1)))) || (((((decide (0 ≤ a0)) && (decide (a0 < 32))) && (decide (0 ≤ a1))) && (decide (a1 < 8))) && (t6 != (w64 ((w64 (480 + (w64 (8 * a0)))) + a1)))))) [F] (fun l2 hk2 => ?_) ?_
    · rcases bool_or (((((decide (0 ≤ a0)) && (decide (a0 < 96))) && (decide (0 ≤ a1))) && (decide (a1 < 5))) && (t3 != (w64 ((w64 (5 * a0)) + a1)))) with b22 | b22
      · refine SO.passF rfl rfl rfl b22 rfl rfl ?_
        refine SO.passF rfl rfl rfl b22 rfl rfl ?_
        refine SO.pass_undef rfl rfl rfl rfl ?_
        refine SO.pass_undef rfl rfl rfl rfl ?_
        refine SO.pass_undef rfl rfl rfl rfl ?_
        refine SO.pass_undef rfl rfl rfl rfl ?_
        refine SO.pass_undef rfl rfl rfl rfl ?_
        refine SO.pass_undef rfl rfl rfl rfl ?_
        refine SO.pass_undef rfl rfl rfl rfl ?_
        refine SO.passF rfl rfl rfl b22 rfl rfl ?_
        refine SO.v rfl (opv_pick_t' b22 rfl rfl) ?_
        exact hk2.fitc (m := 11) rfl (or_t b22) rfl
      · refine SO.takeT rfl rfl rfl b22 ?_
        refine SO.v rfl (opv_move rfl) ?_
        refine SO.takeT rfl rfl rfl b22 ?_
        refine SO.v rfl (opv_move rfl) ?_
        refine SO.cut 8 96 (.bool (((((decide (0 ≤ a0)) && (decide (a0 < 32))) && (decide (0 ≤ a1))) && (decide (a1 < 8))) && (t6 != (w64 ((w64 (480 + (w64 (8 * a0)))) + a1))))) [F] (fun l2 hk2 => ?_) ?_
        · rcases bool_or ((((decide (0 ≤ a0)) && (decide (a0 < 32))) && (decide (0 ≤ a1))) && (decide (a1 < 8))) with b23 | b23
          · refine SO.takeT rfl rfl rfl b23 ?_
            refine SO.v rfl (opv_move rfl) ?_
            refine SO.takeT rfl rfl rfl b23 ?_
            refine SO.v rfl (opv_move rfl) ?_
            refine SO.takeT rfl rfl rfl b23 ?_
            refine SO.v rfl (opv_mul rfl rfl) ?_
            refine SO.takeT rfl rfl rfl b23 ?_
            refine SO.v rfl (opv_add rfl rfl) ?_
            refine SO.takeT rfl rfl rfl b23 ?_
            refine SO.v rfl (opv_move rfl) ?_
            refine SO.takeT rfl rfl rfl b23 ?_
            refine SO.v rfl (opv_add rfl rfl) ?_
            refine SO.takeT rfl rfl rfl b23 ?_
            refine SO.v rfl (opv_neq rfl rfl) ?_
            refine SO.takeT rfl rfl rfl b22 ?_
            refine SO.v rfl (opv_pick_t' b23 rfl rfl) ?_
            exact hk2.fitc (m := 8) rfl (and_t b23) rfl
          · refine SO.passF rfl rfl rfl b23 rfl rfl ?_
            refine SO.passF rfl rfl rfl b23 rfl rfl ?_
            refine SO.passF rfl rfl rfl b23 rfl rfl ?_
            refine SO.passF rfl rfl rfl b23 rfl rfl ?_
            refine SO.passF rfl rfl rfl b23 rfl rfl ?_
            refine SO.passF rfl rfl rfl b23 rfl rfl ?_
            refine SO.passF rfl rfl rfl b23 rfl rfl ?_
            refine SO.takeT rfl rfl rfl b22 ?_
            refine SO.v rfl (opv_pick_f' b23 rfl rfl) ?_
            exact hk2.fitc (m := 8) rfl (and_f b23) rfl
        refine SO.v rfl (opv_pick_f' b22 rfl rfl) ?_
        exact hk2.fitc (m := 4) rfl (or_f b22) rfl
    refine SO.nil ?_
    refine S.to (ρ' := [(4, .bool false), (5, .bool t1), (97, .bool ((((((decide (0 ≤ a0)) && (decide (a0 < 96))) && (decide (0 ≤ a1))) && (decide (a1 < 5))) && (t3 != (w64 ((w64 (5 * a0)) + a1)))) || (((((decide (0 ≤ a0)) && (decide (a0 < 32))) && (decide (0 ≤ a1))) && (decide (a1 < 8))) && (t6 != (w64 ((w64 (480 + (w64 (8 * a0)))) + a1))))))]) ⟨rfl, rfl, rfl, trivial⟩ ?_
    rcases bool_or ((((((decide (0 ≤ a0)) && (decide (a0 < 96))) && (decide (0 ≤ a1))) && (decide (a1 < 5))) && (t3 != (w64 ((w64 (5 * a0)) + a1)))) || (((((decide (0 ≤ a0)) && (decide (a0 < 32))) && (decide (0 ≤ a1))) && (decide (a1 < 8))) && (t6 != (w64 ((w64 (480 + (w64 (8 * a0)))) + a1))))) with b24 | b24
    · replace h := cond_t b24 h
      refine S.condT rfl b24 ?_
      refine S.seq ?_
      refine S.region ?_
      refine SO.v rfl (opv_assign rfl) ?_
      refine SO.nil ?_
      cases h
      exact S.ret1 Try.func3 rfl rfl (fun w hs hk => hR w _ _ ⟨rfl, rfl⟩ hs hk)
    · replace h := cond_f b24 h
      refine S.condF rfl b24 ?_
      refine S.skip ?_
      refine S.seq ?_
      refine S.region ?_
      refine SO.v rfl (opv_move rfl) ?_
      refine SO.v rfl (opv_assign rfl) ?_
      refine SO.nil ?_
      cases h
      exact S.ret1 Try.func3 rfl rfl (fun w hs hk => hR w _ _ ⟨rfl, rfl⟩ hs hk)
end Go.Proofs
