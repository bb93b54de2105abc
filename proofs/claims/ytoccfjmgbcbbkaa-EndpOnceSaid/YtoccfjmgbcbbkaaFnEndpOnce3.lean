/- What the functions that EndpOnce reaches come to, and that they do. On no condition. -/
import Derived.Test.YtoccfjmgbcbbkaaFnEndpOnce0
import Derived.Test.YtoccfjmgbcbbkaaFnEndpOnce2
set_option linter.all false
namespace Go.Proofs
open Go.Sl Go.RowKit
/-! 50 padstone/lay.Is -/
def lay_Is.f (a1 : Int) (a2 : Int) : VM (Bool) :=
  (VM.opt (lay_Obj.f a1 0)).bind fun (t1, t2) => (bif t2 && (decide (0 ≤ a2)) then (VM.rd t1 fun t8 => VM.ret (t8 == (wu64 a2))) else (VM.ret false)).bind fun c6 => VM.ret c6
set_option maxHeartbeats 8000000 in
set_option maxRecDepth 100000 in
theorem lay_Is.ct (V : VW Try.prog) (a1 : Int) (a2 : Int) (r0 : Bool) (s s' : V.S) (h : VM.run V.toVI (lay_Is.f a1 a2) s = some (r0, s')) :
    Ct Try.prog 50 [V.val, .int .i64 a1, .int .i64 a2] (fun _ => True) [V.rep s] (fun u H' => u = .bool r0 ∧ H' = [V.rep s']) := by
  unfold lay_Is.f at h
  refine Ct.intro (n := 27) Try.func50 rfl rfl rfl ?_
  intro R w0 F hF hR
  refine S.seq ?_
  refine S.region ?_
  refine SO.v rfl (opv_assign rfl) ?_
  refine SO.nil ?_
  refine S.seq ?_
  refine S.region ?_
  refine SO.v rfl (opv_move rfl) ?_
  obtain ⟨⟨t1, t2⟩, ht3, h⟩ := VM.opt_some V.toVI h
  refine SO.call (pre := []) rfl Try.call65 rfl rfl rfl (lay_Obj.ct _ _ _ _ ht3) trivial ?_
  rintro _ _ ⟨rfl, rfl⟩
  refine SO.v rfl (opv_move rfl) ?_
  refine SO.v rfl (opv_extract rfl rfl) ?_
  refine SO.v rfl (opv_extract rfl rfl) ?_
  refine SO.v rfl (opv_assign rfl) ?_
  refine SO.v rfl (opv_assign rfl) ?_
  refine SO.nil ?_
  refine S.seq ?_
  refine S.region ?_
  refine SO.v rfl (opv_move rfl) ?_
  refine SO.v rfl (opv_move rfl) ?_
  refine SO.cut 3 18 (.bool (t2 && (decide (0 ≤ a2)))) [V.rep s, F] (fun l2 hk2 => ?_) ?_
  · rcases bool_or t2 with b4 | b4
    · refine SO.takeT rfl rfl rfl b4 ?_
      refine SO.v rfl (opv_move rfl) ?_
      refine SO.takeT rfl rfl rfl b4 ?_
      refine SO.v rfl (opv_geq rfl rfl) ?_
      refine SO.v rfl (opv_pick_t' b4 rfl rfl) ?_
      refine SO.b1 ?_
      refine SO.b1 ?_
      exact hk2.fitc (m := 3) rfl (and_t b4) rfl
    · refine SO.passF rfl rfl rfl b4 rfl rfl ?_
      refine SO.passF rfl rfl rfl b4 rfl rfl ?_
      refine SO.v rfl (opv_pick_f' b4 rfl rfl) ?_
      refine SO.b1 ?_
      refine SO.b1 ?_
      exact hk2.fitc (m := 3) rfl (and_f b4) rfl
  refine SO.v rfl (opv_move rfl) ?_
  obtain ⟨c6, s11, hc7, hgk⟩ := VM.bind_some V.toVI h
  refine SO.cut 7 26 (.bool c6) [V.rep s11, F] (fun l2 hk2 => ?_) ?_
  · clear hgk
    replace h := hc7
    rcases bool_or (t2 && (decide (0 ≤ a2))) with b5 | b5
    · replace h := VM.cond_t V.toVI b5 h
      refine SO.takeT rfl rfl rfl b5 ?_
      refine SO.v rfl (opv_move rfl) ?_
      refine SO.takeT rfl rfl rfl b5 ?_
      refine SO.v rfl (opv_move rfl) ?_
      refine SO.takeT rfl rfl rfl b5 ?_
      obtain ⟨t8, s9, hv10, h⟩ := VM.rd_some V.toVI h
      refine SO.vread' V rfl rfl rfl hv10 ?_
      refine SO.takeT rfl rfl rfl b5 ?_
      refine SO.v rfl (opv_move rfl) ?_
      refine SO.takeT rfl rfl rfl b5 ?_
      refine SO.v rfl (opv_conv Try.underlying3 Try.underlying35 rfl) ?_
      refine SO.takeT rfl rfl rfl b5 ?_
      refine SO.v rfl (opv_eql rfl rfl) ?_
      obtain ⟨hq, rfl⟩ := VM.ret_some V.toVI h
      cases hq
      refine SO.v rfl (opv_pick_t' b5 rfl rfl) ?_
      refine SO.b1 ?_
      refine SO.b1 ?_
      exact hk2.fitc (m := 7) rfl (rfl) rfl
    · replace h := VM.cond_f V.toVI b5 h
      refine SO.passF rfl rfl rfl b5 rfl rfl ?_
      refine SO.passF rfl rfl rfl b5 rfl rfl ?_
      refine SO.passF rfl rfl rfl b5 rfl rfl ?_
      refine SO.passF rfl rfl rfl b5 rfl rfl ?_
      refine SO.passF rfl rfl rfl b5 rfl rfl ?_
      refine SO.passF rfl rfl rfl b5 rfl rfl ?_
      obtain ⟨hq, rfl⟩ := VM.ret_some V.toVI h
      cases hq
      refine SO.v rfl (opv_pick_f' b5 rfl rfl) ?_
      refine SO.b1 ?_
      refine SO.b1 ?_
      exact hk2.fitc (m := 7) rfl (rfl) rfl
  clear hc7
  replace h := hgk
  refine SO.v rfl (opv_assign rfl) ?_
  refine SO.nil ?_
  refine S.to (ρ' := [(6, .bool c6)]) ⟨rfl, trivial⟩ ?_
  obtain ⟨hq, rfl⟩ := VM.ret_some V.toVI h
  cases hq
  refine S.b1 ?_
  refine S.b1 ?_
  exact S.ret1 Try.func50 rfl rfl (fun w hs hk => hR w _ _ ⟨rfl, rfl⟩ hs hk)
end Go.Proofs
namespace Go.Proofs
open Go.Sl Go.RowKit
/-! 60 (*padstone/padstoneref10.State).rest -/
def ref10_State_rest.f (a0 : ref10_State) (a1 : Int) : Option (ref10_State) :=
  (at_ a0.Objs a1).bind fun x1 => bif (x1.Queue.length : Int) == 0 then ((at_ a0.Objs a1).bind fun x14 => some ({ a0 with Objs := a0.Objs.set a1.toNat ({ x14 with Wait := 0 } : ref10_Obj) } : ref10_State)) else (some a0)
set_option maxHeartbeats 8000000 in
set_option maxRecDepth 100000 in
theorem ref10_State_rest.ct (bp0 : Nat) (v0_Slots : Value) (v0_Objs : Value) (a0 : ref10_State) (a1 : Int) (rp0 : ref10_State) (h : ref10_State_rest.f a0 a1 = some rp0) :
    Ct Try.prog 60 [bp bp0 0, .int .i64 a1] (fun _ => True) [Box bp0 [v0_Slots, v0_Objs, .int .i64 a0.NS, .int .i64 a0.NO], OwnR 81 kr_ref10_Slot v0_Slots a0.Slots, OwnR 72 kr_ref10_Obj v0_Objs a0.Objs] (fun u H' => ∃ rw0_Slots rw0_Objs, u = .tuple #[] ∧ H' = [Box bp0 [rw0_Slots, rw0_Objs, .int .i64 rp0.NS, .int .i64 rp0.NO], OwnR 81 kr_ref10_Slot rw0_Slots rp0.Slots, OwnR 72 kr_ref10_Obj rw0_Objs rp0.Objs]) := by
  unfold ref10_State_rest.f at h
  refine Ct.intro (n := 21) Try.func60 rfl rfl rfl ?_
  intro R w0 F hF hR
  refine S.seq ?_
  refine S.region ?_
  refine SO.v rfl (opv_move rfl) ?_
  refine SO.v rfl (opv_nilCheck rfl) ?_
  refine SO.v rfl (opv_fieldAddr Try.underlying76 rfl Try.sizeOf74 rfl rfl) ?_
  refine SO.load1 rfl Try.isAgg74 rfl rfl ?_
  refine SO.v rfl (opv_move rfl) ?_
  refine SO.b2 ?_
  refine SO.openR fun raws6 A7 hrel8 hR9 => ?_
  obtain ⟨x1, hx2, h⟩ := opt_bind h
  obtain ⟨r3, hr4, hc5⟩ := relR.at hrel8 hx2
  refine SO.v rfl (opv_idx Try.underlying74 Try.sizeOf72 hR9 rfl rfl hr4) ?_
  refine SO.v rfl (opv_fieldIdx Try.underlying72 rfl Try.sizeOf29 hR9 hr4 rfl rfl) ?_
  obtain ⟨u10, hu11, hru12⟩ := hc5.sl 6 rfl
  refine SO.loadI1 (j := 6) rfl Try.isAgg29 (Rd.head hR9) hr4 rfl rfl rfl hu11 ?_
  refine SO.v rfl (opv_lenR rfl Try.underlying29 hru12 rfl) ?_
  refine SO.v rfl (opv_eql rfl rfl) ?_
  refine SO.nil ?_
  refine S.to (ρ' := [(0, bp bp0 0), (1, .int .i64 a1), (13, .bool ((x1.Queue.length : Int) == 0))]) ⟨rfl, rfl, rfl, trivial⟩ ?_
  rcases bool_or ((x1.Queue.length : Int) == 0) with b13 | b13
  · replace h := cond_t b13 h
    refine S.condT rfl b13 ?_
    refine S.region ?_
    refine SO.v rfl (opv_move rfl) ?_
    refine SO.v rfl (opv_nilCheck rfl) ?_
    refine SO.v rfl (opv_fieldAddr Try.underlying76 rfl Try.sizeOf74 rfl rfl) ?_
    refine SO.b1 ?_
    refine SO.load1 rfl Try.isAgg74 rfl rfl ?_
    refine SO.v rfl (opv_move rfl) ?_
    obtain ⟨x14, hx15, h⟩ := opt_bind h
    obtain ⟨r16, hr17, hc18⟩ := relR.at hrel8 hx15
    refine SO.v rfl (opv_idx Try.underlying74 Try.sizeOf72 hR9 rfl rfl hr17) ?_
    refine SO.v rfl (opv_fieldIdx Try.underlying72 rfl Try.sizeOf3 hR9 hr17 rfl rfl) ?_
    refine SO.b1 ?_
    refine SO.storeO1 (j := 5) (q := .val (.int .i64 0)) (z' := ({ x14 with Wait := 0 } : ref10_Obj)) Try.sizeOf3 hrel8 hx15 rfl rfl rfl rfl rfl rfl rfl (fun raws19 hrel20 hR21 => ?_)
    refine SO.nil ?_
    refine S.to (ρ' := []) trivial ?_
    cases h
    refine S.closeR ?_
    refine S.b3 ?_
    refine S.b1 ?_
    refine S.b3 ?_
    refine S.b3 ?_
    exact S.fin0 Try.func60 rfl (fun w hs hk => hR w _ _ ⟨v0_Slots, v0_Objs, rfl, rfl⟩ hs hk)
  · replace h := cond_f b13 h
    refine S.condF rfl b13 ?_
    refine S.skip ?_
    cases h
    refine S.closeR ?_
    refine S.b3 ?_
    refine S.b1 ?_
    refine S.b3 ?_
    refine S.b3 ?_
    exact S.fin0 Try.func60 rfl (fun w hs hk => hR w _ _ ⟨v0_Slots, v0_Objs, rfl, rfl⟩ hs hk)
end Go.Proofs
namespace Go.Proofs
open Go.Sl Go.RowKit
/-! 61 (*padstone/padstoneref10.State).owe -/
def ref10_State_owe.f (a0 : ref10_State) (a1 : Int) (a2 : Int) : Option (ref10_State) :=
  (at_ a0.Objs a2).bind fun x1 => (at_ (a0.Objs.set a2.toNat ({ x1 with State := 4 } : ref10_Obj)) a2).bind fun x13 => (at_ ((a0.Objs.set a2.toNat ({ x1 with State := 4 } : ref10_Obj)).set a2.toNat ({ x13 with On := -1 } : ref10_Obj)) a2).bind fun x21 => (at_ (((a0.Objs.set a2.toNat ({ x1 with State := 4 } : ref10_Obj)).set a2.toNat ({ x13 with On := -1 } : ref10_Obj)).set a2.toNat ({ x21 with Owing := a1 } : ref10_Obj)) a1).bind fun x29 => some ({ a0 with Objs := (((a0.Objs.set a2.toNat ({ x1 with State := 4 } : ref10_Obj)).set a2.toNat ({ x13 with On := -1 } : ref10_Obj)).set a2.toNat ({ x21 with Owing := a1 } : ref10_Obj)).set a1.toNat ({ x29 with Owes := a2 } : ref10_Obj) } : ref10_State)
set_option maxHeartbeats 8000000 in
set_option maxRecDepth 100000 in
theorem ref10_State_owe.ct (bp0 : Nat) (v0_Slots : Value) (v0_Objs : Value) (a0 : ref10_State) (a1 : Int) (a2 : Int) (rp0 : ref10_State) (h : ref10_State_owe.f a0 a1 a2 = some rp0) :
    Ct Try.prog 61 [bp bp0 0, .int .i64 a1, .int .i64 a2] (fun _ => True) [Box bp0 [v0_Slots, v0_Objs, .int .i64 a0.NS, .int .i64 a0.NO], OwnR 81 kr_ref10_Slot v0_Slots a0.Slots, OwnR 72 kr_ref10_Obj v0_Objs a0.Objs] (fun u H' => ∃ rw0_Slots rw0_Objs, u = .tuple #[] ∧ H' = [Box bp0 [rw0_Slots, rw0_Objs, .int .i64 rp0.NS, .int .i64 rp0.NO], OwnR 81 kr_ref10_Slot rw0_Slots rp0.Slots, OwnR 72 kr_ref10_Obj rw0_Objs rp0.Objs]) := by
  unfold ref10_State_owe.f at h
  refine Ct.intro (n := 36) Try.func61 rfl rfl rfl ?_
  intro R w0 F hF hR
  refine S.seq ?_
  refine S.region ?_
  refine SO.v rfl (opv_move rfl) ?_
  refine SO.v rfl (opv_nilCheck rfl) ?_
  refine SO.v rfl (opv_fieldAddr Try.underlying76 rfl Try.sizeOf74 rfl rfl) ?_
  refine SO.load1 rfl Try.isAgg74 rfl rfl ?_
  refine SO.v rfl (opv_move rfl) ?_
  refine SO.b2 ?_
  refine SO.openR fun raws6 A7 hrel8 hR9 => ?_
  obtain ⟨x1, hx2, h⟩ := opt_bind h
  obtain ⟨r3, hr4, hc5⟩ := relR.at hrel8 hx2
  refine SO.v rfl (opv_idx Try.underlying74 Try.sizeOf72 hR9 rfl rfl hr4) ?_
  refine SO.v rfl (opv_fieldIdx Try.underlying72 rfl Try.sizeOf3 hR9 hr4 rfl rfl) ?_
  refine SO.storeO1 (j := 8) (q := .val (.int .i64 4)) (z' := ({ x1 with State := 4 } : ref10_Obj)) Try.sizeOf3 hrel8 hx2 rfl rfl rfl rfl rfl rfl rfl (fun raws10 hrel11 hR12 => ?_)
  refine SO.nil ?_
  refine S.to (ρ' := [(0, bp bp0 0), (1, .int .i64 a1), (2, .int .i64 a2)]) ⟨rfl, rfl, rfl, trivial⟩ ?_
  refine S.seq ?_
  refine S.region ?_
  refine SO.v rfl (opv_move rfl) ?_
  refine SO.v rfl (opv_nilCheck rfl) ?_
  refine SO.v rfl (opv_fieldAddr Try.underlying76 rfl Try.sizeOf74 rfl rfl) ?_
  refine SO.b1 ?_
  refine SO.load1 rfl Try.isAgg74 rfl rfl ?_
  refine SO.v rfl (opv_move rfl) ?_
  obtain ⟨x13, hx14, h⟩ := opt_bind h
  obtain ⟨r15, hr16, hc17⟩ := relR.at hrel11 hx14
  refine SO.v rfl (opv_idx Try.underlying74 Try.sizeOf72 hR12 rfl rfl hr16) ?_
  refine SO.v rfl (opv_fieldIdx Try.underlying72 rfl Try.sizeOf3 hR12 hr16 rfl rfl) ?_
  refine SO.b1 ?_
  refine SO.storeO1 (j := 12) (q := .val (.int .i64 (-1))) (z' := ({ x13 with On := -1 } : ref10_Obj)) Try.sizeOf3 hrel11 hx14 rfl rfl rfl rfl rfl rfl rfl (fun raws18 hrel19 hR20 => ?_)
  refine SO.nil ?_
  refine S.to (ρ' := [(0, bp bp0 0), (1, .int .i64 a1), (2, .int .i64 a2)]) ⟨rfl, rfl, rfl, trivial⟩ ?_
  refine S.seq ?_
  refine S.region ?_
  refine SO.v rfl (opv_move rfl) ?_
  refine SO.v rfl (opv_nilCheck rfl) ?_
  refine SO.v rfl (opv_fieldAddr Try.underlying76 rfl Try.sizeOf74 rfl rfl) ?_
  refine SO.b1 ?_
  refine SO.load1 rfl Try.isAgg74 rfl rfl ?_
  refine SO.v rfl (opv_move rfl) ?_
  refine SO.v rfl (opv_move rfl) ?_
  obtain ⟨x21, hx22, h⟩ := opt_bind h
  obtain ⟨r23, hr24, hc25⟩ := relR.at hrel19 hx22
  refine SO.v rfl (opv_idx Try.underlying74 Try.sizeOf72 hR20 rfl rfl hr24) ?_
  refine SO.v rfl (opv_fieldIdx Try.underlying72 rfl Try.sizeOf3 hR20 hr24 rfl rfl) ?_
  refine SO.b1 ?_
  refine SO.storeO1 (j := 9) (q := .val (.int .i64 a1)) (z' := ({ x21 with Owing := a1 } : ref10_Obj)) Try.sizeOf3 hrel19 hx22 rfl rfl rfl rfl rfl rfl rfl (fun raws26 hrel27 hR28 => ?_)
  refine SO.nil ?_
  refine S.to (ρ' := [(0, bp bp0 0), (1, .int .i64 a1), (2, .int .i64 a2)]) ⟨rfl, rfl, rfl, trivial⟩ ?_
  refine S.region ?_
  refine SO.v rfl (opv_move rfl) ?_
  refine SO.v rfl (opv_nilCheck rfl) ?_
  refine SO.v rfl (opv_fieldAddr Try.underlying76 rfl Try.sizeOf74 rfl rfl) ?_
  refine SO.b1 ?_
  refine SO.load1 rfl Try.isAgg74 rfl rfl ?_
  refine SO.v rfl (opv_move rfl) ?_
  refine SO.v rfl (opv_move rfl) ?_
  obtain ⟨x29, hx30, h⟩ := opt_bind h
  obtain ⟨r31, hr32, hc33⟩ := relR.at hrel27 hx30
  refine SO.v rfl (opv_idx Try.underlying74 Try.sizeOf72 hR28 rfl rfl hr32) ?_
  refine SO.v rfl (opv_fieldIdx Try.underlying72 rfl Try.sizeOf3 hR28 hr32 rfl rfl) ?_
  refine SO.b1 ?_
  refine SO.storeO1 (j := 13) (q := .val (.int .i64 a2)) (z' := ({ x29 with Owes := a2 } : ref10_Obj)) Try.sizeOf3 hrel27 hx30 rfl rfl rfl rfl rfl rfl rfl (fun raws34 hrel35 hR36 => ?_)
  refine SO.nil ?_
  refine S.to (ρ' := []) trivial ?_
  cases h
  refine S.closeR ?_
  refine S.b3 ?_
  refine S.b1 ?_
  refine S.b3 ?_
  refine S.b3 ?_
  exact S.fin0 Try.func61 rfl (fun w hs hk => hR w _ _ ⟨v0_Slots, v0_Objs, rfl, rfl⟩ hs hk)
end Go.Proofs
namespace Go.Proofs
open Go.Sl Go.RowKit
/-! 27 (*padstone/padstoneref10.State).Send -/
def ref10_State_Send.f (a0 : ref10_State) (a1 : Int) (a2 : Int) (a3 : Int) (a4 : Int) (a5 : Bool) : Option ((Bool × ref10_State)) :=
  (at_ a0.Objs a1).bind fun x1 => bif x1.Wait == 2 then ((ref10_State_pop.f a0 a1).bind fun (t11, p12) => (ref10_State_Wake.f p12 t11 a4 a3).bind fun p15 => (ref10_State_rest.f p15 a1).bind fun p18 => (bif a5 then ((ref10_State_owe.f p18 t11 a2).bind fun p22 => some (p22.Slots, p22.Objs, p22.NS, p22.NO)) else (some (p18.Slots, p18.Objs, p18.NS, p18.NO))).bind fun (yp0_0_1, yp0_1_1, yp0_2_1, yp0_3_1) => some (a5, (⟨yp0_0_1, yp0_1_1, yp0_2_1, yp0_3_1⟩ : ref10_State))) else ((bif a5 then (some 6) else (some 2)).bind fun j14_2 => (ref10_State_Block.f a0 a1 a2 j14_2).bind fun p26 => (at_ p26.Objs a2).bind fun x29 => (at_ (p26.Objs.set a2.toNat ({ x29 with Word := a4 } : ref10_Obj)) a2).bind fun x41 => (at_ ((p26.Objs.set a2.toNat ({ x29 with Word := a4 } : ref10_Obj)).set a2.toNat ({ x41 with Badge := a3 } : ref10_Obj)) a1).bind fun x49 => some (true, ({ p26 with Objs := ((p26.Objs.set a2.toNat ({ x29 with Word := a4 } : ref10_Obj)).set a2.toNat ({ x41 with Badge := a3 } : ref10_Obj)).set a1.toNat ({ x49 with Wait := 1 } : ref10_Obj) } : ref10_State)))
set_option maxHeartbeats 8000000 in
set_option maxRecDepth 100000 in
theorem ref10_State_Send.ct (bp0 : Nat) (v0_Slots : Value) (v0_Objs : Value) (a0 : ref10_State) (a1 : Int) (a2 : Int) (a3 : Int) (a4 : Int) (a5 : Bool) (r0 : Bool) (rp0 : ref10_State) (h : ref10_State_Send.f a0 a1 a2 a3 a4 a5 = some (r0, rp0)) :
    Ct Try.prog 27 [bp bp0 0, .int .i64 a1, .int .i64 a2, .int .i64 a3, .int .i64 a4, .bool a5] (fun _ => True) [Box bp0 [v0_Slots, v0_Objs, .int .i64 a0.NS, .int .i64 a0.NO], OwnR 81 kr_ref10_Slot v0_Slots a0.Slots, OwnR 72 kr_ref10_Obj v0_Objs a0.Objs] (fun u H' => ∃ rw0_Slots rw0_Objs, u = .bool r0 ∧ H' = [Box bp0 [rw0_Slots, rw0_Objs, .int .i64 rp0.NS, .int .i64 rp0.NO], OwnR 81 kr_ref10_Slot rw0_Slots rp0.Slots, OwnR 72 kr_ref10_Obj rw0_Objs rp0.Objs]) := by
  unfold ref10_State_Send.f at h
  refine Ct.intro (n := 70) Try.func27 rfl rfl rfl ?_
  intro R w0 F hF hR
  refine S.seq ?_
  refine S.region ?_
  refine SO.v rfl (opv_assign rfl) ?_
  refine SO.nil ?_
  refine S.seq ?_
  refine S.seq ?_
  refine S.region ?_
  refine SO.v rfl (opv_move rfl) ?_
  refine SO.v rfl (opv_nilCheck rfl) ?_
  refine SO.v rfl (opv_fieldAddr Try.underlying76 rfl Try.sizeOf74 rfl rfl) ?_
  refine SO.load1 rfl Try.isAgg74 rfl rfl ?_
  refine SO.v rfl (opv_move rfl) ?_
  refine SO.b2 ?_
  refine SO.openR fun raws6 A7 hrel8 hR9 => ?_
  obtain ⟨x1, hx2, h⟩ := opt_bind h
  obtain ⟨r3, hr4, hc5⟩ := relR.at hrel8 hx2
  refine SO.v rfl (opv_idx Try.underlying74 Try.sizeOf72 hR9 rfl rfl hr4) ?_
  refine SO.v rfl (opv_fieldIdx Try.underlying72 rfl Try.sizeOf3 hR9 hr4 rfl rfl) ?_
  refine SO.loadI1 (j := 5) rfl Try.isAgg3 (Rd.head hR9) hr4 rfl rfl rfl (hc5.val rfl) ?_
  refine SO.v rfl (opv_eql rfl rfl) ?_
  refine SO.nil ?_
  refine S.to (ρ' := [(0, bp bp0 0), (1, .int .i64 a1), (2, .int .i64 a2), (3, .int .i64 a3), (4, .int .i64 a4), (5, .bool a5), (12, .bool false), (23, .bool (x1.Wait == 2))]) ⟨rfl, rfl, rfl, rfl, rfl, rfl, rfl, rfl, trivial⟩ ?_
  rcases bool_or (x1.Wait == 2) with b10 | b10
  · replace h := cond_t b10 h
    refine S.condT rfl b10 ?_
    refine S.seq ?_
    refine S.region ?_
    refine SO.v rfl (opv_move rfl) ?_
    refine SO.v rfl (opv_move rfl) ?_
    obtain ⟨⟨t11, p12⟩, ht13, h⟩ := opt_bind h
    refine SO.closeR ?_
    refine SO.b2 ?_
    refine SO.b2 ?_
    refine SO.call (pre := [Box _ _, OwnR _ _ _ _, OwnR _ _ _ _]) rfl Try.call59 rfl rfl rfl (ref10_State_pop.ct bp0 v0_Slots v0_Objs _ _ _ _ ht13) trivial ?_
    rintro _ _ ⟨u14_Slots, u14_Objs, rfl, rfl⟩
    refine SO.v rfl (opv_assign rfl) ?_
    refine SO.nil ?_
    refine S.seq ?_
    refine S.region ?_
    refine SO.v rfl (opv_move rfl) ?_
    refine SO.v rfl (opv_move rfl) ?_
    refine SO.v rfl (opv_move rfl) ?_
    refine SO.v rfl (opv_move rfl) ?_
    obtain ⟨p15, ht16, h⟩ := opt_bind h
    refine SO.b2 ?_
    refine SO.b2 ?_
    refine SO.b2 ?_
    refine SO.call (pre := [Box _ _, OwnR _ _ _ _, OwnR _ _ _ _]) rfl Try.call54 rfl rfl rfl (ref10_State_Wake.ct bp0 u14_Slots u14_Objs _ _ _ _ _ ht16) trivial ?_
    rintro _ _ ⟨u17_Slots, u17_Objs, rfl, rfl⟩
    refine SO.nil ?_
    refine S.to (ρ' := [(0, bp bp0 0), (1, .int .i64 a1), (2, .int .i64 a2), (5, .bool a5), (12, .bool false), (13, .int .i64 t11)]) ⟨rfl, rfl, rfl, rfl, rfl, rfl, trivial⟩ ?_
    refine S.seq ?_
    refine S.region ?_
    refine SO.v rfl (opv_move rfl) ?_
    refine SO.v rfl (opv_move rfl) ?_
    obtain ⟨p18, ht19, h⟩ := opt_bind h
    refine SO.b2 ?_
    refine SO.b2 ?_
    refine SO.b2 ?_
    refine SO.call (pre := [Box _ _, OwnR _ _ _ _, OwnR _ _ _ _]) rfl Try.call60 rfl rfl rfl (ref10_State_rest.ct bp0 u17_Slots u17_Objs _ _ _ ht19) trivial ?_
    rintro _ _ ⟨u20_Slots, u20_Objs, rfl, rfl⟩
    refine SO.nil ?_
    refine S.seq ?_
    refine S.seq ?_
    refine S.region ?_
    refine SO.v rfl (opv_move rfl) ?_
    refine SO.nil ?_
    obtain ⟨⟨yp0_0_1, yp0_1_1, yp0_2_1, yp0_3_1⟩, hC1, hJ1⟩ := opt_bind h
    clear h
    refine S.cutP (G := (Value × Value)) (fun _ => True) (fun x => match x with | (vyp0_0_1, vyp0_1_1) => [(5, .bool a5), (12, .bool false)]) (fun x => match x with | (vyp0_0_1, vyp0_1_1) => [OwnR 72 kr_ref10_Obj vyp0_1_1 yp0_1_1, OwnR 81 kr_ref10_Slot vyp0_0_1 yp0_0_1, Box bp0 [vyp0_0_1, vyp0_1_1, .int .i64 yp0_2_1, .int .i64 yp0_3_1], F]) (fun hk1 => ?_) ?_
    · replace h := hC1
      rcases bool_or a5 with b21 | b21
      · replace h := cond_t b21 h
        refine S.condT rfl b21 ?_
        refine S.region ?_
        refine SO.v rfl (opv_move rfl) ?_
        refine SO.v rfl (opv_move rfl) ?_
        refine SO.v rfl (opv_move rfl) ?_
        obtain ⟨p22, ht23, h⟩ := opt_bind h
        refine SO.b2 ?_
        refine SO.b2 ?_
        refine SO.b2 ?_
        refine SO.call (pre := [Box _ _, OwnR _ _ _ _, OwnR _ _ _ _]) rfl Try.call61 rfl rfl rfl (ref10_State_owe.ct bp0 u20_Slots u20_Objs _ _ _ _ ht23) trivial ?_
        rintro _ _ ⟨u24_Slots, u24_Objs, rfl, rfl⟩
        refine SO.nil ?_
        refine S.to (ρ' := [(5, .bool a5), (12, .bool false)]) ⟨rfl, rfl, trivial⟩ ?_
        cases h
        refine S.b3 ?_
        refine S.b1 ?_
        refine S.b2 ?_
        refine S.b3 ?_
        refine S.to ?_ (hk1 (u24_Slots, u24_Objs) trivial)
        exact ⟨rfl, rfl, trivial⟩
      · replace h := cond_f b21 h
        refine S.condF rfl b21 ?_
        refine S.skip ?_
        cases h
        refine S.b3 ?_
        refine S.b1 ?_
        refine S.b2 ?_
        refine S.b3 ?_
        refine S.to ?_ (hk1 (u20_Slots, u20_Objs) trivial)
        exact ⟨rfl, rfl, trivial⟩
    rintro ⟨vyp0_0_1, vyp0_1_1⟩ -
    replace h := hJ1
    refine S.seq ?_
    refine S.region ?_
    refine SO.v rfl (opv_move rfl) ?_
    refine SO.v rfl (opv_assign rfl) ?_
    refine SO.nil ?_
    cases h
    refine S.b3 ?_
    refine S.b1 ?_
    refine S.b2 ?_
    refine S.b3 ?_
    exact S.ret1 Try.func27 rfl rfl (fun w hs hk => hR w _ _ ⟨vyp0_0_1, vyp0_1_1, rfl, rfl⟩ hs hk)
  · replace h := cond_f b10 h
    refine S.condF rfl b10 ?_
    refine S.skip ?_
    refine S.seq ?_
    refine S.region ?_
    refine SO.v rfl (opv_assign rfl) ?_
    refine SO.nil ?_
    refine S.seq ?_
    refine S.seq ?_
    refine S.region ?_
    refine SO.v rfl (opv_move rfl) ?_
    refine SO.nil ?_
    obtain ⟨j14_2, hC2, hJ2⟩ := opt_bind h
    clear h
    refine S.cutP (G := Unit) (fun _ => True) (fun _ => [(0, bp bp0 0), (1, .int .i64 a1), (2, .int .i64 a2), (3, .int .i64 a3), (4, .int .i64 a4), (12, .bool false), (14, .int .i64 j14_2)]) (fun _ => [OwnO 72 kr_ref10_Obj v0_Objs raws6 A7 a0.Objs, Box bp0 [v0_Slots, v0_Objs, .int .i64 a0.NS, .int .i64 a0.NO], OwnR 81 kr_ref10_Slot v0_Slots a0.Slots, F]) (fun hk2 => ?_) ?_
    · replace h := hC2
      rcases bool_or a5 with b25 | b25
      · replace h := cond_t b25 h
        refine S.condT rfl b25 ?_
        refine S.region ?_
        refine SO.v rfl (opv_assign rfl) ?_
        refine SO.nil ?_
        cases h
        refine S.b3 ?_
        refine S.b3 ?_
        refine S.b3 ?_
        refine S.b3 ?_
        refine S.to ?_ (hk2 () trivial)
        exact ⟨rfl, rfl, rfl, rfl, rfl, rfl, rfl, trivial⟩
      · replace h := cond_f b25 h
        refine S.condF rfl b25 ?_
        refine S.skip ?_
        cases h
        refine S.b3 ?_
        refine S.b3 ?_
        refine S.b3 ?_
        refine S.b3 ?_
        refine S.to ?_ (hk2 () trivial)
        exact ⟨rfl, rfl, rfl, rfl, rfl, rfl, rfl, trivial⟩
    rintro _ -
    replace h := hJ2
    refine S.seq ?_
    refine S.region ?_
    refine SO.v rfl (opv_move rfl) ?_
    refine SO.v rfl (opv_move rfl) ?_
    refine SO.v rfl (opv_move rfl) ?_
    refine SO.v rfl (opv_move rfl) ?_
    obtain ⟨p26, ht27, h⟩ := opt_bind h
    refine SO.closeR ?_
    refine SO.b2 ?_
    refine SO.b2 ?_
    refine SO.call (pre := [Box _ _, OwnR _ _ _ _, OwnR _ _ _ _]) rfl Try.call62 rfl rfl rfl (ref10_State_Block.ct bp0 v0_Slots v0_Objs _ _ _ _ _ ht27) trivial ?_
    rintro _ _ ⟨u28_Slots, u28_Objs, rfl, rfl⟩
    refine SO.nil ?_
    refine S.seq ?_
    refine S.region ?_
    refine SO.v rfl (opv_move rfl) ?_
    refine SO.v rfl (opv_nilCheck rfl) ?_
    refine SO.v rfl (opv_fieldAddr Try.underlying76 rfl Try.sizeOf74 rfl rfl) ?_
    refine SO.load1 rfl Try.isAgg74 rfl rfl ?_
    refine SO.v rfl (opv_move rfl) ?_
    refine SO.v rfl (opv_move rfl) ?_
    refine SO.b2 ?_
    refine SO.openR fun raws34 A35 hrel36 hR37 => ?_
    obtain ⟨x29, hx30, h⟩ := opt_bind h
    obtain ⟨r31, hr32, hc33⟩ := relR.at hrel36 hx30
    refine SO.v rfl (opv_idx Try.underlying74 Try.sizeOf72 hR37 rfl rfl hr32) ?_
    refine SO.v rfl (opv_fieldIdx Try.underlying72 rfl Try.sizeOf3 hR37 hr32 rfl rfl) ?_
    refine SO.storeO1 (j := 7) (q := .val (.int .i64 a4)) (z' := ({ x29 with Word := a4 } : ref10_Obj)) Try.sizeOf3 hrel36 hx30 rfl rfl rfl rfl rfl rfl rfl (fun raws38 hrel39 hR40 => ?_)
    refine SO.nil ?_
    refine S.to (ρ' := [(0, bp bp0 0), (1, .int .i64 a1), (2, .int .i64 a2), (3, .int .i64 a3), (12, .bool false)]) ⟨rfl, rfl, rfl, rfl, rfl, trivial⟩ ?_
    refine S.seq ?_
    refine S.region ?_
    refine SO.v rfl (opv_move rfl) ?_
    refine SO.v rfl (opv_nilCheck rfl) ?_
    refine SO.v rfl (opv_fieldAddr Try.underlying76 rfl Try.sizeOf74 rfl rfl) ?_
    refine SO.b1 ?_
    refine SO.load1 rfl Try.isAgg74 rfl rfl ?_
    refine SO.v rfl (opv_move rfl) ?_
    refine SO.v rfl (opv_move rfl) ?_
    obtain ⟨x41, hx42, h⟩ := opt_bind h
    obtain ⟨r43, hr44, hc45⟩ := relR.at hrel39 hx42
    refine SO.v rfl (opv_idx Try.underlying74 Try.sizeOf72 hR40 rfl rfl hr44) ?_
    refine SO.v rfl (opv_fieldIdx Try.underlying72 rfl Try.sizeOf3 hR40 hr44 rfl rfl) ?_
    refine SO.b1 ?_
    refine SO.storeO1 (j := 10) (q := .val (.int .i64 a3)) (z' := ({ x41 with Badge := a3 } : ref10_Obj)) Try.sizeOf3 hrel39 hx42 rfl rfl rfl rfl rfl rfl rfl (fun raws46 hrel47 hR48 => ?_)
    refine SO.nil ?_
    refine S.to (ρ' := [(0, bp bp0 0), (1, .int .i64 a1), (12, .bool false)]) ⟨rfl, rfl, rfl, trivial⟩ ?_
    refine S.seq ?_
    refine S.region ?_
    refine SO.v rfl (opv_move rfl) ?_
    refine SO.v rfl (opv_nilCheck rfl) ?_
    refine SO.v rfl (opv_fieldAddr Try.underlying76 rfl Try.sizeOf74 rfl rfl) ?_
    refine SO.b1 ?_
    refine SO.load1 rfl Try.isAgg74 rfl rfl ?_
    refine SO.v rfl (opv_move rfl) ?_
    obtain ⟨x49, hx50, h⟩ := opt_bind h
    obtain ⟨r51, hr52, hc53⟩ := relR.at hrel47 hx50
    refine SO.v rfl (opv_idx Try.underlying74 Try.sizeOf72 hR48 rfl rfl hr52) ?_
    refine SO.v rfl (opv_fieldIdx Try.underlying72 rfl Try.sizeOf3 hR48 hr52 rfl rfl) ?_
    refine SO.b1 ?_
    refine SO.storeO1 (j := 5) (q := .val (.int .i64 1)) (z' := ({ x49 with Wait := 1 } : ref10_Obj)) Try.sizeOf3 hrel47 hx50 rfl rfl rfl rfl rfl rfl rfl (fun raws54 hrel55 hR56 => ?_)
    refine SO.nil ?_
    refine S.to (ρ' := [(12, .bool false)]) ⟨rfl, trivial⟩ ?_
    refine S.seq ?_
    refine S.region ?_
    refine SO.v rfl (opv_assign rfl) ?_
    refine SO.nil ?_
    cases h
    refine S.closeR ?_
    refine S.b3 ?_
    refine S.b1 ?_
    refine S.b3 ?_
    refine S.b3 ?_
    exact S.ret1 Try.func27 rfl rfl (fun w hs hk => hR w _ _ ⟨u28_Slots, u28_Objs, rfl, rfl⟩ hs hk)
end Go.Proofs
namespace Go.Proofs
open Go.Sl Go.RowKit
/-! 28 (*padstone/padstoneref10.State).Recv -/
def ref10_State_Recv.f (a0 : ref10_State) (a1 : Int) (a2 : Int) : Option ((api_Reply × Bool × Int × ref10_State)) :=
  (at_ a0.Objs a2).bind fun x2 => bif decide (0 ≤ x2.Owes) then (some ((⟨0, 0, 0⟩ : api_Reply), false, 10, a0)) else ((at_ a0.Objs a1).bind fun x12 => bif x12.Wait == 1 then ((ref10_State_pop.f a0 a1).bind fun (t18, p19) => (at_ p19.Objs t18).bind fun x26 => (at_ p19.Objs t18).bind fun x31 => (at_ p19.Objs t18).bind fun x37 => (bif x37.State == 6 then ((ref10_State_owe.f p19 a2 t18).bind fun p43 => some (p43.Slots, p43.Objs, p43.NS, p43.NO)) else ((ref10_State_Wake.f p19 t18 0 0).bind fun p46 => some (p46.Slots, p46.Objs, p46.NS, p46.NO))).bind fun (yp0_0_1, yp0_1_1, yp0_2_1, yp0_3_1) => (ref10_State_rest.f (⟨yp0_0_1, yp0_1_1, yp0_2_1, yp0_3_1⟩ : ref10_State) a1).bind fun p49 => some ((⟨0, x26.Word, x31.Badge⟩ : api_Reply), true, 0, p49)) else ((ref10_State_Block.f a0 a1 a2 3).bind fun p53 => (at_ p53.Objs a1).bind fun x56 => some ((⟨0, 0, 0⟩ : api_Reply), false, 0, ({ p53 with Objs := p53.Objs.set a1.toNat ({ x56 with Wait := 2 } : ref10_Obj) } : ref10_State))))
set_option maxHeartbeats 8000000 in
set_option maxRecDepth 100000 in
theorem ref10_State_Recv.ct (bp0 : Nat) (v0_Slots : Value) (v0_Objs : Value) (a0 : ref10_State) (a1 : Int) (a2 : Int) (r0 : api_Reply) (r1 : Bool) (r2 : Int) (rp0 : ref10_State) (h : ref10_State_Recv.f a0 a1 a2 = some (r0, r1, r2, rp0)) :
    Ct Try.prog 28 [bp bp0 0, .int .i64 a1, .int .i64 a2] (fun _ => True) [Box bp0 [v0_Slots, v0_Objs, .int .i64 a0.NS, .int .i64 a0.NO], OwnR 81 kr_ref10_Slot v0_Slots a0.Slots, OwnR 72 kr_ref10_Obj v0_Objs a0.Objs] (fun u H' => ∃ rw0_Slots rw0_Objs, u = .tuple #[.agg #[.int .i64 r0.Code, .int .i64 r0.Word, .int .i64 r0.Badge], .bool r1, .int .i64 r2] ∧ H' = [Box bp0 [rw0_Slots, rw0_Objs, .int .i64 rp0.NS, .int .i64 rp0.NO], OwnR 81 kr_ref10_Slot rw0_Slots rp0.Slots, OwnR 72 kr_ref10_Obj rw0_Objs rp0.Objs]) := by
  unfold ref10_State_Recv.f at h
  refine Ct.intro (n := 82) Try.func28 rfl rfl rfl ?_
  intro R w0 F hF hR
  refine S.seq ?_
  refine S.region ?_
  refine SO.alloc rfl Try.zeroValue41 rfl (fun b1 => ?_)
  refine SO.v rfl (opv_assign rfl) ?_
  refine SO.v rfl (opv_assign rfl) ?_
  refine SO.nil ?_
  refine S.seq ?_
  refine S.seq ?_
  refine S.region ?_
  refine SO.v rfl (opv_move rfl) ?_
  refine SO.v rfl (opv_nilCheck rfl) ?_
  refine SO.v rfl (opv_fieldAddr Try.underlying76 rfl Try.sizeOf74 rfl rfl) ?_
  refine SO.b1 ?_
  refine SO.load1 rfl Try.isAgg74 rfl rfl ?_
  refine SO.v rfl (opv_move rfl) ?_
  refine SO.b3 ?_
  refine SO.openR fun raws7 A8 hrel9 hR10 => ?_
  obtain ⟨x2, hx3, h⟩ := opt_bind h
  obtain ⟨r4, hr5, hc6⟩ := relR.at hrel9 hx3
  refine SO.v rfl (opv_idx Try.underlying74 Try.sizeOf72 hR10 rfl rfl hr5) ?_
  refine SO.v rfl (opv_fieldIdx Try.underlying72 rfl Try.sizeOf3 hR10 hr5 rfl rfl) ?_
  refine SO.loadI1 (j := 13) rfl Try.isAgg3 (Rd.head hR10) hr5 rfl rfl rfl (hc6.val rfl) ?_
  refine SO.v rfl (opv_geq rfl rfl) ?_
  refine SO.nil ?_
  refine S.to (ρ' := [(0, bp bp0 0), (1, .int .i64 a1), (2, .int .i64 a2), (6, bp b1 0), (7, .bool false), (8, .int .i64 0), (19, .bool (decide (0 ≤ x2.Owes)))]) ⟨rfl, rfl, rfl, rfl, rfl, rfl, rfl, trivial⟩ ?_
  rcases bool_or (decide (0 ≤ x2.Owes)) with b11 | b11
  · replace h := cond_t b11 h
    refine S.condT rfl b11 ?_
    refine S.seq ?_
    refine S.region ?_
    refine SO.v rfl (opv_build (v := .agg #[.int .i64 0, .int .i64 0, .int .i64 0]) rfl (by intro w; kernel_rfl)) ?_
    refine SO.b2 ?_
    refine SO.storeN Try.sizeOf41 rfl rfl rfl rfl rfl rfl ?_
    refine SO.v rfl (opv_assign rfl) ?_
    refine SO.v rfl (opv_assign rfl) ?_
    refine SO.nil ?_
    cases h
    refine S.b1 ?_
    refine S.closeR ?_
    refine S.b4 ?_
    refine S.b1 ?_
    refine S.b4 ?_
    refine S.b4 ?_
    refine S.b4 ?_
    exact S.retC2 Try.func28 rfl rfl rfl rfl Try.isAgg41 Try.sizeOf41 rfl rfl (fun w hs hk => hR w _ _ ⟨v0_Slots, v0_Objs, rfl, rfl⟩ hs.drop hk)
  · replace h := cond_f b11 h
    refine S.condF rfl b11 ?_
    refine S.skip ?_
    refine S.seq ?_
    refine S.seq ?_
    refine S.region ?_
    refine SO.v rfl (opv_move rfl) ?_
    refine SO.v rfl (opv_nilCheck rfl) ?_
    refine SO.v rfl (opv_fieldAddr Try.underlying76 rfl Try.sizeOf74 rfl rfl) ?_
    refine SO.b1 ?_
    refine SO.load1 rfl Try.isAgg74 rfl rfl ?_
    refine SO.v rfl (opv_move rfl) ?_
    obtain ⟨x12, hx13, h⟩ := opt_bind h
    obtain ⟨r14, hr15, hc16⟩ := relR.at hrel9 hx13
    refine SO.v rfl (opv_idx Try.underlying74 Try.sizeOf72 hR10 rfl rfl hr15) ?_
    refine SO.v rfl (opv_fieldIdx Try.underlying72 rfl Try.sizeOf3 hR10 hr15 rfl rfl) ?_
    refine SO.loadI1 (j := 5) rfl Try.isAgg3 (Rd.tail (Rd.head hR10)) hr15 rfl rfl rfl (hc16.val rfl) ?_
    refine SO.v rfl (opv_eql rfl rfl) ?_
    refine SO.nil ?_
    refine S.to (ρ' := [(0, bp bp0 0), (1, .int .i64 a1), (2, .int .i64 a2), (6, bp b1 0), (7, .bool false), (8, .int .i64 0), (29, .bool (x12.Wait == 1))]) ⟨rfl, rfl, rfl, rfl, rfl, rfl, rfl, trivial⟩ ?_
    rcases bool_or (x12.Wait == 1) with b17 | b17
    · replace h := cond_t b17 h
      refine S.condT rfl b17 ?_
      refine S.seq ?_
      refine S.region ?_
      refine SO.v rfl (opv_move rfl) ?_
      refine SO.v rfl (opv_move rfl) ?_
      obtain ⟨⟨t18, p19⟩, ht20, h⟩ := opt_bind h
      refine SO.b1 ?_
      refine SO.closeR ?_
      refine SO.b3 ?_
      refine SO.b2 ?_
      refine SO.call (pre := [Box _ _, OwnR _ _ _ _, OwnR _ _ _ _]) rfl Try.call59 rfl rfl rfl (ref10_State_pop.ct bp0 v0_Slots v0_Objs _ _ _ _ ht20) trivial ?_
      rintro _ _ ⟨u21_Slots, u21_Objs, rfl, rfl⟩
      refine SO.v rfl (opv_assign rfl) ?_
      refine SO.nil ?_
      refine S.seq ?_
      refine S.b2 ?_
      refine S.openR fun raws22 A23 hrel24 hR25 => ?_
      obtain ⟨x26, hx27, h⟩ := opt_bind h
      obtain ⟨r28, hr29, hc30⟩ := relR.at hrel24 hx27
      obtain ⟨x31, hx32, h⟩ := opt_bind h
      obtain ⟨r33, hr34, hc35⟩ := relR.at hrel24 hx32
      refine S.draw' (Z := fun Q => ∀ (_ : Unit) (_ : Unit) (_ : Unit) (b36 : Nat) (_ : Unit) (_ : Unit) (_ : Unit) (_ : Unit) (_ : Unit), Q [(0, bp bp0 0), (1, .int .i64 a1), (2, .int .i64 a2), (6, bp b1 0), (7, .bool false), (8, .int .i64 0), (9, .int .i64 t18), (10, bp b36 0)] [Box b36 [.int .i64 0, .int .i64 x26.Word, .int .i64 x31.Badge], OwnO 72 kr_ref10_Obj u21_Objs raws22 A23 p19.Objs, Box bp0 [u21_Slots, u21_Objs, .int .i64 p19.NS, .int .i64 p19.NO], OwnR 81 kr_ref10_Slot u21_Slots p19.Slots, Box b1 [.int .i64 0, .int .i64 0, .int .i64 0], F]) (T := [tS 0 (bp bp0 0), tS 9 (.int .i64 t18), tE [(1, .int .i64 a1), (2, .int .i64 a2), (6, bp b1 0), (7, .bool false), (8, .int .i64 0)], tR (OwnO 72 kr_ref10_Obj u21_Objs raws22 A23 p19.Objs), tR (Box bp0 [u21_Slots, u21_Objs, .int .i64 p19.NS, .int .i64 p19.NO]), tR (OwnR 81 kr_ref10_Slot u21_Slots p19.Slots), tR (Box b1 [.int .i64 0, .int .i64 0, .int .i64 0]), tR (F), tS 33 (bp bp0 0), tS 34 (bp bp0 0), tS 35 (bp bp0 1), tS 36 (u21_Objs), tS 37 (.int .i64 t18), tS 38 (idxp u21_Objs (t18.toNat * kr_ref10_Obj.sz)), tS 39 (idxp u21_Objs (t18.toNat * kr_ref10_Obj.sz + 7)), tS 40 (.int .i64 x26.Word), tS 41 (bp bp0 0), tS 42 (bp bp0 0), tS 43 (bp bp0 1), tS 44 (u21_Objs), tS 45 (.int .i64 t18), tS 46 (idxp u21_Objs (t18.toNat * kr_ref10_Obj.sz)), tS 47 (idxp u21_Objs (t18.toNat * kr_ref10_Obj.sz + 10)), tS 48 (.int .i64 x31.Badge), tS 49 (.agg #[.int .i64 0, .int .i64 x26.Word, .int .i64 x31.Badge]), ⟨Nat, [10], (fun b36 => [(10, bp b36 0)]), (fun b36 => [Box b36 [.int .i64 0, .int .i64 0, .int .i64 0]]), fun _ => rfl⟩, ⟨Nat, [10], (fun b36 => [(10, bp b36 0)]), (fun b36 => [Box b36 [.int .i64 0, .int .i64 x26.Word, .int .i64 x31.Badge]]), fun _ => rfl⟩]) (D := [⟨[0], [], [8]⟩, ⟨[8], [], [9]⟩, ⟨[9], [], [10]⟩, ⟨[10, 4], [], [11]⟩, ⟨[1], [], [12]⟩, ⟨[11, 12, 3], [], [13]⟩, ⟨[13, 3], [], [14]⟩, ⟨[14, 3], [], [15]⟩, ⟨[0], [], [16]⟩, ⟨[16], [], [17]⟩, ⟨[17], [], [18]⟩, ⟨[18, 4], [], [19]⟩, ⟨[1], [], [20]⟩, ⟨[19, 20, 3], [], [21]⟩, ⟨[21, 3], [], [22]⟩, ⟨[22, 3], [], [23]⟩, ⟨[15, 23], [], [24]⟩, ⟨[], [], [25]⟩, ⟨[24], [25], [26]⟩]) (ini := [0, 1, 2, 3, 4, 5, 6, 7]) (fin := [0, 2, 1, 26, 3, 4, 5, 6, 7]) (bf := [[], [0], [0, 1], [0, 1, 2], [], [0, 1, 2, 3, 4], [0, 1, 2, 3, 4, 5], [0, 1, 2, 3, 4, 5, 6], [], [8], [8, 9], [8, 9, 10], [], [8, 9, 10, 11, 12], [8, 9, 10, 11, 12, 13], [8, 9, 10, 11, 12, 13, 14], [0, 1, 2, 3, 4, 5, 6, 7, 8, 9, 10, 11, 12, 13, 14, 15], [], [0, 1, 2, 3, 4, 5, 6, 7, 8, 9, 10, 11, 12, 13, 14, 15, 16, 17]]) (by kernel_rfl) (by kernel_rfl) (fun x w h1 h2 => (.cons () (.cons () (.cons () (.cons () (.cons () (.cons () (.cons () (.cons () (.nil ⟨EnvAll.of h1 ⟨rfl, rfl, rfl, rfl, rfl, rfl, rfl, trivial⟩, h2⟩)))))))))) (fun Q => by kernel_rfl) ⟨?_, ?_, ?_, ?_, ?_, ?_, ?_, ?_, ?_, ?_, ?_, ?_, ?_, ?_, ?_, ?_, ?_, ?_, ?_, trivial⟩ ?_
      · rintro Fr _
        refine SO.v rfl (opv_move rfl) ?_
        exact SO.nilZ fun a w h1 h2 h3 h4 h5 => PZ.of h1 h3 h5 (.cons () (.cons () (.nil ⟨EnvAll.of h2 ⟨rfl, rfl, trivial⟩, h4⟩)))
      · rintro Fr _
        refine SO.v rfl (opv_nilCheck rfl) ?_
        exact SO.nilZ fun a w h1 h2 h3 h4 h5 => PZ.of h1 h3 h5 (.cons () (.cons () (.nil ⟨EnvAll.of h2 ⟨rfl, rfl, trivial⟩, h4⟩)))
      · rintro Fr _
        refine SO.v rfl (opv_fieldAddr Try.underlying76 rfl Try.sizeOf74 rfl rfl) ?_
        exact SO.nilZ fun a w h1 h2 h3 h4 h5 => PZ.of h1 h3 h5 (.cons () (.cons () (.nil ⟨EnvAll.of h2 ⟨rfl, rfl, trivial⟩, h4⟩)))
      · rintro Fr _ _
        refine SO.load1 rfl Try.isAgg74 rfl rfl ?_
        exact SO.nilZ fun a w h1 h2 h3 h4 h5 => PZ.of h1 h3 h5 (.cons () (.cons () (.cons () (.nil ⟨EnvAll.of h2 ⟨rfl, rfl, trivial⟩, h4⟩))))
      · rintro Fr _
        refine SO.v rfl (opv_move rfl) ?_
        exact SO.nilZ fun a w h1 h2 h3 h4 h5 => PZ.of h1 h3 h5 (.cons () (.cons () (.nil ⟨EnvAll.of h2 ⟨rfl, rfl, trivial⟩, h4⟩)))
      · rintro Fr _ _ _
        refine SO.v rfl (opv_idx Try.underlying74 Try.sizeOf72 hR25 rfl rfl hr29) ?_
        exact SO.nilZ fun a w h1 h2 h3 h4 h5 => PZ.of h1 h3 h5 (.cons () (.cons () (.cons () (.cons () (.nil ⟨EnvAll.of h2 ⟨rfl, rfl, rfl, trivial⟩, h4⟩)))))
      · rintro Fr _ _
        refine SO.v rfl (opv_fieldIdx Try.underlying72 rfl Try.sizeOf3 hR25 hr29 rfl rfl) ?_
        exact SO.nilZ fun a w h1 h2 h3 h4 h5 => PZ.of h1 h3 h5 (.cons () (.cons () (.cons () (.nil ⟨EnvAll.of h2 ⟨rfl, rfl, trivial⟩, h4⟩))))
      · rintro Fr _ _
        refine SO.loadI1 (j := 7) rfl Try.isAgg3 (Rd.head hR25) hr29 rfl rfl rfl (hc30.val rfl) ?_
        exact SO.nilZ fun a w h1 h2 h3 h4 h5 => PZ.of h1 h3 h5 (.cons () (.cons () (.cons () (.nil ⟨EnvAll.of h2 ⟨rfl, rfl, trivial⟩, h4⟩))))
      · rintro Fr _
        refine SO.v rfl (opv_move rfl) ?_
        exact SO.nilZ fun a w h1 h2 h3 h4 h5 => PZ.of h1 h3 h5 (.cons () (.cons () (.nil ⟨EnvAll.of h2 ⟨rfl, rfl, trivial⟩, h4⟩)))
      · rintro Fr _
        refine SO.v rfl (opv_nilCheck rfl) ?_
        exact SO.nilZ fun a w h1 h2 h3 h4 h5 => PZ.of h1 h3 h5 (.cons () (.cons () (.nil ⟨EnvAll.of h2 ⟨rfl, rfl, trivial⟩, h4⟩)))
      · rintro Fr _
        refine SO.v rfl (opv_fieldAddr Try.underlying76 rfl Try.sizeOf74 rfl rfl) ?_
        exact SO.nilZ fun a w h1 h2 h3 h4 h5 => PZ.of h1 h3 h5 (.cons () (.cons () (.nil ⟨EnvAll.of h2 ⟨rfl, rfl, trivial⟩, h4⟩)))
      · rintro Fr _ _
        refine SO.load1 rfl Try.isAgg74 rfl rfl ?_
        exact SO.nilZ fun a w h1 h2 h3 h4 h5 => PZ.of h1 h3 h5 (.cons () (.cons () (.cons () (.nil ⟨EnvAll.of h2 ⟨rfl, rfl, trivial⟩, h4⟩))))
      · rintro Fr _
        refine SO.v rfl (opv_move rfl) ?_
        exact SO.nilZ fun a w h1 h2 h3 h4 h5 => PZ.of h1 h3 h5 (.cons () (.cons () (.nil ⟨EnvAll.of h2 ⟨rfl, rfl, trivial⟩, h4⟩)))
      · rintro Fr _ _ _
        refine SO.v rfl (opv_idx Try.underlying74 Try.sizeOf72 hR25 rfl rfl hr34) ?_
        exact SO.nilZ fun a w h1 h2 h3 h4 h5 => PZ.of h1 h3 h5 (.cons () (.cons () (.cons () (.cons () (.nil ⟨EnvAll.of h2 ⟨rfl, rfl, rfl, trivial⟩, h4⟩)))))
      · rintro Fr _ _
        refine SO.v rfl (opv_fieldIdx Try.underlying72 rfl Try.sizeOf3 hR25 hr34 rfl rfl) ?_
        exact SO.nilZ fun a w h1 h2 h3 h4 h5 => PZ.of h1 h3 h5 (.cons () (.cons () (.cons () (.nil ⟨EnvAll.of h2 ⟨rfl, rfl, trivial⟩, h4⟩))))
      · rintro Fr _ _
        refine SO.loadI1 (j := 10) rfl Try.isAgg3 (Rd.head hR25) hr34 rfl rfl rfl (hc35.val rfl) ?_
        exact SO.nilZ fun a w h1 h2 h3 h4 h5 => PZ.of h1 h3 h5 (.cons () (.cons () (.cons () (.nil ⟨EnvAll.of h2 ⟨rfl, rfl, trivial⟩, h4⟩))))
      · rintro Fr _ _
        refine SO.v rfl (opv_build (v := .agg #[.int .i64 0, .int .i64 x26.Word, .int .i64 x31.Badge]) rfl (by intro w; kernel_rfl)) ?_
        exact SO.nilZ fun a w h1 h2 h3 h4 h5 => PZ.of h1 h3 h5 (.cons () (.cons () (.cons () (.nil ⟨EnvAll.of h2 ⟨rfl, rfl, rfl, trivial⟩, h4⟩))))
      · rintro Fr 
        refine SO.alloc rfl Try.zeroValue41 rfl (fun b36 => ?_)
        exact SO.nilZ fun a w h1 h2 h3 h4 h5 => PZ.of h1 h3 h5 (.cons b36 (.nil ⟨EnvAll.of h2 ⟨rfl, trivial⟩, h4⟩))
      · rintro Fr _ b36
        refine SO.storeN Try.sizeOf41 rfl rfl rfl rfl rfl rfl ?_
        exact SO.nilZ fun a w h1 h2 h3 h4 h5 => PZ.of h1 h3 h5 (.cons () (.cons b36 (.nil ⟨EnvAll.of h2 ⟨rfl, rfl, trivial⟩, h4⟩)))
      rintro _ _ _ b36 _ _ _ _ _
      refine S.to (ρ' := [(0, bp bp0 0), (1, .int .i64 a1), (2, .int .i64 a2), (6, bp b1 0), (7, .bool false), (8, .int .i64 0), (9, .int .i64 t18), (10, bp b36 0)]) ⟨rfl, rfl, rfl, rfl, rfl, rfl, rfl, rfl, trivial⟩ ?_
      refine S.seq ?_
      refine S.seq ?_
      refine S.region ?_
      refine SO.v rfl (opv_move rfl) ?_
      refine SO.v rfl (opv_nilCheck rfl) ?_
      refine SO.v rfl (opv_fieldAddr Try.underlying76 rfl Try.sizeOf74 rfl rfl) ?_
      refine SO.b2 ?_
      refine SO.load1 rfl Try.isAgg74 rfl rfl ?_
      refine SO.v rfl (opv_move rfl) ?_
      obtain ⟨x37, hx38, h⟩ := opt_bind h
      obtain ⟨r39, hr40, hc41⟩ := relR.at hrel24 hx38
      refine SO.v rfl (opv_idx Try.underlying74 Try.sizeOf72 hR25 rfl rfl hr40) ?_
      refine SO.v rfl (opv_fieldIdx Try.underlying72 rfl Try.sizeOf3 hR25 hr40 rfl rfl) ?_
      refine SO.loadI1 (j := 8) rfl Try.isAgg3 (Rd.tail (Rd.tail (Rd.head hR25))) hr40 rfl rfl rfl (hc41.val rfl) ?_
      refine SO.v rfl (opv_eql rfl rfl) ?_
      refine SO.nil ?_
      refine S.to (ρ' := [(0, bp bp0 0), (1, .int .i64 a1), (2, .int .i64 a2), (6, bp b1 0), (7, .bool false), (8, .int .i64 0), (9, .int .i64 t18), (10, bp b36 0), (58, .bool (x37.State == 6))]) ⟨rfl, rfl, rfl, rfl, rfl, rfl, rfl, rfl, rfl, trivial⟩ ?_
      obtain ⟨⟨yp0_0_1, yp0_1_1, yp0_2_1, yp0_3_1⟩, hC1, hJ1⟩ := opt_bind h
      clear h
      refine S.cutP (G := (Value × Value)) (fun _ => True) (fun x => match x with | (vyp0_0_1, vyp0_1_1) => [(0, bp bp0 0), (1, .int .i64 a1), (6, bp b1 0), (7, .bool false), (8, .int .i64 0), (10, bp b36 0)]) (fun x => match x with | (vyp0_0_1, vyp0_1_1) => [OwnR 72 kr_ref10_Obj vyp0_1_1 yp0_1_1, OwnR 81 kr_ref10_Slot vyp0_0_1 yp0_0_1, Box bp0 [vyp0_0_1, vyp0_1_1, .int .i64 yp0_2_1, .int .i64 yp0_3_1], Box b36 [.int .i64 0, .int .i64 x26.Word, .int .i64 x31.Badge], Box b1 [.int .i64 0, .int .i64 0, .int .i64 0], F]) (fun hk1 => ?_) ?_
      · replace h := hC1
        rcases bool_or (x37.State == 6) with b42 | b42
        · replace h := cond_t b42 h
          refine S.condT rfl b42 ?_
          refine S.region ?_
          refine SO.v rfl (opv_move rfl) ?_
          refine SO.v rfl (opv_move rfl) ?_
          refine SO.v rfl (opv_move rfl) ?_
          obtain ⟨p43, ht44, h⟩ := opt_bind h
          refine SO.b2 ?_
          refine SO.closeR ?_
          refine SO.b3 ?_
          refine SO.b2 ?_
          refine SO.call (pre := [Box _ _, OwnR _ _ _ _, OwnR _ _ _ _]) rfl Try.call61 rfl rfl rfl (ref10_State_owe.ct bp0 u21_Slots u21_Objs _ _ _ _ ht44) trivial ?_
          rintro _ _ ⟨u45_Slots, u45_Objs, rfl, rfl⟩
          refine SO.nil ?_
          refine S.to (ρ' := [(0, bp bp0 0), (1, .int .i64 a1), (6, bp b1 0), (7, .bool false), (8, .int .i64 0), (10, bp b36 0)]) ⟨rfl, rfl, rfl, rfl, rfl, rfl, trivial⟩ ?_
          cases h
          refine S.b5 ?_
          refine S.b5 ?_
          refine S.b5 ?_
          refine S.b3 ?_
          refine S.b4 ?_
          refine S.b5 ?_
          refine S.to ?_ (hk1 (u45_Slots, u45_Objs) trivial)
          exact ⟨rfl, rfl, rfl, rfl, rfl, rfl, trivial⟩
        · replace h := cond_f b42 h
          refine S.condF rfl b42 ?_
          refine S.region ?_
          refine SO.v rfl (opv_move rfl) ?_
          refine SO.v rfl (opv_move rfl) ?_
          obtain ⟨p46, ht47, h⟩ := opt_bind h
          refine SO.b2 ?_
          refine SO.closeR ?_
          refine SO.b3 ?_
          refine SO.b2 ?_
          refine SO.call (pre := [Box _ _, OwnR _ _ _ _, OwnR _ _ _ _]) rfl Try.call54 rfl rfl rfl (ref10_State_Wake.ct bp0 u21_Slots u21_Objs _ _ _ _ _ ht47) trivial ?_
          rintro _ _ ⟨u48_Slots, u48_Objs, rfl, rfl⟩
          refine SO.nil ?_
          cases h
          refine S.b5 ?_
          refine S.b5 ?_
          refine S.b5 ?_
          refine S.b3 ?_
          refine S.b4 ?_
          refine S.b5 ?_
          refine S.to ?_ (hk1 (u48_Slots, u48_Objs) trivial)
          exact ⟨rfl, rfl, rfl, rfl, rfl, rfl, trivial⟩
      rintro ⟨vyp0_0_1, vyp0_1_1⟩ -
      replace h := hJ1
      refine S.seq ?_
      refine S.region ?_
      refine SO.v rfl (opv_move rfl) ?_
      refine SO.v rfl (opv_move rfl) ?_
      obtain ⟨p49, ht50, h⟩ := opt_bind h
      refine SO.b1 ?_
      refine SO.b2 ?_
      have ct52 := ref10_State_rest.ct bp0 vyp0_0_1 vyp0_1_1 _ _ _ ht50
      dsimp only at ct52
      refine SO.call (pre := [Box _ _, OwnR _ _ _ _, OwnR _ _ _ _]) rfl Try.call60 rfl rfl rfl ct52 trivial ?_
      rintro _ _ ⟨u51_Slots, u51_Objs, rfl, rfl⟩
      refine SO.nil ?_
      refine S.seq ?_
      refine S.region ?_
      refine SO.b3 ?_
      refine SO.loadN rfl Try.isAgg41 Try.sizeOf41 rfl rfl rfl ?_
      refine SO.b4 ?_
      refine SO.storeN Try.sizeOf41 rfl rfl rfl rfl rfl rfl ?_
      refine SO.v rfl (opv_assign rfl) ?_
      refine SO.v rfl (opv_assign rfl) ?_
      refine SO.nil ?_
      refine S.to (ρ' := [(6, bp b1 0), (7, .bool true), (8, .int .i64 0)]) ⟨rfl, rfl, rfl, trivial⟩ ?_
      cases h
      refine S.b1 ?_
      refine S.drop ?_
      refine S.b4 ?_
      refine S.b4 ?_
      refine S.b4 ?_
      refine S.b4 ?_
      refine S.b4 ?_
      exact S.retC2 Try.func28 rfl rfl rfl rfl Try.isAgg41 Try.sizeOf41 rfl rfl (fun w hs hk => hR w _ _ ⟨u51_Slots, u51_Objs, rfl, rfl⟩ hs.drop hk)
    · replace h := cond_f b17 h
      refine S.condF rfl b17 ?_
      refine S.skip ?_
      refine S.seq ?_
      refine S.region ?_
      refine SO.v rfl (opv_move rfl) ?_
      refine SO.v rfl (opv_move rfl) ?_
      refine SO.v rfl (opv_move rfl) ?_
      obtain ⟨p53, ht54, h⟩ := opt_bind h
      refine SO.b1 ?_
      refine SO.closeR ?_
      refine SO.b3 ?_
      refine SO.b2 ?_
      refine SO.call (pre := [Box _ _, OwnR _ _ _ _, OwnR _ _ _ _]) rfl Try.call62 rfl rfl rfl (ref10_State_Block.ct bp0 v0_Slots v0_Objs _ _ _ _ _ ht54) trivial ?_
      rintro _ _ ⟨u55_Slots, u55_Objs, rfl, rfl⟩
      refine SO.nil ?_
      refine S.seq ?_
      refine S.region ?_
      refine SO.v rfl (opv_move rfl) ?_
      refine SO.v rfl (opv_nilCheck rfl) ?_
      refine SO.v rfl (opv_fieldAddr Try.underlying76 rfl Try.sizeOf74 rfl rfl) ?_
      refine SO.load1 rfl Try.isAgg74 rfl rfl ?_
      refine SO.v rfl (opv_move rfl) ?_
      refine SO.b2 ?_
      refine SO.openR fun raws61 A62 hrel63 hR64 => ?_
      obtain ⟨x56, hx57, h⟩ := opt_bind h
      obtain ⟨r58, hr59, hc60⟩ := relR.at hrel63 hx57
      refine SO.v rfl (opv_idx Try.underlying74 Try.sizeOf72 hR64 rfl rfl hr59) ?_
      refine SO.v rfl (opv_fieldIdx Try.underlying72 rfl Try.sizeOf3 hR64 hr59 rfl rfl) ?_
      refine SO.storeO1 (j := 5) (q := .val (.int .i64 2)) (z' := ({ x56 with Wait := 2 } : ref10_Obj)) Try.sizeOf3 hrel63 hx57 rfl rfl rfl rfl rfl rfl rfl (fun raws65 hrel66 hR67 => ?_)
      refine SO.nil ?_
      refine S.to (ρ' := [(6, bp b1 0), (7, .bool false), (8, .int .i64 0)]) ⟨rfl, rfl, rfl, trivial⟩ ?_
      refine S.seq ?_
      refine S.region ?_
      refine SO.v rfl (opv_build (v := .agg #[.int .i64 0, .int .i64 0, .int .i64 0]) rfl (by intro w; kernel_rfl)) ?_
      refine SO.b3 ?_
      refine SO.storeN Try.sizeOf41 rfl rfl rfl rfl rfl rfl ?_
      refine SO.v rfl (opv_assign rfl) ?_
      refine SO.v rfl (opv_assign rfl) ?_
      refine SO.nil ?_
      cases h
      refine S.b1 ?_
      refine S.closeR ?_
      refine S.b4 ?_
      refine S.b1 ?_
      refine S.b4 ?_
      refine S.b4 ?_
      refine S.b4 ?_
      exact S.retC2 Try.func28 rfl rfl rfl rfl Try.isAgg41 Try.sizeOf41 rfl rfl (fun w hs hk => hR w _ _ ⟨u55_Slots, u55_Objs, rfl, rfl⟩ hs.drop hk)
end Go.Proofs
