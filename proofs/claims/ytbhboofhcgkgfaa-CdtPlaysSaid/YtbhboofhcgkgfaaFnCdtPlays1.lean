/- What the functions that CdtPlays reaches come to, and that they do. On no condition. -/
import Derived.Test.YtbhboofhcgkgfaaFnCdtPlays0
set_option linter.all false
namespace Go.Proofs
open Go.Sl Go.RowKit
/-! 14 (*padstone/padstoneref10.State).Replace -/
def ref10_State_Replace.l2 (a1 : Int) (a2 : Int) : Nat → (Int × (List Int)) → Option ((List Int))
  | 0, _ => none
  | k + 1, (x11_2, qv53_2) => bif decide (x11_2 < (qv53_2.length : Int)) then ((at_ qv53_2 x11_2).bind fun x57 => bif x57 == a1 then ((at_ qv53_2 x11_2).bind fun x60 => ref10_State_Replace.l2 a1 a2 k (w64 (x11_2 + 1), qv53_2.set x11_2.toNat a2)) else (ref10_State_Replace.l2 a1 a2 k (w64 (x11_2 + 1), qv53_2))) else (some qv53_2)
def ref10_State_Replace.l3 (a2 : Int) : Nat → (Int × (List ref10_Slot)) → Option ((List ref10_Slot))
  | 0, _ => none
  | k + 1, (x12_3, qv0_Slots_3) => (at_ qv0_Slots_3 a2).bind fun x125 => bif decide (x12_3 < (x125.Kids.length : Int)) then ((at_ qv0_Slots_3 a2).bind fun x138 => (at_ x138.Kids x12_3).bind fun x146 => (at_ qv0_Slots_3 x146).bind fun x148 => ref10_State_Replace.l3 a2 k (w64 (x12_3 + 1), qv0_Slots_3.set x146.toNat ({ x148 with Parent := a2 } : ref10_Slot))) else (some qv0_Slots_3)
def ref10_State_Replace.f (k : Nat) (a0 : ref10_State) (a1 : Int) (a2 : Int) : Option ((Int × ref10_State)) :=
  (ref10_slot.f a1).bind fun t1 => (ref10_slot.f a2).bind fun t3 => bif (!t1) || (!t3) then (some (2, a0)) else ((bif a1 == a2 then (some true) else ((at_ a0.Slots a2).bind fun x14 => some (decide (0 ≤ x14.Parent)))).bind fun c12 => (bif c12 then (some true) else ((at_ a0.Slots a2).bind fun x26 => some (decide (0 < (x26.Kids.length : Int))))).bind fun c24 => bif c24 then (some (10, a0)) else ((at_ a0.Slots a1).bind fun x35 => (bif decide (0 ≤ x35.Parent) then ((at_ a0.Slots x35.Parent).bind fun x43 => (app ([]) x43.Kids).bind fun zs51 => (ref10_State_Replace.l2 a1 a2 k (0, zs51)).bind fun qv53_e2 => (at_ a0.Slots x35.Parent).bind fun x64 => some (a0.Slots.set x35.Parent.toNat ({ x64 with Kids := qv53_e2 } : ref10_Slot))) else (some a0.Slots)).bind fun qv0_Slots_1 => (at_ qv0_Slots_1 a2).bind fun x77 => (at_ (qv0_Slots_1.set a2.toNat ({ x77 with Parent := x35.Parent } : ref10_Slot)) a1).bind fun x89 => (at_ ((qv0_Slots_1.set a2.toNat ({ x77 with Parent := x35.Parent } : ref10_Slot)).set a1.toNat ({ x89 with Parent := -1 } : ref10_Slot)) a1).bind fun x97 => (at_ ((qv0_Slots_1.set a2.toNat ({ x77 with Parent := x35.Parent } : ref10_Slot)).set a1.toNat ({ x89 with Parent := -1 } : ref10_Slot)) a2).bind fun x105 => (at_ (((qv0_Slots_1.set a2.toNat ({ x77 with Parent := x35.Parent } : ref10_Slot)).set a1.toNat ({ x89 with Parent := -1 } : ref10_Slot)).set a2.toNat ({ x105 with Kids := x97.Kids } : ref10_Slot)) a1).bind fun x113 => (ref10_State_Replace.l3 a2 k (0, (((qv0_Slots_1.set a2.toNat ({ x77 with Parent := x35.Parent } : ref10_Slot)).set a1.toNat ({ x89 with Parent := -1 } : ref10_Slot)).set a2.toNat ({ x105 with Kids := x97.Kids } : ref10_Slot)).set a1.toNat ({ x113 with Kids := [] } : ref10_Slot))).bind fun qv0_Slots_e3 => some (0, ({ a0 with Slots := qv0_Slots_e3 } : ref10_State))))
set_option maxHeartbeats 8000000 in
set_option maxRecDepth 100000 in
theorem ref10_State_Replace.ct (k : Nat) (bp0 : Nat) (v0_Slots : Value) (v0_Objs : Value) (a0 : ref10_State) (a1 : Int) (a2 : Int) (r0 : Int) (rp0 : ref10_State) (h : ref10_State_Replace.f k a0 a1 a2 = some (r0, rp0)) :
    Ct Try.prog 14 [bp bp0 0, .int .i64 a1, .int .i64 a2] (fun _ => True) [Box bp0 [v0_Slots, v0_Objs, .int .i64 a0.NS, .int .i64 a0.NO], OwnR 46 kr_ref10_Slot v0_Slots a0.Slots, OwnR 56 kr_ref10_Obj v0_Objs a0.Objs] (fun u H' => ∃ rw0_Slots rw0_Objs, u = .int .i64 r0 ∧ H' = [Box bp0 [rw0_Slots, rw0_Objs, .int .i64 rp0.NS, .int .i64 rp0.NO], OwnR 46 kr_ref10_Slot rw0_Slots rp0.Slots, OwnR 56 kr_ref10_Obj rw0_Objs rp0.Objs]) := by
  unfold ref10_State_Replace.f at h
  refine Ct.intro (n := 161) Try.func14 rfl rfl rfl ?_
  intro R w0 F hF hR
  refine S.seq ?_
  refine S.region ?_
  refine SO.v rfl (opv_assign rfl) ?_
  refine SO.nil ?_
  refine S.seq ?_
  refine S.region ?_
  refine SO.v rfl (opv_move rfl) ?_
  obtain ⟨t1, ht2, h⟩ := opt_bind h
  refine SO.call (pre := []) rfl Try.call26 rfl rfl rfl (ref10_slot.ct _ _ ht2) trivial ?_
  rintro _ _ ⟨rfl, rfl⟩
  refine SO.v rfl (opv_assign rfl) ?_
  refine SO.nil ?_
  refine S.seq ?_
  refine S.region ?_
  refine SO.v rfl (opv_move rfl) ?_
  obtain ⟨t3, ht4, h⟩ := opt_bind h
  refine SO.call (pre := []) rfl Try.call26 rfl rfl rfl (ref10_slot.ct _ _ ht4) trivial ?_
  rintro _ _ ⟨rfl, rfl⟩
  refine SO.v rfl (opv_assign rfl) ?_
  refine SO.nil ?_
  refine S.seq ?_
  refine S.seq ?_
  refine S.region ?_
  refine SO.v rfl (opv_move rfl) ?_
  refine SO.v rfl (opv_not rfl) ?_
  refine SO.v rfl (opv_move rfl) ?_
  refine SO.cut 3 22 (.bool ((!t1) || (!t3))) [Box bp0 [v0_Slots, v0_Objs, .int .i64 a0.NS, .int .i64 a0.NO], OwnR 46 kr_ref10_Slot v0_Slots a0.Slots, OwnR 56 kr_ref10_Obj v0_Objs a0.Objs, F] (fun l2 hk2 => ?_) ?_
  · rcases bool_or (!t1) with b5 | b5
    · refine SO.passF rfl rfl rfl b5 rfl rfl ?_
      refine SO.passF rfl rfl rfl b5 rfl rfl ?_
      refine SO.v rfl (opv_pick_t' b5 rfl rfl) ?_
      refine SO.b3 ?_
      refine SO.b3 ?_
      refine SO.b3 ?_
      refine SO.b3 ?_
      exact hk2.fitc (m := 3) rfl (or_t b5) rfl
    · refine SO.takeT rfl rfl rfl b5 ?_
      refine SO.v rfl (opv_move rfl) ?_
      refine SO.takeT rfl rfl rfl b5 ?_
      refine SO.v rfl (opv_not rfl) ?_
      refine SO.v rfl (opv_pick_f' b5 rfl rfl) ?_
      refine SO.b3 ?_
      refine SO.b3 ?_
      refine SO.b3 ?_
      refine SO.b3 ?_
      exact hk2.fitc (m := 3) rfl (or_f b5) rfl
  refine SO.nil ?_
  refine S.to (ρ' := [(0, bp bp0 0), (1, .int .i64 a1), (2, .int .i64 a2), (6, .int .i64 0), (22, .bool ((!t1) || (!t3)))]) ⟨rfl, rfl, rfl, rfl, rfl, trivial⟩ ?_
  rcases bool_or ((!t1) || (!t3)) with b6 | b6
  · replace h := cond_t b6 h
    refine S.condT rfl b6 ?_
    refine S.seq ?_
    refine S.region ?_
    refine SO.v rfl (opv_assign rfl) ?_
    refine SO.nil ?_
    cases h
    refine S.b3 ?_
    refine S.b3 ?_
    refine S.b3 ?_
    refine S.b3 ?_
    exact S.ret1 Try.func14 rfl rfl (fun w hs hk => hR w _ _ ⟨v0_Slots, v0_Objs, rfl, rfl⟩ hs hk)
  · replace h := cond_f b6 h
    refine S.condF rfl b6 ?_
    refine S.skip ?_
    refine S.seq ?_
    refine S.seq ?_
    refine S.region ?_
    refine SO.v rfl (opv_move rfl) ?_
    refine SO.v rfl (opv_move rfl) ?_
    refine SO.v rfl (opv_eql rfl rfl) ?_
    refine SO.v rfl (opv_move rfl) ?_
    refine SO.b1 ?_
    refine SO.openR fun raws7 A8 hrel9 hR10 => ?_
    obtain ⟨c12, hc13, hgk⟩ := opt_bind h
    refine SO.cut 10 36 (.bool c12) [OwnO 46 kr_ref10_Slot v0_Slots raws7 A8 a0.Slots, Box bp0 [v0_Slots, v0_Objs, .int .i64 a0.NS, .int .i64 a0.NO], OwnR 56 kr_ref10_Obj v0_Objs a0.Objs, F] (fun l2 hk2 => ?_) ?_
    · clear hgk
      replace h := hc13
      rcases bool_or (a1 == a2) with b11 | b11
      · replace h := cond_t b11 h
        refine SO.passF rfl rfl rfl b11 rfl rfl ?_
        refine SO.passF rfl rfl rfl b11 rfl rfl ?_
        refine SO.passF rfl rfl rfl b11 rfl rfl ?_
        refine SO.passF rfl rfl rfl b11 rfl rfl ?_
        refine SO.passF rfl rfl rfl b11 rfl rfl ?_
        refine SO.passF rfl rfl rfl b11 rfl rfl ?_
        refine SO.passF rfl rfl rfl b11 rfl rfl ?_
        refine SO.passF rfl rfl rfl b11 rfl rfl ?_
        refine SO.passF rfl rfl rfl b11 rfl rfl ?_
        cases h
        refine SO.v rfl (opv_pick_t' b11 rfl rfl) ?_
        refine SO.b3 ?_
        refine SO.b3 ?_
        refine SO.b3 ?_
        refine SO.b3 ?_
        exact hk2.fitc (m := 10) rfl (rfl) rfl
      · replace h := cond_f b11 h
        refine SO.takeT rfl rfl rfl b11 ?_
        refine SO.v rfl (opv_move rfl) ?_
        refine SO.takeT rfl rfl rfl b11 ?_
        refine SO.v rfl (opv_nilCheck rfl) ?_
        refine SO.takeT rfl rfl rfl b11 ?_
        refine SO.v rfl (opv_fieldAddr Try.underlying50 rfl Try.sizeOf47 rfl rfl) ?_
        refine SO.takeT rfl rfl rfl b11 ?_
        refine SO.b1 ?_
        refine SO.load1 rfl Try.isAgg47 rfl rfl ?_
        refine SO.takeT rfl rfl rfl b11 ?_
        refine SO.v rfl (opv_move rfl) ?_
        refine SO.takeT rfl rfl rfl b11 ?_
        obtain ⟨x14, hx15, h⟩ := opt_bind h
        obtain ⟨r16, hr17, hc18⟩ := relR.at hrel9 hx15
        refine SO.v rfl (opv_idx Try.underlying47 Try.sizeOf46 hR10 rfl rfl hr17) ?_
        refine SO.takeT rfl rfl rfl b11 ?_
        refine SO.v rfl (opv_fieldIdx Try.underlying46 rfl Try.sizeOf3 hR10 hr17 rfl rfl) ?_
        refine SO.takeT rfl rfl rfl b11 ?_
        refine SO.loadI1 (j := 6) rfl Try.isAgg3 (Rd.tail (Rd.head hR10)) hr17 rfl rfl rfl (hc18.val rfl) ?_
        refine SO.takeT rfl rfl rfl b11 ?_
        refine SO.v rfl (opv_geq rfl rfl) ?_
        cases h
        refine SO.v rfl (opv_pick_f' b11 rfl rfl) ?_
        refine SO.b3 ?_
        refine SO.b3 ?_
        refine SO.b2 ?_
        refine SO.b3 ?_
        exact hk2.fitc (m := 10) rfl (rfl) rfl
    clear hc13
    replace h := hgk
    refine SO.v rfl (opv_move rfl) ?_
    refine SO.b2 ?_
    refine SO.openR fun raws19 A20 hrel21 hR22 => ?_
    obtain ⟨c24, hc25, hgk⟩ := opt_bind h
    refine SO.cut 11 48 (.bool c24) [OwnO 56 kr_ref10_Obj v0_Objs raws19 A20 a0.Objs, OwnO 46 kr_ref10_Slot v0_Slots raws7 A8 a0.Slots, Box bp0 [v0_Slots, v0_Objs, .int .i64 a0.NS, .int .i64 a0.NO], F] (fun l2 hk2 => ?_) ?_
    · clear hgk
      replace h := hc25
      rcases bool_or c12 with b23 | b23
      · replace h := cond_t b23 h
        refine SO.passF rfl rfl rfl b23 rfl rfl ?_
        refine SO.passF rfl rfl rfl b23 rfl rfl ?_
        refine SO.passF rfl rfl rfl b23 rfl rfl ?_
        refine SO.passF rfl rfl rfl b23 rfl rfl ?_
        refine SO.passF rfl rfl rfl b23 rfl rfl ?_
        refine SO.passF rfl rfl rfl b23 rfl rfl ?_
        refine SO.passF rfl rfl rfl b23 rfl rfl ?_
        refine SO.passF rfl rfl rfl b23 rfl rfl ?_
        refine SO.passF rfl rfl rfl b23 rfl rfl ?_
        refine SO.passF rfl rfl rfl b23 rfl rfl ?_
        cases h
        refine SO.v rfl (opv_pick_t' b23 rfl rfl) ?_
        refine SO.b3 ?_
        refine SO.b3 ?_
        refine SO.b3 ?_
        refine SO.b3 ?_
        exact hk2.fitc (m := 11) rfl (rfl) rfl
      · replace h := cond_f b23 h
        refine SO.takeT rfl rfl rfl b23 ?_
        refine SO.v rfl (opv_move rfl) ?_
        refine SO.takeT rfl rfl rfl b23 ?_
        refine SO.v rfl (opv_nilCheck rfl) ?_
        refine SO.takeT rfl rfl rfl b23 ?_
        refine SO.v rfl (opv_fieldAddr Try.underlying50 rfl Try.sizeOf47 rfl rfl) ?_
        refine SO.takeT rfl rfl rfl b23 ?_
        refine SO.b2 ?_
        refine SO.load1 rfl Try.isAgg47 rfl rfl ?_
        refine SO.takeT rfl rfl rfl b23 ?_
        refine SO.v rfl (opv_move rfl) ?_
        refine SO.takeT rfl rfl rfl b23 ?_
        obtain ⟨x26, hx27, h⟩ := opt_bind h
        obtain ⟨r28, hr29, hc30⟩ := relR.at hrel9 hx27
        refine SO.v rfl (opv_idx Try.underlying47 Try.sizeOf46 hR10 rfl rfl hr29) ?_
        refine SO.takeT rfl rfl rfl b23 ?_
        refine SO.v rfl (opv_fieldIdx Try.underlying46 rfl Try.sizeOf41 hR10 hr29 rfl rfl) ?_
        refine SO.takeT rfl rfl rfl b23 ?_
        obtain ⟨u31, hu32, hru33⟩ := hc30.sl 7 rfl
        refine SO.loadI1 (j := 7) rfl Try.isAgg41 (Rd.tail (Rd.tail (Rd.head hR10))) hr29 rfl rfl rfl hu32 ?_
        refine SO.takeT rfl rfl rfl b23 ?_
        refine SO.v rfl (opv_lenR rfl Try.underlying41 hru33 rfl) ?_
        refine SO.takeT rfl rfl rfl b23 ?_
        refine SO.v rfl (opv_gtr rfl rfl) ?_
        cases h
        refine SO.v rfl (opv_pick_f' b23 rfl rfl) ?_
        refine SO.b3 ?_
        refine SO.b1 ?_
        refine SO.b3 ?_
        refine SO.b3 ?_
        exact hk2.fitc (m := 11) rfl (rfl) rfl
    clear hc25
    replace h := hgk
    refine SO.nil ?_
    refine S.to (ρ' := [(0, bp bp0 0), (1, .int .i64 a1), (2, .int .i64 a2), (6, .int .i64 0), (48, .bool c24)]) ⟨rfl, rfl, rfl, rfl, rfl, trivial⟩ ?_
    rcases bool_or c24 with b34 | b34
    · replace h := cond_t b34 h
      refine S.condT rfl b34 ?_
      refine S.seq ?_
      refine S.region ?_
      refine SO.v rfl (opv_assign rfl) ?_
      refine SO.nil ?_
      cases h
      refine S.closeR ?_
      refine S.b1 ?_
      refine S.closeR ?_
      refine S.b3 ?_
      refine S.b2 ?_
      refine S.b2 ?_
      refine S.b3 ?_
      exact S.ret1 Try.func14 rfl rfl (fun w hs hk => hR w _ _ ⟨v0_Slots, v0_Objs, rfl, rfl⟩ hs hk)
    · replace h := cond_f b34 h
      refine S.condF rfl b34 ?_
      refine S.skip ?_
      refine S.seq ?_
      refine S.region ?_
      refine SO.v rfl (opv_move rfl) ?_
      refine SO.v rfl (opv_nilCheck rfl) ?_
      refine SO.v rfl (opv_fieldAddr Try.underlying50 rfl Try.sizeOf47 rfl rfl) ?_
      refine SO.b2 ?_
      refine SO.load1 rfl Try.isAgg47 rfl rfl ?_
      refine SO.v rfl (opv_move rfl) ?_
      obtain ⟨x35, hx36, h⟩ := opt_bind h
      obtain ⟨r37, hr38, hc39⟩ := relR.at hrel9 hx36
      refine SO.v rfl (opv_idx Try.underlying47 Try.sizeOf46 hR10 rfl rfl hr38) ?_
      refine SO.v rfl (opv_fieldIdx Try.underlying46 rfl Try.sizeOf3 hR10 hr38 rfl rfl) ?_
      refine SO.loadI1 (j := 6) rfl Try.isAgg3 (Rd.tail (Rd.tail (Rd.head hR10))) hr38 rfl rfl rfl (hc39.val rfl) ?_
      refine SO.v rfl (opv_assign rfl) ?_
      refine SO.nil ?_
      refine S.to (ρ' := [(0, bp bp0 0), (1, .int .i64 a1), (2, .int .i64 a2), (6, .int .i64 0), (9, .int .i64 x35.Parent)]) ⟨rfl, rfl, rfl, rfl, rfl, trivial⟩ ?_
      refine S.seq ?_
      refine S.seq ?_
      refine S.region ?_
      refine SO.v rfl (opv_move rfl) ?_
      refine SO.v rfl (opv_geq rfl rfl) ?_
      refine SO.nil ?_
      obtain ⟨qv0_Slots_1, hC1, hJ1⟩ := opt_bind h
      clear h
      refine S.cutP (G := Unit) (fun _ => True) (fun _ => [(0, bp bp0 0), (1, .int .i64 a1), (2, .int .i64 a2), (6, .int .i64 0), (9, .int .i64 x35.Parent)]) (fun _ => [Box bp0 [v0_Slots, v0_Objs, .int .i64 a0.NS, .int .i64 a0.NO], OwnO 56 kr_ref10_Obj v0_Objs raws19 A20 a0.Objs, OwnR 46 kr_ref10_Slot v0_Slots qv0_Slots_1, F]) (fun hk1 => ?_) ?_
      · replace h := hC1
        rcases bool_or (decide (0 ≤ x35.Parent)) with b40 | b40
        · replace h := cond_t b40 h
          refine S.condT rfl b40 ?_
          refine S.seq ?_
          refine S.region ?_
          refine SO.buildSlice0 (ekI .i64) rfl Try.underlying41 Try.sizeOf3 (fun v41 hr42 => ?_)
          refine SO.v rfl (opv_move rfl) ?_
          refine SO.v rfl (opv_nilCheck rfl) ?_
          refine SO.v rfl (opv_fieldAddr Try.underlying50 rfl Try.sizeOf47 rfl rfl) ?_
          refine SO.b1 ?_
          refine SO.load1 rfl Try.isAgg47 rfl rfl ?_
          refine SO.v rfl (opv_move rfl) ?_
          obtain ⟨x43, hx44, h⟩ := opt_bind h
          obtain ⟨r45, hr46, hc47⟩ := relR.at hrel9 hx44
          refine SO.v rfl (opv_idx Try.underlying47 Try.sizeOf46 hR10 rfl rfl hr46) ?_
          refine SO.v rfl (opv_fieldIdx Try.underlying46 rfl Try.sizeOf41 hR10 hr46 rfl rfl) ?_
          obtain ⟨u48, hu49, hru50⟩ := hc47.sl 7 rfl
          refine SO.loadI1 (j := 7) rfl Try.isAgg41 (Rd.tail (Rd.tail (Rd.tail (Rd.head hR10)))) hr46 rfl rfl rfl hu49 ?_
          obtain ⟨zs51, hz52, h⟩ := opt_bind h
          refine SO.b1 ?_
          refine SO.append rfl Try.underlying41 Try.underlying41 inf3 rfl rfl rfl (by decide) rfl rfl rfl (Rd.tail (Rd.tail (Rd.head (Rd.pool hru50)))) hz52 (fun v53 => ?_)
          refine SO.rd fun hr54 => ?_
          refine SO.v rfl (opv_assign rfl) ?_
          refine SO.nil ?_
          refine S.to (ρ' := [(0, bp bp0 0), (1, .int .i64 a1), (2, .int .i64 a2), (6, .int .i64 0), (9, .int .i64 x35.Parent), (10, v53)]) ⟨rfl, rfl, rfl, rfl, rfl, rfl, trivial⟩ ?_
          refine S.seq ?_
          refine S.seq ?_
          refine S.region ?_
          refine SO.v rfl (opv_assign rfl) ?_
          refine SO.nil ?_
          obtain ⟨qv53_e2, hl2, h⟩ := opt_bind h
          refine S.b4 ?_
          refine S.b4 ?_
          refine S.b4 ?_
          refine S.b4 ?_
          refine S.b4 ?_
          refine S.to (ρ' := [(11, .int .i64 0), (0, bp bp0 0), (1, .int .i64 a1), (2, .int .i64 a2), (6, .int .i64 0), (9, .int .i64 x35.Parent), (10, v53)]) ⟨rfl, rfl, rfl, rfl, rfl, rfl, rfl, trivial⟩ ?_
          refine S.forloop (X := (Int × (List Int)) × Unit) (O := (List Int)) (fun m x => ref10_State_Replace.l2 a1 a2 m x.1) (fun x => match x with | ((x11_2, qv53_2), _) => [(11, .int .i64 x11_2), (0, bp bp0 0), (1, .int .i64 a1), (2, .int .i64 a2), (6, .int .i64 0), (9, .int .i64 x35.Parent), (10, v53)]) (fun x => match x with | ((x11_2, qv53_2), _) => [Own 3 (ekI .i64) v53 qv53_2, Box bp0 [v0_Slots, v0_Objs, .int .i64 a0.NS, .int .i64 a0.NO], OwnO 56 kr_ref10_Obj v0_Objs raws19 A20 a0.Objs, OwnO 46 kr_ref10_Slot v0_Slots raws7 A8 a0.Slots, F]) (fun Sk => (fun qv53_e2 => ∀ _ : Unit, Sk [(0, bp bp0 0), (1, .int .i64 a1), (2, .int .i64 a2), (6, .int .i64 0), (9, .int .i64 x35.Parent), (10, v53)] [Own 3 (ekI .i64) v53 qv53_e2, Box bp0 [v0_Slots, v0_Objs, .int .i64 a0.NS, .int .i64 a0.NO], OwnO 56 kr_ref10_Obj v0_Objs raws19 A20 a0.Objs, OwnO 46 kr_ref10_Slot v0_Slots raws7 A8 a0.Slots, F])) (fun _ => rfl) ?_ (m := k) (x := ((0, zs51), ())) hl2 ?_
          · clear h hl2
            intro k x o_2 h hK2 ih2
            obtain ⟨⟨x11_2, qv53_2⟩, _⟩ := x
            replace h : ref10_State_Replace.l2 a1 a2 (k + 1) (x11_2, qv53_2) = some o_2 := h
            first | rw [ref10_State_Replace.l2] at h | unfold ref10_State_Replace.l2 at h
            refine S.rd fun hr55 => ?_
            refine S.seq ?_
            refine S.seq ?_
            refine S.region ?_
            refine SO.v rfl (opv_move rfl) ?_
            refine SO.v rfl (opv_move rfl) ?_
            refine SO.v rfl (opv_lenR rfl Try.underlying41 hr55 rfl) ?_
            refine SO.v rfl (opv_lss rfl rfl) ?_
            refine SO.nil ?_
            rcases bool_or (decide (x11_2 < (qv53_2.length : Int))) with b56 | b56
            · replace h := cond_t b56 h
              refine S.condT rfl b56 ?_
              refine S.skip ?_
              refine S.seq ?_
              refine S.block ?_
              refine S.seq ?_
              refine S.region ?_
              refine SO.v rfl (opv_move rfl) ?_
              refine SO.v rfl (opv_move rfl) ?_
              obtain ⟨x57, hx58, h⟩ := opt_bind h
              refine SO.v rfl (opv_idx Try.underlying41 Try.sizeOf3 hr55 rfl rfl hx58) ?_
              refine SO.loadI1 (j := 0) rfl Try.isAgg3 (Rd.head hr55) hx58 rfl rfl rfl rfl ?_
              refine SO.v rfl (opv_move rfl) ?_
              refine SO.v rfl (opv_eql rfl rfl) ?_
              refine SO.nil ?_
              refine S.to (ρ' := [(11, .int .i64 x11_2), (0, bp bp0 0), (1, .int .i64 a1), (2, .int .i64 a2), (6, .int .i64 0), (9, .int .i64 x35.Parent), (10, v53), (80, .bool (x57 == a1))]) ⟨rfl, rfl, rfl, rfl, rfl, rfl, rfl, rfl, trivial⟩ ?_
              rcases bool_or (x57 == a1) with b59 | b59
              · replace h := cond_t b59 h
                refine S.condT rfl b59 ?_
                refine S.region ?_
                refine SO.v rfl (opv_move rfl) ?_
                refine SO.v rfl (opv_move rfl) ?_
                refine SO.v rfl (opv_move rfl) ?_
                obtain ⟨x60, hx61, h⟩ := opt_bind h
                refine SO.v rfl (opv_idx Try.underlying41 Try.sizeOf3 hr55 rfl rfl hx61) ?_
                refine SO.storeI1 (j := 0) (z' := a2) Try.sizeOf3 hx61 rfl rfl rfl rfl rfl rfl ?_
                refine SO.rd fun hr62 => ?_
                refine SO.nil ?_
                refine S.inBlock ?_
                refine S.region ?_
                refine SO.v rfl (opv_move rfl) ?_
                refine SO.v rfl (opv_add rfl rfl) ?_
                refine SO.v rfl (opv_assign rfl) ?_
                refine SO.nil ?_
                refine S.to (ρ' := [(11, .int .i64 (w64 (x11_2 + 1))), (0, bp bp0 0), (1, .int .i64 a1), (2, .int .i64 a2), (6, .int .i64 0), (9, .int .i64 x35.Parent), (10, v53)]) ⟨rfl, rfl, rfl, rfl, rfl, rfl, rfl, trivial⟩ ?_
                refine S.b4 ?_
                refine S.b4 ?_
                refine S.b4 ?_
                refine S.b4 ?_
                refine S.b4 ?_
                refine S.to ?_ (ih2 ((w64 (x11_2 + 1), qv53_2.set x11_2.toNat a2), ()) h)
                exact ⟨rfl, rfl, rfl, rfl, rfl, rfl, rfl, trivial⟩
              · replace h := cond_f b59 h
                refine S.condF rfl b59 ?_
                refine S.skip ?_
                refine S.inBlock ?_
                refine S.region ?_
                refine SO.v rfl (opv_move rfl) ?_
                refine SO.v rfl (opv_add rfl rfl) ?_
                refine SO.v rfl (opv_assign rfl) ?_
                refine SO.nil ?_
                refine S.b4 ?_
                refine S.b4 ?_
                refine S.b4 ?_
                refine S.b4 ?_
                refine S.b4 ?_
                refine S.to ?_ (ih2 ((w64 (x11_2 + 1), qv53_2), ()) h)
                exact ⟨rfl, rfl, rfl, rfl, rfl, rfl, rfl, trivial⟩
            · replace h := cond_f b56 h
              refine S.condF rfl b56 ?_
              refine S.exit rfl ?_
              cases h
              refine S.b4 ?_
              refine S.b4 ?_
              refine S.b4 ?_
              refine S.b4 ?_
              refine S.b4 ?_
              refine S.to ?_ (hK2 ())
              exact ⟨rfl, rfl, rfl, rfl, rfl, rfl, trivial⟩
          rintro _
          refine S.rd fun hr63 => ?_
          refine S.region ?_
          refine SO.v rfl (opv_move rfl) ?_
          refine SO.v rfl (opv_nilCheck rfl) ?_
          refine SO.v rfl (opv_fieldAddr Try.underlying50 rfl Try.sizeOf47 rfl rfl) ?_
          refine SO.b1 ?_
          refine SO.load1 rfl Try.isAgg47 rfl rfl ?_
          refine SO.v rfl (opv_move rfl) ?_
          refine SO.v rfl (opv_move rfl) ?_
          obtain ⟨x64, hx65, h⟩ := opt_bind h
          obtain ⟨r66, hr67, hc68⟩ := relR.at hrel9 hx65
          refine SO.v rfl (opv_idx Try.underlying47 Try.sizeOf46 hR10 rfl rfl hr67) ?_
          refine SO.v rfl (opv_fieldIdx Try.underlying46 rfl Try.sizeOf41 hR10 hr67 rfl rfl) ?_
          refine SO.b3 ?_
          refine SO.b2 ?_
          refine SO.freeze hrel9 fun A69 hcov70 hru71 hrel72 hR73 => ?_
          refine SO.storeO1 (j := 7) (q := .sl (ekI .i64) qv53_e2) (z' := ({ x64 with Kids := qv53_e2 } : ref10_Slot)) Try.sizeOf41 hrel72 hx65 rfl rfl (Rd.one hru71) rfl rfl rfl hru71 (fun raws74 hrel75 hR76 => ?_)
          refine SO.nil ?_
          refine S.to (ρ' := [(0, bp bp0 0), (1, .int .i64 a1), (2, .int .i64 a2), (6, .int .i64 0), (9, .int .i64 x35.Parent)]) ⟨rfl, rfl, rfl, rfl, rfl, trivial⟩ ?_
          cases h
          refine S.closeR ?_
          refine S.b3 ?_
          refine S.b1 ?_
          refine S.b3 ?_
          refine S.b3 ?_
          refine S.to ?_ (hk1 () trivial)
          exact ⟨rfl, rfl, rfl, rfl, rfl, trivial⟩
        · replace h := cond_f b40 h
          refine S.condF rfl b40 ?_
          refine S.skip ?_
          cases h
          refine S.b2 ?_
          refine S.closeR ?_
          refine S.b3 ?_
          refine S.b1 ?_
          refine S.b3 ?_
          refine S.b3 ?_
          refine S.to ?_ (hk1 () trivial)
          exact ⟨rfl, rfl, rfl, rfl, rfl, trivial⟩
      rintro _ -
      replace h := hJ1
      refine S.seq ?_
      refine S.region ?_
      refine SO.v rfl (opv_move rfl) ?_
      refine SO.v rfl (opv_nilCheck rfl) ?_
      refine SO.v rfl (opv_fieldAddr Try.underlying50 rfl Try.sizeOf47 rfl rfl) ?_
      refine SO.load1 rfl Try.isAgg47 rfl rfl ?_
      refine SO.v rfl (opv_move rfl) ?_
      refine SO.v rfl (opv_move rfl) ?_
      refine SO.b2 ?_
      refine SO.openR fun raws82 A83 hrel84 hR85 => ?_
      obtain ⟨x77, hx78, h⟩ := opt_bind h
      obtain ⟨r79, hr80, hc81⟩ := relR.at hrel84 hx78
      refine SO.v rfl (opv_idx Try.underlying47 Try.sizeOf46 hR85 rfl rfl hr80) ?_
      refine SO.v rfl (opv_fieldIdx Try.underlying46 rfl Try.sizeOf3 hR85 hr80 rfl rfl) ?_
      refine SO.storeO1 (j := 6) (q := .val (.int .i64 x35.Parent)) (z' := ({ x77 with Parent := x35.Parent } : ref10_Slot)) Try.sizeOf3 hrel84 hx78 rfl rfl rfl rfl rfl rfl rfl (fun raws86 hrel87 hR88 => ?_)
      refine SO.nil ?_
      refine S.to (ρ' := [(0, bp bp0 0), (1, .int .i64 a1), (2, .int .i64 a2), (6, .int .i64 0)]) ⟨rfl, rfl, rfl, rfl, trivial⟩ ?_
      refine S.seq ?_
      refine S.region ?_
      refine SO.v rfl (opv_move rfl) ?_
      refine SO.v rfl (opv_nilCheck rfl) ?_
      refine SO.v rfl (opv_fieldAddr Try.underlying50 rfl Try.sizeOf47 rfl rfl) ?_
      refine SO.b1 ?_
      refine SO.load1 rfl Try.isAgg47 rfl rfl ?_
      refine SO.v rfl (opv_move rfl) ?_
      obtain ⟨x89, hx90, h⟩ := opt_bind h
      obtain ⟨r91, hr92, hc93⟩ := relR.at hrel87 hx90
      refine SO.v rfl (opv_idx Try.underlying47 Try.sizeOf46 hR88 rfl rfl hr92) ?_
      refine SO.v rfl (opv_fieldIdx Try.underlying46 rfl Try.sizeOf3 hR88 hr92 rfl rfl) ?_
      refine SO.b1 ?_
      refine SO.storeO1 (j := 6) (q := .val (.int .i64 (-1))) (z' := ({ x89 with Parent := -1 } : ref10_Slot)) Try.sizeOf3 hrel87 hx90 rfl rfl rfl rfl rfl rfl rfl (fun raws94 hrel95 hR96 => ?_)
      refine SO.nil ?_
      refine S.to (ρ' := [(0, bp bp0 0), (1, .int .i64 a1), (2, .int .i64 a2), (6, .int .i64 0)]) ⟨rfl, rfl, rfl, rfl, trivial⟩ ?_
      refine S.seq ?_
      obtain ⟨x97, hx98, h⟩ := opt_bind h
      obtain ⟨r99, hr100, hc101⟩ := relR.at hrel95 hx98
      obtain ⟨u102, hu103, hru104⟩ := hc101.sl 7 rfl
      obtain ⟨x105, hx106, h⟩ := opt_bind h
      obtain ⟨r107, hr108, hc109⟩ := relR.at hrel95 hx106
      refine S.draw' (Z := fun Q => ∀ (_ : Unit) (_ : Unit) (_ : Unit) (_ : Unit) (_ : Unit) (_ : Unit) (_ : Unit) (_ : Unit), Q [(0, bp bp0 0), (1, .int .i64 a1), (2, .int .i64 a2), (6, .int .i64 0)] [OwnR 46 kr_ref10_Slot v0_Slots (((qv0_Slots_1.set a2.toNat ({ x77 with Parent := x35.Parent } : ref10_Slot)).set a1.toNat ({ x89 with Parent := -1 } : ref10_Slot)).set a2.toNat ({ x105 with Kids := x97.Kids } : ref10_Slot)), Box bp0 [v0_Slots, v0_Objs, .int .i64 a0.NS, .int .i64 a0.NO], OwnO 56 kr_ref10_Obj v0_Objs raws19 A20 a0.Objs, F]) (T := [tS 0 (bp bp0 0), tS 2 (.int .i64 a2), tS 1 (.int .i64 a1), tS 6 (.int .i64 0), tR (OwnO 46 kr_ref10_Slot v0_Slots raws94 A83 ((qv0_Slots_1.set a2.toNat ({ x77 with Parent := x35.Parent } : ref10_Slot)).set a1.toNat ({ x89 with Parent := -1 } : ref10_Slot))), tR (Box bp0 [v0_Slots, v0_Objs, .int .i64 a0.NS, .int .i64 a0.NO]), tR (OwnO 56 kr_ref10_Obj v0_Objs raws19 A20 a0.Objs), tR (F), tS 108 (bp bp0 0), tS 109 (bp bp0 0), tS 110 (bp bp0 0), tS 111 (v0_Slots), tS 112 (.int .i64 a2), tS 113 (bp bp0 0), tS 114 (bp bp0 0), tS 115 (bp bp0 0), tS 116 (v0_Slots), tS 117 (.int .i64 a1), tS 118 (idxp v0_Slots (a1.toNat * kr_ref10_Slot.sz)), tS 119 (idxp v0_Slots (a1.toNat * kr_ref10_Slot.sz + 7)), tS 120 (u102), tS 121 (idxp v0_Slots (a2.toNat * kr_ref10_Slot.sz)), tS 122 (idxp v0_Slots (a2.toNat * kr_ref10_Slot.sz + 7)), tR (OwnR 46 kr_ref10_Slot v0_Slots (((qv0_Slots_1.set a2.toNat ({ x77 with Parent := x35.Parent } : ref10_Slot)).set a1.toNat ({ x89 with Parent := -1 } : ref10_Slot)).set a2.toNat ({ x105 with Kids := x97.Kids } : ref10_Slot)))]) (D := [⟨[0], [], [8]⟩, ⟨[8], [], [9]⟩, ⟨[9], [], [10]⟩, ⟨[10, 5], [], [11]⟩, ⟨[1], [], [12]⟩, ⟨[0], [], [13]⟩, ⟨[13], [], [14]⟩, ⟨[14], [], [15]⟩, ⟨[15, 5], [], [16]⟩, ⟨[2], [], [17]⟩, ⟨[16, 17, 4], [], [18]⟩, ⟨[18, 4], [], [19]⟩, ⟨[19, 4], [], [20]⟩, ⟨[11, 12, 4], [], [21]⟩, ⟨[21, 4], [], [22]⟩, ⟨[20, 22], [4], [23]⟩]) (ini := [0, 1, 2, 3, 4, 5, 6, 7]) (fin := [0, 2, 1, 3, 23, 5, 6, 7]) (bf := [[], [0], [0, 1], [0, 1, 2], [], [], [5], [5, 6], [5, 6, 7], [], [5, 6, 7, 8, 9], [5, 6, 7, 8, 9, 10], [5, 6, 7, 8, 9, 10, 11], [0, 1, 2, 3, 4, 5, 6, 7, 8, 9, 10, 11, 12], [0, 1, 2, 3, 4, 5, 6, 7, 8, 9, 10, 11, 12, 13], [0, 1, 2, 3, 4, 5, 6, 7, 8, 9, 10, 11, 12, 13, 14]]) (by kernel_rfl) (by kernel_rfl) (fun x w h1 h2 => (.cons () (.cons () (.cons () (.cons () (.cons () (.cons () (.cons () (.cons () (.nil ⟨EnvAll.of h1 ⟨rfl, rfl, rfl, rfl, trivial⟩, h2⟩)))))))))) (fun Q => by kernel_rfl) ⟨?_, ?_, ?_, ?_, ?_, ?_, ?_, ?_, ?_, ?_, ?_, ?_, ?_, ?_, ?_, ?_, trivial⟩ ?_
      · rintro Fr _
        refine SO.v rfl (opv_move rfl) ?_
        exact SO.nilZ fun a w h1 h2 h3 h4 h5 => PZ.of h1 h3 h5 (.cons () (.cons () (.nil ⟨EnvAll.of h2 ⟨rfl, rfl, trivial⟩, h4⟩)))
      · rintro Fr _
        refine SO.v rfl (opv_nilCheck rfl) ?_
        exact SO.nilZ fun a w h1 h2 h3 h4 h5 => PZ.of h1 h3 h5 (.cons () (.cons () (.nil ⟨EnvAll.of h2 ⟨rfl, rfl, trivial⟩, h4⟩)))
      · rintro Fr _
        refine SO.v rfl (opv_fieldAddr Try.underlying50 rfl Try.sizeOf47 rfl rfl) ?_
        exact SO.nilZ fun a w h1 h2 h3 h4 h5 => PZ.of h1 h3 h5 (.cons () (.cons () (.nil ⟨EnvAll.of h2 ⟨rfl, rfl, trivial⟩, h4⟩)))
      · rintro Fr _ _
        refine SO.load1 rfl Try.isAgg47 rfl rfl ?_
        exact SO.nilZ fun a w h1 h2 h3 h4 h5 => PZ.of h1 h3 h5 (.cons () (.cons () (.cons () (.nil ⟨EnvAll.of h2 ⟨rfl, rfl, trivial⟩, h4⟩))))
      · rintro Fr _
        refine SO.v rfl (opv_move rfl) ?_
        exact SO.nilZ fun a w h1 h2 h3 h4 h5 => PZ.of h1 h3 h5 (.cons () (.cons () (.nil ⟨EnvAll.of h2 ⟨rfl, rfl, trivial⟩, h4⟩)))
      · rintro Fr _
        refine SO.v rfl (opv_move rfl) ?_
        exact SO.nilZ fun a w h1 h2 h3 h4 h5 => PZ.of h1 h3 h5 (.cons () (.cons () (.nil ⟨EnvAll.of h2 ⟨rfl, rfl, trivial⟩, h4⟩)))
      · rintro Fr _
        refine SO.v rfl (opv_nilCheck rfl) ?_
        exact SO.nilZ fun a w h1 h2 h3 h4 h5 => PZ.of h1 h3 h5 (.cons () (.cons () (.nil ⟨EnvAll.of h2 ⟨rfl, rfl, trivial⟩, h4⟩)))
      · rintro Fr _
        refine SO.v rfl (opv_fieldAddr Try.underlying50 rfl Try.sizeOf47 rfl rfl) ?_
        exact SO.nilZ fun a w h1 h2 h3 h4 h5 => PZ.of h1 h3 h5 (.cons () (.cons () (.nil ⟨EnvAll.of h2 ⟨rfl, rfl, trivial⟩, h4⟩)))
      · rintro Fr _ _
        refine SO.load1 rfl Try.isAgg47 rfl rfl ?_
        exact SO.nilZ fun a w h1 h2 h3 h4 h5 => PZ.of h1 h3 h5 (.cons () (.cons () (.cons () (.nil ⟨EnvAll.of h2 ⟨rfl, rfl, trivial⟩, h4⟩))))
      · rintro Fr _
        refine SO.v rfl (opv_move rfl) ?_
        exact SO.nilZ fun a w h1 h2 h3 h4 h5 => PZ.of h1 h3 h5 (.cons () (.cons () (.nil ⟨EnvAll.of h2 ⟨rfl, rfl, trivial⟩, h4⟩)))
      · rintro Fr _ _ _
        refine SO.v rfl (opv_idx Try.underlying47 Try.sizeOf46 hR96 rfl rfl hr100) ?_
        exact SO.nilZ fun a w h1 h2 h3 h4 h5 => PZ.of h1 h3 h5 (.cons () (.cons () (.cons () (.cons () (.nil ⟨EnvAll.of h2 ⟨rfl, rfl, rfl, trivial⟩, h4⟩)))))
      · rintro Fr _ _
        refine SO.v rfl (opv_fieldIdx Try.underlying46 rfl Try.sizeOf41 hR96 hr100 rfl rfl) ?_
        exact SO.nilZ fun a w h1 h2 h3 h4 h5 => PZ.of h1 h3 h5 (.cons () (.cons () (.cons () (.nil ⟨EnvAll.of h2 ⟨rfl, rfl, trivial⟩, h4⟩))))
      · rintro Fr _ _
        refine SO.loadI1 (j := 7) rfl Try.isAgg41 (Rd.head hR96) hr100 rfl rfl rfl hu103 ?_
        exact SO.nilZ fun a w h1 h2 h3 h4 h5 => PZ.of h1 h3 h5 (.cons () (.cons () (.cons () (.nil ⟨EnvAll.of h2 ⟨rfl, rfl, trivial⟩, h4⟩))))
      · rintro Fr _ _ _
        refine SO.v rfl (opv_idx Try.underlying47 Try.sizeOf46 hR96 rfl rfl hr108) ?_
        exact SO.nilZ fun a w h1 h2 h3 h4 h5 => PZ.of h1 h3 h5 (.cons () (.cons () (.cons () (.cons () (.nil ⟨EnvAll.of h2 ⟨rfl, rfl, rfl, trivial⟩, h4⟩)))))
      · rintro Fr _ _
        refine SO.v rfl (opv_fieldIdx Try.underlying46 rfl Try.sizeOf41 hR96 hr108 rfl rfl) ?_
        exact SO.nilZ fun a w h1 h2 h3 h4 h5 => PZ.of h1 h3 h5 (.cons () (.cons () (.cons () (.nil ⟨EnvAll.of h2 ⟨rfl, rfl, trivial⟩, h4⟩))))
      · rintro Fr _ _ _
        refine SO.storeO1 (j := 7) (q := .sl (ekI .i64) x97.Kids) (z' := ({ x105 with Kids := x97.Kids } : ref10_Slot)) Try.sizeOf41 hrel95 hx106 rfl rfl (Rd.one hru104) rfl rfl rfl hru104 (fun raws110 hrel111 hR112 => ?_)
        refine SO.closeR ?_
        exact SO.nilZ fun a w h1 h2 h3 h4 h5 => PZ.of h1 h3 h5 (.cons () (.cons () (.cons () (.nil ⟨EnvAll.of h2 ⟨rfl, rfl, trivial⟩, h4⟩))))
      rintro _ _ _ _ _ _ _ _
      refine S.to (ρ' := [(0, bp bp0 0), (1, .int .i64 a1), (2, .int .i64 a2), (6, .int .i64 0)]) ⟨rfl, rfl, rfl, rfl, trivial⟩ ?_
      refine S.seq ?_
      refine S.region ?_
      refine SO.v rfl (opv_move rfl) ?_
      refine SO.v rfl (opv_nilCheck rfl) ?_
      refine SO.v rfl (opv_fieldAddr Try.underlying50 rfl Try.sizeOf47 rfl rfl) ?_
      refine SO.b1 ?_
      refine SO.load1 rfl Try.isAgg47 rfl rfl ?_
      refine SO.v rfl (opv_move rfl) ?_
      refine SO.b1 ?_
      refine SO.openR fun raws118 A119 hrel120 hR121 => ?_
      obtain ⟨x113, hx114, h⟩ := opt_bind h
      obtain ⟨r115, hr116, hc117⟩ := relR.at hrel120 hx114
      refine SO.v rfl (opv_idx Try.underlying47 Try.sizeOf46 hR121 rfl rfl hr116) ?_
      refine SO.v rfl (opv_fieldIdx Try.underlying46 rfl Try.sizeOf41 hR121 hr116 rfl rfl) ?_
      refine SO.storeO1 (j := 7) (q := .sl (ekI .i64) ([])) (z' := ({ x113 with Kids := [] } : ref10_Slot)) Try.sizeOf41 hrel120 hx114 rfl rfl rfl rfl rfl rfl Rd.nil0 (fun raws122 hrel123 hR124 => ?_)
      refine SO.nil ?_
      refine S.to (ρ' := [(0, bp bp0 0), (2, .int .i64 a2), (6, .int .i64 0)]) ⟨rfl, rfl, rfl, trivial⟩ ?_
      refine S.seq ?_
      refine S.seq ?_
      refine S.region ?_
      refine SO.v rfl (opv_assign rfl) ?_
      refine SO.nil ?_
      obtain ⟨qv0_Slots_e3, hl3, h⟩ := opt_bind h
      refine S.closeR ?_
      refine S.b3 ?_
      refine S.b3 ?_
      refine S.b3 ?_
      refine S.b3 ?_
      refine S.to (ρ' := [(12, .int .i64 0), (0, bp bp0 0), (2, .int .i64 a2), (6, .int .i64 0)]) ⟨rfl, rfl, rfl, rfl, trivial⟩ ?_
      refine S.forloop (X := (Int × (List ref10_Slot)) × Unit) (O := (List ref10_Slot)) (fun m x => ref10_State_Replace.l3 a2 m x.1) (fun x => match x with | ((x12_3, qv0_Slots_3), _) => [(12, .int .i64 x12_3), (0, bp bp0 0), (2, .int .i64 a2), (6, .int .i64 0)]) (fun x => match x with | ((x12_3, qv0_Slots_3), _) => [OwnR 46 kr_ref10_Slot v0_Slots qv0_Slots_3, Box bp0 [v0_Slots, v0_Objs, .int .i64 a0.NS, .int .i64 a0.NO], OwnO 56 kr_ref10_Obj v0_Objs raws19 A20 a0.Objs, F]) (fun Sk => (fun qv0_Slots_e3 => ∀ _ : Unit, Sk [(6, .int .i64 0)] [OwnR 46 kr_ref10_Slot v0_Slots qv0_Slots_e3, Box bp0 [v0_Slots, v0_Objs, .int .i64 a0.NS, .int .i64 a0.NO], OwnO 56 kr_ref10_Obj v0_Objs raws19 A20 a0.Objs, F])) (fun _ => rfl) ?_ (m := k) (x := ((0, (((qv0_Slots_1.set a2.toNat ({ x77 with Parent := x35.Parent } : ref10_Slot)).set a1.toNat ({ x89 with Parent := -1 } : ref10_Slot)).set a2.toNat ({ x105 with Kids := x97.Kids } : ref10_Slot)).set a1.toNat ({ x113 with Kids := [] } : ref10_Slot)), ())) hl3 ?_
      · clear h hl3
        intro k x o_3 h hK3 ih3
        obtain ⟨⟨x12_3, qv0_Slots_3⟩, _⟩ := x
        replace h : ref10_State_Replace.l3 a2 (k + 1) (x12_3, qv0_Slots_3) = some o_3 := h
        first | rw [ref10_State_Replace.l3] at h | unfold ref10_State_Replace.l3 at h
        refine S.seq ?_
        refine S.seq ?_
        refine S.region ?_
        refine SO.v rfl (opv_move rfl) ?_
        refine SO.v rfl (opv_move rfl) ?_
        refine SO.v rfl (opv_nilCheck rfl) ?_
        refine SO.v rfl (opv_fieldAddr Try.underlying50 rfl Try.sizeOf47 rfl rfl) ?_
        refine SO.b1 ?_
        refine SO.load1 rfl Try.isAgg47 rfl rfl ?_
        refine SO.v rfl (opv_move rfl) ?_
        refine SO.b1 ?_
        refine SO.openR fun raws130 A131 hrel132 hR133 => ?_
        obtain ⟨x125, hx126, h⟩ := opt_bind h
        obtain ⟨r127, hr128, hc129⟩ := relR.at hrel132 hx126
        refine SO.v rfl (opv_idx Try.underlying47 Try.sizeOf46 hR133 rfl rfl hr128) ?_
        refine SO.v rfl (opv_fieldIdx Try.underlying46 rfl Try.sizeOf41 hR133 hr128 rfl rfl) ?_
        obtain ⟨u134, hu135, hru136⟩ := hc129.sl 7 rfl
        refine SO.loadI1 (j := 7) rfl Try.isAgg41 (Rd.head hR133) hr128 rfl rfl rfl hu135 ?_
        refine SO.v rfl (opv_lenR rfl Try.underlying41 hru136 rfl) ?_
        refine SO.v rfl (opv_lss rfl rfl) ?_
        refine SO.nil ?_
        refine S.to (ρ' := [(12, .int .i64 x12_3), (0, bp bp0 0), (2, .int .i64 a2), (6, .int .i64 0), (140, .bool (decide (x12_3 < (x125.Kids.length : Int))))]) ⟨rfl, rfl, rfl, rfl, rfl, trivial⟩ ?_
        rcases bool_or (decide (x12_3 < (x125.Kids.length : Int))) with b137 | b137
        · replace h := cond_t b137 h
          refine S.condT rfl b137 ?_
          refine S.skip ?_
          refine S.seq ?_
          refine S.block ?_
          obtain ⟨x138, hx139, h⟩ := opt_bind h
          obtain ⟨r140, hr141, hc142⟩ := relR.at hrel132 hx139
          obtain ⟨u143, hu144, hru145⟩ := hc142.sl 7 rfl
          obtain ⟨x146, hx147, h⟩ := opt_bind h
          obtain ⟨x148, hx149, h⟩ := opt_bind h
          obtain ⟨r150, hr151, hc152⟩ := relR.at hrel132 hx149
          refine S.draw' (Z := fun Q => ∀ (_ : Unit) (_ : Unit) (_ : Unit) (_ : Unit) (_ : Unit) (_ : Unit) (_ : Unit) (_ : Unit), Q [(12, .int .i64 x12_3), (0, bp bp0 0), (2, .int .i64 a2), (6, .int .i64 0)] [OwnR 46 kr_ref10_Slot v0_Slots (qv0_Slots_3.set x146.toNat ({ x148 with Parent := a2 } : ref10_Slot)), Box bp0 [v0_Slots, v0_Objs, .int .i64 a0.NS, .int .i64 a0.NO], OwnO 56 kr_ref10_Obj v0_Objs raws19 A20 a0.Objs, F]) (T := [tS 0 (bp bp0 0), tS 2 (.int .i64 a2), tS 12 (.int .i64 x12_3), tS 6 (.int .i64 0), tR (OwnO 46 kr_ref10_Slot v0_Slots raws130 A131 qv0_Slots_3), tR (Box bp0 [v0_Slots, v0_Objs, .int .i64 a0.NS, .int .i64 a0.NO]), tR (OwnO 56 kr_ref10_Obj v0_Objs raws19 A20 a0.Objs), tR (F), tS 143 (bp bp0 0), tS 144 (bp bp0 0), tS 145 (bp bp0 0), tS 146 (v0_Slots), tS 147 (bp bp0 0), tS 148 (bp bp0 0), tS 149 (bp bp0 0), tS 150 (v0_Slots), tS 151 (.int .i64 a2), tS 152 (idxp v0_Slots (a2.toNat * kr_ref10_Slot.sz)), tS 153 (idxp v0_Slots (a2.toNat * kr_ref10_Slot.sz + 7)), tS 154 (u143), tS 155 (.int .i64 x12_3), tS 156 (idxp u143 (x12_3.toNat * (ekI .i64).sz)), tS 157 (.int .i64 x146), tS 158 (.int .i64 a2), tS 159 (idxp v0_Slots (x146.toNat * kr_ref10_Slot.sz)), tS 160 (idxp v0_Slots (x146.toNat * kr_ref10_Slot.sz + 6)), tR (OwnR 46 kr_ref10_Slot v0_Slots (qv0_Slots_3.set x146.toNat ({ x148 with Parent := a2 } : ref10_Slot)))]) (D := [⟨[0], [], [8]⟩, ⟨[8], [], [9]⟩, ⟨[9], [], [10]⟩, ⟨[10, 5], [], [11]⟩, ⟨[0], [], [12]⟩, ⟨[12], [], [13]⟩, ⟨[13], [], [14]⟩, ⟨[14, 5], [], [15]⟩, ⟨[1], [], [16]⟩, ⟨[15, 16, 4], [], [17]⟩, ⟨[17, 4], [], [18]⟩, ⟨[18, 4], [], [19]⟩, ⟨[2], [], [20]⟩, ⟨[19, 20, 4], [], [21]⟩, ⟨[21, 4], [], [22]⟩, ⟨[1], [], [23]⟩, ⟨[11, 22, 4], [], [24]⟩, ⟨[24, 4], [], [25]⟩, ⟨[23, 25], [4], [26]⟩]) (ini := [0, 1, 2, 3, 4, 5, 6, 7]) (fin := [2, 0, 1, 3, 26, 5, 6, 7]) (bf := [[], [0], [0, 1], [0, 1, 2], [], [4], [4, 5], [4, 5, 6], [], [4, 5, 6, 7, 8], [4, 5, 6, 7, 8, 9], [4, 5, 6, 7, 8, 9, 10], [], [4, 5, 6, 7, 8, 9, 10, 11, 12], [4, 5, 6, 7, 8, 9, 10, 11, 12, 13], [], [0, 1, 2, 3, 4, 5, 6, 7, 8, 9, 10, 11, 12, 13, 14, 15], [0, 1, 2, 3, 4, 5, 6, 7, 8, 9, 10, 11, 12, 13, 14, 15, 16], [0, 1, 2, 3, 4, 5, 6, 7, 8, 9, 10, 11, 12, 13, 14, 15, 16, 17]]) (by kernel_rfl) (by kernel_rfl) (fun x w h1 h2 => (.cons () (.cons () (.cons () (.cons () (.cons () (.cons () (.cons () (.cons () (.nil ⟨EnvAll.of h1 ⟨rfl, rfl, rfl, rfl, trivial⟩, h2⟩)))))))))) (fun Q => by kernel_rfl) ⟨?_, ?_, ?_, ?_, ?_, ?_, ?_, ?_, ?_, ?_, ?_, ?_, ?_, ?_, ?_, ?_, ?_, ?_, ?_, trivial⟩ ?_
          · rintro Fr _
            refine SO.v rfl (opv_move rfl) ?_
            exact SO.nilZ fun a w h1 h2 h3 h4 h5 => PZ.of h1 h3 h5 (.cons () (.cons () (.nil ⟨EnvAll.of h2 ⟨rfl, rfl, trivial⟩, h4⟩)))
          · rintro Fr _
            refine SO.v rfl (opv_nilCheck rfl) ?_
            exact SO.nilZ fun a w h1 h2 h3 h4 h5 => PZ.of h1 h3 h5 (.cons () (.cons () (.nil ⟨EnvAll.of h2 ⟨rfl, rfl, trivial⟩, h4⟩)))
          · rintro Fr _
            refine SO.v rfl (opv_fieldAddr Try.underlying50 rfl Try.sizeOf47 rfl rfl) ?_
            exact SO.nilZ fun a w h1 h2 h3 h4 h5 => PZ.of h1 h3 h5 (.cons () (.cons () (.nil ⟨EnvAll.of h2 ⟨rfl, rfl, trivial⟩, h4⟩)))
          · rintro Fr _ _
            refine SO.load1 rfl Try.isAgg47 rfl rfl ?_
            exact SO.nilZ fun a w h1 h2 h3 h4 h5 => PZ.of h1 h3 h5 (.cons () (.cons () (.cons () (.nil ⟨EnvAll.of h2 ⟨rfl, rfl, trivial⟩, h4⟩))))
          · rintro Fr _
            refine SO.v rfl (opv_move rfl) ?_
            exact SO.nilZ fun a w h1 h2 h3 h4 h5 => PZ.of h1 h3 h5 (.cons () (.cons () (.nil ⟨EnvAll.of h2 ⟨rfl, rfl, trivial⟩, h4⟩)))
          · rintro Fr _
            refine SO.v rfl (opv_nilCheck rfl) ?_
            exact SO.nilZ fun a w h1 h2 h3 h4 h5 => PZ.of h1 h3 h5 (.cons () (.cons () (.nil ⟨EnvAll.of h2 ⟨rfl, rfl, trivial⟩, h4⟩)))
          · rintro Fr _
            refine SO.v rfl (opv_fieldAddr Try.underlying50 rfl Try.sizeOf47 rfl rfl) ?_
            exact SO.nilZ fun a w h1 h2 h3 h4 h5 => PZ.of h1 h3 h5 (.cons () (.cons () (.nil ⟨EnvAll.of h2 ⟨rfl, rfl, trivial⟩, h4⟩)))
          · rintro Fr _ _
            refine SO.load1 rfl Try.isAgg47 rfl rfl ?_
            exact SO.nilZ fun a w h1 h2 h3 h4 h5 => PZ.of h1 h3 h5 (.cons () (.cons () (.cons () (.nil ⟨EnvAll.of h2 ⟨rfl, rfl, trivial⟩, h4⟩))))
          · rintro Fr _
            refine SO.v rfl (opv_move rfl) ?_
            exact SO.nilZ fun a w h1 h2 h3 h4 h5 => PZ.of h1 h3 h5 (.cons () (.cons () (.nil ⟨EnvAll.of h2 ⟨rfl, rfl, trivial⟩, h4⟩)))
          · rintro Fr _ _ _
            refine SO.v rfl (opv_idx Try.underlying47 Try.sizeOf46 hR133 rfl rfl hr141) ?_
            exact SO.nilZ fun a w h1 h2 h3 h4 h5 => PZ.of h1 h3 h5 (.cons () (.cons () (.cons () (.cons () (.nil ⟨EnvAll.of h2 ⟨rfl, rfl, rfl, trivial⟩, h4⟩)))))
          · rintro Fr _ _
            refine SO.v rfl (opv_fieldIdx Try.underlying46 rfl Try.sizeOf41 hR133 hr141 rfl rfl) ?_
            exact SO.nilZ fun a w h1 h2 h3 h4 h5 => PZ.of h1 h3 h5 (.cons () (.cons () (.cons () (.nil ⟨EnvAll.of h2 ⟨rfl, rfl, trivial⟩, h4⟩))))
          · rintro Fr _ _
            refine SO.loadI1 (j := 7) rfl Try.isAgg41 (Rd.head hR133) hr141 rfl rfl rfl hu144 ?_
            exact SO.nilZ fun a w h1 h2 h3 h4 h5 => PZ.of h1 h3 h5 (.cons () (.cons () (.cons () (.nil ⟨EnvAll.of h2 ⟨rfl, rfl, trivial⟩, h4⟩))))
          · rintro Fr _
            refine SO.v rfl (opv_move rfl) ?_
            exact SO.nilZ fun a w h1 h2 h3 h4 h5 => PZ.of h1 h3 h5 (.cons () (.cons () (.nil ⟨EnvAll.of h2 ⟨rfl, rfl, trivial⟩, h4⟩)))
          · rintro Fr _ _ _
            refine SO.v rfl (opv_idx Try.underlying41 Try.sizeOf3 hru145 rfl rfl hx147) ?_
            exact SO.nilZ fun a w h1 h2 h3 h4 h5 => PZ.of h1 h3 h5 (.cons () (.cons () (.cons () (.cons () (.nil ⟨EnvAll.of h2 ⟨rfl, rfl, rfl, trivial⟩, h4⟩)))))
          · rintro Fr _ _
            refine SO.loadI1 (j := 0) rfl Try.isAgg3 (Rd.head (Rd.pool hru145)) hx147 rfl rfl rfl rfl ?_
            exact SO.nilZ fun a w h1 h2 h3 h4 h5 => PZ.of h1 h3 h5 (.cons () (.cons () (.cons () (.nil ⟨EnvAll.of h2 ⟨rfl, rfl, trivial⟩, h4⟩))))
          · rintro Fr _
            refine SO.v rfl (opv_move rfl) ?_
            exact SO.nilZ fun a w h1 h2 h3 h4 h5 => PZ.of h1 h3 h5 (.cons () (.cons () (.nil ⟨EnvAll.of h2 ⟨rfl, rfl, trivial⟩, h4⟩)))
          · rintro Fr _ _ _
            refine SO.v rfl (opv_idx Try.underlying47 Try.sizeOf46 hR133 rfl rfl hr151) ?_
            exact SO.nilZ fun a w h1 h2 h3 h4 h5 => PZ.of h1 h3 h5 (.cons () (.cons () (.cons () (.cons () (.nil ⟨EnvAll.of h2 ⟨rfl, rfl, rfl, trivial⟩, h4⟩)))))
          · rintro Fr _ _
            refine SO.v rfl (opv_fieldIdx Try.underlying46 rfl Try.sizeOf3 hR133 hr151 rfl rfl) ?_
            exact SO.nilZ fun a w h1 h2 h3 h4 h5 => PZ.of h1 h3 h5 (.cons () (.cons () (.cons () (.nil ⟨EnvAll.of h2 ⟨rfl, rfl, trivial⟩, h4⟩))))
          · rintro Fr _ _ _
            refine SO.storeO1 (j := 6) (q := .val (.int .i64 a2)) (z' := ({ x148 with Parent := a2 } : ref10_Slot)) Try.sizeOf3 hrel132 hx149 rfl rfl rfl rfl rfl rfl rfl (fun raws153 hrel154 hR155 => ?_)
            refine SO.closeR ?_
            exact SO.nilZ fun a w h1 h2 h3 h4 h5 => PZ.of h1 h3 h5 (.cons () (.cons () (.cons () (.nil ⟨EnvAll.of h2 ⟨rfl, rfl, trivial⟩, h4⟩))))
          rintro _ _ _ _ _ _ _ _
          refine S.to (ρ' := [(12, .int .i64 x12_3), (0, bp bp0 0), (2, .int .i64 a2), (6, .int .i64 0)]) ⟨rfl, rfl, rfl, rfl, trivial⟩ ?_
          refine S.inBlock ?_
          refine S.region ?_
          refine SO.v rfl (opv_move rfl) ?_
          refine SO.v rfl (opv_add rfl rfl) ?_
          refine SO.v rfl (opv_assign rfl) ?_
          refine SO.nil ?_
          refine S.b3 ?_
          refine S.b3 ?_
          refine S.b3 ?_
          refine S.b3 ?_
          refine S.to ?_ (ih3 ((w64 (x12_3 + 1), qv0_Slots_3.set x146.toNat ({ x148 with Parent := a2 } : ref10_Slot)), ()) h)
          exact ⟨rfl, rfl, rfl, rfl, trivial⟩
        · replace h := cond_f b137 h
          refine S.condF rfl b137 ?_
          refine S.exit rfl ?_
          cases h
          refine S.closeR ?_
          refine S.b3 ?_
          refine S.b3 ?_
          refine S.b3 ?_
          refine S.b3 ?_
          refine S.to ?_ (hK3 ())
          exact ⟨rfl, trivial⟩
      rintro _
      refine S.seq ?_
      refine S.region ?_
      refine SO.v rfl (opv_assign rfl) ?_
      refine SO.nil ?_
      cases h
      refine S.b2 ?_
      refine S.closeR ?_
      refine S.b3 ?_
      refine S.b1 ?_
      refine S.b2 ?_
      refine S.b3 ?_
      exact S.ret1 Try.func14 rfl rfl (fun w hs hk => hR w _ _ ⟨v0_Slots, v0_Objs, rfl, rfl⟩ hs hk)
end Go.Proofs
namespace Go.Proofs
open Go.Sl Go.RowKit
/-! 29 padstone/padstoneref10.without -/
def ref10_without.l1 (a0 : List Int) (a1 : Int) : Nat → (Int × Bool × (List Int)) → Option ((List Int))
  | 0, _ => none
  | k + 1, (x7_1, x6_1, x5_1) => bif decide (x7_1 < (a0.length : Int)) then ((at_ a0 x7_1).bind fun x3 => bif (x3 == a1) && (!x6_1) then (ref10_without.l1 a0 a1 k (w64 (x7_1 + 1), true, x5_1)) else ((at_ a0 x7_1).bind fun x7 => (app x5_1 ([x7])).bind fun zs11 => ref10_without.l1 a0 a1 k (w64 (x7_1 + 1), x6_1, zs11))) else (some x5_1)
def ref10_without.f (k : Nat) (a0 : List Int) (a1 : Int) : Option ((List Int)) :=
  (ref10_without.l1 a0 a1 k (0, false, [])).bind fun j5_e1 => some j5_e1
set_option maxHeartbeats 8000000 in
set_option maxRecDepth 100000 in
theorem ref10_without.ct (k : Nat) (v0 : Value) (a0 : List Int) (a1 : Int) (r0 : List Int) (h : ref10_without.f k a0 a1 = some r0) :
    Ct Try.prog 29 [v0, .int .i64 a1] (fun F => Rd (ekI .i64) v0 a0 F) [] (fun u H' => ∃ v_r0, u = v_r0 ∧ H' = [Own 3 (ekI .i64) v_r0 r0]) := by
  unfold ref10_without.f at h
  refine Ct.intro (n := 32) Try.func29 rfl rfl rfl ?_
  intro R w0 F hF hR
  have hF0 := hF
  refine S.seq ?_
  refine S.region ?_
  refine SO.v rfl (opv_assign rfl) ?_
  refine SO.nil ?_
  refine S.seq ?_
  refine S.region ?_
  refine SO.v rfl (opv_assign rfl) ?_
  refine SO.nil ?_
  refine S.seq ?_
  refine S.region ?_
  refine SO.v rfl (opv_assign rfl) ?_
  refine SO.nil ?_
  refine S.seq ?_
  refine S.seq ?_
  refine S.region ?_
  refine SO.v rfl (opv_assign rfl) ?_
  refine SO.nil ?_
  obtain ⟨j5_e1, hl1, h⟩ := opt_bind h
  refine S.newOwn 3 (ekI .i64) ?_
  refine S.b1 ?_
  refine S.b1 ?_
  refine S.to (ρ' := [(7, .int .i64 0), (6, .bool false), (5, .slice none 0 0), (4, .slice none 0 0), (0, v0), (1, .int .i64 a1)]) ⟨rfl, rfl, rfl, rfl, rfl, rfl, trivial⟩ ?_
  refine S.forloop (X := (Int × Bool × (List Int)) × Value) (O := (List Int)) (fun m x => ref10_without.l1 a0 a1 m x.1) (fun x => match x with | ((x7_1, x6_1, x5_1), v5_1) => [(7, .int .i64 x7_1), (6, .bool x6_1), (5, v5_1), (4, .slice none 0 0), (0, v0), (1, .int .i64 a1)]) (fun x => match x with | ((x7_1, x6_1, x5_1), v5_1) => [Own 3 (ekI .i64) v5_1 x5_1, F]) (fun Sk => (fun j5_e1 => ∀ v5_e1 : Value, Sk [(4, .slice none 0 0), (5, v5_e1)] [Own 3 (ekI .i64) v5_e1 j5_e1, F])) (fun _ => rfl) ?_ (m := k) (x := ((0, false, []), .slice none 0 0)) hl1 ?_
  · clear h hl1
    intro k x o_1 h hK1 ih1
    obtain ⟨⟨x7_1, x6_1, x5_1⟩, v5_1⟩ := x
    replace h : ref10_without.l1 a0 a1 (k + 1) (x7_1, x6_1, x5_1) = some o_1 := h
    first | rw [ref10_without.l1] at h | unfold ref10_without.l1 at h
    refine S.rd fun hr1 => ?_
    refine S.seq ?_
    refine S.seq ?_
    refine S.region ?_
    refine SO.v rfl (opv_move rfl) ?_
    refine SO.v rfl (opv_move rfl) ?_
    refine SO.v rfl (opv_lenR rfl Try.underlying41 hF0 rfl) ?_
    refine SO.v rfl (opv_lss rfl rfl) ?_
    refine SO.nil ?_
    rcases bool_or (decide (x7_1 < (a0.length : Int))) with b2 | b2
    · replace h := cond_t b2 h
      refine S.condT rfl b2 ?_
      refine S.skip ?_
      refine S.seq ?_
      refine S.block ?_
      refine S.seq ?_
      refine S.region ?_
      refine SO.v rfl (opv_move rfl) ?_
      refine SO.v rfl (opv_move rfl) ?_
      obtain ⟨x3, hx4, h⟩ := opt_bind h
      refine SO.v rfl (opv_idx Try.underlying41 Try.sizeOf3 hF0 rfl rfl hx4) ?_
      refine SO.loadI1 (j := 0) rfl Try.isAgg3 (Rd.tail (Rd.head hF0)) hx4 rfl rfl rfl rfl ?_
      refine SO.v rfl (opv_move rfl) ?_
      refine SO.v rfl (opv_eql rfl rfl) ?_
      refine SO.v rfl (opv_move rfl) ?_
      refine SO.cut 3 23 (.bool ((x3 == a1) && (!x6_1))) [Own 3 (ekI .i64) v5_1 x5_1, F] (fun l2 hk2 => ?_) ?_
      · rcases bool_or (x3 == a1) with b5 | b5
        · refine SO.takeT rfl rfl rfl b5 ?_
          refine SO.v rfl (opv_move rfl) ?_
          refine SO.takeT rfl rfl rfl b5 ?_
          refine SO.v rfl (opv_not rfl) ?_
          refine SO.v rfl (opv_pick_t' b5 rfl rfl) ?_
          refine SO.b1 ?_
          refine SO.b1 ?_
          exact hk2.fitc (m := 3) rfl (and_t b5) rfl
        · refine SO.passF rfl rfl rfl b5 rfl rfl ?_
          refine SO.passF rfl rfl rfl b5 rfl rfl ?_
          refine SO.v rfl (opv_pick_f' b5 rfl rfl) ?_
          refine SO.b1 ?_
          refine SO.b1 ?_
          exact hk2.fitc (m := 3) rfl (and_f b5) rfl
      refine SO.nil ?_
      refine S.to (ρ' := [(7, .int .i64 x7_1), (6, .bool x6_1), (5, v5_1), (4, .slice none 0 0), (0, v0), (1, .int .i64 a1), (23, .bool ((x3 == a1) && (!x6_1)))]) ⟨rfl, rfl, rfl, rfl, rfl, rfl, rfl, trivial⟩ ?_
      rcases bool_or ((x3 == a1) && (!x6_1)) with b6 | b6
      · replace h := cond_t b6 h
        refine S.condT rfl b6 ?_
        refine S.region ?_
        refine SO.v rfl (opv_assign rfl) ?_
        refine SO.nil ?_
        refine S.inBlock ?_
        refine S.region ?_
        refine SO.v rfl (opv_move rfl) ?_
        refine SO.v rfl (opv_add rfl rfl) ?_
        refine SO.v rfl (opv_assign rfl) ?_
        refine SO.nil ?_
        refine S.b1 ?_
        refine S.b1 ?_
        refine S.to ?_ (ih1 ((w64 (x7_1 + 1), true, x5_1), v5_1) h)
        exact ⟨rfl, rfl, rfl, rfl, rfl, rfl, trivial⟩
      · replace h := cond_f b6 h
        refine S.condF rfl b6 ?_
        refine S.region ?_
        refine SO.v rfl (opv_move rfl) ?_
        refine SO.v rfl (opv_move rfl) ?_
        refine SO.v rfl (opv_move rfl) ?_
        obtain ⟨x7, hx8, h⟩ := opt_bind h
        refine SO.v rfl (opv_idx Try.underlying41 Try.sizeOf3 hF0 rfl rfl hx8) ?_
        refine SO.loadI1 (j := 0) rfl Try.isAgg3 (Rd.tail (Rd.head hF0)) hx8 rfl rfl rfl rfl ?_
        refine SO.buildSlice (K := ekI .i64) (xs := [x7]) (cs := [.int .i64 x7]) rfl Try.underlying41 Try.sizeOf3 Try.zeroValue3 rfl rfl rfl (by kernel_rfl) rfl rfl rfl (fun v9 hr10 => ?_)
        obtain ⟨zs11, hz12, h⟩ := opt_bind h
        refine SO.b1 ?_
        refine SO.append rfl Try.underlying41 Try.underlying41 inf3 rfl rfl rfl (by decide) rfl rfl rfl (Rd.head hr10) hz12 (fun v13 => ?_)
        refine SO.rd fun hr14 => ?_
        refine SO.v rfl (opv_assign rfl) ?_
        refine SO.nil ?_
        refine S.to (ρ' := [(7, .int .i64 x7_1), (6, .bool x6_1), (5, v13), (4, .slice none 0 0), (0, v0), (1, .int .i64 a1)]) ⟨rfl, rfl, rfl, rfl, rfl, rfl, trivial⟩ ?_
        refine S.inBlock ?_
        refine S.region ?_
        refine SO.v rfl (opv_move rfl) ?_
        refine SO.v rfl (opv_add rfl rfl) ?_
        refine SO.v rfl (opv_assign rfl) ?_
        refine SO.nil ?_
        refine S.b1 ?_
        refine S.drop ?_
        refine S.b1 ?_
        refine S.b1 ?_
        refine S.to ?_ (ih1 ((w64 (x7_1 + 1), x6_1, zs11), v13) h)
        exact ⟨rfl, rfl, rfl, rfl, rfl, rfl, trivial⟩
    · replace h := cond_f b2 h
      refine S.condF rfl b2 ?_
      refine S.exit rfl ?_
      cases h
      refine S.b1 ?_
      refine S.b1 ?_
      refine S.to ?_ (hK1 v5_1)
      exact ⟨rfl, rfl, trivial⟩
  rintro v5_e1
  refine S.rd fun hr15 => ?_
  refine S.seq ?_
  refine S.region ?_
  refine SO.v rfl (opv_move rfl) ?_
  refine SO.v rfl (opv_assign rfl) ?_
  refine SO.nil ?_
  cases h
  refine S.b1 ?_
  refine S.b1 ?_
  exact S.ret1 Try.func29 rfl rfl (fun w hs hk => hR w _ _ ⟨v5_e1, rfl, rfl⟩ hs hk)
end Go.Proofs
namespace Go.Proofs
open Go.Sl Go.RowKit
/-! 12 (*padstone/padstoneref10.State).Unlink -/
def ref10_State_Unlink.f (k : Nat) (a0 : ref10_State) (a1 : Int) : Option ((Int × ref10_State)) :=
  (ref10_slot.f a1).bind fun t1 => bif !t1 then (some (2, a0)) else ((at_ a0.Slots a1).bind fun x4 => bif decide (0 ≤ x4.Parent) then ((at_ a0.Slots x4.Parent).bind fun x18 => (ref10_without.f k x18.Kids a1).bind fun t26 => (at_ a0.Slots x4.Parent).bind fun x30 => (at_ (a0.Slots.set x4.Parent.toNat ({ x30 with Kids := t26 } : ref10_Slot)) a1).bind fun x44 => some (0, ({ a0 with Slots := (a0.Slots.set x4.Parent.toNat ({ x30 with Kids := t26 } : ref10_Slot)).set a1.toNat ({ x44 with Parent := -1 } : ref10_Slot) } : ref10_State))) else (some (0, a0)))
set_option maxHeartbeats 8000000 in
set_option maxRecDepth 100000 in
theorem ref10_State_Unlink.ct (k : Nat) (bp0 : Nat) (v0_Slots : Value) (v0_Objs : Value) (a0 : ref10_State) (a1 : Int) (r0 : Int) (rp0 : ref10_State) (h : ref10_State_Unlink.f k a0 a1 = some (r0, rp0)) :
    Ct Try.prog 12 [bp bp0 0, .int .i64 a1] (fun _ => True) [Box bp0 [v0_Slots, v0_Objs, .int .i64 a0.NS, .int .i64 a0.NO], OwnR 46 kr_ref10_Slot v0_Slots a0.Slots, OwnR 56 kr_ref10_Obj v0_Objs a0.Objs] (fun u H' => ∃ rw0_Slots rw0_Objs, u = .int .i64 r0 ∧ H' = [Box bp0 [rw0_Slots, rw0_Objs, .int .i64 rp0.NS, .int .i64 rp0.NO], OwnR 46 kr_ref10_Slot rw0_Slots rp0.Slots, OwnR 56 kr_ref10_Obj rw0_Objs rp0.Objs]) := by
  unfold ref10_State_Unlink.f at h
  refine Ct.intro (n := 45) Try.func12 rfl rfl rfl ?_
  intro R w0 F hF hR
  refine S.seq ?_
  refine S.region ?_
  refine SO.v rfl (opv_assign rfl) ?_
  refine SO.nil ?_
  refine S.seq ?_
  refine S.region ?_
  refine SO.v rfl (opv_move rfl) ?_
  obtain ⟨t1, ht2, h⟩ := opt_bind h
  refine SO.call (pre := []) rfl Try.call26 rfl rfl rfl (ref10_slot.ct _ _ ht2) trivial ?_
  rintro _ _ ⟨rfl, rfl⟩
  refine SO.v rfl (opv_assign rfl) ?_
  refine SO.nil ?_
  refine S.seq ?_
  refine S.seq ?_
  refine S.region ?_
  refine SO.v rfl (opv_move rfl) ?_
  refine SO.v rfl (opv_not rfl) ?_
  refine SO.nil ?_
  rcases bool_or (!t1) with b3 | b3
  · replace h := cond_t b3 h
    refine S.condT rfl b3 ?_
    refine S.seq ?_
    refine S.region ?_
    refine SO.v rfl (opv_assign rfl) ?_
    refine SO.nil ?_
    refine S.to (ρ' := [(4, .int .i64 2)]) ⟨rfl, trivial⟩ ?_
    cases h
    refine S.b3 ?_
    refine S.b3 ?_
    refine S.b3 ?_
    refine S.b3 ?_
    exact S.ret1 Try.func12 rfl rfl (fun w hs hk => hR w _ _ ⟨v0_Slots, v0_Objs, rfl, rfl⟩ hs hk)
  · replace h := cond_f b3 h
    refine S.condF rfl b3 ?_
    refine S.skip ?_
    refine S.seq ?_
    refine S.region ?_
    refine SO.v rfl (opv_move rfl) ?_
    refine SO.v rfl (opv_nilCheck rfl) ?_
    refine SO.v rfl (opv_fieldAddr Try.underlying50 rfl Try.sizeOf47 rfl rfl) ?_
    refine SO.load1 rfl Try.isAgg47 rfl rfl ?_
    refine SO.v rfl (opv_move rfl) ?_
    refine SO.b1 ?_
    refine SO.openR fun raws9 A10 hrel11 hR12 => ?_
    obtain ⟨x4, hx5, h⟩ := opt_bind h
    obtain ⟨r6, hr7, hc8⟩ := relR.at hrel11 hx5
    refine SO.v rfl (opv_idx Try.underlying47 Try.sizeOf46 hR12 rfl rfl hr7) ?_
    refine SO.v rfl (opv_fieldIdx Try.underlying46 rfl Try.sizeOf3 hR12 hr7 rfl rfl) ?_
    refine SO.loadI1 (j := 6) rfl Try.isAgg3 (Rd.head hR12) hr7 rfl rfl rfl (hc8.val rfl) ?_
    refine SO.v rfl (opv_assign rfl) ?_
    refine SO.nil ?_
    refine S.to (ρ' := [(0, bp bp0 0), (1, .int .i64 a1), (4, .int .i64 0), (6, .int .i64 x4.Parent)]) ⟨rfl, rfl, rfl, rfl, trivial⟩ ?_
    refine S.seq ?_
    refine S.seq ?_
    refine S.region ?_
    refine SO.v rfl (opv_move rfl) ?_
    refine SO.v rfl (opv_geq rfl rfl) ?_
    refine SO.nil ?_
    rcases bool_or (decide (0 ≤ x4.Parent)) with b13 | b13
    · replace h := cond_t b13 h
      refine S.condT rfl b13 ?_
      refine S.seq ?_
      refine S.b2 ?_
      refine S.openR fun raws14 A15 hrel16 hR17 => ?_
      obtain ⟨x18, hx19, h⟩ := opt_bind h
      obtain ⟨r20, hr21, hc22⟩ := relR.at hrel11 hx19
      obtain ⟨u23, hu24, hru25⟩ := hc22.sl 7 rfl
      obtain ⟨t26, ht27, h⟩ := opt_bind h
      obtain ⟨x30, hx31, h⟩ := opt_bind h
      obtain ⟨r32, hr33, hc34⟩ := relR.at hrel11 hx31
      refine S.draw' (Z := fun Q => ∀ (_ : Unit) (_ : Unit) (_ : Unit) (_ : Unit) (_ : Unit) (_ : Unit) (_ : Unit), Q [(0, bp bp0 0), (1, .int .i64 a1), (4, .int .i64 0)] [OwnO 56 kr_ref10_Obj v0_Objs raws14 A15 a0.Objs, OwnR 46 kr_ref10_Slot v0_Slots (a0.Slots.set x4.Parent.toNat ({ x30 with Kids := t26 } : ref10_Slot)), Box bp0 [v0_Slots, v0_Objs, .int .i64 a0.NS, .int .i64 a0.NO], F]) (T := [tS 0 (bp bp0 0), tS 6 (.int .i64 x4.Parent), tS 1 (.int .i64 a1), tS 4 (.int .i64 0), tR (OwnO 56 kr_ref10_Obj v0_Objs raws14 A15 a0.Objs), tR (OwnO 46 kr_ref10_Slot v0_Slots raws9 A10 a0.Slots), tR (Box bp0 [v0_Slots, v0_Objs, .int .i64 a0.NS, .int .i64 a0.NO]), tR (F), tS 21 (bp bp0 0), tS 22 (bp bp0 0), tS 23 (bp bp0 0), tS 24 (v0_Slots), tS 25 (.int .i64 x4.Parent), tS 26 (bp bp0 0), tS 27 (bp bp0 0), tS 28 (bp bp0 0), tS 29 (v0_Slots), tS 30 (.int .i64 x4.Parent), tS 31 (idxp v0_Slots (x4.Parent.toNat * kr_ref10_Slot.sz)), tS 32 (idxp v0_Slots (x4.Parent.toNat * kr_ref10_Slot.sz + 7)), tS 33 (u23), tS 34 (.int .i64 a1), ⟨Value, [35], (fun v28 => [(35, v28)]), (fun v28 => [Own 3 (ekI .i64) v28 t26]), fun _ => rfl⟩, tS 36 (idxp v0_Slots (x4.Parent.toNat * kr_ref10_Slot.sz)), tS 37 (idxp v0_Slots (x4.Parent.toNat * kr_ref10_Slot.sz + 7)), tR (OwnR 46 kr_ref10_Slot v0_Slots (a0.Slots.set x4.Parent.toNat ({ x30 with Kids := t26 } : ref10_Slot)))]) (D := [⟨[0], [], [8]⟩, ⟨[8], [], [9]⟩, ⟨[9], [], [10]⟩, ⟨[10, 6], [], [11]⟩, ⟨[1], [], [12]⟩, ⟨[0], [], [13]⟩, ⟨[13], [], [14]⟩, ⟨[14], [], [15]⟩, ⟨[15, 6], [], [16]⟩, ⟨[1], [], [17]⟩, ⟨[16, 17, 5], [], [18]⟩, ⟨[18, 5], [], [19]⟩, ⟨[19, 5], [], [20]⟩, ⟨[2], [], [21]⟩, ⟨[20, 21, 5], [], [22]⟩, ⟨[11, 12, 5], [], [23]⟩, ⟨[23, 5], [], [24]⟩, ⟨[24], [22, 5], [25]⟩]) (ini := [0, 1, 2, 3, 4, 5, 6, 7]) (fin := [0, 2, 3, 4, 25, 6, 7]) (bf := [[], [0], [0, 1], [0, 1, 2], [], [], [5], [5, 6], [5, 6, 7], [], [5, 6, 7, 8, 9], [5, 6, 7, 8, 9, 10], [5, 6, 7, 8, 9, 10, 11], [], [5, 6, 7, 8, 9, 10, 11, 12, 13], [0, 1, 2, 3, 4, 5, 6, 7, 8, 9, 10, 11, 12, 13, 14], [0, 1, 2, 3, 4, 5, 6, 7, 8, 9, 10, 11, 12, 13, 14, 15], [0, 1, 2, 3, 4, 5, 6, 7, 8, 9, 10, 11, 12, 13, 14, 15, 16]]) (by kernel_rfl) (by kernel_rfl) (fun x w h1 h2 => (.cons () (.cons () (.cons () (.cons () (.cons () (.cons () (.cons () (.cons () (.nil ⟨EnvAll.of h1 ⟨rfl, rfl, rfl, rfl, trivial⟩, h2⟩)))))))))) (fun Q => by kernel_rfl) ⟨?_, ?_, ?_, ?_, ?_, ?_, ?_, ?_, ?_, ?_, ?_, ?_, ?_, ?_, ?_, ?_, ?_, ?_, trivial⟩ ?_
      · rintro Fr _
        refine SO.v rfl (opv_move rfl) ?_
        exact SO.nilZ fun a w h1 h2 h3 h4 h5 => PZ.of h1 h3 h5 (.cons () (.cons () (.nil ⟨EnvAll.of h2 ⟨rfl, rfl, trivial⟩, h4⟩)))
      · rintro Fr _
        refine SO.v rfl (opv_nilCheck rfl) ?_
        exact SO.nilZ fun a w h1 h2 h3 h4 h5 => PZ.of h1 h3 h5 (.cons () (.cons () (.nil ⟨EnvAll.of h2 ⟨rfl, rfl, trivial⟩, h4⟩)))
      · rintro Fr _
        refine SO.v rfl (opv_fieldAddr Try.underlying50 rfl Try.sizeOf47 rfl rfl) ?_
        exact SO.nilZ fun a w h1 h2 h3 h4 h5 => PZ.of h1 h3 h5 (.cons () (.cons () (.nil ⟨EnvAll.of h2 ⟨rfl, rfl, trivial⟩, h4⟩)))
      · rintro Fr _ _
        refine SO.load1 rfl Try.isAgg47 rfl rfl ?_
        exact SO.nilZ fun a w h1 h2 h3 h4 h5 => PZ.of h1 h3 h5 (.cons () (.cons () (.cons () (.nil ⟨EnvAll.of h2 ⟨rfl, rfl, trivial⟩, h4⟩))))
      · rintro Fr _
        refine SO.v rfl (opv_move rfl) ?_
        exact SO.nilZ fun a w h1 h2 h3 h4 h5 => PZ.of h1 h3 h5 (.cons () (.cons () (.nil ⟨EnvAll.of h2 ⟨rfl, rfl, trivial⟩, h4⟩)))
      · rintro Fr _
        refine SO.v rfl (opv_move rfl) ?_
        exact SO.nilZ fun a w h1 h2 h3 h4 h5 => PZ.of h1 h3 h5 (.cons () (.cons () (.nil ⟨EnvAll.of h2 ⟨rfl, rfl, trivial⟩, h4⟩)))
      · rintro Fr _
        refine SO.v rfl (opv_nilCheck rfl) ?_
        exact SO.nilZ fun a w h1 h2 h3 h4 h5 => PZ.of h1 h3 h5 (.cons () (.cons () (.nil ⟨EnvAll.of h2 ⟨rfl, rfl, trivial⟩, h4⟩)))
      · rintro Fr _
        refine SO.v rfl (opv_fieldAddr Try.underlying50 rfl Try.sizeOf47 rfl rfl) ?_
        exact SO.nilZ fun a w h1 h2 h3 h4 h5 => PZ.of h1 h3 h5 (.cons () (.cons () (.nil ⟨EnvAll.of h2 ⟨rfl, rfl, trivial⟩, h4⟩)))
      · rintro Fr _ _
        refine SO.load1 rfl Try.isAgg47 rfl rfl ?_
        exact SO.nilZ fun a w h1 h2 h3 h4 h5 => PZ.of h1 h3 h5 (.cons () (.cons () (.cons () (.nil ⟨EnvAll.of h2 ⟨rfl, rfl, trivial⟩, h4⟩))))
      · rintro Fr _
        refine SO.v rfl (opv_move rfl) ?_
        exact SO.nilZ fun a w h1 h2 h3 h4 h5 => PZ.of h1 h3 h5 (.cons () (.cons () (.nil ⟨EnvAll.of h2 ⟨rfl, rfl, trivial⟩, h4⟩)))
      · rintro Fr _ _ _
        refine SO.v rfl (opv_idx Try.underlying47 Try.sizeOf46 hR12 rfl rfl hr21) ?_
        exact SO.nilZ fun a w h1 h2 h3 h4 h5 => PZ.of h1 h3 h5 (.cons () (.cons () (.cons () (.cons () (.nil ⟨EnvAll.of h2 ⟨rfl, rfl, rfl, trivial⟩, h4⟩)))))
      · rintro Fr _ _
        refine SO.v rfl (opv_fieldIdx Try.underlying46 rfl Try.sizeOf41 hR12 hr21 rfl rfl) ?_
        exact SO.nilZ fun a w h1 h2 h3 h4 h5 => PZ.of h1 h3 h5 (.cons () (.cons () (.cons () (.nil ⟨EnvAll.of h2 ⟨rfl, rfl, trivial⟩, h4⟩))))
      · rintro Fr _ _
        refine SO.loadI1 (j := 7) rfl Try.isAgg41 (Rd.head hR12) hr21 rfl rfl rfl hu24 ?_
        exact SO.nilZ fun a w h1 h2 h3 h4 h5 => PZ.of h1 h3 h5 (.cons () (.cons () (.cons () (.nil ⟨EnvAll.of h2 ⟨rfl, rfl, trivial⟩, h4⟩))))
      · rintro Fr _
        refine SO.v rfl (opv_move rfl) ?_
        exact SO.nilZ fun a w h1 h2 h3 h4 h5 => PZ.of h1 h3 h5 (.cons () (.cons () (.nil ⟨EnvAll.of h2 ⟨rfl, rfl, trivial⟩, h4⟩)))
      · rintro Fr _ _ _
        refine SO.call (pre := []) rfl Try.call29 rfl rfl rfl (ref10_without.ct _ u23 _ _ _ ht27) (Rd.head (Rd.pool hru25)) ?_
        rintro v28 _ ⟨_, rfl, rfl⟩
        refine SO.rd fun hr29 => ?_
        refine SO.b1 ?_
        exact SO.nilZ fun a w h1 h2 h3 h4 h5 => PZ.of h1 h3 h5 (.cons () (.cons () (.cons () (.cons v28 (.nil ⟨EnvAll.of h2 ⟨rfl, rfl, rfl, trivial⟩, h4⟩)))))
      · rintro Fr _ _ _
        refine SO.v rfl (opv_idx Try.underlying47 Try.sizeOf46 hR12 rfl rfl hr33) ?_
        exact SO.nilZ fun a w h1 h2 h3 h4 h5 => PZ.of h1 h3 h5 (.cons () (.cons () (.cons () (.cons () (.nil ⟨EnvAll.of h2 ⟨rfl, rfl, rfl, trivial⟩, h4⟩)))))
      · rintro Fr _ _
        refine SO.v rfl (opv_fieldIdx Try.underlying46 rfl Try.sizeOf41 hR12 hr33 rfl rfl) ?_
        exact SO.nilZ fun a w h1 h2 h3 h4 h5 => PZ.of h1 h3 h5 (.cons () (.cons () (.cons () (.nil ⟨EnvAll.of h2 ⟨rfl, rfl, trivial⟩, h4⟩))))
      · rintro Fr _ v28 _
        refine SO.rd fun hr35 => ?_
        refine SO.b1 ?_
        refine SO.b1 ?_
        refine SO.freeze hrel11 fun A36 hcov37 hru38 hrel39 hR40 => ?_
        refine SO.storeO1 (j := 7) (q := .sl (ekI .i64) t26) (z' := ({ x30 with Kids := t26 } : ref10_Slot)) Try.sizeOf41 hrel39 hx31 rfl rfl (Rd.one hru38) rfl rfl rfl hru38 (fun raws41 hrel42 hR43 => ?_)
        refine SO.closeR ?_
        exact SO.nilZ fun a w h1 h2 h3 h4 h5 => PZ.of h1 h3 h5 (.cons () (.cons () (.nil ⟨EnvAll.of h2 ⟨rfl, trivial⟩, h4⟩)))
      rintro _ _ _ _ _ _ _
      refine S.to (ρ' := [(0, bp bp0 0), (1, .int .i64 a1), (4, .int .i64 0)]) ⟨rfl, rfl, rfl, trivial⟩ ?_
      refine S.region ?_
      refine SO.v rfl (opv_move rfl) ?_
      refine SO.v rfl (opv_nilCheck rfl) ?_
      refine SO.v rfl (opv_fieldAddr Try.underlying50 rfl Try.sizeOf47 rfl rfl) ?_
      refine SO.b2 ?_
      refine SO.load1 rfl Try.isAgg47 rfl rfl ?_
      refine SO.v rfl (opv_move rfl) ?_
      refine SO.b2 ?_
      refine SO.openR fun raws49 A50 hrel51 hR52 => ?_
      obtain ⟨x44, hx45, h⟩ := opt_bind h
      obtain ⟨r46, hr47, hc48⟩ := relR.at hrel51 hx45
      refine SO.v rfl (opv_idx Try.underlying47 Try.sizeOf46 hR52 rfl rfl hr47) ?_
      refine SO.v rfl (opv_fieldIdx Try.underlying46 rfl Try.sizeOf3 hR52 hr47 rfl rfl) ?_
      refine SO.storeO1 (j := 6) (q := .val (.int .i64 (-1))) (z' := ({ x44 with Parent := -1 } : ref10_Slot)) Try.sizeOf3 hrel51 hx45 rfl rfl rfl rfl rfl rfl rfl (fun raws53 hrel54 hR55 => ?_)
      refine SO.nil ?_
      refine S.to (ρ' := [(4, .int .i64 0)]) ⟨rfl, trivial⟩ ?_
      refine S.seq ?_
      refine S.region ?_
      refine SO.v rfl (opv_assign rfl) ?_
      refine SO.nil ?_
      cases h
      refine S.closeR ?_
      refine S.b2 ?_
      refine S.closeR ?_
      refine S.b3 ?_
      refine S.b1 ?_
      refine S.b2 ?_
      refine S.b3 ?_
      exact S.ret1 Try.func12 rfl rfl (fun w hs hk => hR w _ _ ⟨v0_Slots, v0_Objs, rfl, rfl⟩ hs hk)
    · replace h := cond_f b13 h
      refine S.condF rfl b13 ?_
      refine S.skip ?_
      refine S.seq ?_
      refine S.region ?_
      refine SO.v rfl (opv_assign rfl) ?_
      refine SO.nil ?_
      cases h
      refine S.closeR ?_
      refine S.b3 ?_
      refine S.b3 ?_
      refine S.b2 ?_
      refine S.b3 ?_
      exact S.ret1 Try.func12 rfl rfl (fun w hs hk => hR w _ _ ⟨v0_Slots, v0_Objs, rfl, rfl⟩ hs hk)
end Go.Proofs
namespace Go.Proofs
open Go.Sl Go.RowKit
/-! 30 padstone/padstoneref01.Word -/
def ref01_Word.f (a0 : api_Cap) : Option (Int) :=
  some (wu64 ((wu64 ((wu64 ((wu64 ((wu64 ((wu64 a0.Kind) + (wu64 (16 * (wu64 a0.Rights))))) + (wu64 (128 * (wu64 a0.Obj))))) + (wu64 (4096 * (wu64 a0.Badge))))) + (wu64 (268435456 * (wu64 a0.Bits))))) + (wu64 (4294967296 * (wu64 a0.Guard)))))
set_option maxHeartbeats 8000000 in
set_option maxRecDepth 100000 in
theorem ref01_Word.ct (a0 : api_Cap) (r0 : Int) (h : ref01_Word.f a0 = some r0) :
    Ct Try.prog 30 [.agg #[.int .i64 a0.Kind, .int .i64 a0.Rights, .int .i64 a0.Obj, .int .i64 a0.Badge, .int .i64 a0.Guard, .int .i64 a0.Bits]] (fun _ => True) [] (fun u H' => u = .int .u64 r0 ∧ H' = []) := by
  unfold ref01_Word.f at h
  refine Ct.intro (n := 31) Try.func30 rfl rfl rfl ?_
  intro R w0 F hF hR
  refine S.seq ?_
  refine S.region ?_
  refine SO.box rfl rfl rfl (fun b1 => ?_)
  refine SO.v rfl (opv_assign rfl) ?_
  refine SO.nil ?_
  refine S.seq ?_
  refine S.region ?_
  refine SO.v rfl (opv_fieldAddr Try.underlying44 rfl Try.sizeOf3 rfl rfl) ?_
  refine SO.load1 rfl Try.isAgg3 rfl rfl ?_
  refine SO.v rfl (opv_conv Try.underlying3 Try.underlying65 rfl) ?_
  refine SO.v rfl (opv_fieldAddr Try.underlying44 rfl Try.sizeOf3 rfl rfl) ?_
  refine SO.load1 rfl Try.isAgg3 rfl rfl ?_
  refine SO.v rfl (opv_conv Try.underlying3 Try.underlying65 rfl) ?_
  refine SO.v rfl (opv_mul rfl rfl) ?_
  refine SO.v rfl (opv_add rfl rfl) ?_
  refine SO.v rfl (opv_fieldAddr Try.underlying44 rfl Try.sizeOf3 rfl rfl) ?_
  refine SO.load1 rfl Try.isAgg3 rfl rfl ?_
  refine SO.v rfl (opv_conv Try.underlying3 Try.underlying65 rfl) ?_
  refine SO.v rfl (opv_mul rfl rfl) ?_
  refine SO.v rfl (opv_add rfl rfl) ?_
  refine SO.v rfl (opv_fieldAddr Try.underlying44 rfl Try.sizeOf3 rfl rfl) ?_
  refine SO.load1 rfl Try.isAgg3 rfl rfl ?_
  refine SO.v rfl (opv_conv Try.underlying3 Try.underlying65 rfl) ?_
  refine SO.v rfl (opv_mul rfl rfl) ?_
  refine SO.v rfl (opv_add rfl rfl) ?_
  refine SO.v rfl (opv_fieldAddr Try.underlying44 rfl Try.sizeOf3 rfl rfl) ?_
  refine SO.load1 rfl Try.isAgg3 rfl rfl ?_
  refine SO.v rfl (opv_conv Try.underlying3 Try.underlying65 rfl) ?_
  refine SO.v rfl (opv_mul rfl rfl) ?_
  refine SO.v rfl (opv_add rfl rfl) ?_
  refine SO.v rfl (opv_fieldAddr Try.underlying44 rfl Try.sizeOf3 rfl rfl) ?_
  refine SO.load1 rfl Try.isAgg3 rfl rfl ?_
  refine SO.v rfl (opv_conv Try.underlying3 Try.underlying65 rfl) ?_
  refine SO.v rfl (opv_mul rfl rfl) ?_
  refine SO.v rfl (opv_add rfl rfl) ?_
  refine SO.v rfl (opv_assign rfl) ?_
  refine SO.nil ?_
  refine S.to (ρ' := [(2, .int .u64 (wu64 ((wu64 ((wu64 ((wu64 ((wu64 ((wu64 a0.Kind) + (wu64 (16 * (wu64 a0.Rights))))) + (wu64 (128 * (wu64 a0.Obj))))) + (wu64 (4096 * (wu64 a0.Badge))))) + (wu64 (268435456 * (wu64 a0.Bits))))) + (wu64 (4294967296 * (wu64 a0.Guard))))))]) ⟨rfl, trivial⟩ ?_
  cases h
  refine S.drop ?_
  exact S.ret1 Try.func30 rfl rfl (fun w hs hk => hR w _ _ ⟨rfl, rfl⟩ hs hk)
end Go.Proofs
namespace Go.Proofs
open Go.Sl Go.RowKit
/-! 17 (*padstone/padstoneref10.State).Words -/
def ref10_State_Words.l2 (x4_1 : Int) (x11 : ref10_Slot) : Nat → (Int × (List Int)) → Option ((List Int))
  | 0, _ => none
  | k + 1, (x6_2, qv5_2) => bif decide (x6_2 < (x11.Kids.length : Int)) then ((at_ x11.Kids x6_2).bind fun x30 => (bif x6_2 == 0 then ((at_ qv5_2 (w64 ((w64 (5 * x4_1)) + 2))).bind fun x33 => some (qv5_2.set (w64 ((w64 (5 * x4_1)) + 2)).toNat (wu64 (w64 (x30 + 1))))) else ((at_ x11.Kids (w64 (x6_2 - 1))).bind fun x36 => (at_ qv5_2 (w64 ((w64 (5 * x30)) + 4))).bind fun x38 => some (qv5_2.set (w64 ((w64 (5 * x30)) + 4)).toNat (wu64 (w64 (x36 + 1)))))).bind fun qv5_3 => bif decide ((w64 (x6_2 + 1)) < (x11.Kids.length : Int)) then ((at_ x11.Kids (w64 (x6_2 + 1))).bind fun x43 => (at_ qv5_3 (w64 ((w64 (5 * x30)) + 3))).bind fun x45 => ref10_State_Words.l2 x4_1 x11 k (w64 (x6_2 + 1), qv5_3.set (w64 ((w64 (5 * x30)) + 3)).toNat (wu64 (w64 (x43 + 1))))) else (ref10_State_Words.l2 x4_1 x11 k (w64 (x6_2 + 1), qv5_3))) else (some qv5_2)
def ref10_State_Words.l1 (a0 : ref10_State) : Nat → (Int × (List Int)) → Option ((List Int))
  | 0, _ => none
  | k + 1, (x4_1, qv5_1) => bif decide (x4_1 < 96) then ((at_ a0.Slots x4_1).bind fun x11 => (ref01_Word.f x11.Cap).bind fun t20 => (at_ qv5_1 (w64 (5 * x4_1))).bind fun x22 => (at_ (qv5_1.set (w64 (5 * x4_1)).toNat t20) (w64 ((w64 (5 * x4_1)) + 1))).bind fun x25 => (ref10_State_Words.l2 x4_1 x11 k (0, (qv5_1.set (w64 (5 * x4_1)).toNat t20).set (w64 ((w64 (5 * x4_1)) + 1)).toNat (wu64 (w64 (x11.Parent + 1))))).bind fun qv5_e2 => ref10_State_Words.l1 a0 k (w64 (x4_1 + 1), qv5_e2)) else (some qv5_1)
def ref10_State_Words.l6 (x8_4 : Int) (x52 : ref10_Obj) : Nat → (Int × (List Int)) → Option ((List Int))
  | 0, _ => none
  | k + 1, (x11_6, qv5_6) => bif decide (x11_6 < 4) then ((A4.get x52.Pages x11_6).bind fun x123 => bif decide (0 ≤ x123) then ((A4.get x52.Pages x11_6).bind fun x126 => (A4.get x52.Right x11_6).bind fun x128 => (at_ qv5_6 (w64 ((w64 ((w64 (480 + (w64 (8 * x8_4)))) + 1)) + x11_6))).bind fun x130 => ref10_State_Words.l6 x8_4 x52 k (w64 (x11_6 + 1), qv5_6.set (w64 ((w64 ((w64 (480 + (w64 (8 * x8_4)))) + 1)) + x11_6)).toNat (wu64 (w64 ((w64 (8 * (w64 (x126 + 1)))) + x128))))) else (ref10_State_Words.l6 x8_4 x52 k (w64 (x11_6 + 1), qv5_6))) else (some qv5_6)
def ref10_State_Words.l7 (x8_4 : Int) (x52 : ref10_Obj) : Nat → (Int × (List Int)) → Option ((List Int))
  | 0, _ => none
  | k + 1, (x12_7, qv5_7) => bif decide (x12_7 < (x52.Queue.length : Int)) then ((at_ x52.Queue x12_7).bind fun x148 => (bif x12_7 == 0 then ((at_ qv5_7 (w64 ((w64 (480 + (w64 (8 * x8_4)))) + 2))).bind fun x151 => some (qv5_7.set (w64 ((w64 (480 + (w64 (8 * x8_4)))) + 2)).toNat (wu64 (w64 (x148 + 1))))) else (some qv5_7)).bind fun qv5_8 => bif decide ((w64 (x12_7 + 1)) < (x52.Queue.length : Int)) then ((at_ x52.Queue (w64 (x12_7 + 1))).bind fun x156 => (at_ qv5_8 (w64 ((w64 (480 + (w64 (8 * x148)))) + 2))).bind fun x158 => ref10_State_Words.l7 x8_4 x52 k (w64 (x12_7 + 1), qv5_8.set (w64 ((w64 (480 + (w64 (8 * x148)))) + 2)).toNat (wu64 (w64 (x156 + 1))))) else ((at_ qv5_8 (w64 ((w64 (480 + (w64 (8 * x8_4)))) + 3))).bind fun x161 => ref10_State_Words.l7 x8_4 x52 k (w64 (x12_7 + 1), qv5_8.set (w64 ((w64 (480 + (w64 (8 * x8_4)))) + 3)).toNat (wu64 (w64 (x148 + 1)))))) else (some qv5_7)
def ref10_State_Words.l4 (a0 : ref10_State) : Nat → (Int × (List Int)) → Option ((List Int))
  | 0, _ => none
  | k + 1, (x8_4, qv5_4) => bif decide (x8_4 < 32) then ((at_ a0.Objs x8_4).bind fun x52 => (at_ qv5_4 (w64 (480 + (w64 (8 * x8_4))))).bind fun x61 => (bif x52.Kind == 1 then ((at_ (qv5_4.set (w64 (480 + (w64 (8 * x8_4)))).toNat (wu64 x52.Kind)) (w64 ((w64 (480 + (w64 (8 * x8_4)))) + 1))).bind fun x65 => (at_ ((qv5_4.set (w64 (480 + (w64 (8 * x8_4)))).toNat (wu64 x52.Kind)).set (w64 ((w64 (480 + (w64 (8 * x8_4)))) + 1)).toNat (wu64 x52.Size)) (w64 ((w64 (480 + (w64 (8 * x8_4)))) + 2))).bind fun x68 => some (((qv5_4.set (w64 (480 + (w64 (8 * x8_4)))).toNat (wu64 x52.Kind)).set (w64 ((w64 (480 + (w64 (8 * x8_4)))) + 1)).toNat (wu64 x52.Size)).set (w64 ((w64 (480 + (w64 (8 * x8_4)))) + 2)).toNat (wu64 x52.Used))) else (bif x52.Kind == 2 then ((at_ (qv5_4.set (w64 (480 + (w64 (8 * x8_4)))).toNat (wu64 x52.Kind)) (w64 ((w64 (480 + (w64 (8 * x8_4)))) + 1))).bind fun x72 => (at_ ((qv5_4.set (w64 (480 + (w64 (8 * x8_4)))).toNat (wu64 x52.Kind)).set (w64 ((w64 (480 + (w64 (8 * x8_4)))) + 1)).toNat (wu64 x52.First)) (w64 ((w64 (480 + (w64 (8 * x8_4)))) + 2))).bind fun x75 => some (((qv5_4.set (w64 (480 + (w64 (8 * x8_4)))).toNat (wu64 x52.Kind)).set (w64 ((w64 (480 + (w64 (8 * x8_4)))) + 1)).toNat (wu64 x52.First)).set (w64 ((w64 (480 + (w64 (8 * x8_4)))) + 2)).toNat (wu64 x52.Radix))) else (bif x52.Kind == 3 then ((at_ (qv5_4.set (w64 (480 + (w64 (8 * x8_4)))).toNat (wu64 x52.Kind)) (w64 ((w64 (480 + (w64 (8 * x8_4)))) + 1))).bind fun x79 => some ((qv5_4.set (w64 (480 + (w64 (8 * x8_4)))).toNat (wu64 x52.Kind)).set (w64 ((w64 (480 + (w64 (8 * x8_4)))) + 1)).toNat (wu64 x52.Wait))) else (bif x52.Kind == 4 then ((at_ (qv5_4.set (w64 (480 + (w64 (8 * x8_4)))).toNat (wu64 x52.Kind)) (w64 ((w64 (480 + (w64 (8 * x8_4)))) + 1))).bind fun x83 => some ((qv5_4.set (w64 (480 + (w64 (8 * x8_4)))).toNat (wu64 x52.Kind)).set (w64 ((w64 (480 + (w64 (8 * x8_4)))) + 1)).toNat (wu64 x52.Word))) else (bif x52.Kind == 5 then ((at_ (qv5_4.set (w64 (480 + (w64 (8 * x8_4)))).toNat (wu64 x52.Kind)) (w64 ((w64 (480 + (w64 (8 * x8_4)))) + 1))).bind fun x87 => (at_ ((qv5_4.set (w64 (480 + (w64 (8 * x8_4)))).toNat (wu64 x52.Kind)).set (w64 ((w64 (480 + (w64 (8 * x8_4)))) + 1)).toNat (wu64 x52.State)) (w64 ((w64 (480 + (w64 (8 * x8_4)))) + 2))).bind fun x90 => (at_ ((qv5_4.set (w64 (480 + (w64 (8 * x8_4)))).toNat (wu64 x52.Kind)).set (w64 ((w64 (480 + (w64 (8 * x8_4)))) + 1)).toNat (wu64 x52.State)) (w64 ((w64 (480 + (w64 (8 * x8_4)))) + 2))).bind fun x92 => (at_ (((qv5_4.set (w64 (480 + (w64 (8 * x8_4)))).toNat (wu64 x52.Kind)).set (w64 ((w64 (480 + (w64 (8 * x8_4)))) + 1)).toNat (wu64 x52.State)).set (w64 ((w64 (480 + (w64 (8 * x8_4)))) + 2)).toNat (wu64 (x90 + (wu64 (w64 (x52.Owing + 1)))))) (w64 ((w64 (480 + (w64 (8 * x8_4)))) + 3))).bind fun x96 => (at_ ((((qv5_4.set (w64 (480 + (w64 (8 * x8_4)))).toNat (wu64 x52.Kind)).set (w64 ((w64 (480 + (w64 (8 * x8_4)))) + 1)).toNat (wu64 x52.State)).set (w64 ((w64 (480 + (w64 (8 * x8_4)))) + 2)).toNat (wu64 (x90 + (wu64 (w64 (x52.Owing + 1)))))).set (w64 ((w64 (480 + (w64 (8 * x8_4)))) + 3)).toNat (wu64 x52.Word)) (w64 ((w64 (480 + (w64 (8 * x8_4)))) + 4))).bind fun x99 => (at_ (((((qv5_4.set (w64 (480 + (w64 (8 * x8_4)))).toNat (wu64 x52.Kind)).set (w64 ((w64 (480 + (w64 (8 * x8_4)))) + 1)).toNat (wu64 x52.State)).set (w64 ((w64 (480 + (w64 (8 * x8_4)))) + 2)).toNat (wu64 (x90 + (wu64 (w64 (x52.Owing + 1)))))).set (w64 ((w64 (480 + (w64 (8 * x8_4)))) + 3)).toNat (wu64 x52.Word)).set (w64 ((w64 (480 + (w64 (8 * x8_4)))) + 4)).toNat (wu64 x52.Badge)) (w64 ((w64 (480 + (w64 (8 * x8_4)))) + 5))).bind fun x102 => (at_ ((((((qv5_4.set (w64 (480 + (w64 (8 * x8_4)))).toNat (wu64 x52.Kind)).set (w64 ((w64 (480 + (w64 (8 * x8_4)))) + 1)).toNat (wu64 x52.State)).set (w64 ((w64 (480 + (w64 (8 * x8_4)))) + 2)).toNat (wu64 (x90 + (wu64 (w64 (x52.Owing + 1)))))).set (w64 ((w64 (480 + (w64 (8 * x8_4)))) + 3)).toNat (wu64 x52.Word)).set (w64 ((w64 (480 + (w64 (8 * x8_4)))) + 4)).toNat (wu64 x52.Badge)).set (w64 ((w64 (480 + (w64 (8 * x8_4)))) + 5)).toNat (wu64 (w64 (x52.Prio + (w64 (256 * (w64 (x52.On + 1)))))))) (w64 ((w64 (480 + (w64 (8 * x8_4)))) + 6))).bind fun x105 => (ref01_Word.f x52.Root).bind fun t108 => (at_ (((((((qv5_4.set (w64 (480 + (w64 (8 * x8_4)))).toNat (wu64 x52.Kind)).set (w64 ((w64 (480 + (w64 (8 * x8_4)))) + 1)).toNat (wu64 x52.State)).set (w64 ((w64 (480 + (w64 (8 * x8_4)))) + 2)).toNat (wu64 (x90 + (wu64 (w64 (x52.Owing + 1)))))).set (w64 ((w64 (480 + (w64 (8 * x8_4)))) + 3)).toNat (wu64 x52.Word)).set (w64 ((w64 (480 + (w64 (8 * x8_4)))) + 4)).toNat (wu64 x52.Badge)).set (w64 ((w64 (480 + (w64 (8 * x8_4)))) + 5)).toNat (wu64 (w64 (x52.Prio + (w64 (256 * (w64 (x52.On + 1)))))))).set (w64 ((w64 (480 + (w64 (8 * x8_4)))) + 6)).toNat (wu64 (w64 (x52.Owes + 1)))) (w64 ((w64 (480 + (w64 (8 * x8_4)))) + 7))).bind fun x110 => some ((((((((qv5_4.set (w64 (480 + (w64 (8 * x8_4)))).toNat (wu64 x52.Kind)).set (w64 ((w64 (480 + (w64 (8 * x8_4)))) + 1)).toNat (wu64 x52.State)).set (w64 ((w64 (480 + (w64 (8 * x8_4)))) + 2)).toNat (wu64 (x90 + (wu64 (w64 (x52.Owing + 1)))))).set (w64 ((w64 (480 + (w64 (8 * x8_4)))) + 3)).toNat (wu64 x52.Word)).set (w64 ((w64 (480 + (w64 (8 * x8_4)))) + 4)).toNat (wu64 x52.Badge)).set (w64 ((w64 (480 + (w64 (8 * x8_4)))) + 5)).toNat (wu64 (w64 (x52.Prio + (w64 (256 * (w64 (x52.On + 1)))))))).set (w64 ((w64 (480 + (w64 (8 * x8_4)))) + 6)).toNat (wu64 (w64 (x52.Owes + 1)))).set (w64 ((w64 (480 + (w64 (8 * x8_4)))) + 7)).toNat t108)) else (bif x52.Kind == 6 then ((at_ (qv5_4.set (w64 (480 + (w64 (8 * x8_4)))).toNat (wu64 x52.Kind)) (w64 ((w64 (480 + (w64 (8 * x8_4)))) + 1))).bind fun x114 => (at_ ((qv5_4.set (w64 (480 + (w64 (8 * x8_4)))).toNat (wu64 x52.Kind)).set (w64 ((w64 (480 + (w64 (8 * x8_4)))) + 1)).toNat (wu64 (w64 (x52.In + 1)))) (w64 ((w64 (480 + (w64 (8 * x8_4)))) + 2))).bind fun x117 => some (((qv5_4.set (w64 (480 + (w64 (8 * x8_4)))).toNat (wu64 x52.Kind)).set (w64 ((w64 (480 + (w64 (8 * x8_4)))) + 1)).toNat (wu64 (w64 (x52.In + 1)))).set (w64 ((w64 (480 + (w64 (8 * x8_4)))) + 2)).toNat (wu64 x52.Page))) else (bif x52.Kind == 7 then ((ref10_State_Words.l6 x8_4 x52 k (0, qv5_4.set (w64 (480 + (w64 (8 * x8_4)))).toNat (wu64 x52.Kind))).bind fun qv5_e6 => some qv5_e6) else (bif x52.Kind == 8 then ((at_ (qv5_4.set (w64 (480 + (w64 (8 * x8_4)))).toNat (wu64 x52.Kind)) (w64 ((w64 (480 + (w64 (8 * x8_4)))) + 1))).bind fun x136 => (at_ ((qv5_4.set (w64 (480 + (w64 (8 * x8_4)))).toNat (wu64 x52.Kind)).set (w64 ((w64 (480 + (w64 (8 * x8_4)))) + 1)).toNat (wu64 (w64 (x52.Bound + 1)))) (w64 ((w64 (480 + (w64 (8 * x8_4)))) + 2))).bind fun x139 => (at_ (((qv5_4.set (w64 (480 + (w64 (8 * x8_4)))).toNat (wu64 x52.Kind)).set (w64 ((w64 (480 + (w64 (8 * x8_4)))) + 1)).toNat (wu64 (w64 (x52.Bound + 1)))).set (w64 ((w64 (480 + (w64 (8 * x8_4)))) + 2)).toNat (wu64 x52.Badge)) (w64 ((w64 (480 + (w64 (8 * x8_4)))) + 3))).bind fun x142 => some ((((qv5_4.set (w64 (480 + (w64 (8 * x8_4)))).toNat (wu64 x52.Kind)).set (w64 ((w64 (480 + (w64 (8 * x8_4)))) + 1)).toNat (wu64 (w64 (x52.Bound + 1)))).set (w64 ((w64 (480 + (w64 (8 * x8_4)))) + 2)).toNat (wu64 x52.Badge)).set (w64 ((w64 (480 + (w64 (8 * x8_4)))) + 3)).toNat (wu64 x52.Mask))) else (some (qv5_4.set (w64 (480 + (w64 (8 * x8_4)))).toNat (wu64 x52.Kind))))))))))).bind fun qv5_5 => (ref10_State_Words.l7 x8_4 x52 k (0, qv5_5)).bind fun qv5_e7 => ref10_State_Words.l4 a0 k (w64 (x8_4 + 1), qv5_e7)) else (some qv5_4)
def ref10_State_Words.f (k : Nat) (a0 : ref10_State) : Option ((List Int)) :=
  (mk_ 0 738).bind fun xs7 => (ref10_State_Words.l1 a0 k (0, xs7)).bind fun qv5_e1 => (ref10_State_Words.l4 a0 k (0, qv5_e1)).bind fun qv5_e4 => (at_ qv5_e4 736).bind fun x166 => (at_ (qv5_e4.set (736 : Int).toNat (wu64 a0.NS)) 737).bind fun x169 => some ((qv5_e4.set (736 : Int).toNat (wu64 a0.NS)).set (737 : Int).toNat (wu64 a0.NO))
set_option maxHeartbeats 8000000 in
set_option maxRecDepth 100000 in
theorem ref10_State_Words.ct (k : Nat) (bp0 : Nat) (v0_Slots : Value) (v0_Objs : Value) (raws_v0_Slots : List (Raw (kr_ref10_Slot).sz)) (A_v0_Slots : HProp) (raws_v0_Objs : List (Raw (kr_ref10_Obj).sz)) (A_v0_Objs : HProp) (a0 : ref10_State) (r0 : List Int) (h : ref10_State_Words.f k a0 = some r0) :
    Ct Try.prog 17 [bp bp0 0] (fun _ => True) [Box bp0 [v0_Slots, v0_Objs, .int .i64 a0.NS, .int .i64 a0.NO], OwnO 46 kr_ref10_Slot v0_Slots raws_v0_Slots A_v0_Slots a0.Slots, OwnO 56 kr_ref10_Obj v0_Objs raws_v0_Objs A_v0_Objs a0.Objs] (fun u H' => ∃ v_r0, u = v_r0 ∧ H' = [Own 65 (ekI .u64) v_r0 r0, Box bp0 [v0_Slots, v0_Objs, .int .i64 a0.NS, .int .i64 a0.NO], OwnO 46 kr_ref10_Slot v0_Slots raws_v0_Slots A_v0_Slots a0.Slots, OwnO 56 kr_ref10_Obj v0_Objs raws_v0_Objs A_v0_Objs a0.Objs]) := by
  unfold ref10_State_Words.f at h
  refine Ct.intro (n := 365) Try.func17 rfl rfl rfl ?_
  intro R w0 F hF hR
  refine S.b1 ?_
  refine S.rdO fun hrel1 hR2 => ?_
  refine S.b2 ?_
  refine S.rdO fun hrel3 hR4 => ?_
  refine S.seq ?_
  refine S.region ?_
  refine SO.v rfl (opv_assign rfl) ?_
  refine SO.nil ?_
  refine S.seq ?_
  refine S.region ?_
  obtain ⟨xs7, hx8, h⟩ := opt_bind h
  refine SO.makeSlice (K := ekI .u64) rfl Try.underlying26 inf65 rfl rfl rfl (by decide) rfl rfl rfl hx8 (fun v5 hr6 => ?_)
  refine SO.v rfl (opv_assign rfl) ?_
  refine SO.nil ?_
  refine S.seq ?_
  refine S.seq ?_
  refine S.region ?_
  refine SO.v rfl (opv_assign rfl) ?_
  refine SO.nil ?_
  obtain ⟨qv5_e1, hl1, h⟩ := opt_bind h
  refine S.b4 ?_
  refine S.b4 ?_
  refine S.b4 ?_
  refine S.b4 ?_
  refine S.b4 ?_
  refine S.to (ρ' := [(4, .int .i64 0), (3, v5), (2, .slice none 0 0), (0, bp bp0 0)]) ⟨rfl, rfl, rfl, rfl, trivial⟩ ?_
  refine S.forloop (X := (Int × (List Int)) × Unit) (O := (List Int)) (fun m x => ref10_State_Words.l1 a0 m x.1) (fun x => match x with | ((x4_1, qv5_1), _) => [(4, .int .i64 x4_1), (3, v5), (2, .slice none 0 0), (0, bp bp0 0)]) (fun x => match x with | ((x4_1, qv5_1), _) => [Own 65 (ekI .u64) v5 qv5_1, OwnO 56 kr_ref10_Obj v0_Objs raws_v0_Objs A_v0_Objs a0.Objs, OwnO 46 kr_ref10_Slot v0_Slots raws_v0_Slots A_v0_Slots a0.Slots, Box bp0 [v0_Slots, v0_Objs, .int .i64 a0.NS, .int .i64 a0.NO], F]) (fun Sk => (fun qv5_e1 => ∀ _ : Unit, Sk [(0, bp bp0 0), (2, .slice none 0 0), (3, v5)] [Own 65 (ekI .u64) v5 qv5_e1, OwnO 56 kr_ref10_Obj v0_Objs raws_v0_Objs A_v0_Objs a0.Objs, OwnO 46 kr_ref10_Slot v0_Slots raws_v0_Slots A_v0_Slots a0.Slots, Box bp0 [v0_Slots, v0_Objs, .int .i64 a0.NS, .int .i64 a0.NO], F])) (fun _ => rfl) ?_ (m := k) (x := ((0, xs7), ())) hl1 ?_
  · clear h hl1
    intro k x o_1 h hK1 ih1
    obtain ⟨⟨x4_1, qv5_1⟩, _⟩ := x
    replace h : ref10_State_Words.l1 a0 (k + 1) (x4_1, qv5_1) = some o_1 := h
    first | rw [ref10_State_Words.l1] at h | unfold ref10_State_Words.l1 at h
    refine S.rd fun hr9 => ?_
    refine S.seq ?_
    refine S.seq ?_
    refine S.region ?_
    refine SO.v rfl (opv_move rfl) ?_
    refine SO.v rfl (opv_lss rfl rfl) ?_
    refine SO.nil ?_
    rcases bool_or (decide (x4_1 < 96)) with b10 | b10
    · replace h := cond_t b10 h
      refine S.condT rfl b10 ?_
      refine S.skip ?_
      refine S.seq ?_
      refine S.block ?_
      refine S.seq ?_
      refine S.region ?_
      refine SO.v rfl (opv_move rfl) ?_
      refine SO.v rfl (opv_nilCheck rfl) ?_
      refine SO.v rfl (opv_fieldAddr Try.underlying50 rfl Try.sizeOf47 rfl rfl) ?_
      refine SO.b3 ?_
      refine SO.load1 rfl Try.isAgg47 rfl rfl ?_
      refine SO.v rfl (opv_move rfl) ?_
      obtain ⟨x11, hx12, h⟩ := opt_bind h
      obtain ⟨r13, hr14, hc15⟩ := relR.at hrel1 hx12
      refine SO.v rfl (opv_idx Try.underlying47 Try.sizeOf46 hR2 rfl rfl hr14) ?_
      refine hc15.rip fun u16 hru17 e18 => ?_
      refine SO.loadIN rfl Try.isAgg46 Try.sizeOf46 (Rd.tail (Rd.tail (Rd.tail (Rd.head hR2)))) hr14 rfl rfl e18 ?_
      refine SO.alloc rfl Try.zeroValue46 rfl (fun b19 => ?_)
      refine SO.storeN Try.sizeOf46 rfl rfl (all1 rfl (all1 rfl (all1 rfl (all1 rfl (all1 rfl (all1 rfl (all1 rfl (all1 (Rd.one hru17) rfl)))))))) rfl rfl rfl ?_
      refine SO.nil ?_
      refine S.to (ρ' := [(4, .int .i64 x4_1), (3, v5), (2, .slice none 0 0), (0, bp bp0 0), (5, bp b19 0)]) ⟨rfl, rfl, rfl, rfl, rfl, trivial⟩ ?_
      refine S.seq ?_
      refine S.region ?_
      refine SO.v rfl (opv_move rfl) ?_
      refine SO.v rfl (opv_move rfl) ?_
      refine SO.v rfl (opv_mul rfl rfl) ?_
      refine SO.v rfl (opv_fieldAddr Try.underlying46 rfl Try.sizeOf44 rfl rfl) ?_
      refine SO.loadN rfl Try.isAgg44 Try.sizeOf44 rfl rfl rfl ?_
      obtain ⟨t20, ht21, h⟩ := opt_bind h
      refine SO.call (pre := []) rfl Try.call30 rfl rfl rfl (ref01_Word.ct _ _ ht21) trivial ?_
      rintro _ _ ⟨rfl, rfl⟩
      obtain ⟨x22, hx23, h⟩ := opt_bind h
      refine SO.v rfl (opv_idx Try.underlying26 Try.sizeOf65 hr9 rfl rfl hx23) ?_
      refine SO.b2 ?_
      refine SO.storeI1 (j := 0) (z' := t20) Try.sizeOf65 hx23 rfl rfl rfl rfl rfl rfl ?_
      refine SO.rd fun hr24 => ?_
      refine SO.nil ?_
      refine S.to (ρ' := [(4, .int .i64 x4_1), (3, v5), (2, .slice none 0 0), (0, bp bp0 0), (5, bp b19 0)]) ⟨rfl, rfl, rfl, rfl, rfl, trivial⟩ ?_
      refine S.seq ?_
      refine S.region ?_
      refine SO.v rfl (opv_move rfl) ?_
      refine SO.v rfl (opv_move rfl) ?_
      refine SO.v rfl (opv_mul rfl rfl) ?_
      refine SO.v rfl (opv_add rfl rfl) ?_
      refine SO.v rfl (opv_fieldAddr Try.underlying46 rfl Try.sizeOf3 rfl rfl) ?_
      refine SO.b1 ?_
      refine SO.load1 rfl Try.isAgg3 rfl rfl ?_
      refine SO.v rfl (opv_add rfl rfl) ?_
      refine SO.v rfl (opv_conv Try.underlying3 Try.underlying65 rfl) ?_
      obtain ⟨x25, hx26, h⟩ := opt_bind h
      refine SO.v rfl (opv_idx Try.underlying26 Try.sizeOf65 hr24 rfl rfl hx26) ?_
      refine SO.b1 ?_
      refine SO.storeI1 (j := 0) (z' := wu64 (w64 (x11.Parent + 1))) Try.sizeOf65 hx26 rfl rfl rfl rfl rfl rfl ?_
      refine SO.rd fun hr27 => ?_
      refine SO.nil ?_
      refine S.to (ρ' := [(4, .int .i64 x4_1), (3, v5), (2, .slice none 0 0), (0, bp bp0 0), (5, bp b19 0)]) ⟨rfl, rfl, rfl, rfl, rfl, trivial⟩ ?_
      refine S.seq ?_
      refine S.region ?_
      refine SO.v rfl (opv_assign rfl) ?_
      refine SO.nil ?_
      obtain ⟨qv5_e2, hl2, h⟩ := opt_bind h
      refine S.b5 ?_
      refine S.b5 ?_
      refine S.b5 ?_
      refine S.b5 ?_
      refine S.b5 ?_
      refine S.b5 ?_
      refine S.to (ρ' := [(6, .int .i64 0), (4, .int .i64 x4_1), (3, v5), (2, .slice none 0 0), (0, bp bp0 0), (5, bp b19 0)]) ⟨rfl, rfl, rfl, rfl, rfl, rfl, trivial⟩ ?_
      refine S.forloop (X := (Int × (List Int)) × Unit) (O := (List Int)) (fun m x => ref10_State_Words.l2 x4_1 x11 m x.1) (fun x => match x with | ((x6_2, qv5_2), _) => [(6, .int .i64 x6_2), (4, .int .i64 x4_1), (3, v5), (2, .slice none 0 0), (0, bp bp0 0), (5, bp b19 0)]) (fun x => match x with | ((x6_2, qv5_2), _) => [Own 65 (ekI .u64) v5 qv5_2, Box b19 [.int .i64 x11.Cap.Kind, .int .i64 x11.Cap.Rights, .int .i64 x11.Cap.Obj, .int .i64 x11.Cap.Badge, .int .i64 x11.Cap.Guard, .int .i64 x11.Cap.Bits, .int .i64 x11.Parent, u16], Box bp0 [v0_Slots, v0_Objs, .int .i64 a0.NS, .int .i64 a0.NO], OwnO 56 kr_ref10_Obj v0_Objs raws_v0_Objs A_v0_Objs a0.Objs, OwnO 46 kr_ref10_Slot v0_Slots raws_v0_Slots A_v0_Slots a0.Slots, F]) (fun Sk => (fun qv5_e2 => ∀ _ : Unit, Sk [(0, bp bp0 0), (2, .slice none 0 0), (3, v5), (4, .int .i64 x4_1)] [Own 65 (ekI .u64) v5 qv5_e2, Box b19 [.int .i64 x11.Cap.Kind, .int .i64 x11.Cap.Rights, .int .i64 x11.Cap.Obj, .int .i64 x11.Cap.Badge, .int .i64 x11.Cap.Guard, .int .i64 x11.Cap.Bits, .int .i64 x11.Parent, u16], Box bp0 [v0_Slots, v0_Objs, .int .i64 a0.NS, .int .i64 a0.NO], OwnO 56 kr_ref10_Obj v0_Objs raws_v0_Objs A_v0_Objs a0.Objs, OwnO 46 kr_ref10_Slot v0_Slots raws_v0_Slots A_v0_Slots a0.Slots, F])) (fun _ => rfl) ?_ (m := k) (x := ((0, (qv5_1.set (w64 (5 * x4_1)).toNat t20).set (w64 ((w64 (5 * x4_1)) + 1)).toNat (wu64 (w64 (x11.Parent + 1)))), ())) hl2 ?_
      · clear h hl2
        intro k x o_2 h hK2 ih2
        obtain ⟨⟨x6_2, qv5_2⟩, _⟩ := x
        replace h : ref10_State_Words.l2 x4_1 x11 (k + 1) (x6_2, qv5_2) = some o_2 := h
        first | rw [ref10_State_Words.l2] at h | unfold ref10_State_Words.l2 at h
        refine S.rd fun hr28 => ?_
        refine S.seq ?_
        refine S.seq ?_
        refine S.region ?_
        refine SO.v rfl (opv_move rfl) ?_
        refine SO.v rfl (opv_fieldAddr Try.underlying46 rfl Try.sizeOf41 rfl rfl) ?_
        refine SO.b1 ?_
        refine SO.load1 rfl Try.isAgg41 rfl rfl ?_
        refine SO.v rfl (opv_lenR rfl Try.underlying41 hru17 rfl) ?_
        refine SO.v rfl (opv_lss rfl rfl) ?_
        refine SO.nil ?_
        rcases bool_or (decide (x6_2 < (x11.Kids.length : Int))) with b29 | b29
        · replace h := cond_t b29 h
          refine S.condT rfl b29 ?_
          refine S.skip ?_
          refine S.seq ?_
          refine S.block ?_
          refine S.seq ?_
          refine S.region ?_
          refine SO.v rfl (opv_fieldAddr Try.underlying46 rfl Try.sizeOf41 rfl rfl) ?_
          refine SO.load1 rfl Try.isAgg41 rfl rfl ?_
          refine SO.v rfl (opv_move rfl) ?_
          obtain ⟨x30, hx31, h⟩ := opt_bind h
          refine SO.v rfl (opv_idx Try.underlying41 Try.sizeOf3 hru17 rfl rfl hx31) ?_
          refine SO.loadI1 (j := 0) rfl Try.isAgg3 (Rd.tail (Rd.tail (Rd.tail (Rd.tail (Rd.head (Rd.pool hru17)))))) hx31 rfl rfl rfl rfl ?_
          refine SO.v rfl (opv_assign rfl) ?_
          refine SO.nil ?_
          refine S.to (ρ' := [(6, .int .i64 x6_2), (4, .int .i64 x4_1), (3, v5), (2, .slice none 0 0), (0, bp bp0 0), (5, bp b19 0), (7, .int .i64 x30)]) ⟨rfl, rfl, rfl, rfl, rfl, rfl, rfl, trivial⟩ ?_
          refine S.seq ?_
          refine S.seq ?_
          refine S.region ?_
          refine SO.v rfl (opv_move rfl) ?_
          refine SO.v rfl (opv_eql rfl rfl) ?_
          refine SO.nil ?_
          obtain ⟨qv5_3, hC3, hJ3⟩ := opt_bind h
          clear h
          refine S.cutP (G := Unit) (fun _ => True) (fun _ => [(0, bp bp0 0), (2, .slice none 0 0), (3, v5), (4, .int .i64 x4_1), (5, bp b19 0), (6, .int .i64 x6_2), (7, .int .i64 x30)]) (fun _ => [Box b19 [.int .i64 x11.Cap.Kind, .int .i64 x11.Cap.Rights, .int .i64 x11.Cap.Obj, .int .i64 x11.Cap.Badge, .int .i64 x11.Cap.Guard, .int .i64 x11.Cap.Bits, .int .i64 x11.Parent, u16], Own 65 (ekI .u64) v5 qv5_3, Box bp0 [v0_Slots, v0_Objs, .int .i64 a0.NS, .int .i64 a0.NO], OwnO 56 kr_ref10_Obj v0_Objs raws_v0_Objs A_v0_Objs a0.Objs, OwnO 46 kr_ref10_Slot v0_Slots raws_v0_Slots A_v0_Slots a0.Slots, F]) (fun hk3 => ?_) ?_
          · replace h := hC3
            rcases bool_or (x6_2 == 0) with b32 | b32
            · replace h := cond_t b32 h
              refine S.condT rfl b32 ?_
              refine S.region ?_
              refine SO.v rfl (opv_move rfl) ?_
              refine SO.v rfl (opv_move rfl) ?_
              refine SO.v rfl (opv_mul rfl rfl) ?_
              refine SO.v rfl (opv_add rfl rfl) ?_
              refine SO.v rfl (opv_move rfl) ?_
              refine SO.v rfl (opv_add rfl rfl) ?_
              refine SO.v rfl (opv_conv Try.underlying3 Try.underlying65 rfl) ?_
              obtain ⟨x33, hx34, h⟩ := opt_bind h
              refine SO.v rfl (opv_idx Try.underlying26 Try.sizeOf65 hr28 rfl rfl hx34) ?_
              refine SO.b1 ?_
              refine SO.storeI1 (j := 0) (z' := wu64 (w64 (x30 + 1))) Try.sizeOf65 hx34 rfl rfl rfl rfl rfl rfl ?_
              refine SO.rd fun hr35 => ?_
              refine SO.nil ?_
              refine S.to (ρ' := [(6, .int .i64 x6_2), (4, .int .i64 x4_1), (3, v5), (2, .slice none 0 0), (0, bp bp0 0), (5, bp b19 0), (7, .int .i64 x30)]) ⟨rfl, rfl, rfl, rfl, rfl, rfl, rfl, trivial⟩ ?_
              cases h
              refine S.b5 ?_
              refine S.b5 ?_
              refine S.b5 ?_
              refine S.b5 ?_
              refine S.b4 ?_
              refine S.b5 ?_
              refine S.to ?_ (hk3 () trivial)
              exact ⟨rfl, rfl, rfl, rfl, rfl, rfl, rfl, trivial⟩
            · replace h := cond_f b32 h
              refine S.condF rfl b32 ?_
              refine S.region ?_
              refine SO.v rfl (opv_move rfl) ?_
              refine SO.v rfl (opv_move rfl) ?_
              refine SO.v rfl (opv_mul rfl rfl) ?_
              refine SO.v rfl (opv_add rfl rfl) ?_
              refine SO.v rfl (opv_fieldAddr Try.underlying46 rfl Try.sizeOf41 rfl rfl) ?_
              refine SO.load1 rfl Try.isAgg41 rfl rfl ?_
              refine SO.v rfl (opv_move rfl) ?_
              refine SO.v rfl (opv_sub rfl rfl) ?_
              obtain ⟨x36, hx37, h⟩ := opt_bind h
              refine SO.v rfl (opv_idx Try.underlying41 Try.sizeOf3 hru17 rfl rfl hx37) ?_
              refine SO.loadI1 (j := 0) rfl Try.isAgg3 (Rd.tail (Rd.tail (Rd.tail (Rd.tail (Rd.head (Rd.pool hru17)))))) hx37 rfl rfl rfl rfl ?_
              refine SO.v rfl (opv_add rfl rfl) ?_
              refine SO.v rfl (opv_conv Try.underlying3 Try.underlying65 rfl) ?_
              obtain ⟨x38, hx39, h⟩ := opt_bind h
              refine SO.v rfl (opv_idx Try.underlying26 Try.sizeOf65 hr28 rfl rfl hx39) ?_
              refine SO.b1 ?_
              refine SO.storeI1 (j := 0) (z' := wu64 (w64 (x36 + 1))) Try.sizeOf65 hx39 rfl rfl rfl rfl rfl rfl ?_
              refine SO.rd fun hr40 => ?_
              refine SO.nil ?_
              refine S.to (ρ' := [(6, .int .i64 x6_2), (4, .int .i64 x4_1), (3, v5), (2, .slice none 0 0), (0, bp bp0 0), (5, bp b19 0), (7, .int .i64 x30)]) ⟨rfl, rfl, rfl, rfl, rfl, rfl, rfl, trivial⟩ ?_
              cases h
              refine S.b5 ?_
              refine S.b5 ?_
              refine S.b5 ?_
              refine S.b5 ?_
              refine S.b4 ?_
              refine S.b5 ?_
              refine S.to ?_ (hk3 () trivial)
              exact ⟨rfl, rfl, rfl, rfl, rfl, rfl, rfl, trivial⟩
          rintro _ -
          replace h := hJ3
          refine S.b1 ?_
          refine S.rd fun hr41 => ?_
          refine S.seq ?_
          refine S.region ?_
          refine SO.v rfl (opv_move rfl) ?_
          refine SO.v rfl (opv_add rfl rfl) ?_
          refine SO.v rfl (opv_fieldAddr Try.underlying46 rfl Try.sizeOf41 rfl rfl) ?_
          refine SO.b1 ?_
          refine SO.load1 rfl Try.isAgg41 rfl rfl ?_
          refine SO.v rfl (opv_lenR rfl Try.underlying41 hru17 rfl) ?_
          refine SO.v rfl (opv_lss rfl rfl) ?_
          refine SO.nil ?_
          rcases bool_or (decide ((w64 (x6_2 + 1)) < (x11.Kids.length : Int))) with b42 | b42
          · replace h := cond_t b42 h
            refine S.condT rfl b42 ?_
            refine S.region ?_
            refine SO.v rfl (opv_move rfl) ?_
            refine SO.v rfl (opv_move rfl) ?_
            refine SO.v rfl (opv_mul rfl rfl) ?_
            refine SO.v rfl (opv_add rfl rfl) ?_
            refine SO.v rfl (opv_fieldAddr Try.underlying46 rfl Try.sizeOf41 rfl rfl) ?_
            refine SO.load1 rfl Try.isAgg41 rfl rfl ?_
            refine SO.v rfl (opv_move rfl) ?_
            refine SO.v rfl (opv_add rfl rfl) ?_
            obtain ⟨x43, hx44, h⟩ := opt_bind h
            refine SO.v rfl (opv_idx Try.underlying41 Try.sizeOf3 hru17 rfl rfl hx44) ?_
            refine SO.loadI1 (j := 0) rfl Try.isAgg3 (Rd.tail (Rd.tail (Rd.tail (Rd.tail (Rd.head (Rd.pool hru17)))))) hx44 rfl rfl rfl rfl ?_
            refine SO.v rfl (opv_add rfl rfl) ?_
            refine SO.v rfl (opv_conv Try.underlying3 Try.underlying65 rfl) ?_
            obtain ⟨x45, hx46, h⟩ := opt_bind h
            refine SO.v rfl (opv_idx Try.underlying26 Try.sizeOf65 hr41 rfl rfl hx46) ?_
            refine SO.b1 ?_
            refine SO.storeI1 (j := 0) (z' := wu64 (w64 (x43 + 1))) Try.sizeOf65 hx46 rfl rfl rfl rfl rfl rfl ?_
            refine SO.rd fun hr47 => ?_
            refine SO.nil ?_
            refine S.to (ρ' := [(0, bp bp0 0), (2, .slice none 0 0), (3, v5), (4, .int .i64 x4_1), (5, bp b19 0), (6, .int .i64 x6_2)]) ⟨rfl, rfl, rfl, rfl, rfl, rfl, trivial⟩ ?_
            refine S.inBlock ?_
            refine S.region ?_
            refine SO.v rfl (opv_move rfl) ?_
            refine SO.v rfl (opv_add rfl rfl) ?_
            refine SO.v rfl (opv_assign rfl) ?_
            refine SO.nil ?_
            refine S.b5 ?_
            refine S.b5 ?_
            refine S.b5 ?_
            refine S.b5 ?_
            refine S.b5 ?_
            refine S.b5 ?_
            refine S.to ?_ (ih2 ((w64 (x6_2 + 1), qv5_3.set (w64 ((w64 (5 * x30)) + 3)).toNat (wu64 (w64 (x43 + 1)))), ()) h)
            exact ⟨rfl, rfl, rfl, rfl, rfl, rfl, trivial⟩
          · replace h := cond_f b42 h
            refine S.condF rfl b42 ?_
            refine S.skip ?_
            refine S.inBlock ?_
            refine S.region ?_
            refine SO.v rfl (opv_move rfl) ?_
            refine SO.v rfl (opv_add rfl rfl) ?_
            refine SO.v rfl (opv_assign rfl) ?_
            refine SO.nil ?_
            refine S.to (ρ' := [(0, bp bp0 0), (2, .slice none 0 0), (3, v5), (4, .int .i64 x4_1), (5, bp b19 0), (6, .int .i64 (w64 (x6_2 + 1)))]) ⟨rfl, rfl, rfl, rfl, rfl, rfl, trivial⟩ ?_
            refine S.b5 ?_
            refine S.b5 ?_
            refine S.b5 ?_
            refine S.b5 ?_
            refine S.b4 ?_
            refine S.b5 ?_
            refine S.to ?_ (ih2 ((w64 (x6_2 + 1), qv5_3), ()) h)
            exact ⟨rfl, rfl, rfl, rfl, rfl, rfl, trivial⟩
        · replace h := cond_f b29 h
          refine S.condF rfl b29 ?_
          refine S.exit rfl ?_
          cases h
          refine S.b5 ?_
          refine S.b5 ?_
          refine S.b5 ?_
          refine S.b5 ?_
          refine S.b4 ?_
          refine S.b5 ?_
          refine S.to ?_ (hK2 ())
          exact ⟨rfl, rfl, rfl, rfl, trivial⟩
      rintro _
      refine S.rd fun hr48 => ?_
      refine S.inBlock ?_
      refine S.region ?_
      refine SO.v rfl (opv_move rfl) ?_
      refine SO.v rfl (opv_add rfl rfl) ?_
      refine SO.v rfl (opv_assign rfl) ?_
      refine SO.nil ?_
      refine S.b1 ?_
      refine S.drop ?_
      refine S.b4 ?_
      refine S.b2 ?_
      refine S.b4 ?_
      refine S.b4 ?_
      refine S.b4 ?_
      refine S.to ?_ (ih1 ((w64 (x4_1 + 1), qv5_e2), ()) h)
      exact ⟨rfl, rfl, rfl, rfl, trivial⟩
    · replace h := cond_f b10 h
      refine S.condF rfl b10 ?_
      refine S.exit rfl ?_
      cases h
      refine S.b4 ?_
      refine S.b4 ?_
      refine S.b4 ?_
      refine S.b4 ?_
      refine S.b4 ?_
      refine S.to ?_ (hK1 ())
      exact ⟨rfl, rfl, rfl, trivial⟩
  rintro _
  refine S.rd fun hr49 => ?_
  refine S.seq ?_
  refine S.seq ?_
  refine S.region ?_
  refine SO.v rfl (opv_assign rfl) ?_
  refine SO.nil ?_
  obtain ⟨qv5_e4, hl4, h⟩ := opt_bind h
  refine S.b4 ?_
  refine S.b4 ?_
  refine S.b4 ?_
  refine S.b4 ?_
  refine S.b4 ?_
  refine S.to (ρ' := [(8, .int .i64 0), (0, bp bp0 0), (2, .slice none 0 0), (3, v5)]) ⟨rfl, rfl, rfl, rfl, trivial⟩ ?_
  refine S.forloop (X := (Int × (List Int)) × Unit) (O := (List Int)) (fun m x => ref10_State_Words.l4 a0 m x.1) (fun x => match x with | ((x8_4, qv5_4), _) => [(8, .int .i64 x8_4), (0, bp bp0 0), (2, .slice none 0 0), (3, v5)]) (fun x => match x with | ((x8_4, qv5_4), _) => [Own 65 (ekI .u64) v5 qv5_4, OwnO 56 kr_ref10_Obj v0_Objs raws_v0_Objs A_v0_Objs a0.Objs, OwnO 46 kr_ref10_Slot v0_Slots raws_v0_Slots A_v0_Slots a0.Slots, Box bp0 [v0_Slots, v0_Objs, .int .i64 a0.NS, .int .i64 a0.NO], F]) (fun Sk => (fun qv5_e4 => ∀ _ : Unit, Sk [(0, bp bp0 0), (2, .slice none 0 0), (3, v5)] [Own 65 (ekI .u64) v5 qv5_e4, OwnO 56 kr_ref10_Obj v0_Objs raws_v0_Objs A_v0_Objs a0.Objs, OwnO 46 kr_ref10_Slot v0_Slots raws_v0_Slots A_v0_Slots a0.Slots, Box bp0 [v0_Slots, v0_Objs, .int .i64 a0.NS, .int .i64 a0.NO], F])) (fun _ => rfl) ?_ (m := k) (x := ((0, qv5_e1), ())) hl4 ?_
  · clear h hl4
    intro k x o_4 h hK4 ih4
    obtain ⟨⟨x8_4, qv5_4⟩, _⟩ := x
    replace h : ref10_State_Words.l4 a0 (k + 1) (x8_4, qv5_4) = some o_4 := h
    first | rw [ref10_State_Words.l4] at h | unfold ref10_State_Words.l4 at h
    refine S.rd fun hr50 => ?_
    refine S.seq ?_
    refine S.seq ?_
    refine S.region ?_
    refine SO.v rfl (opv_move rfl) ?_
    refine SO.v rfl (opv_lss rfl rfl) ?_
    refine SO.nil ?_
    rcases bool_or (decide (x8_4 < 32)) with b51 | b51
    · replace h := cond_t b51 h
      refine S.condT rfl b51 ?_
      refine S.skip ?_
      refine S.seq ?_
      refine S.block ?_
      refine S.seq ?_
      refine S.region ?_
      refine SO.v rfl (opv_move rfl) ?_
      refine SO.v rfl (opv_nilCheck rfl) ?_
      refine SO.v rfl (opv_fieldAddr Try.underlying50 rfl Try.sizeOf48 rfl rfl) ?_
      refine SO.b3 ?_
      refine SO.load1 rfl Try.isAgg48 rfl rfl ?_
      refine SO.v rfl (opv_move rfl) ?_
      obtain ⟨x52, hx53, h⟩ := opt_bind h
      obtain ⟨r54, hr55, hc56⟩ := relR.at hrel3 hx53
      refine SO.v rfl (opv_idx Try.underlying48 Try.sizeOf56 hR4 rfl rfl hr55) ?_
      refine hc56.rip fun u57 hru58 e59 => ?_
      refine SO.loadIN rfl Try.isAgg56 Try.sizeOf56 (Rd.tail (Rd.tail (Rd.head hR4))) hr55 rfl rfl e59 ?_
      refine SO.alloc rfl Try.zeroValue56 rfl (fun b60 => ?_)
      refine SO.storeN Try.sizeOf56 rfl rfl (all1 rfl (all1 rfl (all1 rfl (all1 rfl (all1 rfl (all1 rfl (all1 (Rd.one hru58) (all1 rfl (all1 rfl (all1 rfl (all1 rfl (all1 rfl (all1 rfl (all1 rfl (all1 rfl (all1 rfl (all1 rfl (all1 rfl (all1 rfl (all1 rfl (all1 rfl (all1 rfl (all1 rfl (all1 rfl (all1 rfl (all1 rfl (all1 rfl (all1 rfl (all1 rfl (all1 rfl (all1 rfl (all1 rfl rfl)))))))))))))))))))))))))))))))) rfl rfl rfl ?_
      refine SO.nil ?_
      refine S.to (ρ' := [(8, .int .i64 x8_4), (0, bp bp0 0), (2, .slice none 0 0), (3, v5), (9, bp b60 0)]) ⟨rfl, rfl, rfl, rfl, rfl, trivial⟩ ?_
      refine S.seq ?_
      refine S.region ?_
      refine SO.v rfl (opv_move rfl) ?_
      refine SO.v rfl (opv_mul rfl rfl) ?_
      refine SO.v rfl (opv_add rfl rfl) ?_
      refine SO.v rfl (opv_assign rfl) ?_
      refine SO.nil ?_
      refine S.seq ?_
      refine S.region ?_
      refine SO.v rfl (opv_move rfl) ?_
      refine SO.v rfl (opv_move rfl) ?_
      refine SO.v rfl (opv_fieldAddr Try.underlying56 rfl Try.sizeOf3 rfl rfl) ?_
      refine SO.load1 rfl Try.isAgg3 rfl rfl ?_
      refine SO.v rfl (opv_conv Try.underlying3 Try.underlying65 rfl) ?_
      obtain ⟨x61, hx62, h⟩ := opt_bind h
      refine SO.v rfl (opv_idx Try.underlying26 Try.sizeOf65 hr50 rfl rfl hx62) ?_
      refine SO.b2 ?_
      refine SO.storeI1 (j := 0) (z' := wu64 x52.Kind) Try.sizeOf65 hx62 rfl rfl rfl rfl rfl rfl ?_
      refine SO.rd fun hr63 => ?_
      refine SO.nil ?_
      refine S.to (ρ' := [(8, .int .i64 x8_4), (0, bp bp0 0), (2, .slice none 0 0), (3, v5), (9, bp b60 0), (10, .int .i64 (w64 (480 + (w64 (8 * x8_4)))))]) ⟨rfl, rfl, rfl, rfl, rfl, rfl, trivial⟩ ?_
      refine S.seq ?_
      refine S.seq ?_
      refine S.region ?_
      refine SO.v rfl (opv_fieldAddr Try.underlying56 rfl Try.sizeOf3 rfl rfl) ?_
      refine SO.b1 ?_
      refine SO.load1 rfl Try.isAgg3 rfl rfl ?_
      refine SO.nil ?_
      obtain ⟨qv5_5, hC5, hJ5⟩ := opt_bind h
      clear h
      refine S.cutP (G := Unit) (fun _ => True) (fun _ => [(0, bp bp0 0), (2, .slice none 0 0), (3, v5), (8, .int .i64 x8_4), (9, bp b60 0), (10, .int .i64 (w64 (480 + (w64 (8 * x8_4)))))]) (fun _ => [Box b60 [.int .i64 x52.Kind, .int .i64 x52.Size, .int .i64 x52.Used, .int .i64 x52.First, .int .i64 x52.Radix, .int .i64 x52.Wait, u57, .int .i64 x52.Word, .int .i64 x52.State, .int .i64 x52.Owing, .int .i64 x52.Badge, .int .i64 x52.Prio, .int .i64 x52.On, .int .i64 x52.Owes, .int .i64 x52.Root.Kind, .int .i64 x52.Root.Rights, .int .i64 x52.Root.Obj, .int .i64 x52.Root.Badge, .int .i64 x52.Root.Guard, .int .i64 x52.Root.Bits, .int .i64 x52.Pages.a0, .int .i64 x52.Pages.a1, .int .i64 x52.Pages.a2, .int .i64 x52.Pages.a3, .int .i64 x52.Right.a0, .int .i64 x52.Right.a1, .int .i64 x52.Right.a2, .int .i64 x52.Right.a3, .int .i64 x52.In, .int .i64 x52.Page, .int .i64 x52.Bound, .int .i64 x52.Mask], Own 65 (ekI .u64) v5 qv5_5, Box bp0 [v0_Slots, v0_Objs, .int .i64 a0.NS, .int .i64 a0.NO], OwnO 56 kr_ref10_Obj v0_Objs raws_v0_Objs A_v0_Objs a0.Objs, OwnO 46 kr_ref10_Slot v0_Slots raws_v0_Slots A_v0_Slots a0.Slots, F]) (fun hk5 => ?_) ?_
      · replace h := hC5
        refine S.block ?_
        refine S.seq ?_
        refine S.region ?_
        refine SO.v rfl (opv_eql rfl rfl) ?_
        refine SO.v rfl (opv_assign rfl) ?_
        refine SO.nil ?_
        rcases bool_or (x52.Kind == 1) with b64 | b64
        · replace h := cond_t b64 h
          refine S.condT rfl b64 ?_
          refine S.seq ?_
          refine S.region ?_
          refine SO.v rfl (opv_move rfl) ?_
          refine SO.v rfl (opv_move rfl) ?_
          refine SO.v rfl (opv_add rfl rfl) ?_
          refine SO.v rfl (opv_fieldAddr Try.underlying56 rfl Try.sizeOf3 rfl rfl) ?_
          refine SO.load1 rfl Try.isAgg3 rfl rfl ?_
          refine SO.v rfl (opv_conv Try.underlying3 Try.underlying65 rfl) ?_
          obtain ⟨x65, hx66, h⟩ := opt_bind h
          refine SO.v rfl (opv_idx Try.underlying26 Try.sizeOf65 hr63 rfl rfl hx66) ?_
          refine SO.b1 ?_
          refine SO.storeI1 (j := 0) (z' := wu64 x52.Size) Try.sizeOf65 hx66 rfl rfl rfl rfl rfl rfl ?_
          refine SO.rd fun hr67 => ?_
          refine SO.nil ?_
          refine S.to (ρ' := [(8, .int .i64 x8_4), (0, bp bp0 0), (2, .slice none 0 0), (3, v5), (9, bp b60 0), (10, .int .i64 (w64 (480 + (w64 (8 * x8_4)))))]) ⟨rfl, rfl, rfl, rfl, rfl, rfl, trivial⟩ ?_
          refine S.region ?_
          refine SO.v rfl (opv_move rfl) ?_
          refine SO.v rfl (opv_move rfl) ?_
          refine SO.v rfl (opv_add rfl rfl) ?_
          refine SO.v rfl (opv_fieldAddr Try.underlying56 rfl Try.sizeOf3 rfl rfl) ?_
          refine SO.b1 ?_
          refine SO.load1 rfl Try.isAgg3 rfl rfl ?_
          refine SO.v rfl (opv_conv Try.underlying3 Try.underlying65 rfl) ?_
          obtain ⟨x68, hx69, h⟩ := opt_bind h
          refine SO.v rfl (opv_idx Try.underlying26 Try.sizeOf65 hr67 rfl rfl hx69) ?_
          refine SO.b1 ?_
          refine SO.storeI1 (j := 0) (z' := wu64 x52.Used) Try.sizeOf65 hx69 rfl rfl rfl rfl rfl rfl ?_
          refine SO.rd fun hr70 => ?_
          refine SO.nil ?_
          refine S.to (ρ' := [(8, .int .i64 x8_4), (0, bp bp0 0), (2, .slice none 0 0), (3, v5), (9, bp b60 0), (10, .int .i64 (w64 (480 + (w64 (8 * x8_4)))))]) ⟨rfl, rfl, rfl, rfl, rfl, rfl, trivial⟩ ?_
          refine S.inBlock ?_
          cases h
          refine S.b5 ?_
          refine S.b5 ?_
          refine S.b5 ?_
          refine S.b5 ?_
          refine S.b4 ?_
          refine S.b5 ?_
          refine S.to ?_ (hk5 () trivial)
          exact ⟨rfl, rfl, rfl, rfl, rfl, rfl, trivial⟩
        · replace h := cond_f b64 h
          refine S.condF rfl b64 ?_
          refine S.seq ?_
          refine S.region ?_
          refine SO.v rfl (opv_eql rfl rfl) ?_
          refine SO.v rfl (opv_assign rfl) ?_
          refine SO.nil ?_
          rcases bool_or (x52.Kind == 2) with b71 | b71
          · replace h := cond_t b71 h
            refine S.condT rfl b71 ?_
            refine S.seq ?_
            refine S.region ?_
            refine SO.v rfl (opv_move rfl) ?_
            refine SO.v rfl (opv_move rfl) ?_
            refine SO.v rfl (opv_add rfl rfl) ?_
            refine SO.v rfl (opv_fieldAddr Try.underlying56 rfl Try.sizeOf3 rfl rfl) ?_
            refine SO.load1 rfl Try.isAgg3 rfl rfl ?_
            refine SO.v rfl (opv_conv Try.underlying3 Try.underlying65 rfl) ?_
            obtain ⟨x72, hx73, h⟩ := opt_bind h
            refine SO.v rfl (opv_idx Try.underlying26 Try.sizeOf65 hr63 rfl rfl hx73) ?_
            refine SO.b1 ?_
            refine SO.storeI1 (j := 0) (z' := wu64 x52.First) Try.sizeOf65 hx73 rfl rfl rfl rfl rfl rfl ?_
            refine SO.rd fun hr74 => ?_
            refine SO.nil ?_
            refine S.to (ρ' := [(8, .int .i64 x8_4), (0, bp bp0 0), (2, .slice none 0 0), (3, v5), (9, bp b60 0), (10, .int .i64 (w64 (480 + (w64 (8 * x8_4)))))]) ⟨rfl, rfl, rfl, rfl, rfl, rfl, trivial⟩ ?_
            refine S.region ?_
            refine SO.v rfl (opv_move rfl) ?_
            refine SO.v rfl (opv_move rfl) ?_
            refine SO.v rfl (opv_add rfl rfl) ?_
            refine SO.v rfl (opv_fieldAddr Try.underlying56 rfl Try.sizeOf3 rfl rfl) ?_
            refine SO.b1 ?_
            refine SO.load1 rfl Try.isAgg3 rfl rfl ?_
            refine SO.v rfl (opv_conv Try.underlying3 Try.underlying65 rfl) ?_
            obtain ⟨x75, hx76, h⟩ := opt_bind h
            refine SO.v rfl (opv_idx Try.underlying26 Try.sizeOf65 hr74 rfl rfl hx76) ?_
            refine SO.b1 ?_
            refine SO.storeI1 (j := 0) (z' := wu64 x52.Radix) Try.sizeOf65 hx76 rfl rfl rfl rfl rfl rfl ?_
            refine SO.rd fun hr77 => ?_
            refine SO.nil ?_
            refine S.to (ρ' := [(8, .int .i64 x8_4), (0, bp bp0 0), (2, .slice none 0 0), (3, v5), (9, bp b60 0), (10, .int .i64 (w64 (480 + (w64 (8 * x8_4)))))]) ⟨rfl, rfl, rfl, rfl, rfl, rfl, trivial⟩ ?_
            refine S.inBlock ?_
            cases h
            refine S.b5 ?_
            refine S.b5 ?_
            refine S.b5 ?_
            refine S.b5 ?_
            refine S.b4 ?_
            refine S.b5 ?_
            refine S.to ?_ (hk5 () trivial)
            exact ⟨rfl, rfl, rfl, rfl, rfl, rfl, trivial⟩
          · replace h := cond_f b71 h
            refine S.condF rfl b71 ?_
            refine S.seq ?_
            refine S.region ?_
            refine SO.v rfl (opv_eql rfl rfl) ?_
            refine SO.v rfl (opv_assign rfl) ?_
            refine SO.nil ?_
            rcases bool_or (x52.Kind == 3) with b78 | b78
            · replace h := cond_t b78 h
              refine S.condT rfl b78 ?_
              refine S.region ?_
              refine SO.v rfl (opv_move rfl) ?_
              refine SO.v rfl (opv_move rfl) ?_
              refine SO.v rfl (opv_add rfl rfl) ?_
              refine SO.v rfl (opv_fieldAddr Try.underlying56 rfl Try.sizeOf3 rfl rfl) ?_
              refine SO.load1 rfl Try.isAgg3 rfl rfl ?_
              refine SO.v rfl (opv_conv Try.underlying3 Try.underlying65 rfl) ?_
              obtain ⟨x79, hx80, h⟩ := opt_bind h
              refine SO.v rfl (opv_idx Try.underlying26 Try.sizeOf65 hr63 rfl rfl hx80) ?_
              refine SO.b1 ?_
              refine SO.storeI1 (j := 0) (z' := wu64 x52.Wait) Try.sizeOf65 hx80 rfl rfl rfl rfl rfl rfl ?_
              refine SO.rd fun hr81 => ?_
              refine SO.nil ?_
              refine S.to (ρ' := [(8, .int .i64 x8_4), (0, bp bp0 0), (2, .slice none 0 0), (3, v5), (9, bp b60 0), (10, .int .i64 (w64 (480 + (w64 (8 * x8_4)))))]) ⟨rfl, rfl, rfl, rfl, rfl, rfl, trivial⟩ ?_
              refine S.inBlock ?_
              cases h
              refine S.b5 ?_
              refine S.b5 ?_
              refine S.b5 ?_
              refine S.b5 ?_
              refine S.b4 ?_
              refine S.b5 ?_
              refine S.to ?_ (hk5 () trivial)
              exact ⟨rfl, rfl, rfl, rfl, rfl, rfl, trivial⟩
            · replace h := cond_f b78 h
              refine S.condF rfl b78 ?_
              refine S.seq ?_
              refine S.region ?_
              refine SO.v rfl (opv_eql rfl rfl) ?_
              refine SO.v rfl (opv_assign rfl) ?_
              refine SO.nil ?_
              refine S.to (ρ' := [(8, .int .i64 x8_4), (0, bp bp0 0), (2, .slice none 0 0), (3, v5), (9, bp b60 0), (10, .int .i64 (w64 (480 + (w64 (8 * x8_4))))), (117, .int .i64 x52.Kind), (159, .bool (x52.Kind == 4))]) ⟨rfl, rfl, rfl, rfl, rfl, rfl, rfl, rfl, trivial⟩ ?_
              rcases bool_or (x52.Kind == 4) with b82 | b82
              · replace h := cond_t b82 h
                refine S.condT rfl b82 ?_
                refine S.region ?_
                refine SO.v rfl (opv_move rfl) ?_
                refine SO.v rfl (opv_move rfl) ?_
                refine SO.v rfl (opv_add rfl rfl) ?_
                refine SO.v rfl (opv_fieldAddr Try.underlying56 rfl Try.sizeOf3 rfl rfl) ?_
                refine SO.load1 rfl Try.isAgg3 rfl rfl ?_
                refine SO.v rfl (opv_conv Try.underlying3 Try.underlying65 rfl) ?_
                obtain ⟨x83, hx84, h⟩ := opt_bind h
                refine SO.v rfl (opv_idx Try.underlying26 Try.sizeOf65 hr63 rfl rfl hx84) ?_
                refine SO.b1 ?_
                refine SO.storeI1 (j := 0) (z' := wu64 x52.Word) Try.sizeOf65 hx84 rfl rfl rfl rfl rfl rfl ?_
                refine SO.rd fun hr85 => ?_
                refine SO.nil ?_
                refine S.to (ρ' := [(8, .int .i64 x8_4), (0, bp bp0 0), (2, .slice none 0 0), (3, v5), (9, bp b60 0), (10, .int .i64 (w64 (480 + (w64 (8 * x8_4)))))]) ⟨rfl, rfl, rfl, rfl, rfl, rfl, trivial⟩ ?_
                refine S.inBlock ?_
                cases h
                refine S.b5 ?_
                refine S.b5 ?_
                refine S.b5 ?_
                refine S.b5 ?_
                refine S.b4 ?_
                refine S.b5 ?_
                refine S.to ?_ (hk5 () trivial)
                exact ⟨rfl, rfl, rfl, rfl, rfl, rfl, trivial⟩
              · replace h := cond_f b82 h
                refine S.condF rfl b82 ?_
                refine S.seq ?_
                refine S.region ?_
                refine SO.v rfl (opv_eql rfl rfl) ?_
                refine SO.v rfl (opv_assign rfl) ?_
                refine SO.nil ?_
                rcases bool_or (x52.Kind == 5) with b86 | b86
                · replace h := cond_t b86 h
                  refine S.condT rfl b86 ?_
                  refine S.seq ?_
                  refine S.region ?_
                  refine SO.v rfl (opv_move rfl) ?_
                  refine SO.v rfl (opv_move rfl) ?_
                  refine SO.v rfl (opv_add rfl rfl) ?_
                  refine SO.v rfl (opv_fieldAddr Try.underlying56 rfl Try.sizeOf3 rfl rfl) ?_
                  refine SO.load1 rfl Try.isAgg3 rfl rfl ?_
                  refine SO.v rfl (opv_conv Try.underlying3 Try.underlying65 rfl) ?_
                  obtain ⟨x87, hx88, h⟩ := opt_bind h
                  refine SO.v rfl (opv_idx Try.underlying26 Try.sizeOf65 hr63 rfl rfl hx88) ?_
                  refine SO.b1 ?_
                  refine SO.storeI1 (j := 0) (z' := wu64 x52.State) Try.sizeOf65 hx88 rfl rfl rfl rfl rfl rfl ?_
                  refine SO.rd fun hr89 => ?_
                  refine SO.nil ?_
                  refine S.to (ρ' := [(8, .int .i64 x8_4), (0, bp bp0 0), (2, .slice none 0 0), (3, v5), (9, bp b60 0), (10, .int .i64 (w64 (480 + (w64 (8 * x8_4)))))]) ⟨rfl, rfl, rfl, rfl, rfl, rfl, trivial⟩ ?_
                  refine S.seq ?_
                  obtain ⟨x90, hx91, h⟩ := opt_bind h
                  obtain ⟨x92, hx93, h⟩ := opt_bind h
                  refine S.draw' (Z := fun Q => ∀ (_ : Unit) (_ : Unit) (_ : Unit) (_ : Unit) (_ : Unit) (_ : Unit) (_ : Unit) (_ : Unit) (_ : Unit) (_ : Unit), Q [(8, .int .i64 x8_4), (0, bp bp0 0), (2, .slice none 0 0), (3, v5), (9, bp b60 0), (10, .int .i64 (w64 (480 + (w64 (8 * x8_4)))))] [Own 65 (ekI .u64) v5 (((qv5_4.set (w64 (480 + (w64 (8 * x8_4)))).toNat (wu64 x52.Kind)).set (w64 ((w64 (480 + (w64 (8 * x8_4)))) + 1)).toNat (wu64 x52.State)).set (w64 ((w64 (480 + (w64 (8 * x8_4)))) + 2)).toNat (wu64 (x90 + (wu64 (w64 (x52.Owing + 1)))))), Box b60 [.int .i64 x52.Kind, .int .i64 x52.Size, .int .i64 x52.Used, .int .i64 x52.First, .int .i64 x52.Radix, .int .i64 x52.Wait, u57, .int .i64 x52.Word, .int .i64 x52.State, .int .i64 x52.Owing, .int .i64 x52.Badge, .int .i64 x52.Prio, .int .i64 x52.On, .int .i64 x52.Owes, .int .i64 x52.Root.Kind, .int .i64 x52.Root.Rights, .int .i64 x52.Root.Obj, .int .i64 x52.Root.Badge, .int .i64 x52.Root.Guard, .int .i64 x52.Root.Bits, .int .i64 x52.Pages.a0, .int .i64 x52.Pages.a1, .int .i64 x52.Pages.a2, .int .i64 x52.Pages.a3, .int .i64 x52.Right.a0, .int .i64 x52.Right.a1, .int .i64 x52.Right.a2, .int .i64 x52.Right.a3, .int .i64 x52.In, .int .i64 x52.Page, .int .i64 x52.Bound, .int .i64 x52.Mask], Box bp0 [v0_Slots, v0_Objs, .int .i64 a0.NS, .int .i64 a0.NO], OwnO 56 kr_ref10_Obj v0_Objs raws_v0_Objs A_v0_Objs a0.Objs, OwnO 46 kr_ref10_Slot v0_Slots raws_v0_Slots A_v0_Slots a0.Slots, F]) (T := [tS 3 (v5), tS 10 (.int .i64 (w64 (480 + (w64 (8 * x8_4))))), tS 9 (bp b60 0), tE [(8, .int .i64 x8_4), (0, bp bp0 0), (2, .slice none 0 0)], tR (Own 65 (ekI .u64) v5 ((qv5_4.set (w64 (480 + (w64 (8 * x8_4)))).toNat (wu64 x52.Kind)).set (w64 ((w64 (480 + (w64 (8 * x8_4)))) + 1)).toNat (wu64 x52.State))), tR (Box b60 [.int .i64 x52.Kind, .int .i64 x52.Size, .int .i64 x52.Used, .int .i64 x52.First, .int .i64 x52.Radix, .int .i64 x52.Wait, u57, .int .i64 x52.Word, .int .i64 x52.State, .int .i64 x52.Owing, .int .i64 x52.Badge, .int .i64 x52.Prio, .int .i64 x52.On, .int .i64 x52.Owes, .int .i64 x52.Root.Kind, .int .i64 x52.Root.Rights, .int .i64 x52.Root.Obj, .int .i64 x52.Root.Badge, .int .i64 x52.Root.Guard, .int .i64 x52.Root.Bits, .int .i64 x52.Pages.a0, .int .i64 x52.Pages.a1, .int .i64 x52.Pages.a2, .int .i64 x52.Pages.a3, .int .i64 x52.Right.a0, .int .i64 x52.Right.a1, .int .i64 x52.Right.a2, .int .i64 x52.Right.a3, .int .i64 x52.In, .int .i64 x52.Page, .int .i64 x52.Bound, .int .i64 x52.Mask]), tR (Box bp0 [v0_Slots, v0_Objs, .int .i64 a0.NS, .int .i64 a0.NO]), tR (OwnO 56 kr_ref10_Obj v0_Objs raws_v0_Objs A_v0_Objs a0.Objs), tR (OwnO 46 kr_ref10_Slot v0_Slots raws_v0_Slots A_v0_Slots a0.Slots), tR (F), tS 177 (v5), tS 178 (.int .i64 (w64 (480 + (w64 (8 * x8_4))))), tS 179 (.int .i64 (w64 ((w64 (480 + (w64 (8 * x8_4)))) + 2))), tS 180 (v5), tS 181 (.int .i64 (w64 (480 + (w64 (8 * x8_4))))), tS 182 (.int .i64 (w64 ((w64 (480 + (w64 (8 * x8_4)))) + 2))), tS 183 (idxp v5 ((w64 ((w64 (480 + (w64 (8 * x8_4)))) + 2)).toNat * (ekI .u64).sz)), tS 184 (.int .u64 x90), tS 185 (bp b60 9), tS 186 (.int .i64 x52.Owing), tS 187 (.int .i64 (w64 (x52.Owing + 1))), tS 188 (.int .u64 (wu64 (w64 (x52.Owing + 1)))), tS 189 (.int .u64 (wu64 (x90 + (wu64 (w64 (x52.Owing + 1)))))), tS 190 (idxp v5 ((w64 ((w64 (480 + (w64 (8 * x8_4)))) + 2)).toNat * (ekI .u64).sz)), tR (Own 65 (ekI .u64) v5 (((qv5_4.set (w64 (480 + (w64 (8 * x8_4)))).toNat (wu64 x52.Kind)).set (w64 ((w64 (480 + (w64 (8 * x8_4)))) + 1)).toNat (wu64 x52.State)).set (w64 ((w64 (480 + (w64 (8 * x8_4)))) + 2)).toNat (wu64 (x90 + (wu64 (w64 (x52.Owing + 1)))))))]) (D := [⟨[0], [], [10]⟩, ⟨[1], [], [11]⟩, ⟨[11], [], [12]⟩, ⟨[0], [], [13]⟩, ⟨[1], [], [14]⟩, ⟨[14], [], [15]⟩, ⟨[13, 15, 4], [], [16]⟩, ⟨[16, 4], [], [17]⟩, ⟨[2], [], [18]⟩, ⟨[18, 5], [], [19]⟩, ⟨[19], [], [20]⟩, ⟨[20], [], [21]⟩, ⟨[17, 21], [], [22]⟩, ⟨[10, 12, 4], [], [23]⟩, ⟨[22, 23], [4], [24]⟩]) (ini := [0, 1, 2, 3, 4, 5, 6, 7, 8, 9]) (fin := [3, 0, 2, 1, 24, 5, 6, 7, 8, 9]) (bf := [[], [], [1], [], [], [4], [3, 4, 5], [3, 4, 5, 6], [], [8], [8, 9], [8, 9, 10], [3, 4, 5, 6, 7, 8, 9, 10, 11], [0, 1, 2, 3, 4, 5, 6, 7, 8, 9, 10, 11, 12], [0, 1, 2, 3, 4, 5, 6, 7, 8, 9, 10, 11, 12, 13]]) (by kernel_rfl) (by kernel_rfl) (fun x w h1 h2 => (.cons () (.cons () (.cons () (.cons () (.cons () (.cons () (.cons () (.cons () (.cons () (.cons () (.nil ⟨EnvAll.of h1 ⟨rfl, rfl, rfl, rfl, rfl, rfl, trivial⟩, h2⟩)))))))))))) (fun Q => by kernel_rfl) ⟨?_, ?_, ?_, ?_, ?_, ?_, ?_, ?_, ?_, ?_, ?_, ?_, ?_, ?_, ?_, trivial⟩ ?_
                  · rintro Fr _
                    refine SO.v rfl (opv_move rfl) ?_
                    exact SO.nilZ fun a w h1 h2 h3 h4 h5 => PZ.of h1 h3 h5 (.cons () (.cons () (.nil ⟨EnvAll.of h2 ⟨rfl, rfl, trivial⟩, h4⟩)))
                  · rintro Fr _
                    refine SO.v rfl (opv_move rfl) ?_
                    exact SO.nilZ fun a w h1 h2 h3 h4 h5 => PZ.of h1 h3 h5 (.cons () (.cons () (.nil ⟨EnvAll.of h2 ⟨rfl, rfl, trivial⟩, h4⟩)))
                  · rintro Fr _
                    refine SO.v rfl (opv_add rfl rfl) ?_
                    exact SO.nilZ fun a w h1 h2 h3 h4 h5 => PZ.of h1 h3 h5 (.cons () (.cons () (.nil ⟨EnvAll.of h2 ⟨rfl, rfl, trivial⟩, h4⟩)))
                  · rintro Fr _
                    refine SO.v rfl (opv_move rfl) ?_
                    exact SO.nilZ fun a w h1 h2 h3 h4 h5 => PZ.of h1 h3 h5 (.cons () (.cons () (.nil ⟨EnvAll.of h2 ⟨rfl, rfl, trivial⟩, h4⟩)))
                  · rintro Fr _
                    refine SO.v rfl (opv_move rfl) ?_
                    exact SO.nilZ fun a w h1 h2 h3 h4 h5 => PZ.of h1 h3 h5 (.cons () (.cons () (.nil ⟨EnvAll.of h2 ⟨rfl, rfl, trivial⟩, h4⟩)))
                  · rintro Fr _
                    refine SO.v rfl (opv_add rfl rfl) ?_
                    exact SO.nilZ fun a w h1 h2 h3 h4 h5 => PZ.of h1 h3 h5 (.cons () (.cons () (.nil ⟨EnvAll.of h2 ⟨rfl, rfl, trivial⟩, h4⟩)))
                  · rintro Fr _ _ _
                    refine SO.v rfl (opv_idx Try.underlying26 Try.sizeOf65 hr89 rfl rfl hx91) ?_
                    exact SO.nilZ fun a w h1 h2 h3 h4 h5 => PZ.of h1 h3 h5 (.cons () (.cons () (.cons () (.cons () (.nil ⟨EnvAll.of h2 ⟨rfl, rfl, rfl, trivial⟩, h4⟩)))))
                  · rintro Fr _ _
                    refine SO.loadI1 (j := 0) rfl Try.isAgg65 (Rd.head hr89) hx91 rfl rfl rfl rfl ?_
                    exact SO.nilZ fun a w h1 h2 h3 h4 h5 => PZ.of h1 h3 h5 (.cons () (.cons () (.cons () (.nil ⟨EnvAll.of h2 ⟨rfl, rfl, trivial⟩, h4⟩))))
                  · rintro Fr _
                    refine SO.v rfl (opv_fieldAddr Try.underlying56 rfl Try.sizeOf3 rfl rfl) ?_
                    exact SO.nilZ fun a w h1 h2 h3 h4 h5 => PZ.of h1 h3 h5 (.cons () (.cons () (.nil ⟨EnvAll.of h2 ⟨rfl, rfl, trivial⟩, h4⟩)))
                  · rintro Fr _ _
                    refine SO.load1 rfl Try.isAgg3 rfl rfl ?_
                    exact SO.nilZ fun a w h1 h2 h3 h4 h5 => PZ.of h1 h3 h5 (.cons () (.cons () (.cons () (.nil ⟨EnvAll.of h2 ⟨rfl, rfl, trivial⟩, h4⟩))))
                  · rintro Fr _
                    refine SO.v rfl (opv_add rfl rfl) ?_
                    exact SO.nilZ fun a w h1 h2 h3 h4 h5 => PZ.of h1 h3 h5 (.cons () (.cons () (.nil ⟨EnvAll.of h2 ⟨rfl, rfl, trivial⟩, h4⟩)))
                  · rintro Fr _
                    refine SO.v rfl (opv_conv Try.underlying3 Try.underlying65 rfl) ?_
                    exact SO.nilZ fun a w h1 h2 h3 h4 h5 => PZ.of h1 h3 h5 (.cons () (.cons () (.nil ⟨EnvAll.of h2 ⟨rfl, rfl, trivial⟩, h4⟩)))
                  · rintro Fr _ _
                    refine SO.v rfl (opv_add rfl rfl) ?_
                    exact SO.nilZ fun a w h1 h2 h3 h4 h5 => PZ.of h1 h3 h5 (.cons () (.cons () (.cons () (.nil ⟨EnvAll.of h2 ⟨rfl, rfl, rfl, trivial⟩, h4⟩))))
                  · rintro Fr _ _ _
                    refine SO.v rfl (opv_idx Try.underlying26 Try.sizeOf65 hr89 rfl rfl hx93) ?_
                    exact SO.nilZ fun a w h1 h2 h3 h4 h5 => PZ.of h1 h3 h5 (.cons () (.cons () (.cons () (.cons () (.nil ⟨EnvAll.of h2 ⟨rfl, rfl, rfl, trivial⟩, h4⟩)))))
                  · rintro Fr _ _ _
                    refine SO.storeI1 (j := 0) (z' := wu64 (x90 + (wu64 (w64 (x52.Owing + 1))))) Try.sizeOf65 hx93 rfl rfl rfl rfl rfl rfl ?_
                    refine SO.rd fun hr94 => ?_
                    exact SO.nilZ fun a w h1 h2 h3 h4 h5 => PZ.of h1 h3 h5 (.cons () (.cons () (.cons () (.nil ⟨EnvAll.of h2 ⟨rfl, rfl, trivial⟩, h4⟩))))
                  rintro _ _ _ _ _ _ _ _ _ _
                  refine S.to (ρ' := [(8, .int .i64 x8_4), (0, bp bp0 0), (2, .slice none 0 0), (3, v5), (9, bp b60 0), (10, .int .i64 (w64 (480 + (w64 (8 * x8_4)))))]) ⟨rfl, rfl, rfl, rfl, rfl, rfl, trivial⟩ ?_
                  refine S.rd fun hr95 => ?_
                  refine S.seq ?_
                  refine S.region ?_
                  refine SO.v rfl (opv_move rfl) ?_
                  refine SO.v rfl (opv_move rfl) ?_
                  refine SO.v rfl (opv_add rfl rfl) ?_
                  refine SO.v rfl (opv_fieldAddr Try.underlying56 rfl Try.sizeOf3 rfl rfl) ?_
                  refine SO.b1 ?_
                  refine SO.load1 rfl Try.isAgg3 rfl rfl ?_
                  refine SO.v rfl (opv_conv Try.underlying3 Try.underlying65 rfl) ?_
                  obtain ⟨x96, hx97, h⟩ := opt_bind h
                  refine SO.v rfl (opv_idx Try.underlying26 Try.sizeOf65 hr95 rfl rfl hx97) ?_
                  refine SO.b1 ?_
                  refine SO.storeI1 (j := 0) (z' := wu64 x52.Word) Try.sizeOf65 hx97 rfl rfl rfl rfl rfl rfl ?_
                  refine SO.rd fun hr98 => ?_
                  refine SO.nil ?_
                  refine S.to (ρ' := [(8, .int .i64 x8_4), (0, bp bp0 0), (2, .slice none 0 0), (3, v5), (9, bp b60 0), (10, .int .i64 (w64 (480 + (w64 (8 * x8_4)))))]) ⟨rfl, rfl, rfl, rfl, rfl, rfl, trivial⟩ ?_
                  refine S.seq ?_
                  refine S.region ?_
                  refine SO.v rfl (opv_move rfl) ?_
                  refine SO.v rfl (opv_move rfl) ?_
                  refine SO.v rfl (opv_add rfl rfl) ?_
                  refine SO.v rfl (opv_fieldAddr Try.underlying56 rfl Try.sizeOf3 rfl rfl) ?_
                  refine SO.b1 ?_
                  refine SO.load1 rfl Try.isAgg3 rfl rfl ?_
                  refine SO.v rfl (opv_conv Try.underlying3 Try.underlying65 rfl) ?_
                  obtain ⟨x99, hx100, h⟩ := opt_bind h
                  refine SO.v rfl (opv_idx Try.underlying26 Try.sizeOf65 hr98 rfl rfl hx100) ?_
                  refine SO.b1 ?_
                  refine SO.storeI1 (j := 0) (z' := wu64 x52.Badge) Try.sizeOf65 hx100 rfl rfl rfl rfl rfl rfl ?_
                  refine SO.rd fun hr101 => ?_
                  refine SO.nil ?_
                  refine S.to (ρ' := [(8, .int .i64 x8_4), (0, bp bp0 0), (2, .slice none 0 0), (3, v5), (9, bp b60 0), (10, .int .i64 (w64 (480 + (w64 (8 * x8_4)))))]) ⟨rfl, rfl, rfl, rfl, rfl, rfl, trivial⟩ ?_
                  refine S.seq ?_
                  refine S.region ?_
                  refine SO.v rfl (opv_move rfl) ?_
                  refine SO.v rfl (opv_move rfl) ?_
                  refine SO.v rfl (opv_add rfl rfl) ?_
                  refine SO.v rfl (opv_fieldAddr Try.underlying56 rfl Try.sizeOf3 rfl rfl) ?_
                  refine SO.b1 ?_
                  refine SO.load1 rfl Try.isAgg3 rfl rfl ?_
                  refine SO.v rfl (opv_fieldAddr Try.underlying56 rfl Try.sizeOf3 rfl rfl) ?_
                  refine SO.load1 rfl Try.isAgg3 rfl rfl ?_
                  refine SO.v rfl (opv_add rfl rfl) ?_
                  refine SO.v rfl (opv_mul rfl rfl) ?_
                  refine SO.v rfl (opv_add rfl rfl) ?_
                  refine SO.v rfl (opv_conv Try.underlying3 Try.underlying65 rfl) ?_
                  obtain ⟨x102, hx103, h⟩ := opt_bind h
                  refine SO.v rfl (opv_idx Try.underlying26 Try.sizeOf65 hr101 rfl rfl hx103) ?_
                  refine SO.b1 ?_
                  refine SO.storeI1 (j := 0) (z' := wu64 (w64 (x52.Prio + (w64 (256 * (w64 (x52.On + 1))))))) Try.sizeOf65 hx103 rfl rfl rfl rfl rfl rfl ?_
                  refine SO.rd fun hr104 => ?_
                  refine SO.nil ?_
                  refine S.to (ρ' := [(8, .int .i64 x8_4), (0, bp bp0 0), (2, .slice none 0 0), (3, v5), (9, bp b60 0), (10, .int .i64 (w64 (480 + (w64 (8 * x8_4)))))]) ⟨rfl, rfl, rfl, rfl, rfl, rfl, trivial⟩ ?_
                  refine S.seq ?_
                  refine S.region ?_
                  refine SO.v rfl (opv_move rfl) ?_
                  refine SO.v rfl (opv_move rfl) ?_
                  refine SO.v rfl (opv_add rfl rfl) ?_
                  refine SO.v rfl (opv_fieldAddr Try.underlying56 rfl Try.sizeOf3 rfl rfl) ?_
                  refine SO.b1 ?_
                  refine SO.load1 rfl Try.isAgg3 rfl rfl ?_
                  refine SO.v rfl (opv_add rfl rfl) ?_
                  refine SO.v rfl (opv_conv Try.underlying3 Try.underlying65 rfl) ?_
                  obtain ⟨x105, hx106, h⟩ := opt_bind h
                  refine SO.v rfl (opv_idx Try.underlying26 Try.sizeOf65 hr104 rfl rfl hx106) ?_
                  refine SO.b1 ?_
                  refine SO.storeI1 (j := 0) (z' := wu64 (w64 (x52.Owes + 1))) Try.sizeOf65 hx106 rfl rfl rfl rfl rfl rfl ?_
                  refine SO.rd fun hr107 => ?_
                  refine SO.nil ?_
                  refine S.to (ρ' := [(8, .int .i64 x8_4), (0, bp bp0 0), (2, .slice none 0 0), (3, v5), (9, bp b60 0), (10, .int .i64 (w64 (480 + (w64 (8 * x8_4)))))]) ⟨rfl, rfl, rfl, rfl, rfl, rfl, trivial⟩ ?_
                  refine S.region ?_
                  refine SO.v rfl (opv_move rfl) ?_
                  refine SO.v rfl (opv_move rfl) ?_
                  refine SO.v rfl (opv_add rfl rfl) ?_
                  refine SO.v rfl (opv_fieldAddr Try.underlying56 rfl Try.sizeOf44 rfl rfl) ?_
                  refine SO.b1 ?_
                  refine SO.loadN rfl Try.isAgg44 Try.sizeOf44 rfl rfl rfl ?_
                  obtain ⟨t108, ht109, h⟩ := opt_bind h
                  refine SO.call (pre := []) rfl Try.call30 rfl rfl rfl (ref01_Word.ct _ _ ht109) trivial ?_
                  rintro _ _ ⟨rfl, rfl⟩
                  obtain ⟨x110, hx111, h⟩ := opt_bind h
                  refine SO.v rfl (opv_idx Try.underlying26 Try.sizeOf65 hr107 rfl rfl hx111) ?_
                  refine SO.b1 ?_
                  refine SO.storeI1 (j := 0) (z' := t108) Try.sizeOf65 hx111 rfl rfl rfl rfl rfl rfl ?_
                  refine SO.rd fun hr112 => ?_
                  refine SO.nil ?_
                  refine S.to (ρ' := [(8, .int .i64 x8_4), (0, bp bp0 0), (2, .slice none 0 0), (3, v5), (9, bp b60 0), (10, .int .i64 (w64 (480 + (w64 (8 * x8_4)))))]) ⟨rfl, rfl, rfl, rfl, rfl, rfl, trivial⟩ ?_
                  refine S.inBlock ?_
                  cases h
                  refine S.b5 ?_
                  refine S.b5 ?_
                  refine S.b5 ?_
                  refine S.b5 ?_
                  refine S.b4 ?_
                  refine S.b5 ?_
                  refine S.to ?_ (hk5 () trivial)
                  exact ⟨rfl, rfl, rfl, rfl, rfl, rfl, trivial⟩
                · replace h := cond_f b86 h
                  refine S.condF rfl b86 ?_
                  refine S.seq ?_
                  refine S.region ?_
                  refine SO.v rfl (opv_eql rfl rfl) ?_
                  refine SO.v rfl (opv_assign rfl) ?_
                  refine SO.nil ?_
                  rcases bool_or (x52.Kind == 6) with b113 | b113
                  · replace h := cond_t b113 h
                    refine S.condT rfl b113 ?_
                    refine S.seq ?_
                    refine S.region ?_
                    refine SO.v rfl (opv_move rfl) ?_
                    refine SO.v rfl (opv_move rfl) ?_
                    refine SO.v rfl (opv_add rfl rfl) ?_
                    refine SO.v rfl (opv_fieldAddr Try.underlying56 rfl Try.sizeOf3 rfl rfl) ?_
                    refine SO.load1 rfl Try.isAgg3 rfl rfl ?_
                    refine SO.v rfl (opv_add rfl rfl) ?_
                    refine SO.v rfl (opv_conv Try.underlying3 Try.underlying65 rfl) ?_
                    obtain ⟨x114, hx115, h⟩ := opt_bind h
                    refine SO.v rfl (opv_idx Try.underlying26 Try.sizeOf65 hr63 rfl rfl hx115) ?_
                    refine SO.b1 ?_
                    refine SO.storeI1 (j := 0) (z' := wu64 (w64 (x52.In + 1))) Try.sizeOf65 hx115 rfl rfl rfl rfl rfl rfl ?_
                    refine SO.rd fun hr116 => ?_
                    refine SO.nil ?_
                    refine S.to (ρ' := [(8, .int .i64 x8_4), (0, bp bp0 0), (2, .slice none 0 0), (3, v5), (9, bp b60 0), (10, .int .i64 (w64 (480 + (w64 (8 * x8_4)))))]) ⟨rfl, rfl, rfl, rfl, rfl, rfl, trivial⟩ ?_
                    refine S.region ?_
                    refine SO.v rfl (opv_move rfl) ?_
                    refine SO.v rfl (opv_move rfl) ?_
                    refine SO.v rfl (opv_add rfl rfl) ?_
                    refine SO.v rfl (opv_fieldAddr Try.underlying56 rfl Try.sizeOf3 rfl rfl) ?_
                    refine SO.b1 ?_
                    refine SO.load1 rfl Try.isAgg3 rfl rfl ?_
                    refine SO.v rfl (opv_conv Try.underlying3 Try.underlying65 rfl) ?_
                    obtain ⟨x117, hx118, h⟩ := opt_bind h
                    refine SO.v rfl (opv_idx Try.underlying26 Try.sizeOf65 hr116 rfl rfl hx118) ?_
                    refine SO.b1 ?_
                    refine SO.storeI1 (j := 0) (z' := wu64 x52.Page) Try.sizeOf65 hx118 rfl rfl rfl rfl rfl rfl ?_
                    refine SO.rd fun hr119 => ?_
                    refine SO.nil ?_
                    refine S.to (ρ' := [(8, .int .i64 x8_4), (0, bp bp0 0), (2, .slice none 0 0), (3, v5), (9, bp b60 0), (10, .int .i64 (w64 (480 + (w64 (8 * x8_4)))))]) ⟨rfl, rfl, rfl, rfl, rfl, rfl, trivial⟩ ?_
                    refine S.inBlock ?_
                    cases h
                    refine S.b5 ?_
                    refine S.b5 ?_
                    refine S.b5 ?_
                    refine S.b5 ?_
                    refine S.b4 ?_
                    refine S.b5 ?_
                    refine S.to ?_ (hk5 () trivial)
                    exact ⟨rfl, rfl, rfl, rfl, rfl, rfl, trivial⟩
                  · replace h := cond_f b113 h
                    refine S.condF rfl b113 ?_
                    refine S.seq ?_
                    refine S.region ?_
                    refine SO.v rfl (opv_eql rfl rfl) ?_
                    refine SO.v rfl (opv_assign rfl) ?_
                    refine SO.nil ?_
                    rcases bool_or (x52.Kind == 7) with b120 | b120
                    · replace h := cond_t b120 h
                      refine S.condT rfl b120 ?_
                      refine S.seq ?_
                      refine S.region ?_
                      refine SO.v rfl (opv_assign rfl) ?_
                      refine SO.nil ?_
                      refine S.to (ρ' := [(8, .int .i64 x8_4), (0, bp bp0 0), (2, .slice none 0 0), (3, v5), (9, bp b60 0), (10, .int .i64 (w64 (480 + (w64 (8 * x8_4))))), (11, .int .i64 0)]) ⟨rfl, rfl, rfl, rfl, rfl, rfl, rfl, trivial⟩ ?_
                      obtain ⟨qv5_e6, hl6, h⟩ := opt_bind h
                      refine S.b5 ?_
                      refine S.b5 ?_
                      refine S.b5 ?_
                      refine S.b5 ?_
                      refine S.b5 ?_
                      refine S.b5 ?_
                      refine S.to (ρ' := [(8, .int .i64 x8_4), (0, bp bp0 0), (2, .slice none 0 0), (3, v5), (9, bp b60 0), (10, .int .i64 (w64 (480 + (w64 (8 * x8_4))))), (11, .int .i64 0)]) ⟨rfl, rfl, rfl, rfl, rfl, rfl, rfl, trivial⟩ ?_
                      refine S.forloop (X := (Int × (List Int)) × Unit) (O := (List Int)) (fun m x => ref10_State_Words.l6 x8_4 x52 m x.1) (fun x => match x with | ((x11_6, qv5_6), _) => [(8, .int .i64 x8_4), (0, bp bp0 0), (2, .slice none 0 0), (3, v5), (9, bp b60 0), (10, .int .i64 (w64 (480 + (w64 (8 * x8_4))))), (11, .int .i64 x11_6)]) (fun x => match x with | ((x11_6, qv5_6), _) => [Box b60 [.int .i64 x52.Kind, .int .i64 x52.Size, .int .i64 x52.Used, .int .i64 x52.First, .int .i64 x52.Radix, .int .i64 x52.Wait, u57, .int .i64 x52.Word, .int .i64 x52.State, .int .i64 x52.Owing, .int .i64 x52.Badge, .int .i64 x52.Prio, .int .i64 x52.On, .int .i64 x52.Owes, .int .i64 x52.Root.Kind, .int .i64 x52.Root.Rights, .int .i64 x52.Root.Obj, .int .i64 x52.Root.Badge, .int .i64 x52.Root.Guard, .int .i64 x52.Root.Bits, .int .i64 x52.Pages.a0, .int .i64 x52.Pages.a1, .int .i64 x52.Pages.a2, .int .i64 x52.Pages.a3, .int .i64 x52.Right.a0, .int .i64 x52.Right.a1, .int .i64 x52.Right.a2, .int .i64 x52.Right.a3, .int .i64 x52.In, .int .i64 x52.Page, .int .i64 x52.Bound, .int .i64 x52.Mask], Own 65 (ekI .u64) v5 qv5_6, Box bp0 [v0_Slots, v0_Objs, .int .i64 a0.NS, .int .i64 a0.NO], OwnO 56 kr_ref10_Obj v0_Objs raws_v0_Objs A_v0_Objs a0.Objs, OwnO 46 kr_ref10_Slot v0_Slots raws_v0_Slots A_v0_Slots a0.Slots, F]) (fun Sk => (fun qv5_e6 => ∀ _ : Unit, Sk [(0, bp bp0 0), (2, .slice none 0 0), (3, v5), (8, .int .i64 x8_4), (9, bp b60 0), (10, .int .i64 (w64 (480 + (w64 (8 * x8_4)))))] [Box b60 [.int .i64 x52.Kind, .int .i64 x52.Size, .int .i64 x52.Used, .int .i64 x52.First, .int .i64 x52.Radix, .int .i64 x52.Wait, u57, .int .i64 x52.Word, .int .i64 x52.State, .int .i64 x52.Owing, .int .i64 x52.Badge, .int .i64 x52.Prio, .int .i64 x52.On, .int .i64 x52.Owes, .int .i64 x52.Root.Kind, .int .i64 x52.Root.Rights, .int .i64 x52.Root.Obj, .int .i64 x52.Root.Badge, .int .i64 x52.Root.Guard, .int .i64 x52.Root.Bits, .int .i64 x52.Pages.a0, .int .i64 x52.Pages.a1, .int .i64 x52.Pages.a2, .int .i64 x52.Pages.a3, .int .i64 x52.Right.a0, .int .i64 x52.Right.a1, .int .i64 x52.Right.a2, .int .i64 x52.Right.a3, .int .i64 x52.In, .int .i64 x52.Page, .int .i64 x52.Bound, .int .i64 x52.Mask], Own 65 (ekI .u64) v5 qv5_e6, Box bp0 [v0_Slots, v0_Objs, .int .i64 a0.NS, .int .i64 a0.NO], OwnO 56 kr_ref10_Obj v0_Objs raws_v0_Objs A_v0_Objs a0.Objs, OwnO 46 kr_ref10_Slot v0_Slots raws_v0_Slots A_v0_Slots a0.Slots, F])) (fun _ => rfl) ?_ (m := k) (x := ((0, qv5_4.set (w64 (480 + (w64 (8 * x8_4)))).toNat (wu64 x52.Kind)), ())) hl6 ?_
                      · clear h hl6
                        intro k x o_6 h hK6 ih6
                        obtain ⟨⟨x11_6, qv5_6⟩, _⟩ := x
                        replace h : ref10_State_Words.l6 x8_4 x52 (k + 1) (x11_6, qv5_6) = some o_6 := h
                        first | rw [ref10_State_Words.l6] at h | unfold ref10_State_Words.l6 at h
                        refine S.b1 ?_
                        refine S.rd fun hr121 => ?_
                        refine S.seq ?_
                        refine S.seq ?_
                        refine S.region ?_
                        refine SO.v rfl (opv_move rfl) ?_
                        refine SO.v rfl (opv_lss rfl rfl) ?_
                        refine SO.nil ?_
                        rcases bool_or (decide (x11_6 < 4)) with b122 | b122
                        · replace h := cond_t b122 h
                          refine S.condT rfl b122 ?_
                          refine S.skip ?_
                          refine S.seq ?_
                          refine S.block ?_
                          refine S.seq ?_
                          refine S.region ?_
                          refine SO.v rfl (opv_move rfl) ?_
                          refine SO.v rfl (opv_fieldAddr Try.underlying56 rfl Try.sizeOf54 rfl rfl) ?_
                          obtain ⟨x123, hx124, h⟩ := opt_bind h
                          refine SO.v rfl (opv_idxA Try.underlying54 Try.sizeOf3 rfl rfl hx124) ?_
                          refine SO.b1 ?_
                          refine SO.load1 (v := .int .i64 x123) rfl Try.isAgg3 rfl (by rcases A4.get_cases hx124 with ⟨h1, h2⟩ | ⟨h1, h2⟩ | ⟨h1, h2⟩ | ⟨h1, h2⟩ <;> simp only [h1, h2] <;> rfl) ?_
                          refine SO.v rfl (opv_geq rfl rfl) ?_
                          refine SO.nil ?_
                          rcases bool_or (decide (0 ≤ x123)) with b125 | b125
                          · replace h := cond_t b125 h
                            refine S.condT rfl b125 ?_
                            obtain ⟨x126, hx127, h⟩ := opt_bind h
                            obtain ⟨x128, hx129, h⟩ := opt_bind h
                            obtain ⟨x130, hx131, h⟩ := opt_bind h
                            refine S.draw' (Z := fun Q => ∀ (_ : Unit) (_ : Unit) (_ : Unit) (_ : Unit) (_ : Unit) (_ : Unit) (_ : Unit) (_ : Unit) (_ : Unit) (_ : Unit) (_ : Unit), Q [(8, .int .i64 x8_4), (0, bp bp0 0), (2, .slice none 0 0), (3, v5), (9, bp b60 0), (10, .int .i64 (w64 (480 + (w64 (8 * x8_4))))), (11, .int .i64 x11_6)] [Box b60 [.int .i64 x52.Kind, .int .i64 x52.Size, .int .i64 x52.Used, .int .i64 x52.First, .int .i64 x52.Radix, .int .i64 x52.Wait, u57, .int .i64 x52.Word, .int .i64 x52.State, .int .i64 x52.Owing, .int .i64 x52.Badge, .int .i64 x52.Prio, .int .i64 x52.On, .int .i64 x52.Owes, .int .i64 x52.Root.Kind, .int .i64 x52.Root.Rights, .int .i64 x52.Root.Obj, .int .i64 x52.Root.Badge, .int .i64 x52.Root.Guard, .int .i64 x52.Root.Bits, .int .i64 x52.Pages.a0, .int .i64 x52.Pages.a1, .int .i64 x52.Pages.a2, .int .i64 x52.Pages.a3, .int .i64 x52.Right.a0, .int .i64 x52.Right.a1, .int .i64 x52.Right.a2, .int .i64 x52.Right.a3, .int .i64 x52.In, .int .i64 x52.Page, .int .i64 x52.Bound, .int .i64 x52.Mask], Own 65 (ekI .u64) v5 (qv5_6.set (w64 ((w64 ((w64 (480 + (w64 (8 * x8_4)))) + 1)) + x11_6)).toNat (wu64 (w64 ((w64 (8 * (w64 (x126 + 1)))) + x128)))), Box bp0 [v0_Slots, v0_Objs, .int .i64 a0.NS, .int .i64 a0.NO], OwnO 56 kr_ref10_Obj v0_Objs raws_v0_Objs A_v0_Objs a0.Objs, OwnO 46 kr_ref10_Slot v0_Slots raws_v0_Slots A_v0_Slots a0.Slots, F]) (T := [tS 3 (v5), tS 10 (.int .i64 (w64 (480 + (w64 (8 * x8_4))))), tS 11 (.int .i64 x11_6), tS 9 (bp b60 0), tE [(8, .int .i64 x8_4), (0, bp bp0 0), (2, .slice none 0 0)], tR (Box b60 [.int .i64 x52.Kind, .int .i64 x52.Size, .int .i64 x52.Used, .int .i64 x52.First, .int .i64 x52.Radix, .int .i64 x52.Wait, u57, .int .i64 x52.Word, .int .i64 x52.State, .int .i64 x52.Owing, .int .i64 x52.Badge, .int .i64 x52.Prio, .int .i64 x52.On, .int .i64 x52.Owes, .int .i64 x52.Root.Kind, .int .i64 x52.Root.Rights, .int .i64 x52.Root.Obj, .int .i64 x52.Root.Badge, .int .i64 x52.Root.Guard, .int .i64 x52.Root.Bits, .int .i64 x52.Pages.a0, .int .i64 x52.Pages.a1, .int .i64 x52.Pages.a2, .int .i64 x52.Pages.a3, .int .i64 x52.Right.a0, .int .i64 x52.Right.a1, .int .i64 x52.Right.a2, .int .i64 x52.Right.a3, .int .i64 x52.In, .int .i64 x52.Page, .int .i64 x52.Bound, .int .i64 x52.Mask]), tR (Own 65 (ekI .u64) v5 qv5_6), tR (Box bp0 [v0_Slots, v0_Objs, .int .i64 a0.NS, .int .i64 a0.NO]), tR (OwnO 56 kr_ref10_Obj v0_Objs raws_v0_Objs A_v0_Objs a0.Objs), tR (OwnO 46 kr_ref10_Slot v0_Slots raws_v0_Slots A_v0_Slots a0.Slots), tR (F), tS 260 (v5), tS 261 (.int .i64 (w64 (480 + (w64 (8 * x8_4))))), tS 262 (.int .i64 (w64 ((w64 (480 + (w64 (8 * x8_4)))) + 1))), tS 263 (.int .i64 x11_6), tS 264 (.int .i64 (w64 ((w64 ((w64 (480 + (w64 (8 * x8_4)))) + 1)) + x11_6))), tS 265 (.int .i64 x11_6), tS 266 (bp b60 20), tS 267 (bp b60 (20 + x11_6.toNat)), tS 268 (.int .i64 x126), tS 269 (.int .i64 (w64 (x126 + 1))), tS 270 (.int .i64 (w64 (8 * (w64 (x126 + 1))))), tS 271 (.int .i64 x11_6), tS 272 (bp b60 24), tS 273 (bp b60 (24 + x11_6.toNat)), tS 274 (.int .i64 x128), tS 275 (.int .i64 (w64 ((w64 (8 * (w64 (x126 + 1)))) + x128))), tS 276 (.int .u64 (wu64 (w64 ((w64 (8 * (w64 (x126 + 1)))) + x128)))), tS 277 (idxp v5 ((w64 ((w64 ((w64 (480 + (w64 (8 * x8_4)))) + 1)) + x11_6)).toNat * (ekI .u64).sz)), tR (Own 65 (ekI .u64) v5 (qv5_6.set (w64 ((w64 ((w64 (480 + (w64 (8 * x8_4)))) + 1)) + x11_6)).toNat (wu64 (w64 ((w64 (8 * (w64 (x126 + 1)))) + x128)))))]) (D := [⟨[0], [], [11]⟩, ⟨[1], [], [12]⟩, ⟨[12], [], [13]⟩, ⟨[2], [], [14]⟩, ⟨[13, 14], [], [15]⟩, ⟨[2], [], [16]⟩, ⟨[3], [], [17]⟩, ⟨[16, 17, 5], [], [18]⟩, ⟨[18, 5], [], [19]⟩, ⟨[19], [], [20]⟩, ⟨[20], [], [21]⟩, ⟨[2], [], [22]⟩, ⟨[3], [], [23]⟩, ⟨[22, 23, 5], [], [24]⟩, ⟨[24, 5], [], [25]⟩, ⟨[21, 25], [], [26]⟩, ⟨[26], [], [27]⟩, ⟨[11, 15, 6], [], [28]⟩, ⟨[27, 28], [6], [29]⟩]) (ini := [0, 1, 2, 3, 4, 5, 6, 7, 8, 9, 10]) (fin := [4, 0, 3, 1, 2, 5, 29, 7, 8, 9, 10]) (bf := [[], [], [1], [], [1, 2, 3], [], [], [5, 6], [5, 6, 7], [5, 6, 7, 8], [5, 6, 7, 8, 9], [], [], [11, 12], [11, 12, 13], [5, 6, 7, 8, 9, 10, 11, 12, 13, 14], [5, 6, 7, 8, 9, 10, 11, 12, 13, 14, 15], [0, 1, 2, 3, 4, 5, 6, 7, 8, 9, 10, 11, 12, 13, 14, 15, 16], [0, 1, 2, 3, 4, 5, 6, 7, 8, 9, 10, 11, 12, 13, 14, 15, 16, 17]]) (by kernel_rfl) (by kernel_rfl) (fun x w h1 h2 => (.cons () (.cons () (.cons () (.cons () (.cons () (.cons () (.cons () (.cons () (.cons () (.cons () (.cons () (.nil ⟨EnvAll.of h1 ⟨rfl, rfl, rfl, rfl, rfl, rfl, rfl, trivial⟩, h2⟩))))))))))))) (fun Q => by kernel_rfl) ⟨?_, ?_, ?_, ?_, ?_, ?_, ?_, ?_, ?_, ?_, ?_, ?_, ?_, ?_, ?_, ?_, ?_, ?_, ?_, trivial⟩ ?_
                            · rintro Fr _
                              refine SO.v rfl (opv_move rfl) ?_
                              exact SO.nilZ fun a w h1 h2 h3 h4 h5 => PZ.of h1 h3 h5 (.cons () (.cons () (.nil ⟨EnvAll.of h2 ⟨rfl, rfl, trivial⟩, h4⟩)))
                            · rintro Fr _
                              refine SO.v rfl (opv_move rfl) ?_
                              exact SO.nilZ fun a w h1 h2 h3 h4 h5 => PZ.of h1 h3 h5 (.cons () (.cons () (.nil ⟨EnvAll.of h2 ⟨rfl, rfl, trivial⟩, h4⟩)))
                            · rintro Fr _
                              refine SO.v rfl (opv_add rfl rfl) ?_
                              exact SO.nilZ fun a w h1 h2 h3 h4 h5 => PZ.of h1 h3 h5 (.cons () (.cons () (.nil ⟨EnvAll.of h2 ⟨rfl, rfl, trivial⟩, h4⟩)))
                            · rintro Fr _
                              refine SO.v rfl (opv_move rfl) ?_
                              exact SO.nilZ fun a w h1 h2 h3 h4 h5 => PZ.of h1 h3 h5 (.cons () (.cons () (.nil ⟨EnvAll.of h2 ⟨rfl, rfl, trivial⟩, h4⟩)))
                            · rintro Fr _ _
                              refine SO.v rfl (opv_add rfl rfl) ?_
                              exact SO.nilZ fun a w h1 h2 h3 h4 h5 => PZ.of h1 h3 h5 (.cons () (.cons () (.cons () (.nil ⟨EnvAll.of h2 ⟨rfl, rfl, rfl, trivial⟩, h4⟩))))
                            · rintro Fr _
                              refine SO.v rfl (opv_move rfl) ?_
                              exact SO.nilZ fun a w h1 h2 h3 h4 h5 => PZ.of h1 h3 h5 (.cons () (.cons () (.nil ⟨EnvAll.of h2 ⟨rfl, rfl, trivial⟩, h4⟩)))
                            · rintro Fr _
                              refine SO.v rfl (opv_fieldAddr Try.underlying56 rfl Try.sizeOf54 rfl rfl) ?_
                              exact SO.nilZ fun a w h1 h2 h3 h4 h5 => PZ.of h1 h3 h5 (.cons () (.cons () (.nil ⟨EnvAll.of h2 ⟨rfl, rfl, trivial⟩, h4⟩)))
                            · rintro Fr _ _ _
                              refine SO.v rfl (opv_idxA Try.underlying54 Try.sizeOf3 rfl rfl hx127) ?_
                              exact SO.nilZ fun a w h1 h2 h3 h4 h5 => PZ.of h1 h3 h5 (.cons () (.cons () (.cons () (.cons () (.nil ⟨EnvAll.of h2 ⟨rfl, rfl, rfl, trivial⟩, h4⟩)))))
                            · rintro Fr _ _
                              refine SO.load1 (v := .int .i64 x126) rfl Try.isAgg3 rfl (by rcases A4.get_cases hx127 with ⟨h1, h2⟩ | ⟨h1, h2⟩ | ⟨h1, h2⟩ | ⟨h1, h2⟩ <;> simp only [h1, h2] <;> rfl) ?_
                              exact SO.nilZ fun a w h1 h2 h3 h4 h5 => PZ.of h1 h3 h5 (.cons () (.cons () (.cons () (.nil ⟨EnvAll.of h2 ⟨rfl, rfl, trivial⟩, h4⟩))))
                            · rintro Fr _
                              refine SO.v rfl (opv_add rfl rfl) ?_
                              exact SO.nilZ fun a w h1 h2 h3 h4 h5 => PZ.of h1 h3 h5 (.cons () (.cons () (.nil ⟨EnvAll.of h2 ⟨rfl, rfl, trivial⟩, h4⟩)))
                            · rintro Fr _
                              refine SO.v rfl (opv_mul rfl rfl) ?_
                              exact SO.nilZ fun a w h1 h2 h3 h4 h5 => PZ.of h1 h3 h5 (.cons () (.cons () (.nil ⟨EnvAll.of h2 ⟨rfl, rfl, trivial⟩, h4⟩)))
                            · rintro Fr _
                              refine SO.v rfl (opv_move rfl) ?_
                              exact SO.nilZ fun a w h1 h2 h3 h4 h5 => PZ.of h1 h3 h5 (.cons () (.cons () (.nil ⟨EnvAll.of h2 ⟨rfl, rfl, trivial⟩, h4⟩)))
                            · rintro Fr _
                              refine SO.v rfl (opv_fieldAddr Try.underlying56 rfl Try.sizeOf54 rfl rfl) ?_
                              exact SO.nilZ fun a w h1 h2 h3 h4 h5 => PZ.of h1 h3 h5 (.cons () (.cons () (.nil ⟨EnvAll.of h2 ⟨rfl, rfl, trivial⟩, h4⟩)))
                            · rintro Fr _ _ _
                              refine SO.v rfl (opv_idxA Try.underlying54 Try.sizeOf3 rfl rfl hx129) ?_
                              exact SO.nilZ fun a w h1 h2 h3 h4 h5 => PZ.of h1 h3 h5 (.cons () (.cons () (.cons () (.cons () (.nil ⟨EnvAll.of h2 ⟨rfl, rfl, rfl, trivial⟩, h4⟩)))))
                            · rintro Fr _ _
                              refine SO.load1 (v := .int .i64 x128) rfl Try.isAgg3 rfl (by rcases A4.get_cases hx129 with ⟨h1, h2⟩ | ⟨h1, h2⟩ | ⟨h1, h2⟩ | ⟨h1, h2⟩ <;> simp only [h1, h2] <;> rfl) ?_
                              exact SO.nilZ fun a w h1 h2 h3 h4 h5 => PZ.of h1 h3 h5 (.cons () (.cons () (.cons () (.nil ⟨EnvAll.of h2 ⟨rfl, rfl, trivial⟩, h4⟩))))
                            · rintro Fr _ _
                              refine SO.v rfl (opv_add rfl rfl) ?_
                              exact SO.nilZ fun a w h1 h2 h3 h4 h5 => PZ.of h1 h3 h5 (.cons () (.cons () (.cons () (.nil ⟨EnvAll.of h2 ⟨rfl, rfl, rfl, trivial⟩, h4⟩))))
                            · rintro Fr _
                              refine SO.v rfl (opv_conv Try.underlying3 Try.underlying65 rfl) ?_
                              exact SO.nilZ fun a w h1 h2 h3 h4 h5 => PZ.of h1 h3 h5 (.cons () (.cons () (.nil ⟨EnvAll.of h2 ⟨rfl, rfl, trivial⟩, h4⟩)))
                            · rintro Fr _ _ _
                              refine SO.v rfl (opv_idx Try.underlying26 Try.sizeOf65 hr121 rfl rfl hx131) ?_
                              exact SO.nilZ fun a w h1 h2 h3 h4 h5 => PZ.of h1 h3 h5 (.cons () (.cons () (.cons () (.cons () (.nil ⟨EnvAll.of h2 ⟨rfl, rfl, rfl, trivial⟩, h4⟩)))))
                            · rintro Fr _ _ _
                              refine SO.storeI1 (j := 0) (z' := wu64 (w64 ((w64 (8 * (w64 (x126 + 1)))) + x128))) Try.sizeOf65 hx131 rfl rfl rfl rfl rfl rfl ?_
                              refine SO.rd fun hr132 => ?_
                              exact SO.nilZ fun a w h1 h2 h3 h4 h5 => PZ.of h1 h3 h5 (.cons () (.cons () (.cons () (.nil ⟨EnvAll.of h2 ⟨rfl, rfl, trivial⟩, h4⟩))))
                            rintro _ _ _ _ _ _ _ _ _ _ _
                            refine S.to (ρ' := [(8, .int .i64 x8_4), (0, bp bp0 0), (2, .slice none 0 0), (3, v5), (9, bp b60 0), (10, .int .i64 (w64 (480 + (w64 (8 * x8_4))))), (11, .int .i64 x11_6)]) ⟨rfl, rfl, rfl, rfl, rfl, rfl, rfl, trivial⟩ ?_
                            refine S.b1 ?_
                            refine S.rd fun hr133 => ?_
                            refine S.inBlock ?_
                            refine S.region ?_
                            refine SO.v rfl (opv_move rfl) ?_
                            refine SO.v rfl (opv_add rfl rfl) ?_
                            refine SO.v rfl (opv_assign rfl) ?_
                            refine SO.nil ?_
                            refine S.b5 ?_
                            refine S.b5 ?_
                            refine S.b5 ?_
                            refine S.b5 ?_
                            refine S.b4 ?_
                            refine S.b5 ?_
                            refine S.to ?_ (ih6 ((w64 (x11_6 + 1), qv5_6.set (w64 ((w64 ((w64 (480 + (w64 (8 * x8_4)))) + 1)) + x11_6)).toNat (wu64 (w64 ((w64 (8 * (w64 (x126 + 1)))) + x128)))), ()) h)
                            exact ⟨rfl, rfl, rfl, rfl, rfl, rfl, rfl, trivial⟩
                          · replace h := cond_f b125 h
                            refine S.condF rfl b125 ?_
                            refine S.skip ?_
                            refine S.inBlock ?_
                            refine S.region ?_
                            refine SO.v rfl (opv_move rfl) ?_
                            refine SO.v rfl (opv_add rfl rfl) ?_
                            refine SO.v rfl (opv_assign rfl) ?_
                            refine SO.nil ?_
                            refine S.to (ρ' := [(8, .int .i64 x8_4), (0, bp bp0 0), (2, .slice none 0 0), (3, v5), (9, bp b60 0), (10, .int .i64 (w64 (480 + (w64 (8 * x8_4))))), (11, .int .i64 (w64 (x11_6 + 1)))]) ⟨rfl, rfl, rfl, rfl, rfl, rfl, rfl, trivial⟩ ?_
                            refine S.b5 ?_
                            refine S.b5 ?_
                            refine S.b5 ?_
                            refine S.b5 ?_
                            refine S.b5 ?_
                            refine S.b5 ?_
                            refine S.to ?_ (ih6 ((w64 (x11_6 + 1), qv5_6), ()) h)
                            exact ⟨rfl, rfl, rfl, rfl, rfl, rfl, rfl, trivial⟩
                        · replace h := cond_f b122 h
                          refine S.condF rfl b122 ?_
                          refine S.exit rfl ?_
                          cases h
                          refine S.b5 ?_
                          refine S.b5 ?_
                          refine S.b5 ?_
                          refine S.b5 ?_
                          refine S.b4 ?_
                          refine S.b5 ?_
                          refine S.to ?_ (hK6 ())
                          exact ⟨rfl, rfl, rfl, rfl, rfl, rfl, trivial⟩
                      rintro _
                      refine S.b1 ?_
                      refine S.rd fun hr134 => ?_
                      refine S.inBlock ?_
                      cases h
                      refine S.b5 ?_
                      refine S.b5 ?_
                      refine S.b5 ?_
                      refine S.b5 ?_
                      refine S.b4 ?_
                      refine S.b5 ?_
                      refine S.to ?_ (hk5 () trivial)
                      exact ⟨rfl, rfl, rfl, rfl, rfl, rfl, trivial⟩
                    · replace h := cond_f b120 h
                      refine S.condF rfl b120 ?_
                      refine S.seq ?_
                      refine S.region ?_
                      refine SO.v rfl (opv_eql rfl rfl) ?_
                      refine SO.v rfl (opv_assign rfl) ?_
                      refine SO.nil ?_
                      refine S.to (ρ' := [(8, .int .i64 x8_4), (0, bp bp0 0), (2, .slice none 0 0), (3, v5), (9, bp b60 0), (10, .int .i64 (w64 (480 + (w64 (8 * x8_4))))), (278, .bool (x52.Kind == 8))]) ⟨rfl, rfl, rfl, rfl, rfl, rfl, rfl, trivial⟩ ?_
                      rcases bool_or (x52.Kind == 8) with b135 | b135
                      · replace h := cond_t b135 h
                        refine S.condT rfl b135 ?_
                        refine S.seq ?_
                        refine S.region ?_
                        refine SO.v rfl (opv_move rfl) ?_
                        refine SO.v rfl (opv_move rfl) ?_
                        refine SO.v rfl (opv_add rfl rfl) ?_
                        refine SO.v rfl (opv_fieldAddr Try.underlying56 rfl Try.sizeOf3 rfl rfl) ?_
                        refine SO.load1 rfl Try.isAgg3 rfl rfl ?_
                        refine SO.v rfl (opv_add rfl rfl) ?_
                        refine SO.v rfl (opv_conv Try.underlying3 Try.underlying65 rfl) ?_
                        obtain ⟨x136, hx137, h⟩ := opt_bind h
                        refine SO.v rfl (opv_idx Try.underlying26 Try.sizeOf65 hr63 rfl rfl hx137) ?_
                        refine SO.b1 ?_
                        refine SO.storeI1 (j := 0) (z' := wu64 (w64 (x52.Bound + 1))) Try.sizeOf65 hx137 rfl rfl rfl rfl rfl rfl ?_
                        refine SO.rd fun hr138 => ?_
                        refine SO.nil ?_
                        refine S.to (ρ' := [(8, .int .i64 x8_4), (0, bp bp0 0), (2, .slice none 0 0), (3, v5), (9, bp b60 0), (10, .int .i64 (w64 (480 + (w64 (8 * x8_4)))))]) ⟨rfl, rfl, rfl, rfl, rfl, rfl, trivial⟩ ?_
                        refine S.seq ?_
                        refine S.region ?_
                        refine SO.v rfl (opv_move rfl) ?_
                        refine SO.v rfl (opv_move rfl) ?_
                        refine SO.v rfl (opv_add rfl rfl) ?_
                        refine SO.v rfl (opv_fieldAddr Try.underlying56 rfl Try.sizeOf3 rfl rfl) ?_
                        refine SO.b1 ?_
                        refine SO.load1 rfl Try.isAgg3 rfl rfl ?_
                        refine SO.v rfl (opv_conv Try.underlying3 Try.underlying65 rfl) ?_
                        obtain ⟨x139, hx140, h⟩ := opt_bind h
                        refine SO.v rfl (opv_idx Try.underlying26 Try.sizeOf65 hr138 rfl rfl hx140) ?_
                        refine SO.b1 ?_
                        refine SO.storeI1 (j := 0) (z' := wu64 x52.Badge) Try.sizeOf65 hx140 rfl rfl rfl rfl rfl rfl ?_
                        refine SO.rd fun hr141 => ?_
                        refine SO.nil ?_
                        refine S.to (ρ' := [(8, .int .i64 x8_4), (0, bp bp0 0), (2, .slice none 0 0), (3, v5), (9, bp b60 0), (10, .int .i64 (w64 (480 + (w64 (8 * x8_4)))))]) ⟨rfl, rfl, rfl, rfl, rfl, rfl, trivial⟩ ?_
                        refine S.region ?_
                        refine SO.v rfl (opv_move rfl) ?_
                        refine SO.v rfl (opv_move rfl) ?_
                        refine SO.v rfl (opv_add rfl rfl) ?_
                        refine SO.v rfl (opv_fieldAddr Try.underlying56 rfl Try.sizeOf3 rfl rfl) ?_
                        refine SO.b1 ?_
                        refine SO.load1 rfl Try.isAgg3 rfl rfl ?_
                        refine SO.v rfl (opv_conv Try.underlying3 Try.underlying65 rfl) ?_
                        obtain ⟨x142, hx143, h⟩ := opt_bind h
                        refine SO.v rfl (opv_idx Try.underlying26 Try.sizeOf65 hr141 rfl rfl hx143) ?_
                        refine SO.b1 ?_
                        refine SO.storeI1 (j := 0) (z' := wu64 x52.Mask) Try.sizeOf65 hx143 rfl rfl rfl rfl rfl rfl ?_
                        refine SO.rd fun hr144 => ?_
                        refine SO.nil ?_
                        refine S.to (ρ' := [(8, .int .i64 x8_4), (0, bp bp0 0), (2, .slice none 0 0), (3, v5), (9, bp b60 0), (10, .int .i64 (w64 (480 + (w64 (8 * x8_4)))))]) ⟨rfl, rfl, rfl, rfl, rfl, rfl, trivial⟩ ?_
                        refine S.inBlock ?_
                        cases h
                        refine S.b5 ?_
                        refine S.b5 ?_
                        refine S.b5 ?_
                        refine S.b5 ?_
                        refine S.b4 ?_
                        refine S.b5 ?_
                        refine S.to ?_ (hk5 () trivial)
                        exact ⟨rfl, rfl, rfl, rfl, rfl, rfl, trivial⟩
                      · replace h := cond_f b135 h
                        refine S.condF rfl b135 ?_
                        refine S.skip ?_
                        refine S.inBlock ?_
                        cases h
                        refine S.b5 ?_
                        refine S.b5 ?_
                        refine S.b5 ?_
                        refine S.b5 ?_
                        refine S.b5 ?_
                        refine S.b5 ?_
                        refine S.to ?_ (hk5 () trivial)
                        exact ⟨rfl, rfl, rfl, rfl, rfl, rfl, trivial⟩
      rintro _ -
      replace h := hJ5
      refine S.b1 ?_
      refine S.rd fun hr145 => ?_
      refine S.seq ?_
      refine S.region ?_
      refine SO.v rfl (opv_assign rfl) ?_
      refine SO.nil ?_
      obtain ⟨qv5_e7, hl7, h⟩ := opt_bind h
      refine S.b5 ?_
      refine S.b5 ?_
      refine S.b5 ?_
      refine S.b5 ?_
      refine S.b5 ?_
      refine S.b5 ?_
      refine S.to (ρ' := [(12, .int .i64 0), (0, bp bp0 0), (2, .slice none 0 0), (3, v5), (8, .int .i64 x8_4), (9, bp b60 0), (10, .int .i64 (w64 (480 + (w64 (8 * x8_4)))))]) ⟨rfl, rfl, rfl, rfl, rfl, rfl, rfl, trivial⟩ ?_
      refine S.forloop (X := (Int × (List Int)) × Unit) (O := (List Int)) (fun m x => ref10_State_Words.l7 x8_4 x52 m x.1) (fun x => match x with | ((x12_7, qv5_7), _) => [(12, .int .i64 x12_7), (0, bp bp0 0), (2, .slice none 0 0), (3, v5), (8, .int .i64 x8_4), (9, bp b60 0), (10, .int .i64 (w64 (480 + (w64 (8 * x8_4)))))]) (fun x => match x with | ((x12_7, qv5_7), _) => [Own 65 (ekI .u64) v5 qv5_7, Box b60 [.int .i64 x52.Kind, .int .i64 x52.Size, .int .i64 x52.Used, .int .i64 x52.First, .int .i64 x52.Radix, .int .i64 x52.Wait, u57, .int .i64 x52.Word, .int .i64 x52.State, .int .i64 x52.Owing, .int .i64 x52.Badge, .int .i64 x52.Prio, .int .i64 x52.On, .int .i64 x52.Owes, .int .i64 x52.Root.Kind, .int .i64 x52.Root.Rights, .int .i64 x52.Root.Obj, .int .i64 x52.Root.Badge, .int .i64 x52.Root.Guard, .int .i64 x52.Root.Bits, .int .i64 x52.Pages.a0, .int .i64 x52.Pages.a1, .int .i64 x52.Pages.a2, .int .i64 x52.Pages.a3, .int .i64 x52.Right.a0, .int .i64 x52.Right.a1, .int .i64 x52.Right.a2, .int .i64 x52.Right.a3, .int .i64 x52.In, .int .i64 x52.Page, .int .i64 x52.Bound, .int .i64 x52.Mask], Box bp0 [v0_Slots, v0_Objs, .int .i64 a0.NS, .int .i64 a0.NO], OwnO 56 kr_ref10_Obj v0_Objs raws_v0_Objs A_v0_Objs a0.Objs, OwnO 46 kr_ref10_Slot v0_Slots raws_v0_Slots A_v0_Slots a0.Slots, F]) (fun Sk => (fun qv5_e7 => ∀ _ : Unit, Sk [(0, bp bp0 0), (2, .slice none 0 0), (3, v5), (8, .int .i64 x8_4)] [Own 65 (ekI .u64) v5 qv5_e7, Box b60 [.int .i64 x52.Kind, .int .i64 x52.Size, .int .i64 x52.Used, .int .i64 x52.First, .int .i64 x52.Radix, .int .i64 x52.Wait, u57, .int .i64 x52.Word, .int .i64 x52.State, .int .i64 x52.Owing, .int .i64 x52.Badge, .int .i64 x52.Prio, .int .i64 x52.On, .int .i64 x52.Owes, .int .i64 x52.Root.Kind, .int .i64 x52.Root.Rights, .int .i64 x52.Root.Obj, .int .i64 x52.Root.Badge, .int .i64 x52.Root.Guard, .int .i64 x52.Root.Bits, .int .i64 x52.Pages.a0, .int .i64 x52.Pages.a1, .int .i64 x52.Pages.a2, .int .i64 x52.Pages.a3, .int .i64 x52.Right.a0, .int .i64 x52.Right.a1, .int .i64 x52.Right.a2, .int .i64 x52.Right.a3, .int .i64 x52.In, .int .i64 x52.Page, .int .i64 x52.Bound, .int .i64 x52.Mask], Box bp0 [v0_Slots, v0_Objs, .int .i64 a0.NS, .int .i64 a0.NO], OwnO 56 kr_ref10_Obj v0_Objs raws_v0_Objs A_v0_Objs a0.Objs, OwnO 46 kr_ref10_Slot v0_Slots raws_v0_Slots A_v0_Slots a0.Slots, F])) (fun _ => rfl) ?_ (m := k) (x := ((0, qv5_5), ())) hl7 ?_
      · clear h hl7
        intro k x o_7 h hK7 ih7
        obtain ⟨⟨x12_7, qv5_7⟩, _⟩ := x
        replace h : ref10_State_Words.l7 x8_4 x52 (k + 1) (x12_7, qv5_7) = some o_7 := h
        first | rw [ref10_State_Words.l7] at h | unfold ref10_State_Words.l7 at h
        refine S.rd fun hr146 => ?_
        refine S.seq ?_
        refine S.seq ?_
        refine S.region ?_
        refine SO.v rfl (opv_move rfl) ?_
        refine SO.v rfl (opv_fieldAddr Try.underlying56 rfl Try.sizeOf41 rfl rfl) ?_
        refine SO.b1 ?_
        refine SO.load1 rfl Try.isAgg41 rfl rfl ?_
        refine SO.v rfl (opv_lenR rfl Try.underlying41 hru58 rfl) ?_
        refine SO.v rfl (opv_lss rfl rfl) ?_
        refine SO.nil ?_
        rcases bool_or (decide (x12_7 < (x52.Queue.length : Int))) with b147 | b147
        · replace h := cond_t b147 h
          refine S.condT rfl b147 ?_
          refine S.skip ?_
          refine S.seq ?_
          refine S.block ?_
          refine S.seq ?_
          refine S.region ?_
          refine SO.v rfl (opv_fieldAddr Try.underlying56 rfl Try.sizeOf41 rfl rfl) ?_
          refine SO.load1 rfl Try.isAgg41 rfl rfl ?_
          refine SO.v rfl (opv_move rfl) ?_
          obtain ⟨x148, hx149, h⟩ := opt_bind h
          refine SO.v rfl (opv_idx Try.underlying41 Try.sizeOf3 hru58 rfl rfl hx149) ?_
          refine SO.loadI1 (j := 0) rfl Try.isAgg3 (Rd.tail (Rd.tail (Rd.tail (Rd.head (Rd.pool hru58))))) hx149 rfl rfl rfl rfl ?_
          refine SO.v rfl (opv_assign rfl) ?_
          refine SO.nil ?_
          refine S.to (ρ' := [(12, .int .i64 x12_7), (0, bp bp0 0), (2, .slice none 0 0), (3, v5), (8, .int .i64 x8_4), (9, bp b60 0), (10, .int .i64 (w64 (480 + (w64 (8 * x8_4))))), (13, .int .i64 x148)]) ⟨rfl, rfl, rfl, rfl, rfl, rfl, rfl, rfl, trivial⟩ ?_
          refine S.seq ?_
          refine S.seq ?_
          refine S.region ?_
          refine SO.v rfl (opv_move rfl) ?_
          refine SO.v rfl (opv_eql rfl rfl) ?_
          refine SO.nil ?_
          obtain ⟨qv5_8, hC8, hJ8⟩ := opt_bind h
          clear h
          refine S.cutP (G := Unit) (fun _ => True) (fun _ => [(0, bp bp0 0), (2, .slice none 0 0), (3, v5), (8, .int .i64 x8_4), (9, bp b60 0), (10, .int .i64 (w64 (480 + (w64 (8 * x8_4))))), (12, .int .i64 x12_7), (13, .int .i64 x148)]) (fun _ => [Box b60 [.int .i64 x52.Kind, .int .i64 x52.Size, .int .i64 x52.Used, .int .i64 x52.First, .int .i64 x52.Radix, .int .i64 x52.Wait, u57, .int .i64 x52.Word, .int .i64 x52.State, .int .i64 x52.Owing, .int .i64 x52.Badge, .int .i64 x52.Prio, .int .i64 x52.On, .int .i64 x52.Owes, .int .i64 x52.Root.Kind, .int .i64 x52.Root.Rights, .int .i64 x52.Root.Obj, .int .i64 x52.Root.Badge, .int .i64 x52.Root.Guard, .int .i64 x52.Root.Bits, .int .i64 x52.Pages.a0, .int .i64 x52.Pages.a1, .int .i64 x52.Pages.a2, .int .i64 x52.Pages.a3, .int .i64 x52.Right.a0, .int .i64 x52.Right.a1, .int .i64 x52.Right.a2, .int .i64 x52.Right.a3, .int .i64 x52.In, .int .i64 x52.Page, .int .i64 x52.Bound, .int .i64 x52.Mask], Own 65 (ekI .u64) v5 qv5_8, Box bp0 [v0_Slots, v0_Objs, .int .i64 a0.NS, .int .i64 a0.NO], OwnO 56 kr_ref10_Obj v0_Objs raws_v0_Objs A_v0_Objs a0.Objs, OwnO 46 kr_ref10_Slot v0_Slots raws_v0_Slots A_v0_Slots a0.Slots, F]) (fun hk8 => ?_) ?_
          · replace h := hC8
            rcases bool_or (x12_7 == 0) with b150 | b150
            · replace h := cond_t b150 h
              refine S.condT rfl b150 ?_
              refine S.region ?_
              refine SO.v rfl (opv_move rfl) ?_
              refine SO.v rfl (opv_move rfl) ?_
              refine SO.v rfl (opv_add rfl rfl) ?_
              refine SO.v rfl (opv_move rfl) ?_
              refine SO.v rfl (opv_add rfl rfl) ?_
              refine SO.v rfl (opv_conv Try.underlying3 Try.underlying65 rfl) ?_
              obtain ⟨x151, hx152, h⟩ := opt_bind h
              refine SO.v rfl (opv_idx Try.underlying26 Try.sizeOf65 hr146 rfl rfl hx152) ?_
              refine SO.b1 ?_
              refine SO.storeI1 (j := 0) (z' := wu64 (w64 (x148 + 1))) Try.sizeOf65 hx152 rfl rfl rfl rfl rfl rfl ?_
              refine SO.rd fun hr153 => ?_
              refine SO.nil ?_
              refine S.to (ρ' := [(12, .int .i64 x12_7), (0, bp bp0 0), (2, .slice none 0 0), (3, v5), (8, .int .i64 x8_4), (9, bp b60 0), (10, .int .i64 (w64 (480 + (w64 (8 * x8_4))))), (13, .int .i64 x148)]) ⟨rfl, rfl, rfl, rfl, rfl, rfl, rfl, rfl, trivial⟩ ?_
              cases h
              refine S.b5 ?_
              refine S.b5 ?_
              refine S.b5 ?_
              refine S.b5 ?_
              refine S.b4 ?_
              refine S.b5 ?_
              refine S.to ?_ (hk8 () trivial)
              exact ⟨rfl, rfl, rfl, rfl, rfl, rfl, rfl, rfl, trivial⟩
            · replace h := cond_f b150 h
              refine S.condF rfl b150 ?_
              refine S.skip ?_
              cases h
              refine S.b5 ?_
              refine S.b5 ?_
              refine S.b5 ?_
              refine S.b5 ?_
              refine S.b5 ?_
              refine S.b5 ?_
              refine S.to ?_ (hk8 () trivial)
              exact ⟨rfl, rfl, rfl, rfl, rfl, rfl, rfl, rfl, trivial⟩
          rintro _ -
          replace h := hJ8
          refine S.b1 ?_
          refine S.rd fun hr154 => ?_
          refine S.seq ?_
          refine S.region ?_
          refine SO.v rfl (opv_move rfl) ?_
          refine SO.v rfl (opv_add rfl rfl) ?_
          refine SO.v rfl (opv_fieldAddr Try.underlying56 rfl Try.sizeOf41 rfl rfl) ?_
          refine SO.b1 ?_
          refine SO.load1 rfl Try.isAgg41 rfl rfl ?_
          refine SO.v rfl (opv_lenR rfl Try.underlying41 hru58 rfl) ?_
          refine SO.v rfl (opv_lss rfl rfl) ?_
          refine SO.nil ?_
          rcases bool_or (decide ((w64 (x12_7 + 1)) < (x52.Queue.length : Int))) with b155 | b155
          · replace h := cond_t b155 h
            refine S.condT rfl b155 ?_
            refine S.region ?_
            refine SO.v rfl (opv_move rfl) ?_
            refine SO.v rfl (opv_move rfl) ?_
            refine SO.v rfl (opv_mul rfl rfl) ?_
            refine SO.v rfl (opv_add rfl rfl) ?_
            refine SO.v rfl (opv_add rfl rfl) ?_
            refine SO.v rfl (opv_fieldAddr Try.underlying56 rfl Try.sizeOf41 rfl rfl) ?_
            refine SO.load1 rfl Try.isAgg41 rfl rfl ?_
            refine SO.v rfl (opv_move rfl) ?_
            refine SO.v rfl (opv_add rfl rfl) ?_
            obtain ⟨x156, hx157, h⟩ := opt_bind h
            refine SO.v rfl (opv_idx Try.underlying41 Try.sizeOf3 hru58 rfl rfl hx157) ?_
            refine SO.loadI1 (j := 0) rfl Try.isAgg3 (Rd.tail (Rd.tail (Rd.tail (Rd.head (Rd.pool hru58))))) hx157 rfl rfl rfl rfl ?_
            refine SO.v rfl (opv_add rfl rfl) ?_
            refine SO.v rfl (opv_conv Try.underlying3 Try.underlying65 rfl) ?_
            obtain ⟨x158, hx159, h⟩ := opt_bind h
            refine SO.v rfl (opv_idx Try.underlying26 Try.sizeOf65 hr154 rfl rfl hx159) ?_
            refine SO.b1 ?_
            refine SO.storeI1 (j := 0) (z' := wu64 (w64 (x156 + 1))) Try.sizeOf65 hx159 rfl rfl rfl rfl rfl rfl ?_
            refine SO.rd fun hr160 => ?_
            refine SO.nil ?_
            refine S.to (ρ' := [(0, bp bp0 0), (2, .slice none 0 0), (3, v5), (8, .int .i64 x8_4), (9, bp b60 0), (10, .int .i64 (w64 (480 + (w64 (8 * x8_4))))), (12, .int .i64 x12_7)]) ⟨rfl, rfl, rfl, rfl, rfl, rfl, rfl, trivial⟩ ?_
            refine S.inBlock ?_
            refine S.region ?_
            refine SO.v rfl (opv_move rfl) ?_
            refine SO.v rfl (opv_add rfl rfl) ?_
            refine SO.v rfl (opv_assign rfl) ?_
            refine SO.nil ?_
            refine S.b5 ?_
            refine S.b5 ?_
            refine S.b5 ?_
            refine S.b5 ?_
            refine S.b5 ?_
            refine S.b5 ?_
            refine S.to ?_ (ih7 ((w64 (x12_7 + 1), qv5_8.set (w64 ((w64 (480 + (w64 (8 * x148)))) + 2)).toNat (wu64 (w64 (x156 + 1)))), ()) h)
            exact ⟨rfl, rfl, rfl, rfl, rfl, rfl, rfl, trivial⟩
          · replace h := cond_f b155 h
            refine S.condF rfl b155 ?_
            refine S.region ?_
            refine SO.v rfl (opv_move rfl) ?_
            refine SO.v rfl (opv_move rfl) ?_
            refine SO.v rfl (opv_add rfl rfl) ?_
            refine SO.v rfl (opv_move rfl) ?_
            refine SO.v rfl (opv_add rfl rfl) ?_
            refine SO.v rfl (opv_conv Try.underlying3 Try.underlying65 rfl) ?_
            obtain ⟨x161, hx162, h⟩ := opt_bind h
            refine SO.v rfl (opv_idx Try.underlying26 Try.sizeOf65 hr154 rfl rfl hx162) ?_
            refine SO.b1 ?_
            refine SO.storeI1 (j := 0) (z' := wu64 (w64 (x148 + 1))) Try.sizeOf65 hx162 rfl rfl rfl rfl rfl rfl ?_
            refine SO.rd fun hr163 => ?_
            refine SO.nil ?_
            refine S.to (ρ' := [(0, bp bp0 0), (2, .slice none 0 0), (3, v5), (8, .int .i64 x8_4), (9, bp b60 0), (10, .int .i64 (w64 (480 + (w64 (8 * x8_4))))), (12, .int .i64 x12_7)]) ⟨rfl, rfl, rfl, rfl, rfl, rfl, rfl, trivial⟩ ?_
            refine S.inBlock ?_
            refine S.region ?_
            refine SO.v rfl (opv_move rfl) ?_
            refine SO.v rfl (opv_add rfl rfl) ?_
            refine SO.v rfl (opv_assign rfl) ?_
            refine SO.nil ?_
            refine S.b5 ?_
            refine S.b5 ?_
            refine S.b5 ?_
            refine S.b5 ?_
            refine S.b5 ?_
            refine S.b5 ?_
            refine S.to ?_ (ih7 ((w64 (x12_7 + 1), qv5_8.set (w64 ((w64 (480 + (w64 (8 * x8_4)))) + 3)).toNat (wu64 (w64 (x148 + 1)))), ()) h)
            exact ⟨rfl, rfl, rfl, rfl, rfl, rfl, rfl, trivial⟩
        · replace h := cond_f b147 h
          refine S.condF rfl b147 ?_
          refine S.exit rfl ?_
          cases h
          refine S.b5 ?_
          refine S.b5 ?_
          refine S.b5 ?_
          refine S.b5 ?_
          refine S.b4 ?_
          refine S.b5 ?_
          refine S.to ?_ (hK7 ())
          exact ⟨rfl, rfl, rfl, rfl, trivial⟩
      rintro _
      refine S.rd fun hr164 => ?_
      refine S.inBlock ?_
      refine S.region ?_
      refine SO.v rfl (opv_move rfl) ?_
      refine SO.v rfl (opv_add rfl rfl) ?_
      refine SO.v rfl (opv_assign rfl) ?_
      refine SO.nil ?_
      refine S.b1 ?_
      refine S.drop ?_
      refine S.b4 ?_
      refine S.b2 ?_
      refine S.b4 ?_
      refine S.b4 ?_
      refine S.b4 ?_
      refine S.to ?_ (ih4 ((w64 (x8_4 + 1), qv5_e7), ()) h)
      exact ⟨rfl, rfl, rfl, rfl, trivial⟩
    · replace h := cond_f b51 h
      refine S.condF rfl b51 ?_
      refine S.exit rfl ?_
      cases h
      refine S.b4 ?_
      refine S.b4 ?_
      refine S.b4 ?_
      refine S.b4 ?_
      refine S.b4 ?_
      refine S.to ?_ (hK4 ())
      exact ⟨rfl, rfl, rfl, trivial⟩
  rintro _
  refine S.rd fun hr165 => ?_
  refine S.seq ?_
  refine S.region ?_
  refine SO.v rfl (opv_move rfl) ?_
  refine SO.v rfl (opv_move rfl) ?_
  refine SO.v rfl (opv_nilCheck rfl) ?_
  refine SO.v rfl (opv_fieldAddr Try.underlying50 rfl Try.sizeOf3 rfl rfl) ?_
  refine SO.b3 ?_
  refine SO.load1 rfl Try.isAgg3 rfl rfl ?_
  refine SO.v rfl (opv_conv Try.underlying3 Try.underlying65 rfl) ?_
  obtain ⟨x166, hx167, h⟩ := opt_bind h
  refine SO.v rfl (opv_idx Try.underlying26 Try.sizeOf65 hr165 rfl rfl hx167) ?_
  refine SO.b1 ?_
  refine SO.storeI1 (j := 0) (z' := wu64 a0.NS) Try.sizeOf65 hx167 rfl rfl rfl rfl rfl rfl ?_
  refine SO.rd fun hr168 => ?_
  refine SO.nil ?_
  refine S.to (ρ' := [(0, bp bp0 0), (2, .slice none 0 0), (3, v5)]) ⟨rfl, rfl, rfl, trivial⟩ ?_
  refine S.seq ?_
  refine S.region ?_
  refine SO.v rfl (opv_move rfl) ?_
  refine SO.v rfl (opv_move rfl) ?_
  refine SO.v rfl (opv_nilCheck rfl) ?_
  refine SO.v rfl (opv_fieldAddr Try.underlying50 rfl Try.sizeOf3 rfl rfl) ?_
  refine SO.b1 ?_
  refine SO.load1 rfl Try.isAgg3 rfl rfl ?_
  refine SO.v rfl (opv_conv Try.underlying3 Try.underlying65 rfl) ?_
  obtain ⟨x169, hx170, h⟩ := opt_bind h
  refine SO.v rfl (opv_idx Try.underlying26 Try.sizeOf65 hr168 rfl rfl hx170) ?_
  refine SO.b1 ?_
  refine SO.storeI1 (j := 0) (z' := wu64 a0.NO) Try.sizeOf65 hx170 rfl rfl rfl rfl rfl rfl ?_
  refine SO.rd fun hr171 => ?_
  refine SO.nil ?_
  refine S.to (ρ' := [(2, .slice none 0 0), (3, v5)]) ⟨rfl, rfl, trivial⟩ ?_
  refine S.seq ?_
  refine S.region ?_
  refine SO.v rfl (opv_move rfl) ?_
  refine SO.v rfl (opv_assign rfl) ?_
  refine SO.nil ?_
  cases h
  refine S.b4 ?_
  refine S.b3 ?_
  refine S.b4 ?_
  refine S.b4 ?_
  refine S.b4 ?_
  exact S.ret1 Try.func17 rfl rfl (fun w hs hk => hR w _ _ ⟨v5, rfl, rfl⟩ hs hk)
end Go.Proofs
