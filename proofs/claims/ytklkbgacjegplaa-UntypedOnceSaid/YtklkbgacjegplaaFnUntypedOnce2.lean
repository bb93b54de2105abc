/- What the functions that UntypedOnce reaches come to, and that they do. On no condition. -/
import Derived.Test.YtklkbgacjegplaaFnUntypedOnce0
import Derived.Test.YtklkbgacjegplaaFnUntypedOnce1
set_option linter.all false
namespace Go.Proofs
open Go.Sl Go.RowKit
/-! 53 (*padstone/padstoneref10.State).Link -/
def ref10_State_Link.f (a0 : ref10_State) (a1 : Int) (a2 : Int) : Option ((Int × ref10_State)) :=
  (ref10_slot.f a1).bind fun t1 => (ref10_slot.f a2).bind fun t3 => bif (!t1) || (!t3) then (some (2, a0)) else ((bif a1 == a2 then (some true) else ((at_ a0.Slots a1).bind fun x14 => some (decide (0 ≤ x14.Parent)))).bind fun c12 => bif c12 then (some (10, a0)) else ((at_ a0.Slots a1).bind fun x20 => (at_ (a0.Slots.set a1.toNat ({ x20 with Parent := a2 } : ref10_Slot)) a2).bind fun x34 => (app ([a1]) x34.Kids).bind fun zs43 => (at_ (a0.Slots.set a1.toNat ({ x20 with Parent := a2 } : ref10_Slot)) a2).bind fun x47 => some (0, ({ a0 with Slots := (a0.Slots.set a1.toNat ({ x20 with Parent := a2 } : ref10_Slot)).set a2.toNat ({ x47 with Kids := zs43 } : ref10_Slot) } : ref10_State))))
set_option maxHeartbeats 8000000 in
set_option maxRecDepth 100000 in
theorem ref10_State_Link.ct (bp0 : Nat) (v0_Slots : Value) (v0_Objs : Value) (a0 : ref10_State) (a1 : Int) (a2 : Int) (r0 : Int) (rp0 : ref10_State) (h : ref10_State_Link.f a0 a1 a2 = some (r0, rp0)) :
    Ct Try.prog 53 [bp bp0 0, .int .i64 a1, .int .i64 a2] (fun _ => True) [Box bp0 [v0_Slots, v0_Objs, .int .i64 a0.NS, .int .i64 a0.NO], OwnR 71 kr_ref10_Slot v0_Slots a0.Slots, OwnR 38 kr_ref10_Obj v0_Objs a0.Objs] (fun u H' => ∃ rw0_Slots rw0_Objs, u = .int .i64 r0 ∧ H' = [Box bp0 [rw0_Slots, rw0_Objs, .int .i64 rp0.NS, .int .i64 rp0.NO], OwnR 71 kr_ref10_Slot rw0_Slots rp0.Slots, OwnR 38 kr_ref10_Obj rw0_Objs rp0.Objs]) := by
  unfold ref10_State_Link.f at h
  refine Ct.intro (n := 59) Try.func53 rfl rfl rfl ?_
  intro R w0 F hF hR
  refine S.seq ?_
  refine S.region ?_
  refine SO.v rfl (opv_assign rfl) ?_
  refine SO.nil ?_
  refine S.seq ?_
  refine S.region ?_
  refine SO.v rfl (opv_move rfl) ?_
  obtain ⟨t1, ht2, h⟩ := opt_bind h
  refine SO.call (pre := []) rfl Try.call29 rfl rfl rfl (ref10_slot.ct _ _ ht2) trivial ?_
  rintro _ _ ⟨rfl, rfl⟩
  refine SO.v rfl (opv_assign rfl) ?_
  refine SO.nil ?_
  refine S.seq ?_
  refine S.region ?_
  refine SO.v rfl (opv_move rfl) ?_
  obtain ⟨t3, ht4, h⟩ := opt_bind h
  refine SO.call (pre := []) rfl Try.call29 rfl rfl rfl (ref10_slot.ct _ _ ht4) trivial ?_
  rintro _ _ ⟨rfl, rfl⟩
  refine SO.v rfl (opv_assign rfl) ?_
  refine SO.nil ?_
  refine S.seq ?_
  refine S.seq ?_
  refine S.region ?_
  refine SO.v rfl (opv_move rfl) ?_
  refine SO.v rfl (opv_not rfl) ?_
  refine SO.v rfl (opv_move rfl) ?_
  refine SO.cut 3 18 (.bool ((!t1) || (!t3))) [Box bp0 [v0_Slots, v0_Objs, .int .i64 a0.NS, .int .i64 a0.NO], OwnR 71 kr_ref10_Slot v0_Slots a0.Slots, OwnR 38 kr_ref10_Obj v0_Objs a0.Objs, F] (fun l2 hk2 => ?_) ?_
  · rcases bool_or (!t1) with b5 | b5
    · refine SO.passF rfl rfl rfl b5 rfl rfl ?_
      refine SO.passF rfl rfl rfl b5 rfl rfl ?_
      refine SO.v rfl (opv_pick_t' b5 rfl rfl) ?_
      refine SO.b3 ?_
      refine SO.b3 ?_
      refine SO.b3 ?_
      refine SO.b3 ?_
      exact hk2.fitc (m := 3) rfl (or_t b5) rfl
    · refine SO.takeT rfl rfl rfl b5 ?_
      refine SO.v rfl (opv_move rfl) ?_
      refine SO.takeT rfl rfl rfl b5 ?_
      refine SO.v rfl (opv_not rfl) ?_
      refine SO.v rfl (opv_pick_f' b5 rfl rfl) ?_
      refine SO.b3 ?_
      refine SO.b3 ?_
      refine SO.b3 ?_
      refine SO.b3 ?_
      exact hk2.fitc (m := 3) rfl (or_f b5) rfl
  refine SO.nil ?_
  refine S.to (ρ' := [(0, bp bp0 0), (1, .int .i64 a1), (2, .int .i64 a2), (6, .int .i64 0), (18, .bool ((!t1) || (!t3)))]) ⟨rfl, rfl, rfl, rfl, rfl, trivial⟩ ?_
  rcases bool_or ((!t1) || (!t3)) with b6 | b6
  · replace h := cond_t b6 h
    refine S.condT rfl b6 ?_
    refine S.seq ?_
    refine S.region ?_
    refine SO.v rfl (opv_assign rfl) ?_
    refine SO.nil ?_
    cases h
    refine S.b3 ?_
    refine S.b3 ?_
    refine S.b3 ?_
    refine S.b3 ?_
    exact S.ret1 Try.func53 rfl rfl (fun w hs hk => hR w _ _ ⟨v0_Slots, v0_Objs, rfl, rfl⟩ hs hk)
  · replace h := cond_f b6 h
    refine S.condF rfl b6 ?_
    refine S.skip ?_
    refine S.seq ?_
    refine S.seq ?_
    refine S.region ?_
    refine SO.v rfl (opv_move rfl) ?_
    refine SO.v rfl (opv_move rfl) ?_
    refine SO.v rfl (opv_eql rfl rfl) ?_
    refine SO.v rfl (opv_move rfl) ?_
    refine SO.b1 ?_
    refine SO.openR fun raws7 A8 hrel9 hR10 => ?_
    obtain ⟨c12, hc13, hgk⟩ := opt_bind h
    refine SO.cut 10 32 (.bool c12) [OwnO 71 kr_ref10_Slot v0_Slots raws7 A8 a0.Slots, Box bp0 [v0_Slots, v0_Objs, .int .i64 a0.NS, .int .i64 a0.NO], OwnR 38 kr_ref10_Obj v0_Objs a0.Objs, F] (fun l2 hk2 => ?_) ?_
    · clear hgk
      replace h := hc13
      rcases bool_or (a1 == a2) with b11 | b11
      · replace h := cond_t b11 h
        refine SO.passF rfl rfl rfl b11 rfl rfl ?_
        refine SO.passF rfl rfl rfl b11 rfl rfl ?_
        refine SO.passF rfl rfl rfl b11 rfl rfl ?_
        refine SO.passF rfl rfl rfl b11 rfl rfl ?_
        refine SO.passF rfl rfl rfl b11 rfl rfl ?_
        refine SO.passF rfl rfl rfl b11 rfl rfl ?_
        refine SO.passF rfl rfl rfl b11 rfl rfl ?_
        refine SO.passF rfl rfl rfl b11 rfl rfl ?_
        refine SO.passF rfl rfl rfl b11 rfl rfl ?_
        cases h
        refine SO.v rfl (opv_pick_t' b11 rfl rfl) ?_
        refine SO.b3 ?_
        refine SO.b3 ?_
        refine SO.b3 ?_
        refine SO.b3 ?_
        exact hk2.fitc (m := 10) rfl (rfl) rfl
      · replace h := cond_f b11 h
        refine SO.takeT rfl rfl rfl b11 ?_
        refine SO.v rfl (opv_move rfl) ?_
        refine SO.takeT rfl rfl rfl b11 ?_
        refine SO.v rfl (opv_nilCheck rfl) ?_
        refine SO.takeT rfl rfl rfl b11 ?_
        refine SO.v rfl (opv_fieldAddr Try.underlying42 rfl Try.sizeOf39 rfl rfl) ?_
        refine SO.takeT rfl rfl rfl b11 ?_
        refine SO.b1 ?_
        refine SO.load1 rfl Try.isAgg39 rfl rfl ?_
        refine SO.takeT rfl rfl rfl b11 ?_
        refine SO.v rfl (opv_move rfl) ?_
        refine SO.takeT rfl rfl rfl b11 ?_
        obtain ⟨x14, hx15, h⟩ := opt_bind h
        obtain ⟨r16, hr17, hc18⟩ := relR.at hrel9 hx15
        refine SO.v rfl (opv_idx Try.underlying39 Try.sizeOf71 hR10 rfl rfl hr17) ?_
        refine SO.takeT rfl rfl rfl b11 ?_
        refine SO.v rfl (opv_fieldIdx Try.underlying71 rfl Try.sizeOf3 hR10 hr17 rfl rfl) ?_
        refine SO.takeT rfl rfl rfl b11 ?_
        refine SO.loadI1 (j := 6) rfl Try.isAgg3 (Rd.tail (Rd.head hR10)) hr17 rfl rfl rfl (hc18.val rfl) ?_
        refine SO.takeT rfl rfl rfl b11 ?_
        refine SO.v rfl (opv_geq rfl rfl) ?_
        cases h
        refine SO.v rfl (opv_pick_f' b11 rfl rfl) ?_
        refine SO.b3 ?_
        refine SO.b3 ?_
        refine SO.b2 ?_
        refine SO.b3 ?_
        exact hk2.fitc (m := 10) rfl (rfl) rfl
    clear hc13
    replace h := hgk
    refine SO.nil ?_
    rcases bool_or c12 with b19 | b19
    · replace h := cond_t b19 h
      refine S.condT rfl b19 ?_
      refine S.seq ?_
      refine S.region ?_
      refine SO.v rfl (opv_assign rfl) ?_
      refine SO.nil ?_
      refine S.to (ρ' := [(6, .int .i64 10)]) ⟨rfl, trivial⟩ ?_
      cases h
      refine S.closeR ?_
      refine S.b3 ?_
      refine S.b3 ?_
      refine S.b2 ?_
      refine S.b3 ?_
      exact S.ret1 Try.func53 rfl rfl (fun w hs hk => hR w _ _ ⟨v0_Slots, v0_Objs, rfl, rfl⟩ hs hk)
    · replace h := cond_f b19 h
      refine S.condF rfl b19 ?_
      refine S.skip ?_
      refine S.seq ?_
      refine S.region ?_
      refine SO.v rfl (opv_move rfl) ?_
      refine SO.v rfl (opv_nilCheck rfl) ?_
      refine SO.v rfl (opv_fieldAddr Try.underlying42 rfl Try.sizeOf39 rfl rfl) ?_
      refine SO.b1 ?_
      refine SO.load1 rfl Try.isAgg39 rfl rfl ?_
      refine SO.v rfl (opv_move rfl) ?_
      refine SO.v rfl (opv_move rfl) ?_
      obtain ⟨x20, hx21, h⟩ := opt_bind h
      obtain ⟨r22, hr23, hc24⟩ := relR.at hrel9 hx21
      refine SO.v rfl (opv_idx Try.underlying39 Try.sizeOf71 hR10 rfl rfl hr23) ?_
      refine SO.v rfl (opv_fieldIdx Try.underlying71 rfl Try.sizeOf3 hR10 hr23 rfl rfl) ?_
      refine SO.b1 ?_
      refine SO.storeO1 (j := 6) (q := .val (.int .i64 a2)) (z' := ({ x20 with Parent := a2 } : ref10_Slot)) Try.sizeOf3 hrel9 hx21 rfl rfl rfl rfl rfl rfl rfl (fun raws25 hrel26 hR27 => ?_)
      refine SO.nil ?_
      refine S.to (ρ' := [(0, bp bp0 0), (1, .int .i64 a1), (2, .int .i64 a2), (6, .int .i64 0)]) ⟨rfl, rfl, rfl, rfl, trivial⟩ ?_
      refine S.seq ?_
      refine S.b2 ?_
      refine S.openR fun raws28 A29 hrel30 hR31 => ?_
      obtain ⟨x34, hx35, h⟩ := opt_bind h
      obtain ⟨r36, hr37, hc38⟩ := relR.at hrel26 hx35
      obtain ⟨u39, hu40, hru41⟩ := hc38.sl 7 rfl
      obtain ⟨zs43, hz44, h⟩ := opt_bind h
      obtain ⟨x47, hx48, h⟩ := opt_bind h
      obtain ⟨r49, hr50, hc51⟩ := relR.at hrel26 hx48
      refine S.draw' (Z := fun Q => ∀ (_ : Unit) (_ : Unit) (_ : Unit) (_ : Unit) (_ : Unit), Q [(6, .int .i64 0)] [OwnO 38 kr_ref10_Obj v0_Objs raws28 A29 a0.Objs, OwnR 71 kr_ref10_Slot v0_Slots ((a0.Slots.set a1.toNat ({ x20 with Parent := a2 } : ref10_Slot)).set a2.toNat ({ x47 with Kids := zs43 } : ref10_Slot)), Box bp0 [v0_Slots, v0_Objs, .int .i64 a0.NS, .int .i64 a0.NO], F]) (T := [tS 0 (bp bp0 0), tS 2 (.int .i64 a2), tS 1 (.int .i64 a1), tS 6 (.int .i64 0), tR (OwnO 38 kr_ref10_Obj v0_Objs raws28 A29 a0.Objs), tR (OwnO 71 kr_ref10_Slot v0_Slots raws25 A8 (a0.Slots.set a1.toNat ({ x20 with Parent := a2 } : ref10_Slot))), tR (Box bp0 [v0_Slots, v0_Objs, .int .i64 a0.NS, .int .i64 a0.NO]), tR (F), tS 41 (bp bp0 0), tS 42 (bp bp0 0), tS 43 (bp bp0 0), tS 44 (v0_Slots), tS 45 (.int .i64 a2), tS 46 (.int .i64 a1), ⟨Value, [47], (fun v32 => [(47, v32)]), (fun v32 => [Own 3 (ekI .i64) v32 ([a1])]), fun _ => rfl⟩, tS 48 (bp bp0 0), tS 49 (bp bp0 0), tS 50 (bp bp0 0), tS 51 (v0_Slots), tS 52 (.int .i64 a2), tS 53 (idxp v0_Slots (a2.toNat * kr_ref10_Slot.sz)), tS 54 (idxp v0_Slots (a2.toNat * kr_ref10_Slot.sz + 7)), tS 55 (u39), ⟨Value, [56], (fun v45 => [(56, v45)]), (fun v45 => [Own 3 (ekI .i64) v45 zs43]), fun _ => rfl⟩, tS 57 (idxp v0_Slots (a2.toNat * kr_ref10_Slot.sz)), tS 58 (idxp v0_Slots (a2.toNat * kr_ref10_Slot.sz + 7)), tR (OwnR 71 kr_ref10_Slot v0_Slots ((a0.Slots.set a1.toNat ({ x20 with Parent := a2 } : ref10_Slot)).set a2.toNat ({ x47 with Kids := zs43 } : ref10_Slot)))]) (D := [⟨[0], [], [8]⟩, ⟨[8], [], [9]⟩, ⟨[9], [], [10]⟩, ⟨[10, 6], [], [11]⟩, ⟨[1], [], [12]⟩, ⟨[2], [], [13]⟩, ⟨[13], [], [14]⟩, ⟨[0], [], [15]⟩, ⟨[15], [], [16]⟩, ⟨[16], [], [17]⟩, ⟨[17, 6], [], [18]⟩, ⟨[1], [], [19]⟩, ⟨[18, 19, 5], [], [20]⟩, ⟨[20, 5], [], [21]⟩, ⟨[21, 5], [], [22]⟩, ⟨[22, 5], [14], [23]⟩, ⟨[11, 12, 5], [], [24]⟩, ⟨[24, 5], [], [25]⟩, ⟨[25], [23, 5], [26]⟩]) (ini := [0, 1, 2, 3, 4, 5, 6, 7]) (fin := [3, 4, 26, 6, 7]) (bf := [[], [0], [0, 1], [0, 1, 2], [], [], [5], [], [7], [7, 8], [7, 8, 9], [], [7, 8, 9, 10, 11], [7, 8, 9, 10, 11, 12], [7, 8, 9, 10, 11, 12, 13], [5, 6, 7, 8, 9, 10, 11, 12, 13, 14], [0, 1, 2, 3, 4, 5, 6, 7, 8, 9, 10, 11, 12, 13, 14, 15], [0, 1, 2, 3, 4, 5, 6, 7, 8, 9, 10, 11, 12, 13, 14, 15, 16], [0, 1, 2, 3, 4, 5, 6, 7, 8, 9, 10, 11, 12, 13, 14, 15, 16, 17]]) (by kernel_rfl) (by kernel_rfl) (fun x w h1 h2 => (.cons () (.cons () (.cons () (.cons () (.cons () (.cons () (.cons () (.cons () (.nil ⟨EnvAll.of h1 ⟨rfl, rfl, rfl, rfl, trivial⟩, h2⟩)))))))))) (fun Q => by kernel_rfl) ⟨?_, ?_, ?_, ?_, ?_, ?_, ?_, ?_, ?_, ?_, ?_, ?_, ?_, ?_, ?_, ?_, ?_, ?_, ?_, trivial⟩ ?_
      · rintro Fr _
        refine SO.v rfl (opv_move rfl) ?_
        exact SO.nilZ fun a w h1 h2 h3 h4 h5 => PZ.of h1 h3 h5 (.cons () (.cons () (.nil ⟨EnvAll.of h2 ⟨rfl, rfl, trivial⟩, h4⟩)))
      · rintro Fr _
        refine SO.v rfl (opv_nilCheck rfl) ?_
        exact SO.nilZ fun a w h1 h2 h3 h4 h5 => PZ.of h1 h3 h5 (.cons () (.cons () (.nil ⟨EnvAll.of h2 ⟨rfl, rfl, trivial⟩, h4⟩)))
      · rintro Fr _
        refine SO.v rfl (opv_fieldAddr Try.underlying42 rfl Try.sizeOf39 rfl rfl) ?_
        exact SO.nilZ fun a w h1 h2 h3 h4 h5 => PZ.of h1 h3 h5 (.cons () (.cons () (.nil ⟨EnvAll.of h2 ⟨rfl, rfl, trivial⟩, h4⟩)))
      · rintro Fr _ _
        refine SO.load1 rfl Try.isAgg39 rfl rfl ?_
        exact SO.nilZ fun a w h1 h2 h3 h4 h5 => PZ.of h1 h3 h5 (.cons () (.cons () (.cons () (.nil ⟨EnvAll.of h2 ⟨rfl, rfl, trivial⟩, h4⟩))))
      · rintro Fr _
        refine SO.v rfl (opv_move rfl) ?_
        exact SO.nilZ fun a w h1 h2 h3 h4 h5 => PZ.of h1 h3 h5 (.cons () (.cons () (.nil ⟨EnvAll.of h2 ⟨rfl, rfl, trivial⟩, h4⟩)))
      · rintro Fr _
        refine SO.v rfl (opv_move rfl) ?_
        exact SO.nilZ fun a w h1 h2 h3 h4 h5 => PZ.of h1 h3 h5 (.cons () (.cons () (.nil ⟨EnvAll.of h2 ⟨rfl, rfl, trivial⟩, h4⟩)))
      · rintro Fr _
        refine SO.buildSlice (K := ekI .i64) (xs := [a1]) (cs := [.int .i64 a1]) rfl Try.underlying35 Try.sizeOf3 Try.zeroValue3 rfl rfl rfl (by kernel_rfl) rfl rfl rfl (fun v32 hr33 => ?_)
        exact SO.nilZ fun a w h1 h2 h3 h4 h5 => PZ.of h1 h3 h5 (.cons () (.cons v32 (.nil ⟨EnvAll.of h2 ⟨rfl, rfl, trivial⟩, h4⟩)))
      · rintro Fr _
        refine SO.v rfl (opv_move rfl) ?_
        exact SO.nilZ fun a w h1 h2 h3 h4 h5 => PZ.of h1 h3 h5 (.cons () (.cons () (.nil ⟨EnvAll.of h2 ⟨rfl, rfl, trivial⟩, h4⟩)))
      · rintro Fr _
        refine SO.v rfl (opv_nilCheck rfl) ?_
        exact SO.nilZ fun a w h1 h2 h3 h4 h5 => PZ.of h1 h3 h5 (.cons () (.cons () (.nil ⟨EnvAll.of h2 ⟨rfl, rfl, trivial⟩, h4⟩)))
      · rintro Fr _
        refine SO.v rfl (opv_fieldAddr Try.underlying42 rfl Try.sizeOf39 rfl rfl) ?_
        exact SO.nilZ fun a w h1 h2 h3 h4 h5 => PZ.of h1 h3 h5 (.cons () (.cons () (.nil ⟨EnvAll.of h2 ⟨rfl, rfl, trivial⟩, h4⟩)))
      · rintro Fr _ _
        refine SO.load1 rfl Try.isAgg39 rfl rfl ?_
        exact SO.nilZ fun a w h1 h2 h3 h4 h5 => PZ.of h1 h3 h5 (.cons () (.cons () (.cons () (.nil ⟨EnvAll.of h2 ⟨rfl, rfl, trivial⟩, h4⟩))))
      · rintro Fr _
        refine SO.v rfl (opv_move rfl) ?_
        exact SO.nilZ fun a w h1 h2 h3 h4 h5 => PZ.of h1 h3 h5 (.cons () (.cons () (.nil ⟨EnvAll.of h2 ⟨rfl, rfl, trivial⟩, h4⟩)))
      · rintro Fr _ _ _
        refine SO.v rfl (opv_idx Try.underlying39 Try.sizeOf71 hR27 rfl rfl hr37) ?_
        exact SO.nilZ fun a w h1 h2 h3 h4 h5 => PZ.of h1 h3 h5 (.cons () (.cons () (.cons () (.cons () (.nil ⟨EnvAll.of h2 ⟨rfl, rfl, rfl, trivial⟩, h4⟩)))))
      · rintro Fr _ _
        refine SO.v rfl (opv_fieldIdx Try.underlying71 rfl Try.sizeOf35 hR27 hr37 rfl rfl) ?_
        exact SO.nilZ fun a w h1 h2 h3 h4 h5 => PZ.of h1 h3 h5 (.cons () (.cons () (.cons () (.nil ⟨EnvAll.of h2 ⟨rfl, rfl, trivial⟩, h4⟩))))
      · rintro Fr _ _
        refine SO.loadI1 (j := 7) rfl Try.isAgg35 (Rd.head hR27) hr37 rfl rfl rfl hu40 ?_
        exact SO.nilZ fun a w h1 h2 h3 h4 h5 => PZ.of h1 h3 h5 (.cons () (.cons () (.cons () (.nil ⟨EnvAll.of h2 ⟨rfl, rfl, trivial⟩, h4⟩))))
      · rintro Fr _ _ v32
        refine SO.b1 ?_
        refine SO.rd fun hr42 => ?_
        refine SO.append rfl Try.underlying35 Try.underlying35 inf3 rfl rfl rfl (by decide) rfl rfl rfl (Rd.head (Rd.pool hru41)) hz44 (fun v45 => ?_)
        refine SO.rd fun hr46 => ?_
        refine SO.b1 ?_
        exact SO.nilZ fun a w h1 h2 h3 h4 h5 => PZ.of h1 h3 h5 (.cons () (.cons () (.cons v45 (.nil ⟨EnvAll.of h2 ⟨rfl, rfl, trivial⟩, h4⟩))))
      · rintro Fr _ _ _
        refine SO.v rfl (opv_idx Try.underlying39 Try.sizeOf71 hR27 rfl rfl hr50) ?_
        exact SO.nilZ fun a w h1 h2 h3 h4 h5 => PZ.of h1 h3 h5 (.cons () (.cons () (.cons () (.cons () (.nil ⟨EnvAll.of h2 ⟨rfl, rfl, rfl, trivial⟩, h4⟩)))))
      · rintro Fr _ _
        refine SO.v rfl (opv_fieldIdx Try.underlying71 rfl Try.sizeOf35 hR27 hr50 rfl rfl) ?_
        exact SO.nilZ fun a w h1 h2 h3 h4 h5 => PZ.of h1 h3 h5 (.cons () (.cons () (.cons () (.nil ⟨EnvAll.of h2 ⟨rfl, rfl, trivial⟩, h4⟩))))
      · rintro Fr _ v45 _
        refine SO.rd fun hr52 => ?_
        refine SO.b1 ?_
        refine SO.b1 ?_
        refine SO.freeze hrel26 fun A53 hcov54 hru55 hrel56 hR57 => ?_
        refine SO.storeO1 (j := 7) (q := .sl (ekI .i64) zs43) (z' := ({ x47 with Kids := zs43 } : ref10_Slot)) Try.sizeOf35 hrel56 hx48 rfl rfl (Rd.one hru55) rfl rfl rfl hru55 (fun raws58 hrel59 hR60 => ?_)
        refine SO.closeR ?_
        exact SO.nilZ fun a w h1 h2 h3 h4 h5 => PZ.of h1 h3 h5 (.cons () (.cons () (.nil ⟨EnvAll.of h2 ⟨rfl, trivial⟩, h4⟩)))
      rintro _ _ _ _ _
      refine S.to (ρ' := [(6, .int .i64 0)]) ⟨rfl, trivial⟩ ?_
      refine S.seq ?_
      refine S.region ?_
      refine SO.v rfl (opv_assign rfl) ?_
      refine SO.nil ?_
      cases h
      refine S.closeR ?_
      refine S.b3 ?_
      refine S.b1 ?_
      refine S.b2 ?_
      refine S.b3 ?_
      exact S.ret1 Try.func53 rfl rfl (fun w hs hk => hR w _ _ ⟨v0_Slots, v0_Objs, rfl, rfl⟩ hs hk)
end Go.Proofs
namespace Go.Proofs
open Go.Sl Go.RowKit
/-! 36 (*padstone/padstoneref10.State).is -/
def ref10_State_is.f (a0 : ref10_State) (a1 : Int) (a2 : Int) : Option (Bool) :=
  bif (decide (a1 < 0)) || (decide (31 < a1)) then (some false) else ((at_ a0.Objs a1).bind fun x7 => some (x7.Kind == a2))
set_option maxHeartbeats 8000000 in
set_option maxRecDepth 100000 in
theorem ref10_State_is.ct (bp0 : Nat) (v0_Slots : Value) (v0_Objs : Value) (raws_v0_Slots : List (Raw (kr_ref10_Slot).sz)) (A_v0_Slots : HProp) (raws_v0_Objs : List (Raw (kr_ref10_Obj).sz)) (A_v0_Objs : HProp) (a0 : ref10_State) (a1 : Int) (a2 : Int) (r0 : Bool) (h : ref10_State_is.f a0 a1 a2 = some r0) :
    Ct Try.prog 36 [bp bp0 0, .int .i64 a1, .int .i64 a2] (fun _ => True) [Box bp0 [v0_Slots, v0_Objs, .int .i64 a0.NS, .int .i64 a0.NO], OwnO 71 kr_ref10_Slot v0_Slots raws_v0_Slots A_v0_Slots a0.Slots, OwnO 38 kr_ref10_Obj v0_Objs raws_v0_Objs A_v0_Objs a0.Objs] (fun u H' => u = .bool r0 ∧ H' = [Box bp0 [v0_Slots, v0_Objs, .int .i64 a0.NS, .int .i64 a0.NO], OwnO 71 kr_ref10_Slot v0_Slots raws_v0_Slots A_v0_Slots a0.Slots, OwnO 38 kr_ref10_Obj v0_Objs raws_v0_Objs A_v0_Objs a0.Objs]) := by
  unfold ref10_State_is.f at h
  refine Ct.intro (n := 23) Try.func36 rfl rfl rfl ?_
  intro R w0 F hF hR
  refine S.b1 ?_
  refine S.rdO fun hrel1 hR2 => ?_
  refine S.b2 ?_
  refine S.rdO fun hrel3 hR4 => ?_
  refine S.seq ?_
  refine S.region ?_
  refine SO.v rfl (opv_assign rfl) ?_
  refine SO.nil ?_
  refine S.seq ?_
  refine S.seq ?_
  refine S.region ?_
  refine SO.v rfl (opv_move rfl) ?_
  refine SO.v rfl (opv_lss rfl rfl) ?_
  refine SO.v rfl (opv_move rfl) ?_
  refine SO.cut 3 12 (.bool ((decide (a1 < 0)) || (decide (31 < a1)))) [OwnO 38 kr_ref10_Obj v0_Objs raws_v0_Objs A_v0_Objs a0.Objs, OwnO 71 kr_ref10_Slot v0_Slots raws_v0_Slots A_v0_Slots a0.Slots, Box bp0 [v0_Slots, v0_Objs, .int .i64 a0.NS, .int .i64 a0.NO], F] (fun l2 hk2 => ?_) ?_
  · rcases bool_or (decide (a1 < 0)) with b5 | b5
    · refine SO.passF rfl rfl rfl b5 rfl rfl ?_
      refine SO.passF rfl rfl rfl b5 rfl rfl ?_
      refine SO.v rfl (opv_pick_t' b5 rfl rfl) ?_
      refine SO.b3 ?_
      refine SO.b3 ?_
      refine SO.b3 ?_
      refine SO.b3 ?_
      exact hk2.fitc (m := 3) rfl (or_t b5) rfl
    · refine SO.takeT rfl rfl rfl b5 ?_
      refine SO.v rfl (opv_move rfl) ?_
      refine SO.takeT rfl rfl rfl b5 ?_
      refine SO.v rfl (opv_gtr rfl rfl) ?_
      refine SO.v rfl (opv_pick_f' b5 rfl rfl) ?_
      refine SO.b3 ?_
      refine SO.b3 ?_
      refine SO.b3 ?_
      refine SO.b3 ?_
      exact hk2.fitc (m := 3) rfl (or_f b5) rfl
  refine SO.nil ?_
  rcases bool_or ((decide (a1 < 0)) || (decide (31 < a1))) with b6 | b6
  · replace h := cond_t b6 h
    refine S.condT rfl b6 ?_
    refine S.seq ?_
    refine S.region ?_
    refine SO.v rfl (opv_assign rfl) ?_
    refine SO.nil ?_
    refine S.to (ρ' := [(6, .bool false)]) ⟨rfl, trivial⟩ ?_
    cases h
    refine S.b3 ?_
    refine S.b1 ?_
    refine S.b2 ?_
    refine S.b3 ?_
    exact S.ret1 Try.func36 rfl rfl (fun w hs hk => hR w _ _ ⟨rfl, rfl⟩ hs hk)
  · replace h := cond_f b6 h
    refine S.condF rfl b6 ?_
    refine S.skip ?_
    refine S.seq ?_
    refine S.region ?_
    refine SO.v rfl (opv_move rfl) ?_
    refine SO.v rfl (opv_nilCheck rfl) ?_
    refine SO.v rfl (opv_fieldAddr Try.underlying42 rfl Try.sizeOf40 rfl rfl) ?_
    refine SO.b2 ?_
    refine SO.load1 rfl Try.isAgg40 rfl rfl ?_
    refine SO.v rfl (opv_move rfl) ?_
    obtain ⟨x7, hx8, h⟩ := opt_bind h
    obtain ⟨r9, hr10, hc11⟩ := relR.at hrel3 hx8
    refine SO.v rfl (opv_idx Try.underlying40 Try.sizeOf38 hR4 rfl rfl hr10) ?_
    refine SO.v rfl (opv_fieldIdx Try.underlying38 rfl Try.sizeOf3 hR4 hr10 rfl rfl) ?_
    refine SO.loadI1 (j := 0) rfl Try.isAgg3 (Rd.tail (Rd.head hR4)) hr10 rfl rfl rfl (hc11.val rfl) ?_
    refine SO.v rfl (opv_move rfl) ?_
    refine SO.v rfl (opv_eql rfl rfl) ?_
    refine SO.v rfl (opv_assign rfl) ?_
    refine SO.nil ?_
    refine S.to (ρ' := [(6, .bool (x7.Kind == a2))]) ⟨rfl, trivial⟩ ?_
    cases h
    refine S.b3 ?_
    refine S.b2 ?_
    refine S.b3 ?_
    refine S.b3 ?_
    exact S.ret1 Try.func36 rfl rfl (fun w hs hk => hR w _ _ ⟨rfl, rfl⟩ hs hk)
end Go.Proofs
namespace Go.Proofs
open Go.Sl Go.RowKit
/-! 14 padstone/padstoneref10.Cost -/
def ref10_Cost.l1 (a1 : Int) : Nat → (Int × Int) → Option (Int)
  | 0, _ => none
  | k + 1, (x6_1, x5_1) => bif decide (x6_1 < a1) then (ref10_Cost.l1 a1 k (w64 (x6_1 + 1), w64 (2 * x5_1))) else (some x5_1)
def ref10_Cost.f (k : Nat) (a0 : Int) (a1 : Int) : Option (Int) :=
  bif (decide (a1 < 0)) || (decide (8 < a1)) then (some (-1)) else ((ref10_Cost.l1 a1 k (0, 1)).bind fun j5_e1 => bif a0 == 1 then (some (w64 (j5_e1 + 1))) else (bif (a0 == 2) && (decide (a1 ≤ 5)) then (some j5_e1) else (bif ((decide (3 ≤ a0)) && (decide (a0 ≤ 7))) && (a1 == 0) then (some 4) else (some (-1)))))
set_option maxHeartbeats 8000000 in
set_option maxRecDepth 100000 in
theorem ref10_Cost.ct (k : Nat) (a0 : Int) (a1 : Int) (r0 : Int) (h : ref10_Cost.f k a0 a1 = some r0) :
    Ct Try.prog 14 [.int .i64 a0, .int .i64 a1] (fun _ => True) [] (fun u H' => u = .int .i64 r0 ∧ H' = []) := by
  unfold ref10_Cost.f at h
  refine Ct.intro (n := 41) Try.func14 rfl rfl rfl ?_
  intro R w0 F hF hR
  refine S.seq ?_
  refine S.region ?_
  refine SO.v rfl (opv_assign rfl) ?_
  refine SO.nil ?_
  refine S.seq ?_
  refine S.seq ?_
  refine S.region ?_
  refine SO.v rfl (opv_move rfl) ?_
  refine SO.v rfl (opv_lss rfl rfl) ?_
  refine SO.v rfl (opv_move rfl) ?_
  refine SO.cut 3 12 (.bool ((decide (a1 < 0)) || (decide (8 < a1)))) [F] (fun l2 hk2 => ?_) ?_
  · rcases bool_or (decide (a1 < 0)) with b1 | b1
    · refine SO.passF rfl rfl rfl b1 rfl rfl ?_
      refine SO.passF rfl rfl rfl b1 rfl rfl ?_
      refine SO.v rfl (opv_pick_t' b1 rfl rfl) ?_
      exact hk2.fitc (m := 3) rfl (or_t b1) rfl
    · refine SO.takeT rfl rfl rfl b1 ?_
      refine SO.v rfl (opv_move rfl) ?_
      refine SO.takeT rfl rfl rfl b1 ?_
      refine SO.v rfl (opv_gtr rfl rfl) ?_
      refine SO.v rfl (opv_pick_f' b1 rfl rfl) ?_
      exact hk2.fitc (m := 3) rfl (or_f b1) rfl
  refine SO.nil ?_
  rcases bool_or ((decide (a1 < 0)) || (decide (8 < a1))) with b2 | b2
  · replace h := cond_t b2 h
    refine S.condT rfl b2 ?_
    refine S.seq ?_
    refine S.region ?_
    refine SO.v rfl (opv_assign rfl) ?_
    refine SO.nil ?_
    cases h
    exact S.ret1 Try.func14 rfl rfl (fun w hs hk => hR w _ _ ⟨rfl, rfl⟩ hs hk)
  · replace h := cond_f b2 h
    refine S.condF rfl b2 ?_
    refine S.skip ?_
    refine S.seq ?_
    refine S.region ?_
    refine SO.v rfl (opv_assign rfl) ?_
    refine SO.nil ?_
    refine S.seq ?_
    refine S.seq ?_
    refine S.region ?_
    refine SO.v rfl (opv_assign rfl) ?_
    refine SO.nil ?_
    obtain ⟨j5_e1, hl1, h⟩ := opt_bind h
    refine S.to (ρ' := [(6, .int .i64 0), (5, .int .i64 1), (4, .int .i64 0), (0, .int .i64 a0), (1, .int .i64 a1)]) ⟨rfl, rfl, rfl, rfl, rfl, trivial⟩ ?_
    refine S.forloop (X := (Int × Int) × Unit) (O := Int) (fun m x => ref10_Cost.l1 a1 m x.1) (fun x => match x with | ((x6_1, x5_1), _) => [(6, .int .i64 x6_1), (5, .int .i64 x5_1), (4, .int .i64 0), (0, .int .i64 a0), (1, .int .i64 a1)]) (fun x => match x with | ((x6_1, x5_1), _) => [F]) (fun Sk => (fun j5_e1 => ∀ _ : Unit, Sk [(0, .int .i64 a0), (1, .int .i64 a1), (4, .int .i64 0), (5, .int .i64 j5_e1)] [F])) (fun _ => rfl) ?_ (m := k) (x := ((0, 1), ())) hl1 ?_
    · clear h hl1
      intro k x o_1 h hK1 ih1
      obtain ⟨⟨x6_1, x5_1⟩, _⟩ := x
      replace h : ref10_Cost.l1 a1 (k + 1) (x6_1, x5_1) = some o_1 := h
      first | rw [ref10_Cost.l1] at h | unfold ref10_Cost.l1 at h
      refine S.seq ?_
      refine S.seq ?_
      refine S.region ?_
      refine SO.v rfl (opv_move rfl) ?_
      refine SO.v rfl (opv_move rfl) ?_
      refine SO.v rfl (opv_lss rfl rfl) ?_
      refine SO.nil ?_
      rcases bool_or (decide (x6_1 < a1)) with b3 | b3
      · replace h := cond_t b3 h
        refine S.condT rfl b3 ?_
        refine S.skip ?_
        refine S.seq ?_
        refine S.block ?_
        refine S.region ?_
        refine SO.v rfl (opv_move rfl) ?_
        refine SO.v rfl (opv_mul rfl rfl) ?_
        refine SO.v rfl (opv_assign rfl) ?_
        refine SO.nil ?_
        refine S.inBlock ?_
        refine S.region ?_
        refine SO.v rfl (opv_move rfl) ?_
        refine SO.v rfl (opv_add rfl rfl) ?_
        refine SO.v rfl (opv_assign rfl) ?_
        refine SO.nil ?_
        refine S.to (ρ' := [(6, .int .i64 (w64 (x6_1 + 1))), (5, .int .i64 (w64 (2 * x5_1))), (4, .int .i64 0), (0, .int .i64 a0), (1, .int .i64 a1)]) ⟨rfl, rfl, rfl, rfl, rfl, trivial⟩ ?_
        refine S.to ?_ (ih1 ((w64 (x6_1 + 1), w64 (2 * x5_1)), ()) h)
        exact ⟨rfl, rfl, rfl, rfl, rfl, trivial⟩
      · replace h := cond_f b3 h
        refine S.condF rfl b3 ?_
        refine S.exit rfl ?_
        cases h
        refine S.to ?_ (hK1 ())
        exact ⟨rfl, rfl, rfl, rfl, trivial⟩
    rintro _
    refine S.seq ?_
    refine S.seq ?_
    refine S.region ?_
    refine SO.v rfl (opv_move rfl) ?_
    refine SO.v rfl (opv_eql rfl rfl) ?_
    refine SO.nil ?_
    rcases bool_or (a0 == 1) with b4 | b4
    · replace h := cond_t b4 h
      refine S.condT rfl b4 ?_
      refine S.seq ?_
      refine S.region ?_
      refine SO.v rfl (opv_move rfl) ?_
      refine SO.v rfl (opv_add rfl rfl) ?_
      refine SO.v rfl (opv_assign rfl) ?_
      refine SO.nil ?_
      refine S.to (ρ' := [(4, .int .i64 (w64 (j5_e1 + 1)))]) ⟨rfl, trivial⟩ ?_
      cases h
      exact S.ret1 Try.func14 rfl rfl (fun w hs hk => hR w _ _ ⟨rfl, rfl⟩ hs hk)
    · replace h := cond_f b4 h
      refine S.condF rfl b4 ?_
      refine S.skip ?_
      refine S.seq ?_
      refine S.seq ?_
      refine S.region ?_
      refine SO.v rfl (opv_move rfl) ?_
      refine SO.v rfl (opv_eql rfl rfl) ?_
      refine SO.v rfl (opv_move rfl) ?_
      refine SO.cut 3 29 (.bool ((a0 == 2) && (decide (a1 ≤ 5)))) [F] (fun l2 hk2 => ?_) ?_
      · rcases bool_or (a0 == 2) with b5 | b5
        · refine SO.takeT rfl rfl rfl b5 ?_
          refine SO.v rfl (opv_move rfl) ?_
          refine SO.takeT rfl rfl rfl b5 ?_
          refine SO.v rfl (opv_leq rfl rfl) ?_
          refine SO.v rfl (opv_pick_t' b5 rfl rfl) ?_
          exact hk2.fitc (m := 3) rfl (and_t b5) rfl
        · refine SO.passF rfl rfl rfl b5 rfl rfl ?_
          refine SO.passF rfl rfl rfl b5 rfl rfl ?_
          refine SO.v rfl (opv_pick_f' b5 rfl rfl) ?_
          exact hk2.fitc (m := 3) rfl (and_f b5) rfl
      refine SO.nil ?_
      rcases bool_or ((a0 == 2) && (decide (a1 ≤ 5))) with b6 | b6
      · replace h := cond_t b6 h
        refine S.condT rfl b6 ?_
        refine S.seq ?_
        refine S.region ?_
        refine SO.v rfl (opv_move rfl) ?_
        refine SO.v rfl (opv_assign rfl) ?_
        refine SO.nil ?_
        refine S.to (ρ' := [(4, .int .i64 j5_e1)]) ⟨rfl, trivial⟩ ?_
        cases h
        exact S.ret1 Try.func14 rfl rfl (fun w hs hk => hR w _ _ ⟨rfl, rfl⟩ hs hk)
      · replace h := cond_f b6 h
        refine S.condF rfl b6 ?_
        refine S.skip ?_
        refine S.seq ?_
        refine S.seq ?_
        refine S.region ?_
        refine SO.v rfl (opv_move rfl) ?_
        refine SO.v rfl (opv_geq rfl rfl) ?_
        refine SO.v rfl (opv_move rfl) ?_
        refine SO.cut 3 36 (.bool ((decide (3 ≤ a0)) && (decide (a0 ≤ 7)))) [F] (fun l2 hk2 => ?_) ?_
        · rcases bool_or (decide (3 ≤ a0)) with b7 | b7
          · refine SO.takeT rfl rfl rfl b7 ?_
            refine SO.v rfl (opv_move rfl) ?_
            refine SO.takeT rfl rfl rfl b7 ?_
            refine SO.v rfl (opv_leq rfl rfl) ?_
            refine SO.v rfl (opv_pick_t' b7 rfl rfl) ?_
            exact hk2.fitc (m := 3) rfl (and_t b7) rfl
          · refine SO.passF rfl rfl rfl b7 rfl rfl ?_
            refine SO.passF rfl rfl rfl b7 rfl rfl ?_
            refine SO.v rfl (opv_pick_f' b7 rfl rfl) ?_
            exact hk2.fitc (m := 3) rfl (and_f b7) rfl
        refine SO.v rfl (opv_move rfl) ?_
        refine SO.cut 3 40 (.bool (((decide (3 ≤ a0)) && (decide (a0 ≤ 7))) && (a1 == 0))) [F] (fun l2 hk2 => ?_) ?_
        · rcases bool_or ((decide (3 ≤ a0)) && (decide (a0 ≤ 7))) with b8 | b8
          · refine SO.takeT rfl rfl rfl b8 ?_
            refine SO.v rfl (opv_move rfl) ?_
            refine SO.takeT rfl rfl rfl b8 ?_
            refine SO.v rfl (opv_eql rfl rfl) ?_
            refine SO.v rfl (opv_pick_t' b8 rfl rfl) ?_
            exact hk2.fitc (m := 3) rfl (and_t b8) rfl
          · refine SO.passF rfl rfl rfl b8 rfl rfl ?_
            refine SO.passF rfl rfl rfl b8 rfl rfl ?_
            refine SO.v rfl (opv_pick_f' b8 rfl rfl) ?_
            exact hk2.fitc (m := 3) rfl (and_f b8) rfl
        refine SO.nil ?_
        refine S.to (ρ' := [(4, .int .i64 0), (40, .bool (((decide (3 ≤ a0)) && (decide (a0 ≤ 7))) && (a1 == 0)))]) ⟨rfl, rfl, trivial⟩ ?_
        rcases bool_or (((decide (3 ≤ a0)) && (decide (a0 ≤ 7))) && (a1 == 0)) with b9 | b9
        · replace h := cond_t b9 h
          refine S.condT rfl b9 ?_
          refine S.seq ?_
          refine S.region ?_
          refine SO.v rfl (opv_assign rfl) ?_
          refine SO.nil ?_
          cases h
          exact S.ret1 Try.func14 rfl rfl (fun w hs hk => hR w _ _ ⟨rfl, rfl⟩ hs hk)
        · replace h := cond_f b9 h
          refine S.condF rfl b9 ?_
          refine S.skip ?_
          refine S.seq ?_
          refine S.region ?_
          refine SO.v rfl (opv_assign rfl) ?_
          refine SO.nil ?_
          cases h
          exact S.ret1 Try.func14 rfl rfl (fun w hs hk => hR w _ _ ⟨rfl, rfl⟩ hs hk)
end Go.Proofs
namespace Go.Proofs
open Go.Sl Go.RowKit
/-! 52 padstone/padstoneref01.both -/
def ref01_both.l1 (a0 : Int) (a1 : Int) : Nat → (Int × Int) → Option (Int)
  | 0, _ => none
  | k + 1, (x6_1, x5_1) => bif decide (x6_1 < 8) then ((chk (decide (x6_1 ≠ 0))).bind fun _ => (bif ((w64 (a0.tdiv x6_1)).tmod 2) == 1 then ((chk (decide (x6_1 ≠ 0))).bind fun _ => some (((w64 (a1.tdiv x6_1)).tmod 2) == 1)) else (some false)).bind fun c4 => bif c4 then (ref01_both.l1 a0 a1 k (w64 (2 * x6_1), w64 (x5_1 + x6_1))) else (ref01_both.l1 a0 a1 k (w64 (2 * x6_1), x5_1))) else (some x5_1)
def ref01_both.f (k : Nat) (a0 : Int) (a1 : Int) : Option (Int) :=
  (ref01_both.l1 a0 a1 k (1, 0)).bind fun j5_e1 => some j5_e1
set_option maxHeartbeats 8000000 in
set_option maxRecDepth 100000 in
theorem ref01_both.ct (k : Nat) (a0 : Int) (a1 : Int) (r0 : Int) (h : ref01_both.f k a0 a1 = some r0) :
    Ct Try.prog 52 [.int .i64 a0, .int .i64 a1] (fun _ => True) [] (fun u H' => u = .int .i64 r0 ∧ H' = []) := by
  unfold ref01_both.f at h
  refine Ct.intro (n := 27) Try.func52 rfl rfl rfl ?_
  intro R w0 F hF hR
  refine S.seq ?_
  refine S.region ?_
  refine SO.v rfl (opv_assign rfl) ?_
  refine SO.nil ?_
  refine S.seq ?_
  refine S.region ?_
  refine SO.v rfl (opv_assign rfl) ?_
  refine SO.nil ?_
  refine S.seq ?_
  refine S.seq ?_
  refine S.region ?_
  refine SO.v rfl (opv_assign rfl) ?_
  refine SO.nil ?_
  obtain ⟨j5_e1, hl1, h⟩ := opt_bind h
  refine S.to (ρ' := [(6, .int .i64 1), (5, .int .i64 0), (4, .int .i64 0), (0, .int .i64 a0), (1, .int .i64 a1)]) ⟨rfl, rfl, rfl, rfl, rfl, trivial⟩ ?_
  refine S.forloop (X := (Int × Int) × Unit) (O := Int) (fun m x => ref01_both.l1 a0 a1 m x.1) (fun x => match x with | ((x6_1, x5_1), _) => [(6, .int .i64 x6_1), (5, .int .i64 x5_1), (4, .int .i64 0), (0, .int .i64 a0), (1, .int .i64 a1)]) (fun x => match x with | ((x6_1, x5_1), _) => [F]) (fun Sk => (fun j5_e1 => ∀ _ : Unit, Sk [(4, .int .i64 0), (5, .int .i64 j5_e1)] [F])) (fun _ => rfl) ?_ (m := k) (x := ((1, 0), ())) hl1 ?_
  · clear h hl1
    intro k x o_1 h hK1 ih1
    obtain ⟨⟨x6_1, x5_1⟩, _⟩ := x
    replace h : ref01_both.l1 a0 a1 (k + 1) (x6_1, x5_1) = some o_1 := h
    first | rw [ref01_both.l1] at h | unfold ref01_both.l1 at h
    refine S.seq ?_
    refine S.seq ?_
    refine S.region ?_
    refine SO.v rfl (opv_move rfl) ?_
    refine SO.v rfl (opv_lss rfl rfl) ?_
    refine SO.nil ?_
    rcases bool_or (decide (x6_1 < 8)) with b1 | b1
    · replace h := cond_t b1 h
      refine S.condT rfl b1 ?_
      refine S.skip ?_
      refine S.seq ?_
      refine S.block ?_
      refine S.seq ?_
      refine S.region ?_
      refine SO.v rfl (opv_move rfl) ?_
      refine SO.v rfl (opv_move rfl) ?_
      obtain ⟨_, hc2, h⟩ := opt_bind h
      refine SO.v rfl (opv_quo rfl rfl (of_decide_eq_true (chk_some hc2))) ?_
      refine SO.v rfl (opv_rem rfl rfl (by decide)) ?_
      refine SO.v rfl (opv_eql rfl rfl) ?_
      refine SO.v rfl (opv_move rfl) ?_
      obtain ⟨c4, hc5, hgk⟩ := opt_bind h
      refine SO.cut 6 22 (.bool c4) [F] (fun l2 hk2 => ?_) ?_
      · clear hgk
        replace h := hc5
        rcases bool_or (((w64 (a0.tdiv x6_1)).tmod 2) == 1) with b3 | b3
        · replace h := cond_t b3 h
          refine SO.takeT rfl rfl rfl b3 ?_
          refine SO.v rfl (opv_move rfl) ?_
          refine SO.takeT rfl rfl rfl b3 ?_
          refine SO.v rfl (opv_move rfl) ?_
          refine SO.takeT rfl rfl rfl b3 ?_
          obtain ⟨_, hc6, h⟩ := opt_bind h
          refine SO.v rfl (opv_quo rfl rfl (of_decide_eq_true (chk_some hc6))) ?_
          refine SO.takeT rfl rfl rfl b3 ?_
          refine SO.v rfl (opv_rem rfl rfl (by decide)) ?_
          refine SO.takeT rfl rfl rfl b3 ?_
          refine SO.v rfl (opv_eql rfl rfl) ?_
          cases h
          refine SO.v rfl (opv_pick_t' b3 rfl rfl) ?_
          exact hk2.fitc (m := 6) rfl (rfl) rfl
        · replace h := cond_f b3 h
          refine SO.passF rfl rfl rfl b3 rfl rfl ?_
          refine SO.passF rfl rfl rfl b3 rfl rfl ?_
          refine SO.passF rfl rfl rfl b3 rfl rfl ?_
          refine SO.passF rfl rfl rfl b3 rfl rfl ?_
          refine SO.passF rfl rfl rfl b3 rfl rfl ?_
          cases h
          refine SO.v rfl (opv_pick_f' b3 rfl rfl) ?_
          exact hk2.fitc (m := 6) rfl (rfl) rfl
      clear hc5
      replace h := hgk
      refine SO.nil ?_
      refine S.to (ρ' := [(6, .int .i64 x6_1), (5, .int .i64 x5_1), (4, .int .i64 0), (0, .int .i64 a0), (1, .int .i64 a1), (22, .bool c4)]) ⟨rfl, rfl, rfl, rfl, rfl, rfl, trivial⟩ ?_
      rcases bool_or c4 with b7 | b7
      · replace h := cond_t b7 h
        refine S.condT rfl b7 ?_
        refine S.region ?_
        refine SO.v rfl (opv_move rfl) ?_
        refine SO.v rfl (opv_move rfl) ?_
        refine SO.v rfl (opv_add rfl rfl) ?_
        refine SO.v rfl (opv_assign rfl) ?_
        refine SO.nil ?_
        refine S.inBlock ?_
        refine S.region ?_
        refine SO.v rfl (opv_move rfl) ?_
        refine SO.v rfl (opv_mul rfl rfl) ?_
        refine SO.v rfl (opv_assign rfl) ?_
        refine SO.nil ?_
        refine S.to ?_ (ih1 ((w64 (2 * x6_1), w64 (x5_1 + x6_1)), ()) h)
        exact ⟨rfl, rfl, rfl, rfl, rfl, trivial⟩
      · replace h := cond_f b7 h
        refine S.condF rfl b7 ?_
        refine S.skip ?_
        refine S.inBlock ?_
        refine S.region ?_
        refine SO.v rfl (opv_move rfl) ?_
        refine SO.v rfl (opv_mul rfl rfl) ?_
        refine SO.v rfl (opv_assign rfl) ?_
        refine SO.nil ?_
        refine S.to ?_ (ih1 ((w64 (2 * x6_1), x5_1), ()) h)
        exact ⟨rfl, rfl, rfl, rfl, rfl, trivial⟩
    · replace h := cond_f b1 h
      refine S.condF rfl b1 ?_
      refine S.exit rfl ?_
      cases h
      refine S.to ?_ (hK1 ())
      exact ⟨rfl, rfl, trivial⟩
  rintro _
  refine S.seq ?_
  refine S.region ?_
  refine SO.v rfl (opv_move rfl) ?_
  refine SO.v rfl (opv_assign rfl) ?_
  refine SO.nil ?_
  cases h
  exact S.ret1 Try.func52 rfl rfl (fun w hs hk => hR w _ _ ⟨rfl, rfl⟩ hs hk)
end Go.Proofs
namespace Go.Proofs
open Go.Sl Go.RowKit
/-! 37 padstone/padstoneref01.Has -/
def ref01_Has.f (k : Nat) (a0 : api_Cap) (a1 : Int) : Option (Bool) :=
  (ref01_both.f k a0.Rights a1).bind fun t2 => some (t2 == a1)
set_option maxHeartbeats 8000000 in
set_option maxRecDepth 100000 in
theorem ref01_Has.ct (k : Nat) (a0 : api_Cap) (a1 : Int) (r0 : Bool) (h : ref01_Has.f k a0 a1 = some r0) :
    Ct Try.prog 37 [.agg #[.int .i64 a0.Kind, .int .i64 a0.Rights, .int .i64 a0.Obj, .int .i64 a0.Badge, .int .i64 a0.Guard, .int .i64 a0.Bits], .int .i64 a1] (fun _ => True) [] (fun u H' => u = .bool r0 ∧ H' = []) := by
  unfold ref01_Has.f at h
  refine Ct.intro (n := 11) Try.func37 rfl rfl rfl ?_
  intro R w0 F hF hR
  refine S.seq ?_
  refine S.region ?_
  refine SO.box rfl rfl rfl (fun b1 => ?_)
  refine SO.v rfl (opv_assign rfl) ?_
  refine SO.nil ?_
  refine S.seq ?_
  refine S.region ?_
  refine SO.v rfl (opv_fieldAddr Try.underlying24 rfl Try.sizeOf3 rfl rfl) ?_
  refine SO.load1 rfl Try.isAgg3 rfl rfl ?_
  refine SO.v rfl (opv_move rfl) ?_
  obtain ⟨t2, ht3, h⟩ := opt_bind h
  refine SO.call (pre := []) rfl Try.call52 rfl rfl rfl (ref01_both.ct _ _ _ _ ht3) trivial ?_
  rintro _ _ ⟨rfl, rfl⟩
  refine SO.v rfl (opv_move rfl) ?_
  refine SO.v rfl (opv_eql rfl rfl) ?_
  refine SO.v rfl (opv_assign rfl) ?_
  refine SO.nil ?_
  refine S.to (ρ' := [(4, .bool (t2 == a1))]) ⟨rfl, trivial⟩ ?_
  cases h
  refine S.drop ?_
  exact S.ret1 Try.func37 rfl rfl (fun w hs hk => hR w _ _ ⟨rfl, rfl⟩ hs hk)
end Go.Proofs
namespace Go.Proofs
open Go.Sl Go.RowKit
/-! 38 (*padstone/padstoneref10.State).below -/
def ref10_State_below.f (a0 : ref10_State) (a1 : Int) (a2 : Int) (a3 : api_Cap) : Option ((Int × ref10_State)) :=
  (ref10_State_Link.f a0 a2 a1).bind fun (t2, p3) => bif t2 == 0 then ((at_ p3.Slots a2).bind fun x11 => some (t2, ({ p3 with Slots := p3.Slots.set a2.toNat ({ x11 with Cap := a3 } : ref10_Slot) } : ref10_State))) else (some (t2, p3))
set_option maxHeartbeats 8000000 in
set_option maxRecDepth 100000 in
theorem ref10_State_below.ct (bp0 : Nat) (v0_Slots : Value) (v0_Objs : Value) (a0 : ref10_State) (a1 : Int) (a2 : Int) (a3 : api_Cap) (r0 : Int) (rp0 : ref10_State) (h : ref10_State_below.f a0 a1 a2 a3 = some (r0, rp0)) :
    Ct Try.prog 38 [bp bp0 0, .int .i64 a1, .int .i64 a2, .agg #[.int .i64 a3.Kind, .int .i64 a3.Rights, .int .i64 a3.Obj, .int .i64 a3.Badge, .int .i64 a3.Guard, .int .i64 a3.Bits]] (fun _ => True) [Box bp0 [v0_Slots, v0_Objs, .int .i64 a0.NS, .int .i64 a0.NO], OwnR 71 kr_ref10_Slot v0_Slots a0.Slots, OwnR 38 kr_ref10_Obj v0_Objs a0.Objs] (fun u H' => ∃ rw0_Slots rw0_Objs, u = .int .i64 r0 ∧ H' = [Box bp0 [rw0_Slots, rw0_Objs, .int .i64 rp0.NS, .int .i64 rp0.NO], OwnR 71 kr_ref10_Slot rw0_Slots rp0.Slots, OwnR 38 kr_ref10_Obj rw0_Objs rp0.Objs]) := by
  unfold ref10_State_below.f at h
  refine Ct.intro (n := 25) Try.func38 rfl rfl rfl ?_
  intro R w0 F hF hR
  refine S.seq ?_
  refine S.region ?_
  refine SO.box rfl rfl rfl (fun b1 => ?_)
  refine SO.v rfl (opv_assign rfl) ?_
  refine SO.nil ?_
  refine S.seq ?_
  refine S.region ?_
  refine SO.v rfl (opv_move rfl) ?_
  refine SO.v rfl (opv_move rfl) ?_
  refine SO.v rfl (opv_move rfl) ?_
  obtain ⟨⟨t2, p3⟩, ht4, h⟩ := opt_bind h
  refine SO.b3 ?_
  refine SO.b3 ?_
  refine SO.b3 ?_
  refine SO.call (pre := [Box _ _, OwnR _ _ _ _, OwnR _ _ _ _]) rfl Try.call53 rfl rfl rfl (ref10_State_Link.ct bp0 v0_Slots v0_Objs _ _ _ _ _ ht4) trivial ?_
  rintro _ _ ⟨u5_Slots, u5_Objs, rfl, rfl⟩
  refine SO.v rfl (opv_assign rfl) ?_
  refine SO.nil ?_
  refine S.seq ?_
  refine S.seq ?_
  refine S.region ?_
  refine SO.v rfl (opv_move rfl) ?_
  refine SO.v rfl (opv_eql rfl rfl) ?_
  refine SO.nil ?_
  refine S.to (ρ' := [(0, bp bp0 0), (2, .int .i64 a2), (7, bp b1 0), (8, .int .i64 0), (9, .int .i64 t2), (15, .bool (t2 == 0))]) ⟨rfl, rfl, rfl, rfl, rfl, rfl, trivial⟩ ?_
  rcases bool_or (t2 == 0) with b6 | b6
  · replace h := cond_t b6 h
    refine S.condT rfl b6 ?_
    refine S.b1 ?_
    refine S.openR fun raws7 A8 hrel9 hR10 => ?_
    obtain ⟨x11, hx12, h⟩ := opt_bind h
    obtain ⟨r13, hr14, hc15⟩ := relR.at hrel9 hx12
    refine S.draw' (Z := fun Q => ∀ (_ : Unit) (_ : Unit) (_ : Unit) (_ : Unit) (_ : Unit) (_ : Unit), Q [(8, .int .i64 0), (9, .int .i64 t2)] [OwnR 71 kr_ref10_Slot u5_Slots (p3.Slots.set a2.toNat ({ x11 with Cap := a3 } : ref10_Slot)), Box bp0 [u5_Slots, u5_Objs, .int .i64 p3.NS, .int .i64 p3.NO], OwnR 38 kr_ref10_Obj u5_Objs p3.Objs, Box b1 [.int .i64 a3.Kind, .int .i64 a3.Rights, .int .i64 a3.Obj, .int .i64 a3.Badge, .int .i64 a3.Guard, .int .i64 a3.Bits], F]) (T := [tS 0 (bp bp0 0), tS 2 (.int .i64 a2), tS 7 (bp b1 0), tE [(8, .int .i64 0), (9, .int .i64 t2)], tR (OwnO 71 kr_ref10_Slot u5_Slots raws7 A8 p3.Slots), tR (Box bp0 [u5_Slots, u5_Objs, .int .i64 p3.NS, .int .i64 p3.NO]), tR (OwnR 38 kr_ref10_Obj u5_Objs p3.Objs), tR (Box b1 [.int .i64 a3.Kind, .int .i64 a3.Rights, .int .i64 a3.Obj, .int .i64 a3.Badge, .int .i64 a3.Guard, .int .i64 a3.Bits]), tR (F), tS 16 (bp bp0 0), tS 17 (bp bp0 0), tS 18 (bp bp0 0), tS 19 (u5_Slots), tS 20 (.int .i64 a2), tS 21 (.agg #[.int .i64 a3.Kind, .int .i64 a3.Rights, .int .i64 a3.Obj, .int .i64 a3.Badge, .int .i64 a3.Guard, .int .i64 a3.Bits]), tS 22 (idxp u5_Slots (a2.toNat * kr_ref10_Slot.sz)), tS 23 (idxp u5_Slots (a2.toNat * kr_ref10_Slot.sz)), tR (OwnR 71 kr_ref10_Slot u5_Slots (p3.Slots.set a2.toNat ({ x11 with Cap := a3 } : ref10_Slot)))]) (D := [⟨[0], [], [9]⟩, ⟨[9], [], [10]⟩, ⟨[10], [], [11]⟩, ⟨[11, 5], [], [12]⟩, ⟨[1], [], [13]⟩, ⟨[2, 7], [], [14]⟩, ⟨[12, 13, 4], [], [15]⟩, ⟨[15, 4], [], [16]⟩, ⟨[14, 16], [4], [17]⟩]) (ini := [0, 1, 2, 3, 4, 5, 6, 7, 8]) (fin := [3, 17, 5, 6, 7, 8]) (bf := [[], [0], [0, 1], [0, 1, 2], [], [], [0, 1, 2, 3, 4, 5], [0, 1, 2, 3, 4, 5, 6], [0, 1, 2, 3, 4, 5, 6, 7]]) (by kernel_rfl) (by kernel_rfl) (fun x w h1 h2 => (.cons () (.cons () (.cons () (.cons () (.cons () (.cons () (.cons () (.cons () (.cons () (.nil ⟨EnvAll.of h1 ⟨rfl, rfl, rfl, rfl, rfl, trivial⟩, h2⟩))))))))))) (fun Q => by kernel_rfl) ⟨?_, ?_, ?_, ?_, ?_, ?_, ?_, ?_, ?_, trivial⟩ ?_
    · rintro Fr _
      refine SO.v rfl (opv_move rfl) ?_
      exact SO.nilZ fun a w h1 h2 h3 h4 h5 => PZ.of h1 h3 h5 (.cons () (.cons () (.nil ⟨EnvAll.of h2 ⟨rfl, rfl, trivial⟩, h4⟩)))
    · rintro Fr _
      refine SO.v rfl (opv_nilCheck rfl) ?_
      exact SO.nilZ fun a w h1 h2 h3 h4 h5 => PZ.of h1 h3 h5 (.cons () (.cons () (.nil ⟨EnvAll.of h2 ⟨rfl, rfl, trivial⟩, h4⟩)))
    · rintro Fr _
      refine SO.v rfl (opv_fieldAddr Try.underlying42 rfl Try.sizeOf39 rfl rfl) ?_
      exact SO.nilZ fun a w h1 h2 h3 h4 h5 => PZ.of h1 h3 h5 (.cons () (.cons () (.nil ⟨EnvAll.of h2 ⟨rfl, rfl, trivial⟩, h4⟩)))
    · rintro Fr _ _
      refine SO.load1 rfl Try.isAgg39 rfl rfl ?_
      exact SO.nilZ fun a w h1 h2 h3 h4 h5 => PZ.of h1 h3 h5 (.cons () (.cons () (.cons () (.nil ⟨EnvAll.of h2 ⟨rfl, rfl, trivial⟩, h4⟩))))
    · rintro Fr _
      refine SO.v rfl (opv_move rfl) ?_
      exact SO.nilZ fun a w h1 h2 h3 h4 h5 => PZ.of h1 h3 h5 (.cons () (.cons () (.nil ⟨EnvAll.of h2 ⟨rfl, rfl, trivial⟩, h4⟩)))
    · rintro Fr _ _
      refine SO.loadN rfl Try.isAgg24 Try.sizeOf24 rfl rfl rfl ?_
      exact SO.nilZ fun a w h1 h2 h3 h4 h5 => PZ.of h1 h3 h5 (.cons () (.cons () (.cons () (.nil ⟨EnvAll.of h2 ⟨rfl, rfl, trivial⟩, h4⟩))))
    · rintro Fr _ _ _
      refine SO.v rfl (opv_idx Try.underlying39 Try.sizeOf71 hR10 rfl rfl hr14) ?_
      exact SO.nilZ fun a w h1 h2 h3 h4 h5 => PZ.of h1 h3 h5 (.cons () (.cons () (.cons () (.cons () (.nil ⟨EnvAll.of h2 ⟨rfl, rfl, rfl, trivial⟩, h4⟩)))))
    · rintro Fr _ _
      refine SO.v rfl (opv_fieldIdx Try.underlying71 rfl Try.sizeOf24 hR10 hr14 rfl rfl) ?_
      exact SO.nilZ fun a w h1 h2 h3 h4 h5 => PZ.of h1 h3 h5 (.cons () (.cons () (.cons () (.nil ⟨EnvAll.of h2 ⟨rfl, rfl, trivial⟩, h4⟩))))
    · rintro Fr _ _ _
      refine SO.storeOP (j := 0) (us := [.int .i64 a3.Kind, .int .i64 a3.Rights, .int .i64 a3.Obj, .int .i64 a3.Badge, .int .i64 a3.Guard, .int .i64 a3.Bits]) (z' := ({ x11 with Cap := a3 } : ref10_Slot)) Try.sizeOf24 hrel9 hx12 rfl rfl rfl rfl rfl rfl rfl (fun raws16 hrel17 hR18 => ?_)
      refine SO.closeR ?_
      exact SO.nilZ fun a w h1 h2 h3 h4 h5 => PZ.of h1 h3 h5 (.cons () (.cons () (.cons () (.nil ⟨EnvAll.of h2 ⟨rfl, rfl, trivial⟩, h4⟩))))
    rintro _ _ _ _ _ _
    refine S.to (ρ' := [(8, .int .i64 0), (9, .int .i64 t2)]) ⟨rfl, rfl, trivial⟩ ?_
    refine S.seq ?_
    refine S.region ?_
    refine SO.v rfl (opv_move rfl) ?_
    refine SO.v rfl (opv_assign rfl) ?_
    refine SO.nil ?_
    cases h
    refine S.b3 ?_
    refine S.drop ?_
    refine S.b3 ?_
    refine S.b3 ?_
    refine S.b2 ?_
    refine S.b3 ?_
    exact S.ret1 Try.func38 rfl rfl (fun w hs hk => hR w _ _ ⟨u5_Slots, u5_Objs, rfl, rfl⟩ hs hk)
  · replace h := cond_f b6 h
    refine S.condF rfl b6 ?_
    refine S.skip ?_
    refine S.seq ?_
    refine S.region ?_
    refine SO.v rfl (opv_move rfl) ?_
    refine SO.v rfl (opv_assign rfl) ?_
    refine SO.nil ?_
    cases h
    refine S.b3 ?_
    refine S.drop ?_
    refine S.b3 ?_
    refine S.b3 ?_
    refine S.b3 ?_
    refine S.b3 ?_
    exact S.ret1 Try.func38 rfl rfl (fun w hs hk => hR w _ _ ⟨u5_Slots, u5_Objs, rfl, rfl⟩ hs hk)
end Go.Proofs
namespace Go.Proofs
open Go.Sl Go.RowKit
/-! 17 (*padstone/padstoneref10.State).Retype -/
def ref10_State_Retype.f (k : Nat) (a0 : ref10_State) (a1 : Int) (a2 : Int) (a3 : Int) (a4 : Int) : Option ((Int × Int × ref10_State)) :=
  (ref10_slot.f a1).bind fun t1 => (ref10_slot.f a2).bind fun t3 => bif (!t1) || (!t3) then (some (0, 2, a0)) else ((at_ a0.Slots a1).bind fun x7 => (bif x7.Cap.Kind != 1 then (some true) else ((ref10_State_is.f a0 x7.Cap.Obj 1).bind fun t24 => some (!t24))).bind fun c22 => bif c22 then (some (0, 5, a0)) else ((ref01_Has.f k x7.Cap 2).bind fun t27 => bif !t27 then (some (0, 6, a0)) else ((at_ a0.Slots a2).bind fun x30 => (bif x30.Cap.Kind != 0 then (some true) else ((at_ a0.Slots a2).bind fun x38 => some (decide (0 ≤ x38.Parent)))).bind fun c36 => bif c36 then (some (0, 8, a0)) else ((ref10_Cost.f k a3 a4).bind fun t44 => bif decide (t44 < 0) then (some (0, 1, a0)) else ((at_ a0.Objs x7.Cap.Obj).bind fun x47 => bif decide ((w64 (x47.Size - x47.Used)) < t44) then (some (0, 14, a0)) else ((bif a3 == 2 then (some t44) else (some 0)).bind fun j18_1 => bif (decide (96 < (w64 (a0.NS + j18_1)))) || (decide (32 < (w64 (a0.NO + 1)))) then (some (0, 7, a0)) else ((at_ a0.Objs x7.Cap.Obj).bind fun x60 => (ref10_Fresh.f a3).bind fun t68 => (bif a3 == 1 then (some (w64 (t44 - 1))) else (some t68.Size)).bind fun y72_1_2 => (bif a3 == 2 then (some (a0.NS, a4)) else (some (t68.First, t68.Radix))).bind fun (y72_3_3, y72_4_3) => (at_ (a0.Objs.set x7.Cap.Obj.toNat ({ x60 with Used := w64 (x47.Used + t44) } : ref10_Obj)) a0.NO).bind fun x79 => (ref10_State_below.f (⟨a0.Slots, (a0.Objs.set x7.Cap.Obj.toNat ({ x60 with Used := w64 (x47.Used + t44) } : ref10_Obj)).set a0.NO.toNat ({ t68 with Size := y72_1_2, First := y72_3_3, Radix := y72_4_3 } : ref10_Obj), w64 (a0.NS + j18_1), w64 (a0.NO + 1)⟩ : ref10_State) a1 a2 (⟨a3, 7, a0.NO, 0, 0, 0⟩ : api_Cap)).bind fun (t92, p93) => some (a0.NO, 0, p93))))))))
set_option maxHeartbeats 8000000 in
set_option maxRecDepth 100000 in
theorem ref10_State_Retype.ct (k : Nat) (bp0 : Nat) (v0_Slots : Value) (v0_Objs : Value) (a0 : ref10_State) (a1 : Int) (a2 : Int) (a3 : Int) (a4 : Int) (r0 : Int) (r1 : Int) (rp0 : ref10_State) (h : ref10_State_Retype.f k a0 a1 a2 a3 a4 = some (r0, r1, rp0)) :
    Ct Try.prog 17 [bp bp0 0, .int .i64 a1, .int .i64 a2, .int .i64 a3, .int .i64 a4] (fun _ => True) [Box bp0 [v0_Slots, v0_Objs, .int .i64 a0.NS, .int .i64 a0.NO], OwnR 71 kr_ref10_Slot v0_Slots a0.Slots, OwnR 38 kr_ref10_Obj v0_Objs a0.Objs] (fun u H' => ∃ rw0_Slots rw0_Objs, u = .tuple #[.int .i64 r0, .int .i64 r1] ∧ H' = [Box bp0 [rw0_Slots, rw0_Objs, .int .i64 rp0.NS, .int .i64 rp0.NO], OwnR 71 kr_ref10_Slot rw0_Slots rp0.Slots, OwnR 38 kr_ref10_Obj rw0_Objs rp0.Objs]) := by
  unfold ref10_State_Retype.f at h
  refine Ct.intro (n := 176) Try.func17 rfl rfl rfl ?_
  intro R w0 F hF hR
  refine S.seq ?_
  refine S.region ?_
  refine SO.v rfl (opv_assign rfl) ?_
  refine SO.v rfl (opv_assign rfl) ?_
  refine SO.nil ?_
  refine S.seq ?_
  refine S.region ?_
  refine SO.v rfl (opv_move rfl) ?_
  obtain ⟨t1, ht2, h⟩ := opt_bind h
  refine SO.call (pre := []) rfl Try.call29 rfl rfl rfl (ref10_slot.ct _ _ ht2) trivial ?_
  rintro _ _ ⟨rfl, rfl⟩
  refine SO.v rfl (opv_assign rfl) ?_
  refine SO.nil ?_
  refine S.seq ?_
  refine S.region ?_
  refine SO.v rfl (opv_move rfl) ?_
  obtain ⟨t3, ht4, h⟩ := opt_bind h
  refine SO.call (pre := []) rfl Try.call29 rfl rfl rfl (ref10_slot.ct _ _ ht4) trivial ?_
  rintro _ _ ⟨rfl, rfl⟩
  refine SO.v rfl (opv_assign rfl) ?_
  refine SO.nil ?_
  refine S.seq ?_
  refine S.seq ?_
  refine S.region ?_
  refine SO.v rfl (opv_move rfl) ?_
  refine SO.v rfl (opv_not rfl) ?_
  refine SO.v rfl (opv_move rfl) ?_
  refine SO.cut 3 30 (.bool ((!t1) || (!t3))) [Box bp0 [v0_Slots, v0_Objs, .int .i64 a0.NS, .int .i64 a0.NO], OwnR 71 kr_ref10_Slot v0_Slots a0.Slots, OwnR 38 kr_ref10_Obj v0_Objs a0.Objs, F] (fun l2 hk2 => ?_) ?_
  · rcases bool_or (!t1) with b5 | b5
    · refine SO.passF rfl rfl rfl b5 rfl rfl ?_
      refine SO.passF rfl rfl rfl b5 rfl rfl ?_
      refine SO.v rfl (opv_pick_t' b5 rfl rfl) ?_
      refine SO.b3 ?_
      refine SO.b3 ?_
      refine SO.b3 ?_
      refine SO.b3 ?_
      exact hk2.fitc (m := 3) rfl (or_t b5) rfl
    · refine SO.takeT rfl rfl rfl b5 ?_
      refine SO.v rfl (opv_move rfl) ?_
      refine SO.takeT rfl rfl rfl b5 ?_
      refine SO.v rfl (opv_not rfl) ?_
      refine SO.v rfl (opv_pick_f' b5 rfl rfl) ?_
      refine SO.b3 ?_
      refine SO.b3 ?_
      refine SO.b3 ?_
      refine SO.b3 ?_
      exact hk2.fitc (m := 3) rfl (or_f b5) rfl
  refine SO.nil ?_
  refine S.to (ρ' := [(0, bp bp0 0), (1, .int .i64 a1), (2, .int .i64 a2), (3, .int .i64 a3), (4, .int .i64 a4), (10, .int .i64 0), (11, .int .i64 0), (30, .bool ((!t1) || (!t3)))]) ⟨rfl, rfl, rfl, rfl, rfl, rfl, rfl, rfl, trivial⟩ ?_
  rcases bool_or ((!t1) || (!t3)) with b6 | b6
  · replace h := cond_t b6 h
    refine S.condT rfl b6 ?_
    refine S.seq ?_
    refine S.region ?_
    refine SO.v rfl (opv_assign rfl) ?_
    refine SO.v rfl (opv_assign rfl) ?_
    refine SO.nil ?_
    cases h
    refine S.b3 ?_
    refine S.b3 ?_
    refine S.b3 ?_
    refine S.b3 ?_
    exact S.ret2 Try.func17 rfl rfl rfl (fun w hs hk => hR w _ _ ⟨v0_Slots, v0_Objs, rfl, rfl⟩ hs hk)
  · replace h := cond_f b6 h
    refine S.condF rfl b6 ?_
    refine S.skip ?_
    refine S.seq ?_
    refine S.region ?_
    refine SO.v rfl (opv_move rfl) ?_
    refine SO.v rfl (opv_nilCheck rfl) ?_
    refine SO.v rfl (opv_fieldAddr Try.underlying42 rfl Try.sizeOf39 rfl rfl) ?_
    refine SO.load1 rfl Try.isAgg39 rfl rfl ?_
    refine SO.v rfl (opv_move rfl) ?_
    refine SO.b1 ?_
    refine SO.openR fun raws12 A13 hrel14 hR15 => ?_
    obtain ⟨x7, hx8, h⟩ := opt_bind h
    obtain ⟨r9, hr10, hc11⟩ := relR.at hrel14 hx8
    refine SO.v rfl (opv_idx Try.underlying39 Try.sizeOf71 hR15 rfl rfl hr10) ?_
    refine SO.v rfl (opv_fieldIdx Try.underlying71 rfl Try.sizeOf24 hR15 hr10 rfl rfl) ?_
    refine SO.loadIP (j := 0) rfl Try.isAgg24 Try.sizeOf24 (Rd.head hR15) hr10 rfl rfl rfl (hc11.part (vs := [.int .i64 x7.Cap.Kind, .int .i64 x7.Cap.Rights, .int .i64 x7.Cap.Obj, .int .i64 x7.Cap.Badge, .int .i64 x7.Cap.Guard, .int .i64 x7.Cap.Bits]) rfl) ?_
    refine SO.alloc rfl Try.zeroValue24 rfl (fun b16 => ?_)
    refine SO.storeN Try.sizeOf24 rfl rfl rfl rfl rfl rfl ?_
    refine SO.nil ?_
    refine S.to (ρ' := [(0, bp bp0 0), (1, .int .i64 a1), (2, .int .i64 a2), (3, .int .i64 a3), (4, .int .i64 a4), (10, .int .i64 0), (11, .int .i64 0), (14, bp b16 0)]) ⟨rfl, rfl, rfl, rfl, rfl, rfl, rfl, rfl, trivial⟩ ?_
    refine S.seq ?_
    refine S.seq ?_
    refine S.region ?_
    refine SO.v rfl (opv_fieldAddr Try.underlying24 rfl Try.sizeOf3 rfl rfl) ?_
    refine SO.load1 rfl Try.isAgg3 rfl rfl ?_
    refine SO.v rfl (opv_neq rfl rfl) ?_
    refine SO.v rfl (opv_move rfl) ?_
    refine SO.b3 ?_
    refine SO.openR fun raws17 A18 hrel19 hR20 => ?_
    obtain ⟨c22, hc23, hgk⟩ := opt_bind h
    refine SO.cut 6 48 (.bool c22) [OwnO 38 kr_ref10_Obj v0_Objs raws17 A18 a0.Objs, Box b16 [.int .i64 x7.Cap.Kind, .int .i64 x7.Cap.Rights, .int .i64 x7.Cap.Obj, .int .i64 x7.Cap.Badge, .int .i64 x7.Cap.Guard, .int .i64 x7.Cap.Bits], OwnO 71 kr_ref10_Slot v0_Slots raws12 A13 a0.Slots, Box bp0 [v0_Slots, v0_Objs, .int .i64 a0.NS, .int .i64 a0.NO], F] (fun l2 hk2 => ?_) ?_
    · clear hgk
      replace h := hc23
      rcases bool_or (x7.Cap.Kind != 1) with b21 | b21
      · replace h := cond_t b21 h
        refine SO.passF rfl rfl rfl b21 rfl rfl ?_
        refine SO.passF rfl rfl rfl b21 rfl rfl ?_
        refine SO.passF rfl rfl rfl b21 rfl rfl ?_
        refine SO.passF rfl rfl rfl b21 rfl rfl ?_
        refine SO.passF rfl rfl rfl b21 rfl rfl ?_
        cases h
        refine SO.v rfl (opv_pick_t' b21 rfl rfl) ?_
        refine SO.b4 ?_
        refine SO.b4 ?_
        refine SO.b4 ?_
        refine SO.b4 ?_
        refine SO.b4 ?_
        exact hk2.fitc (m := 6) rfl (rfl) rfl
      · replace h := cond_f b21 h
        refine SO.takeT rfl rfl rfl b21 ?_
        refine SO.v rfl (opv_move rfl) ?_
        refine SO.takeT rfl rfl rfl b21 ?_
        refine SO.v rfl (opv_fieldAddr Try.underlying24 rfl Try.sizeOf3 rfl rfl) ?_
        refine SO.takeT rfl rfl rfl b21 ?_
        refine SO.b1 ?_
        refine SO.load1 rfl Try.isAgg3 rfl rfl ?_
        refine SO.takeT rfl rfl rfl b21 ?_
        obtain ⟨t24, ht25, h⟩ := opt_bind h
        refine SO.b1 ?_
        refine SO.b2 ?_
        refine SO.b3 ?_
        refine SO.call (pre := [Box _ _, OwnO _ _ _ _ _ _, OwnO _ _ _ _ _ _]) rfl Try.call36 rfl rfl rfl (ref10_State_is.ct bp0 v0_Slots v0_Objs raws12 A13 raws17 A18 _ _ _ _ ht25) trivial ?_
        rintro _ _ ⟨rfl, rfl⟩
        refine SO.takeT rfl rfl rfl b21 ?_
        refine SO.v rfl (opv_not rfl) ?_
        cases h
        refine SO.v rfl (opv_pick_f' b21 rfl rfl) ?_
        refine SO.b4 ?_
        refine SO.b1 ?_
        refine SO.b2 ?_
        refine SO.b4 ?_
        refine SO.b4 ?_
        exact hk2.fitc (m := 6) rfl (rfl) rfl
    clear hc23
    replace h := hgk
    refine SO.nil ?_
    rcases bool_or c22 with b26 | b26
    · replace h := cond_t b26 h
      refine S.condT rfl b26 ?_
      refine S.seq ?_
      refine S.region ?_
      refine SO.v rfl (opv_assign rfl) ?_
      refine SO.v rfl (opv_assign rfl) ?_
      refine SO.nil ?_
      refine S.to (ρ' := [(10, .int .i64 0), (11, .int .i64 5)]) ⟨rfl, rfl, trivial⟩ ?_
      cases h
      refine S.closeR ?_
      refine S.b2 ?_
      refine S.closeR ?_
      refine S.b2 ?_
      refine S.drop ?_
      refine S.b3 ?_
      refine S.b2 ?_
      refine S.b2 ?_
      refine S.b3 ?_
      exact S.ret2 Try.func17 rfl rfl rfl (fun w hs hk => hR w _ _ ⟨v0_Slots, v0_Objs, rfl, rfl⟩ hs hk)
    · replace h := cond_f b26 h
      refine S.condF rfl b26 ?_
      refine S.skip ?_
      refine S.seq ?_
      refine S.region ?_
      refine SO.b1 ?_
      refine SO.loadN rfl Try.isAgg24 Try.sizeOf24 rfl rfl rfl ?_
      obtain ⟨t27, ht28, h⟩ := opt_bind h
      refine SO.call (pre := []) rfl Try.call37 rfl rfl rfl (ref01_Has.ct _ _ _ _ ht28) trivial ?_
      rintro _ _ ⟨rfl, rfl⟩
      refine SO.v rfl (opv_assign rfl) ?_
      refine SO.nil ?_
      refine S.to (ρ' := [(0, bp bp0 0), (1, .int .i64 a1), (2, .int .i64 a2), (3, .int .i64 a3), (4, .int .i64 a4), (10, .int .i64 0), (11, .int .i64 0), (14, bp b16 0), (15, .bool t27)]) ⟨rfl, rfl, rfl, rfl, rfl, rfl, rfl, rfl, rfl, trivial⟩ ?_
      refine S.seq ?_
      refine S.seq ?_
      refine S.region ?_
      refine SO.v rfl (opv_move rfl) ?_
      refine SO.v rfl (opv_not rfl) ?_
      refine SO.nil ?_
      rcases bool_or (!t27) with b29 | b29
      · replace h := cond_t b29 h
        refine S.condT rfl b29 ?_
        refine S.seq ?_
        refine S.region ?_
        refine SO.v rfl (opv_assign rfl) ?_
        refine SO.v rfl (opv_assign rfl) ?_
        refine SO.nil ?_
        refine S.to (ρ' := [(10, .int .i64 0), (11, .int .i64 6)]) ⟨rfl, rfl, trivial⟩ ?_
        cases h
        refine S.b1 ?_
        refine S.closeR ?_
        refine S.b2 ?_
        refine S.closeR ?_
        refine S.b2 ?_
        refine S.drop ?_
        refine S.b3 ?_
        refine S.b2 ?_
        refine S.b2 ?_
        refine S.b3 ?_
        exact S.ret2 Try.func17 rfl rfl rfl (fun w hs hk => hR w _ _ ⟨v0_Slots, v0_Objs, rfl, rfl⟩ hs hk)
      · replace h := cond_f b29 h
        refine S.condF rfl b29 ?_
        refine S.skip ?_
        refine S.seq ?_
        refine S.seq ?_
        refine S.region ?_
        refine SO.v rfl (opv_move rfl) ?_
        refine SO.v rfl (opv_nilCheck rfl) ?_
        refine SO.v rfl (opv_fieldAddr Try.underlying42 rfl Try.sizeOf39 rfl rfl) ?_
        refine SO.b3 ?_
        refine SO.load1 rfl Try.isAgg39 rfl rfl ?_
        refine SO.v rfl (opv_move rfl) ?_
        obtain ⟨x30, hx31, h⟩ := opt_bind h
        obtain ⟨r32, hr33, hc34⟩ := relR.at hrel14 hx31
        refine SO.v rfl (opv_idx Try.underlying39 Try.sizeOf71 hR15 rfl rfl hr33) ?_
        refine SO.v rfl (opv_fieldIdx Try.underlying71 rfl Try.sizeOf24 hR15 hr33 rfl rfl) ?_
        refine SO.v rfl (opv_fieldIdx Try.underlying24 rfl Try.sizeOf3 hR15 hr33 rfl rfl) ?_
        refine SO.loadI1 (j := 0) rfl Try.isAgg3 (Rd.tail (Rd.tail (Rd.tail (Rd.head hR15)))) hr33 rfl rfl rfl (hc34.val rfl) ?_
        refine SO.v rfl (opv_neq rfl rfl) ?_
        refine SO.v rfl (opv_move rfl) ?_
        obtain ⟨c36, hc37, hgk⟩ := opt_bind h
        refine SO.cut 10 73 (.bool c36) [Box bp0 [v0_Slots, v0_Objs, .int .i64 a0.NS, .int .i64 a0.NO], Box b16 [.int .i64 x7.Cap.Kind, .int .i64 x7.Cap.Rights, .int .i64 x7.Cap.Obj, .int .i64 x7.Cap.Badge, .int .i64 x7.Cap.Guard, .int .i64 x7.Cap.Bits], OwnO 38 kr_ref10_Obj v0_Objs raws17 A18 a0.Objs, OwnO 71 kr_ref10_Slot v0_Slots raws12 A13 a0.Slots, F] (fun l2 hk2 => ?_) ?_
        · clear hgk
          replace h := hc37
          rcases bool_or (x30.Cap.Kind != 0) with b35 | b35
          · replace h := cond_t b35 h
            refine SO.passF rfl rfl rfl b35 rfl rfl ?_
            refine SO.passF rfl rfl rfl b35 rfl rfl ?_
            refine SO.passF rfl rfl rfl b35 rfl rfl ?_
            refine SO.passF rfl rfl rfl b35 rfl rfl ?_
            refine SO.passF rfl rfl rfl b35 rfl rfl ?_
            refine SO.passF rfl rfl rfl b35 rfl rfl ?_
            refine SO.passF rfl rfl rfl b35 rfl rfl ?_
            refine SO.passF rfl rfl rfl b35 rfl rfl ?_
            refine SO.passF rfl rfl rfl b35 rfl rfl ?_
            cases h
            refine SO.v rfl (opv_pick_t' b35 rfl rfl) ?_
            refine SO.b4 ?_
            refine SO.b4 ?_
            refine SO.b4 ?_
            refine SO.b4 ?_
            refine SO.b4 ?_
            exact hk2.fitc (m := 10) rfl (rfl) rfl
          · replace h := cond_f b35 h
            refine SO.takeT rfl rfl rfl b35 ?_
            refine SO.v rfl (opv_move rfl) ?_
            refine SO.takeT rfl rfl rfl b35 ?_
            refine SO.v rfl (opv_nilCheck rfl) ?_
            refine SO.takeT rfl rfl rfl b35 ?_
            refine SO.v rfl (opv_fieldAddr Try.underlying42 rfl Try.sizeOf39 rfl rfl) ?_
            refine SO.takeT rfl rfl rfl b35 ?_
            refine SO.load1 rfl Try.isAgg39 rfl rfl ?_
            refine SO.takeT rfl rfl rfl b35 ?_
            refine SO.v rfl (opv_move rfl) ?_
            refine SO.takeT rfl rfl rfl b35 ?_
            obtain ⟨x38, hx39, h⟩ := opt_bind h
            obtain ⟨r40, hr41, hc42⟩ := relR.at hrel14 hx39
            refine SO.v rfl (opv_idx Try.underlying39 Try.sizeOf71 hR15 rfl rfl hr41) ?_
            refine SO.takeT rfl rfl rfl b35 ?_
            refine SO.v rfl (opv_fieldIdx Try.underlying71 rfl Try.sizeOf3 hR15 hr41 rfl rfl) ?_
            refine SO.takeT rfl rfl rfl b35 ?_
            refine SO.loadI1 (j := 6) rfl Try.isAgg3 (Rd.tail (Rd.tail (Rd.tail (Rd.head hR15)))) hr41 rfl rfl rfl (hc42.val rfl) ?_
            refine SO.takeT rfl rfl rfl b35 ?_
            refine SO.v rfl (opv_geq rfl rfl) ?_
            cases h
            refine SO.v rfl (opv_pick_f' b35 rfl rfl) ?_
            refine SO.b4 ?_
            refine SO.b4 ?_
            refine SO.b4 ?_
            refine SO.b4 ?_
            refine SO.b4 ?_
            exact hk2.fitc (m := 10) rfl (rfl) rfl
        clear hc37
        replace h := hgk
        refine SO.nil ?_
        refine S.to (ρ' := [(0, bp bp0 0), (1, .int .i64 a1), (2, .int .i64 a2), (3, .int .i64 a3), (4, .int .i64 a4), (10, .int .i64 0), (11, .int .i64 0), (14, bp b16 0), (73, .bool c36)]) ⟨rfl, rfl, rfl, rfl, rfl, rfl, rfl, rfl, rfl, trivial⟩ ?_
        rcases bool_or c36 with b43 | b43
        · replace h := cond_t b43 h
          refine S.condT rfl b43 ?_
          refine S.seq ?_
          refine S.region ?_
          refine SO.v rfl (opv_assign rfl) ?_
          refine SO.v rfl (opv_assign rfl) ?_
          refine SO.nil ?_
          refine S.to (ρ' := [(10, .int .i64 0), (11, .int .i64 8)]) ⟨rfl, rfl, trivial⟩ ?_
          cases h
          refine S.b2 ?_
          refine S.closeR ?_
          refine S.b3 ?_
          refine S.closeR ?_
          refine S.b3 ?_
          refine S.drop ?_
          refine S.b3 ?_
          refine S.b2 ?_
          refine S.b2 ?_
          refine S.b3 ?_
          exact S.ret2 Try.func17 rfl rfl rfl (fun w hs hk => hR w _ _ ⟨v0_Slots, v0_Objs, rfl, rfl⟩ hs hk)
        · replace h := cond_f b43 h
          refine S.condF rfl b43 ?_
          refine S.skip ?_
          refine S.seq ?_
          refine S.region ?_
          refine SO.v rfl (opv_move rfl) ?_
          refine SO.v rfl (opv_move rfl) ?_
          obtain ⟨t44, ht45, h⟩ := opt_bind h
          refine SO.call (pre := []) rfl Try.call14 rfl rfl rfl (ref10_Cost.ct _ _ _ _ ht45) trivial ?_
          rintro _ _ ⟨rfl, rfl⟩
          refine SO.v rfl (opv_assign rfl) ?_
          refine SO.nil ?_
          refine S.seq ?_
          refine S.seq ?_
          refine S.region ?_
          refine SO.v rfl (opv_move rfl) ?_
          refine SO.v rfl (opv_lss rfl rfl) ?_
          refine SO.nil ?_
          rcases bool_or (decide (t44 < 0)) with b46 | b46
          · replace h := cond_t b46 h
            refine S.condT rfl b46 ?_
            refine S.seq ?_
            refine S.region ?_
            refine SO.v rfl (opv_assign rfl) ?_
            refine SO.v rfl (opv_assign rfl) ?_
            refine SO.nil ?_
            refine S.to (ρ' := [(10, .int .i64 0), (11, .int .i64 1)]) ⟨rfl, rfl, trivial⟩ ?_
            cases h
            refine S.b2 ?_
            refine S.closeR ?_
            refine S.b3 ?_
            refine S.closeR ?_
            refine S.b3 ?_
            refine S.drop ?_
            refine S.b3 ?_
            refine S.b2 ?_
            refine S.b2 ?_
            refine S.b3 ?_
            exact S.ret2 Try.func17 rfl rfl rfl (fun w hs hk => hR w _ _ ⟨v0_Slots, v0_Objs, rfl, rfl⟩ hs hk)
          · replace h := cond_f b46 h
            refine S.condF rfl b46 ?_
            refine S.skip ?_
            refine S.seq ?_
            obtain ⟨x47, hx48, h⟩ := opt_bind h
            obtain ⟨r49, hr50, hc51⟩ := relR.at hrel19 hx48
            refine hc51.rip fun u52 hru53 e54 => ?_
            refine S.draw' (Z := fun Q => ∀ (_ : Unit) (_ : Unit) (_ : Unit) (b55 : Nat) (_ : Unit) (_ : Unit) (_ : Unit) (_ : Unit) (_ : Unit), Q [(0, bp bp0 0), (16, .int .i64 t44), (1, .int .i64 a1), (2, .int .i64 a2), (3, .int .i64 a3), (4, .int .i64 a4), (10, .int .i64 0), (11, .int .i64 0), (14, bp b16 0), (17, bp b55 0)] [Box b55 [.int .i64 x47.Kind, .int .i64 x47.Size, .int .i64 x47.Used, .int .i64 x47.First, .int .i64 x47.Radix, .int .i64 x47.Wait, u52, .int .i64 x47.Word, .int .i64 x47.State, .int .i64 x47.Owing, .int .i64 x47.Badge, .int .i64 x47.Prio, .int .i64 x47.On, .int .i64 x47.Owes, .int .i64 x47.Root.Kind, .int .i64 x47.Root.Rights, .int .i64 x47.Root.Obj, .int .i64 x47.Root.Badge, .int .i64 x47.Root.Guard, .int .i64 x47.Root.Bits, .int .i64 x47.Pages.a0, .int .i64 x47.Pages.a1, .int .i64 x47.Pages.a2, .int .i64 x47.Pages.a3, .int .i64 x47.Right.a0, .int .i64 x47.Right.a1, .int .i64 x47.Right.a2, .int .i64 x47.Right.a3, .int .i64 x47.In, .int .i64 x47.Page, .int .i64 x47.Bound, .int .i64 x47.Mask], Box bp0 [v0_Slots, v0_Objs, .int .i64 a0.NS, .int .i64 a0.NO], Box b16 [.int .i64 x7.Cap.Kind, .int .i64 x7.Cap.Rights, .int .i64 x7.Cap.Obj, .int .i64 x7.Cap.Badge, .int .i64 x7.Cap.Guard, .int .i64 x7.Cap.Bits], OwnO 38 kr_ref10_Obj v0_Objs raws17 A18 a0.Objs, OwnO 71 kr_ref10_Slot v0_Slots raws12 A13 a0.Slots, F]) (T := [tS 0 (bp bp0 0), tS 14 (bp b16 0), tE [(16, .int .i64 t44), (1, .int .i64 a1), (2, .int .i64 a2), (3, .int .i64 a3), (4, .int .i64 a4), (10, .int .i64 0), (11, .int .i64 0)], tR (Box bp0 [v0_Slots, v0_Objs, .int .i64 a0.NS, .int .i64 a0.NO]), tR (Box b16 [.int .i64 x7.Cap.Kind, .int .i64 x7.Cap.Rights, .int .i64 x7.Cap.Obj, .int .i64 x7.Cap.Badge, .int .i64 x7.Cap.Guard, .int .i64 x7.Cap.Bits]), tR (OwnO 38 kr_ref10_Obj v0_Objs raws17 A18 a0.Objs), tR (OwnO 71 kr_ref10_Slot v0_Slots raws12 A13 a0.Slots), tR (F), tS 79 (bp bp0 0), tS 80 (bp bp0 0), tS 81 (bp bp0 1), tS 82 (v0_Objs), tS 83 (bp b16 2), tS 84 (.int .i64 x7.Cap.Obj), tS 85 (idxp v0_Objs (x7.Cap.Obj.toNat * kr_ref10_Obj.sz)), tS 86 (.agg #[.int .i64 x47.Kind, .int .i64 x47.Size, .int .i64 x47.Used, .int .i64 x47.First, .int .i64 x47.Radix, .int .i64 x47.Wait, u52, .int .i64 x47.Word, .int .i64 x47.State, .int .i64 x47.Owing, .int .i64 x47.Badge, .int .i64 x47.Prio, .int .i64 x47.On, .int .i64 x47.Owes, .int .i64 x47.Root.Kind, .int .i64 x47.Root.Rights, .int .i64 x47.Root.Obj, .int .i64 x47.Root.Badge, .int .i64 x47.Root.Guard, .int .i64 x47.Root.Bits, .int .i64 x47.Pages.a0, .int .i64 x47.Pages.a1, .int .i64 x47.Pages.a2, .int .i64 x47.Pages.a3, .int .i64 x47.Right.a0, .int .i64 x47.Right.a1, .int .i64 x47.Right.a2, .int .i64 x47.Right.a3, .int .i64 x47.In, .int .i64 x47.Page, .int .i64 x47.Bound, .int .i64 x47.Mask]), ⟨Nat, [17], (fun b55 => [(17, bp b55 0)]), (fun b55 => [Box b55 [.int .i64 0, .int .i64 0, .int .i64 0, .int .i64 0, .int .i64 0, .int .i64 0, .slice none 0 0, .int .i64 0, .int .i64 0, .int .i64 0, .int .i64 0, .int .i64 0, .int .i64 0, .int .i64 0, .int .i64 0, .int .i64 0, .int .i64 0, .int .i64 0, .int .i64 0, .int .i64 0, .int .i64 0, .int .i64 0, .int .i64 0, .int .i64 0, .int .i64 0, .int .i64 0, .int .i64 0, .int .i64 0, .int .i64 0, .int .i64 0, .int .i64 0, .int .i64 0]]), fun _ => rfl⟩, ⟨Nat, [17], (fun b55 => [(17, bp b55 0)]), (fun b55 => [Box b55 [.int .i64 x47.Kind, .int .i64 x47.Size, .int .i64 x47.Used, .int .i64 x47.First, .int .i64 x47.Radix, .int .i64 x47.Wait, u52, .int .i64 x47.Word, .int .i64 x47.State, .int .i64 x47.Owing, .int .i64 x47.Badge, .int .i64 x47.Prio, .int .i64 x47.On, .int .i64 x47.Owes, .int .i64 x47.Root.Kind, .int .i64 x47.Root.Rights, .int .i64 x47.Root.Obj, .int .i64 x47.Root.Badge, .int .i64 x47.Root.Guard, .int .i64 x47.Root.Bits, .int .i64 x47.Pages.a0, .int .i64 x47.Pages.a1, .int .i64 x47.Pages.a2, .int .i64 x47.Pages.a3, .int .i64 x47.Right.a0, .int .i64 x47.Right.a1, .int .i64 x47.Right.a2, .int .i64 x47.Right.a3, .int .i64 x47.In, .int .i64 x47.Page, .int .i64 x47.Bound, .int .i64 x47.Mask]]), fun _ => rfl⟩]) (D := [⟨[0], [], [8]⟩, ⟨[8], [], [9]⟩, ⟨[9], [], [10]⟩, ⟨[10, 3], [], [11]⟩, ⟨[1], [], [12]⟩, ⟨[12, 4], [], [13]⟩, ⟨[11, 13, 5], [], [14]⟩, ⟨[14, 5], [], [15]⟩, ⟨[], [], [16]⟩, ⟨[15, 5], [16], [17]⟩]) (ini := [0, 1, 2, 3, 4, 5, 6, 7]) (fin := [0, 2, 1, 17, 3, 4, 5, 6, 7]) (bf := [[], [0], [0, 1], [0, 1, 2], [], [4], [0, 1, 2, 3, 4, 5], [0, 1, 2, 3, 4, 5, 6], [], [0, 1, 2, 3, 4, 5, 6, 7, 8]]) (by kernel_rfl) (by kernel_rfl) (fun x w h1 h2 => (.cons () (.cons () (.cons () (.cons () (.cons () (.cons () (.cons () (.cons () (.nil ⟨EnvAll.of h1 ⟨rfl, rfl, rfl, rfl, rfl, rfl, rfl, rfl, rfl, trivial⟩, h2⟩)))))))))) (fun Q => by kernel_rfl) ⟨?_, ?_, ?_, ?_, ?_, ?_, ?_, ?_, ?_, ?_, trivial⟩ ?_
            · rintro Fr _
              refine SO.v rfl (opv_move rfl) ?_
              exact SO.nilZ fun a w h1 h2 h3 h4 h5 => PZ.of h1 h3 h5 (.cons () (.cons () (.nil ⟨EnvAll.of h2 ⟨rfl, rfl, trivial⟩, h4⟩)))
            · rintro Fr _
              refine SO.v rfl (opv_nilCheck rfl) ?_
              exact SO.nilZ fun a w h1 h2 h3 h4 h5 => PZ.of h1 h3 h5 (.cons () (.cons () (.nil ⟨EnvAll.of h2 ⟨rfl, rfl, trivial⟩, h4⟩)))
            · rintro Fr _
              refine SO.v rfl (opv_fieldAddr Try.underlying42 rfl Try.sizeOf40 rfl rfl) ?_
              exact SO.nilZ fun a w h1 h2 h3 h4 h5 => PZ.of h1 h3 h5 (.cons () (.cons () (.nil ⟨EnvAll.of h2 ⟨rfl, rfl, trivial⟩, h4⟩)))
            · rintro Fr _ _
              refine SO.load1 rfl Try.isAgg40 rfl rfl ?_
              exact SO.nilZ fun a w h1 h2 h3 h4 h5 => PZ.of h1 h3 h5 (.cons () (.cons () (.cons () (.nil ⟨EnvAll.of h2 ⟨rfl, rfl, trivial⟩, h4⟩))))
            · rintro Fr _
              refine SO.v rfl (opv_fieldAddr Try.underlying24 rfl Try.sizeOf3 rfl rfl) ?_
              exact SO.nilZ fun a w h1 h2 h3 h4 h5 => PZ.of h1 h3 h5 (.cons () (.cons () (.nil ⟨EnvAll.of h2 ⟨rfl, rfl, trivial⟩, h4⟩)))
            · rintro Fr _ _
              refine SO.load1 rfl Try.isAgg3 rfl rfl ?_
              exact SO.nilZ fun a w h1 h2 h3 h4 h5 => PZ.of h1 h3 h5 (.cons () (.cons () (.cons () (.nil ⟨EnvAll.of h2 ⟨rfl, rfl, trivial⟩, h4⟩))))
            · rintro Fr _ _ _
              refine SO.v rfl (opv_idx Try.underlying40 Try.sizeOf38 hR20 rfl rfl hr50) ?_
              exact SO.nilZ fun a w h1 h2 h3 h4 h5 => PZ.of h1 h3 h5 (.cons () (.cons () (.cons () (.cons () (.nil ⟨EnvAll.of h2 ⟨rfl, rfl, rfl, trivial⟩, h4⟩)))))
            · rintro Fr _ _
              refine SO.loadIN rfl Try.isAgg38 Try.sizeOf38 (Rd.head hR20) hr50 rfl rfl e54 ?_
              exact SO.nilZ fun a w h1 h2 h3 h4 h5 => PZ.of h1 h3 h5 (.cons () (.cons () (.cons () (.nil ⟨EnvAll.of h2 ⟨rfl, rfl, trivial⟩, h4⟩))))
            · rintro Fr 
              refine SO.alloc rfl Try.zeroValue38 rfl (fun b55 => ?_)
              exact SO.nilZ fun a w h1 h2 h3 h4 h5 => PZ.of h1 h3 h5 (.cons b55 (.nil ⟨EnvAll.of h2 ⟨rfl, trivial⟩, h4⟩))
            · rintro Fr _ _ b55
              refine SO.b1 ?_
              refine SO.storeN Try.sizeOf38 rfl rfl (all1 rfl (all1 rfl (all1 rfl (all1 rfl (all1 rfl (all1 rfl (all1 (Rd.one hru53) (all1 rfl (all1 rfl (all1 rfl (all1 rfl (all1 rfl (all1 rfl (all1 rfl (all1 rfl (all1 rfl (all1 rfl (all1 rfl (all1 rfl (all1 rfl (all1 rfl (all1 rfl (all1 rfl (all1 rfl (all1 rfl (all1 rfl (all1 rfl (all1 rfl (all1 rfl (all1 rfl (all1 rfl (all1 rfl rfl)))))))))))))))))))))))))))))))) rfl rfl rfl ?_
              refine SO.b1 ?_
              exact SO.nilZ fun a w h1 h2 h3 h4 h5 => PZ.of h1 h3 h5 (.cons () (.cons () (.cons b55 (.nil ⟨EnvAll.of h2 ⟨rfl, rfl, trivial⟩, h4⟩))))
            rintro _ _ _ b55 _ _ _ _ _
            refine S.to (ρ' := [(0, bp bp0 0), (16, .int .i64 t44), (1, .int .i64 a1), (2, .int .i64 a2), (3, .int .i64 a3), (4, .int .i64 a4), (10, .int .i64 0), (11, .int .i64 0), (14, bp b16 0), (17, bp b55 0)]) ⟨rfl, rfl, rfl, rfl, rfl, rfl, rfl, rfl, rfl, rfl, trivial⟩ ?_
            refine S.seq ?_
            refine S.seq ?_
            refine S.region ?_
            refine SO.v rfl (opv_move rfl) ?_
            refine SO.v rfl (opv_fieldAddr Try.underlying38 rfl Try.sizeOf3 rfl rfl) ?_
            refine SO.load1 rfl Try.isAgg3 rfl rfl ?_
            refine SO.v rfl (opv_fieldAddr Try.underlying38 rfl Try.sizeOf3 rfl rfl) ?_
            refine SO.load1 rfl Try.isAgg3 rfl rfl ?_
            refine SO.v rfl (opv_sub rfl rfl) ?_
            refine SO.v rfl (opv_gtr rfl rfl) ?_
            refine SO.nil ?_
            rcases bool_or (decide ((w64 (x47.Size - x47.Used)) < t44)) with b56 | b56
            · replace h := cond_t b56 h
              refine S.condT rfl b56 ?_
              refine S.seq ?_
              refine S.region ?_
              refine SO.v rfl (opv_assign rfl) ?_
              refine SO.v rfl (opv_assign rfl) ?_
              refine SO.nil ?_
              refine S.to (ρ' := [(10, .int .i64 0), (11, .int .i64 14)]) ⟨rfl, rfl, trivial⟩ ?_
              cases h
              refine S.b3 ?_
              refine S.closeR ?_
              refine S.b4 ?_
              refine S.closeR ?_
              refine S.b2 ?_
              refine S.drop ?_
              refine S.b3 ?_
              refine S.drop ?_
              refine S.b3 ?_
              refine S.b2 ?_
              refine S.b2 ?_
              refine S.b3 ?_
              exact S.ret2 Try.func17 rfl rfl rfl (fun w hs hk => hR w _ _ ⟨v0_Slots, v0_Objs, rfl, rfl⟩ hs hk)
            · replace h := cond_f b56 h
              refine S.condF rfl b56 ?_
              refine S.skip ?_
              refine S.seq ?_
              refine S.region ?_
              refine SO.v rfl (opv_assign rfl) ?_
              refine SO.nil ?_
              refine S.to (ρ' := [(0, bp bp0 0), (16, .int .i64 t44), (1, .int .i64 a1), (2, .int .i64 a2), (3, .int .i64 a3), (4, .int .i64 a4), (10, .int .i64 0), (11, .int .i64 0), (14, bp b16 0), (17, bp b55 0), (18, .int .i64 0)]) ⟨rfl, rfl, rfl, rfl, rfl, rfl, rfl, rfl, rfl, rfl, rfl, trivial⟩ ?_
              refine S.seq ?_
              refine S.seq ?_
              refine S.region ?_
              refine SO.v rfl (opv_move rfl) ?_
              refine SO.v rfl (opv_eql rfl rfl) ?_
              refine SO.nil ?_
              obtain ⟨j18_1, hC1, hJ1⟩ := opt_bind h
              clear h
              refine S.cutP (G := Unit) (fun _ => True) (fun _ => [(0, bp bp0 0), (1, .int .i64 a1), (2, .int .i64 a2), (3, .int .i64 a3), (4, .int .i64 a4), (10, .int .i64 0), (11, .int .i64 0), (14, bp b16 0), (16, .int .i64 t44), (17, bp b55 0), (18, .int .i64 j18_1)]) (fun _ => [Box b55 [.int .i64 x47.Kind, .int .i64 x47.Size, .int .i64 x47.Used, .int .i64 x47.First, .int .i64 x47.Radix, .int .i64 x47.Wait, u52, .int .i64 x47.Word, .int .i64 x47.State, .int .i64 x47.Owing, .int .i64 x47.Badge, .int .i64 x47.Prio, .int .i64 x47.On, .int .i64 x47.Owes, .int .i64 x47.Root.Kind, .int .i64 x47.Root.Rights, .int .i64 x47.Root.Obj, .int .i64 x47.Root.Badge, .int .i64 x47.Root.Guard, .int .i64 x47.Root.Bits, .int .i64 x47.Pages.a0, .int .i64 x47.Pages.a1, .int .i64 x47.Pages.a2, .int .i64 x47.Pages.a3, .int .i64 x47.Right.a0, .int .i64 x47.Right.a1, .int .i64 x47.Right.a2, .int .i64 x47.Right.a3, .int .i64 x47.In, .int .i64 x47.Page, .int .i64 x47.Bound, .int .i64 x47.Mask], Box bp0 [v0_Slots, v0_Objs, .int .i64 a0.NS, .int .i64 a0.NO], Box b16 [.int .i64 x7.Cap.Kind, .int .i64 x7.Cap.Rights, .int .i64 x7.Cap.Obj, .int .i64 x7.Cap.Badge, .int .i64 x7.Cap.Guard, .int .i64 x7.Cap.Bits], OwnO 38 kr_ref10_Obj v0_Objs raws17 A18 a0.Objs, OwnO 71 kr_ref10_Slot v0_Slots raws12 A13 a0.Slots, F]) (fun hk1 => ?_) ?_
              · replace h := hC1
                rcases bool_or (a3 == 2) with b57 | b57
                · replace h := cond_t b57 h
                  refine S.condT rfl b57 ?_
                  refine S.region ?_
                  refine SO.v rfl (opv_move rfl) ?_
                  refine SO.v rfl (opv_assign rfl) ?_
                  refine SO.nil ?_
                  cases h
                  refine S.b5 ?_
                  refine S.b5 ?_
                  refine S.b5 ?_
                  refine S.b5 ?_
                  refine S.b5 ?_
                  refine S.b5 ?_
                  refine S.to ?_ (hk1 () trivial)
                  exact ⟨rfl, rfl, rfl, rfl, rfl, rfl, rfl, rfl, rfl, rfl, rfl, trivial⟩
                · replace h := cond_f b57 h
                  refine S.condF rfl b57 ?_
                  refine S.skip ?_
                  cases h
                  refine S.b5 ?_
                  refine S.b5 ?_
                  refine S.b5 ?_
                  refine S.b5 ?_
                  refine S.b5 ?_
                  refine S.b5 ?_
                  refine S.to ?_ (hk1 () trivial)
                  exact ⟨rfl, rfl, rfl, rfl, rfl, rfl, rfl, rfl, rfl, rfl, rfl, trivial⟩
              rintro _ -
              replace h := hJ1
              refine S.seq ?_
              refine S.seq ?_
              refine S.region ?_
              refine SO.v rfl (opv_move rfl) ?_
              refine SO.v rfl (opv_nilCheck rfl) ?_
              refine SO.v rfl (opv_fieldAddr Try.underlying42 rfl Try.sizeOf3 rfl rfl) ?_
              refine SO.b1 ?_
              refine SO.load1 rfl Try.isAgg3 rfl rfl ?_
              refine SO.v rfl (opv_move rfl) ?_
              refine SO.v rfl (opv_add rfl rfl) ?_
              refine SO.v rfl (opv_gtr rfl rfl) ?_
              refine SO.v rfl (opv_move rfl) ?_
              refine SO.cut 7 111 (.bool ((decide (96 < (w64 (a0.NS + j18_1)))) || (decide (32 < (w64 (a0.NO + 1)))))) [Box bp0 [v0_Slots, v0_Objs, .int .i64 a0.NS, .int .i64 a0.NO], Box b55 [.int .i64 x47.Kind, .int .i64 x47.Size, .int .i64 x47.Used, .int .i64 x47.First, .int .i64 x47.Radix, .int .i64 x47.Wait, u52, .int .i64 x47.Word, .int .i64 x47.State, .int .i64 x47.Owing, .int .i64 x47.Badge, .int .i64 x47.Prio, .int .i64 x47.On, .int .i64 x47.Owes, .int .i64 x47.Root.Kind, .int .i64 x47.Root.Rights, .int .i64 x47.Root.Obj, .int .i64 x47.Root.Badge, .int .i64 x47.Root.Guard, .int .i64 x47.Root.Bits, .int .i64 x47.Pages.a0, .int .i64 x47.Pages.a1, .int .i64 x47.Pages.a2, .int .i64 x47.Pages.a3, .int .i64 x47.Right.a0, .int .i64 x47.Right.a1, .int .i64 x47.Right.a2, .int .i64 x47.Right.a3, .int .i64 x47.In, .int .i64 x47.Page, .int .i64 x47.Bound, .int .i64 x47.Mask], Box b16 [.int .i64 x7.Cap.Kind, .int .i64 x7.Cap.Rights, .int .i64 x7.Cap.Obj, .int .i64 x7.Cap.Badge, .int .i64 x7.Cap.Guard, .int .i64 x7.Cap.Bits], OwnO 38 kr_ref10_Obj v0_Objs raws17 A18 a0.Objs, OwnO 71 kr_ref10_Slot v0_Slots raws12 A13 a0.Slots, F] (fun l2 hk2 => ?_) ?_
              · rcases bool_or (decide (96 < (w64 (a0.NS + j18_1)))) with b58 | b58
                · refine SO.passF rfl rfl rfl b58 rfl rfl ?_
                  refine SO.passF rfl rfl rfl b58 rfl rfl ?_
                  refine SO.passF rfl rfl rfl b58 rfl rfl ?_
                  refine SO.passF rfl rfl rfl b58 rfl rfl ?_
                  refine SO.passF rfl rfl rfl b58 rfl rfl ?_
                  refine SO.passF rfl rfl rfl b58 rfl rfl ?_
                  refine SO.v rfl (opv_pick_t' b58 rfl rfl) ?_
                  refine SO.b5 ?_
                  refine SO.b5 ?_
                  refine SO.b5 ?_
                  refine SO.b5 ?_
                  refine SO.b5 ?_
                  refine SO.b5 ?_
                  exact hk2.fitc (m := 7) rfl (or_t b58) rfl
                · refine SO.takeT rfl rfl rfl b58 ?_
                  refine SO.v rfl (opv_move rfl) ?_
                  refine SO.takeT rfl rfl rfl b58 ?_
                  refine SO.v rfl (opv_nilCheck rfl) ?_
                  refine SO.takeT rfl rfl rfl b58 ?_
                  refine SO.v rfl (opv_fieldAddr Try.underlying42 rfl Try.sizeOf3 rfl rfl) ?_
                  refine SO.takeT rfl rfl rfl b58 ?_
                  refine SO.load1 rfl Try.isAgg3 rfl rfl ?_
                  refine SO.takeT rfl rfl rfl b58 ?_
                  refine SO.v rfl (opv_add rfl rfl) ?_
                  refine SO.takeT rfl rfl rfl b58 ?_
                  refine SO.v rfl (opv_gtr rfl rfl) ?_
                  refine SO.v rfl (opv_pick_f' b58 rfl rfl) ?_
                  refine SO.b5 ?_
                  refine SO.b5 ?_
                  refine SO.b5 ?_
                  refine SO.b5 ?_
                  refine SO.b5 ?_
                  refine SO.b5 ?_
                  exact hk2.fitc (m := 7) rfl (or_f b58) rfl
              refine SO.nil ?_
              refine S.to (ρ' := [(0, bp bp0 0), (1, .int .i64 a1), (2, .int .i64 a2), (3, .int .i64 a3), (4, .int .i64 a4), (10, .int .i64 0), (11, .int .i64 0), (14, bp b16 0), (16, .int .i64 t44), (17, bp b55 0), (18, .int .i64 j18_1), (111, .bool ((decide (96 < (w64 (a0.NS + j18_1)))) || (decide (32 < (w64 (a0.NO + 1))))))]) ⟨rfl, rfl, rfl, rfl, rfl, rfl, rfl, rfl, rfl, rfl, rfl, rfl, trivial⟩ ?_
              rcases bool_or ((decide (96 < (w64 (a0.NS + j18_1)))) || (decide (32 < (w64 (a0.NO + 1))))) with b59 | b59
              · replace h := cond_t b59 h
                refine S.condT rfl b59 ?_
                refine S.seq ?_
                refine S.region ?_
                refine SO.v rfl (opv_assign rfl) ?_
                refine SO.v rfl (opv_assign rfl) ?_
                refine SO.nil ?_
                refine S.to (ρ' := [(10, .int .i64 0), (11, .int .i64 7)]) ⟨rfl, rfl, trivial⟩ ?_
                cases h
                refine S.b3 ?_
                refine S.closeR ?_
                refine S.b4 ?_
                refine S.closeR ?_
                refine S.b3 ?_
                refine S.drop ?_
                refine S.b3 ?_
                refine S.drop ?_
                refine S.b3 ?_
                refine S.b2 ?_
                refine S.b2 ?_
                refine S.b3 ?_
                exact S.ret2 Try.func17 rfl rfl rfl (fun w hs hk => hR w _ _ ⟨v0_Slots, v0_Objs, rfl, rfl⟩ hs hk)
              · replace h := cond_f b59 h
                refine S.condF rfl b59 ?_
                refine S.skip ?_
                refine S.seq ?_
                obtain ⟨x60, hx61, h⟩ := opt_bind h
                obtain ⟨r62, hr63, hc64⟩ := relR.at hrel19 hx61
                refine S.draw' (Z := fun Q => ∀ (_ : Unit) (_ : Unit) (_ : Unit) (_ : Unit) (_ : Unit) (_ : Unit) (_ : Unit) (_ : Unit) (_ : Unit), Q [(0, bp bp0 0), (1, .int .i64 a1), (2, .int .i64 a2), (3, .int .i64 a3), (4, .int .i64 a4), (10, .int .i64 0), (11, .int .i64 0), (18, .int .i64 j18_1), (16, .int .i64 t44)] [Box bp0 [v0_Slots, v0_Objs, .int .i64 a0.NS, .int .i64 a0.NO], Box b55 [.int .i64 x47.Kind, .int .i64 x47.Size, .int .i64 x47.Used, .int .i64 x47.First, .int .i64 x47.Radix, .int .i64 x47.Wait, u52, .int .i64 x47.Word, .int .i64 x47.State, .int .i64 x47.Owing, .int .i64 x47.Badge, .int .i64 x47.Prio, .int .i64 x47.On, .int .i64 x47.Owes, .int .i64 x47.Root.Kind, .int .i64 x47.Root.Rights, .int .i64 x47.Root.Obj, .int .i64 x47.Root.Badge, .int .i64 x47.Root.Guard, .int .i64 x47.Root.Bits, .int .i64 x47.Pages.a0, .int .i64 x47.Pages.a1, .int .i64 x47.Pages.a2, .int .i64 x47.Pages.a3, .int .i64 x47.Right.a0, .int .i64 x47.Right.a1, .int .i64 x47.Right.a2, .int .i64 x47.Right.a3, .int .i64 x47.In, .int .i64 x47.Page, .int .i64 x47.Bound, .int .i64 x47.Mask], Box b16 [.int .i64 x7.Cap.Kind, .int .i64 x7.Cap.Rights, .int .i64 x7.Cap.Obj, .int .i64 x7.Cap.Badge, .int .i64 x7.Cap.Guard, .int .i64 x7.Cap.Bits], OwnR 38 kr_ref10_Obj v0_Objs (a0.Objs.set x7.Cap.Obj.toNat ({ x60 with Used := w64 (x47.Used + t44) } : ref10_Obj)), OwnO 71 kr_ref10_Slot v0_Slots raws12 A13 a0.Slots, F]) (T := [tS 0 (bp bp0 0), tS 14 (bp b16 0), tS 17 (bp b55 0), tS 16 (.int .i64 t44), tE [(1, .int .i64 a1), (2, .int .i64 a2), (3, .int .i64 a3), (4, .int .i64 a4), (10, .int .i64 0), (11, .int .i64 0), (18, .int .i64 j18_1)], tR (Box bp0 [v0_Slots, v0_Objs, .int .i64 a0.NS, .int .i64 a0.NO]), tR (Box b55 [.int .i64 x47.Kind, .int .i64 x47.Size, .int .i64 x47.Used, .int .i64 x47.First, .int .i64 x47.Radix, .int .i64 x47.Wait, u52, .int .i64 x47.Word, .int .i64 x47.State, .int .i64 x47.Owing, .int .i64 x47.Badge, .int .i64 x47.Prio, .int .i64 x47.On, .int .i64 x47.Owes, .int .i64 x47.Root.Kind, .int .i64 x47.Root.Rights, .int .i64 x47.Root.Obj, .int .i64 x47.Root.Badge, .int .i64 x47.Root.Guard, .int .i64 x47.Root.Bits, .int .i64 x47.Pages.a0, .int .i64 x47.Pages.a1, .int .i64 x47.Pages.a2, .int .i64 x47.Pages.a3, .int .i64 x47.Right.a0, .int .i64 x47.Right.a1, .int .i64 x47.Right.a2, .int .i64 x47.Right.a3, .int .i64 x47.In, .int .i64 x47.Page, .int .i64 x47.Bound, .int .i64 x47.Mask]), tR (Box b16 [.int .i64 x7.Cap.Kind, .int .i64 x7.Cap.Rights, .int .i64 x7.Cap.Obj, .int .i64 x7.Cap.Badge, .int .i64 x7.Cap.Guard, .int .i64 x7.Cap.Bits]), tR (OwnO 38 kr_ref10_Obj v0_Objs raws17 A18 a0.Objs), tR (OwnO 71 kr_ref10_Slot v0_Slots raws12 A13 a0.Slots), tR (F), tS 112 (bp bp0 0), tS 113 (bp bp0 0), tS 114 (bp bp0 1), tS 115 (v0_Objs), tS 116 (bp b16 2), tS 117 (.int .i64 x7.Cap.Obj), tS 118 (bp b55 2), tS 119 (.int .i64 x47.Used), tS 120 (.int .i64 t44), tS 121 (.int .i64 (w64 (x47.Used + t44))), tS 122 (idxp v0_Objs (x7.Cap.Obj.toNat * kr_ref10_Obj.sz)), tS 123 (idxp v0_Objs (x7.Cap.Obj.toNat * kr_ref10_Obj.sz + 2)), tR (OwnR 38 kr_ref10_Obj v0_Objs (a0.Objs.set x7.Cap.Obj.toNat ({ x60 with Used := w64 (x47.Used + t44) } : ref10_Obj)))]) (D := [⟨[0], [], [11]⟩, ⟨[11], [], [12]⟩, ⟨[12], [], [13]⟩, ⟨[13, 5], [], [14]⟩, ⟨[1], [], [15]⟩, ⟨[15, 7], [], [16]⟩, ⟨[2], [], [17]⟩, ⟨[17, 6], [], [18]⟩, ⟨[3], [], [19]⟩, ⟨[18, 19], [], [20]⟩, ⟨[14, 16, 8], [], [21]⟩, ⟨[21, 8], [], [22]⟩, ⟨[20, 22], [8], [23]⟩]) (ini := [0, 1, 2, 3, 4, 5, 6, 7, 8, 9, 10]) (fin := [0, 4, 3, 5, 6, 7, 23, 9, 10]) (bf := [[], [0], [0, 1], [0, 1, 2], [], [4], [], [6], [], [6, 7, 8], [0, 1, 2, 3, 4, 5, 6, 7, 8, 9], [0, 1, 2, 3, 4, 5, 6, 7, 8, 9, 10], [0, 1, 2, 3, 4, 5, 6, 7, 8, 9, 10, 11]]) (by kernel_rfl) (by kernel_rfl) (fun x w h1 h2 => (.cons () (.cons () (.cons () (.cons () (.cons () (.cons () (.cons () (.cons () (.cons () (.cons () (.cons () (.nil ⟨EnvAll.of h1 ⟨rfl, rfl, rfl, rfl, rfl, rfl, rfl, rfl, rfl, rfl, rfl, trivial⟩, h2⟩))))))))))))) (fun Q => by kernel_rfl) ⟨?_, ?_, ?_, ?_, ?_, ?_, ?_, ?_, ?_, ?_, ?_, ?_, ?_, trivial⟩ ?_
                · rintro Fr _
                  refine SO.v rfl (opv_move rfl) ?_
                  exact SO.nilZ fun a w h1 h2 h3 h4 h5 => PZ.of h1 h3 h5 (.cons () (.cons () (.nil ⟨EnvAll.of h2 ⟨rfl, rfl, trivial⟩, h4⟩)))
                · rintro Fr _
                  refine SO.v rfl (opv_nilCheck rfl) ?_
                  exact SO.nilZ fun a w h1 h2 h3 h4 h5 => PZ.of h1 h3 h5 (.cons () (.cons () (.nil ⟨EnvAll.of h2 ⟨rfl, rfl, trivial⟩, h4⟩)))
                · rintro Fr _
                  refine SO.v rfl (opv_fieldAddr Try.underlying42 rfl Try.sizeOf40 rfl rfl) ?_
                  exact SO.nilZ fun a w h1 h2 h3 h4 h5 => PZ.of h1 h3 h5 (.cons () (.cons () (.nil ⟨EnvAll.of h2 ⟨rfl, rfl, trivial⟩, h4⟩)))
                · rintro Fr _ _
                  refine SO.load1 rfl Try.isAgg40 rfl rfl ?_
                  exact SO.nilZ fun a w h1 h2 h3 h4 h5 => PZ.of h1 h3 h5 (.cons () (.cons () (.cons () (.nil ⟨EnvAll.of h2 ⟨rfl, rfl, trivial⟩, h4⟩))))
                · rintro Fr _
                  refine SO.v rfl (opv_fieldAddr Try.underlying24 rfl Try.sizeOf3 rfl rfl) ?_
                  exact SO.nilZ fun a w h1 h2 h3 h4 h5 => PZ.of h1 h3 h5 (.cons () (.cons () (.nil ⟨EnvAll.of h2 ⟨rfl, rfl, trivial⟩, h4⟩)))
                · rintro Fr _ _
                  refine SO.load1 rfl Try.isAgg3 rfl rfl ?_
                  exact SO.nilZ fun a w h1 h2 h3 h4 h5 => PZ.of h1 h3 h5 (.cons () (.cons () (.cons () (.nil ⟨EnvAll.of h2 ⟨rfl, rfl, trivial⟩, h4⟩))))
                · rintro Fr _
                  refine SO.v rfl (opv_fieldAddr Try.underlying38 rfl Try.sizeOf3 rfl rfl) ?_
                  exact SO.nilZ fun a w h1 h2 h3 h4 h5 => PZ.of h1 h3 h5 (.cons () (.cons () (.nil ⟨EnvAll.of h2 ⟨rfl, rfl, trivial⟩, h4⟩)))
                · rintro Fr _ _
                  refine SO.load1 rfl Try.isAgg3 rfl rfl ?_
                  exact SO.nilZ fun a w h1 h2 h3 h4 h5 => PZ.of h1 h3 h5 (.cons () (.cons () (.cons () (.nil ⟨EnvAll.of h2 ⟨rfl, rfl, trivial⟩, h4⟩))))
                · rintro Fr _
                  refine SO.v rfl (opv_move rfl) ?_
                  exact SO.nilZ fun a w h1 h2 h3 h4 h5 => PZ.of h1 h3 h5 (.cons () (.cons () (.nil ⟨EnvAll.of h2 ⟨rfl, rfl, trivial⟩, h4⟩)))
                · rintro Fr _ _
                  refine SO.v rfl (opv_add rfl rfl) ?_
                  exact SO.nilZ fun a w h1 h2 h3 h4 h5 => PZ.of h1 h3 h5 (.cons () (.cons () (.cons () (.nil ⟨EnvAll.of h2 ⟨rfl, rfl, rfl, trivial⟩, h4⟩))))
                · rintro Fr _ _ _
                  refine SO.v rfl (opv_idx Try.underlying40 Try.sizeOf38 hR20 rfl rfl hr63) ?_
                  exact SO.nilZ fun a w h1 h2 h3 h4 h5 => PZ.of h1 h3 h5 (.cons () (.cons () (.cons () (.cons () (.nil ⟨EnvAll.of h2 ⟨rfl, rfl, rfl, trivial⟩, h4⟩)))))
                · rintro Fr _ _
                  refine SO.v rfl (opv_fieldIdx Try.underlying38 rfl Try.sizeOf3 hR20 hr63 rfl rfl) ?_
                  exact SO.nilZ fun a w h1 h2 h3 h4 h5 => PZ.of h1 h3 h5 (.cons () (.cons () (.cons () (.nil ⟨EnvAll.of h2 ⟨rfl, rfl, trivial⟩, h4⟩))))
                · rintro Fr _ _ _
                  refine SO.storeO1 (j := 2) (q := .val (.int .i64 (w64 (x47.Used + t44)))) (z' := ({ x60 with Used := w64 (x47.Used + t44) } : ref10_Obj)) Try.sizeOf3 hrel19 hx61 rfl rfl rfl rfl rfl rfl rfl (fun raws65 hrel66 hR67 => ?_)
                  refine SO.closeR ?_
                  exact SO.nilZ fun a w h1 h2 h3 h4 h5 => PZ.of h1 h3 h5 (.cons () (.cons () (.cons () (.nil ⟨EnvAll.of h2 ⟨rfl, rfl, trivial⟩, h4⟩))))
                rintro _ _ _ _ _ _ _ _ _
                refine S.to (ρ' := [(0, bp bp0 0), (1, .int .i64 a1), (2, .int .i64 a2), (3, .int .i64 a3), (4, .int .i64 a4), (10, .int .i64 0), (11, .int .i64 0), (18, .int .i64 j18_1), (16, .int .i64 t44)]) ⟨rfl, rfl, rfl, rfl, rfl, rfl, rfl, rfl, rfl, trivial⟩ ?_
                refine S.seq ?_
                refine S.region ?_
                refine SO.v rfl (opv_move rfl) ?_
                obtain ⟨t68, ht69, h⟩ := opt_bind h
                refine SO.call (pre := []) rfl Try.call27 rfl rfl rfl (ref10_Fresh.ct _ _ ht69) trivial ?_
                rintro _ _ ⟨u70_Queue, rfl, rfl⟩
                refine SO.rd fun hr71 => ?_
                refine SO.alloc rfl Try.zeroValue38 rfl (fun b72 => ?_)
                refine SO.storeN Try.sizeOf38 rfl rfl (all1 rfl (all1 rfl (all1 rfl (all1 rfl (all1 rfl (all1 rfl (all1 (Rd.one hr71) (all1 rfl (all1 rfl (all1 rfl (all1 rfl (all1 rfl (all1 rfl (all1 rfl (all1 rfl (all1 rfl (all1 rfl (all1 rfl (all1 rfl (all1 rfl (all1 rfl (all1 rfl (all1 rfl (all1 rfl (all1 rfl (all1 rfl (all1 rfl (all1 rfl (all1 rfl (all1 rfl (all1 rfl (all1 rfl rfl)))))))))))))))))))))))))))))))) rfl rfl rfl ?_
                refine SO.nil ?_
                refine S.seq ?_
                refine S.seq ?_
                refine S.region ?_
                refine SO.v rfl (opv_move rfl) ?_
                refine SO.v rfl (opv_eql rfl rfl) ?_
                refine SO.nil ?_
                obtain ⟨y72_1_2, hC2, hJ2⟩ := opt_bind h
                clear h
                refine S.cutP (G := Unit) (fun _ => True) (fun _ => [(0, bp bp0 0), (1, .int .i64 a1), (2, .int .i64 a2), (3, .int .i64 a3), (4, .int .i64 a4), (10, .int .i64 0), (11, .int .i64 0), (18, .int .i64 j18_1), (19, bp b72 0)]) (fun _ => [Box b72 [.int .i64 t68.Kind, .int .i64 y72_1_2, .int .i64 t68.Used, .int .i64 t68.First, .int .i64 t68.Radix, .int .i64 t68.Wait, u70_Queue, .int .i64 t68.Word, .int .i64 t68.State, .int .i64 t68.Owing, .int .i64 t68.Badge, .int .i64 t68.Prio, .int .i64 t68.On, .int .i64 t68.Owes, .int .i64 t68.Root.Kind, .int .i64 t68.Root.Rights, .int .i64 t68.Root.Obj, .int .i64 t68.Root.Badge, .int .i64 t68.Root.Guard, .int .i64 t68.Root.Bits, .int .i64 t68.Pages.a0, .int .i64 t68.Pages.a1, .int .i64 t68.Pages.a2, .int .i64 t68.Pages.a3, .int .i64 t68.Right.a0, .int .i64 t68.Right.a1, .int .i64 t68.Right.a2, .int .i64 t68.Right.a3, .int .i64 t68.In, .int .i64 t68.Page, .int .i64 t68.Bound, .int .i64 t68.Mask], Own 3 (ekI .i64) u70_Queue t68.Queue, Box bp0 [v0_Slots, v0_Objs, .int .i64 a0.NS, .int .i64 a0.NO], Box b55 [.int .i64 x47.Kind, .int .i64 x47.Size, .int .i64 x47.Used, .int .i64 x47.First, .int .i64 x47.Radix, .int .i64 x47.Wait, u52, .int .i64 x47.Word, .int .i64 x47.State, .int .i64 x47.Owing, .int .i64 x47.Badge, .int .i64 x47.Prio, .int .i64 x47.On, .int .i64 x47.Owes, .int .i64 x47.Root.Kind, .int .i64 x47.Root.Rights, .int .i64 x47.Root.Obj, .int .i64 x47.Root.Badge, .int .i64 x47.Root.Guard, .int .i64 x47.Root.Bits, .int .i64 x47.Pages.a0, .int .i64 x47.Pages.a1, .int .i64 x47.Pages.a2, .int .i64 x47.Pages.a3, .int .i64 x47.Right.a0, .int .i64 x47.Right.a1, .int .i64 x47.Right.a2, .int .i64 x47.Right.a3, .int .i64 x47.In, .int .i64 x47.Page, .int .i64 x47.Bound, .int .i64 x47.Mask], Box b16 [.int .i64 x7.Cap.Kind, .int .i64 x7.Cap.Rights, .int .i64 x7.Cap.Obj, .int .i64 x7.Cap.Badge, .int .i64 x7.Cap.Guard, .int .i64 x7.Cap.Bits], OwnR 38 kr_ref10_Obj v0_Objs (a0.Objs.set x7.Cap.Obj.toNat ({ x60 with Used := w64 (x47.Used + t44) } : ref10_Obj)), OwnO 71 kr_ref10_Slot v0_Slots raws12 A13 a0.Slots, F]) (fun hk2 => ?_) ?_
                · replace h := hC2
                  rcases bool_or (a3 == 1) with b73 | b73
                  · replace h := cond_t b73 h
                    refine S.condT rfl b73 ?_
                    refine S.region ?_
                    refine SO.v rfl (opv_move rfl) ?_
                    refine SO.v rfl (opv_sub rfl rfl) ?_
                    refine SO.v rfl (opv_fieldAddr Try.underlying38 rfl Try.sizeOf3 rfl rfl) ?_
                    refine SO.store1 Try.sizeOf3 rfl rfl rfl rfl ?_
                    refine SO.nil ?_
                    refine S.to (ρ' := [(0, bp bp0 0), (1, .int .i64 a1), (2, .int .i64 a2), (3, .int .i64 a3), (4, .int .i64 a4), (10, .int .i64 0), (11, .int .i64 0), (18, .int .i64 j18_1), (19, bp b72 0)]) ⟨rfl, rfl, rfl, rfl, rfl, rfl, rfl, rfl, rfl, trivial⟩ ?_
                    cases h
                    refine S.b7 ?_
                    refine S.b7 ?_
                    refine S.b7 ?_
                    refine S.b7 ?_
                    refine S.b7 ?_
                    refine S.b7 ?_
                    refine S.b7 ?_
                    refine S.b7 ?_
                    refine S.to ?_ (hk2 () trivial)
                    exact ⟨rfl, rfl, rfl, rfl, rfl, rfl, rfl, rfl, rfl, trivial⟩
                  · replace h := cond_f b73 h
                    refine S.condF rfl b73 ?_
                    refine S.skip ?_
                    cases h
                    refine S.b7 ?_
                    refine S.b7 ?_
                    refine S.b7 ?_
                    refine S.b7 ?_
                    refine S.b7 ?_
                    refine S.b7 ?_
                    refine S.b7 ?_
                    refine S.b7 ?_
                    refine S.to ?_ (hk2 () trivial)
                    exact ⟨rfl, rfl, rfl, rfl, rfl, rfl, rfl, rfl, rfl, trivial⟩
                rintro _ -
                replace h := hJ2
                refine S.seq ?_
                refine S.seq ?_
                refine S.region ?_
                refine SO.v rfl (opv_move rfl) ?_
                refine SO.v rfl (opv_eql rfl rfl) ?_
                refine SO.nil ?_
                obtain ⟨⟨y72_3_3, y72_4_3⟩, hC3, hJ3⟩ := opt_bind h
                clear h
                refine S.cutP (G := Unit) (fun _ => True) (fun _ => [(0, bp bp0 0), (1, .int .i64 a1), (2, .int .i64 a2), (3, .int .i64 a3), (10, .int .i64 0), (11, .int .i64 0), (18, .int .i64 j18_1), (19, bp b72 0)]) (fun _ => [Box b72 [.int .i64 t68.Kind, .int .i64 y72_1_2, .int .i64 t68.Used, .int .i64 y72_3_3, .int .i64 y72_4_3, .int .i64 t68.Wait, u70_Queue, .int .i64 t68.Word, .int .i64 t68.State, .int .i64 t68.Owing, .int .i64 t68.Badge, .int .i64 t68.Prio, .int .i64 t68.On, .int .i64 t68.Owes, .int .i64 t68.Root.Kind, .int .i64 t68.Root.Rights, .int .i64 t68.Root.Obj, .int .i64 t68.Root.Badge, .int .i64 t68.Root.Guard, .int .i64 t68.Root.Bits, .int .i64 t68.Pages.a0, .int .i64 t68.Pages.a1, .int .i64 t68.Pages.a2, .int .i64 t68.Pages.a3, .int .i64 t68.Right.a0, .int .i64 t68.Right.a1, .int .i64 t68.Right.a2, .int .i64 t68.Right.a3, .int .i64 t68.In, .int .i64 t68.Page, .int .i64 t68.Bound, .int .i64 t68.Mask], Own 3 (ekI .i64) u70_Queue t68.Queue, Box bp0 [v0_Slots, v0_Objs, .int .i64 a0.NS, .int .i64 a0.NO], Box b55 [.int .i64 x47.Kind, .int .i64 x47.Size, .int .i64 x47.Used, .int .i64 x47.First, .int .i64 x47.Radix, .int .i64 x47.Wait, u52, .int .i64 x47.Word, .int .i64 x47.State, .int .i64 x47.Owing, .int .i64 x47.Badge, .int .i64 x47.Prio, .int .i64 x47.On, .int .i64 x47.Owes, .int .i64 x47.Root.Kind, .int .i64 x47.Root.Rights, .int .i64 x47.Root.Obj, .int .i64 x47.Root.Badge, .int .i64 x47.Root.Guard, .int .i64 x47.Root.Bits, .int .i64 x47.Pages.a0, .int .i64 x47.Pages.a1, .int .i64 x47.Pages.a2, .int .i64 x47.Pages.a3, .int .i64 x47.Right.a0, .int .i64 x47.Right.a1, .int .i64 x47.Right.a2, .int .i64 x47.Right.a3, .int .i64 x47.In, .int .i64 x47.Page, .int .i64 x47.Bound, .int .i64 x47.Mask], Box b16 [.int .i64 x7.Cap.Kind, .int .i64 x7.Cap.Rights, .int .i64 x7.Cap.Obj, .int .i64 x7.Cap.Badge, .int .i64 x7.Cap.Guard, .int .i64 x7.Cap.Bits], OwnR 38 kr_ref10_Obj v0_Objs (a0.Objs.set x7.Cap.Obj.toNat ({ x60 with Used := w64 (x47.Used + t44) } : ref10_Obj)), OwnO 71 kr_ref10_Slot v0_Slots raws12 A13 a0.Slots, F]) (fun hk3 => ?_) ?_
                · replace h := hC3
                  rcases bool_or (a3 == 2) with b74 | b74
                  · replace h := cond_t b74 h
                    refine S.condT rfl b74 ?_
                    refine S.seq ?_
                    refine S.region ?_
                    refine SO.v rfl (opv_move rfl) ?_
                    refine SO.v rfl (opv_nilCheck rfl) ?_
                    refine SO.v rfl (opv_fieldAddr Try.underlying42 rfl Try.sizeOf3 rfl rfl) ?_
                    refine SO.b2 ?_
                    refine SO.load1 rfl Try.isAgg3 rfl rfl ?_
                    refine SO.v rfl (opv_fieldAddr Try.underlying38 rfl Try.sizeOf3 rfl rfl) ?_
                    refine SO.b1 ?_
                    refine SO.store1 Try.sizeOf3 rfl rfl rfl rfl ?_
                    refine SO.nil ?_
                    refine S.to (ρ' := [(0, bp bp0 0), (1, .int .i64 a1), (2, .int .i64 a2), (3, .int .i64 a3), (4, .int .i64 a4), (10, .int .i64 0), (11, .int .i64 0), (18, .int .i64 j18_1), (19, bp b72 0)]) ⟨rfl, rfl, rfl, rfl, rfl, rfl, rfl, rfl, rfl, trivial⟩ ?_
                    refine S.region ?_
                    refine SO.v rfl (opv_move rfl) ?_
                    refine SO.v rfl (opv_fieldAddr Try.underlying38 rfl Try.sizeOf3 rfl rfl) ?_
                    refine SO.store1 Try.sizeOf3 rfl rfl rfl rfl ?_
                    refine SO.nil ?_
                    cases h
                    refine S.b7 ?_
                    refine S.b7 ?_
                    refine S.b7 ?_
                    refine S.b7 ?_
                    refine S.b7 ?_
                    refine S.b6 ?_
                    refine S.b7 ?_
                    refine S.b7 ?_
                    refine S.to ?_ (hk3 () trivial)
                    exact ⟨rfl, rfl, rfl, rfl, rfl, rfl, rfl, rfl, trivial⟩
                  · replace h := cond_f b74 h
                    refine S.condF rfl b74 ?_
                    refine S.skip ?_
                    cases h
                    refine S.b7 ?_
                    refine S.b7 ?_
                    refine S.b7 ?_
                    refine S.b7 ?_
                    refine S.b7 ?_
                    refine S.b7 ?_
                    refine S.b7 ?_
                    refine S.b7 ?_
                    refine S.to ?_ (hk3 () trivial)
                    exact ⟨rfl, rfl, rfl, rfl, rfl, rfl, rfl, rfl, trivial⟩
                rintro _ -
                replace h := hJ3
                refine S.seq ?_
                refine S.region ?_
                refine SO.v rfl (opv_move rfl) ?_
                refine SO.v rfl (opv_nilCheck rfl) ?_
                refine SO.v rfl (opv_fieldAddr Try.underlying42 rfl Try.sizeOf3 rfl rfl) ?_
                refine SO.b2 ?_
                refine SO.load1 rfl Try.isAgg3 rfl rfl ?_
                refine SO.v rfl (opv_assign rfl) ?_
                refine SO.nil ?_
                refine S.seq ?_
                refine S.b5 ?_
                refine S.openR fun raws75 A76 hrel77 hR78 => ?_
                obtain ⟨x79, hx80, h⟩ := opt_bind h
                obtain ⟨r81, hr82, hc83⟩ := relR.at hrel77 hx80
                refine S.draw' (Z := fun Q => ∀ (_ : Unit) (_ : Unit) (_ : Unit) (_ : Unit) (_ : Unit) (_ : Unit) (_ : Unit) (_ : Unit) (_ : Unit) (_ : Unit), Q [(0, bp bp0 0), (1, .int .i64 a1), (2, .int .i64 a2), (3, .int .i64 a3), (10, .int .i64 0), (11, .int .i64 0), (18, .int .i64 j18_1), (20, .int .i64 a0.NO)] [OwnR 38 kr_ref10_Obj v0_Objs ((a0.Objs.set x7.Cap.Obj.toNat ({ x60 with Used := w64 (x47.Used + t44) } : ref10_Obj)).set a0.NO.toNat ({ t68 with Size := y72_1_2, First := y72_3_3, Radix := y72_4_3 } : ref10_Obj)), Box bp0 [v0_Slots, v0_Objs, .int .i64 a0.NS, .int .i64 a0.NO], Box b72 [.int .i64 t68.Kind, .int .i64 y72_1_2, .int .i64 t68.Used, .int .i64 y72_3_3, .int .i64 y72_4_3, .int .i64 t68.Wait, u70_Queue, .int .i64 t68.Word, .int .i64 t68.State, .int .i64 t68.Owing, .int .i64 t68.Badge, .int .i64 t68.Prio, .int .i64 t68.On, .int .i64 t68.Owes, .int .i64 t68.Root.Kind, .int .i64 t68.Root.Rights, .int .i64 t68.Root.Obj, .int .i64 t68.Root.Badge, .int .i64 t68.Root.Guard, .int .i64 t68.Root.Bits, .int .i64 t68.Pages.a0, .int .i64 t68.Pages.a1, .int .i64 t68.Pages.a2, .int .i64 t68.Pages.a3, .int .i64 t68.Right.a0, .int .i64 t68.Right.a1, .int .i64 t68.Right.a2, .int .i64 t68.Right.a3, .int .i64 t68.In, .int .i64 t68.Page, .int .i64 t68.Bound, .int .i64 t68.Mask], Box b55 [.int .i64 x47.Kind, .int .i64 x47.Size, .int .i64 x47.Used, .int .i64 x47.First, .int .i64 x47.Radix, .int .i64 x47.Wait, u52, .int .i64 x47.Word, .int .i64 x47.State, .int .i64 x47.Owing, .int .i64 x47.Badge, .int .i64 x47.Prio, .int .i64 x47.On, .int .i64 x47.Owes, .int .i64 x47.Root.Kind, .int .i64 x47.Root.Rights, .int .i64 x47.Root.Obj, .int .i64 x47.Root.Badge, .int .i64 x47.Root.Guard, .int .i64 x47.Root.Bits, .int .i64 x47.Pages.a0, .int .i64 x47.Pages.a1, .int .i64 x47.Pages.a2, .int .i64 x47.Pages.a3, .int .i64 x47.Right.a0, .int .i64 x47.Right.a1, .int .i64 x47.Right.a2, .int .i64 x47.Right.a3, .int .i64 x47.In, .int .i64 x47.Page, .int .i64 x47.Bound, .int .i64 x47.Mask], Box b16 [.int .i64 x7.Cap.Kind, .int .i64 x7.Cap.Rights, .int .i64 x7.Cap.Obj, .int .i64 x7.Cap.Badge, .int .i64 x7.Cap.Guard, .int .i64 x7.Cap.Bits], OwnO 71 kr_ref10_Slot v0_Slots raws12 A13 a0.Slots, F]) (T := [tS 0 (bp bp0 0), tS 20 (.int .i64 a0.NO), tS 19 (bp b72 0), tE [(1, .int .i64 a1), (2, .int .i64 a2), (3, .int .i64 a3), (10, .int .i64 0), (11, .int .i64 0), (18, .int .i64 j18_1)], tR (OwnO 38 kr_ref10_Obj v0_Objs raws75 A76 (a0.Objs.set x7.Cap.Obj.toNat ({ x60 with Used := w64 (x47.Used + t44) } : ref10_Obj))), tR (Box bp0 [v0_Slots, v0_Objs, .int .i64 a0.NS, .int .i64 a0.NO]), tR (Box b72 [.int .i64 t68.Kind, .int .i64 y72_1_2, .int .i64 t68.Used, .int .i64 y72_3_3, .int .i64 y72_4_3, .int .i64 t68.Wait, u70_Queue, .int .i64 t68.Word, .int .i64 t68.State, .int .i64 t68.Owing, .int .i64 t68.Badge, .int .i64 t68.Prio, .int .i64 t68.On, .int .i64 t68.Owes, .int .i64 t68.Root.Kind, .int .i64 t68.Root.Rights, .int .i64 t68.Root.Obj, .int .i64 t68.Root.Badge, .int .i64 t68.Root.Guard, .int .i64 t68.Root.Bits, .int .i64 t68.Pages.a0, .int .i64 t68.Pages.a1, .int .i64 t68.Pages.a2, .int .i64 t68.Pages.a3, .int .i64 t68.Right.a0, .int .i64 t68.Right.a1, .int .i64 t68.Right.a2, .int .i64 t68.Right.a3, .int .i64 t68.In, .int .i64 t68.Page, .int .i64 t68.Bound, .int .i64 t68.Mask]), tR (Own 3 (ekI .i64) u70_Queue t68.Queue), tR (Box b55 [.int .i64 x47.Kind, .int .i64 x47.Size, .int .i64 x47.Used, .int .i64 x47.First, .int .i64 x47.Radix, .int .i64 x47.Wait, u52, .int .i64 x47.Word, .int .i64 x47.State, .int .i64 x47.Owing, .int .i64 x47.Badge, .int .i64 x47.Prio, .int .i64 x47.On, .int .i64 x47.Owes, .int .i64 x47.Root.Kind, .int .i64 x47.Root.Rights, .int .i64 x47.Root.Obj, .int .i64 x47.Root.Badge, .int .i64 x47.Root.Guard, .int .i64 x47.Root.Bits, .int .i64 x47.Pages.a0, .int .i64 x47.Pages.a1, .int .i64 x47.Pages.a2, .int .i64 x47.Pages.a3, .int .i64 x47.Right.a0, .int .i64 x47.Right.a1, .int .i64 x47.Right.a2, .int .i64 x47.Right.a3, .int .i64 x47.In, .int .i64 x47.Page, .int .i64 x47.Bound, .int .i64 x47.Mask]), tR (Box b16 [.int .i64 x7.Cap.Kind, .int .i64 x7.Cap.Rights, .int .i64 x7.Cap.Obj, .int .i64 x7.Cap.Badge, .int .i64 x7.Cap.Guard, .int .i64 x7.Cap.Bits]), tR (OwnO 71 kr_ref10_Slot v0_Slots raws12 A13 a0.Slots), tR (F), tS 144 (bp bp0 0), tS 145 (bp bp0 0), tS 146 (bp bp0 1), tS 147 (v0_Objs), tS 148 (.int .i64 a0.NO), tS 149 (.agg #[.int .i64 t68.Kind, .int .i64 y72_1_2, .int .i64 t68.Used, .int .i64 y72_3_3, .int .i64 y72_4_3, .int .i64 t68.Wait, u70_Queue, .int .i64 t68.Word, .int .i64 t68.State, .int .i64 t68.Owing, .int .i64 t68.Badge, .int .i64 t68.Prio, .int .i64 t68.On, .int .i64 t68.Owes, .int .i64 t68.Root.Kind, .int .i64 t68.Root.Rights, .int .i64 t68.Root.Obj, .int .i64 t68.Root.Badge, .int .i64 t68.Root.Guard, .int .i64 t68.Root.Bits, .int .i64 t68.Pages.a0, .int .i64 t68.Pages.a1, .int .i64 t68.Pages.a2, .int .i64 t68.Pages.a3, .int .i64 t68.Right.a0, .int .i64 t68.Right.a1, .int .i64 t68.Right.a2, .int .i64 t68.Right.a3, .int .i64 t68.In, .int .i64 t68.Page, .int .i64 t68.Bound, .int .i64 t68.Mask]), tS 150 (idxp v0_Objs (a0.NO.toNat * kr_ref10_Obj.sz)), tR (OwnR 38 kr_ref10_Obj v0_Objs ((a0.Objs.set x7.Cap.Obj.toNat ({ x60 with Used := w64 (x47.Used + t44) } : ref10_Obj)).set a0.NO.toNat ({ t68 with Size := y72_1_2, First := y72_3_3, Radix := y72_4_3 } : ref10_Obj)))]) (D := [⟨[0], [], [12]⟩, ⟨[12], [], [13]⟩, ⟨[13], [], [14]⟩, ⟨[14, 5], [], [15]⟩, ⟨[1], [], [16]⟩, ⟨[2, 6], [], [17]⟩, ⟨[15, 16, 4], [], [18]⟩, ⟨[17, 18], [4, 7], [19]⟩]) (ini := [0, 1, 2, 3, 4, 5, 6, 7, 8, 9, 10, 11]) (fin := [0, 3, 1, 19, 5, 6, 8, 9, 10, 11]) (bf := [[], [0], [0, 1], [0, 1, 2], [], [], [0, 1, 2, 3, 4, 5], [0, 1, 2, 3, 4, 5, 6]]) (by kernel_rfl) (by kernel_rfl) (fun x w h1 h2 => (.cons () (.cons () (.cons () (.cons () (.cons () (.cons () (.cons () (.cons () (.cons () (.cons () (.cons () (.cons () (.nil ⟨EnvAll.of h1 ⟨rfl, rfl, rfl, rfl, rfl, rfl, rfl, rfl, rfl, trivial⟩, h2⟩)))))))))))))) (fun Q => by kernel_rfl) ⟨?_, ?_, ?_, ?_, ?_, ?_, ?_, ?_, trivial⟩ ?_
                · rintro Fr _
                  refine SO.v rfl (opv_move rfl) ?_
                  exact SO.nilZ fun a w h1 h2 h3 h4 h5 => PZ.of h1 h3 h5 (.cons () (.cons () (.nil ⟨EnvAll.of h2 ⟨rfl, rfl, trivial⟩, h4⟩)))
                · rintro Fr _
                  refine SO.v rfl (opv_nilCheck rfl) ?_
                  exact SO.nilZ fun a w h1 h2 h3 h4 h5 => PZ.of h1 h3 h5 (.cons () (.cons () (.nil ⟨EnvAll.of h2 ⟨rfl, rfl, trivial⟩, h4⟩)))
                · rintro Fr _
                  refine SO.v rfl (opv_fieldAddr Try.underlying42 rfl Try.sizeOf40 rfl rfl) ?_
                  exact SO.nilZ fun a w h1 h2 h3 h4 h5 => PZ.of h1 h3 h5 (.cons () (.cons () (.nil ⟨EnvAll.of h2 ⟨rfl, rfl, trivial⟩, h4⟩)))
                · rintro Fr _ _
                  refine SO.load1 rfl Try.isAgg40 rfl rfl ?_
                  exact SO.nilZ fun a w h1 h2 h3 h4 h5 => PZ.of h1 h3 h5 (.cons () (.cons () (.cons () (.nil ⟨EnvAll.of h2 ⟨rfl, rfl, trivial⟩, h4⟩))))
                · rintro Fr _
                  refine SO.v rfl (opv_move rfl) ?_
                  exact SO.nilZ fun a w h1 h2 h3 h4 h5 => PZ.of h1 h3 h5 (.cons () (.cons () (.nil ⟨EnvAll.of h2 ⟨rfl, rfl, trivial⟩, h4⟩)))
                · rintro Fr _ _
                  refine SO.loadN rfl Try.isAgg38 Try.sizeOf38 rfl rfl rfl ?_
                  exact SO.nilZ fun a w h1 h2 h3 h4 h5 => PZ.of h1 h3 h5 (.cons () (.cons () (.cons () (.nil ⟨EnvAll.of h2 ⟨rfl, rfl, trivial⟩, h4⟩))))
                · rintro Fr _ _ _
                  refine SO.v rfl (opv_idx Try.underlying40 Try.sizeOf38 hR78 rfl rfl hr82) ?_
                  exact SO.nilZ fun a w h1 h2 h3 h4 h5 => PZ.of h1 h3 h5 (.cons () (.cons () (.cons () (.cons () (.nil ⟨EnvAll.of h2 ⟨rfl, rfl, rfl, trivial⟩, h4⟩)))))
                · rintro Fr _ _ _ _
                  refine SO.b1 ?_
                  refine SO.freeze hrel77 fun A84 hcov85 hru86 hrel87 hR88 => ?_
                  refine SO.storeON (z' := ({ t68 with Size := y72_1_2, First := y72_3_3, Radix := y72_4_3 } : ref10_Obj)) Try.sizeOf38 hrel87 hx80 rfl rfl rfl ⟨rfl, rfl, rfl, rfl, rfl, rfl, hru86, rfl, rfl, rfl, rfl, rfl, rfl, rfl, rfl, rfl, rfl, rfl, rfl, rfl, rfl, rfl, rfl, rfl, rfl, rfl, rfl, rfl, rfl, rfl, rfl, rfl, trivial⟩ (fun raws89 hrel90 hR91 => ?_)
                  refine SO.closeR ?_
                  exact SO.nilZ fun a w h1 h2 h3 h4 h5 => PZ.of h1 h3 h5 (.cons () (.cons () (.cons () (.nil ⟨EnvAll.of h2 ⟨rfl, rfl, trivial⟩, h4⟩))))
                rintro _ _ _ _ _ _ _ _ _ _
                refine S.to (ρ' := [(0, bp bp0 0), (1, .int .i64 a1), (2, .int .i64 a2), (3, .int .i64 a3), (10, .int .i64 0), (11, .int .i64 0), (18, .int .i64 j18_1), (20, .int .i64 a0.NO)]) ⟨rfl, rfl, rfl, rfl, rfl, rfl, rfl, rfl, trivial⟩ ?_
                refine S.seq ?_
                refine S.region ?_
                refine SO.v rfl (opv_move rfl) ?_
                refine SO.v rfl (opv_move rfl) ?_
                refine SO.v rfl (opv_nilCheck rfl) ?_
                refine SO.v rfl (opv_fieldAddr Try.underlying42 rfl Try.sizeOf3 rfl rfl) ?_
                refine SO.b1 ?_
                refine SO.load1 rfl Try.isAgg3 rfl rfl ?_
                refine SO.v rfl (opv_move rfl) ?_
                refine SO.v rfl (opv_add rfl rfl) ?_
                refine SO.v rfl (opv_nilCheck rfl) ?_
                refine SO.v rfl (opv_fieldAddr Try.underlying42 rfl Try.sizeOf3 rfl rfl) ?_
                refine SO.store1 Try.sizeOf3 rfl rfl rfl rfl ?_
                refine SO.nil ?_
                refine S.to (ρ' := [(0, bp bp0 0), (1, .int .i64 a1), (2, .int .i64 a2), (3, .int .i64 a3), (10, .int .i64 0), (11, .int .i64 0), (20, .int .i64 a0.NO)]) ⟨rfl, rfl, rfl, rfl, rfl, rfl, rfl, trivial⟩ ?_
                refine S.seq ?_
                refine S.region ?_
                refine SO.v rfl (opv_move rfl) ?_
                refine SO.v rfl (opv_move rfl) ?_
                refine SO.v rfl (opv_nilCheck rfl) ?_
                refine SO.v rfl (opv_fieldAddr Try.underlying42 rfl Try.sizeOf3 rfl rfl) ?_
                refine SO.load1 rfl Try.isAgg3 rfl rfl ?_
                refine SO.v rfl (opv_add rfl rfl) ?_
                refine SO.v rfl (opv_nilCheck rfl) ?_
                refine SO.v rfl (opv_fieldAddr Try.underlying42 rfl Try.sizeOf3 rfl rfl) ?_
                refine SO.store1 Try.sizeOf3 rfl rfl rfl rfl ?_
                refine SO.nil ?_
                refine S.to (ρ' := [(0, bp bp0 0), (1, .int .i64 a1), (2, .int .i64 a2), (3, .int .i64 a3), (10, .int .i64 0), (11, .int .i64 0), (20, .int .i64 a0.NO)]) ⟨rfl, rfl, rfl, rfl, rfl, rfl, rfl, trivial⟩ ?_
                refine S.seq ?_
                refine S.region ?_
                refine SO.v rfl (opv_move rfl) ?_
                refine SO.v rfl (opv_move rfl) ?_
                refine SO.v rfl (opv_move rfl) ?_
                refine SO.v rfl (opv_move rfl) ?_
                refine SO.v rfl (opv_move rfl) ?_
                refine SO.v rfl (opv_build (v := .agg #[.int .i64 a3, .int .i64 7, .int .i64 a0.NO, .int .i64 0, .int .i64 0, .int .i64 0]) rfl (by intro w; kernel_rfl)) ?_
                obtain ⟨⟨t92, p93⟩, ht94, h⟩ := opt_bind h
                refine SO.b5 ?_
                refine SO.closeR ?_
                refine SO.b2 ?_
                refine SO.b1 ?_
                refine SO.b2 ?_
                have ct96 := ref10_State_below.ct bp0 v0_Slots v0_Objs _ _ _ _ _ _ ht94
                dsimp only at ct96
                refine SO.call (pre := [Box _ _, OwnR _ _ _ _, OwnR _ _ _ _]) rfl Try.call38 rfl rfl rfl ct96 trivial ?_
                rintro _ _ ⟨u95_Slots, u95_Objs, rfl, rfl⟩
                refine SO.nil ?_
                refine S.to (ρ' := [(10, .int .i64 0), (11, .int .i64 0), (20, .int .i64 a0.NO)]) ⟨rfl, rfl, rfl, trivial⟩ ?_
                refine S.seq ?_
                refine S.region ?_
                refine SO.v rfl (opv_move rfl) ?_
                refine SO.v rfl (opv_assign rfl) ?_
                refine SO.v rfl (opv_assign rfl) ?_
                refine SO.nil ?_
                cases h
                refine S.b3 ?_
                refine S.drop ?_
                refine S.b3 ?_
                refine S.drop ?_
                refine S.b3 ?_
                refine S.drop ?_
                refine S.b3 ?_
                refine S.b3 ?_
                refine S.b3 ?_
                refine S.b3 ?_
                exact S.ret2 Try.func17 rfl rfl rfl (fun w hs hk => hR w _ _ ⟨u95_Slots, u95_Objs, rfl, rfl⟩ hs hk)
end Go.Proofs
