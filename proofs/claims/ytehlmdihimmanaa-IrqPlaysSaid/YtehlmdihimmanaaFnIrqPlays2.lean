/- What the functions that IrqPlays reaches come to, and that they do. On no condition. -/
import Derived.Test.YtehlmdihimmanaaFnIrqPlays0
import Derived.Test.YtehlmdihimmanaaFnIrqPlays1
set_option linter.all false
namespace Go.Proofs
open Go.Sl Go.RowKit
/-! 43 (*padstone/padstoneref10.State).Wake -/
def ref10_State_Wake.f (a0 : ref10_State) (a1 : Int) (a2 : Int) (a3 : Int) : Option (ref10_State) :=
  (at_ a0.Objs a1).bind fun x1 => (at_ (a0.Objs.set a1.toNat ({ x1 with State := 1 } : ref10_Obj)) a1).bind fun x13 => (at_ ((a0.Objs.set a1.toNat ({ x1 with State := 1 } : ref10_Obj)).set a1.toNat ({ x13 with Word := a2 } : ref10_Obj)) a1).bind fun x21 => (at_ (((a0.Objs.set a1.toNat ({ x1 with State := 1 } : ref10_Obj)).set a1.toNat ({ x13 with Word := a2 } : ref10_Obj)).set a1.toNat ({ x21 with Badge := a3 } : ref10_Obj)) a1).bind fun x29 => some ({ a0 with Objs := (((a0.Objs.set a1.toNat ({ x1 with State := 1 } : ref10_Obj)).set a1.toNat ({ x13 with Word := a2 } : ref10_Obj)).set a1.toNat ({ x21 with Badge := a3 } : ref10_Obj)).set a1.toNat ({ x29 with On := -1 } : ref10_Obj) } : ref10_State)
set_option maxHeartbeats 8000000 in
set_option maxRecDepth 100000 in
theorem ref10_State_Wake.ct (bp0 : Nat) (v0_Slots : Value) (v0_Objs : Value) (a0 : ref10_State) (a1 : Int) (a2 : Int) (a3 : Int) (rp0 : ref10_State) (h : ref10_State_Wake.f a0 a1 a2 a3 = some rp0) :
    Ct Try.prog 43 [bp bp0 0, .int .i64 a1, .int .i64 a2, .int .i64 a3] (fun _ => True) [Box bp0 [v0_Slots, v0_Objs, .int .i64 a0.NS, .int .i64 a0.NO], OwnR 77 kr_ref10_Slot v0_Slots a0.Slots, OwnR 70 kr_ref10_Obj v0_Objs a0.Objs] (fun u H' => ∃ rw0_Slots rw0_Objs, u = .tuple #[] ∧ H' = [Box bp0 [rw0_Slots, rw0_Objs, .int .i64 rp0.NS, .int .i64 rp0.NO], OwnR 77 kr_ref10_Slot rw0_Slots rp0.Slots, OwnR 70 kr_ref10_Obj rw0_Objs rp0.Objs]) := by
  unfold ref10_State_Wake.f at h
  refine Ct.intro (n := 38) Try.func43 rfl rfl rfl ?_
  intro R w0 F hF hR
  refine S.seq ?_
  refine S.region ?_
  refine SO.v rfl (opv_move rfl) ?_
  refine SO.v rfl (opv_nilCheck rfl) ?_
  refine SO.v rfl (opv_fieldAddr Try.underlying75 rfl Try.sizeOf73 rfl rfl) ?_
  refine SO.load1 rfl Try.isAgg73 rfl rfl ?_
  refine SO.v rfl (opv_move rfl) ?_
  refine SO.b2 ?_
  refine SO.openR fun raws6 A7 hrel8 hR9 => ?_
  obtain ⟨x1, hx2, h⟩ := opt_bind h
  obtain ⟨r3, hr4, hc5⟩ := relR.at hrel8 hx2
  refine SO.v rfl (opv_idx Try.underlying73 Try.sizeOf70 hR9 rfl rfl hr4) ?_
  refine SO.v rfl (opv_fieldIdx Try.underlying70 rfl Try.sizeOf3 hR9 hr4 rfl rfl) ?_
  refine SO.storeO1 (j := 8) (q := .val (.int .i64 1)) (z' := ({ x1 with State := 1 } : ref10_Obj)) Try.sizeOf3 hrel8 hx2 rfl rfl rfl rfl rfl rfl rfl (fun raws10 hrel11 hR12 => ?_)
  refine SO.nil ?_
  refine S.to (ρ' := [(0, bp bp0 0), (1, .int .i64 a1), (2, .int .i64 a2), (3, .int .i64 a3)]) ⟨rfl, rfl, rfl, rfl, trivial⟩ ?_
  refine S.seq ?_
  refine S.region ?_
  refine SO.v rfl (opv_move rfl) ?_
  refine SO.v rfl (opv_nilCheck rfl) ?_
  refine SO.v rfl (opv_fieldAddr Try.underlying75 rfl Try.sizeOf73 rfl rfl) ?_
  refine SO.b1 ?_
  refine SO.load1 rfl Try.isAgg73 rfl rfl ?_
  refine SO.v rfl (opv_move rfl) ?_
  refine SO.v rfl (opv_move rfl) ?_
  obtain ⟨x13, hx14, h⟩ := opt_bind h
  obtain ⟨r15, hr16, hc17⟩ := relR.at hrel11 hx14
  refine SO.v rfl (opv_idx Try.underlying73 Try.sizeOf70 hR12 rfl rfl hr16) ?_
  refine SO.v rfl (opv_fieldIdx Try.underlying70 rfl Try.sizeOf3 hR12 hr16 rfl rfl) ?_
  refine SO.b1 ?_
  refine SO.storeO1 (j := 7) (q := .val (.int .i64 a2)) (z' := ({ x13 with Word := a2 } : ref10_Obj)) Try.sizeOf3 hrel11 hx14 rfl rfl rfl rfl rfl rfl rfl (fun raws18 hrel19 hR20 => ?_)
  refine SO.nil ?_
  refine S.to (ρ' := [(0, bp bp0 0), (1, .int .i64 a1), (3, .int .i64 a3)]) ⟨rfl, rfl, rfl, trivial⟩ ?_
  refine S.seq ?_
  refine S.region ?_
  refine SO.v rfl (opv_move rfl) ?_
  refine SO.v rfl (opv_nilCheck rfl) ?_
  refine SO.v rfl (opv_fieldAddr Try.underlying75 rfl Try.sizeOf73 rfl rfl) ?_
  refine SO.b1 ?_
  refine SO.load1 rfl Try.isAgg73 rfl rfl ?_
  refine SO.v rfl (opv_move rfl) ?_
  refine SO.v rfl (opv_move rfl) ?_
  obtain ⟨x21, hx22, h⟩ := opt_bind h
  obtain ⟨r23, hr24, hc25⟩ := relR.at hrel19 hx22
  refine SO.v rfl (opv_idx Try.underlying73 Try.sizeOf70 hR20 rfl rfl hr24) ?_
  refine SO.v rfl (opv_fieldIdx Try.underlying70 rfl Try.sizeOf3 hR20 hr24 rfl rfl) ?_
  refine SO.b1 ?_
  refine SO.storeO1 (j := 10) (q := .val (.int .i64 a3)) (z' := ({ x21 with Badge := a3 } : ref10_Obj)) Try.sizeOf3 hrel19 hx22 rfl rfl rfl rfl rfl rfl rfl (fun raws26 hrel27 hR28 => ?_)
  refine SO.nil ?_
  refine S.to (ρ' := [(0, bp bp0 0), (1, .int .i64 a1)]) ⟨rfl, rfl, trivial⟩ ?_
  refine S.region ?_
  refine SO.v rfl (opv_move rfl) ?_
  refine SO.v rfl (opv_nilCheck rfl) ?_
  refine SO.v rfl (opv_fieldAddr Try.underlying75 rfl Try.sizeOf73 rfl rfl) ?_
  refine SO.b1 ?_
  refine SO.load1 rfl Try.isAgg73 rfl rfl ?_
  refine SO.v rfl (opv_move rfl) ?_
  obtain ⟨x29, hx30, h⟩ := opt_bind h
  obtain ⟨r31, hr32, hc33⟩ := relR.at hrel27 hx30
  refine SO.v rfl (opv_idx Try.underlying73 Try.sizeOf70 hR28 rfl rfl hr32) ?_
  refine SO.v rfl (opv_fieldIdx Try.underlying70 rfl Try.sizeOf3 hR28 hr32 rfl rfl) ?_
  refine SO.b1 ?_
  refine SO.storeO1 (j := 12) (q := .val (.int .i64 (-1))) (z' := ({ x29 with On := -1 } : ref10_Obj)) Try.sizeOf3 hrel27 hx30 rfl rfl rfl rfl rfl rfl rfl (fun raws34 hrel35 hR36 => ?_)
  refine SO.nil ?_
  refine S.to (ρ' := []) trivial ?_
  cases h
  refine S.closeR ?_
  refine S.b3 ?_
  refine S.b1 ?_
  refine S.b3 ?_
  refine S.b3 ?_
  exact S.fin0 Try.func43 rfl (fun w hs hk => hR w _ _ ⟨v0_Slots, v0_Objs, rfl, rfl⟩ hs hk)
end Go.Proofs
namespace Go.Proofs
open Go.Sl Go.RowKit
/-! 42 (*padstone/padstoneref10.State).pop -/
def ref10_State_pop.f (a0 : ref10_State) (a1 : Int) : Option ((Int × ref10_State)) :=
  (at_ a0.Objs a1).bind fun x1 => bif (x1.Queue.length : Int) == 0 then (some (-1, a0)) else ((at_ a0.Objs a1).bind fun x14 => (at_ x14.Queue 0).bind fun x22 => (at_ a0.Objs a1).bind fun x30 => (slcF x30.Queue 1).bind fun zs38 => (app ([]) zs38).bind fun zs42 => (at_ a0.Objs a1).bind fun x46 => some (x22, ({ a0 with Objs := a0.Objs.set a1.toNat ({ x46 with Queue := zs42 } : ref10_Obj) } : ref10_State)))
set_option maxHeartbeats 8000000 in
set_option maxRecDepth 100000 in
theorem ref10_State_pop.ct (bp0 : Nat) (v0_Slots : Value) (v0_Objs : Value) (a0 : ref10_State) (a1 : Int) (r0 : Int) (rp0 : ref10_State) (h : ref10_State_pop.f a0 a1 = some (r0, rp0)) :
    Ct Try.prog 42 [bp bp0 0, .int .i64 a1] (fun _ => True) [Box bp0 [v0_Slots, v0_Objs, .int .i64 a0.NS, .int .i64 a0.NO], OwnR 77 kr_ref10_Slot v0_Slots a0.Slots, OwnR 70 kr_ref10_Obj v0_Objs a0.Objs] (fun u H' => ∃ rw0_Slots rw0_Objs, u = .int .i64 r0 ∧ H' = [Box bp0 [rw0_Slots, rw0_Objs, .int .i64 rp0.NS, .int .i64 rp0.NO], OwnR 77 kr_ref10_Slot rw0_Slots rp0.Slots, OwnR 70 kr_ref10_Obj rw0_Objs rp0.Objs]) := by
  unfold ref10_State_pop.f at h
  refine Ct.intro (n := 45) Try.func42 rfl rfl rfl ?_
  intro R w0 F hF hR
  refine S.seq ?_
  refine S.region ?_
  refine SO.v rfl (opv_assign rfl) ?_
  refine SO.nil ?_
  refine S.seq ?_
  refine S.seq ?_
  refine S.region ?_
  refine SO.v rfl (opv_move rfl) ?_
  refine SO.v rfl (opv_nilCheck rfl) ?_
  refine SO.v rfl (opv_fieldAddr Try.underlying75 rfl Try.sizeOf73 rfl rfl) ?_
  refine SO.load1 rfl Try.isAgg73 rfl rfl ?_
  refine SO.v rfl (opv_move rfl) ?_
  refine SO.b2 ?_
  refine SO.openR fun raws6 A7 hrel8 hR9 => ?_
  obtain ⟨x1, hx2, h⟩ := opt_bind h
  obtain ⟨r3, hr4, hc5⟩ := relR.at hrel8 hx2
  refine SO.v rfl (opv_idx Try.underlying73 Try.sizeOf70 hR9 rfl rfl hr4) ?_
  refine SO.v rfl (opv_fieldIdx Try.underlying70 rfl Try.sizeOf67 hR9 hr4 rfl rfl) ?_
  obtain ⟨u10, hu11, hru12⟩ := hc5.sl 6 rfl
  refine SO.loadI1 (j := 6) rfl Try.isAgg67 (Rd.head hR9) hr4 rfl rfl rfl hu11 ?_
  refine SO.v rfl (opv_lenR rfl Try.underlying67 hru12 rfl) ?_
  refine SO.v rfl (opv_eql rfl rfl) ?_
  refine SO.nil ?_
  refine S.to (ρ' := [(0, bp bp0 0), (1, .int .i64 a1), (4, .int .i64 0), (15, .bool ((x1.Queue.length : Int) == 0))]) ⟨rfl, rfl, rfl, rfl, trivial⟩ ?_
  rcases bool_or ((x1.Queue.length : Int) == 0) with b13 | b13
  · replace h := cond_t b13 h
    refine S.condT rfl b13 ?_
    refine S.seq ?_
    refine S.region ?_
    refine SO.v rfl (opv_assign rfl) ?_
    refine SO.nil ?_
    cases h
    refine S.closeR ?_
    refine S.b3 ?_
    refine S.b1 ?_
    refine S.b3 ?_
    refine S.b3 ?_
    exact S.ret1 Try.func42 rfl rfl (fun w hs hk => hR w _ _ ⟨v0_Slots, v0_Objs, rfl, rfl⟩ hs hk)
  · replace h := cond_f b13 h
    refine S.condF rfl b13 ?_
    refine S.skip ?_
    refine S.seq ?_
    refine S.region ?_
    refine SO.v rfl (opv_move rfl) ?_
    refine SO.v rfl (opv_nilCheck rfl) ?_
    refine SO.v rfl (opv_fieldAddr Try.underlying75 rfl Try.sizeOf73 rfl rfl) ?_
    refine SO.b1 ?_
    refine SO.load1 rfl Try.isAgg73 rfl rfl ?_
    refine SO.v rfl (opv_move rfl) ?_
    obtain ⟨x14, hx15, h⟩ := opt_bind h
    obtain ⟨r16, hr17, hc18⟩ := relR.at hrel8 hx15
    refine SO.v rfl (opv_idx Try.underlying73 Try.sizeOf70 hR9 rfl rfl hr17) ?_
    refine SO.v rfl (opv_fieldIdx Try.underlying70 rfl Try.sizeOf67 hR9 hr17 rfl rfl) ?_
    obtain ⟨u19, hu20, hru21⟩ := hc18.sl 6 rfl
    refine SO.loadI1 (j := 6) rfl Try.isAgg67 (Rd.tail (Rd.head hR9)) hr17 rfl rfl rfl hu20 ?_
    obtain ⟨x22, hx23, h⟩ := opt_bind h
    refine SO.v rfl (opv_idx Try.underlying67 Try.sizeOf3 hru21 rfl rfl hx23) ?_
    refine SO.loadI1 (j := 0) rfl Try.isAgg3 (Rd.tail (Rd.head (Rd.pool hru21))) hx23 rfl rfl rfl rfl ?_
    refine SO.v rfl (opv_assign rfl) ?_
    refine SO.nil ?_
    refine S.to (ρ' := [(0, bp bp0 0), (1, .int .i64 a1), (4, .int .i64 0), (5, .int .i64 x22)]) ⟨rfl, rfl, rfl, rfl, trivial⟩ ?_
    refine S.seq ?_
    refine S.b2 ?_
    refine S.openR fun raws24 A25 hrel26 hR27 => ?_
    obtain ⟨x30, hx31, h⟩ := opt_bind h
    obtain ⟨r32, hr33, hc34⟩ := relR.at hrel8 hx31
    obtain ⟨u35, hu36, hru37⟩ := hc34.sl 6 rfl
    obtain ⟨zs38, hz39, h⟩ := opt_bind h
    have hru40 := Rd.slc hru37 hz39
    obtain ⟨zs42, hz43, h⟩ := opt_bind h
    obtain ⟨x46, hx47, h⟩ := opt_bind h
    obtain ⟨r48, hr49, hc50⟩ := relR.at hrel8 hx47
    refine S.draw' (Z := fun Q => ∀ (_ : Unit) (_ : Unit) (_ : Unit) (_ : Unit) (_ : Unit), Q [(4, .int .i64 0), (5, .int .i64 x22)] [OwnO 77 kr_ref10_Slot v0_Slots raws24 A25 a0.Slots, Box bp0 [v0_Slots, v0_Objs, .int .i64 a0.NS, .int .i64 a0.NO], OwnR 70 kr_ref10_Obj v0_Objs (a0.Objs.set a1.toNat ({ x46 with Queue := zs42 } : ref10_Obj)), F]) (T := [tS 0 (bp bp0 0), tS 1 (.int .i64 a1), tE [(4, .int .i64 0), (5, .int .i64 x22)], tR (OwnO 77 kr_ref10_Slot v0_Slots raws24 A25 a0.Slots), tR (Box bp0 [v0_Slots, v0_Objs, .int .i64 a0.NS, .int .i64 a0.NO]), tR (OwnO 70 kr_ref10_Obj v0_Objs raws6 A7 a0.Objs), tR (F), tS 26 (bp bp0 0), tS 27 (bp bp0 0), tS 28 (bp bp0 1), tS 29 (v0_Objs), tS 30 (.int .i64 a1), ⟨Value, [31], (fun v28 => [(31, v28)]), (fun v28 => [Own 3 (ekI .i64) v28 ([])]), fun _ => rfl⟩, tS 32 (bp bp0 0), tS 33 (bp bp0 0), tS 34 (bp bp0 1), tS 35 (v0_Objs), tS 36 (.int .i64 a1), tS 37 (idxp v0_Objs (a1.toNat * kr_ref10_Obj.sz)), tS 38 (idxp v0_Objs (a1.toNat * kr_ref10_Obj.sz + 6)), tS 39 (u35), tS 40 ((slcV u35 (1 : Int).toNat (ekI .i64).sz)), ⟨Value, [41], (fun v44 => [(41, v44)]), (fun v44 => [Own 3 (ekI .i64) v44 zs42]), fun _ => rfl⟩, tS 42 (idxp v0_Objs (a1.toNat * kr_ref10_Obj.sz)), tS 43 (idxp v0_Objs (a1.toNat * kr_ref10_Obj.sz + 6)), tR (OwnR 70 kr_ref10_Obj v0_Objs (a0.Objs.set a1.toNat ({ x46 with Queue := zs42 } : ref10_Obj)))]) (D := [⟨[0], [], [7]⟩, ⟨[7], [], [8]⟩, ⟨[8], [], [9]⟩, ⟨[9, 4], [], [10]⟩, ⟨[1], [], [11]⟩, ⟨[], [], [12]⟩, ⟨[0], [], [13]⟩, ⟨[13], [], [14]⟩, ⟨[14], [], [15]⟩, ⟨[15, 4], [], [16]⟩, ⟨[1], [], [17]⟩, ⟨[16, 17, 5], [], [18]⟩, ⟨[18, 5], [], [19]⟩, ⟨[19, 5], [], [20]⟩, ⟨[20, 5], [], [21]⟩, ⟨[21, 5], [12], [22]⟩, ⟨[10, 11, 5], [], [23]⟩, ⟨[23, 5], [], [24]⟩, ⟨[24], [22, 5], [25]⟩]) (ini := [0, 1, 2, 3, 4, 5, 6]) (fin := [2, 3, 4, 25, 6]) (bf := [[], [0], [0, 1], [0, 1, 2], [], [], [], [6], [6, 7], [6, 7, 8], [], [6, 7, 8, 9, 10], [6, 7, 8, 9, 10, 11], [6, 7, 8, 9, 10, 11, 12], [6, 7, 8, 9, 10, 11, 12, 13], [5, 6, 7, 8, 9, 10, 11, 12, 13, 14], [0, 1, 2, 3, 4, 5, 6, 7, 8, 9, 10, 11, 12, 13, 14, 15], [0, 1, 2, 3, 4, 5, 6, 7, 8, 9, 10, 11, 12, 13, 14, 15, 16], [0, 1, 2, 3, 4, 5, 6, 7, 8, 9, 10, 11, 12, 13, 14, 15, 16, 17]]) (by kernel_rfl) (by kernel_rfl) (fun x w h1 h2 => (.cons () (.cons () (.cons () (.cons () (.cons () (.cons () (.cons () (.nil ⟨EnvAll.of h1 ⟨rfl, rfl, rfl, rfl, trivial⟩, h2⟩))))))))) (fun Q => by kernel_rfl) ⟨?_, ?_, ?_, ?_, ?_, ?_, ?_, ?_, ?_, ?_, ?_, ?_, ?_, ?_, ?_, ?_, ?_, ?_, ?_, trivial⟩ ?_
    · rintro Fr _
      refine SO.v rfl (opv_move rfl) ?_
      exact SO.nilZ fun a w h1 h2 h3 h4 h5 => PZ.of h1 h3 h5 (.cons () (.cons () (.nil ⟨EnvAll.of h2 ⟨rfl, rfl, trivial⟩, h4⟩)))
    · rintro Fr _
      refine SO.v rfl (opv_nilCheck rfl) ?_
      exact SO.nilZ fun a w h1 h2 h3 h4 h5 => PZ.of h1 h3 h5 (.cons () (.cons () (.nil ⟨EnvAll.of h2 ⟨rfl, rfl, trivial⟩, h4⟩)))
    · rintro Fr _
      refine SO.v rfl (opv_fieldAddr Try.underlying75 rfl Try.sizeOf73 rfl rfl) ?_
      exact SO.nilZ fun a w h1 h2 h3 h4 h5 => PZ.of h1 h3 h5 (.cons () (.cons () (.nil ⟨EnvAll.of h2 ⟨rfl, rfl, trivial⟩, h4⟩)))
    · rintro Fr _ _
      refine SO.load1 rfl Try.isAgg73 rfl rfl ?_
      exact SO.nilZ fun a w h1 h2 h3 h4 h5 => PZ.of h1 h3 h5 (.cons () (.cons () (.cons () (.nil ⟨EnvAll.of h2 ⟨rfl, rfl, trivial⟩, h4⟩))))
    · rintro Fr _
      refine SO.v rfl (opv_move rfl) ?_
      exact SO.nilZ fun a w h1 h2 h3 h4 h5 => PZ.of h1 h3 h5 (.cons () (.cons () (.nil ⟨EnvAll.of h2 ⟨rfl, rfl, trivial⟩, h4⟩)))
    · rintro Fr 
      refine SO.buildSlice0 (ekI .i64) rfl Try.underlying67 Try.sizeOf3 (fun v28 hr29 => ?_)
      exact SO.nilZ fun a w h1 h2 h3 h4 h5 => PZ.of h1 h3 h5 (.cons v28 (.nil ⟨EnvAll.of h2 ⟨rfl, trivial⟩, h4⟩))
    · rintro Fr _
      refine SO.v rfl (opv_move rfl) ?_
      exact SO.nilZ fun a w h1 h2 h3 h4 h5 => PZ.of h1 h3 h5 (.cons () (.cons () (.nil ⟨EnvAll.of h2 ⟨rfl, rfl, trivial⟩, h4⟩)))
    · rintro Fr _
      refine SO.v rfl (opv_nilCheck rfl) ?_
      exact SO.nilZ fun a w h1 h2 h3 h4 h5 => PZ.of h1 h3 h5 (.cons () (.cons () (.nil ⟨EnvAll.of h2 ⟨rfl, rfl, trivial⟩, h4⟩)))
    · rintro Fr _
      refine SO.v rfl (opv_fieldAddr Try.underlying75 rfl Try.sizeOf73 rfl rfl) ?_
      exact SO.nilZ fun a w h1 h2 h3 h4 h5 => PZ.of h1 h3 h5 (.cons () (.cons () (.nil ⟨EnvAll.of h2 ⟨rfl, rfl, trivial⟩, h4⟩)))
    · rintro Fr _ _
      refine SO.load1 rfl Try.isAgg73 rfl rfl ?_
      exact SO.nilZ fun a w h1 h2 h3 h4 h5 => PZ.of h1 h3 h5 (.cons () (.cons () (.cons () (.nil ⟨EnvAll.of h2 ⟨rfl, rfl, trivial⟩, h4⟩))))
    · rintro Fr _
      refine SO.v rfl (opv_move rfl) ?_
      exact SO.nilZ fun a w h1 h2 h3 h4 h5 => PZ.of h1 h3 h5 (.cons () (.cons () (.nil ⟨EnvAll.of h2 ⟨rfl, rfl, trivial⟩, h4⟩)))
    · rintro Fr _ _ _
      refine SO.v rfl (opv_idx Try.underlying73 Try.sizeOf70 hR9 rfl rfl hr33) ?_
      exact SO.nilZ fun a w h1 h2 h3 h4 h5 => PZ.of h1 h3 h5 (.cons () (.cons () (.cons () (.cons () (.nil ⟨EnvAll.of h2 ⟨rfl, rfl, rfl, trivial⟩, h4⟩)))))
    · rintro Fr _ _
      refine SO.v rfl (opv_fieldIdx Try.underlying70 rfl Try.sizeOf67 hR9 hr33 rfl rfl) ?_
      exact SO.nilZ fun a w h1 h2 h3 h4 h5 => PZ.of h1 h3 h5 (.cons () (.cons () (.cons () (.nil ⟨EnvAll.of h2 ⟨rfl, rfl, trivial⟩, h4⟩))))
    · rintro Fr _ _
      refine SO.loadI1 (j := 6) rfl Try.isAgg67 (Rd.head hR9) hr33 rfl rfl rfl hu36 ?_
      exact SO.nilZ fun a w h1 h2 h3 h4 h5 => PZ.of h1 h3 h5 (.cons () (.cons () (.cons () (.nil ⟨EnvAll.of h2 ⟨rfl, rfl, trivial⟩, h4⟩))))
    · rintro Fr _ _
      refine SO.v rfl (opv_slcLo Try.underlying67 Try.sizeOf3 hru37 hz39 rfl rfl) ?_
      exact SO.nilZ fun a w h1 h2 h3 h4 h5 => PZ.of h1 h3 h5 (.cons () (.cons () (.cons () (.nil ⟨EnvAll.of h2 ⟨rfl, rfl, trivial⟩, h4⟩))))
    · rintro Fr _ _ v28
      refine SO.b1 ?_
      refine SO.rd fun hr41 => ?_
      refine SO.append rfl Try.underlying67 inf3 rfl rfl rfl (by decide) rfl rfl rfl (Rd.head (Rd.pool hru40)) hz43 (fun v44 => ?_)
      refine SO.rd fun hr45 => ?_
      refine SO.b1 ?_
      exact SO.nilZ fun a w h1 h2 h3 h4 h5 => PZ.of h1 h3 h5 (.cons () (.cons () (.cons v44 (.nil ⟨EnvAll.of h2 ⟨rfl, rfl, trivial⟩, h4⟩))))
    · rintro Fr _ _ _
      refine SO.v rfl (opv_idx Try.underlying73 Try.sizeOf70 hR9 rfl rfl hr49) ?_
      exact SO.nilZ fun a w h1 h2 h3 h4 h5 => PZ.of h1 h3 h5 (.cons () (.cons () (.cons () (.cons () (.nil ⟨EnvAll.of h2 ⟨rfl, rfl, rfl, trivial⟩, h4⟩)))))
    · rintro Fr _ _
      refine SO.v rfl (opv_fieldIdx Try.underlying70 rfl Try.sizeOf67 hR9 hr49 rfl rfl) ?_
      exact SO.nilZ fun a w h1 h2 h3 h4 h5 => PZ.of h1 h3 h5 (.cons () (.cons () (.cons () (.nil ⟨EnvAll.of h2 ⟨rfl, rfl, trivial⟩, h4⟩))))
    · rintro Fr _ v44 _
      refine SO.rd fun hr51 => ?_
      refine SO.b1 ?_
      refine SO.b1 ?_
      refine SO.freeze hrel8 fun A52 hcov53 hru54 hrel55 hR56 => ?_
      refine SO.storeO1 (j := 6) (q := .sl (ekI .i64) zs42) (z' := ({ x46 with Queue := zs42 } : ref10_Obj)) Try.sizeOf67 hrel55 hx47 rfl rfl (Rd.one hru54) rfl rfl rfl hru54 (fun raws57 hrel58 hR59 => ?_)
      refine SO.closeR ?_
      exact SO.nilZ fun a w h1 h2 h3 h4 h5 => PZ.of h1 h3 h5 (.cons () (.cons () (.nil ⟨EnvAll.of h2 ⟨rfl, trivial⟩, h4⟩)))
    rintro _ _ _ _ _
    refine S.to (ρ' := [(4, .int .i64 0), (5, .int .i64 x22)]) ⟨rfl, rfl, trivial⟩ ?_
    refine S.seq ?_
    refine S.region ?_
    refine SO.v rfl (opv_move rfl) ?_
    refine SO.v rfl (opv_assign rfl) ?_
    refine SO.nil ?_
    cases h
    refine S.closeR ?_
    refine S.b3 ?_
    refine S.b3 ?_
    refine S.b2 ?_
    refine S.b3 ?_
    exact S.ret1 Try.func42 rfl rfl (fun w hs hk => hR w _ _ ⟨v0_Slots, v0_Objs, rfl, rfl⟩ hs hk)
end Go.Proofs
namespace Go.Proofs
open Go.Sl Go.RowKit
/-! 44 padstone/padstoneref10.or -/
def ref10_or.l1 (a0 : Int) (a1 : Int) : Nat → (Int × Int) → Option (Int)
  | 0, _ => none
  | k + 1, (x6_1, x5_1) => bif decide (x6_1 < 65536) then ((chk (decide (x6_1 ≠ 0))).bind fun _ => (bif ((w64 (a0.tdiv x6_1)).tmod 2) == 1 then (some true) else ((chk (decide (x6_1 ≠ 0))).bind fun _ => some (((w64 (a1.tdiv x6_1)).tmod 2) == 1))).bind fun c4 => bif c4 then (ref10_or.l1 a0 a1 k (w64 (2 * x6_1), w64 (x5_1 + x6_1))) else (ref10_or.l1 a0 a1 k (w64 (2 * x6_1), x5_1))) else (some x5_1)
def ref10_or.f (k : Nat) (a0 : Int) (a1 : Int) : Option (Int) :=
  (ref10_or.l1 a0 a1 k (1, 0)).bind fun j5_e1 => some j5_e1
set_option maxHeartbeats 8000000 in
set_option maxRecDepth 100000 in
theorem ref10_or.ct (k : Nat) (a0 : Int) (a1 : Int) (r0 : Int) (h : ref10_or.f k a0 a1 = some r0) :
    Ct Try.prog 44 [.int .i64 a0, .int .i64 a1] (fun _ => True) [] (fun u H' => u = .int .i64 r0 ∧ H' = []) := by
  unfold ref10_or.f at h
  refine Ct.intro (n := 27) Try.func44 rfl rfl rfl ?_
  intro R w0 F hF hR
  refine S.seq ?_
  refine S.region ?_
  refine SO.v rfl (opv_assign rfl) ?_
  refine SO.nil ?_
  refine S.seq ?_
  refine S.region ?_
  refine SO.v rfl (opv_assign rfl) ?_
  refine SO.nil ?_
  refine S.seq ?_
  refine S.seq ?_
  refine S.region ?_
  refine SO.v rfl (opv_assign rfl) ?_
  refine SO.nil ?_
  obtain ⟨j5_e1, hl1, h⟩ := opt_bind h
  refine S.to (ρ' := [(6, .int .i64 1), (5, .int .i64 0), (4, .int .i64 0), (0, .int .i64 a0), (1, .int .i64 a1)]) ⟨rfl, rfl, rfl, rfl, rfl, trivial⟩ ?_
  refine S.forloop (X := (Int × Int) × Unit) (O := Int) (fun m x => ref10_or.l1 a0 a1 m x.1) (fun x => match x with | ((x6_1, x5_1), _) => [(6, .int .i64 x6_1), (5, .int .i64 x5_1), (4, .int .i64 0), (0, .int .i64 a0), (1, .int .i64 a1)]) (fun x => match x with | ((x6_1, x5_1), _) => [F]) (fun Sk => (fun j5_e1 => ∀ _ : Unit, Sk [(4, .int .i64 0), (5, .int .i64 j5_e1)] [F])) (fun _ => rfl) ?_ (m := k) (x := ((1, 0), ())) hl1 ?_
  · clear h hl1
    intro k x o_1 h hK1 ih1
    obtain ⟨⟨x6_1, x5_1⟩, _⟩ := x
    replace h : ref10_or.l1 a0 a1 (k + 1) (x6_1, x5_1) = some o_1 := h
    first | rw [ref10_or.l1] at h | unfold ref10_or.l1 at h
    refine S.seq ?_
    refine S.seq ?_
    refine S.region ?_
    refine SO.v rfl (opv_move rfl) ?_
    refine SO.v rfl (opv_lss rfl rfl) ?_
    refine SO.nil ?_
    rcases bool_or (decide (x6_1 < 65536)) with b1 | b1
    · replace h := cond_t b1 h
      refine S.condT rfl b1 ?_
      refine S.skip ?_
      refine S.seq ?_
      refine S.block ?_
      refine S.seq ?_
      refine S.region ?_
      refine SO.v rfl (opv_move rfl) ?_
      refine SO.v rfl (opv_move rfl) ?_
      obtain ⟨_, hc2, h⟩ := opt_bind h
      refine SO.v rfl (opv_quo rfl rfl (of_decide_eq_true (chk_some hc2))) ?_
      refine SO.v rfl (opv_rem rfl rfl (by decide)) ?_
      refine SO.v rfl (opv_eql rfl rfl) ?_
      refine SO.v rfl (opv_move rfl) ?_
      obtain ⟨c4, hc5, hgk⟩ := opt_bind h
      refine SO.cut 6 22 (.bool c4) [F] (fun l2 hk2 => ?_) ?_
      · clear hgk
        replace h := hc5
        rcases bool_or (((w64 (a0.tdiv x6_1)).tmod 2) == 1) with b3 | b3
        · replace h := cond_t b3 h
          refine SO.passF rfl rfl rfl b3 rfl rfl ?_
          refine SO.passF rfl rfl rfl b3 rfl rfl ?_
          refine SO.passF rfl rfl rfl b3 rfl rfl ?_
          refine SO.passF rfl rfl rfl b3 rfl rfl ?_
          refine SO.passF rfl rfl rfl b3 rfl rfl ?_
          cases h
          refine SO.v rfl (opv_pick_t' b3 rfl rfl) ?_
          exact hk2.fitc (m := 6) rfl (rfl) rfl
        · replace h := cond_f b3 h
          refine SO.takeT rfl rfl rfl b3 ?_
          refine SO.v rfl (opv_move rfl) ?_
          refine SO.takeT rfl rfl rfl b3 ?_
          refine SO.v rfl (opv_move rfl) ?_
          refine SO.takeT rfl rfl rfl b3 ?_
          obtain ⟨_, hc6, h⟩ := opt_bind h
          refine SO.v rfl (opv_quo rfl rfl (of_decide_eq_true (chk_some hc6))) ?_
          refine SO.takeT rfl rfl rfl b3 ?_
          refine SO.v rfl (opv_rem rfl rfl (by decide)) ?_
          refine SO.takeT rfl rfl rfl b3 ?_
          refine SO.v rfl (opv_eql rfl rfl) ?_
          cases h
          refine SO.v rfl (opv_pick_f' b3 rfl rfl) ?_
          exact hk2.fitc (m := 6) rfl (rfl) rfl
      clear hc5
      replace h := hgk
      refine SO.nil ?_
      rcases bool_or c4 with b7 | b7
      · replace h := cond_t b7 h
        refine S.condT rfl b7 ?_
        refine S.region ?_
        refine SO.v rfl (opv_move rfl) ?_
        refine SO.v rfl (opv_move rfl) ?_
        refine SO.v rfl (opv_add rfl rfl) ?_
        refine SO.v rfl (opv_assign rfl) ?_
        refine SO.nil ?_
        refine S.inBlock ?_
        refine S.region ?_
        refine SO.v rfl (opv_move rfl) ?_
        refine SO.v rfl (opv_mul rfl rfl) ?_
        refine SO.v rfl (opv_assign rfl) ?_
        refine SO.nil ?_
        refine S.to ?_ (ih1 ((w64 (2 * x6_1), w64 (x5_1 + x6_1)), ()) h)
        exact ⟨rfl, rfl, rfl, rfl, rfl, trivial⟩
      · replace h := cond_f b7 h
        refine S.condF rfl b7 ?_
        refine S.skip ?_
        refine S.inBlock ?_
        refine S.region ?_
        refine SO.v rfl (opv_move rfl) ?_
        refine SO.v rfl (opv_mul rfl rfl) ?_
        refine SO.v rfl (opv_assign rfl) ?_
        refine SO.nil ?_
        refine S.to ?_ (ih1 ((w64 (2 * x6_1), x5_1), ()) h)
        exact ⟨rfl, rfl, rfl, rfl, rfl, trivial⟩
    · replace h := cond_f b1 h
      refine S.condF rfl b1 ?_
      refine S.exit rfl ?_
      cases h
      refine S.to ?_ (hK1 ())
      exact ⟨rfl, rfl, trivial⟩
  rintro _
  refine S.seq ?_
  refine S.region ?_
  refine SO.v rfl (opv_move rfl) ?_
  refine SO.v rfl (opv_assign rfl) ?_
  refine SO.nil ?_
  cases h
  exact S.ret1 Try.func44 rfl rfl (fun w hs hk => hR w _ _ ⟨rfl, rfl⟩ hs hk)
end Go.Proofs
namespace Go.Proofs
open Go.Sl Go.RowKit
/-! 24 (*padstone/padstoneref10.State).Signal -/
def ref10_State_Signal.f (k : Nat) (a0 : ref10_State) (a1 : Int) (a2 : Int) : Option (ref10_State) :=
  (ref10_State_pop.f a0 a1).bind fun (t1, p2) => bif decide (0 ≤ t1) then ((ref10_State_Wake.f p2 t1 a2 0).bind fun p6 => some p6) else ((at_ p2.Objs a1).bind fun x17 => (ref10_or.f k x17.Word a2).bind fun t22 => (at_ p2.Objs a1).bind fun x24 => some ({ p2 with Objs := p2.Objs.set a1.toNat ({ x24 with Word := t22 } : ref10_Obj) } : ref10_State))
set_option maxHeartbeats 8000000 in
set_option maxRecDepth 100000 in
theorem ref10_State_Signal.ct (k : Nat) (bp0 : Nat) (v0_Slots : Value) (v0_Objs : Value) (a0 : ref10_State) (a1 : Int) (a2 : Int) (rp0 : ref10_State) (h : ref10_State_Signal.f k a0 a1 a2 = some rp0) :
    Ct Try.prog 24 [bp bp0 0, .int .i64 a1, .int .i64 a2] (fun _ => True) [Box bp0 [v0_Slots, v0_Objs, .int .i64 a0.NS, .int .i64 a0.NO], OwnR 77 kr_ref10_Slot v0_Slots a0.Slots, OwnR 70 kr_ref10_Obj v0_Objs a0.Objs] (fun u H' => ∃ rw0_Slots rw0_Objs, u = .tuple #[] ∧ H' = [Box bp0 [rw0_Slots, rw0_Objs, .int .i64 rp0.NS, .int .i64 rp0.NO], OwnR 77 kr_ref10_Slot rw0_Slots rp0.Slots, OwnR 70 kr_ref10_Obj rw0_Objs rp0.Objs]) := by
  unfold ref10_State_Signal.f at h
  refine Ct.intro (n := 33) Try.func24 rfl rfl rfl ?_
  intro R w0 F hF hR
  refine S.seq ?_
  refine S.region ?_
  refine SO.v rfl (opv_move rfl) ?_
  refine SO.v rfl (opv_move rfl) ?_
  obtain ⟨⟨t1, p2⟩, ht3, h⟩ := opt_bind h
  refine SO.b2 ?_
  refine SO.b2 ?_
  refine SO.b2 ?_
  refine SO.call (pre := [Box _ _, OwnR _ _ _ _, OwnR _ _ _ _]) rfl Try.call42 rfl rfl rfl (ref10_State_pop.ct bp0 v0_Slots v0_Objs _ _ _ _ ht3) trivial ?_
  rintro _ _ ⟨u4_Slots, u4_Objs, rfl, rfl⟩
  refine SO.v rfl (opv_assign rfl) ?_
  refine SO.nil ?_
  refine S.seq ?_
  refine S.seq ?_
  refine S.region ?_
  refine SO.v rfl (opv_move rfl) ?_
  refine SO.v rfl (opv_geq rfl rfl) ?_
  refine SO.nil ?_
  rcases bool_or (decide (0 ≤ t1)) with b5 | b5
  · replace h := cond_t b5 h
    refine S.condT rfl b5 ?_
    refine S.seq ?_
    refine S.region ?_
    refine SO.v rfl (opv_move rfl) ?_
    refine SO.v rfl (opv_move rfl) ?_
    refine SO.v rfl (opv_move rfl) ?_
    obtain ⟨p6, ht7, h⟩ := opt_bind h
    refine SO.b2 ?_
    refine SO.b2 ?_
    refine SO.b2 ?_
    refine SO.call (pre := [Box _ _, OwnR _ _ _ _, OwnR _ _ _ _]) rfl Try.call43 rfl rfl rfl (ref10_State_Wake.ct bp0 u4_Slots u4_Objs _ _ _ _ _ ht7) trivial ?_
    rintro _ _ ⟨u8_Slots, u8_Objs, rfl, rfl⟩
    refine SO.nil ?_
    refine S.to (ρ' := [(0, bp bp0 0), (1, .int .i64 a1), (2, .int .i64 a2)]) ⟨rfl, rfl, rfl, trivial⟩ ?_
    cases h
    refine S.b3 ?_
    refine S.b3 ?_
    refine S.b3 ?_
    refine S.b3 ?_
    exact S.ret0 Try.func24 rfl (fun w hs hk => hR w _ _ ⟨u8_Slots, u8_Objs, rfl, rfl⟩ hs hk)
  · replace h := cond_f b5 h
    refine S.condF rfl b5 ?_
    refine S.skip ?_
    refine S.b1 ?_
    refine S.openR fun raws9 A10 hrel11 hR12 => ?_
    refine S.b2 ?_
    refine S.openR fun raws13 A14 hrel15 hR16 => ?_
    obtain ⟨x17, hx18, h⟩ := opt_bind h
    obtain ⟨r19, hr20, hc21⟩ := relR.at hrel15 hx18
    obtain ⟨t22, ht23, h⟩ := opt_bind h
    obtain ⟨x24, hx25, h⟩ := opt_bind h
    obtain ⟨r26, hr27, hc28⟩ := relR.at hrel15 hx25
    refine S.draw' (Z := fun Q => ∀ (_ : Unit) (_ : Unit) (_ : Unit) (_ : Unit), Q [] [OwnR 70 kr_ref10_Obj u4_Objs (p2.Objs.set a1.toNat ({ x24 with Word := t22 } : ref10_Obj)), OwnO 77 kr_ref10_Slot u4_Slots raws9 A10 p2.Slots, Box bp0 [u4_Slots, u4_Objs, .int .i64 p2.NS, .int .i64 p2.NO], F]) (T := [tS 0 (bp bp0 0), tS 1 (.int .i64 a1), tS 2 (.int .i64 a2), tR (OwnO 70 kr_ref10_Obj u4_Objs raws13 A14 p2.Objs), tR (OwnO 77 kr_ref10_Slot u4_Slots raws9 A10 p2.Slots), tR (Box bp0 [u4_Slots, u4_Objs, .int .i64 p2.NS, .int .i64 p2.NO]), tR (F), tS 16 (bp bp0 0), tS 17 (bp bp0 0), tS 18 (bp bp0 1), tS 19 (u4_Objs), tS 20 (.int .i64 a1), tS 21 (bp bp0 0), tS 22 (bp bp0 0), tS 23 (bp bp0 1), tS 24 (u4_Objs), tS 25 (.int .i64 a1), tS 26 (idxp u4_Objs (a1.toNat * kr_ref10_Obj.sz)), tS 27 (idxp u4_Objs (a1.toNat * kr_ref10_Obj.sz + 7)), tS 28 (.int .i64 x17.Word), tS 29 (.int .i64 a2), tS 30 (.int .i64 t22), tS 31 (idxp u4_Objs (a1.toNat * kr_ref10_Obj.sz)), tS 32 (idxp u4_Objs (a1.toNat * kr_ref10_Obj.sz + 7)), tR (OwnR 70 kr_ref10_Obj u4_Objs (p2.Objs.set a1.toNat ({ x24 with Word := t22 } : ref10_Obj)))]) (D := [⟨[0], [], [7]⟩, ⟨[7], [], [8]⟩, ⟨[8], [], [9]⟩, ⟨[9, 5], [], [10]⟩, ⟨[1], [], [11]⟩, ⟨[0], [], [12]⟩, ⟨[12], [], [13]⟩, ⟨[13], [], [14]⟩, ⟨[14, 5], [], [15]⟩, ⟨[1], [], [16]⟩, ⟨[15, 16, 3], [], [17]⟩, ⟨[17, 3], [], [18]⟩, ⟨[18, 3], [], [19]⟩, ⟨[2], [], [20]⟩, ⟨[19, 20], [], [21]⟩, ⟨[10, 11, 3], [], [22]⟩, ⟨[22, 3], [], [23]⟩, ⟨[21, 23], [3], [24]⟩]) (ini := [0, 1, 2, 3, 4, 5, 6]) (fin := [24, 4, 5, 6]) (bf := [[], [0], [0, 1], [0, 1, 2], [], [], [5], [5, 6], [5, 6, 7], [], [5, 6, 7, 8, 9], [5, 6, 7, 8, 9, 10], [5, 6, 7, 8, 9, 10, 11], [], [5, 6, 7, 8, 9, 10, 11, 12, 13], [0, 1, 2, 3, 4, 5, 6, 7, 8, 9, 10, 11, 12, 13, 14], [0, 1, 2, 3, 4, 5, 6, 7, 8, 9, 10, 11, 12, 13, 14, 15], [0, 1, 2, 3, 4, 5, 6, 7, 8, 9, 10, 11, 12, 13, 14, 15, 16]]) (by kernel_rfl) (by kernel_rfl) (fun x w h1 h2 => (.cons () (.cons () (.cons () (.cons () (.cons () (.cons () (.cons () (.nil ⟨EnvAll.of h1 ⟨rfl, rfl, rfl, trivial⟩, h2⟩))))))))) (fun Q => by kernel_rfl) ⟨?_, ?_, ?_, ?_, ?_, ?_, ?_, ?_, ?_, ?_, ?_, ?_, ?_, ?_, ?_, ?_, ?_, ?_, trivial⟩ ?_
    · rintro Fr _
      refine SO.v rfl (opv_move rfl) ?_
      exact SO.nilZ fun a w h1 h2 h3 h4 h5 => PZ.of h1 h3 h5 (.cons () (.cons () (.nil ⟨EnvAll.of h2 ⟨rfl, rfl, trivial⟩, h4⟩)))
    · rintro Fr _
      refine SO.v rfl (opv_nilCheck rfl) ?_
      exact SO.nilZ fun a w h1 h2 h3 h4 h5 => PZ.of h1 h3 h5 (.cons () (.cons () (.nil ⟨EnvAll.of h2 ⟨rfl, rfl, trivial⟩, h4⟩)))
    · rintro Fr _
      refine SO.v rfl (opv_fieldAddr Try.underlying75 rfl Try.sizeOf73 rfl rfl) ?_
      exact SO.nilZ fun a w h1 h2 h3 h4 h5 => PZ.of h1 h3 h5 (.cons () (.cons () (.nil ⟨EnvAll.of h2 ⟨rfl, rfl, trivial⟩, h4⟩)))
    · rintro Fr _ _
      refine SO.load1 rfl Try.isAgg73 rfl rfl ?_
      exact SO.nilZ fun a w h1 h2 h3 h4 h5 => PZ.of h1 h3 h5 (.cons () (.cons () (.cons () (.nil ⟨EnvAll.of h2 ⟨rfl, rfl, trivial⟩, h4⟩))))
    · rintro Fr _
      refine SO.v rfl (opv_move rfl) ?_
      exact SO.nilZ fun a w h1 h2 h3 h4 h5 => PZ.of h1 h3 h5 (.cons () (.cons () (.nil ⟨EnvAll.of h2 ⟨rfl, rfl, trivial⟩, h4⟩)))
    · rintro Fr _
      refine SO.v rfl (opv_move rfl) ?_
      exact SO.nilZ fun a w h1 h2 h3 h4 h5 => PZ.of h1 h3 h5 (.cons () (.cons () (.nil ⟨EnvAll.of h2 ⟨rfl, rfl, trivial⟩, h4⟩)))
    · rintro Fr _
      refine SO.v rfl (opv_nilCheck rfl) ?_
      exact SO.nilZ fun a w h1 h2 h3 h4 h5 => PZ.of h1 h3 h5 (.cons () (.cons () (.nil ⟨EnvAll.of h2 ⟨rfl, rfl, trivial⟩, h4⟩)))
    · rintro Fr _
      refine SO.v rfl (opv_fieldAddr Try.underlying75 rfl Try.sizeOf73 rfl rfl) ?_
      exact SO.nilZ fun a w h1 h2 h3 h4 h5 => PZ.of h1 h3 h5 (.cons () (.cons () (.nil ⟨EnvAll.of h2 ⟨rfl, rfl, trivial⟩, h4⟩)))
    · rintro Fr _ _
      refine SO.load1 rfl Try.isAgg73 rfl rfl ?_
      exact SO.nilZ fun a w h1 h2 h3 h4 h5 => PZ.of h1 h3 h5 (.cons () (.cons () (.cons () (.nil ⟨EnvAll.of h2 ⟨rfl, rfl, trivial⟩, h4⟩))))
    · rintro Fr _
      refine SO.v rfl (opv_move rfl) ?_
      exact SO.nilZ fun a w h1 h2 h3 h4 h5 => PZ.of h1 h3 h5 (.cons () (.cons () (.nil ⟨EnvAll.of h2 ⟨rfl, rfl, trivial⟩, h4⟩)))
    · rintro Fr _ _ _
      refine SO.v rfl (opv_idx Try.underlying73 Try.sizeOf70 hR16 rfl rfl hr20) ?_
      exact SO.nilZ fun a w h1 h2 h3 h4 h5 => PZ.of h1 h3 h5 (.cons () (.cons () (.cons () (.cons () (.nil ⟨EnvAll.of h2 ⟨rfl, rfl, rfl, trivial⟩, h4⟩)))))
    · rintro Fr _ _
      refine SO.v rfl (opv_fieldIdx Try.underlying70 rfl Try.sizeOf3 hR16 hr20 rfl rfl) ?_
      exact SO.nilZ fun a w h1 h2 h3 h4 h5 => PZ.of h1 h3 h5 (.cons () (.cons () (.cons () (.nil ⟨EnvAll.of h2 ⟨rfl, rfl, trivial⟩, h4⟩))))
    · rintro Fr _ _
      refine SO.loadI1 (j := 7) rfl Try.isAgg3 (Rd.head hR16) hr20 rfl rfl rfl (hc21.val rfl) ?_
      exact SO.nilZ fun a w h1 h2 h3 h4 h5 => PZ.of h1 h3 h5 (.cons () (.cons () (.cons () (.nil ⟨EnvAll.of h2 ⟨rfl, rfl, trivial⟩, h4⟩))))
    · rintro Fr _
      refine SO.v rfl (opv_move rfl) ?_
      exact SO.nilZ fun a w h1 h2 h3 h4 h5 => PZ.of h1 h3 h5 (.cons () (.cons () (.nil ⟨EnvAll.of h2 ⟨rfl, rfl, trivial⟩, h4⟩)))
    · rintro Fr _ _
      refine SO.call (pre := []) rfl Try.call44 rfl rfl rfl (ref10_or.ct _ _ _ _ ht23) trivial ?_
      rintro _ _ ⟨rfl, rfl⟩
      exact SO.nilZ fun a w h1 h2 h3 h4 h5 => PZ.of h1 h3 h5 (.cons () (.cons () (.cons () (.nil ⟨EnvAll.of h2 ⟨rfl, rfl, rfl, trivial⟩, h4⟩))))
    · rintro Fr _ _ _
      refine SO.v rfl (opv_idx Try.underlying73 Try.sizeOf70 hR16 rfl rfl hr27) ?_
      exact SO.nilZ fun a w h1 h2 h3 h4 h5 => PZ.of h1 h3 h5 (.cons () (.cons () (.cons () (.cons () (.nil ⟨EnvAll.of h2 ⟨rfl, rfl, rfl, trivial⟩, h4⟩)))))
    · rintro Fr _ _
      refine SO.v rfl (opv_fieldIdx Try.underlying70 rfl Try.sizeOf3 hR16 hr27 rfl rfl) ?_
      exact SO.nilZ fun a w h1 h2 h3 h4 h5 => PZ.of h1 h3 h5 (.cons () (.cons () (.cons () (.nil ⟨EnvAll.of h2 ⟨rfl, rfl, trivial⟩, h4⟩))))
    · rintro Fr _ _ _
      refine SO.storeO1 (j := 7) (q := .val (.int .i64 t22)) (z' := ({ x24 with Word := t22 } : ref10_Obj)) Try.sizeOf3 hrel15 hx25 rfl rfl rfl rfl rfl rfl rfl (fun raws29 hrel30 hR31 => ?_)
      refine SO.closeR ?_
      exact SO.nilZ fun a w h1 h2 h3 h4 h5 => PZ.of h1 h3 h5 (.cons () (.cons () (.cons () (.nil ⟨EnvAll.of h2 ⟨rfl, rfl, trivial⟩, h4⟩))))
    rintro _ _ _ _
    refine S.to (ρ' := []) trivial ?_
    cases h
    refine S.b1 ?_
    refine S.closeR ?_
    refine S.b3 ?_
    refine S.b2 ?_
    refine S.b2 ?_
    refine S.b3 ?_
    exact S.fin0 Try.func24 rfl (fun w hs hk => hR w _ _ ⟨u4_Slots, u4_Objs, rfl, rfl⟩ hs hk)
end Go.Proofs
namespace Go.Proofs
open Go.Sl Go.RowKit
/-! 15 (*padstone/padstoneref10.State).Fire -/
def ref10_State_Fire.f (k : Nat) (a0 : ref10_State) (a1 : Int) : Option ((Bool × Int × ref10_State)) :=
  (ref10_State_is.f a0 a1 8).bind fun t9 => bif !t9 then (some (false, 2, a0)) else ((at_ a0.Objs a1).bind fun x12 => bif (decide (x12.Bound < 0)) || (x12.Mask != 0) then (some (false, 0, a0)) else ((at_ a0.Objs a1).bind fun x23 => (ref10_State_Signal.f k ({ a0 with Objs := a0.Objs.set a1.toNat ({ x23 with Mask := 1 } : ref10_Obj) } : ref10_State) x12.Bound x12.Badge).bind fun p31 => some (true, 0, p31)))
set_option maxHeartbeats 8000000 in
set_option maxRecDepth 100000 in
theorem ref10_State_Fire.ct (k : Nat) (bp0 : Nat) (v0_Slots : Value) (v0_Objs : Value) (a0 : ref10_State) (a1 : Int) (r0 : Bool) (r1 : Int) (rp0 : ref10_State) (h : ref10_State_Fire.f k a0 a1 = some (r0, r1, rp0)) :
    Ct Try.prog 15 [bp bp0 0, .int .i64 a1] (fun _ => True) [Box bp0 [v0_Slots, v0_Objs, .int .i64 a0.NS, .int .i64 a0.NO], OwnR 77 kr_ref10_Slot v0_Slots a0.Slots, OwnR 70 kr_ref10_Obj v0_Objs a0.Objs] (fun u H' => ∃ rw0_Slots rw0_Objs, u = .tuple #[.bool r0, .int .i64 r1] ∧ H' = [Box bp0 [rw0_Slots, rw0_Objs, .int .i64 rp0.NS, .int .i64 rp0.NO], OwnR 77 kr_ref10_Slot rw0_Slots rp0.Slots, OwnR 70 kr_ref10_Obj rw0_Objs rp0.Objs]) := by
  unfold ref10_State_Fire.f at h
  refine Ct.intro (n := 41) Try.func15 rfl rfl rfl ?_
  intro R w0 F hF hR
  refine S.seq ?_
  refine S.region ?_
  refine SO.v rfl (opv_assign rfl) ?_
  refine SO.v rfl (opv_assign rfl) ?_
  refine SO.nil ?_
  refine S.seq ?_
  refine S.region ?_
  refine SO.v rfl (opv_move rfl) ?_
  refine SO.v rfl (opv_move rfl) ?_
  obtain ⟨t9, ht10, h⟩ := opt_bind h
  refine SO.b1 ?_
  refine SO.openR fun raws1 A2 hrel3 hR4 => ?_
  refine SO.b2 ?_
  refine SO.openR fun raws5 A6 hrel7 hR8 => ?_
  refine SO.b1 ?_
  refine SO.b2 ?_
  refine SO.call (pre := [Box _ _, OwnO _ _ _ _ _ _, OwnO _ _ _ _ _ _]) rfl Try.call35 rfl rfl rfl (ref10_State_is.ct bp0 v0_Slots v0_Objs raws1 A2 raws5 A6 _ _ _ _ ht10) trivial ?_
  rintro _ _ ⟨rfl, rfl⟩
  refine SO.v rfl (opv_assign rfl) ?_
  refine SO.nil ?_
  refine S.seq ?_
  refine S.seq ?_
  refine S.region ?_
  refine SO.v rfl (opv_move rfl) ?_
  refine SO.v rfl (opv_not rfl) ?_
  refine SO.nil ?_
  rcases bool_or (!t9) with b11 | b11
  · replace h := cond_t b11 h
    refine S.condT rfl b11 ?_
    refine S.seq ?_
    refine S.region ?_
    refine SO.v rfl (opv_assign rfl) ?_
    refine SO.v rfl (opv_assign rfl) ?_
    refine SO.nil ?_
    cases h
    refine S.b1 ?_
    refine S.closeR ?_
    refine S.b2 ?_
    refine S.closeR ?_
    refine S.b3 ?_
    refine S.b1 ?_
    refine S.b2 ?_
    refine S.b3 ?_
    exact S.ret2 Try.func15 rfl rfl rfl (fun w hs hk => hR w _ _ ⟨v0_Slots, v0_Objs, rfl, rfl⟩ hs hk)
  · replace h := cond_f b11 h
    refine S.condF rfl b11 ?_
    refine S.skip ?_
    refine S.seq ?_
    refine S.region ?_
    refine SO.v rfl (opv_move rfl) ?_
    refine SO.v rfl (opv_nilCheck rfl) ?_
    refine SO.v rfl (opv_fieldAddr Try.underlying75 rfl Try.sizeOf73 rfl rfl) ?_
    refine SO.load1 rfl Try.isAgg73 rfl rfl ?_
    refine SO.v rfl (opv_move rfl) ?_
    obtain ⟨x12, hx13, h⟩ := opt_bind h
    obtain ⟨r14, hr15, hc16⟩ := relR.at hrel7 hx13
    refine SO.v rfl (opv_idx Try.underlying73 Try.sizeOf70 hR8 rfl rfl hr15) ?_
    refine hc16.rip fun u17 hru18 e19 => ?_
    refine SO.loadIN rfl Try.isAgg70 Try.sizeOf70 (Rd.tail (Rd.tail (Rd.head hR8))) hr15 rfl rfl e19 ?_
    refine SO.alloc rfl Try.zeroValue70 rfl (fun b20 => ?_)
    refine SO.storeN Try.sizeOf70 rfl rfl (all1 rfl (all1 rfl (all1 rfl (all1 rfl (all1 rfl (all1 rfl (all1 (Rd.one hru18) (all1 rfl (all1 rfl (all1 rfl (all1 rfl (all1 rfl (all1 rfl (all1 rfl (all1 rfl (all1 rfl (all1 rfl (all1 rfl (all1 rfl (all1 rfl (all1 rfl (all1 rfl (all1 rfl (all1 rfl (all1 rfl (all1 rfl (all1 rfl (all1 rfl (all1 rfl (all1 rfl (all1 rfl (all1 rfl rfl)))))))))))))))))))))))))))))))) rfl rfl rfl ?_
    refine SO.nil ?_
    refine S.to (ρ' := [(0, bp bp0 0), (1, .int .i64 a1), (4, .bool false), (5, .int .i64 0), (7, bp b20 0)]) ⟨rfl, rfl, rfl, rfl, rfl, trivial⟩ ?_
    refine S.seq ?_
    refine S.seq ?_
    refine S.region ?_
    refine SO.v rfl (opv_fieldAddr Try.underlying70 rfl Try.sizeOf3 rfl rfl) ?_
    refine SO.load1 rfl Try.isAgg3 rfl rfl ?_
    refine SO.v rfl (opv_lss rfl rfl) ?_
    refine SO.v rfl (opv_move rfl) ?_
    refine SO.cut 4 27 (.bool ((decide (x12.Bound < 0)) || (x12.Mask != 0))) [Box b20 [.int .i64 x12.Kind, .int .i64 x12.Size, .int .i64 x12.Used, .int .i64 x12.First, .int .i64 x12.Radix, .int .i64 x12.Wait, u17, .int .i64 x12.Word, .int .i64 x12.State, .int .i64 x12.Owing, .int .i64 x12.Badge, .int .i64 x12.Prio, .int .i64 x12.On, .int .i64 x12.Owes, .int .i64 x12.Root.Kind, .int .i64 x12.Root.Rights, .int .i64 x12.Root.Obj, .int .i64 x12.Root.Badge, .int .i64 x12.Root.Guard, .int .i64 x12.Root.Bits, .int .i64 x12.Pages.a0, .int .i64 x12.Pages.a1, .int .i64 x12.Pages.a2, .int .i64 x12.Pages.a3, .int .i64 x12.Right.a0, .int .i64 x12.Right.a1, .int .i64 x12.Right.a2, .int .i64 x12.Right.a3, .int .i64 x12.In, .int .i64 x12.Page, .int .i64 x12.Bound, .int .i64 x12.Mask], Box bp0 [v0_Slots, v0_Objs, .int .i64 a0.NS, .int .i64 a0.NO], OwnO 77 kr_ref10_Slot v0_Slots raws1 A2 a0.Slots, OwnO 70 kr_ref10_Obj v0_Objs raws5 A6 a0.Objs, F] (fun l2 hk2 => ?_) ?_
    · rcases bool_or (decide (x12.Bound < 0)) with b21 | b21
      · refine SO.passF rfl rfl rfl b21 rfl rfl ?_
        refine SO.passF rfl rfl rfl b21 rfl rfl ?_
        refine SO.passF rfl rfl rfl b21 rfl rfl ?_
        refine SO.v rfl (opv_pick_t' b21 rfl rfl) ?_
        refine SO.b4 ?_
        refine SO.b4 ?_
        refine SO.b4 ?_
        refine SO.b4 ?_
        refine SO.b4 ?_
        exact hk2.fitc (m := 4) rfl (or_t b21) rfl
      · refine SO.takeT rfl rfl rfl b21 ?_
        refine SO.v rfl (opv_fieldAddr Try.underlying70 rfl Try.sizeOf3 rfl rfl) ?_
        refine SO.takeT rfl rfl rfl b21 ?_
        refine SO.load1 rfl Try.isAgg3 rfl rfl ?_
        refine SO.takeT rfl rfl rfl b21 ?_
        refine SO.v rfl (opv_neq rfl rfl) ?_
        refine SO.v rfl (opv_pick_f' b21 rfl rfl) ?_
        refine SO.b4 ?_
        refine SO.b4 ?_
        refine SO.b4 ?_
        refine SO.b4 ?_
        refine SO.b4 ?_
        exact hk2.fitc (m := 4) rfl (or_f b21) rfl
    refine SO.nil ?_
    rcases bool_or ((decide (x12.Bound < 0)) || (x12.Mask != 0)) with b22 | b22
    · replace h := cond_t b22 h
      refine S.condT rfl b22 ?_
      refine S.seq ?_
      refine S.region ?_
      refine SO.v rfl (opv_assign rfl) ?_
      refine SO.v rfl (opv_assign rfl) ?_
      refine SO.nil ?_
      cases h
      refine S.b2 ?_
      refine S.closeR ?_
      refine S.b3 ?_
      refine S.closeR ?_
      refine S.b2 ?_
      refine S.drop ?_
      refine S.b3 ?_
      refine S.b1 ?_
      refine S.b2 ?_
      refine S.b3 ?_
      exact S.ret2 Try.func15 rfl rfl rfl (fun w hs hk => hR w _ _ ⟨v0_Slots, v0_Objs, rfl, rfl⟩ hs hk)
    · replace h := cond_f b22 h
      refine S.condF rfl b22 ?_
      refine S.skip ?_
      refine S.seq ?_
      refine S.region ?_
      refine SO.v rfl (opv_move rfl) ?_
      refine SO.v rfl (opv_nilCheck rfl) ?_
      refine SO.v rfl (opv_fieldAddr Try.underlying75 rfl Try.sizeOf73 rfl rfl) ?_
      refine SO.b1 ?_
      refine SO.load1 rfl Try.isAgg73 rfl rfl ?_
      refine SO.v rfl (opv_move rfl) ?_
      obtain ⟨x23, hx24, h⟩ := opt_bind h
      obtain ⟨r25, hr26, hc27⟩ := relR.at hrel7 hx24
      refine SO.v rfl (opv_idx Try.underlying73 Try.sizeOf70 hR8 rfl rfl hr26) ?_
      refine SO.v rfl (opv_fieldIdx Try.underlying70 rfl Try.sizeOf3 hR8 hr26 rfl rfl) ?_
      refine SO.b3 ?_
      refine SO.storeO1 (j := 31) (q := .val (.int .i64 1)) (z' := ({ x23 with Mask := 1 } : ref10_Obj)) Try.sizeOf3 hrel7 hx24 rfl rfl rfl rfl rfl rfl rfl (fun raws28 hrel29 hR30 => ?_)
      refine SO.nil ?_
      refine S.to (ρ' := [(0, bp bp0 0), (4, .bool false), (5, .int .i64 0), (7, bp b20 0)]) ⟨rfl, rfl, rfl, rfl, trivial⟩ ?_
      refine S.seq ?_
      refine S.region ?_
      refine SO.v rfl (opv_move rfl) ?_
      refine SO.v rfl (opv_fieldAddr Try.underlying70 rfl Try.sizeOf3 rfl rfl) ?_
      refine SO.b2 ?_
      refine SO.load1 rfl Try.isAgg3 rfl rfl ?_
      refine SO.v rfl (opv_fieldAddr Try.underlying70 rfl Try.sizeOf3 rfl rfl) ?_
      refine SO.load1 rfl Try.isAgg3 rfl rfl ?_
      obtain ⟨p31, ht32, h⟩ := opt_bind h
      refine SO.b3 ?_
      refine SO.closeR ?_
      refine SO.b2 ?_
      refine SO.closeR ?_
      refine SO.b1 ?_
      refine SO.b3 ?_
      have ct34 := ref10_State_Signal.ct _ bp0 v0_Slots v0_Objs _ _ _ _ ht32
      dsimp only at ct34
      refine SO.call (pre := [Box _ _, OwnR _ _ _ _, OwnR _ _ _ _]) rfl Try.call24 rfl rfl rfl ct34 trivial ?_
      rintro _ _ ⟨u33_Slots, u33_Objs, rfl, rfl⟩
      refine SO.nil ?_
      refine S.to (ρ' := [(4, .bool false), (5, .int .i64 0)]) ⟨rfl, rfl, trivial⟩ ?_
      refine S.seq ?_
      refine S.region ?_
      refine SO.v rfl (opv_assign rfl) ?_
      refine SO.v rfl (opv_assign rfl) ?_
      refine SO.nil ?_
      cases h
      refine S.b3 ?_
      refine S.drop ?_
      refine S.b3 ?_
      refine S.b3 ?_
      refine S.b3 ?_
      refine S.b3 ?_
      exact S.ret2 Try.func15 rfl rfl rfl (fun w hs hk => hR w _ _ ⟨u33_Slots, u33_Objs, rfl, rfl⟩ hs hk)
end Go.Proofs
namespace Go.Proofs
open Go.Sl Go.RowKit
/-! 17 (*padstone/padstoneref10.State).Ready -/
def ref10_State_Ready.f (a0 : ref10_State) (a1 : Int) : Option (Bool) :=
  (ref10_State_is.f a0 a1 5).bind fun t5 => bif !t5 then (some false) else ((at_ a0.Objs a1).bind fun x8 => some (x8.State == 1))
set_option maxHeartbeats 8000000 in
set_option maxRecDepth 100000 in
theorem ref10_State_Ready.ct (bp0 : Nat) (v0_Slots : Value) (v0_Objs : Value) (raws_v0_Slots : List (Raw (kr_ref10_Slot).sz)) (A_v0_Slots : HProp) (raws_v0_Objs : List (Raw (kr_ref10_Obj).sz)) (A_v0_Objs : HProp) (a0 : ref10_State) (a1 : Int) (r0 : Bool) (h : ref10_State_Ready.f a0 a1 = some r0) :
    Ct Try.prog 17 [bp bp0 0, .int .i64 a1] (fun _ => True) [Box bp0 [v0_Slots, v0_Objs, .int .i64 a0.NS, .int .i64 a0.NO], OwnO 77 kr_ref10_Slot v0_Slots raws_v0_Slots A_v0_Slots a0.Slots, OwnO 70 kr_ref10_Obj v0_Objs raws_v0_Objs A_v0_Objs a0.Objs] (fun u H' => u = .bool r0 ∧ H' = [Box bp0 [v0_Slots, v0_Objs, .int .i64 a0.NS, .int .i64 a0.NO], OwnO 77 kr_ref10_Slot v0_Slots raws_v0_Slots A_v0_Slots a0.Slots, OwnO 70 kr_ref10_Obj v0_Objs raws_v0_Objs A_v0_Objs a0.Objs]) := by
  unfold ref10_State_Ready.f at h
  refine Ct.intro (n := 20) Try.func17 rfl rfl rfl ?_
  intro R w0 F hF hR
  refine S.b1 ?_
  refine S.rdO fun hrel1 hR2 => ?_
  refine S.b2 ?_
  refine S.rdO fun hrel3 hR4 => ?_
  refine S.seq ?_
  refine S.region ?_
  refine SO.v rfl (opv_assign rfl) ?_
  refine SO.nil ?_
  refine S.seq ?_
  refine S.region ?_
  refine SO.v rfl (opv_move rfl) ?_
  refine SO.v rfl (opv_move rfl) ?_
  obtain ⟨t5, ht6, h⟩ := opt_bind h
  refine SO.b1 ?_
  refine SO.b2 ?_
  refine SO.call (pre := [Box _ _, OwnO _ _ _ _ _ _, OwnO _ _ _ _ _ _]) rfl Try.call35 rfl rfl rfl (ref10_State_is.ct bp0 v0_Slots v0_Objs raws_v0_Slots A_v0_Slots raws_v0_Objs A_v0_Objs _ _ _ _ ht6) trivial ?_
  rintro _ _ ⟨rfl, rfl⟩
  refine SO.v rfl (opv_assign rfl) ?_
  refine SO.nil ?_
  refine S.seq ?_
  refine S.seq ?_
  refine S.region ?_
  refine SO.v rfl (opv_move rfl) ?_
  refine SO.v rfl (opv_not rfl) ?_
  refine SO.nil ?_
  rcases bool_or (!t5) with b7 | b7
  · replace h := cond_t b7 h
    refine S.condT rfl b7 ?_
    refine S.seq ?_
    refine S.region ?_
    refine SO.v rfl (opv_assign rfl) ?_
    refine SO.nil ?_
    cases h
    refine S.b3 ?_
    refine S.b3 ?_
    refine S.b3 ?_
    refine S.b3 ?_
    exact S.ret1 Try.func17 rfl rfl (fun w hs hk => hR w _ _ ⟨rfl, rfl⟩ hs hk)
  · replace h := cond_f b7 h
    refine S.condF rfl b7 ?_
    refine S.skip ?_
    refine S.seq ?_
    refine S.region ?_
    refine SO.v rfl (opv_move rfl) ?_
    refine SO.v rfl (opv_nilCheck rfl) ?_
    refine SO.v rfl (opv_fieldAddr Try.underlying75 rfl Try.sizeOf73 rfl rfl) ?_
    refine SO.load1 rfl Try.isAgg73 rfl rfl ?_
    refine SO.v rfl (opv_move rfl) ?_
    obtain ⟨x8, hx9, h⟩ := opt_bind h
    obtain ⟨r10, hr11, hc12⟩ := relR.at hrel3 hx9
    refine SO.v rfl (opv_idx Try.underlying73 Try.sizeOf70 hR4 rfl rfl hr11) ?_
    refine SO.v rfl (opv_fieldIdx Try.underlying70 rfl Try.sizeOf3 hR4 hr11 rfl rfl) ?_
    refine SO.loadI1 (j := 8) rfl Try.isAgg3 (Rd.tail (Rd.tail (Rd.head hR4))) hr11 rfl rfl rfl (hc12.val rfl) ?_
    refine SO.v rfl (opv_eql rfl rfl) ?_
    refine SO.v rfl (opv_assign rfl) ?_
    refine SO.nil ?_
    refine S.to (ρ' := [(4, .bool (x8.State == 1))]) ⟨rfl, trivial⟩ ?_
    cases h
    refine S.b3 ?_
    refine S.b3 ?_
    refine S.b3 ?_
    refine S.b3 ?_
    exact S.ret1 Try.func17 rfl rfl (fun w hs hk => hR w _ _ ⟨rfl, rfl⟩ hs hk)
end Go.Proofs
namespace Go.Proofs
open Go.Sl Go.RowKit
/-! 39 (*padstone/padstoneref10.State).Block -/
def ref10_State_Block.f (a0 : ref10_State) (a1 : Int) (a2 : Int) (a3 : Int) : Option (ref10_State) :=
  (at_ a0.Objs a1).bind fun x11 => (app ([]) x11.Queue).bind fun zs20 => (app zs20 ([a2])).bind fun zs28 => (at_ a0.Objs a1).bind fun x32 => (at_ (a0.Objs.set a1.toNat ({ x32 with Queue := zs28 } : ref10_Obj)) a2).bind fun x47 => (at_ ((a0.Objs.set a1.toNat ({ x32 with Queue := zs28 } : ref10_Obj)).set a2.toNat ({ x47 with State := a3 } : ref10_Obj)) a2).bind fun x59 => some ({ a0 with Objs := ((a0.Objs.set a1.toNat ({ x32 with Queue := zs28 } : ref10_Obj)).set a2.toNat ({ x47 with State := a3 } : ref10_Obj)).set a2.toNat ({ x59 with On := a1 } : ref10_Obj) } : ref10_State)
set_option maxHeartbeats 8000000 in
set_option maxRecDepth 100000 in
theorem ref10_State_Block.ct (bp0 : Nat) (v0_Slots : Value) (v0_Objs : Value) (a0 : ref10_State) (a1 : Int) (a2 : Int) (a3 : Int) (rp0 : ref10_State) (h : ref10_State_Block.f a0 a1 a2 a3 = some rp0) :
    Ct Try.prog 39 [bp bp0 0, .int .i64 a1, .int .i64 a2, .int .i64 a3] (fun _ => True) [Box bp0 [v0_Slots, v0_Objs, .int .i64 a0.NS, .int .i64 a0.NO], OwnR 77 kr_ref10_Slot v0_Slots a0.Slots, OwnR 70 kr_ref10_Obj v0_Objs a0.Objs] (fun u H' => ∃ rw0_Slots rw0_Objs, u = .tuple #[] ∧ H' = [Box bp0 [rw0_Slots, rw0_Objs, .int .i64 rp0.NS, .int .i64 rp0.NO], OwnR 77 kr_ref10_Slot rw0_Slots rp0.Slots, OwnR 70 kr_ref10_Obj rw0_Objs rp0.Objs]) := by
  unfold ref10_State_Block.f at h
  refine Ct.intro (n := 44) Try.func39 rfl rfl rfl ?_
  intro R w0 F hF hR
  refine S.seq ?_
  refine S.b1 ?_
  refine S.openR fun raws1 A2 hrel3 hR4 => ?_
  refine S.b2 ?_
  refine S.openR fun raws5 A6 hrel7 hR8 => ?_
  obtain ⟨x11, hx12, h⟩ := opt_bind h
  obtain ⟨r13, hr14, hc15⟩ := relR.at hrel7 hx12
  obtain ⟨u16, hu17, hru18⟩ := hc15.sl 6 rfl
  obtain ⟨zs20, hz21, h⟩ := opt_bind h
  obtain ⟨zs28, hz29, h⟩ := opt_bind h
  obtain ⟨x32, hx33, h⟩ := opt_bind h
  obtain ⟨r34, hr35, hc36⟩ := relR.at hrel7 hx33
  refine S.draw' (Z := fun Q => ∀ (_ : Unit) (_ : Unit) (_ : Unit) (_ : Unit) (v24 : Value) (_ : Unit) (_ : Unit) (_ : Unit) (_ : Unit), Q [(0, bp bp0 0), (1, .int .i64 a1), (2, .int .i64 a2), (3, .int .i64 a3), (24, v24)] [Own 3 (ekI .i64) v24 ([a2]), OwnR 70 kr_ref10_Obj v0_Objs (a0.Objs.set a1.toNat ({ x32 with Queue := zs28 } : ref10_Obj)), OwnO 77 kr_ref10_Slot v0_Slots raws1 A2 a0.Slots, Box bp0 [v0_Slots, v0_Objs, .int .i64 a0.NS, .int .i64 a0.NO], F]) (T := [tS 0 (bp bp0 0), tS 1 (.int .i64 a1), tS 2 (.int .i64 a2), tS 3 (.int .i64 a3), tR (OwnO 70 kr_ref10_Obj v0_Objs raws5 A6 a0.Objs), tR (OwnO 77 kr_ref10_Slot v0_Slots raws1 A2 a0.Slots), tR (Box bp0 [v0_Slots, v0_Objs, .int .i64 a0.NS, .int .i64 a0.NO]), tR (F), tS 8 (bp bp0 0), tS 9 (bp bp0 0), tS 10 (bp bp0 1), tS 11 (v0_Objs), tS 12 (.int .i64 a1), ⟨Value, [13], (fun v9 => [(13, v9)]), (fun v9 => [Own 3 (ekI .i64) v9 ([])]), fun _ => rfl⟩, tS 14 (bp bp0 0), tS 15 (bp bp0 0), tS 16 (bp bp0 1), tS 17 (v0_Objs), tS 18 (.int .i64 a1), tS 19 (idxp v0_Objs (a1.toNat * kr_ref10_Obj.sz)), tS 20 (idxp v0_Objs (a1.toNat * kr_ref10_Obj.sz + 6)), tS 21 (u16), ⟨Value, [22], (fun v22 => [(22, v22)]), (fun v22 => [Own 3 (ekI .i64) v22 zs20]), fun _ => rfl⟩, tS 23 (.int .i64 a2), ⟨Value, [24], (fun v24 => [(24, v24)]), (fun v24 => [Own 3 (ekI .i64) v24 ([a2])]), fun _ => rfl⟩, ⟨Value, [25], (fun v30 => [(25, v30)]), (fun v30 => [Own 3 (ekI .i64) v30 zs28]), fun _ => rfl⟩, tS 26 (idxp v0_Objs (a1.toNat * kr_ref10_Obj.sz)), tS 27 (idxp v0_Objs (a1.toNat * kr_ref10_Obj.sz + 6)), tR (OwnR 70 kr_ref10_Obj v0_Objs (a0.Objs.set a1.toNat ({ x32 with Queue := zs28 } : ref10_Obj)))]) (D := [⟨[0], [], [8]⟩, ⟨[8], [], [9]⟩, ⟨[9], [], [10]⟩, ⟨[10, 6], [], [11]⟩, ⟨[1], [], [12]⟩, ⟨[], [], [13]⟩, ⟨[0], [], [14]⟩, ⟨[14], [], [15]⟩, ⟨[15], [], [16]⟩, ⟨[16, 6], [], [17]⟩, ⟨[1], [], [18]⟩, ⟨[17, 18, 4], [], [19]⟩, ⟨[19, 4], [], [20]⟩, ⟨[20, 4], [], [21]⟩, ⟨[21, 4], [13], [22]⟩, ⟨[2], [], [23]⟩, ⟨[23], [], [24]⟩, ⟨[24], [22], [25]⟩, ⟨[11, 12, 4], [], [26]⟩, ⟨[26, 4], [], [27]⟩, ⟨[27], [25, 4], [28]⟩]) (ini := [0, 1, 2, 3, 4, 5, 6, 7]) (fin := [0, 1, 2, 3, 24, 28, 5, 6, 7]) (bf := [[], [0], [0, 1], [0, 1, 2], [], [], [], [6], [6, 7], [6, 7, 8], [], [6, 7, 8, 9, 10], [6, 7, 8, 9, 10, 11], [6, 7, 8, 9, 10, 11, 12], [5, 6, 7, 8, 9, 10, 11, 12, 13], [], [15], [5, 6, 7, 8, 9, 10, 11, 12, 13, 14, 15, 16], [0, 1, 2, 3, 4, 5, 6, 7, 8, 9, 10, 11, 12, 13, 14, 15, 16, 17], [0, 1, 2, 3, 4, 5, 6, 7, 8, 9, 10, 11, 12, 13, 14, 15, 16, 17, 18], [0, 1, 2, 3, 4, 5, 6, 7, 8, 9, 10, 11, 12, 13, 14, 15, 16, 17, 18, 19]]) (by kernel_rfl) (by kernel_rfl) (fun x w h1 h2 => (.cons () (.cons () (.cons () (.cons () (.cons () (.cons () (.cons () (.cons () (.nil ⟨EnvAll.of h1 ⟨rfl, rfl, rfl, rfl, trivial⟩, h2⟩)))))))))) (fun Q => by kernel_rfl) ⟨?_, ?_, ?_, ?_, ?_, ?_, ?_, ?_, ?_, ?_, ?_, ?_, ?_, ?_, ?_, ?_, ?_, ?_, ?_, ?_, ?_, trivial⟩ ?_
  · rintro Fr _
    refine SO.v rfl (opv_move rfl) ?_
    exact SO.nilZ fun a w h1 h2 h3 h4 h5 => PZ.of h1 h3 h5 (.cons () (.cons () (.nil ⟨EnvAll.of h2 ⟨rfl, rfl, trivial⟩, h4⟩)))
  · rintro Fr _
    refine SO.v rfl (opv_nilCheck rfl) ?_
    exact SO.nilZ fun a w h1 h2 h3 h4 h5 => PZ.of h1 h3 h5 (.cons () (.cons () (.nil ⟨EnvAll.of h2 ⟨rfl, rfl, trivial⟩, h4⟩)))
  · rintro Fr _
    refine SO.v rfl (opv_fieldAddr Try.underlying75 rfl Try.sizeOf73 rfl rfl) ?_
    exact SO.nilZ fun a w h1 h2 h3 h4 h5 => PZ.of h1 h3 h5 (.cons () (.cons () (.nil ⟨EnvAll.of h2 ⟨rfl, rfl, trivial⟩, h4⟩)))
  · rintro Fr _ _
    refine SO.load1 rfl Try.isAgg73 rfl rfl ?_
    exact SO.nilZ fun a w h1 h2 h3 h4 h5 => PZ.of h1 h3 h5 (.cons () (.cons () (.cons () (.nil ⟨EnvAll.of h2 ⟨rfl, rfl, trivial⟩, h4⟩))))
  · rintro Fr _
    refine SO.v rfl (opv_move rfl) ?_
    exact SO.nilZ fun a w h1 h2 h3 h4 h5 => PZ.of h1 h3 h5 (.cons () (.cons () (.nil ⟨EnvAll.of h2 ⟨rfl, rfl, trivial⟩, h4⟩)))
  · rintro Fr 
    refine SO.buildSlice0 (ekI .i64) rfl Try.underlying67 Try.sizeOf3 (fun v9 hr10 => ?_)
    exact SO.nilZ fun a w h1 h2 h3 h4 h5 => PZ.of h1 h3 h5 (.cons v9 (.nil ⟨EnvAll.of h2 ⟨rfl, trivial⟩, h4⟩))
  · rintro Fr _
    refine SO.v rfl (opv_move rfl) ?_
    exact SO.nilZ fun a w h1 h2 h3 h4 h5 => PZ.of h1 h3 h5 (.cons () (.cons () (.nil ⟨EnvAll.of h2 ⟨rfl, rfl, trivial⟩, h4⟩)))
  · rintro Fr _
    refine SO.v rfl (opv_nilCheck rfl) ?_
    exact SO.nilZ fun a w h1 h2 h3 h4 h5 => PZ.of h1 h3 h5 (.cons () (.cons () (.nil ⟨EnvAll.of h2 ⟨rfl, rfl, trivial⟩, h4⟩)))
  · rintro Fr _
    refine SO.v rfl (opv_fieldAddr Try.underlying75 rfl Try.sizeOf73 rfl rfl) ?_
    exact SO.nilZ fun a w h1 h2 h3 h4 h5 => PZ.of h1 h3 h5 (.cons () (.cons () (.nil ⟨EnvAll.of h2 ⟨rfl, rfl, trivial⟩, h4⟩)))
  · rintro Fr _ _
    refine SO.load1 rfl Try.isAgg73 rfl rfl ?_
    exact SO.nilZ fun a w h1 h2 h3 h4 h5 => PZ.of h1 h3 h5 (.cons () (.cons () (.cons () (.nil ⟨EnvAll.of h2 ⟨rfl, rfl, trivial⟩, h4⟩))))
  · rintro Fr _
    refine SO.v rfl (opv_move rfl) ?_
    exact SO.nilZ fun a w h1 h2 h3 h4 h5 => PZ.of h1 h3 h5 (.cons () (.cons () (.nil ⟨EnvAll.of h2 ⟨rfl, rfl, trivial⟩, h4⟩)))
  · rintro Fr _ _ _
    refine SO.v rfl (opv_idx Try.underlying73 Try.sizeOf70 hR8 rfl rfl hr14) ?_
    exact SO.nilZ fun a w h1 h2 h3 h4 h5 => PZ.of h1 h3 h5 (.cons () (.cons () (.cons () (.cons () (.nil ⟨EnvAll.of h2 ⟨rfl, rfl, rfl, trivial⟩, h4⟩)))))
  · rintro Fr _ _
    refine SO.v rfl (opv_fieldIdx Try.underlying70 rfl Try.sizeOf67 hR8 hr14 rfl rfl) ?_
    exact SO.nilZ fun a w h1 h2 h3 h4 h5 => PZ.of h1 h3 h5 (.cons () (.cons () (.cons () (.nil ⟨EnvAll.of h2 ⟨rfl, rfl, trivial⟩, h4⟩))))
  · rintro Fr _ _
    refine SO.loadI1 (j := 6) rfl Try.isAgg67 (Rd.head hR8) hr14 rfl rfl rfl hu17 ?_
    exact SO.nilZ fun a w h1 h2 h3 h4 h5 => PZ.of h1 h3 h5 (.cons () (.cons () (.cons () (.nil ⟨EnvAll.of h2 ⟨rfl, rfl, trivial⟩, h4⟩))))
  · rintro Fr _ _ v9
    refine SO.b1 ?_
    refine SO.rd fun hr19 => ?_
    refine SO.append rfl Try.underlying67 inf3 rfl rfl rfl (by decide) rfl rfl rfl (Rd.head (Rd.pool hru18)) hz21 (fun v22 => ?_)
    refine SO.rd fun hr23 => ?_
    refine SO.b1 ?_
    exact SO.nilZ fun a w h1 h2 h3 h4 h5 => PZ.of h1 h3 h5 (.cons () (.cons () (.cons v22 (.nil ⟨EnvAll.of h2 ⟨rfl, rfl, trivial⟩, h4⟩))))
  · rintro Fr _
    refine SO.v rfl (opv_move rfl) ?_
    exact SO.nilZ fun a w h1 h2 h3 h4 h5 => PZ.of h1 h3 h5 (.cons () (.cons () (.nil ⟨EnvAll.of h2 ⟨rfl, rfl, trivial⟩, h4⟩)))
  · rintro Fr _
    refine SO.buildSlice (K := ekI .i64) (xs := [a2]) (cs := [.int .i64 a2]) rfl Try.underlying67 Try.sizeOf3 Try.zeroValue3 rfl rfl rfl (by kernel_rfl) rfl rfl rfl (fun v24 hr25 => ?_)
    exact SO.nilZ fun a w h1 h2 h3 h4 h5 => PZ.of h1 h3 h5 (.cons () (.cons v24 (.nil ⟨EnvAll.of h2 ⟨rfl, rfl, trivial⟩, h4⟩)))
  · rintro Fr v24 v22
    refine SO.rd fun hr26 => ?_
    refine SO.b1 ?_
    refine SO.rd fun hr27 => ?_
    refine SO.append rfl Try.underlying67 inf3 rfl rfl rfl (by decide) rfl rfl rfl (Rd.head hr26) hz29 (fun v30 => ?_)
    refine SO.rd fun hr31 => ?_
    refine SO.b1 ?_
    exact SO.nilZ fun a w h1 h2 h3 h4 h5 => PZ.of h1 h3 h5 (.cons v24 (.cons v30 (.nil ⟨EnvAll.of h2 ⟨rfl, rfl, trivial⟩, h4⟩)))
  · rintro Fr _ _ _
    refine SO.v rfl (opv_idx Try.underlying73 Try.sizeOf70 hR8 rfl rfl hr35) ?_
    exact SO.nilZ fun a w h1 h2 h3 h4 h5 => PZ.of h1 h3 h5 (.cons () (.cons () (.cons () (.cons () (.nil ⟨EnvAll.of h2 ⟨rfl, rfl, rfl, trivial⟩, h4⟩)))))
  · rintro Fr _ _
    refine SO.v rfl (opv_fieldIdx Try.underlying70 rfl Try.sizeOf67 hR8 hr35 rfl rfl) ?_
    exact SO.nilZ fun a w h1 h2 h3 h4 h5 => PZ.of h1 h3 h5 (.cons () (.cons () (.cons () (.nil ⟨EnvAll.of h2 ⟨rfl, rfl, trivial⟩, h4⟩))))
  · rintro Fr _ v30 _
    refine SO.rd fun hr37 => ?_
    refine SO.b1 ?_
    refine SO.b1 ?_
    refine SO.freeze hrel7 fun A38 hcov39 hru40 hrel41 hR42 => ?_
    refine SO.storeO1 (j := 6) (q := .sl (ekI .i64) zs28) (z' := ({ x32 with Queue := zs28 } : ref10_Obj)) Try.sizeOf67 hrel41 hx33 rfl rfl (Rd.one hru40) rfl rfl rfl hru40 (fun raws43 hrel44 hR45 => ?_)
    refine SO.closeR ?_
    exact SO.nilZ fun a w h1 h2 h3 h4 h5 => PZ.of h1 h3 h5 (.cons () (.cons () (.nil ⟨EnvAll.of h2 ⟨rfl, trivial⟩, h4⟩)))
  rintro _ _ _ _ v24 _ _ _ _
  refine S.to (ρ' := [(0, bp bp0 0), (1, .int .i64 a1), (2, .int .i64 a2), (3, .int .i64 a3)]) ⟨rfl, rfl, rfl, rfl, trivial⟩ ?_
  refine S.rd fun hr46 => ?_
  refine S.seq ?_
  refine S.region ?_
  refine SO.v rfl (opv_move rfl) ?_
  refine SO.v rfl (opv_nilCheck rfl) ?_
  refine SO.v rfl (opv_fieldAddr Try.underlying75 rfl Try.sizeOf73 rfl rfl) ?_
  refine SO.b3 ?_
  refine SO.load1 rfl Try.isAgg73 rfl rfl ?_
  refine SO.v rfl (opv_move rfl) ?_
  refine SO.v rfl (opv_move rfl) ?_
  refine SO.b2 ?_
  refine SO.openR fun raws52 A53 hrel54 hR55 => ?_
  obtain ⟨x47, hx48, h⟩ := opt_bind h
  obtain ⟨r49, hr50, hc51⟩ := relR.at hrel54 hx48
  refine SO.v rfl (opv_idx Try.underlying73 Try.sizeOf70 hR55 rfl rfl hr50) ?_
  refine SO.v rfl (opv_fieldIdx Try.underlying70 rfl Try.sizeOf3 hR55 hr50 rfl rfl) ?_
  refine SO.storeO1 (j := 8) (q := .val (.int .i64 a3)) (z' := ({ x47 with State := a3 } : ref10_Obj)) Try.sizeOf3 hrel54 hx48 rfl rfl rfl rfl rfl rfl rfl (fun raws56 hrel57 hR58 => ?_)
  refine SO.nil ?_
  refine S.to (ρ' := [(0, bp bp0 0), (1, .int .i64 a1), (2, .int .i64 a2)]) ⟨rfl, rfl, rfl, trivial⟩ ?_
  refine S.region ?_
  refine SO.v rfl (opv_move rfl) ?_
  refine SO.v rfl (opv_nilCheck rfl) ?_
  refine SO.v rfl (opv_fieldAddr Try.underlying75 rfl Try.sizeOf73 rfl rfl) ?_
  refine SO.b1 ?_
  refine SO.load1 rfl Try.isAgg73 rfl rfl ?_
  refine SO.v rfl (opv_move rfl) ?_
  refine SO.v rfl (opv_move rfl) ?_
  obtain ⟨x59, hx60, h⟩ := opt_bind h
  obtain ⟨r61, hr62, hc63⟩ := relR.at hrel57 hx60
  refine SO.v rfl (opv_idx Try.underlying73 Try.sizeOf70 hR58 rfl rfl hr62) ?_
  refine SO.v rfl (opv_fieldIdx Try.underlying70 rfl Try.sizeOf3 hR58 hr62 rfl rfl) ?_
  refine SO.b1 ?_
  refine SO.storeO1 (j := 12) (q := .val (.int .i64 a1)) (z' := ({ x59 with On := a1 } : ref10_Obj)) Try.sizeOf3 hrel57 hx60 rfl rfl rfl rfl rfl rfl rfl (fun raws64 hrel65 hR66 => ?_)
  refine SO.nil ?_
  refine S.to (ρ' := []) trivial ?_
  cases h
  refine S.closeR ?_
  refine S.b3 ?_
  refine S.closeR ?_
  refine S.b3 ?_
  refine S.drop ?_
  refine S.b3 ?_
  refine S.b2 ?_
  refine S.b2 ?_
  refine S.b3 ?_
  exact S.fin0 Try.func39 rfl (fun w hs hk => hR w _ _ ⟨v0_Slots, v0_Objs, rfl, rfl⟩ hs hk)
end Go.Proofs
namespace Go.Proofs
open Go.Sl Go.RowKit
/-! 26 (*padstone/padstoneref10.State).Poll -/
def ref10_State_Poll.f (a0 : ref10_State) (a1 : Int) : Option ((Int × ref10_State)) :=
  (at_ a0.Objs a1).bind fun x1 => (at_ a0.Objs a1).bind fun x10 => some (x1.Word, ({ a0 with Objs := a0.Objs.set a1.toNat ({ x10 with Word := 0 } : ref10_Obj) } : ref10_State))
set_option maxHeartbeats 8000000 in
set_option maxRecDepth 100000 in
theorem ref10_State_Poll.ct (bp0 : Nat) (v0_Slots : Value) (v0_Objs : Value) (a0 : ref10_State) (a1 : Int) (r0 : Int) (rp0 : ref10_State) (h : ref10_State_Poll.f a0 a1 = some (r0, rp0)) :
    Ct Try.prog 26 [bp bp0 0, .int .i64 a1] (fun _ => True) [Box bp0 [v0_Slots, v0_Objs, .int .i64 a0.NS, .int .i64 a0.NO], OwnR 77 kr_ref10_Slot v0_Slots a0.Slots, OwnR 70 kr_ref10_Obj v0_Objs a0.Objs] (fun u H' => ∃ rw0_Slots rw0_Objs, u = .int .i64 r0 ∧ H' = [Box bp0 [rw0_Slots, rw0_Objs, .int .i64 rp0.NS, .int .i64 rp0.NO], OwnR 77 kr_ref10_Slot rw0_Slots rp0.Slots, OwnR 70 kr_ref10_Obj rw0_Objs rp0.Objs]) := by
  unfold ref10_State_Poll.f at h
  refine Ct.intro (n := 22) Try.func26 rfl rfl rfl ?_
  intro R w0 F hF hR
  refine S.seq ?_
  refine S.region ?_
  refine SO.v rfl (opv_assign rfl) ?_
  refine SO.nil ?_
  refine S.seq ?_
  refine S.region ?_
  refine SO.v rfl (opv_move rfl) ?_
  refine SO.v rfl (opv_nilCheck rfl) ?_
  refine SO.v rfl (opv_fieldAddr Try.underlying75 rfl Try.sizeOf73 rfl rfl) ?_
  refine SO.load1 rfl Try.isAgg73 rfl rfl ?_
  refine SO.v rfl (opv_move rfl) ?_
  refine SO.b2 ?_
  refine SO.openR fun raws6 A7 hrel8 hR9 => ?_
  obtain ⟨x1, hx2, h⟩ := opt_bind h
  obtain ⟨r3, hr4, hc5⟩ := relR.at hrel8 hx2
  refine SO.v rfl (opv_idx Try.underlying73 Try.sizeOf70 hR9 rfl rfl hr4) ?_
  refine SO.v rfl (opv_fieldIdx Try.underlying70 rfl Try.sizeOf3 hR9 hr4 rfl rfl) ?_
  refine SO.loadI1 (j := 7) rfl Try.isAgg3 (Rd.head hR9) hr4 rfl rfl rfl (hc5.val rfl) ?_
  refine SO.v rfl (opv_assign rfl) ?_
  refine SO.nil ?_
  refine S.to (ρ' := [(0, bp bp0 0), (1, .int .i64 a1), (4, .int .i64 0), (5, .int .i64 x1.Word)]) ⟨rfl, rfl, rfl, rfl, trivial⟩ ?_
  refine S.seq ?_
  refine S.region ?_
  refine SO.v rfl (opv_move rfl) ?_
  refine SO.v rfl (opv_nilCheck rfl) ?_
  refine SO.v rfl (opv_fieldAddr Try.underlying75 rfl Try.sizeOf73 rfl rfl) ?_
  refine SO.b1 ?_
  refine SO.load1 rfl Try.isAgg73 rfl rfl ?_
  refine SO.v rfl (opv_move rfl) ?_
  obtain ⟨x10, hx11, h⟩ := opt_bind h
  obtain ⟨r12, hr13, hc14⟩ := relR.at hrel8 hx11
  refine SO.v rfl (opv_idx Try.underlying73 Try.sizeOf70 hR9 rfl rfl hr13) ?_
  refine SO.v rfl (opv_fieldIdx Try.underlying70 rfl Try.sizeOf3 hR9 hr13 rfl rfl) ?_
  refine SO.b1 ?_
  refine SO.storeO1 (j := 7) (q := .val (.int .i64 0)) (z' := ({ x10 with Word := 0 } : ref10_Obj)) Try.sizeOf3 hrel8 hx11 rfl rfl rfl rfl rfl rfl rfl (fun raws15 hrel16 hR17 => ?_)
  refine SO.nil ?_
  refine S.to (ρ' := [(4, .int .i64 0), (5, .int .i64 x1.Word)]) ⟨rfl, rfl, trivial⟩ ?_
  refine S.seq ?_
  refine S.region ?_
  refine SO.v rfl (opv_move rfl) ?_
  refine SO.v rfl (opv_assign rfl) ?_
  refine SO.nil ?_
  cases h
  refine S.closeR ?_
  refine S.b3 ?_
  refine S.b1 ?_
  refine S.b3 ?_
  refine S.b3 ?_
  exact S.ret1 Try.func26 rfl rfl (fun w hs hk => hR w _ _ ⟨v0_Slots, v0_Objs, rfl, rfl⟩ hs hk)
end Go.Proofs
namespace Go.Proofs
open Go.Sl Go.RowKit
/-! 19 (*padstone/padstoneref10.State).Wait -/
def ref10_State_Wait.f (a0 : ref10_State) (a1 : Int) (a2 : Int) : Option ((Int × Bool × ref10_State)) :=
  (at_ a0.Objs a1).bind fun x1 => bif x1.Word == 0 then ((ref10_State_Block.f a0 a1 a2 5).bind fun p11 => some (0, false, p11)) else ((ref10_State_Poll.f a0 a1).bind fun (t14, p15) => some (t14, true, p15))
set_option maxHeartbeats 8000000 in
set_option maxRecDepth 100000 in
theorem ref10_State_Wait.ct (bp0 : Nat) (v0_Slots : Value) (v0_Objs : Value) (a0 : ref10_State) (a1 : Int) (a2 : Int) (r0 : Int) (r1 : Bool) (rp0 : ref10_State) (h : ref10_State_Wait.f a0 a1 a2 = some (r0, r1, rp0)) :
    Ct Try.prog 19 [bp bp0 0, .int .i64 a1, .int .i64 a2] (fun _ => True) [Box bp0 [v0_Slots, v0_Objs, .int .i64 a0.NS, .int .i64 a0.NO], OwnR 77 kr_ref10_Slot v0_Slots a0.Slots, OwnR 70 kr_ref10_Obj v0_Objs a0.Objs] (fun u H' => ∃ rw0_Slots rw0_Objs, u = .tuple #[.int .i64 r0, .bool r1] ∧ H' = [Box bp0 [rw0_Slots, rw0_Objs, .int .i64 rp0.NS, .int .i64 rp0.NO], OwnR 77 kr_ref10_Slot rw0_Slots rp0.Slots, OwnR 70 kr_ref10_Obj rw0_Objs rp0.Objs]) := by
  unfold ref10_State_Wait.f at h
  refine Ct.intro (n := 24) Try.func19 rfl rfl rfl ?_
  intro R w0 F hF hR
  refine S.seq ?_
  refine S.region ?_
  refine SO.v rfl (opv_assign rfl) ?_
  refine SO.v rfl (opv_assign rfl) ?_
  refine SO.nil ?_
  refine S.seq ?_
  refine S.seq ?_
  refine S.region ?_
  refine SO.v rfl (opv_move rfl) ?_
  refine SO.v rfl (opv_nilCheck rfl) ?_
  refine SO.v rfl (opv_fieldAddr Try.underlying75 rfl Try.sizeOf73 rfl rfl) ?_
  refine SO.load1 rfl Try.isAgg73 rfl rfl ?_
  refine SO.v rfl (opv_move rfl) ?_
  refine SO.b2 ?_
  refine SO.openR fun raws6 A7 hrel8 hR9 => ?_
  obtain ⟨x1, hx2, h⟩ := opt_bind h
  obtain ⟨r3, hr4, hc5⟩ := relR.at hrel8 hx2
  refine SO.v rfl (opv_idx Try.underlying73 Try.sizeOf70 hR9 rfl rfl hr4) ?_
  refine SO.v rfl (opv_fieldIdx Try.underlying70 rfl Try.sizeOf3 hR9 hr4 rfl rfl) ?_
  refine SO.loadI1 (j := 7) rfl Try.isAgg3 (Rd.head hR9) hr4 rfl rfl rfl (hc5.val rfl) ?_
  refine SO.v rfl (opv_eql rfl rfl) ?_
  refine SO.nil ?_
  refine S.to (ρ' := [(0, bp bp0 0), (1, .int .i64 a1), (2, .int .i64 a2), (6, .int .i64 0), (7, .bool false), (16, .bool (x1.Word == 0))]) ⟨rfl, rfl, rfl, rfl, rfl, rfl, trivial⟩ ?_
  rcases bool_or (x1.Word == 0) with b10 | b10
  · replace h := cond_t b10 h
    refine S.condT rfl b10 ?_
    refine S.seq ?_
    refine S.region ?_
    refine SO.v rfl (opv_move rfl) ?_
    refine SO.v rfl (opv_move rfl) ?_
    refine SO.v rfl (opv_move rfl) ?_
    obtain ⟨p11, ht12, h⟩ := opt_bind h
    refine SO.closeR ?_
    refine SO.b2 ?_
    refine SO.b2 ?_
    refine SO.call (pre := [Box _ _, OwnR _ _ _ _, OwnR _ _ _ _]) rfl Try.call39 rfl rfl rfl (ref10_State_Block.ct bp0 v0_Slots v0_Objs _ _ _ _ _ ht12) trivial ?_
    rintro _ _ ⟨u13_Slots, u13_Objs, rfl, rfl⟩
    refine SO.nil ?_
    refine S.seq ?_
    refine S.region ?_
    refine SO.v rfl (opv_assign rfl) ?_
    refine SO.v rfl (opv_assign rfl) ?_
    refine SO.nil ?_
    cases h
    refine S.b3 ?_
    refine S.b3 ?_
    refine S.b3 ?_
    refine S.b3 ?_
    exact S.ret2 Try.func19 rfl rfl rfl (fun w hs hk => hR w _ _ ⟨u13_Slots, u13_Objs, rfl, rfl⟩ hs hk)
  · replace h := cond_f b10 h
    refine S.condF rfl b10 ?_
    refine S.skip ?_
    refine S.seq ?_
    refine S.region ?_
    refine SO.v rfl (opv_move rfl) ?_
    refine SO.v rfl (opv_move rfl) ?_
    obtain ⟨⟨t14, p15⟩, ht16, h⟩ := opt_bind h
    refine SO.closeR ?_
    refine SO.b2 ?_
    refine SO.b2 ?_
    refine SO.call (pre := [Box _ _, OwnR _ _ _ _, OwnR _ _ _ _]) rfl Try.call26 rfl rfl rfl (ref10_State_Poll.ct bp0 v0_Slots v0_Objs _ _ _ _ ht16) trivial ?_
    rintro _ _ ⟨u17_Slots, u17_Objs, rfl, rfl⟩
    refine SO.v rfl (opv_assign rfl) ?_
    refine SO.v rfl (opv_assign rfl) ?_
    refine SO.nil ?_
    refine S.to (ρ' := [(6, .int .i64 t14), (7, .bool true)]) ⟨rfl, rfl, trivial⟩ ?_
    cases h
    refine S.b3 ?_
    refine S.b3 ?_
    refine S.b3 ?_
    refine S.b3 ?_
    exact S.ret2 Try.func19 rfl rfl rfl (fun w hs hk => hR w _ _ ⟨u17_Slots, u17_Objs, rfl, rfl⟩ hs hk)
end Go.Proofs
namespace Go.Proofs
open Go.Sl Go.RowKit
/-! 4 padstone/padstonelaw19.IrqPlays -/
def law19_IrqPlays.l1 (a0 : List law19_Deed) : Nat → (Int × (List ref10_Slot) × (List ref10_Obj) × Int × Int × (List Int)) → Option (Brk Bool ((List ref10_Slot) × (List ref10_Obj) × Int × Int × (List Int)))
  | 0, _ => none
  | k + 1, (x6_1, y6_0_1, y6_1_1, y6_2_1, y6_3_1, qv18_1) => bif decide (x6_1 < (a0.length : Int)) then ((at_ a0 x6_1).bind fun x22 => (law10_Pick.f x22.What 5).bind fun t25 => (((bif t25 == 0 then ((law10_Pick.f x22.N 65536).bind fun t28 => (VM.run plainI (irq_Bind.f x22.A x22.B t28) qv18_1).bind fun (t30, s32) => (ref10_State_Bind.f (⟨y6_0_1, y6_1_1, y6_2_1, y6_3_1⟩ : ref10_State) x22.A x22.B t28).bind fun (t34, p35) => some (Brk.nx (t34, t30, p35.Slots, p35.Objs, p35.NS, p35.NO, s32))) else ((bif t25 == 1 then (some (t25 == 1)) else (some (t25 == 2))).bind fun j65_3 => bif j65_3 then ((VM.run plainI (irq_Fire.f x22.A) qv18_1).bind fun ((t41, t42), s44) => (ref10_State_Fire.f k (⟨y6_0_1, y6_1_1, y6_2_1, y6_3_1⟩ : ref10_State) x22.A).bind fun (t46, t47, p48) => bif t41 != t46 then (some (Brk.ret false)) else (some (Brk.nx (t47, t42, p48.Slots, p48.Objs, p48.NS, p48.NO, s44)))) else (bif t25 == 3 then ((VM.run plainI (irq_Ack.f x22.A) qv18_1).bind fun (t54, s56) => (ref10_State_Ack.f (⟨y6_0_1, y6_1_1, y6_2_1, y6_3_1⟩ : ref10_State) x22.A).bind fun (t58, p59) => some (Brk.nx (t58, t54, p59.Slots, p59.Objs, p59.NS, p59.NO, s56))) else ((ref10_State_Ready.f (⟨y6_0_1, y6_1_1, y6_2_1, y6_3_1⟩ : ref10_State) 0).bind fun t71 => bif t71 then ((VM.run plainI (ntfn_Wait.f 5 0) qv18_1).bind fun ((t74, t75, t76), s78) => (ref10_State_Wait.f (⟨y6_0_1, y6_1_1, y6_2_1, y6_3_1⟩ : ref10_State) 5 0).bind fun (t80, t81, p82) => some (Brk.nx (0, none, p82.Slots, p82.Objs, p82.NS, p82.NO, s78))) else (some (Brk.nx (0, none, y6_0_1, y6_1_1, y6_2_1, y6_3_1, qv18_1))))))) : Option (Brk Bool (Int × (Option Int) × (List ref10_Slot) × (List ref10_Obj) × Int × Int × (List Int))))).bind fun o2 => Brk.go o2 (fun r => some (Brk.ret r)) (fun (j8_2, j9_2, y6_0_2, y6_1_2, y6_2_2, y6_3_2, qv18_2) => (law00_Code.f k j9_2).bind fun t88 => (bif t88 != j8_2 then (some true) else ((ref10_State_Words.f k (⟨y6_0_2, y6_1_2, y6_2_2, y6_3_2⟩ : ref10_State)).bind fun t101 => (ref10_Same.f k qv18_2 t101).bind fun t105 => some (!t105))).bind fun c99 => bif c99 then (some (Brk.ret false)) else (law19_IrqPlays.l1 a0 k (w64 (x6_1 + 1), y6_0_2, y6_1_2, y6_2_2, y6_3_2, qv18_2)))) else (some (Brk.nx (y6_0_1, y6_1_1, y6_2_1, y6_3_1, qv18_1)))
def law19_IrqPlays.f (k : Nat) (a0 : List law19_Deed) : Option (Bool) :=
  (law19_up.f k ).bind fun t1 => bif decide (120 < (a0.length : Int)) then (some t1) else ((ref10_Boot.f k 1).bind fun t4 => (ref10_State_Words.f k t4).bind fun t16 => (law19_IrqPlays.l1 a0 k (0, t4.Slots, t4.Objs, t4.NS, t4.NO, t16)).bind fun o1 => Brk.go o1 (fun r => some r) (fun (y6_0_e1, y6_1_e1, y6_2_e1, y6_3_e1, qv18_e1) => some t1))
set_option maxHeartbeats 8000000 in
set_option maxRecDepth 100000 in
theorem law19_IrqPlays.ct (k : Nat) (v0 : Value) (a0 : List law19_Deed) (r0 : Bool) (h : law19_IrqPlays.f k a0 = some r0) :
    Ct Try.prog 4 [v0] (fun F => Rd ek_law19_Deed v0 a0 F) [] (fun u H' => u = .bool r0 ∧ H' = []) := by
  unfold law19_IrqPlays.f at h
  refine Ct.intro (n := 111) Try.func4 rfl rfl rfl ?_
  intro R w0 F hF hR
  have hF0 := hF
  refine S.seq ?_
  refine S.region ?_
  refine SO.v rfl (opv_assign rfl) ?_
  refine SO.nil ?_
  refine S.seq ?_
  refine S.region ?_
  obtain ⟨t1, ht2, h⟩ := opt_bind h
  refine SO.call (pre := []) rfl Try.call7 rfl rfl rfl (law19_up.ct _ _ ht2) trivial ?_
  rintro _ _ ⟨rfl, rfl⟩
  refine SO.v rfl (opv_assign rfl) ?_
  refine SO.nil ?_
  refine S.seq ?_
  refine S.seq ?_
  refine S.region ?_
  refine SO.v rfl (opv_move rfl) ?_
  refine SO.v rfl (opv_lenR rfl Try.underlying22 hF0 rfl) ?_
  refine SO.v rfl (opv_gtr rfl rfl) ?_
  refine SO.nil ?_
  rcases bool_or (decide (120 < (a0.length : Int))) with b3 | b3
  · replace h := cond_t b3 h
    refine S.condT rfl b3 ?_
    refine S.seq ?_
    refine S.region ?_
    refine SO.v rfl (opv_move rfl) ?_
    refine SO.v rfl (opv_assign rfl) ?_
    refine SO.nil ?_
    cases h
    exact S.ret1 Try.func4 rfl rfl (fun w hs hk => hR w _ _ ⟨rfl, rfl⟩ hs hk)
  · replace h := cond_f b3 h
    refine S.condF rfl b3 ?_
    refine S.skip ?_
    refine S.seq ?_
    refine S.region ?_
    obtain ⟨t4, ht5, h⟩ := opt_bind h
    refine SO.call (pre := []) rfl Try.call8 rfl rfl rfl (ref10_Boot.ct _ _ _ ht5) trivial ?_
    rintro _ _ ⟨b6, u7_Slots, u7_Objs, rfl, rfl⟩
    refine SO.v rfl (opv_assign rfl) ?_
    refine SO.nil ?_
    refine S.seq ?_
    refine S.region ?_
    refine SO.v rfl (opv_move rfl) ?_
    obtain ⟨t16, ht17, h⟩ := opt_bind h
    refine SO.b1 ?_
    refine SO.openR fun raws8 A9 hrel10 hR11 => ?_
    refine SO.b2 ?_
    refine SO.openR fun raws12 A13 hrel14 hR15 => ?_
    refine SO.b1 ?_
    refine SO.b2 ?_
    refine SO.call (pre := [Box _ _, OwnO _ _ _ _ _ _, OwnO _ _ _ _ _ _]) rfl Try.call9 rfl rfl rfl (ref10_State_Words.ct _ b6 u7_Slots u7_Objs raws8 A9 raws12 A13 _ _ ht17) trivial ?_
    rintro v18 _ ⟨_, rfl, rfl⟩
    refine SO.rd fun hr19 => ?_
    refine SO.v rfl (opv_assign rfl) ?_
    refine SO.nil ?_
    refine S.to (ρ' := [(0, v0), (2, .bool false), (3, .bool t1), (4, bp b6 0), (5, v18)]) ⟨rfl, rfl, rfl, rfl, rfl, trivial⟩ ?_
    refine S.seq ?_
    refine S.seq ?_
    refine S.region ?_
    refine SO.v rfl (opv_assign rfl) ?_
    refine SO.nil ?_
    obtain ⟨o1, hl1, h⟩ := opt_bind h
    refine S.b2 ?_
    refine S.closeR ?_
    refine S.b3 ?_
    refine S.closeR ?_
    refine S.b4 ?_
    refine S.b4 ?_
    refine S.b4 ?_
    refine S.b4 ?_
    refine S.b4 ?_
    refine S.to (ρ' := [(6, .int .i64 0), (0, v0), (2, .bool false), (3, .bool t1), (4, bp b6 0), (5, v18)]) ⟨rfl, rfl, rfl, rfl, rfl, rfl, trivial⟩ ?_
    refine S.forloop (X := (Int × (List ref10_Slot) × (List ref10_Obj) × Int × Int × (List Int)) × (Value × Value)) (O := Brk Bool ((List ref10_Slot) × (List ref10_Obj) × Int × Int × (List Int))) (fun m x => law19_IrqPlays.l1 a0 m x.1) (fun x => match x with | ((x6_1, y6_0_1, y6_1_1, y6_2_1, y6_3_1, qv18_1), (vy6_0_1, vy6_1_1)) => [(6, .int .i64 x6_1), (0, v0), (2, .bool false), (3, .bool t1), (4, bp b6 0), (5, v18)]) (fun x => match x with | ((x6_1, y6_0_1, y6_1_1, y6_2_1, y6_3_1, qv18_1), (vy6_0_1, vy6_1_1)) => [OwnR 70 kr_ref10_Obj vy6_1_1 y6_1_1, OwnR 77 kr_ref10_Slot vy6_0_1 y6_0_1, Own 63 (ekI .u64) v18 qv18_1, Box b6 [vy6_0_1, vy6_1_1, .int .i64 y6_2_1, .int .i64 y6_3_1], F]) (fun Sk o' => (∀ r', o' = Brk.ret r' → some r' = some r0) ∧ ∀ j : ((List ref10_Slot) × (List ref10_Obj) × Int × Int × (List Int)), match j with | (y6_0_e1, y6_1_e1, y6_2_e1, y6_3_e1, qv18_e1) => ∀ g : (Value × Value), match g with | (vy6_0_e1, vy6_1_e1) => o' = Brk.nx (y6_0_e1, y6_1_e1, y6_2_e1, y6_3_e1, qv18_e1) → Sk [(2, .bool false), (3, .bool t1)] [OwnR 70 kr_ref10_Obj vy6_1_e1 y6_1_e1, OwnR 77 kr_ref10_Slot vy6_0_e1 y6_0_e1, Own 63 (ekI .u64) v18 qv18_e1, Box b6 [vy6_0_e1, vy6_1_e1, .int .i64 y6_2_e1, .int .i64 y6_3_e1], F]) (fun _ => rfl) ?_ (m := k) (x := ((0, t4.Slots, t4.Objs, t4.NS, t4.NO, t16), (u7_Slots, u7_Objs))) hl1 ?_
    · clear h hl1
      intro k x o_1 h hK1 ih1
      obtain ⟨⟨x6_1, y6_0_1, y6_1_1, y6_2_1, y6_3_1, qv18_1⟩, ⟨vy6_0_1, vy6_1_1⟩⟩ := x
      replace h : law19_IrqPlays.l1 a0 (k + 1) (x6_1, y6_0_1, y6_1_1, y6_2_1, y6_3_1, qv18_1) = some o_1 := h
      first | rw [law19_IrqPlays.l1] at h | unfold law19_IrqPlays.l1 at h
      refine S.b2 ?_
      refine S.rd fun hr20 => ?_
      refine S.seq ?_
      refine S.seq ?_
      refine S.region ?_
      refine SO.v rfl (opv_move rfl) ?_
      refine SO.v rfl (opv_move rfl) ?_
      refine SO.v rfl (opv_lenR rfl Try.underlying22 hF0 rfl) ?_
      refine SO.v rfl (opv_lss rfl rfl) ?_
      refine SO.nil ?_
      rcases bool_or (decide (x6_1 < (a0.length : Int))) with b21 | b21
      · replace h := cond_t b21 h
        refine S.condT rfl b21 ?_
        refine S.skip ?_
        refine S.seq ?_
        refine S.block ?_
        refine S.seq ?_
        refine S.region ?_
        refine SO.v rfl (opv_move rfl) ?_
        refine SO.v rfl (opv_move rfl) ?_
        obtain ⟨x22, hx23, h⟩ := opt_bind h
        refine SO.v rfl (opv_idx Try.underlying22 Try.sizeOf31 hF0 rfl rfl hx23) ?_
        refine SO.loadIN rfl Try.isAgg31 Try.sizeOf31 (Rd.tail (Rd.tail (Rd.tail (Rd.tail (Rd.head hF0))))) hx23 rfl rfl rfl ?_
        refine SO.alloc rfl Try.zeroValue31 rfl (fun b24 => ?_)
        refine SO.storeN Try.sizeOf31 rfl rfl rfl rfl rfl rfl ?_
        refine SO.nil ?_
        refine S.seq ?_
        refine S.region ?_
        refine SO.v rfl (opv_assign rfl) ?_
        refine SO.nil ?_
        refine S.seq ?_
        refine S.region ?_
        refine SO.v rfl (opv_assign rfl) ?_
        refine SO.nil ?_
        refine S.seq ?_
        refine S.seq ?_
        refine S.region ?_
        refine SO.v rfl (opv_fieldAddr Try.underlying31 rfl Try.sizeOf3 rfl rfl) ?_
        refine SO.load1 rfl Try.isAgg3 rfl rfl ?_
        obtain ⟨t25, ht26, h⟩ := opt_bind h
        refine SO.call (pre := []) rfl Try.call10 rfl rfl rfl (law10_Pick.ct _ _ _ ht26) trivial ?_
        rintro _ _ ⟨rfl, rfl⟩
        refine SO.nil ?_
        obtain ⟨o2, hC2, hJ2⟩ := opt_bind h
        clear h
        refine S.cutP (G := (Int × (Option Int) × (List ref10_Slot) × (List ref10_Obj) × Int × Int × (List Int)) × (Value × Value)) (fun x => o2 = Brk.nx x.1) (fun x => match x with | ((j8_2, j9_2, y6_0_2, y6_1_2, y6_2_2, y6_3_2, qv18_2), (vy6_0_2, vy6_1_2)) => [(0, v0), (2, .bool false), (3, .bool t1), (4, bp b6 0), (5, v18), (6, .int .i64 x6_1), (7, bp b24 0), (8, .int .i64 j8_2), (9, errV 59 j9_2), (24, .int .i64 x6_1), (25, v0), (26, .int .i64 (a0.length : Int)), (27, .bool (decide (x6_1 < (a0.length : Int)))), (30, v0), (31, .int .i64 x6_1), (32, idxp v0 (x6_1.toNat * ek_law19_Deed.sz)), (33, .agg #[.int .i64 x22.What, .int .i64 x22.A, .int .i64 x22.B, .int .i64 x22.N]), (34, bp b24 0), (35, .int .i64 x22.What), (36, .int .i64 t25), (45, .bool (t25 == 0)), (46, .bool (t25 == 0))]) (fun x => match x with | ((j8_2, j9_2, y6_0_2, y6_1_2, y6_2_2, y6_3_2, qv18_2), (vy6_0_2, vy6_1_2)) => [OwnR 70 kr_ref10_Obj vy6_1_2 y6_1_2, OwnR 77 kr_ref10_Slot vy6_0_2 y6_0_2, Box b24 [.int .i64 x22.What, .int .i64 x22.A, .int .i64 x22.B, .int .i64 x22.N], Own 63 (ekI .u64) v18 qv18_2, Box b6 [vy6_0_2, vy6_1_2, .int .i64 y6_2_2, .int .i64 y6_3_2], F]) (fun hk2 => ?_) ?_
        · replace h := hC2
          refine S.block ?_
          refine S.seq ?_
          refine S.region ?_
          refine SO.v rfl (opv_eql rfl rfl) ?_
          refine SO.v rfl (opv_assign rfl) ?_
          refine SO.nil ?_
          rcases bool_or (t25 == 0) with b27 | b27
          · replace h := cond_t b27 h
            refine S.condT rfl b27 ?_
            refine S.seq ?_
            refine S.region ?_
            refine SO.v rfl (opv_fieldAddr Try.underlying31 rfl Try.sizeOf3 rfl rfl) ?_
            refine SO.load1 rfl Try.isAgg3 rfl rfl ?_
            obtain ⟨t28, ht29, h⟩ := opt_bind h
            refine SO.call (pre := []) rfl Try.call10 rfl rfl rfl (law10_Pick.ct _ _ _ ht29) trivial ?_
            rintro _ _ ⟨rfl, rfl⟩
            refine SO.v rfl (opv_assign rfl) ?_
            refine SO.nil ?_
            refine S.seq ?_
            refine S.region ?_
            refine SO.v rfl (opv_move rfl) ?_
            refine SO.v rfl (opv_iface Try.underlying25 rfl rfl) ?_
            refine SO.v rfl (opv_fieldAddr Try.underlying31 rfl Try.sizeOf3 rfl rfl) ?_
            refine SO.load1 rfl Try.isAgg3 rfl rfl ?_
            refine SO.v rfl (opv_fieldAddr Try.underlying31 rfl Try.sizeOf3 rfl rfl) ?_
            refine SO.load1 rfl Try.isAgg3 rfl rfl ?_
            refine SO.v rfl (opv_move rfl) ?_
            obtain ⟨⟨t30, s32⟩, ht31, h⟩ := opt_bind h
            refine SO.b1 ?_
            refine SO.call (pre := [(plainV v18).rep _]) rfl Try.call11 rfl rfl rfl (irq_Bind.ct (plainV v18) _ _ _ _ _ _ ht31) trivial ?_
            rintro _ _ ⟨rfl, rfl⟩
            refine headEq (plainV_rep _ _) ?_
            refine SO.rd fun hr33 => ?_
            refine SO.v rfl (opv_assign rfl) ?_
            refine SO.nil ?_
            refine S.region ?_
            refine SO.v rfl (opv_move rfl) ?_
            refine SO.v rfl (opv_fieldAddr Try.underlying31 rfl Try.sizeOf3 rfl rfl) ?_
            refine SO.b1 ?_
            refine SO.load1 rfl Try.isAgg3 rfl rfl ?_
            refine SO.v rfl (opv_fieldAddr Try.underlying31 rfl Try.sizeOf3 rfl rfl) ?_
            refine SO.load1 rfl Try.isAgg3 rfl rfl ?_
            refine SO.v rfl (opv_move rfl) ?_
            obtain ⟨⟨t34, p35⟩, ht36, h⟩ := opt_bind h
            refine SO.b2 ?_
            refine SO.b3 ?_
            refine SO.b4 ?_
            have ct38 := ref10_State_Bind.ct b6 vy6_0_1 vy6_1_1 _ _ _ _ _ _ ht36
            dsimp only at ct38
            refine SO.call (pre := [Box _ _, OwnR _ _ _ _, OwnR _ _ _ _]) rfl Try.call14 rfl rfl rfl ct38 trivial ?_
            rintro _ _ ⟨u37_Slots, u37_Objs, rfl, rfl⟩
            refine SO.v rfl (opv_assign rfl) ?_
            refine SO.nil ?_
            refine S.inBlock ?_
            cases h
            refine S.b5 ?_
            refine S.b1 ?_
            refine S.b5 ?_
            refine S.b5 ?_
            refine S.b4 ?_
            refine S.b5 ?_
            refine S.to ?_ (hk2 ((t34, t30, p35.Slots, p35.Objs, p35.NS, p35.NO, s32), (u37_Slots, u37_Objs)) rfl)
            exact ⟨rfl, rfl, rfl, rfl, rfl, rfl, rfl, rfl, rfl, rfl, rfl, rfl, rfl, rfl, rfl, rfl, rfl, rfl, rfl, rfl, rfl, rfl, trivial⟩
          · replace h := cond_f b27 h
            refine S.condF rfl b27 ?_
            refine S.seq ?_
            refine S.seq ?_
            refine S.region ?_
            refine SO.v rfl (opv_eql rfl rfl) ?_
            refine SO.v rfl (opv_assign rfl) ?_
            refine SO.nil ?_
            obtain ⟨j65_3, hC3, hJ3⟩ := opt_bind h
            clear h
            refine S.cutP (G := Unit) (fun _ => True) (fun _ => [(0, v0), (2, .bool false), (3, .bool t1), (4, bp b6 0), (5, v18), (6, .int .i64 x6_1), (7, bp b24 0), (8, .int .i64 0), (9, errV 59 none), (24, .int .i64 x6_1), (25, v0), (26, .int .i64 (a0.length : Int)), (27, .bool (decide (x6_1 < (a0.length : Int)))), (30, v0), (31, .int .i64 x6_1), (32, idxp v0 (x6_1.toNat * ek_law19_Deed.sz)), (33, .agg #[.int .i64 x22.What, .int .i64 x22.A, .int .i64 x22.B, .int .i64 x22.N]), (34, bp b24 0), (35, .int .i64 x22.What), (36, .int .i64 t25), (45, .bool (t25 == 0)), (46, .bool (t25 == 0)), (65, .bool j65_3), (66, .bool (t25 == 1))]) (fun _ => [Box b24 [.int .i64 x22.What, .int .i64 x22.A, .int .i64 x22.B, .int .i64 x22.N], Own 63 (ekI .u64) v18 qv18_1, OwnR 70 kr_ref10_Obj vy6_1_1 y6_1_1, OwnR 77 kr_ref10_Slot vy6_0_1 y6_0_1, Box b6 [vy6_0_1, vy6_1_1, .int .i64 y6_2_1, .int .i64 y6_3_1], F]) (fun hk3 => ?_) ?_
            · replace h := hC3
              rcases bool_or (t25 == 1) with b39 | b39
              · replace h := cond_t b39 h
                refine S.condT rfl b39 ?_
                refine S.skip ?_
                cases h
                refine S.b5 ?_
                refine S.b5 ?_
                refine S.b5 ?_
                refine S.b5 ?_
                refine S.b5 ?_
                refine S.b5 ?_
                refine S.to ?_ (hk3 () trivial)
                exact ⟨rfl, rfl, rfl, rfl, rfl, rfl, rfl, rfl, rfl, rfl, rfl, rfl, rfl, rfl, rfl, rfl, rfl, rfl, rfl, rfl, rfl, rfl, rfl, rfl, trivial⟩
              · replace h := cond_f b39 h
                refine S.condF rfl b39 ?_
                refine S.region ?_
                refine SO.v rfl (opv_eql rfl rfl) ?_
                refine SO.v rfl (opv_assign rfl) ?_
                refine SO.nil ?_
                cases h
                refine S.b5 ?_
                refine S.b5 ?_
                refine S.b5 ?_
                refine S.b5 ?_
                refine S.b5 ?_
                refine S.b5 ?_
                refine S.to ?_ (hk3 () trivial)
                exact ⟨rfl, rfl, rfl, rfl, rfl, rfl, rfl, rfl, rfl, rfl, rfl, rfl, rfl, rfl, rfl, rfl, rfl, rfl, rfl, rfl, rfl, rfl, rfl, rfl, trivial⟩
            rintro _ -
            replace h := hJ3
            rcases bool_or j65_3 with b40 | b40
            · replace h := cond_t b40 h
              refine S.condT rfl b40 ?_
              refine S.seq ?_
              refine S.region ?_
              refine SO.v rfl (opv_move rfl) ?_
              refine SO.v rfl (opv_iface Try.underlying25 rfl rfl) ?_
              refine SO.v rfl (opv_fieldAddr Try.underlying31 rfl Try.sizeOf3 rfl rfl) ?_
              refine SO.load1 rfl Try.isAgg3 rfl rfl ?_
              obtain ⟨⟨⟨t41, t42⟩, s44⟩, ht43, h⟩ := opt_bind h
              refine SO.b1 ?_
              refine SO.call (pre := [(plainV v18).rep _]) rfl Try.call12 rfl rfl rfl (irq_Fire.ct (plainV v18) _ _ _ _ _ ht43) trivial ?_
              rintro _ _ ⟨rfl, rfl⟩
              refine headEq (plainV_rep _ _) ?_
              refine SO.rd fun hr45 => ?_
              refine SO.v rfl (opv_move rfl) ?_
              refine SO.v rfl (opv_extract rfl rfl) ?_
              refine SO.v rfl (opv_extract rfl rfl) ?_
              refine SO.v rfl (opv_assign rfl) ?_
              refine SO.v rfl (opv_assign rfl) ?_
              refine SO.nil ?_
              refine S.seq ?_
              refine S.region ?_
              refine SO.v rfl (opv_move rfl) ?_
              refine SO.v rfl (opv_fieldAddr Try.underlying31 rfl Try.sizeOf3 rfl rfl) ?_
              refine SO.b1 ?_
              refine SO.load1 rfl Try.isAgg3 rfl rfl ?_
              obtain ⟨⟨t46, t47, p48⟩, ht49, h⟩ := opt_bind h
              refine SO.b2 ?_
              refine SO.b3 ?_
              refine SO.b4 ?_
              have ct52 := ref10_State_Fire.ct _ b6 vy6_0_1 vy6_1_1 _ _ _ _ _ ht49
              dsimp only at ct52
              refine SO.call (pre := [Box _ _, OwnR _ _ _ _, OwnR _ _ _ _]) rfl Try.call15 rfl rfl rfl ct52 trivial ?_
              rintro _ _ ⟨u50_Slots, u50_Objs, rfl, rfl⟩
              refine SO.v rfl (opv_move rfl) ?_
              refine SO.v rfl (opv_extract rfl rfl) ?_
              refine SO.v rfl (opv_extract rfl rfl) ?_
              refine SO.v rfl (opv_assign rfl) ?_
              refine SO.v rfl (opv_assign rfl) ?_
              refine SO.nil ?_
              refine S.seq ?_
              refine S.seq ?_
              refine S.region ?_
              refine SO.v rfl (opv_move rfl) ?_
              refine SO.v rfl (opv_move rfl) ?_
              refine SO.v rfl (opv_neqB Try.underlying4 rfl rfl) ?_
              refine SO.nil ?_
              rcases bool_or (t41 != t46) with b51 | b51
              · replace h := cond_t b51 h
                refine S.condT rfl b51 ?_
                refine S.seq ?_
                refine S.region ?_
                refine SO.v rfl (opv_assign rfl) ?_
                refine SO.nil ?_
                cases h
                replace h := Brk.of_ret hJ2
                cases h
                replace h := hK1.1 _ rfl
                cases h
                refine S.drop ?_
                refine S.drop ?_
                refine S.drop ?_
                refine S.drop ?_
                refine S.drop ?_
                exact S.ret1 Try.func4 rfl rfl (fun w hs hk => hR w _ _ ⟨rfl, rfl⟩ hs hk)
              · replace h := cond_f b51 h
                refine S.condF rfl b51 ?_
                refine S.skip ?_
                refine S.seq ?_
                refine S.region ?_
                refine SO.v rfl (opv_move rfl) ?_
                refine SO.v rfl (opv_assign rfl) ?_
                refine SO.nil ?_
                refine S.region ?_
                refine SO.v rfl (opv_move rfl) ?_
                refine SO.v rfl (opv_assign rfl) ?_
                refine SO.nil ?_
                refine S.inBlock ?_
                cases h
                refine S.b5 ?_
                refine S.b1 ?_
                refine S.b5 ?_
                refine S.b5 ?_
                refine S.b4 ?_
                refine S.b5 ?_
                refine S.to ?_ (hk2 ((t47, t42, p48.Slots, p48.Objs, p48.NS, p48.NO, s44), (u50_Slots, u50_Objs)) rfl)
                exact ⟨rfl, rfl, rfl, rfl, rfl, rfl, rfl, rfl, rfl, rfl, rfl, rfl, rfl, rfl, rfl, rfl, rfl, rfl, rfl, rfl, rfl, rfl, trivial⟩
            · replace h := cond_f b40 h
              refine S.condF rfl b40 ?_
              refine S.seq ?_
              refine S.region ?_
              refine SO.v rfl (opv_eql rfl rfl) ?_
              refine SO.v rfl (opv_assign rfl) ?_
              refine SO.nil ?_
              rcases bool_or (t25 == 3) with b53 | b53
              · replace h := cond_t b53 h
                refine S.condT rfl b53 ?_
                refine S.seq ?_
                refine S.region ?_
                refine SO.v rfl (opv_move rfl) ?_
                refine SO.v rfl (opv_iface Try.underlying25 rfl rfl) ?_
                refine SO.v rfl (opv_fieldAddr Try.underlying31 rfl Try.sizeOf3 rfl rfl) ?_
                refine SO.load1 rfl Try.isAgg3 rfl rfl ?_
                obtain ⟨⟨t54, s56⟩, ht55, h⟩ := opt_bind h
                refine SO.b1 ?_
                refine SO.call (pre := [(plainV v18).rep _]) rfl Try.call13 rfl rfl rfl (irq_Ack.ct (plainV v18) _ _ _ _ ht55) trivial ?_
                rintro _ _ ⟨rfl, rfl⟩
                refine headEq (plainV_rep _ _) ?_
                refine SO.rd fun hr57 => ?_
                refine SO.v rfl (opv_assign rfl) ?_
                refine SO.nil ?_
                refine S.region ?_
                refine SO.v rfl (opv_move rfl) ?_
                refine SO.v rfl (opv_fieldAddr Try.underlying31 rfl Try.sizeOf3 rfl rfl) ?_
                refine SO.b1 ?_
                refine SO.load1 rfl Try.isAgg3 rfl rfl ?_
                obtain ⟨⟨t58, p59⟩, ht60, h⟩ := opt_bind h
                refine SO.b2 ?_
                refine SO.b3 ?_
                refine SO.b4 ?_
                have ct62 := ref10_State_Ack.ct b6 vy6_0_1 vy6_1_1 _ _ _ _ ht60
                dsimp only at ct62
                refine SO.call (pre := [Box _ _, OwnR _ _ _ _, OwnR _ _ _ _]) rfl Try.call16 rfl rfl rfl ct62 trivial ?_
                rintro _ _ ⟨u61_Slots, u61_Objs, rfl, rfl⟩
                refine SO.v rfl (opv_assign rfl) ?_
                refine SO.nil ?_
                refine S.inBlock ?_
                cases h
                refine S.b5 ?_
                refine S.b1 ?_
                refine S.b5 ?_
                refine S.b5 ?_
                refine S.b4 ?_
                refine S.b5 ?_
                refine S.to ?_ (hk2 ((t58, t54, p59.Slots, p59.Objs, p59.NS, p59.NO, s56), (u61_Slots, u61_Objs)) rfl)
                exact ⟨rfl, rfl, rfl, rfl, rfl, rfl, rfl, rfl, rfl, rfl, rfl, rfl, rfl, rfl, rfl, rfl, rfl, rfl, rfl, rfl, rfl, rfl, trivial⟩
              · replace h := cond_f b53 h
                refine S.condF rfl b53 ?_
                refine S.seq ?_
                refine S.region ?_
                refine SO.v rfl (opv_move rfl) ?_
                obtain ⟨t71, ht72, h⟩ := opt_bind h
                refine SO.b3 ?_
                refine SO.openR fun raws63 A64 hrel65 hR66 => ?_
                refine SO.b3 ?_
                refine SO.openR fun raws67 A68 hrel69 hR70 => ?_
                refine SO.b1 ?_
                refine SO.b4 ?_
                have ct86 := ref10_State_Ready.ct b6 vy6_0_1 vy6_1_1 raws63 A64 raws67 A68 _ _ _ ht72
                dsimp only at ct86
                refine SO.call (pre := [Box _ _, OwnO _ _ _ _ _ _, OwnO _ _ _ _ _ _]) rfl Try.call17 rfl rfl rfl ct86 trivial ?_
                rintro _ _ ⟨rfl, rfl⟩
                refine SO.v rfl (opv_assign rfl) ?_
                refine SO.nil ?_
                refine S.seq ?_
                refine S.region ?_
                refine SO.v rfl (opv_move rfl) ?_
                refine SO.nil ?_
                rcases bool_or t71 with b73 | b73
                · replace h := cond_t b73 h
                  refine S.condT rfl b73 ?_
                  refine S.seq ?_
                  refine S.region ?_
                  refine SO.v rfl (opv_move rfl) ?_
                  refine SO.v rfl (opv_iface Try.underlying25 rfl rfl) ?_
                  obtain ⟨⟨⟨t74, t75, t76⟩, s78⟩, ht77, h⟩ := opt_bind h
                  refine SO.b4 ?_
                  refine SO.call (pre := [(plainV v18).rep _]) rfl Try.call18 rfl rfl rfl (ntfn_Wait.ct (plainV v18) _ _ _ _ _ _ _ ht77) trivial ?_
                  rintro _ _ ⟨rfl, rfl⟩
                  refine headEq (plainV_rep _ _) ?_
                  refine SO.rd fun hr79 => ?_
                  refine SO.nil ?_
                  refine S.region ?_
                  refine SO.v rfl (opv_move rfl) ?_
                  obtain ⟨⟨t80, t81, p82⟩, ht83, h⟩ := opt_bind h
                  refine SO.b2 ?_
                  refine SO.closeR ?_
                  refine SO.b3 ?_
                  refine SO.closeR ?_
                  refine SO.b1 ?_
                  refine SO.b3 ?_
                  have ct85 := ref10_State_Wait.ct b6 vy6_0_1 vy6_1_1 _ _ _ _ _ _ ht83
                  dsimp only at ct85
                  refine SO.call (pre := [Box _ _, OwnR _ _ _ _, OwnR _ _ _ _]) rfl Try.call19 rfl rfl rfl ct85 trivial ?_
                  rintro _ _ ⟨u84_Slots, u84_Objs, rfl, rfl⟩
                  refine SO.nil ?_
                  refine S.inBlock ?_
                  cases h
                  refine S.b5 ?_
                  refine S.b1 ?_
                  refine S.b4 ?_
                  refine S.b5 ?_
                  refine S.b4 ?_
                  refine S.b5 ?_
                  refine S.to ?_ (hk2 ((0, none, p82.Slots, p82.Objs, p82.NS, p82.NO, s78), (u84_Slots, u84_Objs)) rfl)
                  exact ⟨rfl, rfl, rfl, rfl, rfl, rfl, rfl, rfl, rfl, rfl, rfl, rfl, rfl, rfl, rfl, rfl, rfl, rfl, rfl, rfl, rfl, rfl, trivial⟩
                · replace h := cond_f b73 h
                  refine S.condF rfl b73 ?_
                  refine S.skip ?_
                  refine S.inBlock ?_
                  cases h
                  refine S.b1 ?_
                  refine S.closeR ?_
                  refine S.b2 ?_
                  refine S.closeR ?_
                  refine S.b5 ?_
                  refine S.b3 ?_
                  refine S.b5 ?_
                  refine S.b5 ?_
                  refine S.b5 ?_
                  refine S.b5 ?_
                  refine S.to ?_ (hk2 ((0, none, y6_0_1, y6_1_1, y6_2_1, y6_3_1, qv18_1), (vy6_0_1, vy6_1_1)) rfl)
                  exact ⟨rfl, rfl, rfl, rfl, rfl, rfl, rfl, rfl, rfl, rfl, rfl, rfl, rfl, rfl, rfl, rfl, rfl, rfl, rfl, rfl, rfl, rfl, trivial⟩
        rintro ⟨⟨j8_2, j9_2, y6_0_2, y6_1_2, y6_2_2, y6_3_2, qv18_2⟩, ⟨vy6_0_2, vy6_1_2⟩⟩ hq
        subst hq
        replace h := Brk.of_nx hJ2
        refine S.b3 ?_
        refine S.rd fun hr87 => ?_
        refine S.seq ?_
        refine S.region ?_
        refine SO.v rfl (opv_move rfl) ?_
        obtain ⟨t88, ht89, h⟩ := opt_bind h
        refine SO.call (pre := []) rfl Try.call20 rfl rfl rfl (law00_Code.ct _ _ _ ht89) trivial ?_
        rintro _ _ ⟨rfl, rfl⟩
        refine SO.v rfl (opv_move rfl) ?_
        refine SO.v rfl (opv_neq rfl rfl) ?_
        refine SO.v rfl (opv_move rfl) ?_
        refine SO.b1 ?_
        refine SO.openR fun raws90 A91 hrel92 hR93 => ?_
        refine SO.b2 ?_
        refine SO.openR fun raws94 A95 hrel96 hR97 => ?_
        obtain ⟨c99, hc100, hgk⟩ := opt_bind h
        refine SO.cut 6 109 (.bool c99) [OwnO 77 kr_ref10_Slot vy6_0_2 raws94 A95 y6_0_2, OwnO 70 kr_ref10_Obj vy6_1_2 raws90 A91 y6_1_2, Own 63 (ekI .u64) v18 qv18_2, Box b24 [.int .i64 x22.What, .int .i64 x22.A, .int .i64 x22.B, .int .i64 x22.N], Box b6 [vy6_0_2, vy6_1_2, .int .i64 y6_2_2, .int .i64 y6_3_2], F] (fun l2 hk2 => ?_) ?_
        · clear hgk
          replace h := hc100
          rcases bool_or (t88 != j8_2) with b98 | b98
          · replace h := cond_t b98 h
            refine SO.passF rfl rfl rfl b98 rfl rfl ?_
            refine SO.passF rfl rfl rfl b98 rfl rfl ?_
            refine SO.passF rfl rfl rfl b98 rfl rfl ?_
            refine SO.passF rfl rfl rfl b98 rfl rfl ?_
            refine SO.passF rfl rfl rfl b98 rfl rfl ?_
            cases h
            refine SO.v rfl (opv_pick_t' b98 rfl rfl) ?_
            refine SO.b5 ?_
            refine SO.b5 ?_
            refine SO.b5 ?_
            refine SO.b5 ?_
            refine SO.b5 ?_
            refine SO.b5 ?_
            exact hk2.fitc (m := 6) rfl (rfl) rfl
          · replace h := cond_f b98 h
            refine SO.takeT rfl rfl rfl b98 ?_
            refine SO.v rfl (opv_move rfl) ?_
            refine SO.takeT rfl rfl rfl b98 ?_
            refine SO.v rfl (opv_move rfl) ?_
            refine SO.takeT rfl rfl rfl b98 ?_
            obtain ⟨t101, ht102, h⟩ := opt_bind h
            refine SO.b1 ?_
            refine SO.b1 ?_
            refine SO.b4 ?_
            have ct107 := ref10_State_Words.ct _ b6 vy6_0_2 vy6_1_2 raws94 A95 raws90 A91 _ _ ht102
            dsimp only at ct107
            refine SO.call (pre := [Box _ _, OwnO _ _ _ _ _ _, OwnO _ _ _ _ _ _]) rfl Try.call9 rfl rfl rfl ct107 trivial ?_
            rintro v103 _ ⟨_, rfl, rfl⟩
            refine SO.rd fun hr104 => ?_
            refine SO.takeT rfl rfl rfl b98 ?_
            obtain ⟨t105, ht106, h⟩ := opt_bind h
            refine SO.call (pre := []) rfl Try.call21 rfl rfl rfl (ref10_Same.ct _ v18 v103 _ _ _ ht106) ⟨(Rd.tail (Rd.tail (Rd.tail (Rd.tail (Rd.head hr87))))), (Rd.head hr104)⟩ ?_
            rintro _ _ ⟨rfl, rfl⟩
            refine SO.takeT rfl rfl rfl b98 ?_
            refine SO.v rfl (opv_not rfl) ?_
            cases h
            refine SO.v rfl (opv_pick_f' b98 rfl rfl) ?_
            refine SO.drop ?_
            refine SO.b5 ?_
            refine SO.b1 ?_
            refine SO.b5 ?_
            refine SO.b5 ?_
            refine SO.b5 ?_
            refine SO.b5 ?_
            exact hk2.fitc (m := 6) rfl (rfl) rfl
        clear hc100
        replace h := hgk
        refine SO.nil ?_
        rcases bool_or c99 with b108 | b108
        · replace h := cond_t b108 h
          refine S.condT rfl b108 ?_
          refine S.seq ?_
          refine S.region ?_
          refine SO.v rfl (opv_assign rfl) ?_
          refine SO.nil ?_
          cases h
          replace h := hK1.1 _ rfl
          cases h
          refine S.closeR ?_
          refine S.b1 ?_
          refine S.closeR ?_
          refine S.drop ?_
          refine S.drop ?_
          refine S.drop ?_
          refine S.drop ?_
          refine S.drop ?_
          exact S.ret1 Try.func4 rfl rfl (fun w hs hk => hR w _ _ ⟨rfl, rfl⟩ hs hk)
        · replace h := cond_f b108 h
          refine S.condF rfl b108 ?_
          refine S.skip ?_
          refine S.inBlock ?_
          refine S.region ?_
          refine SO.v rfl (opv_move rfl) ?_
          refine SO.v rfl (opv_add rfl rfl) ?_
          refine SO.v rfl (opv_assign rfl) ?_
          refine SO.nil ?_
          refine S.closeR ?_
          refine S.b1 ?_
          refine S.closeR ?_
          refine S.b3 ?_
          refine S.drop ?_
          refine S.b4 ?_
          refine S.b4 ?_
          refine S.b4 ?_
          refine S.b4 ?_
          refine S.b4 ?_
          refine S.to ?_ (ih1 ((w64 (x6_1 + 1), y6_0_2, y6_1_2, y6_2_2, y6_3_2, qv18_2), (vy6_0_2, vy6_1_2)) h)
          exact ⟨rfl, rfl, rfl, rfl, rfl, rfl, trivial⟩
      · replace h := cond_f b21 h
        refine S.condF rfl b21 ?_
        refine S.exit rfl ?_
        cases h
        refine S.b4 ?_
        refine S.b4 ?_
        refine S.b2 ?_
        refine S.b4 ?_
        refine S.b4 ?_
        refine S.to ?_ (hK1.2 (y6_0_1, y6_1_1, y6_2_1, y6_3_1, qv18_1) (vy6_0_1, vy6_1_1) rfl)
        exact ⟨rfl, rfl, trivial⟩
    refine ⟨fun r' e' => ?_, ?_⟩
    · subst e'
      have h9 := Brk.of_ret h
      exact h9
    rintro ⟨y6_0_e1, y6_1_e1, y6_2_e1, y6_3_e1, qv18_e1⟩ ⟨vy6_0_e1, vy6_1_e1⟩ e'
    subst e'
    replace h := Brk.of_nx h
    refine S.b2 ?_
    refine S.rd fun hr109 => ?_
    refine S.seq ?_
    refine S.region ?_
    refine SO.v rfl (opv_move rfl) ?_
    refine SO.v rfl (opv_assign rfl) ?_
    refine SO.nil ?_
    cases h
    refine S.drop ?_
    refine S.drop ?_
    refine S.drop ?_
    refine S.drop ?_
    exact S.ret1 Try.func4 rfl rfl (fun w hs hk => hR w _ _ ⟨rfl, rfl⟩ hs hk)
end Go.Proofs
namespace Go.Proofs
open Go.Sl Go.RowKit
/-! 27 padstone/endp.State -/
def endp_State.f (a1 : Int) : VM (Int) :=
  (lay_Field.f a1 1).bind fun t1 => VM.ret t1
set_option maxHeartbeats 8000000 in
set_option maxRecDepth 100000 in
theorem endp_State.ct (V : VW Try.prog) (a1 : Int) (r0 : Int) (s s' : V.S) (h : VM.run V.toVI (endp_State.f a1) s = some (r0, s')) :
    Ct Try.prog 27 [V.val, .int .i64 a1] (fun _ => True) [V.rep s] (fun u H' => u = .int .i64 r0 ∧ H' = [V.rep s']) := by
  unfold endp_State.f at h
  refine Ct.intro (n := 8) Try.func27 rfl rfl rfl ?_
  intro R w0 F hF hR
  refine S.seq ?_
  refine S.region ?_
  refine SO.v rfl (opv_assign rfl) ?_
  refine SO.nil ?_
  refine S.seq ?_
  refine S.region ?_
  refine SO.v rfl (opv_move rfl) ?_
  refine SO.v rfl (opv_move rfl) ?_
  obtain ⟨t1, s3, ht2, h⟩ := VM.bind_some V.toVI h
  refine SO.call (pre := [V.rep _]) rfl Try.call34 rfl rfl rfl (lay_Field.ct V _ _ _ _ _ ht2) trivial ?_
  rintro _ _ ⟨rfl, rfl⟩
  refine SO.v rfl (opv_assign rfl) ?_
  refine SO.nil ?_
  obtain ⟨hq, rfl⟩ := VM.ret_some V.toVI h
  cases hq
  refine S.b1 ?_
  refine S.b1 ?_
  exact S.ret1 Try.func27 rfl rfl (fun w hs hk => hR w _ _ ⟨rfl, rfl⟩ hs hk)
end Go.Proofs
