/- What the functions that NtfnPlays reaches come to, and that they do. On no condition. -/
import Derived.Test.YtehlmdihimmanaaFnNtfnPlays0
import Derived.Test.YtehlmdihimmanaaFnNtfnPlays1
set_option linter.all false
namespace Go.Proofs
open Go.Sl Go.RowKit
/-! 39 (*padstone/padstoneref10.State).Block -/
def ref10_State_Block.f (a0 : ref10_State) (a1 : Int) (a2 : Int) (a3 : Int) : Option (ref10_State) :=
  (at_ a0.Objs a1).bind fun x11 => (app ([]) x11.Queue).bind fun zs20 => (app zs20 ([a2])).bind fun zs28 => (at_ a0.Objs a1).bind fun x32 => (at_ (a0.Objs.set a1.toNat ({ x32 with Queue := zs28 } : ref10_Obj)) a2).bind fun x47 => (at_ ((a0.Objs.set a1.toNat ({ x32 with Queue := zs28 } : ref10_Obj)).set a2.toNat ({ x47 with State := a3 } : ref10_Obj)) a2).bind fun x59 => some ({ a0 with Objs := ((a0.Objs.set a1.toNat ({ x32 with Queue := zs28 } : ref10_Obj)).set a2.toNat ({ x47 with State := a3 } : ref10_Obj)).set a2.toNat ({ x59 with On := a1 } : ref10_Obj) } : ref10_State)
set_option maxHeartbeats 8000000 in
set_option maxRecDepth 100000 in
theorem ref10_State_Block.ct (bp0 : Nat) (v0_Slots : Value) (v0_Objs : Value) (a0 : ref10_State) (a1 : Int) (a2 : Int) (a3 : Int) (rp0 : ref10_State) (h : ref10_State_Block.f a0 a1 a2 a3 = some rp0) :
    Ct Try.prog 39 [bp bp0 0, .int .i64 a1, .int .i64 a2, .int .i64 a3] (fun _ => True) [Box bp0 [v0_Slots, v0_Objs, .int .i64 a0.NS, .int .i64 a0.NO], OwnR 77 kr_ref10_Slot v0_Slots a0.Slots, OwnR 70 kr_ref10_Obj v0_Objs a0.Objs] (fun u H' => ∃ rw0_Slots rw0_Objs, u = .tuple #[] ∧ H' = [Box bp0 [rw0_Slots, rw0_Objs, .int .i64 rp0.NS, .int .i64 rp0.NO], OwnR 77 kr_ref10_Slot rw0_Slots rp0.Slots, OwnR 70 kr_ref10_Obj rw0_Objs rp0.Objs]) := by
  unfold ref10_State_Block.f at h
  refine Ct.intro (n := 44) Try.func39 rfl rfl rfl ?_
  intro R w0 F hF hR
  refine S.seq ?_
  refine S.b1 ?_
  refine S.openR fun raws1 A2 hrel3 hR4 => ?_
  refine S.b2 ?_
  refine S.openR fun raws5 A6 hrel7 hR8 => ?_
  obtain ⟨x11, hx12, h⟩ := opt_bind h
  obtain ⟨r13, hr14, hc15⟩ := relR.at hrel7 hx12
  obtain ⟨u16, hu17, hru18⟩ := hc15.sl 6 rfl
  obtain ⟨zs20, hz21, h⟩ := opt_bind h
  obtain ⟨zs28, hz29, h⟩ := opt_bind h
  obtain ⟨x32, hx33, h⟩ := opt_bind h
  obtain ⟨r34, hr35, hc36⟩ := relR.at hrel7 hx33
  refine S.draw' (Z := fun Q => ∀ (_ : Unit) (_ : Unit) (_ : Unit) (_ : Unit) (v24 : Value) (_ : Unit) (_ : Unit) (_ : Unit) (_ : Unit), Q [(0, bp bp0 0), (1, .int .i64 a1), (2, .int .i64 a2), (3, .int .i64 a3), (24, v24)] [Own 3 (ekI .i64) v24 ([a2]), OwnR 70 kr_ref10_Obj v0_Objs (a0.Objs.set a1.toNat ({ x32 with Queue := zs28 } : ref10_Obj)), OwnO 77 kr_ref10_Slot v0_Slots raws1 A2 a0.Slots, Box bp0 [v0_Slots, v0_Objs, .int .i64 a0.NS, .int .i64 a0.NO], F]) (T := [tS 0 (bp bp0 0), tS 1 (.int .i64 a1), tS 2 (.int .i64 a2), tS 3 (.int .i64 a3), tR (OwnO 70 kr_ref10_Obj v0_Objs raws5 A6 a0.Objs), tR (OwnO 77 kr_ref10_Slot v0_Slots raws1 A2 a0.Slots), tR (Box bp0 [v0_Slots, v0_Objs, .int .i64 a0.NS, .int .i64 a0.NO]), tR (F), tS 8 (bp bp0 0), tS 9 (bp bp0 0), tS 10 (bp bp0 1), tS 11 (v0_Objs), tS 12 (.int .i64 a1), ⟨Value, [13], (fun v9 => [(13, v9)]), (fun v9 => [Own 3 (ekI .i64) v9 ([])]), fun _ => rfl⟩, tS 14 (bp bp0 0), tS 15 (bp bp0 0), tS 16 (bp bp0 1), tS 17 (v0_Objs), tS 18 (.int .i64 a1), tS 19 (idxp v0_Objs (a1.toNat * kr_ref10_Obj.sz)), tS 20 (idxp v0_Objs (a1.toNat * kr_ref10_Obj.sz + 6)), tS 21 (u16), ⟨Value, [22], (fun v22 => [(22, v22)]), (fun v22 => [Own 3 (ekI .i64) v22 zs20]), fun _ => rfl⟩, tS 23 (.int .i64 a2), ⟨Value, [24], (fun v24 => [(24, v24)]), (fun v24 => [Own 3 (ekI .i64) v24 ([a2])]), fun _ => rfl⟩, ⟨Value, [25], (fun v30 => [(25, v30)]), (fun v30 => [Own 3 (ekI .i64) v30 zs28]), fun _ => rfl⟩, tS 26 (idxp v0_Objs (a1.toNat * kr_ref10_Obj.sz)), tS 27 (idxp v0_Objs (a1.toNat * kr_ref10_Obj.sz + 6)), tR (OwnR 70 kr_ref10_Obj v0_Objs (a0.Objs.set a1.toNat ({ x32 with Queue := zs28 } : ref10_Obj)))]) (D := [⟨[0], [], [8]⟩, ⟨[8], [], [9]⟩, ⟨[9], [], [10]⟩, ⟨[10, 6], [], [11]⟩, ⟨[1], [], [12]⟩, ⟨[], [], [13]⟩, ⟨[0], [], [14]⟩, ⟨[14], [], [15]⟩, ⟨[15], [], [16]⟩, ⟨[16, 6], [], [17]⟩, ⟨[1], [], [18]⟩, ⟨[17, 18, 4], [], [19]⟩, ⟨[19, 4], [], [20]⟩, ⟨[20, 4], [], [21]⟩, ⟨[21, 4], [13], [22]⟩, ⟨[2], [], [23]⟩, ⟨[23], [], [24]⟩, ⟨[24], [22], [25]⟩, ⟨[11, 12, 4], [], [26]⟩, ⟨[26, 4], [], [27]⟩, ⟨[27], [25, 4], [28]⟩]) (ini := [0, 1, 2, 3, 4, 5, 6, 7]) (fin := [0, 1, 2, 3, 24, 28, 5, 6, 7]) (bf := [[], [0], [0, 1], [0, 1, 2], [], [], [], [6], [6, 7], [6, 7, 8], [], [6, 7, 8, 9, 10], [6, 7, 8, 9, 10, 11], [6, 7, 8, 9, 10, 11, 12], [5, 6, 7, 8, 9, 10, 11, 12, 13], [], [15], [5, 6, 7, 8, 9, 10, 11, 12, 13, 14, 15, 16], [0, 1, 2, 3, 4, 5, 6, 7, 8, 9, 10, 11, 12, 13, 14, 15, 16, 17], [0, 1, 2, 3, 4, 5, 6, 7, 8, 9, 10, 11, 12, 13, 14, 15, 16, 17, 18], [0, 1, 2, 3, 4, 5, 6, 7, 8, 9, 10, 11, 12, 13, 14, 15, 16, 17, 18, 19]]) (by kernel_rfl) (by kernel_rfl) (fun x w h1 h2 => (.cons () (.cons () (.cons () (.cons () (.cons () (.cons () (.cons () (.cons () (.nil ⟨EnvAll.of h1 ⟨rfl, rfl, rfl, rfl, trivial⟩, h2⟩)))))))))) (fun Q => by kernel_rfl) ⟨?_, ?_, ?_, ?_, ?_, ?_, ?_, ?_, ?_, ?_, ?_, ?_, ?_, ?_, ?_, ?_, ?_, ?_, ?_, ?_, ?_, trivial⟩ ?_
  · rintro Fr _
    refine SO.v rfl (opv_move rfl) ?_
    exact SO.nilZ fun a w h1 h2 h3 h4 h5 => PZ.of h1 h3 h5 (.cons () (.cons () (.nil ⟨EnvAll.of h2 ⟨rfl, rfl, trivial⟩, h4⟩)))
  · rintro Fr _
    refine SO.v rfl (opv_nilCheck rfl) ?_
    exact SO.nilZ fun a w h1 h2 h3 h4 h5 => PZ.of h1 h3 h5 (.cons () (.cons () (.nil ⟨EnvAll.of h2 ⟨rfl, rfl, trivial⟩, h4⟩)))
  · rintro Fr _
    refine SO.v rfl (opv_fieldAddr Try.underlying75 rfl Try.sizeOf73 rfl rfl) ?_
    exact SO.nilZ fun a w h1 h2 h3 h4 h5 => PZ.of h1 h3 h5 (.cons () (.cons () (.nil ⟨EnvAll.of h2 ⟨rfl, rfl, trivial⟩, h4⟩)))
  · rintro Fr _ _
    refine SO.load1 rfl Try.isAgg73 rfl rfl ?_
    exact SO.nilZ fun a w h1 h2 h3 h4 h5 => PZ.of h1 h3 h5 (.cons () (.cons () (.cons () (.nil ⟨EnvAll.of h2 ⟨rfl, rfl, trivial⟩, h4⟩))))
  · rintro Fr _
    refine SO.v rfl (opv_move rfl) ?_
    exact SO.nilZ fun a w h1 h2 h3 h4 h5 => PZ.of h1 h3 h5 (.cons () (.cons () (.nil ⟨EnvAll.of h2 ⟨rfl, rfl, trivial⟩, h4⟩)))
  · rintro Fr 
    refine SO.buildSlice0 (ekI .i64) rfl Try.underlying67 Try.sizeOf3 (fun v9 hr10 => ?_)
    exact SO.nilZ fun a w h1 h2 h3 h4 h5 => PZ.of h1 h3 h5 (.cons v9 (.nil ⟨EnvAll.of h2 ⟨rfl, trivial⟩, h4⟩))
  · rintro Fr _
    refine SO.v rfl (opv_move rfl) ?_
    exact SO.nilZ fun a w h1 h2 h3 h4 h5 => PZ.of h1 h3 h5 (.cons () (.cons () (.nil ⟨EnvAll.of h2 ⟨rfl, rfl, trivial⟩, h4⟩)))
  · rintro Fr _
    refine SO.v rfl (opv_nilCheck rfl) ?_
    exact SO.nilZ fun a w h1 h2 h3 h4 h5 => PZ.of h1 h3 h5 (.cons () (.cons () (.nil ⟨EnvAll.of h2 ⟨rfl, rfl, trivial⟩, h4⟩)))
  · rintro Fr _
    refine SO.v rfl (opv_fieldAddr Try.underlying75 rfl Try.sizeOf73 rfl rfl) ?_
    exact SO.nilZ fun a w h1 h2 h3 h4 h5 => PZ.of h1 h3 h5 (.cons () (.cons () (.nil ⟨EnvAll.of h2 ⟨rfl, rfl, trivial⟩, h4⟩)))
  · rintro Fr _ _
    refine SO.load1 rfl Try.isAgg73 rfl rfl ?_
    exact SO.nilZ fun a w h1 h2 h3 h4 h5 => PZ.of h1 h3 h5 (.cons () (.cons () (.cons () (.nil ⟨EnvAll.of h2 ⟨rfl, rfl, trivial⟩, h4⟩))))
  · rintro Fr _
    refine SO.v rfl (opv_move rfl) ?_
    exact SO.nilZ fun a w h1 h2 h3 h4 h5 => PZ.of h1 h3 h5 (.cons () (.cons () (.nil ⟨EnvAll.of h2 ⟨rfl, rfl, trivial⟩, h4⟩)))
  · rintro Fr _ _ _
    refine SO.v rfl (opv_idx Try.underlying73 Try.sizeOf70 hR8 rfl rfl hr14) ?_
    exact SO.nilZ fun a w h1 h2 h3 h4 h5 => PZ.of h1 h3 h5 (.cons () (.cons () (.cons () (.cons () (.nil ⟨EnvAll.of h2 ⟨rfl, rfl, rfl, trivial⟩, h4⟩)))))
  · rintro Fr _ _
    refine SO.v rfl (opv_fieldIdx Try.underlying70 rfl Try.sizeOf67 hR8 hr14 rfl rfl) ?_
    exact SO.nilZ fun a w h1 h2 h3 h4 h5 => PZ.of h1 h3 h5 (.cons () (.cons () (.cons () (.nil ⟨EnvAll.of h2 ⟨rfl, rfl, trivial⟩, h4⟩))))
  · rintro Fr _ _
    refine SO.loadI1 (j := 6) rfl Try.isAgg67 (Rd.head hR8) hr14 rfl rfl rfl hu17 ?_
    exact SO.nilZ fun a w h1 h2 h3 h4 h5 => PZ.of h1 h3 h5 (.cons () (.cons () (.cons () (.nil ⟨EnvAll.of h2 ⟨rfl, rfl, trivial⟩, h4⟩))))
  · rintro Fr _ _ v9
    refine SO.b1 ?_
    refine SO.rd fun hr19 => ?_
    refine SO.append rfl Try.underlying67 inf3 rfl rfl rfl (by decide) rfl rfl rfl (Rd.head (Rd.pool hru18)) hz21 (fun v22 => ?_)
    refine SO.rd fun hr23 => ?_
    refine SO.b1 ?_
    exact SO.nilZ fun a w h1 h2 h3 h4 h5 => PZ.of h1 h3 h5 (.cons () (.cons () (.cons v22 (.nil ⟨EnvAll.of h2 ⟨rfl, rfl, trivial⟩, h4⟩))))
  · rintro Fr _
    refine SO.v rfl (opv_move rfl) ?_
    exact SO.nilZ fun a w h1 h2 h3 h4 h5 => PZ.of h1 h3 h5 (.cons () (.cons () (.nil ⟨EnvAll.of h2 ⟨rfl, rfl, trivial⟩, h4⟩)))
  · rintro Fr _
    refine SO.buildSlice (K := ekI .i64) (xs := [a2]) (cs := [.int .i64 a2]) rfl Try.underlying67 Try.sizeOf3 Try.zeroValue3 rfl rfl rfl (by kernel_rfl) rfl rfl rfl (fun v24 hr25 => ?_)
    exact SO.nilZ fun a w h1 h2 h3 h4 h5 => PZ.of h1 h3 h5 (.cons () (.cons v24 (.nil ⟨EnvAll.of h2 ⟨rfl, rfl, trivial⟩, h4⟩)))
  · rintro Fr v24 v22
    refine SO.rd fun hr26 => ?_
    refine SO.b1 ?_
    refine SO.rd fun hr27 => ?_
    refine SO.append rfl Try.underlying67 inf3 rfl rfl rfl (by decide) rfl rfl rfl (Rd.head hr26) hz29 (fun v30 => ?_)
    refine SO.rd fun hr31 => ?_
    refine SO.b1 ?_
    exact SO.nilZ fun a w h1 h2 h3 h4 h5 => PZ.of h1 h3 h5 (.cons v24 (.cons v30 (.nil ⟨EnvAll.of h2 ⟨rfl, rfl, trivial⟩, h4⟩)))
  · rintro Fr _ _ _
    refine SO.v rfl (opv_idx Try.underlying73 Try.sizeOf70 hR8 rfl rfl hr35) ?_
    exact SO.nilZ fun a w h1 h2 h3 h4 h5 => PZ.of h1 h3 h5 (.cons () (.cons () (.cons () (.cons () (.nil ⟨EnvAll.of h2 ⟨rfl, rfl, rfl, trivial⟩, h4⟩)))))
  · rintro Fr _ _
    refine SO.v rfl (opv_fieldIdx Try.underlying70 rfl Try.sizeOf67 hR8 hr35 rfl rfl) ?_
    exact SO.nilZ fun a w h1 h2 h3 h4 h5 => PZ.of h1 h3 h5 (.cons () (.cons () (.cons () (.nil ⟨EnvAll.of h2 ⟨rfl, rfl, trivial⟩, h4⟩))))
  · rintro Fr _ v30 _
    refine SO.rd fun hr37 => ?_
    refine SO.b1 ?_
    refine SO.b1 ?_
    refine SO.freeze hrel7 fun A38 hcov39 hru40 hrel41 hR42 => ?_
    refine SO.storeO1 (j := 6) (q := .sl (ekI .i64) zs28) (z' := ({ x32 with Queue := zs28 } : ref10_Obj)) Try.sizeOf67 hrel41 hx33 rfl rfl (Rd.one hru40) rfl rfl rfl hru40 (fun raws43 hrel44 hR45 => ?_)
    refine SO.closeR ?_
    exact SO.nilZ fun a w h1 h2 h3 h4 h5 => PZ.of h1 h3 h5 (.cons () (.cons () (.nil ⟨EnvAll.of h2 ⟨rfl, trivial⟩, h4⟩)))
  rintro _ _ _ _ v24 _ _ _ _
  refine S.to (ρ' := [(0, bp bp0 0), (1, .int .i64 a1), (2, .int .i64 a2), (3, .int .i64 a3)]) ⟨rfl, rfl, rfl, rfl, trivial⟩ ?_
  refine S.rd fun hr46 => ?_
  refine S.seq ?_
  refine S.region ?_
  refine SO.v rfl (opv_move rfl) ?_
  refine SO.v rfl (opv_nilCheck rfl) ?_
  refine SO.v rfl (opv_fieldAddr Try.underlying75 rfl Try.sizeOf73 rfl rfl) ?_
  refine SO.b3 ?_
  refine SO.load1 rfl Try.isAgg73 rfl rfl ?_
  refine SO.v rfl (opv_move rfl) ?_
  refine SO.v rfl (opv_move rfl) ?_
  refine SO.b2 ?_
  refine SO.openR fun raws52 A53 hrel54 hR55 => ?_
  obtain ⟨x47, hx48, h⟩ := opt_bind h
  obtain ⟨r49, hr50, hc51⟩ := relR.at hrel54 hx48
  refine SO.v rfl (opv_idx Try.underlying73 Try.sizeOf70 hR55 rfl rfl hr50) ?_
  refine SO.v rfl (opv_fieldIdx Try.underlying70 rfl Try.sizeOf3 hR55 hr50 rfl rfl) ?_
  refine SO.storeO1 (j := 8) (q := .val (.int .i64 a3)) (z' := ({ x47 with State := a3 } : ref10_Obj)) Try.sizeOf3 hrel54 hx48 rfl rfl rfl rfl rfl rfl rfl (fun raws56 hrel57 hR58 => ?_)
  refine SO.nil ?_
  refine S.to (ρ' := [(0, bp bp0 0), (1, .int .i64 a1), (2, .int .i64 a2)]) ⟨rfl, rfl, rfl, trivial⟩ ?_
  refine S.region ?_
  refine SO.v rfl (opv_move rfl) ?_
  refine SO.v rfl (opv_nilCheck rfl) ?_
  refine SO.v rfl (opv_fieldAddr Try.underlying75 rfl Try.sizeOf73 rfl rfl) ?_
  refine SO.b1 ?_
  refine SO.load1 rfl Try.isAgg73 rfl rfl ?_
  refine SO.v rfl (opv_move rfl) ?_
  refine SO.v rfl (opv_move rfl) ?_
  obtain ⟨x59, hx60, h⟩ := opt_bind h
  obtain ⟨r61, hr62, hc63⟩ := relR.at hrel57 hx60
  refine SO.v rfl (opv_idx Try.underlying73 Try.sizeOf70 hR58 rfl rfl hr62) ?_
  refine SO.v rfl (opv_fieldIdx Try.underlying70 rfl Try.sizeOf3 hR58 hr62 rfl rfl) ?_
  refine SO.b1 ?_
  refine SO.storeO1 (j := 12) (q := .val (.int .i64 a1)) (z' := ({ x59 with On := a1 } : ref10_Obj)) Try.sizeOf3 hrel57 hx60 rfl rfl rfl rfl rfl rfl rfl (fun raws64 hrel65 hR66 => ?_)
  refine SO.nil ?_
  refine S.to (ρ' := []) trivial ?_
  cases h
  refine S.closeR ?_
  refine S.b3 ?_
  refine S.closeR ?_
  refine S.b3 ?_
  refine S.drop ?_
  refine S.b3 ?_
  refine S.b2 ?_
  refine S.b2 ?_
  refine S.b3 ?_
  exact S.fin0 Try.func39 rfl (fun w hs hk => hR w _ _ ⟨v0_Slots, v0_Objs, rfl, rfl⟩ hs hk)
end Go.Proofs
namespace Go.Proofs
open Go.Sl Go.RowKit
/-! 19 (*padstone/padstoneref10.State).Wait -/
def ref10_State_Wait.f (a0 : ref10_State) (a1 : Int) (a2 : Int) : Option ((Int × Bool × ref10_State)) :=
  (at_ a0.Objs a1).bind fun x1 => bif x1.Word == 0 then ((ref10_State_Block.f a0 a1 a2 5).bind fun p11 => some (0, false, p11)) else ((ref10_State_Poll.f a0 a1).bind fun (t14, p15) => some (t14, true, p15))
set_option maxHeartbeats 8000000 in
set_option maxRecDepth 100000 in
theorem ref10_State_Wait.ct (bp0 : Nat) (v0_Slots : Value) (v0_Objs : Value) (a0 : ref10_State) (a1 : Int) (a2 : Int) (r0 : Int) (r1 : Bool) (rp0 : ref10_State) (h : ref10_State_Wait.f a0 a1 a2 = some (r0, r1, rp0)) :
    Ct Try.prog 19 [bp bp0 0, .int .i64 a1, .int .i64 a2] (fun _ => True) [Box bp0 [v0_Slots, v0_Objs, .int .i64 a0.NS, .int .i64 a0.NO], OwnR 77 kr_ref10_Slot v0_Slots a0.Slots, OwnR 70 kr_ref10_Obj v0_Objs a0.Objs] (fun u H' => ∃ rw0_Slots rw0_Objs, u = .tuple #[.int .i64 r0, .bool r1] ∧ H' = [Box bp0 [rw0_Slots, rw0_Objs, .int .i64 rp0.NS, .int .i64 rp0.NO], OwnR 77 kr_ref10_Slot rw0_Slots rp0.Slots, OwnR 70 kr_ref10_Obj rw0_Objs rp0.Objs]) := by
  unfold ref10_State_Wait.f at h
  refine Ct.intro (n := 24) Try.func19 rfl rfl rfl ?_
  intro R w0 F hF hR
  refine S.seq ?_
  refine S.region ?_
  refine SO.v rfl (opv_assign rfl) ?_
  refine SO.v rfl (opv_assign rfl) ?_
  refine SO.nil ?_
  refine S.seq ?_
  refine S.seq ?_
  refine S.region ?_
  refine SO.v rfl (opv_move rfl) ?_
  refine SO.v rfl (opv_nilCheck rfl) ?_
  refine SO.v rfl (opv_fieldAddr Try.underlying75 rfl Try.sizeOf73 rfl rfl) ?_
  refine SO.load1 rfl Try.isAgg73 rfl rfl ?_
  refine SO.v rfl (opv_move rfl) ?_
  refine SO.b2 ?_
  refine SO.openR fun raws6 A7 hrel8 hR9 => ?_
  obtain ⟨x1, hx2, h⟩ := opt_bind h
  obtain ⟨r3, hr4, hc5⟩ := relR.at hrel8 hx2
  refine SO.v rfl (opv_idx Try.underlying73 Try.sizeOf70 hR9 rfl rfl hr4) ?_
  refine SO.v rfl (opv_fieldIdx Try.underlying70 rfl Try.sizeOf3 hR9 hr4 rfl rfl) ?_
  refine SO.loadI1 (j := 7) rfl Try.isAgg3 (Rd.head hR9) hr4 rfl rfl rfl (hc5.val rfl) ?_
  refine SO.v rfl (opv_eql rfl rfl) ?_
  refine SO.nil ?_
  refine S.to (ρ' := [(0, bp bp0 0), (1, .int .i64 a1), (2, .int .i64 a2), (6, .int .i64 0), (7, .bool false), (16, .bool (x1.Word == 0))]) ⟨rfl, rfl, rfl, rfl, rfl, rfl, trivial⟩ ?_
  rcases bool_or (x1.Word == 0) with b10 | b10
  · replace h := cond_t b10 h
    refine S.condT rfl b10 ?_
    refine S.seq ?_
    refine S.region ?_
    refine SO.v rfl (opv_move rfl) ?_
    refine SO.v rfl (opv_move rfl) ?_
    refine SO.v rfl (opv_move rfl) ?_
    obtain ⟨p11, ht12, h⟩ := opt_bind h
    refine SO.closeR ?_
    refine SO.b2 ?_
    refine SO.b2 ?_
    refine SO.call (pre := [Box _ _, OwnR _ _ _ _, OwnR _ _ _ _]) rfl Try.call39 rfl rfl rfl (ref10_State_Block.ct bp0 v0_Slots v0_Objs _ _ _ _ _ ht12) trivial ?_
    rintro _ _ ⟨u13_Slots, u13_Objs, rfl, rfl⟩
    refine SO.nil ?_
    refine S.seq ?_
    refine S.region ?_
    refine SO.v rfl (opv_assign rfl) ?_
    refine SO.v rfl (opv_assign rfl) ?_
    refine SO.nil ?_
    cases h
    refine S.b3 ?_
    refine S.b3 ?_
    refine S.b3 ?_
    refine S.b3 ?_
    exact S.ret2 Try.func19 rfl rfl rfl (fun w hs hk => hR w _ _ ⟨u13_Slots, u13_Objs, rfl, rfl⟩ hs hk)
  · replace h := cond_f b10 h
    refine S.condF rfl b10 ?_
    refine S.skip ?_
    refine S.seq ?_
    refine S.region ?_
    refine SO.v rfl (opv_move rfl) ?_
    refine SO.v rfl (opv_move rfl) ?_
    obtain ⟨⟨t14, p15⟩, ht16, h⟩ := opt_bind h
    refine SO.closeR ?_
    refine SO.b2 ?_
    refine SO.b2 ?_
    refine SO.call (pre := [Box _ _, OwnR _ _ _ _, OwnR _ _ _ _]) rfl Try.call26 rfl rfl rfl (ref10_State_Poll.ct bp0 v0_Slots v0_Objs _ _ _ _ ht16) trivial ?_
    rintro _ _ ⟨u17_Slots, u17_Objs, rfl, rfl⟩
    refine SO.v rfl (opv_assign rfl) ?_
    refine SO.v rfl (opv_assign rfl) ?_
    refine SO.nil ?_
    refine S.to (ρ' := [(6, .int .i64 t14), (7, .bool true)]) ⟨rfl, rfl, trivial⟩ ?_
    cases h
    refine S.b3 ?_
    refine S.b3 ?_
    refine S.b3 ?_
    refine S.b3 ?_
    exact S.ret2 Try.func19 rfl rfl rfl (fun w hs hk => hR w _ _ ⟨u17_Slots, u17_Objs, rfl, rfl⟩ hs hk)
end Go.Proofs
namespace Go.Proofs
open Go.Sl Go.RowKit
/-! 5 padstone/padstonelaw16.NtfnPlays -/
def law16_NtfnPlays.l1 (a0 : Int) (a1 : List law16_Deed) : Nat → (Int × (List ref10_Slot) × (List ref10_Obj) × Int × Int × (List Int)) → Option (Brk Bool ((List ref10_Slot) × (List ref10_Obj) × Int × Int × (List Int)))
  | 0, _ => none
  | k + 1, (x9_1, y8_0_1, y8_1_1, y8_2_1, y8_3_1, qv20_1) => bif decide (x9_1 < (a1.length : Int)) then ((at_ a1 x9_1).bind fun x24 => (law10_Pick.f x24.B 65536).bind fun t27 => (law10_Pick.f x24.What 4).bind fun t29 => bif decide (t29 < 2) then ((VM.run plainI (ntfn_Signal.f (w64 (a0 + 4)) t27) qv20_1).bind fun (t32, s34) => bif t32.isSome then (some (Brk.ret false)) else ((ref10_State_Signal.f k (⟨y8_0_1, y8_1_1, y8_2_1, y8_3_1⟩ : ref10_State) (w64 (a0 + 4)) t27).bind fun p37 => (ref10_State_Words.f k p37).bind fun t48 => (ref10_Same.f k s34 t48).bind fun t52 => bif !t52 then (some (Brk.ret false)) else (law16_NtfnPlays.l1 a0 a1 k (w64 (x9_1 + 1), p37.Slots, p37.Objs, p37.NS, p37.NO, s34)))) else (bif (t29 == 2) && (decide (0 < a0)) then ((law10_Pick.f x24.T a0).bind fun t58 => (ref10_State_Ready.f (⟨y8_0_1, y8_1_1, y8_2_1, y8_3_1⟩ : ref10_State) t58).bind fun t68 => bif !t68 then (law16_NtfnPlays.l1 a0 a1 k (w64 (x9_1 + 1), y8_0_1, y8_1_1, y8_2_1, y8_3_1, qv20_1)) else ((VM.run plainI (ntfn_Wait.f (w64 (a0 + 4)) t58) qv20_1).bind fun ((t71, t72, t73), s75) => (ref10_State_Wait.f (⟨y8_0_1, y8_1_1, y8_2_1, y8_3_1⟩ : ref10_State) (w64 (a0 + 4)) t58).bind fun (t78, t79, p80) => (bif t73.isSome || (t72 != t79) then (some true) else (some (!decide (t71 = (⟨0, t78, 0⟩ : api_Reply))))).bind fun c85 => bif c85 then (some (Brk.ret false)) else ((ref10_State_Words.f k p80).bind fun t96 => (ref10_Same.f k s75 t96).bind fun t100 => bif !t100 then (some (Brk.ret false)) else (law16_NtfnPlays.l1 a0 a1 k (w64 (x9_1 + 1), p80.Slots, p80.Objs, p80.NS, p80.NO, s75))))) else ((VM.run plainI (ntfn_Poll.f (w64 (a0 + 4))) qv20_1).bind fun ((t105, t106), s108) => (bif t106.isSome then (some (true, y8_0_1, y8_1_1, y8_2_1, y8_3_1)) else ((ref10_State_Poll.f (⟨y8_0_1, y8_1_1, y8_2_1, y8_3_1⟩ : ref10_State) (w64 (a0 + 4))).bind fun (t120, p121) => some (!decide (t105 = (⟨0, t120, 0⟩ : api_Reply)), p121.Slots, p121.Objs, p121.NS, p121.NO))).bind fun (j134_2, y8_0_2, y8_1_2, y8_2_2, y8_3_2) => bif j134_2 then (some (Brk.ret false)) else ((ref10_State_Words.f k (⟨y8_0_2, y8_1_2, y8_2_2, y8_3_2⟩ : ref10_State)).bind fun t134 => (ref10_Same.f k s108 t134).bind fun t138 => bif !t138 then (some (Brk.ret false)) else (law16_NtfnPlays.l1 a0 a1 k (w64 (x9_1 + 1), y8_0_2, y8_1_2, y8_2_2, y8_3_2, s108)))))) else (some (Brk.nx (y8_0_1, y8_1_1, y8_2_1, y8_3_1, qv20_1)))
def law16_NtfnPlays.f (k : Nat) (a0 : Int) (a1 : List law16_Deed) : Option (Bool) :=
  (law16_up.f k ).bind fun t1 => bif ((decide (a0 < 0)) || (decide (7 < a0))) || (decide (120 < (a1.length : Int))) then (some t1) else ((ref10_Boot.f k a0).bind fun t6 => (ref10_State_Words.f k t6).bind fun t18 => (law16_NtfnPlays.l1 a0 a1 k (0, t6.Slots, t6.Objs, t6.NS, t6.NO, t18)).bind fun o1 => Brk.go o1 (fun r => some r) (fun (y8_0_e1, y8_1_e1, y8_2_e1, y8_3_e1, qv20_e1) => (VM.run plainI (ntfn_Poll.f (-1)) qv20_e1).bind fun ((t143, t144), s146) => (VM.run plainI (ntfn_Wait.f (w64 (a0 + 4)) 32) s146).bind fun ((t149, t150, t151), s153) => some ((t1 && (t144 == some 2)) && (t151 == some 2))))
set_option maxHeartbeats 8000000 in
set_option maxRecDepth 100000 in
theorem law16_NtfnPlays.ct (k : Nat) (v1 : Value) (a0 : Int) (a1 : List law16_Deed) (r0 : Bool) (h : law16_NtfnPlays.f k a0 a1 = some r0) :
    Ct Try.prog 5 [.int .i64 a0, v1] (fun F => Rd ek_law16_Deed v1 a1 F) [] (fun u H' => u = .bool r0 ∧ H' = []) := by
  unfold law16_NtfnPlays.f at h
  refine Ct.intro (n := 165) Try.func5 rfl rfl rfl ?_
  intro R w0 F hF hR
  have hF1 := hF
  refine S.seq ?_
  refine S.region ?_
  refine SO.v rfl (opv_assign rfl) ?_
  refine SO.nil ?_
  refine S.seq ?_
  refine S.region ?_
  obtain ⟨t1, ht2, h⟩ := opt_bind h
  refine SO.call (pre := []) rfl Try.call22 rfl rfl rfl (law16_up.ct _ _ ht2) trivial ?_
  rintro _ _ ⟨rfl, rfl⟩
  refine SO.v rfl (opv_assign rfl) ?_
  refine SO.nil ?_
  refine S.seq ?_
  refine S.seq ?_
  refine S.region ?_
  refine SO.v rfl (opv_move rfl) ?_
  refine SO.v rfl (opv_lss rfl rfl) ?_
  refine SO.v rfl (opv_move rfl) ?_
  refine SO.cut 3 33 (.bool ((decide (a0 < 0)) || (decide (7 < a0)))) [F] (fun l2 hk2 => ?_) ?_
  · rcases bool_or (decide (a0 < 0)) with b3 | b3
    · refine SO.passF rfl rfl rfl b3 rfl rfl ?_
      refine SO.passF rfl rfl rfl b3 rfl rfl ?_
      refine SO.v rfl (opv_pick_t' b3 rfl rfl) ?_
      exact hk2.fitc (m := 3) rfl (or_t b3) rfl
    · refine SO.takeT rfl rfl rfl b3 ?_
      refine SO.v rfl (opv_move rfl) ?_
      refine SO.takeT rfl rfl rfl b3 ?_
      refine SO.v rfl (opv_gtr rfl rfl) ?_
      refine SO.v rfl (opv_pick_f' b3 rfl rfl) ?_
      exact hk2.fitc (m := 3) rfl (or_f b3) rfl
  refine SO.v rfl (opv_move rfl) ?_
  refine SO.cut 4 38 (.bool (((decide (a0 < 0)) || (decide (7 < a0))) || (decide (120 < (a1.length : Int))))) [F] (fun l2 hk2 => ?_) ?_
  · rcases bool_or ((decide (a0 < 0)) || (decide (7 < a0))) with b4 | b4
    · refine SO.passF rfl rfl rfl b4 rfl rfl ?_
      refine SO.passF rfl rfl rfl b4 rfl rfl ?_
      refine SO.passF rfl rfl rfl b4 rfl rfl ?_
      refine SO.v rfl (opv_pick_t' b4 rfl rfl) ?_
      exact hk2.fitc (m := 4) rfl (or_t b4) rfl
    · refine SO.takeT rfl rfl rfl b4 ?_
      refine SO.v rfl (opv_move rfl) ?_
      refine SO.takeT rfl rfl rfl b4 ?_
      refine SO.v rfl (opv_lenR rfl Try.underlying52 hF1 rfl) ?_
      refine SO.takeT rfl rfl rfl b4 ?_
      refine SO.v rfl (opv_gtr rfl rfl) ?_
      refine SO.v rfl (opv_pick_f' b4 rfl rfl) ?_
      exact hk2.fitc (m := 4) rfl (or_f b4) rfl
  refine SO.nil ?_
  rcases bool_or (((decide (a0 < 0)) || (decide (7 < a0))) || (decide (120 < (a1.length : Int)))) with b5 | b5
  · replace h := cond_t b5 h
    refine S.condT rfl b5 ?_
    refine S.seq ?_
    refine S.region ?_
    refine SO.v rfl (opv_move rfl) ?_
    refine SO.v rfl (opv_assign rfl) ?_
    refine SO.nil ?_
    refine S.to (ρ' := [(0, .int .i64 a0), (1, v1), (4, .bool t1), (5, .bool t1)]) ⟨rfl, rfl, rfl, rfl, trivial⟩ ?_
    cases h
    exact S.ret1 Try.func5 rfl rfl (fun w hs hk => hR w _ _ ⟨rfl, rfl⟩ hs hk)
  · replace h := cond_f b5 h
    refine S.condF rfl b5 ?_
    refine S.skip ?_
    refine S.seq ?_
    refine S.region ?_
    refine SO.v rfl (opv_move rfl) ?_
    obtain ⟨t6, ht7, h⟩ := opt_bind h
    refine SO.call (pre := []) rfl Try.call8 rfl rfl rfl (ref10_Boot.ct _ _ _ ht7) trivial ?_
    rintro _ _ ⟨b8, u9_Slots, u9_Objs, rfl, rfl⟩
    refine SO.v rfl (opv_assign rfl) ?_
    refine SO.nil ?_
    refine S.to (ρ' := [(0, .int .i64 a0), (1, v1), (4, .bool false), (5, .bool t1), (6, bp b8 0)]) ⟨rfl, rfl, rfl, rfl, rfl, trivial⟩ ?_
    refine S.seq ?_
    refine S.region ?_
    refine SO.v rfl (opv_move rfl) ?_
    obtain ⟨t18, ht19, h⟩ := opt_bind h
    refine SO.b1 ?_
    refine SO.openR fun raws10 A11 hrel12 hR13 => ?_
    refine SO.b2 ?_
    refine SO.openR fun raws14 A15 hrel16 hR17 => ?_
    refine SO.b1 ?_
    refine SO.b2 ?_
    refine SO.call (pre := [Box _ _, OwnO _ _ _ _ _ _, OwnO _ _ _ _ _ _]) rfl Try.call9 rfl rfl rfl (ref10_State_Words.ct _ b8 u9_Slots u9_Objs raws10 A11 raws14 A15 _ _ ht19) trivial ?_
    rintro v20 _ ⟨_, rfl, rfl⟩
    refine SO.rd fun hr21 => ?_
    refine SO.v rfl (opv_assign rfl) ?_
    refine SO.nil ?_
    refine S.seq ?_
    refine S.region ?_
    refine SO.v rfl (opv_move rfl) ?_
    refine SO.v rfl (opv_add rfl rfl) ?_
    refine SO.v rfl (opv_assign rfl) ?_
    refine SO.nil ?_
    refine S.seq ?_
    refine S.seq ?_
    refine S.region ?_
    refine SO.v rfl (opv_assign rfl) ?_
    refine SO.nil ?_
    obtain ⟨o1, hl1, h⟩ := opt_bind h
    refine S.b2 ?_
    refine S.closeR ?_
    refine S.b3 ?_
    refine S.closeR ?_
    refine S.b4 ?_
    refine S.b4 ?_
    refine S.b4 ?_
    refine S.b4 ?_
    refine S.b4 ?_
    refine S.to (ρ' := [(9, .int .i64 0), (8, .int .i64 (w64 (a0 + 4))), (7, v20), (0, .int .i64 a0), (1, v1), (4, .bool false), (5, .bool t1), (6, bp b8 0)]) ⟨rfl, rfl, rfl, rfl, rfl, rfl, rfl, rfl, trivial⟩ ?_
    refine S.forloop (X := (Int × (List ref10_Slot) × (List ref10_Obj) × Int × Int × (List Int)) × (Value × Value)) (O := Brk Bool ((List ref10_Slot) × (List ref10_Obj) × Int × Int × (List Int))) (fun m x => law16_NtfnPlays.l1 a0 a1 m x.1) (fun x => match x with | ((x9_1, y8_0_1, y8_1_1, y8_2_1, y8_3_1, qv20_1), (vy8_0_1, vy8_1_1)) => [(9, .int .i64 x9_1), (8, .int .i64 (w64 (a0 + 4))), (7, v20), (0, .int .i64 a0), (1, v1), (4, .bool false), (5, .bool t1), (6, bp b8 0)]) (fun x => match x with | ((x9_1, y8_0_1, y8_1_1, y8_2_1, y8_3_1, qv20_1), (vy8_0_1, vy8_1_1)) => [OwnR 70 kr_ref10_Obj vy8_1_1 y8_1_1, OwnR 77 kr_ref10_Slot vy8_0_1 y8_0_1, Own 63 (ekI .u64) v20 qv20_1, Box b8 [vy8_0_1, vy8_1_1, .int .i64 y8_2_1, .int .i64 y8_3_1], F]) (fun Sk o' => (∀ r', o' = Brk.ret r' → some r' = some r0) ∧ ∀ j : ((List ref10_Slot) × (List ref10_Obj) × Int × Int × (List Int)), match j with | (y8_0_e1, y8_1_e1, y8_2_e1, y8_3_e1, qv20_e1) => ∀ g : (Value × Value), match g with | (vy8_0_e1, vy8_1_e1) => o' = Brk.nx (y8_0_e1, y8_1_e1, y8_2_e1, y8_3_e1, qv20_e1) → Sk [(4, .bool false), (5, .bool t1), (7, v20), (8, .int .i64 (w64 (a0 + 4)))] [OwnR 70 kr_ref10_Obj vy8_1_e1 y8_1_e1, OwnR 77 kr_ref10_Slot vy8_0_e1 y8_0_e1, Own 63 (ekI .u64) v20 qv20_e1, Box b8 [vy8_0_e1, vy8_1_e1, .int .i64 y8_2_e1, .int .i64 y8_3_e1], F]) (fun _ => rfl) ?_ (m := k) (x := ((0, t6.Slots, t6.Objs, t6.NS, t6.NO, t18), (u9_Slots, u9_Objs))) hl1 ?_
    · clear h hl1
      intro k x o_1 h hK1 ih1
      obtain ⟨⟨x9_1, y8_0_1, y8_1_1, y8_2_1, y8_3_1, qv20_1⟩, ⟨vy8_0_1, vy8_1_1⟩⟩ := x
      replace h : law16_NtfnPlays.l1 a0 a1 (k + 1) (x9_1, y8_0_1, y8_1_1, y8_2_1, y8_3_1, qv20_1) = some o_1 := h
      first | rw [law16_NtfnPlays.l1] at h | unfold law16_NtfnPlays.l1 at h
      refine S.b2 ?_
      refine S.rd fun hr22 => ?_
      refine S.seq ?_
      refine S.seq ?_
      refine S.region ?_
      refine SO.v rfl (opv_move rfl) ?_
      refine SO.v rfl (opv_move rfl) ?_
      refine SO.v rfl (opv_lenR rfl Try.underlying52 hF1 rfl) ?_
      refine SO.v rfl (opv_lss rfl rfl) ?_
      refine SO.nil ?_
      rcases bool_or (decide (x9_1 < (a1.length : Int))) with b23 | b23
      · replace h := cond_t b23 h
        refine S.condT rfl b23 ?_
        refine S.skip ?_
        refine S.seq ?_
        refine S.block ?_
        refine S.seq ?_
        refine S.region ?_
        refine SO.v rfl (opv_move rfl) ?_
        refine SO.v rfl (opv_move rfl) ?_
        obtain ⟨x24, hx25, h⟩ := opt_bind h
        refine SO.v rfl (opv_idx Try.underlying52 Try.sizeOf54 hF1 rfl rfl hx25) ?_
        refine SO.loadIN rfl Try.isAgg54 Try.sizeOf54 (Rd.tail (Rd.tail (Rd.tail (Rd.tail (Rd.head hF1))))) hx25 rfl rfl rfl ?_
        refine SO.alloc rfl Try.zeroValue54 rfl (fun b26 => ?_)
        refine SO.storeN Try.sizeOf54 rfl rfl rfl rfl rfl rfl ?_
        refine SO.nil ?_
        refine S.seq ?_
        refine S.region ?_
        refine SO.v rfl (opv_fieldAddr Try.underlying54 rfl Try.sizeOf3 rfl rfl) ?_
        refine SO.load1 rfl Try.isAgg3 rfl rfl ?_
        obtain ⟨t27, ht28, h⟩ := opt_bind h
        refine SO.call (pre := []) rfl Try.call10 rfl rfl rfl (law10_Pick.ct _ _ _ ht28) trivial ?_
        rintro _ _ ⟨rfl, rfl⟩
        refine SO.v rfl (opv_assign rfl) ?_
        refine SO.nil ?_
        refine S.seq ?_
        refine S.region ?_
        refine SO.v rfl (opv_fieldAddr Try.underlying54 rfl Try.sizeOf3 rfl rfl) ?_
        refine SO.load1 rfl Try.isAgg3 rfl rfl ?_
        obtain ⟨t29, ht30, h⟩ := opt_bind h
        refine SO.call (pre := []) rfl Try.call10 rfl rfl rfl (law10_Pick.ct _ _ _ ht30) trivial ?_
        rintro _ _ ⟨rfl, rfl⟩
        refine SO.v rfl (opv_assign rfl) ?_
        refine SO.nil ?_
        refine S.seq ?_
        refine S.seq ?_
        refine S.region ?_
        refine SO.v rfl (opv_move rfl) ?_
        refine SO.v rfl (opv_lss rfl rfl) ?_
        refine SO.nil ?_
        rcases bool_or (decide (t29 < 2)) with b31 | b31
        · replace h := cond_t b31 h
          refine S.condT rfl b31 ?_
          refine S.seq ?_
          refine S.seq ?_
          refine S.region ?_
          refine SO.v rfl (opv_move rfl) ?_
          refine SO.v rfl (opv_iface Try.underlying25 rfl rfl) ?_
          refine SO.v rfl (opv_move rfl) ?_
          refine SO.v rfl (opv_move rfl) ?_
          obtain ⟨⟨t32, s34⟩, ht33, h⟩ := opt_bind h
          refine SO.b1 ?_
          refine SO.call (pre := [(plainV v20).rep _]) rfl Try.call23 rfl rfl rfl (ntfn_Signal.ct (plainV v20) _ _ _ _ _ ht33) trivial ?_
          rintro _ _ ⟨rfl, rfl⟩
          refine headEq (plainV_rep _ _) ?_
          refine SO.rd fun hr35 => ?_
          refine SO.v rfl (opv_neqN (e := t32) Try.underlying33 rfl) ?_
          refine SO.nil ?_
          rcases bool_or t32.isSome with b36 | b36
          · replace h := cond_t b36 h
            refine S.condT rfl b36 ?_
            refine S.seq ?_
            refine S.region ?_
            refine SO.v rfl (opv_assign rfl) ?_
            refine SO.nil ?_
            cases h
            replace h := hK1.1 _ rfl
            cases h
            refine S.drop ?_
            refine S.drop ?_
            refine S.drop ?_
            refine S.drop ?_
            refine S.drop ?_
            exact S.ret1 Try.func5 rfl rfl (fun w hs hk => hR w _ _ ⟨rfl, rfl⟩ hs hk)
          · replace h := cond_f b36 h
            refine S.condF rfl b36 ?_
            refine S.skip ?_
            refine S.region ?_
            refine SO.v rfl (opv_move rfl) ?_
            refine SO.v rfl (opv_move rfl) ?_
            refine SO.v rfl (opv_move rfl) ?_
            obtain ⟨p37, ht38, h⟩ := opt_bind h
            refine SO.b2 ?_
            refine SO.b3 ?_
            refine SO.b4 ?_
            have ct55 := ref10_State_Signal.ct _ b8 vy8_0_1 vy8_1_1 _ _ _ _ ht38
            dsimp only at ct55
            refine SO.call (pre := [Box _ _, OwnR _ _ _ _, OwnR _ _ _ _]) rfl Try.call24 rfl rfl rfl ct55 trivial ?_
            rintro _ _ ⟨u39_Slots, u39_Objs, rfl, rfl⟩
            refine SO.nil ?_
            refine S.seq ?_
            refine S.region ?_
            refine SO.v rfl (opv_move rfl) ?_
            refine SO.v rfl (opv_move rfl) ?_
            obtain ⟨t48, ht49, h⟩ := opt_bind h
            refine SO.b1 ?_
            refine SO.openR fun raws40 A41 hrel42 hR43 => ?_
            refine SO.b2 ?_
            refine SO.openR fun raws44 A45 hrel46 hR47 => ?_
            refine SO.b1 ?_
            refine SO.b2 ?_
            refine SO.call (pre := [Box _ _, OwnO _ _ _ _ _ _, OwnO _ _ _ _ _ _]) rfl Try.call9 rfl rfl rfl (ref10_State_Words.ct _ b8 u39_Slots u39_Objs raws40 A41 raws44 A45 _ _ ht49) trivial ?_
            rintro v50 _ ⟨_, rfl, rfl⟩
            refine SO.rd fun hr51 => ?_
            obtain ⟨t52, ht53, h⟩ := opt_bind h
            refine SO.call (pre := []) rfl Try.call21 rfl rfl rfl (ref10_Same.ct _ v20 v50 _ _ _ ht53) ⟨(Rd.tail (Rd.tail (Rd.tail (Rd.tail (Rd.head hr35))))), (Rd.head hr51)⟩ ?_
            rintro _ _ ⟨rfl, rfl⟩
            refine SO.v rfl (opv_not rfl) ?_
            refine SO.nil ?_
            rcases bool_or (!t52) with b54 | b54
            · replace h := cond_t b54 h
              refine S.condT rfl b54 ?_
              refine S.seq ?_
              refine S.region ?_
              refine SO.v rfl (opv_assign rfl) ?_
              refine SO.nil ?_
              cases h
              replace h := hK1.1 _ rfl
              cases h
              refine S.b2 ?_
              refine S.closeR ?_
              refine S.b3 ?_
              refine S.closeR ?_
              refine S.drop ?_
              refine S.drop ?_
              refine S.drop ?_
              refine S.drop ?_
              refine S.drop ?_
              refine S.drop ?_
              exact S.ret1 Try.func5 rfl rfl (fun w hs hk => hR w _ _ ⟨rfl, rfl⟩ hs hk)
            · replace h := cond_f b54 h
              refine S.condF rfl b54 ?_
              refine S.skip ?_
              refine S.inBlock ?_
              refine S.region ?_
              refine SO.v rfl (opv_move rfl) ?_
              refine SO.v rfl (opv_add rfl rfl) ?_
              refine SO.v rfl (opv_assign rfl) ?_
              refine SO.nil ?_
              refine S.b2 ?_
              refine S.closeR ?_
              refine S.b3 ?_
              refine S.closeR ?_
              refine S.b2 ?_
              refine S.drop ?_
              refine S.b4 ?_
              refine S.drop ?_
              refine S.b4 ?_
              refine S.b3 ?_
              refine S.b4 ?_
              refine S.b4 ?_
              refine S.b4 ?_
              refine S.to ?_ (ih1 ((w64 (x9_1 + 1), p37.Slots, p37.Objs, p37.NS, p37.NO, s34), (u39_Slots, u39_Objs)) h)
              exact ⟨rfl, rfl, rfl, rfl, rfl, rfl, rfl, rfl, trivial⟩
        · replace h := cond_f b31 h
          refine S.condF rfl b31 ?_
          refine S.seq ?_
          refine S.region ?_
          refine SO.v rfl (opv_move rfl) ?_
          refine SO.v rfl (opv_eql rfl rfl) ?_
          refine SO.v rfl (opv_move rfl) ?_
          refine SO.cut 3 79 (.bool ((t29 == 2) && (decide (0 < a0)))) [Box b26 [.int .i64 x24.What, .int .i64 x24.T, .int .i64 x24.B], Own 63 (ekI .u64) v20 qv20_1, OwnR 70 kr_ref10_Obj vy8_1_1 y8_1_1, OwnR 77 kr_ref10_Slot vy8_0_1 y8_0_1, Box b8 [vy8_0_1, vy8_1_1, .int .i64 y8_2_1, .int .i64 y8_3_1], F] (fun l2 hk2 => ?_) ?_
          · rcases bool_or (t29 == 2) with b56 | b56
            · refine SO.takeT rfl rfl rfl b56 ?_
              refine SO.v rfl (opv_move rfl) ?_
              refine SO.takeT rfl rfl rfl b56 ?_
              refine SO.v rfl (opv_gtr rfl rfl) ?_
              refine SO.v rfl (opv_pick_t' b56 rfl rfl) ?_
              refine SO.b5 ?_
              refine SO.b5 ?_
              refine SO.b5 ?_
              refine SO.b5 ?_
              refine SO.b5 ?_
              refine SO.b5 ?_
              exact hk2.fitc (m := 3) rfl (and_t b56) rfl
            · refine SO.passF rfl rfl rfl b56 rfl rfl ?_
              refine SO.passF rfl rfl rfl b56 rfl rfl ?_
              refine SO.v rfl (opv_pick_f' b56 rfl rfl) ?_
              refine SO.b5 ?_
              refine SO.b5 ?_
              refine SO.b5 ?_
              refine SO.b5 ?_
              refine SO.b5 ?_
              refine SO.b5 ?_
              exact hk2.fitc (m := 3) rfl (and_f b56) rfl
          refine SO.nil ?_
          rcases bool_or ((t29 == 2) && (decide (0 < a0))) with b57 | b57
          · replace h := cond_t b57 h
            refine S.condT rfl b57 ?_
            refine S.seq ?_
            refine S.region ?_
            refine SO.v rfl (opv_fieldAddr Try.underlying54 rfl Try.sizeOf3 rfl rfl) ?_
            refine SO.load1 rfl Try.isAgg3 rfl rfl ?_
            refine SO.v rfl (opv_move rfl) ?_
            obtain ⟨t58, ht59, h⟩ := opt_bind h
            refine SO.call (pre := []) rfl Try.call10 rfl rfl rfl (law10_Pick.ct _ _ _ ht59) trivial ?_
            rintro _ _ ⟨rfl, rfl⟩
            refine SO.v rfl (opv_assign rfl) ?_
            refine SO.nil ?_
            refine S.seq ?_
            refine S.region ?_
            refine SO.v rfl (opv_move rfl) ?_
            refine SO.v rfl (opv_move rfl) ?_
            obtain ⟨t68, ht69, h⟩ := opt_bind h
            refine SO.b3 ?_
            refine SO.openR fun raws60 A61 hrel62 hR63 => ?_
            refine SO.b3 ?_
            refine SO.openR fun raws64 A65 hrel66 hR67 => ?_
            refine SO.b1 ?_
            refine SO.b4 ?_
            have ct104 := ref10_State_Ready.ct b8 vy8_0_1 vy8_1_1 raws60 A61 raws64 A65 _ _ _ ht69
            dsimp only at ct104
            refine SO.call (pre := [Box _ _, OwnO _ _ _ _ _ _, OwnO _ _ _ _ _ _]) rfl Try.call17 rfl rfl rfl ct104 trivial ?_
            rintro _ _ ⟨rfl, rfl⟩
            refine SO.v rfl (opv_assign rfl) ?_
            refine SO.nil ?_
            refine S.seq ?_
            refine S.seq ?_
            refine S.region ?_
            refine SO.v rfl (opv_move rfl) ?_
            refine SO.v rfl (opv_not rfl) ?_
            refine SO.nil ?_
            rcases bool_or (!t68) with b70 | b70
            · replace h := cond_t b70 h
              refine S.condT rfl b70 ?_
              refine S.exit rfl ?_
              refine S.region ?_
              refine SO.v rfl (opv_move rfl) ?_
              refine SO.v rfl (opv_add rfl rfl) ?_
              refine SO.v rfl (opv_assign rfl) ?_
              refine SO.nil ?_
              refine S.b1 ?_
              refine S.closeR ?_
              refine S.b2 ?_
              refine S.closeR ?_
              refine S.b3 ?_
              refine S.drop ?_
              refine S.b4 ?_
              refine S.b3 ?_
              refine S.b4 ?_
              refine S.b4 ?_
              refine S.b4 ?_
              refine S.to ?_ (ih1 ((w64 (x9_1 + 1), y8_0_1, y8_1_1, y8_2_1, y8_3_1, qv20_1), (vy8_0_1, vy8_1_1)) h)
              exact ⟨rfl, rfl, rfl, rfl, rfl, rfl, rfl, rfl, trivial⟩
            · replace h := cond_f b70 h
              refine S.condF rfl b70 ?_
              refine S.skip ?_
              refine S.seq ?_
              refine S.region ?_
              refine SO.v rfl (opv_move rfl) ?_
              refine SO.v rfl (opv_iface Try.underlying25 rfl rfl) ?_
              refine SO.v rfl (opv_move rfl) ?_
              refine SO.v rfl (opv_move rfl) ?_
              obtain ⟨⟨⟨t71, t72, t73⟩, s75⟩, ht74, h⟩ := opt_bind h
              refine SO.b4 ?_
              refine SO.call (pre := [(plainV v20).rep _]) rfl Try.call18 rfl rfl rfl (ntfn_Wait.ct (plainV v20) _ _ _ _ _ _ _ ht74) trivial ?_
              rintro _ _ ⟨rfl, rfl⟩
              refine headEq (plainV_rep _ _) ?_
              refine SO.rd fun hr76 => ?_
              refine SO.v rfl (opv_move rfl) ?_
              refine SO.v rfl (opv_extract rfl rfl) ?_
              refine SO.v rfl (opv_extract rfl rfl) ?_
              refine SO.v rfl (opv_extract rfl rfl) ?_
              refine SO.alloc rfl Try.zeroValue45 rfl (fun b77 => ?_)
              refine SO.storeN Try.sizeOf45 rfl rfl rfl rfl rfl rfl ?_
              refine SO.v rfl (opv_assign rfl) ?_
              refine SO.v rfl (opv_assign rfl) ?_
              refine SO.nil ?_
              refine S.seq ?_
              refine S.region ?_
              refine SO.v rfl (opv_move rfl) ?_
              refine SO.v rfl (opv_move rfl) ?_
              refine SO.v rfl (opv_move rfl) ?_
              obtain ⟨⟨t78, t79, p80⟩, ht81, h⟩ := opt_bind h
              refine SO.b3 ?_
              refine SO.closeR ?_
              refine SO.b4 ?_
              refine SO.closeR ?_
              refine SO.b1 ?_
              refine SO.b4 ?_
              have ct103 := ref10_State_Wait.ct b8 vy8_0_1 vy8_1_1 _ _ _ _ _ _ ht81
              dsimp only at ct103
              refine SO.call (pre := [Box _ _, OwnR _ _ _ _, OwnR _ _ _ _]) rfl Try.call19 rfl rfl rfl ct103 trivial ?_
              rintro _ _ ⟨u82_Slots, u82_Objs, rfl, rfl⟩
              refine SO.v rfl (opv_move rfl) ?_
              refine SO.v rfl (opv_extract rfl rfl) ?_
              refine SO.v rfl (opv_extract rfl rfl) ?_
              refine SO.v rfl (opv_assign rfl) ?_
              refine SO.v rfl (opv_assign rfl) ?_
              refine SO.nil ?_
              refine S.seq ?_
              refine S.region ?_
              refine SO.v rfl (opv_move rfl) ?_
              refine SO.v rfl (opv_neqN (e := t73) Try.underlying33 rfl) ?_
              refine SO.v rfl (opv_move rfl) ?_
              refine SO.cut 4 111 (.bool (t73.isSome || (t72 != t79))) [Box b8 [u82_Slots, u82_Objs, .int .i64 p80.NS, .int .i64 p80.NO], OwnR 77 kr_ref10_Slot u82_Slots p80.Slots, OwnR 70 kr_ref10_Obj u82_Objs p80.Objs, Box b77 [.int .i64 t71.Code, .int .i64 t71.Word, .int .i64 t71.Badge], Own 63 (ekI .u64) v20 s75, Box b26 [.int .i64 x24.What, .int .i64 x24.T, .int .i64 x24.B], F] (fun l2 hk2 => ?_) ?_
              · rcases bool_or t73.isSome with b83 | b83
                · refine SO.passF rfl rfl rfl b83 rfl rfl ?_
                  refine SO.passF rfl rfl rfl b83 rfl rfl ?_
                  refine SO.passF rfl rfl rfl b83 rfl rfl ?_
                  refine SO.v rfl (opv_pick_t' b83 rfl rfl) ?_
                  refine SO.b6 ?_
                  refine SO.b6 ?_
                  refine SO.b6 ?_
                  refine SO.b6 ?_
                  refine SO.b6 ?_
                  refine SO.b6 ?_
                  refine SO.b6 ?_
                  exact hk2.fitc (m := 4) rfl (or_t b83) rfl
                · refine SO.takeT rfl rfl rfl b83 ?_
                  refine SO.v rfl (opv_move rfl) ?_
                  refine SO.takeT rfl rfl rfl b83 ?_
                  refine SO.v rfl (opv_move rfl) ?_
                  refine SO.takeT rfl rfl rfl b83 ?_
                  refine SO.v rfl (opv_neqB Try.underlying4 rfl rfl) ?_
                  refine SO.v rfl (opv_pick_f' b83 rfl rfl) ?_
                  refine SO.b6 ?_
                  refine SO.b6 ?_
                  refine SO.b6 ?_
                  refine SO.b6 ?_
                  refine SO.b6 ?_
                  refine SO.b6 ?_
                  refine SO.b6 ?_
                  exact hk2.fitc (m := 4) rfl (or_f b83) rfl
              refine SO.v rfl (opv_move rfl) ?_
              obtain ⟨c85, hc86, hgk⟩ := opt_bind h
              refine SO.cut 5 117 (.bool c85) [Box b8 [u82_Slots, u82_Objs, .int .i64 p80.NS, .int .i64 p80.NO], OwnR 77 kr_ref10_Slot u82_Slots p80.Slots, OwnR 70 kr_ref10_Obj u82_Objs p80.Objs, Box b77 [.int .i64 t71.Code, .int .i64 t71.Word, .int .i64 t71.Badge], Own 63 (ekI .u64) v20 s75, Box b26 [.int .i64 x24.What, .int .i64 x24.T, .int .i64 x24.B], F] (fun l2 hk2 => ?_) ?_
              · clear hgk
                replace h := hc86
                rcases bool_or (t73.isSome || (t72 != t79)) with b84 | b84
                · replace h := cond_t b84 h
                  refine SO.passF rfl rfl rfl b84 rfl rfl ?_
                  refine SO.passF rfl rfl rfl b84 rfl rfl ?_
                  refine SO.passF rfl rfl rfl b84 rfl rfl ?_
                  refine SO.passF rfl rfl rfl b84 rfl rfl ?_
                  cases h
                  refine SO.v rfl (opv_pick_t' b84 rfl rfl) ?_
                  refine SO.b6 ?_
                  refine SO.b6 ?_
                  refine SO.b6 ?_
                  refine SO.b6 ?_
                  refine SO.b6 ?_
                  refine SO.b6 ?_
                  refine SO.b6 ?_
                  exact hk2.fitc (m := 5) rfl (rfl) rfl
                · replace h := cond_f b84 h
                  refine SO.takeT rfl rfl rfl b84 ?_
                  refine SO.b3 ?_
                  refine SO.loadN rfl Try.isAgg45 Try.sizeOf45 rfl rfl rfl ?_
                  refine SO.takeT rfl rfl rfl b84 ?_
                  refine SO.v rfl (opv_move rfl) ?_
                  refine SO.takeT rfl rfl rfl b84 ?_
                  refine SO.v rfl (opv_build (v := .agg #[.int .i64 0, .int .i64 t78, .int .i64 0]) rfl (by intro w; kernel_rfl)) ?_
                  refine SO.takeT rfl rfl rfl b84 ?_
                  refine SO.v rfl (eq_neq_api_Reply (x := t71) (y := (⟨0, t78, 0⟩ : api_Reply)) rfl rfl) ?_
                  cases h
                  refine SO.v rfl (opv_pick_f' b84 rfl rfl) ?_
                  refine SO.b6 ?_
                  refine SO.b6 ?_
                  refine SO.b6 ?_
                  refine SO.b3 ?_
                  refine SO.b6 ?_
                  refine SO.b6 ?_
                  refine SO.b6 ?_
                  exact hk2.fitc (m := 5) rfl (rfl) rfl
              clear hc86
              replace h := hgk
              refine SO.nil ?_
              rcases bool_or c85 with b87 | b87
              · replace h := cond_t b87 h
                refine S.condT rfl b87 ?_
                refine S.seq ?_
                refine S.region ?_
                refine SO.v rfl (opv_assign rfl) ?_
                refine SO.nil ?_
                cases h
                replace h := hK1.1 _ rfl
                cases h
                refine S.drop ?_
                refine S.drop ?_
                refine S.drop ?_
                refine S.drop ?_
                refine S.drop ?_
                refine S.drop ?_
                exact S.ret1 Try.func5 rfl rfl (fun w hs hk => hR w _ _ ⟨rfl, rfl⟩ hs hk)
              · replace h := cond_f b87 h
                refine S.condF rfl b87 ?_
                refine S.skip ?_
                refine S.seq ?_
                refine S.region ?_
                refine SO.v rfl (opv_move rfl) ?_
                refine SO.v rfl (opv_move rfl) ?_
                obtain ⟨t96, ht97, h⟩ := opt_bind h
                refine SO.b1 ?_
                refine SO.openR fun raws88 A89 hrel90 hR91 => ?_
                refine SO.b2 ?_
                refine SO.openR fun raws92 A93 hrel94 hR95 => ?_
                refine SO.b1 ?_
                refine SO.b2 ?_
                refine SO.call (pre := [Box _ _, OwnO _ _ _ _ _ _, OwnO _ _ _ _ _ _]) rfl Try.call9 rfl rfl rfl (ref10_State_Words.ct _ b8 u82_Slots u82_Objs raws88 A89 raws92 A93 _ _ ht97) trivial ?_
                rintro v98 _ ⟨_, rfl, rfl⟩
                refine SO.rd fun hr99 => ?_
                obtain ⟨t100, ht101, h⟩ := opt_bind h
                refine SO.call (pre := []) rfl Try.call21 rfl rfl rfl (ref10_Same.ct _ v20 v98 _ _ _ ht101) ⟨(Rd.tail (Rd.tail (Rd.tail (Rd.tail (Rd.tail (Rd.head hr76)))))), (Rd.head hr99)⟩ ?_
                rintro _ _ ⟨rfl, rfl⟩
                refine SO.v rfl (opv_not rfl) ?_
                refine SO.nil ?_
                rcases bool_or (!t100) with b102 | b102
                · replace h := cond_t b102 h
                  refine S.condT rfl b102 ?_
                  refine S.seq ?_
                  refine S.region ?_
                  refine SO.v rfl (opv_assign rfl) ?_
                  refine SO.nil ?_
                  cases h
                  replace h := hK1.1 _ rfl
                  cases h
                  refine S.b2 ?_
                  refine S.closeR ?_
                  refine S.b3 ?_
                  refine S.closeR ?_
                  refine S.drop ?_
                  refine S.drop ?_
                  refine S.drop ?_
                  refine S.drop ?_
                  refine S.drop ?_
                  refine S.drop ?_
                  refine S.drop ?_
                  exact S.ret1 Try.func5 rfl rfl (fun w hs hk => hR w _ _ ⟨rfl, rfl⟩ hs hk)
                · replace h := cond_f b102 h
                  refine S.condF rfl b102 ?_
                  refine S.skip ?_
                  refine S.inBlock ?_
                  refine S.region ?_
                  refine SO.v rfl (opv_move rfl) ?_
                  refine SO.v rfl (opv_add rfl rfl) ?_
                  refine SO.v rfl (opv_assign rfl) ?_
                  refine SO.nil ?_
                  refine S.b2 ?_
                  refine S.closeR ?_
                  refine S.b3 ?_
                  refine S.closeR ?_
                  refine S.b2 ?_
                  refine S.drop ?_
                  refine S.b3 ?_
                  refine S.drop ?_
                  refine S.b4 ?_
                  refine S.drop ?_
                  refine S.b4 ?_
                  refine S.b3 ?_
                  refine S.b4 ?_
                  refine S.b4 ?_
                  refine S.b4 ?_
                  refine S.to ?_ (ih1 ((w64 (x9_1 + 1), p80.Slots, p80.Objs, p80.NS, p80.NO, s75), (u82_Slots, u82_Objs)) h)
                  exact ⟨rfl, rfl, rfl, rfl, rfl, rfl, rfl, rfl, trivial⟩
          · replace h := cond_f b57 h
            refine S.condF rfl b57 ?_
            refine S.seq ?_
            refine S.region ?_
            refine SO.v rfl (opv_move rfl) ?_
            refine SO.v rfl (opv_iface Try.underlying25 rfl rfl) ?_
            refine SO.v rfl (opv_move rfl) ?_
            obtain ⟨⟨⟨t105, t106⟩, s108⟩, ht107, h⟩ := opt_bind h
            refine SO.b1 ?_
            refine SO.call (pre := [(plainV v20).rep _]) rfl Try.call25 rfl rfl rfl (ntfn_Poll.ct (plainV v20) _ _ _ _ _ ht107) trivial ?_
            rintro _ _ ⟨rfl, rfl⟩
            refine headEq (plainV_rep _ _) ?_
            refine SO.rd fun hr109 => ?_
            refine SO.v rfl (opv_move rfl) ?_
            refine SO.v rfl (opv_extract rfl rfl) ?_
            refine SO.v rfl (opv_extract rfl rfl) ?_
            refine SO.alloc rfl Try.zeroValue45 rfl (fun b110 => ?_)
            refine SO.storeN Try.sizeOf45 rfl rfl rfl rfl rfl rfl ?_
            refine SO.v rfl (opv_assign rfl) ?_
            refine SO.nil ?_
            refine S.seq ?_
            refine S.b3 ?_
            refine S.openR fun raws111 A112 hrel113 hR114 => ?_
            refine S.b4 ?_
            refine S.openR fun raws115 A116 hrel117 hR118 => ?_
            obtain ⟨⟨j134_2, y8_0_2, y8_1_2, y8_2_2, y8_3_2⟩, hC2, hJ2⟩ := opt_bind h
            clear h
            refine S.cutP (G := (Value × Value)) (fun _ => True) (fun x => match x with | (vy8_0_2, vy8_1_2) => [(0, .int .i64 a0), (1, v1), (4, .bool false), (5, .bool t1), (6, bp b8 0), (7, v20), (8, .int .i64 (w64 (a0 + 4))), (9, .int .i64 x9_1), (10, bp b26 0), (11, .int .i64 t27), (12, .int .i64 t29), (20, bp b110 0), (21, errV 59 t106), (46, .int .i64 x9_1), (47, v1), (48, .int .i64 (a1.length : Int)), (49, .bool (decide (x9_1 < (a1.length : Int)))), (52, v1), (53, .int .i64 x9_1), (54, idxp v1 (x9_1.toNat * ek_law16_Deed.sz)), (55, .agg #[.int .i64 x24.What, .int .i64 x24.T, .int .i64 x24.B]), (56, bp b26 2), (57, .int .i64 x24.B), (58, .int .i64 t27), (59, bp b26 0), (60, .int .i64 x24.What), (61, .int .i64 t29), (62, .int .i64 t29), (63, .bool (decide (t29 < 2))), (74, .int .i64 t29), (75, .bool (t29 == 2)), (76, .bool (t29 == 2)), (79, .bool ((t29 == 2) && (decide (0 < a0)))), (118, .tuple #[.agg #[.int .i64 t105.Code, .int .i64 t105.Word, .int .i64 t105.Badge], errV 59 t106]), (119, v20), (120, (plainV v20).val), (121, .int .i64 (w64 (a0 + 4))), (122, .tuple #[.agg #[.int .i64 t105.Code, .int .i64 t105.Word, .int .i64 t105.Badge], errV 59 t106]), (123, .agg #[.int .i64 t105.Code, .int .i64 t105.Word, .int .i64 t105.Badge]), (124, errV 59 t106), (125, errV 59 t106), (126, .bool t106.isSome), (127, .bool t106.isSome), (134, .bool j134_2)]) (fun x => match x with | (vy8_0_2, vy8_1_2) => [OwnR 70 kr_ref10_Obj vy8_1_2 y8_1_2, OwnR 77 kr_ref10_Slot vy8_0_2 y8_0_2, Box b110 [.int .i64 t105.Code, .int .i64 t105.Word, .int .i64 t105.Badge], Own 63 (ekI .u64) v20 s108, Box b26 [.int .i64 x24.What, .int .i64 x24.T, .int .i64 x24.B], Box b8 [vy8_0_2, vy8_1_2, .int .i64 y8_2_2, .int .i64 y8_3_2], F]) (fun hk2 => ?_) ?_
            · replace h := hC2
              rcases bool_or t106.isSome with b119 | b119
              · replace h := cond_t b119 h
                refine S.draw' (Z := fun Q => ∀ (_ : Unit) (_ : Unit) (_ : Unit) (_ : Unit) (_ : Unit) (_ : Unit) (_ : Unit) (_ : Unit) (_ : Unit) (_ : Unit) (_ : Unit) (_ : Unit) (_ : Unit) (_ : Unit) (_ : Unit) (_ : Unit) (_ : Unit) (_ : Unit) (_ : Unit) (_ : Unit) (_ : Unit) (_ : Unit), Q [(124, errV 59 t106), (123, .agg #[.int .i64 t105.Code, .int .i64 t105.Word, .int .i64 t105.Badge]), (118, .tuple #[.agg #[.int .i64 t105.Code, .int .i64 t105.Word, .int .i64 t105.Badge], errV 59 t106]), (122, .tuple #[.agg #[.int .i64 t105.Code, .int .i64 t105.Word, .int .i64 t105.Badge], errV 59 t106]), (121, .int .i64 (w64 (a0 + 4))), (120, (plainV v20).val), (119, v20), (79, .bool ((t29 == 2) && (decide (0 < a0)))), (76, .bool (t29 == 2)), (75, .bool (t29 == 2)), (74, .int .i64 t29), (63, .bool (decide (t29 < 2))), (62, .int .i64 t29), (12, .int .i64 t29), (61, .int .i64 t29), (60, .int .i64 x24.What), (59, bp b26 0), (11, .int .i64 t27), (58, .int .i64 t27), (57, .int .i64 x24.B), (56, bp b26 2), (10, bp b26 0), (55, .agg #[.int .i64 x24.What, .int .i64 x24.T, .int .i64 x24.B]), (54, idxp v1 (x9_1.toNat * ek_law16_Deed.sz)), (53, .int .i64 x9_1), (52, v1), (49, .bool (decide (x9_1 < (a1.length : Int)))), (48, .int .i64 (a1.length : Int)), (47, v1), (46, .int .i64 x9_1), (9, .int .i64 x9_1), (7, v20), (0, .int .i64 a0), (1, v1), (4, .bool false), (5, .bool t1), (8, .int .i64 (w64 (a0 + 4))), (6, bp b8 0), (20, bp b110 0), (21, errV 59 t106), (125, errV 59 t106), (126, .bool t106.isSome), (127, .bool t106.isSome), (128, undef), (129, undef), (130, undef), (131, undef), (132, undef), (133, undef), (134, .bool true)] [OwnO 77 kr_ref10_Slot vy8_0_1 raws115 A116 y8_0_1, OwnO 70 kr_ref10_Obj vy8_1_1 raws111 A112 y8_1_1, Box b110 [.int .i64 t105.Code, .int .i64 t105.Word, .int .i64 t105.Badge], Own 63 (ekI .u64) v20 s108, Box b26 [.int .i64 x24.What, .int .i64 x24.T, .int .i64 x24.B], Box b8 [vy8_0_1, vy8_1_1, .int .i64 y8_2_1, .int .i64 y8_3_1], F]) (T := [tS 21 (errV 59 t106), tS 20 (bp b110 0), tS 6 (bp b8 0), tS 8 (.int .i64 (w64 (a0 + 4))), tE [(124, errV 59 t106), (123, .agg #[.int .i64 t105.Code, .int .i64 t105.Word, .int .i64 t105.Badge]), (118, .tuple #[.agg #[.int .i64 t105.Code, .int .i64 t105.Word, .int .i64 t105.Badge], errV 59 t106]), (122, .tuple #[.agg #[.int .i64 t105.Code, .int .i64 t105.Word, .int .i64 t105.Badge], errV 59 t106]), (121, .int .i64 (w64 (a0 + 4))), (120, (plainV v20).val), (119, v20), (79, .bool ((t29 == 2) && (decide (0 < a0)))), (76, .bool (t29 == 2)), (75, .bool (t29 == 2)), (74, .int .i64 t29), (63, .bool (decide (t29 < 2))), (62, .int .i64 t29), (12, .int .i64 t29), (61, .int .i64 t29), (60, .int .i64 x24.What), (59, bp b26 0), (11, .int .i64 t27), (58, .int .i64 t27), (57, .int .i64 x24.B), (56, bp b26 2), (10, bp b26 0), (55, .agg #[.int .i64 x24.What, .int .i64 x24.T, .int .i64 x24.B]), (54, idxp v1 (x9_1.toNat * ek_law16_Deed.sz)), (53, .int .i64 x9_1), (52, v1), (49, .bool (decide (x9_1 < (a1.length : Int)))), (48, .int .i64 (a1.length : Int)), (47, v1), (46, .int .i64 x9_1), (9, .int .i64 x9_1), (7, v20), (0, .int .i64 a0), (1, v1), (4, .bool false), (5, .bool t1)], tR (OwnO 77 kr_ref10_Slot vy8_0_1 raws115 A116 y8_0_1), tR (OwnO 70 kr_ref10_Obj vy8_1_1 raws111 A112 y8_1_1), tR (Box b110 [.int .i64 t105.Code, .int .i64 t105.Word, .int .i64 t105.Badge]), tR (Own 63 (ekI .u64) v20 s108), tR (Box b26 [.int .i64 x24.What, .int .i64 x24.T, .int .i64 x24.B]), tR (Box b8 [vy8_0_1, vy8_1_1, .int .i64 y8_2_1, .int .i64 y8_3_1]), tR (F), tS 125 (errV 59 t106), tS 126 (.bool t106.isSome), tS 127 (.bool t106.isSome), tS 128 (undef), tS 129 (undef), tS 130 (undef), tS 131 (undef), tS 132 (undef), tS 133 (undef), tS 134 (.bool true)]) (D := [⟨[0], [], [12]⟩, ⟨[12], [], [13]⟩, ⟨[13], [], [14]⟩, ⟨[14], [], [15]⟩, ⟨[14], [], [16]⟩, ⟨[14], [], [17]⟩, ⟨[14], [], [18]⟩, ⟨[14], [], [19]⟩, ⟨[14], [], [20]⟩, ⟨[14, 20], [], [21]⟩]) (ini := [0, 1, 2, 3, 4, 5, 6, 7, 8, 9, 10, 11]) (fin := [4, 3, 2, 1, 0, 12, 13, 14, 15, 16, 17, 18, 19, 20, 21, 5, 6, 7, 8, 9, 10, 11]) (bf := [[], [0], [0, 1], [0, 1, 2], [0, 1, 2], [0, 1, 2], [0, 1, 2, 4, 5], [0, 1, 2, 4, 5, 6], [0, 1, 2, 3, 4, 5, 6, 7], [0, 1, 2, 3, 4, 5, 6, 7, 8]]) (by kernel_rfl) (by kernel_rfl) (fun x w h1 h2 => (.cons () (.cons () (.cons () (.cons () (.cons () (.cons () (.cons () (.cons () (.cons () (.cons () (.cons () (.cons () (.nil ⟨EnvAll.of h1 ⟨rfl, rfl, rfl, rfl, rfl, rfl, rfl, rfl, rfl, rfl, rfl, rfl, rfl, rfl, rfl, rfl, rfl, rfl, rfl, rfl, rfl, rfl, rfl, rfl, rfl, rfl, rfl, rfl, rfl, rfl, rfl, rfl, rfl, rfl, rfl, rfl, rfl, rfl, rfl, rfl, trivial⟩, h2⟩)))))))))))))) (fun Q => by kernel_rfl) ⟨?_, ?_, ?_, ?_, ?_, ?_, ?_, ?_, ?_, ?_, trivial⟩ ?_
                · rintro Fr _
                  refine SO.v rfl (opv_move rfl) ?_
                  exact SO.nilZ fun a w h1 h2 h3 h4 h5 => PZ.of h1 h3 h5 (.cons () (.cons () (.nil ⟨EnvAll.of h2 ⟨rfl, rfl, trivial⟩, h4⟩)))
                · rintro Fr _
                  refine SO.v rfl (opv_neqN (e := t106) Try.underlying33 rfl) ?_
                  exact SO.nilZ fun a w h1 h2 h3 h4 h5 => PZ.of h1 h3 h5 (.cons () (.cons () (.nil ⟨EnvAll.of h2 ⟨rfl, rfl, trivial⟩, h4⟩)))
                · rintro Fr _
                  refine SO.v rfl (opv_move rfl) ?_
                  exact SO.nilZ fun a w h1 h2 h3 h4 h5 => PZ.of h1 h3 h5 (.cons () (.cons () (.nil ⟨EnvAll.of h2 ⟨rfl, rfl, trivial⟩, h4⟩)))
                · rintro Fr _
                  refine SO.passF rfl rfl rfl b119 rfl rfl ?_
                  exact SO.nilZ fun a w h1 h2 h3 h4 h5 => PZ.of h1 h3 h5 (.cons () (.cons () (.nil ⟨EnvAll.of h2 ⟨rfl, rfl, trivial⟩, h4⟩)))
                · rintro Fr _
                  refine SO.passF rfl rfl rfl b119 rfl rfl ?_
                  exact SO.nilZ fun a w h1 h2 h3 h4 h5 => PZ.of h1 h3 h5 (.cons () (.cons () (.nil ⟨EnvAll.of h2 ⟨rfl, rfl, trivial⟩, h4⟩)))
                · rintro Fr _
                  refine SO.passF rfl rfl rfl b119 rfl rfl ?_
                  exact SO.nilZ fun a w h1 h2 h3 h4 h5 => PZ.of h1 h3 h5 (.cons () (.cons () (.nil ⟨EnvAll.of h2 ⟨rfl, rfl, trivial⟩, h4⟩)))
                · rintro Fr _
                  refine SO.passF rfl rfl rfl b119 rfl rfl ?_
                  exact SO.nilZ fun a w h1 h2 h3 h4 h5 => PZ.of h1 h3 h5 (.cons () (.cons () (.nil ⟨EnvAll.of h2 ⟨rfl, rfl, trivial⟩, h4⟩)))
                · rintro Fr _
                  refine SO.passF rfl rfl rfl b119 rfl rfl ?_
                  exact SO.nilZ fun a w h1 h2 h3 h4 h5 => PZ.of h1 h3 h5 (.cons () (.cons () (.nil ⟨EnvAll.of h2 ⟨rfl, rfl, trivial⟩, h4⟩)))
                · rintro Fr _
                  refine SO.passF rfl rfl rfl b119 rfl rfl ?_
                  exact SO.nilZ fun a w h1 h2 h3 h4 h5 => PZ.of h1 h3 h5 (.cons () (.cons () (.nil ⟨EnvAll.of h2 ⟨rfl, rfl, trivial⟩, h4⟩)))
                · rintro Fr _ _
                  refine SO.v rfl (opv_pick_t' b119 rfl rfl) ?_
                  exact SO.nilZ fun a w h1 h2 h3 h4 h5 => PZ.of h1 h3 h5 (.cons () (.cons () (.cons () (.nil ⟨EnvAll.of h2 ⟨rfl, rfl, rfl, trivial⟩, h4⟩))))
                rintro _ _ _ _ _ _ _ _ _ _ _ _ _ _ _ _ _ _ _ _ _ _
                refine S.to (ρ' := [(124, errV 59 t106), (123, .agg #[.int .i64 t105.Code, .int .i64 t105.Word, .int .i64 t105.Badge]), (118, .tuple #[.agg #[.int .i64 t105.Code, .int .i64 t105.Word, .int .i64 t105.Badge], errV 59 t106]), (122, .tuple #[.agg #[.int .i64 t105.Code, .int .i64 t105.Word, .int .i64 t105.Badge], errV 59 t106]), (121, .int .i64 (w64 (a0 + 4))), (120, (plainV v20).val), (119, v20), (79, .bool ((t29 == 2) && (decide (0 < a0)))), (76, .bool (t29 == 2)), (75, .bool (t29 == 2)), (74, .int .i64 t29), (63, .bool (decide (t29 < 2))), (62, .int .i64 t29), (12, .int .i64 t29), (61, .int .i64 t29), (60, .int .i64 x24.What), (59, bp b26 0), (11, .int .i64 t27), (58, .int .i64 t27), (57, .int .i64 x24.B), (56, bp b26 2), (10, bp b26 0), (55, .agg #[.int .i64 x24.What, .int .i64 x24.T, .int .i64 x24.B]), (54, idxp v1 (x9_1.toNat * ek_law16_Deed.sz)), (53, .int .i64 x9_1), (52, v1), (49, .bool (decide (x9_1 < (a1.length : Int)))), (48, .int .i64 (a1.length : Int)), (47, v1), (46, .int .i64 x9_1), (9, .int .i64 x9_1), (7, v20), (0, .int .i64 a0), (1, v1), (4, .bool false), (5, .bool t1), (8, .int .i64 (w64 (a0 + 4))), (6, bp b8 0), (20, bp b110 0), (21, errV 59 t106), (125, errV 59 t106), (126, .bool t106.isSome), (127, .bool t106.isSome), (128, undef), (129, undef), (130, undef), (131, undef), (132, undef), (133, undef), (134, .bool true)]) ⟨rfl, rfl, rfl, rfl, rfl, rfl, rfl, rfl, rfl, rfl, rfl, rfl, rfl, rfl, rfl, rfl, rfl, rfl, rfl, rfl, rfl, rfl, rfl, rfl, rfl, rfl, rfl, rfl, rfl, rfl, rfl, rfl, rfl, rfl, rfl, rfl, rfl, rfl, rfl, rfl, rfl, rfl, rfl, rfl, rfl, rfl, rfl, rfl, rfl, rfl, trivial⟩ ?_
                cases h
                refine S.closeR ?_
                refine S.b1 ?_
                refine S.closeR ?_
                refine S.b6 ?_
                refine S.b6 ?_
                refine S.b6 ?_
                refine S.b6 ?_
                refine S.b6 ?_
                refine S.b6 ?_
                refine S.b6 ?_
                refine S.to ?_ (hk2 (vy8_0_1, vy8_1_1) trivial)
                exact ⟨rfl, rfl, rfl, rfl, rfl, rfl, rfl, rfl, rfl, rfl, rfl, rfl, rfl, rfl, rfl, rfl, rfl, rfl, rfl, rfl, rfl, rfl, rfl, rfl, rfl, rfl, rfl, rfl, rfl, rfl, rfl, rfl, rfl, rfl, rfl, rfl, rfl, rfl, rfl, rfl, rfl, rfl, rfl, rfl, trivial⟩
              · replace h := cond_f b119 h
                obtain ⟨⟨t120, p121⟩, ht122, h⟩ := opt_bind h
                refine S.draw' (Z := fun Q => ∀ (_ : Unit) (_ : Unit) (_ : Unit) (_ : Unit) (_ : Unit) (_ : Unit) (_ : Unit) (_ : Unit) (_ : Unit) (_ : Unit) (_ : Unit) (g_11 : (Value × Value)) (_ : Unit) (_ : Unit) (_ : Unit) (_ : Unit) (_ : Unit) (_ : Unit) (_ : Unit), Q [(124, errV 59 t106), (123, .agg #[.int .i64 t105.Code, .int .i64 t105.Word, .int .i64 t105.Badge]), (118, .tuple #[.agg #[.int .i64 t105.Code, .int .i64 t105.Word, .int .i64 t105.Badge], errV 59 t106]), (122, .tuple #[.agg #[.int .i64 t105.Code, .int .i64 t105.Word, .int .i64 t105.Badge], errV 59 t106]), (121, .int .i64 (w64 (a0 + 4))), (120, (plainV v20).val), (119, v20), (79, .bool ((t29 == 2) && (decide (0 < a0)))), (76, .bool (t29 == 2)), (75, .bool (t29 == 2)), (74, .int .i64 t29), (63, .bool (decide (t29 < 2))), (62, .int .i64 t29), (12, .int .i64 t29), (61, .int .i64 t29), (60, .int .i64 x24.What), (59, bp b26 0), (11, .int .i64 t27), (58, .int .i64 t27), (57, .int .i64 x24.B), (56, bp b26 2), (10, bp b26 0), (55, .agg #[.int .i64 x24.What, .int .i64 x24.T, .int .i64 x24.B]), (54, idxp v1 (x9_1.toNat * ek_law16_Deed.sz)), (53, .int .i64 x9_1), (52, v1), (49, .bool (decide (x9_1 < (a1.length : Int)))), (48, .int .i64 (a1.length : Int)), (47, v1), (46, .int .i64 x9_1), (9, .int .i64 x9_1), (7, v20), (0, .int .i64 a0), (1, v1), (4, .bool false), (5, .bool t1), (8, .int .i64 (w64 (a0 + 4))), (6, bp b8 0), (20, bp b110 0), (21, errV 59 t106), (125, errV 59 t106), (126, .bool t106.isSome), (127, .bool t106.isSome), (128, .agg #[.int .i64 t105.Code, .int .i64 t105.Word, .int .i64 t105.Badge]), (129, bp b8 0), (130, .int .i64 (w64 (a0 + 4))), (131, .int .i64 t120), (132, .agg #[.int .i64 0, .int .i64 t120, .int .i64 0]), (133, .bool (!decide (t105 = (⟨0, t120, 0⟩ : api_Reply)))), (134, .bool (!decide (t105 = (⟨0, t120, 0⟩ : api_Reply))))] [OwnR 77 kr_ref10_Slot g_11.1 p121.Slots, OwnR 70 kr_ref10_Obj g_11.2 p121.Objs, Box b8 [g_11.1, g_11.2, .int .i64 p121.NS, .int .i64 p121.NO], Box b110 [.int .i64 t105.Code, .int .i64 t105.Word, .int .i64 t105.Badge], Own 63 (ekI .u64) v20 s108, Box b26 [.int .i64 x24.What, .int .i64 x24.T, .int .i64 x24.B], F]) (T := [tS 21 (errV 59 t106), tS 20 (bp b110 0), tS 6 (bp b8 0), tS 8 (.int .i64 (w64 (a0 + 4))), tE [(124, errV 59 t106), (123, .agg #[.int .i64 t105.Code, .int .i64 t105.Word, .int .i64 t105.Badge]), (118, .tuple #[.agg #[.int .i64 t105.Code, .int .i64 t105.Word, .int .i64 t105.Badge], errV 59 t106]), (122, .tuple #[.agg #[.int .i64 t105.Code, .int .i64 t105.Word, .int .i64 t105.Badge], errV 59 t106]), (121, .int .i64 (w64 (a0 + 4))), (120, (plainV v20).val), (119, v20), (79, .bool ((t29 == 2) && (decide (0 < a0)))), (76, .bool (t29 == 2)), (75, .bool (t29 == 2)), (74, .int .i64 t29), (63, .bool (decide (t29 < 2))), (62, .int .i64 t29), (12, .int .i64 t29), (61, .int .i64 t29), (60, .int .i64 x24.What), (59, bp b26 0), (11, .int .i64 t27), (58, .int .i64 t27), (57, .int .i64 x24.B), (56, bp b26 2), (10, bp b26 0), (55, .agg #[.int .i64 x24.What, .int .i64 x24.T, .int .i64 x24.B]), (54, idxp v1 (x9_1.toNat * ek_law16_Deed.sz)), (53, .int .i64 x9_1), (52, v1), (49, .bool (decide (x9_1 < (a1.length : Int)))), (48, .int .i64 (a1.length : Int)), (47, v1), (46, .int .i64 x9_1), (9, .int .i64 x9_1), (7, v20), (0, .int .i64 a0), (1, v1), (4, .bool false), (5, .bool t1)], tR (OwnO 77 kr_ref10_Slot vy8_0_1 raws115 A116 y8_0_1), tR (OwnO 70 kr_ref10_Obj vy8_1_1 raws111 A112 y8_1_1), tR (Box b110 [.int .i64 t105.Code, .int .i64 t105.Word, .int .i64 t105.Badge]), tR (Own 63 (ekI .u64) v20 s108), tR (Box b26 [.int .i64 x24.What, .int .i64 x24.T, .int .i64 x24.B]), tR (Box b8 [vy8_0_1, vy8_1_1, .int .i64 y8_2_1, .int .i64 y8_3_1]), tR (F), tS 125 (errV 59 t106), tS 126 (.bool t106.isSome), tS 127 (.bool t106.isSome), tS 128 (.agg #[.int .i64 t105.Code, .int .i64 t105.Word, .int .i64 t105.Badge]), tS 129 (bp b8 0), tS 130 (.int .i64 (w64 (a0 + 4))), ⟨(Value × Value), [131], (fun x => match x with | (u123_Slots, u123_Objs) => [(131, .int .i64 t120)]), (fun x => match x with | (u123_Slots, u123_Objs) => [OwnR 77 kr_ref10_Slot u123_Slots p121.Slots, OwnR 70 kr_ref10_Obj u123_Objs p121.Objs, Box b8 [u123_Slots, u123_Objs, .int .i64 p121.NS, .int .i64 p121.NO]]), fun _ => rfl⟩, tS 132 (.agg #[.int .i64 0, .int .i64 t120, .int .i64 0]), tS 133 (.bool (!decide (t105 = (⟨0, t120, 0⟩ : api_Reply)))), tS 134 (.bool (!decide (t105 = (⟨0, t120, 0⟩ : api_Reply))))]) (D := [⟨[0], [], [12]⟩, ⟨[12], [], [13]⟩, ⟨[13], [], [14]⟩, ⟨[1, 14, 7], [], [15]⟩, ⟨[2, 14], [], [16]⟩, ⟨[3, 14], [], [17]⟩, ⟨[14, 16, 17], [10, 5, 6], [18]⟩, ⟨[14, 18], [], [19]⟩, ⟨[14, 15, 19], [], [20]⟩, ⟨[14, 20], [], [21]⟩]) (ini := [0, 1, 2, 3, 4, 5, 6, 7, 8, 9, 10, 11]) (fin := [4, 3, 2, 1, 0, 12, 13, 14, 15, 16, 17, 18, 19, 20, 21, 7, 8, 9, 11]) (bf := [[], [0], [0, 1], [0, 1, 2], [0, 1, 2], [0, 1, 2], [0, 1, 2, 4, 5], [0, 1, 2, 4, 5, 6], [0, 1, 2, 3, 4, 5, 6, 7], [0, 1, 2, 3, 4, 5, 6, 7, 8]]) (by kernel_rfl) (by kernel_rfl) (fun x w h1 h2 => (.cons () (.cons () (.cons () (.cons () (.cons () (.cons () (.cons () (.cons () (.cons () (.cons () (.cons () (.cons () (.nil ⟨EnvAll.of h1 ⟨rfl, rfl, rfl, rfl, rfl, rfl, rfl, rfl, rfl, rfl, rfl, rfl, rfl, rfl, rfl, rfl, rfl, rfl, rfl, rfl, rfl, rfl, rfl, rfl, rfl, rfl, rfl, rfl, rfl, rfl, rfl, rfl, rfl, rfl, rfl, rfl, rfl, rfl, rfl, rfl, trivial⟩, h2⟩)))))))))))))) (fun Q => by kernel_rfl) ⟨?_, ?_, ?_, ?_, ?_, ?_, ?_, ?_, ?_, ?_, trivial⟩ ?_
                · rintro Fr _
                  refine SO.v rfl (opv_move rfl) ?_
                  exact SO.nilZ fun a w h1 h2 h3 h4 h5 => PZ.of h1 h3 h5 (.cons () (.cons () (.nil ⟨EnvAll.of h2 ⟨rfl, rfl, trivial⟩, h4⟩)))
                · rintro Fr _
                  refine SO.v rfl (opv_neqN (e := t106) Try.underlying33 rfl) ?_
                  exact SO.nilZ fun a w h1 h2 h3 h4 h5 => PZ.of h1 h3 h5 (.cons () (.cons () (.nil ⟨EnvAll.of h2 ⟨rfl, rfl, trivial⟩, h4⟩)))
                · rintro Fr _
                  refine SO.v rfl (opv_move rfl) ?_
                  exact SO.nilZ fun a w h1 h2 h3 h4 h5 => PZ.of h1 h3 h5 (.cons () (.cons () (.nil ⟨EnvAll.of h2 ⟨rfl, rfl, trivial⟩, h4⟩)))
                · rintro Fr _ _ _
                  refine SO.takeT rfl rfl rfl b119 ?_
                  refine SO.loadN rfl Try.isAgg45 Try.sizeOf45 rfl rfl rfl ?_
                  exact SO.nilZ fun a w h1 h2 h3 h4 h5 => PZ.of h1 h3 h5 (.cons () (.cons () (.cons () (.cons () (.nil ⟨EnvAll.of h2 ⟨rfl, rfl, rfl, trivial⟩, h4⟩)))))
                · rintro Fr _ _
                  refine SO.takeT rfl rfl rfl b119 ?_
                  refine SO.v rfl (opv_move rfl) ?_
                  exact SO.nilZ fun a w h1 h2 h3 h4 h5 => PZ.of h1 h3 h5 (.cons () (.cons () (.cons () (.nil ⟨EnvAll.of h2 ⟨rfl, rfl, rfl, trivial⟩, h4⟩))))
                · rintro Fr _ _
                  refine SO.takeT rfl rfl rfl b119 ?_
                  refine SO.v rfl (opv_move rfl) ?_
                  exact SO.nilZ fun a w h1 h2 h3 h4 h5 => PZ.of h1 h3 h5 (.cons () (.cons () (.cons () (.nil ⟨EnvAll.of h2 ⟨rfl, rfl, rfl, trivial⟩, h4⟩))))
                · rintro Fr _ _ _ _ _ _
                  refine SO.takeT rfl rfl rfl b119 ?_
                  refine SO.b1 ?_
                  refine SO.closeR ?_
                  refine SO.b2 ?_
                  refine SO.closeR ?_
                  refine SO.b1 ?_
                  refine SO.b2 ?_
                  have ct124 := ref10_State_Poll.ct b8 vy8_0_1 vy8_1_1 _ _ _ _ ht122
                  dsimp only at ct124
                  refine SO.call (pre := [Box _ _, OwnR _ _ _ _, OwnR _ _ _ _]) rfl Try.call26 rfl rfl rfl ct124 trivial ?_
                  rintro _ _ ⟨u123_Slots, u123_Objs, rfl, rfl⟩
                  refine SO.b2 ?_
                  refine SO.b2 ?_
                  exact SO.nilZ fun a w h1 h2 h3 h4 h5 => PZ.of h1 h3 h5 (.cons () (.cons () (.cons () (.cons (u123_Slots, u123_Objs) (.nil ⟨EnvAll.of h2 ⟨rfl, rfl, rfl, rfl, trivial⟩, h4⟩)))))
                · rintro Fr _ ⟨u123_Slots, u123_Objs⟩
                  refine SO.takeT rfl rfl rfl b119 ?_
                  refine SO.v rfl (opv_build (v := .agg #[.int .i64 0, .int .i64 t120, .int .i64 0]) rfl (by intro w; kernel_rfl)) ?_
                  refine SO.b2 ?_
                  refine SO.b2 ?_
                  refine SO.b2 ?_
                  exact SO.nilZ fun a w h1 h2 h3 h4 h5 => PZ.of h1 h3 h5 (.cons () (.cons (u123_Slots, u123_Objs) (.cons () (.nil ⟨EnvAll.of h2 ⟨rfl, rfl, rfl, trivial⟩, h4⟩))))
                · rintro Fr _ _ _
                  refine SO.takeT rfl rfl rfl b119 ?_
                  refine SO.v rfl (eq_neq_api_Reply (x := t105) (y := (⟨0, t120, 0⟩ : api_Reply)) rfl rfl) ?_
                  exact SO.nilZ fun a w h1 h2 h3 h4 h5 => PZ.of h1 h3 h5 (.cons () (.cons () (.cons () (.cons () (.nil ⟨EnvAll.of h2 ⟨rfl, rfl, rfl, rfl, trivial⟩, h4⟩)))))
                · rintro Fr _ _
                  refine SO.v rfl (opv_pick_f' b119 rfl rfl) ?_
                  exact SO.nilZ fun a w h1 h2 h3 h4 h5 => PZ.of h1 h3 h5 (.cons () (.cons () (.cons () (.nil ⟨EnvAll.of h2 ⟨rfl, rfl, rfl, trivial⟩, h4⟩))))
                rintro _ _ _ _ _ _ _ _ _ _ _ ⟨u123_Slots, u123_Objs⟩ _ _ _ _ _ _ _
                refine S.to (ρ' := [(124, errV 59 t106), (123, .agg #[.int .i64 t105.Code, .int .i64 t105.Word, .int .i64 t105.Badge]), (118, .tuple #[.agg #[.int .i64 t105.Code, .int .i64 t105.Word, .int .i64 t105.Badge], errV 59 t106]), (122, .tuple #[.agg #[.int .i64 t105.Code, .int .i64 t105.Word, .int .i64 t105.Badge], errV 59 t106]), (121, .int .i64 (w64 (a0 + 4))), (120, (plainV v20).val), (119, v20), (79, .bool ((t29 == 2) && (decide (0 < a0)))), (76, .bool (t29 == 2)), (75, .bool (t29 == 2)), (74, .int .i64 t29), (63, .bool (decide (t29 < 2))), (62, .int .i64 t29), (12, .int .i64 t29), (61, .int .i64 t29), (60, .int .i64 x24.What), (59, bp b26 0), (11, .int .i64 t27), (58, .int .i64 t27), (57, .int .i64 x24.B), (56, bp b26 2), (10, bp b26 0), (55, .agg #[.int .i64 x24.What, .int .i64 x24.T, .int .i64 x24.B]), (54, idxp v1 (x9_1.toNat * ek_law16_Deed.sz)), (53, .int .i64 x9_1), (52, v1), (49, .bool (decide (x9_1 < (a1.length : Int)))), (48, .int .i64 (a1.length : Int)), (47, v1), (46, .int .i64 x9_1), (9, .int .i64 x9_1), (7, v20), (0, .int .i64 a0), (1, v1), (4, .bool false), (5, .bool t1), (8, .int .i64 (w64 (a0 + 4))), (6, bp b8 0), (20, bp b110 0), (21, errV 59 t106), (125, errV 59 t106), (126, .bool t106.isSome), (127, .bool t106.isSome), (128, .agg #[.int .i64 t105.Code, .int .i64 t105.Word, .int .i64 t105.Badge]), (129, bp b8 0), (130, .int .i64 (w64 (a0 + 4))), (131, .int .i64 t120), (132, .agg #[.int .i64 0, .int .i64 t120, .int .i64 0]), (133, .bool (!decide (t105 = (⟨0, t120, 0⟩ : api_Reply)))), (134, .bool (!decide (t105 = (⟨0, t120, 0⟩ : api_Reply))))]) ⟨rfl, rfl, rfl, rfl, rfl, rfl, rfl, rfl, rfl, rfl, rfl, rfl, rfl, rfl, rfl, rfl, rfl, rfl, rfl, rfl, rfl, rfl, rfl, rfl, rfl, rfl, rfl, rfl, rfl, rfl, rfl, rfl, rfl, rfl, rfl, rfl, rfl, rfl, rfl, rfl, rfl, rfl, rfl, rfl, rfl, rfl, rfl, rfl, rfl, rfl, trivial⟩ ?_
                cases h
                refine S.b6 ?_
                refine S.b3 ?_
                refine S.b6 ?_
                refine S.b6 ?_
                refine S.b6 ?_
                refine S.b5 ?_
                refine S.b6 ?_
                refine S.to ?_ (hk2 (u123_Slots, u123_Objs) trivial)
                exact ⟨rfl, rfl, rfl, rfl, rfl, rfl, rfl, rfl, rfl, rfl, rfl, rfl, rfl, rfl, rfl, rfl, rfl, rfl, rfl, rfl, rfl, rfl, rfl, rfl, rfl, rfl, rfl, rfl, rfl, rfl, rfl, rfl, rfl, rfl, rfl, rfl, rfl, rfl, rfl, rfl, rfl, rfl, rfl, rfl, trivial⟩
            rintro ⟨vy8_0_2, vy8_1_2⟩ -
            replace h := hJ2
            rcases bool_or j134_2 with b125 | b125
            · replace h := cond_t b125 h
              refine S.condT rfl b125 ?_
              refine S.seq ?_
              refine S.region ?_
              refine SO.v rfl (opv_assign rfl) ?_
              refine SO.nil ?_
              cases h
              replace h := hK1.1 _ rfl
              cases h
              refine S.drop ?_
              refine S.drop ?_
              refine S.drop ?_
              refine S.drop ?_
              refine S.drop ?_
              refine S.drop ?_
              exact S.ret1 Try.func5 rfl rfl (fun w hs hk => hR w _ _ ⟨rfl, rfl⟩ hs hk)
            · replace h := cond_f b125 h
              refine S.condF rfl b125 ?_
              refine S.skip ?_
              refine S.seq ?_
              refine S.region ?_
              refine SO.v rfl (opv_move rfl) ?_
              refine SO.v rfl (opv_move rfl) ?_
              obtain ⟨t134, ht135, h⟩ := opt_bind h
              refine SO.b1 ?_
              refine SO.openR fun raws126 A127 hrel128 hR129 => ?_
              refine SO.b1 ?_
              refine SO.openR fun raws130 A131 hrel132 hR133 => ?_
              refine SO.b1 ?_
              refine SO.b5 ?_
              have ct141 := ref10_State_Words.ct _ b8 vy8_0_2 vy8_1_2 raws126 A127 raws130 A131 _ _ ht135
              dsimp only at ct141
              refine SO.call (pre := [Box _ _, OwnO _ _ _ _ _ _, OwnO _ _ _ _ _ _]) rfl Try.call9 rfl rfl rfl ct141 trivial ?_
              rintro v136 _ ⟨_, rfl, rfl⟩
              refine SO.rd fun hr137 => ?_
              obtain ⟨t138, ht139, h⟩ := opt_bind h
              refine SO.call (pre := []) rfl Try.call21 rfl rfl rfl (ref10_Same.ct _ v20 v136 _ _ _ ht139) ⟨(Rd.tail (Rd.tail (Rd.tail (Rd.tail (Rd.tail (Rd.head hr109)))))), (Rd.head hr137)⟩ ?_
              rintro _ _ ⟨rfl, rfl⟩
              refine SO.v rfl (opv_not rfl) ?_
              refine SO.nil ?_
              rcases bool_or (!t138) with b140 | b140
              · replace h := cond_t b140 h
                refine S.condT rfl b140 ?_
                refine S.seq ?_
                refine S.region ?_
                refine SO.v rfl (opv_assign rfl) ?_
                refine SO.nil ?_
                cases h
                replace h := hK1.1 _ rfl
                cases h
                refine S.b2 ?_
                refine S.closeR ?_
                refine S.b3 ?_
                refine S.closeR ?_
                refine S.drop ?_
                refine S.drop ?_
                refine S.drop ?_
                refine S.drop ?_
                refine S.drop ?_
                refine S.drop ?_
                refine S.drop ?_
                exact S.ret1 Try.func5 rfl rfl (fun w hs hk => hR w _ _ ⟨rfl, rfl⟩ hs hk)
              · replace h := cond_f b140 h
                refine S.condF rfl b140 ?_
                refine S.skip ?_
                refine S.inBlock ?_
                refine S.region ?_
                refine SO.v rfl (opv_move rfl) ?_
                refine SO.v rfl (opv_add rfl rfl) ?_
                refine SO.v rfl (opv_assign rfl) ?_
                refine SO.nil ?_
                refine S.b2 ?_
                refine S.closeR ?_
                refine S.b3 ?_
                refine S.closeR ?_
                refine S.b2 ?_
                refine S.drop ?_
                refine S.b3 ?_
                refine S.drop ?_
                refine S.b4 ?_
                refine S.drop ?_
                refine S.b4 ?_
                refine S.b3 ?_
                refine S.b4 ?_
                refine S.b4 ?_
                refine S.b4 ?_
                refine S.to ?_ (ih1 ((w64 (x9_1 + 1), y8_0_2, y8_1_2, y8_2_2, y8_3_2, s108), (vy8_0_2, vy8_1_2)) h)
                exact ⟨rfl, rfl, rfl, rfl, rfl, rfl, rfl, rfl, trivial⟩
      · replace h := cond_f b23 h
        refine S.condF rfl b23 ?_
        refine S.exit rfl ?_
        cases h
        refine S.b4 ?_
        refine S.b4 ?_
        refine S.b2 ?_
        refine S.b4 ?_
        refine S.b4 ?_
        refine S.to ?_ (hK1.2 (y8_0_1, y8_1_1, y8_2_1, y8_3_1, qv20_1) (vy8_0_1, vy8_1_1) rfl)
        exact ⟨rfl, rfl, rfl, rfl, trivial⟩
    refine ⟨fun r' e' => ?_, ?_⟩
    · subst e'
      have h9 := Brk.of_ret h
      exact h9
    rintro ⟨y8_0_e1, y8_1_e1, y8_2_e1, y8_3_e1, qv20_e1⟩ ⟨vy8_0_e1, vy8_1_e1⟩ e'
    subst e'
    replace h := Brk.of_nx h
    refine S.b2 ?_
    refine S.rd fun hr142 => ?_
    refine S.seq ?_
    refine S.region ?_
    refine SO.v rfl (opv_move rfl) ?_
    refine SO.v rfl (opv_iface Try.underlying25 rfl rfl) ?_
    obtain ⟨⟨⟨t143, t144⟩, s146⟩, ht145, h⟩ := opt_bind h
    refine SO.call (pre := [(plainV v20).rep _]) rfl Try.call25 rfl rfl rfl (ntfn_Poll.ct (plainV v20) _ _ _ _ _ ht145) trivial ?_
    rintro _ _ ⟨rfl, rfl⟩
    refine headEq (plainV_rep _ _) ?_
    refine SO.rd fun hr147 => ?_
    refine SO.v rfl (opv_move rfl) ?_
    refine SO.v rfl (opv_extract rfl rfl) ?_
    refine SO.v rfl (opv_extract rfl rfl) ?_
    refine SO.alloc rfl Try.zeroValue45 rfl (fun b148 => ?_)
    refine SO.storeN Try.sizeOf45 rfl rfl rfl rfl rfl rfl ?_
    refine SO.v rfl (opv_assign rfl) ?_
    refine SO.nil ?_
    refine S.to (ρ' := [(4, .bool false), (5, .bool t1), (7, v20), (8, .int .i64 (w64 (a0 + 4))), (23, errV 59 t144)]) ⟨rfl, rfl, rfl, rfl, rfl, trivial⟩ ?_
    refine S.seq ?_
    refine S.region ?_
    refine SO.v rfl (opv_move rfl) ?_
    refine SO.v rfl (opv_iface Try.underlying25 rfl rfl) ?_
    refine SO.v rfl (opv_move rfl) ?_
    obtain ⟨⟨⟨t149, t150, t151⟩, s153⟩, ht152, h⟩ := opt_bind h
    refine SO.b1 ?_
    refine SO.call (pre := [(plainV v20).rep _]) rfl Try.call18 rfl rfl rfl (ntfn_Wait.ct (plainV v20) _ _ _ _ _ _ _ ht152) trivial ?_
    rintro _ _ ⟨rfl, rfl⟩
    refine headEq (plainV_rep _ _) ?_
    refine SO.rd fun hr154 => ?_
    refine SO.v rfl (opv_move rfl) ?_
    refine SO.v rfl (opv_extract rfl rfl) ?_
    refine SO.v rfl (opv_extract rfl rfl) ?_
    refine SO.v rfl (opv_extract rfl rfl) ?_
    refine SO.alloc rfl Try.zeroValue45 rfl (fun b155 => ?_)
    refine SO.storeN Try.sizeOf45 rfl rfl rfl rfl rfl rfl ?_
    refine SO.v rfl (opv_assign rfl) ?_
    refine SO.v rfl (opv_assign rfl) ?_
    refine SO.nil ?_
    refine S.to (ρ' := [(4, .bool false), (5, .bool t1), (23, errV 59 t144), (26, errV 59 t151)]) ⟨rfl, rfl, rfl, rfl, trivial⟩ ?_
    refine S.seq ?_
    refine S.region ?_
    refine SO.v rfl (opv_move rfl) ?_
    refine SO.v rfl (opv_move rfl) ?_
    refine SO.cut 4 159 (.bool (t1 && (t144 == some 2))) [Box b155 [.int .i64 t149.Code, .int .i64 t149.Word, .int .i64 t149.Badge], Own 63 (ekI .u64) v20 s153, Box b148 [.int .i64 t143.Code, .int .i64 t143.Word, .int .i64 t143.Badge], OwnR 70 kr_ref10_Obj vy8_1_e1 y8_1_e1, OwnR 77 kr_ref10_Slot vy8_0_e1 y8_0_e1, Box b8 [vy8_0_e1, vy8_1_e1, .int .i64 y8_2_e1, .int .i64 y8_3_e1], F] (fun l2 hk2 => ?_) ?_
    · rcases bool_or t1 with b156 | b156
      · refine SO.takeT rfl rfl rfl b156 ?_
        refine SO.v rfl (opv_move rfl) ?_
        refine SO.takeT rfl rfl rfl b156 ?_
        refine SO.v rfl (opv_iface Try.underlying59 rfl rfl) ?_
        refine SO.takeT rfl rfl rfl b156 ?_
        refine SO.v rfl (opv_eqlE (e := t144) (c := 2) Try.underlying33 Try.underlying59 inf59 rfl rfl rfl) ?_
        refine SO.v rfl (opv_pick_t' b156 rfl rfl) ?_
        refine SO.b6 ?_
        refine SO.b6 ?_
        refine SO.b6 ?_
        refine SO.b6 ?_
        refine SO.b6 ?_
        refine SO.b6 ?_
        refine SO.b6 ?_
        exact hk2.fitc (m := 4) rfl (and_t b156) rfl
      · refine SO.passF rfl rfl rfl b156 rfl rfl ?_
        refine SO.passF rfl rfl rfl b156 rfl rfl ?_
        refine SO.passF rfl rfl rfl b156 rfl rfl ?_
        refine SO.v rfl (opv_pick_f' b156 rfl rfl) ?_
        refine SO.b6 ?_
        refine SO.b6 ?_
        refine SO.b6 ?_
        refine SO.b6 ?_
        refine SO.b6 ?_
        refine SO.b6 ?_
        refine SO.b6 ?_
        exact hk2.fitc (m := 4) rfl (and_f b156) rfl
    refine SO.v rfl (opv_move rfl) ?_
    refine SO.cut 4 164 (.bool ((t1 && (t144 == some 2)) && (t151 == some 2))) [Box b155 [.int .i64 t149.Code, .int .i64 t149.Word, .int .i64 t149.Badge], Own 63 (ekI .u64) v20 s153, Box b148 [.int .i64 t143.Code, .int .i64 t143.Word, .int .i64 t143.Badge], OwnR 70 kr_ref10_Obj vy8_1_e1 y8_1_e1, OwnR 77 kr_ref10_Slot vy8_0_e1 y8_0_e1, Box b8 [vy8_0_e1, vy8_1_e1, .int .i64 y8_2_e1, .int .i64 y8_3_e1], F] (fun l2 hk2 => ?_) ?_
    · rcases bool_or (t1 && (t144 == some 2)) with b157 | b157
      · refine SO.takeT rfl rfl rfl b157 ?_
        refine SO.v rfl (opv_move rfl) ?_
        refine SO.takeT rfl rfl rfl b157 ?_
        refine SO.v rfl (opv_iface Try.underlying59 rfl rfl) ?_
        refine SO.takeT rfl rfl rfl b157 ?_
        refine SO.v rfl (opv_eqlE (e := t151) (c := 2) Try.underlying33 Try.underlying59 inf59 rfl rfl rfl) ?_
        refine SO.v rfl (opv_pick_t' b157 rfl rfl) ?_
        refine SO.b6 ?_
        refine SO.b6 ?_
        refine SO.b6 ?_
        refine SO.b6 ?_
        refine SO.b6 ?_
        refine SO.b6 ?_
        refine SO.b6 ?_
        exact hk2.fitc (m := 4) rfl (and_t b157) rfl
      · refine SO.passF rfl rfl rfl b157 rfl rfl ?_
        refine SO.passF rfl rfl rfl b157 rfl rfl ?_
        refine SO.passF rfl rfl rfl b157 rfl rfl ?_
        refine SO.v rfl (opv_pick_f' b157 rfl rfl) ?_
        refine SO.b6 ?_
        refine SO.b6 ?_
        refine SO.b6 ?_
        refine SO.b6 ?_
        refine SO.b6 ?_
        refine SO.b6 ?_
        refine SO.b6 ?_
        exact hk2.fitc (m := 4) rfl (and_f b157) rfl
    refine SO.v rfl (opv_assign rfl) ?_
    refine SO.nil ?_
    refine S.to (ρ' := [(4, .bool ((t1 && (t144 == some 2)) && (t151 == some 2)))]) ⟨rfl, trivial⟩ ?_
    cases h
    refine S.drop ?_
    refine S.drop ?_
    refine S.drop ?_
    refine S.drop ?_
    refine S.drop ?_
    refine S.drop ?_
    exact S.ret1 Try.func5 rfl rfl (fun w hs hk => hR w _ _ ⟨rfl, rfl⟩ hs hk)
end Go.Proofs
namespace Go.Proofs
open Go.Sl Go.RowKit
/-! 27 padstone/endp.State -/
def endp_State.f (a1 : Int) : VM (Int) :=
  (lay_Field.f a1 1).bind fun t1 => VM.ret t1
set_option maxHeartbeats 8000000 in
set_option maxRecDepth 100000 in
theorem endp_State.ct (V : VW Try.prog) (a1 : Int) (r0 : Int) (s s' : V.S) (h : VM.run V.toVI (endp_State.f a1) s = some (r0, s')) :
    Ct Try.prog 27 [V.val, .int .i64 a1] (fun _ => True) [V.rep s] (fun u H' => u = .int .i64 r0 ∧ H' = [V.rep s']) := by
  unfold endp_State.f at h
  refine Ct.intro (n := 8) Try.func27 rfl rfl rfl ?_
  intro R w0 F hF hR
  refine S.seq ?_
  refine S.region ?_
  refine SO.v rfl (opv_assign rfl) ?_
  refine SO.nil ?_
  refine S.seq ?_
  refine S.region ?_
  refine SO.v rfl (opv_move rfl) ?_
  refine SO.v rfl (opv_move rfl) ?_
  obtain ⟨t1, s3, ht2, h⟩ := VM.bind_some V.toVI h
  refine SO.call (pre := [V.rep _]) rfl Try.call34 rfl rfl rfl (lay_Field.ct V _ _ _ _ _ ht2) trivial ?_
  rintro _ _ ⟨rfl, rfl⟩
  refine SO.v rfl (opv_assign rfl) ?_
  refine SO.nil ?_
  obtain ⟨hq, rfl⟩ := VM.ret_some V.toVI h
  cases hq
  refine S.b1 ?_
  refine S.b1 ?_
  exact S.ret1 Try.func27 rfl rfl (fun w hs hk => hR w _ _ ⟨rfl, rfl⟩ hs hk)
end Go.Proofs
