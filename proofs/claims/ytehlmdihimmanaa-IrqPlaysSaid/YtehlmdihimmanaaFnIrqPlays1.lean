/- What the functions that IrqPlays reaches come to, and that they do. On no condition. -/
import Derived.Test.YtehlmdihimmanaaFnIrqPlays0
set_option linter.all false
namespace Go.Proofs
open Go.Sl Go.RowKit
/-! 9 (*padstone/padstoneref10.State).Words -/
def ref10_State_Words.l2 (x4_1 : Int) (x11 : ref10_Slot) : Nat → (Int × (List Int)) → Option ((Int × Int × Bool × (List Int)))
  | 0, _ => none
  | k + 1, (x6_2, qv5_2) => bif decide (x6_2 < (x11.Kids.length : Int)) then ((at_ x11.Kids x6_2).bind fun x30 => (bif x6_2 == 0 then ((at_ qv5_2 (w64 ((w64 (5 * x4_1)) + 2))).bind fun x33 => some (qv5_2.set (w64 ((w64 (5 * x4_1)) + 2)).toNat (wu64 (w64 (x30 + 1))))) else ((at_ x11.Kids (w64 (x6_2 - 1))).bind fun x36 => (at_ qv5_2 (w64 ((w64 (5 * x30)) + 4))).bind fun x38 => some (qv5_2.set (w64 ((w64 (5 * x30)) + 4)).toNat (wu64 (w64 (x36 + 1)))))).bind fun qv5_3 => bif decide ((w64 (x6_2 + 1)) < (x11.Kids.length : Int)) then ((at_ x11.Kids (w64 (x6_2 + 1))).bind fun x43 => (at_ qv5_3 (w64 ((w64 (5 * x30)) + 3))).bind fun x45 => ref10_State_Words.l2 x4_1 x11 k (w64 (x6_2 + 1), qv5_3.set (w64 ((w64 (5 * x30)) + 3)).toNat (wu64 (w64 (x43 + 1))))) else (ref10_State_Words.l2 x4_1 x11 k (w64 (x6_2 + 1), qv5_3))) else (some (x6_2, x6_2, decide (x6_2 < (x11.Kids.length : Int)), qv5_2))
def ref10_State_Words.l1 (a0 : ref10_State) : Nat → (Int × (List Int)) → Option ((List Int))
  | 0, _ => none
  | k + 1, (x4_1, qv5_1) => bif decide (x4_1 < 96) then ((at_ a0.Slots x4_1).bind fun x11 => (ref01_Word.f x11.Cap).bind fun t20 => (at_ qv5_1 (w64 (5 * x4_1))).bind fun x22 => (at_ (qv5_1.set (w64 (5 * x4_1)).toNat t20) (w64 ((w64 (5 * x4_1)) + 1))).bind fun x25 => (ref10_State_Words.l2 x4_1 x11 k (0, (qv5_1.set (w64 (5 * x4_1)).toNat t20).set (w64 ((w64 (5 * x4_1)) + 1)).toNat (wu64 (w64 (x11.Parent + 1))))).bind fun (j6_e2, j42_e2, j46_e2, qv5_e2) => ref10_State_Words.l1 a0 k (w64 (x4_1 + 1), qv5_e2)) else (some qv5_1)
def ref10_State_Words.l6 (x8_4 : Int) (x52 : ref10_Obj) : Nat → (Int × (List Int)) → Option ((Int × Int × Bool × (List Int)))
  | 0, _ => none
  | k + 1, (x11_6, qv5_6) => bif decide (x11_6 < 4) then ((A4.get x52.Pages x11_6).bind fun x123 => bif decide (0 ≤ x123) then ((A4.get x52.Pages x11_6).bind fun x126 => (A4.get x52.Right x11_6).bind fun x128 => (at_ qv5_6 (w64 ((w64 ((w64 (480 + (w64 (8 * x8_4)))) + 1)) + x11_6))).bind fun x130 => ref10_State_Words.l6 x8_4 x52 k (w64 (x11_6 + 1), qv5_6.set (w64 ((w64 ((w64 (480 + (w64 (8 * x8_4)))) + 1)) + x11_6)).toNat (wu64 (w64 ((w64 (8 * (w64 (x126 + 1)))) + x128))))) else (ref10_State_Words.l6 x8_4 x52 k (w64 (x11_6 + 1), qv5_6))) else (some (x11_6, x11_6, decide (x11_6 < 4), qv5_6))
def ref10_State_Words.l7 (x8_4 : Int) (x52 : ref10_Obj) : Nat → (Int × (List Int)) → Option ((Int × Int × Bool × (List Int)))
  | 0, _ => none
  | k + 1, (x12_7, qv5_7) => bif decide (x12_7 < (x52.Queue.length : Int)) then ((at_ x52.Queue x12_7).bind fun x148 => (bif x12_7 == 0 then ((at_ qv5_7 (w64 ((w64 (480 + (w64 (8 * x8_4)))) + 2))).bind fun x151 => some (qv5_7.set (w64 ((w64 (480 + (w64 (8 * x8_4)))) + 2)).toNat (wu64 (w64 (x148 + 1))))) else (some qv5_7)).bind fun qv5_8 => bif decide ((w64 (x12_7 + 1)) < (x52.Queue.length : Int)) then ((at_ x52.Queue (w64 (x12_7 + 1))).bind fun x156 => (at_ qv5_8 (w64 ((w64 (480 + (w64 (8 * x148)))) + 2))).bind fun x158 => ref10_State_Words.l7 x8_4 x52 k (w64 (x12_7 + 1), qv5_8.set (w64 ((w64 (480 + (w64 (8 * x148)))) + 2)).toNat (wu64 (w64 (x156 + 1))))) else ((at_ qv5_8 (w64 ((w64 (480 + (w64 (8 * x8_4)))) + 3))).bind fun x161 => ref10_State_Words.l7 x8_4 x52 k (w64 (x12_7 + 1), qv5_8.set (w64 ((w64 (480 + (w64 (8 * x8_4)))) + 3)).toNat (wu64 (w64 (x148 + 1)))))) else (some (x12_7, x12_7, decide (x12_7 < (x52.Queue.length : Int)), qv5_7))
def ref10_State_Words.l4 (a0 : ref10_State) : Nat → (Int × (List Int)) → Option ((List Int))
  | 0, _ => none
  | k + 1, (x8_4, qv5_4) => bif decide (x8_4 < 32) then ((at_ a0.Objs x8_4).bind fun x52 => (at_ qv5_4 (w64 (480 + (w64 (8 * x8_4))))).bind fun x61 => (bif x52.Kind == 1 then ((at_ (qv5_4.set (w64 (480 + (w64 (8 * x8_4)))).toNat (wu64 x52.Kind)) (w64 ((w64 (480 + (w64 (8 * x8_4)))) + 1))).bind fun x65 => (at_ ((qv5_4.set (w64 (480 + (w64 (8 * x8_4)))).toNat (wu64 x52.Kind)).set (w64 ((w64 (480 + (w64 (8 * x8_4)))) + 1)).toNat (wu64 x52.Size)) (w64 ((w64 (480 + (w64 (8 * x8_4)))) + 2))).bind fun x68 => some (((qv5_4.set (w64 (480 + (w64 (8 * x8_4)))).toNat (wu64 x52.Kind)).set (w64 ((w64 (480 + (w64 (8 * x8_4)))) + 1)).toNat (wu64 x52.Size)).set (w64 ((w64 (480 + (w64 (8 * x8_4)))) + 2)).toNat (wu64 x52.Used))) else (bif x52.Kind == 2 then ((at_ (qv5_4.set (w64 (480 + (w64 (8 * x8_4)))).toNat (wu64 x52.Kind)) (w64 ((w64 (480 + (w64 (8 * x8_4)))) + 1))).bind fun x72 => (at_ ((qv5_4.set (w64 (480 + (w64 (8 * x8_4)))).toNat (wu64 x52.Kind)).set (w64 ((w64 (480 + (w64 (8 * x8_4)))) + 1)).toNat (wu64 x52.First)) (w64 ((w64 (480 + (w64 (8 * x8_4)))) + 2))).bind fun x75 => some (((qv5_4.set (w64 (480 + (w64 (8 * x8_4)))).toNat (wu64 x52.Kind)).set (w64 ((w64 (480 + (w64 (8 * x8_4)))) + 1)).toNat (wu64 x52.First)).set (w64 ((w64 (480 + (w64 (8 * x8_4)))) + 2)).toNat (wu64 x52.Radix))) else (bif x52.Kind == 3 then ((at_ (qv5_4.set (w64 (480 + (w64 (8 * x8_4)))).toNat (wu64 x52.Kind)) (w64 ((w64 (480 + (w64 (8 * x8_4)))) + 1))).bind fun x79 => some ((qv5_4.set (w64 (480 + (w64 (8 * x8_4)))).toNat (wu64 x52.Kind)).set (w64 ((w64 (480 + (w64 (8 * x8_4)))) + 1)).toNat (wu64 x52.Wait))) else (bif x52.Kind == 4 then ((at_ (qv5_4.set (w64 (480 + (w64 (8 * x8_4)))).toNat (wu64 x52.Kind)) (w64 ((w64 (480 + (w64 (8 * x8_4)))) + 1))).bind fun x83 => some ((qv5_4.set (w64 (480 + (w64 (8 * x8_4)))).toNat (wu64 x52.Kind)).set (w64 ((w64 (480 + (w64 (8 * x8_4)))) + 1)).toNat (wu64 x52.Word))) else (bif x52.Kind == 5 then ((at_ (qv5_4.set (w64 (480 + (w64 (8 * x8_4)))).toNat (wu64 x52.Kind)) (w64 ((w64 (480 + (w64 (8 * x8_4)))) + 1))).bind fun x87 => (at_ ((qv5_4.set (w64 (480 + (w64 (8 * x8_4)))).toNat (wu64 x52.Kind)).set (w64 ((w64 (480 + (w64 (8 * x8_4)))) + 1)).toNat (wu64 x52.State)) (w64 ((w64 (480 + (w64 (8 * x8_4)))) + 2))).bind fun x90 => (at_ ((qv5_4.set (w64 (480 + (w64 (8 * x8_4)))).toNat (wu64 x52.Kind)).set (w64 ((w64 (480 + (w64 (8 * x8_4)))) + 1)).toNat (wu64 x52.State)) (w64 ((w64 (480 + (w64 (8 * x8_4)))) + 2))).bind fun x92 => (at_ (((qv5_4.set (w64 (480 + (w64 (8 * x8_4)))).toNat (wu64 x52.Kind)).set (w64 ((w64 (480 + (w64 (8 * x8_4)))) + 1)).toNat (wu64 x52.State)).set (w64 ((w64 (480 + (w64 (8 * x8_4)))) + 2)).toNat (wu64 (x90 + (wu64 (w64 (x52.Owing + 1)))))) (w64 ((w64 (480 + (w64 (8 * x8_4)))) + 3))).bind fun x96 => (at_ ((((qv5_4.set (w64 (480 + (w64 (8 * x8_4)))).toNat (wu64 x52.Kind)).set (w64 ((w64 (480 + (w64 (8 * x8_4)))) + 1)).toNat (wu64 x52.State)).set (w64 ((w64 (480 + (w64 (8 * x8_4)))) + 2)).toNat (wu64 (x90 + (wu64 (w64 (x52.Owing + 1)))))).set (w64 ((w64 (480 + (w64 (8 * x8_4)))) + 3)).toNat (wu64 x52.Word)) (w64 ((w64 (480 + (w64 (8 * x8_4)))) + 4))).bind fun x99 => (at_ (((((qv5_4.set (w64 (480 + (w64 (8 * x8_4)))).toNat (wu64 x52.Kind)).set (w64 ((w64 (480 + (w64 (8 * x8_4)))) + 1)).toNat (wu64 x52.State)).set (w64 ((w64 (480 + (w64 (8 * x8_4)))) + 2)).toNat (wu64 (x90 + (wu64 (w64 (x52.Owing + 1)))))).set (w64 ((w64 (480 + (w64 (8 * x8_4)))) + 3)).toNat (wu64 x52.Word)).set (w64 ((w64 (480 + (w64 (8 * x8_4)))) + 4)).toNat (wu64 x52.Badge)) (w64 ((w64 (480 + (w64 (8 * x8_4)))) + 5))).bind fun x102 => (at_ ((((((qv5_4.set (w64 (480 + (w64 (8 * x8_4)))).toNat (wu64 x52.Kind)).set (w64 ((w64 (480 + (w64 (8 * x8_4)))) + 1)).toNat (wu64 x52.State)).set (w64 ((w64 (480 + (w64 (8 * x8_4)))) + 2)).toNat (wu64 (x90 + (wu64 (w64 (x52.Owing + 1)))))).set (w64 ((w64 (480 + (w64 (8 * x8_4)))) + 3)).toNat (wu64 x52.Word)).set (w64 ((w64 (480 + (w64 (8 * x8_4)))) + 4)).toNat (wu64 x52.Badge)).set (w64 ((w64 (480 + (w64 (8 * x8_4)))) + 5)).toNat (wu64 (w64 (x52.Prio + (w64 (256 * (w64 (x52.On + 1)))))))) (w64 ((w64 (480 + (w64 (8 * x8_4)))) + 6))).bind fun x105 => (ref01_Word.f x52.Root).bind fun t108 => (at_ (((((((qv5_4.set (w64 (480 + (w64 (8 * x8_4)))).toNat (wu64 x52.Kind)).set (w64 ((w64 (480 + (w64 (8 * x8_4)))) + 1)).toNat (wu64 x52.State)).set (w64 ((w64 (480 + (w64 (8 * x8_4)))) + 2)).toNat (wu64 (x90 + (wu64 (w64 (x52.Owing + 1)))))).set (w64 ((w64 (480 + (w64 (8 * x8_4)))) + 3)).toNat (wu64 x52.Word)).set (w64 ((w64 (480 + (w64 (8 * x8_4)))) + 4)).toNat (wu64 x52.Badge)).set (w64 ((w64 (480 + (w64 (8 * x8_4)))) + 5)).toNat (wu64 (w64 (x52.Prio + (w64 (256 * (w64 (x52.On + 1)))))))).set (w64 ((w64 (480 + (w64 (8 * x8_4)))) + 6)).toNat (wu64 (w64 (x52.Owes + 1)))) (w64 ((w64 (480 + (w64 (8 * x8_4)))) + 7))).bind fun x110 => some ((((((((qv5_4.set (w64 (480 + (w64 (8 * x8_4)))).toNat (wu64 x52.Kind)).set (w64 ((w64 (480 + (w64 (8 * x8_4)))) + 1)).toNat (wu64 x52.State)).set (w64 ((w64 (480 + (w64 (8 * x8_4)))) + 2)).toNat (wu64 (x90 + (wu64 (w64 (x52.Owing + 1)))))).set (w64 ((w64 (480 + (w64 (8 * x8_4)))) + 3)).toNat (wu64 x52.Word)).set (w64 ((w64 (480 + (w64 (8 * x8_4)))) + 4)).toNat (wu64 x52.Badge)).set (w64 ((w64 (480 + (w64 (8 * x8_4)))) + 5)).toNat (wu64 (w64 (x52.Prio + (w64 (256 * (w64 (x52.On + 1)))))))).set (w64 ((w64 (480 + (w64 (8 * x8_4)))) + 6)).toNat (wu64 (w64 (x52.Owes + 1)))).set (w64 ((w64 (480 + (w64 (8 * x8_4)))) + 7)).toNat t108)) else (bif x52.Kind == 6 then ((at_ (qv5_4.set (w64 (480 + (w64 (8 * x8_4)))).toNat (wu64 x52.Kind)) (w64 ((w64 (480 + (w64 (8 * x8_4)))) + 1))).bind fun x114 => (at_ ((qv5_4.set (w64 (480 + (w64 (8 * x8_4)))).toNat (wu64 x52.Kind)).set (w64 ((w64 (480 + (w64 (8 * x8_4)))) + 1)).toNat (wu64 (w64 (x52.In + 1)))) (w64 ((w64 (480 + (w64 (8 * x8_4)))) + 2))).bind fun x117 => some (((qv5_4.set (w64 (480 + (w64 (8 * x8_4)))).toNat (wu64 x52.Kind)).set (w64 ((w64 (480 + (w64 (8 * x8_4)))) + 1)).toNat (wu64 (w64 (x52.In + 1)))).set (w64 ((w64 (480 + (w64 (8 * x8_4)))) + 2)).toNat (wu64 x52.Page))) else (bif x52.Kind == 7 then ((ref10_State_Words.l6 x8_4 x52 k (0, qv5_4.set (w64 (480 + (w64 (8 * x8_4)))).toNat (wu64 x52.Kind))).bind fun (j11_e6, j251_e6, j252_e6, qv5_e6) => some qv5_e6) else (bif x52.Kind == 8 then ((at_ (qv5_4.set (w64 (480 + (w64 (8 * x8_4)))).toNat (wu64 x52.Kind)) (w64 ((w64 (480 + (w64 (8 * x8_4)))) + 1))).bind fun x136 => (at_ ((qv5_4.set (w64 (480 + (w64 (8 * x8_4)))).toNat (wu64 x52.Kind)).set (w64 ((w64 (480 + (w64 (8 * x8_4)))) + 1)).toNat (wu64 (w64 (x52.Bound + 1)))) (w64 ((w64 (480 + (w64 (8 * x8_4)))) + 2))).bind fun x139 => (at_ (((qv5_4.set (w64 (480 + (w64 (8 * x8_4)))).toNat (wu64 x52.Kind)).set (w64 ((w64 (480 + (w64 (8 * x8_4)))) + 1)).toNat (wu64 (w64 (x52.Bound + 1)))).set (w64 ((w64 (480 + (w64 (8 * x8_4)))) + 2)).toNat (wu64 x52.Badge)) (w64 ((w64 (480 + (w64 (8 * x8_4)))) + 3))).bind fun x142 => some ((((qv5_4.set (w64 (480 + (w64 (8 * x8_4)))).toNat (wu64 x52.Kind)).set (w64 ((w64 (480 + (w64 (8 * x8_4)))) + 1)).toNat (wu64 (w64 (x52.Bound + 1)))).set (w64 ((w64 (480 + (w64 (8 * x8_4)))) + 2)).toNat (wu64 x52.Badge)).set (w64 ((w64 (480 + (w64 (8 * x8_4)))) + 3)).toNat (wu64 x52.Mask))) else (some (qv5_4.set (w64 (480 + (w64 (8 * x8_4)))).toNat (wu64 x52.Kind))))))))))).bind fun qv5_5 => (ref10_State_Words.l7 x8_4 x52 k (0, qv5_5)).bind fun (j12_e7, j302_e7, j306_e7, qv5_e7) => ref10_State_Words.l4 a0 k (w64 (x8_4 + 1), qv5_e7)) else (some qv5_4)
def ref10_State_Words.f (k : Nat) (a0 : ref10_State) : Option ((List Int)) :=
  (mk_ 0 738).bind fun xs7 => (ref10_State_Words.l1 a0 k (0, xs7)).bind fun qv5_e1 => (ref10_State_Words.l4 a0 k (0, qv5_e1)).bind fun qv5_e4 => (at_ qv5_e4 736).bind fun x166 => (at_ (qv5_e4.set (736 : Int).toNat (wu64 a0.NS)) 737).bind fun x169 => some ((qv5_e4.set (736 : Int).toNat (wu64 a0.NS)).set (737 : Int).toNat (wu64 a0.NO))
set_option maxHeartbeats 8000000 in
set_option maxRecDepth 100000 in
theorem ref10_State_Words.ct (k : Nat) (bp0 : Nat) (v0_Slots : Value) (v0_Objs : Value) (raws_v0_Slots : List (Raw (kr_ref10_Slot).sz)) (A_v0_Slots : HProp) (raws_v0_Objs : List (Raw (kr_ref10_Obj).sz)) (A_v0_Objs : HProp) (a0 : ref10_State) (r0 : List Int) (h : ref10_State_Words.f k a0 = some r0) :
    Ct Try.prog 9 [bp bp0 0] (fun _ => True) [Box bp0 [v0_Slots, v0_Objs, .int .i64 a0.NS, .int .i64 a0.NO], OwnO 77 kr_ref10_Slot v0_Slots raws_v0_Slots A_v0_Slots a0.Slots, OwnO 70 kr_ref10_Obj v0_Objs raws_v0_Objs A_v0_Objs a0.Objs] (fun u H' => ∃ v_r0, u = v_r0 ∧ H' = [Own 63 (ekI .u64) v_r0 r0, Box bp0 [v0_Slots, v0_Objs, .int .i64 a0.NS, .int .i64 a0.NO], OwnO 77 kr_ref10_Slot v0_Slots raws_v0_Slots A_v0_Slots a0.Slots, OwnO 70 kr_ref10_Obj v0_Objs raws_v0_Objs A_v0_Objs a0.Objs]) := by
  unfold ref10_State_Words.f at h
  refine Ct.intro (n := 365) Try.func9 rfl rfl rfl ?_
  intro R w0 F hF hR
  refine S.b1 ?_
  refine S.rdO fun hrel1 hR2 => ?_
  refine S.b2 ?_
  refine S.rdO fun hrel3 hR4 => ?_
  refine S.seq ?_
  refine S.region ?_
  refine SO.v rfl (opv_assign rfl) ?_
  refine SO.nil ?_
  refine S.seq ?_
  refine S.region ?_
  obtain ⟨xs7, hx8, h⟩ := opt_bind h
  refine SO.makeSlice (K := ekI .u64) rfl Try.underlying24 inf63 rfl rfl rfl (by decide) rfl rfl rfl hx8 (fun v5 hr6 => ?_)
  refine SO.v rfl (opv_assign rfl) ?_
  refine SO.nil ?_
  refine S.seq ?_
  refine S.seq ?_
  refine S.region ?_
  refine SO.v rfl (opv_assign rfl) ?_
  refine SO.nil ?_
  obtain ⟨qv5_e1, hl1, h⟩ := opt_bind h
  refine S.b4 ?_
  refine S.b4 ?_
  refine S.b4 ?_
  refine S.b4 ?_
  refine S.b4 ?_
  refine S.to (ρ' := [(4, .int .i64 0), (3, v5), (2, .slice none 0 0), (0, bp bp0 0)]) ⟨rfl, rfl, rfl, rfl, trivial⟩ ?_
  refine S.forloop (X := (Int × (List Int)) × Unit) (O := (List Int)) (fun m x => ref10_State_Words.l1 a0 m x.1) (fun x => match x with | ((x4_1, qv5_1), _) => [(4, .int .i64 x4_1), (3, v5), (2, .slice none 0 0), (0, bp bp0 0)]) (fun x => match x with | ((x4_1, qv5_1), _) => [Own 63 (ekI .u64) v5 qv5_1, OwnO 70 kr_ref10_Obj v0_Objs raws_v0_Objs A_v0_Objs a0.Objs, OwnO 77 kr_ref10_Slot v0_Slots raws_v0_Slots A_v0_Slots a0.Slots, Box bp0 [v0_Slots, v0_Objs, .int .i64 a0.NS, .int .i64 a0.NO], F]) (fun Sk => (fun qv5_e1 => ∀ _ : Unit, Sk [(0, bp bp0 0), (2, .slice none 0 0), (3, v5)] [Own 63 (ekI .u64) v5 qv5_e1, OwnO 70 kr_ref10_Obj v0_Objs raws_v0_Objs A_v0_Objs a0.Objs, OwnO 77 kr_ref10_Slot v0_Slots raws_v0_Slots A_v0_Slots a0.Slots, Box bp0 [v0_Slots, v0_Objs, .int .i64 a0.NS, .int .i64 a0.NO], F])) (fun _ => rfl) ?_ (m := k) (x := ((0, xs7), ())) hl1 ?_
  · clear h hl1
    intro k x o_1 h hK1 ih1
    obtain ⟨⟨x4_1, qv5_1⟩, _⟩ := x
    replace h : ref10_State_Words.l1 a0 (k + 1) (x4_1, qv5_1) = some o_1 := h
    first | rw [ref10_State_Words.l1] at h | unfold ref10_State_Words.l1 at h
    refine S.rd fun hr9 => ?_
    refine S.seq ?_
    refine S.seq ?_
    refine S.region ?_
    refine SO.v rfl (opv_move rfl) ?_
    refine SO.v rfl (opv_lss rfl rfl) ?_
    refine SO.nil ?_
    rcases bool_or (decide (x4_1 < 96)) with b10 | b10
    · replace h := cond_t b10 h
      refine S.condT rfl b10 ?_
      refine S.skip ?_
      refine S.seq ?_
      refine S.block ?_
      refine S.seq ?_
      refine S.region ?_
      refine SO.v rfl (opv_move rfl) ?_
      refine SO.v rfl (opv_nilCheck rfl) ?_
      refine SO.v rfl (opv_fieldAddr Try.underlying75 rfl Try.sizeOf72 rfl rfl) ?_
      refine SO.b3 ?_
      refine SO.load1 rfl Try.isAgg72 rfl rfl ?_
      refine SO.v rfl (opv_move rfl) ?_
      obtain ⟨x11, hx12, h⟩ := opt_bind h
      obtain ⟨r13, hr14, hc15⟩ := relR.at hrel1 hx12
      refine SO.v rfl (opv_idx Try.underlying72 Try.sizeOf77 hR2 rfl rfl hr14) ?_
      refine hc15.rip fun u16 hru17 e18 => ?_
      refine SO.loadIN rfl Try.isAgg77 Try.sizeOf77 (Rd.tail (Rd.tail (Rd.tail (Rd.head hR2)))) hr14 rfl rfl e18 ?_
      refine SO.alloc rfl Try.zeroValue77 rfl (fun b19 => ?_)
      refine SO.storeN Try.sizeOf77 rfl rfl (all1 rfl (all1 rfl (all1 rfl (all1 rfl (all1 rfl (all1 rfl (all1 rfl (all1 (Rd.one hru17) rfl)))))))) rfl rfl rfl ?_
      refine SO.nil ?_
      refine S.seq ?_
      refine S.region ?_
      refine SO.v rfl (opv_move rfl) ?_
      refine SO.v rfl (opv_move rfl) ?_
      refine SO.v rfl (opv_mul rfl rfl) ?_
      refine SO.v rfl (opv_fieldAddr Try.underlying77 rfl Try.sizeOf66 rfl rfl) ?_
      refine SO.loadN rfl Try.isAgg66 Try.sizeOf66 rfl rfl rfl ?_
      obtain ⟨t20, ht21, h⟩ := opt_bind h
      refine SO.call (pre := []) rfl Try.call30 rfl rfl rfl (ref01_Word.ct _ _ ht21) trivial ?_
      rintro _ _ ⟨rfl, rfl⟩
      obtain ⟨x22, hx23, h⟩ := opt_bind h
      refine SO.v rfl (opv_idx Try.underlying24 Try.sizeOf63 hr9 rfl rfl hx23) ?_
      refine SO.b2 ?_
      refine SO.storeI1 (j := 0) (z' := t20) Try.sizeOf63 hx23 rfl rfl rfl rfl rfl rfl ?_
      refine SO.rd fun hr24 => ?_
      refine SO.nil ?_
      refine S.seq ?_
      refine S.region ?_
      refine SO.v rfl (opv_move rfl) ?_
      refine SO.v rfl (opv_move rfl) ?_
      refine SO.v rfl (opv_mul rfl rfl) ?_
      refine SO.v rfl (opv_add rfl rfl) ?_
      refine SO.v rfl (opv_fieldAddr Try.underlying77 rfl Try.sizeOf3 rfl rfl) ?_
      refine SO.b1 ?_
      refine SO.load1 rfl Try.isAgg3 rfl rfl ?_
      refine SO.v rfl (opv_add rfl rfl) ?_
      refine SO.v rfl (opv_conv Try.underlying3 Try.underlying63 rfl) ?_
      obtain ⟨x25, hx26, h⟩ := opt_bind h
      refine SO.v rfl (opv_idx Try.underlying24 Try.sizeOf63 hr24 rfl rfl hx26) ?_
      refine SO.b1 ?_
      refine SO.storeI1 (j := 0) (z' := wu64 (w64 (x11.Parent + 1))) Try.sizeOf63 hx26 rfl rfl rfl rfl rfl rfl ?_
      refine SO.rd fun hr27 => ?_
      refine SO.nil ?_
      refine S.seq ?_
      refine S.region ?_
      refine SO.v rfl (opv_assign rfl) ?_
      refine SO.nil ?_
      obtain ⟨⟨j6_e2, j42_e2, j46_e2, qv5_e2⟩, hl2, h⟩ := opt_bind h
      refine S.b5 ?_
      refine S.b5 ?_
      refine S.b5 ?_
      refine S.b5 ?_
      refine S.b5 ?_
      refine S.b5 ?_
      refine S.to (ρ' := [(6, .int .i64 0), (41, idxp v5 ((w64 ((w64 (5 * x4_1)) + 1)).toNat * (ekI .u64).sz)), (40, .int .u64 (wu64 (w64 (x11.Parent + 1)))), (39, .int .i64 (w64 (x11.Parent + 1))), (38, .int .i64 x11.Parent), (37, bp b19 6), (36, .int .i64 (w64 ((w64 (5 * x4_1)) + 1))), (35, .int .i64 (w64 (5 * x4_1))), (34, .int .i64 x4_1), (33, v5), (32, idxp v5 ((w64 (5 * x4_1)).toNat * (ekI .u64).sz)), (31, .int .u64 t20), (30, .agg #[.int .i64 x11.Cap.Kind, .int .i64 x11.Cap.Rights, .int .i64 x11.Cap.Obj, .int .i64 x11.Cap.Badge, .int .i64 x11.Cap.Guard, .int .i64 x11.Cap.Bits]), (29, bp b19 0), (28, .int .i64 (w64 (5 * x4_1))), (27, .int .i64 x4_1), (26, v5), (5, bp b19 0), (25, .agg #[.int .i64 x11.Cap.Kind, .int .i64 x11.Cap.Rights, .int .i64 x11.Cap.Obj, .int .i64 x11.Cap.Badge, .int .i64 x11.Cap.Guard, .int .i64 x11.Cap.Bits, .int .i64 x11.Parent, u16]), (24, idxp v0_Slots (x4_1.toNat * kr_ref10_Slot.sz)), (23, .int .i64 x4_1), (22, v0_Slots), (21, bp bp0 0), (20, bp bp0 0), (19, bp bp0 0), (16, .bool (decide (x4_1 < 96))), (15, .int .i64 x4_1), (4, .int .i64 x4_1), (3, v5), (2, .slice none 0 0), (0, bp bp0 0)]) ⟨rfl, rfl, rfl, rfl, rfl, rfl, rfl, rfl, rfl, rfl, rfl, rfl, rfl, rfl, rfl, rfl, rfl, rfl, rfl, rfl, rfl, rfl, rfl, rfl, rfl, rfl, rfl, rfl, rfl, rfl, rfl, trivial⟩ ?_
      refine S.forloop (X := (Int × (List Int)) × Unit) (O := (Int × Int × Bool × (List Int))) (fun m x => ref10_State_Words.l2 x4_1 x11 m x.1) (fun x => match x with | ((x6_2, qv5_2), _) => [(6, .int .i64 x6_2), (41, idxp v5 ((w64 ((w64 (5 * x4_1)) + 1)).toNat * (ekI .u64).sz)), (40, .int .u64 (wu64 (w64 (x11.Parent + 1)))), (39, .int .i64 (w64 (x11.Parent + 1))), (38, .int .i64 x11.Parent), (37, bp b19 6), (36, .int .i64 (w64 ((w64 (5 * x4_1)) + 1))), (35, .int .i64 (w64 (5 * x4_1))), (34, .int .i64 x4_1), (33, v5), (32, idxp v5 ((w64 (5 * x4_1)).toNat * (ekI .u64).sz)), (31, .int .u64 t20), (30, .agg #[.int .i64 x11.Cap.Kind, .int .i64 x11.Cap.Rights, .int .i64 x11.Cap.Obj, .int .i64 x11.Cap.Badge, .int .i64 x11.Cap.Guard, .int .i64 x11.Cap.Bits]), (29, bp b19 0), (28, .int .i64 (w64 (5 * x4_1))), (27, .int .i64 x4_1), (26, v5), (5, bp b19 0), (25, .agg #[.int .i64 x11.Cap.Kind, .int .i64 x11.Cap.Rights, .int .i64 x11.Cap.Obj, .int .i64 x11.Cap.Badge, .int .i64 x11.Cap.Guard, .int .i64 x11.Cap.Bits, .int .i64 x11.Parent, u16]), (24, idxp v0_Slots (x4_1.toNat * kr_ref10_Slot.sz)), (23, .int .i64 x4_1), (22, v0_Slots), (21, bp bp0 0), (20, bp bp0 0), (19, bp bp0 0), (16, .bool (decide (x4_1 < 96))), (15, .int .i64 x4_1), (4, .int .i64 x4_1), (3, v5), (2, .slice none 0 0), (0, bp bp0 0)]) (fun x => match x with | ((x6_2, qv5_2), _) => [Own 63 (ekI .u64) v5 qv5_2, Box b19 [.int .i64 x11.Cap.Kind, .int .i64 x11.Cap.Rights, .int .i64 x11.Cap.Obj, .int .i64 x11.Cap.Badge, .int .i64 x11.Cap.Guard, .int .i64 x11.Cap.Bits, .int .i64 x11.Parent, u16], Box bp0 [v0_Slots, v0_Objs, .int .i64 a0.NS, .int .i64 a0.NO], OwnO 70 kr_ref10_Obj v0_Objs raws_v0_Objs A_v0_Objs a0.Objs, OwnO 77 kr_ref10_Slot v0_Slots raws_v0_Slots A_v0_Slots a0.Slots, F]) (fun Sk => (fun x => match x with | (j6_e2, j42_e2, j46_e2, qv5_e2) => ∀ _ : Unit, Sk [(0, bp bp0 0), (2, .slice none 0 0), (3, v5), (4, .int .i64 x4_1), (5, bp b19 0), (6, .int .i64 j6_e2), (15, .int .i64 x4_1), (16, .bool (decide (x4_1 < 96))), (19, bp bp0 0), (20, bp bp0 0), (21, bp bp0 0), (22, v0_Slots), (23, .int .i64 x4_1), (24, idxp v0_Slots (x4_1.toNat * kr_ref10_Slot.sz)), (25, .agg #[.int .i64 x11.Cap.Kind, .int .i64 x11.Cap.Rights, .int .i64 x11.Cap.Obj, .int .i64 x11.Cap.Badge, .int .i64 x11.Cap.Guard, .int .i64 x11.Cap.Bits, .int .i64 x11.Parent, u16]), (26, v5), (27, .int .i64 x4_1), (28, .int .i64 (w64 (5 * x4_1))), (29, bp b19 0), (30, .agg #[.int .i64 x11.Cap.Kind, .int .i64 x11.Cap.Rights, .int .i64 x11.Cap.Obj, .int .i64 x11.Cap.Badge, .int .i64 x11.Cap.Guard, .int .i64 x11.Cap.Bits]), (31, .int .u64 t20), (32, idxp v5 ((w64 (5 * x4_1)).toNat * (ekI .u64).sz)), (33, v5), (34, .int .i64 x4_1), (35, .int .i64 (w64 (5 * x4_1))), (36, .int .i64 (w64 ((w64 (5 * x4_1)) + 1))), (37, bp b19 6), (38, .int .i64 x11.Parent), (39, .int .i64 (w64 (x11.Parent + 1))), (40, .int .u64 (wu64 (w64 (x11.Parent + 1)))), (41, idxp v5 ((w64 ((w64 (5 * x4_1)) + 1)).toNat * (ekI .u64).sz)), (42, .int .i64 j42_e2), (43, bp b19 7), (44, u16), (45, .int .i64 (x11.Kids.length : Int)), (46, .bool j46_e2)] [Own 63 (ekI .u64) v5 qv5_e2, Box b19 [.int .i64 x11.Cap.Kind, .int .i64 x11.Cap.Rights, .int .i64 x11.Cap.Obj, .int .i64 x11.Cap.Badge, .int .i64 x11.Cap.Guard, .int .i64 x11.Cap.Bits, .int .i64 x11.Parent, u16], Box bp0 [v0_Slots, v0_Objs, .int .i64 a0.NS, .int .i64 a0.NO], OwnO 70 kr_ref10_Obj v0_Objs raws_v0_Objs A_v0_Objs a0.Objs, OwnO 77 kr_ref10_Slot v0_Slots raws_v0_Slots A_v0_Slots a0.Slots, F])) (fun _ => rfl) ?_ (m := k) (x := ((0, (qv5_1.set (w64 (5 * x4_1)).toNat t20).set (w64 ((w64 (5 * x4_1)) + 1)).toNat (wu64 (w64 (x11.Parent + 1)))), ())) hl2 ?_
      · clear h hl2
        intro k x o_2 h hK2 ih2
        obtain ⟨⟨x6_2, qv5_2⟩, _⟩ := x
        replace h : ref10_State_Words.l2 x4_1 x11 (k + 1) (x6_2, qv5_2) = some o_2 := h
        first | rw [ref10_State_Words.l2] at h | unfold ref10_State_Words.l2 at h
        refine S.rd fun hr28 => ?_
        refine S.seq ?_
        refine S.seq ?_
        refine S.region ?_
        refine SO.v rfl (opv_move rfl) ?_
        refine SO.v rfl (opv_fieldAddr Try.underlying77 rfl Try.sizeOf67 rfl rfl) ?_
        refine SO.b1 ?_
        refine SO.load1 rfl Try.isAgg67 rfl rfl ?_
        refine SO.v rfl (opv_lenR rfl Try.underlying67 hru17 rfl) ?_
        refine SO.v rfl (opv_lss rfl rfl) ?_
        refine SO.nil ?_
        rcases bool_or (decide (x6_2 < (x11.Kids.length : Int))) with b29 | b29
        · replace h := cond_t b29 h
          refine S.condT rfl b29 ?_
          refine S.skip ?_
          refine S.seq ?_
          refine S.block ?_
          refine S.seq ?_
          refine S.region ?_
          refine SO.v rfl (opv_fieldAddr Try.underlying77 rfl Try.sizeOf67 rfl rfl) ?_
          refine SO.load1 rfl Try.isAgg67 rfl rfl ?_
          refine SO.v rfl (opv_move rfl) ?_
          obtain ⟨x30, hx31, h⟩ := opt_bind h
          refine SO.v rfl (opv_idx Try.underlying67 Try.sizeOf3 hru17 rfl rfl hx31) ?_
          refine SO.loadI1 (j := 0) rfl Try.isAgg3 (Rd.tail (Rd.tail (Rd.tail (Rd.tail (Rd.head (Rd.pool hru17)))))) hx31 rfl rfl rfl rfl ?_
          refine SO.v rfl (opv_assign rfl) ?_
          refine SO.nil ?_
          refine S.seq ?_
          refine S.seq ?_
          refine S.region ?_
          refine SO.v rfl (opv_move rfl) ?_
          refine SO.v rfl (opv_eql rfl rfl) ?_
          refine SO.nil ?_
          obtain ⟨qv5_3, hC3, hJ3⟩ := opt_bind h
          clear h
          refine S.cutP (G := Unit) (fun _ => True) (fun _ => [(0, bp bp0 0), (2, .slice none 0 0), (3, v5), (4, .int .i64 x4_1), (5, bp b19 0), (6, .int .i64 x6_2), (7, .int .i64 x30), (15, .int .i64 x4_1), (16, .bool (decide (x4_1 < 96))), (19, bp bp0 0), (20, bp bp0 0), (21, bp bp0 0), (22, v0_Slots), (23, .int .i64 x4_1), (24, idxp v0_Slots (x4_1.toNat * kr_ref10_Slot.sz)), (25, .agg #[.int .i64 x11.Cap.Kind, .int .i64 x11.Cap.Rights, .int .i64 x11.Cap.Obj, .int .i64 x11.Cap.Badge, .int .i64 x11.Cap.Guard, .int .i64 x11.Cap.Bits, .int .i64 x11.Parent, u16]), (26, v5), (27, .int .i64 x4_1), (28, .int .i64 (w64 (5 * x4_1))), (29, bp b19 0), (30, .agg #[.int .i64 x11.Cap.Kind, .int .i64 x11.Cap.Rights, .int .i64 x11.Cap.Obj, .int .i64 x11.Cap.Badge, .int .i64 x11.Cap.Guard, .int .i64 x11.Cap.Bits]), (31, .int .u64 t20), (32, idxp v5 ((w64 (5 * x4_1)).toNat * (ekI .u64).sz)), (33, v5), (34, .int .i64 x4_1), (35, .int .i64 (w64 (5 * x4_1))), (36, .int .i64 (w64 ((w64 (5 * x4_1)) + 1))), (37, bp b19 6), (38, .int .i64 x11.Parent), (39, .int .i64 (w64 (x11.Parent + 1))), (40, .int .u64 (wu64 (w64 (x11.Parent + 1)))), (41, idxp v5 ((w64 ((w64 (5 * x4_1)) + 1)).toNat * (ekI .u64).sz)), (42, .int .i64 x6_2), (43, bp b19 7), (44, u16), (45, .int .i64 (x11.Kids.length : Int)), (46, .bool (decide (x6_2 < (x11.Kids.length : Int)))), (49, bp b19 7), (50, u16), (51, .int .i64 x6_2), (52, idxp u16 (x6_2.toNat * (ekI .i64).sz)), (53, .int .i64 x30), (54, .int .i64 x6_2), (55, .bool (x6_2 == 0))]) (fun _ => [Box b19 [.int .i64 x11.Cap.Kind, .int .i64 x11.Cap.Rights, .int .i64 x11.Cap.Obj, .int .i64 x11.Cap.Badge, .int .i64 x11.Cap.Guard, .int .i64 x11.Cap.Bits, .int .i64 x11.Parent, u16], Own 63 (ekI .u64) v5 qv5_3, Box bp0 [v0_Slots, v0_Objs, .int .i64 a0.NS, .int .i64 a0.NO], OwnO 70 kr_ref10_Obj v0_Objs raws_v0_Objs A_v0_Objs a0.Objs, OwnO 77 kr_ref10_Slot v0_Slots raws_v0_Slots A_v0_Slots a0.Slots, F]) (fun hk3 => ?_) ?_
          · replace h := hC3
            rcases bool_or (x6_2 == 0) with b32 | b32
            · replace h := cond_t b32 h
              refine S.condT rfl b32 ?_
              refine S.region ?_
              refine SO.v rfl (opv_move rfl) ?_
              refine SO.v rfl (opv_move rfl) ?_
              refine SO.v rfl (opv_mul rfl rfl) ?_
              refine SO.v rfl (opv_add rfl rfl) ?_
              refine SO.v rfl (opv_move rfl) ?_
              refine SO.v rfl (opv_add rfl rfl) ?_
              refine SO.v rfl (opv_conv Try.underlying3 Try.underlying63 rfl) ?_
              obtain ⟨x33, hx34, h⟩ := opt_bind h
              refine SO.v rfl (opv_idx Try.underlying24 Try.sizeOf63 hr28 rfl rfl hx34) ?_
              refine SO.b1 ?_
              refine SO.storeI1 (j := 0) (z' := wu64 (w64 (x30 + 1))) Try.sizeOf63 hx34 rfl rfl rfl rfl rfl rfl ?_
              refine SO.rd fun hr35 => ?_
              refine SO.nil ?_
              cases h
              refine S.b5 ?_
              refine S.b5 ?_
              refine S.b5 ?_
              refine S.b5 ?_
              refine S.b4 ?_
              refine S.b5 ?_
              refine S.to ?_ (hk3 () trivial)
              exact ⟨rfl, rfl, rfl, rfl, rfl, rfl, rfl, rfl, rfl, rfl, rfl, rfl, rfl, rfl, rfl, rfl, rfl, rfl, rfl, rfl, rfl, rfl, rfl, rfl, rfl, rfl, rfl, rfl, rfl, rfl, rfl, rfl, rfl, rfl, rfl, rfl, rfl, rfl, rfl, rfl, rfl, rfl, rfl, rfl, trivial⟩
            · replace h := cond_f b32 h
              refine S.condF rfl b32 ?_
              refine S.region ?_
              refine SO.v rfl (opv_move rfl) ?_
              refine SO.v rfl (opv_move rfl) ?_
              refine SO.v rfl (opv_mul rfl rfl) ?_
              refine SO.v rfl (opv_add rfl rfl) ?_
              refine SO.v rfl (opv_fieldAddr Try.underlying77 rfl Try.sizeOf67 rfl rfl) ?_
              refine SO.load1 rfl Try.isAgg67 rfl rfl ?_
              refine SO.v rfl (opv_move rfl) ?_
              refine SO.v rfl (opv_sub rfl rfl) ?_
              obtain ⟨x36, hx37, h⟩ := opt_bind h
              refine SO.v rfl (opv_idx Try.underlying67 Try.sizeOf3 hru17 rfl rfl hx37) ?_
              refine SO.loadI1 (j := 0) rfl Try.isAgg3 (Rd.tail (Rd.tail (Rd.tail (Rd.tail (Rd.head (Rd.pool hru17)))))) hx37 rfl rfl rfl rfl ?_
              refine SO.v rfl (opv_add rfl rfl) ?_
              refine SO.v rfl (opv_conv Try.underlying3 Try.underlying63 rfl) ?_
              obtain ⟨x38, hx39, h⟩ := opt_bind h
              refine SO.v rfl (opv_idx Try.underlying24 Try.sizeOf63 hr28 rfl rfl hx39) ?_
              refine SO.b1 ?_
              refine SO.storeI1 (j := 0) (z' := wu64 (w64 (x36 + 1))) Try.sizeOf63 hx39 rfl rfl rfl rfl rfl rfl ?_
              refine SO.rd fun hr40 => ?_
              refine SO.nil ?_
              cases h
              refine S.b5 ?_
              refine S.b5 ?_
              refine S.b5 ?_
              refine S.b5 ?_
              refine S.b4 ?_
              refine S.b5 ?_
              refine S.to ?_ (hk3 () trivial)
              exact ⟨rfl, rfl, rfl, rfl, rfl, rfl, rfl, rfl, rfl, rfl, rfl, rfl, rfl, rfl, rfl, rfl, rfl, rfl, rfl, rfl, rfl, rfl, rfl, rfl, rfl, rfl, rfl, rfl, rfl, rfl, rfl, rfl, rfl, rfl, rfl, rfl, rfl, rfl, rfl, rfl, rfl, rfl, rfl, rfl, trivial⟩
          rintro _ -
          replace h := hJ3
          refine S.b1 ?_
          refine S.rd fun hr41 => ?_
          refine S.seq ?_
          refine S.region ?_
          refine SO.v rfl (opv_move rfl) ?_
          refine SO.v rfl (opv_add rfl rfl) ?_
          refine SO.v rfl (opv_fieldAddr Try.underlying77 rfl Try.sizeOf67 rfl rfl) ?_
          refine SO.b1 ?_
          refine SO.load1 rfl Try.isAgg67 rfl rfl ?_
          refine SO.v rfl (opv_lenR rfl Try.underlying67 hru17 rfl) ?_
          refine SO.v rfl (opv_lss rfl rfl) ?_
          refine SO.nil ?_
          rcases bool_or (decide ((w64 (x6_2 + 1)) < (x11.Kids.length : Int))) with b42 | b42
          · replace h := cond_t b42 h
            refine S.condT rfl b42 ?_
            refine S.region ?_
            refine SO.v rfl (opv_move rfl) ?_
            refine SO.v rfl (opv_move rfl) ?_
            refine SO.v rfl (opv_mul rfl rfl) ?_
            refine SO.v rfl (opv_add rfl rfl) ?_
            refine SO.v rfl (opv_fieldAddr Try.underlying77 rfl Try.sizeOf67 rfl rfl) ?_
            refine SO.load1 rfl Try.isAgg67 rfl rfl ?_
            refine SO.v rfl (opv_move rfl) ?_
            refine SO.v rfl (opv_add rfl rfl) ?_
            obtain ⟨x43, hx44, h⟩ := opt_bind h
            refine SO.v rfl (opv_idx Try.underlying67 Try.sizeOf3 hru17 rfl rfl hx44) ?_
            refine SO.loadI1 (j := 0) rfl Try.isAgg3 (Rd.tail (Rd.tail (Rd.tail (Rd.tail (Rd.head (Rd.pool hru17)))))) hx44 rfl rfl rfl rfl ?_
            refine SO.v rfl (opv_add rfl rfl) ?_
            refine SO.v rfl (opv_conv Try.underlying3 Try.underlying63 rfl) ?_
            obtain ⟨x45, hx46, h⟩ := opt_bind h
            refine SO.v rfl (opv_idx Try.underlying24 Try.sizeOf63 hr41 rfl rfl hx46) ?_
            refine SO.b1 ?_
            refine SO.storeI1 (j := 0) (z' := wu64 (w64 (x43 + 1))) Try.sizeOf63 hx46 rfl rfl rfl rfl rfl rfl ?_
            refine SO.rd fun hr47 => ?_
            refine SO.nil ?_
            refine S.inBlock ?_
            refine S.region ?_
            refine SO.v rfl (opv_move rfl) ?_
            refine SO.v rfl (opv_add rfl rfl) ?_
            refine SO.v rfl (opv_assign rfl) ?_
            refine SO.nil ?_
            refine S.b5 ?_
            refine S.b5 ?_
            refine S.b5 ?_
            refine S.b5 ?_
            refine S.b5 ?_
            refine S.b5 ?_
            refine S.to ?_ (ih2 ((w64 (x6_2 + 1), qv5_3.set (w64 ((w64 (5 * x30)) + 3)).toNat (wu64 (w64 (x43 + 1)))), ()) h)
            exact ⟨rfl, rfl, rfl, rfl, rfl, rfl, rfl, rfl, rfl, rfl, rfl, rfl, rfl, rfl, rfl, rfl, rfl, rfl, rfl, rfl, rfl, rfl, rfl, rfl, rfl, rfl, rfl, rfl, rfl, rfl, rfl, trivial⟩
          · replace h := cond_f b42 h
            refine S.condF rfl b42 ?_
            refine S.skip ?_
            refine S.inBlock ?_
            refine S.region ?_
            refine SO.v rfl (opv_move rfl) ?_
            refine SO.v rfl (opv_add rfl rfl) ?_
            refine SO.v rfl (opv_assign rfl) ?_
            refine SO.nil ?_
            refine S.b5 ?_
            refine S.b5 ?_
            refine S.b5 ?_
            refine S.b5 ?_
            refine S.b4 ?_
            refine S.b5 ?_
            refine S.to ?_ (ih2 ((w64 (x6_2 + 1), qv5_3), ()) h)
            exact ⟨rfl, rfl, rfl, rfl, rfl, rfl, rfl, rfl, rfl, rfl, rfl, rfl, rfl, rfl, rfl, rfl, rfl, rfl, rfl, rfl, rfl, rfl, rfl, rfl, rfl, rfl, rfl, rfl, rfl, rfl, rfl, trivial⟩
        · replace h := cond_f b29 h
          refine S.condF rfl b29 ?_
          refine S.exit rfl ?_
          cases h
          refine S.b5 ?_
          refine S.b5 ?_
          refine S.b5 ?_
          refine S.b5 ?_
          refine S.b4 ?_
          refine S.b5 ?_
          refine S.to ?_ (hK2 ())
          exact ⟨rfl, rfl, rfl, rfl, rfl, rfl, rfl, rfl, rfl, rfl, rfl, rfl, rfl, rfl, rfl, rfl, rfl, rfl, rfl, rfl, rfl, rfl, rfl, rfl, rfl, rfl, rfl, rfl, rfl, rfl, rfl, rfl, rfl, rfl, rfl, rfl, trivial⟩
      rintro _
      refine S.rd fun hr48 => ?_
      refine S.inBlock ?_
      refine S.region ?_
      refine SO.v rfl (opv_move rfl) ?_
      refine SO.v rfl (opv_add rfl rfl) ?_
      refine SO.v rfl (opv_assign rfl) ?_
      refine SO.nil ?_
      refine S.b1 ?_
      refine S.drop ?_
      refine S.b4 ?_
      refine S.b2 ?_
      refine S.b4 ?_
      refine S.b4 ?_
      refine S.b4 ?_
      refine S.to ?_ (ih1 ((w64 (x4_1 + 1), qv5_e2), ()) h)
      exact ⟨rfl, rfl, rfl, rfl, trivial⟩
    · replace h := cond_f b10 h
      refine S.condF rfl b10 ?_
      refine S.exit rfl ?_
      cases h
      refine S.b4 ?_
      refine S.b4 ?_
      refine S.b4 ?_
      refine S.b4 ?_
      refine S.b4 ?_
      refine S.to ?_ (hK1 ())
      exact ⟨rfl, rfl, rfl, trivial⟩
  rintro _
  refine S.rd fun hr49 => ?_
  refine S.seq ?_
  refine S.seq ?_
  refine S.region ?_
  refine SO.v rfl (opv_assign rfl) ?_
  refine SO.nil ?_
  obtain ⟨qv5_e4, hl4, h⟩ := opt_bind h
  refine S.b4 ?_
  refine S.b4 ?_
  refine S.b4 ?_
  refine S.b4 ?_
  refine S.b4 ?_
  refine S.to (ρ' := [(8, .int .i64 0), (0, bp bp0 0), (2, .slice none 0 0), (3, v5)]) ⟨rfl, rfl, rfl, rfl, trivial⟩ ?_
  refine S.forloop (X := (Int × (List Int)) × Unit) (O := (List Int)) (fun m x => ref10_State_Words.l4 a0 m x.1) (fun x => match x with | ((x8_4, qv5_4), _) => [(8, .int .i64 x8_4), (0, bp bp0 0), (2, .slice none 0 0), (3, v5)]) (fun x => match x with | ((x8_4, qv5_4), _) => [Own 63 (ekI .u64) v5 qv5_4, OwnO 70 kr_ref10_Obj v0_Objs raws_v0_Objs A_v0_Objs a0.Objs, OwnO 77 kr_ref10_Slot v0_Slots raws_v0_Slots A_v0_Slots a0.Slots, Box bp0 [v0_Slots, v0_Objs, .int .i64 a0.NS, .int .i64 a0.NO], F]) (fun Sk => (fun qv5_e4 => ∀ _ : Unit, Sk [(0, bp bp0 0), (2, .slice none 0 0), (3, v5)] [Own 63 (ekI .u64) v5 qv5_e4, OwnO 70 kr_ref10_Obj v0_Objs raws_v0_Objs A_v0_Objs a0.Objs, OwnO 77 kr_ref10_Slot v0_Slots raws_v0_Slots A_v0_Slots a0.Slots, Box bp0 [v0_Slots, v0_Objs, .int .i64 a0.NS, .int .i64 a0.NO], F])) (fun _ => rfl) ?_ (m := k) (x := ((0, qv5_e1), ())) hl4 ?_
  · clear h hl4
    intro k x o_4 h hK4 ih4
    obtain ⟨⟨x8_4, qv5_4⟩, _⟩ := x
    replace h : ref10_State_Words.l4 a0 (k + 1) (x8_4, qv5_4) = some o_4 := h
    first | rw [ref10_State_Words.l4] at h | unfold ref10_State_Words.l4 at h
    refine S.rd fun hr50 => ?_
    refine S.seq ?_
    refine S.seq ?_
    refine S.region ?_
    refine SO.v rfl (opv_move rfl) ?_
    refine SO.v rfl (opv_lss rfl rfl) ?_
    refine SO.nil ?_
    rcases bool_or (decide (x8_4 < 32)) with b51 | b51
    · replace h := cond_t b51 h
      refine S.condT rfl b51 ?_
      refine S.skip ?_
      refine S.seq ?_
      refine S.block ?_
      refine S.seq ?_
      refine S.region ?_
      refine SO.v rfl (opv_move rfl) ?_
      refine SO.v rfl (opv_nilCheck rfl) ?_
      refine SO.v rfl (opv_fieldAddr Try.underlying75 rfl Try.sizeOf73 rfl rfl) ?_
      refine SO.b3 ?_
      refine SO.load1 rfl Try.isAgg73 rfl rfl ?_
      refine SO.v rfl (opv_move rfl) ?_
      obtain ⟨x52, hx53, h⟩ := opt_bind h
      obtain ⟨r54, hr55, hc56⟩ := relR.at hrel3 hx53
      refine SO.v rfl (opv_idx Try.underlying73 Try.sizeOf70 hR4 rfl rfl hr55) ?_
      refine hc56.rip fun u57 hru58 e59 => ?_
      refine SO.loadIN rfl Try.isAgg70 Try.sizeOf70 (Rd.tail (Rd.tail (Rd.head hR4))) hr55 rfl rfl e59 ?_
      refine SO.alloc rfl Try.zeroValue70 rfl (fun b60 => ?_)
      refine SO.storeN Try.sizeOf70 rfl rfl (all1 rfl (all1 rfl (all1 rfl (all1 rfl (all1 rfl (all1 rfl (all1 (Rd.one hru58) (all1 rfl (all1 rfl (all1 rfl (all1 rfl (all1 rfl (all1 rfl (all1 rfl (all1 rfl (all1 rfl (all1 rfl (all1 rfl (all1 rfl (all1 rfl (all1 rfl (all1 rfl (all1 rfl (all1 rfl (all1 rfl (all1 rfl (all1 rfl (all1 rfl (all1 rfl (all1 rfl (all1 rfl (all1 rfl rfl)))))))))))))))))))))))))))))))) rfl rfl rfl ?_
      refine SO.nil ?_
      refine S.seq ?_
      refine S.region ?_
      refine SO.v rfl (opv_move rfl) ?_
      refine SO.v rfl (opv_mul rfl rfl) ?_
      refine SO.v rfl (opv_add rfl rfl) ?_
      refine SO.v rfl (opv_assign rfl) ?_
      refine SO.nil ?_
      refine S.seq ?_
      refine S.region ?_
      refine SO.v rfl (opv_move rfl) ?_
      refine SO.v rfl (opv_move rfl) ?_
      refine SO.v rfl (opv_fieldAddr Try.underlying70 rfl Try.sizeOf3 rfl rfl) ?_
      refine SO.load1 rfl Try.isAgg3 rfl rfl ?_
      refine SO.v rfl (opv_conv Try.underlying3 Try.underlying63 rfl) ?_
      obtain ⟨x61, hx62, h⟩ := opt_bind h
      refine SO.v rfl (opv_idx Try.underlying24 Try.sizeOf63 hr50 rfl rfl hx62) ?_
      refine SO.b2 ?_
      refine SO.storeI1 (j := 0) (z' := wu64 x52.Kind) Try.sizeOf63 hx62 rfl rfl rfl rfl rfl rfl ?_
      refine SO.rd fun hr63 => ?_
      refine SO.nil ?_
      refine S.seq ?_
      refine S.seq ?_
      refine S.region ?_
      refine SO.v rfl (opv_fieldAddr Try.underlying70 rfl Try.sizeOf3 rfl rfl) ?_
      refine SO.b1 ?_
      refine SO.load1 rfl Try.isAgg3 rfl rfl ?_
      refine SO.nil ?_
      obtain ⟨qv5_5, hC5, hJ5⟩ := opt_bind h
      clear h
      refine S.cutP (G := Unit) (fun _ => True) (fun _ => [(0, bp bp0 0), (2, .slice none 0 0), (3, v5), (8, .int .i64 x8_4), (9, bp b60 0), (10, .int .i64 (w64 (480 + (w64 (8 * x8_4))))), (96, .int .i64 x8_4), (97, .bool (decide (x8_4 < 32))), (100, bp bp0 0), (101, bp bp0 0), (102, bp bp0 1), (103, v0_Objs), (104, .int .i64 x8_4), (105, idxp v0_Objs (x8_4.toNat * kr_ref10_Obj.sz)), (106, .agg #[.int .i64 x52.Kind, .int .i64 x52.Size, .int .i64 x52.Used, .int .i64 x52.First, .int .i64 x52.Radix, .int .i64 x52.Wait, u57, .int .i64 x52.Word, .int .i64 x52.State, .int .i64 x52.Owing, .int .i64 x52.Badge, .int .i64 x52.Prio, .int .i64 x52.On, .int .i64 x52.Owes, .int .i64 x52.Root.Kind, .int .i64 x52.Root.Rights, .int .i64 x52.Root.Obj, .int .i64 x52.Root.Badge, .int .i64 x52.Root.Guard, .int .i64 x52.Root.Bits, .int .i64 x52.Pages.a0, .int .i64 x52.Pages.a1, .int .i64 x52.Pages.a2, .int .i64 x52.Pages.a3, .int .i64 x52.Right.a0, .int .i64 x52.Right.a1, .int .i64 x52.Right.a2, .int .i64 x52.Right.a3, .int .i64 x52.In, .int .i64 x52.Page, .int .i64 x52.Bound, .int .i64 x52.Mask]), (107, .int .i64 x8_4), (108, .int .i64 (w64 (8 * x8_4))), (109, .int .i64 (w64 (480 + (w64 (8 * x8_4))))), (110, v5), (111, .int .i64 (w64 (480 + (w64 (8 * x8_4))))), (112, bp b60 0), (113, .int .i64 x52.Kind), (114, .int .u64 (wu64 x52.Kind)), (115, idxp v5 ((w64 (480 + (w64 (8 * x8_4)))).toNat * (ekI .u64).sz)), (116, bp b60 0), (117, .int .i64 x52.Kind), (118, .bool (x52.Kind == 1)), (119, .bool (x52.Kind == 1))]) (fun _ => [Box b60 [.int .i64 x52.Kind, .int .i64 x52.Size, .int .i64 x52.Used, .int .i64 x52.First, .int .i64 x52.Radix, .int .i64 x52.Wait, u57, .int .i64 x52.Word, .int .i64 x52.State, .int .i64 x52.Owing, .int .i64 x52.Badge, .int .i64 x52.Prio, .int .i64 x52.On, .int .i64 x52.Owes, .int .i64 x52.Root.Kind, .int .i64 x52.Root.Rights, .int .i64 x52.Root.Obj, .int .i64 x52.Root.Badge, .int .i64 x52.Root.Guard, .int .i64 x52.Root.Bits, .int .i64 x52.Pages.a0, .int .i64 x52.Pages.a1, .int .i64 x52.Pages.a2, .int .i64 x52.Pages.a3, .int .i64 x52.Right.a0, .int .i64 x52.Right.a1, .int .i64 x52.Right.a2, .int .i64 x52.Right.a3, .int .i64 x52.In, .int .i64 x52.Page, .int .i64 x52.Bound, .int .i64 x52.Mask], Own 63 (ekI .u64) v5 qv5_5, Box bp0 [v0_Slots, v0_Objs, .int .i64 a0.NS, .int .i64 a0.NO], OwnO 70 kr_ref10_Obj v0_Objs raws_v0_Objs A_v0_Objs a0.Objs, OwnO 77 kr_ref10_Slot v0_Slots raws_v0_Slots A_v0_Slots a0.Slots, F]) (fun hk5 => ?_) ?_
      · replace h := hC5
        refine S.block ?_
        refine S.seq ?_
        refine S.region ?_
        refine SO.v rfl (opv_eql rfl rfl) ?_
        refine SO.v rfl (opv_assign rfl) ?_
        refine SO.nil ?_
        rcases bool_or (x52.Kind == 1) with b64 | b64
        · replace h := cond_t b64 h
          refine S.condT rfl b64 ?_
          refine S.seq ?_
          refine S.region ?_
          refine SO.v rfl (opv_move rfl) ?_
          refine SO.v rfl (opv_move rfl) ?_
          refine SO.v rfl (opv_add rfl rfl) ?_
          refine SO.v rfl (opv_fieldAddr Try.underlying70 rfl Try.sizeOf3 rfl rfl) ?_
          refine SO.load1 rfl Try.isAgg3 rfl rfl ?_
          refine SO.v rfl (opv_conv Try.underlying3 Try.underlying63 rfl) ?_
          obtain ⟨x65, hx66, h⟩ := opt_bind h
          refine SO.v rfl (opv_idx Try.underlying24 Try.sizeOf63 hr63 rfl rfl hx66) ?_
          refine SO.b1 ?_
          refine SO.storeI1 (j := 0) (z' := wu64 x52.Size) Try.sizeOf63 hx66 rfl rfl rfl rfl rfl rfl ?_
          refine SO.rd fun hr67 => ?_
          refine SO.nil ?_
          refine S.region ?_
          refine SO.v rfl (opv_move rfl) ?_
          refine SO.v rfl (opv_move rfl) ?_
          refine SO.v rfl (opv_add rfl rfl) ?_
          refine SO.v rfl (opv_fieldAddr Try.underlying70 rfl Try.sizeOf3 rfl rfl) ?_
          refine SO.b1 ?_
          refine SO.load1 rfl Try.isAgg3 rfl rfl ?_
          refine SO.v rfl (opv_conv Try.underlying3 Try.underlying63 rfl) ?_
          obtain ⟨x68, hx69, h⟩ := opt_bind h
          refine SO.v rfl (opv_idx Try.underlying24 Try.sizeOf63 hr67 rfl rfl hx69) ?_
          refine SO.b1 ?_
          refine SO.storeI1 (j := 0) (z' := wu64 x52.Used) Try.sizeOf63 hx69 rfl rfl rfl rfl rfl rfl ?_
          refine SO.rd fun hr70 => ?_
          refine SO.nil ?_
          refine S.inBlock ?_
          cases h
          refine S.b5 ?_
          refine S.b5 ?_
          refine S.b5 ?_
          refine S.b5 ?_
          refine S.b4 ?_
          refine S.b5 ?_
          refine S.to ?_ (hk5 () trivial)
          exact ⟨rfl, rfl, rfl, rfl, rfl, rfl, rfl, rfl, rfl, rfl, rfl, rfl, rfl, rfl, rfl, rfl, rfl, rfl, rfl, rfl, rfl, rfl, rfl, rfl, rfl, rfl, rfl, rfl, trivial⟩
        · replace h := cond_f b64 h
          refine S.condF rfl b64 ?_
          refine S.seq ?_
          refine S.region ?_
          refine SO.v rfl (opv_eql rfl rfl) ?_
          refine SO.v rfl (opv_assign rfl) ?_
          refine SO.nil ?_
          rcases bool_or (x52.Kind == 2) with b71 | b71
          · replace h := cond_t b71 h
            refine S.condT rfl b71 ?_
            refine S.seq ?_
            refine S.region ?_
            refine SO.v rfl (opv_move rfl) ?_
            refine SO.v rfl (opv_move rfl) ?_
            refine SO.v rfl (opv_add rfl rfl) ?_
            refine SO.v rfl (opv_fieldAddr Try.underlying70 rfl Try.sizeOf3 rfl rfl) ?_
            refine SO.load1 rfl Try.isAgg3 rfl rfl ?_
            refine SO.v rfl (opv_conv Try.underlying3 Try.underlying63 rfl) ?_
            obtain ⟨x72, hx73, h⟩ := opt_bind h
            refine SO.v rfl (opv_idx Try.underlying24 Try.sizeOf63 hr63 rfl rfl hx73) ?_
            refine SO.b1 ?_
            refine SO.storeI1 (j := 0) (z' := wu64 x52.First) Try.sizeOf63 hx73 rfl rfl rfl rfl rfl rfl ?_
            refine SO.rd fun hr74 => ?_
            refine SO.nil ?_
            refine S.region ?_
            refine SO.v rfl (opv_move rfl) ?_
            refine SO.v rfl (opv_move rfl) ?_
            refine SO.v rfl (opv_add rfl rfl) ?_
            refine SO.v rfl (opv_fieldAddr Try.underlying70 rfl Try.sizeOf3 rfl rfl) ?_
            refine SO.b1 ?_
            refine SO.load1 rfl Try.isAgg3 rfl rfl ?_
            refine SO.v rfl (opv_conv Try.underlying3 Try.underlying63 rfl) ?_
            obtain ⟨x75, hx76, h⟩ := opt_bind h
            refine SO.v rfl (opv_idx Try.underlying24 Try.sizeOf63 hr74 rfl rfl hx76) ?_
            refine SO.b1 ?_
            refine SO.storeI1 (j := 0) (z' := wu64 x52.Radix) Try.sizeOf63 hx76 rfl rfl rfl rfl rfl rfl ?_
            refine SO.rd fun hr77 => ?_
            refine SO.nil ?_
            refine S.inBlock ?_
            cases h
            refine S.b5 ?_
            refine S.b5 ?_
            refine S.b5 ?_
            refine S.b5 ?_
            refine S.b4 ?_
            refine S.b5 ?_
            refine S.to ?_ (hk5 () trivial)
            exact ⟨rfl, rfl, rfl, rfl, rfl, rfl, rfl, rfl, rfl, rfl, rfl, rfl, rfl, rfl, rfl, rfl, rfl, rfl, rfl, rfl, rfl, rfl, rfl, rfl, rfl, rfl, rfl, rfl, trivial⟩
          · replace h := cond_f b71 h
            refine S.condF rfl b71 ?_
            refine S.seq ?_
            refine S.region ?_
            refine SO.v rfl (opv_eql rfl rfl) ?_
            refine SO.v rfl (opv_assign rfl) ?_
            refine SO.nil ?_
            rcases bool_or (x52.Kind == 3) with b78 | b78
            · replace h := cond_t b78 h
              refine S.condT rfl b78 ?_
              refine S.region ?_
              refine SO.v rfl (opv_move rfl) ?_
              refine SO.v rfl (opv_move rfl) ?_
              refine SO.v rfl (opv_add rfl rfl) ?_
              refine SO.v rfl (opv_fieldAddr Try.underlying70 rfl Try.sizeOf3 rfl rfl) ?_
              refine SO.load1 rfl Try.isAgg3 rfl rfl ?_
              refine SO.v rfl (opv_conv Try.underlying3 Try.underlying63 rfl) ?_
              obtain ⟨x79, hx80, h⟩ := opt_bind h
              refine SO.v rfl (opv_idx Try.underlying24 Try.sizeOf63 hr63 rfl rfl hx80) ?_
              refine SO.b1 ?_
              refine SO.storeI1 (j := 0) (z' := wu64 x52.Wait) Try.sizeOf63 hx80 rfl rfl rfl rfl rfl rfl ?_
              refine SO.rd fun hr81 => ?_
              refine SO.nil ?_
              refine S.inBlock ?_
              cases h
              refine S.b5 ?_
              refine S.b5 ?_
              refine S.b5 ?_
              refine S.b5 ?_
              refine S.b4 ?_
              refine S.b5 ?_
              refine S.to ?_ (hk5 () trivial)
              exact ⟨rfl, rfl, rfl, rfl, rfl, rfl, rfl, rfl, rfl, rfl, rfl, rfl, rfl, rfl, rfl, rfl, rfl, rfl, rfl, rfl, rfl, rfl, rfl, rfl, rfl, rfl, rfl, rfl, trivial⟩
            · replace h := cond_f b78 h
              refine S.condF rfl b78 ?_
              refine S.seq ?_
              refine S.region ?_
              refine SO.v rfl (opv_eql rfl rfl) ?_
              refine SO.v rfl (opv_assign rfl) ?_
              refine SO.nil ?_
              rcases bool_or (x52.Kind == 4) with b82 | b82
              · replace h := cond_t b82 h
                refine S.condT rfl b82 ?_
                refine S.region ?_
                refine SO.v rfl (opv_move rfl) ?_
                refine SO.v rfl (opv_move rfl) ?_
                refine SO.v rfl (opv_add rfl rfl) ?_
                refine SO.v rfl (opv_fieldAddr Try.underlying70 rfl Try.sizeOf3 rfl rfl) ?_
                refine SO.load1 rfl Try.isAgg3 rfl rfl ?_
                refine SO.v rfl (opv_conv Try.underlying3 Try.underlying63 rfl) ?_
                obtain ⟨x83, hx84, h⟩ := opt_bind h
                refine SO.v rfl (opv_idx Try.underlying24 Try.sizeOf63 hr63 rfl rfl hx84) ?_
                refine SO.b1 ?_
                refine SO.storeI1 (j := 0) (z' := wu64 x52.Word) Try.sizeOf63 hx84 rfl rfl rfl rfl rfl rfl ?_
                refine SO.rd fun hr85 => ?_
                refine SO.nil ?_
                refine S.inBlock ?_
                cases h
                refine S.b5 ?_
                refine S.b5 ?_
                refine S.b5 ?_
                refine S.b5 ?_
                refine S.b4 ?_
                refine S.b5 ?_
                refine S.to ?_ (hk5 () trivial)
                exact ⟨rfl, rfl, rfl, rfl, rfl, rfl, rfl, rfl, rfl, rfl, rfl, rfl, rfl, rfl, rfl, rfl, rfl, rfl, rfl, rfl, rfl, rfl, rfl, rfl, rfl, rfl, rfl, rfl, trivial⟩
              · replace h := cond_f b82 h
                refine S.condF rfl b82 ?_
                refine S.seq ?_
                refine S.region ?_
                refine SO.v rfl (opv_eql rfl rfl) ?_
                refine SO.v rfl (opv_assign rfl) ?_
                refine SO.nil ?_
                rcases bool_or (x52.Kind == 5) with b86 | b86
                · replace h := cond_t b86 h
                  refine S.condT rfl b86 ?_
                  refine S.seq ?_
                  refine S.region ?_
                  refine SO.v rfl (opv_move rfl) ?_
                  refine SO.v rfl (opv_move rfl) ?_
                  refine SO.v rfl (opv_add rfl rfl) ?_
                  refine SO.v rfl (opv_fieldAddr Try.underlying70 rfl Try.sizeOf3 rfl rfl) ?_
                  refine SO.load1 rfl Try.isAgg3 rfl rfl ?_
                  refine SO.v rfl (opv_conv Try.underlying3 Try.underlying63 rfl) ?_
                  obtain ⟨x87, hx88, h⟩ := opt_bind h
                  refine SO.v rfl (opv_idx Try.underlying24 Try.sizeOf63 hr63 rfl rfl hx88) ?_
                  refine SO.b1 ?_
                  refine SO.storeI1 (j := 0) (z' := wu64 x52.State) Try.sizeOf63 hx88 rfl rfl rfl rfl rfl rfl ?_
                  refine SO.rd fun hr89 => ?_
                  refine SO.nil ?_
                  refine S.seq ?_
                  obtain ⟨x90, hx91, h⟩ := opt_bind h
                  obtain ⟨x92, hx93, h⟩ := opt_bind h
                  refine S.draw' (Z := fun Q => ∀ (_ : Unit) (_ : Unit) (_ : Unit) (_ : Unit) (_ : Unit) (_ : Unit) (_ : Unit) (_ : Unit) (_ : Unit) (_ : Unit) (_ : Unit) (_ : Unit) (_ : Unit) (_ : Unit) (_ : Unit) (_ : Unit) (_ : Unit) (_ : Unit) (_ : Unit) (_ : Unit) (_ : Unit) (_ : Unit) (_ : Unit) (_ : Unit), Q [(176, idxp v5 ((w64 ((w64 (480 + (w64 (8 * x8_4)))) + 1)).toNat * (ekI .u64).sz)), (175, .int .u64 (wu64 x52.State)), (174, .int .i64 x52.State), (173, bp b60 8), (172, .int .i64 (w64 ((w64 (480 + (w64 (8 * x8_4)))) + 1))), (171, .int .i64 (w64 (480 + (w64 (8 * x8_4))))), (170, v5), (168, .bool (x52.Kind == 5)), (169, .bool (x52.Kind == 5)), (159, .bool (x52.Kind == 4)), (160, .bool (x52.Kind == 4)), (150, .bool (x52.Kind == 3)), (151, .bool (x52.Kind == 3)), (134, .bool (x52.Kind == 2)), (135, .bool (x52.Kind == 2)), (118, .bool (x52.Kind == 1)), (119, .bool (x52.Kind == 1)), (117, .int .i64 x52.Kind), (116, bp b60 0), (115, idxp v5 ((w64 (480 + (w64 (8 * x8_4)))).toNat * (ekI .u64).sz)), (114, .int .u64 (wu64 x52.Kind)), (113, .int .i64 x52.Kind), (112, bp b60 0), (111, .int .i64 (w64 (480 + (w64 (8 * x8_4))))), (110, v5), (109, .int .i64 (w64 (480 + (w64 (8 * x8_4))))), (108, .int .i64 (w64 (8 * x8_4))), (107, .int .i64 x8_4), (106, .agg #[.int .i64 x52.Kind, .int .i64 x52.Size, .int .i64 x52.Used, .int .i64 x52.First, .int .i64 x52.Radix, .int .i64 x52.Wait, u57, .int .i64 x52.Word, .int .i64 x52.State, .int .i64 x52.Owing, .int .i64 x52.Badge, .int .i64 x52.Prio, .int .i64 x52.On, .int .i64 x52.Owes, .int .i64 x52.Root.Kind, .int .i64 x52.Root.Rights, .int .i64 x52.Root.Obj, .int .i64 x52.Root.Badge, .int .i64 x52.Root.Guard, .int .i64 x52.Root.Bits, .int .i64 x52.Pages.a0, .int .i64 x52.Pages.a1, .int .i64 x52.Pages.a2, .int .i64 x52.Pages.a3, .int .i64 x52.Right.a0, .int .i64 x52.Right.a1, .int .i64 x52.Right.a2, .int .i64 x52.Right.a3, .int .i64 x52.In, .int .i64 x52.Page, .int .i64 x52.Bound, .int .i64 x52.Mask]), (105, idxp v0_Objs (x8_4.toNat * kr_ref10_Obj.sz)), (104, .int .i64 x8_4), (103, v0_Objs), (102, bp bp0 1), (101, bp bp0 0), (100, bp bp0 0), (97, .bool (decide (x8_4 < 32))), (96, .int .i64 x8_4), (8, .int .i64 x8_4), (0, bp bp0 0), (2, .slice none 0 0), (3, v5), (9, bp b60 0), (10, .int .i64 (w64 (480 + (w64 (8 * x8_4))))), (177, v5), (178, .int .i64 (w64 (480 + (w64 (8 * x8_4))))), (179, .int .i64 (w64 ((w64 (480 + (w64 (8 * x8_4)))) + 2))), (180, v5), (181, .int .i64 (w64 (480 + (w64 (8 * x8_4))))), (182, .int .i64 (w64 ((w64 (480 + (w64 (8 * x8_4)))) + 2))), (183, idxp v5 ((w64 ((w64 (480 + (w64 (8 * x8_4)))) + 2)).toNat * (ekI .u64).sz)), (184, .int .u64 x90), (185, bp b60 9), (186, .int .i64 x52.Owing), (187, .int .i64 (w64 (x52.Owing + 1))), (188, .int .u64 (wu64 (w64 (x52.Owing + 1)))), (189, .int .u64 (wu64 (x90 + (wu64 (w64 (x52.Owing + 1)))))), (190, idxp v5 ((w64 ((w64 (480 + (w64 (8 * x8_4)))) + 2)).toNat * (ekI .u64).sz))] [Own 63 (ekI .u64) v5 (((qv5_4.set (w64 (480 + (w64 (8 * x8_4)))).toNat (wu64 x52.Kind)).set (w64 ((w64 (480 + (w64 (8 * x8_4)))) + 1)).toNat (wu64 x52.State)).set (w64 ((w64 (480 + (w64 (8 * x8_4)))) + 2)).toNat (wu64 (x90 + (wu64 (w64 (x52.Owing + 1)))))), Box b60 [.int .i64 x52.Kind, .int .i64 x52.Size, .int .i64 x52.Used, .int .i64 x52.First, .int .i64 x52.Radix, .int .i64 x52.Wait, u57, .int .i64 x52.Word, .int .i64 x52.State, .int .i64 x52.Owing, .int .i64 x52.Badge, .int .i64 x52.Prio, .int .i64 x52.On, .int .i64 x52.Owes, .int .i64 x52.Root.Kind, .int .i64 x52.Root.Rights, .int .i64 x52.Root.Obj, .int .i64 x52.Root.Badge, .int .i64 x52.Root.Guard, .int .i64 x52.Root.Bits, .int .i64 x52.Pages.a0, .int .i64 x52.Pages.a1, .int .i64 x52.Pages.a2, .int .i64 x52.Pages.a3, .int .i64 x52.Right.a0, .int .i64 x52.Right.a1, .int .i64 x52.Right.a2, .int .i64 x52.Right.a3, .int .i64 x52.In, .int .i64 x52.Page, .int .i64 x52.Bound, .int .i64 x52.Mask], Box bp0 [v0_Slots, v0_Objs, .int .i64 a0.NS, .int .i64 a0.NO], OwnO 70 kr_ref10_Obj v0_Objs raws_v0_Objs A_v0_Objs a0.Objs, OwnO 77 kr_ref10_Slot v0_Slots raws_v0_Slots A_v0_Slots a0.Slots, F]) (T := [tS 3 (v5), tS 10 (.int .i64 (w64 (480 + (w64 (8 * x8_4))))), tS 9 (bp b60 0), tE [(176, idxp v5 ((w64 ((w64 (480 + (w64 (8 * x8_4)))) + 1)).toNat * (ekI .u64).sz)), (175, .int .u64 (wu64 x52.State)), (174, .int .i64 x52.State), (173, bp b60 8), (172, .int .i64 (w64 ((w64 (480 + (w64 (8 * x8_4)))) + 1))), (171, .int .i64 (w64 (480 + (w64 (8 * x8_4))))), (170, v5), (168, .bool (x52.Kind == 5)), (169, .bool (x52.Kind == 5)), (159, .bool (x52.Kind == 4)), (160, .bool (x52.Kind == 4)), (150, .bool (x52.Kind == 3)), (151, .bool (x52.Kind == 3)), (134, .bool (x52.Kind == 2)), (135, .bool (x52.Kind == 2)), (118, .bool (x52.Kind == 1)), (119, .bool (x52.Kind == 1)), (117, .int .i64 x52.Kind), (116, bp b60 0), (115, idxp v5 ((w64 (480 + (w64 (8 * x8_4)))).toNat * (ekI .u64).sz)), (114, .int .u64 (wu64 x52.Kind)), (113, .int .i64 x52.Kind), (112, bp b60 0), (111, .int .i64 (w64 (480 + (w64 (8 * x8_4))))), (110, v5), (109, .int .i64 (w64 (480 + (w64 (8 * x8_4))))), (108, .int .i64 (w64 (8 * x8_4))), (107, .int .i64 x8_4), (106, .agg #[.int .i64 x52.Kind, .int .i64 x52.Size, .int .i64 x52.Used, .int .i64 x52.First, .int .i64 x52.Radix, .int .i64 x52.Wait, u57, .int .i64 x52.Word, .int .i64 x52.State, .int .i64 x52.Owing, .int .i64 x52.Badge, .int .i64 x52.Prio, .int .i64 x52.On, .int .i64 x52.Owes, .int .i64 x52.Root.Kind, .int .i64 x52.Root.Rights, .int .i64 x52.Root.Obj, .int .i64 x52.Root.Badge, .int .i64 x52.Root.Guard, .int .i64 x52.Root.Bits, .int .i64 x52.Pages.a0, .int .i64 x52.Pages.a1, .int .i64 x52.Pages.a2, .int .i64 x52.Pages.a3, .int .i64 x52.Right.a0, .int .i64 x52.Right.a1, .int .i64 x52.Right.a2, .int .i64 x52.Right.a3, .int .i64 x52.In, .int .i64 x52.Page, .int .i64 x52.Bound, .int .i64 x52.Mask]), (105, idxp v0_Objs (x8_4.toNat * kr_ref10_Obj.sz)), (104, .int .i64 x8_4), (103, v0_Objs), (102, bp bp0 1), (101, bp bp0 0), (100, bp bp0 0), (97, .bool (decide (x8_4 < 32))), (96, .int .i64 x8_4), (8, .int .i64 x8_4), (0, bp bp0 0), (2, .slice none 0 0)], tR (Own 63 (ekI .u64) v5 ((qv5_4.set (w64 (480 + (w64 (8 * x8_4)))).toNat (wu64 x52.Kind)).set (w64 ((w64 (480 + (w64 (8 * x8_4)))) + 1)).toNat (wu64 x52.State))), tR (Box b60 [.int .i64 x52.Kind, .int .i64 x52.Size, .int .i64 x52.Used, .int .i64 x52.First, .int .i64 x52.Radix, .int .i64 x52.Wait, u57, .int .i64 x52.Word, .int .i64 x52.State, .int .i64 x52.Owing, .int .i64 x52.Badge, .int .i64 x52.Prio, .int .i64 x52.On, .int .i64 x52.Owes, .int .i64 x52.Root.Kind, .int .i64 x52.Root.Rights, .int .i64 x52.Root.Obj, .int .i64 x52.Root.Badge, .int .i64 x52.Root.Guard, .int .i64 x52.Root.Bits, .int .i64 x52.Pages.a0, .int .i64 x52.Pages.a1, .int .i64 x52.Pages.a2, .int .i64 x52.Pages.a3, .int .i64 x52.Right.a0, .int .i64 x52.Right.a1, .int .i64 x52.Right.a2, .int .i64 x52.Right.a3, .int .i64 x52.In, .int .i64 x52.Page, .int .i64 x52.Bound, .int .i64 x52.Mask]), tR (Box bp0 [v0_Slots, v0_Objs, .int .i64 a0.NS, .int .i64 a0.NO]), tR (OwnO 70 kr_ref10_Obj v0_Objs raws_v0_Objs A_v0_Objs a0.Objs), tR (OwnO 77 kr_ref10_Slot v0_Slots raws_v0_Slots A_v0_Slots a0.Slots), tR (F), tS 177 (v5), tS 178 (.int .i64 (w64 (480 + (w64 (8 * x8_4))))), tS 179 (.int .i64 (w64 ((w64 (480 + (w64 (8 * x8_4)))) + 2))), tS 180 (v5), tS 181 (.int .i64 (w64 (480 + (w64 (8 * x8_4))))), tS 182 (.int .i64 (w64 ((w64 (480 + (w64 (8 * x8_4)))) + 2))), tS 183 (idxp v5 ((w64 ((w64 (480 + (w64 (8 * x8_4)))) + 2)).toNat * (ekI .u64).sz)), tS 184 (.int .u64 x90), tS 185 (bp b60 9), tS 186 (.int .i64 x52.Owing), tS 187 (.int .i64 (w64 (x52.Owing + 1))), tS 188 (.int .u64 (wu64 (w64 (x52.Owing + 1)))), tS 189 (.int .u64 (wu64 (x90 + (wu64 (w64 (x52.Owing + 1)))))), tS 190 (idxp v5 ((w64 ((w64 (480 + (w64 (8 * x8_4)))) + 2)).toNat * (ekI .u64).sz)), tR (Own 63 (ekI .u64) v5 (((qv5_4.set (w64 (480 + (w64 (8 * x8_4)))).toNat (wu64 x52.Kind)).set (w64 ((w64 (480 + (w64 (8 * x8_4)))) + 1)).toNat (wu64 x52.State)).set (w64 ((w64 (480 + (w64 (8 * x8_4)))) + 2)).toNat (wu64 (x90 + (wu64 (w64 (x52.Owing + 1)))))))]) (D := [⟨[0], [], [10]⟩, ⟨[1], [], [11]⟩, ⟨[11], [], [12]⟩, ⟨[0], [], [13]⟩, ⟨[1], [], [14]⟩, ⟨[14], [], [15]⟩, ⟨[13, 15, 4], [], [16]⟩, ⟨[16, 4], [], [17]⟩, ⟨[2], [], [18]⟩, ⟨[18, 5], [], [19]⟩, ⟨[19], [], [20]⟩, ⟨[20], [], [21]⟩, ⟨[17, 21], [], [22]⟩, ⟨[10, 12, 4], [], [23]⟩, ⟨[22, 23], [4], [24]⟩]) (ini := [0, 1, 2, 3, 4, 5, 6, 7, 8, 9]) (fin := [3, 0, 2, 1, 10, 11, 12, 13, 14, 15, 16, 17, 18, 19, 20, 21, 22, 23, 24, 5, 6, 7, 8, 9]) (bf := [[], [], [1], [], [], [4], [3, 4, 5], [3, 4, 5, 6], [], [8], [8, 9], [8, 9, 10], [3, 4, 5, 6, 7, 8, 9, 10, 11], [0, 1, 2, 3, 4, 5, 6, 7, 8, 9, 10, 11, 12], [0, 1, 2, 3, 4, 5, 6, 7, 8, 9, 10, 11, 12, 13]]) (by kernel_rfl) (by kernel_rfl) (fun x w h1 h2 => (.cons () (.cons () (.cons () (.cons () (.cons () (.cons () (.cons () (.cons () (.cons () (.cons () (.nil ⟨EnvAll.of h1 ⟨rfl, rfl, rfl, rfl, rfl, rfl, rfl, rfl, rfl, rfl, rfl, rfl, rfl, rfl, rfl, rfl, rfl, rfl, rfl, rfl, rfl, rfl, rfl, rfl, rfl, rfl, rfl, rfl, rfl, rfl, rfl, rfl, rfl, rfl, rfl, rfl, rfl, rfl, rfl, rfl, rfl, rfl, rfl, trivial⟩, h2⟩)))))))))))) (fun Q => by kernel_rfl) ⟨?_, ?_, ?_, ?_, ?_, ?_, ?_, ?_, ?_, ?_, ?_, ?_, ?_, ?_, ?_, trivial⟩ ?_
                  · rintro Fr _
                    refine SO.v rfl (opv_move rfl) ?_
                    exact SO.nilZ fun a w h1 h2 h3 h4 h5 => PZ.of h1 h3 h5 (.cons () (.cons () (.nil ⟨EnvAll.of h2 ⟨rfl, rfl, trivial⟩, h4⟩)))
                  · rintro Fr _
                    refine SO.v rfl (opv_move rfl) ?_
                    exact SO.nilZ fun a w h1 h2 h3 h4 h5 => PZ.of h1 h3 h5 (.cons () (.cons () (.nil ⟨EnvAll.of h2 ⟨rfl, rfl, trivial⟩, h4⟩)))
                  · rintro Fr _
                    refine SO.v rfl (opv_add rfl rfl) ?_
                    exact SO.nilZ fun a w h1 h2 h3 h4 h5 => PZ.of h1 h3 h5 (.cons () (.cons () (.nil ⟨EnvAll.of h2 ⟨rfl, rfl, trivial⟩, h4⟩)))
                  · rintro Fr _
                    refine SO.v rfl (opv_move rfl) ?_
                    exact SO.nilZ fun a w h1 h2 h3 h4 h5 => PZ.of h1 h3 h5 (.cons () (.cons () (.nil ⟨EnvAll.of h2 ⟨rfl, rfl, trivial⟩, h4⟩)))
                  · rintro Fr _
                    refine SO.v rfl (opv_move rfl) ?_
                    exact SO.nilZ fun a w h1 h2 h3 h4 h5 => PZ.of h1 h3 h5 (.cons () (.cons () (.nil ⟨EnvAll.of h2 ⟨rfl, rfl, trivial⟩, h4⟩)))
                  · rintro Fr _
                    refine SO.v rfl (opv_add rfl rfl) ?_
                    exact SO.nilZ fun a w h1 h2 h3 h4 h5 => PZ.of h1 h3 h5 (.cons () (.cons () (.nil ⟨EnvAll.of h2 ⟨rfl, rfl, trivial⟩, h4⟩)))
                  · rintro Fr _ _ _
                    refine SO.v rfl (opv_idx Try.underlying24 Try.sizeOf63 hr89 rfl rfl hx91) ?_
                    exact SO.nilZ fun a w h1 h2 h3 h4 h5 => PZ.of h1 h3 h5 (.cons () (.cons () (.cons () (.cons () (.nil ⟨EnvAll.of h2 ⟨rfl, rfl, rfl, trivial⟩, h4⟩)))))
                  · rintro Fr _ _
                    refine SO.loadI1 (j := 0) rfl Try.isAgg63 (Rd.head hr89) hx91 rfl rfl rfl rfl ?_
                    exact SO.nilZ fun a w h1 h2 h3 h4 h5 => PZ.of h1 h3 h5 (.cons () (.cons () (.cons () (.nil ⟨EnvAll.of h2 ⟨rfl, rfl, trivial⟩, h4⟩))))
                  · rintro Fr _
                    refine SO.v rfl (opv_fieldAddr Try.underlying70 rfl Try.sizeOf3 rfl rfl) ?_
                    exact SO.nilZ fun a w h1 h2 h3 h4 h5 => PZ.of h1 h3 h5 (.cons () (.cons () (.nil ⟨EnvAll.of h2 ⟨rfl, rfl, trivial⟩, h4⟩)))
                  · rintro Fr _ _
                    refine SO.load1 rfl Try.isAgg3 rfl rfl ?_
                    exact SO.nilZ fun a w h1 h2 h3 h4 h5 => PZ.of h1 h3 h5 (.cons () (.cons () (.cons () (.nil ⟨EnvAll.of h2 ⟨rfl, rfl, trivial⟩, h4⟩))))
                  · rintro Fr _
                    refine SO.v rfl (opv_add rfl rfl) ?_
                    exact SO.nilZ fun a w h1 h2 h3 h4 h5 => PZ.of h1 h3 h5 (.cons () (.cons () (.nil ⟨EnvAll.of h2 ⟨rfl, rfl, trivial⟩, h4⟩)))
                  · rintro Fr _
                    refine SO.v rfl (opv_conv Try.underlying3 Try.underlying63 rfl) ?_
                    exact SO.nilZ fun a w h1 h2 h3 h4 h5 => PZ.of h1 h3 h5 (.cons () (.cons () (.nil ⟨EnvAll.of h2 ⟨rfl, rfl, trivial⟩, h4⟩)))
                  · rintro Fr _ _
                    refine SO.v rfl (opv_add rfl rfl) ?_
                    exact SO.nilZ fun a w h1 h2 h3 h4 h5 => PZ.of h1 h3 h5 (.cons () (.cons () (.cons () (.nil ⟨EnvAll.of h2 ⟨rfl, rfl, rfl, trivial⟩, h4⟩))))
                  · rintro Fr _ _ _
                    refine SO.v rfl (opv_idx Try.underlying24 Try.sizeOf63 hr89 rfl rfl hx93) ?_
                    exact SO.nilZ fun a w h1 h2 h3 h4 h5 => PZ.of h1 h3 h5 (.cons () (.cons () (.cons () (.cons () (.nil ⟨EnvAll.of h2 ⟨rfl, rfl, rfl, trivial⟩, h4⟩)))))
                  · rintro Fr _ _ _
                    refine SO.storeI1 (j := 0) (z' := wu64 (x90 + (wu64 (w64 (x52.Owing + 1))))) Try.sizeOf63 hx93 rfl rfl rfl rfl rfl rfl ?_
                    refine SO.rd fun hr94 => ?_
                    exact SO.nilZ fun a w h1 h2 h3 h4 h5 => PZ.of h1 h3 h5 (.cons () (.cons () (.cons () (.nil ⟨EnvAll.of h2 ⟨rfl, rfl, trivial⟩, h4⟩))))
                  rintro _ _ _ _ _ _ _ _ _ _ _ _ _ _ _ _ _ _ _ _ _ _ _ _
                  refine S.to (ρ' := [(176, idxp v5 ((w64 ((w64 (480 + (w64 (8 * x8_4)))) + 1)).toNat * (ekI .u64).sz)), (175, .int .u64 (wu64 x52.State)), (174, .int .i64 x52.State), (173, bp b60 8), (172, .int .i64 (w64 ((w64 (480 + (w64 (8 * x8_4)))) + 1))), (171, .int .i64 (w64 (480 + (w64 (8 * x8_4))))), (170, v5), (168, .bool (x52.Kind == 5)), (169, .bool (x52.Kind == 5)), (159, .bool (x52.Kind == 4)), (160, .bool (x52.Kind == 4)), (150, .bool (x52.Kind == 3)), (151, .bool (x52.Kind == 3)), (134, .bool (x52.Kind == 2)), (135, .bool (x52.Kind == 2)), (118, .bool (x52.Kind == 1)), (119, .bool (x52.Kind == 1)), (117, .int .i64 x52.Kind), (116, bp b60 0), (115, idxp v5 ((w64 (480 + (w64 (8 * x8_4)))).toNat * (ekI .u64).sz)), (114, .int .u64 (wu64 x52.Kind)), (113, .int .i64 x52.Kind), (112, bp b60 0), (111, .int .i64 (w64 (480 + (w64 (8 * x8_4))))), (110, v5), (109, .int .i64 (w64 (480 + (w64 (8 * x8_4))))), (108, .int .i64 (w64 (8 * x8_4))), (107, .int .i64 x8_4), (106, .agg #[.int .i64 x52.Kind, .int .i64 x52.Size, .int .i64 x52.Used, .int .i64 x52.First, .int .i64 x52.Radix, .int .i64 x52.Wait, u57, .int .i64 x52.Word, .int .i64 x52.State, .int .i64 x52.Owing, .int .i64 x52.Badge, .int .i64 x52.Prio, .int .i64 x52.On, .int .i64 x52.Owes, .int .i64 x52.Root.Kind, .int .i64 x52.Root.Rights, .int .i64 x52.Root.Obj, .int .i64 x52.Root.Badge, .int .i64 x52.Root.Guard, .int .i64 x52.Root.Bits, .int .i64 x52.Pages.a0, .int .i64 x52.Pages.a1, .int .i64 x52.Pages.a2, .int .i64 x52.Pages.a3, .int .i64 x52.Right.a0, .int .i64 x52.Right.a1, .int .i64 x52.Right.a2, .int .i64 x52.Right.a3, .int .i64 x52.In, .int .i64 x52.Page, .int .i64 x52.Bound, .int .i64 x52.Mask]), (105, idxp v0_Objs (x8_4.toNat * kr_ref10_Obj.sz)), (104, .int .i64 x8_4), (103, v0_Objs), (102, bp bp0 1), (101, bp bp0 0), (100, bp bp0 0), (97, .bool (decide (x8_4 < 32))), (96, .int .i64 x8_4), (8, .int .i64 x8_4), (0, bp bp0 0), (2, .slice none 0 0), (3, v5), (9, bp b60 0), (10, .int .i64 (w64 (480 + (w64 (8 * x8_4))))), (177, v5), (178, .int .i64 (w64 (480 + (w64 (8 * x8_4))))), (179, .int .i64 (w64 ((w64 (480 + (w64 (8 * x8_4)))) + 2))), (180, v5), (181, .int .i64 (w64 (480 + (w64 (8 * x8_4))))), (182, .int .i64 (w64 ((w64 (480 + (w64 (8 * x8_4)))) + 2))), (183, idxp v5 ((w64 ((w64 (480 + (w64 (8 * x8_4)))) + 2)).toNat * (ekI .u64).sz)), (184, .int .u64 x90), (185, bp b60 9), (186, .int .i64 x52.Owing), (187, .int .i64 (w64 (x52.Owing + 1))), (188, .int .u64 (wu64 (w64 (x52.Owing + 1)))), (189, .int .u64 (wu64 (x90 + (wu64 (w64 (x52.Owing + 1)))))), (190, idxp v5 ((w64 ((w64 (480 + (w64 (8 * x8_4)))) + 2)).toNat * (ekI .u64).sz))]) ⟨rfl, rfl, rfl, rfl, rfl, rfl, rfl, rfl, rfl, rfl, rfl, rfl, rfl, rfl, rfl, rfl, rfl, rfl, rfl, rfl, rfl, rfl, rfl, rfl, rfl, rfl, rfl, rfl, rfl, rfl, rfl, rfl, rfl, rfl, rfl, rfl, rfl, rfl, rfl, rfl, rfl, rfl, rfl, rfl, rfl, rfl, rfl, rfl, rfl, rfl, rfl, rfl, rfl, rfl, rfl, rfl, rfl, trivial⟩ ?_
                  refine S.rd fun hr95 => ?_
                  refine S.seq ?_
                  refine S.region ?_
                  refine SO.v rfl (opv_move rfl) ?_
                  refine SO.v rfl (opv_move rfl) ?_
                  refine SO.v rfl (opv_add rfl rfl) ?_
                  refine SO.v rfl (opv_fieldAddr Try.underlying70 rfl Try.sizeOf3 rfl rfl) ?_
                  refine SO.b1 ?_
                  refine SO.load1 rfl Try.isAgg3 rfl rfl ?_
                  refine SO.v rfl (opv_conv Try.underlying3 Try.underlying63 rfl) ?_
                  obtain ⟨x96, hx97, h⟩ := opt_bind h
                  refine SO.v rfl (opv_idx Try.underlying24 Try.sizeOf63 hr95 rfl rfl hx97) ?_
                  refine SO.b1 ?_
                  refine SO.storeI1 (j := 0) (z' := wu64 x52.Word) Try.sizeOf63 hx97 rfl rfl rfl rfl rfl rfl ?_
                  refine SO.rd fun hr98 => ?_
                  refine SO.nil ?_
                  refine S.seq ?_
                  refine S.region ?_
                  refine SO.v rfl (opv_move rfl) ?_
                  refine SO.v rfl (opv_move rfl) ?_
                  refine SO.v rfl (opv_add rfl rfl) ?_
                  refine SO.v rfl (opv_fieldAddr Try.underlying70 rfl Try.sizeOf3 rfl rfl) ?_
                  refine SO.b1 ?_
                  refine SO.load1 rfl Try.isAgg3 rfl rfl ?_
                  refine SO.v rfl (opv_conv Try.underlying3 Try.underlying63 rfl) ?_
                  obtain ⟨x99, hx100, h⟩ := opt_bind h
                  refine SO.v rfl (opv_idx Try.underlying24 Try.sizeOf63 hr98 rfl rfl hx100) ?_
                  refine SO.b1 ?_
                  refine SO.storeI1 (j := 0) (z' := wu64 x52.Badge) Try.sizeOf63 hx100 rfl rfl rfl rfl rfl rfl ?_
                  refine SO.rd fun hr101 => ?_
                  refine SO.nil ?_
                  refine S.seq ?_
                  refine S.region ?_
                  refine SO.v rfl (opv_move rfl) ?_
                  refine SO.v rfl (opv_move rfl) ?_
                  refine SO.v rfl (opv_add rfl rfl) ?_
                  refine SO.v rfl (opv_fieldAddr Try.underlying70 rfl Try.sizeOf3 rfl rfl) ?_
                  refine SO.b1 ?_
                  refine SO.load1 rfl Try.isAgg3 rfl rfl ?_
                  refine SO.v rfl (opv_fieldAddr Try.underlying70 rfl Try.sizeOf3 rfl rfl) ?_
                  refine SO.load1 rfl Try.isAgg3 rfl rfl ?_
                  refine SO.v rfl (opv_add rfl rfl) ?_
                  refine SO.v rfl (opv_mul rfl rfl) ?_
                  refine SO.v rfl (opv_add rfl rfl) ?_
                  refine SO.v rfl (opv_conv Try.underlying3 Try.underlying63 rfl) ?_
                  obtain ⟨x102, hx103, h⟩ := opt_bind h
                  refine SO.v rfl (opv_idx Try.underlying24 Try.sizeOf63 hr101 rfl rfl hx103) ?_
                  refine SO.b1 ?_
                  refine SO.storeI1 (j := 0) (z' := wu64 (w64 (x52.Prio + (w64 (256 * (w64 (x52.On + 1))))))) Try.sizeOf63 hx103 rfl rfl rfl rfl rfl rfl ?_
                  refine SO.rd fun hr104 => ?_
                  refine SO.nil ?_
                  refine S.seq ?_
                  refine S.region ?_
                  refine SO.v rfl (opv_move rfl) ?_
                  refine SO.v rfl (opv_move rfl) ?_
                  refine SO.v rfl (opv_add rfl rfl) ?_
                  refine SO.v rfl (opv_fieldAddr Try.underlying70 rfl Try.sizeOf3 rfl rfl) ?_
                  refine SO.b1 ?_
                  refine SO.load1 rfl Try.isAgg3 rfl rfl ?_
                  refine SO.v rfl (opv_add rfl rfl) ?_
                  refine SO.v rfl (opv_conv Try.underlying3 Try.underlying63 rfl) ?_
                  obtain ⟨x105, hx106, h⟩ := opt_bind h
                  refine SO.v rfl (opv_idx Try.underlying24 Try.sizeOf63 hr104 rfl rfl hx106) ?_
                  refine SO.b1 ?_
                  refine SO.storeI1 (j := 0) (z' := wu64 (w64 (x52.Owes + 1))) Try.sizeOf63 hx106 rfl rfl rfl rfl rfl rfl ?_
                  refine SO.rd fun hr107 => ?_
                  refine SO.nil ?_
                  refine S.region ?_
                  refine SO.v rfl (opv_move rfl) ?_
                  refine SO.v rfl (opv_move rfl) ?_
                  refine SO.v rfl (opv_add rfl rfl) ?_
                  refine SO.v rfl (opv_fieldAddr Try.underlying70 rfl Try.sizeOf66 rfl rfl) ?_
                  refine SO.b1 ?_
                  refine SO.loadN rfl Try.isAgg66 Try.sizeOf66 rfl rfl rfl ?_
                  obtain ⟨t108, ht109, h⟩ := opt_bind h
                  refine SO.call (pre := []) rfl Try.call30 rfl rfl rfl (ref01_Word.ct _ _ ht109) trivial ?_
                  rintro _ _ ⟨rfl, rfl⟩
                  obtain ⟨x110, hx111, h⟩ := opt_bind h
                  refine SO.v rfl (opv_idx Try.underlying24 Try.sizeOf63 hr107 rfl rfl hx111) ?_
                  refine SO.b1 ?_
                  refine SO.storeI1 (j := 0) (z' := t108) Try.sizeOf63 hx111 rfl rfl rfl rfl rfl rfl ?_
                  refine SO.rd fun hr112 => ?_
                  refine SO.nil ?_
                  refine S.inBlock ?_
                  cases h
                  refine S.b5 ?_
                  refine S.b5 ?_
                  refine S.b5 ?_
                  refine S.b5 ?_
                  refine S.b4 ?_
                  refine S.b5 ?_
                  refine S.to ?_ (hk5 () trivial)
                  exact ⟨rfl, rfl, rfl, rfl, rfl, rfl, rfl, rfl, rfl, rfl, rfl, rfl, rfl, rfl, rfl, rfl, rfl, rfl, rfl, rfl, rfl, rfl, rfl, rfl, rfl, rfl, rfl, rfl, trivial⟩
                · replace h := cond_f b86 h
                  refine S.condF rfl b86 ?_
                  refine S.seq ?_
                  refine S.region ?_
                  refine SO.v rfl (opv_eql rfl rfl) ?_
                  refine SO.v rfl (opv_assign rfl) ?_
                  refine SO.nil ?_
                  rcases bool_or (x52.Kind == 6) with b113 | b113
                  · replace h := cond_t b113 h
                    refine S.condT rfl b113 ?_
                    refine S.seq ?_
                    refine S.region ?_
                    refine SO.v rfl (opv_move rfl) ?_
                    refine SO.v rfl (opv_move rfl) ?_
                    refine SO.v rfl (opv_add rfl rfl) ?_
                    refine SO.v rfl (opv_fieldAddr Try.underlying70 rfl Try.sizeOf3 rfl rfl) ?_
                    refine SO.load1 rfl Try.isAgg3 rfl rfl ?_
                    refine SO.v rfl (opv_add rfl rfl) ?_
                    refine SO.v rfl (opv_conv Try.underlying3 Try.underlying63 rfl) ?_
                    obtain ⟨x114, hx115, h⟩ := opt_bind h
                    refine SO.v rfl (opv_idx Try.underlying24 Try.sizeOf63 hr63 rfl rfl hx115) ?_
                    refine SO.b1 ?_
                    refine SO.storeI1 (j := 0) (z' := wu64 (w64 (x52.In + 1))) Try.sizeOf63 hx115 rfl rfl rfl rfl rfl rfl ?_
                    refine SO.rd fun hr116 => ?_
                    refine SO.nil ?_
                    refine S.region ?_
                    refine SO.v rfl (opv_move rfl) ?_
                    refine SO.v rfl (opv_move rfl) ?_
                    refine SO.v rfl (opv_add rfl rfl) ?_
                    refine SO.v rfl (opv_fieldAddr Try.underlying70 rfl Try.sizeOf3 rfl rfl) ?_
                    refine SO.b1 ?_
                    refine SO.load1 rfl Try.isAgg3 rfl rfl ?_
                    refine SO.v rfl (opv_conv Try.underlying3 Try.underlying63 rfl) ?_
                    obtain ⟨x117, hx118, h⟩ := opt_bind h
                    refine SO.v rfl (opv_idx Try.underlying24 Try.sizeOf63 hr116 rfl rfl hx118) ?_
                    refine SO.b1 ?_
                    refine SO.storeI1 (j := 0) (z' := wu64 x52.Page) Try.sizeOf63 hx118 rfl rfl rfl rfl rfl rfl ?_
                    refine SO.rd fun hr119 => ?_
                    refine SO.nil ?_
                    refine S.inBlock ?_
                    cases h
                    refine S.b5 ?_
                    refine S.b5 ?_
                    refine S.b5 ?_
                    refine S.b5 ?_
                    refine S.b4 ?_
                    refine S.b5 ?_
                    refine S.to ?_ (hk5 () trivial)
                    exact ⟨rfl, rfl, rfl, rfl, rfl, rfl, rfl, rfl, rfl, rfl, rfl, rfl, rfl, rfl, rfl, rfl, rfl, rfl, rfl, rfl, rfl, rfl, rfl, rfl, rfl, rfl, rfl, rfl, trivial⟩
                  · replace h := cond_f b113 h
                    refine S.condF rfl b113 ?_
                    refine S.seq ?_
                    refine S.region ?_
                    refine SO.v rfl (opv_eql rfl rfl) ?_
                    refine SO.v rfl (opv_assign rfl) ?_
                    refine SO.nil ?_
                    rcases bool_or (x52.Kind == 7) with b120 | b120
                    · replace h := cond_t b120 h
                      refine S.condT rfl b120 ?_
                      refine S.seq ?_
                      refine S.region ?_
                      refine SO.v rfl (opv_assign rfl) ?_
                      refine SO.nil ?_
                      obtain ⟨⟨j11_e6, j251_e6, j252_e6, qv5_e6⟩, hl6, h⟩ := opt_bind h
                      refine S.b5 ?_
                      refine S.b5 ?_
                      refine S.b5 ?_
                      refine S.b5 ?_
                      refine S.b5 ?_
                      refine S.b5 ?_
                      refine S.to (ρ' := [(11, .int .i64 0), (249, .bool (x52.Kind == 7)), (250, .bool (x52.Kind == 7)), (232, .bool (x52.Kind == 6)), (233, .bool (x52.Kind == 6)), (168, .bool (x52.Kind == 5)), (169, .bool (x52.Kind == 5)), (159, .bool (x52.Kind == 4)), (160, .bool (x52.Kind == 4)), (150, .bool (x52.Kind == 3)), (151, .bool (x52.Kind == 3)), (134, .bool (x52.Kind == 2)), (135, .bool (x52.Kind == 2)), (118, .bool (x52.Kind == 1)), (119, .bool (x52.Kind == 1)), (117, .int .i64 x52.Kind), (116, bp b60 0), (115, idxp v5 ((w64 (480 + (w64 (8 * x8_4)))).toNat * (ekI .u64).sz)), (114, .int .u64 (wu64 x52.Kind)), (113, .int .i64 x52.Kind), (112, bp b60 0), (111, .int .i64 (w64 (480 + (w64 (8 * x8_4))))), (110, v5), (10, .int .i64 (w64 (480 + (w64 (8 * x8_4))))), (109, .int .i64 (w64 (480 + (w64 (8 * x8_4))))), (108, .int .i64 (w64 (8 * x8_4))), (107, .int .i64 x8_4), (9, bp b60 0), (106, .agg #[.int .i64 x52.Kind, .int .i64 x52.Size, .int .i64 x52.Used, .int .i64 x52.First, .int .i64 x52.Radix, .int .i64 x52.Wait, u57, .int .i64 x52.Word, .int .i64 x52.State, .int .i64 x52.Owing, .int .i64 x52.Badge, .int .i64 x52.Prio, .int .i64 x52.On, .int .i64 x52.Owes, .int .i64 x52.Root.Kind, .int .i64 x52.Root.Rights, .int .i64 x52.Root.Obj, .int .i64 x52.Root.Badge, .int .i64 x52.Root.Guard, .int .i64 x52.Root.Bits, .int .i64 x52.Pages.a0, .int .i64 x52.Pages.a1, .int .i64 x52.Pages.a2, .int .i64 x52.Pages.a3, .int .i64 x52.Right.a0, .int .i64 x52.Right.a1, .int .i64 x52.Right.a2, .int .i64 x52.Right.a3, .int .i64 x52.In, .int .i64 x52.Page, .int .i64 x52.Bound, .int .i64 x52.Mask]), (105, idxp v0_Objs (x8_4.toNat * kr_ref10_Obj.sz)), (104, .int .i64 x8_4), (103, v0_Objs), (102, bp bp0 1), (101, bp bp0 0), (100, bp bp0 0), (97, .bool (decide (x8_4 < 32))), (96, .int .i64 x8_4), (8, .int .i64 x8_4), (0, bp bp0 0), (2, .slice none 0 0), (3, v5)]) ⟨rfl, rfl, rfl, rfl, rfl, rfl, rfl, rfl, rfl, rfl, rfl, rfl, rfl, rfl, rfl, rfl, rfl, rfl, rfl, rfl, rfl, rfl, rfl, rfl, rfl, rfl, rfl, rfl, rfl, rfl, rfl, rfl, rfl, rfl, rfl, rfl, rfl, rfl, rfl, rfl, rfl, trivial⟩ ?_
                      refine S.forloop (X := (Int × (List Int)) × Unit) (O := (Int × Int × Bool × (List Int))) (fun m x => ref10_State_Words.l6 x8_4 x52 m x.1) (fun x => match x with | ((x11_6, qv5_6), _) => [(11, .int .i64 x11_6), (249, .bool (x52.Kind == 7)), (250, .bool (x52.Kind == 7)), (232, .bool (x52.Kind == 6)), (233, .bool (x52.Kind == 6)), (168, .bool (x52.Kind == 5)), (169, .bool (x52.Kind == 5)), (159, .bool (x52.Kind == 4)), (160, .bool (x52.Kind == 4)), (150, .bool (x52.Kind == 3)), (151, .bool (x52.Kind == 3)), (134, .bool (x52.Kind == 2)), (135, .bool (x52.Kind == 2)), (118, .bool (x52.Kind == 1)), (119, .bool (x52.Kind == 1)), (117, .int .i64 x52.Kind), (116, bp b60 0), (115, idxp v5 ((w64 (480 + (w64 (8 * x8_4)))).toNat * (ekI .u64).sz)), (114, .int .u64 (wu64 x52.Kind)), (113, .int .i64 x52.Kind), (112, bp b60 0), (111, .int .i64 (w64 (480 + (w64 (8 * x8_4))))), (110, v5), (10, .int .i64 (w64 (480 + (w64 (8 * x8_4))))), (109, .int .i64 (w64 (480 + (w64 (8 * x8_4))))), (108, .int .i64 (w64 (8 * x8_4))), (107, .int .i64 x8_4), (9, bp b60 0), (106, .agg #[.int .i64 x52.Kind, .int .i64 x52.Size, .int .i64 x52.Used, .int .i64 x52.First, .int .i64 x52.Radix, .int .i64 x52.Wait, u57, .int .i64 x52.Word, .int .i64 x52.State, .int .i64 x52.Owing, .int .i64 x52.Badge, .int .i64 x52.Prio, .int .i64 x52.On, .int .i64 x52.Owes, .int .i64 x52.Root.Kind, .int .i64 x52.Root.Rights, .int .i64 x52.Root.Obj, .int .i64 x52.Root.Badge, .int .i64 x52.Root.Guard, .int .i64 x52.Root.Bits, .int .i64 x52.Pages.a0, .int .i64 x52.Pages.a1, .int .i64 x52.Pages.a2, .int .i64 x52.Pages.a3, .int .i64 x52.Right.a0, .int .i64 x52.Right.a1, .int .i64 x52.Right.a2, .int .i64 x52.Right.a3, .int .i64 x52.In, .int .i64 x52.Page, .int .i64 x52.Bound, .int .i64 x52.Mask]), (105, idxp v0_Objs (x8_4.toNat * kr_ref10_Obj.sz)), (104, .int .i64 x8_4), (103, v0_Objs), (102, bp bp0 1), (101, bp bp0 0), (100, bp bp0 0), (97, .bool (decide (x8_4 < 32))), (96, .int .i64 x8_4), (8, .int .i64 x8_4), (0, bp bp0 0), (2, .slice none 0 0), (3, v5)]) (fun x => match x with | ((x11_6, qv5_6), _) => [Box b60 [.int .i64 x52.Kind, .int .i64 x52.Size, .int .i64 x52.Used, .int .i64 x52.First, .int .i64 x52.Radix, .int .i64 x52.Wait, u57, .int .i64 x52.Word, .int .i64 x52.State, .int .i64 x52.Owing, .int .i64 x52.Badge, .int .i64 x52.Prio, .int .i64 x52.On, .int .i64 x52.Owes, .int .i64 x52.Root.Kind, .int .i64 x52.Root.Rights, .int .i64 x52.Root.Obj, .int .i64 x52.Root.Badge, .int .i64 x52.Root.Guard, .int .i64 x52.Root.Bits, .int .i64 x52.Pages.a0, .int .i64 x52.Pages.a1, .int .i64 x52.Pages.a2, .int .i64 x52.Pages.a3, .int .i64 x52.Right.a0, .int .i64 x52.Right.a1, .int .i64 x52.Right.a2, .int .i64 x52.Right.a3, .int .i64 x52.In, .int .i64 x52.Page, .int .i64 x52.Bound, .int .i64 x52.Mask], Own 63 (ekI .u64) v5 qv5_6, Box bp0 [v0_Slots, v0_Objs, .int .i64 a0.NS, .int .i64 a0.NO], OwnO 70 kr_ref10_Obj v0_Objs raws_v0_Objs A_v0_Objs a0.Objs, OwnO 77 kr_ref10_Slot v0_Slots raws_v0_Slots A_v0_Slots a0.Slots, F]) (fun Sk => (fun x => match x with | (j11_e6, j251_e6, j252_e6, qv5_e6) => ∀ _ : Unit, Sk [(0, bp bp0 0), (2, .slice none 0 0), (3, v5), (8, .int .i64 x8_4), (9, bp b60 0), (10, .int .i64 (w64 (480 + (w64 (8 * x8_4))))), (11, .int .i64 j11_e6), (96, .int .i64 x8_4), (97, .bool (decide (x8_4 < 32))), (100, bp bp0 0), (101, bp bp0 0), (102, bp bp0 1), (103, v0_Objs), (104, .int .i64 x8_4), (105, idxp v0_Objs (x8_4.toNat * kr_ref10_Obj.sz)), (106, .agg #[.int .i64 x52.Kind, .int .i64 x52.Size, .int .i64 x52.Used, .int .i64 x52.First, .int .i64 x52.Radix, .int .i64 x52.Wait, u57, .int .i64 x52.Word, .int .i64 x52.State, .int .i64 x52.Owing, .int .i64 x52.Badge, .int .i64 x52.Prio, .int .i64 x52.On, .int .i64 x52.Owes, .int .i64 x52.Root.Kind, .int .i64 x52.Root.Rights, .int .i64 x52.Root.Obj, .int .i64 x52.Root.Badge, .int .i64 x52.Root.Guard, .int .i64 x52.Root.Bits, .int .i64 x52.Pages.a0, .int .i64 x52.Pages.a1, .int .i64 x52.Pages.a2, .int .i64 x52.Pages.a3, .int .i64 x52.Right.a0, .int .i64 x52.Right.a1, .int .i64 x52.Right.a2, .int .i64 x52.Right.a3, .int .i64 x52.In, .int .i64 x52.Page, .int .i64 x52.Bound, .int .i64 x52.Mask]), (107, .int .i64 x8_4), (108, .int .i64 (w64 (8 * x8_4))), (109, .int .i64 (w64 (480 + (w64 (8 * x8_4))))), (110, v5), (111, .int .i64 (w64 (480 + (w64 (8 * x8_4))))), (112, bp b60 0), (113, .int .i64 x52.Kind), (114, .int .u64 (wu64 x52.Kind)), (115, idxp v5 ((w64 (480 + (w64 (8 * x8_4)))).toNat * (ekI .u64).sz)), (116, bp b60 0), (117, .int .i64 x52.Kind), (118, .bool (x52.Kind == 1)), (119, .bool (x52.Kind == 1)), (134, .bool (x52.Kind == 2)), (135, .bool (x52.Kind == 2)), (150, .bool (x52.Kind == 3)), (151, .bool (x52.Kind == 3)), (159, .bool (x52.Kind == 4)), (160, .bool (x52.Kind == 4)), (168, .bool (x52.Kind == 5)), (169, .bool (x52.Kind == 5)), (232, .bool (x52.Kind == 6)), (233, .bool (x52.Kind == 6)), (249, .bool (x52.Kind == 7)), (250, .bool (x52.Kind == 7)), (251, .int .i64 j251_e6), (252, .bool j252_e6)] [Box b60 [.int .i64 x52.Kind, .int .i64 x52.Size, .int .i64 x52.Used, .int .i64 x52.First, .int .i64 x52.Radix, .int .i64 x52.Wait, u57, .int .i64 x52.Word, .int .i64 x52.State, .int .i64 x52.Owing, .int .i64 x52.Badge, .int .i64 x52.Prio, .int .i64 x52.On, .int .i64 x52.Owes, .int .i64 x52.Root.Kind, .int .i64 x52.Root.Rights, .int .i64 x52.Root.Obj, .int .i64 x52.Root.Badge, .int .i64 x52.Root.Guard, .int .i64 x52.Root.Bits, .int .i64 x52.Pages.a0, .int .i64 x52.Pages.a1, .int .i64 x52.Pages.a2, .int .i64 x52.Pages.a3, .int .i64 x52.Right.a0, .int .i64 x52.Right.a1, .int .i64 x52.Right.a2, .int .i64 x52.Right.a3, .int .i64 x52.In, .int .i64 x52.Page, .int .i64 x52.Bound, .int .i64 x52.Mask], Own 63 (ekI .u64) v5 qv5_e6, Box bp0 [v0_Slots, v0_Objs, .int .i64 a0.NS, .int .i64 a0.NO], OwnO 70 kr_ref10_Obj v0_Objs raws_v0_Objs A_v0_Objs a0.Objs, OwnO 77 kr_ref10_Slot v0_Slots raws_v0_Slots A_v0_Slots a0.Slots, F])) (fun _ => rfl) ?_ (m := k) (x := ((0, qv5_4.set (w64 (480 + (w64 (8 * x8_4)))).toNat (wu64 x52.Kind)), ())) hl6 ?_
                      · clear h hl6
                        intro k x o_6 h hK6 ih6
                        obtain ⟨⟨x11_6, qv5_6⟩, _⟩ := x
                        replace h : ref10_State_Words.l6 x8_4 x52 (k + 1) (x11_6, qv5_6) = some o_6 := h
                        first | rw [ref10_State_Words.l6] at h | unfold ref10_State_Words.l6 at h
                        refine S.b1 ?_
                        refine S.rd fun hr121 => ?_
                        refine S.seq ?_
                        refine S.seq ?_
                        refine S.region ?_
                        refine SO.v rfl (opv_move rfl) ?_
                        refine SO.v rfl (opv_lss rfl rfl) ?_
                        refine SO.nil ?_
                        rcases bool_or (decide (x11_6 < 4)) with b122 | b122
                        · replace h := cond_t b122 h
                          refine S.condT rfl b122 ?_
                          refine S.skip ?_
                          refine S.seq ?_
                          refine S.block ?_
                          refine S.seq ?_
                          refine S.region ?_
                          refine SO.v rfl (opv_move rfl) ?_
                          refine SO.v rfl (opv_fieldAddr Try.underlying70 rfl Try.sizeOf68 rfl rfl) ?_
                          obtain ⟨x123, hx124, h⟩ := opt_bind h
                          refine SO.v rfl (opv_idxA Try.underlying68 Try.sizeOf3 rfl rfl hx124) ?_
                          refine SO.b1 ?_
                          refine SO.load1 (v := .int .i64 x123) rfl Try.isAgg3 rfl (by rcases A4.get_cases hx124 with ⟨h1, h2⟩ | ⟨h1, h2⟩ | ⟨h1, h2⟩ | ⟨h1, h2⟩ <;> simp only [h1, h2] <;> rfl) ?_
                          refine SO.v rfl (opv_geq rfl rfl) ?_
                          refine SO.nil ?_
                          rcases bool_or (decide (0 ≤ x123)) with b125 | b125
                          · replace h := cond_t b125 h
                            refine S.condT rfl b125 ?_
                            obtain ⟨x126, hx127, h⟩ := opt_bind h
                            obtain ⟨x128, hx129, h⟩ := opt_bind h
                            obtain ⟨x130, hx131, h⟩ := opt_bind h
                            refine S.draw' (Z := fun Q => ∀ (_ : Unit) (_ : Unit) (_ : Unit) (_ : Unit) (_ : Unit) (_ : Unit) (_ : Unit) (_ : Unit) (_ : Unit) (_ : Unit) (_ : Unit) (_ : Unit) (_ : Unit) (_ : Unit) (_ : Unit) (_ : Unit) (_ : Unit) (_ : Unit) (_ : Unit) (_ : Unit) (_ : Unit) (_ : Unit) (_ : Unit) (_ : Unit) (_ : Unit) (_ : Unit) (_ : Unit) (_ : Unit) (_ : Unit), Q [(11, .int .i64 x11_6), (259, .bool (decide (0 ≤ x123))), (258, .int .i64 x123), (257, bp b60 (20 + x11_6.toNat)), (256, bp b60 20), (255, .int .i64 x11_6), (252, .bool (decide (x11_6 < 4))), (251, .int .i64 x11_6), (249, .bool (x52.Kind == 7)), (250, .bool (x52.Kind == 7)), (232, .bool (x52.Kind == 6)), (233, .bool (x52.Kind == 6)), (168, .bool (x52.Kind == 5)), (169, .bool (x52.Kind == 5)), (159, .bool (x52.Kind == 4)), (160, .bool (x52.Kind == 4)), (150, .bool (x52.Kind == 3)), (151, .bool (x52.Kind == 3)), (134, .bool (x52.Kind == 2)), (135, .bool (x52.Kind == 2)), (118, .bool (x52.Kind == 1)), (119, .bool (x52.Kind == 1)), (117, .int .i64 x52.Kind), (116, bp b60 0), (115, idxp v5 ((w64 (480 + (w64 (8 * x8_4)))).toNat * (ekI .u64).sz)), (114, .int .u64 (wu64 x52.Kind)), (113, .int .i64 x52.Kind), (112, bp b60 0), (111, .int .i64 (w64 (480 + (w64 (8 * x8_4))))), (110, v5), (109, .int .i64 (w64 (480 + (w64 (8 * x8_4))))), (108, .int .i64 (w64 (8 * x8_4))), (107, .int .i64 x8_4), (106, .agg #[.int .i64 x52.Kind, .int .i64 x52.Size, .int .i64 x52.Used, .int .i64 x52.First, .int .i64 x52.Radix, .int .i64 x52.Wait, u57, .int .i64 x52.Word, .int .i64 x52.State, .int .i64 x52.Owing, .int .i64 x52.Badge, .int .i64 x52.Prio, .int .i64 x52.On, .int .i64 x52.Owes, .int .i64 x52.Root.Kind, .int .i64 x52.Root.Rights, .int .i64 x52.Root.Obj, .int .i64 x52.Root.Badge, .int .i64 x52.Root.Guard, .int .i64 x52.Root.Bits, .int .i64 x52.Pages.a0, .int .i64 x52.Pages.a1, .int .i64 x52.Pages.a2, .int .i64 x52.Pages.a3, .int .i64 x52.Right.a0, .int .i64 x52.Right.a1, .int .i64 x52.Right.a2, .int .i64 x52.Right.a3, .int .i64 x52.In, .int .i64 x52.Page, .int .i64 x52.Bound, .int .i64 x52.Mask]), (105, idxp v0_Objs (x8_4.toNat * kr_ref10_Obj.sz)), (104, .int .i64 x8_4), (103, v0_Objs), (102, bp bp0 1), (101, bp bp0 0), (100, bp bp0 0), (97, .bool (decide (x8_4 < 32))), (96, .int .i64 x8_4), (8, .int .i64 x8_4), (0, bp bp0 0), (2, .slice none 0 0), (10, .int .i64 (w64 (480 + (w64 (8 * x8_4))))), (9, bp b60 0), (3, v5), (260, v5), (261, .int .i64 (w64 (480 + (w64 (8 * x8_4))))), (262, .int .i64 (w64 ((w64 (480 + (w64 (8 * x8_4)))) + 1))), (263, .int .i64 x11_6), (264, .int .i64 (w64 ((w64 ((w64 (480 + (w64 (8 * x8_4)))) + 1)) + x11_6))), (265, .int .i64 x11_6), (266, bp b60 20), (267, bp b60 (20 + x11_6.toNat)), (268, .int .i64 x126), (269, .int .i64 (w64 (x126 + 1))), (270, .int .i64 (w64 (8 * (w64 (x126 + 1))))), (271, .int .i64 x11_6), (272, bp b60 24), (273, bp b60 (24 + x11_6.toNat)), (274, .int .i64 x128), (275, .int .i64 (w64 ((w64 (8 * (w64 (x126 + 1)))) + x128))), (276, .int .u64 (wu64 (w64 ((w64 (8 * (w64 (x126 + 1)))) + x128)))), (277, idxp v5 ((w64 ((w64 ((w64 (480 + (w64 (8 * x8_4)))) + 1)) + x11_6)).toNat * (ekI .u64).sz))] [Box b60 [.int .i64 x52.Kind, .int .i64 x52.Size, .int .i64 x52.Used, .int .i64 x52.First, .int .i64 x52.Radix, .int .i64 x52.Wait, u57, .int .i64 x52.Word, .int .i64 x52.State, .int .i64 x52.Owing, .int .i64 x52.Badge, .int .i64 x52.Prio, .int .i64 x52.On, .int .i64 x52.Owes, .int .i64 x52.Root.Kind, .int .i64 x52.Root.Rights, .int .i64 x52.Root.Obj, .int .i64 x52.Root.Badge, .int .i64 x52.Root.Guard, .int .i64 x52.Root.Bits, .int .i64 x52.Pages.a0, .int .i64 x52.Pages.a1, .int .i64 x52.Pages.a2, .int .i64 x52.Pages.a3, .int .i64 x52.Right.a0, .int .i64 x52.Right.a1, .int .i64 x52.Right.a2, .int .i64 x52.Right.a3, .int .i64 x52.In, .int .i64 x52.Page, .int .i64 x52.Bound, .int .i64 x52.Mask], Own 63 (ekI .u64) v5 (qv5_6.set (w64 ((w64 ((w64 (480 + (w64 (8 * x8_4)))) + 1)) + x11_6)).toNat (wu64 (w64 ((w64 (8 * (w64 (x126 + 1)))) + x128)))), Box bp0 [v0_Slots, v0_Objs, .int .i64 a0.NS, .int .i64 a0.NO], OwnO 70 kr_ref10_Obj v0_Objs raws_v0_Objs A_v0_Objs a0.Objs, OwnO 77 kr_ref10_Slot v0_Slots raws_v0_Slots A_v0_Slots a0.Slots, F]) (T := [tS 3 (v5), tS 10 (.int .i64 (w64 (480 + (w64 (8 * x8_4))))), tS 11 (.int .i64 x11_6), tS 9 (bp b60 0), tE [(259, .bool (decide (0 ≤ x123))), (258, .int .i64 x123), (257, bp b60 (20 + x11_6.toNat)), (256, bp b60 20), (255, .int .i64 x11_6), (252, .bool (decide (x11_6 < 4))), (251, .int .i64 x11_6), (249, .bool (x52.Kind == 7)), (250, .bool (x52.Kind == 7)), (232, .bool (x52.Kind == 6)), (233, .bool (x52.Kind == 6)), (168, .bool (x52.Kind == 5)), (169, .bool (x52.Kind == 5)), (159, .bool (x52.Kind == 4)), (160, .bool (x52.Kind == 4)), (150, .bool (x52.Kind == 3)), (151, .bool (x52.Kind == 3)), (134, .bool (x52.Kind == 2)), (135, .bool (x52.Kind == 2)), (118, .bool (x52.Kind == 1)), (119, .bool (x52.Kind == 1)), (117, .int .i64 x52.Kind), (116, bp b60 0), (115, idxp v5 ((w64 (480 + (w64 (8 * x8_4)))).toNat * (ekI .u64).sz)), (114, .int .u64 (wu64 x52.Kind)), (113, .int .i64 x52.Kind), (112, bp b60 0), (111, .int .i64 (w64 (480 + (w64 (8 * x8_4))))), (110, v5), (109, .int .i64 (w64 (480 + (w64 (8 * x8_4))))), (108, .int .i64 (w64 (8 * x8_4))), (107, .int .i64 x8_4), (106, .agg #[.int .i64 x52.Kind, .int .i64 x52.Size, .int .i64 x52.Used, .int .i64 x52.First, .int .i64 x52.Radix, .int .i64 x52.Wait, u57, .int .i64 x52.Word, .int .i64 x52.State, .int .i64 x52.Owing, .int .i64 x52.Badge, .int .i64 x52.Prio, .int .i64 x52.On, .int .i64 x52.Owes, .int .i64 x52.Root.Kind, .int .i64 x52.Root.Rights, .int .i64 x52.Root.Obj, .int .i64 x52.Root.Badge, .int .i64 x52.Root.Guard, .int .i64 x52.Root.Bits, .int .i64 x52.Pages.a0, .int .i64 x52.Pages.a1, .int .i64 x52.Pages.a2, .int .i64 x52.Pages.a3, .int .i64 x52.Right.a0, .int .i64 x52.Right.a1, .int .i64 x52.Right.a2, .int .i64 x52.Right.a3, .int .i64 x52.In, .int .i64 x52.Page, .int .i64 x52.Bound, .int .i64 x52.Mask]), (105, idxp v0_Objs (x8_4.toNat * kr_ref10_Obj.sz)), (104, .int .i64 x8_4), (103, v0_Objs), (102, bp bp0 1), (101, bp bp0 0), (100, bp bp0 0), (97, .bool (decide (x8_4 < 32))), (96, .int .i64 x8_4), (8, .int .i64 x8_4), (0, bp bp0 0), (2, .slice none 0 0)], tR (Box b60 [.int .i64 x52.Kind, .int .i64 x52.Size, .int .i64 x52.Used, .int .i64 x52.First, .int .i64 x52.Radix, .int .i64 x52.Wait, u57, .int .i64 x52.Word, .int .i64 x52.State, .int .i64 x52.Owing, .int .i64 x52.Badge, .int .i64 x52.Prio, .int .i64 x52.On, .int .i64 x52.Owes, .int .i64 x52.Root.Kind, .int .i64 x52.Root.Rights, .int .i64 x52.Root.Obj, .int .i64 x52.Root.Badge, .int .i64 x52.Root.Guard, .int .i64 x52.Root.Bits, .int .i64 x52.Pages.a0, .int .i64 x52.Pages.a1, .int .i64 x52.Pages.a2, .int .i64 x52.Pages.a3, .int .i64 x52.Right.a0, .int .i64 x52.Right.a1, .int .i64 x52.Right.a2, .int .i64 x52.Right.a3, .int .i64 x52.In, .int .i64 x52.Page, .int .i64 x52.Bound, .int .i64 x52.Mask]), tR (Own 63 (ekI .u64) v5 qv5_6), tR (Box bp0 [v0_Slots, v0_Objs, .int .i64 a0.NS, .int .i64 a0.NO]), tR (OwnO 70 kr_ref10_Obj v0_Objs raws_v0_Objs A_v0_Objs a0.Objs), tR (OwnO 77 kr_ref10_Slot v0_Slots raws_v0_Slots A_v0_Slots a0.Slots), tR (F), tS 260 (v5), tS 261 (.int .i64 (w64 (480 + (w64 (8 * x8_4))))), tS 262 (.int .i64 (w64 ((w64 (480 + (w64 (8 * x8_4)))) + 1))), tS 263 (.int .i64 x11_6), tS 264 (.int .i64 (w64 ((w64 ((w64 (480 + (w64 (8 * x8_4)))) + 1)) + x11_6))), tS 265 (.int .i64 x11_6), tS 266 (bp b60 20), tS 267 (bp b60 (20 + x11_6.toNat)), tS 268 (.int .i64 x126), tS 269 (.int .i64 (w64 (x126 + 1))), tS 270 (.int .i64 (w64 (8 * (w64 (x126 + 1))))), tS 271 (.int .i64 x11_6), tS 272 (bp b60 24), tS 273 (bp b60 (24 + x11_6.toNat)), tS 274 (.int .i64 x128), tS 275 (.int .i64 (w64 ((w64 (8 * (w64 (x126 + 1)))) + x128))), tS 276 (.int .u64 (wu64 (w64 ((w64 (8 * (w64 (x126 + 1)))) + x128)))), tS 277 (idxp v5 ((w64 ((w64 ((w64 (480 + (w64 (8 * x8_4)))) + 1)) + x11_6)).toNat * (ekI .u64).sz)), tR (Own 63 (ekI .u64) v5 (qv5_6.set (w64 ((w64 ((w64 (480 + (w64 (8 * x8_4)))) + 1)) + x11_6)).toNat (wu64 (w64 ((w64 (8 * (w64 (x126 + 1)))) + x128)))))]) (D := [⟨[0], [], [11]⟩, ⟨[1], [], [12]⟩, ⟨[12], [], [13]⟩, ⟨[2], [], [14]⟩, ⟨[13, 14], [], [15]⟩, ⟨[2], [], [16]⟩, ⟨[3], [], [17]⟩, ⟨[16, 17, 5], [], [18]⟩, ⟨[18, 5], [], [19]⟩, ⟨[19], [], [20]⟩, ⟨[20], [], [21]⟩, ⟨[2], [], [22]⟩, ⟨[3], [], [23]⟩, ⟨[22, 23, 5], [], [24]⟩, ⟨[24, 5], [], [25]⟩, ⟨[21, 25], [], [26]⟩, ⟨[26], [], [27]⟩, ⟨[11, 15, 6], [], [28]⟩, ⟨[27, 28], [6], [29]⟩]) (ini := [0, 1, 2, 3, 4, 5, 6, 7, 8, 9, 10]) (fin := [2, 4, 1, 3, 0, 11, 12, 13, 14, 15, 16, 17, 18, 19, 20, 21, 22, 23, 24, 25, 26, 27, 28, 5, 29, 7, 8, 9, 10]) (bf := [[], [], [1], [], [1, 2, 3], [], [], [5, 6], [5, 6, 7], [5, 6, 7, 8], [5, 6, 7, 8, 9], [], [], [11, 12], [11, 12, 13], [5, 6, 7, 8, 9, 10, 11, 12, 13, 14], [5, 6, 7, 8, 9, 10, 11, 12, 13, 14, 15], [0, 1, 2, 3, 4, 5, 6, 7, 8, 9, 10, 11, 12, 13, 14, 15, 16], [0, 1, 2, 3, 4, 5, 6, 7, 8, 9, 10, 11, 12, 13, 14, 15, 16, 17]]) (by kernel_rfl) (by kernel_rfl) (fun x w h1 h2 => (.cons () (.cons () (.cons () (.cons () (.cons () (.cons () (.cons () (.cons () (.cons () (.cons () (.cons () (.nil ⟨EnvAll.of h1 ⟨rfl, rfl, rfl, rfl, rfl, rfl, rfl, rfl, rfl, rfl, rfl, rfl, rfl, rfl, rfl, rfl, rfl, rfl, rfl, rfl, rfl, rfl, rfl, rfl, rfl, rfl, rfl, rfl, rfl, rfl, rfl, rfl, rfl, rfl, rfl, rfl, rfl, rfl, rfl, rfl, rfl, rfl, rfl, rfl, rfl, rfl, rfl, rfl, trivial⟩, h2⟩))))))))))))) (fun Q => by kernel_rfl) ⟨?_, ?_, ?_, ?_, ?_, ?_, ?_, ?_, ?_, ?_, ?_, ?_, ?_, ?_, ?_, ?_, ?_, ?_, ?_, trivial⟩ ?_
                            · rintro Fr _
                              refine SO.v rfl (opv_move rfl) ?_
                              exact SO.nilZ fun a w h1 h2 h3 h4 h5 => PZ.of h1 h3 h5 (.cons () (.cons () (.nil ⟨EnvAll.of h2 ⟨rfl, rfl, trivial⟩, h4⟩)))
                            · rintro Fr _
                              refine SO.v rfl (opv_move rfl) ?_
                              exact SO.nilZ fun a w h1 h2 h3 h4 h5 => PZ.of h1 h3 h5 (.cons () (.cons () (.nil ⟨EnvAll.of h2 ⟨rfl, rfl, trivial⟩, h4⟩)))
                            · rintro Fr _
                              refine SO.v rfl (opv_add rfl rfl) ?_
                              exact SO.nilZ fun a w h1 h2 h3 h4 h5 => PZ.of h1 h3 h5 (.cons () (.cons () (.nil ⟨EnvAll.of h2 ⟨rfl, rfl, trivial⟩, h4⟩)))
                            · rintro Fr _
                              refine SO.v rfl (opv_move rfl) ?_
                              exact SO.nilZ fun a w h1 h2 h3 h4 h5 => PZ.of h1 h3 h5 (.cons () (.cons () (.nil ⟨EnvAll.of h2 ⟨rfl, rfl, trivial⟩, h4⟩)))
                            · rintro Fr _ _
                              refine SO.v rfl (opv_add rfl rfl) ?_
                              exact SO.nilZ fun a w h1 h2 h3 h4 h5 => PZ.of h1 h3 h5 (.cons () (.cons () (.cons () (.nil ⟨EnvAll.of h2 ⟨rfl, rfl, rfl, trivial⟩, h4⟩))))
                            · rintro Fr _
                              refine SO.v rfl (opv_move rfl) ?_
                              exact SO.nilZ fun a w h1 h2 h3 h4 h5 => PZ.of h1 h3 h5 (.cons () (.cons () (.nil ⟨EnvAll.of h2 ⟨rfl, rfl, trivial⟩, h4⟩)))
                            · rintro Fr _
                              refine SO.v rfl (opv_fieldAddr Try.underlying70 rfl Try.sizeOf68 rfl rfl) ?_
                              exact SO.nilZ fun a w h1 h2 h3 h4 h5 => PZ.of h1 h3 h5 (.cons () (.cons () (.nil ⟨EnvAll.of h2 ⟨rfl, rfl, trivial⟩, h4⟩)))
                            · rintro Fr _ _ _
                              refine SO.v rfl (opv_idxA Try.underlying68 Try.sizeOf3 rfl rfl hx127) ?_
                              exact SO.nilZ fun a w h1 h2 h3 h4 h5 => PZ.of h1 h3 h5 (.cons () (.cons () (.cons () (.cons () (.nil ⟨EnvAll.of h2 ⟨rfl, rfl, rfl, trivial⟩, h4⟩)))))
                            · rintro Fr _ _
                              refine SO.load1 (v := .int .i64 x126) rfl Try.isAgg3 rfl (by rcases A4.get_cases hx127 with ⟨h1, h2⟩ | ⟨h1, h2⟩ | ⟨h1, h2⟩ | ⟨h1, h2⟩ <;> simp only [h1, h2] <;> rfl) ?_
                              exact SO.nilZ fun a w h1 h2 h3 h4 h5 => PZ.of h1 h3 h5 (.cons () (.cons () (.cons () (.nil ⟨EnvAll.of h2 ⟨rfl, rfl, trivial⟩, h4⟩))))
                            · rintro Fr _
                              refine SO.v rfl (opv_add rfl rfl) ?_
                              exact SO.nilZ fun a w h1 h2 h3 h4 h5 => PZ.of h1 h3 h5 (.cons () (.cons () (.nil ⟨EnvAll.of h2 ⟨rfl, rfl, trivial⟩, h4⟩)))
                            · rintro Fr _
                              refine SO.v rfl (opv_mul rfl rfl) ?_
                              exact SO.nilZ fun a w h1 h2 h3 h4 h5 => PZ.of h1 h3 h5 (.cons () (.cons () (.nil ⟨EnvAll.of h2 ⟨rfl, rfl, trivial⟩, h4⟩)))
                            · rintro Fr _
                              refine SO.v rfl (opv_move rfl) ?_
                              exact SO.nilZ fun a w h1 h2 h3 h4 h5 => PZ.of h1 h3 h5 (.cons () (.cons () (.nil ⟨EnvAll.of h2 ⟨rfl, rfl, trivial⟩, h4⟩)))
                            · rintro Fr _
                              refine SO.v rfl (opv_fieldAddr Try.underlying70 rfl Try.sizeOf68 rfl rfl) ?_
                              exact SO.nilZ fun a w h1 h2 h3 h4 h5 => PZ.of h1 h3 h5 (.cons () (.cons () (.nil ⟨EnvAll.of h2 ⟨rfl, rfl, trivial⟩, h4⟩)))
                            · rintro Fr _ _ _
                              refine SO.v rfl (opv_idxA Try.underlying68 Try.sizeOf3 rfl rfl hx129) ?_
                              exact SO.nilZ fun a w h1 h2 h3 h4 h5 => PZ.of h1 h3 h5 (.cons () (.cons () (.cons () (.cons () (.nil ⟨EnvAll.of h2 ⟨rfl, rfl, rfl, trivial⟩, h4⟩)))))
                            · rintro Fr _ _
                              refine SO.load1 (v := .int .i64 x128) rfl Try.isAgg3 rfl (by rcases A4.get_cases hx129 with ⟨h1, h2⟩ | ⟨h1, h2⟩ | ⟨h1, h2⟩ | ⟨h1, h2⟩ <;> simp only [h1, h2] <;> rfl) ?_
                              exact SO.nilZ fun a w h1 h2 h3 h4 h5 => PZ.of h1 h3 h5 (.cons () (.cons () (.cons () (.nil ⟨EnvAll.of h2 ⟨rfl, rfl, trivial⟩, h4⟩))))
                            · rintro Fr _ _
                              refine SO.v rfl (opv_add rfl rfl) ?_
                              exact SO.nilZ fun a w h1 h2 h3 h4 h5 => PZ.of h1 h3 h5 (.cons () (.cons () (.cons () (.nil ⟨EnvAll.of h2 ⟨rfl, rfl, rfl, trivial⟩, h4⟩))))
                            · rintro Fr _
                              refine SO.v rfl (opv_conv Try.underlying3 Try.underlying63 rfl) ?_
                              exact SO.nilZ fun a w h1 h2 h3 h4 h5 => PZ.of h1 h3 h5 (.cons () (.cons () (.nil ⟨EnvAll.of h2 ⟨rfl, rfl, trivial⟩, h4⟩)))
                            · rintro Fr _ _ _
                              refine SO.v rfl (opv_idx Try.underlying24 Try.sizeOf63 hr121 rfl rfl hx131) ?_
                              exact SO.nilZ fun a w h1 h2 h3 h4 h5 => PZ.of h1 h3 h5 (.cons () (.cons () (.cons () (.cons () (.nil ⟨EnvAll.of h2 ⟨rfl, rfl, rfl, trivial⟩, h4⟩)))))
                            · rintro Fr _ _ _
                              refine SO.storeI1 (j := 0) (z' := wu64 (w64 ((w64 (8 * (w64 (x126 + 1)))) + x128))) Try.sizeOf63 hx131 rfl rfl rfl rfl rfl rfl ?_
                              refine SO.rd fun hr132 => ?_
                              exact SO.nilZ fun a w h1 h2 h3 h4 h5 => PZ.of h1 h3 h5 (.cons () (.cons () (.cons () (.nil ⟨EnvAll.of h2 ⟨rfl, rfl, trivial⟩, h4⟩))))
                            rintro _ _ _ _ _ _ _ _ _ _ _ _ _ _ _ _ _ _ _ _ _ _ _ _ _ _ _ _ _
                            refine S.to (ρ' := [(11, .int .i64 x11_6), (259, .bool (decide (0 ≤ x123))), (258, .int .i64 x123), (257, bp b60 (20 + x11_6.toNat)), (256, bp b60 20), (255, .int .i64 x11_6), (252, .bool (decide (x11_6 < 4))), (251, .int .i64 x11_6), (249, .bool (x52.Kind == 7)), (250, .bool (x52.Kind == 7)), (232, .bool (x52.Kind == 6)), (233, .bool (x52.Kind == 6)), (168, .bool (x52.Kind == 5)), (169, .bool (x52.Kind == 5)), (159, .bool (x52.Kind == 4)), (160, .bool (x52.Kind == 4)), (150, .bool (x52.Kind == 3)), (151, .bool (x52.Kind == 3)), (134, .bool (x52.Kind == 2)), (135, .bool (x52.Kind == 2)), (118, .bool (x52.Kind == 1)), (119, .bool (x52.Kind == 1)), (117, .int .i64 x52.Kind), (116, bp b60 0), (115, idxp v5 ((w64 (480 + (w64 (8 * x8_4)))).toNat * (ekI .u64).sz)), (114, .int .u64 (wu64 x52.Kind)), (113, .int .i64 x52.Kind), (112, bp b60 0), (111, .int .i64 (w64 (480 + (w64 (8 * x8_4))))), (110, v5), (109, .int .i64 (w64 (480 + (w64 (8 * x8_4))))), (108, .int .i64 (w64 (8 * x8_4))), (107, .int .i64 x8_4), (106, .agg #[.int .i64 x52.Kind, .int .i64 x52.Size, .int .i64 x52.Used, .int .i64 x52.First, .int .i64 x52.Radix, .int .i64 x52.Wait, u57, .int .i64 x52.Word, .int .i64 x52.State, .int .i64 x52.Owing, .int .i64 x52.Badge, .int .i64 x52.Prio, .int .i64 x52.On, .int .i64 x52.Owes, .int .i64 x52.Root.Kind, .int .i64 x52.Root.Rights, .int .i64 x52.Root.Obj, .int .i64 x52.Root.Badge, .int .i64 x52.Root.Guard, .int .i64 x52.Root.Bits, .int .i64 x52.Pages.a0, .int .i64 x52.Pages.a1, .int .i64 x52.Pages.a2, .int .i64 x52.Pages.a3, .int .i64 x52.Right.a0, .int .i64 x52.Right.a1, .int .i64 x52.Right.a2, .int .i64 x52.Right.a3, .int .i64 x52.In, .int .i64 x52.Page, .int .i64 x52.Bound, .int .i64 x52.Mask]), (105, idxp v0_Objs (x8_4.toNat * kr_ref10_Obj.sz)), (104, .int .i64 x8_4), (103, v0_Objs), (102, bp bp0 1), (101, bp bp0 0), (100, bp bp0 0), (97, .bool (decide (x8_4 < 32))), (96, .int .i64 x8_4), (8, .int .i64 x8_4), (0, bp bp0 0), (2, .slice none 0 0), (10, .int .i64 (w64 (480 + (w64 (8 * x8_4))))), (9, bp b60 0), (3, v5), (260, v5), (261, .int .i64 (w64 (480 + (w64 (8 * x8_4))))), (262, .int .i64 (w64 ((w64 (480 + (w64 (8 * x8_4)))) + 1))), (263, .int .i64 x11_6), (264, .int .i64 (w64 ((w64 ((w64 (480 + (w64 (8 * x8_4)))) + 1)) + x11_6))), (265, .int .i64 x11_6), (266, bp b60 20), (267, bp b60 (20 + x11_6.toNat)), (268, .int .i64 x126), (269, .int .i64 (w64 (x126 + 1))), (270, .int .i64 (w64 (8 * (w64 (x126 + 1))))), (271, .int .i64 x11_6), (272, bp b60 24), (273, bp b60 (24 + x11_6.toNat)), (274, .int .i64 x128), (275, .int .i64 (w64 ((w64 (8 * (w64 (x126 + 1)))) + x128))), (276, .int .u64 (wu64 (w64 ((w64 (8 * (w64 (x126 + 1)))) + x128)))), (277, idxp v5 ((w64 ((w64 ((w64 (480 + (w64 (8 * x8_4)))) + 1)) + x11_6)).toNat * (ekI .u64).sz))]) ⟨rfl, rfl, rfl, rfl, rfl, rfl, rfl, rfl, rfl, rfl, rfl, rfl, rfl, rfl, rfl, rfl, rfl, rfl, rfl, rfl, rfl, rfl, rfl, rfl, rfl, rfl, rfl, rfl, rfl, rfl, rfl, rfl, rfl, rfl, rfl, rfl, rfl, rfl, rfl, rfl, rfl, rfl, rfl, rfl, rfl, rfl, rfl, rfl, rfl, rfl, rfl, rfl, rfl, rfl, rfl, rfl, rfl, rfl, rfl, rfl, rfl, rfl, rfl, rfl, rfl, rfl, trivial⟩ ?_
                            refine S.b1 ?_
                            refine S.rd fun hr133 => ?_
                            refine S.inBlock ?_
                            refine S.region ?_
                            refine SO.v rfl (opv_move rfl) ?_
                            refine SO.v rfl (opv_add rfl rfl) ?_
                            refine SO.v rfl (opv_assign rfl) ?_
                            refine SO.nil ?_
                            refine S.b5 ?_
                            refine S.b5 ?_
                            refine S.b5 ?_
                            refine S.b5 ?_
                            refine S.b4 ?_
                            refine S.b5 ?_
                            refine S.to ?_ (ih6 ((w64 (x11_6 + 1), qv5_6.set (w64 ((w64 ((w64 (480 + (w64 (8 * x8_4)))) + 1)) + x11_6)).toNat (wu64 (w64 ((w64 (8 * (w64 (x126 + 1)))) + x128)))), ()) h)
                            exact ⟨rfl, rfl, rfl, rfl, rfl, rfl, rfl, rfl, rfl, rfl, rfl, rfl, rfl, rfl, rfl, rfl, rfl, rfl, rfl, rfl, rfl, rfl, rfl, rfl, rfl, rfl, rfl, rfl, rfl, rfl, rfl, rfl, rfl, rfl, rfl, rfl, rfl, rfl, rfl, rfl, rfl, trivial⟩
                          · replace h := cond_f b125 h
                            refine S.condF rfl b125 ?_
                            refine S.skip ?_
                            refine S.inBlock ?_
                            refine S.region ?_
                            refine SO.v rfl (opv_move rfl) ?_
                            refine SO.v rfl (opv_add rfl rfl) ?_
                            refine SO.v rfl (opv_assign rfl) ?_
                            refine SO.nil ?_
                            refine S.b5 ?_
                            refine S.b5 ?_
                            refine S.b5 ?_
                            refine S.b5 ?_
                            refine S.b5 ?_
                            refine S.b5 ?_
                            refine S.to ?_ (ih6 ((w64 (x11_6 + 1), qv5_6), ()) h)
                            exact ⟨rfl, rfl, rfl, rfl, rfl, rfl, rfl, rfl, rfl, rfl, rfl, rfl, rfl, rfl, rfl, rfl, rfl, rfl, rfl, rfl, rfl, rfl, rfl, rfl, rfl, rfl, rfl, rfl, rfl, rfl, rfl, rfl, rfl, rfl, rfl, rfl, rfl, rfl, rfl, rfl, rfl, trivial⟩
                        · replace h := cond_f b122 h
                          refine S.condF rfl b122 ?_
                          refine S.exit rfl ?_
                          cases h
                          refine S.b5 ?_
                          refine S.b5 ?_
                          refine S.b5 ?_
                          refine S.b5 ?_
                          refine S.b4 ?_
                          refine S.b5 ?_
                          refine S.to ?_ (hK6 ())
                          exact ⟨rfl, rfl, rfl, rfl, rfl, rfl, rfl, rfl, rfl, rfl, rfl, rfl, rfl, rfl, rfl, rfl, rfl, rfl, rfl, rfl, rfl, rfl, rfl, rfl, rfl, rfl, rfl, rfl, rfl, rfl, rfl, rfl, rfl, rfl, rfl, rfl, rfl, rfl, rfl, rfl, rfl, rfl, rfl, trivial⟩
                      rintro _
                      refine S.b1 ?_
                      refine S.rd fun hr134 => ?_
                      refine S.inBlock ?_
                      cases h
                      refine S.b5 ?_
                      refine S.b5 ?_
                      refine S.b5 ?_
                      refine S.b5 ?_
                      refine S.b4 ?_
                      refine S.b5 ?_
                      refine S.to ?_ (hk5 () trivial)
                      exact ⟨rfl, rfl, rfl, rfl, rfl, rfl, rfl, rfl, rfl, rfl, rfl, rfl, rfl, rfl, rfl, rfl, rfl, rfl, rfl, rfl, rfl, rfl, rfl, rfl, rfl, rfl, rfl, rfl, trivial⟩
                    · replace h := cond_f b120 h
                      refine S.condF rfl b120 ?_
                      refine S.seq ?_
                      refine S.region ?_
                      refine SO.v rfl (opv_eql rfl rfl) ?_
                      refine SO.v rfl (opv_assign rfl) ?_
                      refine SO.nil ?_
                      rcases bool_or (x52.Kind == 8) with b135 | b135
                      · replace h := cond_t b135 h
                        refine S.condT rfl b135 ?_
                        refine S.seq ?_
                        refine S.region ?_
                        refine SO.v rfl (opv_move rfl) ?_
                        refine SO.v rfl (opv_move rfl) ?_
                        refine SO.v rfl (opv_add rfl rfl) ?_
                        refine SO.v rfl (opv_fieldAddr Try.underlying70 rfl Try.sizeOf3 rfl rfl) ?_
                        refine SO.load1 rfl Try.isAgg3 rfl rfl ?_
                        refine SO.v rfl (opv_add rfl rfl) ?_
                        refine SO.v rfl (opv_conv Try.underlying3 Try.underlying63 rfl) ?_
                        obtain ⟨x136, hx137, h⟩ := opt_bind h
                        refine SO.v rfl (opv_idx Try.underlying24 Try.sizeOf63 hr63 rfl rfl hx137) ?_
                        refine SO.b1 ?_
                        refine SO.storeI1 (j := 0) (z' := wu64 (w64 (x52.Bound + 1))) Try.sizeOf63 hx137 rfl rfl rfl rfl rfl rfl ?_
                        refine SO.rd fun hr138 => ?_
                        refine SO.nil ?_
                        refine S.seq ?_
                        refine S.region ?_
                        refine SO.v rfl (opv_move rfl) ?_
                        refine SO.v rfl (opv_move rfl) ?_
                        refine SO.v rfl (opv_add rfl rfl) ?_
                        refine SO.v rfl (opv_fieldAddr Try.underlying70 rfl Try.sizeOf3 rfl rfl) ?_
                        refine SO.b1 ?_
                        refine SO.load1 rfl Try.isAgg3 rfl rfl ?_
                        refine SO.v rfl (opv_conv Try.underlying3 Try.underlying63 rfl) ?_
                        obtain ⟨x139, hx140, h⟩ := opt_bind h
                        refine SO.v rfl (opv_idx Try.underlying24 Try.sizeOf63 hr138 rfl rfl hx140) ?_
                        refine SO.b1 ?_
                        refine SO.storeI1 (j := 0) (z' := wu64 x52.Badge) Try.sizeOf63 hx140 rfl rfl rfl rfl rfl rfl ?_
                        refine SO.rd fun hr141 => ?_
                        refine SO.nil ?_
                        refine S.region ?_
                        refine SO.v rfl (opv_move rfl) ?_
                        refine SO.v rfl (opv_move rfl) ?_
                        refine SO.v rfl (opv_add rfl rfl) ?_
                        refine SO.v rfl (opv_fieldAddr Try.underlying70 rfl Try.sizeOf3 rfl rfl) ?_
                        refine SO.b1 ?_
                        refine SO.load1 rfl Try.isAgg3 rfl rfl ?_
                        refine SO.v rfl (opv_conv Try.underlying3 Try.underlying63 rfl) ?_
                        obtain ⟨x142, hx143, h⟩ := opt_bind h
                        refine SO.v rfl (opv_idx Try.underlying24 Try.sizeOf63 hr141 rfl rfl hx143) ?_
                        refine SO.b1 ?_
                        refine SO.storeI1 (j := 0) (z' := wu64 x52.Mask) Try.sizeOf63 hx143 rfl rfl rfl rfl rfl rfl ?_
                        refine SO.rd fun hr144 => ?_
                        refine SO.nil ?_
                        refine S.inBlock ?_
                        cases h
                        refine S.b5 ?_
                        refine S.b5 ?_
                        refine S.b5 ?_
                        refine S.b5 ?_
                        refine S.b4 ?_
                        refine S.b5 ?_
                        refine S.to ?_ (hk5 () trivial)
                        exact ⟨rfl, rfl, rfl, rfl, rfl, rfl, rfl, rfl, rfl, rfl, rfl, rfl, rfl, rfl, rfl, rfl, rfl, rfl, rfl, rfl, rfl, rfl, rfl, rfl, rfl, rfl, rfl, rfl, trivial⟩
                      · replace h := cond_f b135 h
                        refine S.condF rfl b135 ?_
                        refine S.skip ?_
                        refine S.inBlock ?_
                        cases h
                        refine S.b5 ?_
                        refine S.b5 ?_
                        refine S.b5 ?_
                        refine S.b5 ?_
                        refine S.b5 ?_
                        refine S.b5 ?_
                        refine S.to ?_ (hk5 () trivial)
                        exact ⟨rfl, rfl, rfl, rfl, rfl, rfl, rfl, rfl, rfl, rfl, rfl, rfl, rfl, rfl, rfl, rfl, rfl, rfl, rfl, rfl, rfl, rfl, rfl, rfl, rfl, rfl, rfl, rfl, trivial⟩
      rintro _ -
      replace h := hJ5
      refine S.b1 ?_
      refine S.rd fun hr145 => ?_
      refine S.seq ?_
      refine S.region ?_
      refine SO.v rfl (opv_assign rfl) ?_
      refine SO.nil ?_
      obtain ⟨⟨j12_e7, j302_e7, j306_e7, qv5_e7⟩, hl7, h⟩ := opt_bind h
      refine S.b5 ?_
      refine S.b5 ?_
      refine S.b5 ?_
      refine S.b5 ?_
      refine S.b5 ?_
      refine S.b5 ?_
      refine S.to (ρ' := [(12, .int .i64 0), (0, bp bp0 0), (2, .slice none 0 0), (3, v5), (8, .int .i64 x8_4), (9, bp b60 0), (10, .int .i64 (w64 (480 + (w64 (8 * x8_4))))), (96, .int .i64 x8_4), (97, .bool (decide (x8_4 < 32))), (100, bp bp0 0), (101, bp bp0 0), (102, bp bp0 1), (103, v0_Objs), (104, .int .i64 x8_4), (105, idxp v0_Objs (x8_4.toNat * kr_ref10_Obj.sz)), (106, .agg #[.int .i64 x52.Kind, .int .i64 x52.Size, .int .i64 x52.Used, .int .i64 x52.First, .int .i64 x52.Radix, .int .i64 x52.Wait, u57, .int .i64 x52.Word, .int .i64 x52.State, .int .i64 x52.Owing, .int .i64 x52.Badge, .int .i64 x52.Prio, .int .i64 x52.On, .int .i64 x52.Owes, .int .i64 x52.Root.Kind, .int .i64 x52.Root.Rights, .int .i64 x52.Root.Obj, .int .i64 x52.Root.Badge, .int .i64 x52.Root.Guard, .int .i64 x52.Root.Bits, .int .i64 x52.Pages.a0, .int .i64 x52.Pages.a1, .int .i64 x52.Pages.a2, .int .i64 x52.Pages.a3, .int .i64 x52.Right.a0, .int .i64 x52.Right.a1, .int .i64 x52.Right.a2, .int .i64 x52.Right.a3, .int .i64 x52.In, .int .i64 x52.Page, .int .i64 x52.Bound, .int .i64 x52.Mask]), (107, .int .i64 x8_4), (108, .int .i64 (w64 (8 * x8_4))), (109, .int .i64 (w64 (480 + (w64 (8 * x8_4))))), (110, v5), (111, .int .i64 (w64 (480 + (w64 (8 * x8_4))))), (112, bp b60 0), (113, .int .i64 x52.Kind), (114, .int .u64 (wu64 x52.Kind)), (115, idxp v5 ((w64 (480 + (w64 (8 * x8_4)))).toNat * (ekI .u64).sz)), (116, bp b60 0), (117, .int .i64 x52.Kind), (118, .bool (x52.Kind == 1)), (119, .bool (x52.Kind == 1))]) ⟨rfl, rfl, rfl, rfl, rfl, rfl, rfl, rfl, rfl, rfl, rfl, rfl, rfl, rfl, rfl, rfl, rfl, rfl, rfl, rfl, rfl, rfl, rfl, rfl, rfl, rfl, rfl, rfl, rfl, trivial⟩ ?_
      refine S.forloop (X := (Int × (List Int)) × Unit) (O := (Int × Int × Bool × (List Int))) (fun m x => ref10_State_Words.l7 x8_4 x52 m x.1) (fun x => match x with | ((x12_7, qv5_7), _) => [(12, .int .i64 x12_7), (0, bp bp0 0), (2, .slice none 0 0), (3, v5), (8, .int .i64 x8_4), (9, bp b60 0), (10, .int .i64 (w64 (480 + (w64 (8 * x8_4))))), (96, .int .i64 x8_4), (97, .bool (decide (x8_4 < 32))), (100, bp bp0 0), (101, bp bp0 0), (102, bp bp0 1), (103, v0_Objs), (104, .int .i64 x8_4), (105, idxp v0_Objs (x8_4.toNat * kr_ref10_Obj.sz)), (106, .agg #[.int .i64 x52.Kind, .int .i64 x52.Size, .int .i64 x52.Used, .int .i64 x52.First, .int .i64 x52.Radix, .int .i64 x52.Wait, u57, .int .i64 x52.Word, .int .i64 x52.State, .int .i64 x52.Owing, .int .i64 x52.Badge, .int .i64 x52.Prio, .int .i64 x52.On, .int .i64 x52.Owes, .int .i64 x52.Root.Kind, .int .i64 x52.Root.Rights, .int .i64 x52.Root.Obj, .int .i64 x52.Root.Badge, .int .i64 x52.Root.Guard, .int .i64 x52.Root.Bits, .int .i64 x52.Pages.a0, .int .i64 x52.Pages.a1, .int .i64 x52.Pages.a2, .int .i64 x52.Pages.a3, .int .i64 x52.Right.a0, .int .i64 x52.Right.a1, .int .i64 x52.Right.a2, .int .i64 x52.Right.a3, .int .i64 x52.In, .int .i64 x52.Page, .int .i64 x52.Bound, .int .i64 x52.Mask]), (107, .int .i64 x8_4), (108, .int .i64 (w64 (8 * x8_4))), (109, .int .i64 (w64 (480 + (w64 (8 * x8_4))))), (110, v5), (111, .int .i64 (w64 (480 + (w64 (8 * x8_4))))), (112, bp b60 0), (113, .int .i64 x52.Kind), (114, .int .u64 (wu64 x52.Kind)), (115, idxp v5 ((w64 (480 + (w64 (8 * x8_4)))).toNat * (ekI .u64).sz)), (116, bp b60 0), (117, .int .i64 x52.Kind), (118, .bool (x52.Kind == 1)), (119, .bool (x52.Kind == 1))]) (fun x => match x with | ((x12_7, qv5_7), _) => [Own 63 (ekI .u64) v5 qv5_7, Box b60 [.int .i64 x52.Kind, .int .i64 x52.Size, .int .i64 x52.Used, .int .i64 x52.First, .int .i64 x52.Radix, .int .i64 x52.Wait, u57, .int .i64 x52.Word, .int .i64 x52.State, .int .i64 x52.Owing, .int .i64 x52.Badge, .int .i64 x52.Prio, .int .i64 x52.On, .int .i64 x52.Owes, .int .i64 x52.Root.Kind, .int .i64 x52.Root.Rights, .int .i64 x52.Root.Obj, .int .i64 x52.Root.Badge, .int .i64 x52.Root.Guard, .int .i64 x52.Root.Bits, .int .i64 x52.Pages.a0, .int .i64 x52.Pages.a1, .int .i64 x52.Pages.a2, .int .i64 x52.Pages.a3, .int .i64 x52.Right.a0, .int .i64 x52.Right.a1, .int .i64 x52.Right.a2, .int .i64 x52.Right.a3, .int .i64 x52.In, .int .i64 x52.Page, .int .i64 x52.Bound, .int .i64 x52.Mask], Box bp0 [v0_Slots, v0_Objs, .int .i64 a0.NS, .int .i64 a0.NO], OwnO 70 kr_ref10_Obj v0_Objs raws_v0_Objs A_v0_Objs a0.Objs, OwnO 77 kr_ref10_Slot v0_Slots raws_v0_Slots A_v0_Slots a0.Slots, F]) (fun Sk => (fun x => match x with | (j12_e7, j302_e7, j306_e7, qv5_e7) => ∀ _ : Unit, Sk [(0, bp bp0 0), (2, .slice none 0 0), (3, v5), (8, .int .i64 x8_4), (9, bp b60 0), (10, .int .i64 (w64 (480 + (w64 (8 * x8_4))))), (12, .int .i64 j12_e7), (96, .int .i64 x8_4), (97, .bool (decide (x8_4 < 32))), (100, bp bp0 0), (101, bp bp0 0), (102, bp bp0 1), (103, v0_Objs), (104, .int .i64 x8_4), (105, idxp v0_Objs (x8_4.toNat * kr_ref10_Obj.sz)), (106, .agg #[.int .i64 x52.Kind, .int .i64 x52.Size, .int .i64 x52.Used, .int .i64 x52.First, .int .i64 x52.Radix, .int .i64 x52.Wait, u57, .int .i64 x52.Word, .int .i64 x52.State, .int .i64 x52.Owing, .int .i64 x52.Badge, .int .i64 x52.Prio, .int .i64 x52.On, .int .i64 x52.Owes, .int .i64 x52.Root.Kind, .int .i64 x52.Root.Rights, .int .i64 x52.Root.Obj, .int .i64 x52.Root.Badge, .int .i64 x52.Root.Guard, .int .i64 x52.Root.Bits, .int .i64 x52.Pages.a0, .int .i64 x52.Pages.a1, .int .i64 x52.Pages.a2, .int .i64 x52.Pages.a3, .int .i64 x52.Right.a0, .int .i64 x52.Right.a1, .int .i64 x52.Right.a2, .int .i64 x52.Right.a3, .int .i64 x52.In, .int .i64 x52.Page, .int .i64 x52.Bound, .int .i64 x52.Mask]), (107, .int .i64 x8_4), (108, .int .i64 (w64 (8 * x8_4))), (109, .int .i64 (w64 (480 + (w64 (8 * x8_4))))), (110, v5), (111, .int .i64 (w64 (480 + (w64 (8 * x8_4))))), (112, bp b60 0), (113, .int .i64 x52.Kind), (114, .int .u64 (wu64 x52.Kind)), (115, idxp v5 ((w64 (480 + (w64 (8 * x8_4)))).toNat * (ekI .u64).sz)), (116, bp b60 0), (117, .int .i64 x52.Kind), (118, .bool (x52.Kind == 1)), (119, .bool (x52.Kind == 1)), (302, .int .i64 j302_e7), (303, bp b60 6), (304, u57), (305, .int .i64 (x52.Queue.length : Int)), (306, .bool j306_e7)] [Own 63 (ekI .u64) v5 qv5_e7, Box b60 [.int .i64 x52.Kind, .int .i64 x52.Size, .int .i64 x52.Used, .int .i64 x52.First, .int .i64 x52.Radix, .int .i64 x52.Wait, u57, .int .i64 x52.Word, .int .i64 x52.State, .int .i64 x52.Owing, .int .i64 x52.Badge, .int .i64 x52.Prio, .int .i64 x52.On, .int .i64 x52.Owes, .int .i64 x52.Root.Kind, .int .i64 x52.Root.Rights, .int .i64 x52.Root.Obj, .int .i64 x52.Root.Badge, .int .i64 x52.Root.Guard, .int .i64 x52.Root.Bits, .int .i64 x52.Pages.a0, .int .i64 x52.Pages.a1, .int .i64 x52.Pages.a2, .int .i64 x52.Pages.a3, .int .i64 x52.Right.a0, .int .i64 x52.Right.a1, .int .i64 x52.Right.a2, .int .i64 x52.Right.a3, .int .i64 x52.In, .int .i64 x52.Page, .int .i64 x52.Bound, .int .i64 x52.Mask], Box bp0 [v0_Slots, v0_Objs, .int .i64 a0.NS, .int .i64 a0.NO], OwnO 70 kr_ref10_Obj v0_Objs raws_v0_Objs A_v0_Objs a0.Objs, OwnO 77 kr_ref10_Slot v0_Slots raws_v0_Slots A_v0_Slots a0.Slots, F])) (fun _ => rfl) ?_ (m := k) (x := ((0, qv5_5), ())) hl7 ?_
      · clear h hl7
        intro k x o_7 h hK7 ih7
        obtain ⟨⟨x12_7, qv5_7⟩, _⟩ := x
        replace h : ref10_State_Words.l7 x8_4 x52 (k + 1) (x12_7, qv5_7) = some o_7 := h
        first | rw [ref10_State_Words.l7] at h | unfold ref10_State_Words.l7 at h
        refine S.rd fun hr146 => ?_
        refine S.seq ?_
        refine S.seq ?_
        refine S.region ?_
        refine SO.v rfl (opv_move rfl) ?_
        refine SO.v rfl (opv_fieldAddr Try.underlying70 rfl Try.sizeOf67 rfl rfl) ?_
        refine SO.b1 ?_
        refine SO.load1 rfl Try.isAgg67 rfl rfl ?_
        refine SO.v rfl (opv_lenR rfl Try.underlying67 hru58 rfl) ?_
        refine SO.v rfl (opv_lss rfl rfl) ?_
        refine SO.nil ?_
        rcases bool_or (decide (x12_7 < (x52.Queue.length : Int))) with b147 | b147
        · replace h := cond_t b147 h
          refine S.condT rfl b147 ?_
          refine S.skip ?_
          refine S.seq ?_
          refine S.block ?_
          refine S.seq ?_
          refine S.region ?_
          refine SO.v rfl (opv_fieldAddr Try.underlying70 rfl Try.sizeOf67 rfl rfl) ?_
          refine SO.load1 rfl Try.isAgg67 rfl rfl ?_
          refine SO.v rfl (opv_move rfl) ?_
          obtain ⟨x148, hx149, h⟩ := opt_bind h
          refine SO.v rfl (opv_idx Try.underlying67 Try.sizeOf3 hru58 rfl rfl hx149) ?_
          refine SO.loadI1 (j := 0) rfl Try.isAgg3 (Rd.tail (Rd.tail (Rd.tail (Rd.head (Rd.pool hru58))))) hx149 rfl rfl rfl rfl ?_
          refine SO.v rfl (opv_assign rfl) ?_
          refine SO.nil ?_
          refine S.seq ?_
          refine S.seq ?_
          refine S.region ?_
          refine SO.v rfl (opv_move rfl) ?_
          refine SO.v rfl (opv_eql rfl rfl) ?_
          refine SO.nil ?_
          obtain ⟨qv5_8, hC8, hJ8⟩ := opt_bind h
          clear h
          refine S.cutP (G := Unit) (fun _ => True) (fun _ => [(0, bp bp0 0), (2, .slice none 0 0), (3, v5), (8, .int .i64 x8_4), (9, bp b60 0), (10, .int .i64 (w64 (480 + (w64 (8 * x8_4))))), (12, .int .i64 x12_7), (13, .int .i64 x148), (96, .int .i64 x8_4), (97, .bool (decide (x8_4 < 32))), (100, bp bp0 0), (101, bp bp0 0), (102, bp bp0 1), (103, v0_Objs), (104, .int .i64 x8_4), (105, idxp v0_Objs (x8_4.toNat * kr_ref10_Obj.sz)), (106, .agg #[.int .i64 x52.Kind, .int .i64 x52.Size, .int .i64 x52.Used, .int .i64 x52.First, .int .i64 x52.Radix, .int .i64 x52.Wait, u57, .int .i64 x52.Word, .int .i64 x52.State, .int .i64 x52.Owing, .int .i64 x52.Badge, .int .i64 x52.Prio, .int .i64 x52.On, .int .i64 x52.Owes, .int .i64 x52.Root.Kind, .int .i64 x52.Root.Rights, .int .i64 x52.Root.Obj, .int .i64 x52.Root.Badge, .int .i64 x52.Root.Guard, .int .i64 x52.Root.Bits, .int .i64 x52.Pages.a0, .int .i64 x52.Pages.a1, .int .i64 x52.Pages.a2, .int .i64 x52.Pages.a3, .int .i64 x52.Right.a0, .int .i64 x52.Right.a1, .int .i64 x52.Right.a2, .int .i64 x52.Right.a3, .int .i64 x52.In, .int .i64 x52.Page, .int .i64 x52.Bound, .int .i64 x52.Mask]), (107, .int .i64 x8_4), (108, .int .i64 (w64 (8 * x8_4))), (109, .int .i64 (w64 (480 + (w64 (8 * x8_4))))), (110, v5), (111, .int .i64 (w64 (480 + (w64 (8 * x8_4))))), (112, bp b60 0), (113, .int .i64 x52.Kind), (114, .int .u64 (wu64 x52.Kind)), (115, idxp v5 ((w64 (480 + (w64 (8 * x8_4)))).toNat * (ekI .u64).sz)), (116, bp b60 0), (117, .int .i64 x52.Kind), (118, .bool (x52.Kind == 1)), (119, .bool (x52.Kind == 1)), (302, .int .i64 x12_7), (303, bp b60 6), (304, u57), (305, .int .i64 (x52.Queue.length : Int)), (306, .bool (decide (x12_7 < (x52.Queue.length : Int)))), (309, bp b60 6), (310, u57), (311, .int .i64 x12_7), (312, idxp u57 (x12_7.toNat * (ekI .i64).sz)), (313, .int .i64 x148), (314, .int .i64 x12_7), (315, .bool (x12_7 == 0))]) (fun _ => [Box b60 [.int .i64 x52.Kind, .int .i64 x52.Size, .int .i64 x52.Used, .int .i64 x52.First, .int .i64 x52.Radix, .int .i64 x52.Wait, u57, .int .i64 x52.Word, .int .i64 x52.State, .int .i64 x52.Owing, .int .i64 x52.Badge, .int .i64 x52.Prio, .int .i64 x52.On, .int .i64 x52.Owes, .int .i64 x52.Root.Kind, .int .i64 x52.Root.Rights, .int .i64 x52.Root.Obj, .int .i64 x52.Root.Badge, .int .i64 x52.Root.Guard, .int .i64 x52.Root.Bits, .int .i64 x52.Pages.a0, .int .i64 x52.Pages.a1, .int .i64 x52.Pages.a2, .int .i64 x52.Pages.a3, .int .i64 x52.Right.a0, .int .i64 x52.Right.a1, .int .i64 x52.Right.a2, .int .i64 x52.Right.a3, .int .i64 x52.In, .int .i64 x52.Page, .int .i64 x52.Bound, .int .i64 x52.Mask], Own 63 (ekI .u64) v5 qv5_8, Box bp0 [v0_Slots, v0_Objs, .int .i64 a0.NS, .int .i64 a0.NO], OwnO 70 kr_ref10_Obj v0_Objs raws_v0_Objs A_v0_Objs a0.Objs, OwnO 77 kr_ref10_Slot v0_Slots raws_v0_Slots A_v0_Slots a0.Slots, F]) (fun hk8 => ?_) ?_
          · replace h := hC8
            rcases bool_or (x12_7 == 0) with b150 | b150
            · replace h := cond_t b150 h
              refine S.condT rfl b150 ?_
              refine S.region ?_
              refine SO.v rfl (opv_move rfl) ?_
              refine SO.v rfl (opv_move rfl) ?_
              refine SO.v rfl (opv_add rfl rfl) ?_
              refine SO.v rfl (opv_move rfl) ?_
              refine SO.v rfl (opv_add rfl rfl) ?_
              refine SO.v rfl (opv_conv Try.underlying3 Try.underlying63 rfl) ?_
              obtain ⟨x151, hx152, h⟩ := opt_bind h
              refine SO.v rfl (opv_idx Try.underlying24 Try.sizeOf63 hr146 rfl rfl hx152) ?_
              refine SO.b1 ?_
              refine SO.storeI1 (j := 0) (z' := wu64 (w64 (x148 + 1))) Try.sizeOf63 hx152 rfl rfl rfl rfl rfl rfl ?_
              refine SO.rd fun hr153 => ?_
              refine SO.nil ?_
              cases h
              refine S.b5 ?_
              refine S.b5 ?_
              refine S.b5 ?_
              refine S.b5 ?_
              refine S.b4 ?_
              refine S.b5 ?_
              refine S.to ?_ (hk8 () trivial)
              exact ⟨rfl, rfl, rfl, rfl, rfl, rfl, rfl, rfl, rfl, rfl, rfl, rfl, rfl, rfl, rfl, rfl, rfl, rfl, rfl, rfl, rfl, rfl, rfl, rfl, rfl, rfl, rfl, rfl, rfl, rfl, rfl, rfl, rfl, rfl, rfl, rfl, rfl, rfl, rfl, rfl, rfl, rfl, trivial⟩
            · replace h := cond_f b150 h
              refine S.condF rfl b150 ?_
              refine S.skip ?_
              cases h
              refine S.b5 ?_
              refine S.b5 ?_
              refine S.b5 ?_
              refine S.b5 ?_
              refine S.b5 ?_
              refine S.b5 ?_
              refine S.to ?_ (hk8 () trivial)
              exact ⟨rfl, rfl, rfl, rfl, rfl, rfl, rfl, rfl, rfl, rfl, rfl, rfl, rfl, rfl, rfl, rfl, rfl, rfl, rfl, rfl, rfl, rfl, rfl, rfl, rfl, rfl, rfl, rfl, rfl, rfl, rfl, rfl, rfl, rfl, rfl, rfl, rfl, rfl, rfl, rfl, rfl, rfl, trivial⟩
          rintro _ -
          replace h := hJ8
          refine S.b1 ?_
          refine S.rd fun hr154 => ?_
          refine S.seq ?_
          refine S.region ?_
          refine SO.v rfl (opv_move rfl) ?_
          refine SO.v rfl (opv_add rfl rfl) ?_
          refine SO.v rfl (opv_fieldAddr Try.underlying70 rfl Try.sizeOf67 rfl rfl) ?_
          refine SO.b1 ?_
          refine SO.load1 rfl Try.isAgg67 rfl rfl ?_
          refine SO.v rfl (opv_lenR rfl Try.underlying67 hru58 rfl) ?_
          refine SO.v rfl (opv_lss rfl rfl) ?_
          refine SO.nil ?_
          rcases bool_or (decide ((w64 (x12_7 + 1)) < (x52.Queue.length : Int))) with b155 | b155
          · replace h := cond_t b155 h
            refine S.condT rfl b155 ?_
            refine S.region ?_
            refine SO.v rfl (opv_move rfl) ?_
            refine SO.v rfl (opv_move rfl) ?_
            refine SO.v rfl (opv_mul rfl rfl) ?_
            refine SO.v rfl (opv_add rfl rfl) ?_
            refine SO.v rfl (opv_add rfl rfl) ?_
            refine SO.v rfl (opv_fieldAddr Try.underlying70 rfl Try.sizeOf67 rfl rfl) ?_
            refine SO.load1 rfl Try.isAgg67 rfl rfl ?_
            refine SO.v rfl (opv_move rfl) ?_
            refine SO.v rfl (opv_add rfl rfl) ?_
            obtain ⟨x156, hx157, h⟩ := opt_bind h
            refine SO.v rfl (opv_idx Try.underlying67 Try.sizeOf3 hru58 rfl rfl hx157) ?_
            refine SO.loadI1 (j := 0) rfl Try.isAgg3 (Rd.tail (Rd.tail (Rd.tail (Rd.head (Rd.pool hru58))))) hx157 rfl rfl rfl rfl ?_
            refine SO.v rfl (opv_add rfl rfl) ?_
            refine SO.v rfl (opv_conv Try.underlying3 Try.underlying63 rfl) ?_
            obtain ⟨x158, hx159, h⟩ := opt_bind h
            refine SO.v rfl (opv_idx Try.underlying24 Try.sizeOf63 hr154 rfl rfl hx159) ?_
            refine SO.b1 ?_
            refine SO.storeI1 (j := 0) (z' := wu64 (w64 (x156 + 1))) Try.sizeOf63 hx159 rfl rfl rfl rfl rfl rfl ?_
            refine SO.rd fun hr160 => ?_
            refine SO.nil ?_
            refine S.inBlock ?_
            refine S.region ?_
            refine SO.v rfl (opv_move rfl) ?_
            refine SO.v rfl (opv_add rfl rfl) ?_
            refine SO.v rfl (opv_assign rfl) ?_
            refine SO.nil ?_
            refine S.b5 ?_
            refine S.b5 ?_
            refine S.b5 ?_
            refine S.b5 ?_
            refine S.b5 ?_
            refine S.b5 ?_
            refine S.to ?_ (ih7 ((w64 (x12_7 + 1), qv5_8.set (w64 ((w64 (480 + (w64 (8 * x148)))) + 2)).toNat (wu64 (w64 (x156 + 1)))), ()) h)
            exact ⟨rfl, rfl, rfl, rfl, rfl, rfl, rfl, rfl, rfl, rfl, rfl, rfl, rfl, rfl, rfl, rfl, rfl, rfl, rfl, rfl, rfl, rfl, rfl, rfl, rfl, rfl, rfl, rfl, rfl, trivial⟩
          · replace h := cond_f b155 h
            refine S.condF rfl b155 ?_
            refine S.region ?_
            refine SO.v rfl (opv_move rfl) ?_
            refine SO.v rfl (opv_move rfl) ?_
            refine SO.v rfl (opv_add rfl rfl) ?_
            refine SO.v rfl (opv_move rfl) ?_
            refine SO.v rfl (opv_add rfl rfl) ?_
            refine SO.v rfl (opv_conv Try.underlying3 Try.underlying63 rfl) ?_
            obtain ⟨x161, hx162, h⟩ := opt_bind h
            refine SO.v rfl (opv_idx Try.underlying24 Try.sizeOf63 hr154 rfl rfl hx162) ?_
            refine SO.b1 ?_
            refine SO.storeI1 (j := 0) (z' := wu64 (w64 (x148 + 1))) Try.sizeOf63 hx162 rfl rfl rfl rfl rfl rfl ?_
            refine SO.rd fun hr163 => ?_
            refine SO.nil ?_
            refine S.inBlock ?_
            refine S.region ?_
            refine SO.v rfl (opv_move rfl) ?_
            refine SO.v rfl (opv_add rfl rfl) ?_
            refine SO.v rfl (opv_assign rfl) ?_
            refine SO.nil ?_
            refine S.b5 ?_
            refine S.b5 ?_
            refine S.b5 ?_
            refine S.b5 ?_
            refine S.b5 ?_
            refine S.b5 ?_
            refine S.to ?_ (ih7 ((w64 (x12_7 + 1), qv5_8.set (w64 ((w64 (480 + (w64 (8 * x8_4)))) + 3)).toNat (wu64 (w64 (x148 + 1)))), ()) h)
            exact ⟨rfl, rfl, rfl, rfl, rfl, rfl, rfl, rfl, rfl, rfl, rfl, rfl, rfl, rfl, rfl, rfl, rfl, rfl, rfl, rfl, rfl, rfl, rfl, rfl, rfl, rfl, rfl, rfl, rfl, trivial⟩
        · replace h := cond_f b147 h
          refine S.condF rfl b147 ?_
          refine S.exit rfl ?_
          cases h
          refine S.b5 ?_
          refine S.b5 ?_
          refine S.b5 ?_
          refine S.b5 ?_
          refine S.b4 ?_
          refine S.b5 ?_
          refine S.to ?_ (hK7 ())
          exact ⟨rfl, rfl, rfl, rfl, rfl, rfl, rfl, rfl, rfl, rfl, rfl, rfl, rfl, rfl, rfl, rfl, rfl, rfl, rfl, rfl, rfl, rfl, rfl, rfl, rfl, rfl, rfl, rfl, rfl, rfl, rfl, rfl, rfl, rfl, trivial⟩
      rintro _
      refine S.rd fun hr164 => ?_
      refine S.inBlock ?_
      refine S.region ?_
      refine SO.v rfl (opv_move rfl) ?_
      refine SO.v rfl (opv_add rfl rfl) ?_
      refine SO.v rfl (opv_assign rfl) ?_
      refine SO.nil ?_
      refine S.b1 ?_
      refine S.drop ?_
      refine S.b4 ?_
      refine S.b2 ?_
      refine S.b4 ?_
      refine S.b4 ?_
      refine S.b4 ?_
      refine S.to ?_ (ih4 ((w64 (x8_4 + 1), qv5_e7), ()) h)
      exact ⟨rfl, rfl, rfl, rfl, trivial⟩
    · replace h := cond_f b51 h
      refine S.condF rfl b51 ?_
      refine S.exit rfl ?_
      cases h
      refine S.b4 ?_
      refine S.b4 ?_
      refine S.b4 ?_
      refine S.b4 ?_
      refine S.b4 ?_
      refine S.to ?_ (hK4 ())
      exact ⟨rfl, rfl, rfl, trivial⟩
  rintro _
  refine S.rd fun hr165 => ?_
  refine S.seq ?_
  refine S.region ?_
  refine SO.v rfl (opv_move rfl) ?_
  refine SO.v rfl (opv_move rfl) ?_
  refine SO.v rfl (opv_nilCheck rfl) ?_
  refine SO.v rfl (opv_fieldAddr Try.underlying75 rfl Try.sizeOf3 rfl rfl) ?_
  refine SO.b3 ?_
  refine SO.load1 rfl Try.isAgg3 rfl rfl ?_
  refine SO.v rfl (opv_conv Try.underlying3 Try.underlying63 rfl) ?_
  obtain ⟨x166, hx167, h⟩ := opt_bind h
  refine SO.v rfl (opv_idx Try.underlying24 Try.sizeOf63 hr165 rfl rfl hx167) ?_
  refine SO.b1 ?_
  refine SO.storeI1 (j := 0) (z' := wu64 a0.NS) Try.sizeOf63 hx167 rfl rfl rfl rfl rfl rfl ?_
  refine SO.rd fun hr168 => ?_
  refine SO.nil ?_
  refine S.to (ρ' := [(0, bp bp0 0), (2, .slice none 0 0), (3, v5)]) ⟨rfl, rfl, rfl, trivial⟩ ?_
  refine S.seq ?_
  refine S.region ?_
  refine SO.v rfl (opv_move rfl) ?_
  refine SO.v rfl (opv_move rfl) ?_
  refine SO.v rfl (opv_nilCheck rfl) ?_
  refine SO.v rfl (opv_fieldAddr Try.underlying75 rfl Try.sizeOf3 rfl rfl) ?_
  refine SO.b1 ?_
  refine SO.load1 rfl Try.isAgg3 rfl rfl ?_
  refine SO.v rfl (opv_conv Try.underlying3 Try.underlying63 rfl) ?_
  obtain ⟨x169, hx170, h⟩ := opt_bind h
  refine SO.v rfl (opv_idx Try.underlying24 Try.sizeOf63 hr168 rfl rfl hx170) ?_
  refine SO.b1 ?_
  refine SO.storeI1 (j := 0) (z' := wu64 a0.NO) Try.sizeOf63 hx170 rfl rfl rfl rfl rfl rfl ?_
  refine SO.rd fun hr171 => ?_
  refine SO.nil ?_
  refine S.to (ρ' := [(2, .slice none 0 0), (3, v5)]) ⟨rfl, rfl, trivial⟩ ?_
  refine S.seq ?_
  refine S.region ?_
  refine SO.v rfl (opv_move rfl) ?_
  refine SO.v rfl (opv_assign rfl) ?_
  refine SO.nil ?_
  cases h
  refine S.b4 ?_
  refine S.b3 ?_
  refine S.b4 ?_
  refine S.b4 ?_
  refine S.b4 ?_
  exact S.ret1 Try.func9 rfl rfl (fun w hs hk => hR w _ _ ⟨v5, rfl, rfl⟩ hs hk)
end Go.Proofs
namespace Go.Proofs
open Go.Sl Go.RowKit
/-! 7 padstone/padstonelaw19.up -/
def law19_up.f (k : Nat) : Option (Bool) :=
  (ref10_Boot.f k 1).bind fun t1 => (ref10_State_Words.f k t1).bind fun t13 => (VM.run plainI (irq_Bind.f 6 5 9) t13).bind fun (t17, s19) => (VM.run plainI (irq_Fire.f 6) s19).bind fun ((t21, t22), s24) => (VM.run plainI (irq_Fire.f 6) s24).bind fun ((t26, t27), s29) => (VM.run plainI (ntfn_Poll.f 5) s29).bind fun ((t31, t32), s34) => (bif (((((t17.isNone && t21) && t22.isNone) && (!t26)) && t27.isNone) && (t31.Word == 9)) && t32.isNone then ((VM.run plainI (irq_Ack.f 6) s34).bind fun (t48, s50) => some (t48.isNone, s50)) else (some (false, s34))).bind fun (c44, w46) => (bif c44 then ((VM.run plainI (irq_Ack.f 6) w46).bind fun (t57, s59) => some (t57 == some 10, s59)) else (some (false, w46))).bind fun (c53, w55) => some c53
set_option maxHeartbeats 8000000 in
set_option maxRecDepth 100000 in
theorem law19_up.ct (k : Nat) (r0 : Bool) (h : law19_up.f k  = some r0) :
    Ct Try.prog 7 [] (fun _ => True) [] (fun u H' => u = .bool r0 ∧ H' = []) := by
  unfold law19_up.f at h
  refine Ct.intro (n := 71) Try.func7 rfl rfl rfl ?_
  intro R w0 F hF hR
  refine S.seq ?_
  refine S.region ?_
  refine SO.v rfl (opv_assign rfl) ?_
  refine SO.nil ?_
  refine S.seq ?_
  refine S.region ?_
  obtain ⟨t1, ht2, h⟩ := opt_bind h
  refine SO.call (pre := []) rfl Try.call8 rfl rfl rfl (ref10_Boot.ct _ _ _ ht2) trivial ?_
  rintro _ _ ⟨b3, u4_Slots, u4_Objs, rfl, rfl⟩
  obtain ⟨t13, ht14, h⟩ := opt_bind h
  refine SO.b1 ?_
  refine SO.openR fun raws5 A6 hrel7 hR8 => ?_
  refine SO.b2 ?_
  refine SO.openR fun raws9 A10 hrel11 hR12 => ?_
  refine SO.b1 ?_
  refine SO.b2 ?_
  refine SO.call (pre := [Box _ _, OwnO _ _ _ _ _ _, OwnO _ _ _ _ _ _]) rfl Try.call9 rfl rfl rfl (ref10_State_Words.ct _ b3 u4_Slots u4_Objs raws5 A6 raws9 A10 _ _ ht14) trivial ?_
  rintro v15 _ ⟨_, rfl, rfl⟩
  refine SO.rd fun hr16 => ?_
  refine SO.v rfl (opv_assign rfl) ?_
  refine SO.nil ?_
  refine S.seq ?_
  refine S.region ?_
  refine SO.v rfl (opv_move rfl) ?_
  refine SO.v rfl (opv_iface Try.underlying25 rfl rfl) ?_
  obtain ⟨⟨t17, s19⟩, ht18, h⟩ := opt_bind h
  refine SO.call (pre := [(plainV v15).rep _]) rfl Try.call11 rfl rfl rfl (irq_Bind.ct (plainV v15) _ _ _ _ _ _ ht18) trivial ?_
  rintro _ _ ⟨rfl, rfl⟩
  refine headEq (plainV_rep _ _) ?_
  refine SO.rd fun hr20 => ?_
  refine SO.v rfl (opv_assign rfl) ?_
  refine SO.nil ?_
  refine S.seq ?_
  refine S.region ?_
  refine SO.v rfl (opv_move rfl) ?_
  refine SO.v rfl (opv_iface Try.underlying25 rfl rfl) ?_
  obtain ⟨⟨⟨t21, t22⟩, s24⟩, ht23, h⟩ := opt_bind h
  refine SO.call (pre := [(plainV v15).rep _]) rfl Try.call12 rfl rfl rfl (irq_Fire.ct (plainV v15) _ _ _ _ _ ht23) trivial ?_
  rintro _ _ ⟨rfl, rfl⟩
  refine headEq (plainV_rep _ _) ?_
  refine SO.rd fun hr25 => ?_
  refine SO.v rfl (opv_move rfl) ?_
  refine SO.v rfl (opv_extract rfl rfl) ?_
  refine SO.v rfl (opv_extract rfl rfl) ?_
  refine SO.v rfl (opv_assign rfl) ?_
  refine SO.v rfl (opv_assign rfl) ?_
  refine SO.nil ?_
  refine S.to (ρ' := [(0, .bool false), (1, v15), (2, errV 59 t17), (3, .bool t21), (4, errV 59 t22)]) ⟨rfl, rfl, rfl, rfl, rfl, trivial⟩ ?_
  refine S.seq ?_
  refine S.region ?_
  refine SO.v rfl (opv_move rfl) ?_
  refine SO.v rfl (opv_iface Try.underlying25 rfl rfl) ?_
  obtain ⟨⟨⟨t26, t27⟩, s29⟩, ht28, h⟩ := opt_bind h
  refine SO.call (pre := [(plainV v15).rep _]) rfl Try.call12 rfl rfl rfl (irq_Fire.ct (plainV v15) _ _ _ _ _ ht28) trivial ?_
  rintro _ _ ⟨rfl, rfl⟩
  refine headEq (plainV_rep _ _) ?_
  refine SO.rd fun hr30 => ?_
  refine SO.v rfl (opv_move rfl) ?_
  refine SO.v rfl (opv_extract rfl rfl) ?_
  refine SO.v rfl (opv_extract rfl rfl) ?_
  refine SO.v rfl (opv_assign rfl) ?_
  refine SO.v rfl (opv_assign rfl) ?_
  refine SO.nil ?_
  refine S.seq ?_
  refine S.region ?_
  refine SO.v rfl (opv_move rfl) ?_
  refine SO.v rfl (opv_iface Try.underlying25 rfl rfl) ?_
  obtain ⟨⟨⟨t31, t32⟩, s34⟩, ht33, h⟩ := opt_bind h
  refine SO.call (pre := [(plainV v15).rep _]) rfl Try.call25 rfl rfl rfl (ntfn_Poll.ct (plainV v15) _ _ _ _ _ ht33) trivial ?_
  rintro _ _ ⟨rfl, rfl⟩
  refine headEq (plainV_rep _ _) ?_
  refine SO.rd fun hr35 => ?_
  refine SO.v rfl (opv_move rfl) ?_
  refine SO.v rfl (opv_extract rfl rfl) ?_
  refine SO.v rfl (opv_extract rfl rfl) ?_
  refine SO.alloc rfl Try.zeroValue45 rfl (fun b36 => ?_)
  refine SO.storeN Try.sizeOf45 rfl rfl rfl rfl rfl rfl ?_
  refine SO.v rfl (opv_assign rfl) ?_
  refine SO.nil ?_
  refine S.to (ρ' := [(0, .bool false), (1, v15), (2, errV 59 t17), (3, .bool t21), (4, errV 59 t22), (5, .bool t26), (6, errV 59 t27), (7, bp b36 0), (8, errV 59 t32)]) ⟨rfl, rfl, rfl, rfl, rfl, rfl, rfl, rfl, rfl, trivial⟩ ?_
  refine S.seq ?_
  refine S.region ?_
  refine SO.v rfl (opv_move rfl) ?_
  refine SO.v rfl (opv_eqlN (e := t17) Try.underlying33 rfl) ?_
  refine SO.v rfl (opv_move rfl) ?_
  refine SO.cut 2 36 (.bool (t17.isNone && t21)) [Box b36 [.int .i64 t31.Code, .int .i64 t31.Word, .int .i64 t31.Badge], Own 63 (ekI .u64) v15 s34, Box b3 [u4_Slots, u4_Objs, .int .i64 t1.NS, .int .i64 t1.NO], OwnO 77 kr_ref10_Slot u4_Slots raws5 A6 t1.Slots, OwnO 70 kr_ref10_Obj u4_Objs raws9 A10 t1.Objs, F] (fun l2 hk2 => ?_) ?_
  · rcases bool_or t17.isNone with b37 | b37
    · refine SO.takeT rfl rfl rfl b37 ?_
      refine SO.v rfl (opv_move rfl) ?_
      refine SO.v rfl (opv_pick_t' b37 rfl rfl) ?_
      refine SO.b5 ?_
      refine SO.b5 ?_
      refine SO.b5 ?_
      refine SO.b5 ?_
      refine SO.b5 ?_
      refine SO.b5 ?_
      exact hk2.fitc (m := 2) rfl (and_t b37) rfl
    · refine SO.passF rfl rfl rfl b37 rfl rfl ?_
      refine SO.v rfl (opv_pick_f' b37 rfl rfl) ?_
      refine SO.b5 ?_
      refine SO.b5 ?_
      refine SO.b5 ?_
      refine SO.b5 ?_
      refine SO.b5 ?_
      refine SO.b5 ?_
      exact hk2.fitc (m := 2) rfl (and_f b37) rfl
  refine SO.v rfl (opv_move rfl) ?_
  refine SO.cut 3 40 (.bool ((t17.isNone && t21) && t22.isNone)) [Box b36 [.int .i64 t31.Code, .int .i64 t31.Word, .int .i64 t31.Badge], Own 63 (ekI .u64) v15 s34, Box b3 [u4_Slots, u4_Objs, .int .i64 t1.NS, .int .i64 t1.NO], OwnO 77 kr_ref10_Slot u4_Slots raws5 A6 t1.Slots, OwnO 70 kr_ref10_Obj u4_Objs raws9 A10 t1.Objs, F] (fun l2 hk2 => ?_) ?_
  · rcases bool_or (t17.isNone && t21) with b38 | b38
    · refine SO.takeT rfl rfl rfl b38 ?_
      refine SO.v rfl (opv_move rfl) ?_
      refine SO.takeT rfl rfl rfl b38 ?_
      refine SO.v rfl (opv_eqlN (e := t22) Try.underlying33 rfl) ?_
      refine SO.v rfl (opv_pick_t' b38 rfl rfl) ?_
      refine SO.b5 ?_
      refine SO.b5 ?_
      refine SO.b5 ?_
      refine SO.b5 ?_
      refine SO.b5 ?_
      refine SO.b5 ?_
      exact hk2.fitc (m := 3) rfl (and_t b38) rfl
    · refine SO.passF rfl rfl rfl b38 rfl rfl ?_
      refine SO.passF rfl rfl rfl b38 rfl rfl ?_
      refine SO.v rfl (opv_pick_f' b38 rfl rfl) ?_
      refine SO.b5 ?_
      refine SO.b5 ?_
      refine SO.b5 ?_
      refine SO.b5 ?_
      refine SO.b5 ?_
      refine SO.b5 ?_
      exact hk2.fitc (m := 3) rfl (and_f b38) rfl
  refine SO.v rfl (opv_move rfl) ?_
  refine SO.cut 3 44 (.bool (((t17.isNone && t21) && t22.isNone) && (!t26))) [Box b36 [.int .i64 t31.Code, .int .i64 t31.Word, .int .i64 t31.Badge], Own 63 (ekI .u64) v15 s34, Box b3 [u4_Slots, u4_Objs, .int .i64 t1.NS, .int .i64 t1.NO], OwnO 77 kr_ref10_Slot u4_Slots raws5 A6 t1.Slots, OwnO 70 kr_ref10_Obj u4_Objs raws9 A10 t1.Objs, F] (fun l2 hk2 => ?_) ?_
  · rcases bool_or ((t17.isNone && t21) && t22.isNone) with b39 | b39
    · refine SO.takeT rfl rfl rfl b39 ?_
      refine SO.v rfl (opv_move rfl) ?_
      refine SO.takeT rfl rfl rfl b39 ?_
      refine SO.v rfl (opv_not rfl) ?_
      refine SO.v rfl (opv_pick_t' b39 rfl rfl) ?_
      refine SO.b5 ?_
      refine SO.b5 ?_
      refine SO.b5 ?_
      refine SO.b5 ?_
      refine SO.b5 ?_
      refine SO.b5 ?_
      exact hk2.fitc (m := 3) rfl (and_t b39) rfl
    · refine SO.passF rfl rfl rfl b39 rfl rfl ?_
      refine SO.passF rfl rfl rfl b39 rfl rfl ?_
      refine SO.v rfl (opv_pick_f' b39 rfl rfl) ?_
      refine SO.b5 ?_
      refine SO.b5 ?_
      refine SO.b5 ?_
      refine SO.b5 ?_
      refine SO.b5 ?_
      refine SO.b5 ?_
      exact hk2.fitc (m := 3) rfl (and_f b39) rfl
  refine SO.v rfl (opv_move rfl) ?_
  refine SO.cut 3 48 (.bool ((((t17.isNone && t21) && t22.isNone) && (!t26)) && t27.isNone)) [Box b36 [.int .i64 t31.Code, .int .i64 t31.Word, .int .i64 t31.Badge], Own 63 (ekI .u64) v15 s34, Box b3 [u4_Slots, u4_Objs, .int .i64 t1.NS, .int .i64 t1.NO], OwnO 77 kr_ref10_Slot u4_Slots raws5 A6 t1.Slots, OwnO 70 kr_ref10_Obj u4_Objs raws9 A10 t1.Objs, F] (fun l2 hk2 => ?_) ?_
  · rcases bool_or (((t17.isNone && t21) && t22.isNone) && (!t26)) with b40 | b40
    · refine SO.takeT rfl rfl rfl b40 ?_
      refine SO.v rfl (opv_move rfl) ?_
      refine SO.takeT rfl rfl rfl b40 ?_
      refine SO.v rfl (opv_eqlN (e := t27) Try.underlying33 rfl) ?_
      refine SO.v rfl (opv_pick_t' b40 rfl rfl) ?_
      refine SO.b5 ?_
      refine SO.b5 ?_
      refine SO.b5 ?_
      refine SO.b5 ?_
      refine SO.b5 ?_
      refine SO.b5 ?_
      exact hk2.fitc (m := 3) rfl (and_t b40) rfl
    · refine SO.passF rfl rfl rfl b40 rfl rfl ?_
      refine SO.passF rfl rfl rfl b40 rfl rfl ?_
      refine SO.v rfl (opv_pick_f' b40 rfl rfl) ?_
      refine SO.b5 ?_
      refine SO.b5 ?_
      refine SO.b5 ?_
      refine SO.b5 ?_
      refine SO.b5 ?_
      refine SO.b5 ?_
      exact hk2.fitc (m := 3) rfl (and_f b40) rfl
  refine SO.v rfl (opv_move rfl) ?_
  refine SO.cut 4 53 (.bool (((((t17.isNone && t21) && t22.isNone) && (!t26)) && t27.isNone) && (t31.Word == 9))) [Box b36 [.int .i64 t31.Code, .int .i64 t31.Word, .int .i64 t31.Badge], Own 63 (ekI .u64) v15 s34, Box b3 [u4_Slots, u4_Objs, .int .i64 t1.NS, .int .i64 t1.NO], OwnO 77 kr_ref10_Slot u4_Slots raws5 A6 t1.Slots, OwnO 70 kr_ref10_Obj u4_Objs raws9 A10 t1.Objs, F] (fun l2 hk2 => ?_) ?_
  · rcases bool_or ((((t17.isNone && t21) && t22.isNone) && (!t26)) && t27.isNone) with b41 | b41
    · refine SO.takeT rfl rfl rfl b41 ?_
      refine SO.v rfl (opv_fieldAddr Try.underlying45 rfl Try.sizeOf3 rfl rfl) ?_
      refine SO.takeT rfl rfl rfl b41 ?_
      refine SO.load1 rfl Try.isAgg3 rfl rfl ?_
      refine SO.takeT rfl rfl rfl b41 ?_
      refine SO.v rfl (opv_eql rfl rfl) ?_
      refine SO.v rfl (opv_pick_t' b41 rfl rfl) ?_
      refine SO.b5 ?_
      refine SO.b5 ?_
      refine SO.b5 ?_
      refine SO.b5 ?_
      refine SO.b5 ?_
      refine SO.b5 ?_
      exact hk2.fitc (m := 4) rfl (and_t b41) rfl
    · refine SO.passF rfl rfl rfl b41 rfl rfl ?_
      refine SO.passF rfl rfl rfl b41 rfl rfl ?_
      refine SO.passF rfl rfl rfl b41 rfl rfl ?_
      refine SO.v rfl (opv_pick_f' b41 rfl rfl) ?_
      refine SO.b5 ?_
      refine SO.b5 ?_
      refine SO.b5 ?_
      refine SO.b5 ?_
      refine SO.b5 ?_
      refine SO.b5 ?_
      exact hk2.fitc (m := 4) rfl (and_f b41) rfl
  refine SO.v rfl (opv_move rfl) ?_
  refine SO.cut 3 57 (.bool ((((((t17.isNone && t21) && t22.isNone) && (!t26)) && t27.isNone) && (t31.Word == 9)) && t32.isNone)) [Box b36 [.int .i64 t31.Code, .int .i64 t31.Word, .int .i64 t31.Badge], Own 63 (ekI .u64) v15 s34, Box b3 [u4_Slots, u4_Objs, .int .i64 t1.NS, .int .i64 t1.NO], OwnO 77 kr_ref10_Slot u4_Slots raws5 A6 t1.Slots, OwnO 70 kr_ref10_Obj u4_Objs raws9 A10 t1.Objs, F] (fun l2 hk2 => ?_) ?_
  · rcases bool_or (((((t17.isNone && t21) && t22.isNone) && (!t26)) && t27.isNone) && (t31.Word == 9)) with b42 | b42
    · refine SO.takeT rfl rfl rfl b42 ?_
      refine SO.v rfl (opv_move rfl) ?_
      refine SO.takeT rfl rfl rfl b42 ?_
      refine SO.v rfl (opv_eqlN (e := t32) Try.underlying33 rfl) ?_
      refine SO.v rfl (opv_pick_t' b42 rfl rfl) ?_
      refine SO.b5 ?_
      refine SO.b5 ?_
      refine SO.b5 ?_
      refine SO.b5 ?_
      refine SO.b5 ?_
      refine SO.b5 ?_
      exact hk2.fitc (m := 3) rfl (and_t b42) rfl
    · refine SO.passF rfl rfl rfl b42 rfl rfl ?_
      refine SO.passF rfl rfl rfl b42 rfl rfl ?_
      refine SO.v rfl (opv_pick_f' b42 rfl rfl) ?_
      refine SO.b5 ?_
      refine SO.b5 ?_
      refine SO.b5 ?_
      refine SO.b5 ?_
      refine SO.b5 ?_
      refine SO.b5 ?_
      exact hk2.fitc (m := 3) rfl (and_f b42) rfl
  refine SO.v rfl (opv_move rfl) ?_
  obtain ⟨⟨c44, w46⟩, hc45, hgk⟩ := opt_bind h
  refine SO.cut 5 63 (.bool c44) [Box b36 [.int .i64 t31.Code, .int .i64 t31.Word, .int .i64 t31.Badge], Own 63 (ekI .u64) v15 w46, Box b3 [u4_Slots, u4_Objs, .int .i64 t1.NS, .int .i64 t1.NO], OwnO 77 kr_ref10_Slot u4_Slots raws5 A6 t1.Slots, OwnO 70 kr_ref10_Obj u4_Objs raws9 A10 t1.Objs, F] (fun l2 hk2 => ?_) ?_
  · clear hgk
    replace h := hc45
    rcases bool_or ((((((t17.isNone && t21) && t22.isNone) && (!t26)) && t27.isNone) && (t31.Word == 9)) && t32.isNone) with b43 | b43
    · replace h := cond_t b43 h
      refine SO.takeT rfl rfl rfl b43 ?_
      refine SO.v rfl (opv_move rfl) ?_
      refine SO.takeT rfl rfl rfl b43 ?_
      refine SO.v rfl (opv_iface Try.underlying25 rfl rfl) ?_
      refine SO.takeT rfl rfl rfl b43 ?_
      obtain ⟨⟨t48, s50⟩, ht49, h⟩ := opt_bind h
      refine SO.b1 ?_
      refine SO.call (pre := [(plainV v15).rep _]) rfl Try.call13 rfl rfl rfl (irq_Ack.ct (plainV v15) _ _ _ _ ht49) trivial ?_
      rintro _ _ ⟨rfl, rfl⟩
      refine headEq (plainV_rep _ _) ?_
      refine SO.rd fun hr51 => ?_
      refine SO.takeT rfl rfl rfl b43 ?_
      refine SO.v rfl (opv_eqlN (e := t48) Try.underlying33 rfl) ?_
      cases h
      refine SO.v rfl (opv_pick_t' b43 rfl rfl) ?_
      refine SO.b5 ?_
      refine SO.b5 ?_
      refine SO.b5 ?_
      refine SO.b5 ?_
      refine SO.b4 ?_
      refine SO.b5 ?_
      exact hk2.fitc (m := 5) rfl (rfl) rfl
    · replace h := cond_f b43 h
      refine SO.passF rfl rfl rfl b43 rfl rfl ?_
      refine SO.passF rfl rfl rfl b43 rfl rfl ?_
      refine SO.passF rfl rfl rfl b43 rfl rfl ?_
      refine SO.passF rfl rfl rfl b43 rfl rfl ?_
      cases h
      refine SO.v rfl (opv_pick_f' b43 rfl rfl) ?_
      refine SO.b5 ?_
      refine SO.b5 ?_
      refine SO.b5 ?_
      refine SO.b5 ?_
      refine SO.b5 ?_
      refine SO.b5 ?_
      exact hk2.fitc (m := 5) rfl (rfl) rfl
  clear hc45
  replace h := hgk
  refine SO.b1 ?_
  refine SO.rd fun hr47 => ?_
  refine SO.v rfl (opv_move rfl) ?_
  obtain ⟨⟨c53, w55⟩, hc54, hgk⟩ := opt_bind h
  refine SO.cut 6 70 (.bool c53) [Own 63 (ekI .u64) v15 w55, Box b36 [.int .i64 t31.Code, .int .i64 t31.Word, .int .i64 t31.Badge], Box b3 [u4_Slots, u4_Objs, .int .i64 t1.NS, .int .i64 t1.NO], OwnO 77 kr_ref10_Slot u4_Slots raws5 A6 t1.Slots, OwnO 70 kr_ref10_Obj u4_Objs raws9 A10 t1.Objs, F] (fun l2 hk2 => ?_) ?_
  · clear hgk
    replace h := hc54
    rcases bool_or c44 with b52 | b52
    · replace h := cond_t b52 h
      refine SO.takeT rfl rfl rfl b52 ?_
      refine SO.v rfl (opv_move rfl) ?_
      refine SO.takeT rfl rfl rfl b52 ?_
      refine SO.v rfl (opv_iface Try.underlying25 rfl rfl) ?_
      refine SO.takeT rfl rfl rfl b52 ?_
      obtain ⟨⟨t57, s59⟩, ht58, h⟩ := opt_bind h
      refine SO.call (pre := [(plainV v15).rep _]) rfl Try.call13 rfl rfl rfl (irq_Ack.ct (plainV v15) _ _ _ _ ht58) trivial ?_
      rintro _ _ ⟨rfl, rfl⟩
      refine headEq (plainV_rep _ _) ?_
      refine SO.rd fun hr60 => ?_
      refine SO.takeT rfl rfl rfl b52 ?_
      refine SO.v rfl (opv_iface Try.underlying59 rfl rfl) ?_
      refine SO.takeT rfl rfl rfl b52 ?_
      refine SO.v rfl (opv_eqlE (e := t57) (c := 10) Try.underlying33 Try.underlying59 inf59 rfl rfl rfl) ?_
      cases h
      refine SO.v rfl (opv_pick_t' b52 rfl rfl) ?_
      refine SO.b5 ?_
      refine SO.b5 ?_
      refine SO.b5 ?_
      refine SO.b5 ?_
      refine SO.b5 ?_
      refine SO.b5 ?_
      exact hk2.fitc (m := 6) rfl (rfl) rfl
    · replace h := cond_f b52 h
      refine SO.passF rfl rfl rfl b52 rfl rfl ?_
      refine SO.passF rfl rfl rfl b52 rfl rfl ?_
      refine SO.passF rfl rfl rfl b52 rfl rfl ?_
      refine SO.passF rfl rfl rfl b52 rfl rfl ?_
      refine SO.passF rfl rfl rfl b52 rfl rfl ?_
      cases h
      refine SO.v rfl (opv_pick_f' b52 rfl rfl) ?_
      refine SO.b5 ?_
      refine SO.b5 ?_
      refine SO.b5 ?_
      refine SO.b5 ?_
      refine SO.b5 ?_
      refine SO.b5 ?_
      exact hk2.fitc (m := 6) rfl (rfl) rfl
  clear hc54
  replace h := hgk
  refine SO.rd fun hr56 => ?_
  refine SO.v rfl (opv_assign rfl) ?_
  refine SO.nil ?_
  refine S.to (ρ' := [(0, .bool c53)]) ⟨rfl, trivial⟩ ?_
  cases h
  refine S.b3 ?_
  refine S.closeR ?_
  refine S.b4 ?_
  refine S.closeR ?_
  refine S.drop ?_
  refine S.drop ?_
  refine S.drop ?_
  refine S.drop ?_
  refine S.drop ?_
  exact S.ret1 Try.func7 rfl rfl (fun w hs hk => hR w _ _ ⟨rfl, rfl⟩ hs hk)
end Go.Proofs
namespace Go.Proofs
open Go.Sl Go.RowKit
/-! 49 padstone/queue.there -/
def queue_there.f (a0 : Int) : Option (Bool) :=
  (lay_Obj.f a0 0).bind fun (t1, t2) => some t2
set_option maxHeartbeats 8000000 in
set_option maxRecDepth 100000 in
theorem queue_there.ct (a0 : Int) (r0 : Bool) (h : queue_there.f a0 = some r0) :
    Ct Try.prog 49 [.int .i64 a0] (fun _ => True) [] (fun u H' => u = .bool r0 ∧ H' = []) := by
  unfold queue_there.f at h
  refine Ct.intro (n := 11) Try.func49 rfl rfl rfl ?_
  intro R w0 F hF hR
  refine S.seq ?_
  refine S.region ?_
  refine SO.v rfl (opv_assign rfl) ?_
  refine SO.nil ?_
  refine S.seq ?_
  refine S.region ?_
  refine SO.v rfl (opv_move rfl) ?_
  obtain ⟨⟨t1, t2⟩, ht3, h⟩ := opt_bind h
  refine SO.call (pre := []) rfl Try.call45 rfl rfl rfl (lay_Obj.ct _ _ _ _ ht3) trivial ?_
  rintro _ _ ⟨rfl, rfl⟩
  refine SO.v rfl (opv_move rfl) ?_
  refine SO.v rfl (opv_extract rfl rfl) ?_
  refine SO.v rfl (opv_extract rfl rfl) ?_
  refine SO.v rfl (opv_assign rfl) ?_
  refine SO.v rfl (opv_assign rfl) ?_
  refine SO.nil ?_
  refine S.to (ρ' := [(2, .bool false), (4, .bool t2)]) ⟨rfl, rfl, trivial⟩ ?_
  refine S.seq ?_
  refine S.region ?_
  refine SO.v rfl (opv_move rfl) ?_
  refine SO.v rfl (opv_assign rfl) ?_
  refine SO.nil ?_
  cases h
  exact S.ret1 Try.func49 rfl rfl (fun w hs hk => hR w _ _ ⟨rfl, rfl⟩ hs hk)
end Go.Proofs
namespace Go.Proofs
open Go.Sl Go.RowKit
/-! 46 padstone/queue.Push -/
def queue_Push.f (a1 : Int) (a2 : Int) : VM ((Option Int)) :=
  (VM.opt (queue_there.f a1)).bind fun t1 => (bif !t1 then (VM.ret true) else ((VM.opt (queue_there.f a2)).bind fun t6 => VM.ret (!t6))).bind fun c4 => bif c4 then (VM.ret (some 2)) else ((lay_Put.f a2 2 0).bind fun _ => (lay_Ref.f a1 3).bind fun (t12, t13) => bif t13 then ((lay_Put.f t12 2 (w64 (a2 + 1))).bind fun _ => (lay_Put.f a1 3 (w64 (a2 + 1))).bind fun _ => VM.ret none) else ((lay_Put.f a1 2 (w64 (a2 + 1))).bind fun _ => (lay_Put.f a1 3 (w64 (a2 + 1))).bind fun _ => VM.ret none))
set_option maxHeartbeats 8000000 in
set_option maxRecDepth 100000 in
theorem queue_Push.ct (V : VW Try.prog) (a1 : Int) (a2 : Int) (r0 : Option Int) (s s' : V.S) (h : VM.run V.toVI (queue_Push.f a1 a2) s = some (r0, s')) :
    Ct Try.prog 46 [V.val, .int .i64 a1, .int .i64 a2] (fun _ => True) [V.rep s] (fun u H' => u = errV 59 r0 ∧ H' = [V.rep s']) := by
  unfold queue_Push.f at h
  refine Ct.intro (n := 43) Try.func46 rfl rfl rfl ?_
  intro R w0 F hF hR
  refine S.seq ?_
  refine S.region ?_
  refine SO.v rfl (opv_assign rfl) ?_
  refine SO.nil ?_
  refine S.seq ?_
  refine S.seq ?_
  refine S.region ?_
  refine SO.v rfl (opv_move rfl) ?_
  obtain ⟨t1, ht2, h⟩ := VM.opt_some V.toVI h
  refine SO.call (pre := []) rfl Try.call49 rfl rfl rfl (queue_there.ct _ _ ht2) trivial ?_
  rintro _ _ ⟨rfl, rfl⟩
  refine SO.v rfl (opv_not rfl) ?_
  refine SO.v rfl (opv_move rfl) ?_
  obtain ⟨c4, s8, hc5, hgk⟩ := VM.bind_some V.toVI h
  refine SO.cut 4 16 (.bool c4) [V.rep s8, F] (fun l2 hk2 => ?_) ?_
  · clear hgk
    replace h := hc5
    rcases bool_or (!t1) with b3 | b3
    · replace h := VM.cond_t V.toVI b3 h
      refine SO.passF rfl rfl rfl b3 rfl rfl ?_
      refine SO.passF rfl rfl rfl b3 rfl rfl ?_
      refine SO.passF rfl rfl rfl b3 rfl rfl ?_
      obtain ⟨hq, rfl⟩ := VM.ret_some V.toVI h
      cases hq
      refine SO.v rfl (opv_pick_t' b3 rfl rfl) ?_
      refine SO.b1 ?_
      refine SO.b1 ?_
      exact hk2.fitc (m := 4) rfl (rfl) rfl
    · replace h := VM.cond_f V.toVI b3 h
      refine SO.takeT rfl rfl rfl b3 ?_
      refine SO.v rfl (opv_move rfl) ?_
      refine SO.takeT rfl rfl rfl b3 ?_
      obtain ⟨t6, ht7, h⟩ := VM.opt_some V.toVI h
      refine SO.call (pre := []) rfl Try.call49 rfl rfl rfl (queue_there.ct _ _ ht7) trivial ?_
      rintro _ _ ⟨rfl, rfl⟩
      refine SO.takeT rfl rfl rfl b3 ?_
      refine SO.v rfl (opv_not rfl) ?_
      obtain ⟨hq, rfl⟩ := VM.ret_some V.toVI h
      cases hq
      refine SO.v rfl (opv_pick_f' b3 rfl rfl) ?_
      refine SO.b1 ?_
      refine SO.b1 ?_
      exact hk2.fitc (m := 4) rfl (rfl) rfl
  clear hc5
  replace h := hgk
  refine SO.nil ?_
  rcases bool_or c4 with b9 | b9
  · replace h := VM.cond_t V.toVI b9 h
    refine S.condT rfl b9 ?_
    refine S.seq ?_
    refine S.region ?_
    refine SO.v rfl (opv_iface Try.underlying59 rfl rfl) ?_
    refine SO.v rfl (opv_assign rfl) ?_
    refine SO.nil ?_
    obtain ⟨hq, rfl⟩ := VM.ret_some V.toVI h
    cases hq
    refine S.b1 ?_
    refine S.b1 ?_
    exact S.ret1 Try.func46 rfl rfl (fun w hs hk => hR w _ _ ⟨rfl, rfl⟩ hs hk)
  · replace h := VM.cond_f V.toVI b9 h
    refine S.condF rfl b9 ?_
    refine S.skip ?_
    refine S.seq ?_
    refine S.region ?_
    refine SO.v rfl (opv_move rfl) ?_
    refine SO.v rfl (opv_move rfl) ?_
    obtain ⟨_, s11, ht10, h⟩ := VM.bind_some V.toVI h
    refine SO.call (pre := [V.rep _]) rfl Try.call32 rfl rfl rfl (lay_Put.ct V _ _ _ _ _ ht10) trivial ?_
    rintro _ _ ⟨rfl, rfl⟩
    refine SO.nil ?_
    refine S.to (ρ' := [(0, V.val), (1, .int .i64 a1), (2, .int .i64 a2), (6, errV 59 none)]) ⟨rfl, rfl, rfl, rfl, trivial⟩ ?_
    refine S.seq ?_
    refine S.region ?_
    refine SO.v rfl (opv_move rfl) ?_
    refine SO.v rfl (opv_move rfl) ?_
    obtain ⟨⟨t12, t13⟩, s15, ht14, h⟩ := VM.bind_some V.toVI h
    refine SO.call (pre := [V.rep _]) rfl Try.call33 rfl rfl rfl (lay_Ref.ct V _ _ _ _ _ _ ht14) trivial ?_
    rintro _ _ ⟨rfl, rfl⟩
    refine SO.v rfl (opv_move rfl) ?_
    refine SO.v rfl (opv_extract rfl rfl) ?_
    refine SO.v rfl (opv_extract rfl rfl) ?_
    refine SO.v rfl (opv_assign rfl) ?_
    refine SO.v rfl (opv_assign rfl) ?_
    refine SO.nil ?_
    refine S.seq ?_
    refine S.seq ?_
    refine S.region ?_
    refine SO.v rfl (opv_move rfl) ?_
    refine SO.nil ?_
    refine S.to (ρ' := [(0, V.val), (1, .int .i64 a1), (2, .int .i64 a2), (6, errV 59 none), (7, .int .i64 t12), (27, .bool t13)]) ⟨rfl, rfl, rfl, rfl, rfl, rfl, trivial⟩ ?_
    rcases bool_or t13 with b16 | b16
    · replace h := VM.cond_t V.toVI b16 h
      refine S.condT rfl b16 ?_
      refine S.region ?_
      refine SO.v rfl (opv_move rfl) ?_
      refine SO.v rfl (opv_move rfl) ?_
      refine SO.v rfl (opv_move rfl) ?_
      refine SO.v rfl (opv_add rfl rfl) ?_
      obtain ⟨_, s18, ht17, h⟩ := VM.bind_some V.toVI h
      refine SO.call (pre := [V.rep _]) rfl Try.call32 rfl rfl rfl (lay_Put.ct V _ _ _ _ _ ht17) trivial ?_
      rintro _ _ ⟨rfl, rfl⟩
      refine SO.nil ?_
      refine S.to (ρ' := [(0, V.val), (1, .int .i64 a1), (2, .int .i64 a2), (6, errV 59 none)]) ⟨rfl, rfl, rfl, rfl, trivial⟩ ?_
      refine S.seq ?_
      refine S.region ?_
      refine SO.v rfl (opv_move rfl) ?_
      refine SO.v rfl (opv_move rfl) ?_
      refine SO.v rfl (opv_move rfl) ?_
      refine SO.v rfl (opv_add rfl rfl) ?_
      obtain ⟨_, s20, ht19, h⟩ := VM.bind_some V.toVI h
      refine SO.call (pre := [V.rep _]) rfl Try.call32 rfl rfl rfl (lay_Put.ct V _ _ _ _ _ ht19) trivial ?_
      rintro _ _ ⟨rfl, rfl⟩
      refine SO.nil ?_
      refine S.to (ρ' := [(6, errV 59 none)]) ⟨rfl, trivial⟩ ?_
      refine S.seq ?_
      refine S.region ?_
      refine SO.v rfl (opv_assign rfl) ?_
      refine SO.nil ?_
      obtain ⟨hq, rfl⟩ := VM.ret_some V.toVI h
      cases hq
      refine S.b1 ?_
      refine S.b1 ?_
      exact S.ret1 Try.func46 rfl rfl (fun w hs hk => hR w _ _ ⟨rfl, rfl⟩ hs hk)
    · replace h := VM.cond_f V.toVI b16 h
      refine S.condF rfl b16 ?_
      refine S.region ?_
      refine SO.v rfl (opv_move rfl) ?_
      refine SO.v rfl (opv_move rfl) ?_
      refine SO.v rfl (opv_move rfl) ?_
      refine SO.v rfl (opv_add rfl rfl) ?_
      obtain ⟨_, s22, ht21, h⟩ := VM.bind_some V.toVI h
      refine SO.call (pre := [V.rep _]) rfl Try.call32 rfl rfl rfl (lay_Put.ct V _ _ _ _ _ ht21) trivial ?_
      rintro _ _ ⟨rfl, rfl⟩
      refine SO.nil ?_
      refine S.to (ρ' := [(0, V.val), (1, .int .i64 a1), (2, .int .i64 a2), (6, errV 59 none)]) ⟨rfl, rfl, rfl, rfl, trivial⟩ ?_
      refine S.seq ?_
      refine S.region ?_
      refine SO.v rfl (opv_move rfl) ?_
      refine SO.v rfl (opv_move rfl) ?_
      refine SO.v rfl (opv_move rfl) ?_
      refine SO.v rfl (opv_add rfl rfl) ?_
      obtain ⟨_, s24, ht23, h⟩ := VM.bind_some V.toVI h
      refine SO.call (pre := [V.rep _]) rfl Try.call32 rfl rfl rfl (lay_Put.ct V _ _ _ _ _ ht23) trivial ?_
      rintro _ _ ⟨rfl, rfl⟩
      refine SO.nil ?_
      refine S.to (ρ' := [(6, errV 59 none)]) ⟨rfl, trivial⟩ ?_
      refine S.seq ?_
      refine S.region ?_
      refine SO.v rfl (opv_assign rfl) ?_
      refine SO.nil ?_
      obtain ⟨hq, rfl⟩ := VM.ret_some V.toVI h
      cases hq
      refine S.b1 ?_
      refine S.b1 ?_
      exact S.ret1 Try.func46 rfl rfl (fun w hs hk => hR w _ _ ⟨rfl, rfl⟩ hs hk)
end Go.Proofs
namespace Go.Proofs
open Go.Sl Go.RowKit
/-! 38 padstone/endp.Block -/
def endp_Block.f (a1 : Int) (a2 : Int) (a3 : Int) : VM (Unit) :=
  (queue_Push.f a1 a2).bind fun t1 => bif t1.isSome then (VM.ret ()) else ((lay_Put.f a2 1 a3).bind fun _ => (endp_on.f a2 (w64 (a1 + 1))).bind fun _ => VM.ret ())
set_option maxHeartbeats 8000000 in
set_option maxRecDepth 100000 in
theorem endp_Block.ct (V : VW Try.prog) (a1 : Int) (a2 : Int) (a3 : Int) (s s' : V.S) (h : VM.run V.toVI (endp_Block.f a1 a2 a3) s = some ((), s')) :
    Ct Try.prog 38 [V.val, .int .i64 a1, .int .i64 a2, .int .i64 a3] (fun _ => True) [V.rep s] (fun u H' => u = .tuple #[] ∧ H' = [V.rep s']) := by
  unfold endp_Block.f at h
  refine Ct.intro (n := 24) Try.func38 rfl rfl rfl ?_
  intro R w0 F hF hR
  refine S.seq ?_
  refine S.seq ?_
  refine S.region ?_
  refine SO.v rfl (opv_move rfl) ?_
  refine SO.v rfl (opv_move rfl) ?_
  refine SO.v rfl (opv_move rfl) ?_
  obtain ⟨t1, s3, ht2, h⟩ := VM.bind_some V.toVI h
  refine SO.call (pre := [V.rep _]) rfl Try.call46 rfl rfl rfl (queue_Push.ct V _ _ _ _ _ ht2) trivial ?_
  rintro _ _ ⟨rfl, rfl⟩
  refine SO.v rfl (opv_assign rfl) ?_
  refine SO.nil ?_
  refine S.seq ?_
  refine S.region ?_
  refine SO.v rfl (opv_move rfl) ?_
  refine SO.v rfl (opv_neqN (e := t1) Try.underlying33 rfl) ?_
  refine SO.nil ?_
  rcases bool_or t1.isSome with b4 | b4
  · replace h := VM.cond_t V.toVI b4 h
    refine S.condT rfl b4 ?_
    obtain ⟨hq, rfl⟩ := VM.ret_some V.toVI h
    cases hq
    refine S.b1 ?_
    refine S.b1 ?_
    exact S.ret0 Try.func38 rfl (fun w hs hk => hR w _ _ ⟨rfl, rfl⟩ hs hk)
  · replace h := VM.cond_f V.toVI b4 h
    refine S.condF rfl b4 ?_
    refine S.skip ?_
    refine S.seq ?_
    refine S.region ?_
    refine SO.v rfl (opv_move rfl) ?_
    refine SO.v rfl (opv_move rfl) ?_
    refine SO.v rfl (opv_move rfl) ?_
    obtain ⟨_, s6, ht5, h⟩ := VM.bind_some V.toVI h
    refine SO.call (pre := [V.rep _]) rfl Try.call32 rfl rfl rfl (lay_Put.ct V _ _ _ _ _ ht5) trivial ?_
    rintro _ _ ⟨rfl, rfl⟩
    refine SO.nil ?_
    refine S.to (ρ' := [(0, V.val), (1, .int .i64 a1), (2, .int .i64 a2)]) ⟨rfl, rfl, rfl, trivial⟩ ?_
    refine S.region ?_
    refine SO.v rfl (opv_move rfl) ?_
    refine SO.v rfl (opv_move rfl) ?_
    refine SO.v rfl (opv_move rfl) ?_
    refine SO.v rfl (opv_add rfl rfl) ?_
    obtain ⟨_, s8, ht7, h⟩ := VM.bind_some V.toVI h
    refine SO.call (pre := [V.rep _]) rfl Try.call47 rfl rfl rfl (endp_on.ct V _ _ _ _ ht7) trivial ?_
    rintro _ _ ⟨rfl, rfl⟩
    refine SO.nil ?_
    refine S.to (ρ' := []) trivial ?_
    obtain ⟨hq, rfl⟩ := VM.ret_some V.toVI h
    cases hq
    refine S.b1 ?_
    refine S.b1 ?_
    exact S.fin0 Try.func38 rfl (fun w hs hk => hR w _ _ ⟨rfl, rfl⟩ hs hk)
end Go.Proofs
namespace Go.Proofs
open Go.Sl Go.RowKit
/-! 18 padstone/ntfn.Wait -/
def ntfn_Wait.f (a1 : Int) (a2 : Int) : VM ((api_Reply × Bool × (Option Int))) :=
  (VM.opt (ntfn_there.f a1)).bind fun t2 => (bif !t2 then (VM.ret true) else ((VM.opt (ntfn_there.f a2)).bind fun t7 => VM.ret (!t7))).bind fun c5 => bif c5 then (VM.ret ((⟨0, 0, 0⟩ : api_Reply), false, (some 2))) else ((ntfn_word.f a1).bind fun t11 => bif t11 == 0 then ((endp_Block.f a1 a2 5).bind fun _ => VM.ret ((⟨0, 0, 0⟩ : api_Reply), false, none)) else ((ntfn_Poll.f a1).bind fun (t17, t18) => VM.ret (t17, t18.isNone, t18)))
set_option maxHeartbeats 8000000 in
set_option maxRecDepth 100000 in
theorem ntfn_Wait.ct (V : VW Try.prog) (a1 : Int) (a2 : Int) (r0 : api_Reply) (r1 : Bool) (r2 : Option Int) (s s' : V.S) (h : VM.run V.toVI (ntfn_Wait.f a1 a2) s = some ((r0, r1, r2), s')) :
    Ct Try.prog 18 [V.val, .int .i64 a1, .int .i64 a2] (fun _ => True) [V.rep s] (fun u H' => u = .tuple #[.agg #[.int .i64 r0.Code, .int .i64 r0.Word, .int .i64 r0.Badge], .bool r1, errV 59 r2] ∧ H' = [V.rep s']) := by
  unfold ntfn_Wait.f at h
  refine Ct.intro (n := 42) Try.func18 rfl rfl rfl ?_
  intro R w0 F hF hR
  refine S.seq ?_
  refine S.region ?_
  refine SO.alloc rfl Try.zeroValue45 rfl (fun b1 => ?_)
  refine SO.v rfl (opv_assign rfl) ?_
  refine SO.v rfl (opv_assign rfl) ?_
  refine SO.nil ?_
  refine S.seq ?_
  refine S.block ?_
  refine S.seq ?_
  refine S.region ?_
  refine SO.v rfl (opv_move rfl) ?_
  obtain ⟨t2, ht3, h⟩ := VM.opt_some V.toVI h
  refine SO.call (pre := []) rfl Try.call36 rfl rfl rfl (ntfn_there.ct _ _ ht3) trivial ?_
  rintro _ _ ⟨rfl, rfl⟩
  refine SO.v rfl (opv_not rfl) ?_
  refine SO.v rfl (opv_move rfl) ?_
  obtain ⟨c5, s9, hc6, hgk⟩ := VM.bind_some V.toVI h
  refine SO.cut 4 19 (.bool c5) [Box b1 [.int .i64 0, .int .i64 0, .int .i64 0], V.rep s9, F] (fun l2 hk2 => ?_) ?_
  · clear hgk
    replace h := hc6
    rcases bool_or (!t2) with b4 | b4
    · replace h := VM.cond_t V.toVI b4 h
      refine SO.passF rfl rfl rfl b4 rfl rfl ?_
      refine SO.passF rfl rfl rfl b4 rfl rfl ?_
      refine SO.passF rfl rfl rfl b4 rfl rfl ?_
      obtain ⟨hq, rfl⟩ := VM.ret_some V.toVI h
      cases hq
      refine SO.v rfl (opv_pick_t' b4 rfl rfl) ?_
      refine SO.b2 ?_
      refine SO.b2 ?_
      refine SO.b2 ?_
      exact hk2.fitc (m := 4) rfl (rfl) rfl
    · replace h := VM.cond_f V.toVI b4 h
      refine SO.takeT rfl rfl rfl b4 ?_
      refine SO.v rfl (opv_move rfl) ?_
      refine SO.takeT rfl rfl rfl b4 ?_
      obtain ⟨t7, ht8, h⟩ := VM.opt_some V.toVI h
      refine SO.call (pre := []) rfl Try.call36 rfl rfl rfl (ntfn_there.ct _ _ ht8) trivial ?_
      rintro _ _ ⟨rfl, rfl⟩
      refine SO.takeT rfl rfl rfl b4 ?_
      refine SO.v rfl (opv_not rfl) ?_
      obtain ⟨hq, rfl⟩ := VM.ret_some V.toVI h
      cases hq
      refine SO.v rfl (opv_pick_f' b4 rfl rfl) ?_
      refine SO.b2 ?_
      refine SO.b2 ?_
      refine SO.b2 ?_
      exact hk2.fitc (m := 4) rfl (rfl) rfl
  clear hc6
  replace h := hgk
  refine SO.v rfl (opv_assign rfl) ?_
  refine SO.nil ?_
  rcases bool_or c5 with b10 | b10
  · replace h := VM.cond_t V.toVI b10 h
    refine S.condT rfl b10 ?_
    refine S.seq ?_
    refine S.region ?_
    refine SO.v rfl (opv_build (v := .agg #[.int .i64 0, .int .i64 0, .int .i64 0]) rfl (by intro w; kernel_rfl)) ?_
    refine SO.v rfl (opv_iface Try.underlying59 rfl rfl) ?_
    refine SO.storeN Try.sizeOf45 rfl rfl rfl rfl rfl rfl ?_
    refine SO.v rfl (opv_assign rfl) ?_
    refine SO.v rfl (opv_assign rfl) ?_
    refine SO.nil ?_
    refine S.to (ρ' := [(0, V.val), (1, .int .i64 a1), (6, bp b1 0), (7, .bool false), (8, errV 59 (some 2))]) ⟨rfl, rfl, rfl, rfl, rfl, trivial⟩ ?_
    obtain ⟨hq, rfl⟩ := VM.ret_some V.toVI h
    cases hq
    refine S.b2 ?_
    refine S.b2 ?_
    refine S.b2 ?_
    exact S.retC2 Try.func18 rfl rfl rfl rfl Try.isAgg45 Try.sizeOf45 rfl rfl (fun w hs hk => hR w _ _ ⟨rfl, rfl⟩ hs.drop hk)
  · replace h := VM.cond_f V.toVI b10 h
    refine S.condF rfl b10 ?_
    refine S.seq ?_
    refine S.region ?_
    refine SO.v rfl (opv_move rfl) ?_
    refine SO.v rfl (opv_move rfl) ?_
    obtain ⟨t11, s13, ht12, h⟩ := VM.bind_some V.toVI h
    refine SO.b1 ?_
    refine SO.call (pre := [V.rep _]) rfl Try.call37 rfl rfl rfl (ntfn_word.ct V _ _ _ _ ht12) trivial ?_
    rintro _ _ ⟨rfl, rfl⟩
    refine SO.v rfl (opv_eql rfl rfl) ?_
    refine SO.v rfl (opv_assign rfl) ?_
    refine SO.nil ?_
    refine S.to (ρ' := [(0, V.val), (1, .int .i64 a1), (2, .int .i64 a2), (6, bp b1 0), (7, .bool false), (8, errV 59 none), (22, .bool (t11 == 0))]) ⟨rfl, rfl, rfl, rfl, rfl, rfl, rfl, trivial⟩ ?_
    rcases bool_or (t11 == 0) with b14 | b14
    · replace h := VM.cond_t V.toVI b14 h
      refine S.condT rfl b14 ?_
      refine S.seq ?_
      refine S.region ?_
      refine SO.v rfl (opv_move rfl) ?_
      refine SO.v rfl (opv_move rfl) ?_
      refine SO.v rfl (opv_move rfl) ?_
      obtain ⟨_, s16, ht15, h⟩ := VM.bind_some V.toVI h
      refine SO.call (pre := [V.rep _]) rfl Try.call38 rfl rfl rfl (endp_Block.ct V _ _ _ _ _ ht15) trivial ?_
      rintro _ _ ⟨rfl, rfl⟩
      refine SO.nil ?_
      refine S.seq ?_
      refine S.region ?_
      refine SO.v rfl (opv_build (v := .agg #[.int .i64 0, .int .i64 0, .int .i64 0]) rfl (by intro w; kernel_rfl)) ?_
      refine SO.b1 ?_
      refine SO.storeN Try.sizeOf45 rfl rfl rfl rfl rfl rfl ?_
      refine SO.v rfl (opv_assign rfl) ?_
      refine SO.v rfl (opv_assign rfl) ?_
      refine SO.nil ?_
      refine S.to (ρ' := [(0, V.val), (1, .int .i64 a1), (6, bp b1 0), (7, .bool false), (8, errV 59 none)]) ⟨rfl, rfl, rfl, rfl, rfl, trivial⟩ ?_
      obtain ⟨hq, rfl⟩ := VM.ret_some V.toVI h
      cases hq
      refine S.b2 ?_
      refine S.b2 ?_
      refine S.b2 ?_
      exact S.retC2 Try.func18 rfl rfl rfl rfl Try.isAgg45 Try.sizeOf45 rfl rfl (fun w hs hk => hR w _ _ ⟨rfl, rfl⟩ hs.drop hk)
    · replace h := VM.cond_f V.toVI b14 h
      refine S.condF rfl b14 ?_
      refine S.skip ?_
      refine S.inBlock ?_
      refine S.seq ?_
      refine S.region ?_
      refine SO.v rfl (opv_move rfl) ?_
      refine SO.v rfl (opv_move rfl) ?_
      obtain ⟨⟨t17, t18⟩, s20, ht19, h⟩ := VM.bind_some V.toVI h
      refine SO.call (pre := [V.rep _]) rfl Try.call25 rfl rfl rfl (ntfn_Poll.ct V _ _ _ _ _ ht19) trivial ?_
      rintro _ _ ⟨rfl, rfl⟩
      refine SO.v rfl (opv_move rfl) ?_
      refine SO.v rfl (opv_extract rfl rfl) ?_
      refine SO.v rfl (opv_extract rfl rfl) ?_
      refine SO.alloc rfl Try.zeroValue45 rfl (fun b21 => ?_)
      refine SO.storeN Try.sizeOf45 rfl rfl rfl rfl rfl rfl ?_
      refine SO.v rfl (opv_assign rfl) ?_
      refine SO.nil ?_
      refine S.to (ρ' := [(6, bp b1 0), (7, .bool false), (8, errV 59 none), (9, bp b21 0), (10, errV 59 t18)]) ⟨rfl, rfl, rfl, rfl, rfl, trivial⟩ ?_
      refine S.seq ?_
      refine S.draw' (Z := fun Q => ∀ (_ : Unit) (_ : Unit) (_ : Unit) (_ : Unit) (_ : Unit) (_ : Unit) (_ : Unit), Q [(6, bp b1 0), (7, .bool t18.isNone), (8, errV 59 t18)] [Box b21 [.int .i64 t17.Code, .int .i64 t17.Word, .int .i64 t17.Badge], V.rep s20, Box b1 [.int .i64 t17.Code, .int .i64 t17.Word, .int .i64 t17.Badge], F]) (T := [tS 9 (bp b21 0), tS 10 (errV 59 t18), tS 6 (bp b1 0), tR (Box b21 [.int .i64 t17.Code, .int .i64 t17.Word, .int .i64 t17.Badge]), tR (V.rep s20), tR (Box b1 [.int .i64 0, .int .i64 0, .int .i64 0]), tR (F), tS 38 (.agg #[.int .i64 t17.Code, .int .i64 t17.Word, .int .i64 t17.Badge]), tS 39 (errV 59 t18), tS 40 (.bool t18.isNone), tS 41 (errV 59 t18), tR (Box b1 [.int .i64 t17.Code, .int .i64 t17.Word, .int .i64 t17.Badge]), tS 7 (.bool t18.isNone), tS 8 (errV 59 t18)]) (D := [⟨[0, 3], [], [7]⟩, ⟨[1], [], [8]⟩, ⟨[8], [], [9]⟩, ⟨[1], [], [10]⟩, ⟨[2, 7], [5], [11]⟩, ⟨[9], [], [12]⟩, ⟨[10], [], [13]⟩]) (ini := [0, 1, 2, 3, 4, 5, 6]) (fin := [2, 12, 13, 3, 4, 11, 6]) (bf := [[], [], [1], [], [0], [0, 1, 2, 4], [0, 1, 2, 3, 4, 5]]) (by kernel_rfl) (by kernel_rfl) (fun x w h1 h2 => (.cons () (.cons () (.cons () (.cons () (.cons () (.cons () (.cons () (.nil ⟨EnvAll.of h1 ⟨rfl, rfl, rfl, trivial⟩, h2⟩))))))))) (fun Q => by kernel_rfl) ⟨?_, ?_, ?_, ?_, ?_, ?_, ?_, trivial⟩ ?_
      · rintro Fr _ _
        refine SO.loadN rfl Try.isAgg45 Try.sizeOf45 rfl rfl rfl ?_
        exact SO.nilZ fun a w h1 h2 h3 h4 h5 => PZ.of h1 h3 h5 (.cons () (.cons () (.cons () (.nil ⟨EnvAll.of h2 ⟨rfl, rfl, trivial⟩, h4⟩))))
      · rintro Fr _
        refine SO.v rfl (opv_move rfl) ?_
        exact SO.nilZ fun a w h1 h2 h3 h4 h5 => PZ.of h1 h3 h5 (.cons () (.cons () (.nil ⟨EnvAll.of h2 ⟨rfl, rfl, trivial⟩, h4⟩)))
      · rintro Fr _
        refine SO.v rfl (opv_eqlN (e := t18) Try.underlying33 rfl) ?_
        exact SO.nilZ fun a w h1 h2 h3 h4 h5 => PZ.of h1 h3 h5 (.cons () (.cons () (.nil ⟨EnvAll.of h2 ⟨rfl, rfl, trivial⟩, h4⟩)))
      · rintro Fr _
        refine SO.v rfl (opv_move rfl) ?_
        exact SO.nilZ fun a w h1 h2 h3 h4 h5 => PZ.of h1 h3 h5 (.cons () (.cons () (.nil ⟨EnvAll.of h2 ⟨rfl, rfl, trivial⟩, h4⟩)))
      · rintro Fr _ _ _
        refine SO.storeN Try.sizeOf45 rfl rfl rfl rfl rfl rfl ?_
        exact SO.nilZ fun a w h1 h2 h3 h4 h5 => PZ.of h1 h3 h5 (.cons () (.cons () (.cons () (.nil ⟨EnvAll.of h2 ⟨rfl, rfl, trivial⟩, h4⟩))))
      · rintro Fr _
        refine SO.v rfl (opv_assign rfl) ?_
        exact SO.nilZ fun a w h1 h2 h3 h4 h5 => PZ.of h1 h3 h5 (.cons () (.cons () (.nil ⟨EnvAll.of h2 ⟨rfl, rfl, trivial⟩, h4⟩)))
      · rintro Fr _
        refine SO.v rfl (opv_assign rfl) ?_
        exact SO.nilZ fun a w h1 h2 h3 h4 h5 => PZ.of h1 h3 h5 (.cons () (.cons () (.nil ⟨EnvAll.of h2 ⟨rfl, rfl, trivial⟩, h4⟩)))
      rintro _ _ _ _ _ _ _
      refine S.to (ρ' := [(6, bp b1 0), (7, .bool t18.isNone), (8, errV 59 t18)]) ⟨rfl, rfl, rfl, trivial⟩ ?_
      obtain ⟨hq, rfl⟩ := VM.ret_some V.toVI h
      cases hq
      refine S.drop ?_
      refine S.b2 ?_
      refine S.b1 ?_
      refine S.b2 ?_
      exact S.retC2 Try.func18 rfl rfl rfl rfl Try.isAgg45 Try.sizeOf45 rfl rfl (fun w hs hk => hR w _ _ ⟨rfl, rfl⟩ hs.drop hk)
end Go.Proofs
namespace Go.Proofs
open Go.Sl Go.RowKit
/-! 21 padstone/padstoneref10.Same -/
def ref10_Same.l1 (a0 : List Int) (a1 : List Int) : Nat → Int → Option (Brk Bool Unit)
  | 0, _ => none
  | k + 1, x5_1 => bif decide (x5_1 < (a0.length : Int)) then ((at_ a0 x5_1).bind fun x3 => (at_ a1 x5_1).bind fun x5 => bif x3 != x5 then (some (Brk.ret false)) else (ref10_Same.l1 a0 a1 k (w64 (x5_1 + 1)))) else (some (Brk.nx ()))
def ref10_Same.f (k : Nat) (a0 : List Int) (a1 : List Int) : Option (Bool) :=
  bif (a0.length : Int) != (a1.length : Int) then (some false) else ((ref10_Same.l1 a0 a1 k 0).bind fun o1 => Brk.go o1 (fun r => some r) (fun _ => some true))
set_option maxHeartbeats 8000000 in
set_option maxRecDepth 100000 in
theorem ref10_Same.ct (k : Nat) (v0 : Value) (v1 : Value) (a0 : List Int) (a1 : List Int) (r0 : Bool) (h : ref10_Same.f k a0 a1 = some r0) :
    Ct Try.prog 21 [v0, v1] (fun F => Rd (ekI .u64) v0 a0 F ∧ Rd (ekI .u64) v1 a1 F) [] (fun u H' => u = .bool r0 ∧ H' = []) := by
  unfold ref10_Same.f at h
  refine Ct.intro (n := 26) Try.func21 rfl rfl rfl ?_
  intro R w0 F hF hR
  obtain ⟨hF0, hF1⟩ := hF
  refine S.seq ?_
  refine S.region ?_
  refine SO.v rfl (opv_assign rfl) ?_
  refine SO.nil ?_
  refine S.seq ?_
  refine S.seq ?_
  refine S.region ?_
  refine SO.v rfl (opv_move rfl) ?_
  refine SO.v rfl (opv_lenR rfl Try.underlying24 hF0 rfl) ?_
  refine SO.v rfl (opv_move rfl) ?_
  refine SO.v rfl (opv_lenR rfl Try.underlying24 hF1 rfl) ?_
  refine SO.v rfl (opv_neq rfl rfl) ?_
  refine SO.nil ?_
  rcases bool_or ((a0.length : Int) != (a1.length : Int)) with b1 | b1
  · replace h := cond_t b1 h
    refine S.condT rfl b1 ?_
    refine S.seq ?_
    refine S.region ?_
    refine SO.v rfl (opv_assign rfl) ?_
    refine SO.nil ?_
    cases h
    exact S.ret1 Try.func21 rfl rfl (fun w hs hk => hR w _ _ ⟨rfl, rfl⟩ hs hk)
  · replace h := cond_f b1 h
    refine S.condF rfl b1 ?_
    refine S.skip ?_
    refine S.seq ?_
    refine S.seq ?_
    refine S.region ?_
    refine SO.v rfl (opv_assign rfl) ?_
    refine SO.nil ?_
    obtain ⟨o1, hl1, h⟩ := opt_bind h
    refine S.to (ρ' := [(5, .int .i64 0), (4, .bool false), (0, v0), (1, v1)]) ⟨rfl, rfl, rfl, rfl, trivial⟩ ?_
    refine S.forloop (X := Int × Unit) (O := Brk Bool Unit) (fun m x => ref10_Same.l1 a0 a1 m x.1) (fun x => match x with | (x5_1, _) => [(5, .int .i64 x5_1), (4, .bool false), (0, v0), (1, v1)]) (fun x => match x with | (x5_1, _) => [F]) (fun Sk o' => (∀ r', o' = Brk.ret r' → some r' = some r0) ∧ ∀ _ : Unit, ∀ _ : Unit, o' = Brk.nx () → Sk [(4, .bool false)] [F]) (fun _ => rfl) ?_ (m := k) (x := (0, ())) hl1 ?_
    · clear h hl1
      intro k x o_1 h hK1 ih1
      obtain ⟨x5_1, _⟩ := x
      replace h : ref10_Same.l1 a0 a1 (k + 1) x5_1 = some o_1 := h
      first | rw [ref10_Same.l1] at h | unfold ref10_Same.l1 at h
      refine S.seq ?_
      refine S.seq ?_
      refine S.region ?_
      refine SO.v rfl (opv_move rfl) ?_
      refine SO.v rfl (opv_move rfl) ?_
      refine SO.v rfl (opv_lenR rfl Try.underlying24 hF0 rfl) ?_
      refine SO.v rfl (opv_lss rfl rfl) ?_
      refine SO.nil ?_
      rcases bool_or (decide (x5_1 < (a0.length : Int))) with b2 | b2
      · replace h := cond_t b2 h
        refine S.condT rfl b2 ?_
        refine S.skip ?_
        refine S.seq ?_
        refine S.block ?_
        refine S.seq ?_
        obtain ⟨x3, hx4, h⟩ := opt_bind h
        obtain ⟨x5, hx6, h⟩ := opt_bind h
        refine S.draw' (Z := fun Q => ∀ (_ : Unit) (_ : Unit) (_ : Unit) (_ : Unit) (_ : Unit) (_ : Unit) (_ : Unit) (_ : Unit) (_ : Unit) (_ : Unit) (_ : Unit) (_ : Unit) (_ : Unit) (_ : Unit), Q [(5, .int .i64 x5_1), (14, .bool (decide (x5_1 < (a0.length : Int)))), (13, .int .i64 (a0.length : Int)), (12, v0), (11, .int .i64 x5_1), (4, .bool false), (0, v0), (1, v1), (17, v0), (18, .int .i64 x5_1), (19, idxp v0 (x5_1.toNat * (ekI .u64).sz)), (20, .int .u64 x3), (21, v1), (22, .int .i64 x5_1), (23, idxp v1 (x5_1.toNat * (ekI .u64).sz)), (24, .int .u64 x5), (25, .bool (x3 != x5))] [F]) (T := [tS 0 (v0), tS 5 (.int .i64 x5_1), tS 1 (v1), tE [(14, .bool (decide (x5_1 < (a0.length : Int)))), (13, .int .i64 (a0.length : Int)), (12, v0), (11, .int .i64 x5_1), (4, .bool false)], tR (F), tS 17 (v0), tS 18 (.int .i64 x5_1), tS 19 (idxp v0 (x5_1.toNat * (ekI .u64).sz)), tS 20 (.int .u64 x3), tS 21 (v1), tS 22 (.int .i64 x5_1), tS 23 (idxp v1 (x5_1.toNat * (ekI .u64).sz)), tS 24 (.int .u64 x5), tS 25 (.bool (x3 != x5))]) (D := [⟨[0], [], [5]⟩, ⟨[1], [], [6]⟩, ⟨[5, 6, 4], [], [7]⟩, ⟨[7, 4], [], [8]⟩, ⟨[2], [], [9]⟩, ⟨[1], [], [10]⟩, ⟨[9, 10, 4], [], [11]⟩, ⟨[11, 4], [], [12]⟩, ⟨[8, 12], [], [13]⟩]) (ini := [0, 1, 2, 3, 4]) (fin := [1, 3, 0, 2, 5, 6, 7, 8, 9, 10, 11, 12, 13, 4]) (bf := [[], [], [0, 1], [0, 1, 2], [], [], [4, 5], [4, 5, 6], [0, 1, 2, 3, 4, 5, 6, 7]]) (by kernel_rfl) (by kernel_rfl) (fun x w h1 h2 => (.cons () (.cons () (.cons () (.cons () (.cons () (.nil ⟨EnvAll.of h1 ⟨rfl, rfl, rfl, rfl, rfl, rfl, rfl, rfl, trivial⟩, h2⟩))))))) (fun Q => by kernel_rfl) ⟨?_, ?_, ?_, ?_, ?_, ?_, ?_, ?_, ?_, trivial⟩ ?_
        · rintro Fr _
          refine SO.v rfl (opv_move rfl) ?_
          exact SO.nilZ fun a w h1 h2 h3 h4 h5 => PZ.of h1 h3 h5 (.cons () (.cons () (.nil ⟨EnvAll.of h2 ⟨rfl, rfl, trivial⟩, h4⟩)))
        · rintro Fr _
          refine SO.v rfl (opv_move rfl) ?_
          exact SO.nilZ fun a w h1 h2 h3 h4 h5 => PZ.of h1 h3 h5 (.cons () (.cons () (.nil ⟨EnvAll.of h2 ⟨rfl, rfl, trivial⟩, h4⟩)))
        · rintro Fr _ _ _
          refine SO.v rfl (opv_idx Try.underlying24 Try.sizeOf63 hF0 rfl rfl hx4) ?_
          exact SO.nilZ fun a w h1 h2 h3 h4 h5 => PZ.of h1 h3 h5 (.cons () (.cons () (.cons () (.cons () (.nil ⟨EnvAll.of h2 ⟨rfl, rfl, rfl, trivial⟩, h4⟩)))))
        · rintro Fr _ _
          refine SO.loadI1 (j := 0) rfl Try.isAgg63 (Rd.head hF0) hx4 rfl rfl rfl rfl ?_
          exact SO.nilZ fun a w h1 h2 h3 h4 h5 => PZ.of h1 h3 h5 (.cons () (.cons () (.cons () (.nil ⟨EnvAll.of h2 ⟨rfl, rfl, trivial⟩, h4⟩))))
        · rintro Fr _
          refine SO.v rfl (opv_move rfl) ?_
          exact SO.nilZ fun a w h1 h2 h3 h4 h5 => PZ.of h1 h3 h5 (.cons () (.cons () (.nil ⟨EnvAll.of h2 ⟨rfl, rfl, trivial⟩, h4⟩)))
        · rintro Fr _
          refine SO.v rfl (opv_move rfl) ?_
          exact SO.nilZ fun a w h1 h2 h3 h4 h5 => PZ.of h1 h3 h5 (.cons () (.cons () (.nil ⟨EnvAll.of h2 ⟨rfl, rfl, trivial⟩, h4⟩)))
        · rintro Fr _ _ _
          refine SO.v rfl (opv_idx Try.underlying24 Try.sizeOf63 hF1 rfl rfl hx6) ?_
          exact SO.nilZ fun a w h1 h2 h3 h4 h5 => PZ.of h1 h3 h5 (.cons () (.cons () (.cons () (.cons () (.nil ⟨EnvAll.of h2 ⟨rfl, rfl, rfl, trivial⟩, h4⟩)))))
        · rintro Fr _ _
          refine SO.loadI1 (j := 0) rfl Try.isAgg63 (Rd.head hF1) hx6 rfl rfl rfl rfl ?_
          exact SO.nilZ fun a w h1 h2 h3 h4 h5 => PZ.of h1 h3 h5 (.cons () (.cons () (.cons () (.nil ⟨EnvAll.of h2 ⟨rfl, rfl, trivial⟩, h4⟩))))
        · rintro Fr _ _
          refine SO.v rfl (opv_neq rfl rfl) ?_
          exact SO.nilZ fun a w h1 h2 h3 h4 h5 => PZ.of h1 h3 h5 (.cons () (.cons () (.cons () (.nil ⟨EnvAll.of h2 ⟨rfl, rfl, rfl, trivial⟩, h4⟩))))
        rintro _ _ _ _ _ _ _ _ _ _ _ _ _ _
        refine S.to (ρ' := [(5, .int .i64 x5_1), (14, .bool (decide (x5_1 < (a0.length : Int)))), (13, .int .i64 (a0.length : Int)), (12, v0), (11, .int .i64 x5_1), (4, .bool false), (0, v0), (1, v1), (17, v0), (18, .int .i64 x5_1), (19, idxp v0 (x5_1.toNat * (ekI .u64).sz)), (20, .int .u64 x3), (21, v1), (22, .int .i64 x5_1), (23, idxp v1 (x5_1.toNat * (ekI .u64).sz)), (24, .int .u64 x5), (25, .bool (x3 != x5))]) ⟨rfl, rfl, rfl, rfl, rfl, rfl, rfl, rfl, rfl, rfl, rfl, rfl, rfl, rfl, rfl, rfl, rfl, trivial⟩ ?_
        rcases bool_or (x3 != x5) with b7 | b7
        · replace h := cond_t b7 h
          refine S.condT rfl b7 ?_
          refine S.seq ?_
          refine S.region ?_
          refine SO.v rfl (opv_assign rfl) ?_
          refine SO.nil ?_
          cases h
          replace h := hK1.1 _ rfl
          cases h
          exact S.ret1 Try.func21 rfl rfl (fun w hs hk => hR w _ _ ⟨rfl, rfl⟩ hs hk)
        · replace h := cond_f b7 h
          refine S.condF rfl b7 ?_
          refine S.skip ?_
          refine S.inBlock ?_
          refine S.region ?_
          refine SO.v rfl (opv_move rfl) ?_
          refine SO.v rfl (opv_add rfl rfl) ?_
          refine SO.v rfl (opv_assign rfl) ?_
          refine SO.nil ?_
          refine S.to ?_ (ih1 (w64 (x5_1 + 1), ()) h)
          exact ⟨rfl, rfl, rfl, rfl, trivial⟩
      · replace h := cond_f b2 h
        refine S.condF rfl b2 ?_
        refine S.exit rfl ?_
        cases h
        refine S.to ?_ (hK1.2 () () rfl)
        exact ⟨rfl, trivial⟩
    refine ⟨fun r' e' => ?_, ?_⟩
    · subst e'
      have h9 := Brk.of_ret h
      exact h9
    rintro _ _ e'
    subst e'
    replace h := Brk.of_nx h
    refine S.seq ?_
    refine S.region ?_
    refine SO.v rfl (opv_assign rfl) ?_
    refine SO.nil ?_
    cases h
    exact S.ret1 Try.func21 rfl rfl (fun w hs hk => hR w _ _ ⟨rfl, rfl⟩ hs hk)
end Go.Proofs
namespace Go.Proofs
open Go.Sl Go.RowKit
/-! 35 (*padstone/padstoneref10.State).is -/
def ref10_State_is.f (a0 : ref10_State) (a1 : Int) (a2 : Int) : Option (Bool) :=
  bif (decide (a1 < 0)) || (decide (31 < a1)) then (some false) else ((at_ a0.Objs a1).bind fun x7 => some (x7.Kind == a2))
set_option maxHeartbeats 8000000 in
set_option maxRecDepth 100000 in
theorem ref10_State_is.ct (bp0 : Nat) (v0_Slots : Value) (v0_Objs : Value) (raws_v0_Slots : List (Raw (kr_ref10_Slot).sz)) (A_v0_Slots : HProp) (raws_v0_Objs : List (Raw (kr_ref10_Obj).sz)) (A_v0_Objs : HProp) (a0 : ref10_State) (a1 : Int) (a2 : Int) (r0 : Bool) (h : ref10_State_is.f a0 a1 a2 = some r0) :
    Ct Try.prog 35 [bp bp0 0, .int .i64 a1, .int .i64 a2] (fun _ => True) [Box bp0 [v0_Slots, v0_Objs, .int .i64 a0.NS, .int .i64 a0.NO], OwnO 77 kr_ref10_Slot v0_Slots raws_v0_Slots A_v0_Slots a0.Slots, OwnO 70 kr_ref10_Obj v0_Objs raws_v0_Objs A_v0_Objs a0.Objs] (fun u H' => u = .bool r0 ∧ H' = [Box bp0 [v0_Slots, v0_Objs, .int .i64 a0.NS, .int .i64 a0.NO], OwnO 77 kr_ref10_Slot v0_Slots raws_v0_Slots A_v0_Slots a0.Slots, OwnO 70 kr_ref10_Obj v0_Objs raws_v0_Objs A_v0_Objs a0.Objs]) := by
  unfold ref10_State_is.f at h
  refine Ct.intro (n := 23) Try.func35 rfl rfl rfl ?_
  intro R w0 F hF hR
  refine S.b1 ?_
  refine S.rdO fun hrel1 hR2 => ?_
  refine S.b2 ?_
  refine S.rdO fun hrel3 hR4 => ?_
  refine S.seq ?_
  refine S.region ?_
  refine SO.v rfl (opv_assign rfl) ?_
  refine SO.nil ?_
  refine S.seq ?_
  refine S.seq ?_
  refine S.region ?_
  refine SO.v rfl (opv_move rfl) ?_
  refine SO.v rfl (opv_lss rfl rfl) ?_
  refine SO.v rfl (opv_move rfl) ?_
  refine SO.cut 3 12 (.bool ((decide (a1 < 0)) || (decide (31 < a1)))) [OwnO 70 kr_ref10_Obj v0_Objs raws_v0_Objs A_v0_Objs a0.Objs, OwnO 77 kr_ref10_Slot v0_Slots raws_v0_Slots A_v0_Slots a0.Slots, Box bp0 [v0_Slots, v0_Objs, .int .i64 a0.NS, .int .i64 a0.NO], F] (fun l2 hk2 => ?_) ?_
  · rcases bool_or (decide (a1 < 0)) with b5 | b5
    · refine SO.passF rfl rfl rfl b5 rfl rfl ?_
      refine SO.passF rfl rfl rfl b5 rfl rfl ?_
      refine SO.v rfl (opv_pick_t' b5 rfl rfl) ?_
      refine SO.b3 ?_
      refine SO.b3 ?_
      refine SO.b3 ?_
      refine SO.b3 ?_
      exact hk2.fitc (m := 3) rfl (or_t b5) rfl
    · refine SO.takeT rfl rfl rfl b5 ?_
      refine SO.v rfl (opv_move rfl) ?_
      refine SO.takeT rfl rfl rfl b5 ?_
      refine SO.v rfl (opv_gtr rfl rfl) ?_
      refine SO.v rfl (opv_pick_f' b5 rfl rfl) ?_
      refine SO.b3 ?_
      refine SO.b3 ?_
      refine SO.b3 ?_
      refine SO.b3 ?_
      exact hk2.fitc (m := 3) rfl (or_f b5) rfl
  refine SO.nil ?_
  rcases bool_or ((decide (a1 < 0)) || (decide (31 < a1))) with b6 | b6
  · replace h := cond_t b6 h
    refine S.condT rfl b6 ?_
    refine S.seq ?_
    refine S.region ?_
    refine SO.v rfl (opv_assign rfl) ?_
    refine SO.nil ?_
    cases h
    refine S.b3 ?_
    refine S.b1 ?_
    refine S.b2 ?_
    refine S.b3 ?_
    exact S.ret1 Try.func35 rfl rfl (fun w hs hk => hR w _ _ ⟨rfl, rfl⟩ hs hk)
  · replace h := cond_f b6 h
    refine S.condF rfl b6 ?_
    refine S.skip ?_
    refine S.seq ?_
    refine S.region ?_
    refine SO.v rfl (opv_move rfl) ?_
    refine SO.v rfl (opv_nilCheck rfl) ?_
    refine SO.v rfl (opv_fieldAddr Try.underlying75 rfl Try.sizeOf73 rfl rfl) ?_
    refine SO.b2 ?_
    refine SO.load1 rfl Try.isAgg73 rfl rfl ?_
    refine SO.v rfl (opv_move rfl) ?_
    obtain ⟨x7, hx8, h⟩ := opt_bind h
    obtain ⟨r9, hr10, hc11⟩ := relR.at hrel3 hx8
    refine SO.v rfl (opv_idx Try.underlying73 Try.sizeOf70 hR4 rfl rfl hr10) ?_
    refine SO.v rfl (opv_fieldIdx Try.underlying70 rfl Try.sizeOf3 hR4 hr10 rfl rfl) ?_
    refine SO.loadI1 (j := 0) rfl Try.isAgg3 (Rd.tail (Rd.head hR4)) hr10 rfl rfl rfl (hc11.val rfl) ?_
    refine SO.v rfl (opv_move rfl) ?_
    refine SO.v rfl (opv_eql rfl rfl) ?_
    refine SO.v rfl (opv_assign rfl) ?_
    refine SO.nil ?_
    refine S.to (ρ' := [(6, .bool (x7.Kind == a2))]) ⟨rfl, trivial⟩ ?_
    cases h
    refine S.b3 ?_
    refine S.b2 ?_
    refine S.b3 ?_
    refine S.b3 ?_
    exact S.ret1 Try.func35 rfl rfl (fun w hs hk => hR w _ _ ⟨rfl, rfl⟩ hs hk)
end Go.Proofs
namespace Go.Proofs
open Go.Sl Go.RowKit
/-! 16 (*padstone/padstoneref10.State).Ack -/
def ref10_State_Ack.f (a0 : ref10_State) (a1 : Int) : Option ((Int × ref10_State)) :=
  (ref10_State_is.f a0 a1 8).bind fun t9 => bif !t9 then (some (2, a0)) else ((at_ a0.Objs a1).bind fun x12 => bif x12.Mask == 0 then (some (10, a0)) else ((at_ a0.Objs a1).bind fun x18 => some (0, ({ a0 with Objs := a0.Objs.set a1.toNat ({ x18 with Mask := 0 } : ref10_Obj) } : ref10_State))))
set_option maxHeartbeats 8000000 in
set_option maxRecDepth 100000 in
theorem ref10_State_Ack.ct (bp0 : Nat) (v0_Slots : Value) (v0_Objs : Value) (a0 : ref10_State) (a1 : Int) (r0 : Int) (rp0 : ref10_State) (h : ref10_State_Ack.f a0 a1 = some (r0, rp0)) :
    Ct Try.prog 16 [bp bp0 0, .int .i64 a1] (fun _ => True) [Box bp0 [v0_Slots, v0_Objs, .int .i64 a0.NS, .int .i64 a0.NO], OwnR 77 kr_ref10_Slot v0_Slots a0.Slots, OwnR 70 kr_ref10_Obj v0_Objs a0.Objs] (fun u H' => ∃ rw0_Slots rw0_Objs, u = .int .i64 r0 ∧ H' = [Box bp0 [rw0_Slots, rw0_Objs, .int .i64 rp0.NS, .int .i64 rp0.NO], OwnR 77 kr_ref10_Slot rw0_Slots rp0.Slots, OwnR 70 kr_ref10_Obj rw0_Objs rp0.Objs]) := by
  unfold ref10_State_Ack.f at h
  refine Ct.intro (n := 27) Try.func16 rfl rfl rfl ?_
  intro R w0 F hF hR
  refine S.seq ?_
  refine S.region ?_
  refine SO.v rfl (opv_assign rfl) ?_
  refine SO.nil ?_
  refine S.seq ?_
  refine S.region ?_
  refine SO.v rfl (opv_move rfl) ?_
  refine SO.v rfl (opv_move rfl) ?_
  obtain ⟨t9, ht10, h⟩ := opt_bind h
  refine SO.b1 ?_
  refine SO.openR fun raws1 A2 hrel3 hR4 => ?_
  refine SO.b2 ?_
  refine SO.openR fun raws5 A6 hrel7 hR8 => ?_
  refine SO.b1 ?_
  refine SO.b2 ?_
  refine SO.call (pre := [Box _ _, OwnO _ _ _ _ _ _, OwnO _ _ _ _ _ _]) rfl Try.call35 rfl rfl rfl (ref10_State_is.ct bp0 v0_Slots v0_Objs raws1 A2 raws5 A6 _ _ _ _ ht10) trivial ?_
  rintro _ _ ⟨rfl, rfl⟩
  refine SO.v rfl (opv_assign rfl) ?_
  refine SO.nil ?_
  refine S.seq ?_
  refine S.seq ?_
  refine S.region ?_
  refine SO.v rfl (opv_move rfl) ?_
  refine SO.v rfl (opv_not rfl) ?_
  refine SO.nil ?_
  rcases bool_or (!t9) with b11 | b11
  · replace h := cond_t b11 h
    refine S.condT rfl b11 ?_
    refine S.seq ?_
    refine S.region ?_
    refine SO.v rfl (opv_assign rfl) ?_
    refine SO.nil ?_
    cases h
    refine S.b1 ?_
    refine S.closeR ?_
    refine S.b2 ?_
    refine S.closeR ?_
    refine S.b3 ?_
    refine S.b1 ?_
    refine S.b2 ?_
    refine S.b3 ?_
    exact S.ret1 Try.func16 rfl rfl (fun w hs hk => hR w _ _ ⟨v0_Slots, v0_Objs, rfl, rfl⟩ hs hk)
  · replace h := cond_f b11 h
    refine S.condF rfl b11 ?_
    refine S.skip ?_
    refine S.seq ?_
    refine S.seq ?_
    refine S.region ?_
    refine SO.v rfl (opv_move rfl) ?_
    refine SO.v rfl (opv_nilCheck rfl) ?_
    refine SO.v rfl (opv_fieldAddr Try.underlying75 rfl Try.sizeOf73 rfl rfl) ?_
    refine SO.load1 rfl Try.isAgg73 rfl rfl ?_
    refine SO.v rfl (opv_move rfl) ?_
    obtain ⟨x12, hx13, h⟩ := opt_bind h
    obtain ⟨r14, hr15, hc16⟩ := relR.at hrel7 hx13
    refine SO.v rfl (opv_idx Try.underlying73 Try.sizeOf70 hR8 rfl rfl hr15) ?_
    refine SO.v rfl (opv_fieldIdx Try.underlying70 rfl Try.sizeOf3 hR8 hr15 rfl rfl) ?_
    refine SO.loadI1 (j := 31) rfl Try.isAgg3 (Rd.tail (Rd.tail (Rd.head hR8))) hr15 rfl rfl rfl (hc16.val rfl) ?_
    refine SO.v rfl (opv_eql rfl rfl) ?_
    refine SO.nil ?_
    refine S.to (ρ' := [(0, bp bp0 0), (1, .int .i64 a1), (4, .int .i64 0), (19, .bool (x12.Mask == 0))]) ⟨rfl, rfl, rfl, rfl, trivial⟩ ?_
    rcases bool_or (x12.Mask == 0) with b17 | b17
    · replace h := cond_t b17 h
      refine S.condT rfl b17 ?_
      refine S.seq ?_
      refine S.region ?_
      refine SO.v rfl (opv_assign rfl) ?_
      refine SO.nil ?_
      cases h
      refine S.b1 ?_
      refine S.closeR ?_
      refine S.b2 ?_
      refine S.closeR ?_
      refine S.b3 ?_
      refine S.b1 ?_
      refine S.b2 ?_
      refine S.b3 ?_
      exact S.ret1 Try.func16 rfl rfl (fun w hs hk => hR w _ _ ⟨v0_Slots, v0_Objs, rfl, rfl⟩ hs hk)
    · replace h := cond_f b17 h
      refine S.condF rfl b17 ?_
      refine S.skip ?_
      refine S.seq ?_
      refine S.region ?_
      refine SO.v rfl (opv_move rfl) ?_
      refine SO.v rfl (opv_nilCheck rfl) ?_
      refine SO.v rfl (opv_fieldAddr Try.underlying75 rfl Try.sizeOf73 rfl rfl) ?_
      refine SO.load1 rfl Try.isAgg73 rfl rfl ?_
      refine SO.v rfl (opv_move rfl) ?_
      obtain ⟨x18, hx19, h⟩ := opt_bind h
      obtain ⟨r20, hr21, hc22⟩ := relR.at hrel7 hx19
      refine SO.v rfl (opv_idx Try.underlying73 Try.sizeOf70 hR8 rfl rfl hr21) ?_
      refine SO.v rfl (opv_fieldIdx Try.underlying70 rfl Try.sizeOf3 hR8 hr21 rfl rfl) ?_
      refine SO.b2 ?_
      refine SO.storeO1 (j := 31) (q := .val (.int .i64 0)) (z' := ({ x18 with Mask := 0 } : ref10_Obj)) Try.sizeOf3 hrel7 hx19 rfl rfl rfl rfl rfl rfl rfl (fun raws23 hrel24 hR25 => ?_)
      refine SO.nil ?_
      refine S.to (ρ' := [(4, .int .i64 0)]) ⟨rfl, trivial⟩ ?_
      refine S.seq ?_
      refine S.region ?_
      refine SO.v rfl (opv_assign rfl) ?_
      refine SO.nil ?_
      cases h
      refine S.closeR ?_
      refine S.b2 ?_
      refine S.closeR ?_
      refine S.b3 ?_
      refine S.b2 ?_
      refine S.b2 ?_
      refine S.b3 ?_
      exact S.ret1 Try.func16 rfl rfl (fun w hs hk => hR w _ _ ⟨v0_Slots, v0_Objs, rfl, rfl⟩ hs hk)
end Go.Proofs
namespace Go.Proofs
open Go.Sl Go.RowKit
/-! 14 (*padstone/padstoneref10.State).Bind -/
def ref10_State_Bind.f (a0 : ref10_State) (a1 : Int) (a2 : Int) (a3 : Int) : Option ((Int × ref10_State)) :=
  (ref10_State_is.f a0 a1 8).bind fun t9 => (ref10_State_is.f a0 a2 4).bind fun t11 => bif (!t9) || (!t11) then (some (2, a0)) else ((at_ a0.Objs a1).bind fun x15 => (at_ (a0.Objs.set a1.toNat ({ x15 with Bound := a2 } : ref10_Obj)) a1).bind fun x23 => (at_ ((a0.Objs.set a1.toNat ({ x15 with Bound := a2 } : ref10_Obj)).set a1.toNat ({ x23 with Badge := a3 } : ref10_Obj)) a1).bind fun x31 => some (0, ({ a0 with Objs := ((a0.Objs.set a1.toNat ({ x15 with Bound := a2 } : ref10_Obj)).set a1.toNat ({ x23 with Badge := a3 } : ref10_Obj)).set a1.toNat ({ x31 with Mask := 0 } : ref10_Obj) } : ref10_State)))
set_option maxHeartbeats 8000000 in
set_option maxRecDepth 100000 in
theorem ref10_State_Bind.ct (bp0 : Nat) (v0_Slots : Value) (v0_Objs : Value) (a0 : ref10_State) (a1 : Int) (a2 : Int) (a3 : Int) (r0 : Int) (rp0 : ref10_State) (h : ref10_State_Bind.f a0 a1 a2 a3 = some (r0, rp0)) :
    Ct Try.prog 14 [bp bp0 0, .int .i64 a1, .int .i64 a2, .int .i64 a3] (fun _ => True) [Box bp0 [v0_Slots, v0_Objs, .int .i64 a0.NS, .int .i64 a0.NO], OwnR 77 kr_ref10_Slot v0_Slots a0.Slots, OwnR 70 kr_ref10_Obj v0_Objs a0.Objs] (fun u H' => ∃ rw0_Slots rw0_Objs, u = .int .i64 r0 ∧ H' = [Box bp0 [rw0_Slots, rw0_Objs, .int .i64 rp0.NS, .int .i64 rp0.NO], OwnR 77 kr_ref10_Slot rw0_Slots rp0.Slots, OwnR 70 kr_ref10_Obj rw0_Objs rp0.Objs]) := by
  unfold ref10_State_Bind.f at h
  refine Ct.intro (n := 46) Try.func14 rfl rfl rfl ?_
  intro R w0 F hF hR
  refine S.seq ?_
  refine S.region ?_
  refine SO.v rfl (opv_assign rfl) ?_
  refine SO.nil ?_
  refine S.seq ?_
  refine S.region ?_
  refine SO.v rfl (opv_move rfl) ?_
  refine SO.v rfl (opv_move rfl) ?_
  obtain ⟨t9, ht10, h⟩ := opt_bind h
  refine SO.b1 ?_
  refine SO.openR fun raws1 A2 hrel3 hR4 => ?_
  refine SO.b2 ?_
  refine SO.openR fun raws5 A6 hrel7 hR8 => ?_
  refine SO.b1 ?_
  refine SO.b2 ?_
  refine SO.call (pre := [Box _ _, OwnO _ _ _ _ _ _, OwnO _ _ _ _ _ _]) rfl Try.call35 rfl rfl rfl (ref10_State_is.ct bp0 v0_Slots v0_Objs raws1 A2 raws5 A6 _ _ _ _ ht10) trivial ?_
  rintro _ _ ⟨rfl, rfl⟩
  refine SO.v rfl (opv_assign rfl) ?_
  refine SO.nil ?_
  refine S.seq ?_
  refine S.region ?_
  refine SO.v rfl (opv_move rfl) ?_
  refine SO.v rfl (opv_move rfl) ?_
  obtain ⟨t11, ht12, h⟩ := opt_bind h
  refine SO.b2 ?_
  refine SO.b2 ?_
  refine SO.b2 ?_
  refine SO.call (pre := [Box _ _, OwnO _ _ _ _ _ _, OwnO _ _ _ _ _ _]) rfl Try.call35 rfl rfl rfl (ref10_State_is.ct bp0 v0_Slots v0_Objs raws1 A2 raws5 A6 _ _ _ _ ht12) trivial ?_
  rintro _ _ ⟨rfl, rfl⟩
  refine SO.v rfl (opv_assign rfl) ?_
  refine SO.nil ?_
  refine S.seq ?_
  refine S.seq ?_
  refine S.region ?_
  refine SO.v rfl (opv_move rfl) ?_
  refine SO.v rfl (opv_not rfl) ?_
  refine SO.v rfl (opv_move rfl) ?_
  refine SO.cut 3 22 (.bool ((!t9) || (!t11))) [Box bp0 [v0_Slots, v0_Objs, .int .i64 a0.NS, .int .i64 a0.NO], OwnO 77 kr_ref10_Slot v0_Slots raws1 A2 a0.Slots, OwnO 70 kr_ref10_Obj v0_Objs raws5 A6 a0.Objs, F] (fun l2 hk2 => ?_) ?_
  · rcases bool_or (!t9) with b13 | b13
    · refine SO.passF rfl rfl rfl b13 rfl rfl ?_
      refine SO.passF rfl rfl rfl b13 rfl rfl ?_
      refine SO.v rfl (opv_pick_t' b13 rfl rfl) ?_
      refine SO.b3 ?_
      refine SO.b3 ?_
      refine SO.b3 ?_
      refine SO.b3 ?_
      exact hk2.fitc (m := 3) rfl (or_t b13) rfl
    · refine SO.takeT rfl rfl rfl b13 ?_
      refine SO.v rfl (opv_move rfl) ?_
      refine SO.takeT rfl rfl rfl b13 ?_
      refine SO.v rfl (opv_not rfl) ?_
      refine SO.v rfl (opv_pick_f' b13 rfl rfl) ?_
      refine SO.b3 ?_
      refine SO.b3 ?_
      refine SO.b3 ?_
      refine SO.b3 ?_
      exact hk2.fitc (m := 3) rfl (or_f b13) rfl
  refine SO.nil ?_
  refine S.to (ρ' := [(0, bp bp0 0), (1, .int .i64 a1), (2, .int .i64 a2), (3, .int .i64 a3), (8, .int .i64 0), (22, .bool ((!t9) || (!t11)))]) ⟨rfl, rfl, rfl, rfl, rfl, rfl, trivial⟩ ?_
  rcases bool_or ((!t9) || (!t11)) with b14 | b14
  · replace h := cond_t b14 h
    refine S.condT rfl b14 ?_
    refine S.seq ?_
    refine S.region ?_
    refine SO.v rfl (opv_assign rfl) ?_
    refine SO.nil ?_
    cases h
    refine S.b1 ?_
    refine S.closeR ?_
    refine S.b2 ?_
    refine S.closeR ?_
    refine S.b3 ?_
    refine S.b1 ?_
    refine S.b2 ?_
    refine S.b3 ?_
    exact S.ret1 Try.func14 rfl rfl (fun w hs hk => hR w _ _ ⟨v0_Slots, v0_Objs, rfl, rfl⟩ hs hk)
  · replace h := cond_f b14 h
    refine S.condF rfl b14 ?_
    refine S.skip ?_
    refine S.seq ?_
    refine S.region ?_
    refine SO.v rfl (opv_move rfl) ?_
    refine SO.v rfl (opv_nilCheck rfl) ?_
    refine SO.v rfl (opv_fieldAddr Try.underlying75 rfl Try.sizeOf73 rfl rfl) ?_
    refine SO.load1 rfl Try.isAgg73 rfl rfl ?_
    refine SO.v rfl (opv_move rfl) ?_
    refine SO.v rfl (opv_move rfl) ?_
    obtain ⟨x15, hx16, h⟩ := opt_bind h
    obtain ⟨r17, hr18, hc19⟩ := relR.at hrel7 hx16
    refine SO.v rfl (opv_idx Try.underlying73 Try.sizeOf70 hR8 rfl rfl hr18) ?_
    refine SO.v rfl (opv_fieldIdx Try.underlying70 rfl Try.sizeOf3 hR8 hr18 rfl rfl) ?_
    refine SO.b2 ?_
    refine SO.storeO1 (j := 30) (q := .val (.int .i64 a2)) (z' := ({ x15 with Bound := a2 } : ref10_Obj)) Try.sizeOf3 hrel7 hx16 rfl rfl rfl rfl rfl rfl rfl (fun raws20 hrel21 hR22 => ?_)
    refine SO.nil ?_
    refine S.to (ρ' := [(0, bp bp0 0), (1, .int .i64 a1), (3, .int .i64 a3), (8, .int .i64 0)]) ⟨rfl, rfl, rfl, rfl, trivial⟩ ?_
    refine S.seq ?_
    refine S.region ?_
    refine SO.v rfl (opv_move rfl) ?_
    refine SO.v rfl (opv_nilCheck rfl) ?_
    refine SO.v rfl (opv_fieldAddr Try.underlying75 rfl Try.sizeOf73 rfl rfl) ?_
    refine SO.b1 ?_
    refine SO.load1 rfl Try.isAgg73 rfl rfl ?_
    refine SO.v rfl (opv_move rfl) ?_
    refine SO.v rfl (opv_move rfl) ?_
    obtain ⟨x23, hx24, h⟩ := opt_bind h
    obtain ⟨r25, hr26, hc27⟩ := relR.at hrel21 hx24
    refine SO.v rfl (opv_idx Try.underlying73 Try.sizeOf70 hR22 rfl rfl hr26) ?_
    refine SO.v rfl (opv_fieldIdx Try.underlying70 rfl Try.sizeOf3 hR22 hr26 rfl rfl) ?_
    refine SO.b1 ?_
    refine SO.storeO1 (j := 10) (q := .val (.int .i64 a3)) (z' := ({ x23 with Badge := a3 } : ref10_Obj)) Try.sizeOf3 hrel21 hx24 rfl rfl rfl rfl rfl rfl rfl (fun raws28 hrel29 hR30 => ?_)
    refine SO.nil ?_
    refine S.to (ρ' := [(0, bp bp0 0), (1, .int .i64 a1), (8, .int .i64 0)]) ⟨rfl, rfl, rfl, trivial⟩ ?_
    refine S.seq ?_
    refine S.region ?_
    refine SO.v rfl (opv_move rfl) ?_
    refine SO.v rfl (opv_nilCheck rfl) ?_
    refine SO.v rfl (opv_fieldAddr Try.underlying75 rfl Try.sizeOf73 rfl rfl) ?_
    refine SO.b1 ?_
    refine SO.load1 rfl Try.isAgg73 rfl rfl ?_
    refine SO.v rfl (opv_move rfl) ?_
    obtain ⟨x31, hx32, h⟩ := opt_bind h
    obtain ⟨r33, hr34, hc35⟩ := relR.at hrel29 hx32
    refine SO.v rfl (opv_idx Try.underlying73 Try.sizeOf70 hR30 rfl rfl hr34) ?_
    refine SO.v rfl (opv_fieldIdx Try.underlying70 rfl Try.sizeOf3 hR30 hr34 rfl rfl) ?_
    refine SO.b1 ?_
    refine SO.storeO1 (j := 31) (q := .val (.int .i64 0)) (z' := ({ x31 with Mask := 0 } : ref10_Obj)) Try.sizeOf3 hrel29 hx32 rfl rfl rfl rfl rfl rfl rfl (fun raws36 hrel37 hR38 => ?_)
    refine SO.nil ?_
    refine S.to (ρ' := [(8, .int .i64 0)]) ⟨rfl, trivial⟩ ?_
    refine S.seq ?_
    refine S.region ?_
    refine SO.v rfl (opv_assign rfl) ?_
    refine SO.nil ?_
    cases h
    refine S.closeR ?_
    refine S.b2 ?_
    refine S.closeR ?_
    refine S.b3 ?_
    refine S.b2 ?_
    refine S.b2 ?_
    refine S.b3 ?_
    exact S.ret1 Try.func14 rfl rfl (fun w hs hk => hR w _ _ ⟨v0_Slots, v0_Objs, rfl, rfl⟩ hs hk)
end Go.Proofs
