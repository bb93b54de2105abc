/- What the functions that ReplayLong reaches come to, and that they do. On no condition. -/
import Derived.Test.YtmhopcicgnnbeaaGreatDoorFnReplayLong0
set_option linter.all false
namespace Go.Proofs
open Go.Sl Go.RowKit
/-! 27 (*padstone/padstoneref10.State).Words -/
def ref10_State_Words.l2 (x4_1 : Int) (x11 : ref10_Slot) : Nat → (Int × (List Int)) → Option ((List Int))
  | 0, _ => none
  | k + 1, (x6_2, qv5_2) => bif decide (x6_2 < (x11.Kids.length : Int)) then ((at_ x11.Kids x6_2).bind fun x30 => (bif x6_2 == 0 then ((at_ qv5_2 (w64 ((w64 (5 * x4_1)) + 2))).bind fun x33 => some (qv5_2.set (w64 ((w64 (5 * x4_1)) + 2)).toNat (wu64 (w64 (x30 + 1))))) else ((at_ x11.Kids (w64 (x6_2 - 1))).bind fun x36 => (at_ qv5_2 (w64 ((w64 (5 * x30)) + 4))).bind fun x38 => some (qv5_2.set (w64 ((w64 (5 * x30)) + 4)).toNat (wu64 (w64 (x36 + 1)))))).bind fun qv5_3 => bif decide ((w64 (x6_2 + 1)) < (x11.Kids.length : Int)) then ((at_ x11.Kids (w64 (x6_2 + 1))).bind fun x43 => (at_ qv5_3 (w64 ((w64 (5 * x30)) + 3))).bind fun x45 => ref10_State_Words.l2 x4_1 x11 k (w64 (x6_2 + 1), qv5_3.set (w64 ((w64 (5 * x30)) + 3)).toNat (wu64 (w64 (x43 + 1))))) else (ref10_State_Words.l2 x4_1 x11 k (w64 (x6_2 + 1), qv5_3))) else (some qv5_2)
def ref10_State_Words.l1 (a0 : ref10_State) : Nat → (Int × (List Int)) → Option ((List Int))
  | 0, _ => none
  | k + 1, (x4_1, qv5_1) => bif decide (x4_1 < 96) then ((at_ a0.Slots x4_1).bind fun x11 => (ref01_Word.f x11.Cap).bind fun t20 => (at_ qv5_1 (w64 (5 * x4_1))).bind fun x22 => (at_ (qv5_1.set (w64 (5 * x4_1)).toNat t20) (w64 ((w64 (5 * x4_1)) + 1))).bind fun x25 => (ref10_State_Words.l2 x4_1 x11 k (0, (qv5_1.set (w64 (5 * x4_1)).toNat t20).set (w64 ((w64 (5 * x4_1)) + 1)).toNat (wu64 (w64 (x11.Parent + 1))))).bind fun qv5_e2 => ref10_State_Words.l1 a0 k (w64 (x4_1 + 1), qv5_e2)) else (some qv5_1)
def ref10_State_Words.l6 (x8_4 : Int) (x52 : ref10_Obj) : Nat → (Int × (List Int)) → Option ((List Int))
  | 0, _ => none
  | k + 1, (x11_6, qv5_6) => bif decide (x11_6 < 4) then ((A4.get x52.Pages x11_6).bind fun x123 => bif decide (0 ≤ x123) then ((A4.get x52.Pages x11_6).bind fun x126 => (A4.get x52.Right x11_6).bind fun x128 => (at_ qv5_6 (w64 ((w64 ((w64 (480 + (w64 (8 * x8_4)))) + 1)) + x11_6))).bind fun x130 => ref10_State_Words.l6 x8_4 x52 k (w64 (x11_6 + 1), qv5_6.set (w64 ((w64 ((w64 (480 + (w64 (8 * x8_4)))) + 1)) + x11_6)).toNat (wu64 (w64 ((w64 (8 * (w64 (x126 + 1)))) + x128))))) else (ref10_State_Words.l6 x8_4 x52 k (w64 (x11_6 + 1), qv5_6))) else (some qv5_6)
def ref10_State_Words.l7 (x8_4 : Int) (x52 : ref10_Obj) : Nat → (Int × (List Int)) → Option ((List Int))
  | 0, _ => none
  | k + 1, (x12_7, qv5_7) => bif decide (x12_7 < (x52.Queue.length : Int)) then ((at_ x52.Queue x12_7).bind fun x148 => (bif x12_7 == 0 then ((at_ qv5_7 (w64 ((w64 (480 + (w64 (8 * x8_4)))) + 2))).bind fun x151 => some (qv5_7.set (w64 ((w64 (480 + (w64 (8 * x8_4)))) + 2)).toNat (wu64 (w64 (x148 + 1))))) else (some qv5_7)).bind fun qv5_8 => bif decide ((w64 (x12_7 + 1)) < (x52.Queue.length : Int)) then ((at_ x52.Queue (w64 (x12_7 + 1))).bind fun x156 => (at_ qv5_8 (w64 ((w64 (480 + (w64 (8 * x148)))) + 2))).bind fun x158 => ref10_State_Words.l7 x8_4 x52 k (w64 (x12_7 + 1), qv5_8.set (w64 ((w64 (480 + (w64 (8 * x148)))) + 2)).toNat (wu64 (w64 (x156 + 1))))) else ((at_ qv5_8 (w64 ((w64 (480 + (w64 (8 * x8_4)))) + 3))).bind fun x161 => ref10_State_Words.l7 x8_4 x52 k (w64 (x12_7 + 1), qv5_8.set (w64 ((w64 (480 + (w64 (8 * x8_4)))) + 3)).toNat (wu64 (w64 (x148 + 1)))))) else (some qv5_7)
def ref10_State_Words.l4 (a0 : ref10_State) : Nat → (Int × (List Int)) → Option ((List Int))
  | 0, _ => none
  | k + 1, (x8_4, qv5_4) => bif decide (x8_4 < 32) then ((at_ a0.Objs x8_4).bind fun x52 => (at_ qv5_4 (w64 (480 + (w64 (8 * x8_4))))).bind fun x61 => (bif x52.Kind == 1 then ((at_ (qv5_4.set (w64 (480 + (w64 (8 * x8_4)))).toNat (wu64 x52.Kind)) (w64 ((w64 (480 + (w64 (8 * x8_4)))) + 1))).bind fun x65 => (at_ ((qv5_4.set (w64 (480 + (w64 (8 * x8_4)))).toNat (wu64 x52.Kind)).set (w64 ((w64 (480 + (w64 (8 * x8_4)))) + 1)).toNat (wu64 x52.Size)) (w64 ((w64 (480 + (w64 (8 * x8_4)))) + 2))).bind fun x68 => some (((qv5_4.set (w64 (480 + (w64 (8 * x8_4)))).toNat (wu64 x52.Kind)).set (w64 ((w64 (480 + (w64 (8 * x8_4)))) + 1)).toNat (wu64 x52.Size)).set (w64 ((w64 (480 + (w64 (8 * x8_4)))) + 2)).toNat (wu64 x52.Used))) else (bif x52.Kind == 2 then ((at_ (qv5_4.set (w64 (480 + (w64 (8 * x8_4)))).toNat (wu64 x52.Kind)) (w64 ((w64 (480 + (w64 (8 * x8_4)))) + 1))).bind fun x72 => (at_ ((qv5_4.set (w64 (480 + (w64 (8 * x8_4)))).toNat (wu64 x52.Kind)).set (w64 ((w64 (480 + (w64 (8 * x8_4)))) + 1)).toNat (wu64 x52.First)) (w64 ((w64 (480 + (w64 (8 * x8_4)))) + 2))).bind fun x75 => some (((qv5_4.set (w64 (480 + (w64 (8 * x8_4)))).toNat (wu64 x52.Kind)).set (w64 ((w64 (480 + (w64 (8 * x8_4)))) + 1)).toNat (wu64 x52.First)).set (w64 ((w64 (480 + (w64 (8 * x8_4)))) + 2)).toNat (wu64 x52.Radix))) else (bif x52.Kind == 3 then ((at_ (qv5_4.set (w64 (480 + (w64 (8 * x8_4)))).toNat (wu64 x52.Kind)) (w64 ((w64 (480 + (w64 (8 * x8_4)))) + 1))).bind fun x79 => some ((qv5_4.set (w64 (480 + (w64 (8 * x8_4)))).toNat (wu64 x52.Kind)).set (w64 ((w64 (480 + (w64 (8 * x8_4)))) + 1)).toNat (wu64 x52.Wait))) else (bif x52.Kind == 4 then ((at_ (qv5_4.set (w64 (480 + (w64 (8 * x8_4)))).toNat (wu64 x52.Kind)) (w64 ((w64 (480 + (w64 (8 * x8_4)))) + 1))).bind fun x83 => some ((qv5_4.set (w64 (480 + (w64 (8 * x8_4)))).toNat (wu64 x52.Kind)).set (w64 ((w64 (480 + (w64 (8 * x8_4)))) + 1)).toNat (wu64 x52.Word))) else (bif x52.Kind == 5 then ((at_ (qv5_4.set (w64 (480 + (w64 (8 * x8_4)))).toNat (wu64 x52.Kind)) (w64 ((w64 (480 + (w64 (8 * x8_4)))) + 1))).bind fun x87 => (at_ ((qv5_4.set (w64 (480 + (w64 (8 * x8_4)))).toNat (wu64 x52.Kind)).set (w64 ((w64 (480 + (w64 (8 * x8_4)))) + 1)).toNat (wu64 x52.State)) (w64 ((w64 (480 + (w64 (8 * x8_4)))) + 2))).bind fun x90 => (at_ ((qv5_4.set (w64 (480 + (w64 (8 * x8_4)))).toNat (wu64 x52.Kind)).set (w64 ((w64 (480 + (w64 (8 * x8_4)))) + 1)).toNat (wu64 x52.State)) (w64 ((w64 (480 + (w64 (8 * x8_4)))) + 2))).bind fun x92 => (at_ (((qv5_4.set (w64 (480 + (w64 (8 * x8_4)))).toNat (wu64 x52.Kind)).set (w64 ((w64 (480 + (w64 (8 * x8_4)))) + 1)).toNat (wu64 x52.State)).set (w64 ((w64 (480 + (w64 (8 * x8_4)))) + 2)).toNat (wu64 (x90 + (wu64 (w64 (x52.Owing + 1)))))) (w64 ((w64 (480 + (w64 (8 * x8_4)))) + 3))).bind fun x96 => (at_ ((((qv5_4.set (w64 (480 + (w64 (8 * x8_4)))).toNat (wu64 x52.Kind)).set (w64 ((w64 (480 + (w64 (8 * x8_4)))) + 1)).toNat (wu64 x52.State)).set (w64 ((w64 (480 + (w64 (8 * x8_4)))) + 2)).toNat (wu64 (x90 + (wu64 (w64 (x52.Owing + 1)))))).set (w64 ((w64 (480 + (w64 (8 * x8_4)))) + 3)).toNat (wu64 x52.Word)) (w64 ((w64 (480 + (w64 (8 * x8_4)))) + 4))).bind fun x99 => (at_ (((((qv5_4.set (w64 (480 + (w64 (8 * x8_4)))).toNat (wu64 x52.Kind)).set (w64 ((w64 (480 + (w64 (8 * x8_4)))) + 1)).toNat (wu64 x52.State)).set (w64 ((w64 (480 + (w64 (8 * x8_4)))) + 2)).toNat (wu64 (x90 + (wu64 (w64 (x52.Owing + 1)))))).set (w64 ((w64 (480 + (w64 (8 * x8_4)))) + 3)).toNat (wu64 x52.Word)).set (w64 ((w64 (480 + (w64 (8 * x8_4)))) + 4)).toNat (wu64 x52.Badge)) (w64 ((w64 (480 + (w64 (8 * x8_4)))) + 5))).bind fun x102 => (at_ ((((((qv5_4.set (w64 (480 + (w64 (8 * x8_4)))).toNat (wu64 x52.Kind)).set (w64 ((w64 (480 + (w64 (8 * x8_4)))) + 1)).toNat (wu64 x52.State)).set (w64 ((w64 (480 + (w64 (8 * x8_4)))) + 2)).toNat (wu64 (x90 + (wu64 (w64 (x52.Owing + 1)))))).set (w64 ((w64 (480 + (w64 (8 * x8_4)))) + 3)).toNat (wu64 x52.Word)).set (w64 ((w64 (480 + (w64 (8 * x8_4)))) + 4)).toNat (wu64 x52.Badge)).set (w64 ((w64 (480 + (w64 (8 * x8_4)))) + 5)).toNat (wu64 (w64 (x52.Prio + (w64 (256 * (w64 (x52.On + 1)))))))) (w64 ((w64 (480 + (w64 (8 * x8_4)))) + 6))).bind fun x105 => (ref01_Word.f x52.Root).bind fun t108 => (at_ (((((((qv5_4.set (w64 (480 + (w64 (8 * x8_4)))).toNat (wu64 x52.Kind)).set (w64 ((w64 (480 + (w64 (8 * x8_4)))) + 1)).toNat (wu64 x52.State)).set (w64 ((w64 (480 + (w64 (8 * x8_4)))) + 2)).toNat (wu64 (x90 + (wu64 (w64 (x52.Owing + 1)))))).set (w64 ((w64 (480 + (w64 (8 * x8_4)))) + 3)).toNat (wu64 x52.Word)).set (w64 ((w64 (480 + (w64 (8 * x8_4)))) + 4)).toNat (wu64 x52.Badge)).set (w64 ((w64 (480 + (w64 (8 * x8_4)))) + 5)).toNat (wu64 (w64 (x52.Prio + (w64 (256 * (w64 (x52.On + 1)))))))).set (w64 ((w64 (480 + (w64 (8 * x8_4)))) + 6)).toNat (wu64 (w64 (x52.Owes + 1)))) (w64 ((w64 (480 + (w64 (8 * x8_4)))) + 7))).bind fun x110 => some ((((((((qv5_4.set (w64 (480 + (w64 (8 * x8_4)))).toNat (wu64 x52.Kind)).set (w64 ((w64 (480 + (w64 (8 * x8_4)))) + 1)).toNat (wu64 x52.State)).set (w64 ((w64 (480 + (w64 (8 * x8_4)))) + 2)).toNat (wu64 (x90 + (wu64 (w64 (x52.Owing + 1)))))).set (w64 ((w64 (480 + (w64 (8 * x8_4)))) + 3)).toNat (wu64 x52.Word)).set (w64 ((w64 (480 + (w64 (8 * x8_4)))) + 4)).toNat (wu64 x52.Badge)).set (w64 ((w64 (480 + (w64 (8 * x8_4)))) + 5)).toNat (wu64 (w64 (x52.Prio + (w64 (256 * (w64 (x52.On + 1)))))))).set (w64 ((w64 (480 + (w64 (8 * x8_4)))) + 6)).toNat (wu64 (w64 (x52.Owes + 1)))).set (w64 ((w64 (480 + (w64 (8 * x8_4)))) + 7)).toNat t108)) else (bif x52.Kind == 6 then ((at_ (qv5_4.set (w64 (480 + (w64 (8 * x8_4)))).toNat (wu64 x52.Kind)) (w64 ((w64 (480 + (w64 (8 * x8_4)))) + 1))).bind fun x114 => (at_ ((qv5_4.set (w64 (480 + (w64 (8 * x8_4)))).toNat (wu64 x52.Kind)).set (w64 ((w64 (480 + (w64 (8 * x8_4)))) + 1)).toNat (wu64 (w64 (x52.In + 1)))) (w64 ((w64 (480 + (w64 (8 * x8_4)))) + 2))).bind fun x117 => some (((qv5_4.set (w64 (480 + (w64 (8 * x8_4)))).toNat (wu64 x52.Kind)).set (w64 ((w64 (480 + (w64 (8 * x8_4)))) + 1)).toNat (wu64 (w64 (x52.In + 1)))).set (w64 ((w64 (480 + (w64 (8 * x8_4)))) + 2)).toNat (wu64 x52.Page))) else (bif x52.Kind == 7 then ((ref10_State_Words.l6 x8_4 x52 k (0, qv5_4.set (w64 (480 + (w64 (8 * x8_4)))).toNat (wu64 x52.Kind))).bind fun qv5_e6 => some qv5_e6) else (bif x52.Kind == 8 then ((at_ (qv5_4.set (w64 (480 + (w64 (8 * x8_4)))).toNat (wu64 x52.Kind)) (w64 ((w64 (480 + (w64 (8 * x8_4)))) + 1))).bind fun x136 => (at_ ((qv5_4.set (w64 (480 + (w64 (8 * x8_4)))).toNat (wu64 x52.Kind)).set (w64 ((w64 (480 + (w64 (8 * x8_4)))) + 1)).toNat (wu64 (w64 (x52.Bound + 1)))) (w64 ((w64 (480 + (w64 (8 * x8_4)))) + 2))).bind fun x139 => (at_ (((qv5_4.set (w64 (480 + (w64 (8 * x8_4)))).toNat (wu64 x52.Kind)).set (w64 ((w64 (480 + (w64 (8 * x8_4)))) + 1)).toNat (wu64 (w64 (x52.Bound + 1)))).set (w64 ((w64 (480 + (w64 (8 * x8_4)))) + 2)).toNat (wu64 x52.Badge)) (w64 ((w64 (480 + (w64 (8 * x8_4)))) + 3))).bind fun x142 => some ((((qv5_4.set (w64 (480 + (w64 (8 * x8_4)))).toNat (wu64 x52.Kind)).set (w64 ((w64 (480 + (w64 (8 * x8_4)))) + 1)).toNat (wu64 (w64 (x52.Bound + 1)))).set (w64 ((w64 (480 + (w64 (8 * x8_4)))) + 2)).toNat (wu64 x52.Badge)).set (w64 ((w64 (480 + (w64 (8 * x8_4)))) + 3)).toNat (wu64 x52.Mask))) else (some (qv5_4.set (w64 (480 + (w64 (8 * x8_4)))).toNat (wu64 x52.Kind))))))))))).bind fun qv5_5 => (ref10_State_Words.l7 x8_4 x52 k (0, qv5_5)).bind fun qv5_e7 => ref10_State_Words.l4 a0 k (w64 (x8_4 + 1), qv5_e7)) else (some qv5_4)
def ref10_State_Words.f (k : Nat) (a0 : ref10_State) : Option ((List Int)) :=
  (mk_ 0 738).bind fun xs7 => (ref10_State_Words.l1 a0 k (0, xs7)).bind fun qv5_e1 => (ref10_State_Words.l4 a0 k (0, qv5_e1)).bind fun qv5_e4 => (at_ qv5_e4 736).bind fun x166 => (at_ (qv5_e4.set (736 : Int).toNat (wu64 a0.NS)) 737).bind fun x169 => some ((qv5_e4.set (736 : Int).toNat (wu64 a0.NS)).set (737 : Int).toNat (wu64 a0.NO))
set_option maxHeartbeats 8000000 in
set_option maxRecDepth 100000 in
theorem ref10_State_Words.ct (k : Nat) (bp0 : Nat) (v0_Slots : Value) (v0_Objs : Value) (raws_v0_Slots : List (Raw (kr_ref10_Slot).sz)) (A_v0_Slots : HProp) (raws_v0_Objs : List (Raw (kr_ref10_Obj).sz)) (A_v0_Objs : HProp) (a0 : ref10_State) (r0 : List Int) (h : ref10_State_Words.f k a0 = some r0) :
    Ct Tryz.prog 27 [bp bp0 0] (fun _ => True) [Box bp0 [v0_Slots, v0_Objs, .int .i64 a0.NS, .int .i64 a0.NO], OwnO 126 kr_ref10_Slot v0_Slots raws_v0_Slots A_v0_Slots a0.Slots, OwnO 119 kr_ref10_Obj v0_Objs raws_v0_Objs A_v0_Objs a0.Objs] (fun u H' => ∃ v_r0, u = v_r0 ∧ H' = [Own 58 (ekI .u64) v_r0 r0, Box bp0 [v0_Slots, v0_Objs, .int .i64 a0.NS, .int .i64 a0.NO], OwnO 126 kr_ref10_Slot v0_Slots raws_v0_Slots A_v0_Slots a0.Slots, OwnO 119 kr_ref10_Obj v0_Objs raws_v0_Objs A_v0_Objs a0.Objs]) := by
  unfold ref10_State_Words.f at h
  refine Ct.intro (n := 365) Tryz.func27 rfl rfl rfl ?_
  intro R w0 F hF hR
  refine S.b1 ?_
  refine S.rdO fun hrel1 hR2 => ?_
  refine S.b2 ?_
  refine S.rdO fun hrel3 hR4 => ?_
  refine S.seq ?_
  refine S.region ?_
  refine SO.v rfl (opv_assign rfl) ?_
  refine SO.nil ?_
  refine S.seq ?_
  refine S.region ?_
  obtain ⟨xs7, hx8, h⟩ := opt_bind h
  refine SO.makeSlice (K := ekI .u64) rfl Tryz.underlying22 inf58 rfl rfl rfl (by decide) rfl rfl rfl hx8 (fun v5 hr6 => ?_)
  refine SO.v rfl (opv_assign rfl) ?_
  refine SO.nil ?_
  refine S.seq ?_
  refine S.seq ?_
  refine S.region ?_
  refine SO.v rfl (opv_assign rfl) ?_
  refine SO.nil ?_
  obtain ⟨qv5_e1, hlp1, h⟩ := opt_bind h
  refine S.b4 ?_
  refine S.b4 ?_
  refine S.b4 ?_
  refine S.b4 ?_
  refine S.b4 ?_
  refine S.to (ρ' := [(4, .int .i64 0), (3, v5), (2, .slice none 0 0), (0, bp bp0 0)]) ⟨rfl, rfl, rfl, rfl, trivial⟩ ?_
  refine S.forloop (X := (Int × (List Int)) × Unit) (O := (List Int)) (fun m x => ref10_State_Words.l1 a0 m x.1) (fun x => match x with | ((x4_1, qv5_1), _) => [(4, .int .i64 x4_1), (3, v5), (2, .slice none 0 0), (0, bp bp0 0)]) (fun x => match x with | ((x4_1, qv5_1), _) => [Own 58 (ekI .u64) v5 qv5_1, OwnO 119 kr_ref10_Obj v0_Objs raws_v0_Objs A_v0_Objs a0.Objs, OwnO 126 kr_ref10_Slot v0_Slots raws_v0_Slots A_v0_Slots a0.Slots, Box bp0 [v0_Slots, v0_Objs, .int .i64 a0.NS, .int .i64 a0.NO], F]) (fun Sk => (fun qv5_e1 => ∀ _ : Unit, Sk [(0, bp bp0 0), (2, .slice none 0 0), (3, v5)] [Own 58 (ekI .u64) v5 qv5_e1, OwnO 119 kr_ref10_Obj v0_Objs raws_v0_Objs A_v0_Objs a0.Objs, OwnO 126 kr_ref10_Slot v0_Slots raws_v0_Slots A_v0_Slots a0.Slots, Box bp0 [v0_Slots, v0_Objs, .int .i64 a0.NS, .int .i64 a0.NO], F])) (fun _ => rfl) ?_ (m := k) (x := ((0, xs7), ())) hlp1 ?_
  · clear h hlp1
    intro k x o_1 h hK1 ih1
    obtain ⟨⟨x4_1, qv5_1⟩, _⟩ := x
    replace h : ref10_State_Words.l1 a0 (k + 1) (x4_1, qv5_1) = some o_1 := h
    first | rw [ref10_State_Words.l1] at h | unfold ref10_State_Words.l1 at h
    refine S.rd fun hr9 => ?_
    refine S.seq ?_
    refine S.seq ?_
    refine S.region ?_
    refine SO.v rfl (opv_move rfl) ?_
    refine SO.v rfl (opv_lss rfl rfl) ?_
    refine SO.nil ?_
    rcases bool_or (decide (x4_1 < 96)) with b10 | b10
    · replace h := cond_t b10 h
      refine S.condT rfl b10 ?_
      refine S.skip ?_
      refine S.seq ?_
      refine S.block ?_
      refine S.seq ?_
      refine S.region ?_
      refine SO.v rfl (opv_move rfl) ?_
      refine SO.v rfl (opv_nilCheck rfl) ?_
      refine SO.v rfl (opv_fieldAddr Tryz.underlying124 rfl Tryz.sizeOf121 rfl rfl) ?_
      refine SO.b3 ?_
      refine SO.load1 rfl Tryz.isAgg121 rfl rfl ?_
      refine SO.v rfl (opv_move rfl) ?_
      obtain ⟨x11, hx12, h⟩ := opt_bind h
      obtain ⟨r13, hr14, hc15⟩ := relR.at hrel1 hx12
      refine SO.v rfl (opv_idx Tryz.underlying121 Tryz.sizeOf126 hR2 rfl rfl hr14) ?_
      refine hc15.rip fun u16 hru17 e18 => ?_
      refine SO.loadIN rfl Tryz.isAgg126 Tryz.sizeOf126 (Rd.tail (Rd.tail (Rd.tail (Rd.head hR2)))) hr14 rfl rfl e18 ?_
      refine SO.alloc rfl Tryz.zeroValue126 rfl (fun b19 => ?_)
      refine SO.storeN Tryz.sizeOf126 rfl rfl (all1 rfl (all1 rfl (all1 rfl (all1 rfl (all1 rfl (all1 rfl (all1 rfl (all1 (Rd.one hru17) rfl)))))))) rfl rfl rfl ?_
      refine SO.nil ?_
      refine S.to (ρ' := [(4, .int .i64 x4_1), (3, v5), (2, .slice none 0 0), (0, bp bp0 0), (5, bp b19 0)]) ⟨rfl, rfl, rfl, rfl, rfl, trivial⟩ ?_
      refine S.seq ?_
      refine S.region ?_
      refine SO.v rfl (opv_move rfl) ?_
      refine SO.v rfl (opv_move rfl) ?_
      refine SO.v rfl (opv_mul rfl rfl) ?_
      refine SO.v rfl (opv_fieldAddr Tryz.underlying126 rfl Tryz.sizeOf116 rfl rfl) ?_
      refine SO.loadN rfl Tryz.isAgg116 Tryz.sizeOf116 rfl rfl rfl ?_
      obtain ⟨t20, ht21, h⟩ := opt_bind h
      refine SO.call (pre := []) rfl Tryz.call42 rfl rfl rfl (ref01_Word.ct _ _ ht21) trivial ?_
      rintro _ _ ⟨rfl, rfl⟩
      obtain ⟨x22, hx23, h⟩ := opt_bind h
      refine SO.v rfl (opv_idx Tryz.underlying22 Tryz.sizeOf58 hr9 rfl rfl hx23) ?_
      refine SO.b2 ?_
      refine SO.storeI1 (j := 0) (z' := t20) Tryz.sizeOf58 hx23 rfl rfl rfl rfl rfl rfl ?_
      refine SO.rd fun hr24 => ?_
      refine SO.nil ?_
      refine S.to (ρ' := [(4, .int .i64 x4_1), (3, v5), (2, .slice none 0 0), (0, bp bp0 0), (5, bp b19 0)]) ⟨rfl, rfl, rfl, rfl, rfl, trivial⟩ ?_
      refine S.seq ?_
      refine S.region ?_
      refine SO.v rfl (opv_move rfl) ?_
      refine SO.v rfl (opv_move rfl) ?_
      refine SO.v rfl (opv_mul rfl rfl) ?_
      refine SO.v rfl (opv_add rfl rfl) ?_
      refine SO.v rfl (opv_fieldAddr Tryz.underlying126 rfl Tryz.sizeOf3 rfl rfl) ?_
      refine SO.b1 ?_
      refine SO.load1 rfl Tryz.isAgg3 rfl rfl ?_
      refine SO.v rfl (opv_add rfl rfl) ?_
      refine SO.v rfl (opv_conv Tryz.underlying3 Tryz.underlying58 rfl) ?_
      obtain ⟨x25, hx26, h⟩ := opt_bind h
      refine SO.v rfl (opv_idx Tryz.underlying22 Tryz.sizeOf58 hr24 rfl rfl hx26) ?_
      refine SO.b1 ?_
      refine SO.storeI1 (j := 0) (z' := wu64 (w64 (x11.Parent + 1))) Tryz.sizeOf58 hx26 rfl rfl rfl rfl rfl rfl ?_
      refine SO.rd fun hr27 => ?_
      refine SO.nil ?_
      refine S.to (ρ' := [(4, .int .i64 x4_1), (3, v5), (2, .slice none 0 0), (0, bp bp0 0), (5, bp b19 0)]) ⟨rfl, rfl, rfl, rfl, rfl, trivial⟩ ?_
      refine S.seq ?_
      refine S.region ?_
      refine SO.v rfl (opv_assign rfl) ?_
      refine SO.nil ?_
      obtain ⟨qv5_e2, hlp2, h⟩ := opt_bind h
      refine S.b5 ?_
      refine S.b5 ?_
      refine S.b5 ?_
      refine S.b5 ?_
      refine S.b5 ?_
      refine S.b5 ?_
      refine S.to (ρ' := [(6, .int .i64 0), (4, .int .i64 x4_1), (3, v5), (2, .slice none 0 0), (0, bp bp0 0), (5, bp b19 0)]) ⟨rfl, rfl, rfl, rfl, rfl, rfl, trivial⟩ ?_
      refine S.forloop (X := (Int × (List Int)) × Unit) (O := (List Int)) (fun m x => ref10_State_Words.l2 x4_1 x11 m x.1) (fun x => match x with | ((x6_2, qv5_2), _) => [(6, .int .i64 x6_2), (4, .int .i64 x4_1), (3, v5), (2, .slice none 0 0), (0, bp bp0 0), (5, bp b19 0)]) (fun x => match x with | ((x6_2, qv5_2), _) => [Own 58 (ekI .u64) v5 qv5_2, Box b19 [.int .i64 x11.Cap.Kind, .int .i64 x11.Cap.Rights, .int .i64 x11.Cap.Obj, .int .i64 x11.Cap.Badge, .int .i64 x11.Cap.Guard, .int .i64 x11.Cap.Bits, .int .i64 x11.Parent, u16], Box bp0 [v0_Slots, v0_Objs, .int .i64 a0.NS, .int .i64 a0.NO], OwnO 119 kr_ref10_Obj v0_Objs raws_v0_Objs A_v0_Objs a0.Objs, OwnO 126 kr_ref10_Slot v0_Slots raws_v0_Slots A_v0_Slots a0.Slots, F]) (fun Sk => (fun qv5_e2 => ∀ _ : Unit, Sk [(0, bp bp0 0), (2, .slice none 0 0), (3, v5), (4, .int .i64 x4_1)] [Own 58 (ekI .u64) v5 qv5_e2, Box b19 [.int .i64 x11.Cap.Kind, .int .i64 x11.Cap.Rights, .int .i64 x11.Cap.Obj, .int .i64 x11.Cap.Badge, .int .i64 x11.Cap.Guard, .int .i64 x11.Cap.Bits, .int .i64 x11.Parent, u16], Box bp0 [v0_Slots, v0_Objs, .int .i64 a0.NS, .int .i64 a0.NO], OwnO 119 kr_ref10_Obj v0_Objs raws_v0_Objs A_v0_Objs a0.Objs, OwnO 126 kr_ref10_Slot v0_Slots raws_v0_Slots A_v0_Slots a0.Slots, F])) (fun _ => rfl) ?_ (m := k) (x := ((0, (qv5_1.set (w64 (5 * x4_1)).toNat t20).set (w64 ((w64 (5 * x4_1)) + 1)).toNat (wu64 (w64 (x11.Parent + 1)))), ())) hlp2 ?_
      · clear h hlp2
        intro k x o_2 h hK2 ih2
        obtain ⟨⟨x6_2, qv5_2⟩, _⟩ := x
        replace h : ref10_State_Words.l2 x4_1 x11 (k + 1) (x6_2, qv5_2) = some o_2 := h
        first | rw [ref10_State_Words.l2] at h | unfold ref10_State_Words.l2 at h
        refine S.rd fun hr28 => ?_
        refine S.seq ?_
        refine S.seq ?_
        refine S.region ?_
        refine SO.v rfl (opv_move rfl) ?_
        refine SO.v rfl (opv_fieldAddr Tryz.underlying126 rfl Tryz.sizeOf29 rfl rfl) ?_
        refine SO.b1 ?_
        refine SO.load1 rfl Tryz.isAgg29 rfl rfl ?_
        refine SO.v rfl (opv_lenR rfl Tryz.underlying29 hru17 rfl) ?_
        refine SO.v rfl (opv_lss rfl rfl) ?_
        refine SO.nil ?_
        rcases bool_or (decide (x6_2 < (x11.Kids.length : Int))) with b29 | b29
        · replace h := cond_t b29 h
          refine S.condT rfl b29 ?_
          refine S.skip ?_
          refine S.seq ?_
          refine S.block ?_
          refine S.seq ?_
          refine S.region ?_
          refine SO.v rfl (opv_fieldAddr Tryz.underlying126 rfl Tryz.sizeOf29 rfl rfl) ?_
          refine SO.load1 rfl Tryz.isAgg29 rfl rfl ?_
          refine SO.v rfl (opv_move rfl) ?_
          obtain ⟨x30, hx31, h⟩ := opt_bind h
          refine SO.v rfl (opv_idx Tryz.underlying29 Tryz.sizeOf3 hru17 rfl rfl hx31) ?_
          refine SO.loadI1 (j := 0) rfl Tryz.isAgg3 (Rd.tail (Rd.tail (Rd.tail (Rd.tail (Rd.head (Rd.pool hru17)))))) hx31 rfl rfl rfl rfl ?_
          refine SO.v rfl (opv_assign rfl) ?_
          refine SO.nil ?_
          refine S.to (ρ' := [(6, .int .i64 x6_2), (4, .int .i64 x4_1), (3, v5), (2, .slice none 0 0), (0, bp bp0 0), (5, bp b19 0), (7, .int .i64 x30)]) ⟨rfl, rfl, rfl, rfl, rfl, rfl, rfl, trivial⟩ ?_
          refine S.seq ?_
          refine S.seq ?_
          refine S.region ?_
          refine SO.v rfl (opv_move rfl) ?_
          refine SO.v rfl (opv_eql rfl rfl) ?_
          refine SO.nil ?_
          obtain ⟨qv5_3, hC3, hJ3⟩ := opt_bind h
          clear h
          refine S.cutP (G := Unit) (fun _ => True) (fun _ => [(0, bp bp0 0), (2, .slice none 0 0), (3, v5), (4, .int .i64 x4_1), (5, bp b19 0), (6, .int .i64 x6_2), (7, .int .i64 x30)]) (fun _ => [Box b19 [.int .i64 x11.Cap.Kind, .int .i64 x11.Cap.Rights, .int .i64 x11.Cap.Obj, .int .i64 x11.Cap.Badge, .int .i64 x11.Cap.Guard, .int .i64 x11.Cap.Bits, .int .i64 x11.Parent, u16], Own 58 (ekI .u64) v5 qv5_3, Box bp0 [v0_Slots, v0_Objs, .int .i64 a0.NS, .int .i64 a0.NO], OwnO 119 kr_ref10_Obj v0_Objs raws_v0_Objs A_v0_Objs a0.Objs, OwnO 126 kr_ref10_Slot v0_Slots raws_v0_Slots A_v0_Slots a0.Slots, F]) (fun hk3 => ?_) ?_
          · replace h := hC3
            rcases bool_or (x6_2 == 0) with b32 | b32
            · replace h := cond_t b32 h
              refine S.condT rfl b32 ?_
              refine S.region ?_
              refine SO.v rfl (opv_move rfl) ?_
              refine SO.v rfl (opv_move rfl) ?_
              refine SO.v rfl (opv_mul rfl rfl) ?_
              refine SO.v rfl (opv_add rfl rfl) ?_
              refine SO.v rfl (opv_move rfl) ?_
              refine SO.v rfl (opv_add rfl rfl) ?_
              refine SO.v rfl (opv_conv Tryz.underlying3 Tryz.underlying58 rfl) ?_
              obtain ⟨x33, hx34, h⟩ := opt_bind h
              refine SO.v rfl (opv_idx Tryz.underlying22 Tryz.sizeOf58 hr28 rfl rfl hx34) ?_
              refine SO.b1 ?_
              refine SO.storeI1 (j := 0) (z' := wu64 (w64 (x30 + 1))) Tryz.sizeOf58 hx34 rfl rfl rfl rfl rfl rfl ?_
              refine SO.rd fun hr35 => ?_
              refine SO.nil ?_
              refine S.to (ρ' := [(6, .int .i64 x6_2), (4, .int .i64 x4_1), (3, v5), (2, .slice none 0 0), (0, bp bp0 0), (5, bp b19 0), (7, .int .i64 x30)]) ⟨rfl, rfl, rfl, rfl, rfl, rfl, rfl, trivial⟩ ?_
              cases h
              refine S.b5 ?_
              refine S.b5 ?_
              refine S.b5 ?_
              refine S.b5 ?_
              refine S.b4 ?_
              refine S.b5 ?_
              refine S.to ?_ (hk3 () trivial)
              exact ⟨rfl, rfl, rfl, rfl, rfl, rfl, rfl, trivial⟩
            replace h := cond_f b32 h
            refine S.condF rfl b32 ?_
            refine S.region ?_
            refine SO.v rfl (opv_move rfl) ?_
            refine SO.v rfl (opv_move rfl) ?_
            refine SO.v rfl (opv_mul rfl rfl) ?_
            refine SO.v rfl (opv_add rfl rfl) ?_
            refine SO.v rfl (opv_fieldAddr Tryz.underlying126 rfl Tryz.sizeOf29 rfl rfl) ?_
            refine SO.load1 rfl Tryz.isAgg29 rfl rfl ?_
            refine SO.v rfl (opv_move rfl) ?_
            refine SO.v rfl (opv_sub rfl rfl) ?_
            obtain ⟨x36, hx37, h⟩ := opt_bind h
            refine SO.v rfl (opv_idx Tryz.underlying29 Tryz.sizeOf3 hru17 rfl rfl hx37) ?_
            refine SO.loadI1 (j := 0) rfl Tryz.isAgg3 (Rd.tail (Rd.tail (Rd.tail (Rd.tail (Rd.head (Rd.pool hru17)))))) hx37 rfl rfl rfl rfl ?_
            refine SO.v rfl (opv_add rfl rfl) ?_
            refine SO.v rfl (opv_conv Tryz.underlying3 Tryz.underlying58 rfl) ?_
            obtain ⟨x38, hx39, h⟩ := opt_bind h
            refine SO.v rfl (opv_idx Tryz.underlying22 Tryz.sizeOf58 hr28 rfl rfl hx39) ?_
            refine SO.b1 ?_
            refine SO.storeI1 (j := 0) (z' := wu64 (w64 (x36 + 1))) Tryz.sizeOf58 hx39 rfl rfl rfl rfl rfl rfl ?_
            refine SO.rd fun hr40 => ?_
            refine SO.nil ?_
            refine S.to (ρ' := [(6, .int .i64 x6_2), (4, .int .i64 x4_1), (3, v5), (2, .slice none 0 0), (0, bp bp0 0), (5, bp b19 0), (7, .int .i64 x30)]) ⟨rfl, rfl, rfl, rfl, rfl, rfl, rfl, trivial⟩ ?_
            cases h
            refine S.b5 ?_
            refine S.b5 ?_
            refine S.b5 ?_
            refine S.b5 ?_
            refine S.b4 ?_
            refine S.b5 ?_
            refine S.to ?_ (hk3 () trivial)
            exact ⟨rfl, rfl, rfl, rfl, rfl, rfl, rfl, trivial⟩
          rintro _ -
          replace h := hJ3
          refine S.b1 ?_
          refine S.rd fun hr41 => ?_
          refine S.seq ?_
          refine S.region ?_
          refine SO.v rfl (opv_move rfl) ?_
          refine SO.v rfl (opv_add rfl rfl) ?_
          refine SO.v rfl (opv_fieldAddr Tryz.underlying126 rfl Tryz.sizeOf29 rfl rfl) ?_
          refine SO.b1 ?_
          refine SO.load1 rfl Tryz.isAgg29 rfl rfl ?_
          refine SO.v rfl (opv_lenR rfl Tryz.underlying29 hru17 rfl) ?_
          refine SO.v rfl (opv_lss rfl rfl) ?_
          refine SO.nil ?_
          rcases bool_or (decide ((w64 (x6_2 + 1)) < (x11.Kids.length : Int))) with b42 | b42
          · replace h := cond_t b42 h
            refine S.condT rfl b42 ?_
            refine S.region ?_
            refine SO.v rfl (opv_move rfl) ?_
            refine SO.v rfl (opv_move rfl) ?_
            refine SO.v rfl (opv_mul rfl rfl) ?_
            refine SO.v rfl (opv_add rfl rfl) ?_
            refine SO.v rfl (opv_fieldAddr Tryz.underlying126 rfl Tryz.sizeOf29 rfl rfl) ?_
            refine SO.load1 rfl Tryz.isAgg29 rfl rfl ?_
            refine SO.v rfl (opv_move rfl) ?_
            refine SO.v rfl (opv_add rfl rfl) ?_
            obtain ⟨x43, hx44, h⟩ := opt_bind h
            refine SO.v rfl (opv_idx Tryz.underlying29 Tryz.sizeOf3 hru17 rfl rfl hx44) ?_
            refine SO.loadI1 (j := 0) rfl Tryz.isAgg3 (Rd.tail (Rd.tail (Rd.tail (Rd.tail (Rd.head (Rd.pool hru17)))))) hx44 rfl rfl rfl rfl ?_
            refine SO.v rfl (opv_add rfl rfl) ?_
            refine SO.v rfl (opv_conv Tryz.underlying3 Tryz.underlying58 rfl) ?_
            obtain ⟨x45, hx46, h⟩ := opt_bind h
            refine SO.v rfl (opv_idx Tryz.underlying22 Tryz.sizeOf58 hr41 rfl rfl hx46) ?_
            refine SO.b1 ?_
            refine SO.storeI1 (j := 0) (z' := wu64 (w64 (x43 + 1))) Tryz.sizeOf58 hx46 rfl rfl rfl rfl rfl rfl ?_
            refine SO.rd fun hr47 => ?_
            refine SO.nil ?_
            refine S.to (ρ' := [(0, bp bp0 0), (2, .slice none 0 0), (3, v5), (4, .int .i64 x4_1), (5, bp b19 0), (6, .int .i64 x6_2)]) ⟨rfl, rfl, rfl, rfl, rfl, rfl, trivial⟩ ?_
            refine S.inBlock ?_
            refine S.region ?_
            refine SO.v rfl (opv_move rfl) ?_
            refine SO.v rfl (opv_add rfl rfl) ?_
            refine SO.v rfl (opv_assign rfl) ?_
            refine SO.nil ?_
            refine S.b5 ?_
            refine S.b5 ?_
            refine S.b5 ?_
            refine S.b5 ?_
            refine S.b5 ?_
            refine S.b5 ?_
            refine S.to ?_ (ih2 ((w64 (x6_2 + 1), qv5_3.set (w64 ((w64 (5 * x30)) + 3)).toNat (wu64 (w64 (x43 + 1)))), ()) h)
            exact ⟨rfl, rfl, rfl, rfl, rfl, rfl, trivial⟩
          replace h := cond_f b42 h
          refine S.condF rfl b42 ?_
          refine S.skip ?_
          refine S.inBlock ?_
          refine S.region ?_
          refine SO.v rfl (opv_move rfl) ?_
          refine SO.v rfl (opv_add rfl rfl) ?_
          refine SO.v rfl (opv_assign rfl) ?_
          refine SO.nil ?_
          refine S.to (ρ' := [(0, bp bp0 0), (2, .slice none 0 0), (3, v5), (4, .int .i64 x4_1), (5, bp b19 0), (6, .int .i64 (w64 (x6_2 + 1)))]) ⟨rfl, rfl, rfl, rfl, rfl, rfl, trivial⟩ ?_
          refine S.b5 ?_
          refine S.b5 ?_
          refine S.b5 ?_
          refine S.b5 ?_
          refine S.b4 ?_
          refine S.b5 ?_
          refine S.to ?_ (ih2 ((w64 (x6_2 + 1), qv5_3), ()) h)
          exact ⟨rfl, rfl, rfl, rfl, rfl, rfl, trivial⟩
        replace h := cond_f b29 h
        refine S.condF rfl b29 ?_
        refine S.exit rfl ?_
        cases h
        refine S.b5 ?_
        refine S.b5 ?_
        refine S.b5 ?_
        refine S.b5 ?_
        refine S.b4 ?_
        refine S.b5 ?_
        refine S.to ?_ (hK2 ())
        exact ⟨rfl, rfl, rfl, rfl, trivial⟩
      rintro _
      refine S.rd fun hr48 => ?_
      refine S.inBlock ?_
      refine S.region ?_
      refine SO.v rfl (opv_move rfl) ?_
      refine SO.v rfl (opv_add rfl rfl) ?_
      refine SO.v rfl (opv_assign rfl) ?_
      refine SO.nil ?_
      refine S.b1 ?_
      refine S.drop ?_
      refine S.b4 ?_
      refine S.b2 ?_
      refine S.b4 ?_
      refine S.b4 ?_
      refine S.b4 ?_
      refine S.to ?_ (ih1 ((w64 (x4_1 + 1), qv5_e2), ()) h)
      exact ⟨rfl, rfl, rfl, rfl, trivial⟩
    replace h := cond_f b10 h
    refine S.condF rfl b10 ?_
    refine S.exit rfl ?_
    cases h
    refine S.b4 ?_
    refine S.b4 ?_
    refine S.b4 ?_
    refine S.b4 ?_
    refine S.b4 ?_
    refine S.to ?_ (hK1 ())
    exact ⟨rfl, rfl, rfl, trivial⟩
  rintro _
  refine S.rd fun hr49 => ?_
  refine S.seq ?_
  refine S.seq ?_
  refine S.region ?_
  refine SO.v rfl (opv_assign rfl) ?_
  refine SO.nil ?_
  obtain ⟨qv5_e4, hlp4, h⟩ := opt_bind h
  refine S.b4 ?_
  refine S.b4 ?_
  refine S.b4 ?_
  refine S.b4 ?_
  refine S.b4 ?_
  refine S.to (ρ' := [(8, .int .i64 0), (0, bp bp0 0), (2, .slice none 0 0), (3, v5)]) ⟨rfl, rfl, rfl, rfl, trivial⟩ ?_
  refine S.forloop (X := (Int × (List Int)) × Unit) (O := (List Int)) (fun m x => ref10_State_Words.l4 a0 m x.1) (fun x => match x with | ((x8_4, qv5_4), _) => [(8, .int .i64 x8_4), (0, bp bp0 0), (2, .slice none 0 0), (3, v5)]) (fun x => match x with | ((x8_4, qv5_4), _) => [Own 58 (ekI .u64) v5 qv5_4, OwnO 119 kr_ref10_Obj v0_Objs raws_v0_Objs A_v0_Objs a0.Objs, OwnO 126 kr_ref10_Slot v0_Slots raws_v0_Slots A_v0_Slots a0.Slots, Box bp0 [v0_Slots, v0_Objs, .int .i64 a0.NS, .int .i64 a0.NO], F]) (fun Sk => (fun qv5_e4 => ∀ _ : Unit, Sk [(0, bp bp0 0), (2, .slice none 0 0), (3, v5)] [Own 58 (ekI .u64) v5 qv5_e4, OwnO 119 kr_ref10_Obj v0_Objs raws_v0_Objs A_v0_Objs a0.Objs, OwnO 126 kr_ref10_Slot v0_Slots raws_v0_Slots A_v0_Slots a0.Slots, Box bp0 [v0_Slots, v0_Objs, .int .i64 a0.NS, .int .i64 a0.NO], F])) (fun _ => rfl) ?_ (m := k) (x := ((0, qv5_e1), ())) hlp4 ?_
  · clear h hlp4
    intro k x o_4 h hK4 ih4
    obtain ⟨⟨x8_4, qv5_4⟩, _⟩ := x
    replace h : ref10_State_Words.l4 a0 (k + 1) (x8_4, qv5_4) = some o_4 := h
    first | rw [ref10_State_Words.l4] at h | unfold ref10_State_Words.l4 at h
    refine S.rd fun hr50 => ?_
    refine S.seq ?_
    refine S.seq ?_
    refine S.region ?_
    refine SO.v rfl (opv_move rfl) ?_
    refine SO.v rfl (opv_lss rfl rfl) ?_
    refine SO.nil ?_
    rcases bool_or (decide (x8_4 < 32)) with b51 | b51
    · replace h := cond_t b51 h
      refine S.condT rfl b51 ?_
      refine S.skip ?_
      refine S.seq ?_
      refine S.block ?_
      refine S.seq ?_
      refine S.region ?_
      refine SO.v rfl (opv_move rfl) ?_
      refine SO.v rfl (opv_nilCheck rfl) ?_
      refine SO.v rfl (opv_fieldAddr Tryz.underlying124 rfl Tryz.sizeOf122 rfl rfl) ?_
      refine SO.b3 ?_
      refine SO.load1 rfl Tryz.isAgg122 rfl rfl ?_
      refine SO.v rfl (opv_move rfl) ?_
      obtain ⟨x52, hx53, h⟩ := opt_bind h
      obtain ⟨r54, hr55, hc56⟩ := relR.at hrel3 hx53
      refine SO.v rfl (opv_idx Tryz.underlying122 Tryz.sizeOf119 hR4 rfl rfl hr55) ?_
      refine hc56.rip fun u57 hru58 e59 => ?_
      refine SO.loadIN rfl Tryz.isAgg119 Tryz.sizeOf119 (Rd.tail (Rd.tail (Rd.head hR4))) hr55 rfl rfl e59 ?_
      refine SO.alloc rfl Tryz.zeroValue119 rfl (fun b60 => ?_)
      refine SO.storeN Tryz.sizeOf119 rfl rfl (all1 rfl (all1 rfl (all1 rfl (all1 rfl (all1 rfl (all1 rfl (all1 (Rd.one hru58) (all1 rfl (all1 rfl (all1 rfl (all1 rfl (all1 rfl (all1 rfl (all1 rfl (all1 rfl (all1 rfl (all1 rfl (all1 rfl (all1 rfl (all1 rfl (all1 rfl (all1 rfl (all1 rfl (all1 rfl (all1 rfl (all1 rfl (all1 rfl (all1 rfl (all1 rfl (all1 rfl (all1 rfl (all1 rfl rfl)))))))))))))))))))))))))))))))) rfl rfl rfl ?_
      refine SO.nil ?_
      refine S.to (ρ' := [(8, .int .i64 x8_4), (0, bp bp0 0), (2, .slice none 0 0), (3, v5), (9, bp b60 0)]) ⟨rfl, rfl, rfl, rfl, rfl, trivial⟩ ?_
      refine S.seq ?_
      refine S.region ?_
      refine SO.v rfl (opv_move rfl) ?_
      refine SO.v rfl (opv_mul rfl rfl) ?_
      refine SO.v rfl (opv_add rfl rfl) ?_
      refine SO.v rfl (opv_assign rfl) ?_
      refine SO.nil ?_
      refine S.seq ?_
      refine S.region ?_
      refine SO.v rfl (opv_move rfl) ?_
      refine SO.v rfl (opv_move rfl) ?_
      refine SO.v rfl (opv_fieldAddr Tryz.underlying119 rfl Tryz.sizeOf3 rfl rfl) ?_
      refine SO.load1 rfl Tryz.isAgg3 rfl rfl ?_
      refine SO.v rfl (opv_conv Tryz.underlying3 Tryz.underlying58 rfl) ?_
      obtain ⟨x61, hx62, h⟩ := opt_bind h
      refine SO.v rfl (opv_idx Tryz.underlying22 Tryz.sizeOf58 hr50 rfl rfl hx62) ?_
      refine SO.b2 ?_
      refine SO.storeI1 (j := 0) (z' := wu64 x52.Kind) Tryz.sizeOf58 hx62 rfl rfl rfl rfl rfl rfl ?_
      refine SO.rd fun hr63 => ?_
      refine SO.nil ?_
      refine S.to (ρ' := [(8, .int .i64 x8_4), (0, bp bp0 0), (2, .slice none 0 0), (3, v5), (9, bp b60 0), (10, .int .i64 (w64 (480 + (w64 (8 * x8_4)))))]) ⟨rfl, rfl, rfl, rfl, rfl, rfl, trivial⟩ ?_
      refine S.seq ?_
      refine S.seq ?_
      refine S.region ?_
      refine SO.v rfl (opv_fieldAddr Tryz.underlying119 rfl Tryz.sizeOf3 rfl rfl) ?_
      refine SO.b1 ?_
      refine SO.load1 rfl Tryz.isAgg3 rfl rfl ?_
      refine SO.nil ?_
      obtain ⟨qv5_5, hC5, hJ5⟩ := opt_bind h
      clear h
      refine S.cutP (G := Unit) (fun _ => True) (fun _ => [(0, bp bp0 0), (2, .slice none 0 0), (3, v5), (8, .int .i64 x8_4), (9, bp b60 0), (10, .int .i64 (w64 (480 + (w64 (8 * x8_4)))))]) (fun _ => [Box b60 [.int .i64 x52.Kind, .int .i64 x52.Size, .int .i64 x52.Used, .int .i64 x52.First, .int .i64 x52.Radix, .int .i64 x52.Wait, u57, .int .i64 x52.Word, .int .i64 x52.State, .int .i64 x52.Owing, .int .i64 x52.Badge, .int .i64 x52.Prio, .int .i64 x52.On, .int .i64 x52.Owes, .int .i64 x52.Root.Kind, .int .i64 x52.Root.Rights, .int .i64 x52.Root.Obj, .int .i64 x52.Root.Badge, .int .i64 x52.Root.Guard, .int .i64 x52.Root.Bits, .int .i64 x52.Pages.a0, .int .i64 x52.Pages.a1, .int .i64 x52.Pages.a2, .int .i64 x52.Pages.a3, .int .i64 x52.Right.a0, .int .i64 x52.Right.a1, .int .i64 x52.Right.a2, .int .i64 x52.Right.a3, .int .i64 x52.In, .int .i64 x52.Page, .int .i64 x52.Bound, .int .i64 x52.Mask], Own 58 (ekI .u64) v5 qv5_5, Box bp0 [v0_Slots, v0_Objs, .int .i64 a0.NS, .int .i64 a0.NO], OwnO 119 kr_ref10_Obj v0_Objs raws_v0_Objs A_v0_Objs a0.Objs, OwnO 126 kr_ref10_Slot v0_Slots raws_v0_Slots A_v0_Slots a0.Slots, F]) (fun hk5 => ?_) ?_
      · replace h := hC5
        refine S.block ?_
        refine S.seq ?_
        refine S.region ?_
        refine SO.v rfl (opv_eql rfl rfl) ?_
        refine SO.v rfl (opv_assign rfl) ?_
        refine SO.nil ?_
        rcases bool_or (x52.Kind == 1) with b64 | b64
        · replace h := cond_t b64 h
          refine S.condT rfl b64 ?_
          refine S.seq ?_
          refine S.region ?_
          refine SO.v rfl (opv_move rfl) ?_
          refine SO.v rfl (opv_move rfl) ?_
          refine SO.v rfl (opv_add rfl rfl) ?_
          refine SO.v rfl (opv_fieldAddr Tryz.underlying119 rfl Tryz.sizeOf3 rfl rfl) ?_
          refine SO.load1 rfl Tryz.isAgg3 rfl rfl ?_
          refine SO.v rfl (opv_conv Tryz.underlying3 Tryz.underlying58 rfl) ?_
          obtain ⟨x65, hx66, h⟩ := opt_bind h
          refine SO.v rfl (opv_idx Tryz.underlying22 Tryz.sizeOf58 hr63 rfl rfl hx66) ?_
          refine SO.b1 ?_
          refine SO.storeI1 (j := 0) (z' := wu64 x52.Size) Tryz.sizeOf58 hx66 rfl rfl rfl rfl rfl rfl ?_
          refine SO.rd fun hr67 => ?_
          refine SO.nil ?_
          refine S.to (ρ' := [(8, .int .i64 x8_4), (0, bp bp0 0), (2, .slice none 0 0), (3, v5), (9, bp b60 0), (10, .int .i64 (w64 (480 + (w64 (8 * x8_4)))))]) ⟨rfl, rfl, rfl, rfl, rfl, rfl, trivial⟩ ?_
          refine S.region ?_
          refine SO.v rfl (opv_move rfl) ?_
          refine SO.v rfl (opv_move rfl) ?_
          refine SO.v rfl (opv_add rfl rfl) ?_
          refine SO.v rfl (opv_fieldAddr Tryz.underlying119 rfl Tryz.sizeOf3 rfl rfl) ?_
          refine SO.b1 ?_
          refine SO.load1 rfl Tryz.isAgg3 rfl rfl ?_
          refine SO.v rfl (opv_conv Tryz.underlying3 Tryz.underlying58 rfl) ?_
          obtain ⟨x68, hx69, h⟩ := opt_bind h
          refine SO.v rfl (opv_idx Tryz.underlying22 Tryz.sizeOf58 hr67 rfl rfl hx69) ?_
          refine SO.b1 ?_
          refine SO.storeI1 (j := 0) (z' := wu64 x52.Used) Tryz.sizeOf58 hx69 rfl rfl rfl rfl rfl rfl ?_
          refine SO.rd fun hr70 => ?_
          refine SO.nil ?_
          refine S.to (ρ' := [(8, .int .i64 x8_4), (0, bp bp0 0), (2, .slice none 0 0), (3, v5), (9, bp b60 0), (10, .int .i64 (w64 (480 + (w64 (8 * x8_4)))))]) ⟨rfl, rfl, rfl, rfl, rfl, rfl, trivial⟩ ?_
          refine S.inBlock ?_
          cases h
          refine S.b5 ?_
          refine S.b5 ?_
          refine S.b5 ?_
          refine S.b5 ?_
          refine S.b4 ?_
          refine S.b5 ?_
          refine S.to ?_ (hk5 () trivial)
          exact ⟨rfl, rfl, rfl, rfl, rfl, rfl, trivial⟩
        replace h := cond_f b64 h
        refine S.condF rfl b64 ?_
        refine S.seq ?_
        refine S.region ?_
        refine SO.v rfl (opv_eql rfl rfl) ?_
        refine SO.v rfl (opv_assign rfl) ?_
        refine SO.nil ?_
        rcases bool_or (x52.Kind == 2) with b71 | b71
        · replace h := cond_t b71 h
          refine S.condT rfl b71 ?_
          refine S.seq ?_
          refine S.region ?_
          refine SO.v rfl (opv_move rfl) ?_
          refine SO.v rfl (opv_move rfl) ?_
          refine SO.v rfl (opv_add rfl rfl) ?_
          refine SO.v rfl (opv_fieldAddr Tryz.underlying119 rfl Tryz.sizeOf3 rfl rfl) ?_
          refine SO.load1 rfl Tryz.isAgg3 rfl rfl ?_
          refine SO.v rfl (opv_conv Tryz.underlying3 Tryz.underlying58 rfl) ?_
          obtain ⟨x72, hx73, h⟩ := opt_bind h
          refine SO.v rfl (opv_idx Tryz.underlying22 Tryz.sizeOf58 hr63 rfl rfl hx73) ?_
          refine SO.b1 ?_
          refine SO.storeI1 (j := 0) (z' := wu64 x52.First) Tryz.sizeOf58 hx73 rfl rfl rfl rfl rfl rfl ?_
          refine SO.rd fun hr74 => ?_
          refine SO.nil ?_
          refine S.to (ρ' := [(8, .int .i64 x8_4), (0, bp bp0 0), (2, .slice none 0 0), (3, v5), (9, bp b60 0), (10, .int .i64 (w64 (480 + (w64 (8 * x8_4)))))]) ⟨rfl, rfl, rfl, rfl, rfl, rfl, trivial⟩ ?_
          refine S.region ?_
          refine SO.v rfl (opv_move rfl) ?_
          refine SO.v rfl (opv_move rfl) ?_
          refine SO.v rfl (opv_add rfl rfl) ?_
          refine SO.v rfl (opv_fieldAddr Tryz.underlying119 rfl Tryz.sizeOf3 rfl rfl) ?_
          refine SO.b1 ?_
          refine SO.load1 rfl Tryz.isAgg3 rfl rfl ?_
          refine SO.v rfl (opv_conv Tryz.underlying3 Tryz.underlying58 rfl) ?_
          obtain ⟨x75, hx76, h⟩ := opt_bind h
          refine SO.v rfl (opv_idx Tryz.underlying22 Tryz.sizeOf58 hr74 rfl rfl hx76) ?_
          refine SO.b1 ?_
          refine SO.storeI1 (j := 0) (z' := wu64 x52.Radix) Tryz.sizeOf58 hx76 rfl rfl rfl rfl rfl rfl ?_
          refine SO.rd fun hr77 => ?_
          refine SO.nil ?_
          refine S.to (ρ' := [(8, .int .i64 x8_4), (0, bp bp0 0), (2, .slice none 0 0), (3, v5), (9, bp b60 0), (10, .int .i64 (w64 (480 + (w64 (8 * x8_4)))))]) ⟨rfl, rfl, rfl, rfl, rfl, rfl, trivial⟩ ?_
          refine S.inBlock ?_
          cases h
          refine S.b5 ?_
          refine S.b5 ?_
          refine S.b5 ?_
          refine S.b5 ?_
          refine S.b4 ?_
          refine S.b5 ?_
          refine S.to ?_ (hk5 () trivial)
          exact ⟨rfl, rfl, rfl, rfl, rfl, rfl, trivial⟩
        replace h := cond_f b71 h
        refine S.condF rfl b71 ?_
        refine S.seq ?_
        refine S.region ?_
        refine SO.v rfl (opv_eql rfl rfl) ?_
        refine SO.v rfl (opv_assign rfl) ?_
        refine SO.nil ?_
        rcases bool_or (x52.Kind == 3) with b78 | b78
        · replace h := cond_t b78 h
          refine S.condT rfl b78 ?_
          refine S.region ?_
          refine SO.v rfl (opv_move rfl) ?_
          refine SO.v rfl (opv_move rfl) ?_
          refine SO.v rfl (opv_add rfl rfl) ?_
          refine SO.v rfl (opv_fieldAddr Tryz.underlying119 rfl Tryz.sizeOf3 rfl rfl) ?_
          refine SO.load1 rfl Tryz.isAgg3 rfl rfl ?_
          refine SO.v rfl (opv_conv Tryz.underlying3 Tryz.underlying58 rfl) ?_
          obtain ⟨x79, hx80, h⟩ := opt_bind h
          refine SO.v rfl (opv_idx Tryz.underlying22 Tryz.sizeOf58 hr63 rfl rfl hx80) ?_
          refine SO.b1 ?_
          refine SO.storeI1 (j := 0) (z' := wu64 x52.Wait) Tryz.sizeOf58 hx80 rfl rfl rfl rfl rfl rfl ?_
          refine SO.rd fun hr81 => ?_
          refine SO.nil ?_
          refine S.to (ρ' := [(8, .int .i64 x8_4), (0, bp bp0 0), (2, .slice none 0 0), (3, v5), (9, bp b60 0), (10, .int .i64 (w64 (480 + (w64 (8 * x8_4)))))]) ⟨rfl, rfl, rfl, rfl, rfl, rfl, trivial⟩ ?_
          refine S.inBlock ?_
          cases h
          refine S.b5 ?_
          refine S.b5 ?_
          refine S.b5 ?_
          refine S.b5 ?_
          refine S.b4 ?_
          refine S.b5 ?_
          refine S.to ?_ (hk5 () trivial)
          exact ⟨rfl, rfl, rfl, rfl, rfl, rfl, trivial⟩
        replace h := cond_f b78 h
        refine S.condF rfl b78 ?_
        refine S.seq ?_
        refine S.region ?_
        refine SO.v rfl (opv_eql rfl rfl) ?_
        refine SO.v rfl (opv_assign rfl) ?_
        refine SO.nil ?_
        refine S.to (ρ' := [(8, .int .i64 x8_4), (0, bp bp0 0), (2, .slice none 0 0), (3, v5), (9, bp b60 0), (10, .int .i64 (w64 (480 + (w64 (8 * x8_4))))), (117, .int .i64 x52.Kind), (159, .bool (x52.Kind == 4))]) ⟨rfl, rfl, rfl, rfl, rfl, rfl, rfl, rfl, trivial⟩ ?_
        rcases bool_or (x52.Kind == 4) with b82 | b82
        · replace h := cond_t b82 h
          refine S.condT rfl b82 ?_
          refine S.region ?_
          refine SO.v rfl (opv_move rfl) ?_
          refine SO.v rfl (opv_move rfl) ?_
          refine SO.v rfl (opv_add rfl rfl) ?_
          refine SO.v rfl (opv_fieldAddr Tryz.underlying119 rfl Tryz.sizeOf3 rfl rfl) ?_
          refine SO.load1 rfl Tryz.isAgg3 rfl rfl ?_
          refine SO.v rfl (opv_conv Tryz.underlying3 Tryz.underlying58 rfl) ?_
          obtain ⟨x83, hx84, h⟩ := opt_bind h
          refine SO.v rfl (opv_idx Tryz.underlying22 Tryz.sizeOf58 hr63 rfl rfl hx84) ?_
          refine SO.b1 ?_
          refine SO.storeI1 (j := 0) (z' := wu64 x52.Word) Tryz.sizeOf58 hx84 rfl rfl rfl rfl rfl rfl ?_
          refine SO.rd fun hr85 => ?_
          refine SO.nil ?_
          refine S.to (ρ' := [(8, .int .i64 x8_4), (0, bp bp0 0), (2, .slice none 0 0), (3, v5), (9, bp b60 0), (10, .int .i64 (w64 (480 + (w64 (8 * x8_4)))))]) ⟨rfl, rfl, rfl, rfl, rfl, rfl, trivial⟩ ?_
          refine S.inBlock ?_
          cases h
          refine S.b5 ?_
          refine S.b5 ?_
          refine S.b5 ?_
          refine S.b5 ?_
          refine S.b4 ?_
          refine S.b5 ?_
          refine S.to ?_ (hk5 () trivial)
          exact ⟨rfl, rfl, rfl, rfl, rfl, rfl, trivial⟩
        replace h := cond_f b82 h
        refine S.condF rfl b82 ?_
        refine S.seq ?_
        refine S.region ?_
        refine SO.v rfl (opv_eql rfl rfl) ?_
        refine SO.v rfl (opv_assign rfl) ?_
        refine SO.nil ?_
        rcases bool_or (x52.Kind == 5) with b86 | b86
        · replace h := cond_t b86 h
          refine S.condT rfl b86 ?_
          refine S.seq ?_
          refine S.region ?_
          refine SO.v rfl (opv_move rfl) ?_
          refine SO.v rfl (opv_move rfl) ?_
          refine SO.v rfl (opv_add rfl rfl) ?_
          refine SO.v rfl (opv_fieldAddr Tryz.underlying119 rfl Tryz.sizeOf3 rfl rfl) ?_
          refine SO.load1 rfl Tryz.isAgg3 rfl rfl ?_
          refine SO.v rfl (opv_conv Tryz.underlying3 Tryz.underlying58 rfl) ?_
          obtain ⟨x87, hx88, h⟩ := opt_bind h
          refine SO.v rfl (opv_idx Tryz.underlying22 Tryz.sizeOf58 hr63 rfl rfl hx88) ?_
          refine SO.b1 ?_
          refine SO.storeI1 (j := 0) (z' := wu64 x52.State) Tryz.sizeOf58 hx88 rfl rfl rfl rfl rfl rfl ?_
          refine SO.rd fun hr89 => ?_
          refine SO.nil ?_
          refine S.to (ρ' := [(8, .int .i64 x8_4), (0, bp bp0 0), (2, .slice none 0 0), (3, v5), (9, bp b60 0), (10, .int .i64 (w64 (480 + (w64 (8 * x8_4)))))]) ⟨rfl, rfl, rfl, rfl, rfl, rfl, trivial⟩ ?_
          refine S.seq ?_
          obtain ⟨x90, hx91, h⟩ := opt_bind h
          obtain ⟨x92, hx93, h⟩ := opt_bind h
          refine S.draw2 (Y := fun Q => ∃ (_ _ _ _ _ _ _ _ _ _ : Unit), Q [(3, v5), (10, .int .i64 (w64 (480 + (w64 (8 * x8_4))))), (9, bp b60 0), (8, .int .i64 x8_4), (0, bp bp0 0), (2, .slice none 0 0)] [Own 58 (ekI .u64) v5 ((qv5_4.set (w64 (480 + (w64 (8 * x8_4)))).toNat (wu64 x52.Kind)).set (w64 ((w64 (480 + (w64 (8 * x8_4)))) + 1)).toNat (wu64 x52.State)), Box b60 [.int .i64 x52.Kind, .int .i64 x52.Size, .int .i64 x52.Used, .int .i64 x52.First, .int .i64 x52.Radix, .int .i64 x52.Wait, u57, .int .i64 x52.Word, .int .i64 x52.State, .int .i64 x52.Owing, .int .i64 x52.Badge, .int .i64 x52.Prio, .int .i64 x52.On, .int .i64 x52.Owes, .int .i64 x52.Root.Kind, .int .i64 x52.Root.Rights, .int .i64 x52.Root.Obj, .int .i64 x52.Root.Badge, .int .i64 x52.Root.Guard, .int .i64 x52.Root.Bits, .int .i64 x52.Pages.a0, .int .i64 x52.Pages.a1, .int .i64 x52.Pages.a2, .int .i64 x52.Pages.a3, .int .i64 x52.Right.a0, .int .i64 x52.Right.a1, .int .i64 x52.Right.a2, .int .i64 x52.Right.a3, .int .i64 x52.In, .int .i64 x52.Page, .int .i64 x52.Bound, .int .i64 x52.Mask], Box bp0 [v0_Slots, v0_Objs, .int .i64 a0.NS, .int .i64 a0.NO], OwnO 119 kr_ref10_Obj v0_Objs raws_v0_Objs A_v0_Objs a0.Objs, OwnO 126 kr_ref10_Slot v0_Slots raws_v0_Slots A_v0_Slots a0.Slots, F]) (Z := fun Q => ∀ (_ _ _ _ _ _ _ _ _ _ : Unit), Q [(8, .int .i64 x8_4), (0, bp bp0 0), (2, .slice none 0 0), (3, v5), (9, bp b60 0), (10, .int .i64 (w64 (480 + (w64 (8 * x8_4)))))] [Own 58 (ekI .u64) v5 (((qv5_4.set (w64 (480 + (w64 (8 * x8_4)))).toNat (wu64 x52.Kind)).set (w64 ((w64 (480 + (w64 (8 * x8_4)))) + 1)).toNat (wu64 x52.State)).set (w64 ((w64 (480 + (w64 (8 * x8_4)))) + 2)).toNat (wu64 (x90 + (wu64 (w64 (x52.Owing + 1)))))), Box b60 [.int .i64 x52.Kind, .int .i64 x52.Size, .int .i64 x52.Used, .int .i64 x52.First, .int .i64 x52.Radix, .int .i64 x52.Wait, u57, .int .i64 x52.Word, .int .i64 x52.State, .int .i64 x52.Owing, .int .i64 x52.Badge, .int .i64 x52.Prio, .int .i64 x52.On, .int .i64 x52.Owes, .int .i64 x52.Root.Kind, .int .i64 x52.Root.Rights, .int .i64 x52.Root.Obj, .int .i64 x52.Root.Badge, .int .i64 x52.Root.Guard, .int .i64 x52.Root.Bits, .int .i64 x52.Pages.a0, .int .i64 x52.Pages.a1, .int .i64 x52.Pages.a2, .int .i64 x52.Pages.a3, .int .i64 x52.Right.a0, .int .i64 x52.Right.a1, .int .i64 x52.Right.a2, .int .i64 x52.Right.a3, .int .i64 x52.In, .int .i64 x52.Page, .int .i64 x52.Bound, .int .i64 x52.Mask], Box bp0 [v0_Slots, v0_Objs, .int .i64 a0.NS, .int .i64 a0.NO], OwnO 119 kr_ref10_Obj v0_Objs raws_v0_Objs A_v0_Objs a0.Objs, OwnO 126 kr_ref10_Slot v0_Slots raws_v0_Slots A_v0_Slots a0.Slots, F]) (T := [tS 3 (v5), tS 10 (.int .i64 (w64 (480 + (w64 (8 * x8_4))))), tS 9 (bp b60 0), tE [(8, .int .i64 x8_4), (0, bp bp0 0), (2, .slice none 0 0)], tR (Own 58 (ekI .u64) v5 ((qv5_4.set (w64 (480 + (w64 (8 * x8_4)))).toNat (wu64 x52.Kind)).set (w64 ((w64 (480 + (w64 (8 * x8_4)))) + 1)).toNat (wu64 x52.State))), tR (Box b60 [.int .i64 x52.Kind, .int .i64 x52.Size, .int .i64 x52.Used, .int .i64 x52.First, .int .i64 x52.Radix, .int .i64 x52.Wait, u57, .int .i64 x52.Word, .int .i64 x52.State, .int .i64 x52.Owing, .int .i64 x52.Badge, .int .i64 x52.Prio, .int .i64 x52.On, .int .i64 x52.Owes, .int .i64 x52.Root.Kind, .int .i64 x52.Root.Rights, .int .i64 x52.Root.Obj, .int .i64 x52.Root.Badge, .int .i64 x52.Root.Guard, .int .i64 x52.Root.Bits, .int .i64 x52.Pages.a0, .int .i64 x52.Pages.a1, .int .i64 x52.Pages.a2, .int .i64 x52.Pages.a3, .int .i64 x52.Right.a0, .int .i64 x52.Right.a1, .int .i64 x52.Right.a2, .int .i64 x52.Right.a3, .int .i64 x52.In, .int .i64 x52.Page, .int .i64 x52.Bound, .int .i64 x52.Mask]), tR (Box bp0 [v0_Slots, v0_Objs, .int .i64 a0.NS, .int .i64 a0.NO]), tR (OwnO 119 kr_ref10_Obj v0_Objs raws_v0_Objs A_v0_Objs a0.Objs), tR (OwnO 126 kr_ref10_Slot v0_Slots raws_v0_Slots A_v0_Slots a0.Slots), tR (F), tS 177 (v5), tS 178 (.int .i64 (w64 (480 + (w64 (8 * x8_4))))), tS 179 (.int .i64 (w64 ((w64 (480 + (w64 (8 * x8_4)))) + 2))), tS 180 (v5), tS 181 (.int .i64 (w64 (480 + (w64 (8 * x8_4))))), tS 182 (.int .i64 (w64 ((w64 (480 + (w64 (8 * x8_4)))) + 2))), tS 183 (idxp v5 ((w64 ((w64 (480 + (w64 (8 * x8_4)))) + 2)).toNat * (ekI .u64).sz)), tS 184 (.int .u64 x90), tS 185 (bp b60 9), tS 186 (.int .i64 x52.Owing), tS 187 (.int .i64 (w64 (x52.Owing + 1))), tS 188 (.int .u64 (wu64 (w64 (x52.Owing + 1)))), tS 189 (.int .u64 (wu64 (x90 + (wu64 (w64 (x52.Owing + 1)))))), tS 190 (idxp v5 ((w64 ((w64 (480 + (w64 (8 * x8_4)))) + 2)).toNat * (ekI .u64).sz)), tR (Own 58 (ekI .u64) v5 (((qv5_4.set (w64 (480 + (w64 (8 * x8_4)))).toNat (wu64 x52.Kind)).set (w64 ((w64 (480 + (w64 (8 * x8_4)))) + 1)).toNat (wu64 x52.State)).set (w64 ((w64 (480 + (w64 (8 * x8_4)))) + 2)).toNat (wu64 (x90 + (wu64 (w64 (x52.Owing + 1)))))))]) (D := [⟨[0], [], [10]⟩, ⟨[1], [], [11]⟩, ⟨[11], [], [12]⟩, ⟨[0], [], [13]⟩, ⟨[1], [], [14]⟩, ⟨[14], [], [15]⟩, ⟨[13, 15, 4], [], [16]⟩, ⟨[16, 4], [], [17]⟩, ⟨[2], [], [18]⟩, ⟨[18, 5], [], [19]⟩, ⟨[19], [], [20]⟩, ⟨[20], [], [21]⟩, ⟨[17, 21], [], [22]⟩, ⟨[10, 12, 4], [], [23]⟩, ⟨[22, 23], [4], [24]⟩]) (ini := [0, 1, 2, 3, 4, 5, 6, 7, 8, 9]) (fin := [3, 0, 2, 1, 24, 5, 6, 7, 8, 9]) (bf := [[], [], [1], [], [], [4], [3, 4, 5], [3, 4, 5, 6], [], [8], [8, 9], [8, 9, 10], [3, 4, 5, 6, 7, 8, 9, 10, 11], [0, 1, 2, 3, 4, 5, 6, 7, 8, 9, 10, 11, 12], [0, 1, 2, 3, 4, 5, 6, 7, 8, 9, 10, 11, 12, 13]]) (by kernel_rfl) (by kernel_rfl) (fun Q => by kernel_rfl) (fun x w h1 h2 => ⟨(), (), (), (), (), (), (), (), (), (), EnvAll.of h1 ⟨rfl, rfl, rfl, rfl, rfl, rfl, trivial⟩, h2⟩) (fun Q => by kernel_rfl) ⟨?_, ?_, ?_, ?_, ?_, ?_, ?_, ?_, ?_, ?_, ?_, ?_, ?_, ?_, ?_, trivial⟩ ?_
          · rintro Fr _
            refine SO.v rfl (opv_move rfl) ?_
            exact SO.nilZ fun a w h1 h2 h3 h4 h5 => PZ.of h1 h3 h5 (.cons () (.cons () (.nil ⟨EnvAll.of h2 ⟨rfl, rfl, trivial⟩, h4⟩)))
          · rintro Fr _
            refine SO.v rfl (opv_move rfl) ?_
            exact SO.nilZ fun a w h1 h2 h3 h4 h5 => PZ.of h1 h3 h5 (.cons () (.cons () (.nil ⟨EnvAll.of h2 ⟨rfl, rfl, trivial⟩, h4⟩)))
          · rintro Fr _
            refine SO.v rfl (opv_add rfl rfl) ?_
            exact SO.nilZ fun a w h1 h2 h3 h4 h5 => PZ.of h1 h3 h5 (.cons () (.cons () (.nil ⟨EnvAll.of h2 ⟨rfl, rfl, trivial⟩, h4⟩)))
          · rintro Fr _
            refine SO.v rfl (opv_move rfl) ?_
            exact SO.nilZ fun a w h1 h2 h3 h4 h5 => PZ.of h1 h3 h5 (.cons () (.cons () (.nil ⟨EnvAll.of h2 ⟨rfl, rfl, trivial⟩, h4⟩)))
          · rintro Fr _
            refine SO.v rfl (opv_move rfl) ?_
            exact SO.nilZ fun a w h1 h2 h3 h4 h5 => PZ.of h1 h3 h5 (.cons () (.cons () (.nil ⟨EnvAll.of h2 ⟨rfl, rfl, trivial⟩, h4⟩)))
          · rintro Fr _
            refine SO.v rfl (opv_add rfl rfl) ?_
            exact SO.nilZ fun a w h1 h2 h3 h4 h5 => PZ.of h1 h3 h5 (.cons () (.cons () (.nil ⟨EnvAll.of h2 ⟨rfl, rfl, trivial⟩, h4⟩)))
          · rintro Fr _ _ _
            refine SO.v rfl (opv_idx Tryz.underlying22 Tryz.sizeOf58 hr89 rfl rfl hx91) ?_
            exact SO.nilZ fun a w h1 h2 h3 h4 h5 => PZ.of h1 h3 h5 (.cons () (.cons () (.cons () (.cons () (.nil ⟨EnvAll.of h2 ⟨rfl, rfl, rfl, trivial⟩, h4⟩)))))
          · rintro Fr _ _
            refine SO.loadI1 (j := 0) rfl Tryz.isAgg58 (Rd.head hr89) hx91 rfl rfl rfl rfl ?_
            exact SO.nilZ fun a w h1 h2 h3 h4 h5 => PZ.of h1 h3 h5 (.cons () (.cons () (.cons () (.nil ⟨EnvAll.of h2 ⟨rfl, rfl, trivial⟩, h4⟩))))
          · rintro Fr _
            refine SO.v rfl (opv_fieldAddr Tryz.underlying119 rfl Tryz.sizeOf3 rfl rfl) ?_
            exact SO.nilZ fun a w h1 h2 h3 h4 h5 => PZ.of h1 h3 h5 (.cons () (.cons () (.nil ⟨EnvAll.of h2 ⟨rfl, rfl, trivial⟩, h4⟩)))
          · rintro Fr _ _
            refine SO.load1 rfl Tryz.isAgg3 rfl rfl ?_
            exact SO.nilZ fun a w h1 h2 h3 h4 h5 => PZ.of h1 h3 h5 (.cons () (.cons () (.cons () (.nil ⟨EnvAll.of h2 ⟨rfl, rfl, trivial⟩, h4⟩))))
          · rintro Fr _
            refine SO.v rfl (opv_add rfl rfl) ?_
            exact SO.nilZ fun a w h1 h2 h3 h4 h5 => PZ.of h1 h3 h5 (.cons () (.cons () (.nil ⟨EnvAll.of h2 ⟨rfl, rfl, trivial⟩, h4⟩)))
          · rintro Fr _
            refine SO.v rfl (opv_conv Tryz.underlying3 Tryz.underlying58 rfl) ?_
            exact SO.nilZ fun a w h1 h2 h3 h4 h5 => PZ.of h1 h3 h5 (.cons () (.cons () (.nil ⟨EnvAll.of h2 ⟨rfl, rfl, trivial⟩, h4⟩)))
          · rintro Fr _ _
            refine SO.v rfl (opv_add rfl rfl) ?_
            exact SO.nilZ fun a w h1 h2 h3 h4 h5 => PZ.of h1 h3 h5 (.cons () (.cons () (.cons () (.nil ⟨EnvAll.of h2 ⟨rfl, rfl, rfl, trivial⟩, h4⟩))))
          · rintro Fr _ _ _
            refine SO.v rfl (opv_idx Tryz.underlying22 Tryz.sizeOf58 hr89 rfl rfl hx93) ?_
            exact SO.nilZ fun a w h1 h2 h3 h4 h5 => PZ.of h1 h3 h5 (.cons () (.cons () (.cons () (.cons () (.nil ⟨EnvAll.of h2 ⟨rfl, rfl, rfl, trivial⟩, h4⟩)))))
          · rintro Fr _ _ _
            refine SO.storeI1 (j := 0) (z' := wu64 (x90 + (wu64 (w64 (x52.Owing + 1))))) Tryz.sizeOf58 hx93 rfl rfl rfl rfl rfl rfl ?_
            refine SO.rd fun hr94 => ?_
            exact SO.nilZ fun a w h1 h2 h3 h4 h5 => PZ.of h1 h3 h5 (.cons () (.cons () (.cons () (.nil ⟨EnvAll.of h2 ⟨rfl, rfl, trivial⟩, h4⟩))))
          rintro _ _ _ _ _ _ _ _ _ _
          refine S.to (ρ' := [(8, .int .i64 x8_4), (0, bp bp0 0), (2, .slice none 0 0), (3, v5), (9, bp b60 0), (10, .int .i64 (w64 (480 + (w64 (8 * x8_4)))))]) ⟨rfl, rfl, rfl, rfl, rfl, rfl, trivial⟩ ?_
          refine S.rd fun hr95 => ?_
          refine S.seq ?_
          refine S.region ?_
          refine SO.v rfl (opv_move rfl) ?_
          refine SO.v rfl (opv_move rfl) ?_
          refine SO.v rfl (opv_add rfl rfl) ?_
          refine SO.v rfl (opv_fieldAddr Tryz.underlying119 rfl Tryz.sizeOf3 rfl rfl) ?_
          refine SO.b1 ?_
          refine SO.load1 rfl Tryz.isAgg3 rfl rfl ?_
          refine SO.v rfl (opv_conv Tryz.underlying3 Tryz.underlying58 rfl) ?_
          obtain ⟨x96, hx97, h⟩ := opt_bind h
          refine SO.v rfl (opv_idx Tryz.underlying22 Tryz.sizeOf58 hr95 rfl rfl hx97) ?_
          refine SO.b1 ?_
          refine SO.storeI1 (j := 0) (z' := wu64 x52.Word) Tryz.sizeOf58 hx97 rfl rfl rfl rfl rfl rfl ?_
          refine SO.rd fun hr98 => ?_
          refine SO.nil ?_
          refine S.to (ρ' := [(8, .int .i64 x8_4), (0, bp bp0 0), (2, .slice none 0 0), (3, v5), (9, bp b60 0), (10, .int .i64 (w64 (480 + (w64 (8 * x8_4)))))]) ⟨rfl, rfl, rfl, rfl, rfl, rfl, trivial⟩ ?_
          refine S.seq ?_
          refine S.region ?_
          refine SO.v rfl (opv_move rfl) ?_
          refine SO.v rfl (opv_move rfl) ?_
          refine SO.v rfl (opv_add rfl rfl) ?_
          refine SO.v rfl (opv_fieldAddr Tryz.underlying119 rfl Tryz.sizeOf3 rfl rfl) ?_
          refine SO.b1 ?_
          refine SO.load1 rfl Tryz.isAgg3 rfl rfl ?_
          refine SO.v rfl (opv_conv Tryz.underlying3 Tryz.underlying58 rfl) ?_
          obtain ⟨x99, hx100, h⟩ := opt_bind h
          refine SO.v rfl (opv_idx Tryz.underlying22 Tryz.sizeOf58 hr98 rfl rfl hx100) ?_
          refine SO.b1 ?_
          refine SO.storeI1 (j := 0) (z' := wu64 x52.Badge) Tryz.sizeOf58 hx100 rfl rfl rfl rfl rfl rfl ?_
          refine SO.rd fun hr101 => ?_
          refine SO.nil ?_
          refine S.to (ρ' := [(8, .int .i64 x8_4), (0, bp bp0 0), (2, .slice none 0 0), (3, v5), (9, bp b60 0), (10, .int .i64 (w64 (480 + (w64 (8 * x8_4)))))]) ⟨rfl, rfl, rfl, rfl, rfl, rfl, trivial⟩ ?_
          refine S.seq ?_
          refine S.region ?_
          refine SO.v rfl (opv_move rfl) ?_
          refine SO.v rfl (opv_move rfl) ?_
          refine SO.v rfl (opv_add rfl rfl) ?_
          refine SO.v rfl (opv_fieldAddr Tryz.underlying119 rfl Tryz.sizeOf3 rfl rfl) ?_
          refine SO.b1 ?_
          refine SO.load1 rfl Tryz.isAgg3 rfl rfl ?_
          refine SO.v rfl (opv_fieldAddr Tryz.underlying119 rfl Tryz.sizeOf3 rfl rfl) ?_
          refine SO.load1 rfl Tryz.isAgg3 rfl rfl ?_
          refine SO.v rfl (opv_add rfl rfl) ?_
          refine SO.v rfl (opv_mul rfl rfl) ?_
          refine SO.v rfl (opv_add rfl rfl) ?_
          refine SO.v rfl (opv_conv Tryz.underlying3 Tryz.underlying58 rfl) ?_
          obtain ⟨x102, hx103, h⟩ := opt_bind h
          refine SO.v rfl (opv_idx Tryz.underlying22 Tryz.sizeOf58 hr101 rfl rfl hx103) ?_
          refine SO.b1 ?_
          refine SO.storeI1 (j := 0) (z' := wu64 (w64 (x52.Prio + (w64 (256 * (w64 (x52.On + 1))))))) Tryz.sizeOf58 hx103 rfl rfl rfl rfl rfl rfl ?_
          refine SO.rd fun hr104 => ?_
          refine SO.nil ?_
          refine S.to (ρ' := [(8, .int .i64 x8_4), (0, bp bp0 0), (2, .slice none 0 0), (3, v5), (9, bp b60 0), (10, .int .i64 (w64 (480 + (w64 (8 * x8_4)))))]) ⟨rfl, rfl, rfl, rfl, rfl, rfl, trivial⟩ ?_
          refine S.seq ?_
          refine S.region ?_
          refine SO.v rfl (opv_move rfl) ?_
          refine SO.v rfl (opv_move rfl) ?_
          refine SO.v rfl (opv_add rfl rfl) ?_
          refine SO.v rfl (opv_fieldAddr Tryz.underlying119 rfl Tryz.sizeOf3 rfl rfl) ?_
          refine SO.b1 ?_
          refine SO.load1 rfl Tryz.isAgg3 rfl rfl ?_
          refine SO.v rfl (opv_add rfl rfl) ?_
          refine SO.v rfl (opv_conv Tryz.underlying3 Tryz.underlying58 rfl) ?_
          obtain ⟨x105, hx106, h⟩ := opt_bind h
          refine SO.v rfl (opv_idx Tryz.underlying22 Tryz.sizeOf58 hr104 rfl rfl hx106) ?_
          refine SO.b1 ?_
          refine SO.storeI1 (j := 0) (z' := wu64 (w64 (x52.Owes + 1))) Tryz.sizeOf58 hx106 rfl rfl rfl rfl rfl rfl ?_
          refine SO.rd fun hr107 => ?_
          refine SO.nil ?_
          refine S.to (ρ' := [(8, .int .i64 x8_4), (0, bp bp0 0), (2, .slice none 0 0), (3, v5), (9, bp b60 0), (10, .int .i64 (w64 (480 + (w64 (8 * x8_4)))))]) ⟨rfl, rfl, rfl, rfl, rfl, rfl, trivial⟩ ?_
          refine S.region ?_
          refine SO.v rfl (opv_move rfl) ?_
          refine SO.v rfl (opv_move rfl) ?_
          refine SO.v rfl (opv_add rfl rfl) ?_
          refine SO.v rfl (opv_fieldAddr Tryz.underlying119 rfl Tryz.sizeOf116 rfl rfl) ?_
          refine SO.b1 ?_
          refine SO.loadN rfl Tryz.isAgg116 Tryz.sizeOf116 rfl rfl rfl ?_
          obtain ⟨t108, ht109, h⟩ := opt_bind h
          refine SO.call (pre := []) rfl Tryz.call42 rfl rfl rfl (ref01_Word.ct _ _ ht109) trivial ?_
          rintro _ _ ⟨rfl, rfl⟩
          obtain ⟨x110, hx111, h⟩ := opt_bind h
          refine SO.v rfl (opv_idx Tryz.underlying22 Tryz.sizeOf58 hr107 rfl rfl hx111) ?_
          refine SO.b1 ?_
          refine SO.storeI1 (j := 0) (z' := t108) Tryz.sizeOf58 hx111 rfl rfl rfl rfl rfl rfl ?_
          refine SO.rd fun hr112 => ?_
          refine SO.nil ?_
          refine S.to (ρ' := [(8, .int .i64 x8_4), (0, bp bp0 0), (2, .slice none 0 0), (3, v5), (9, bp b60 0), (10, .int .i64 (w64 (480 + (w64 (8 * x8_4)))))]) ⟨rfl, rfl, rfl, rfl, rfl, rfl, trivial⟩ ?_
          refine S.inBlock ?_
          cases h
          refine S.b5 ?_
          refine S.b5 ?_
          refine S.b5 ?_
          refine S.b5 ?_
          refine S.b4 ?_
          refine S.b5 ?_
          refine S.to ?_ (hk5 () trivial)
          exact ⟨rfl, rfl, rfl, rfl, rfl, rfl, trivial⟩
        replace h := cond_f b86 h
        refine S.condF rfl b86 ?_
        refine S.seq ?_
        refine S.region ?_
        refine SO.v rfl (opv_eql rfl rfl) ?_
        refine SO.v rfl (opv_assign rfl) ?_
        refine SO.nil ?_
        rcases bool_or (x52.Kind == 6) with b113 | b113
        · replace h := cond_t b113 h
          refine S.condT rfl b113 ?_
          refine S.seq ?_
          refine S.region ?_
          refine SO.v rfl (opv_move rfl) ?_
          refine SO.v rfl (opv_move rfl) ?_
          refine SO.v rfl (opv_add rfl rfl) ?_
          refine SO.v rfl (opv_fieldAddr Tryz.underlying119 rfl Tryz.sizeOf3 rfl rfl) ?_
          refine SO.load1 rfl Tryz.isAgg3 rfl rfl ?_
          refine SO.v rfl (opv_add rfl rfl) ?_
          refine SO.v rfl (opv_conv Tryz.underlying3 Tryz.underlying58 rfl) ?_
          obtain ⟨x114, hx115, h⟩ := opt_bind h
          refine SO.v rfl (opv_idx Tryz.underlying22 Tryz.sizeOf58 hr63 rfl rfl hx115) ?_
          refine SO.b1 ?_
          refine SO.storeI1 (j := 0) (z' := wu64 (w64 (x52.In + 1))) Tryz.sizeOf58 hx115 rfl rfl rfl rfl rfl rfl ?_
          refine SO.rd fun hr116 => ?_
          refine SO.nil ?_
          refine S.to (ρ' := [(8, .int .i64 x8_4), (0, bp bp0 0), (2, .slice none 0 0), (3, v5), (9, bp b60 0), (10, .int .i64 (w64 (480 + (w64 (8 * x8_4)))))]) ⟨rfl, rfl, rfl, rfl, rfl, rfl, trivial⟩ ?_
          refine S.region ?_
          refine SO.v rfl (opv_move rfl) ?_
          refine SO.v rfl (opv_move rfl) ?_
          refine SO.v rfl (opv_add rfl rfl) ?_
          refine SO.v rfl (opv_fieldAddr Tryz.underlying119 rfl Tryz.sizeOf3 rfl rfl) ?_
          refine SO.b1 ?_
          refine SO.load1 rfl Tryz.isAgg3 rfl rfl ?_
          refine SO.v rfl (opv_conv Tryz.underlying3 Tryz.underlying58 rfl) ?_
          obtain ⟨x117, hx118, h⟩ := opt_bind h
          refine SO.v rfl (opv_idx Tryz.underlying22 Tryz.sizeOf58 hr116 rfl rfl hx118) ?_
          refine SO.b1 ?_
          refine SO.storeI1 (j := 0) (z' := wu64 x52.Page) Tryz.sizeOf58 hx118 rfl rfl rfl rfl rfl rfl ?_
          refine SO.rd fun hr119 => ?_
          refine SO.nil ?_
          refine S.to (ρ' := [(8, .int .i64 x8_4), (0, bp bp0 0), (2, .slice none 0 0), (3, v5), (9, bp b60 0), (10, .int .i64 (w64 (480 + (w64 (8 * x8_4)))))]) ⟨rfl, rfl, rfl, rfl, rfl, rfl, trivial⟩ ?_
          refine S.inBlock ?_
          cases h
          refine S.b5 ?_
          refine S.b5 ?_
          refine S.b5 ?_
          refine S.b5 ?_
          refine S.b4 ?_
          refine S.b5 ?_
          refine S.to ?_ (hk5 () trivial)
          exact ⟨rfl, rfl, rfl, rfl, rfl, rfl, trivial⟩
        replace h := cond_f b113 h
        refine S.condF rfl b113 ?_
        refine S.seq ?_
        refine S.region ?_
        refine SO.v rfl (opv_eql rfl rfl) ?_
        refine SO.v rfl (opv_assign rfl) ?_
        refine SO.nil ?_
        rcases bool_or (x52.Kind == 7) with b120 | b120
        · replace h := cond_t b120 h
          refine S.condT rfl b120 ?_
          refine S.seq ?_
          refine S.region ?_
          refine SO.v rfl (opv_assign rfl) ?_
          refine SO.nil ?_
          refine S.to (ρ' := [(8, .int .i64 x8_4), (0, bp bp0 0), (2, .slice none 0 0), (3, v5), (9, bp b60 0), (10, .int .i64 (w64 (480 + (w64 (8 * x8_4))))), (11, .int .i64 0)]) ⟨rfl, rfl, rfl, rfl, rfl, rfl, rfl, trivial⟩ ?_
          obtain ⟨qv5_e6, hlp6, h⟩ := opt_bind h
          refine S.b5 ?_
          refine S.b5 ?_
          refine S.b5 ?_
          refine S.b5 ?_
          refine S.b5 ?_
          refine S.b5 ?_
          refine S.to (ρ' := [(8, .int .i64 x8_4), (0, bp bp0 0), (2, .slice none 0 0), (3, v5), (9, bp b60 0), (10, .int .i64 (w64 (480 + (w64 (8 * x8_4))))), (11, .int .i64 0)]) ⟨rfl, rfl, rfl, rfl, rfl, rfl, rfl, trivial⟩ ?_
          refine S.forloop (X := (Int × (List Int)) × Unit) (O := (List Int)) (fun m x => ref10_State_Words.l6 x8_4 x52 m x.1) (fun x => match x with | ((x11_6, qv5_6), _) => [(8, .int .i64 x8_4), (0, bp bp0 0), (2, .slice none 0 0), (3, v5), (9, bp b60 0), (10, .int .i64 (w64 (480 + (w64 (8 * x8_4))))), (11, .int .i64 x11_6)]) (fun x => match x with | ((x11_6, qv5_6), _) => [Box b60 [.int .i64 x52.Kind, .int .i64 x52.Size, .int .i64 x52.Used, .int .i64 x52.First, .int .i64 x52.Radix, .int .i64 x52.Wait, u57, .int .i64 x52.Word, .int .i64 x52.State, .int .i64 x52.Owing, .int .i64 x52.Badge, .int .i64 x52.Prio, .int .i64 x52.On, .int .i64 x52.Owes, .int .i64 x52.Root.Kind, .int .i64 x52.Root.Rights, .int .i64 x52.Root.Obj, .int .i64 x52.Root.Badge, .int .i64 x52.Root.Guard, .int .i64 x52.Root.Bits, .int .i64 x52.Pages.a0, .int .i64 x52.Pages.a1, .int .i64 x52.Pages.a2, .int .i64 x52.Pages.a3, .int .i64 x52.Right.a0, .int .i64 x52.Right.a1, .int .i64 x52.Right.a2, .int .i64 x52.Right.a3, .int .i64 x52.In, .int .i64 x52.Page, .int .i64 x52.Bound, .int .i64 x52.Mask], Own 58 (ekI .u64) v5 qv5_6, Box bp0 [v0_Slots, v0_Objs, .int .i64 a0.NS, .int .i64 a0.NO], OwnO 119 kr_ref10_Obj v0_Objs raws_v0_Objs A_v0_Objs a0.Objs, OwnO 126 kr_ref10_Slot v0_Slots raws_v0_Slots A_v0_Slots a0.Slots, F]) (fun Sk => (fun qv5_e6 => ∀ _ : Unit, Sk [(0, bp bp0 0), (2, .slice none 0 0), (3, v5), (8, .int .i64 x8_4), (9, bp b60 0), (10, .int .i64 (w64 (480 + (w64 (8 * x8_4)))))] [Box b60 [.int .i64 x52.Kind, .int .i64 x52.Size, .int .i64 x52.Used, .int .i64 x52.First, .int .i64 x52.Radix, .int .i64 x52.Wait, u57, .int .i64 x52.Word, .int .i64 x52.State, .int .i64 x52.Owing, .int .i64 x52.Badge, .int .i64 x52.Prio, .int .i64 x52.On, .int .i64 x52.Owes, .int .i64 x52.Root.Kind, .int .i64 x52.Root.Rights, .int .i64 x52.Root.Obj, .int .i64 x52.Root.Badge, .int .i64 x52.Root.Guard, .int .i64 x52.Root.Bits, .int .i64 x52.Pages.a0, .int .i64 x52.Pages.a1, .int .i64 x52.Pages.a2, .int .i64 x52.Pages.a3, .int .i64 x52.Right.a0, .int .i64 x52.Right.a1, .int .i64 x52.Right.a2, .int .i64 x52.Right.a3, .int .i64 x52.In, .int .i64 x52.Page, .int .i64 x52.Bound, .int .i64 x52.Mask], Own 58 (ekI .u64) v5 qv5_e6, Box bp0 [v0_Slots, v0_Objs, .int .i64 a0.NS, .int .i64 a0.NO], OwnO 119 kr_ref10_Obj v0_Objs raws_v0_Objs A_v0_Objs a0.Objs, OwnO 126 kr_ref10_Slot v0_Slots raws_v0_Slots A_v0_Slots a0.Slots, F])) (fun _ => rfl) ?_ (m := k) (x := ((0, qv5_4.set (w64 (480 + (w64 (8 * x8_4)))).toNat (wu64 x52.Kind)), ())) hlp6 ?_
          · clear h hlp6
            intro k x o_6 h hK6 ih6
            obtain ⟨⟨x11_6, qv5_6⟩, _⟩ := x
            replace h : ref10_State_Words.l6 x8_4 x52 (k + 1) (x11_6, qv5_6) = some o_6 := h
            first | rw [ref10_State_Words.l6] at h | unfold ref10_State_Words.l6 at h
            refine S.b1 ?_
            refine S.rd fun hr121 => ?_
            refine S.seq ?_
            refine S.seq ?_
            refine S.region ?_
            refine SO.v rfl (opv_move rfl) ?_
            refine SO.v rfl (opv_lss rfl rfl) ?_
            refine SO.nil ?_
            rcases bool_or (decide (x11_6 < 4)) with b122 | b122
            · replace h := cond_t b122 h
              refine S.condT rfl b122 ?_
              refine S.skip ?_
              refine S.seq ?_
              refine S.block ?_
              refine S.seq ?_
              refine S.region ?_
              refine SO.v rfl (opv_move rfl) ?_
              refine SO.v rfl (opv_fieldAddr Tryz.underlying119 rfl Tryz.sizeOf117 rfl rfl) ?_
              obtain ⟨x123, hx124, h⟩ := opt_bind h
              refine SO.v rfl (opv_idxA Tryz.underlying117 Tryz.sizeOf3 rfl rfl hx124) ?_
              refine SO.b1 ?_
              refine SO.load1 (v := .int .i64 x123) rfl Tryz.isAgg3 rfl (by rcases A4.get_cases hx124 with ⟨h1, h2⟩ | ⟨h1, h2⟩ | ⟨h1, h2⟩ | ⟨h1, h2⟩ <;> simp only [h1, h2] <;> rfl) ?_
              refine SO.v rfl (opv_geq rfl rfl) ?_
              refine SO.nil ?_
              rcases bool_or (decide (0 ≤ x123)) with b125 | b125
              · replace h := cond_t b125 h
                refine S.condT rfl b125 ?_
                obtain ⟨x126, hx127, h⟩ := opt_bind h
                obtain ⟨x128, hx129, h⟩ := opt_bind h
                obtain ⟨x130, hx131, h⟩ := opt_bind h
                refine S.draw2 (Y := fun Q => ∃ (_ _ _ _ _ _ _ _ _ _ _ : Unit), Q [(3, v5), (10, .int .i64 (w64 (480 + (w64 (8 * x8_4))))), (11, .int .i64 x11_6), (9, bp b60 0), (8, .int .i64 x8_4), (0, bp bp0 0), (2, .slice none 0 0)] [Box b60 [.int .i64 x52.Kind, .int .i64 x52.Size, .int .i64 x52.Used, .int .i64 x52.First, .int .i64 x52.Radix, .int .i64 x52.Wait, u57, .int .i64 x52.Word, .int .i64 x52.State, .int .i64 x52.Owing, .int .i64 x52.Badge, .int .i64 x52.Prio, .int .i64 x52.On, .int .i64 x52.Owes, .int .i64 x52.Root.Kind, .int .i64 x52.Root.Rights, .int .i64 x52.Root.Obj, .int .i64 x52.Root.Badge, .int .i64 x52.Root.Guard, .int .i64 x52.Root.Bits, .int .i64 x52.Pages.a0, .int .i64 x52.Pages.a1, .int .i64 x52.Pages.a2, .int .i64 x52.Pages.a3, .int .i64 x52.Right.a0, .int .i64 x52.Right.a1, .int .i64 x52.Right.a2, .int .i64 x52.Right.a3, .int .i64 x52.In, .int .i64 x52.Page, .int .i64 x52.Bound, .int .i64 x52.Mask], Own 58 (ekI .u64) v5 qv5_6, Box bp0 [v0_Slots, v0_Objs, .int .i64 a0.NS, .int .i64 a0.NO], OwnO 119 kr_ref10_Obj v0_Objs raws_v0_Objs A_v0_Objs a0.Objs, OwnO 126 kr_ref10_Slot v0_Slots raws_v0_Slots A_v0_Slots a0.Slots, F]) (Z := fun Q => ∀ (_ _ _ _ _ _ _ _ _ _ _ : Unit), Q [(8, .int .i64 x8_4), (0, bp bp0 0), (2, .slice none 0 0), (3, v5), (9, bp b60 0), (10, .int .i64 (w64 (480 + (w64 (8 * x8_4))))), (11, .int .i64 x11_6)] [Box b60 [.int .i64 x52.Kind, .int .i64 x52.Size, .int .i64 x52.Used, .int .i64 x52.First, .int .i64 x52.Radix, .int .i64 x52.Wait, u57, .int .i64 x52.Word, .int .i64 x52.State, .int .i64 x52.Owing, .int .i64 x52.Badge, .int .i64 x52.Prio, .int .i64 x52.On, .int .i64 x52.Owes, .int .i64 x52.Root.Kind, .int .i64 x52.Root.Rights, .int .i64 x52.Root.Obj, .int .i64 x52.Root.Badge, .int .i64 x52.Root.Guard, .int .i64 x52.Root.Bits, .int .i64 x52.Pages.a0, .int .i64 x52.Pages.a1, .int .i64 x52.Pages.a2, .int .i64 x52.Pages.a3, .int .i64 x52.Right.a0, .int .i64 x52.Right.a1, .int .i64 x52.Right.a2, .int .i64 x52.Right.a3, .int .i64 x52.In, .int .i64 x52.Page, .int .i64 x52.Bound, .int .i64 x52.Mask], Own 58 (ekI .u64) v5 (qv5_6.set (w64 ((w64 ((w64 (480 + (w64 (8 * x8_4)))) + 1)) + x11_6)).toNat (wu64 (w64 ((w64 (8 * (w64 (x126 + 1)))) + x128)))), Box bp0 [v0_Slots, v0_Objs, .int .i64 a0.NS, .int .i64 a0.NO], OwnO 119 kr_ref10_Obj v0_Objs raws_v0_Objs A_v0_Objs a0.Objs, OwnO 126 kr_ref10_Slot v0_Slots raws_v0_Slots A_v0_Slots a0.Slots, F]) (T := [tS 3 (v5), tS 10 (.int .i64 (w64 (480 + (w64 (8 * x8_4))))), tS 11 (.int .i64 x11_6), tS 9 (bp b60 0), tE [(8, .int .i64 x8_4), (0, bp bp0 0), (2, .slice none 0 0)], tR (Box b60 [.int .i64 x52.Kind, .int .i64 x52.Size, .int .i64 x52.Used, .int .i64 x52.First, .int .i64 x52.Radix, .int .i64 x52.Wait, u57, .int .i64 x52.Word, .int .i64 x52.State, .int .i64 x52.Owing, .int .i64 x52.Badge, .int .i64 x52.Prio, .int .i64 x52.On, .int .i64 x52.Owes, .int .i64 x52.Root.Kind, .int .i64 x52.Root.Rights, .int .i64 x52.Root.Obj, .int .i64 x52.Root.Badge, .int .i64 x52.Root.Guard, .int .i64 x52.Root.Bits, .int .i64 x52.Pages.a0, .int .i64 x52.Pages.a1, .int .i64 x52.Pages.a2, .int .i64 x52.Pages.a3, .int .i64 x52.Right.a0, .int .i64 x52.Right.a1, .int .i64 x52.Right.a2, .int .i64 x52.Right.a3, .int .i64 x52.In, .int .i64 x52.Page, .int .i64 x52.Bound, .int .i64 x52.Mask]), tR (Own 58 (ekI .u64) v5 qv5_6), tR (Box bp0 [v0_Slots, v0_Objs, .int .i64 a0.NS, .int .i64 a0.NO]), tR (OwnO 119 kr_ref10_Obj v0_Objs raws_v0_Objs A_v0_Objs a0.Objs), tR (OwnO 126 kr_ref10_Slot v0_Slots raws_v0_Slots A_v0_Slots a0.Slots), tR (F), tS 260 (v5), tS 261 (.int .i64 (w64 (480 + (w64 (8 * x8_4))))), tS 262 (.int .i64 (w64 ((w64 (480 + (w64 (8 * x8_4)))) + 1))), tS 263 (.int .i64 x11_6), tS 264 (.int .i64 (w64 ((w64 ((w64 (480 + (w64 (8 * x8_4)))) + 1)) + x11_6))), tS 265 (.int .i64 x11_6), tS 266 (bp b60 20), tS 267 (bp b60 (20 + x11_6.toNat)), tS 268 (.int .i64 x126), tS 269 (.int .i64 (w64 (x126 + 1))), tS 270 (.int .i64 (w64 (8 * (w64 (x126 + 1))))), tS 271 (.int .i64 x11_6), tS 272 (bp b60 24), tS 273 (bp b60 (24 + x11_6.toNat)), tS 274 (.int .i64 x128), tS 275 (.int .i64 (w64 ((w64 (8 * (w64 (x126 + 1)))) + x128))), tS 276 (.int .u64 (wu64 (w64 ((w64 (8 * (w64 (x126 + 1)))) + x128)))), tS 277 (idxp v5 ((w64 ((w64 ((w64 (480 + (w64 (8 * x8_4)))) + 1)) + x11_6)).toNat * (ekI .u64).sz)), tR (Own 58 (ekI .u64) v5 (qv5_6.set (w64 ((w64 ((w64 (480 + (w64 (8 * x8_4)))) + 1)) + x11_6)).toNat (wu64 (w64 ((w64 (8 * (w64 (x126 + 1)))) + x128)))))]) (D := [⟨[0], [], [11]⟩, ⟨[1], [], [12]⟩, ⟨[12], [], [13]⟩, ⟨[2], [], [14]⟩, ⟨[13, 14], [], [15]⟩, ⟨[2], [], [16]⟩, ⟨[3], [], [17]⟩, ⟨[16, 17, 5], [], [18]⟩, ⟨[18, 5], [], [19]⟩, ⟨[19], [], [20]⟩, ⟨[20], [], [21]⟩, ⟨[2], [], [22]⟩, ⟨[3], [], [23]⟩, ⟨[22, 23, 5], [], [24]⟩, ⟨[24, 5], [], [25]⟩, ⟨[21, 25], [], [26]⟩, ⟨[26], [], [27]⟩, ⟨[11, 15, 6], [], [28]⟩, ⟨[27, 28], [6], [29]⟩]) (ini := [0, 1, 2, 3, 4, 5, 6, 7, 8, 9, 10]) (fin := [4, 0, 3, 1, 2, 5, 29, 7, 8, 9, 10]) (bf := [[], [], [1], [], [1, 2, 3], [], [], [5, 6], [5, 6, 7], [5, 6, 7, 8], [5, 6, 7, 8, 9], [], [], [11, 12], [11, 12, 13], [5, 6, 7, 8, 9, 10, 11, 12, 13, 14], [5, 6, 7, 8, 9, 10, 11, 12, 13, 14, 15], [0, 1, 2, 3, 4, 5, 6, 7, 8, 9, 10, 11, 12, 13, 14, 15, 16], [0, 1, 2, 3, 4, 5, 6, 7, 8, 9, 10, 11, 12, 13, 14, 15, 16, 17]]) (by kernel_rfl) (by kernel_rfl) (fun Q => by kernel_rfl) (fun x w h1 h2 => ⟨(), (), (), (), (), (), (), (), (), (), (), EnvAll.of h1 ⟨rfl, rfl, rfl, rfl, rfl, rfl, rfl, trivial⟩, h2⟩) (fun Q => by kernel_rfl) ⟨?_, ?_, ?_, ?_, ?_, ?_, ?_, ?_, ?_, ?_, ?_, ?_, ?_, ?_, ?_, ?_, ?_, ?_, ?_, trivial⟩ ?_
                · rintro Fr _
                  refine SO.v rfl (opv_move rfl) ?_
                  exact SO.nilZ fun a w h1 h2 h3 h4 h5 => PZ.of h1 h3 h5 (.cons () (.cons () (.nil ⟨EnvAll.of h2 ⟨rfl, rfl, trivial⟩, h4⟩)))
                · rintro Fr _
                  refine SO.v rfl (opv_move rfl) ?_
                  exact SO.nilZ fun a w h1 h2 h3 h4 h5 => PZ.of h1 h3 h5 (.cons () (.cons () (.nil ⟨EnvAll.of h2 ⟨rfl, rfl, trivial⟩, h4⟩)))
                · rintro Fr _
                  refine SO.v rfl (opv_add rfl rfl) ?_
                  exact SO.nilZ fun a w h1 h2 h3 h4 h5 => PZ.of h1 h3 h5 (.cons () (.cons () (.nil ⟨EnvAll.of h2 ⟨rfl, rfl, trivial⟩, h4⟩)))
                · rintro Fr _
                  refine SO.v rfl (opv_move rfl) ?_
                  exact SO.nilZ fun a w h1 h2 h3 h4 h5 => PZ.of h1 h3 h5 (.cons () (.cons () (.nil ⟨EnvAll.of h2 ⟨rfl, rfl, trivial⟩, h4⟩)))
                · rintro Fr _ _
                  refine SO.v rfl (opv_add rfl rfl) ?_
                  exact SO.nilZ fun a w h1 h2 h3 h4 h5 => PZ.of h1 h3 h5 (.cons () (.cons () (.cons () (.nil ⟨EnvAll.of h2 ⟨rfl, rfl, rfl, trivial⟩, h4⟩))))
                · rintro Fr _
                  refine SO.v rfl (opv_move rfl) ?_
                  exact SO.nilZ fun a w h1 h2 h3 h4 h5 => PZ.of h1 h3 h5 (.cons () (.cons () (.nil ⟨EnvAll.of h2 ⟨rfl, rfl, trivial⟩, h4⟩)))
                · rintro Fr _
                  refine SO.v rfl (opv_fieldAddr Tryz.underlying119 rfl Tryz.sizeOf117 rfl rfl) ?_
                  exact SO.nilZ fun a w h1 h2 h3 h4 h5 => PZ.of h1 h3 h5 (.cons () (.cons () (.nil ⟨EnvAll.of h2 ⟨rfl, rfl, trivial⟩, h4⟩)))
                · rintro Fr _ _ _
                  refine SO.v rfl (opv_idxA Tryz.underlying117 Tryz.sizeOf3 rfl rfl hx127) ?_
                  exact SO.nilZ fun a w h1 h2 h3 h4 h5 => PZ.of h1 h3 h5 (.cons () (.cons () (.cons () (.cons () (.nil ⟨EnvAll.of h2 ⟨rfl, rfl, rfl, trivial⟩, h4⟩)))))
                · rintro Fr _ _
                  refine SO.load1 (v := .int .i64 x126) rfl Tryz.isAgg3 rfl (by rcases A4.get_cases hx127 with ⟨h1, h2⟩ | ⟨h1, h2⟩ | ⟨h1, h2⟩ | ⟨h1, h2⟩ <;> simp only [h1, h2] <;> rfl) ?_
                  exact SO.nilZ fun a w h1 h2 h3 h4 h5 => PZ.of h1 h3 h5 (.cons () (.cons () (.cons () (.nil ⟨EnvAll.of h2 ⟨rfl, rfl, trivial⟩, h4⟩))))
                · rintro Fr _
                  refine SO.v rfl (opv_add rfl rfl) ?_
                  exact SO.nilZ fun a w h1 h2 h3 h4 h5 => PZ.of h1 h3 h5 (.cons () (.cons () (.nil ⟨EnvAll.of h2 ⟨rfl, rfl, trivial⟩, h4⟩)))
                · rintro Fr _
                  refine SO.v rfl (opv_mul rfl rfl) ?_
                  exact SO.nilZ fun a w h1 h2 h3 h4 h5 => PZ.of h1 h3 h5 (.cons () (.cons () (.nil ⟨EnvAll.of h2 ⟨rfl, rfl, trivial⟩, h4⟩)))
                · rintro Fr _
                  refine SO.v rfl (opv_move rfl) ?_
                  exact SO.nilZ fun a w h1 h2 h3 h4 h5 => PZ.of h1 h3 h5 (.cons () (.cons () (.nil ⟨EnvAll.of h2 ⟨rfl, rfl, trivial⟩, h4⟩)))
                · rintro Fr _
                  refine SO.v rfl (opv_fieldAddr Tryz.underlying119 rfl Tryz.sizeOf117 rfl rfl) ?_
                  exact SO.nilZ fun a w h1 h2 h3 h4 h5 => PZ.of h1 h3 h5 (.cons () (.cons () (.nil ⟨EnvAll.of h2 ⟨rfl, rfl, trivial⟩, h4⟩)))
                · rintro Fr _ _ _
                  refine SO.v rfl (opv_idxA Tryz.underlying117 Tryz.sizeOf3 rfl rfl hx129) ?_
                  exact SO.nilZ fun a w h1 h2 h3 h4 h5 => PZ.of h1 h3 h5 (.cons () (.cons () (.cons () (.cons () (.nil ⟨EnvAll.of h2 ⟨rfl, rfl, rfl, trivial⟩, h4⟩)))))
                · rintro Fr _ _
                  refine SO.load1 (v := .int .i64 x128) rfl Tryz.isAgg3 rfl (by rcases A4.get_cases hx129 with ⟨h1, h2⟩ | ⟨h1, h2⟩ | ⟨h1, h2⟩ | ⟨h1, h2⟩ <;> simp only [h1, h2] <;> rfl) ?_
                  exact SO.nilZ fun a w h1 h2 h3 h4 h5 => PZ.of h1 h3 h5 (.cons () (.cons () (.cons () (.nil ⟨EnvAll.of h2 ⟨rfl, rfl, trivial⟩, h4⟩))))
                · rintro Fr _ _
                  refine SO.v rfl (opv_add rfl rfl) ?_
                  exact SO.nilZ fun a w h1 h2 h3 h4 h5 => PZ.of h1 h3 h5 (.cons () (.cons () (.cons () (.nil ⟨EnvAll.of h2 ⟨rfl, rfl, rfl, trivial⟩, h4⟩))))
                · rintro Fr _
                  refine SO.v rfl (opv_conv Tryz.underlying3 Tryz.underlying58 rfl) ?_
                  exact SO.nilZ fun a w h1 h2 h3 h4 h5 => PZ.of h1 h3 h5 (.cons () (.cons () (.nil ⟨EnvAll.of h2 ⟨rfl, rfl, trivial⟩, h4⟩)))
                · rintro Fr _ _ _
                  refine SO.v rfl (opv_idx Tryz.underlying22 Tryz.sizeOf58 hr121 rfl rfl hx131) ?_
                  exact SO.nilZ fun a w h1 h2 h3 h4 h5 => PZ.of h1 h3 h5 (.cons () (.cons () (.cons () (.cons () (.nil ⟨EnvAll.of h2 ⟨rfl, rfl, rfl, trivial⟩, h4⟩)))))
                · rintro Fr _ _ _
                  refine SO.storeI1 (j := 0) (z' := wu64 (w64 ((w64 (8 * (w64 (x126 + 1)))) + x128))) Tryz.sizeOf58 hx131 rfl rfl rfl rfl rfl rfl ?_
                  refine SO.rd fun hr132 => ?_
                  exact SO.nilZ fun a w h1 h2 h3 h4 h5 => PZ.of h1 h3 h5 (.cons () (.cons () (.cons () (.nil ⟨EnvAll.of h2 ⟨rfl, rfl, trivial⟩, h4⟩))))
                rintro _ _ _ _ _ _ _ _ _ _ _
                refine S.to (ρ' := [(8, .int .i64 x8_4), (0, bp bp0 0), (2, .slice none 0 0), (3, v5), (9, bp b60 0), (10, .int .i64 (w64 (480 + (w64 (8 * x8_4))))), (11, .int .i64 x11_6)]) ⟨rfl, rfl, rfl, rfl, rfl, rfl, rfl, trivial⟩ ?_
                refine S.b1 ?_
                refine S.rd fun hr133 => ?_
                refine S.inBlock ?_
                refine S.region ?_
                refine SO.v rfl (opv_move rfl) ?_
                refine SO.v rfl (opv_add rfl rfl) ?_
                refine SO.v rfl (opv_assign rfl) ?_
                refine SO.nil ?_
                refine S.b5 ?_
                refine S.b5 ?_
                refine S.b5 ?_
                refine S.b5 ?_
                refine S.b4 ?_
                refine S.b5 ?_
                refine S.to ?_ (ih6 ((w64 (x11_6 + 1), qv5_6.set (w64 ((w64 ((w64 (480 + (w64 (8 * x8_4)))) + 1)) + x11_6)).toNat (wu64 (w64 ((w64 (8 * (w64 (x126 + 1)))) + x128)))), ()) h)
                exact ⟨rfl, rfl, rfl, rfl, rfl, rfl, rfl, trivial⟩
              replace h := cond_f b125 h
              refine S.condF rfl b125 ?_
              refine S.skip ?_
              refine S.inBlock ?_
              refine S.region ?_
              refine SO.v rfl (opv_move rfl) ?_
              refine SO.v rfl (opv_add rfl rfl) ?_
              refine SO.v rfl (opv_assign rfl) ?_
              refine SO.nil ?_
              refine S.to (ρ' := [(8, .int .i64 x8_4), (0, bp bp0 0), (2, .slice none 0 0), (3, v5), (9, bp b60 0), (10, .int .i64 (w64 (480 + (w64 (8 * x8_4))))), (11, .int .i64 (w64 (x11_6 + 1)))]) ⟨rfl, rfl, rfl, rfl, rfl, rfl, rfl, trivial⟩ ?_
              refine S.b5 ?_
              refine S.b5 ?_
              refine S.b5 ?_
              refine S.b5 ?_
              refine S.b5 ?_
              refine S.b5 ?_
              refine S.to ?_ (ih6 ((w64 (x11_6 + 1), qv5_6), ()) h)
              exact ⟨rfl, rfl, rfl, rfl, rfl, rfl, rfl, trivial⟩
            replace h := cond_f b122 h
            refine S.condF rfl b122 ?_
            refine S.exit rfl ?_
            cases h
            refine S.b5 ?_
            refine S.b5 ?_
            refine S.b5 ?_
            refine S.b5 ?_
            refine S.b4 ?_
            refine S.b5 ?_
            refine S.to ?_ (hK6 ())
            exact ⟨rfl, rfl, rfl, rfl, rfl, rfl, trivial⟩
          rintro _
          refine S.b1 ?_
          refine S.rd fun hr134 => ?_
          refine S.inBlock ?_
          cases h
          refine S.b5 ?_
          refine S.b5 ?_
          refine S.b5 ?_
          refine S.b5 ?_
          refine S.b4 ?_
          refine S.b5 ?_
          refine S.to ?_ (hk5 () trivial)
          exact ⟨rfl, rfl, rfl, rfl, rfl, rfl, trivial⟩
        replace h := cond_f b120 h
        refine S.condF rfl b120 ?_
        refine S.seq ?_
        refine S.region ?_
        refine SO.v rfl (opv_eql rfl rfl) ?_
        refine SO.v rfl (opv_assign rfl) ?_
        refine SO.nil ?_
        refine S.to (ρ' := [(8, .int .i64 x8_4), (0, bp bp0 0), (2, .slice none 0 0), (3, v5), (9, bp b60 0), (10, .int .i64 (w64 (480 + (w64 (8 * x8_4))))), (278, .bool (x52.Kind == 8))]) ⟨rfl, rfl, rfl, rfl, rfl, rfl, rfl, trivial⟩ ?_
        rcases bool_or (x52.Kind == 8) with b135 | b135
        · replace h := cond_t b135 h
          refine S.condT rfl b135 ?_
          refine S.seq ?_
          refine S.region ?_
          refine SO.v rfl (opv_move rfl) ?_
          refine SO.v rfl (opv_move rfl) ?_
          refine SO.v rfl (opv_add rfl rfl) ?_
          refine SO.v rfl (opv_fieldAddr Tryz.underlying119 rfl Tryz.sizeOf3 rfl rfl) ?_
          refine SO.load1 rfl Tryz.isAgg3 rfl rfl ?_
          refine SO.v rfl (opv_add rfl rfl) ?_
          refine SO.v rfl (opv_conv Tryz.underlying3 Tryz.underlying58 rfl) ?_
          obtain ⟨x136, hx137, h⟩ := opt_bind h
          refine SO.v rfl (opv_idx Tryz.underlying22 Tryz.sizeOf58 hr63 rfl rfl hx137) ?_
          refine SO.b1 ?_
          refine SO.storeI1 (j := 0) (z' := wu64 (w64 (x52.Bound + 1))) Tryz.sizeOf58 hx137 rfl rfl rfl rfl rfl rfl ?_
          refine SO.rd fun hr138 => ?_
          refine SO.nil ?_
          refine S.to (ρ' := [(8, .int .i64 x8_4), (0, bp bp0 0), (2, .slice none 0 0), (3, v5), (9, bp b60 0), (10, .int .i64 (w64 (480 + (w64 (8 * x8_4)))))]) ⟨rfl, rfl, rfl, rfl, rfl, rfl, trivial⟩ ?_
          refine S.seq ?_
          refine S.region ?_
          refine SO.v rfl (opv_move rfl) ?_
          refine SO.v rfl (opv_move rfl) ?_
          refine SO.v rfl (opv_add rfl rfl) ?_
          refine SO.v rfl (opv_fieldAddr Tryz.underlying119 rfl Tryz.sizeOf3 rfl rfl) ?_
          refine SO.b1 ?_
          refine SO.load1 rfl Tryz.isAgg3 rfl rfl ?_
          refine SO.v rfl (opv_conv Tryz.underlying3 Tryz.underlying58 rfl) ?_
          obtain ⟨x139, hx140, h⟩ := opt_bind h
          refine SO.v rfl (opv_idx Tryz.underlying22 Tryz.sizeOf58 hr138 rfl rfl hx140) ?_
          refine SO.b1 ?_
          refine SO.storeI1 (j := 0) (z' := wu64 x52.Badge) Tryz.sizeOf58 hx140 rfl rfl rfl rfl rfl rfl ?_
          refine SO.rd fun hr141 => ?_
          refine SO.nil ?_
          refine S.to (ρ' := [(8, .int .i64 x8_4), (0, bp bp0 0), (2, .slice none 0 0), (3, v5), (9, bp b60 0), (10, .int .i64 (w64 (480 + (w64 (8 * x8_4)))))]) ⟨rfl, rfl, rfl, rfl, rfl, rfl, trivial⟩ ?_
          refine S.region ?_
          refine SO.v rfl (opv_move rfl) ?_
          refine SO.v rfl (opv_move rfl) ?_
          refine SO.v rfl (opv_add rfl rfl) ?_
          refine SO.v rfl (opv_fieldAddr Tryz.underlying119 rfl Tryz.sizeOf3 rfl rfl) ?_
          refine SO.b1 ?_
          refine SO.load1 rfl Tryz.isAgg3 rfl rfl ?_
          refine SO.v rfl (opv_conv Tryz.underlying3 Tryz.underlying58 rfl) ?_
          obtain ⟨x142, hx143, h⟩ := opt_bind h
          refine SO.v rfl (opv_idx Tryz.underlying22 Tryz.sizeOf58 hr141 rfl rfl hx143) ?_
          refine SO.b1 ?_
          refine SO.storeI1 (j := 0) (z' := wu64 x52.Mask) Tryz.sizeOf58 hx143 rfl rfl rfl rfl rfl rfl ?_
          refine SO.rd fun hr144 => ?_
          refine SO.nil ?_
          refine S.to (ρ' := [(8, .int .i64 x8_4), (0, bp bp0 0), (2, .slice none 0 0), (3, v5), (9, bp b60 0), (10, .int .i64 (w64 (480 + (w64 (8 * x8_4)))))]) ⟨rfl, rfl, rfl, rfl, rfl, rfl, trivial⟩ ?_
          refine S.inBlock ?_
          cases h
          refine S.b5 ?_
          refine S.b5 ?_
          refine S.b5 ?_
          refine S.b5 ?_
          refine S.b4 ?_
          refine S.b5 ?_
          refine S.to ?_ (hk5 () trivial)
          exact ⟨rfl, rfl, rfl, rfl, rfl, rfl, trivial⟩
        replace h := cond_f b135 h
        refine S.condF rfl b135 ?_
        refine S.skip ?_
        refine S.inBlock ?_
        cases h
        refine S.b5 ?_
        refine S.b5 ?_
        refine S.b5 ?_
        refine S.b5 ?_
        refine S.b5 ?_
        refine S.b5 ?_
        refine S.to ?_ (hk5 () trivial)
        exact ⟨rfl, rfl, rfl, rfl, rfl, rfl, trivial⟩
      rintro _ -
      replace h := hJ5
      refine S.b1 ?_
      refine S.rd fun hr145 => ?_
      refine S.seq ?_
      refine S.region ?_
      refine SO.v rfl (opv_assign rfl) ?_
      refine SO.nil ?_
      obtain ⟨qv5_e7, hlp7, h⟩ := opt_bind h
      refine S.b5 ?_
      refine S.b5 ?_
      refine S.b5 ?_
      refine S.b5 ?_
      refine S.b5 ?_
      refine S.b5 ?_
      refine S.to (ρ' := [(12, .int .i64 0), (0, bp bp0 0), (2, .slice none 0 0), (3, v5), (8, .int .i64 x8_4), (9, bp b60 0), (10, .int .i64 (w64 (480 + (w64 (8 * x8_4)))))]) ⟨rfl, rfl, rfl, rfl, rfl, rfl, rfl, trivial⟩ ?_
      refine S.forloop (X := (Int × (List Int)) × Unit) (O := (List Int)) (fun m x => ref10_State_Words.l7 x8_4 x52 m x.1) (fun x => match x with | ((x12_7, qv5_7), _) => [(12, .int .i64 x12_7), (0, bp bp0 0), (2, .slice none 0 0), (3, v5), (8, .int .i64 x8_4), (9, bp b60 0), (10, .int .i64 (w64 (480 + (w64 (8 * x8_4)))))]) (fun x => match x with | ((x12_7, qv5_7), _) => [Own 58 (ekI .u64) v5 qv5_7, Box b60 [.int .i64 x52.Kind, .int .i64 x52.Size, .int .i64 x52.Used, .int .i64 x52.First, .int .i64 x52.Radix, .int .i64 x52.Wait, u57, .int .i64 x52.Word, .int .i64 x52.State, .int .i64 x52.Owing, .int .i64 x52.Badge, .int .i64 x52.Prio, .int .i64 x52.On, .int .i64 x52.Owes, .int .i64 x52.Root.Kind, .int .i64 x52.Root.Rights, .int .i64 x52.Root.Obj, .int .i64 x52.Root.Badge, .int .i64 x52.Root.Guard, .int .i64 x52.Root.Bits, .int .i64 x52.Pages.a0, .int .i64 x52.Pages.a1, .int .i64 x52.Pages.a2, .int .i64 x52.Pages.a3, .int .i64 x52.Right.a0, .int .i64 x52.Right.a1, .int .i64 x52.Right.a2, .int .i64 x52.Right.a3, .int .i64 x52.In, .int .i64 x52.Page, .int .i64 x52.Bound, .int .i64 x52.Mask], Box bp0 [v0_Slots, v0_Objs, .int .i64 a0.NS, .int .i64 a0.NO], OwnO 119 kr_ref10_Obj v0_Objs raws_v0_Objs A_v0_Objs a0.Objs, OwnO 126 kr_ref10_Slot v0_Slots raws_v0_Slots A_v0_Slots a0.Slots, F]) (fun Sk => (fun qv5_e7 => ∀ _ : Unit, Sk [(0, bp bp0 0), (2, .slice none 0 0), (3, v5), (8, .int .i64 x8_4)] [Own 58 (ekI .u64) v5 qv5_e7, Box b60 [.int .i64 x52.Kind, .int .i64 x52.Size, .int .i64 x52.Used, .int .i64 x52.First, .int .i64 x52.Radix, .int .i64 x52.Wait, u57, .int .i64 x52.Word, .int .i64 x52.State, .int .i64 x52.Owing, .int .i64 x52.Badge, .int .i64 x52.Prio, .int .i64 x52.On, .int .i64 x52.Owes, .int .i64 x52.Root.Kind, .int .i64 x52.Root.Rights, .int .i64 x52.Root.Obj, .int .i64 x52.Root.Badge, .int .i64 x52.Root.Guard, .int .i64 x52.Root.Bits, .int .i64 x52.Pages.a0, .int .i64 x52.Pages.a1, .int .i64 x52.Pages.a2, .int .i64 x52.Pages.a3, .int .i64 x52.Right.a0, .int .i64 x52.Right.a1, .int .i64 x52.Right.a2, .int .i64 x52.Right.a3, .int .i64 x52.In, .int .i64 x52.Page, .int .i64 x52.Bound, .int .i64 x52.Mask], Box bp0 [v0_Slots, v0_Objs, .int .i64 a0.NS, .int .i64 a0.NO], OwnO 119 kr_ref10_Obj v0_Objs raws_v0_Objs A_v0_Objs a0.Objs, OwnO 126 kr_ref10_Slot v0_Slots raws_v0_Slots A_v0_Slots a0.Slots, F])) (fun _ => rfl) ?_ (m := k) (x := ((0, qv5_5), ())) hlp7 ?_
      · clear h hlp7
        intro k x o_7 h hK7 ih7
        obtain ⟨⟨x12_7, qv5_7⟩, _⟩ := x
        replace h : ref10_State_Words.l7 x8_4 x52 (k + 1) (x12_7, qv5_7) = some o_7 := h
        first | rw [ref10_State_Words.l7] at h | unfold ref10_State_Words.l7 at h
        refine S.rd fun hr146 => ?_
        refine S.seq ?_
        refine S.seq ?_
        refine S.region ?_
        refine SO.v rfl (opv_move rfl) ?_
        refine SO.v rfl (opv_fieldAddr Tryz.underlying119 rfl Tryz.sizeOf29 rfl rfl) ?_
        refine SO.b1 ?_
        refine SO.load1 rfl Tryz.isAgg29 rfl rfl ?_
        refine SO.v rfl (opv_lenR rfl Tryz.underlying29 hru58 rfl) ?_
        refine SO.v rfl (opv_lss rfl rfl) ?_
        refine SO.nil ?_
        rcases bool_or (decide (x12_7 < (x52.Queue.length : Int))) with b147 | b147
        · replace h := cond_t b147 h
          refine S.condT rfl b147 ?_
          refine S.skip ?_
          refine S.seq ?_
          refine S.block ?_
          refine S.seq ?_
          refine S.region ?_
          refine SO.v rfl (opv_fieldAddr Tryz.underlying119 rfl Tryz.sizeOf29 rfl rfl) ?_
          refine SO.load1 rfl Tryz.isAgg29 rfl rfl ?_
          refine SO.v rfl (opv_move rfl) ?_
          obtain ⟨x148, hx149, h⟩ := opt_bind h
          refine SO.v rfl (opv_idx Tryz.underlying29 Tryz.sizeOf3 hru58 rfl rfl hx149) ?_
          refine SO.loadI1 (j := 0) rfl Tryz.isAgg3 (Rd.tail (Rd.tail (Rd.tail (Rd.head (Rd.pool hru58))))) hx149 rfl rfl rfl rfl ?_
          refine SO.v rfl (opv_assign rfl) ?_
          refine SO.nil ?_
          refine S.to (ρ' := [(12, .int .i64 x12_7), (0, bp bp0 0), (2, .slice none 0 0), (3, v5), (8, .int .i64 x8_4), (9, bp b60 0), (10, .int .i64 (w64 (480 + (w64 (8 * x8_4))))), (13, .int .i64 x148)]) ⟨rfl, rfl, rfl, rfl, rfl, rfl, rfl, rfl, trivial⟩ ?_
          refine S.seq ?_
          refine S.seq ?_
          refine S.region ?_
          refine SO.v rfl (opv_move rfl) ?_
          refine SO.v rfl (opv_eql rfl rfl) ?_
          refine SO.nil ?_
          obtain ⟨qv5_8, hC8, hJ8⟩ := opt_bind h
          clear h
          refine S.cutP (G := Unit) (fun _ => True) (fun _ => [(0, bp bp0 0), (2, .slice none 0 0), (3, v5), (8, .int .i64 x8_4), (9, bp b60 0), (10, .int .i64 (w64 (480 + (w64 (8 * x8_4))))), (12, .int .i64 x12_7), (13, .int .i64 x148)]) (fun _ => [Box b60 [.int .i64 x52.Kind, .int .i64 x52.Size, .int .i64 x52.Used, .int .i64 x52.First, .int .i64 x52.Radix, .int .i64 x52.Wait, u57, .int .i64 x52.Word, .int .i64 x52.State, .int .i64 x52.Owing, .int .i64 x52.Badge, .int .i64 x52.Prio, .int .i64 x52.On, .int .i64 x52.Owes, .int .i64 x52.Root.Kind, .int .i64 x52.Root.Rights, .int .i64 x52.Root.Obj, .int .i64 x52.Root.Badge, .int .i64 x52.Root.Guard, .int .i64 x52.Root.Bits, .int .i64 x52.Pages.a0, .int .i64 x52.Pages.a1, .int .i64 x52.Pages.a2, .int .i64 x52.Pages.a3, .int .i64 x52.Right.a0, .int .i64 x52.Right.a1, .int .i64 x52.Right.a2, .int .i64 x52.Right.a3, .int .i64 x52.In, .int .i64 x52.Page, .int .i64 x52.Bound, .int .i64 x52.Mask], Own 58 (ekI .u64) v5 qv5_8, Box bp0 [v0_Slots, v0_Objs, .int .i64 a0.NS, .int .i64 a0.NO], OwnO 119 kr_ref10_Obj v0_Objs raws_v0_Objs A_v0_Objs a0.Objs, OwnO 126 kr_ref10_Slot v0_Slots raws_v0_Slots A_v0_Slots a0.Slots, F]) (fun hk8 => ?_) ?_
          · replace h := hC8
            rcases bool_or (x12_7 == 0) with b150 | b150
            · replace h := cond_t b150 h
              refine S.condT rfl b150 ?_
              refine S.region ?_
              refine SO.v rfl (opv_move rfl) ?_
              refine SO.v rfl (opv_move rfl) ?_
              refine SO.v rfl (opv_add rfl rfl) ?_
              refine SO.v rfl (opv_move rfl) ?_
              refine SO.v rfl (opv_add rfl rfl) ?_
              refine SO.v rfl (opv_conv Tryz.underlying3 Tryz.underlying58 rfl) ?_
              obtain ⟨x151, hx152, h⟩ := opt_bind h
              refine SO.v rfl (opv_idx Tryz.underlying22 Tryz.sizeOf58 hr146 rfl rfl hx152) ?_
              refine SO.b1 ?_
              refine SO.storeI1 (j := 0) (z' := wu64 (w64 (x148 + 1))) Tryz.sizeOf58 hx152 rfl rfl rfl rfl rfl rfl ?_
              refine SO.rd fun hr153 => ?_
              refine SO.nil ?_
              refine S.to (ρ' := [(12, .int .i64 x12_7), (0, bp bp0 0), (2, .slice none 0 0), (3, v5), (8, .int .i64 x8_4), (9, bp b60 0), (10, .int .i64 (w64 (480 + (w64 (8 * x8_4))))), (13, .int .i64 x148)]) ⟨rfl, rfl, rfl, rfl, rfl, rfl, rfl, rfl, trivial⟩ ?_
              cases h
              refine S.b5 ?_
              refine S.b5 ?_
              refine S.b5 ?_
              refine S.b5 ?_
              refine S.b4 ?_
              refine S.b5 ?_
              refine S.to ?_ (hk8 () trivial)
              exact ⟨rfl, rfl, rfl, rfl, rfl, rfl, rfl, rfl, trivial⟩
            replace h := cond_f b150 h
            refine S.condF rfl b150 ?_
            refine S.skip ?_
            cases h
            refine S.b5 ?_
            refine S.b5 ?_
            refine S.b5 ?_
            refine S.b5 ?_
            refine S.b5 ?_
            refine S.b5 ?_
            refine S.to ?_ (hk8 () trivial)
            exact ⟨rfl, rfl, rfl, rfl, rfl, rfl, rfl, rfl, trivial⟩
          rintro _ -
          replace h := hJ8
          refine S.b1 ?_
          refine S.rd fun hr154 => ?_
          refine S.seq ?_
          refine S.region ?_
          refine SO.v rfl (opv_move rfl) ?_
          refine SO.v rfl (opv_add rfl rfl) ?_
          refine SO.v rfl (opv_fieldAddr Tryz.underlying119 rfl Tryz.sizeOf29 rfl rfl) ?_
          refine SO.b1 ?_
          refine SO.load1 rfl Tryz.isAgg29 rfl rfl ?_
          refine SO.v rfl (opv_lenR rfl Tryz.underlying29 hru58 rfl) ?_
          refine SO.v rfl (opv_lss rfl rfl) ?_
          refine SO.nil ?_
          rcases bool_or (decide ((w64 (x12_7 + 1)) < (x52.Queue.length : Int))) with b155 | b155
          · replace h := cond_t b155 h
            refine S.condT rfl b155 ?_
            refine S.region ?_
            refine SO.v rfl (opv_move rfl) ?_
            refine SO.v rfl (opv_move rfl) ?_
            refine SO.v rfl (opv_mul rfl rfl) ?_
            refine SO.v rfl (opv_add rfl rfl) ?_
            refine SO.v rfl (opv_add rfl rfl) ?_
            refine SO.v rfl (opv_fieldAddr Tryz.underlying119 rfl Tryz.sizeOf29 rfl rfl) ?_
            refine SO.load1 rfl Tryz.isAgg29 rfl rfl ?_
            refine SO.v rfl (opv_move rfl) ?_
            refine SO.v rfl (opv_add rfl rfl) ?_
            obtain ⟨x156, hx157, h⟩ := opt_bind h
            refine SO.v rfl (opv_idx Tryz.underlying29 Tryz.sizeOf3 hru58 rfl rfl hx157) ?_
            refine SO.loadI1 (j := 0) rfl Tryz.isAgg3 (Rd.tail (Rd.tail (Rd.tail (Rd.head (Rd.pool hru58))))) hx157 rfl rfl rfl rfl ?_
            refine SO.v rfl (opv_add rfl rfl) ?_
            refine SO.v rfl (opv_conv Tryz.underlying3 Tryz.underlying58 rfl) ?_
            obtain ⟨x158, hx159, h⟩ := opt_bind h
            refine SO.v rfl (opv_idx Tryz.underlying22 Tryz.sizeOf58 hr154 rfl rfl hx159) ?_
            refine SO.b1 ?_
            refine SO.storeI1 (j := 0) (z' := wu64 (w64 (x156 + 1))) Tryz.sizeOf58 hx159 rfl rfl rfl rfl rfl rfl ?_
            refine SO.rd fun hr160 => ?_
            refine SO.nil ?_
            refine S.to (ρ' := [(0, bp bp0 0), (2, .slice none 0 0), (3, v5), (8, .int .i64 x8_4), (9, bp b60 0), (10, .int .i64 (w64 (480 + (w64 (8 * x8_4))))), (12, .int .i64 x12_7)]) ⟨rfl, rfl, rfl, rfl, rfl, rfl, rfl, trivial⟩ ?_
            refine S.inBlock ?_
            refine S.region ?_
            refine SO.v rfl (opv_move rfl) ?_
            refine SO.v rfl (opv_add rfl rfl) ?_
            refine SO.v rfl (opv_assign rfl) ?_
            refine SO.nil ?_
            refine S.b5 ?_
            refine S.b5 ?_
            refine S.b5 ?_
            refine S.b5 ?_
            refine S.b5 ?_
            refine S.b5 ?_
            refine S.to ?_ (ih7 ((w64 (x12_7 + 1), qv5_8.set (w64 ((w64 (480 + (w64 (8 * x148)))) + 2)).toNat (wu64 (w64 (x156 + 1)))), ()) h)
            exact ⟨rfl, rfl, rfl, rfl, rfl, rfl, rfl, trivial⟩
          replace h := cond_f b155 h
          refine S.condF rfl b155 ?_
          refine S.region ?_
          refine SO.v rfl (opv_move rfl) ?_
          refine SO.v rfl (opv_move rfl) ?_
          refine SO.v rfl (opv_add rfl rfl) ?_
          refine SO.v rfl (opv_move rfl) ?_
          refine SO.v rfl (opv_add rfl rfl) ?_
          refine SO.v rfl (opv_conv Tryz.underlying3 Tryz.underlying58 rfl) ?_
          obtain ⟨x161, hx162, h⟩ := opt_bind h
          refine SO.v rfl (opv_idx Tryz.underlying22 Tryz.sizeOf58 hr154 rfl rfl hx162) ?_
          refine SO.b1 ?_
          refine SO.storeI1 (j := 0) (z' := wu64 (w64 (x148 + 1))) Tryz.sizeOf58 hx162 rfl rfl rfl rfl rfl rfl ?_
          refine SO.rd fun hr163 => ?_
          refine SO.nil ?_
          refine S.to (ρ' := [(0, bp bp0 0), (2, .slice none 0 0), (3, v5), (8, .int .i64 x8_4), (9, bp b60 0), (10, .int .i64 (w64 (480 + (w64 (8 * x8_4))))), (12, .int .i64 x12_7)]) ⟨rfl, rfl, rfl, rfl, rfl, rfl, rfl, trivial⟩ ?_
          refine S.inBlock ?_
          refine S.region ?_
          refine SO.v rfl (opv_move rfl) ?_
          refine SO.v rfl (opv_add rfl rfl) ?_
          refine SO.v rfl (opv_assign rfl) ?_
          refine SO.nil ?_
          refine S.b5 ?_
          refine S.b5 ?_
          refine S.b5 ?_
          refine S.b5 ?_
          refine S.b5 ?_
          refine S.b5 ?_
          refine S.to ?_ (ih7 ((w64 (x12_7 + 1), qv5_8.set (w64 ((w64 (480 + (w64 (8 * x8_4)))) + 3)).toNat (wu64 (w64 (x148 + 1)))), ()) h)
          exact ⟨rfl, rfl, rfl, rfl, rfl, rfl, rfl, trivial⟩
        replace h := cond_f b147 h
        refine S.condF rfl b147 ?_
        refine S.exit rfl ?_
        cases h
        refine S.b5 ?_
        refine S.b5 ?_
        refine S.b5 ?_
        refine S.b5 ?_
        refine S.b4 ?_
        refine S.b5 ?_
        refine S.to ?_ (hK7 ())
        exact ⟨rfl, rfl, rfl, rfl, trivial⟩
      rintro _
      refine S.rd fun hr164 => ?_
      refine S.inBlock ?_
      refine S.region ?_
      refine SO.v rfl (opv_move rfl) ?_
      refine SO.v rfl (opv_add rfl rfl) ?_
      refine SO.v rfl (opv_assign rfl) ?_
      refine SO.nil ?_
      refine S.b1 ?_
      refine S.drop ?_
      refine S.b4 ?_
      refine S.b2 ?_
      refine S.b4 ?_
      refine S.b4 ?_
      refine S.b4 ?_
      refine S.to ?_ (ih4 ((w64 (x8_4 + 1), qv5_e7), ()) h)
      exact ⟨rfl, rfl, rfl, rfl, trivial⟩
    replace h := cond_f b51 h
    refine S.condF rfl b51 ?_
    refine S.exit rfl ?_
    cases h
    refine S.b4 ?_
    refine S.b4 ?_
    refine S.b4 ?_
    refine S.b4 ?_
    refine S.b4 ?_
    refine S.to ?_ (hK4 ())
    exact ⟨rfl, rfl, rfl, trivial⟩
  rintro _
  refine S.rd fun hr165 => ?_
  refine S.seq ?_
  refine S.region ?_
  refine SO.v rfl (opv_move rfl) ?_
  refine SO.v rfl (opv_move rfl) ?_
  refine SO.v rfl (opv_nilCheck rfl) ?_
  refine SO.v rfl (opv_fieldAddr Tryz.underlying124 rfl Tryz.sizeOf3 rfl rfl) ?_
  refine SO.b3 ?_
  refine SO.load1 rfl Tryz.isAgg3 rfl rfl ?_
  refine SO.v rfl (opv_conv Tryz.underlying3 Tryz.underlying58 rfl) ?_
  obtain ⟨x166, hx167, h⟩ := opt_bind h
  refine SO.v rfl (opv_idx Tryz.underlying22 Tryz.sizeOf58 hr165 rfl rfl hx167) ?_
  refine SO.b1 ?_
  refine SO.storeI1 (j := 0) (z' := wu64 a0.NS) Tryz.sizeOf58 hx167 rfl rfl rfl rfl rfl rfl ?_
  refine SO.rd fun hr168 => ?_
  refine SO.nil ?_
  refine S.to (ρ' := [(0, bp bp0 0), (2, .slice none 0 0), (3, v5)]) ⟨rfl, rfl, rfl, trivial⟩ ?_
  refine S.seq ?_
  refine S.region ?_
  refine SO.v rfl (opv_move rfl) ?_
  refine SO.v rfl (opv_move rfl) ?_
  refine SO.v rfl (opv_nilCheck rfl) ?_
  refine SO.v rfl (opv_fieldAddr Tryz.underlying124 rfl Tryz.sizeOf3 rfl rfl) ?_
  refine SO.b1 ?_
  refine SO.load1 rfl Tryz.isAgg3 rfl rfl ?_
  refine SO.v rfl (opv_conv Tryz.underlying3 Tryz.underlying58 rfl) ?_
  obtain ⟨x169, hx170, h⟩ := opt_bind h
  refine SO.v rfl (opv_idx Tryz.underlying22 Tryz.sizeOf58 hr168 rfl rfl hx170) ?_
  refine SO.b1 ?_
  refine SO.storeI1 (j := 0) (z' := wu64 a0.NO) Tryz.sizeOf58 hx170 rfl rfl rfl rfl rfl rfl ?_
  refine SO.rd fun hr171 => ?_
  refine SO.nil ?_
  refine S.to (ρ' := [(2, .slice none 0 0), (3, v5)]) ⟨rfl, rfl, trivial⟩ ?_
  refine S.seq ?_
  refine S.region ?_
  refine SO.v rfl (opv_move rfl) ?_
  refine SO.v rfl (opv_assign rfl) ?_
  refine SO.nil ?_
  cases h
  refine S.b4 ?_
  refine S.b3 ?_
  refine S.b4 ?_
  refine S.b4 ?_
  refine S.b4 ?_
  exact S.ret1 Tryz.func27 rfl rfl (fun w hs hk => hR w _ _ ⟨v5, rfl, rfl⟩ hs hk)
end Go.Proofs
set_option linter.unusedVariables false
namespace Go.Proofs
open Go.Sl Go.RowKit
theorem inf52_law22_Boot_up : Tryz.prog.info? 52 = some Tryz.t52 := by kernel_rfl
/-! 9 padstone/padstonelaw22.Boot -/
def law22_Boot_up.f (k : Nat) : Option ((List Int × List Nat)) :=
  (ref10_Boot.f k 1).bind fun t2 => (ref10_State_Words.f k t2).bind fun t14 => (app ([]) [0]).bind fun zs25 => some (t14, zs25)
set_option maxHeartbeats 8000000 in
set_option maxRecDepth 100000 in
theorem law22_Boot_up.ct (k : Nat) (r0 : List Int) (r1 : List Nat) (h : law22_Boot_up.f k  = some (r0, r1)) :
    Ct Tryz.prog 9 [.int .i64 1, .int .u32 9, .slice none 0 0] (fun _ => True) [] (fun u H' => ∃ v0 v2, u = .agg #[v0, .int .u32 9, v2] ∧ H' = [Own 58 (ekI .u64) v0 r0, LensR 52 v2 r1]) := by
  unfold law22_Boot_up.f at h
  refine Ct.intro (n := 52) Tryz.func9 rfl rfl rfl ?_
  intro R w0 F hF hR
  refine S.seq ?_
  refine S.region ?_
  refine SO.alloc rfl Tryz.zeroValue26 rfl (fun b1 => ?_)
  refine SO.nil ?_
  refine S.seq ?_
  refine S.region ?_
  refine SO.v rfl (opv_move rfl) ?_
  obtain ⟨t2, ht3, h⟩ := opt_bind h
  refine SO.call (pre := []) rfl Tryz.call26 rfl rfl rfl (ref10_Boot.ct _ _ _ ht3) trivial ?_
  rintro _ _ ⟨b4, u5_Slots, u5_Objs, rfl, rfl⟩
  obtain ⟨t14, ht15, h⟩ := opt_bind h
  refine SO.b1 ?_
  refine SO.openR fun raws6 A7 hrel8 hR9 => ?_
  refine SO.b2 ?_
  refine SO.openR fun raws10 A11 hrel12 hR13 => ?_
  refine SO.b1 ?_
  refine SO.b2 ?_
  refine SO.call (pre := [Box _ _, OwnO _ _ _ _ _ _, OwnO _ _ _ _ _ _]) rfl Tryz.call27 rfl rfl rfl (ref10_State_Words.ct _ b4 u5_Slots u5_Objs raws6 A7 raws10 A11 _ _ ht15) trivial ?_
  rintro v16 _ ⟨_, rfl, rfl⟩
  refine SO.rd fun hr17 => ?_
  refine SO.v rfl (opv_move rfl) ?_
  have hB_ : ∀ (w : World) (u0_ : Value), u0_.oneCell' = true → (Instr.build 26 #[(0, u0_), (1, .int .u32 9)]).run Tryz.prog w = .ok (.agg #[u0_, .int .u32 9, .slice none 0 0]) w := (by intro w u0_ hu0_; cases u0_ <;> first | (simp [Value.oneCell'] at hu0_; done) | kernel_rfl)
  refine SO.v rfl (opv_build (v := .agg #[v16, .int .u32 9, .slice none 0 0]) rfl (fun w => hB_ w v16 (Rd.one hr17))) ?_
  clear hB_
  refine SO.alloc rfl Tryz.zeroValue26 rfl (fun b18 => ?_)
  refine SO.storeN Tryz.sizeOf26 rfl rfl (all1 (Rd.one hr17) (all1 rfl (all1 rfl rfl))) rfl rfl rfl ?_
  refine SO.nil ?_
  refine S.seq ?_
  refine S.seq ?_
  refine S.region ?_
  refine SO.v rfl (opv_assign rfl) ?_
  refine SO.nil ?_
  refine S.block ?_
  refine S.loop ?_
  refine S.seq ?_
  refine S.seq ?_
  refine S.region ?_
  refine SO.v rfl (opv_move rfl) ?_
  refine SO.v rfl (opv_move rfl) ?_
  refine SO.veq (v' := .bool true) rfl (opv_lss rfl rfl) rfl ?_
  refine SO.nil ?_
  refine S.cond_true rfl ?_
  refine S.skip ?_
  refine S.seq ?_
  refine S.block ?_
  refine S.seq ?_
  refine S.region ?_
  refine SO.v rfl (opv_assign rfl) ?_
  refine SO.nil ?_
  refine S.seq ?_
  refine S.seq ?_
  refine S.region ?_
  refine SO.v rfl (opv_move rfl) ?_
  refine SO.v rfl (opv_move rfl) ?_
  refine SO.v rfl (opv_len rfl Tryz.underlying79 rfl) ?_
  refine SO.veq (v' := .bool false) rfl (opv_lss rfl rfl) rfl ?_
  refine SO.nil ?_
  refine S.cond_false rfl ?_
  refine S.skip ?_
  refine S.region ?_
  refine SO.v rfl (opv_fieldAddr Tryz.underlying26 rfl Tryz.sizeOf24 rfl rfl) ?_
  refine SO.load1 rfl Tryz.isAgg24 rfl rfl ?_
  refine SO.v rfl (opv_move rfl) ?_
  have hl21 : lenS (.slice none 0 0) (0) := lenS.nil
  refine SO.buildSlice (K := ekS) (xs := [⟨.slice none 0 0, hl21.one⟩]) (cs := [.slice none 0 0]) rfl Tryz.underlying24 Tryz.sizeOf52 Tryz.zeroValue52 rfl rfl rfl (fillV hl21.one) rfl rfl rfl (fun v19 hr20 => ?_)
  obtain ⟨zs25, hz26, h⟩ := opt_bind h
  refine SO.nilLens 52 ?_
  refine SO.b1 ?_
  refine SO.b1 ?_
  refine SO.openLens fun xs22 e23 e24 => ?_
  obtain ⟨hap28, hn29, ha30⟩ := lens_app (y := ⟨.slice none 0 0, hl21.one⟩) e23 e24 hl21 hz26
  refine SO.append (K := ekS) rfl Tryz.underlying24 Tryz.underlying24 inf52_law22_Boot_up rfl rfl rfl (by decide) rfl rfl rfl (Rd.head hr20) hap28 (fun v27 => ?_)
  refine SO.closeLens hn29 ha30 ?_
  refine SO.b1 ?_
  refine SO.drop ?_
  refine SO.v rfl (opv_fieldAddr Tryz.underlying26 rfl Tryz.sizeOf24 rfl rfl) ?_
  refine SO.lensFact fun h131 => ?_
  refine SO.b1 ?_
  refine SO.store1 Tryz.sizeOf24 rfl rfl h131.one rfl ?_
  refine SO.nil ?_
  refine S.inBlock ?_
  refine S.region ?_
  refine SO.v rfl (opv_move rfl) ?_
  refine SO.veq (v' := .int .i64 1) rfl (opv_add rfl rfl) rfl ?_
  refine SO.v rfl (opv_assign rfl) ?_
  refine SO.nil ?_
  refine S.again ?_
  refine S.seq ?_
  refine S.seq ?_
  refine S.region ?_
  refine SO.v rfl (opv_move rfl) ?_
  refine SO.v rfl (opv_move rfl) ?_
  refine SO.veq (v' := .bool false) rfl (opv_lss rfl rfl) rfl ?_
  refine SO.nil ?_
  refine S.to (ρ' := [(0, .int .i64 1), (2, .slice none 0 0), (6, bp b1 0), (7, bp b18 0), (8, .int .i64 1), (16, .int .i64 1), (17, .int .i64 1), (18, .bool false)]) ⟨rfl, rfl, rfl, rfl, rfl, rfl, rfl, rfl, trivial⟩ ?_
  refine S.cond_false rfl ?_
  refine S.exit rfl ?_
  refine S.seq ?_
  refine S.region ?_
  refine SO.loadN rfl Tryz.isAgg26 Tryz.sizeOf26 rfl rfl rfl ?_
  refine SO.b1 ?_
  refine SO.lensFact fun h132 => ?_
  refine SO.b6 ?_
  refine SO.storeN Tryz.sizeOf26 rfl rfl (all1 (Rd.one hr17) (all1 rfl (all1 h132.one rfl))) rfl rfl rfl ?_
  refine SO.nil ?_
  refine S.to (ρ' := [(6, bp b1 0)]) ⟨rfl, trivial⟩ ?_
  cases h
  refine S.b5 ?_
  refine S.closeR ?_
  refine S.b6 ?_
  refine S.closeR ?_
  refine S.drop ?_
  refine S.drop ?_
  refine S.b2 ?_
  refine S.drop ?_
  refine S.b3 ?_
  refine S.drop ?_
  refine S.b3 ?_
  refine S.b2 ?_
  refine S.b3 ?_
  refine S.b3 ?_
  exact S.retC Tryz.func9 rfl rfl Tryz.isAgg26 Tryz.sizeOf26 rfl rfl (fun w hs hk => hR w _ _ ⟨v16, v27, rfl, rfl⟩ hs.drop hk)
end Go.Proofs
namespace Go.Proofs
open Go.Sl Go.RowKit
/-! 10 padstone/padstoneref10.Same -/
def ref10_Same.l1 (a0 : List Int) (a1 : List Int) : Nat → Int → Option (Brk Bool Unit)
  | 0, _ => none
  | k + 1, x5_1 => bif decide (x5_1 < (a0.length : Int)) then ((at_ a0 x5_1).bind fun x3 => (at_ a1 x5_1).bind fun x5 => bif x3 != x5 then (some (Brk.ret false)) else (ref10_Same.l1 a0 a1 k (w64 (x5_1 + 1)))) else (some (Brk.nx ()))
def ref10_Same.f (k : Nat) (a0 : List Int) (a1 : List Int) : Option (Bool) :=
  bif (a0.length : Int) != (a1.length : Int) then (some false) else ((ref10_Same.l1 a0 a1 k 0).bind fun o1 => Brk.go o1 (fun r => some r) (fun _ => some true))
set_option maxHeartbeats 8000000 in
set_option maxRecDepth 100000 in
theorem ref10_Same.ct (k : Nat) (v0 : Value) (v1 : Value) (a0 : List Int) (a1 : List Int) (r0 : Bool) (h : ref10_Same.f k a0 a1 = some r0) :
    Ct Tryz.prog 10 [v0, v1] (fun F => Rd (ekI .u64) v0 a0 F ∧ Rd (ekI .u64) v1 a1 F) [] (fun u H' => u = .bool r0 ∧ H' = []) := by
  unfold ref10_Same.f at h
  refine Ct.intro (n := 26) Tryz.func10 rfl rfl rfl ?_
  intro R w0 F hF hR
  obtain ⟨hF0, hF1⟩ := hF
  refine S.seq ?_
  refine S.region ?_
  refine SO.v rfl (opv_assign rfl) ?_
  refine SO.nil ?_
  refine S.seq ?_
  refine S.seq ?_
  refine S.region ?_
  refine SO.v rfl (opv_move rfl) ?_
  refine SO.v rfl (opv_lenR rfl Tryz.underlying22 hF0 rfl) ?_
  refine SO.v rfl (opv_move rfl) ?_
  refine SO.v rfl (opv_lenR rfl Tryz.underlying22 hF1 rfl) ?_
  refine SO.v rfl (opv_neq rfl rfl) ?_
  refine SO.nil ?_
  rcases bool_or ((a0.length : Int) != (a1.length : Int)) with b1 | b1
  · replace h := cond_t b1 h
    refine S.condT rfl b1 ?_
    refine S.seq ?_
    refine S.region ?_
    refine SO.v rfl (opv_assign rfl) ?_
    refine SO.nil ?_
    refine S.to (ρ' := [(4, .bool false)]) ⟨rfl, trivial⟩ ?_
    cases h
    exact S.ret1 Tryz.func10 rfl rfl (fun w hs hk => hR w _ _ ⟨rfl, rfl⟩ hs hk)
  replace h := cond_f b1 h
  refine S.condF rfl b1 ?_
  refine S.skip ?_
  refine S.seq ?_
  refine S.seq ?_
  refine S.region ?_
  refine SO.v rfl (opv_assign rfl) ?_
  refine SO.nil ?_
  obtain ⟨o1, hlp1, h⟩ := opt_bind h
  refine S.to (ρ' := [(5, .int .i64 0), (4, .bool false), (0, v0), (1, v1)]) ⟨rfl, rfl, rfl, rfl, trivial⟩ ?_
  refine S.forloop (X := Int × Unit) (O := Brk Bool Unit) (fun m x => ref10_Same.l1 a0 a1 m x.1) (fun x => match x with | (x5_1, _) => [(5, .int .i64 x5_1), (4, .bool false), (0, v0), (1, v1)]) (fun x => match x with | (x5_1, _) => [F]) (fun Sk o' => (∀ r', o' = Brk.ret r' → some r' = some r0) ∧ ∀ _ : Unit, ∀ _ : Unit, o' = Brk.nx () → Sk [(4, .bool false)] [F]) (fun _ => rfl) ?_ (m := k) (x := (0, ())) hlp1 ?_
  · clear h hlp1
    intro k x o_1 h hK1 ih1
    obtain ⟨x5_1, _⟩ := x
    replace h : ref10_Same.l1 a0 a1 (k + 1) x5_1 = some o_1 := h
    first | rw [ref10_Same.l1] at h | unfold ref10_Same.l1 at h
    refine S.seq ?_
    refine S.seq ?_
    refine S.region ?_
    refine SO.v rfl (opv_move rfl) ?_
    refine SO.v rfl (opv_move rfl) ?_
    refine SO.v rfl (opv_lenR rfl Tryz.underlying22 hF0 rfl) ?_
    refine SO.v rfl (opv_lss rfl rfl) ?_
    refine SO.nil ?_
    rcases bool_or (decide (x5_1 < (a0.length : Int))) with b2 | b2
    · replace h := cond_t b2 h
      refine S.condT rfl b2 ?_
      refine S.skip ?_
      refine S.seq ?_
      refine S.block ?_
      refine S.seq ?_
      obtain ⟨x3, hx4, h⟩ := opt_bind h
      obtain ⟨x5, hx6, h⟩ := opt_bind h
      refine S.draw2 (Y := fun Q => ∃ (_ _ _ _ _ : Unit), Q [(0, v0), (5, .int .i64 x5_1), (1, v1), (4, .bool false)] [F]) (Z := fun Q => ∀ (_ _ _ _ _ _ : Unit), Q [(5, .int .i64 x5_1), (4, .bool false), (0, v0), (1, v1), (25, .bool (x3 != x5))] [F]) (T := [tS 0 (v0), tS 5 (.int .i64 x5_1), tS 1 (v1), tS 4 (.bool false), tR (F), tS 17 (v0), tS 18 (.int .i64 x5_1), tS 19 (idxp v0 (x5_1.toNat * (ekI .u64).sz)), tS 20 (.int .u64 x3), tS 21 (v1), tS 22 (.int .i64 x5_1), tS 23 (idxp v1 (x5_1.toNat * (ekI .u64).sz)), tS 24 (.int .u64 x5), tS 25 (.bool (x3 != x5))]) (D := [⟨[0], [], [5]⟩, ⟨[1], [], [6]⟩, ⟨[5, 6, 4], [], [7]⟩, ⟨[7, 4], [], [8]⟩, ⟨[2], [], [9]⟩, ⟨[1], [], [10]⟩, ⟨[9, 10, 4], [], [11]⟩, ⟨[11, 4], [], [12]⟩, ⟨[8, 12], [], [13]⟩]) (ini := [0, 1, 2, 3, 4]) (fin := [1, 3, 0, 2, 13, 4]) (bf := [[], [], [0, 1], [0, 1, 2], [], [], [4, 5], [4, 5, 6], [0, 1, 2, 3, 4, 5, 6, 7]]) (by kernel_rfl) (by kernel_rfl) (fun Q => by kernel_rfl) (fun x w h1 h2 => ⟨(), (), (), (), (), EnvAll.of h1 ⟨rfl, rfl, rfl, rfl, trivial⟩, h2⟩) (fun Q => by kernel_rfl) ⟨?_, ?_, ?_, ?_, ?_, ?_, ?_, ?_, ?_, trivial⟩ ?_
      · rintro Fr _
        refine SO.v rfl (opv_move rfl) ?_
        exact SO.nilZ fun a w h1 h2 h3 h4 h5 => PZ.of h1 h3 h5 (.cons () (.cons () (.nil ⟨EnvAll.of h2 ⟨rfl, rfl, trivial⟩, h4⟩)))
      · rintro Fr _
        refine SO.v rfl (opv_move rfl) ?_
        exact SO.nilZ fun a w h1 h2 h3 h4 h5 => PZ.of h1 h3 h5 (.cons () (.cons () (.nil ⟨EnvAll.of h2 ⟨rfl, rfl, trivial⟩, h4⟩)))
      · rintro Fr _ _ _
        refine SO.v rfl (opv_idx Tryz.underlying22 Tryz.sizeOf58 hF0 rfl rfl hx4) ?_
        exact SO.nilZ fun a w h1 h2 h3 h4 h5 => PZ.of h1 h3 h5 (.cons () (.cons () (.cons () (.cons () (.nil ⟨EnvAll.of h2 ⟨rfl, rfl, rfl, trivial⟩, h4⟩)))))
      · rintro Fr _ _
        refine SO.loadI1 (j := 0) rfl Tryz.isAgg58 (Rd.head hF0) hx4 rfl rfl rfl rfl ?_
        exact SO.nilZ fun a w h1 h2 h3 h4 h5 => PZ.of h1 h3 h5 (.cons () (.cons () (.cons () (.nil ⟨EnvAll.of h2 ⟨rfl, rfl, trivial⟩, h4⟩))))
      · rintro Fr _
        refine SO.v rfl (opv_move rfl) ?_
        exact SO.nilZ fun a w h1 h2 h3 h4 h5 => PZ.of h1 h3 h5 (.cons () (.cons () (.nil ⟨EnvAll.of h2 ⟨rfl, rfl, trivial⟩, h4⟩)))
      · rintro Fr _
        refine SO.v rfl (opv_move rfl) ?_
        exact SO.nilZ fun a w h1 h2 h3 h4 h5 => PZ.of h1 h3 h5 (.cons () (.cons () (.nil ⟨EnvAll.of h2 ⟨rfl, rfl, trivial⟩, h4⟩)))
      · rintro Fr _ _ _
        refine SO.v rfl (opv_idx Tryz.underlying22 Tryz.sizeOf58 hF1 rfl rfl hx6) ?_
        exact SO.nilZ fun a w h1 h2 h3 h4 h5 => PZ.of h1 h3 h5 (.cons () (.cons () (.cons () (.cons () (.nil ⟨EnvAll.of h2 ⟨rfl, rfl, rfl, trivial⟩, h4⟩)))))
      · rintro Fr _ _
        refine SO.loadI1 (j := 0) rfl Tryz.isAgg58 (Rd.head hF1) hx6 rfl rfl rfl rfl ?_
        exact SO.nilZ fun a w h1 h2 h3 h4 h5 => PZ.of h1 h3 h5 (.cons () (.cons () (.cons () (.nil ⟨EnvAll.of h2 ⟨rfl, rfl, trivial⟩, h4⟩))))
      · rintro Fr _ _
        refine SO.v rfl (opv_neq rfl rfl) ?_
        exact SO.nilZ fun a w h1 h2 h3 h4 h5 => PZ.of h1 h3 h5 (.cons () (.cons () (.cons () (.nil ⟨EnvAll.of h2 ⟨rfl, rfl, rfl, trivial⟩, h4⟩))))
      rintro _ _ _ _ _ _
      refine S.to (ρ' := [(5, .int .i64 x5_1), (4, .bool false), (0, v0), (1, v1), (25, .bool (x3 != x5))]) ⟨rfl, rfl, rfl, rfl, rfl, trivial⟩ ?_
      rcases bool_or (x3 != x5) with b7 | b7
      · replace h := cond_t b7 h
        refine S.condT rfl b7 ?_
        refine S.seq ?_
        refine S.region ?_
        refine SO.v rfl (opv_assign rfl) ?_
        refine SO.nil ?_
        cases h
        replace h := hK1.1 _ rfl
        cases h
        exact S.ret1 Tryz.func10 rfl rfl (fun w hs hk => hR w _ _ ⟨rfl, rfl⟩ hs hk)
      replace h := cond_f b7 h
      refine S.condF rfl b7 ?_
      refine S.skip ?_
      refine S.inBlock ?_
      refine S.region ?_
      refine SO.v rfl (opv_move rfl) ?_
      refine SO.v rfl (opv_add rfl rfl) ?_
      refine SO.v rfl (opv_assign rfl) ?_
      refine SO.nil ?_
      refine S.to ?_ (ih1 (w64 (x5_1 + 1), ()) h)
      exact ⟨rfl, rfl, rfl, rfl, trivial⟩
    replace h := cond_f b2 h
    refine S.condF rfl b2 ?_
    refine S.exit rfl ?_
    cases h
    refine S.to ?_ (hK1.2 () () rfl)
    exact ⟨rfl, trivial⟩
  refine ⟨fun r' e' => ?_, ?_⟩
  · subst e'
    have h9 := Brk.of_ret h
    exact h9
  rintro _ _ e'
  subst e'
  replace h := Brk.of_nx h
  refine S.seq ?_
  refine S.region ?_
  refine SO.v rfl (opv_assign rfl) ?_
  refine SO.nil ?_
  cases h
  exact S.ret1 Tryz.func10 rfl rfl (fun w hs hk => hR w _ _ ⟨rfl, rfl⟩ hs hk)
end Go.Proofs
set_option linter.unusedVariables false
namespace Go.Proofs
open Go.Sl Go.RowKit
theorem inf3_kern_raise : Tryz.prog.info? 3 = some Tryz.t3 := by kernel_rfl
/-! 12 (*padstone/kernel.Kernel).Raise -/
def kern_raise.f (rs : List Int) (obj : Int) : Option (List Int) :=
  (app rs ([obj])).bind fun zs5 => some zs5
set_option maxHeartbeats 8000000 in
set_option maxRecDepth 100000 in
theorem kern_raise.ct (bk bps bm br : Nat) (th : Int) (vr : Value) (rs : List Int) (obj : Int) (r0 : List Int) (h : kern_raise.f rs obj = some r0) :
    Ct Tryz.prog 12 [bp bk 0, .int .i64 obj] (fun _ => True) [Box bk [bp bps 0, bp bm 0, .int .i64 th, bp br 0], Box br [vr], Own 3 (ekI .i64) vr rs] (fun u H' => ∃ v, u = .tuple #[] ∧ H' = [Box bk [bp bps 0, bp bm 0, .int .i64 th, bp br 0], Box br [v], Own 3 (ekI .i64) v r0]) := by
  unfold kern_raise.f at h
  refine Ct.intro (n := 18) Tryz.func12 rfl rfl rfl ?_
  intro R w0 F hF hR
  refine S.b2 ?_
  refine S.rd fun hr1 => ?_
  obtain ⟨zs5, hz6, h⟩ := opt_bind h
  refine S.draw2 (Y := fun Q => ∃ (_ _ _ _ _ _ : Unit), Q [(0, bp bk 0), (1, .int .i64 obj)] [Own 3 (ekI .i64) vr rs, Box bk [bp bps 0, bp bm 0, .int .i64 th, bp br 0], Box br [vr], F]) (Z := fun Q => ∀ (v7 : Value) (v2 : Value) (_ _ : Unit), Q [(16, v7), (15, v2)] [Own 3 (ekI .i64) v7 zs5, Box br [v7], Own 3 (ekI .i64) v2 ([obj]), Box bk [bp bps 0, bp bm 0, .int .i64 th, bp br 0], F]) (T := [tS 0 (bp bk 0), tS 1 (.int .i64 obj), tR (Own 3 (ekI .i64) vr rs), tR (Box bk [bp bps 0, bp bm 0, .int .i64 th, bp br 0]), tR (Box br [vr]), tR (F), tS 4 (bp bk 0), tS 5 (bp bk 0), tS 6 (bp bk 3), tS 7 (bp br 0), tS 8 (bp bk 0), tS 9 (bp bk 0), tS 10 (bp bk 3), tS 11 (bp br 0), tS 12 (bp br 0), tS 13 (vr), tS 14 (.int .i64 obj), ⟨Value, [15], (fun v2 => [(15, v2)]), (fun v2 => [Own 3 (ekI .i64) v2 ([obj])]), fun _ => rfl⟩, ⟨Value, [16], (fun v7 => [(16, v7)]), (fun v7 => [Own 3 (ekI .i64) v7 zs5]), fun _ => rfl⟩, tS 17 (bp br 0), ⟨Value, [16], (fun v7 => [(16, v7)]), (fun v7 => [Own 3 (ekI .i64) v7 zs5, Box br [v7]]), fun _ => rfl⟩]) (D := [⟨[0], [], [6]⟩, ⟨[6], [], [7]⟩, ⟨[7], [], [8]⟩, ⟨[8, 3], [], [9]⟩, ⟨[0], [], [10]⟩, ⟨[10], [], [11]⟩, ⟨[11], [], [12]⟩, ⟨[12, 3], [], [13]⟩, ⟨[13], [], [14]⟩, ⟨[14, 4], [], [15]⟩, ⟨[1], [], [16]⟩, ⟨[16], [], [17]⟩, ⟨[15, 17], [2], [18]⟩, ⟨[9], [], [19]⟩, ⟨[19], [4, 18], [20]⟩]) (ini := [0, 1, 2, 3, 4, 5]) (fin := [20, 17, 3, 5]) (bf := [[], [0], [0, 1], [0, 1, 2], [], [4], [4, 5], [4, 5, 6], [4, 5, 6, 7], [4, 5, 6, 7, 8], [], [10], [4, 5, 6, 7, 8, 9, 10, 11], [0, 1, 2, 3, 4, 5, 6, 7, 8, 9, 10, 11, 12], [0, 1, 2, 3, 4, 5, 6, 7, 8, 9, 10, 11, 12, 13]]) (by kernel_rfl) (by kernel_rfl) (fun Q => by kernel_rfl) (fun x w h1 h2 => ⟨(), (), (), (), (), (), EnvAll.of h1 ⟨rfl, rfl, trivial⟩, h2⟩) (fun Q => by kernel_rfl) ⟨?_, ?_, ?_, ?_, ?_, ?_, ?_, ?_, ?_, ?_, ?_, ?_, ?_, ?_, ?_, trivial⟩ ?_
  · rintro Fr _
    refine SO.v rfl (opv_move rfl) ?_
    exact SO.nilZ fun a w h1 h2 h3 h4 h5 => PZ.of h1 h3 h5 (.cons () (.cons () (.nil ⟨EnvAll.of h2 ⟨rfl, rfl, trivial⟩, h4⟩)))
  · rintro Fr _
    refine SO.v rfl (opv_nilCheck rfl) ?_
    exact SO.nilZ fun a w h1 h2 h3 h4 h5 => PZ.of h1 h3 h5 (.cons () (.cons () (.nil ⟨EnvAll.of h2 ⟨rfl, rfl, trivial⟩, h4⟩)))
  · rintro Fr _
    refine SO.v rfl (opv_fieldAddr Tryz.underlying63 rfl Tryz.sizeOf60 rfl rfl) ?_
    exact SO.nilZ fun a w h1 h2 h3 h4 h5 => PZ.of h1 h3 h5 (.cons () (.cons () (.nil ⟨EnvAll.of h2 ⟨rfl, rfl, trivial⟩, h4⟩)))
  · rintro Fr _ _
    refine SO.load1 rfl Tryz.isAgg60 rfl rfl ?_
    exact SO.nilZ fun a w h1 h2 h3 h4 h5 => PZ.of h1 h3 h5 (.cons () (.cons () (.cons () (.nil ⟨EnvAll.of h2 ⟨rfl, rfl, trivial⟩, h4⟩))))
  · rintro Fr _
    refine SO.v rfl (opv_move rfl) ?_
    exact SO.nilZ fun a w h1 h2 h3 h4 h5 => PZ.of h1 h3 h5 (.cons () (.cons () (.nil ⟨EnvAll.of h2 ⟨rfl, rfl, trivial⟩, h4⟩)))
  · rintro Fr _
    refine SO.v rfl (opv_nilCheck rfl) ?_
    exact SO.nilZ fun a w h1 h2 h3 h4 h5 => PZ.of h1 h3 h5 (.cons () (.cons () (.nil ⟨EnvAll.of h2 ⟨rfl, rfl, trivial⟩, h4⟩)))
  · rintro Fr _
    refine SO.v rfl (opv_fieldAddr Tryz.underlying63 rfl Tryz.sizeOf60 rfl rfl) ?_
    exact SO.nilZ fun a w h1 h2 h3 h4 h5 => PZ.of h1 h3 h5 (.cons () (.cons () (.nil ⟨EnvAll.of h2 ⟨rfl, rfl, trivial⟩, h4⟩)))
  · rintro Fr _ _
    refine SO.load1 rfl Tryz.isAgg60 rfl rfl ?_
    exact SO.nilZ fun a w h1 h2 h3 h4 h5 => PZ.of h1 h3 h5 (.cons () (.cons () (.cons () (.nil ⟨EnvAll.of h2 ⟨rfl, rfl, trivial⟩, h4⟩))))
  · rintro Fr _
    refine SO.v rfl (opv_nilCheck rfl) ?_
    exact SO.nilZ fun a w h1 h2 h3 h4 h5 => PZ.of h1 h3 h5 (.cons () (.cons () (.nil ⟨EnvAll.of h2 ⟨rfl, rfl, trivial⟩, h4⟩)))
  · rintro Fr _ _
    refine SO.load1 rfl Tryz.isAgg29 rfl rfl ?_
    exact SO.nilZ fun a w h1 h2 h3 h4 h5 => PZ.of h1 h3 h5 (.cons () (.cons () (.cons () (.nil ⟨EnvAll.of h2 ⟨rfl, rfl, trivial⟩, h4⟩))))
  · rintro Fr _
    refine SO.v rfl (opv_move rfl) ?_
    exact SO.nilZ fun a w h1 h2 h3 h4 h5 => PZ.of h1 h3 h5 (.cons () (.cons () (.nil ⟨EnvAll.of h2 ⟨rfl, rfl, trivial⟩, h4⟩)))
  · rintro Fr _
    refine SO.buildSlice (K := ekI .i64) (xs := [obj]) (cs := [.int .i64 obj]) rfl Tryz.underlying29 Tryz.sizeOf3 Tryz.zeroValue3 rfl rfl rfl (by kernel_rfl) rfl rfl rfl (fun v2 hr3 => ?_)
    exact SO.nilZ fun a w h1 h2 h3 h4 h5 => PZ.of h1 h3 h5 (.cons () (.cons v2 (.nil ⟨EnvAll.of h2 ⟨rfl, rfl, trivial⟩, h4⟩)))
  · rintro Fr _ v2 _
    refine SO.rd fun hr4 => ?_
    refine SO.b1 ?_
    refine SO.append rfl Tryz.underlying29 Tryz.underlying29 inf3_kern_raise rfl rfl rfl (by decide) rfl rfl rfl (Rd.head hr4) hz6 (fun v7 => ?_)
    refine SO.rd fun hr8 => ?_
    refine SO.b1 ?_
    exact SO.nilZ fun a w h1 h2 h3 h4 h5 => PZ.of h1 h3 h5 (.cons () (.cons v2 (.cons v7 (.nil ⟨EnvAll.of h2 ⟨rfl, rfl, rfl, trivial⟩, h4⟩))))
  · rintro Fr _
    refine SO.v rfl (opv_nilCheck rfl) ?_
    exact SO.nilZ fun a w h1 h2 h3 h4 h5 => PZ.of h1 h3 h5 (.cons () (.cons () (.nil ⟨EnvAll.of h2 ⟨rfl, rfl, trivial⟩, h4⟩)))
  · rintro Fr _ _ v7
    refine SO.b1 ?_
    refine SO.rd fun hr9 => ?_
    refine SO.b1 ?_
    refine SO.store1 Tryz.sizeOf29 rfl rfl (Rd.one hr9) rfl ?_
    refine SO.b1 ?_
    exact SO.nilZ fun a w h1 h2 h3 h4 h5 => PZ.of h1 h3 h5 (.cons () (.cons v7 (.nil ⟨EnvAll.of h2 ⟨rfl, rfl, trivial⟩, h4⟩)))
  rintro v7 v2 _ _
  refine S.to (ρ' := []) trivial ?_
  refine S.rd fun hr10 => ?_
  refine S.b2 ?_
  refine S.rd fun hr11 => ?_
  cases h
  refine S.drop ?_
  refine S.b3 ?_
  refine S.b1 ?_
  refine S.b2 ?_
  refine S.b3 ?_
  exact S.fin0 Tryz.func12 rfl (fun w hs hk => hR w _ _ ⟨v7, rfl, rfl⟩ hs hk)
end Go.Proofs
namespace Go.Proofs
open Go.Sl Go.RowKit
/-! 34 padstone/kernel.count -/
def kernel_count.l1 (a0 : List Int) : Nat → (Int × Bool × Int) → Option ((Int × Bool))
  | 0, _ => none
  | k + 1, (x10_1, x5_1, x4_1) => bif decide (x10_1 < (a0.length : Int)) then ((at_ a0 x10_1).bind fun x2 => bif x2 == (-2) then (bif x2 == (-2) then (kernel_count.l1 a0 k (w64 (x10_1 + 1), x5_1, x4_1)) else (bif x2 == (-3) then (kernel_count.l1 a0 k (w64 (x10_1 + 1), true, x4_1)) else (kernel_count.l1 a0 k (w64 (x10_1 + 1), false, w64 (x4_1 + 1))))) else (bif x2 == (-4) then (kernel_count.l1 a0 k (w64 (x10_1 + 1), x5_1, x4_1)) else (bif x2 == (-3) then (kernel_count.l1 a0 k (w64 (x10_1 + 1), true, x4_1)) else (kernel_count.l1 a0 k (w64 (x10_1 + 1), false, w64 (x4_1 + 1)))))) else (some (x4_1, x5_1))
def kernel_count.f (k : Nat) (a0 : List Int) : Option ((Int × Bool)) :=
  (kernel_count.l1 a0 k (0, false, 0)).bind fun (j4_e1, j5_e1) => some (j4_e1, j5_e1)
set_option maxHeartbeats 8000000 in
set_option maxRecDepth 100000 in
theorem kernel_count.ct (k : Nat) (v0 : Value) (a0 : List Int) (r0 : Int) (r1 : Bool) (h : kernel_count.f k a0 = some (r0, r1)) :
    Ct Tryz.prog 34 [v0] (fun F => Rd (ekI .i64) v0 a0 F) [] (fun u H' => u = .tuple #[.int .i64 r0, .bool r1] ∧ H' = []) := by
  unfold kernel_count.f at h
  refine Ct.intro (n := 25) Tryz.func34 rfl rfl rfl ?_
  intro R w0 F hF hR
  have hF0 := hF
  refine S.seq ?_
  refine S.region ?_
  refine SO.v rfl (opv_assign rfl) ?_
  refine SO.v rfl (opv_assign rfl) ?_
  refine SO.nil ?_
  refine S.seq ?_
  refine S.region ?_
  refine SO.v rfl (opv_assign rfl) ?_
  refine SO.v rfl (opv_assign rfl) ?_
  refine SO.nil ?_
  refine S.seq ?_
  refine S.seq ?_
  refine S.region ?_
  refine SO.v rfl (opv_move rfl) ?_
  refine SO.v rfl (opv_lenR rfl Tryz.underlying29 hF0 rfl) ?_
  refine SO.v rfl (opv_move rfl) ?_
  refine SO.nil ?_
  obtain ⟨⟨j4_e1, j5_e1⟩, hlp1, h⟩ := opt_bind h
  refine S.to (ρ' := [(10, .int .i64 0), (9, .int .i64 (a0.length : Int)), (8, v0), (5, .bool false), (4, .int .i64 0), (3, .bool false), (2, .int .i64 0)]) ⟨rfl, rfl, rfl, rfl, rfl, rfl, rfl, trivial⟩ ?_
  refine S.forloop (X := (Int × Bool × Int) × Unit) (O := (Int × Bool)) (fun m x => kernel_count.l1 a0 m x.1) (fun x => match x with | ((x10_1, x5_1, x4_1), _) => [(10, .int .i64 x10_1), (9, .int .i64 (a0.length : Int)), (8, v0), (5, .bool x5_1), (4, .int .i64 x4_1), (3, .bool false), (2, .int .i64 0)]) (fun x => match x with | ((x10_1, x5_1, x4_1), _) => [F]) (fun Sk => (fun x => match x with | (j4_e1, j5_e1) => ∀ _ : Unit, Sk [(2, .int .i64 0), (3, .bool false), (4, .int .i64 j4_e1), (5, .bool j5_e1)] [F])) (fun _ => rfl) ?_ (m := k) (x := ((0, false, 0), ())) hlp1 ?_
  · clear h hlp1
    intro k x o_1 h hK1 ih1
    obtain ⟨⟨x10_1, x5_1, x4_1⟩, _⟩ := x
    replace h : kernel_count.l1 a0 (k + 1) (x10_1, x5_1, x4_1) = some o_1 := h
    first | rw [kernel_count.l1] at h | unfold kernel_count.l1 at h
    refine S.seq ?_
    refine S.region ?_
    refine SO.v rfl (opv_lss rfl rfl) ?_
    refine SO.nil ?_
    refine S.seq ?_
    rcases bool_or (decide (x10_1 < (a0.length : Int))) with b1 | b1
    · replace h := cond_t b1 h
      refine S.condT rfl b1 ?_
      refine S.skip ?_
      refine S.seq ?_
      refine S.block ?_
      refine S.seq ?_
      refine S.region ?_
      obtain ⟨x2, hx3, h⟩ := opt_bind h
      refine SO.v rfl (opv_idx Tryz.underlying29 Tryz.sizeOf3 hF0 rfl rfl hx3) ?_
      refine SO.loadI1 (j := 0) rfl Tryz.isAgg3 (Rd.head hF0) hx3 rfl rfl rfl rfl ?_
      refine SO.v rfl (opv_assign rfl) ?_
      refine SO.nil ?_
      refine S.seq ?_
      refine S.region ?_
      refine SO.v rfl (opv_move rfl) ?_
      refine SO.nil ?_
      refine S.block ?_
      refine S.seq ?_
      refine S.seq ?_
      refine S.region ?_
      refine SO.v rfl (opv_eql rfl rfl) ?_
      refine SO.v rfl (opv_assign rfl) ?_
      refine SO.nil ?_
      rcases bool_or (x2 == (-2)) with b4 | b4
      · replace h := cond_t b4 h
        refine S.condT rfl b4 ?_
        refine S.skip ?_
        rcases bool_or (x2 == (-2)) with b5 | b5
        · replace h := cond_t b5 h
          refine S.condT rfl b5 ?_
          refine S.skip ?_
          refine S.inBlock ?_
          refine S.inBlock ?_
          refine S.region ?_
          refine SO.v rfl (opv_add rfl rfl) ?_
          refine SO.v rfl (opv_move rfl) ?_
          refine SO.nil ?_
          refine S.to (ρ' := [(10, .int .i64 (w64 (x10_1 + 1))), (9, .int .i64 (a0.length : Int)), (8, v0), (5, .bool x5_1), (4, .int .i64 x4_1), (3, .bool false), (2, .int .i64 0)]) ⟨rfl, rfl, rfl, rfl, rfl, rfl, rfl, trivial⟩ ?_
          refine S.to ?_ (ih1 ((w64 (x10_1 + 1), x5_1, x4_1), ()) h)
          exact ⟨rfl, rfl, rfl, rfl, rfl, rfl, rfl, trivial⟩
        replace h := cond_f b5 h
        refine S.condF rfl b5 ?_
        refine S.seq ?_
        refine S.region ?_
        refine SO.v rfl (opv_eql rfl rfl) ?_
        refine SO.v rfl (opv_assign rfl) ?_
        refine SO.nil ?_
        refine S.to (ρ' := [(10, .int .i64 x10_1), (9, .int .i64 (a0.length : Int)), (8, v0), (4, .int .i64 x4_1), (3, .bool false), (2, .int .i64 0), (20, .bool (x2 == (-3)))]) ⟨rfl, rfl, rfl, rfl, rfl, rfl, rfl, trivial⟩ ?_
        rcases bool_or (x2 == (-3)) with b6 | b6
        · replace h := cond_t b6 h
          refine S.condT rfl b6 ?_
          refine S.region ?_
          refine SO.v rfl (opv_assign rfl) ?_
          refine SO.nil ?_
          refine S.inBlock ?_
          refine S.inBlock ?_
          refine S.region ?_
          refine SO.v rfl (opv_add rfl rfl) ?_
          refine SO.v rfl (opv_move rfl) ?_
          refine SO.nil ?_
          refine S.to ?_ (ih1 ((w64 (x10_1 + 1), true, x4_1), ()) h)
          exact ⟨rfl, rfl, rfl, rfl, rfl, rfl, rfl, trivial⟩
        replace h := cond_f b6 h
        refine S.condF rfl b6 ?_
        refine S.region ?_
        refine SO.v rfl (opv_move rfl) ?_
        refine SO.v rfl (opv_add rfl rfl) ?_
        refine SO.v rfl (opv_assign rfl) ?_
        refine SO.v rfl (opv_assign rfl) ?_
        refine SO.nil ?_
        refine S.inBlock ?_
        refine S.inBlock ?_
        refine S.region ?_
        refine SO.v rfl (opv_add rfl rfl) ?_
        refine SO.v rfl (opv_move rfl) ?_
        refine SO.nil ?_
        refine S.to ?_ (ih1 ((w64 (x10_1 + 1), false, w64 (x4_1 + 1)), ()) h)
        exact ⟨rfl, rfl, rfl, rfl, rfl, rfl, rfl, trivial⟩
      replace h := cond_f b4 h
      refine S.condF rfl b4 ?_
      refine S.region ?_
      refine SO.v rfl (opv_eql rfl rfl) ?_
      refine SO.v rfl (opv_assign rfl) ?_
      refine SO.nil ?_
      rcases bool_or (x2 == (-4)) with b7 | b7
      · replace h := cond_t b7 h
        refine S.condT rfl b7 ?_
        refine S.skip ?_
        refine S.inBlock ?_
        refine S.inBlock ?_
        refine S.region ?_
        refine SO.v rfl (opv_add rfl rfl) ?_
        refine SO.v rfl (opv_move rfl) ?_
        refine SO.nil ?_
        refine S.to (ρ' := [(10, .int .i64 (w64 (x10_1 + 1))), (9, .int .i64 (a0.length : Int)), (8, v0), (5, .bool x5_1), (4, .int .i64 x4_1), (3, .bool false), (2, .int .i64 0)]) ⟨rfl, rfl, rfl, rfl, rfl, rfl, rfl, trivial⟩ ?_
        refine S.to ?_ (ih1 ((w64 (x10_1 + 1), x5_1, x4_1), ()) h)
        exact ⟨rfl, rfl, rfl, rfl, rfl, rfl, rfl, trivial⟩
      replace h := cond_f b7 h
      refine S.condF rfl b7 ?_
      refine S.seq ?_
      refine S.region ?_
      refine SO.v rfl (opv_eql rfl rfl) ?_
      refine SO.v rfl (opv_assign rfl) ?_
      refine SO.nil ?_
      refine S.to (ρ' := [(10, .int .i64 x10_1), (9, .int .i64 (a0.length : Int)), (8, v0), (4, .int .i64 x4_1), (3, .bool false), (2, .int .i64 0), (20, .bool (x2 == (-3)))]) ⟨rfl, rfl, rfl, rfl, rfl, rfl, rfl, trivial⟩ ?_
      rcases bool_or (x2 == (-3)) with b8 | b8
      · replace h := cond_t b8 h
        refine S.condT rfl b8 ?_
        refine S.region ?_
        refine SO.v rfl (opv_assign rfl) ?_
        refine SO.nil ?_
        refine S.inBlock ?_
        refine S.inBlock ?_
        refine S.region ?_
        refine SO.v rfl (opv_add rfl rfl) ?_
        refine SO.v rfl (opv_move rfl) ?_
        refine SO.nil ?_
        refine S.to ?_ (ih1 ((w64 (x10_1 + 1), true, x4_1), ()) h)
        exact ⟨rfl, rfl, rfl, rfl, rfl, rfl, rfl, trivial⟩
      replace h := cond_f b8 h
      refine S.condF rfl b8 ?_
      refine S.region ?_
      refine SO.v rfl (opv_move rfl) ?_
      refine SO.v rfl (opv_add rfl rfl) ?_
      refine SO.v rfl (opv_assign rfl) ?_
      refine SO.v rfl (opv_assign rfl) ?_
      refine SO.nil ?_
      refine S.inBlock ?_
      refine S.inBlock ?_
      refine S.region ?_
      refine SO.v rfl (opv_add rfl rfl) ?_
      refine SO.v rfl (opv_move rfl) ?_
      refine SO.nil ?_
      refine S.to ?_ (ih1 ((w64 (x10_1 + 1), false, w64 (x4_1 + 1)), ()) h)
      exact ⟨rfl, rfl, rfl, rfl, rfl, rfl, rfl, trivial⟩
    replace h := cond_f b1 h
    refine S.condF rfl b1 ?_
    refine S.exit rfl ?_
    cases h
    refine S.to ?_ (hK1 ())
    exact ⟨rfl, rfl, rfl, rfl, trivial⟩
  rintro _
  refine S.seq ?_
  refine S.region ?_
  refine SO.v rfl (opv_move rfl) ?_
  refine SO.v rfl (opv_move rfl) ?_
  refine SO.v rfl (opv_assign rfl) ?_
  refine SO.v rfl (opv_assign rfl) ?_
  refine SO.nil ?_
  cases h
  exact S.ret2 Tryz.func34 rfl rfl rfl (fun w hs hk => hR w _ _ ⟨rfl, rfl⟩ hs hk)
end Go.Proofs
set_option linter.unusedVariables false
namespace Go.Proofs
open Go.Sl Go.RowKit

/-! 33 padstone/kernel.Feed$1 -/
set_option maxHeartbeats 8000000 in
set_option maxRecDepth 100000 in
theorem kern_feed0.ct (vt vc : Value) (hvc : lenS vc 0) (b1 b2 : Nat) (t : Int)  :
    Ct Tryz.prog 33 [vt, bp b1 0, bp b2 0] (fun F => Rd (ekI .i64) vt [] F) [Box b1 [vc], Box b2 [.int .i64 t]] (fun u H' => u = .nilFunc ∧ H' = [Box b1 [vc], Box b2 [.int .i64 t]]) := by
  refine Ct.intro (n := 27) Tryz.func33 rfl rfl rfl ?_
  intro R w0 F hF hR
  refine S.seq ?_
  refine S.region ?_
  refine SO.v rfl (opv_assign rfl) ?_
  refine SO.nil ?_
  refine S.seq ?_
  refine S.region ?_
  refine SO.v rfl (opv_move rfl) ?_
  refine SO.call (pre := []) rfl Tryz.call34 rfl rfl rfl (kernel_count.ct 1 vt [] 0 false rfl) (Rd.tail (Rd.tail (Rd.head hF))) ?_
  rintro _ _ ⟨rfl, rfl⟩
  refine SO.v rfl (opv_move rfl) ?_
  refine SO.v rfl (opv_extract rfl rfl) ?_
  refine SO.v rfl (opv_extract rfl rfl) ?_
  refine SO.v rfl (opv_assign rfl) ?_
  refine SO.v rfl (opv_assign rfl) ?_
  refine SO.nil ?_
  refine S.seq ?_
  refine S.block ?_
  refine S.seq ?_
  refine S.region ?_
  refine SO.v rfl (opv_move rfl) ?_
  refine SO.load1 rfl Tryz.isAgg52 rfl rfl ?_
  refine SO.veq (v' := .int .i64 0) rfl (opv_lenS hvc rfl Tryz.underlying52 rfl) rfl ?_
  refine SO.veq (v' := .bool true) rfl (opv_geq rfl rfl) rfl ?_
  refine SO.v rfl (opv_assign rfl) ?_
  refine SO.nil ?_
  refine S.to (ρ' := [(1, bp b1 0), (2, bp b2 0), (4, .nilFunc), (5, .int .i64 0), (6, .bool false), (12, .bool true)]) ⟨rfl, rfl, rfl, rfl, rfl, rfl, trivial⟩ ?_
  refine S.cond_true rfl ?_
  refine S.seq ?_
  refine S.region ?_
  refine SO.v rfl (opv_assign rfl) ?_
  refine SO.nil ?_
  refine S.b2 ?_
  refine S.b2 ?_
  refine S.b2 ?_
  exact S.ret1 Tryz.func33 rfl rfl (fun w hs hk => hR w _ _ ⟨rfl, rfl⟩ hs hk)
end Go.Proofs
set_option linter.unusedVariables false
namespace Go.Proofs
open Go.Sl Go.RowKit

/-! 11 (*padstone/kernel.Kernel).Pick -/
set_option maxHeartbeats 8000000 in
set_option maxRecDepth 100000 in
theorem kern_pick.ct (bk bps bm br : Nat) (th id : Int) (r : Bool) (MM : HProp) (hst : Ct Tryz.prog 29 [bp bm 0, .int .i64 id] (fun _ => True) [MM] (fun u H' => u = .bool r ∧ H' = []))  :
    Ct Tryz.prog 11 [bp bk 0, .int .i64 id] (fun _ => True) [Box bk [bp bps 0, bp bm 0, .int .i64 th, bp br 0], MM] (fun u H' => u = .bool r ∧ H' = [Box bk [bp bps 0, bp bm 0, .int .i64 th, bp br 0]]) := by
  refine Ct.intro (n := 11) Tryz.func11 rfl rfl rfl ?_
  intro R w0 F hF hR
  refine S.seq ?_
  refine S.region ?_
  refine SO.v rfl (opv_assign rfl) ?_
  refine SO.nil ?_
  refine S.seq ?_
  refine S.region ?_
  refine SO.v rfl (opv_move rfl) ?_
  refine SO.v rfl (opv_nilCheck rfl) ?_
  refine SO.v rfl (opv_fieldAddr Tryz.underlying63 rfl Tryz.sizeOf61 rfl rfl) ?_
  refine SO.load1 rfl Tryz.isAgg61 rfl rfl ?_
  refine SO.v rfl (opv_move rfl) ?_
  refine SO.b1 ?_
  refine SO.call (pre := [MM]) rfl Tryz.call29 rfl rfl rfl hst trivial ?_
  rintro _ _ ⟨rfl, rfl⟩
  refine SO.v rfl (opv_assign rfl) ?_
  refine SO.nil ?_
  refine S.to (ρ' := [(4, .bool r)]) ⟨rfl, trivial⟩ ?_
  refine S.b1 ?_
  refine S.b1 ?_
  exact S.ret1 Tryz.func11 rfl rfl (fun w hs hk => hR w _ _ ⟨rfl, rfl⟩ hs hk)
end Go.Proofs
namespace Go.Proofs
open Go.Sl Go.RowKit
/-! 24 slices.Clone[[]int,int] -/
def slices_Clone_int_int.f (a0 : List Int) : Option (List Int) := app [] a0
set_option maxRecDepth 100000 in
theorem slices_Clone_int_int.ct (v0 : Value) (a0 : List Int) (r0 : List Int) (h : slices_Clone_int_int.f a0 = some r0) :
    Ct Tryz.prog 24 [v0] (fun F => Rd (ekI .i64) v0 a0 F) [] (fun u H' => ∃ v_r0, u = v_r0 ∧ H' = [Own 3 (ekI .i64) v_r0 r0]) := by
  unfold slices_Clone_int_int.f at h
  refine Ct.intro (n := 8) Tryz.func24 rfl rfl rfl ?_
  intro R w0 F hF0 hR
  obtain ⟨a, cap, ⟨hv, hcap⟩, hel⟩ := hF0
  have hF0 : Rd (ekI .i64) v0 a0 F := ⟨a, cap, ⟨hv, hcap⟩, hel⟩
  have hv2 : ev (num 0 [v0]) (.tmp 0) = some (.slice a a0.length cap) := by rw [← hv]; rfl
  refine S.seq ?_
  refine S.region ?_
  refine SO.v rfl (opv_assign rfl) ?_
  refine SO.nil ?_
  refine S.seq ?_
  refine S.seq ?_
  refine S.region ?_
  refine SO.v rfl (opv_move rfl) ?_
  rw [show v0 = .slice a a0.length cap from hv]
  refine SO.v rfl (opv_eqlSN Tryz.underlying29 rfl) ?_
  rw [← hv]
  refine SO.nil ?_
  cases a with
  | none =>
    have h0 : a0 = [] := by
      cases a0 with
      | nil => rfl
      | cons x l => obtain ⟨b, off, hh, _⟩ := hel 0 x rfl; cases hh
    subst h0
    have hr : r0 = [] := by injection h with h; exact h.symm
    subst hr
    refine S.cond_true rfl ?_
    refine S.seq ?_
    refine S.region ?_
    refine SO.v rfl (opv_assign rfl) ?_
    refine SO.nil ?_
    refine S.newOwn 3 (ekI .i64) ?_
    exact S.ret1 Tryz.func24 rfl rfl (fun w hs hk => hR w _ _ ⟨_, rfl, rfl⟩ hs hk)
  | some ad =>
    refine S.cond_false rfl ?_
    refine S.skip ?_
    refine S.seq ?_
    refine S.region ?_
    refine SO.buildSlice0 (ekI .i64) rfl Tryz.underlying29 Tryz.sizeOf3 (fun v1 hr1 => ?_)
    refine SO.v rfl (opv_move rfl) ?_
    refine SO.append rfl Tryz.underlying29 Tryz.underlying29 inf3 rfl rfl rfl (by decide) rfl rfl rfl (Rd.head hF0) h (fun v2 => ?_)
    refine SO.v rfl (opv_assign rfl) ?_
    refine SO.nil ?_
    exact S.ret1 Tryz.func24 rfl rfl (fun w hs hk => hR w _ _ ⟨_, rfl, rfl⟩ hs hk)
end Go.Proofs
set_option linter.unusedVariables false
namespace Go.Proofs
open Go.Sl Go.RowKit

/-! 44 (*padstone/stm.Machine).in -/
def stm_Machine_in.f (ws : List Nat) (id : Int) : Option (Bool) :=
  (bif decide (0 ≤ id) then (some (decide (id < (ws.length : Int)))) else (some false)).bind fun c3 => some c3
set_option maxHeartbeats 8000000 in
set_option maxRecDepth 100000 in
theorem stm_Machine_in.ct (bpm bps : Nat) (vl va vg : Value) (ws : List Nat) (id : Int) (r0 : Bool) (h : stm_Machine_in.f ws id = some r0) :
    Ct Tryz.prog 44 [bp bpm 0, .int .i64 id] (fun _ => True) [Box bpm [bp bps 0, vl, va, vg], Own 105 ekP vl ws] (fun u H' => u = .bool r0 ∧ H' = [Box bpm [bp bps 0, vl, va, vg], Own 105 ekP vl ws]) := by
  unfold stm_Machine_in.f at h
  refine Ct.intro (n := 16) Tryz.func44 rfl rfl rfl ?_
  intro R w0 F hF hR
  refine S.b1 ?_
  refine S.rd fun hr1 => ?_
  refine S.seq ?_
  refine S.region ?_
  refine SO.v rfl (opv_assign rfl) ?_
  refine SO.nil ?_
  refine S.seq ?_
  refine S.region ?_
  refine SO.v rfl (opv_move rfl) ?_
  refine SO.v rfl (opv_geq rfl rfl) ?_
  refine SO.v rfl (opv_move rfl) ?_
  obtain ⟨c3, hc4, hgk⟩ := opt_bind h
  refine SO.cut 8 15 (.bool c3) [Own 105 ekP vl ws, Box bpm [bp bps 0, vl, va, vg], F] (fun l2 hk2 => ?_) ?_
  · clear hgk
    replace h := hc4
    rcases bool_or (decide (0 ≤ id)) with b2 | b2
    · replace h := cond_t b2 h
      refine SO.takeT rfl rfl rfl b2 ?_
      refine SO.v rfl (opv_move rfl) ?_
      refine SO.takeT rfl rfl rfl b2 ?_
      refine SO.v rfl (opv_move rfl) ?_
      refine SO.takeT rfl rfl rfl b2 ?_
      refine SO.v rfl (opv_nilCheck rfl) ?_
      refine SO.takeT rfl rfl rfl b2 ?_
      refine SO.v rfl (opv_fieldAddr Tryz.underlying104 rfl Tryz.sizeOf101 rfl rfl) ?_
      refine SO.takeT rfl rfl rfl b2 ?_
      refine SO.b1 ?_
      refine SO.load1 rfl Tryz.isAgg101 rfl rfl ?_
      refine SO.takeT rfl rfl rfl b2 ?_
      refine SO.v rfl (opv_lenR rfl Tryz.underlying101 hr1 rfl) ?_
      refine SO.takeT rfl rfl rfl b2 ?_
      refine SO.v rfl (opv_lss rfl rfl) ?_
      cases h
      refine SO.v rfl (opv_pick_t' b2 rfl rfl) ?_
      refine SO.b2 ?_
      refine SO.b1 ?_
      refine SO.b2 ?_
      exact hk2.fitc (m := 8) rfl (rfl) rfl
    replace h := cond_f b2 h
    refine SO.passF rfl rfl rfl b2 rfl rfl ?_
    refine SO.passF rfl rfl rfl b2 rfl rfl ?_
    refine SO.passF rfl rfl rfl b2 rfl rfl ?_
    refine SO.passF rfl rfl rfl b2 rfl rfl ?_
    refine SO.passF rfl rfl rfl b2 rfl rfl ?_
    refine SO.passF rfl rfl rfl b2 rfl rfl ?_
    refine SO.passF rfl rfl rfl b2 rfl rfl ?_
    cases h
    refine SO.v rfl (opv_pick_f' b2 rfl rfl) ?_
    refine SO.b2 ?_
    refine SO.b2 ?_
    refine SO.b2 ?_
    exact hk2.fitc (m := 8) rfl (rfl) rfl
  clear hc4
  replace h := hgk
  refine SO.v rfl (opv_assign rfl) ?_
  refine SO.nil ?_
  cases h
  refine S.b2 ?_
  refine S.b1 ?_
  refine S.b2 ?_
  exact S.ret1 Tryz.func44 rfl rfl (fun w hs hk => hR w _ _ ⟨rfl, rfl⟩ hs hk)
end Go.Proofs
set_option linter.unusedVariables false
namespace Go.Proofs
open Go.Sl Go.RowKit

/-! 45 (*padstone/stm.worker).next -/
def stm_next_n.f (told : List Int) : Option (Unit) :=
  (slices_Clone_int_int.f told).bind fun t2 => some ()
set_option maxHeartbeats 8000000 in
set_option maxRecDepth 100000 in
theorem stm_next_n.ct (bw : Nat) (tv dv tl : Value) (told : List Int) (ff : FuncId) (fcs : List Value) (FR : HProp) (JP : Value → HProp) (hcf : ∀ (us : Array Value) (w : World), (callFunc ff us).run Tryz.prog w = .ok (.enter ff us) w) (hct : ∀ (v : Value) (t : List Int), slices_Clone_int_int.f told = some t → Ct Tryz.prog ff (v :: fcs) (fun F => Rd (ekI .i64) v t F) [FR] (fun u H' => H' = [JP u, FR])) (h : stm_next_n.f told = some ()) :
    Ct Tryz.prog 45 [bp bw 0] (fun _ => True) [Box bw [.func (.func ff) #[] fcs.toArray, .nilFunc, tv, dv, tl], Own 3 (ekI .i64) tl told, FR] (fun u H' => H' = [Box bw [.func (.func ff) #[] fcs.toArray, .nilFunc, tv, dv, tl], Own 3 (ekI .i64) tl told, JP u, FR]) := by
  unfold stm_next_n.f at h
  refine Ct.intro (n := 22) Tryz.func45 rfl rfl rfl ?_
  intro R w0 F hF hR
  refine S.b1 ?_
  refine S.rd fun hr1 => ?_
  refine S.seq ?_
  refine S.region ?_
  refine SO.v rfl (opv_assign rfl) ?_
  refine SO.nil ?_
  refine S.seq ?_
  refine S.seq ?_
  refine S.region ?_
  refine SO.v rfl (opv_move rfl) ?_
  refine SO.v rfl (opv_nilCheck rfl) ?_
  refine SO.v rfl (opv_fieldAddr Tryz.underlying109 rfl Tryz.sizeOf70 rfl rfl) ?_
  refine SO.b1 ?_
  refine SO.load1 rfl Tryz.isAgg70 rfl rfl ?_
  refine SO.v rfl (opv_neqFF Tryz.underlying70 rfl rfl) ?_
  refine SO.nil ?_
  refine S.cond_false rfl ?_
  refine S.skip ?_
  refine S.seq ?_
  obtain ⟨t2, ht3, h⟩ := opt_bind h
  refine S.draw2 (Y := fun Q => ∃ (_ _ _ _ _ : Unit), Q [(0, bp bw 0)] [Box bw [.func (.func ff) #[] fcs.toArray, .nilFunc, tv, dv, tl], Own 3 (ekI .i64) tl told, FR, F]) (Z := fun Q => ∀ (u7 : Value) (v4 : Value) (_ _ _ _ : Unit), Q [(2, u7), (21, u7), (20, v4)] [JP u7, Own 3 (ekI .i64) v4 t2, Box bw [.func (.func ff) #[] fcs.toArray, .nilFunc, tv, dv, tl], Own 3 (ekI .i64) tl told, FR, F]) (T := [tS 0 (bp bw 0), tR (Box bw [.func (.func ff) #[] fcs.toArray, .nilFunc, tv, dv, tl]), tR (Own 3 (ekI .i64) tl told), tR (FR), tR (F), tS 12 (bp bw 0), tS 13 (bp bw 0), tS 14 (bp bw 0), tS 15 (.func (.func ff) #[] fcs.toArray), tS 16 (bp bw 0), tS 17 (bp bw 0), tS 18 (bp bw 4), tS 19 (tl), ⟨Value, [20], (fun v4 => [(20, v4)]), (fun v4 => [Own 3 (ekI .i64) v4 t2]), fun _ => rfl⟩, ⟨Value, [21], (fun u7 => [(21, u7)]), (fun u7 => [JP u7]), fun _ => rfl⟩, ⟨Value, [2, 21], (fun u7 => [(2, u7), (21, u7)]), (fun u7 => [JP u7]), fun _ => rfl⟩]) (D := [⟨[0], [], [5]⟩, ⟨[5], [], [6]⟩, ⟨[6], [], [7]⟩, ⟨[7, 1], [], [8]⟩, ⟨[0], [], [9]⟩, ⟨[9], [], [10]⟩, ⟨[10], [], [11]⟩, ⟨[11, 1], [], [12]⟩, ⟨[12, 2], [], [13]⟩, ⟨[8, 13, 3], [], [14]⟩, ⟨[], [14], [15]⟩]) (ini := [0, 1, 2, 3, 4]) (fin := [15, 13, 1, 2, 3, 4]) (bf := [[], [0], [0, 1], [0, 1, 2], [], [4], [4, 5], [4, 5, 6], [4, 5, 6, 7], [0, 1, 2, 3, 4, 5, 6, 7, 8], [0, 1, 2, 3, 4, 5, 6, 7, 8, 9]]) (by kernel_rfl) (by kernel_rfl) (fun Q => by kernel_rfl) (fun x w h1 h2 => ⟨(), (), (), (), (), EnvAll.of h1 ⟨rfl, trivial⟩, h2⟩) (fun Q => by kernel_rfl) ⟨?_, ?_, ?_, ?_, ?_, ?_, ?_, ?_, ?_, ?_, ?_, trivial⟩ ?_
  · rintro Fr _
    refine SO.v rfl (opv_move rfl) ?_
    exact SO.nilZ fun a w h1 h2 h3 h4 h5 => PZ.of h1 h3 h5 (.cons () (.cons () (.nil ⟨EnvAll.of h2 ⟨rfl, rfl, trivial⟩, h4⟩)))
  · rintro Fr _
    refine SO.v rfl (opv_nilCheck rfl) ?_
    exact SO.nilZ fun a w h1 h2 h3 h4 h5 => PZ.of h1 h3 h5 (.cons () (.cons () (.nil ⟨EnvAll.of h2 ⟨rfl, rfl, trivial⟩, h4⟩)))
  · rintro Fr _
    refine SO.v rfl (opv_fieldAddr Tryz.underlying109 rfl Tryz.sizeOf67 rfl rfl) ?_
    exact SO.nilZ fun a w h1 h2 h3 h4 h5 => PZ.of h1 h3 h5 (.cons () (.cons () (.nil ⟨EnvAll.of h2 ⟨rfl, rfl, trivial⟩, h4⟩)))
  · rintro Fr _ _
    refine SO.load1 rfl Tryz.isAgg67 rfl rfl ?_
    exact SO.nilZ fun a w h1 h2 h3 h4 h5 => PZ.of h1 h3 h5 (.cons () (.cons () (.cons () (.nil ⟨EnvAll.of h2 ⟨rfl, rfl, trivial⟩, h4⟩))))
  · rintro Fr _
    refine SO.v rfl (opv_move rfl) ?_
    exact SO.nilZ fun a w h1 h2 h3 h4 h5 => PZ.of h1 h3 h5 (.cons () (.cons () (.nil ⟨EnvAll.of h2 ⟨rfl, rfl, trivial⟩, h4⟩)))
  · rintro Fr _
    refine SO.v rfl (opv_nilCheck rfl) ?_
    exact SO.nilZ fun a w h1 h2 h3 h4 h5 => PZ.of h1 h3 h5 (.cons () (.cons () (.nil ⟨EnvAll.of h2 ⟨rfl, rfl, trivial⟩, h4⟩)))
  · rintro Fr _
    refine SO.v rfl (opv_fieldAddr Tryz.underlying109 rfl Tryz.sizeOf29 rfl rfl) ?_
    exact SO.nilZ fun a w h1 h2 h3 h4 h5 => PZ.of h1 h3 h5 (.cons () (.cons () (.nil ⟨EnvAll.of h2 ⟨rfl, rfl, trivial⟩, h4⟩)))
  · rintro Fr _ _
    refine SO.load1 rfl Tryz.isAgg29 rfl rfl ?_
    exact SO.nilZ fun a w h1 h2 h3 h4 h5 => PZ.of h1 h3 h5 (.cons () (.cons () (.cons () (.nil ⟨EnvAll.of h2 ⟨rfl, rfl, trivial⟩, h4⟩))))
  · rintro Fr _ _
    refine SO.call (pre := []) rfl Tryz.call24 rfl rfl rfl (slices_Clone_int_int.ct tl _ _ ht3) (Rd.head hr1) ?_
    rintro v4 _ ⟨_, rfl, rfl⟩
    refine SO.rd fun hr5 => ?_
    refine SO.b1 ?_
    exact SO.nilZ fun a w h1 h2 h3 h4 h5 => PZ.of h1 h3 h5 (.cons () (.cons () (.cons v4 (.nil ⟨EnvAll.of h2 ⟨rfl, rfl, trivial⟩, h4⟩))))
  · rintro Fr _ v4 _
    refine SO.rd fun hr6 => ?_
    refine SO.b1 ?_
    refine SO.call (pre := [FR]) rfl hcf rfl rfl rfl (hct v4 t2 (by assumption)) (Rd.head hr6) ?_
    rintro u7 _ rfl
    refine SO.b1 ?_
    refine SO.b2 ?_
    exact SO.nilZ fun a w h1 h2 h3 h4 h5 => PZ.of h1 h3 h5 (.cons () (.cons v4 (.cons () (.cons u7 (.nil ⟨EnvAll.of h2 ⟨rfl, rfl, rfl, trivial⟩, h4⟩)))))
  · rintro Fr u7
    refine SO.v rfl (opv_assign rfl) ?_
    exact SO.nilZ fun a w h1 h2 h3 h4 h5 => PZ.of h1 h3 h5 (.cons u7 (.nil ⟨EnvAll.of h2 ⟨rfl, rfl, trivial⟩, h4⟩))
  rintro u7 v4 _ _ _ _
  refine S.to (ρ' := [(2, u7)]) ⟨rfl, trivial⟩ ?_
  refine S.b1 ?_
  refine S.rd fun hr8 => ?_
  cases h
  refine S.drop ?_
  refine S.b4 ?_
  refine S.b4 ?_
  refine S.b2 ?_
  refine S.b4 ?_
  refine S.b4 ?_
  exact S.ret1 Tryz.func45 rfl rfl (fun w hs hk => hR w _ _ rfl hs hk)
end Go.Proofs
set_option linter.unusedVariables false
namespace Go.Proofs
open Go.Sl Go.RowKit

/-! 29 (*padstone/stm.Machine).Step -/
set_option maxHeartbeats 8000000 in
set_option maxRecDepth 100000 in
theorem stm_Step_nil.ct (zb : List Nat) (bpm bps : Nat) (vl va vg vs : Value) (sa : word_Store) (dl : List desc_Desc) (el gl : List stm_Entry) (hle : zb.length = el.length) (ws : List Nat) (id : Int) (bw : Nat) (hbw : at_ ws id = some bw) (hin : stm_Machine_in.f ws id = some true) (tv dv tl : Value) (told : List Int) (ff : FuncId) (fcs : List Value) (FR : HProp) (hcf : ∀ (us : Array Value) (w : World), (callFunc ff us).run Tryz.prog w = .ok (.enter ff us) w) (hct : ∀ (v : Value) (t : List Int), slices_Clone_int_int.f told = some t → Ct Tryz.prog ff (v :: fcs) (fun F => Rd (ekI .i64) v t F) [FR] (fun u H' => H' = [IsNil u, FR])) (hn : stm_next_n.f told = some ())  :
    Ct Tryz.prog 29 [bp bpm 0, .int .i64 id] (fun _ => True) [Box bpm [bp bps 0, vl, va, vg], Own 105 ekP vl ws, Own 159 ekMd va (zb.zip el), ZipR rep_desc_Desc zb dl, Own 46 ek_stm_Entry vg gl, Box bps [vs, .int .u32 sa.limit], Own 92 ek_api_Cell vs sa.l, Box bw [.func (.func ff) #[] fcs.toArray, .nilFunc, tv, dv, tl], Own 3 (ekI .i64) tl told, FR] (fun u H' => u = .bool false ∧ H' = [Box bpm [bp bps 0, vl, va, vg], Own 105 ekP vl ws, Own 159 ekMd va (zb.zip el), ZipR rep_desc_Desc zb dl, Own 46 ek_stm_Entry vg gl, Box bps [vs, .int .u32 sa.limit], Own 92 ek_api_Cell vs sa.l, Box bw [.func (.func ff) #[] fcs.toArray, .nilFunc, tv, dv, tl], Own 3 (ekI .i64) tl told, FR]) := by
  refine Ct.intro (n := 68) Tryz.func29 rfl rfl rfl ?_
  intro R w0 F hF hR
  refine S.b1 ?_
  refine S.rd fun hr1 => ?_
  refine S.b2 ?_
  refine S.rd fun hr2 => ?_
  refine S.b4 ?_
  refine S.rd fun hr3 => ?_
  refine S.b6 ?_
  refine S.rd fun hr4 => ?_
  refine S.b8 ?_
  refine S.rd fun hr5 => ?_
  refine S.seq ?_
  refine S.region ?_
  refine SO.v rfl (opv_assign rfl) ?_
  refine SO.nil ?_
  refine S.seq ?_
  refine S.seq ?_
  refine S.region ?_
  refine SO.v rfl (opv_move rfl) ?_
  refine SO.v rfl (opv_move rfl) ?_
  refine SO.b4 ?_
  refine SO.b5 ?_
  refine SO.call (pre := [Box _ _, Own _ _ _ _]) rfl Tryz.call44 rfl rfl rfl (stm_Machine_in.ct bpm bps vl va vg ws id _ hin) trivial ?_
  rintro _ _ ⟨rfl, rfl⟩
  refine SO.v rfl (opv_not rfl) ?_
  refine SO.nil ?_
  refine S.cond_false rfl ?_
  refine S.skip ?_
  refine S.seq ?_
  refine S.region ?_
  refine SO.v rfl (opv_move rfl) ?_
  refine SO.v rfl (opv_nilCheck rfl) ?_
  refine SO.v rfl (opv_fieldAddr Tryz.underlying104 rfl Tryz.sizeOf101 rfl rfl) ?_
  refine SO.load1 rfl Tryz.isAgg101 rfl rfl ?_
  refine SO.v rfl (opv_move rfl) ?_
  refine SO.v rfl (opv_idx Tryz.underlying101 Tryz.sizeOf105 hr1 rfl rfl hbw) ?_
  refine SO.loadI1 (j := 0) rfl Tryz.isAgg105 (Rd.tail (Rd.head hr1)) hbw rfl rfl rfl rfl ?_
  refine SO.v rfl (opv_assign rfl) ?_
  refine SO.nil ?_
  refine S.to (ρ' := [(0, bp bpm 0), (1, .int .i64 id), (4, .bool false), (5, bp bw 0)]) ⟨rfl, rfl, rfl, rfl, trivial⟩ ?_
  refine S.seq ?_
  refine S.region ?_
  refine SO.v rfl (opv_move rfl) ?_
  refine SO.b9 ?_
  refine SO.b3 ?_
  refine SO.b9 ?_
  refine SO.call (pre := [Box _ _, Own _ _ _ _, FR]) rfl Tryz.call45 rfl rfl rfl (stm_next_n.ct bw tv dv tl told ff fcs FR (IsNil) hcf hct hn) trivial ?_
  rintro u6 _ rfl
  refine SO.b2 ?_
  refine SO.openNil fun hu7 => ?_
  subst hu7
  refine SO.b1 ?_
  refine SO.rd fun hr8 => ?_
  refine SO.v rfl (opv_assign rfl) ?_
  refine SO.nil ?_
  refine S.seq ?_
  refine S.block ?_
  refine S.seq ?_
  refine S.region ?_
  refine SO.v rfl (opv_move rfl) ?_
  refine SO.v rfl (opv_eqlFF Tryz.underlying70 rfl rfl) ?_
  refine SO.v rfl (opv_assign rfl) ?_
  refine SO.nil ?_
  refine S.cond_true rfl ?_
  refine S.seq ?_
  refine S.region ?_
  refine SO.v rfl (opv_assign rfl) ?_
  refine SO.nil ?_
  refine S.to (ρ' := [(4, .bool false)]) ⟨rfl, trivial⟩ ?_
  refine S.b10 ?_
  refine S.b3 ?_
  refine S.b2 ?_
  refine S.b3 ?_
  refine S.b6 ?_
  refine S.b10 ?_
  refine S.b8 ?_
  refine S.b10 ?_
  refine S.b10 ?_
  refine S.b10 ?_
  refine S.b10 ?_
  exact S.ret1 Tryz.func29 rfl rfl (fun w hs hk => hR w _ _ ⟨rfl, rfl⟩ hs hk)
end Go.Proofs
set_option linter.unusedVariables false
namespace Go.Proofs
open Go.Sl Go.RowKit
/-! What is asked of a kernel. -/
theorem semp {w : World} {A : HProp} {H : List HProp} (hA : A (fun _ => none)) (h : Sat w H) : Sat w (A :: H) :=
  show stars (A :: H) (hp w) from ⟨fun _ => none, hp w, fun _ => .inl rfl, fun _ _ e => by simp at e, .refl _, hA, h⟩
theorem Sat.openKR {w : World} {bk : Nat} {ns : List Nat} {s : word_Store} {rs : List Int} {H : List HProp} (h : Sat w (KR bk ns s rs :: H)) : ∃ (bm bps br b9 : Nat) (th : Int) (vl vs vr : Value) (G : List FK), FKs G ns ∧
    Sat w ([Box bk [bp bps 0, bp bm 0, .int .i64 th, bp br 0], Box br [vr], Own 3 (ekI .i64) vr rs, Box bm [bp bps 0, vl, .slice none 0 0, .slice none 0 0], OwnPt (NW jvF) 105 vl (G.map FK.val ++ [FnV.mk 20 [bp b9 0]]), Box bps [vs, .int .u32 s.limit], Own 92 ek_api_Cell vs s.l, stars (G.map FK.boxes)] ++ H) := by
  obtain ⟨m1, m2, d, s1, s2, ⟨bm, bps, br, b9, th, vl, vs, vr, G, hG, a⟩, r⟩ := h
  exact ⟨bm, bps, br, b9, th, vl, vs, vr, G, hG, (stars_append _ H (hp w)).2 ⟨m1, m2, d, s1, s2, a, r⟩⟩
/-- A kernel of which only what was raised is still asked. -/
def KQ (bk : Nat) (rs : List Int) : HProp := fun m => ∃ (bm bps br : Nat) (th : Int) (vr : Value), stars [Box bk [bp bps 0, bp bm 0, .int .i64 th, bp br 0], Box br [vr], Own 3 (ekI .i64) vr rs] m
theorem Sat.openKQ {w : World} {bk : Nat} {rs : List Int} {H : List HProp} (h : Sat w (KQ bk rs :: H)) : ∃ (bm bps br : Nat) (th : Int) (vr : Value), Sat w ([Box bk [bp bps 0, bp bm 0, .int .i64 th, bp br 0], Box br [vr], Own 3 (ekI .i64) vr rs] ++ H) := by
  obtain ⟨m1, m2, d, s1, s2, ⟨bm, bps, br, th, vr, a⟩, r⟩ := h
  exact ⟨bm, bps, br, th, vr, (stars_append _ H (hp w)).2 ⟨m1, m2, d, s1, s2, a, r⟩⟩
theorem Sat.closeKQ {w : World} {bk bm bps br : Nat} {th : Int} {vr : Value} {rs : List Int} {H : List HProp} (h : Sat w ([Box bk [bp bps 0, bp bm 0, .int .i64 th, bp br 0], Box br [vr], Own 3 (ekI .i64) vr rs] ++ H)) : Sat w (KQ bk rs :: H) := by
  obtain ⟨m1, m2, d, s1, s2, a, r⟩ := (stars_append _ H (hp w)).1 h
  exact ⟨m1, m2, d, s1, s2, ⟨bm, bps, br, th, vr, a⟩, r⟩
/-- A pick of the first thread, that has no calls. -/
theorem pick0.ct (bk : Nat) (ns : List Nat) (s : word_Store) (rs : List Int) (h0 : ns[0]? = some 0) :
    Ct Tryz.prog 11 [bp bk 0, .int .i64 0] (fun _ => True) [KR bk ns s rs] (fun u H' => ∃ b, u = .bool b ∧ H' = [KQ bk rs]) := by
  intro w F hF hs
  obtain ⟨bm, bps, br, b9, th, vl, vs, vr, G, hG, hs⟩ := Sat.openKR (H := [F]) hs
  obtain ⟨x, G', rfl⟩ : ∃ x G', G = x :: G' := by
    cases G with
    | nil =>
      have := hG.1
      have h1 := (List.getElem?_eq_some_iff.1 h0).1
      simp at this; omega
    | cons x G' => exact ⟨x, G', rfl⟩
  have hx : lenS x.v 0 := hG.2 0 x 0 rfl h0
  have hMM : Ct Tryz.prog 29 [bp bm 0, .int .i64 0] (fun _ => True) [Box bm [bp bps 0, vl, .slice none 0 0, .slice none 0 0], OwnPt (NW jvF) 105 vl ((x :: G').map FK.val ++ [FnV.mk 20 [bp b9 0]]), Box bps [vs, .int .u32 s.limit], Own 92 ek_api_Cell vs s.l, stars ((x :: G').map FK.boxes)] (fun u H' => u = .bool false ∧ H' = []) := by
    intro w F hF hs
    replace hs := Sat.re hs [1, 0, 2, 3, 4, 5] (by kernel_rfl)
    simp only [List.map_cons, List.map_nil, List.getD_cons_zero, List.getD_cons_succ, List.cons_append, List.nil_append] at hs
    obtain ⟨ws, hl, hs⟩ := Sat.openPt hs
    obtain ⟨b0, ws', rfl⟩ : ∃ b ws', ws = b :: ws' := by
      cases ws with
      | nil => simp at hl
      | cons b ws' => exact ⟨b, ws', rfl⟩
    have hs : Sat w ([Own 105 ekP vl (b0 :: ws'), ZipR (NW jvF) (b0 :: ws') ((x :: G').map FK.val ++ [FnV.mk 20 [bp b9 0]]), Box bm [bp bps 0, vl, .slice none 0 0, .slice none 0 0], Box bps [vs, .int .u32 s.limit], Own 92 ek_api_Cell vs s.l, stars ((x :: G').map FK.boxes), F]) := hs
    replace hs := Sat.re hs [1, 0, 2, 3, 4, 5, 6] (by kernel_rfl)
    simp only [List.map_cons, List.map_nil, List.getD_cons_zero, List.getD_cons_succ, List.cons_append, List.nil_append] at hs
    have hs := Sat.focusZ (R := NW jvF) (i := 0) (b := b0) (x := x.val) rfl rfl hs
    have hs : Sat w ([Box b0 [jvF x.val, .nilFunc, .pointer none, .pointer none, .slice none 0 0], ZipH (NW jvF) (b0 :: ws') ((x :: G').map FK.val ++ [FnV.mk 20 [bp b9 0]]) 0, Own 105 ekP vl (b0 :: ws'), Box bm [bp bps 0, vl, .slice none 0 0, .slice none 0 0], Box bps [vs, .int .u32 s.limit], Own 92 ek_api_Cell vs s.l, stars (x.boxes :: G'.map FK.boxes), F]) := hs
    have hs := semp (A := Own 159 ekMd (.slice none 0 0) (([] : List Nat).zip [])) (Own.nil _ _ _) (semp (A := ZipR rep_desc_Desc [] []) (ZipR.nil _) (semp (A := Own 46 ek_stm_Entry (.slice none 0 0) []) (Own.nil _ _ _) (semp (A := Own 3 (ekI .i64) (.slice none 0 0) ([] : List Int)) (Own.nil _ _ _) hs)))
    have hs : Sat w ([Own 159 ekMd (.slice none 0 0) (([] : List Nat).zip []), ZipR rep_desc_Desc [] [], Own 46 ek_stm_Entry (.slice none 0 0) [], Own 3 (ekI .i64) (.slice none 0 0) ([] : List Int), Box b0 [jvF x.val, .nilFunc, .pointer none, .pointer none, .slice none 0 0], ZipH (NW jvF) (b0 :: ws') ((x :: G').map FK.val ++ [FnV.mk 20 [bp b9 0]]) 0, Own 105 ekP vl (b0 :: ws'), Box bm [bp bps 0, vl, .slice none 0 0, .slice none 0 0], Box bps [vs, .int .u32 s.limit], Own 92 ek_api_Cell vs s.l, stars (x.boxes :: G'.map FK.boxes), F]) := hs
    replace hs := Sat.re hs [10, 0, 1, 2, 3, 4, 6, 7, 8, 9, 11] (by kernel_rfl)
    simp only [List.map_cons, List.map_nil, List.getD_cons_zero, List.getD_cons_succ, List.cons_append, List.nil_append] at hs
    have hs : Sat w (([x.boxes] ++ [stars (G'.map FK.boxes)]) ++ [Own 159 ekMd (.slice none 0 0) (([] : List Nat).zip []), ZipR rep_desc_Desc [] [], Own 46 ek_stm_Entry (.slice none 0 0) [], Own 3 (ekI .i64) (.slice none 0 0) ([] : List Int), Box b0 [jvF x.val, .nilFunc, .pointer none, .pointer none, .slice none 0 0], Own 105 ekP vl (b0 :: ws'), Box bm [bp bps 0, vl, .slice none 0 0, .slice none 0 0], Box bps [vs, .int .u32 s.limit], Own 92 ek_api_Cell vs s.l, F]) := by
      obtain ⟨m1, m2, d, s1, s2, a, r⟩ := hs
      obtain ⟨n1, n2, e, t1, t2, p, q⟩ := a
      exact (stars_append _ _ (hp w)).2 ⟨m1, m2, d, s1, s2, ⟨n1, n2, e, t1, t2, p, stars_singleton q⟩, r⟩
    have hs : Sat w ([x.boxes, stars (G'.map FK.boxes), Own 159 ekMd (.slice none 0 0) (([] : List Nat).zip []), ZipR rep_desc_Desc [] [], Own 46 ek_stm_Entry (.slice none 0 0) [], Own 3 (ekI .i64) (.slice none 0 0) ([] : List Int), Box b0 [jvF x.val, .nilFunc, .pointer none, .pointer none, .slice none 0 0], Own 105 ekP vl (b0 :: ws'), Box bm [bp bps 0, vl, .slice none 0 0, .slice none 0 0], Box bps [vs, .int .u32 s.limit], Own 92 ek_api_Cell vs s.l, F]) := hs
    replace hs := Sat.re hs [8, 7, 2, 3, 4, 9, 10, 6, 5, 0, 11] (by kernel_rfl)
    simp only [List.map_cons, List.map_nil, List.getD_cons_zero, List.getD_cons_succ, List.cons_append, List.nil_append] at hs
    have hfeed : ∀ (v : Value) (t : List Int), slices_Clone_int_int.f [] = some t → Ct Tryz.prog 33 (v :: [bp x.b1 0, bp x.b2 0]) (fun F => Rd (ekI .i64) v t F) [x.boxes] (fun u H' => H' = [IsNil u, x.boxes]) := fun v t ht => by
      have : t = [] := by
        have h9 : slices_Clone_int_int.f [] = some [] := rfl
        rw [h9] at ht; injection ht with ht; exact ht.symm
      subst this
      intro w F hF hs
      have hs : Sat w ([Box x.b1 [x.v], Box x.b2 [.int .i64 x.t]] ++ [F]) := by
        obtain ⟨m1, m2, d, s1, s2, a, r⟩ := hs
        exact (stars_append _ _ (hp w)).2 ⟨m1, m2, d, s1, s2, a, r⟩
      refine (Ct.use (kern_feed0.ct v x.v hx x.b1 x.b2 x.t) hs (Rd.head hF)).mono ?_
      rintro e w' ⟨u, H', rfl, ⟨rfl, rfl⟩, hs2, hk⟩
      refine ⟨_, _, rfl, rfl, semp (A := IsNil .nilFunc) rfl ?_, hk⟩
      obtain ⟨m1, m2, d, s1, s2, a, r⟩ := (stars_append _ _ (hp w')).1 hs2
      exact ⟨m1, m2, d, s1, s2, a, r⟩
    have hin : stm_Machine_in.f (b0 :: ws') 0 = some true := by
      unfold stm_Machine_in.f; simp
    refine (Ct.use (l := [F]) (stm_Step_nil.ct [] bm bps vl (.slice none 0 0) (.slice none 0 0) vs s [] [] [] rfl (b0 :: ws') 0 b0 rfl hin (.pointer none) (.pointer none) (.slice none 0 0) [] 33 [bp x.b1 0, bp x.b2 0] x.boxes Tryz.call33 hfeed rfl) hs trivial).mono ?_
    rintro e w' ⟨u, H', rfl, ⟨rfl, rfl⟩, hs2, hk⟩
    refine ⟨_, _, rfl, ⟨rfl, rfl⟩, ?_, hk⟩
    replace hs2 := Sat.re hs2 [10] (by kernel_rfl)
    simp only [List.map_cons, List.map_nil, List.getD_cons_zero, List.getD_cons_succ, List.cons_append, List.nil_append] at hs2
    exact hs2
  have hst : Ct Tryz.prog 29 [bp bm 0, .int .i64 0] (fun _ => True) [stars [Box bm [bp bps 0, vl, .slice none 0 0, .slice none 0 0], OwnPt (NW jvF) 105 vl ((x :: G').map FK.val ++ [FnV.mk 20 [bp b9 0]]), Box bps [vs, .int .u32 s.limit], Own 92 ek_api_Cell vs s.l, stars ((x :: G').map FK.boxes)]] (fun u H' => u = .bool false ∧ H' = []) := fun w F hF hs => hMM w F hF (by
    obtain ⟨m1, m2, d, s1, s2, a, r⟩ := hs
    exact (stars_append _ _ (hp w)).2 ⟨m1, m2, d, s1, s2, a, r⟩)
  replace hs := Sat.re hs [3, 4, 5, 6, 7, 0, 1, 2, 8] (by kernel_rfl)
  simp only [List.map_cons, List.map_nil, List.getD_cons_zero, List.getD_cons_succ, List.cons_append, List.nil_append] at hs
  have hs : Sat w (stars [Box bm [bp bps 0, vl, .slice none 0 0, .slice none 0 0], OwnPt (NW jvF) 105 vl ((x :: G').map FK.val ++ [FnV.mk 20 [bp b9 0]]), Box bps [vs, .int .u32 s.limit], Own 92 ek_api_Cell vs s.l, stars ((x :: G').map FK.boxes)] :: [Box bk [bp bps 0, bp bm 0, .int .i64 th, bp br 0], Box br [vr], Own 3 (ekI .i64) vr rs, F]) := by
    obtain ⟨m1, m2, d, s1, s2, a, r⟩ := (stars_append [_, _, _, _, _] _ (hp w)).1 hs
    exact ⟨m1, m2, d, s1, s2, a, r⟩
  replace hs := Sat.re hs [1, 0, 2, 3, 4] (by kernel_rfl)
  simp only [List.map_cons, List.map_nil, List.getD_cons_zero, List.getD_cons_succ, List.cons_append, List.nil_append] at hs
  refine (Ct.use (pre := [_, _]) (l := [_, _, F]) (kern_pick.ct bk bps bm br th 0 false _ hst) hs trivial).mono ?_
  rintro e w' ⟨u, H', rfl, ⟨rfl, rfl⟩, hs2, hk⟩
  exact ⟨_, _, rfl, ⟨_, rfl, rfl⟩, Sat.closeKQ (H := [F]) hs2, hk⟩
theorem raise.ct (bk : Nat) (rs : List Int) (obj : Int) (r0 : List Int) (h : kern_raise.f rs obj = some r0) :
    Ct Tryz.prog 12 [bp bk 0, .int .i64 obj] (fun _ => True) [KQ bk rs] (fun u H' => u = .tuple #[] ∧ H' = [KQ bk r0]) := by
  intro w F hF hs
  obtain ⟨bm, bps, br, th, vr, hs⟩ := Sat.openKQ (H := [F]) hs
  refine (Ct.use (pre := [_, _, _]) (l := [F]) (kern_raise.ct bk bps bm br th vr rs obj r0 h) hs trivial).mono ?_
  rintro e w' ⟨u, H', rfl, ⟨v, rfl, rfl⟩, hs2, hk⟩
  exact ⟨_, _, rfl, ⟨rfl, rfl⟩, Sat.closeKQ (H := [F]) hs2, hk⟩

end Go.Proofs
set_option linter.unusedVariables false
namespace Go.Proofs
open Go.Sl Go.RowKit
/-! A kernel of threads without calls, made. -/
def newUp (k : Nat) (ws : List Int) (lim : Int) (cs : List (List (List Int))) : Option Unit := (kernel_New.f k ws lim cs).bind fun r => bif r.1.isNone && (r.2.2[0]? == some 0) then some () else none
theorem newUp.ct (k : Nat) (v0 v2 : Value) (ws : List Int) (lim : Int) (cs : List (List (List Int))) (h : newUp k ws lim cs = some ()) :
    Ct Tryz.prog 6 [.agg #[v0, .int .u32 lim, v2]] (fun F => Rd (ekI .u64) v0 ws F ∧ Rd3 (ekI .u64) v2 cs F) [] (fun u H' => ∃ (bk : Nat) (ns : List Nat) (s : word_Store), u = .tuple #[bp bk 0, errV 42 none] ∧ H' = [KR bk ns s []] ∧ ns[0]? = some 0) := by
  unfold newUp at h
  obtain ⟨⟨e, s, ns⟩, h1, h⟩ := opt_bind h
  cases hc : ((e, s, ns).1.isNone && ((e, s, ns).2.2[0]? == some 0)) with
  | false => rw [hc] at h; cases h
  | true =>
    simp only [Bool.and_eq_true, beq_iff_eq] at hc
    obtain ⟨h2, h3⟩ := hc
    cases e with
    | some c => cases h2
    | none =>
      intro w F hF hs
      refine (kernel_New.ct k v0 v2 ws lim cs none s ns h1 w F hF hs).mono ?_
      rintro e w' ⟨u, H', rfl, ⟨bk, rfl, rfl⟩, hs2, hk⟩
      exact ⟨_, _, rfl, ⟨bk, ns, s, rfl, rfl, h3⟩, hs2, hk⟩

end Go.Proofs
set_option linter.unusedVariables false
namespace Go.Proofs
open Go.Sl Go.RowKit
theorem inf3_replay_Picks_up : Tryz.prog.info? 3 = some Tryz.t3 := by kernel_rfl
/-! 5 padstone/replay.Picks -/
def replay_Picks_up.f (k : Nat) (ws : List Int) (lim : Int) (cs : List (List (List Int))) : Option (List Int) :=
  (newUp k ws lim cs).bind fun _ => (kern_raise.f [] 6).bind fun t5 => (app ([]) ([6])).bind fun zs9 => some zs9
set_option maxHeartbeats 8000000 in
set_option maxRecDepth 100000 in
theorem replay_Picks_up.ct (k : Nat) (vp : Value) (v0 v2 : Value) (ws : List Int) (lim : Int) (cs : List (List (List Int))) (r0 : List Int) (h : replay_Picks_up.f k ws lim cs = some r0) :
    Ct Tryz.prog 5 [.agg #[v0, .int .u32 lim, v2], vp] (fun F => Rd (ekI .u64) v0 ws F ∧ Rd3 (ekI .u64) v2 cs F ∧ Rd (ekI .i64) vp [0, -7] F) [] (fun u H' => ∃ bk v, u = .tuple #[bp bk 0, v, errV 42 none] ∧ H' = [Own 3 (ekI .i64) v r0]) := by
  unfold replay_Picks_up.f at h
  refine Ct.intro (n := 47) Tryz.func5 rfl rfl rfl ?_
  intro R w0 F hF hR
  obtain ⟨hF0, hF2, hFp⟩ := hF
  obtain ⟨vs2, hF2, hl2, hR2⟩ := hF2
  refine S.seq ?_
  refine S.region ?_
  refine SO.box rfl rfl rfl (fun b1 => ?_)
  refine SO.v rfl (opv_assign rfl) ?_
  refine SO.v rfl (opv_assign rfl) ?_
  refine SO.v rfl (opv_assign rfl) ?_
  refine SO.nil ?_
  refine S.seq ?_
  refine S.seq ?_
  refine S.region ?_
  refine SO.v rfl (opv_move rfl) ?_
  refine SO.veq (v' := .int .i64 2) rfl (opv_lenR rfl Tryz.underlying29 hFp rfl) rfl ?_
  refine SO.veq (v' := .bool false) rfl (opv_gtr rfl rfl) rfl ?_
  refine SO.nil ?_
  refine S.cond_false rfl ?_
  refine S.skip ?_
  refine S.seq ?_
  refine S.region ?_
  refine SO.loadN rfl Tryz.isAgg26 Tryz.sizeOf26 rfl rfl rfl ?_
  obtain ⟨_, ht2, h⟩ := opt_bind h
  refine SO.call (pre := []) rfl Tryz.call6 rfl rfl rfl (newUp.ct k v0 v2 ws lim cs ht2) ⟨(Rd.tail (Rd.head hF0)), (Rd3.tail (Rd3.head ⟨_, hF2, hl2, hR2⟩))⟩ ?_
  rintro _ _ ⟨bk, ns_, s_, rfl, rfl, hns3⟩
  refine SO.v rfl (opv_move rfl) ?_
  refine SO.v rfl (opv_extract rfl rfl) ?_
  refine SO.v rfl (opv_extract rfl rfl) ?_
  refine SO.v rfl (opv_assign rfl) ?_
  refine SO.v rfl (opv_assign rfl) ?_
  refine SO.nil ?_
  refine S.to (ρ' := [(1, vp), (4, .pointer none), (5, .slice none 0 0), (6, errV 42 none), (7, bp bk 0), (8, errV 42 (none : Option Int))]) ⟨rfl, rfl, rfl, rfl, rfl, rfl, trivial⟩ ?_
  refine S.seq ?_
  refine S.seq ?_
  refine S.region ?_
  refine SO.v rfl (opv_move rfl) ?_
  refine SO.veq (v' := .bool false) rfl (opv_neqN (e := (none : Option Int)) Tryz.underlying31 rfl) rfl ?_
  refine SO.nil ?_
  refine S.cond_false rfl ?_
  refine S.skip ?_
  refine S.seq ?_
  refine S.region ?_
  refine SO.v rfl (opv_assign rfl) ?_
  refine SO.nil ?_
  refine S.seq ?_
  refine S.seq ?_
  refine S.region ?_
  refine SO.v rfl (opv_move rfl) ?_
  refine SO.veq (v' := .int .i64 2) rfl (opv_lenR rfl Tryz.underlying29 hFp rfl) rfl ?_
  refine SO.v rfl (opv_move rfl) ?_
  refine SO.nil ?_
  refine S.block ?_
  refine S.loop ?_
  refine S.seq ?_
  refine S.region ?_
  refine SO.veq (v' := .bool true) rfl (opv_lss rfl rfl) rfl ?_
  refine SO.nil ?_
  refine S.seq ?_
  refine S.cond_true rfl ?_
  refine S.skip ?_
  refine S.seq ?_
  refine S.block ?_
  refine S.seq ?_
  refine S.region ?_
  refine SO.v rfl (opv_idx Tryz.underlying29 Tryz.sizeOf3 hFp rfl rfl (rfl : at_ [0, -7] 0 = some 0)) ?_
  refine SO.loadI1 (j := 0) rfl Tryz.isAgg3 (Rd.tail (Rd.tail (Rd.head hFp))) (rfl : at_ [0, -7] 0 = some 0) rfl rfl rfl rfl ?_
  refine SO.v rfl (opv_assign rfl) ?_
  refine SO.nil ?_
  refine S.seq ?_
  refine S.seq ?_
  refine S.region ?_
  refine SO.v rfl (opv_move rfl) ?_
  refine SO.veq (v' := .bool true) rfl (opv_geq rfl rfl) rfl ?_
  refine SO.nil ?_
  refine S.cond_true rfl ?_
  refine S.seq ?_
  refine S.region ?_
  refine SO.v rfl (opv_move rfl) ?_
  refine SO.v rfl (opv_move rfl) ?_
  refine SO.call (pre := [KR _ _ _ _]) rfl Tryz.call11 rfl rfl rfl (pick0.ct bk ns_ s_ [] hns3) trivial ?_
  rintro _ _ ⟨c4, rfl, rfl⟩
  refine SO.nil ?_
  refine S.exit rfl ?_
  refine S.region ?_
  refine SO.veq (v' := .int .i64 1) rfl (opv_add rfl rfl) rfl ?_
  refine SO.v rfl (opv_move rfl) ?_
  refine SO.nil ?_
  refine S.again ?_
  refine S.seq ?_
  refine S.region ?_
  refine SO.veq (v' := .bool true) rfl (opv_lss rfl rfl) rfl ?_
  refine SO.nil ?_
  refine S.to (ρ' := [(4, .pointer none), (5, .slice none 0 0), (6, errV 42 none), (7, bp bk 0), (9, .slice none 0 0), (24, vp), (25, .int .i64 2), (26, .int .i64 1), (27, .bool true), (32, bp bk 0), (33, .int .i64 0)]) ⟨rfl, rfl, rfl, rfl, rfl, rfl, rfl, rfl, rfl, rfl, rfl, trivial⟩ ?_
  refine S.seq ?_
  refine S.cond_true rfl ?_
  refine S.skip ?_
  refine S.seq ?_
  refine S.block ?_
  refine S.seq ?_
  refine S.region ?_
  refine SO.v rfl (opv_idx Tryz.underlying29 Tryz.sizeOf3 hFp rfl rfl (rfl : at_ [0, -7] 1 = some (-7))) ?_
  refine SO.loadI1 (j := 0) rfl Tryz.isAgg3 (Rd.tail (Rd.tail (Rd.head hFp))) (rfl : at_ [0, -7] 1 = some (-7)) rfl rfl rfl rfl ?_
  refine SO.v rfl (opv_assign rfl) ?_
  refine SO.nil ?_
  refine S.seq ?_
  refine S.seq ?_
  refine S.region ?_
  refine SO.v rfl (opv_move rfl) ?_
  refine SO.veq (v' := .bool false) rfl (opv_geq rfl rfl) rfl ?_
  refine SO.nil ?_
  refine S.cond_false rfl ?_
  refine S.skip ?_
  refine S.seq ?_
  refine S.region ?_
  refine SO.v rfl (opv_move rfl) ?_
  refine SO.v rfl (opv_move rfl) ?_
  refine SO.veq (v' := .int .i64 6) rfl (opv_sub rfl rfl) rfl ?_
  obtain ⟨t5, ht6, h⟩ := opt_bind h
  refine SO.call (pre := [KQ _ _]) rfl Tryz.call12 rfl rfl rfl (raise.ct bk [] 6 t5 ht6) trivial ?_
  rintro _ _ ⟨rfl, rfl⟩
  refine SO.nil ?_
  refine S.region ?_
  refine SO.v rfl (opv_move rfl) ?_
  refine SO.v rfl (opv_move rfl) ?_
  refine SO.veq (v' := .int .i64 6) rfl (opv_sub rfl rfl) rfl ?_
  refine SO.buildSlice (K := ekI .i64) (xs := [6]) (cs := [.int .i64 6]) rfl Tryz.underlying29 Tryz.sizeOf3 Tryz.zeroValue3 rfl rfl rfl (by kernel_rfl) rfl rfl rfl (fun v7 hr8 => ?_)
  obtain ⟨zs9, hz10, h⟩ := opt_bind h
  refine SO.newOwn 3 (ekI .i64) ?_
  refine SO.append rfl Tryz.underlying29 Tryz.underlying29 inf3_replay_Picks_up rfl rfl rfl (by decide) rfl rfl rfl (Rd.head hr8) hz10 (fun v11 => ?_)
  refine SO.rd fun hr12 => ?_
  refine SO.v rfl (opv_assign rfl) ?_
  refine SO.nil ?_
  refine S.inBlock ?_
  refine S.region ?_
  refine SO.veq (v' := .int .i64 2) rfl (opv_add rfl rfl) rfl ?_
  refine SO.v rfl (opv_move rfl) ?_
  refine SO.nil ?_
  refine S.again ?_
  refine S.seq ?_
  refine S.region ?_
  refine SO.veq (v' := .bool false) rfl (opv_lss rfl rfl) rfl ?_
  refine SO.nil ?_
  refine S.to (ρ' := [(4, .pointer none), (5, .slice none 0 0), (6, errV 42 none), (7, bp bk 0), (9, v11), (24, vp), (25, .int .i64 2), (26, .int .i64 2), (27, .bool false), (32, bp bk 0), (33, .int .i64 0), (35, bp bk 0), (36, .int .i64 (-7)), (37, .int .i64 6), (39, .slice none 0 0), (40, .int .i64 (-7)), (41, .int .i64 6), (42, v7), (43, v11)]) ⟨rfl, rfl, rfl, rfl, rfl, rfl, rfl, rfl, rfl, rfl, rfl, rfl, rfl, rfl, rfl, rfl, rfl, rfl, rfl, trivial⟩ ?_
  refine S.seq ?_
  refine S.cond_false rfl ?_
  refine S.exit rfl ?_
  refine S.seq ?_
  refine S.region ?_
  refine SO.v rfl (opv_move rfl) ?_
  refine SO.v rfl (opv_move rfl) ?_
  refine SO.v rfl (opv_assign rfl) ?_
  refine SO.v rfl (opv_assign rfl) ?_
  refine SO.v rfl (opv_assign rfl) ?_
  refine SO.nil ?_
  refine S.to (ρ' := [(4, bp bk 0), (5, v11), (6, errV 42 none)]) ⟨rfl, rfl, rfl, trivial⟩ ?_
  cases h
  refine S.b1 ?_
  refine S.drop ?_
  refine S.b1 ?_
  refine S.drop ?_
  refine S.b1 ?_
  refine S.drop ?_
  refine S.b1 ?_
  refine S.b1 ?_
  exact S.ret3 Tryz.func5 rfl rfl rfl rfl (fun w hs hk => hR w _ _ ⟨bk, v11, rfl, rfl⟩ hs hk)
end Go.Proofs
set_option linter.unusedVariables false
namespace Go.Proofs
open Go.Sl Go.RowKit

/-! 23 padstone/replay.Run$1 -/
def kern_next0.f (ts : List (List Int)) : Option (Unit) :=
  (at_ ts 0).bind fun x11 => (slices_Clone_int_int.f x11).bind fun t19 => (chk (decide (t19 = []))).bind fun _ => some ()
set_option maxHeartbeats 8000000 in
set_option maxRecDepth 100000 in
theorem kern_next0.ct (bth bbo bto bra : Nat) (v0 v2 vt : Value) (lim : Int) (ts : List (List Int)) (h : kern_next0.f ts = some ()) :
    Ct Tryz.prog 23 [.int .i64 0, bp bth 0, bp bbo 0, bp bto 0, bp bra 0] (fun F => Rd3 (ekI .u64) v2 [[]] F) [Box bth [.int .i64 1], Box bbo [v0, .int .u32 lim, v2], Box bto [vt], OwnR 29 (krS (ekI .i64)) vt ts] (fun u H' => u = .nilFunc ∧ H' = []) := by
  unfold kern_next0.f at h
  refine Ct.intro (n := 51) Tryz.func23 rfl rfl rfl ?_
  intro R w0 F hF hR
  obtain ⟨vs2, hF2, hl2, hR2⟩ := hF
  refine S.seq ?_
  refine S.region ?_
  refine SO.v rfl (opv_assign rfl) ?_
  refine SO.nil ?_
  refine S.seq ?_
  refine S.block ?_
  refine S.seq ?_
  refine S.region ?_
  refine SO.v rfl (opv_move rfl) ?_
  refine SO.veq (v' := .bool true) rfl (opv_geq rfl rfl) rfl ?_
  refine SO.v rfl (opv_move rfl) ?_
  refine SO.takeT rfl rfl rfl rfl ?_
  refine SO.v rfl (opv_move rfl) ?_
  refine SO.takeT rfl rfl rfl rfl ?_
  refine SO.load1 rfl Tryz.isAgg3 rfl rfl ?_
  refine SO.takeT rfl rfl rfl rfl ?_
  refine SO.veq (v' := .bool true) rfl (opv_lss rfl rfl) rfl ?_
  refine SO.v rfl (opv_pick_tt rfl rfl) ?_
  refine SO.v rfl (opv_assign rfl) ?_
  refine SO.nil ?_
  refine S.to (ρ' := [(0, .int .i64 0), (1, bp bth 0), (2, bp bbo 0), (3, bp bto 0), (4, bp bra 0), (6, .nilFunc), (7, .bool true)]) ⟨rfl, rfl, rfl, rfl, rfl, rfl, rfl, trivial⟩ ?_
  refine S.cond_true rfl ?_
  refine S.seq ?_
  refine S.b3 ?_
  refine S.openR fun raws1 A2 hrel3 hR4 => ?_
  obtain ⟨y5, hy6, hr8⟩ := Rd3.at_ (i := 0) (l := []) hl2 hR2 rfl
  have hq7 : lenS y5.1 0 := by obtain ⟨ws_, k1_, k2_, _⟩ := hr8; have q_ := lenS.of_rd k1_; rw [k2_] at q_; exact q_
  obtain ⟨x11, hx12, h⟩ := opt_bind h
  obtain ⟨r13, hr14, hc15⟩ := relR.at hrel3 hx12
  obtain ⟨u16, hu17, hru18⟩ := hc15.sl 0 rfl
  obtain ⟨t19, ht20, h⟩ := opt_bind h
  obtain ⟨_, hc24, h⟩ := opt_bind h
  refine S.draw2 (Y := fun Q => ∃ (_ _ _ _ _ _ _ _ : Unit), Q [(2, bp bbo 0), (0, .int .i64 0), (3, bp bto 0)] [OwnO 29 (krS (ekI .i64)) vt raws1 A2 ts, Box bth [.int .i64 1], Box bbo [v0, .int .u32 lim, v2], Box bto [vt], F]) (Z := fun Q => ∀ (_ : Unit) (v21 : Value) (g_2 : (Nat × Nat)) (_ _ _ _ _ : Unit), Q [(6, .nilFunc), (26, v21), (21, .func (.func 33) #[] #[bp g_2.1 0, bp g_2.2 0])] [Own 3 (ekI .i64) v21 t19, Box g_2.1 [y5.1], Box g_2.2 [.int .i64 0], OwnO 29 (krS (ekI .i64)) vt raws1 A2 ts, Box bth [.int .i64 1], Box bbo [v0, .int .u32 lim, v2], Box bto [vt], F]) (T := [tS 2 (bp bbo 0), tS 0 (.int .i64 0), tS 3 (bp bto 0), tR (OwnO 29 (krS (ekI .i64)) vt raws1 A2 ts), tR (Box bth [.int .i64 1]), tR (Box bbo [v0, .int .u32 lim, v2]), tR (Box bto [vt]), tR (F), tS 15 (bp bbo 2), tS 16 (v2), tS 17 (.int .i64 0), tS 18 (idxp v2 ((0 : Int).toNat * ekS.sz)), tS 19 (y5.1), tS 20 (.int .i64 0), ⟨(Nat × Nat), [21], (fun x => match x with | (b9, b10) => [(21, .func (.func 33) #[] #[bp b9 0, bp b10 0])]), (fun x => match x with | (b9, b10) => [Box b9 [y5.1], Box b10 [.int .i64 0]]), fun _ => rfl⟩, tS 22 (vt), tS 23 (.int .i64 0), tS 24 (idxp vt ((0 : Int).toNat * (krS (ekI .i64)).sz)), tS 25 (u16), ⟨Value, [26], (fun v21 => [(26, v21)]), (fun v21 => [Own 3 (ekI .i64) v21 t19]), fun _ => rfl⟩, tS 27 (.nilFunc), tS 6 (.nilFunc)]) (D := [⟨[0], [], [8]⟩, ⟨[8, 5], [], [9]⟩, ⟨[1], [], [10]⟩, ⟨[9, 10, 7], [], [11]⟩, ⟨[11, 7], [], [12]⟩, ⟨[1], [], [13]⟩, ⟨[12, 13], [], [14]⟩, ⟨[2, 6], [], [15]⟩, ⟨[1], [], [16]⟩, ⟨[15, 16, 3], [], [17]⟩, ⟨[17, 3], [], [18]⟩, ⟨[18, 3], [], [19]⟩, ⟨[14, 19], [], [20]⟩, ⟨[20], [], [21]⟩]) (ini := [0, 1, 2, 3, 4, 5, 6, 7]) (fin := [21, 19, 14, 3, 4, 5, 6, 7]) (bf := [[], [0], [], [0, 1, 2], [0, 1, 2, 3], [], [0, 1, 2, 3, 4, 5], [], [], [7, 8], [7, 8, 9], [0, 1, 2, 3, 4, 5, 6, 7, 8, 9, 10], [0, 1, 2, 3, 4, 5, 6, 7, 8, 9, 10, 11], [0, 1, 2, 3, 4, 5, 6, 7, 8, 9, 10, 11, 12]]) (by kernel_rfl) (by kernel_rfl) (fun Q => by kernel_rfl) (fun x w h1 h2 => ⟨(), (), (), (), (), (), (), (), EnvAll.of h1 ⟨rfl, rfl, rfl, trivial⟩, h2⟩) (fun Q => by kernel_rfl) ⟨?_, ?_, ?_, ?_, ?_, ?_, ?_, ?_, ?_, ?_, ?_, ?_, ?_, ?_, trivial⟩ ?_
  · rintro Fr _
    refine SO.v rfl (opv_fieldAddr Tryz.underlying26 rfl Tryz.sizeOf24 rfl rfl) ?_
    exact SO.nilZ fun a w h1 h2 h3 h4 h5 => PZ.of h1 h3 h5 (.cons () (.cons () (.nil ⟨EnvAll.of h2 ⟨rfl, rfl, trivial⟩, h4⟩)))
  · rintro Fr _ _
    refine SO.load1 rfl Tryz.isAgg24 rfl rfl ?_
    exact SO.nilZ fun a w h1 h2 h3 h4 h5 => PZ.of h1 h3 h5 (.cons () (.cons () (.cons () (.nil ⟨EnvAll.of h2 ⟨rfl, rfl, trivial⟩, h4⟩))))
  · rintro Fr _
    refine SO.v rfl (opv_move rfl) ?_
    exact SO.nilZ fun a w h1 h2 h3 h4 h5 => PZ.of h1 h3 h5 (.cons () (.cons () (.nil ⟨EnvAll.of h2 ⟨rfl, rfl, trivial⟩, h4⟩)))
  · rintro Fr _ _ _
    refine SO.v rfl (opv_idx (K := ekS) Tryz.underlying24 Tryz.sizeOf52 hF2 rfl rfl hy6) ?_
    exact SO.nilZ fun a w h1 h2 h3 h4 h5 => PZ.of h1 h3 h5 (.cons () (.cons () (.cons () (.cons () (.nil ⟨EnvAll.of h2 ⟨rfl, rfl, rfl, trivial⟩, h4⟩)))))
  · rintro Fr _ _
    refine SO.loadI1 (j := 0) (K := ekS) rfl Tryz.isAgg52 (Rd.head hF2) hy6 rfl rfl rfl rfl ?_
    exact SO.nilZ fun a w h1 h2 h3 h4 h5 => PZ.of h1 h3 h5 (.cons () (.cons () (.cons () (.nil ⟨EnvAll.of h2 ⟨rfl, rfl, trivial⟩, h4⟩))))
  · rintro Fr _
    refine SO.v rfl (opv_move rfl) ?_
    exact SO.nilZ fun a w h1 h2 h3 h4 h5 => PZ.of h1 h3 h5 (.cons () (.cons () (.nil ⟨EnvAll.of h2 ⟨rfl, rfl, trivial⟩, h4⟩)))
  · rintro Fr _ _
    refine SO.call (pre := []) rfl Tryz.call19 rfl rfl rfl (kernel_Feed.ct y5.1 hq7.one 0) trivial ?_
    rintro _ _ ⟨b9, b10, rfl, rfl⟩
    refine SO.b1 ?_
    refine SO.b1 ?_
    exact SO.nilZ fun a w h1 h2 h3 h4 h5 => PZ.of h1 h3 h5 (.cons () (.cons () (.cons (b9, b10) (.nil ⟨EnvAll.of h2 ⟨rfl, rfl, rfl, trivial⟩, h4⟩))))
  · rintro Fr _ _
    refine SO.load1 rfl Tryz.isAgg75 rfl rfl ?_
    exact SO.nilZ fun a w h1 h2 h3 h4 h5 => PZ.of h1 h3 h5 (.cons () (.cons () (.cons () (.nil ⟨EnvAll.of h2 ⟨rfl, rfl, trivial⟩, h4⟩))))
  · rintro Fr _
    refine SO.v rfl (opv_move rfl) ?_
    exact SO.nilZ fun a w h1 h2 h3 h4 h5 => PZ.of h1 h3 h5 (.cons () (.cons () (.nil ⟨EnvAll.of h2 ⟨rfl, rfl, trivial⟩, h4⟩)))
  · rintro Fr _ _ _
    refine SO.v rfl (opv_idx Tryz.underlying75 Tryz.sizeOf29 hR4 rfl rfl hr14) ?_
    exact SO.nilZ fun a w h1 h2 h3 h4 h5 => PZ.of h1 h3 h5 (.cons () (.cons () (.cons () (.cons () (.nil ⟨EnvAll.of h2 ⟨rfl, rfl, rfl, trivial⟩, h4⟩)))))
  · rintro Fr _ _
    refine SO.loadI1 (j := 0) rfl Tryz.isAgg29 (Rd.head hR4) hr14 rfl rfl rfl hu17 ?_
    exact SO.nilZ fun a w h1 h2 h3 h4 h5 => PZ.of h1 h3 h5 (.cons () (.cons () (.cons () (.nil ⟨EnvAll.of h2 ⟨rfl, rfl, trivial⟩, h4⟩))))
  · rintro Fr _ _
    refine SO.call (pre := []) rfl Tryz.call24 rfl rfl rfl (slices_Clone_int_int.ct u16 _ _ ht20) (Rd.head (Rd.pool hru18)) ?_
    rintro v21 _ ⟨_, rfl, rfl⟩
    refine SO.rd fun hr22 => ?_
    refine SO.b1 ?_
    exact SO.nilZ fun a w h1 h2 h3 h4 h5 => PZ.of h1 h3 h5 (.cons () (.cons () (.cons v21 (.nil ⟨EnvAll.of h2 ⟨rfl, rfl, trivial⟩, h4⟩))))
  · rintro Fr ⟨b9, b10⟩ v21
    refine SO.b2 ?_
    refine SO.rd fun hr23 => ?_
    refine SO.b2 ?_
    refine SO.b2 ?_
    refine SO.call (pre := [Box _ _, Box _ _]) rfl Tryz.call33 rfl rfl rfl (kern_feed0.ct v21 y5.1 hq7 b9 b10 0) ((of_decide_eq_true (chk_some hc24)) ▸ (Rd.head hr23)) ?_
    rintro _ _ ⟨rfl, rfl⟩
    refine SO.b2 ?_
    refine SO.b2 ?_
    refine SO.b2 ?_
    exact SO.nilZ fun a w h1 h2 h3 h4 h5 => PZ.of h1 h3 h5 (.cons (b9, b10) (.cons v21 (.cons () (.nil ⟨EnvAll.of h2 ⟨rfl, rfl, rfl, trivial⟩, h4⟩))))
  · rintro Fr _
    refine SO.v rfl (opv_assign rfl) ?_
    exact SO.nilZ fun a w h1 h2 h3 h4 h5 => PZ.of h1 h3 h5 (.cons () (.cons () (.nil ⟨EnvAll.of h2 ⟨rfl, rfl, trivial⟩, h4⟩)))
  rintro _ v21 ⟨b9, b10⟩ _ _ _ _ _
  refine S.to (ρ' := [(6, .nilFunc)]) ⟨rfl, trivial⟩ ?_
  refine S.rd fun hr25 => ?_
  cases h
  refine S.b3 ?_
  refine S.closeR ?_
  refine S.drop ?_
  refine S.drop ?_
  refine S.drop ?_
  refine S.drop ?_
  refine S.drop ?_
  refine S.drop ?_
  refine S.drop ?_
  exact S.ret1 Tryz.func23 rfl rfl (fun w hs hk => hR w _ _ ⟨rfl, rfl⟩ hs hk)
end Go.Proofs
set_option linter.unusedVariables false
namespace Go.Proofs
open Go.Sl Go.RowKit
theorem inf29_replay_Run_up : Tryz.prog.info? 29 = some Tryz.t29 := by kernel_rfl
theorem inf58_replay_Run_up : Tryz.prog.info? 58 = some Tryz.t58 := by kernel_rfl
/-! 7 padstone/replay.Run -/
def replay_Run_up.f (k : Nat) (ws : List Int) (lim : Int) : Option (Unit) :=
  (newUp k ws lim [[]]).bind fun _ => (lay_Size.f ).bind fun t6 => (mk_ (0 : Int) t6).bind fun xs10 => (mk_ ([] : List Int) 2).bind fun xs16 => (kern_next0.f xs16).bind fun _ => some ()
set_option maxHeartbeats 8000000 in
set_option maxRecDepth 100000 in
theorem replay_Run_up.ct (k : Nat) (vg v0 v2 : Value) (ws : List Int) (lim : Int) (h : replay_Run_up.f k ws lim = some ()) :
    Ct Tryz.prog 7 [.agg #[v0, .int .u32 lim, v2], .slice none 0 0, vg] (fun F => Rd (ekI .u64) v0 ws F ∧ Rd3 (ekI .u64) v2 [[]] F ∧ Rd ek_stm_Entry vg [⟨0, 0, 0, false⟩] F) [] (fun u H' => u = .tuple #[.agg #[.slice none 0 0, .slice none 0 0], errV 42 (some 10)] ∧ H' = []) := by
  unfold replay_Run_up.f at h
  refine Ct.intro (n := 111) Tryz.func7 rfl rfl rfl ?_
  intro R w0 F hF hR
  obtain ⟨hF0, hF2, hFg⟩ := hF
  obtain ⟨vs2, hF2, hl2, hR2⟩ := hF2
  refine S.seq ?_
  refine S.region ?_
  refine SO.box rfl rfl rfl (fun b1 => ?_)
  refine SO.box rfl rfl rfl (fun b2 => ?_)
  refine SO.alloc rfl Tryz.zeroValue38 rfl (fun b3 => ?_)
  refine SO.v rfl (opv_assign rfl) ?_
  refine SO.nil ?_
  refine S.seq ?_
  refine S.seq ?_
  refine S.region ?_
  refine SO.b2 ?_
  refine SO.loadN rfl Tryz.isAgg26 Tryz.sizeOf26 rfl rfl rfl ?_
  obtain ⟨_, ht4, h⟩ := opt_bind h
  refine SO.call (pre := []) rfl Tryz.call6 rfl rfl rfl (newUp.ct k v0 v2 ws lim [[]] ht4) ⟨(Rd.tail (Rd.tail (Rd.tail (Rd.head hF0)))), (Rd3.tail (Rd3.tail (Rd3.tail (Rd3.head ⟨_, hF2, hl2, hR2⟩))))⟩ ?_
  rintro _ _ ⟨bk, ns_, s_, rfl, rfl, hns5⟩
  refine SO.v rfl (opv_move rfl) ?_
  refine SO.v rfl (opv_extract rfl rfl) ?_
  refine SO.v rfl (opv_extract rfl rfl) ?_
  refine SO.v rfl (opv_assign rfl) ?_
  refine SO.v rfl (opv_assign rfl) ?_
  refine SO.nil ?_
  refine S.to (ρ' := [(2, vg), (3, bp b1 0), (4, bp b2 0), (6, bp b3 0), (7, errV 42 none), (9, errV 42 (none : Option Int))]) ⟨rfl, rfl, rfl, rfl, rfl, rfl, trivial⟩ ?_
  refine S.seq ?_
  refine S.region ?_
  refine SO.v rfl (opv_move rfl) ?_
  refine SO.veq (v' := .bool false) rfl (opv_neqN (e := (none : Option Int)) Tryz.underlying31 rfl) rfl ?_
  refine SO.nil ?_
  refine S.cond_false rfl ?_
  refine S.skip ?_
  refine S.seq ?_
  refine S.region ?_
  obtain ⟨t6, ht7, h⟩ := opt_bind h
  refine SO.call (pre := []) rfl Tryz.call16 rfl rfl rfl (lay_Size.ct _ ht7) trivial ?_
  rintro _ _ ⟨rfl, rfl⟩
  obtain ⟨xs10, hx11, h⟩ := opt_bind h
  refine SO.makeSlice (K := ekI .u64) rfl Tryz.underlying74 inf58_replay_Run_up rfl rfl rfl (by decide) rfl rfl rfl hx11 (fun v8 hr9 => ?_)
  refine SO.v rfl (opv_assign rfl) ?_
  refine SO.nil ?_
  refine S.seq ?_
  refine S.region ?_
  refine SO.v rfl (opv_move rfl) ?_
  refine SO.v rfl (opv_fieldAddr Tryz.underlying26 rfl Tryz.sizeOf22 rfl rfl) ?_
  refine SO.b2 ?_
  refine SO.load1 rfl Tryz.isAgg22 rfl rfl ?_
  refine SO.b1 ?_
  refine SO.copy rfl Tryz.underlying74 Tryz.sizeOf58 rfl rfl (Rd.tail (Rd.tail (Rd.tail (Rd.tail (Rd.head hF0))))) ?_
  refine SO.rd fun hr12 => ?_
  refine SO.nil ?_
  refine S.to (ρ' := [(2, vg), (3, bp b1 0), (4, bp b2 0), (6, bp b3 0), (7, errV 42 none), (10, v8)]) ⟨rfl, rfl, rfl, rfl, rfl, rfl, trivial⟩ ?_
  refine S.seq ?_
  refine S.region ?_
  refine SO.v rfl (opv_fieldAddr Tryz.underlying26 rfl Tryz.sizeOf24 rfl rfl) ?_
  refine SO.b1 ?_
  refine SO.load1 rfl Tryz.isAgg24 rfl rfl ?_
  refine SO.veq (v' := .int .i64 1) rfl (opv_len2 rfl Tryz.underlying24 hF2 hl2 rfl) rfl ?_
  refine SO.alloc rfl Tryz.zeroValue3 rfl (fun b13 => ?_)
  refine SO.store1 Tryz.sizeOf3 rfl rfl rfl rfl ?_
  refine SO.nil ?_
  refine S.seq ?_
  refine S.region ?_
  refine SO.load1 rfl Tryz.isAgg3 rfl rfl ?_
  refine SO.veq (v' := .int .i64 2) rfl (opv_add rfl rfl) rfl ?_
  obtain ⟨xs16, hx17, h⟩ := opt_bind h
  refine SO.makeSliceR (K := krS (ekI .i64)) (zc := [.slice none 0 0]) rfl Tryz.underlying75 inf29_replay_Run_up rfl rfl rfl (by decide) rfl ⟨Rd.nil0, trivial⟩ rfl rfl hx17 (fun v14 => ?_)
  refine SO.alloc rfl Tryz.zeroValue75 rfl (fun b18 => ?_)
  refine SO.b1 ?_
  refine SO.oneR fun h119 => ?_
  refine SO.b1 ?_
  refine SO.store1 Tryz.sizeOf75 rfl rfl h119 rfl ?_
  refine SO.nil ?_
  refine S.seq ?_
  refine S.region ?_
  refine SO.v rfl (opv_makeFunc rfl rfl) ?_
  refine SO.v rfl (opv_assign rfl) ?_
  refine SO.nil ?_
  refine S.to (ρ' := [(2, vg), (6, bp b3 0), (7, errV 42 none), (10, v8), (11, bp b13 0), (12, bp b18 0), (13, .func (.func 23) #[] #[bp b13 0, bp b1 0, bp b18 0, bp b2 0])]) ⟨rfl, rfl, rfl, rfl, rfl, rfl, rfl, trivial⟩ ?_
  refine S.seq ?_
  refine S.seq ?_
  refine S.region ?_
  refine SO.v rfl (opv_move rfl) ?_
  refine SO.veq (v' := .int .i64 1) rfl (opv_lenR rfl Tryz.underlying47 hFg rfl) rfl ?_
  refine SO.v rfl (opv_move rfl) ?_
  refine SO.nil ?_
  refine S.block ?_
  refine S.loop ?_
  refine S.seq ?_
  refine S.region ?_
  refine SO.veq (v' := .bool true) rfl (opv_lss rfl rfl) rfl ?_
  refine SO.nil ?_
  refine S.seq ?_
  refine S.cond_true rfl ?_
  refine S.skip ?_
  refine S.seq ?_
  refine S.block ?_
  refine S.seq ?_
  refine S.region ?_
  refine SO.v rfl (opv_idx Tryz.underlying47 Tryz.sizeOf46 hFg rfl rfl (rfl : at_ [⟨0, 0, 0, false⟩] 0 = some (⟨0, 0, 0, false⟩ : stm_Entry))) ?_
  refine SO.loadIN rfl Tryz.isAgg46 Tryz.sizeOf46 (Rd.tail (Rd.tail (Rd.tail (Rd.tail (Rd.tail (Rd.tail (Rd.tail (Rd.tail (Rd.head hFg))))))))) (rfl : at_ [⟨0, 0, 0, false⟩] 0 = some (⟨0, 0, 0, false⟩ : stm_Entry)) rfl rfl rfl ?_
  refine SO.alloc rfl Tryz.zeroValue46 rfl (fun b20 => ?_)
  refine SO.storeN Tryz.sizeOf46 rfl rfl rfl rfl rfl rfl ?_
  refine SO.nil ?_
  refine S.seq ?_
  refine S.region ?_
  refine SO.v rfl (opv_move rfl) ?_
  refine SO.v rfl (opv_fieldAddr Tryz.underlying46 rfl Tryz.sizeOf3 rfl rfl) ?_
  refine SO.load1 rfl Tryz.isAgg3 rfl rfl ?_
  obtain ⟨_, ht21, h⟩ := opt_bind h
  refine SO.b2 ?_
  refine SO.b2 ?_
  refine SO.b4 ?_
  refine SO.b4 ?_
  refine SO.call (pre := [Box _ _, Box _ _, Box _ _, OwnR _ _ _ _]) rfl Tryz.call23 rfl rfl rfl (kern_next0.ct b13 b1 b18 b2 v0 v2 v14 lim xs16 ht21) (Rd3.tail (Rd3.tail (Rd3.tail (Rd3.tail (Rd3.tail (Rd3.head ⟨_, hF2, hl2, hR2⟩)))))) ?_
  rintro _ _ ⟨rfl, rfl⟩
  refine SO.v rfl (opv_assign rfl) ?_
  refine SO.nil ?_
  refine S.seq ?_
  refine S.seq ?_
  refine S.draw2 (Y := fun Q => ∃ (_ _ _ _ _ _ _ _ _ _ : Unit), Q [(16, .nilFunc), (15, bp b20 0), (12, bp b18 0), (51, .nilFunc), (50, .int .i64 0), (49, bp b20 0), (48, .func (.func 23) #[] #[bp b13 0, bp b1 0, bp b18 0, bp b2 0]), (47, .agg #[.int .i64 0, .int .i64 0, .int .i64 0, .bool false]), (46, idxp vg ((0 : Int).toNat * ek_stm_Entry.sz)), (45, .bool true), (44, .int .i64 0), (43, .int .i64 1), (42, vg), (6, bp b3 0), (7, errV 42 none), (10, v8), (11, bp b13 0), (13, .func (.func 23) #[] #[bp b13 0, bp b1 0, bp b18 0, bp b2 0])] [Box b20 [.int .i64 0, .int .i64 0, .int .i64 0, .bool false], Own 58 (ekI .u64) v8 (cpy xs10 ws), KR bk ns_ s_ [], Box b3 [.slice none 0 0, .slice none 0 0], Box b2 [.slice none 0 0], F]) (Z := fun Q => ∀ (_ _ _ _ _ _ _ _ _ _ _ _ _ _ _ _ _ _ _ _ _ _ _ : Unit), Q [(51, .nilFunc), (50, .int .i64 0), (49, bp b20 0), (48, .func (.func 23) #[] #[bp b13 0, bp b1 0, bp b18 0, bp b2 0]), (47, .agg #[.int .i64 0, .int .i64 0, .int .i64 0, .bool false]), (46, idxp vg ((0 : Int).toNat * ek_stm_Entry.sz)), (45, .bool true), (44, .int .i64 0), (43, .int .i64 1), (42, vg), (6, bp b3 0), (7, errV 42 none), (10, v8), (11, bp b13 0), (13, .func (.func 23) #[] #[bp b13 0, bp b1 0, bp b18 0, bp b2 0]), (12, bp b18 0), (15, bp b20 0), (16, .nilFunc), (52, .nilFunc), (53, .bool true), (54, .bool true), (55, undef), (56, undef), (57, undef), (58, undef), (59, undef), (60, undef), (61, undef), (62, undef), (63, undef), (64, .bool true)] [Box b20 [.int .i64 0, .int .i64 0, .int .i64 0, .bool false], Own 58 (ekI .u64) v8 (cpy xs10 ws), KR bk ns_ s_ [], Box b3 [.slice none 0 0, .slice none 0 0], Box b2 [.slice none 0 0], F]) (T := [tS 16 (.nilFunc), tS 15 (bp b20 0), tS 12 (bp b18 0), tE [(51, .nilFunc), (50, .int .i64 0), (49, bp b20 0), (48, .func (.func 23) #[] #[bp b13 0, bp b1 0, bp b18 0, bp b2 0]), (47, .agg #[.int .i64 0, .int .i64 0, .int .i64 0, .bool false]), (46, idxp vg ((0 : Int).toNat * ek_stm_Entry.sz)), (45, .bool true), (44, .int .i64 0), (43, .int .i64 1), (42, vg), (6, bp b3 0), (7, errV 42 none), (10, v8), (11, bp b13 0), (13, .func (.func 23) #[] #[bp b13 0, bp b1 0, bp b18 0, bp b2 0])], tR (Box b20 [.int .i64 0, .int .i64 0, .int .i64 0, .bool false]), tR (Own 58 (ekI .u64) v8 (cpy xs10 ws)), tR (KR bk ns_ s_ []), tR (Box b3 [.slice none 0 0, .slice none 0 0]), tR (Box b2 [.slice none 0 0]), tR (F), tS 52 (.nilFunc), tS 53 (.bool true), tS 54 (.bool true), tS 55 (undef), tS 56 (undef), tS 57 (undef), tS 58 (undef), tS 59 (undef), tS 60 (undef), tS 61 (undef), tS 62 (undef), tS 63 (undef), tS 64 (.bool true)]) (D := [⟨[0], [], [10]⟩, ⟨[10], [], [11]⟩, ⟨[11], [], [12]⟩, ⟨[12], [], [13]⟩, ⟨[12], [], [14]⟩, ⟨[12], [], [15]⟩, ⟨[12], [], [16]⟩, ⟨[12], [], [17]⟩, ⟨[12], [], [18]⟩, ⟨[12], [], [19]⟩, ⟨[12], [], [20]⟩, ⟨[12], [], [21]⟩, ⟨[12, 21], [], [22]⟩]) (ini := [0, 1, 2, 3, 4, 5, 6, 7, 8, 9]) (fin := [3, 2, 1, 0, 10, 11, 12, 13, 14, 15, 16, 17, 18, 19, 20, 21, 22, 4, 5, 6, 7, 8, 9]) (bf := [[], [0], [0, 1], [0, 1, 2], [0, 1, 2, 3], [0, 1, 2], [0, 1, 2], [0, 1, 2, 6], [0, 1, 2, 5, 6, 7], [0, 1, 2, 5, 6, 7, 8], [0, 1, 2, 5, 6, 7, 8, 9], [0, 1, 2, 3, 4, 5, 6, 7, 8, 9, 10], [0, 1, 2, 3, 4, 5, 6, 7, 8, 9, 10, 11]]) (by kernel_rfl) (by kernel_rfl) (fun Q => by kernel_rfl) (fun x w h1 h2 => ⟨(), (), (), (), (), (), (), (), (), (), EnvAll.of h1 ⟨rfl, rfl, rfl, rfl, rfl, rfl, rfl, rfl, rfl, rfl, rfl, rfl, rfl, rfl, rfl, rfl, rfl, rfl, trivial⟩, h2⟩) (fun Q => by kernel_rfl) ⟨?_, ?_, ?_, ?_, ?_, ?_, ?_, ?_, ?_, ?_, ?_, ?_, ?_, trivial⟩ ?_
  · rintro Fr _
    refine SO.v rfl (opv_move rfl) ?_
    exact SO.nilZ fun a w h1 h2 h3 h4 h5 => PZ.of h1 h3 h5 (.cons () (.cons () (.nil ⟨EnvAll.of h2 ⟨rfl, rfl, trivial⟩, h4⟩)))
  · rintro Fr _
    refine SO.v rfl (opv_eqlFF Tryz.underlying70 rfl rfl) ?_
    exact SO.nilZ fun a w h1 h2 h3 h4 h5 => PZ.of h1 h3 h5 (.cons () (.cons () (.nil ⟨EnvAll.of h2 ⟨rfl, rfl, trivial⟩, h4⟩)))
  · rintro Fr _
    refine SO.v rfl (opv_move rfl) ?_
    exact SO.nilZ fun a w h1 h2 h3 h4 h5 => PZ.of h1 h3 h5 (.cons () (.cons () (.nil ⟨EnvAll.of h2 ⟨rfl, rfl, trivial⟩, h4⟩)))
  · rintro Fr _
    refine SO.passF rfl rfl rfl rfl rfl rfl ?_
    exact SO.nilZ fun a w h1 h2 h3 h4 h5 => PZ.of h1 h3 h5 (.cons () (.cons () (.nil ⟨EnvAll.of h2 ⟨rfl, rfl, trivial⟩, h4⟩)))
  · rintro Fr _
    refine SO.passF rfl rfl rfl rfl rfl rfl ?_
    exact SO.nilZ fun a w h1 h2 h3 h4 h5 => PZ.of h1 h3 h5 (.cons () (.cons () (.nil ⟨EnvAll.of h2 ⟨rfl, rfl, trivial⟩, h4⟩)))
  · rintro Fr _
    refine SO.passF rfl rfl rfl rfl rfl rfl ?_
    exact SO.nilZ fun a w h1 h2 h3 h4 h5 => PZ.of h1 h3 h5 (.cons () (.cons () (.nil ⟨EnvAll.of h2 ⟨rfl, rfl, trivial⟩, h4⟩)))
  · rintro Fr _
    refine SO.passF rfl rfl rfl rfl rfl rfl ?_
    exact SO.nilZ fun a w h1 h2 h3 h4 h5 => PZ.of h1 h3 h5 (.cons () (.cons () (.nil ⟨EnvAll.of h2 ⟨rfl, rfl, trivial⟩, h4⟩)))
  · rintro Fr _
    refine SO.passF rfl rfl rfl rfl rfl rfl ?_
    exact SO.nilZ fun a w h1 h2 h3 h4 h5 => PZ.of h1 h3 h5 (.cons () (.cons () (.nil ⟨EnvAll.of h2 ⟨rfl, rfl, trivial⟩, h4⟩)))
  · rintro Fr _
    refine SO.passF rfl rfl rfl rfl rfl rfl ?_
    exact SO.nilZ fun a w h1 h2 h3 h4 h5 => PZ.of h1 h3 h5 (.cons () (.cons () (.nil ⟨EnvAll.of h2 ⟨rfl, rfl, trivial⟩, h4⟩)))
  · rintro Fr _
    refine SO.passF rfl rfl rfl rfl rfl rfl ?_
    exact SO.nilZ fun a w h1 h2 h3 h4 h5 => PZ.of h1 h3 h5 (.cons () (.cons () (.nil ⟨EnvAll.of h2 ⟨rfl, rfl, trivial⟩, h4⟩)))
  · rintro Fr _
    refine SO.passF rfl rfl rfl rfl rfl rfl ?_
    exact SO.nilZ fun a w h1 h2 h3 h4 h5 => PZ.of h1 h3 h5 (.cons () (.cons () (.nil ⟨EnvAll.of h2 ⟨rfl, rfl, trivial⟩, h4⟩)))
  · rintro Fr _
    refine SO.passF rfl rfl rfl rfl rfl rfl ?_
    exact SO.nilZ fun a w h1 h2 h3 h4 h5 => PZ.of h1 h3 h5 (.cons () (.cons () (.nil ⟨EnvAll.of h2 ⟨rfl, rfl, trivial⟩, h4⟩)))
  · rintro Fr _ _
    refine SO.v rfl (opv_pick_tt rfl rfl) ?_
    exact SO.nilZ fun a w h1 h2 h3 h4 h5 => PZ.of h1 h3 h5 (.cons () (.cons () (.cons () (.nil ⟨EnvAll.of h2 ⟨rfl, rfl, rfl, trivial⟩, h4⟩))))
  rintro _ _ _ _ _ _ _ _ _ _ _ _ _ _ _ _ _ _ _ _ _ _ _
  refine S.to (ρ' := [(51, .nilFunc), (50, .int .i64 0), (49, bp b20 0), (48, .func (.func 23) #[] #[bp b13 0, bp b1 0, bp b18 0, bp b2 0]), (47, .agg #[.int .i64 0, .int .i64 0, .int .i64 0, .bool false]), (46, idxp vg ((0 : Int).toNat * ek_stm_Entry.sz)), (45, .bool true), (44, .int .i64 0), (43, .int .i64 1), (42, vg), (6, bp b3 0), (7, errV 42 none), (10, v8), (11, bp b13 0), (13, .func (.func 23) #[] #[bp b13 0, bp b1 0, bp b18 0, bp b2 0]), (12, bp b18 0), (15, bp b20 0), (16, .nilFunc), (52, .nilFunc), (53, .bool true), (54, .bool true), (55, undef), (56, undef), (57, undef), (58, undef), (59, undef), (60, undef), (61, undef), (62, undef), (63, undef), (64, .bool true)]) ⟨rfl, rfl, rfl, rfl, rfl, rfl, rfl, rfl, rfl, rfl, rfl, rfl, rfl, rfl, rfl, rfl, rfl, rfl, rfl, rfl, rfl, rfl, rfl, rfl, rfl, rfl, rfl, rfl, rfl, rfl, rfl, trivial⟩ ?_
  refine S.cond_true rfl ?_
  refine S.seq ?_
  refine S.region ?_
  refine SO.v rfl (opv_build (v := .agg #[.slice none 0 0, .slice none 0 0]) rfl (by intro w; kernel_rfl)) ?_
  refine SO.v rfl (opv_iface Tryz.underlying42 rfl rfl) ?_
  refine SO.b3 ?_
  refine SO.storeN Tryz.sizeOf38 rfl rfl rfl rfl rfl rfl ?_
  refine SO.v rfl (opv_assign rfl) ?_
  refine SO.nil ?_
  refine S.to (ρ' := [(6, bp b3 0), (7, errV 42 (some 10))]) ⟨rfl, rfl, trivial⟩ ?_
  cases h
  refine S.b1 ?_
  refine S.drop ?_
  refine S.b1 ?_
  refine S.drop ?_
  refine S.b1 ?_
  refine S.drop ?_
  refine S.b1 ?_
  refine S.drop ?_
  refine S.b1 ?_
  refine S.b1 ?_
  exact S.retC1 Tryz.func7 rfl rfl rfl Tryz.isAgg38 Tryz.sizeOf38 rfl rfl (fun w hs hk => hR w _ _ ⟨rfl, rfl⟩ hs.drop hk)
end Go.Proofs
namespace Go.Proofs
open Go.Sl Go.RowKit
/-! 87 padstone/call.in -/
def call_in.f (a0 : Int) (a1 : Int) : Option (Bool) :=
  some ((decide (0 ≤ a0)) && (decide (a0 ≤ a1)))
set_option maxHeartbeats 8000000 in
set_option maxRecDepth 100000 in
theorem call_in.ct (a0 : Int) (a1 : Int) (r0 : Bool) (h : call_in.f a0 a1 = some r0) :
    Ct Tryz.prog 87 [.int .i64 a0, .int .i64 a1] (fun _ => True) [] (fun u H' => u = .bool r0 ∧ H' = []) := by
  unfold call_in.f at h
  refine Ct.intro (n := 12) Tryz.func87 rfl rfl rfl ?_
  intro R w0 F hF hR
  refine S.seq ?_
  refine S.region ?_
  refine SO.v rfl (opv_assign rfl) ?_
  refine SO.nil ?_
  refine S.seq ?_
  refine S.region ?_
  refine SO.v rfl (opv_move rfl) ?_
  refine SO.v rfl (opv_geq rfl rfl) ?_
  refine SO.v rfl (opv_move rfl) ?_
  refine SO.cut 4 11 (.bool ((decide (0 ≤ a0)) && (decide (a0 ≤ a1)))) [F] (fun l2 hk2 => ?_) ?_
  · rcases bool_or (decide (0 ≤ a0)) with b1 | b1
    · refine SO.takeT rfl rfl rfl b1 ?_
      refine SO.v rfl (opv_move rfl) ?_
      refine SO.takeT rfl rfl rfl b1 ?_
      refine SO.v rfl (opv_move rfl) ?_
      refine SO.takeT rfl rfl rfl b1 ?_
      refine SO.v rfl (opv_leq rfl rfl) ?_
      refine SO.v rfl (opv_pick_t' b1 rfl rfl) ?_
      exact hk2.fitc (m := 4) rfl (and_t b1) rfl
    refine SO.passF rfl rfl rfl b1 rfl rfl ?_
    refine SO.passF rfl rfl rfl b1 rfl rfl ?_
    refine SO.passF rfl rfl rfl b1 rfl rfl ?_
    refine SO.v rfl (opv_pick_f' b1 rfl rfl) ?_
    exact hk2.fitc (m := 4) rfl (and_f b1) rfl
  refine SO.v rfl (opv_assign rfl) ?_
  refine SO.nil ?_
  cases h
  exact S.ret1 Tryz.func87 rfl rfl (fun w hs hk => hR w _ _ ⟨rfl, rfl⟩ hs hk)
end Go.Proofs
namespace Go.Proofs
open Go.Sl Go.RowKit
/-! 65 padstone/call.fits -/
def call_fits.f (a0 : api_Reply) : Option (Bool) :=
  (call_in.f a0.Code 14).bind fun t2 => (bif t2 then ((call_in.f a0.Word 2147483647).bind fun t7 => some t7) else (some false)).bind fun c5 => (bif c5 then ((call_in.f a0.Badge 65535).bind fun t12 => some t12) else (some false)).bind fun c10 => some c10
set_option maxHeartbeats 8000000 in
set_option maxRecDepth 100000 in
theorem call_fits.ct (a0 : api_Reply) (r0 : Bool) (h : call_fits.f a0 = some r0) :
    Ct Tryz.prog 65 [.agg #[.int .i64 a0.Code, .int .i64 a0.Word, .int .i64 a0.Badge]] (fun _ => True) [] (fun u H' => u = .bool r0 ∧ H' = []) := by
  unfold call_fits.f at h
  refine Ct.intro (n := 16) Tryz.func65 rfl rfl rfl ?_
  intro R w0 F hF hR
  refine S.seq ?_
  refine S.region ?_
  refine SO.box rfl rfl rfl (fun b1 => ?_)
  refine SO.v rfl (opv_assign rfl) ?_
  refine SO.nil ?_
  refine S.seq ?_
  refine S.region ?_
  refine SO.v rfl (opv_fieldAddr Tryz.underlying111 rfl Tryz.sizeOf3 rfl rfl) ?_
  refine SO.load1 rfl Tryz.isAgg3 rfl rfl ?_
  obtain ⟨t2, ht3, h⟩ := opt_bind h
  refine SO.call (pre := []) rfl Tryz.call87 rfl rfl rfl (call_in.ct _ _ _ ht3) trivial ?_
  rintro _ _ ⟨rfl, rfl⟩
  refine SO.v rfl (opv_move rfl) ?_
  obtain ⟨c5, hc6, hgk⟩ := opt_bind h
  refine SO.cut 4 10 (.bool c5) [Box b1 [.int .i64 a0.Code, .int .i64 a0.Word, .int .i64 a0.Badge], F] (fun l2 hk2 => ?_) ?_
  · clear hgk
    replace h := hc6
    rcases bool_or t2 with b4 | b4
    · replace h := cond_t b4 h
      refine SO.takeT rfl rfl rfl b4 ?_
      refine SO.v rfl (opv_fieldAddr Tryz.underlying111 rfl Tryz.sizeOf3 rfl rfl) ?_
      refine SO.takeT rfl rfl rfl b4 ?_
      refine SO.load1 rfl Tryz.isAgg3 rfl rfl ?_
      refine SO.takeT rfl rfl rfl b4 ?_
      obtain ⟨t7, ht8, h⟩ := opt_bind h
      refine SO.call (pre := []) rfl Tryz.call87 rfl rfl rfl (call_in.ct _ _ _ ht8) trivial ?_
      rintro _ _ ⟨rfl, rfl⟩
      cases h
      refine SO.v rfl (opv_pick_t' b4 rfl rfl) ?_
      refine SO.b1 ?_
      refine SO.b1 ?_
      exact hk2.fitc (m := 4) rfl (rfl) rfl
    replace h := cond_f b4 h
    refine SO.passF rfl rfl rfl b4 rfl rfl ?_
    refine SO.passF rfl rfl rfl b4 rfl rfl ?_
    refine SO.passF rfl rfl rfl b4 rfl rfl ?_
    cases h
    refine SO.v rfl (opv_pick_f' b4 rfl rfl) ?_
    refine SO.b1 ?_
    refine SO.b1 ?_
    exact hk2.fitc (m := 4) rfl (rfl) rfl
  clear hc6
  replace h := hgk
  refine SO.v rfl (opv_move rfl) ?_
  obtain ⟨c10, hc11, hgk⟩ := opt_bind h
  refine SO.cut 4 15 (.bool c10) [Box b1 [.int .i64 a0.Code, .int .i64 a0.Word, .int .i64 a0.Badge], F] (fun l2 hk2 => ?_) ?_
  · clear hgk
    replace h := hc11
    rcases bool_or c5 with b9 | b9
    · replace h := cond_t b9 h
      refine SO.takeT rfl rfl rfl b9 ?_
      refine SO.v rfl (opv_fieldAddr Tryz.underlying111 rfl Tryz.sizeOf3 rfl rfl) ?_
      refine SO.takeT rfl rfl rfl b9 ?_
      refine SO.load1 rfl Tryz.isAgg3 rfl rfl ?_
      refine SO.takeT rfl rfl rfl b9 ?_
      obtain ⟨t12, ht13, h⟩ := opt_bind h
      refine SO.call (pre := []) rfl Tryz.call87 rfl rfl rfl (call_in.ct _ _ _ ht13) trivial ?_
      rintro _ _ ⟨rfl, rfl⟩
      cases h
      refine SO.v rfl (opv_pick_t' b9 rfl rfl) ?_
      refine SO.b1 ?_
      refine SO.b1 ?_
      exact hk2.fitc (m := 4) rfl (rfl) rfl
    replace h := cond_f b9 h
    refine SO.passF rfl rfl rfl b9 rfl rfl ?_
    refine SO.passF rfl rfl rfl b9 rfl rfl ?_
    refine SO.passF rfl rfl rfl b9 rfl rfl ?_
    cases h
    refine SO.v rfl (opv_pick_f' b9 rfl rfl) ?_
    refine SO.b1 ?_
    refine SO.b1 ?_
    exact hk2.fitc (m := 4) rfl (rfl) rfl
  clear hc11
  replace h := hgk
  refine SO.v rfl (opv_assign rfl) ?_
  refine SO.nil ?_
  refine S.to (ρ' := [(2, .bool c10)]) ⟨rfl, trivial⟩ ?_
  cases h
  refine S.drop ?_
  exact S.ret1 Tryz.func65 rfl rfl (fun w hs hk => hR w _ _ ⟨rfl, rfl⟩ hs hk)
end Go.Proofs
