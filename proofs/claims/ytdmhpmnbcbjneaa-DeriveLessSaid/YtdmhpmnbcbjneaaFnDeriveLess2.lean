/- What the functions that DeriveLess reaches come to, and that they do. On no condition. -/
import Derived.Test.YtdmhpmnbcbjneaaFnDeriveLess0
import Derived.Test.YtdmhpmnbcbjneaaFnDeriveLess1
set_option linter.all false
namespace Go.Proofs
open Go.Sl Go.RowKit
/-! 7 (*padstone/padstoneref10.State).Words -/
def ref10_State_Words.l2 (x4_1 : Int) (x11 : ref10_Slot) : Nat → (Int × (List Int)) → Option ((List Int))
  | 0, _ => none
  | k + 1, (x6_2, qv5_2) => bif decide (x6_2 < (x11.Kids.length : Int)) then ((at_ x11.Kids x6_2).bind fun x30 => (bif x6_2 == 0 then ((at_ qv5_2 (w64 ((w64 (5 * x4_1)) + 2))).bind fun x33 => some (qv5_2.set (w64 ((w64 (5 * x4_1)) + 2)).toNat (wu64 (w64 (x30 + 1))))) else ((at_ x11.Kids (w64 (x6_2 - 1))).bind fun x36 => (at_ qv5_2 (w64 ((w64 (5 * x30)) + 4))).bind fun x38 => some (qv5_2.set (w64 ((w64 (5 * x30)) + 4)).toNat (wu64 (w64 (x36 + 1)))))).bind fun qv5_3 => bif decide ((w64 (x6_2 + 1)) < (x11.Kids.length : Int)) then ((at_ x11.Kids (w64 (x6_2 + 1))).bind fun x43 => (at_ qv5_3 (w64 ((w64 (5 * x30)) + 3))).bind fun x45 => ref10_State_Words.l2 x4_1 x11 k (w64 (x6_2 + 1), qv5_3.set (w64 ((w64 (5 * x30)) + 3)).toNat (wu64 (w64 (x43 + 1))))) else (ref10_State_Words.l2 x4_1 x11 k (w64 (x6_2 + 1), qv5_3))) else (some qv5_2)
def ref10_State_Words.l1 (a0 : ref10_State) : Nat → (Int × (List Int)) → Option ((List Int))
  | 0, _ => none
  | k + 1, (x4_1, qv5_1) => bif decide (x4_1 < 96) then ((at_ a0.Slots x4_1).bind fun x11 => (ref01_Word.f x11.Cap).bind fun t20 => (at_ qv5_1 (w64 (5 * x4_1))).bind fun x22 => (at_ (qv5_1.set (w64 (5 * x4_1)).toNat t20) (w64 ((w64 (5 * x4_1)) + 1))).bind fun x25 => (ref10_State_Words.l2 x4_1 x11 k (0, (qv5_1.set (w64 (5 * x4_1)).toNat t20).set (w64 ((w64 (5 * x4_1)) + 1)).toNat (wu64 (w64 (x11.Parent + 1))))).bind fun qv5_e2 => ref10_State_Words.l1 a0 k (w64 (x4_1 + 1), qv5_e2)) else (some qv5_1)
def ref10_State_Words.l6 (x8_4 : Int) (x52 : ref10_Obj) : Nat → (Int × (List Int)) → Option ((List Int))
  | 0, _ => none
  | k + 1, (x11_6, qv5_6) => bif decide (x11_6 < 4) then ((A4.get x52.Pages x11_6).bind fun x123 => bif decide (0 ≤ x123) then ((A4.get x52.Pages x11_6).bind fun x126 => (A4.get x52.Right x11_6).bind fun x128 => (at_ qv5_6 (w64 ((w64 ((w64 (480 + (w64 (8 * x8_4)))) + 1)) + x11_6))).bind fun x130 => ref10_State_Words.l6 x8_4 x52 k (w64 (x11_6 + 1), qv5_6.set (w64 ((w64 ((w64 (480 + (w64 (8 * x8_4)))) + 1)) + x11_6)).toNat (wu64 (w64 ((w64 (8 * (w64 (x126 + 1)))) + x128))))) else (ref10_State_Words.l6 x8_4 x52 k (w64 (x11_6 + 1), qv5_6))) else (some qv5_6)
def ref10_State_Words.l7 (x8_4 : Int) (x52 : ref10_Obj) : Nat → (Int × (List Int)) → Option ((List Int))
  | 0, _ => none
  | k + 1, (x12_7, qv5_7) => bif decide (x12_7 < (x52.Queue.length : Int)) then ((at_ x52.Queue x12_7).bind fun x148 => (bif x12_7 == 0 then ((at_ qv5_7 (w64 ((w64 (480 + (w64 (8 * x8_4)))) + 2))).bind fun x151 => some (qv5_7.set (w64 ((w64 (480 + (w64 (8 * x8_4)))) + 2)).toNat (wu64 (w64 (x148 + 1))))) else (some qv5_7)).bind fun qv5_8 => bif decide ((w64 (x12_7 + 1)) < (x52.Queue.length : Int)) then ((at_ x52.Queue (w64 (x12_7 + 1))).bind fun x156 => (at_ qv5_8 (w64 ((w64 (480 + (w64 (8 * x148)))) + 2))).bind fun x158 => ref10_State_Words.l7 x8_4 x52 k (w64 (x12_7 + 1), qv5_8.set (w64 ((w64 (480 + (w64 (8 * x148)))) + 2)).toNat (wu64 (w64 (x156 + 1))))) else ((at_ qv5_8 (w64 ((w64 (480 + (w64 (8 * x8_4)))) + 3))).bind fun x161 => ref10_State_Words.l7 x8_4 x52 k (w64 (x12_7 + 1), qv5_8.set (w64 ((w64 (480 + (w64 (8 * x8_4)))) + 3)).toNat (wu64 (w64 (x148 + 1)))))) else (some qv5_7)
def ref10_State_Words.l4 (a0 : ref10_State) : Nat → (Int × (List Int)) → Option ((List Int))
  | 0, _ => none
  | k + 1, (x8_4, qv5_4) => bif decide (x8_4 < 32) then ((at_ a0.Objs x8_4).bind fun x52 => (at_ qv5_4 (w64 (480 + (w64 (8 * x8_4))))).bind fun x61 => (bif x52.Kind == 1 then ((at_ (qv5_4.set (w64 (480 + (w64 (8 * x8_4)))).toNat (wu64 x52.Kind)) (w64 ((w64 (480 + (w64 (8 * x8_4)))) + 1))).bind fun x65 => (at_ ((qv5_4.set (w64 (480 + (w64 (8 * x8_4)))).toNat (wu64 x52.Kind)).set (w64 ((w64 (480 + (w64 (8 * x8_4)))) + 1)).toNat (wu64 x52.Size)) (w64 ((w64 (480 + (w64 (8 * x8_4)))) + 2))).bind fun x68 => some (((qv5_4.set (w64 (480 + (w64 (8 * x8_4)))).toNat (wu64 x52.Kind)).set (w64 ((w64 (480 + (w64 (8 * x8_4)))) + 1)).toNat (wu64 x52.Size)).set (w64 ((w64 (480 + (w64 (8 * x8_4)))) + 2)).toNat (wu64 x52.Used))) else (bif x52.Kind == 2 then ((at_ (qv5_4.set (w64 (480 + (w64 (8 * x8_4)))).toNat (wu64 x52.Kind)) (w64 ((w64 (480 + (w64 (8 * x8_4)))) + 1))).bind fun x72 => (at_ ((qv5_4.set (w64 (480 + (w64 (8 * x8_4)))).toNat (wu64 x52.Kind)).set (w64 ((w64 (480 + (w64 (8 * x8_4)))) + 1)).toNat (wu64 x52.First)) (w64 ((w64 (480 + (w64 (8 * x8_4)))) + 2))).bind fun x75 => some (((qv5_4.set (w64 (480 + (w64 (8 * x8_4)))).toNat (wu64 x52.Kind)).set (w64 ((w64 (480 + (w64 (8 * x8_4)))) + 1)).toNat (wu64 x52.First)).set (w64 ((w64 (480 + (w64 (8 * x8_4)))) + 2)).toNat (wu64 x52.Radix))) else (bif x52.Kind == 3 then ((at_ (qv5_4.set (w64 (480 + (w64 (8 * x8_4)))).toNat (wu64 x52.Kind)) (w64 ((w64 (480 + (w64 (8 * x8_4)))) + 1))).bind fun x79 => some ((qv5_4.set (w64 (480 + (w64 (8 * x8_4)))).toNat (wu64 x52.Kind)).set (w64 ((w64 (480 + (w64 (8 * x8_4)))) + 1)).toNat (wu64 x52.Wait))) else (bif x52.Kind == 4 then ((at_ (qv5_4.set (w64 (480 + (w64 (8 * x8_4)))).toNat (wu64 x52.Kind)) (w64 ((w64 (480 + (w64 (8 * x8_4)))) + 1))).bind fun x83 => some ((qv5_4.set (w64 (480 + (w64 (8 * x8_4)))).toNat (wu64 x52.Kind)).set (w64 ((w64 (480 + (w64 (8 * x8_4)))) + 1)).toNat (wu64 x52.Word))) else (bif x52.Kind == 5 then ((at_ (qv5_4.set (w64 (480 + (w64 (8 * x8_4)))).toNat (wu64 x52.Kind)) (w64 ((w64 (480 + (w64 (8 * x8_4)))) + 1))).bind fun x87 => (at_ ((qv5_4.set (w64 (480 + (w64 (8 * x8_4)))).toNat (wu64 x52.Kind)).set (w64 ((w64 (480 + (w64 (8 * x8_4)))) + 1)).toNat (wu64 x52.State)) (w64 ((w64 (480 + (w64 (8 * x8_4)))) + 2))).bind fun x90 => (at_ ((qv5_4.set (w64 (480 + (w64 (8 * x8_4)))).toNat (wu64 x52.Kind)).set (w64 ((w64 (480 + (w64 (8 * x8_4)))) + 1)).toNat (wu64 x52.State)) (w64 ((w64 (480 + (w64 (8 * x8_4)))) + 2))).bind fun x92 => (at_ (((qv5_4.set (w64 (480 + (w64 (8 * x8_4)))).toNat (wu64 x52.Kind)).set (w64 ((w64 (480 + (w64 (8 * x8_4)))) + 1)).toNat (wu64 x52.State)).set (w64 ((w64 (480 + (w64 (8 * x8_4)))) + 2)).toNat (wu64 (x90 + (wu64 (w64 (x52.Owing + 1)))))) (w64 ((w64 (480 + (w64 (8 * x8_4)))) + 3))).bind fun x96 => (at_ ((((qv5_4.set (w64 (480 + (w64 (8 * x8_4)))).toNat (wu64 x52.Kind)).set (w64 ((w64 (480 + (w64 (8 * x8_4)))) + 1)).toNat (wu64 x52.State)).set (w64 ((w64 (480 + (w64 (8 * x8_4)))) + 2)).toNat (wu64 (x90 + (wu64 (w64 (x52.Owing + 1)))))).set (w64 ((w64 (480 + (w64 (8 * x8_4)))) + 3)).toNat (wu64 x52.Word)) (w64 ((w64 (480 + (w64 (8 * x8_4)))) + 4))).bind fun x99 => (at_ (((((qv5_4.set (w64 (480 + (w64 (8 * x8_4)))).toNat (wu64 x52.Kind)).set (w64 ((w64 (480 + (w64 (8 * x8_4)))) + 1)).toNat (wu64 x52.State)).set (w64 ((w64 (480 + (w64 (8 * x8_4)))) + 2)).toNat (wu64 (x90 + (wu64 (w64 (x52.Owing + 1)))))).set (w64 ((w64 (480 + (w64 (8 * x8_4)))) + 3)).toNat (wu64 x52.Word)).set (w64 ((w64 (480 + (w64 (8 * x8_4)))) + 4)).toNat (wu64 x52.Badge)) (w64 ((w64 (480 + (w64 (8 * x8_4)))) + 5))).bind fun x102 => (at_ ((((((qv5_4.set (w64 (480 + (w64 (8 * x8_4)))).toNat (wu64 x52.Kind)).set (w64 ((w64 (480 + (w64 (8 * x8_4)))) + 1)).toNat (wu64 x52.State)).set (w64 ((w64 (480 + (w64 (8 * x8_4)))) + 2)).toNat (wu64 (x90 + (wu64 (w64 (x52.Owing + 1)))))).set (w64 ((w64 (480 + (w64 (8 * x8_4)))) + 3)).toNat (wu64 x52.Word)).set (w64 ((w64 (480 + (w64 (8 * x8_4)))) + 4)).toNat (wu64 x52.Badge)).set (w64 ((w64 (480 + (w64 (8 * x8_4)))) + 5)).toNat (wu64 (w64 (x52.Prio + (w64 (256 * (w64 (x52.On + 1)))))))) (w64 ((w64 (480 + (w64 (8 * x8_4)))) + 6))).bind fun x105 => (ref01_Word.f x52.Root).bind fun t108 => (at_ (((((((qv5_4.set (w64 (480 + (w64 (8 * x8_4)))).toNat (wu64 x52.Kind)).set (w64 ((w64 (480 + (w64 (8 * x8_4)))) + 1)).toNat (wu64 x52.State)).set (w64 ((w64 (480 + (w64 (8 * x8_4)))) + 2)).toNat (wu64 (x90 + (wu64 (w64 (x52.Owing + 1)))))).set (w64 ((w64 (480 + (w64 (8 * x8_4)))) + 3)).toNat (wu64 x52.Word)).set (w64 ((w64 (480 + (w64 (8 * x8_4)))) + 4)).toNat (wu64 x52.Badge)).set (w64 ((w64 (480 + (w64 (8 * x8_4)))) + 5)).toNat (wu64 (w64 (x52.Prio + (w64 (256 * (w64 (x52.On + 1)))))))).set (w64 ((w64 (480 + (w64 (8 * x8_4)))) + 6)).toNat (wu64 (w64 (x52.Owes + 1)))) (w64 ((w64 (480 + (w64 (8 * x8_4)))) + 7))).bind fun x110 => some ((((((((qv5_4.set (w64 (480 + (w64 (8 * x8_4)))).toNat (wu64 x52.Kind)).set (w64 ((w64 (480 + (w64 (8 * x8_4)))) + 1)).toNat (wu64 x52.State)).set (w64 ((w64 (480 + (w64 (8 * x8_4)))) + 2)).toNat (wu64 (x90 + (wu64 (w64 (x52.Owing + 1)))))).set (w64 ((w64 (480 + (w64 (8 * x8_4)))) + 3)).toNat (wu64 x52.Word)).set (w64 ((w64 (480 + (w64 (8 * x8_4)))) + 4)).toNat (wu64 x52.Badge)).set (w64 ((w64 (480 + (w64 (8 * x8_4)))) + 5)).toNat (wu64 (w64 (x52.Prio + (w64 (256 * (w64 (x52.On + 1)))))))).set (w64 ((w64 (480 + (w64 (8 * x8_4)))) + 6)).toNat (wu64 (w64 (x52.Owes + 1)))).set (w64 ((w64 (480 + (w64 (8 * x8_4)))) + 7)).toNat t108)) else (bif x52.Kind == 6 then ((at_ (qv5_4.set (w64 (480 + (w64 (8 * x8_4)))).toNat (wu64 x52.Kind)) (w64 ((w64 (480 + (w64 (8 * x8_4)))) + 1))).bind fun x114 => (at_ ((qv5_4.set (w64 (480 + (w64 (8 * x8_4)))).toNat (wu64 x52.Kind)).set (w64 ((w64 (480 + (w64 (8 * x8_4)))) + 1)).toNat (wu64 (w64 (x52.In + 1)))) (w64 ((w64 (480 + (w64 (8 * x8_4)))) + 2))).bind fun x117 => some (((qv5_4.set (w64 (480 + (w64 (8 * x8_4)))).toNat (wu64 x52.Kind)).set (w64 ((w64 (480 + (w64 (8 * x8_4)))) + 1)).toNat (wu64 (w64 (x52.In + 1)))).set (w64 ((w64 (480 + (w64 (8 * x8_4)))) + 2)).toNat (wu64 x52.Page))) else (bif x52.Kind == 7 then ((ref10_State_Words.l6 x8_4 x52 k (0, qv5_4.set (w64 (480 + (w64 (8 * x8_4)))).toNat (wu64 x52.Kind))).bind fun qv5_e6 => some qv5_e6) else (bif x52.Kind == 8 then ((at_ (qv5_4.set (w64 (480 + (w64 (8 * x8_4)))).toNat (wu64 x52.Kind)) (w64 ((w64 (480 + (w64 (8 * x8_4)))) + 1))).bind fun x136 => (at_ ((qv5_4.set (w64 (480 + (w64 (8 * x8_4)))).toNat (wu64 x52.Kind)).set (w64 ((w64 (480 + (w64 (8 * x8_4)))) + 1)).toNat (wu64 (w64 (x52.Bound + 1)))) (w64 ((w64 (480 + (w64 (8 * x8_4)))) + 2))).bind fun x139 => (at_ (((qv5_4.set (w64 (480 + (w64 (8 * x8_4)))).toNat (wu64 x52.Kind)).set (w64 ((w64 (480 + (w64 (8 * x8_4)))) + 1)).toNat (wu64 (w64 (x52.Bound + 1)))).set (w64 ((w64 (480 + (w64 (8 * x8_4)))) + 2)).toNat (wu64 x52.Badge)) (w64 ((w64 (480 + (w64 (8 * x8_4)))) + 3))).bind fun x142 => some ((((qv5_4.set (w64 (480 + (w64 (8 * x8_4)))).toNat (wu64 x52.Kind)).set (w64 ((w64 (480 + (w64 (8 * x8_4)))) + 1)).toNat (wu64 (w64 (x52.Bound + 1)))).set (w64 ((w64 (480 + (w64 (8 * x8_4)))) + 2)).toNat (wu64 x52.Badge)).set (w64 ((w64 (480 + (w64 (8 * x8_4)))) + 3)).toNat (wu64 x52.Mask))) else (some (qv5_4.set (w64 (480 + (w64 (8 * x8_4)))).toNat (wu64 x52.Kind))))))))))).bind fun qv5_5 => (ref10_State_Words.l7 x8_4 x52 k (0, qv5_5)).bind fun qv5_e7 => ref10_State_Words.l4 a0 k (w64 (x8_4 + 1), qv5_e7)) else (some qv5_4)
def ref10_State_Words.f (k : Nat) (a0 : ref10_State) : Option ((List Int)) :=
  (mk_ 0 738).bind fun xs7 => (ref10_State_Words.l1 a0 k (0, xs7)).bind fun qv5_e1 => (ref10_State_Words.l4 a0 k (0, qv5_e1)).bind fun qv5_e4 => (at_ qv5_e4 736).bind fun x166 => (at_ (qv5_e4.set (736 : Int).toNat (wu64 a0.NS)) 737).bind fun x169 => some ((qv5_e4.set (736 : Int).toNat (wu64 a0.NS)).set (737 : Int).toNat (wu64 a0.NO))
set_option maxHeartbeats 8000000 in
set_option maxRecDepth 100000 in
theorem ref10_State_Words.ct (k : Nat) (bp0 : Nat) (v0_Slots : Value) (v0_Objs : Value) (raws_v0_Slots : List (Raw (kr_ref10_Slot).sz)) (A_v0_Slots : HProp) (raws_v0_Objs : List (Raw (kr_ref10_Obj).sz)) (A_v0_Objs : HProp) (a0 : ref10_State) (r0 : List Int) (h : ref10_State_Words.f k a0 = some r0) :
    Ct Try.prog 7 [bp bp0 0] (fun _ => True) [Box bp0 [v0_Slots, v0_Objs, .int .i64 a0.NS, .int .i64 a0.NO], OwnO 65 kr_ref10_Slot v0_Slots raws_v0_Slots A_v0_Slots a0.Slots, OwnO 58 kr_ref10_Obj v0_Objs raws_v0_Objs A_v0_Objs a0.Objs] (fun u H' => ∃ v_r0, u = v_r0 ∧ H' = [Own 66 (ekI .u64) v_r0 r0, Box bp0 [v0_Slots, v0_Objs, .int .i64 a0.NS, .int .i64 a0.NO], OwnO 65 kr_ref10_Slot v0_Slots raws_v0_Slots A_v0_Slots a0.Slots, OwnO 58 kr_ref10_Obj v0_Objs raws_v0_Objs A_v0_Objs a0.Objs]) := by
  unfold ref10_State_Words.f at h
  refine Ct.intro (n := 365) Try.func7 rfl rfl rfl ?_
  intro R w0 F hF hR
  refine S.b1 ?_
  refine S.rdO fun hrel1 hR2 => ?_
  refine S.b2 ?_
  refine S.rdO fun hrel3 hR4 => ?_
  refine S.seq ?_
  refine S.region ?_
  refine SO.v rfl (opv_assign rfl) ?_
  refine SO.nil ?_
  refine S.seq ?_
  refine S.region ?_
  obtain ⟨xs7, hx8, h⟩ := opt_bind h
  refine SO.makeSlice (K := ekI .u64) rfl Try.underlying26 inf66 rfl rfl rfl (by decide) rfl rfl rfl hx8 (fun v5 hr6 => ?_)
  refine SO.v rfl (opv_assign rfl) ?_
  refine SO.nil ?_
  refine S.seq ?_
  refine S.seq ?_
  refine S.region ?_
  refine SO.v rfl (opv_assign rfl) ?_
  refine SO.nil ?_
  obtain ⟨qv5_e1, hl1, h⟩ := opt_bind h
  refine S.b4 ?_
  refine S.b4 ?_
  refine S.b4 ?_
  refine S.b4 ?_
  refine S.b4 ?_
  refine S.to (ρ' := [(4, .int .i64 0), (3, v5), (2, .slice none 0 0), (0, bp bp0 0)]) ⟨rfl, rfl, rfl, rfl, trivial⟩ ?_
  refine S.forloop (X := (Int × (List Int)) × Unit) (O := (List Int)) (fun m x => ref10_State_Words.l1 a0 m x.1) (fun x => match x with | ((x4_1, qv5_1), _) => [(4, .int .i64 x4_1), (3, v5), (2, .slice none 0 0), (0, bp bp0 0)]) (fun x => match x with | ((x4_1, qv5_1), _) => [Own 66 (ekI .u64) v5 qv5_1, OwnO 58 kr_ref10_Obj v0_Objs raws_v0_Objs A_v0_Objs a0.Objs, OwnO 65 kr_ref10_Slot v0_Slots raws_v0_Slots A_v0_Slots a0.Slots, Box bp0 [v0_Slots, v0_Objs, .int .i64 a0.NS, .int .i64 a0.NO], F]) (fun Sk => (fun qv5_e1 => ∀ _ : Unit, Sk [(0, bp bp0 0), (2, .slice none 0 0), (3, v5)] [Own 66 (ekI .u64) v5 qv5_e1, OwnO 58 kr_ref10_Obj v0_Objs raws_v0_Objs A_v0_Objs a0.Objs, OwnO 65 kr_ref10_Slot v0_Slots raws_v0_Slots A_v0_Slots a0.Slots, Box bp0 [v0_Slots, v0_Objs, .int .i64 a0.NS, .int .i64 a0.NO], F])) (fun _ => rfl) ?_ (m := k) (x := ((0, xs7), ())) hl1 ?_
  · clear h hl1
    intro k x o_1 h hK1 ih1
    obtain ⟨⟨x4_1, qv5_1⟩, _⟩ := x
    replace h : ref10_State_Words.l1 a0 (k + 1) (x4_1, qv5_1) = some o_1 := h
    first | rw [ref10_State_Words.l1] at h | unfold ref10_State_Words.l1 at h
    refine S.rd fun hr9 => ?_
    refine S.seq ?_
    refine S.seq ?_
    refine S.region ?_
    refine SO.v rfl (opv_move rfl) ?_
    refine SO.v rfl (opv_lss rfl rfl) ?_
    refine SO.nil ?_
    rcases bool_or (decide (x4_1 < 96)) with b10 | b10
    · replace h := cond_t b10 h
      refine S.condT rfl b10 ?_
      refine S.skip ?_
      refine S.seq ?_
      refine S.block ?_
      refine S.seq ?_
      refine S.region ?_
      refine SO.v rfl (opv_move rfl) ?_
      refine SO.v rfl (opv_nilCheck rfl) ?_
      refine SO.v rfl (opv_fieldAddr Try.underlying63 rfl Try.sizeOf60 rfl rfl) ?_
      refine SO.b3 ?_
      refine SO.load1 rfl Try.isAgg60 rfl rfl ?_
      refine SO.v rfl (opv_move rfl) ?_
      obtain ⟨x11, hx12, h⟩ := opt_bind h
      obtain ⟨r13, hr14, hc15⟩ := relR.at hrel1 hx12
      refine SO.v rfl (opv_idx Try.underlying60 Try.sizeOf65 hR2 rfl rfl hr14) ?_
      refine hc15.rip fun u16 hru17 e18 => ?_
      refine SO.loadIN rfl Try.isAgg65 Try.sizeOf65 (Rd.tail (Rd.tail (Rd.tail (Rd.head hR2)))) hr14 rfl rfl e18 ?_
      refine SO.alloc rfl Try.zeroValue65 rfl (fun b19 => ?_)
      refine SO.storeN Try.sizeOf65 rfl rfl (all1 rfl (all1 rfl (all1 rfl (all1 rfl (all1 rfl (all1 rfl (all1 rfl (all1 (Rd.one hru17) rfl)))))))) rfl rfl rfl ?_
      refine SO.nil ?_
      refine S.to (ρ' := [(4, .int .i64 x4_1), (3, v5), (2, .slice none 0 0), (0, bp bp0 0), (5, bp b19 0)]) ⟨rfl, rfl, rfl, rfl, rfl, trivial⟩ ?_
      refine S.seq ?_
      refine S.region ?_
      refine SO.v rfl (opv_move rfl) ?_
      refine SO.v rfl (opv_move rfl) ?_
      refine SO.v rfl (opv_mul rfl rfl) ?_
      refine SO.v rfl (opv_fieldAddr Try.underlying65 rfl Try.sizeOf45 rfl rfl) ?_
      refine SO.loadN rfl Try.isAgg45 Try.sizeOf45 rfl rfl rfl ?_
      obtain ⟨t20, ht21, h⟩ := opt_bind h
      refine SO.call (pre := []) rfl Try.call23 rfl rfl rfl (ref01_Word.ct _ _ ht21) trivial ?_
      rintro _ _ ⟨rfl, rfl⟩
      obtain ⟨x22, hx23, h⟩ := opt_bind h
      refine SO.v rfl (opv_idx Try.underlying26 Try.sizeOf66 hr9 rfl rfl hx23) ?_
      refine SO.b2 ?_
      refine SO.storeI1 (j := 0) (z' := t20) Try.sizeOf66 hx23 rfl rfl rfl rfl rfl rfl ?_
      refine SO.rd fun hr24 => ?_
      refine SO.nil ?_
      refine S.to (ρ' := [(4, .int .i64 x4_1), (3, v5), (2, .slice none 0 0), (0, bp bp0 0), (5, bp b19 0)]) ⟨rfl, rfl, rfl, rfl, rfl, trivial⟩ ?_
      refine S.seq ?_
      refine S.region ?_
      refine SO.v rfl (opv_move rfl) ?_
      refine SO.v rfl (opv_move rfl) ?_
      refine SO.v rfl (opv_mul rfl rfl) ?_
      refine SO.v rfl (opv_add rfl rfl) ?_
      refine SO.v rfl (opv_fieldAddr Try.underlying65 rfl Try.sizeOf3 rfl rfl) ?_
      refine SO.b1 ?_
      refine SO.load1 rfl Try.isAgg3 rfl rfl ?_
      refine SO.v rfl (opv_add rfl rfl) ?_
      refine SO.v rfl (opv_conv Try.underlying3 Try.underlying66 rfl) ?_
      obtain ⟨x25, hx26, h⟩ := opt_bind h
      refine SO.v rfl (opv_idx Try.underlying26 Try.sizeOf66 hr24 rfl rfl hx26) ?_
      refine SO.b1 ?_
      refine SO.storeI1 (j := 0) (z' := wu64 (w64 (x11.Parent + 1))) Try.sizeOf66 hx26 rfl rfl rfl rfl rfl rfl ?_
      refine SO.rd fun hr27 => ?_
      refine SO.nil ?_
      refine S.to (ρ' := [(4, .int .i64 x4_1), (3, v5), (2, .slice none 0 0), (0, bp bp0 0), (5, bp b19 0)]) ⟨rfl, rfl, rfl, rfl, rfl, trivial⟩ ?_
      refine S.seq ?_
      refine S.region ?_
      refine SO.v rfl (opv_assign rfl) ?_
      refine SO.nil ?_
      obtain ⟨qv5_e2, hl2, h⟩ := opt_bind h
      refine S.b5 ?_
      refine S.b5 ?_
      refine S.b5 ?_
      refine S.b5 ?_
      refine S.b5 ?_
      refine S.b5 ?_
      refine S.to (ρ' := [(6, .int .i64 0), (4, .int .i64 x4_1), (3, v5), (2, .slice none 0 0), (0, bp bp0 0), (5, bp b19 0)]) ⟨rfl, rfl, rfl, rfl, rfl, rfl, trivial⟩ ?_
      refine S.forloop (X := (Int × (List Int)) × Unit) (O := (List Int)) (fun m x => ref10_State_Words.l2 x4_1 x11 m x.1) (fun x => match x with | ((x6_2, qv5_2), _) => [(6, .int .i64 x6_2), (4, .int .i64 x4_1), (3, v5), (2, .slice none 0 0), (0, bp bp0 0), (5, bp b19 0)]) (fun x => match x with | ((x6_2, qv5_2), _) => [Own 66 (ekI .u64) v5 qv5_2, Box b19 [.int .i64 x11.Cap.Kind, .int .i64 x11.Cap.Rights, .int .i64 x11.Cap.Obj, .int .i64 x11.Cap.Badge, .int .i64 x11.Cap.Guard, .int .i64 x11.Cap.Bits, .int .i64 x11.Parent, u16], Box bp0 [v0_Slots, v0_Objs, .int .i64 a0.NS, .int .i64 a0.NO], OwnO 58 kr_ref10_Obj v0_Objs raws_v0_Objs A_v0_Objs a0.Objs, OwnO 65 kr_ref10_Slot v0_Slots raws_v0_Slots A_v0_Slots a0.Slots, F]) (fun Sk => (fun qv5_e2 => ∀ _ : Unit, Sk [(0, bp bp0 0), (2, .slice none 0 0), (3, v5), (4, .int .i64 x4_1)] [Own 66 (ekI .u64) v5 qv5_e2, Box b19 [.int .i64 x11.Cap.Kind, .int .i64 x11.Cap.Rights, .int .i64 x11.Cap.Obj, .int .i64 x11.Cap.Badge, .int .i64 x11.Cap.Guard, .int .i64 x11.Cap.Bits, .int .i64 x11.Parent, u16], Box bp0 [v0_Slots, v0_Objs, .int .i64 a0.NS, .int .i64 a0.NO], OwnO 58 kr_ref10_Obj v0_Objs raws_v0_Objs A_v0_Objs a0.Objs, OwnO 65 kr_ref10_Slot v0_Slots raws_v0_Slots A_v0_Slots a0.Slots, F])) (fun _ => rfl) ?_ (m := k) (x := ((0, (qv5_1.set (w64 (5 * x4_1)).toNat t20).set (w64 ((w64 (5 * x4_1)) + 1)).toNat (wu64 (w64 (x11.Parent + 1)))), ())) hl2 ?_
      · clear h hl2
        intro k x o_2 h hK2 ih2
        obtain ⟨⟨x6_2, qv5_2⟩, _⟩ := x
        replace h : ref10_State_Words.l2 x4_1 x11 (k + 1) (x6_2, qv5_2) = some o_2 := h
        first | rw [ref10_State_Words.l2] at h | unfold ref10_State_Words.l2 at h
        refine S.rd fun hr28 => ?_
        refine S.seq ?_
        refine S.seq ?_
        refine S.region ?_
        refine SO.v rfl (opv_move rfl) ?_
        refine SO.v rfl (opv_fieldAddr Try.underlying65 rfl Try.sizeOf55 rfl rfl) ?_
        refine SO.b1 ?_
        refine SO.load1 rfl Try.isAgg55 rfl rfl ?_
        refine SO.v rfl (opv_lenR rfl Try.underlying55 hru17 rfl) ?_
        refine SO.v rfl (opv_lss rfl rfl) ?_
        refine SO.nil ?_
        rcases bool_or (decide (x6_2 < (x11.Kids.length : Int))) with b29 | b29
        · replace h := cond_t b29 h
          refine S.condT rfl b29 ?_
          refine S.skip ?_
          refine S.seq ?_
          refine S.block ?_
          refine S.seq ?_
          refine S.region ?_
          refine SO.v rfl (opv_fieldAddr Try.underlying65 rfl Try.sizeOf55 rfl rfl) ?_
          refine SO.load1 rfl Try.isAgg55 rfl rfl ?_
          refine SO.v rfl (opv_move rfl) ?_
          obtain ⟨x30, hx31, h⟩ := opt_bind h
          refine SO.v rfl (opv_idx Try.underlying55 Try.sizeOf3 hru17 rfl rfl hx31) ?_
          refine SO.loadI1 (j := 0) rfl Try.isAgg3 (Rd.tail (Rd.tail (Rd.tail (Rd.tail (Rd.head (Rd.pool hru17)))))) hx31 rfl rfl rfl rfl ?_
          refine SO.v rfl (opv_assign rfl) ?_
          refine SO.nil ?_
          refine S.to (ρ' := [(6, .int .i64 x6_2), (4, .int .i64 x4_1), (3, v5), (2, .slice none 0 0), (0, bp bp0 0), (5, bp b19 0), (7, .int .i64 x30)]) ⟨rfl, rfl, rfl, rfl, rfl, rfl, rfl, trivial⟩ ?_
          refine S.seq ?_
          refine S.seq ?_
          refine S.region ?_
          refine SO.v rfl (opv_move rfl) ?_
          refine SO.v rfl (opv_eql rfl rfl) ?_
          refine SO.nil ?_
          obtain ⟨qv5_3, hC3, hJ3⟩ := opt_bind h
          clear h
          refine S.cutP (G := Unit) (fun _ => True) (fun _ => [(0, bp bp0 0), (2, .slice none 0 0), (3, v5), (4, .int .i64 x4_1), (5, bp b19 0), (6, .int .i64 x6_2), (7, .int .i64 x30)]) (fun _ => [Box b19 [.int .i64 x11.Cap.Kind, .int .i64 x11.Cap.Rights, .int .i64 x11.Cap.Obj, .int .i64 x11.Cap.Badge, .int .i64 x11.Cap.Guard, .int .i64 x11.Cap.Bits, .int .i64 x11.Parent, u16], Own 66 (ekI .u64) v5 qv5_3, Box bp0 [v0_Slots, v0_Objs, .int .i64 a0.NS, .int .i64 a0.NO], OwnO 58 kr_ref10_Obj v0_Objs raws_v0_Objs A_v0_Objs a0.Objs, OwnO 65 kr_ref10_Slot v0_Slots raws_v0_Slots A_v0_Slots a0.Slots, F]) (fun hk3 => ?_) ?_
          · replace h := hC3
            rcases bool_or (x6_2 == 0) with b32 | b32
            · replace h := cond_t b32 h
              refine S.condT rfl b32 ?_
              refine S.region ?_
              refine SO.v rfl (opv_move rfl) ?_
              refine SO.v rfl (opv_move rfl) ?_
              refine SO.v rfl (opv_mul rfl rfl) ?_
              refine SO.v rfl (opv_add rfl rfl) ?_
              refine SO.v rfl (opv_move rfl) ?_
              refine SO.v rfl (opv_add rfl rfl) ?_
              refine SO.v rfl (opv_conv Try.underlying3 Try.underlying66 rfl) ?_
              obtain ⟨x33, hx34, h⟩ := opt_bind h
              refine SO.v rfl (opv_idx Try.underlying26 Try.sizeOf66 hr28 rfl rfl hx34) ?_
              refine SO.b1 ?_
              refine SO.storeI1 (j := 0) (z' := wu64 (w64 (x30 + 1))) Try.sizeOf66 hx34 rfl rfl rfl rfl rfl rfl ?_
              refine SO.rd fun hr35 => ?_
              refine SO.nil ?_
              refine S.to (ρ' := [(6, .int .i64 x6_2), (4, .int .i64 x4_1), (3, v5), (2, .slice none 0 0), (0, bp bp0 0), (5, bp b19 0), (7, .int .i64 x30)]) ⟨rfl, rfl, rfl, rfl, rfl, rfl, rfl, trivial⟩ ?_
              cases h
              refine S.b5 ?_
              refine S.b5 ?_
              refine S.b5 ?_
              refine S.b5 ?_
              refine S.b4 ?_
              refine S.b5 ?_
              refine S.to ?_ (hk3 () trivial)
              exact ⟨rfl, rfl, rfl, rfl, rfl, rfl, rfl, trivial⟩
            · replace h := cond_f b32 h
              refine S.condF rfl b32 ?_
              refine S.region ?_
              refine SO.v rfl (opv_move rfl) ?_
              refine SO.v rfl (opv_move rfl) ?_
              refine SO.v rfl (opv_mul rfl rfl) ?_
              refine SO.v rfl (opv_add rfl rfl) ?_
              refine SO.v rfl (opv_fieldAddr Try.underlying65 rfl Try.sizeOf55 rfl rfl) ?_
              refine SO.load1 rfl Try.isAgg55 rfl rfl ?_
              refine SO.v rfl (opv_move rfl) ?_
              refine SO.v rfl (opv_sub rfl rfl) ?_
              obtain ⟨x36, hx37, h⟩ := opt_bind h
              refine SO.v rfl (opv_idx Try.underlying55 Try.sizeOf3 hru17 rfl rfl hx37) ?_
              refine SO.loadI1 (j := 0) rfl Try.isAgg3 (Rd.tail (Rd.tail (Rd.tail (Rd.tail (Rd.head (Rd.pool hru17)))))) hx37 rfl rfl rfl rfl ?_
              refine SO.v rfl (opv_add rfl rfl) ?_
              refine SO.v rfl (opv_conv Try.underlying3 Try.underlying66 rfl) ?_
              obtain ⟨x38, hx39, h⟩ := opt_bind h
              refine SO.v rfl (opv_idx Try.underlying26 Try.sizeOf66 hr28 rfl rfl hx39) ?_
              refine SO.b1 ?_
              refine SO.storeI1 (j := 0) (z' := wu64 (w64 (x36 + 1))) Try.sizeOf66 hx39 rfl rfl rfl rfl rfl rfl ?_
              refine SO.rd fun hr40 => ?_
              refine SO.nil ?_
              refine S.to (ρ' := [(6, .int .i64 x6_2), (4, .int .i64 x4_1), (3, v5), (2, .slice none 0 0), (0, bp bp0 0), (5, bp b19 0), (7, .int .i64 x30)]) ⟨rfl, rfl, rfl, rfl, rfl, rfl, rfl, trivial⟩ ?_
              cases h
              refine S.b5 ?_
              refine S.b5 ?_
              refine S.b5 ?_
              refine S.b5 ?_
              refine S.b4 ?_
              refine S.b5 ?_
              refine S.to ?_ (hk3 () trivial)
              exact ⟨rfl, rfl, rfl, rfl, rfl, rfl, rfl, trivial⟩
          rintro _ -
          replace h := hJ3
          refine S.b1 ?_
          refine S.rd fun hr41 => ?_
          refine S.seq ?_
          refine S.region ?_
          refine SO.v rfl (opv_move rfl) ?_
          refine SO.v rfl (opv_add rfl rfl) ?_
          refine SO.v rfl (opv_fieldAddr Try.underlying65 rfl Try.sizeOf55 rfl rfl) ?_
          refine SO.b1 ?_
          refine SO.load1 rfl Try.isAgg55 rfl rfl ?_
          refine SO.v rfl (opv_lenR rfl Try.underlying55 hru17 rfl) ?_
          refine SO.v rfl (opv_lss rfl rfl) ?_
          refine SO.nil ?_
          rcases bool_or (decide ((w64 (x6_2 + 1)) < (x11.Kids.length : Int))) with b42 | b42
          · replace h := cond_t b42 h
            refine S.condT rfl b42 ?_
            refine S.region ?_
            refine SO.v rfl (opv_move rfl) ?_
            refine SO.v rfl (opv_move rfl) ?_
            refine SO.v rfl (opv_mul rfl rfl) ?_
            refine SO.v rfl (opv_add rfl rfl) ?_
            refine SO.v rfl (opv_fieldAddr Try.underlying65 rfl Try.sizeOf55 rfl rfl) ?_
            refine SO.load1 rfl Try.isAgg55 rfl rfl ?_
            refine SO.v rfl (opv_move rfl) ?_
            refine SO.v rfl (opv_add rfl rfl) ?_
            obtain ⟨x43, hx44, h⟩ := opt_bind h
            refine SO.v rfl (opv_idx Try.underlying55 Try.sizeOf3 hru17 rfl rfl hx44) ?_
            refine SO.loadI1 (j := 0) rfl Try.isAgg3 (Rd.tail (Rd.tail (Rd.tail (Rd.tail (Rd.head (Rd.pool hru17)))))) hx44 rfl rfl rfl rfl ?_
            refine SO.v rfl (opv_add rfl rfl) ?_
            refine SO.v rfl (opv_conv Try.underlying3 Try.underlying66 rfl) ?_
            obtain ⟨x45, hx46, h⟩ := opt_bind h
            refine SO.v rfl (opv_idx Try.underlying26 Try.sizeOf66 hr41 rfl rfl hx46) ?_
            refine SO.b1 ?_
            refine SO.storeI1 (j := 0) (z' := wu64 (w64 (x43 + 1))) Try.sizeOf66 hx46 rfl rfl rfl rfl rfl rfl ?_
            refine SO.rd fun hr47 => ?_
            refine SO.nil ?_
            refine S.to (ρ' := [(0, bp bp0 0), (2, .slice none 0 0), (3, v5), (4, .int .i64 x4_1), (5, bp b19 0), (6, .int .i64 x6_2)]) ⟨rfl, rfl, rfl, rfl, rfl, rfl, trivial⟩ ?_
            refine S.inBlock ?_
            refine S.region ?_
            refine SO.v rfl (opv_move rfl) ?_
            refine SO.v rfl (opv_add rfl rfl) ?_
            refine SO.v rfl (opv_assign rfl) ?_
            refine SO.nil ?_
            refine S.b5 ?_
            refine S.b5 ?_
            refine S.b5 ?_
            refine S.b5 ?_
            refine S.b5 ?_
            refine S.b5 ?_
            refine S.to ?_ (ih2 ((w64 (x6_2 + 1), qv5_3.set (w64 ((w64 (5 * x30)) + 3)).toNat (wu64 (w64 (x43 + 1)))), ()) h)
            exact ⟨rfl, rfl, rfl, rfl, rfl, rfl, trivial⟩
          · replace h := cond_f b42 h
            refine S.condF rfl b42 ?_
            refine S.skip ?_
            refine S.inBlock ?_
            refine S.region ?_
            refine SO.v rfl (opv_move rfl) ?_
            refine SO.v rfl (opv_add rfl rfl) ?_
            refine SO.v rfl (opv_assign rfl) ?_
            refine SO.nil ?_
            refine S.to (ρ' := [(0, bp bp0 0), (2, .slice none 0 0), (3, v5), (4, .int .i64 x4_1), (5, bp b19 0), (6, .int .i64 (w64 (x6_2 + 1)))]) ⟨rfl, rfl, rfl, rfl, rfl, rfl, trivial⟩ ?_
            refine S.b5 ?_
            refine S.b5 ?_
            refine S.b5 ?_
            refine S.b5 ?_
            refine S.b4 ?_
            refine S.b5 ?_
            refine S.to ?_ (ih2 ((w64 (x6_2 + 1), qv5_3), ()) h)
            exact ⟨rfl, rfl, rfl, rfl, rfl, rfl, trivial⟩
        · replace h := cond_f b29 h
          refine S.condF rfl b29 ?_
          refine S.exit rfl ?_
          cases h
          refine S.b5 ?_
          refine S.b5 ?_
          refine S.b5 ?_
          refine S.b5 ?_
          refine S.b4 ?_
          refine S.b5 ?_
          refine S.to ?_ (hK2 ())
          exact ⟨rfl, rfl, rfl, rfl, trivial⟩
      rintro _
      refine S.rd fun hr48 => ?_
      refine S.inBlock ?_
      refine S.region ?_
      refine SO.v rfl (opv_move rfl) ?_
      refine SO.v rfl (opv_add rfl rfl) ?_
      refine SO.v rfl (opv_assign rfl) ?_
      refine SO.nil ?_
      refine S.b1 ?_
      refine S.drop ?_
      refine S.b4 ?_
      refine S.b2 ?_
      refine S.b4 ?_
      refine S.b4 ?_
      refine S.b4 ?_
      refine S.to ?_ (ih1 ((w64 (x4_1 + 1), qv5_e2), ()) h)
      exact ⟨rfl, rfl, rfl, rfl, trivial⟩
    · replace h := cond_f b10 h
      refine S.condF rfl b10 ?_
      refine S.exit rfl ?_
      cases h
      refine S.b4 ?_
      refine S.b4 ?_
      refine S.b4 ?_
      refine S.b4 ?_
      refine S.b4 ?_
      refine S.to ?_ (hK1 ())
      exact ⟨rfl, rfl, rfl, trivial⟩
  rintro _
  refine S.rd fun hr49 => ?_
  refine S.seq ?_
  refine S.seq ?_
  refine S.region ?_
  refine SO.v rfl (opv_assign rfl) ?_
  refine SO.nil ?_
  obtain ⟨qv5_e4, hl4, h⟩ := opt_bind h
  refine S.b4 ?_
  refine S.b4 ?_
  refine S.b4 ?_
  refine S.b4 ?_
  refine S.b4 ?_
  refine S.to (ρ' := [(8, .int .i64 0), (0, bp bp0 0), (2, .slice none 0 0), (3, v5)]) ⟨rfl, rfl, rfl, rfl, trivial⟩ ?_
  refine S.forloop (X := (Int × (List Int)) × Unit) (O := (List Int)) (fun m x => ref10_State_Words.l4 a0 m x.1) (fun x => match x with | ((x8_4, qv5_4), _) => [(8, .int .i64 x8_4), (0, bp bp0 0), (2, .slice none 0 0), (3, v5)]) (fun x => match x with | ((x8_4, qv5_4), _) => [Own 66 (ekI .u64) v5 qv5_4, OwnO 58 kr_ref10_Obj v0_Objs raws_v0_Objs A_v0_Objs a0.Objs, OwnO 65 kr_ref10_Slot v0_Slots raws_v0_Slots A_v0_Slots a0.Slots, Box bp0 [v0_Slots, v0_Objs, .int .i64 a0.NS, .int .i64 a0.NO], F]) (fun Sk => (fun qv5_e4 => ∀ _ : Unit, Sk [(0, bp bp0 0), (2, .slice none 0 0), (3, v5)] [Own 66 (ekI .u64) v5 qv5_e4, OwnO 58 kr_ref10_Obj v0_Objs raws_v0_Objs A_v0_Objs a0.Objs, OwnO 65 kr_ref10_Slot v0_Slots raws_v0_Slots A_v0_Slots a0.Slots, Box bp0 [v0_Slots, v0_Objs, .int .i64 a0.NS, .int .i64 a0.NO], F])) (fun _ => rfl) ?_ (m := k) (x := ((0, qv5_e1), ())) hl4 ?_
  · clear h hl4
    intro k x o_4 h hK4 ih4
    obtain ⟨⟨x8_4, qv5_4⟩, _⟩ := x
    replace h : ref10_State_Words.l4 a0 (k + 1) (x8_4, qv5_4) = some o_4 := h
    first | rw [ref10_State_Words.l4] at h | unfold ref10_State_Words.l4 at h
    refine S.rd fun hr50 => ?_
    refine S.seq ?_
    refine S.seq ?_
    refine S.region ?_
    refine SO.v rfl (opv_move rfl) ?_
    refine SO.v rfl (opv_lss rfl rfl) ?_
    refine SO.nil ?_
    rcases bool_or (decide (x8_4 < 32)) with b51 | b51
    · replace h := cond_t b51 h
      refine S.condT rfl b51 ?_
      refine S.skip ?_
      refine S.seq ?_
      refine S.block ?_
      refine S.seq ?_
      refine S.region ?_
      refine SO.v rfl (opv_move rfl) ?_
      refine SO.v rfl (opv_nilCheck rfl) ?_
      refine SO.v rfl (opv_fieldAddr Try.underlying63 rfl Try.sizeOf61 rfl rfl) ?_
      refine SO.b3 ?_
      refine SO.load1 rfl Try.isAgg61 rfl rfl ?_
      refine SO.v rfl (opv_move rfl) ?_
      obtain ⟨x52, hx53, h⟩ := opt_bind h
      obtain ⟨r54, hr55, hc56⟩ := relR.at hrel3 hx53
      refine SO.v rfl (opv_idx Try.underlying61 Try.sizeOf58 hR4 rfl rfl hr55) ?_
      refine hc56.rip fun u57 hru58 e59 => ?_
      refine SO.loadIN rfl Try.isAgg58 Try.sizeOf58 (Rd.tail (Rd.tail (Rd.head hR4))) hr55 rfl rfl e59 ?_
      refine SO.alloc rfl Try.zeroValue58 rfl (fun b60 => ?_)
      refine SO.storeN Try.sizeOf58 rfl rfl (all1 rfl (all1 rfl (all1 rfl (all1 rfl (all1 rfl (all1 rfl (all1 (Rd.one hru58) (all1 rfl (all1 rfl (all1 rfl (all1 rfl (all1 rfl (all1 rfl (all1 rfl (all1 rfl (all1 rfl (all1 rfl (all1 rfl (all1 rfl (all1 rfl (all1 rfl (all1 rfl (all1 rfl (all1 rfl (all1 rfl (all1 rfl (all1 rfl (all1 rfl (all1 rfl (all1 rfl (all1 rfl (all1 rfl rfl)))))))))))))))))))))))))))))))) rfl rfl rfl ?_
      refine SO.nil ?_
      refine S.to (ρ' := [(8, .int .i64 x8_4), (0, bp bp0 0), (2, .slice none 0 0), (3, v5), (9, bp b60 0)]) ⟨rfl, rfl, rfl, rfl, rfl, trivial⟩ ?_
      refine S.seq ?_
      refine S.region ?_
      refine SO.v rfl (opv_move rfl) ?_
      refine SO.v rfl (opv_mul rfl rfl) ?_
      refine SO.v rfl (opv_add rfl rfl) ?_
      refine SO.v rfl (opv_assign rfl) ?_
      refine SO.nil ?_
      refine S.seq ?_
      refine S.region ?_
      refine SO.v rfl (opv_move rfl) ?_
      refine SO.v rfl (opv_move rfl) ?_
      refine SO.v rfl (opv_fieldAddr Try.underlying58 rfl Try.sizeOf3 rfl rfl) ?_
      refine SO.load1 rfl Try.isAgg3 rfl rfl ?_
      refine SO.v rfl (opv_conv Try.underlying3 Try.underlying66 rfl) ?_
      obtain ⟨x61, hx62, h⟩ := opt_bind h
      refine SO.v rfl (opv_idx Try.underlying26 Try.sizeOf66 hr50 rfl rfl hx62) ?_
      refine SO.b2 ?_
      refine SO.storeI1 (j := 0) (z' := wu64 x52.Kind) Try.sizeOf66 hx62 rfl rfl rfl rfl rfl rfl ?_
      refine SO.rd fun hr63 => ?_
      refine SO.nil ?_
      refine S.to (ρ' := [(8, .int .i64 x8_4), (0, bp bp0 0), (2, .slice none 0 0), (3, v5), (9, bp b60 0), (10, .int .i64 (w64 (480 + (w64 (8 * x8_4)))))]) ⟨rfl, rfl, rfl, rfl, rfl, rfl, trivial⟩ ?_
      refine S.seq ?_
      refine S.seq ?_
      refine S.region ?_
      refine SO.v rfl (opv_fieldAddr Try.underlying58 rfl Try.sizeOf3 rfl rfl) ?_
      refine SO.b1 ?_
      refine SO.load1 rfl Try.isAgg3 rfl rfl ?_
      refine SO.nil ?_
      obtain ⟨qv5_5, hC5, hJ5⟩ := opt_bind h
      clear h
      refine S.cutP (G := Unit) (fun _ => True) (fun _ => [(0, bp bp0 0), (2, .slice none 0 0), (3, v5), (8, .int .i64 x8_4), (9, bp b60 0), (10, .int .i64 (w64 (480 + (w64 (8 * x8_4)))))]) (fun _ => [Box b60 [.int .i64 x52.Kind, .int .i64 x52.Size, .int .i64 x52.Used, .int .i64 x52.First, .int .i64 x52.Radix, .int .i64 x52.Wait, u57, .int .i64 x52.Word, .int .i64 x52.State, .int .i64 x52.Owing, .int .i64 x52.Badge, .int .i64 x52.Prio, .int .i64 x52.On, .int .i64 x52.Owes, .int .i64 x52.Root.Kind, .int .i64 x52.Root.Rights, .int .i64 x52.Root.Obj, .int .i64 x52.Root.Badge, .int .i64 x52.Root.Guard, .int .i64 x52.Root.Bits, .int .i64 x52.Pages.a0, .int .i64 x52.Pages.a1, .int .i64 x52.Pages.a2, .int .i64 x52.Pages.a3, .int .i64 x52.Right.a0, .int .i64 x52.Right.a1, .int .i64 x52.Right.a2, .int .i64 x52.Right.a3, .int .i64 x52.In, .int .i64 x52.Page, .int .i64 x52.Bound, .int .i64 x52.Mask], Own 66 (ekI .u64) v5 qv5_5, Box bp0 [v0_Slots, v0_Objs, .int .i64 a0.NS, .int .i64 a0.NO], OwnO 58 kr_ref10_Obj v0_Objs raws_v0_Objs A_v0_Objs a0.Objs, OwnO 65 kr_ref10_Slot v0_Slots raws_v0_Slots A_v0_Slots a0.Slots, F]) (fun hk5 => ?_) ?_
      · replace h := hC5
        refine S.block ?_
        refine S.seq ?_
        refine S.region ?_
        refine SO.v rfl (opv_eql rfl rfl) ?_
        refine SO.v rfl (opv_assign rfl) ?_
        refine SO.nil ?_
        rcases bool_or (x52.Kind == 1) with b64 | b64
        · replace h := cond_t b64 h
          refine S.condT rfl b64 ?_
          refine S.seq ?_
          refine S.region ?_
          refine SO.v rfl (opv_move rfl) ?_
          refine SO.v rfl (opv_move rfl) ?_
          refine SO.v rfl (opv_add rfl rfl) ?_
          refine SO.v rfl (opv_fieldAddr Try.underlying58 rfl Try.sizeOf3 rfl rfl) ?_
          refine SO.load1 rfl Try.isAgg3 rfl rfl ?_
          refine SO.v rfl (opv_conv Try.underlying3 Try.underlying66 rfl) ?_
          obtain ⟨x65, hx66, h⟩ := opt_bind h
          refine SO.v rfl (opv_idx Try.underlying26 Try.sizeOf66 hr63 rfl rfl hx66) ?_
          refine SO.b1 ?_
          refine SO.storeI1 (j := 0) (z' := wu64 x52.Size) Try.sizeOf66 hx66 rfl rfl rfl rfl rfl rfl ?_
          refine SO.rd fun hr67 => ?_
          refine SO.nil ?_
          refine S.to (ρ' := [(8, .int .i64 x8_4), (0, bp bp0 0), (2, .slice none 0 0), (3, v5), (9, bp b60 0), (10, .int .i64 (w64 (480 + (w64 (8 * x8_4)))))]) ⟨rfl, rfl, rfl, rfl, rfl, rfl, trivial⟩ ?_
          refine S.region ?_
          refine SO.v rfl (opv_move rfl) ?_
          refine SO.v rfl (opv_move rfl) ?_
          refine SO.v rfl (opv_add rfl rfl) ?_
          refine SO.v rfl (opv_fieldAddr Try.underlying58 rfl Try.sizeOf3 rfl rfl) ?_
          refine SO.b1 ?_
          refine SO.load1 rfl Try.isAgg3 rfl rfl ?_
          refine SO.v rfl (opv_conv Try.underlying3 Try.underlying66 rfl) ?_
          obtain ⟨x68, hx69, h⟩ := opt_bind h
          refine SO.v rfl (opv_idx Try.underlying26 Try.sizeOf66 hr67 rfl rfl hx69) ?_
          refine SO.b1 ?_
          refine SO.storeI1 (j := 0) (z' := wu64 x52.Used) Try.sizeOf66 hx69 rfl rfl rfl rfl rfl rfl ?_
          refine SO.rd fun hr70 => ?_
          refine SO.nil ?_
          refine S.to (ρ' := [(8, .int .i64 x8_4), (0, bp bp0 0), (2, .slice none 0 0), (3, v5), (9, bp b60 0), (10, .int .i64 (w64 (480 + (w64 (8 * x8_4)))))]) ⟨rfl, rfl, rfl, rfl, rfl, rfl, trivial⟩ ?_
          refine S.inBlock ?_
          cases h
          refine S.b5 ?_
          refine S.b5 ?_
          refine S.b5 ?_
          refine S.b5 ?_
          refine S.b4 ?_
          refine S.b5 ?_
          refine S.to ?_ (hk5 () trivial)
          exact ⟨rfl, rfl, rfl, rfl, rfl, rfl, trivial⟩
        · replace h := cond_f b64 h
          refine S.condF rfl b64 ?_
          refine S.seq ?_
          refine S.region ?_
          refine SO.v rfl (opv_eql rfl rfl) ?_
          refine SO.v rfl (opv_assign rfl) ?_
          refine SO.nil ?_
          rcases bool_or (x52.Kind == 2) with b71 | b71
          · replace h := cond_t b71 h
            refine S.condT rfl b71 ?_
            refine S.seq ?_
            refine S.region ?_
            refine SO.v rfl (opv_move rfl) ?_
            refine SO.v rfl (opv_move rfl) ?_
            refine SO.v rfl (opv_add rfl rfl) ?_
            refine SO.v rfl (opv_fieldAddr Try.underlying58 rfl Try.sizeOf3 rfl rfl) ?_
            refine SO.load1 rfl Try.isAgg3 rfl rfl ?_
            refine SO.v rfl (opv_conv Try.underlying3 Try.underlying66 rfl) ?_
            obtain ⟨x72, hx73, h⟩ := opt_bind h
            refine SO.v rfl (opv_idx Try.underlying26 Try.sizeOf66 hr63 rfl rfl hx73) ?_
            refine SO.b1 ?_
            refine SO.storeI1 (j := 0) (z' := wu64 x52.First) Try.sizeOf66 hx73 rfl rfl rfl rfl rfl rfl ?_
            refine SO.rd fun hr74 => ?_
            refine SO.nil ?_
            refine S.to (ρ' := [(8, .int .i64 x8_4), (0, bp bp0 0), (2, .slice none 0 0), (3, v5), (9, bp b60 0), (10, .int .i64 (w64 (480 + (w64 (8 * x8_4)))))]) ⟨rfl, rfl, rfl, rfl, rfl, rfl, trivial⟩ ?_
            refine S.region ?_
            refine SO.v rfl (opv_move rfl) ?_
            refine SO.v rfl (opv_move rfl) ?_
            refine SO.v rfl (opv_add rfl rfl) ?_
            refine SO.v rfl (opv_fieldAddr Try.underlying58 rfl Try.sizeOf3 rfl rfl) ?_
            refine SO.b1 ?_
            refine SO.load1 rfl Try.isAgg3 rfl rfl ?_
            refine SO.v rfl (opv_conv Try.underlying3 Try.underlying66 rfl) ?_
            obtain ⟨x75, hx76, h⟩ := opt_bind h
            refine SO.v rfl (opv_idx Try.underlying26 Try.sizeOf66 hr74 rfl rfl hx76) ?_
            refine SO.b1 ?_
            refine SO.storeI1 (j := 0) (z' := wu64 x52.Radix) Try.sizeOf66 hx76 rfl rfl rfl rfl rfl rfl ?_
            refine SO.rd fun hr77 => ?_
            refine SO.nil ?_
            refine S.to (ρ' := [(8, .int .i64 x8_4), (0, bp bp0 0), (2, .slice none 0 0), (3, v5), (9, bp b60 0), (10, .int .i64 (w64 (480 + (w64 (8 * x8_4)))))]) ⟨rfl, rfl, rfl, rfl, rfl, rfl, trivial⟩ ?_
            refine S.inBlock ?_
            cases h
            refine S.b5 ?_
            refine S.b5 ?_
            refine S.b5 ?_
            refine S.b5 ?_
            refine S.b4 ?_
            refine S.b5 ?_
            refine S.to ?_ (hk5 () trivial)
            exact ⟨rfl, rfl, rfl, rfl, rfl, rfl, trivial⟩
          · replace h := cond_f b71 h
            refine S.condF rfl b71 ?_
            refine S.seq ?_
            refine S.region ?_
            refine SO.v rfl (opv_eql rfl rfl) ?_
            refine SO.v rfl (opv_assign rfl) ?_
            refine SO.nil ?_
            rcases bool_or (x52.Kind == 3) with b78 | b78
            · replace h := cond_t b78 h
              refine S.condT rfl b78 ?_
              refine S.region ?_
              refine SO.v rfl (opv_move rfl) ?_
              refine SO.v rfl (opv_move rfl) ?_
              refine SO.v rfl (opv_add rfl rfl) ?_
              refine SO.v rfl (opv_fieldAddr Try.underlying58 rfl Try.sizeOf3 rfl rfl) ?_
              refine SO.load1 rfl Try.isAgg3 rfl rfl ?_
              refine SO.v rfl (opv_conv Try.underlying3 Try.underlying66 rfl) ?_
              obtain ⟨x79, hx80, h⟩ := opt_bind h
              refine SO.v rfl (opv_idx Try.underlying26 Try.sizeOf66 hr63 rfl rfl hx80) ?_
              refine SO.b1 ?_
              refine SO.storeI1 (j := 0) (z' := wu64 x52.Wait) Try.sizeOf66 hx80 rfl rfl rfl rfl rfl rfl ?_
              refine SO.rd fun hr81 => ?_
              refine SO.nil ?_
              refine S.to (ρ' := [(8, .int .i64 x8_4), (0, bp bp0 0), (2, .slice none 0 0), (3, v5), (9, bp b60 0), (10, .int .i64 (w64 (480 + (w64 (8 * x8_4)))))]) ⟨rfl, rfl, rfl, rfl, rfl, rfl, trivial⟩ ?_
              refine S.inBlock ?_
              cases h
              refine S.b5 ?_
              refine S.b5 ?_
              refine S.b5 ?_
              refine S.b5 ?_
              refine S.b4 ?_
              refine S.b5 ?_
              refine S.to ?_ (hk5 () trivial)
              exact ⟨rfl, rfl, rfl, rfl, rfl, rfl, trivial⟩
            · replace h := cond_f b78 h
              refine S.condF rfl b78 ?_
              refine S.seq ?_
              refine S.region ?_
              refine SO.v rfl (opv_eql rfl rfl) ?_
              refine SO.v rfl (opv_assign rfl) ?_
              refine SO.nil ?_
              refine S.to (ρ' := [(8, .int .i64 x8_4), (0, bp bp0 0), (2, .slice none 0 0), (3, v5), (9, bp b60 0), (10, .int .i64 (w64 (480 + (w64 (8 * x8_4))))), (117, .int .i64 x52.Kind), (159, .bool (x52.Kind == 4))]) ⟨rfl, rfl, rfl, rfl, rfl, rfl, rfl, rfl, trivial⟩ ?_
              rcases bool_or (x52.Kind == 4) with b82 | b82
              · replace h := cond_t b82 h
                refine S.condT rfl b82 ?_
                refine S.region ?_
                refine SO.v rfl (opv_move rfl) ?_
                refine SO.v rfl (opv_move rfl) ?_
                refine SO.v rfl (opv_add rfl rfl) ?_
                refine SO.v rfl (opv_fieldAddr Try.underlying58 rfl Try.sizeOf3 rfl rfl) ?_
                refine SO.load1 rfl Try.isAgg3 rfl rfl ?_
                refine SO.v rfl (opv_conv Try.underlying3 Try.underlying66 rfl) ?_
                obtain ⟨x83, hx84, h⟩ := opt_bind h
                refine SO.v rfl (opv_idx Try.underlying26 Try.sizeOf66 hr63 rfl rfl hx84) ?_
                refine SO.b1 ?_
                refine SO.storeI1 (j := 0) (z' := wu64 x52.Word) Try.sizeOf66 hx84 rfl rfl rfl rfl rfl rfl ?_
                refine SO.rd fun hr85 => ?_
                refine SO.nil ?_
                refine S.to (ρ' := [(8, .int .i64 x8_4), (0, bp bp0 0), (2, .slice none 0 0), (3, v5), (9, bp b60 0), (10, .int .i64 (w64 (480 + (w64 (8 * x8_4)))))]) ⟨rfl, rfl, rfl, rfl, rfl, rfl, trivial⟩ ?_
                refine S.inBlock ?_
                cases h
                refine S.b5 ?_
                refine S.b5 ?_
                refine S.b5 ?_
                refine S.b5 ?_
                refine S.b4 ?_
                refine S.b5 ?_
                refine S.to ?_ (hk5 () trivial)
                exact ⟨rfl, rfl, rfl, rfl, rfl, rfl, trivial⟩
              · replace h := cond_f b82 h
                refine S.condF rfl b82 ?_
                refine S.seq ?_
                refine S.region ?_
                refine SO.v rfl (opv_eql rfl rfl) ?_
                refine SO.v rfl (opv_assign rfl) ?_
                refine SO.nil ?_
                rcases bool_or (x52.Kind == 5) with b86 | b86
                · replace h := cond_t b86 h
                  refine S.condT rfl b86 ?_
                  refine S.seq ?_
                  refine S.region ?_
                  refine SO.v rfl (opv_move rfl) ?_
                  refine SO.v rfl (opv_move rfl) ?_
                  refine SO.v rfl (opv_add rfl rfl) ?_
                  refine SO.v rfl (opv_fieldAddr Try.underlying58 rfl Try.sizeOf3 rfl rfl) ?_
                  refine SO.load1 rfl Try.isAgg3 rfl rfl ?_
                  refine SO.v rfl (opv_conv Try.underlying3 Try.underlying66 rfl) ?_
                  obtain ⟨x87, hx88, h⟩ := opt_bind h
                  refine SO.v rfl (opv_idx Try.underlying26 Try.sizeOf66 hr63 rfl rfl hx88) ?_
                  refine SO.b1 ?_
                  refine SO.storeI1 (j := 0) (z' := wu64 x52.State) Try.sizeOf66 hx88 rfl rfl rfl rfl rfl rfl ?_
                  refine SO.rd fun hr89 => ?_
                  refine SO.nil ?_
                  refine S.to (ρ' := [(8, .int .i64 x8_4), (0, bp bp0 0), (2, .slice none 0 0), (3, v5), (9, bp b60 0), (10, .int .i64 (w64 (480 + (w64 (8 * x8_4)))))]) ⟨rfl, rfl, rfl, rfl, rfl, rfl, trivial⟩ ?_
                  refine S.seq ?_
                  obtain ⟨x90, hx91, h⟩ := opt_bind h
                  obtain ⟨x92, hx93, h⟩ := opt_bind h
                  refine S.draw' (Z := fun Q => ∀ (_ : Unit) (_ : Unit) (_ : Unit) (_ : Unit) (_ : Unit) (_ : Unit) (_ : Unit) (_ : Unit) (_ : Unit) (_ : Unit), Q [(8, .int .i64 x8_4), (0, bp bp0 0), (2, .slice none 0 0), (3, v5), (9, bp b60 0), (10, .int .i64 (w64 (480 + (w64 (8 * x8_4)))))] [Own 66 (ekI .u64) v5 (((qv5_4.set (w64 (480 + (w64 (8 * x8_4)))).toNat (wu64 x52.Kind)).set (w64 ((w64 (480 + (w64 (8 * x8_4)))) + 1)).toNat (wu64 x52.State)).set (w64 ((w64 (480 + (w64 (8 * x8_4)))) + 2)).toNat (wu64 (x90 + (wu64 (w64 (x52.Owing + 1)))))), Box b60 [.int .i64 x52.Kind, .int .i64 x52.Size, .int .i64 x52.Used, .int .i64 x52.First, .int .i64 x52.Radix, .int .i64 x52.Wait, u57, .int .i64 x52.Word, .int .i64 x52.State, .int .i64 x52.Owing, .int .i64 x52.Badge, .int .i64 x52.Prio, .int .i64 x52.On, .int .i64 x52.Owes, .int .i64 x52.Root.Kind, .int .i64 x52.Root.Rights, .int .i64 x52.Root.Obj, .int .i64 x52.Root.Badge, .int .i64 x52.Root.Guard, .int .i64 x52.Root.Bits, .int .i64 x52.Pages.a0, .int .i64 x52.Pages.a1, .int .i64 x52.Pages.a2, .int .i64 x52.Pages.a3, .int .i64 x52.Right.a0, .int .i64 x52.Right.a1, .int .i64 x52.Right.a2, .int .i64 x52.Right.a3, .int .i64 x52.In, .int .i64 x52.Page, .int .i64 x52.Bound, .int .i64 x52.Mask], Box bp0 [v0_Slots, v0_Objs, .int .i64 a0.NS, .int .i64 a0.NO], OwnO 58 kr_ref10_Obj v0_Objs raws_v0_Objs A_v0_Objs a0.Objs, OwnO 65 kr_ref10_Slot v0_Slots raws_v0_Slots A_v0_Slots a0.Slots, F]) (T := [tS 3 (v5), tS 10 (.int .i64 (w64 (480 + (w64 (8 * x8_4))))), tS 9 (bp b60 0), tE [(8, .int .i64 x8_4), (0, bp bp0 0), (2, .slice none 0 0)], tR (Own 66 (ekI .u64) v5 ((qv5_4.set (w64 (480 + (w64 (8 * x8_4)))).toNat (wu64 x52.Kind)).set (w64 ((w64 (480 + (w64 (8 * x8_4)))) + 1)).toNat (wu64 x52.State))), tR (Box b60 [.int .i64 x52.Kind, .int .i64 x52.Size, .int .i64 x52.Used, .int .i64 x52.First, .int .i64 x52.Radix, .int .i64 x52.Wait, u57, .int .i64 x52.Word, .int .i64 x52.State, .int .i64 x52.Owing, .int .i64 x52.Badge, .int .i64 x52.Prio, .int .i64 x52.On, .int .i64 x52.Owes, .int .i64 x52.Root.Kind, .int .i64 x52.Root.Rights, .int .i64 x52.Root.Obj, .int .i64 x52.Root.Badge, .int .i64 x52.Root.Guard, .int .i64 x52.Root.Bits, .int .i64 x52.Pages.a0, .int .i64 x52.Pages.a1, .int .i64 x52.Pages.a2, .int .i64 x52.Pages.a3, .int .i64 x52.Right.a0, .int .i64 x52.Right.a1, .int .i64 x52.Right.a2, .int .i64 x52.Right.a3, .int .i64 x52.In, .int .i64 x52.Page, .int .i64 x52.Bound, .int .i64 x52.Mask]), tR (Box bp0 [v0_Slots, v0_Objs, .int .i64 a0.NS, .int .i64 a0.NO]), tR (OwnO 58 kr_ref10_Obj v0_Objs raws_v0_Objs A_v0_Objs a0.Objs), tR (OwnO 65 kr_ref10_Slot v0_Slots raws_v0_Slots A_v0_Slots a0.Slots), tR (F), tS 177 (v5), tS 178 (.int .i64 (w64 (480 + (w64 (8 * x8_4))))), tS 179 (.int .i64 (w64 ((w64 (480 + (w64 (8 * x8_4)))) + 2))), tS 180 (v5), tS 181 (.int .i64 (w64 (480 + (w64 (8 * x8_4))))), tS 182 (.int .i64 (w64 ((w64 (480 + (w64 (8 * x8_4)))) + 2))), tS 183 (idxp v5 ((w64 ((w64 (480 + (w64 (8 * x8_4)))) + 2)).toNat * (ekI .u64).sz)), tS 184 (.int .u64 x90), tS 185 (bp b60 9), tS 186 (.int .i64 x52.Owing), tS 187 (.int .i64 (w64 (x52.Owing + 1))), tS 188 (.int .u64 (wu64 (w64 (x52.Owing + 1)))), tS 189 (.int .u64 (wu64 (x90 + (wu64 (w64 (x52.Owing + 1)))))), tS 190 (idxp v5 ((w64 ((w64 (480 + (w64 (8 * x8_4)))) + 2)).toNat * (ekI .u64).sz)), tR (Own 66 (ekI .u64) v5 (((qv5_4.set (w64 (480 + (w64 (8 * x8_4)))).toNat (wu64 x52.Kind)).set (w64 ((w64 (480 + (w64 (8 * x8_4)))) + 1)).toNat (wu64 x52.State)).set (w64 ((w64 (480 + (w64 (8 * x8_4)))) + 2)).toNat (wu64 (x90 + (wu64 (w64 (x52.Owing + 1)))))))]) (D := [⟨[0], [], [10]⟩, ⟨[1], [], [11]⟩, ⟨[11], [], [12]⟩, ⟨[0], [], [13]⟩, ⟨[1], [], [14]⟩, ⟨[14], [], [15]⟩, ⟨[13, 15, 4], [], [16]⟩, ⟨[16, 4], [], [17]⟩, ⟨[2], [], [18]⟩, ⟨[18, 5], [], [19]⟩, ⟨[19], [], [20]⟩, ⟨[20], [], [21]⟩, ⟨[17, 21], [], [22]⟩, ⟨[10, 12, 4], [], [23]⟩, ⟨[22, 23], [4], [24]⟩]) (ini := [0, 1, 2, 3, 4, 5, 6, 7, 8, 9]) (fin := [3, 0, 2, 1, 24, 5, 6, 7, 8, 9]) (bf := [[], [], [1], [], [], [4], [3, 4, 5], [3, 4, 5, 6], [], [8], [8, 9], [8, 9, 10], [3, 4, 5, 6, 7, 8, 9, 10, 11], [0, 1, 2, 3, 4, 5, 6, 7, 8, 9, 10, 11, 12], [0, 1, 2, 3, 4, 5, 6, 7, 8, 9, 10, 11, 12, 13]]) (by kernel_rfl) (by kernel_rfl) (fun x w h1 h2 => (.cons () (.cons () (.cons () (.cons () (.cons () (.cons () (.cons () (.cons () (.cons () (.cons () (.nil ⟨EnvAll.of h1 ⟨rfl, rfl, rfl, rfl, rfl, rfl, trivial⟩, h2⟩)))))))))))) (fun Q => by kernel_rfl) ⟨?_, ?_, ?_, ?_, ?_, ?_, ?_, ?_, ?_, ?_, ?_, ?_, ?_, ?_, ?_, trivial⟩ ?_
                  · rintro Fr _
                    refine SO.v rfl (opv_move rfl) ?_
                    exact SO.nilZ fun a w h1 h2 h3 h4 h5 => PZ.of h1 h3 h5 (.cons () (.cons () (.nil ⟨EnvAll.of h2 ⟨rfl, rfl, trivial⟩, h4⟩)))
                  · rintro Fr _
                    refine SO.v rfl (opv_move rfl) ?_
                    exact SO.nilZ fun a w h1 h2 h3 h4 h5 => PZ.of h1 h3 h5 (.cons () (.cons () (.nil ⟨EnvAll.of h2 ⟨rfl, rfl, trivial⟩, h4⟩)))
                  · rintro Fr _
                    refine SO.v rfl (opv_add rfl rfl) ?_
                    exact SO.nilZ fun a w h1 h2 h3 h4 h5 => PZ.of h1 h3 h5 (.cons () (.cons () (.nil ⟨EnvAll.of h2 ⟨rfl, rfl, trivial⟩, h4⟩)))
                  · rintro Fr _
                    refine SO.v rfl (opv_move rfl) ?_
                    exact SO.nilZ fun a w h1 h2 h3 h4 h5 => PZ.of h1 h3 h5 (.cons () (.cons () (.nil ⟨EnvAll.of h2 ⟨rfl, rfl, trivial⟩, h4⟩)))
                  · rintro Fr _
                    refine SO.v rfl (opv_move rfl) ?_
                    exact SO.nilZ fun a w h1 h2 h3 h4 h5 => PZ.of h1 h3 h5 (.cons () (.cons () (.nil ⟨EnvAll.of h2 ⟨rfl, rfl, trivial⟩, h4⟩)))
                  · rintro Fr _
                    refine SO.v rfl (opv_add rfl rfl) ?_
                    exact SO.nilZ fun a w h1 h2 h3 h4 h5 => PZ.of h1 h3 h5 (.cons () (.cons () (.nil ⟨EnvAll.of h2 ⟨rfl, rfl, trivial⟩, h4⟩)))
                  · rintro Fr _ _ _
                    refine SO.v rfl (opv_idx Try.underlying26 Try.sizeOf66 hr89 rfl rfl hx91) ?_
                    exact SO.nilZ fun a w h1 h2 h3 h4 h5 => PZ.of h1 h3 h5 (.cons () (.cons () (.cons () (.cons () (.nil ⟨EnvAll.of h2 ⟨rfl, rfl, rfl, trivial⟩, h4⟩)))))
                  · rintro Fr _ _
                    refine SO.loadI1 (j := 0) rfl Try.isAgg66 (Rd.head hr89) hx91 rfl rfl rfl rfl ?_
                    exact SO.nilZ fun a w h1 h2 h3 h4 h5 => PZ.of h1 h3 h5 (.cons () (.cons () (.cons () (.nil ⟨EnvAll.of h2 ⟨rfl, rfl, trivial⟩, h4⟩))))
                  · rintro Fr _
                    refine SO.v rfl (opv_fieldAddr Try.underlying58 rfl Try.sizeOf3 rfl rfl) ?_
                    exact SO.nilZ fun a w h1 h2 h3 h4 h5 => PZ.of h1 h3 h5 (.cons () (.cons () (.nil ⟨EnvAll.of h2 ⟨rfl, rfl, trivial⟩, h4⟩)))
                  · rintro Fr _ _
                    refine SO.load1 rfl Try.isAgg3 rfl rfl ?_
                    exact SO.nilZ fun a w h1 h2 h3 h4 h5 => PZ.of h1 h3 h5 (.cons () (.cons () (.cons () (.nil ⟨EnvAll.of h2 ⟨rfl, rfl, trivial⟩, h4⟩))))
                  · rintro Fr _
                    refine SO.v rfl (opv_add rfl rfl) ?_
                    exact SO.nilZ fun a w h1 h2 h3 h4 h5 => PZ.of h1 h3 h5 (.cons () (.cons () (.nil ⟨EnvAll.of h2 ⟨rfl, rfl, trivial⟩, h4⟩)))
                  · rintro Fr _
                    refine SO.v rfl (opv_conv Try.underlying3 Try.underlying66 rfl) ?_
                    exact SO.nilZ fun a w h1 h2 h3 h4 h5 => PZ.of h1 h3 h5 (.cons () (.cons () (.nil ⟨EnvAll.of h2 ⟨rfl, rfl, trivial⟩, h4⟩)))
                  · rintro Fr _ _
                    refine SO.v rfl (opv_add rfl rfl) ?_
                    exact SO.nilZ fun a w h1 h2 h3 h4 h5 => PZ.of h1 h3 h5 (.cons () (.cons () (.cons () (.nil ⟨EnvAll.of h2 ⟨rfl, rfl, rfl, trivial⟩, h4⟩))))
                  · rintro Fr _ _ _
                    refine SO.v rfl (opv_idx Try.underlying26 Try.sizeOf66 hr89 rfl rfl hx93) ?_
                    exact SO.nilZ fun a w h1 h2 h3 h4 h5 => PZ.of h1 h3 h5 (.cons () (.cons () (.cons () (.cons () (.nil ⟨EnvAll.of h2 ⟨rfl, rfl, rfl, trivial⟩, h4⟩)))))
                  · rintro Fr _ _ _
                    refine SO.storeI1 (j := 0) (z' := wu64 (x90 + (wu64 (w64 (x52.Owing + 1))))) Try.sizeOf66 hx93 rfl rfl rfl rfl rfl rfl ?_
                    refine SO.rd fun hr94 => ?_
                    exact SO.nilZ fun a w h1 h2 h3 h4 h5 => PZ.of h1 h3 h5 (.cons () (.cons () (.cons () (.nil ⟨EnvAll.of h2 ⟨rfl, rfl, trivial⟩, h4⟩))))
                  rintro _ _ _ _ _ _ _ _ _ _
                  refine S.to (ρ' := [(8, .int .i64 x8_4), (0, bp bp0 0), (2, .slice none 0 0), (3, v5), (9, bp b60 0), (10, .int .i64 (w64 (480 + (w64 (8 * x8_4)))))]) ⟨rfl, rfl, rfl, rfl, rfl, rfl, trivial⟩ ?_
                  refine S.rd fun hr95 => ?_
                  refine S.seq ?_
                  refine S.region ?_
                  refine SO.v rfl (opv_move rfl) ?_
                  refine SO.v rfl (opv_move rfl) ?_
                  refine SO.v rfl (opv_add rfl rfl) ?_
                  refine SO.v rfl (opv_fieldAddr Try.underlying58 rfl Try.sizeOf3 rfl rfl) ?_
                  refine SO.b1 ?_
                  refine SO.load1 rfl Try.isAgg3 rfl rfl ?_
                  refine SO.v rfl (opv_conv Try.underlying3 Try.underlying66 rfl) ?_
                  obtain ⟨x96, hx97, h⟩ := opt_bind h
                  refine SO.v rfl (opv_idx Try.underlying26 Try.sizeOf66 hr95 rfl rfl hx97) ?_
                  refine SO.b1 ?_
                  refine SO.storeI1 (j := 0) (z' := wu64 x52.Word) Try.sizeOf66 hx97 rfl rfl rfl rfl rfl rfl ?_
                  refine SO.rd fun hr98 => ?_
                  refine SO.nil ?_
                  refine S.to (ρ' := [(8, .int .i64 x8_4), (0, bp bp0 0), (2, .slice none 0 0), (3, v5), (9, bp b60 0), (10, .int .i64 (w64 (480 + (w64 (8 * x8_4)))))]) ⟨rfl, rfl, rfl, rfl, rfl, rfl, trivial⟩ ?_
                  refine S.seq ?_
                  refine S.region ?_
                  refine SO.v rfl (opv_move rfl) ?_
                  refine SO.v rfl (opv_move rfl) ?_
                  refine SO.v rfl (opv_add rfl rfl) ?_
                  refine SO.v rfl (opv_fieldAddr Try.underlying58 rfl Try.sizeOf3 rfl rfl) ?_
                  refine SO.b1 ?_
                  refine SO.load1 rfl Try.isAgg3 rfl rfl ?_
                  refine SO.v rfl (opv_conv Try.underlying3 Try.underlying66 rfl) ?_
                  obtain ⟨x99, hx100, h⟩ := opt_bind h
                  refine SO.v rfl (opv_idx Try.underlying26 Try.sizeOf66 hr98 rfl rfl hx100) ?_
                  refine SO.b1 ?_
                  refine SO.storeI1 (j := 0) (z' := wu64 x52.Badge) Try.sizeOf66 hx100 rfl rfl rfl rfl rfl rfl ?_
                  refine SO.rd fun hr101 => ?_
                  refine SO.nil ?_
                  refine S.to (ρ' := [(8, .int .i64 x8_4), (0, bp bp0 0), (2, .slice none 0 0), (3, v5), (9, bp b60 0), (10, .int .i64 (w64 (480 + (w64 (8 * x8_4)))))]) ⟨rfl, rfl, rfl, rfl, rfl, rfl, trivial⟩ ?_
                  refine S.seq ?_
                  refine S.region ?_
                  refine SO.v rfl (opv_move rfl) ?_
                  refine SO.v rfl (opv_move rfl) ?_
                  refine SO.v rfl (opv_add rfl rfl) ?_
                  refine SO.v rfl (opv_fieldAddr Try.underlying58 rfl Try.sizeOf3 rfl rfl) ?_
                  refine SO.b1 ?_
                  refine SO.load1 rfl Try.isAgg3 rfl rfl ?_
                  refine SO.v rfl (opv_fieldAddr Try.underlying58 rfl Try.sizeOf3 rfl rfl) ?_
                  refine SO.load1 rfl Try.isAgg3 rfl rfl ?_
                  refine SO.v rfl (opv_add rfl rfl) ?_
                  refine SO.v rfl (opv_mul rfl rfl) ?_
                  refine SO.v rfl (opv_add rfl rfl) ?_
                  refine SO.v rfl (opv_conv Try.underlying3 Try.underlying66 rfl) ?_
                  obtain ⟨x102, hx103, h⟩ := opt_bind h
                  refine SO.v rfl (opv_idx Try.underlying26 Try.sizeOf66 hr101 rfl rfl hx103) ?_
                  refine SO.b1 ?_
                  refine SO.storeI1 (j := 0) (z' := wu64 (w64 (x52.Prio + (w64 (256 * (w64 (x52.On + 1))))))) Try.sizeOf66 hx103 rfl rfl rfl rfl rfl rfl ?_
                  refine SO.rd fun hr104 => ?_
                  refine SO.nil ?_
                  refine S.to (ρ' := [(8, .int .i64 x8_4), (0, bp bp0 0), (2, .slice none 0 0), (3, v5), (9, bp b60 0), (10, .int .i64 (w64 (480 + (w64 (8 * x8_4)))))]) ⟨rfl, rfl, rfl, rfl, rfl, rfl, trivial⟩ ?_
                  refine S.seq ?_
                  refine S.region ?_
                  refine SO.v rfl (opv_move rfl) ?_
                  refine SO.v rfl (opv_move rfl) ?_
                  refine SO.v rfl (opv_add rfl rfl) ?_
                  refine SO.v rfl (opv_fieldAddr Try.underlying58 rfl Try.sizeOf3 rfl rfl) ?_
                  refine SO.b1 ?_
                  refine SO.load1 rfl Try.isAgg3 rfl rfl ?_
                  refine SO.v rfl (opv_add rfl rfl) ?_
                  refine SO.v rfl (opv_conv Try.underlying3 Try.underlying66 rfl) ?_
                  obtain ⟨x105, hx106, h⟩ := opt_bind h
                  refine SO.v rfl (opv_idx Try.underlying26 Try.sizeOf66 hr104 rfl rfl hx106) ?_
                  refine SO.b1 ?_
                  refine SO.storeI1 (j := 0) (z' := wu64 (w64 (x52.Owes + 1))) Try.sizeOf66 hx106 rfl rfl rfl rfl rfl rfl ?_
                  refine SO.rd fun hr107 => ?_
                  refine SO.nil ?_
                  refine S.to (ρ' := [(8, .int .i64 x8_4), (0, bp bp0 0), (2, .slice none 0 0), (3, v5), (9, bp b60 0), (10, .int .i64 (w64 (480 + (w64 (8 * x8_4)))))]) ⟨rfl, rfl, rfl, rfl, rfl, rfl, trivial⟩ ?_
                  refine S.region ?_
                  refine SO.v rfl (opv_move rfl) ?_
                  refine SO.v rfl (opv_move rfl) ?_
                  refine SO.v rfl (opv_add rfl rfl) ?_
                  refine SO.v rfl (opv_fieldAddr Try.underlying58 rfl Try.sizeOf45 rfl rfl) ?_
                  refine SO.b1 ?_
                  refine SO.loadN rfl Try.isAgg45 Try.sizeOf45 rfl rfl rfl ?_
                  obtain ⟨t108, ht109, h⟩ := opt_bind h
                  refine SO.call (pre := []) rfl Try.call23 rfl rfl rfl (ref01_Word.ct _ _ ht109) trivial ?_
                  rintro _ _ ⟨rfl, rfl⟩
                  obtain ⟨x110, hx111, h⟩ := opt_bind h
                  refine SO.v rfl (opv_idx Try.underlying26 Try.sizeOf66 hr107 rfl rfl hx111) ?_
                  refine SO.b1 ?_
                  refine SO.storeI1 (j := 0) (z' := t108) Try.sizeOf66 hx111 rfl rfl rfl rfl rfl rfl ?_
                  refine SO.rd fun hr112 => ?_
                  refine SO.nil ?_
                  refine S.to (ρ' := [(8, .int .i64 x8_4), (0, bp bp0 0), (2, .slice none 0 0), (3, v5), (9, bp b60 0), (10, .int .i64 (w64 (480 + (w64 (8 * x8_4)))))]) ⟨rfl, rfl, rfl, rfl, rfl, rfl, trivial⟩ ?_
                  refine S.inBlock ?_
                  cases h
                  refine S.b5 ?_
                  refine S.b5 ?_
                  refine S.b5 ?_
                  refine S.b5 ?_
                  refine S.b4 ?_
                  refine S.b5 ?_
                  refine S.to ?_ (hk5 () trivial)
                  exact ⟨rfl, rfl, rfl, rfl, rfl, rfl, trivial⟩
                · replace h := cond_f b86 h
                  refine S.condF rfl b86 ?_
                  refine S.seq ?_
                  refine S.region ?_
                  refine SO.v rfl (opv_eql rfl rfl) ?_
                  refine SO.v rfl (opv_assign rfl) ?_
                  refine SO.nil ?_
                  rcases bool_or (x52.Kind == 6) with b113 | b113
                  · replace h := cond_t b113 h
                    refine S.condT rfl b113 ?_
                    refine S.seq ?_
                    refine S.region ?_
                    refine SO.v rfl (opv_move rfl) ?_
                    refine SO.v rfl (opv_move rfl) ?_
                    refine SO.v rfl (opv_add rfl rfl) ?_
                    refine SO.v rfl (opv_fieldAddr Try.underlying58 rfl Try.sizeOf3 rfl rfl) ?_
                    refine SO.load1 rfl Try.isAgg3 rfl rfl ?_
                    refine SO.v rfl (opv_add rfl rfl) ?_
                    refine SO.v rfl (opv_conv Try.underlying3 Try.underlying66 rfl) ?_
                    obtain ⟨x114, hx115, h⟩ := opt_bind h
                    refine SO.v rfl (opv_idx Try.underlying26 Try.sizeOf66 hr63 rfl rfl hx115) ?_
                    refine SO.b1 ?_
                    refine SO.storeI1 (j := 0) (z' := wu64 (w64 (x52.In + 1))) Try.sizeOf66 hx115 rfl rfl rfl rfl rfl rfl ?_
                    refine SO.rd fun hr116 => ?_
                    refine SO.nil ?_
                    refine S.to (ρ' := [(8, .int .i64 x8_4), (0, bp bp0 0), (2, .slice none 0 0), (3, v5), (9, bp b60 0), (10, .int .i64 (w64 (480 + (w64 (8 * x8_4)))))]) ⟨rfl, rfl, rfl, rfl, rfl, rfl, trivial⟩ ?_
                    refine S.region ?_
                    refine SO.v rfl (opv_move rfl) ?_
                    refine SO.v rfl (opv_move rfl) ?_
                    refine SO.v rfl (opv_add rfl rfl) ?_
                    refine SO.v rfl (opv_fieldAddr Try.underlying58 rfl Try.sizeOf3 rfl rfl) ?_
                    refine SO.b1 ?_
                    refine SO.load1 rfl Try.isAgg3 rfl rfl ?_
                    refine SO.v rfl (opv_conv Try.underlying3 Try.underlying66 rfl) ?_
                    obtain ⟨x117, hx118, h⟩ := opt_bind h
                    refine SO.v rfl (opv_idx Try.underlying26 Try.sizeOf66 hr116 rfl rfl hx118) ?_
                    refine SO.b1 ?_
                    refine SO.storeI1 (j := 0) (z' := wu64 x52.Page) Try.sizeOf66 hx118 rfl rfl rfl rfl rfl rfl ?_
                    refine SO.rd fun hr119 => ?_
                    refine SO.nil ?_
                    refine S.to (ρ' := [(8, .int .i64 x8_4), (0, bp bp0 0), (2, .slice none 0 0), (3, v5), (9, bp b60 0), (10, .int .i64 (w64 (480 + (w64 (8 * x8_4)))))]) ⟨rfl, rfl, rfl, rfl, rfl, rfl, trivial⟩ ?_
                    refine S.inBlock ?_
                    cases h
                    refine S.b5 ?_
                    refine S.b5 ?_
                    refine S.b5 ?_
                    refine S.b5 ?_
                    refine S.b4 ?_
                    refine S.b5 ?_
                    refine S.to ?_ (hk5 () trivial)
                    exact ⟨rfl, rfl, rfl, rfl, rfl, rfl, trivial⟩
                  · replace h := cond_f b113 h
                    refine S.condF rfl b113 ?_
                    refine S.seq ?_
                    refine S.region ?_
                    refine SO.v rfl (opv_eql rfl rfl) ?_
                    refine SO.v rfl (opv_assign rfl) ?_
                    refine SO.nil ?_
                    rcases bool_or (x52.Kind == 7) with b120 | b120
                    · replace h := cond_t b120 h
                      refine S.condT rfl b120 ?_
                      refine S.seq ?_
                      refine S.region ?_
                      refine SO.v rfl (opv_assign rfl) ?_
                      refine SO.nil ?_
                      refine S.to (ρ' := [(8, .int .i64 x8_4), (0, bp bp0 0), (2, .slice none 0 0), (3, v5), (9, bp b60 0), (10, .int .i64 (w64 (480 + (w64 (8 * x8_4))))), (11, .int .i64 0)]) ⟨rfl, rfl, rfl, rfl, rfl, rfl, rfl, trivial⟩ ?_
                      obtain ⟨qv5_e6, hl6, h⟩ := opt_bind h
                      refine S.b5 ?_
                      refine S.b5 ?_
                      refine S.b5 ?_
                      refine S.b5 ?_
                      refine S.b5 ?_
                      refine S.b5 ?_
                      refine S.to (ρ' := [(8, .int .i64 x8_4), (0, bp bp0 0), (2, .slice none 0 0), (3, v5), (9, bp b60 0), (10, .int .i64 (w64 (480 + (w64 (8 * x8_4))))), (11, .int .i64 0)]) ⟨rfl, rfl, rfl, rfl, rfl, rfl, rfl, trivial⟩ ?_
                      refine S.forloop (X := (Int × (List Int)) × Unit) (O := (List Int)) (fun m x => ref10_State_Words.l6 x8_4 x52 m x.1) (fun x => match x with | ((x11_6, qv5_6), _) => [(8, .int .i64 x8_4), (0, bp bp0 0), (2, .slice none 0 0), (3, v5), (9, bp b60 0), (10, .int .i64 (w64 (480 + (w64 (8 * x8_4))))), (11, .int .i64 x11_6)]) (fun x => match x with | ((x11_6, qv5_6), _) => [Box b60 [.int .i64 x52.Kind, .int .i64 x52.Size, .int .i64 x52.Used, .int .i64 x52.First, .int .i64 x52.Radix, .int .i64 x52.Wait, u57, .int .i64 x52.Word, .int .i64 x52.State, .int .i64 x52.Owing, .int .i64 x52.Badge, .int .i64 x52.Prio, .int .i64 x52.On, .int .i64 x52.Owes, .int .i64 x52.Root.Kind, .int .i64 x52.Root.Rights, .int .i64 x52.Root.Obj, .int .i64 x52.Root.Badge, .int .i64 x52.Root.Guard, .int .i64 x52.Root.Bits, .int .i64 x52.Pages.a0, .int .i64 x52.Pages.a1, .int .i64 x52.Pages.a2, .int .i64 x52.Pages.a3, .int .i64 x52.Right.a0, .int .i64 x52.Right.a1, .int .i64 x52.Right.a2, .int .i64 x52.Right.a3, .int .i64 x52.In, .int .i64 x52.Page, .int .i64 x52.Bound, .int .i64 x52.Mask], Own 66 (ekI .u64) v5 qv5_6, Box bp0 [v0_Slots, v0_Objs, .int .i64 a0.NS, .int .i64 a0.NO], OwnO 58 kr_ref10_Obj v0_Objs raws_v0_Objs A_v0_Objs a0.Objs, OwnO 65 kr_ref10_Slot v0_Slots raws_v0_Slots A_v0_Slots a0.Slots, F]) (fun Sk => (fun qv5_e6 => ∀ _ : Unit, Sk [(0, bp bp0 0), (2, .slice none 0 0), (3, v5), (8, .int .i64 x8_4), (9, bp b60 0), (10, .int .i64 (w64 (480 + (w64 (8 * x8_4)))))] [Box b60 [.int .i64 x52.Kind, .int .i64 x52.Size, .int .i64 x52.Used, .int .i64 x52.First, .int .i64 x52.Radix, .int .i64 x52.Wait, u57, .int .i64 x52.Word, .int .i64 x52.State, .int .i64 x52.Owing, .int .i64 x52.Badge, .int .i64 x52.Prio, .int .i64 x52.On, .int .i64 x52.Owes, .int .i64 x52.Root.Kind, .int .i64 x52.Root.Rights, .int .i64 x52.Root.Obj, .int .i64 x52.Root.Badge, .int .i64 x52.Root.Guard, .int .i64 x52.Root.Bits, .int .i64 x52.Pages.a0, .int .i64 x52.Pages.a1, .int .i64 x52.Pages.a2, .int .i64 x52.Pages.a3, .int .i64 x52.Right.a0, .int .i64 x52.Right.a1, .int .i64 x52.Right.a2, .int .i64 x52.Right.a3, .int .i64 x52.In, .int .i64 x52.Page, .int .i64 x52.Bound, .int .i64 x52.Mask], Own 66 (ekI .u64) v5 qv5_e6, Box bp0 [v0_Slots, v0_Objs, .int .i64 a0.NS, .int .i64 a0.NO], OwnO 58 kr_ref10_Obj v0_Objs raws_v0_Objs A_v0_Objs a0.Objs, OwnO 65 kr_ref10_Slot v0_Slots raws_v0_Slots A_v0_Slots a0.Slots, F])) (fun _ => rfl) ?_ (m := k) (x := ((0, qv5_4.set (w64 (480 + (w64 (8 * x8_4)))).toNat (wu64 x52.Kind)), ())) hl6 ?_
                      · clear h hl6
                        intro k x o_6 h hK6 ih6
                        obtain ⟨⟨x11_6, qv5_6⟩, _⟩ := x
                        replace h : ref10_State_Words.l6 x8_4 x52 (k + 1) (x11_6, qv5_6) = some o_6 := h
                        first | rw [ref10_State_Words.l6] at h | unfold ref10_State_Words.l6 at h
                        refine S.b1 ?_
                        refine S.rd fun hr121 => ?_
                        refine S.seq ?_
                        refine S.seq ?_
                        refine S.region ?_
                        refine SO.v rfl (opv_move rfl) ?_
                        refine SO.v rfl (opv_lss rfl rfl) ?_
                        refine SO.nil ?_
                        rcases bool_or (decide (x11_6 < 4)) with b122 | b122
                        · replace h := cond_t b122 h
                          refine S.condT rfl b122 ?_
                          refine S.skip ?_
                          refine S.seq ?_
                          refine S.block ?_
                          refine S.seq ?_
                          refine S.region ?_
                          refine SO.v rfl (opv_move rfl) ?_
                          refine SO.v rfl (opv_fieldAddr Try.underlying58 rfl Try.sizeOf56 rfl rfl) ?_
                          obtain ⟨x123, hx124, h⟩ := opt_bind h
                          refine SO.v rfl (opv_idxA Try.underlying56 Try.sizeOf3 rfl rfl hx124) ?_
                          refine SO.b1 ?_
                          refine SO.load1 (v := .int .i64 x123) rfl Try.isAgg3 rfl (by rcases A4.get_cases hx124 with ⟨h1, h2⟩ | ⟨h1, h2⟩ | ⟨h1, h2⟩ | ⟨h1, h2⟩ <;> simp only [h1, h2] <;> rfl) ?_
                          refine SO.v rfl (opv_geq rfl rfl) ?_
                          refine SO.nil ?_
                          rcases bool_or (decide (0 ≤ x123)) with b125 | b125
                          · replace h := cond_t b125 h
                            refine S.condT rfl b125 ?_
                            obtain ⟨x126, hx127, h⟩ := opt_bind h
                            obtain ⟨x128, hx129, h⟩ := opt_bind h
                            obtain ⟨x130, hx131, h⟩ := opt_bind h
                            refine S.draw' (Z := fun Q => ∀ (_ : Unit) (_ : Unit) (_ : Unit) (_ : Unit) (_ : Unit) (_ : Unit) (_ : Unit) (_ : Unit) (_ : Unit) (_ : Unit) (_ : Unit), Q [(8, .int .i64 x8_4), (0, bp bp0 0), (2, .slice none 0 0), (3, v5), (9, bp b60 0), (10, .int .i64 (w64 (480 + (w64 (8 * x8_4))))), (11, .int .i64 x11_6)] [Box b60 [.int .i64 x52.Kind, .int .i64 x52.Size, .int .i64 x52.Used, .int .i64 x52.First, .int .i64 x52.Radix, .int .i64 x52.Wait, u57, .int .i64 x52.Word, .int .i64 x52.State, .int .i64 x52.Owing, .int .i64 x52.Badge, .int .i64 x52.Prio, .int .i64 x52.On, .int .i64 x52.Owes, .int .i64 x52.Root.Kind, .int .i64 x52.Root.Rights, .int .i64 x52.Root.Obj, .int .i64 x52.Root.Badge, .int .i64 x52.Root.Guard, .int .i64 x52.Root.Bits, .int .i64 x52.Pages.a0, .int .i64 x52.Pages.a1, .int .i64 x52.Pages.a2, .int .i64 x52.Pages.a3, .int .i64 x52.Right.a0, .int .i64 x52.Right.a1, .int .i64 x52.Right.a2, .int .i64 x52.Right.a3, .int .i64 x52.In, .int .i64 x52.Page, .int .i64 x52.Bound, .int .i64 x52.Mask], Own 66 (ekI .u64) v5 (qv5_6.set (w64 ((w64 ((w64 (480 + (w64 (8 * x8_4)))) + 1)) + x11_6)).toNat (wu64 (w64 ((w64 (8 * (w64 (x126 + 1)))) + x128)))), Box bp0 [v0_Slots, v0_Objs, .int .i64 a0.NS, .int .i64 a0.NO], OwnO 58 kr_ref10_Obj v0_Objs raws_v0_Objs A_v0_Objs a0.Objs, OwnO 65 kr_ref10_Slot v0_Slots raws_v0_Slots A_v0_Slots a0.Slots, F]) (T := [tS 3 (v5), tS 10 (.int .i64 (w64 (480 + (w64 (8 * x8_4))))), tS 11 (.int .i64 x11_6), tS 9 (bp b60 0), tE [(8, .int .i64 x8_4), (0, bp bp0 0), (2, .slice none 0 0)], tR (Box b60 [.int .i64 x52.Kind, .int .i64 x52.Size, .int .i64 x52.Used, .int .i64 x52.First, .int .i64 x52.Radix, .int .i64 x52.Wait, u57, .int .i64 x52.Word, .int .i64 x52.State, .int .i64 x52.Owing, .int .i64 x52.Badge, .int .i64 x52.Prio, .int .i64 x52.On, .int .i64 x52.Owes, .int .i64 x52.Root.Kind, .int .i64 x52.Root.Rights, .int .i64 x52.Root.Obj, .int .i64 x52.Root.Badge, .int .i64 x52.Root.Guard, .int .i64 x52.Root.Bits, .int .i64 x52.Pages.a0, .int .i64 x52.Pages.a1, .int .i64 x52.Pages.a2, .int .i64 x52.Pages.a3, .int .i64 x52.Right.a0, .int .i64 x52.Right.a1, .int .i64 x52.Right.a2, .int .i64 x52.Right.a3, .int .i64 x52.In, .int .i64 x52.Page, .int .i64 x52.Bound, .int .i64 x52.Mask]), tR (Own 66 (ekI .u64) v5 qv5_6), tR (Box bp0 [v0_Slots, v0_Objs, .int .i64 a0.NS, .int .i64 a0.NO]), tR (OwnO 58 kr_ref10_Obj v0_Objs raws_v0_Objs A_v0_Objs a0.Objs), tR (OwnO 65 kr_ref10_Slot v0_Slots raws_v0_Slots A_v0_Slots a0.Slots), tR (F), tS 260 (v5), tS 261 (.int .i64 (w64 (480 + (w64 (8 * x8_4))))), tS 262 (.int .i64 (w64 ((w64 (480 + (w64 (8 * x8_4)))) + 1))), tS 263 (.int .i64 x11_6), tS 264 (.int .i64 (w64 ((w64 ((w64 (480 + (w64 (8 * x8_4)))) + 1)) + x11_6))), tS 265 (.int .i64 x11_6), tS 266 (bp b60 20), tS 267 (bp b60 (20 + x11_6.toNat)), tS 268 (.int .i64 x126), tS 269 (.int .i64 (w64 (x126 + 1))), tS 270 (.int .i64 (w64 (8 * (w64 (x126 + 1))))), tS 271 (.int .i64 x11_6), tS 272 (bp b60 24), tS 273 (bp b60 (24 + x11_6.toNat)), tS 274 (.int .i64 x128), tS 275 (.int .i64 (w64 ((w64 (8 * (w64 (x126 + 1)))) + x128))), tS 276 (.int .u64 (wu64 (w64 ((w64 (8 * (w64 (x126 + 1)))) + x128)))), tS 277 (idxp v5 ((w64 ((w64 ((w64 (480 + (w64 (8 * x8_4)))) + 1)) + x11_6)).toNat * (ekI .u64).sz)), tR (Own 66 (ekI .u64) v5 (qv5_6.set (w64 ((w64 ((w64 (480 + (w64 (8 * x8_4)))) + 1)) + x11_6)).toNat (wu64 (w64 ((w64 (8 * (w64 (x126 + 1)))) + x128)))))]) (D := [⟨[0], [], [11]⟩, ⟨[1], [], [12]⟩, ⟨[12], [], [13]⟩, ⟨[2], [], [14]⟩, ⟨[13, 14], [], [15]⟩, ⟨[2], [], [16]⟩, ⟨[3], [], [17]⟩, ⟨[16, 17, 5], [], [18]⟩, ⟨[18, 5], [], [19]⟩, ⟨[19], [], [20]⟩, ⟨[20], [], [21]⟩, ⟨[2], [], [22]⟩, ⟨[3], [], [23]⟩, ⟨[22, 23, 5], [], [24]⟩, ⟨[24, 5], [], [25]⟩, ⟨[21, 25], [], [26]⟩, ⟨[26], [], [27]⟩, ⟨[11, 15, 6], [], [28]⟩, ⟨[27, 28], [6], [29]⟩]) (ini := [0, 1, 2, 3, 4, 5, 6, 7, 8, 9, 10]) (fin := [4, 0, 3, 1, 2, 5, 29, 7, 8, 9, 10]) (bf := [[], [], [1], [], [1, 2, 3], [], [], [5, 6], [5, 6, 7], [5, 6, 7, 8], [5, 6, 7, 8, 9], [], [], [11, 12], [11, 12, 13], [5, 6, 7, 8, 9, 10, 11, 12, 13, 14], [5, 6, 7, 8, 9, 10, 11, 12, 13, 14, 15], [0, 1, 2, 3, 4, 5, 6, 7, 8, 9, 10, 11, 12, 13, 14, 15, 16], [0, 1, 2, 3, 4, 5, 6, 7, 8, 9, 10, 11, 12, 13, 14, 15, 16, 17]]) (by kernel_rfl) (by kernel_rfl) (fun x w h1 h2 => (.cons () (.cons () (.cons () (.cons () (.cons () (.cons () (.cons () (.cons () (.cons () (.cons () (.cons () (.nil ⟨EnvAll.of h1 ⟨rfl, rfl, rfl, rfl, rfl, rfl, rfl, trivial⟩, h2⟩))))))))))))) (fun Q => by kernel_rfl) ⟨?_, ?_, ?_, ?_, ?_, ?_, ?_, ?_, ?_, ?_, ?_, ?_, ?_, ?_, ?_, ?_, ?_, ?_, ?_, trivial⟩ ?_
                            · rintro Fr _
                              refine SO.v rfl (opv_move rfl) ?_
                              exact SO.nilZ fun a w h1 h2 h3 h4 h5 => PZ.of h1 h3 h5 (.cons () (.cons () (.nil ⟨EnvAll.of h2 ⟨rfl, rfl, trivial⟩, h4⟩)))
                            · rintro Fr _
                              refine SO.v rfl (opv_move rfl) ?_
                              exact SO.nilZ fun a w h1 h2 h3 h4 h5 => PZ.of h1 h3 h5 (.cons () (.cons () (.nil ⟨EnvAll.of h2 ⟨rfl, rfl, trivial⟩, h4⟩)))
                            · rintro Fr _
                              refine SO.v rfl (opv_add rfl rfl) ?_
                              exact SO.nilZ fun a w h1 h2 h3 h4 h5 => PZ.of h1 h3 h5 (.cons () (.cons () (.nil ⟨EnvAll.of h2 ⟨rfl, rfl, trivial⟩, h4⟩)))
                            · rintro Fr _
                              refine SO.v rfl (opv_move rfl) ?_
                              exact SO.nilZ fun a w h1 h2 h3 h4 h5 => PZ.of h1 h3 h5 (.cons () (.cons () (.nil ⟨EnvAll.of h2 ⟨rfl, rfl, trivial⟩, h4⟩)))
                            · rintro Fr _ _
                              refine SO.v rfl (opv_add rfl rfl) ?_
                              exact SO.nilZ fun a w h1 h2 h3 h4 h5 => PZ.of h1 h3 h5 (.cons () (.cons () (.cons () (.nil ⟨EnvAll.of h2 ⟨rfl, rfl, rfl, trivial⟩, h4⟩))))
                            · rintro Fr _
                              refine SO.v rfl (opv_move rfl) ?_
                              exact SO.nilZ fun a w h1 h2 h3 h4 h5 => PZ.of h1 h3 h5 (.cons () (.cons () (.nil ⟨EnvAll.of h2 ⟨rfl, rfl, trivial⟩, h4⟩)))
                            · rintro Fr _
                              refine SO.v rfl (opv_fieldAddr Try.underlying58 rfl Try.sizeOf56 rfl rfl) ?_
                              exact SO.nilZ fun a w h1 h2 h3 h4 h5 => PZ.of h1 h3 h5 (.cons () (.cons () (.nil ⟨EnvAll.of h2 ⟨rfl, rfl, trivial⟩, h4⟩)))
                            · rintro Fr _ _ _
                              refine SO.v rfl (opv_idxA Try.underlying56 Try.sizeOf3 rfl rfl hx127) ?_
                              exact SO.nilZ fun a w h1 h2 h3 h4 h5 => PZ.of h1 h3 h5 (.cons () (.cons () (.cons () (.cons () (.nil ⟨EnvAll.of h2 ⟨rfl, rfl, rfl, trivial⟩, h4⟩)))))
                            · rintro Fr _ _
                              refine SO.load1 (v := .int .i64 x126) rfl Try.isAgg3 rfl (by rcases A4.get_cases hx127 with ⟨h1, h2⟩ | ⟨h1, h2⟩ | ⟨h1, h2⟩ | ⟨h1, h2⟩ <;> simp only [h1, h2] <;> rfl) ?_
                              exact SO.nilZ fun a w h1 h2 h3 h4 h5 => PZ.of h1 h3 h5 (.cons () (.cons () (.cons () (.nil ⟨EnvAll.of h2 ⟨rfl, rfl, trivial⟩, h4⟩))))
                            · rintro Fr _
                              refine SO.v rfl (opv_add rfl rfl) ?_
                              exact SO.nilZ fun a w h1 h2 h3 h4 h5 => PZ.of h1 h3 h5 (.cons () (.cons () (.nil ⟨EnvAll.of h2 ⟨rfl, rfl, trivial⟩, h4⟩)))
                            · rintro Fr _
                              refine SO.v rfl (opv_mul rfl rfl) ?_
                              exact SO.nilZ fun a w h1 h2 h3 h4 h5 => PZ.of h1 h3 h5 (.cons () (.cons () (.nil ⟨EnvAll.of h2 ⟨rfl, rfl, trivial⟩, h4⟩)))
                            · rintro Fr _
                              refine SO.v rfl (opv_move rfl) ?_
                              exact SO.nilZ fun a w h1 h2 h3 h4 h5 => PZ.of h1 h3 h5 (.cons () (.cons () (.nil ⟨EnvAll.of h2 ⟨rfl, rfl, trivial⟩, h4⟩)))
                            · rintro Fr _
                              refine SO.v rfl (opv_fieldAddr Try.underlying58 rfl Try.sizeOf56 rfl rfl) ?_
                              exact SO.nilZ fun a w h1 h2 h3 h4 h5 => PZ.of h1 h3 h5 (.cons () (.cons () (.nil ⟨EnvAll.of h2 ⟨rfl, rfl, trivial⟩, h4⟩)))
                            · rintro Fr _ _ _
                              refine SO.v rfl (opv_idxA Try.underlying56 Try.sizeOf3 rfl rfl hx129) ?_
                              exact SO.nilZ fun a w h1 h2 h3 h4 h5 => PZ.of h1 h3 h5 (.cons () (.cons () (.cons () (.cons () (.nil ⟨EnvAll.of h2 ⟨rfl, rfl, rfl, trivial⟩, h4⟩)))))
                            · rintro Fr _ _
                              refine SO.load1 (v := .int .i64 x128) rfl Try.isAgg3 rfl (by rcases A4.get_cases hx129 with ⟨h1, h2⟩ | ⟨h1, h2⟩ | ⟨h1, h2⟩ | ⟨h1, h2⟩ <;> simp only [h1, h2] <;> rfl) ?_
                              exact SO.nilZ fun a w h1 h2 h3 h4 h5 => PZ.of h1 h3 h5 (.cons () (.cons () (.cons () (.nil ⟨EnvAll.of h2 ⟨rfl, rfl, trivial⟩, h4⟩))))
                            · rintro Fr _ _
                              refine SO.v rfl (opv_add rfl rfl) ?_
                              exact SO.nilZ fun a w h1 h2 h3 h4 h5 => PZ.of h1 h3 h5 (.cons () (.cons () (.cons () (.nil ⟨EnvAll.of h2 ⟨rfl, rfl, rfl, trivial⟩, h4⟩))))
                            · rintro Fr _
                              refine SO.v rfl (opv_conv Try.underlying3 Try.underlying66 rfl) ?_
                              exact SO.nilZ fun a w h1 h2 h3 h4 h5 => PZ.of h1 h3 h5 (.cons () (.cons () (.nil ⟨EnvAll.of h2 ⟨rfl, rfl, trivial⟩, h4⟩)))
                            · rintro Fr _ _ _
                              refine SO.v rfl (opv_idx Try.underlying26 Try.sizeOf66 hr121 rfl rfl hx131) ?_
                              exact SO.nilZ fun a w h1 h2 h3 h4 h5 => PZ.of h1 h3 h5 (.cons () (.cons () (.cons () (.cons () (.nil ⟨EnvAll.of h2 ⟨rfl, rfl, rfl, trivial⟩, h4⟩)))))
                            · rintro Fr _ _ _
                              refine SO.storeI1 (j := 0) (z' := wu64 (w64 ((w64 (8 * (w64 (x126 + 1)))) + x128))) Try.sizeOf66 hx131 rfl rfl rfl rfl rfl rfl ?_
                              refine SO.rd fun hr132 => ?_
                              exact SO.nilZ fun a w h1 h2 h3 h4 h5 => PZ.of h1 h3 h5 (.cons () (.cons () (.cons () (.nil ⟨EnvAll.of h2 ⟨rfl, rfl, trivial⟩, h4⟩))))
                            rintro _ _ _ _ _ _ _ _ _ _ _
                            refine S.to (ρ' := [(8, .int .i64 x8_4), (0, bp bp0 0), (2, .slice none 0 0), (3, v5), (9, bp b60 0), (10, .int .i64 (w64 (480 + (w64 (8 * x8_4))))), (11, .int .i64 x11_6)]) ⟨rfl, rfl, rfl, rfl, rfl, rfl, rfl, trivial⟩ ?_
                            refine S.b1 ?_
                            refine S.rd fun hr133 => ?_
                            refine S.inBlock ?_
                            refine S.region ?_
                            refine SO.v rfl (opv_move rfl) ?_
                            refine SO.v rfl (opv_add rfl rfl) ?_
                            refine SO.v rfl (opv_assign rfl) ?_
                            refine SO.nil ?_
                            refine S.b5 ?_
                            refine S.b5 ?_
                            refine S.b5 ?_
                            refine S.b5 ?_
                            refine S.b4 ?_
                            refine S.b5 ?_
                            refine S.to ?_ (ih6 ((w64 (x11_6 + 1), qv5_6.set (w64 ((w64 ((w64 (480 + (w64 (8 * x8_4)))) + 1)) + x11_6)).toNat (wu64 (w64 ((w64 (8 * (w64 (x126 + 1)))) + x128)))), ()) h)
                            exact ⟨rfl, rfl, rfl, rfl, rfl, rfl, rfl, trivial⟩
                          · replace h := cond_f b125 h
                            refine S.condF rfl b125 ?_
                            refine S.skip ?_
                            refine S.inBlock ?_
                            refine S.region ?_
                            refine SO.v rfl (opv_move rfl) ?_
                            refine SO.v rfl (opv_add rfl rfl) ?_
                            refine SO.v rfl (opv_assign rfl) ?_
                            refine SO.nil ?_
                            refine S.to (ρ' := [(8, .int .i64 x8_4), (0, bp bp0 0), (2, .slice none 0 0), (3, v5), (9, bp b60 0), (10, .int .i64 (w64 (480 + (w64 (8 * x8_4))))), (11, .int .i64 (w64 (x11_6 + 1)))]) ⟨rfl, rfl, rfl, rfl, rfl, rfl, rfl, trivial⟩ ?_
                            refine S.b5 ?_
                            refine S.b5 ?_
                            refine S.b5 ?_
                            refine S.b5 ?_
                            refine S.b5 ?_
                            refine S.b5 ?_
                            refine S.to ?_ (ih6 ((w64 (x11_6 + 1), qv5_6), ()) h)
                            exact ⟨rfl, rfl, rfl, rfl, rfl, rfl, rfl, trivial⟩
                        · replace h := cond_f b122 h
                          refine S.condF rfl b122 ?_
                          refine S.exit rfl ?_
                          cases h
                          refine S.b5 ?_
                          refine S.b5 ?_
                          refine S.b5 ?_
                          refine S.b5 ?_
                          refine S.b4 ?_
                          refine S.b5 ?_
                          refine S.to ?_ (hK6 ())
                          exact ⟨rfl, rfl, rfl, rfl, rfl, rfl, trivial⟩
                      rintro _
                      refine S.b1 ?_
                      refine S.rd fun hr134 => ?_
                      refine S.inBlock ?_
                      cases h
                      refine S.b5 ?_
                      refine S.b5 ?_
                      refine S.b5 ?_
                      refine S.b5 ?_
                      refine S.b4 ?_
                      refine S.b5 ?_
                      refine S.to ?_ (hk5 () trivial)
                      exact ⟨rfl, rfl, rfl, rfl, rfl, rfl, trivial⟩
                    · replace h := cond_f b120 h
                      refine S.condF rfl b120 ?_
                      refine S.seq ?_
                      refine S.region ?_
                      refine SO.v rfl (opv_eql rfl rfl) ?_
                      refine SO.v rfl (opv_assign rfl) ?_
                      refine SO.nil ?_
                      refine S.to (ρ' := [(8, .int .i64 x8_4), (0, bp bp0 0), (2, .slice none 0 0), (3, v5), (9, bp b60 0), (10, .int .i64 (w64 (480 + (w64 (8 * x8_4))))), (278, .bool (x52.Kind == 8))]) ⟨rfl, rfl, rfl, rfl, rfl, rfl, rfl, trivial⟩ ?_
                      rcases bool_or (x52.Kind == 8) with b135 | b135
                      · replace h := cond_t b135 h
                        refine S.condT rfl b135 ?_
                        refine S.seq ?_
                        refine S.region ?_
                        refine SO.v rfl (opv_move rfl) ?_
                        refine SO.v rfl (opv_move rfl) ?_
                        refine SO.v rfl (opv_add rfl rfl) ?_
                        refine SO.v rfl (opv_fieldAddr Try.underlying58 rfl Try.sizeOf3 rfl rfl) ?_
                        refine SO.load1 rfl Try.isAgg3 rfl rfl ?_
                        refine SO.v rfl (opv_add rfl rfl) ?_
                        refine SO.v rfl (opv_conv Try.underlying3 Try.underlying66 rfl) ?_
                        obtain ⟨x136, hx137, h⟩ := opt_bind h
                        refine SO.v rfl (opv_idx Try.underlying26 Try.sizeOf66 hr63 rfl rfl hx137) ?_
                        refine SO.b1 ?_
                        refine SO.storeI1 (j := 0) (z' := wu64 (w64 (x52.Bound + 1))) Try.sizeOf66 hx137 rfl rfl rfl rfl rfl rfl ?_
                        refine SO.rd fun hr138 => ?_
                        refine SO.nil ?_
                        refine S.to (ρ' := [(8, .int .i64 x8_4), (0, bp bp0 0), (2, .slice none 0 0), (3, v5), (9, bp b60 0), (10, .int .i64 (w64 (480 + (w64 (8 * x8_4)))))]) ⟨rfl, rfl, rfl, rfl, rfl, rfl, trivial⟩ ?_
                        refine S.seq ?_
                        refine S.region ?_
                        refine SO.v rfl (opv_move rfl) ?_
                        refine SO.v rfl (opv_move rfl) ?_
                        refine SO.v rfl (opv_add rfl rfl) ?_
                        refine SO.v rfl (opv_fieldAddr Try.underlying58 rfl Try.sizeOf3 rfl rfl) ?_
                        refine SO.b1 ?_
                        refine SO.load1 rfl Try.isAgg3 rfl rfl ?_
                        refine SO.v rfl (opv_conv Try.underlying3 Try.underlying66 rfl) ?_
                        obtain ⟨x139, hx140, h⟩ := opt_bind h
                        refine SO.v rfl (opv_idx Try.underlying26 Try.sizeOf66 hr138 rfl rfl hx140) ?_
                        refine SO.b1 ?_
                        refine SO.storeI1 (j := 0) (z' := wu64 x52.Badge) Try.sizeOf66 hx140 rfl rfl rfl rfl rfl rfl ?_
                        refine SO.rd fun hr141 => ?_
                        refine SO.nil ?_
                        refine S.to (ρ' := [(8, .int .i64 x8_4), (0, bp bp0 0), (2, .slice none 0 0), (3, v5), (9, bp b60 0), (10, .int .i64 (w64 (480 + (w64 (8 * x8_4)))))]) ⟨rfl, rfl, rfl, rfl, rfl, rfl, trivial⟩ ?_
                        refine S.region ?_
                        refine SO.v rfl (opv_move rfl) ?_
                        refine SO.v rfl (opv_move rfl) ?_
                        refine SO.v rfl (opv_add rfl rfl) ?_
                        refine SO.v rfl (opv_fieldAddr Try.underlying58 rfl Try.sizeOf3 rfl rfl) ?_
                        refine SO.b1 ?_
                        refine SO.load1 rfl Try.isAgg3 rfl rfl ?_
                        refine SO.v rfl (opv_conv Try.underlying3 Try.underlying66 rfl) ?_
                        obtain ⟨x142, hx143, h⟩ := opt_bind h
                        refine SO.v rfl (opv_idx Try.underlying26 Try.sizeOf66 hr141 rfl rfl hx143) ?_
                        refine SO.b1 ?_
                        refine SO.storeI1 (j := 0) (z' := wu64 x52.Mask) Try.sizeOf66 hx143 rfl rfl rfl rfl rfl rfl ?_
                        refine SO.rd fun hr144 => ?_
                        refine SO.nil ?_
                        refine S.to (ρ' := [(8, .int .i64 x8_4), (0, bp bp0 0), (2, .slice none 0 0), (3, v5), (9, bp b60 0), (10, .int .i64 (w64 (480 + (w64 (8 * x8_4)))))]) ⟨rfl, rfl, rfl, rfl, rfl, rfl, trivial⟩ ?_
                        refine S.inBlock ?_
                        cases h
                        refine S.b5 ?_
                        refine S.b5 ?_
                        refine S.b5 ?_
                        refine S.b5 ?_
                        refine S.b4 ?_
                        refine S.b5 ?_
                        refine S.to ?_ (hk5 () trivial)
                        exact ⟨rfl, rfl, rfl, rfl, rfl, rfl, trivial⟩
                      · replace h := cond_f b135 h
                        refine S.condF rfl b135 ?_
                        refine S.skip ?_
                        refine S.inBlock ?_
                        cases h
                        refine S.b5 ?_
                        refine S.b5 ?_
                        refine S.b5 ?_
                        refine S.b5 ?_
                        refine S.b5 ?_
                        refine S.b5 ?_
                        refine S.to ?_ (hk5 () trivial)
                        exact ⟨rfl, rfl, rfl, rfl, rfl, rfl, trivial⟩
      rintro _ -
      replace h := hJ5
      refine S.b1 ?_
      refine S.rd fun hr145 => ?_
      refine S.seq ?_
      refine S.region ?_
      refine SO.v rfl (opv_assign rfl) ?_
      refine SO.nil ?_
      obtain ⟨qv5_e7, hl7, h⟩ := opt_bind h
      refine S.b5 ?_
      refine S.b5 ?_
      refine S.b5 ?_
      refine S.b5 ?_
      refine S.b5 ?_
      refine S.b5 ?_
      refine S.to (ρ' := [(12, .int .i64 0), (0, bp bp0 0), (2, .slice none 0 0), (3, v5), (8, .int .i64 x8_4), (9, bp b60 0), (10, .int .i64 (w64 (480 + (w64 (8 * x8_4)))))]) ⟨rfl, rfl, rfl, rfl, rfl, rfl, rfl, trivial⟩ ?_
      refine S.forloop (X := (Int × (List Int)) × Unit) (O := (List Int)) (fun m x => ref10_State_Words.l7 x8_4 x52 m x.1) (fun x => match x with | ((x12_7, qv5_7), _) => [(12, .int .i64 x12_7), (0, bp bp0 0), (2, .slice none 0 0), (3, v5), (8, .int .i64 x8_4), (9, bp b60 0), (10, .int .i64 (w64 (480 + (w64 (8 * x8_4)))))]) (fun x => match x with | ((x12_7, qv5_7), _) => [Own 66 (ekI .u64) v5 qv5_7, Box b60 [.int .i64 x52.Kind, .int .i64 x52.Size, .int .i64 x52.Used, .int .i64 x52.First, .int .i64 x52.Radix, .int .i64 x52.Wait, u57, .int .i64 x52.Word, .int .i64 x52.State, .int .i64 x52.Owing, .int .i64 x52.Badge, .int .i64 x52.Prio, .int .i64 x52.On, .int .i64 x52.Owes, .int .i64 x52.Root.Kind, .int .i64 x52.Root.Rights, .int .i64 x52.Root.Obj, .int .i64 x52.Root.Badge, .int .i64 x52.Root.Guard, .int .i64 x52.Root.Bits, .int .i64 x52.Pages.a0, .int .i64 x52.Pages.a1, .int .i64 x52.Pages.a2, .int .i64 x52.Pages.a3, .int .i64 x52.Right.a0, .int .i64 x52.Right.a1, .int .i64 x52.Right.a2, .int .i64 x52.Right.a3, .int .i64 x52.In, .int .i64 x52.Page, .int .i64 x52.Bound, .int .i64 x52.Mask], Box bp0 [v0_Slots, v0_Objs, .int .i64 a0.NS, .int .i64 a0.NO], OwnO 58 kr_ref10_Obj v0_Objs raws_v0_Objs A_v0_Objs a0.Objs, OwnO 65 kr_ref10_Slot v0_Slots raws_v0_Slots A_v0_Slots a0.Slots, F]) (fun Sk => (fun qv5_e7 => ∀ _ : Unit, Sk [(0, bp bp0 0), (2, .slice none 0 0), (3, v5), (8, .int .i64 x8_4)] [Own 66 (ekI .u64) v5 qv5_e7, Box b60 [.int .i64 x52.Kind, .int .i64 x52.Size, .int .i64 x52.Used, .int .i64 x52.First, .int .i64 x52.Radix, .int .i64 x52.Wait, u57, .int .i64 x52.Word, .int .i64 x52.State, .int .i64 x52.Owing, .int .i64 x52.Badge, .int .i64 x52.Prio, .int .i64 x52.On, .int .i64 x52.Owes, .int .i64 x52.Root.Kind, .int .i64 x52.Root.Rights, .int .i64 x52.Root.Obj, .int .i64 x52.Root.Badge, .int .i64 x52.Root.Guard, .int .i64 x52.Root.Bits, .int .i64 x52.Pages.a0, .int .i64 x52.Pages.a1, .int .i64 x52.Pages.a2, .int .i64 x52.Pages.a3, .int .i64 x52.Right.a0, .int .i64 x52.Right.a1, .int .i64 x52.Right.a2, .int .i64 x52.Right.a3, .int .i64 x52.In, .int .i64 x52.Page, .int .i64 x52.Bound, .int .i64 x52.Mask], Box bp0 [v0_Slots, v0_Objs, .int .i64 a0.NS, .int .i64 a0.NO], OwnO 58 kr_ref10_Obj v0_Objs raws_v0_Objs A_v0_Objs a0.Objs, OwnO 65 kr_ref10_Slot v0_Slots raws_v0_Slots A_v0_Slots a0.Slots, F])) (fun _ => rfl) ?_ (m := k) (x := ((0, qv5_5), ())) hl7 ?_
      · clear h hl7
        intro k x o_7 h hK7 ih7
        obtain ⟨⟨x12_7, qv5_7⟩, _⟩ := x
        replace h : ref10_State_Words.l7 x8_4 x52 (k + 1) (x12_7, qv5_7) = some o_7 := h
        first | rw [ref10_State_Words.l7] at h | unfold ref10_State_Words.l7 at h
        refine S.rd fun hr146 => ?_
        refine S.seq ?_
        refine S.seq ?_
        refine S.region ?_
        refine SO.v rfl (opv_move rfl) ?_
        refine SO.v rfl (opv_fieldAddr Try.underlying58 rfl Try.sizeOf55 rfl rfl) ?_
        refine SO.b1 ?_
        refine SO.load1 rfl Try.isAgg55 rfl rfl ?_
        refine SO.v rfl (opv_lenR rfl Try.underlying55 hru58 rfl) ?_
        refine SO.v rfl (opv_lss rfl rfl) ?_
        refine SO.nil ?_
        rcases bool_or (decide (x12_7 < (x52.Queue.length : Int))) with b147 | b147
        · replace h := cond_t b147 h
          refine S.condT rfl b147 ?_
          refine S.skip ?_
          refine S.seq ?_
          refine S.block ?_
          refine S.seq ?_
          refine S.region ?_
          refine SO.v rfl (opv_fieldAddr Try.underlying58 rfl Try.sizeOf55 rfl rfl) ?_
          refine SO.load1 rfl Try.isAgg55 rfl rfl ?_
          refine SO.v rfl (opv_move rfl) ?_
          obtain ⟨x148, hx149, h⟩ := opt_bind h
          refine SO.v rfl (opv_idx Try.underlying55 Try.sizeOf3 hru58 rfl rfl hx149) ?_
          refine SO.loadI1 (j := 0) rfl Try.isAgg3 (Rd.tail (Rd.tail (Rd.tail (Rd.head (Rd.pool hru58))))) hx149 rfl rfl rfl rfl ?_
          refine SO.v rfl (opv_assign rfl) ?_
          refine SO.nil ?_
          refine S.to (ρ' := [(12, .int .i64 x12_7), (0, bp bp0 0), (2, .slice none 0 0), (3, v5), (8, .int .i64 x8_4), (9, bp b60 0), (10, .int .i64 (w64 (480 + (w64 (8 * x8_4))))), (13, .int .i64 x148)]) ⟨rfl, rfl, rfl, rfl, rfl, rfl, rfl, rfl, trivial⟩ ?_
          refine S.seq ?_
          refine S.seq ?_
          refine S.region ?_
          refine SO.v rfl (opv_move rfl) ?_
          refine SO.v rfl (opv_eql rfl rfl) ?_
          refine SO.nil ?_
          obtain ⟨qv5_8, hC8, hJ8⟩ := opt_bind h
          clear h
          refine S.cutP (G := Unit) (fun _ => True) (fun _ => [(0, bp bp0 0), (2, .slice none 0 0), (3, v5), (8, .int .i64 x8_4), (9, bp b60 0), (10, .int .i64 (w64 (480 + (w64 (8 * x8_4))))), (12, .int .i64 x12_7), (13, .int .i64 x148)]) (fun _ => [Box b60 [.int .i64 x52.Kind, .int .i64 x52.Size, .int .i64 x52.Used, .int .i64 x52.First, .int .i64 x52.Radix, .int .i64 x52.Wait, u57, .int .i64 x52.Word, .int .i64 x52.State, .int .i64 x52.Owing, .int .i64 x52.Badge, .int .i64 x52.Prio, .int .i64 x52.On, .int .i64 x52.Owes, .int .i64 x52.Root.Kind, .int .i64 x52.Root.Rights, .int .i64 x52.Root.Obj, .int .i64 x52.Root.Badge, .int .i64 x52.Root.Guard, .int .i64 x52.Root.Bits, .int .i64 x52.Pages.a0, .int .i64 x52.Pages.a1, .int .i64 x52.Pages.a2, .int .i64 x52.Pages.a3, .int .i64 x52.Right.a0, .int .i64 x52.Right.a1, .int .i64 x52.Right.a2, .int .i64 x52.Right.a3, .int .i64 x52.In, .int .i64 x52.Page, .int .i64 x52.Bound, .int .i64 x52.Mask], Own 66 (ekI .u64) v5 qv5_8, Box bp0 [v0_Slots, v0_Objs, .int .i64 a0.NS, .int .i64 a0.NO], OwnO 58 kr_ref10_Obj v0_Objs raws_v0_Objs A_v0_Objs a0.Objs, OwnO 65 kr_ref10_Slot v0_Slots raws_v0_Slots A_v0_Slots a0.Slots, F]) (fun hk8 => ?_) ?_
          · replace h := hC8
            rcases bool_or (x12_7 == 0) with b150 | b150
            · replace h := cond_t b150 h
              refine S.condT rfl b150 ?_
              refine S.region ?_
              refine SO.v rfl (opv_move rfl) ?_
              refine SO.v rfl (opv_move rfl) ?_
              refine SO.v rfl (opv_add rfl rfl) ?_
              refine SO.v rfl (opv_move rfl) ?_
              refine SO.v rfl (opv_add rfl rfl) ?_
              refine SO.v rfl (opv_conv Try.underlying3 Try.underlying66 rfl) ?_
              obtain ⟨x151, hx152, h⟩ := opt_bind h
              refine SO.v rfl (opv_idx Try.underlying26 Try.sizeOf66 hr146 rfl rfl hx152) ?_
              refine SO.b1 ?_
              refine SO.storeI1 (j := 0) (z' := wu64 (w64 (x148 + 1))) Try.sizeOf66 hx152 rfl rfl rfl rfl rfl rfl ?_
              refine SO.rd fun hr153 => ?_
              refine SO.nil ?_
              refine S.to (ρ' := [(12, .int .i64 x12_7), (0, bp bp0 0), (2, .slice none 0 0), (3, v5), (8, .int .i64 x8_4), (9, bp b60 0), (10, .int .i64 (w64 (480 + (w64 (8 * x8_4))))), (13, .int .i64 x148)]) ⟨rfl, rfl, rfl, rfl, rfl, rfl, rfl, rfl, trivial⟩ ?_
              cases h
              refine S.b5 ?_
              refine S.b5 ?_
              refine S.b5 ?_
              refine S.b5 ?_
              refine S.b4 ?_
              refine S.b5 ?_
              refine S.to ?_ (hk8 () trivial)
              exact ⟨rfl, rfl, rfl, rfl, rfl, rfl, rfl, rfl, trivial⟩
            · replace h := cond_f b150 h
              refine S.condF rfl b150 ?_
              refine S.skip ?_
              cases h
              refine S.b5 ?_
              refine S.b5 ?_
              refine S.b5 ?_
              refine S.b5 ?_
              refine S.b5 ?_
              refine S.b5 ?_
              refine S.to ?_ (hk8 () trivial)
              exact ⟨rfl, rfl, rfl, rfl, rfl, rfl, rfl, rfl, trivial⟩
          rintro _ -
          replace h := hJ8
          refine S.b1 ?_
          refine S.rd fun hr154 => ?_
          refine S.seq ?_
          refine S.region ?_
          refine SO.v rfl (opv_move rfl) ?_
          refine SO.v rfl (opv_add rfl rfl) ?_
          refine SO.v rfl (opv_fieldAddr Try.underlying58 rfl Try.sizeOf55 rfl rfl) ?_
          refine SO.b1 ?_
          refine SO.load1 rfl Try.isAgg55 rfl rfl ?_
          refine SO.v rfl (opv_lenR rfl Try.underlying55 hru58 rfl) ?_
          refine SO.v rfl (opv_lss rfl rfl) ?_
          refine SO.nil ?_
          rcases bool_or (decide ((w64 (x12_7 + 1)) < (x52.Queue.length : Int))) with b155 | b155
          · replace h := cond_t b155 h
            refine S.condT rfl b155 ?_
            refine S.region ?_
            refine SO.v rfl (opv_move rfl) ?_
            refine SO.v rfl (opv_move rfl) ?_
            refine SO.v rfl (opv_mul rfl rfl) ?_
            refine SO.v rfl (opv_add rfl rfl) ?_
            refine SO.v rfl (opv_add rfl rfl) ?_
            refine SO.v rfl (opv_fieldAddr Try.underlying58 rfl Try.sizeOf55 rfl rfl) ?_
            refine SO.load1 rfl Try.isAgg55 rfl rfl ?_
            refine SO.v rfl (opv_move rfl) ?_
            refine SO.v rfl (opv_add rfl rfl) ?_
            obtain ⟨x156, hx157, h⟩ := opt_bind h
            refine SO.v rfl (opv_idx Try.underlying55 Try.sizeOf3 hru58 rfl rfl hx157) ?_
            refine SO.loadI1 (j := 0) rfl Try.isAgg3 (Rd.tail (Rd.tail (Rd.tail (Rd.head (Rd.pool hru58))))) hx157 rfl rfl rfl rfl ?_
            refine SO.v rfl (opv_add rfl rfl) ?_
            refine SO.v rfl (opv_conv Try.underlying3 Try.underlying66 rfl) ?_
            obtain ⟨x158, hx159, h⟩ := opt_bind h
            refine SO.v rfl (opv_idx Try.underlying26 Try.sizeOf66 hr154 rfl rfl hx159) ?_
            refine SO.b1 ?_
            refine SO.storeI1 (j := 0) (z' := wu64 (w64 (x156 + 1))) Try.sizeOf66 hx159 rfl rfl rfl rfl rfl rfl ?_
            refine SO.rd fun hr160 => ?_
            refine SO.nil ?_
            refine S.to (ρ' := [(0, bp bp0 0), (2, .slice none 0 0), (3, v5), (8, .int .i64 x8_4), (9, bp b60 0), (10, .int .i64 (w64 (480 + (w64 (8 * x8_4))))), (12, .int .i64 x12_7)]) ⟨rfl, rfl, rfl, rfl, rfl, rfl, rfl, trivial⟩ ?_
            refine S.inBlock ?_
            refine S.region ?_
            refine SO.v rfl (opv_move rfl) ?_
            refine SO.v rfl (opv_add rfl rfl) ?_
            refine SO.v rfl (opv_assign rfl) ?_
            refine SO.nil ?_
            refine S.b5 ?_
            refine S.b5 ?_
            refine S.b5 ?_
            refine S.b5 ?_
            refine S.b5 ?_
            refine S.b5 ?_
            refine S.to ?_ (ih7 ((w64 (x12_7 + 1), qv5_8.set (w64 ((w64 (480 + (w64 (8 * x148)))) + 2)).toNat (wu64 (w64 (x156 + 1)))), ()) h)
            exact ⟨rfl, rfl, rfl, rfl, rfl, rfl, rfl, trivial⟩
          · replace h := cond_f b155 h
            refine S.condF rfl b155 ?_
            refine S.region ?_
            refine SO.v rfl (opv_move rfl) ?_
            refine SO.v rfl (opv_move rfl) ?_
            refine SO.v rfl (opv_add rfl rfl) ?_
            refine SO.v rfl (opv_move rfl) ?_
            refine SO.v rfl (opv_add rfl rfl) ?_
            refine SO.v rfl (opv_conv Try.underlying3 Try.underlying66 rfl) ?_
            obtain ⟨x161, hx162, h⟩ := opt_bind h
            refine SO.v rfl (opv_idx Try.underlying26 Try.sizeOf66 hr154 rfl rfl hx162) ?_
            refine SO.b1 ?_
            refine SO.storeI1 (j := 0) (z' := wu64 (w64 (x148 + 1))) Try.sizeOf66 hx162 rfl rfl rfl rfl rfl rfl ?_
            refine SO.rd fun hr163 => ?_
            refine SO.nil ?_
            refine S.to (ρ' := [(0, bp bp0 0), (2, .slice none 0 0), (3, v5), (8, .int .i64 x8_4), (9, bp b60 0), (10, .int .i64 (w64 (480 + (w64 (8 * x8_4))))), (12, .int .i64 x12_7)]) ⟨rfl, rfl, rfl, rfl, rfl, rfl, rfl, trivial⟩ ?_
            refine S.inBlock ?_
            refine S.region ?_
            refine SO.v rfl (opv_move rfl) ?_
            refine SO.v rfl (opv_add rfl rfl) ?_
            refine SO.v rfl (opv_assign rfl) ?_
            refine SO.nil ?_
            refine S.b5 ?_
            refine S.b5 ?_
            refine S.b5 ?_
            refine S.b5 ?_
            refine S.b5 ?_
            refine S.b5 ?_
            refine S.to ?_ (ih7 ((w64 (x12_7 + 1), qv5_8.set (w64 ((w64 (480 + (w64 (8 * x8_4)))) + 3)).toNat (wu64 (w64 (x148 + 1)))), ()) h)
            exact ⟨rfl, rfl, rfl, rfl, rfl, rfl, rfl, trivial⟩
        · replace h := cond_f b147 h
          refine S.condF rfl b147 ?_
          refine S.exit rfl ?_
          cases h
          refine S.b5 ?_
          refine S.b5 ?_
          refine S.b5 ?_
          refine S.b5 ?_
          refine S.b4 ?_
          refine S.b5 ?_
          refine S.to ?_ (hK7 ())
          exact ⟨rfl, rfl, rfl, rfl, trivial⟩
      rintro _
      refine S.rd fun hr164 => ?_
      refine S.inBlock ?_
      refine S.region ?_
      refine SO.v rfl (opv_move rfl) ?_
      refine SO.v rfl (opv_add rfl rfl) ?_
      refine SO.v rfl (opv_assign rfl) ?_
      refine SO.nil ?_
      refine S.b1 ?_
      refine S.drop ?_
      refine S.b4 ?_
      refine S.b2 ?_
      refine S.b4 ?_
      refine S.b4 ?_
      refine S.b4 ?_
      refine S.to ?_ (ih4 ((w64 (x8_4 + 1), qv5_e7), ()) h)
      exact ⟨rfl, rfl, rfl, rfl, trivial⟩
    · replace h := cond_f b51 h
      refine S.condF rfl b51 ?_
      refine S.exit rfl ?_
      cases h
      refine S.b4 ?_
      refine S.b4 ?_
      refine S.b4 ?_
      refine S.b4 ?_
      refine S.b4 ?_
      refine S.to ?_ (hK4 ())
      exact ⟨rfl, rfl, rfl, trivial⟩
  rintro _
  refine S.rd fun hr165 => ?_
  refine S.seq ?_
  refine S.region ?_
  refine SO.v rfl (opv_move rfl) ?_
  refine SO.v rfl (opv_move rfl) ?_
  refine SO.v rfl (opv_nilCheck rfl) ?_
  refine SO.v rfl (opv_fieldAddr Try.underlying63 rfl Try.sizeOf3 rfl rfl) ?_
  refine SO.b3 ?_
  refine SO.load1 rfl Try.isAgg3 rfl rfl ?_
  refine SO.v rfl (opv_conv Try.underlying3 Try.underlying66 rfl) ?_
  obtain ⟨x166, hx167, h⟩ := opt_bind h
  refine SO.v rfl (opv_idx Try.underlying26 Try.sizeOf66 hr165 rfl rfl hx167) ?_
  refine SO.b1 ?_
  refine SO.storeI1 (j := 0) (z' := wu64 a0.NS) Try.sizeOf66 hx167 rfl rfl rfl rfl rfl rfl ?_
  refine SO.rd fun hr168 => ?_
  refine SO.nil ?_
  refine S.to (ρ' := [(0, bp bp0 0), (2, .slice none 0 0), (3, v5)]) ⟨rfl, rfl, rfl, trivial⟩ ?_
  refine S.seq ?_
  refine S.region ?_
  refine SO.v rfl (opv_move rfl) ?_
  refine SO.v rfl (opv_move rfl) ?_
  refine SO.v rfl (opv_nilCheck rfl) ?_
  refine SO.v rfl (opv_fieldAddr Try.underlying63 rfl Try.sizeOf3 rfl rfl) ?_
  refine SO.b1 ?_
  refine SO.load1 rfl Try.isAgg3 rfl rfl ?_
  refine SO.v rfl (opv_conv Try.underlying3 Try.underlying66 rfl) ?_
  obtain ⟨x169, hx170, h⟩ := opt_bind h
  refine SO.v rfl (opv_idx Try.underlying26 Try.sizeOf66 hr168 rfl rfl hx170) ?_
  refine SO.b1 ?_
  refine SO.storeI1 (j := 0) (z' := wu64 a0.NO) Try.sizeOf66 hx170 rfl rfl rfl rfl rfl rfl ?_
  refine SO.rd fun hr171 => ?_
  refine SO.nil ?_
  refine S.to (ρ' := [(2, .slice none 0 0), (3, v5)]) ⟨rfl, rfl, trivial⟩ ?_
  refine S.seq ?_
  refine S.region ?_
  refine SO.v rfl (opv_move rfl) ?_
  refine SO.v rfl (opv_assign rfl) ?_
  refine SO.nil ?_
  cases h
  refine S.b4 ?_
  refine S.b3 ?_
  refine S.b4 ?_
  refine S.b4 ?_
  refine S.b4 ?_
  exact S.ret1 Try.func7 rfl rfl (fun w hs hk => hR w _ _ ⟨v5, rfl, rfl⟩ hs hk)
end Go.Proofs
namespace Go.Proofs
open Go.Sl Go.RowKit
/-! 5 padstone/padstonelaw12.up -/
def law12_up.f (k : Nat) : Option (Bool) :=
  (ref10_Boot.f k 1).bind fun t1 => (ref10_State_Words.f k t1).bind fun t13 => (VM.run plainI (derive_Copy.f k 9 20 3) t13).bind fun (t17, s19) => (VM.run plainI (derive_Delete.f k 9) s19).bind fun (t21, s23) => (VM.run plainI (derive_One.f k 9) s23).bind fun ((t25, t26), s28) => (bif ((t17.isNone && (t21 == some 9)) && t25) && t26.isNone then ((VM.run plainI (cspace_Cap.f k 20) s28).bind fun (t38, s40) => some (decide (t38 = (⟨0, 0, 0, 0, 0, 0⟩ : api_Cap)), s40)) else (some (false, s28))).bind fun (c34, w36) => (bif c34 then ((VM.run plainI (derive_Copy.f k 8 20 7) w36).bind fun (t47, s49) => some (t47 == some 5, s49)) else (some (false, w36))).bind fun (c43, w45) => some c43
set_option maxHeartbeats 8000000 in
set_option maxRecDepth 100000 in
theorem law12_up.ct (k : Nat) (r0 : Bool) (h : law12_up.f k  = some r0) :
    Ct Try.prog 5 [] (fun _ => True) [] (fun u H' => u = .bool r0 ∧ H' = []) := by
  unfold law12_up.f at h
  refine Ct.intro (n := 48) Try.func5 rfl rfl rfl ?_
  intro R w0 F hF hR
  refine S.seq ?_
  refine S.region ?_
  refine SO.v rfl (opv_assign rfl) ?_
  refine SO.nil ?_
  refine S.seq ?_
  refine S.region ?_
  obtain ⟨t1, ht2, h⟩ := opt_bind h
  refine SO.call (pre := []) rfl Try.call6 rfl rfl rfl (ref10_Boot.ct _ _ _ ht2) trivial ?_
  rintro _ _ ⟨b3, u4_Slots, u4_Objs, rfl, rfl⟩
  obtain ⟨t13, ht14, h⟩ := opt_bind h
  refine SO.b1 ?_
  refine SO.openR fun raws5 A6 hrel7 hR8 => ?_
  refine SO.b2 ?_
  refine SO.openR fun raws9 A10 hrel11 hR12 => ?_
  refine SO.b1 ?_
  refine SO.b2 ?_
  refine SO.call (pre := [Box _ _, OwnO _ _ _ _ _ _, OwnO _ _ _ _ _ _]) rfl Try.call7 rfl rfl rfl (ref10_State_Words.ct _ b3 u4_Slots u4_Objs raws5 A6 raws9 A10 _ _ ht14) trivial ?_
  rintro v15 _ ⟨_, rfl, rfl⟩
  refine SO.rd fun hr16 => ?_
  refine SO.v rfl (opv_assign rfl) ?_
  refine SO.nil ?_
  refine S.seq ?_
  refine S.region ?_
  refine SO.v rfl (opv_move rfl) ?_
  refine SO.v rfl (opv_iface Try.underlying27 rfl rfl) ?_
  obtain ⟨⟨t17, s19⟩, ht18, h⟩ := opt_bind h
  refine SO.call (pre := [(plainV v15).rep _]) rfl Try.call19 rfl rfl rfl (derive_Copy.ct (plainV v15) _ _ _ _ _ _ _ ht18) trivial ?_
  rintro _ _ ⟨rfl, rfl⟩
  refine headEq (plainV_rep _ _) ?_
  refine SO.rd fun hr20 => ?_
  refine SO.v rfl (opv_assign rfl) ?_
  refine SO.nil ?_
  refine S.seq ?_
  refine S.region ?_
  refine SO.v rfl (opv_move rfl) ?_
  refine SO.v rfl (opv_iface Try.underlying27 rfl rfl) ?_
  obtain ⟨⟨t21, s23⟩, ht22, h⟩ := opt_bind h
  refine SO.call (pre := [(plainV v15).rep _]) rfl Try.call20 rfl rfl rfl (derive_Delete.ct (plainV v15) _ _ _ _ _ ht22) trivial ?_
  rintro _ _ ⟨rfl, rfl⟩
  refine headEq (plainV_rep _ _) ?_
  refine SO.rd fun hr24 => ?_
  refine SO.v rfl (opv_assign rfl) ?_
  refine SO.nil ?_
  refine S.to (ρ' := [(0, .bool false), (1, v15), (2, errV 50 t17), (3, errV 50 t21)]) ⟨rfl, rfl, rfl, rfl, trivial⟩ ?_
  refine S.seq ?_
  refine S.region ?_
  refine SO.v rfl (opv_move rfl) ?_
  refine SO.v rfl (opv_iface Try.underlying27 rfl rfl) ?_
  obtain ⟨⟨⟨t25, t26⟩, s28⟩, ht27, h⟩ := opt_bind h
  refine SO.call (pre := [(plainV v15).rep _]) rfl Try.call18 rfl rfl rfl (derive_One.ct (plainV v15) _ _ _ _ _ _ ht27) trivial ?_
  rintro _ _ ⟨rfl, rfl⟩
  refine headEq (plainV_rep _ _) ?_
  refine SO.rd fun hr29 => ?_
  refine SO.v rfl (opv_move rfl) ?_
  refine SO.v rfl (opv_extract rfl rfl) ?_
  refine SO.v rfl (opv_extract rfl rfl) ?_
  refine SO.v rfl (opv_assign rfl) ?_
  refine SO.v rfl (opv_assign rfl) ?_
  refine SO.nil ?_
  refine S.seq ?_
  refine S.region ?_
  refine SO.v rfl (opv_move rfl) ?_
  refine SO.v rfl (opv_eqlN (e := t17) Try.underlying32 rfl) ?_
  refine SO.v rfl (opv_move rfl) ?_
  refine SO.cut 4 26 (.bool (t17.isNone && (t21 == some 9))) [Own 66 (ekI .u64) v15 s28, Box b3 [u4_Slots, u4_Objs, .int .i64 t1.NS, .int .i64 t1.NO], OwnO 65 kr_ref10_Slot u4_Slots raws5 A6 t1.Slots, OwnO 58 kr_ref10_Obj u4_Objs raws9 A10 t1.Objs, F] (fun l2 hk2 => ?_) ?_
  · rcases bool_or t17.isNone with b30 | b30
    · refine SO.takeT rfl rfl rfl b30 ?_
      refine SO.v rfl (opv_move rfl) ?_
      refine SO.takeT rfl rfl rfl b30 ?_
      refine SO.v rfl (opv_iface Try.underlying50 rfl rfl) ?_
      refine SO.takeT rfl rfl rfl b30 ?_
      refine SO.v rfl (opv_eqlE (e := t21) (c := 9) Try.underlying32 Try.underlying50 inf50 rfl rfl rfl) ?_
      refine SO.v rfl (opv_pick_t' b30 rfl rfl) ?_
      refine SO.b4 ?_
      refine SO.b4 ?_
      refine SO.b4 ?_
      refine SO.b4 ?_
      refine SO.b4 ?_
      exact hk2.fitc (m := 4) rfl (and_t b30) rfl
    · refine SO.passF rfl rfl rfl b30 rfl rfl ?_
      refine SO.passF rfl rfl rfl b30 rfl rfl ?_
      refine SO.passF rfl rfl rfl b30 rfl rfl ?_
      refine SO.v rfl (opv_pick_f' b30 rfl rfl) ?_
      refine SO.b4 ?_
      refine SO.b4 ?_
      refine SO.b4 ?_
      refine SO.b4 ?_
      refine SO.b4 ?_
      exact hk2.fitc (m := 4) rfl (and_f b30) rfl
  refine SO.v rfl (opv_move rfl) ?_
  refine SO.cut 2 29 (.bool ((t17.isNone && (t21 == some 9)) && t25)) [Own 66 (ekI .u64) v15 s28, Box b3 [u4_Slots, u4_Objs, .int .i64 t1.NS, .int .i64 t1.NO], OwnO 65 kr_ref10_Slot u4_Slots raws5 A6 t1.Slots, OwnO 58 kr_ref10_Obj u4_Objs raws9 A10 t1.Objs, F] (fun l2 hk2 => ?_) ?_
  · rcases bool_or (t17.isNone && (t21 == some 9)) with b31 | b31
    · refine SO.takeT rfl rfl rfl b31 ?_
      refine SO.v rfl (opv_move rfl) ?_
      refine SO.v rfl (opv_pick_t' b31 rfl rfl) ?_
      refine SO.b4 ?_
      refine SO.b4 ?_
      refine SO.b4 ?_
      refine SO.b4 ?_
      refine SO.b4 ?_
      exact hk2.fitc (m := 2) rfl (and_t b31) rfl
    · refine SO.passF rfl rfl rfl b31 rfl rfl ?_
      refine SO.v rfl (opv_pick_f' b31 rfl rfl) ?_
      refine SO.b4 ?_
      refine SO.b4 ?_
      refine SO.b4 ?_
      refine SO.b4 ?_
      refine SO.b4 ?_
      exact hk2.fitc (m := 2) rfl (and_f b31) rfl
  refine SO.v rfl (opv_move rfl) ?_
  refine SO.cut 3 33 (.bool (((t17.isNone && (t21 == some 9)) && t25) && t26.isNone)) [Own 66 (ekI .u64) v15 s28, Box b3 [u4_Slots, u4_Objs, .int .i64 t1.NS, .int .i64 t1.NO], OwnO 65 kr_ref10_Slot u4_Slots raws5 A6 t1.Slots, OwnO 58 kr_ref10_Obj u4_Objs raws9 A10 t1.Objs, F] (fun l2 hk2 => ?_) ?_
  · rcases bool_or ((t17.isNone && (t21 == some 9)) && t25) with b32 | b32
    · refine SO.takeT rfl rfl rfl b32 ?_
      refine SO.v rfl (opv_move rfl) ?_
      refine SO.takeT rfl rfl rfl b32 ?_
      refine SO.v rfl (opv_eqlN (e := t26) Try.underlying32 rfl) ?_
      refine SO.v rfl (opv_pick_t' b32 rfl rfl) ?_
      refine SO.b4 ?_
      refine SO.b4 ?_
      refine SO.b4 ?_
      refine SO.b4 ?_
      refine SO.b4 ?_
      exact hk2.fitc (m := 3) rfl (and_t b32) rfl
    · refine SO.passF rfl rfl rfl b32 rfl rfl ?_
      refine SO.passF rfl rfl rfl b32 rfl rfl ?_
      refine SO.v rfl (opv_pick_f' b32 rfl rfl) ?_
      refine SO.b4 ?_
      refine SO.b4 ?_
      refine SO.b4 ?_
      refine SO.b4 ?_
      refine SO.b4 ?_
      exact hk2.fitc (m := 3) rfl (and_f b32) rfl
  refine SO.v rfl (opv_move rfl) ?_
  obtain ⟨⟨c34, w36⟩, hc35, hgk⟩ := opt_bind h
  refine SO.cut 6 40 (.bool c34) [Own 66 (ekI .u64) v15 w36, Box b3 [u4_Slots, u4_Objs, .int .i64 t1.NS, .int .i64 t1.NO], OwnO 65 kr_ref10_Slot u4_Slots raws5 A6 t1.Slots, OwnO 58 kr_ref10_Obj u4_Objs raws9 A10 t1.Objs, F] (fun l2 hk2 => ?_) ?_
  · clear hgk
    replace h := hc35
    rcases bool_or (((t17.isNone && (t21 == some 9)) && t25) && t26.isNone) with b33 | b33
    · replace h := cond_t b33 h
      refine SO.takeT rfl rfl rfl b33 ?_
      refine SO.v rfl (opv_move rfl) ?_
      refine SO.takeT rfl rfl rfl b33 ?_
      refine SO.v rfl (opv_iface Try.underlying27 rfl rfl) ?_
      refine SO.takeT rfl rfl rfl b33 ?_
      obtain ⟨⟨t38, s40⟩, ht39, h⟩ := opt_bind h
      refine SO.call (pre := [(plainV v15).rep _]) rfl Try.call16 rfl rfl rfl (cspace_Cap.ct (plainV v15) _ _ _ _ _ ht39) trivial ?_
      rintro _ _ ⟨rfl, rfl⟩
      refine headEq (plainV_rep _ _) ?_
      refine SO.rd fun hr41 => ?_
      refine SO.takeT rfl rfl rfl b33 ?_
      refine SO.v rfl (opv_build (v := .agg #[.int .i64 0, .int .i64 0, .int .i64 0, .int .i64 0, .int .i64 0, .int .i64 0]) rfl (by intro w; kernel_rfl)) ?_
      refine SO.takeT rfl rfl rfl b33 ?_
      refine SO.v rfl (eq_eql_api_Cap (x := t38) (y := (⟨0, 0, 0, 0, 0, 0⟩ : api_Cap)) rfl rfl) ?_
      cases h
      refine SO.v rfl (opv_pick_t' b33 rfl rfl) ?_
      refine SO.b4 ?_
      refine SO.b4 ?_
      refine SO.b4 ?_
      refine SO.b4 ?_
      refine SO.b4 ?_
      exact hk2.fitc (m := 6) rfl (rfl) rfl
    · replace h := cond_f b33 h
      refine SO.passF rfl rfl rfl b33 rfl rfl ?_
      refine SO.passF rfl rfl rfl b33 rfl rfl ?_
      refine SO.passF rfl rfl rfl b33 rfl rfl ?_
      refine SO.passF rfl rfl rfl b33 rfl rfl ?_
      refine SO.passF rfl rfl rfl b33 rfl rfl ?_
      cases h
      refine SO.v rfl (opv_pick_f' b33 rfl rfl) ?_
      refine SO.b4 ?_
      refine SO.b4 ?_
      refine SO.b4 ?_
      refine SO.b4 ?_
      refine SO.b4 ?_
      exact hk2.fitc (m := 6) rfl (rfl) rfl
  clear hc35
  replace h := hgk
  refine SO.rd fun hr37 => ?_
  refine SO.v rfl (opv_move rfl) ?_
  obtain ⟨⟨c43, w45⟩, hc44, hgk⟩ := opt_bind h
  refine SO.cut 6 47 (.bool c43) [Own 66 (ekI .u64) v15 w45, Box b3 [u4_Slots, u4_Objs, .int .i64 t1.NS, .int .i64 t1.NO], OwnO 65 kr_ref10_Slot u4_Slots raws5 A6 t1.Slots, OwnO 58 kr_ref10_Obj u4_Objs raws9 A10 t1.Objs, F] (fun l2 hk2 => ?_) ?_
  · clear hgk
    replace h := hc44
    rcases bool_or c34 with b42 | b42
    · replace h := cond_t b42 h
      refine SO.takeT rfl rfl rfl b42 ?_
      refine SO.v rfl (opv_move rfl) ?_
      refine SO.takeT rfl rfl rfl b42 ?_
      refine SO.v rfl (opv_iface Try.underlying27 rfl rfl) ?_
      refine SO.takeT rfl rfl rfl b42 ?_
      obtain ⟨⟨t47, s49⟩, ht48, h⟩ := opt_bind h
      refine SO.call (pre := [(plainV v15).rep _]) rfl Try.call19 rfl rfl rfl (derive_Copy.ct (plainV v15) _ _ _ _ _ _ _ ht48) trivial ?_
      rintro _ _ ⟨rfl, rfl⟩
      refine headEq (plainV_rep _ _) ?_
      refine SO.rd fun hr50 => ?_
      refine SO.takeT rfl rfl rfl b42 ?_
      refine SO.v rfl (opv_iface Try.underlying50 rfl rfl) ?_
      refine SO.takeT rfl rfl rfl b42 ?_
      refine SO.v rfl (opv_eqlE (e := t47) (c := 5) Try.underlying32 Try.underlying50 inf50 rfl rfl rfl) ?_
      cases h
      refine SO.v rfl (opv_pick_t' b42 rfl rfl) ?_
      refine SO.b4 ?_
      refine SO.b4 ?_
      refine SO.b4 ?_
      refine SO.b4 ?_
      refine SO.b4 ?_
      exact hk2.fitc (m := 6) rfl (rfl) rfl
    · replace h := cond_f b42 h
      refine SO.passF rfl rfl rfl b42 rfl rfl ?_
      refine SO.passF rfl rfl rfl b42 rfl rfl ?_
      refine SO.passF rfl rfl rfl b42 rfl rfl ?_
      refine SO.passF rfl rfl rfl b42 rfl rfl ?_
      refine SO.passF rfl rfl rfl b42 rfl rfl ?_
      cases h
      refine SO.v rfl (opv_pick_f' b42 rfl rfl) ?_
      refine SO.b4 ?_
      refine SO.b4 ?_
      refine SO.b4 ?_
      refine SO.b4 ?_
      refine SO.b4 ?_
      exact hk2.fitc (m := 6) rfl (rfl) rfl
  clear hc44
  replace h := hgk
  refine SO.rd fun hr46 => ?_
  refine SO.v rfl (opv_assign rfl) ?_
  refine SO.nil ?_
  refine S.to (ρ' := [(0, .bool c43)]) ⟨rfl, trivial⟩ ?_
  cases h
  refine S.b2 ?_
  refine S.closeR ?_
  refine S.b3 ?_
  refine S.closeR ?_
  refine S.drop ?_
  refine S.drop ?_
  refine S.drop ?_
  refine S.drop ?_
  exact S.ret1 Try.func5 rfl rfl (fun w hs hk => hR w _ _ ⟨rfl, rfl⟩ hs hk)
end Go.Proofs
namespace Go.Proofs
open Go.Sl Go.RowKit
/-! 17 padstone/rights.Within -/
def rights_Within.f (a0 : api_Cap) (a1 : api_Cap) : Option (Bool) :=
  some ((((a0.Kind == a1.Kind) && (a0.Obj == a1.Obj)) && ((bclr .i64 a0.Rights a1.Rights) == 0)) && ((a1.Badge == 0) || (a0.Badge == a1.Badge)))
set_option maxHeartbeats 8000000 in
set_option maxRecDepth 100000 in
theorem rights_Within.ct (a0 : api_Cap) (a1 : api_Cap) (r0 : Bool) (h : rights_Within.f a0 a1 = some r0) :
    Ct Try.prog 17 [.agg #[.int .i64 a0.Kind, .int .i64 a0.Rights, .int .i64 a0.Obj, .int .i64 a0.Badge, .int .i64 a0.Guard, .int .i64 a0.Bits], .agg #[.int .i64 a1.Kind, .int .i64 a1.Rights, .int .i64 a1.Obj, .int .i64 a1.Badge, .int .i64 a1.Guard, .int .i64 a1.Bits]] (fun _ => True) [] (fun u H' => u = .bool r0 ∧ H' = []) := by
  unfold rights_Within.f at h
  refine Ct.intro (n := 37) Try.func17 rfl rfl rfl ?_
  intro R w0 F hF hR
  refine S.seq ?_
  refine S.region ?_
  refine SO.box rfl rfl rfl (fun b1 => ?_)
  refine SO.box rfl rfl rfl (fun b2 => ?_)
  refine SO.v rfl (opv_assign rfl) ?_
  refine SO.nil ?_
  refine S.seq ?_
  refine S.region ?_
  refine SO.v rfl (opv_fieldAddr Try.underlying45 rfl Try.sizeOf3 rfl rfl) ?_
  refine SO.b1 ?_
  refine SO.load1 rfl Try.isAgg3 rfl rfl ?_
  refine SO.v rfl (opv_fieldAddr Try.underlying45 rfl Try.sizeOf3 rfl rfl) ?_
  refine SO.b1 ?_
  refine SO.load1 rfl Try.isAgg3 rfl rfl ?_
  refine SO.v rfl (opv_eql rfl rfl) ?_
  refine SO.v rfl (opv_move rfl) ?_
  refine SO.cut 6 16 (.bool ((a0.Kind == a1.Kind) && (a0.Obj == a1.Obj))) [Box b2 [.int .i64 a1.Kind, .int .i64 a1.Rights, .int .i64 a1.Obj, .int .i64 a1.Badge, .int .i64 a1.Guard, .int .i64 a1.Bits], Box b1 [.int .i64 a0.Kind, .int .i64 a0.Rights, .int .i64 a0.Obj, .int .i64 a0.Badge, .int .i64 a0.Guard, .int .i64 a0.Bits], F] (fun l2 hk2 => ?_) ?_
  · rcases bool_or (a0.Kind == a1.Kind) with b3 | b3
    · refine SO.takeT rfl rfl rfl b3 ?_
      refine SO.v rfl (opv_fieldAddr Try.underlying45 rfl Try.sizeOf3 rfl rfl) ?_
      refine SO.takeT rfl rfl rfl b3 ?_
      refine SO.b1 ?_
      refine SO.load1 rfl Try.isAgg3 rfl rfl ?_
      refine SO.takeT rfl rfl rfl b3 ?_
      refine SO.v rfl (opv_fieldAddr Try.underlying45 rfl Try.sizeOf3 rfl rfl) ?_
      refine SO.takeT rfl rfl rfl b3 ?_
      refine SO.b1 ?_
      refine SO.load1 rfl Try.isAgg3 rfl rfl ?_
      refine SO.takeT rfl rfl rfl b3 ?_
      refine SO.v rfl (opv_eql rfl rfl) ?_
      refine SO.v rfl (opv_pick_t' b3 rfl rfl) ?_
      refine SO.b2 ?_
      refine SO.b2 ?_
      refine SO.b2 ?_
      exact hk2.fitc (m := 6) rfl (and_t b3) rfl
    · refine SO.passF rfl rfl rfl b3 rfl rfl ?_
      refine SO.passF rfl rfl rfl b3 rfl rfl ?_
      refine SO.passF rfl rfl rfl b3 rfl rfl ?_
      refine SO.passF rfl rfl rfl b3 rfl rfl ?_
      refine SO.passF rfl rfl rfl b3 rfl rfl ?_
      refine SO.v rfl (opv_pick_f' b3 rfl rfl) ?_
      refine SO.b2 ?_
      refine SO.b2 ?_
      refine SO.b2 ?_
      exact hk2.fitc (m := 6) rfl (and_f b3) rfl
  refine SO.v rfl (opv_move rfl) ?_
  refine SO.cut 7 24 (.bool (((a0.Kind == a1.Kind) && (a0.Obj == a1.Obj)) && ((bclr .i64 a0.Rights a1.Rights) == 0))) [Box b2 [.int .i64 a1.Kind, .int .i64 a1.Rights, .int .i64 a1.Obj, .int .i64 a1.Badge, .int .i64 a1.Guard, .int .i64 a1.Bits], Box b1 [.int .i64 a0.Kind, .int .i64 a0.Rights, .int .i64 a0.Obj, .int .i64 a0.Badge, .int .i64 a0.Guard, .int .i64 a0.Bits], F] (fun l2 hk2 => ?_) ?_
  · rcases bool_or ((a0.Kind == a1.Kind) && (a0.Obj == a1.Obj)) with b4 | b4
    · refine SO.takeT rfl rfl rfl b4 ?_
      refine SO.v rfl (opv_fieldAddr Try.underlying45 rfl Try.sizeOf3 rfl rfl) ?_
      refine SO.takeT rfl rfl rfl b4 ?_
      refine SO.b1 ?_
      refine SO.load1 rfl Try.isAgg3 rfl rfl ?_
      refine SO.takeT rfl rfl rfl b4 ?_
      refine SO.v rfl (opv_fieldAddr Try.underlying45 rfl Try.sizeOf3 rfl rfl) ?_
      refine SO.takeT rfl rfl rfl b4 ?_
      refine SO.b1 ?_
      refine SO.load1 rfl Try.isAgg3 rfl rfl ?_
      refine SO.takeT rfl rfl rfl b4 ?_
      refine SO.v rfl (opv_andNot rfl rfl) ?_
      refine SO.takeT rfl rfl rfl b4 ?_
      refine SO.v rfl (opv_eql rfl rfl) ?_
      refine SO.v rfl (opv_pick_t' b4 rfl rfl) ?_
      refine SO.b2 ?_
      refine SO.b2 ?_
      refine SO.b2 ?_
      exact hk2.fitc (m := 7) rfl (and_t b4) rfl
    · refine SO.passF rfl rfl rfl b4 rfl rfl ?_
      refine SO.passF rfl rfl rfl b4 rfl rfl ?_
      refine SO.passF rfl rfl rfl b4 rfl rfl ?_
      refine SO.passF rfl rfl rfl b4 rfl rfl ?_
      refine SO.passF rfl rfl rfl b4 rfl rfl ?_
      refine SO.passF rfl rfl rfl b4 rfl rfl ?_
      refine SO.v rfl (opv_pick_f' b4 rfl rfl) ?_
      refine SO.b2 ?_
      refine SO.b2 ?_
      refine SO.b2 ?_
      exact hk2.fitc (m := 7) rfl (and_f b4) rfl
  refine SO.v rfl (opv_move rfl) ?_
  refine SO.cut 11 36 (.bool ((((a0.Kind == a1.Kind) && (a0.Obj == a1.Obj)) && ((bclr .i64 a0.Rights a1.Rights) == 0)) && ((a1.Badge == 0) || (a0.Badge == a1.Badge)))) [Box b2 [.int .i64 a1.Kind, .int .i64 a1.Rights, .int .i64 a1.Obj, .int .i64 a1.Badge, .int .i64 a1.Guard, .int .i64 a1.Bits], Box b1 [.int .i64 a0.Kind, .int .i64 a0.Rights, .int .i64 a0.Obj, .int .i64 a0.Badge, .int .i64 a0.Guard, .int .i64 a0.Bits], F] (fun l2 hk2 => ?_) ?_
  · rcases bool_or (((a0.Kind == a1.Kind) && (a0.Obj == a1.Obj)) && ((bclr .i64 a0.Rights a1.Rights) == 0)) with b5 | b5
    · refine SO.takeT rfl rfl rfl b5 ?_
      refine SO.v rfl (opv_fieldAddr Try.underlying45 rfl Try.sizeOf3 rfl rfl) ?_
      refine SO.takeT rfl rfl rfl b5 ?_
      refine SO.load1 rfl Try.isAgg3 rfl rfl ?_
      refine SO.takeT rfl rfl rfl b5 ?_
      refine SO.v rfl (opv_eql rfl rfl) ?_
      refine SO.takeT rfl rfl rfl b5 ?_
      refine SO.v rfl (opv_move rfl) ?_
      refine SO.cut 6 35 (.bool ((a1.Badge == 0) || (a0.Badge == a1.Badge))) [Box b2 [.int .i64 a1.Kind, .int .i64 a1.Rights, .int .i64 a1.Obj, .int .i64 a1.Badge, .int .i64 a1.Guard, .int .i64 a1.Bits], Box b1 [.int .i64 a0.Kind, .int .i64 a0.Rights, .int .i64 a0.Obj, .int .i64 a0.Badge, .int .i64 a0.Guard, .int .i64 a0.Bits], F] (fun l2 hk2 => ?_) ?_
      · rcases bool_or (a1.Badge == 0) with b6 | b6
        · refine SO.passF rfl rfl rfl b6 rfl rfl ?_
          refine SO.passF rfl rfl rfl b6 rfl rfl ?_
          refine SO.passF rfl rfl rfl b6 rfl rfl ?_
          refine SO.passF rfl rfl rfl b6 rfl rfl ?_
          refine SO.passF rfl rfl rfl b6 rfl rfl ?_
          refine SO.takeT rfl rfl rfl b5 ?_
          refine SO.v rfl (opv_pick_t' b6 rfl rfl) ?_
          refine SO.b2 ?_
          refine SO.b2 ?_
          refine SO.b2 ?_
          exact hk2.fitc (m := 6) rfl (or_t b6) rfl
        · refine SO.takeT rfl rfl rfl b6 ?_
          refine SO.v rfl (opv_fieldAddr Try.underlying45 rfl Try.sizeOf3 rfl rfl) ?_
          refine SO.takeT rfl rfl rfl b6 ?_
          refine SO.b1 ?_
          refine SO.load1 rfl Try.isAgg3 rfl rfl ?_
          refine SO.takeT rfl rfl rfl b6 ?_
          refine SO.v rfl (opv_fieldAddr Try.underlying45 rfl Try.sizeOf3 rfl rfl) ?_
          refine SO.takeT rfl rfl rfl b6 ?_
          refine SO.b1 ?_
          refine SO.load1 rfl Try.isAgg3 rfl rfl ?_
          refine SO.takeT rfl rfl rfl b6 ?_
          refine SO.v rfl (opv_eql rfl rfl) ?_
          refine SO.takeT rfl rfl rfl b5 ?_
          refine SO.v rfl (opv_pick_f' b6 rfl rfl) ?_
          refine SO.b2 ?_
          refine SO.b2 ?_
          refine SO.b2 ?_
          exact hk2.fitc (m := 6) rfl (or_f b6) rfl
      refine SO.v rfl (opv_pick_t' b5 rfl rfl) ?_
      refine SO.b2 ?_
      refine SO.b2 ?_
      refine SO.b2 ?_
      exact hk2.fitc (m := 6) rfl (and_t b5) rfl
    · refine SO.passF rfl rfl rfl b5 rfl rfl ?_
      refine SO.passF rfl rfl rfl b5 rfl rfl ?_
      refine SO.passF rfl rfl rfl b5 rfl rfl ?_
      refine SO.passF rfl rfl rfl b5 rfl rfl ?_
      refine SO.pass_undef rfl rfl rfl rfl ?_
      refine SO.pass_undef rfl rfl rfl rfl ?_
      refine SO.pass_undef rfl rfl rfl rfl ?_
      refine SO.pass_undef rfl rfl rfl rfl ?_
      refine SO.pass_undef rfl rfl rfl rfl ?_
      refine SO.passF rfl rfl rfl b5 rfl rfl ?_
      refine SO.v rfl (opv_pick_f' b5 rfl rfl) ?_
      refine SO.b2 ?_
      refine SO.b2 ?_
      refine SO.b2 ?_
      exact hk2.fitc (m := 11) rfl (and_f b5) rfl
  refine SO.v rfl (opv_assign rfl) ?_
  refine SO.nil ?_
  refine S.to (ρ' := [(4, .bool ((((a0.Kind == a1.Kind) && (a0.Obj == a1.Obj)) && ((bclr .i64 a0.Rights a1.Rights) == 0)) && ((a1.Badge == 0) || (a0.Badge == a1.Badge))))]) ⟨rfl, trivial⟩ ?_
  cases h
  refine S.drop ?_
  refine S.drop ?_
  exact S.ret1 Try.func17 rfl rfl (fun w hs hk => hR w _ _ ⟨rfl, rfl⟩ hs hk)
end Go.Proofs
namespace Go.Proofs
open Go.Sl Go.RowKit
/-! 4 padstone/padstonelaw12.DeriveLess -/
def law12_DeriveLess.l2 : Nat → (Int × (List api_Cap) × (List Int)) → Option (((List api_Cap) × (List Int)))
  | 0, _ => none
  | k + 1, (x11_2, x10_2, qv20_2) => bif decide (x11_2 < 96) then ((VM.run plainI (cspace_Cap.f k x11_2) qv20_2).bind fun (t27, s29) => (app x10_2 ([t27])).bind fun zs33 => law12_DeriveLess.l2  k (w64 (x11_2 + 1), zs33, s29)) else (some (x10_2, qv20_2))
def law12_DeriveLess.l4 (j10_e2 : List api_Cap) (t48 : api_Cap) : Nat → (Int × Bool) → Option (Bool)
  | 0, _ => none
  | k + 1, (x15_4, x14_4) => bif decide (x15_4 < 96) then ((bif x14_4 then (some true) else ((at_ j10_e2 x15_4).bind fun x56 => bif x56.Kind != 0 then ((at_ j10_e2 x15_4).bind fun x59 => (rights_Within.f t48 x59).bind fun t61 => some t61) else (some false))).bind fun j14_5 => law12_DeriveLess.l4 j10_e2 t48 k (w64 (x15_4 + 1), j14_5)) else (some x14_4)
def law12_DeriveLess.l3 (j10_e2 : List api_Cap) : Nat → (Int × (List Int)) → Option (Brk Bool (List Int))
  | 0, _ => none
  | k + 1, (x12_3, qv20_3) => bif decide (x12_3 < 96) then ((VM.run plainI (cspace_Cap.f k x12_3) qv20_3).bind fun (t48, s50) => bif t48.Kind == 0 then (law12_DeriveLess.l3 j10_e2 k (w64 (x12_3 + 1), s50)) else ((law12_DeriveLess.l4 j10_e2 t48 k (0, false)).bind fun j14_e4 => bif !j14_e4 then (some (Brk.ret false)) else (law12_DeriveLess.l3 j10_e2 k (w64 (x12_3 + 1), s50)))) else (some (Brk.nx qv20_3))
def law12_DeriveLess.l1 (a1 : List law12_Deed) : Nat → (Int × (List Int)) → Option (Brk Bool (List Int))
  | 0, _ => none
  | k + 1, (x9_1, qv20_1) => bif decide (x9_1 < (a1.length : Int)) then ((law12_DeriveLess.l2 k (0, [], qv20_1)).bind fun (j10_e2, qv20_e2) => (at_ a1 x9_1).bind fun x39 => (VM.run plainI (law12_do.f k x39) qv20_e2).bind fun ((t41, t42), s44) => (law12_DeriveLess.l3 j10_e2 k (0, s44)).bind fun o3 => Brk.go o3 (fun r => some (Brk.ret r)) (fun qv20_e3 => law12_DeriveLess.l1 a1 k (w64 (x9_1 + 1), qv20_e3))) else (some (Brk.nx qv20_1))
def law12_DeriveLess.l6 (a2 : Int) (t1 : Bool) : Nat → (Int × (List Int)) → Option (Brk Bool (List Int))
  | 0, _ => none
  | k + 1, (x16_6, qv20_6) => bif decide (x16_6 < 97) then ((VM.run plainI (derive_One.f k a2) qv20_6).bind fun ((t68, t69), s71) => bif t69.isSome then (some (Brk.ret ((t1 && (t69 == some 2)) && ((decide (a2 < 0)) || (decide (95 < a2)))))) else (bif !t68 then (some (Brk.ret t1)) else (law12_DeriveLess.l6 a2 t1 k (w64 (x16_6 + 1), s71)))) else (some (Brk.nx qv20_6))
def law12_DeriveLess.f (k : Nat) (a0 : Int) (a1 : List law12_Deed) (a2 : Int) : Option (Bool) :=
  (law12_up.f k ).bind fun t1 => bif ((decide (a0 < 0)) || (decide (7 < a0))) || (decide (60 < (a1.length : Int))) then (some t1) else ((ref10_Boot.f k a0).bind fun t6 => (ref10_State_Words.f k t6).bind fun t18 => (law12_DeriveLess.l1 a1 k (0, t18)).bind fun o1 => Brk.go o1 (fun r => some r) (fun qv20_e1 => (law12_DeriveLess.l6 a2 t1 k (0, qv20_e1)).bind fun o6 => Brk.go o6 (fun r => some r) (fun qv20_e6 => some false)))
set_option maxHeartbeats 8000000 in
set_option maxRecDepth 100000 in
theorem law12_DeriveLess.ct (k : Nat) (v1 : Value) (a0 : Int) (a1 : List law12_Deed) (a2 : Int) (r0 : Bool) (h : law12_DeriveLess.f k a0 a1 a2 = some r0) :
    Ct Try.prog 4 [.int .i64 a0, v1, .int .i64 a2] (fun F => Rd ek_law12_Deed v1 a1 F) [] (fun u H' => u = .bool r0 ∧ H' = []) := by
  unfold law12_DeriveLess.f at h
  refine Ct.intro (n := 123) Try.func4 rfl rfl rfl ?_
  intro R w0 F hF hR
  have hF1 := hF
  refine S.seq ?_
  refine S.region ?_
  refine SO.v rfl (opv_assign rfl) ?_
  refine SO.nil ?_
  refine S.seq ?_
  refine S.region ?_
  obtain ⟨t1, ht2, h⟩ := opt_bind h
  refine SO.call (pre := []) rfl Try.call5 rfl rfl rfl (law12_up.ct _ _ ht2) trivial ?_
  rintro _ _ ⟨rfl, rfl⟩
  refine SO.v rfl (opv_assign rfl) ?_
  refine SO.nil ?_
  refine S.seq ?_
  refine S.seq ?_
  refine S.region ?_
  refine SO.v rfl (opv_move rfl) ?_
  refine SO.v rfl (opv_lss rfl rfl) ?_
  refine SO.v rfl (opv_move rfl) ?_
  refine SO.cut 3 25 (.bool ((decide (a0 < 0)) || (decide (7 < a0)))) [F] (fun l2 hk2 => ?_) ?_
  · rcases bool_or (decide (a0 < 0)) with b3 | b3
    · refine SO.passF rfl rfl rfl b3 rfl rfl ?_
      refine SO.passF rfl rfl rfl b3 rfl rfl ?_
      refine SO.v rfl (opv_pick_t' b3 rfl rfl) ?_
      exact hk2.fitc (m := 3) rfl (or_t b3) rfl
    · refine SO.takeT rfl rfl rfl b3 ?_
      refine SO.v rfl (opv_move rfl) ?_
      refine SO.takeT rfl rfl rfl b3 ?_
      refine SO.v rfl (opv_gtr rfl rfl) ?_
      refine SO.v rfl (opv_pick_f' b3 rfl rfl) ?_
      exact hk2.fitc (m := 3) rfl (or_f b3) rfl
  refine SO.v rfl (opv_move rfl) ?_
  refine SO.cut 4 30 (.bool (((decide (a0 < 0)) || (decide (7 < a0))) || (decide (60 < (a1.length : Int))))) [F] (fun l2 hk2 => ?_) ?_
  · rcases bool_or ((decide (a0 < 0)) || (decide (7 < a0))) with b4 | b4
    · refine SO.passF rfl rfl rfl b4 rfl rfl ?_
      refine SO.passF rfl rfl rfl b4 rfl rfl ?_
      refine SO.passF rfl rfl rfl b4 rfl rfl ?_
      refine SO.v rfl (opv_pick_t' b4 rfl rfl) ?_
      exact hk2.fitc (m := 4) rfl (or_t b4) rfl
    · refine SO.takeT rfl rfl rfl b4 ?_
      refine SO.v rfl (opv_move rfl) ?_
      refine SO.takeT rfl rfl rfl b4 ?_
      refine SO.v rfl (opv_lenR rfl Try.underlying22 hF1 rfl) ?_
      refine SO.takeT rfl rfl rfl b4 ?_
      refine SO.v rfl (opv_gtr rfl rfl) ?_
      refine SO.v rfl (opv_pick_f' b4 rfl rfl) ?_
      exact hk2.fitc (m := 4) rfl (or_f b4) rfl
  refine SO.nil ?_
  rcases bool_or (((decide (a0 < 0)) || (decide (7 < a0))) || (decide (60 < (a1.length : Int)))) with b5 | b5
  · replace h := cond_t b5 h
    refine S.condT rfl b5 ?_
    refine S.seq ?_
    refine S.region ?_
    refine SO.v rfl (opv_move rfl) ?_
    refine SO.v rfl (opv_assign rfl) ?_
    refine SO.nil ?_
    refine S.to (ρ' := [(6, .bool t1)]) ⟨rfl, trivial⟩ ?_
    cases h
    exact S.ret1 Try.func4 rfl rfl (fun w hs hk => hR w _ _ ⟨rfl, rfl⟩ hs hk)
  · replace h := cond_f b5 h
    refine S.condF rfl b5 ?_
    refine S.skip ?_
    refine S.seq ?_
    refine S.region ?_
    refine SO.v rfl (opv_move rfl) ?_
    obtain ⟨t6, ht7, h⟩ := opt_bind h
    refine SO.call (pre := []) rfl Try.call6 rfl rfl rfl (ref10_Boot.ct _ _ _ ht7) trivial ?_
    rintro _ _ ⟨b8, u9_Slots, u9_Objs, rfl, rfl⟩
    obtain ⟨t18, ht19, h⟩ := opt_bind h
    refine SO.b1 ?_
    refine SO.openR fun raws10 A11 hrel12 hR13 => ?_
    refine SO.b2 ?_
    refine SO.openR fun raws14 A15 hrel16 hR17 => ?_
    refine SO.b1 ?_
    refine SO.b2 ?_
    refine SO.call (pre := [Box _ _, OwnO _ _ _ _ _ _, OwnO _ _ _ _ _ _]) rfl Try.call7 rfl rfl rfl (ref10_State_Words.ct _ b8 u9_Slots u9_Objs raws10 A11 raws14 A15 _ _ ht19) trivial ?_
    rintro v20 _ ⟨_, rfl, rfl⟩
    refine SO.rd fun hr21 => ?_
    refine SO.v rfl (opv_assign rfl) ?_
    refine SO.nil ?_
    refine S.to (ρ' := [(1, v1), (2, .int .i64 a2), (6, .bool false), (7, .bool t1), (8, v20)]) ⟨rfl, rfl, rfl, rfl, rfl, trivial⟩ ?_
    refine S.seq ?_
    refine S.seq ?_
    refine S.region ?_
    refine SO.v rfl (opv_assign rfl) ?_
    refine SO.nil ?_
    obtain ⟨o1, hl1, h⟩ := opt_bind h
    refine S.b4 ?_
    refine S.b4 ?_
    refine S.b4 ?_
    refine S.b4 ?_
    refine S.b4 ?_
    refine S.to (ρ' := [(9, .int .i64 0), (1, v1), (2, .int .i64 a2), (6, .bool false), (7, .bool t1), (8, v20)]) ⟨rfl, rfl, rfl, rfl, rfl, rfl, trivial⟩ ?_
    refine S.forloop (X := (Int × (List Int)) × Unit) (O := Brk Bool (List Int)) (fun m x => law12_DeriveLess.l1 a1 m x.1) (fun x => match x with | ((x9_1, qv20_1), _) => [(9, .int .i64 x9_1), (1, v1), (2, .int .i64 a2), (6, .bool false), (7, .bool t1), (8, v20)]) (fun x => match x with | ((x9_1, qv20_1), _) => [Own 66 (ekI .u64) v20 qv20_1, Box b8 [u9_Slots, u9_Objs, .int .i64 t6.NS, .int .i64 t6.NO], OwnO 65 kr_ref10_Slot u9_Slots raws10 A11 t6.Slots, OwnO 58 kr_ref10_Obj u9_Objs raws14 A15 t6.Objs, F]) (fun Sk o' => (∀ r', o' = Brk.ret r' → some r' = some r0) ∧ ∀ qv20_e1 : (List Int), ∀ _ : Unit, o' = Brk.nx qv20_e1 → Sk [(2, .int .i64 a2), (6, .bool false), (7, .bool t1), (8, v20)] [Own 66 (ekI .u64) v20 qv20_e1, Box b8 [u9_Slots, u9_Objs, .int .i64 t6.NS, .int .i64 t6.NO], OwnO 65 kr_ref10_Slot u9_Slots raws10 A11 t6.Slots, OwnO 58 kr_ref10_Obj u9_Objs raws14 A15 t6.Objs, F]) (fun _ => rfl) ?_ (m := k) (x := ((0, t18), ())) hl1 ?_
    · clear h hl1
      intro k x o_1 h hK1 ih1
      obtain ⟨⟨x9_1, qv20_1⟩, _⟩ := x
      replace h : law12_DeriveLess.l1 a1 (k + 1) (x9_1, qv20_1) = some o_1 := h
      first | rw [law12_DeriveLess.l1] at h | unfold law12_DeriveLess.l1 at h
      refine S.rd fun hr22 => ?_
      refine S.seq ?_
      refine S.seq ?_
      refine S.region ?_
      refine SO.v rfl (opv_move rfl) ?_
      refine SO.v rfl (opv_move rfl) ?_
      refine SO.v rfl (opv_lenR rfl Try.underlying22 hF1 rfl) ?_
      refine SO.v rfl (opv_lss rfl rfl) ?_
      refine SO.nil ?_
      rcases bool_or (decide (x9_1 < (a1.length : Int))) with b23 | b23
      · replace h := cond_t b23 h
        refine S.condT rfl b23 ?_
        refine S.skip ?_
        refine S.seq ?_
        refine S.block ?_
        refine S.seq ?_
        refine S.region ?_
        refine SO.v rfl (opv_assign rfl) ?_
        refine SO.nil ?_
        refine S.seq ?_
        refine S.seq ?_
        refine S.region ?_
        refine SO.v rfl (opv_assign rfl) ?_
        refine SO.nil ?_
        obtain ⟨⟨j10_e2, qv20_e2⟩, hl2, h⟩ := opt_bind h
        refine S.newOwn 45 ek_api_Cap ?_
        refine S.b5 ?_
        refine S.b5 ?_
        refine S.b5 ?_
        refine S.b5 ?_
        refine S.b5 ?_
        refine S.b5 ?_
        refine S.to (ρ' := [(11, .int .i64 0), (10, .slice none 0 0), (9, .int .i64 x9_1), (1, v1), (2, .int .i64 a2), (6, .bool false), (7, .bool t1), (8, v20)]) ⟨rfl, rfl, rfl, rfl, rfl, rfl, rfl, rfl, trivial⟩ ?_
        refine S.forloop (X := (Int × (List api_Cap) × (List Int)) × Value) (O := ((List api_Cap) × (List Int))) (fun m x => law12_DeriveLess.l2  m x.1) (fun x => match x with | ((x11_2, x10_2, qv20_2), v10_2) => [(11, .int .i64 x11_2), (10, v10_2), (9, .int .i64 x9_1), (1, v1), (2, .int .i64 a2), (6, .bool false), (7, .bool t1), (8, v20)]) (fun x => match x with | ((x11_2, x10_2, qv20_2), v10_2) => [Own 45 ek_api_Cap v10_2 x10_2, Own 66 (ekI .u64) v20 qv20_2, Box b8 [u9_Slots, u9_Objs, .int .i64 t6.NS, .int .i64 t6.NO], OwnO 65 kr_ref10_Slot u9_Slots raws10 A11 t6.Slots, OwnO 58 kr_ref10_Obj u9_Objs raws14 A15 t6.Objs, F]) (fun Sk => (fun x => match x with | (j10_e2, qv20_e2) => ∀ v10_e2 : Value, Sk [(1, v1), (2, .int .i64 a2), (6, .bool false), (7, .bool t1), (8, v20), (9, .int .i64 x9_1), (10, v10_e2)] [Own 45 ek_api_Cap v10_e2 j10_e2, Own 66 (ekI .u64) v20 qv20_e2, Box b8 [u9_Slots, u9_Objs, .int .i64 t6.NS, .int .i64 t6.NO], OwnO 65 kr_ref10_Slot u9_Slots raws10 A11 t6.Slots, OwnO 58 kr_ref10_Obj u9_Objs raws14 A15 t6.Objs, F])) (fun _ => rfl) ?_ (m := k) (x := ((0, [], qv20_1), .slice none 0 0)) hl2 ?_
        · clear h hl2
          intro k x o_2 h hK2 ih2
          obtain ⟨⟨x11_2, x10_2, qv20_2⟩, v10_2⟩ := x
          replace h : law12_DeriveLess.l2  (k + 1) (x11_2, x10_2, qv20_2) = some o_2 := h
          first | rw [law12_DeriveLess.l2] at h | unfold law12_DeriveLess.l2 at h
          refine S.rd fun hr24 => ?_
          refine S.b1 ?_
          refine S.rd fun hr25 => ?_
          refine S.seq ?_
          refine S.seq ?_
          refine S.region ?_
          refine SO.v rfl (opv_move rfl) ?_
          refine SO.v rfl (opv_lss rfl rfl) ?_
          refine SO.nil ?_
          rcases bool_or (decide (x11_2 < 96)) with b26 | b26
          · replace h := cond_t b26 h
            refine S.condT rfl b26 ?_
            refine S.skip ?_
            refine S.seq ?_
            refine S.block ?_
            refine S.region ?_
            refine SO.v rfl (opv_move rfl) ?_
            refine SO.v rfl (opv_move rfl) ?_
            refine SO.v rfl (opv_iface Try.underlying27 rfl rfl) ?_
            refine SO.v rfl (opv_move rfl) ?_
            obtain ⟨⟨t27, s29⟩, ht28, h⟩ := opt_bind h
            refine SO.call (pre := [(plainV v20).rep _]) rfl Try.call16 rfl rfl rfl (cspace_Cap.ct (plainV v20) _ _ _ _ _ ht28) trivial ?_
            rintro _ _ ⟨rfl, rfl⟩
            refine headEq (plainV_rep _ _) ?_
            refine SO.rd fun hr30 => ?_
            refine SO.buildSlice (K := ek_api_Cap) (xs := [t27]) (cs := [.int .i64 t27.Kind, .int .i64 t27.Rights, .int .i64 t27.Obj, .int .i64 t27.Badge, .int .i64 t27.Guard, .int .i64 t27.Bits]) rfl Try.underlying43 Try.sizeOf45 Try.zeroValue45 rfl rfl rfl (by kernel_rfl) rfl rfl rfl (fun v31 hr32 => ?_)
            obtain ⟨zs33, hz34, h⟩ := opt_bind h
            refine SO.b2 ?_
            refine SO.append rfl Try.underlying43 Try.underlying43 inf45 rfl rfl rfl (by decide) rfl rfl rfl (Rd.head hr32) hz34 (fun v35 => ?_)
            refine SO.rd fun hr36 => ?_
            refine SO.v rfl (opv_assign rfl) ?_
            refine SO.nil ?_
            refine S.to (ρ' := [(11, .int .i64 x11_2), (10, v35), (9, .int .i64 x9_1), (1, v1), (2, .int .i64 a2), (6, .bool false), (7, .bool t1), (8, v20)]) ⟨rfl, rfl, rfl, rfl, rfl, rfl, rfl, rfl, trivial⟩ ?_
            refine S.inBlock ?_
            refine S.region ?_
            refine SO.v rfl (opv_move rfl) ?_
            refine SO.v rfl (opv_add rfl rfl) ?_
            refine SO.v rfl (opv_assign rfl) ?_
            refine SO.nil ?_
            refine S.b1 ?_
            refine S.drop ?_
            refine S.b5 ?_
            refine S.b5 ?_
            refine S.b5 ?_
            refine S.b5 ?_
            refine S.b5 ?_
            refine S.b5 ?_
            refine S.to ?_ (ih2 ((w64 (x11_2 + 1), zs33, s29), v35) h)
            exact ⟨rfl, rfl, rfl, rfl, rfl, rfl, rfl, rfl, trivial⟩
          · replace h := cond_f b26 h
            refine S.condF rfl b26 ?_
            refine S.exit rfl ?_
            cases h
            refine S.b5 ?_
            refine S.b5 ?_
            refine S.b5 ?_
            refine S.b5 ?_
            refine S.b4 ?_
            refine S.b5 ?_
            refine S.to ?_ (hK2 v10_2)
            exact ⟨rfl, rfl, rfl, rfl, rfl, rfl, rfl, trivial⟩
        rintro v10_e2
        refine S.rd fun hr37 => ?_
        refine S.b1 ?_
        refine S.rd fun hr38 => ?_
        refine S.seq ?_
        refine S.region ?_
        refine SO.v rfl (opv_move rfl) ?_
        refine SO.v rfl (opv_iface Try.underlying27 rfl rfl) ?_
        refine SO.v rfl (opv_move rfl) ?_
        refine SO.v rfl (opv_move rfl) ?_
        obtain ⟨x39, hx40, h⟩ := opt_bind h
        refine SO.v rfl (opv_idx Try.underlying22 Try.sizeOf30 hF1 rfl rfl hx40) ?_
        refine SO.loadIN rfl Try.isAgg30 Try.sizeOf30 (Rd.tail (Rd.tail (Rd.tail (Rd.tail (Rd.tail (Rd.head hF1)))))) hx40 rfl rfl rfl ?_
        obtain ⟨⟨⟨t41, t42⟩, s44⟩, ht43, h⟩ := opt_bind h
        refine SO.call (pre := [(plainV v20).rep _]) rfl Try.call8 rfl rfl rfl (law12_do.ct (plainV v20) _ _ _ _ _ _ ht43) trivial ?_
        rintro _ _ ⟨rfl, rfl⟩
        refine headEq (plainV_rep _ _) ?_
        refine SO.rd fun hr45 => ?_
        refine SO.nil ?_
        refine S.to (ρ' := [(1, v1), (2, .int .i64 a2), (6, .bool false), (7, .bool t1), (8, v20), (9, .int .i64 x9_1), (10, v10_e2)]) ⟨rfl, rfl, rfl, rfl, rfl, rfl, rfl, trivial⟩ ?_
        refine S.seq ?_
        refine S.region ?_
        refine SO.v rfl (opv_assign rfl) ?_
        refine SO.nil ?_
        obtain ⟨o3, hl3, h⟩ := opt_bind h
        refine S.b5 ?_
        refine S.b5 ?_
        refine S.b5 ?_
        refine S.b5 ?_
        refine S.b5 ?_
        refine S.b5 ?_
        refine S.to (ρ' := [(12, .int .i64 0), (1, v1), (2, .int .i64 a2), (6, .bool false), (7, .bool t1), (8, v20), (9, .int .i64 x9_1), (10, v10_e2)]) ⟨rfl, rfl, rfl, rfl, rfl, rfl, rfl, rfl, trivial⟩ ?_
        refine S.forloop (X := (Int × (List Int)) × Unit) (O := Brk Bool (List Int)) (fun m x => law12_DeriveLess.l3 j10_e2 m x.1) (fun x => match x with | ((x12_3, qv20_3), _) => [(12, .int .i64 x12_3), (1, v1), (2, .int .i64 a2), (6, .bool false), (7, .bool t1), (8, v20), (9, .int .i64 x9_1), (10, v10_e2)]) (fun x => match x with | ((x12_3, qv20_3), _) => [Own 66 (ekI .u64) v20 qv20_3, Own 45 ek_api_Cap v10_e2 j10_e2, Box b8 [u9_Slots, u9_Objs, .int .i64 t6.NS, .int .i64 t6.NO], OwnO 65 kr_ref10_Slot u9_Slots raws10 A11 t6.Slots, OwnO 58 kr_ref10_Obj u9_Objs raws14 A15 t6.Objs, F]) (fun Sk o' => (∀ r', o' = Brk.ret r' → some (Brk.ret r') = some o_1) ∧ ∀ qv20_e3 : (List Int), ∀ _ : Unit, o' = Brk.nx qv20_e3 → Sk [(1, v1), (2, .int .i64 a2), (6, .bool false), (7, .bool t1), (8, v20), (9, .int .i64 x9_1)] [Own 66 (ekI .u64) v20 qv20_e3, Own 45 ek_api_Cap v10_e2 j10_e2, Box b8 [u9_Slots, u9_Objs, .int .i64 t6.NS, .int .i64 t6.NO], OwnO 65 kr_ref10_Slot u9_Slots raws10 A11 t6.Slots, OwnO 58 kr_ref10_Obj u9_Objs raws14 A15 t6.Objs, F]) (fun _ => rfl) ?_ (m := k) (x := ((0, s44), ())) hl3 ?_
        · clear h hl3
          intro k x o_3 h hK3 ih3
          obtain ⟨⟨x12_3, qv20_3⟩, _⟩ := x
          replace h : law12_DeriveLess.l3 j10_e2 (k + 1) (x12_3, qv20_3) = some o_3 := h
          first | rw [law12_DeriveLess.l3] at h | unfold law12_DeriveLess.l3 at h
          refine S.rd fun hr46 => ?_
          refine S.seq ?_
          refine S.seq ?_
          refine S.region ?_
          refine SO.v rfl (opv_move rfl) ?_
          refine SO.v rfl (opv_lss rfl rfl) ?_
          refine SO.nil ?_
          rcases bool_or (decide (x12_3 < 96)) with b47 | b47
          · replace h := cond_t b47 h
            refine S.condT rfl b47 ?_
            refine S.skip ?_
            refine S.seq ?_
            refine S.block ?_
            refine S.seq ?_
            refine S.region ?_
            refine SO.v rfl (opv_move rfl) ?_
            refine SO.v rfl (opv_iface Try.underlying27 rfl rfl) ?_
            refine SO.v rfl (opv_move rfl) ?_
            obtain ⟨⟨t48, s50⟩, ht49, h⟩ := opt_bind h
            refine SO.call (pre := [(plainV v20).rep _]) rfl Try.call16 rfl rfl rfl (cspace_Cap.ct (plainV v20) _ _ _ _ _ ht49) trivial ?_
            rintro _ _ ⟨rfl, rfl⟩
            refine headEq (plainV_rep _ _) ?_
            refine SO.rd fun hr51 => ?_
            refine SO.alloc rfl Try.zeroValue45 rfl (fun b52 => ?_)
            refine SO.storeN Try.sizeOf45 rfl rfl rfl rfl rfl rfl ?_
            refine SO.nil ?_
            refine S.seq ?_
            refine S.seq ?_
            refine S.region ?_
            refine SO.v rfl (opv_fieldAddr Try.underlying45 rfl Try.sizeOf3 rfl rfl) ?_
            refine SO.load1 rfl Try.isAgg3 rfl rfl ?_
            refine SO.v rfl (opv_eql rfl rfl) ?_
            refine SO.nil ?_
            refine S.to (ρ' := [(12, .int .i64 x12_3), (1, v1), (2, .int .i64 a2), (6, .bool false), (7, .bool t1), (8, v20), (9, .int .i64 x9_1), (10, v10_e2), (13, bp b52 0), (69, .bool (t48.Kind == 0))]) ⟨rfl, rfl, rfl, rfl, rfl, rfl, rfl, rfl, rfl, rfl, trivial⟩ ?_
            rcases bool_or (t48.Kind == 0) with b53 | b53
            · replace h := cond_t b53 h
              refine S.condT rfl b53 ?_
              refine S.exit rfl ?_
              refine S.region ?_
              refine SO.v rfl (opv_move rfl) ?_
              refine SO.v rfl (opv_add rfl rfl) ?_
              refine SO.v rfl (opv_assign rfl) ?_
              refine SO.nil ?_
              refine S.drop ?_
              refine S.b5 ?_
              refine S.b5 ?_
              refine S.b5 ?_
              refine S.b5 ?_
              refine S.b5 ?_
              refine S.b5 ?_
              refine S.to ?_ (ih3 ((w64 (x12_3 + 1), s50), ()) h)
              exact ⟨rfl, rfl, rfl, rfl, rfl, rfl, rfl, rfl, trivial⟩
            · replace h := cond_f b53 h
              refine S.condF rfl b53 ?_
              refine S.skip ?_
              refine S.seq ?_
              refine S.region ?_
              refine SO.v rfl (opv_assign rfl) ?_
              refine SO.nil ?_
              refine S.seq ?_
              refine S.seq ?_
              refine S.region ?_
              refine SO.v rfl (opv_assign rfl) ?_
              refine SO.nil ?_
              obtain ⟨j14_e4, hl4, h⟩ := opt_bind h
              refine S.b6 ?_
              refine S.b6 ?_
              refine S.b6 ?_
              refine S.b6 ?_
              refine S.b6 ?_
              refine S.b6 ?_
              refine S.b6 ?_
              refine S.to (ρ' := [(15, .int .i64 0), (14, .bool false), (12, .int .i64 x12_3), (1, v1), (2, .int .i64 a2), (6, .bool false), (7, .bool t1), (8, v20), (9, .int .i64 x9_1), (10, v10_e2), (13, bp b52 0)]) ⟨rfl, rfl, rfl, rfl, rfl, rfl, rfl, rfl, rfl, rfl, rfl, trivial⟩ ?_
              refine S.forloop (X := (Int × Bool) × Unit) (O := Bool) (fun m x => law12_DeriveLess.l4 j10_e2 t48 m x.1) (fun x => match x with | ((x15_4, x14_4), _) => [(15, .int .i64 x15_4), (14, .bool x14_4), (12, .int .i64 x12_3), (1, v1), (2, .int .i64 a2), (6, .bool false), (7, .bool t1), (8, v20), (9, .int .i64 x9_1), (10, v10_e2), (13, bp b52 0)]) (fun x => match x with | ((x15_4, x14_4), _) => [Box b52 [.int .i64 t48.Kind, .int .i64 t48.Rights, .int .i64 t48.Obj, .int .i64 t48.Badge, .int .i64 t48.Guard, .int .i64 t48.Bits], Own 66 (ekI .u64) v20 s50, Own 45 ek_api_Cap v10_e2 j10_e2, Box b8 [u9_Slots, u9_Objs, .int .i64 t6.NS, .int .i64 t6.NO], OwnO 65 kr_ref10_Slot u9_Slots raws10 A11 t6.Slots, OwnO 58 kr_ref10_Obj u9_Objs raws14 A15 t6.Objs, F]) (fun Sk => (fun j14_e4 => ∀ _ : Unit, Sk [(1, v1), (2, .int .i64 a2), (6, .bool false), (7, .bool t1), (8, v20), (9, .int .i64 x9_1), (10, v10_e2), (12, .int .i64 x12_3), (14, .bool j14_e4)] [Box b52 [.int .i64 t48.Kind, .int .i64 t48.Rights, .int .i64 t48.Obj, .int .i64 t48.Badge, .int .i64 t48.Guard, .int .i64 t48.Bits], Own 66 (ekI .u64) v20 s50, Own 45 ek_api_Cap v10_e2 j10_e2, Box b8 [u9_Slots, u9_Objs, .int .i64 t6.NS, .int .i64 t6.NO], OwnO 65 kr_ref10_Slot u9_Slots raws10 A11 t6.Slots, OwnO 58 kr_ref10_Obj u9_Objs raws14 A15 t6.Objs, F])) (fun _ => rfl) ?_ (m := k) (x := ((0, false), ())) hl4 ?_
              · clear h hl4
                intro k x o_4 h hK4 ih4
                obtain ⟨⟨x15_4, x14_4⟩, _⟩ := x
                replace h : law12_DeriveLess.l4 j10_e2 t48 (k + 1) (x15_4, x14_4) = some o_4 := h
                first | rw [law12_DeriveLess.l4] at h | unfold law12_DeriveLess.l4 at h
                refine S.seq ?_
                refine S.seq ?_
                refine S.region ?_
                refine SO.v rfl (opv_move rfl) ?_
                refine SO.v rfl (opv_lss rfl rfl) ?_
                refine SO.nil ?_
                rcases bool_or (decide (x15_4 < 96)) with b54 | b54
                · replace h := cond_t b54 h
                  refine S.condT rfl b54 ?_
                  refine S.skip ?_
                  refine S.seq ?_
                  refine S.block ?_
                  obtain ⟨j14_5, hC5, hJ5⟩ := opt_bind h
                  clear h
                  refine S.cutP (G := Unit) (fun _ => True) (fun _ => [(1, v1), (2, .int .i64 a2), (6, .bool false), (7, .bool t1), (8, v20), (9, .int .i64 x9_1), (10, v10_e2), (12, .int .i64 x12_3), (13, bp b52 0), (14, .bool j14_5), (15, .int .i64 x15_4)]) (fun _ => [Box b52 [.int .i64 t48.Kind, .int .i64 t48.Rights, .int .i64 t48.Obj, .int .i64 t48.Badge, .int .i64 t48.Guard, .int .i64 t48.Bits], Own 66 (ekI .u64) v20 s50, Own 45 ek_api_Cap v10_e2 j10_e2, Box b8 [u9_Slots, u9_Objs, .int .i64 t6.NS, .int .i64 t6.NO], OwnO 65 kr_ref10_Slot u9_Slots raws10 A11 t6.Slots, OwnO 58 kr_ref10_Obj u9_Objs raws14 A15 t6.Objs, F]) (fun hk5 => ?_) ?_
                  · replace h := hC5
                    rcases bool_or x14_4 with b55 | b55
                    · replace h := cond_t b55 h
                      refine S.draw' (Z := fun Q => ∀ (_ : Unit) (_ : Unit) (_ : Unit) (_ : Unit) (_ : Unit) (_ : Unit) (_ : Unit) (_ : Unit) (_ : Unit) (_ : Unit) (_ : Unit) (_ : Unit), Q [(15, .int .i64 x15_4), (14, .bool true), (12, .int .i64 x12_3), (1, v1), (2, .int .i64 a2), (6, .bool false), (7, .bool t1), (8, v20), (9, .int .i64 x9_1), (10, v10_e2), (13, bp b52 0)] [Box b52 [.int .i64 t48.Kind, .int .i64 t48.Rights, .int .i64 t48.Obj, .int .i64 t48.Badge, .int .i64 t48.Guard, .int .i64 t48.Bits], Own 66 (ekI .u64) v20 s50, Own 45 ek_api_Cap v10_e2 j10_e2, Box b8 [u9_Slots, u9_Objs, .int .i64 t6.NS, .int .i64 t6.NO], OwnO 65 kr_ref10_Slot u9_Slots raws10 A11 t6.Slots, OwnO 58 kr_ref10_Obj u9_Objs raws14 A15 t6.Objs, F]) (T := [tS 14 (.bool x14_4), tS 10 (v10_e2), tS 15 (.int .i64 x15_4), tS 13 (bp b52 0), tE [(12, .int .i64 x12_3), (1, v1), (2, .int .i64 a2), (6, .bool false), (7, .bool t1), (8, v20), (9, .int .i64 x9_1)], tR (Box b52 [.int .i64 t48.Kind, .int .i64 t48.Rights, .int .i64 t48.Obj, .int .i64 t48.Badge, .int .i64 t48.Guard, .int .i64 t48.Bits]), tR (Own 66 (ekI .u64) v20 s50), tR (Own 45 ek_api_Cap v10_e2 j10_e2), tR (Box b8 [u9_Slots, u9_Objs, .int .i64 t6.NS, .int .i64 t6.NO]), tR (OwnO 65 kr_ref10_Slot u9_Slots raws10 A11 t6.Slots), tR (OwnO 58 kr_ref10_Obj u9_Objs raws14 A15 t6.Objs), tR (F), tS 74 (.bool x14_4), tS 75 (.bool x14_4), tS 76 (undef), tS 77 (undef), tS 78 (undef), tS 79 (undef), tS 80 (undef), tS 81 (undef), tS 82 (undef), tS 83 (undef), tS 84 (undef), tS 85 (undef), tS 86 (undef), tS 87 (undef), tS 88 (undef), tS 89 (undef), tS 90 (.bool true), tS 14 (.bool true)]) (D := [⟨[0], [], [12]⟩, ⟨[12], [], [13]⟩, ⟨[13], [], [14]⟩, ⟨[13], [], [15]⟩, ⟨[13], [], [16]⟩, ⟨[13], [], [17]⟩, ⟨[13], [], [18]⟩, ⟨[13], [], [19]⟩, ⟨[13], [], [20]⟩, ⟨[20], [], [21]⟩, ⟨[20], [], [22]⟩, ⟨[20], [], [23]⟩, ⟨[20], [], [24]⟩, ⟨[20], [], [25]⟩, ⟨[20], [], [26]⟩, ⟨[13], [], [27]⟩, ⟨[13, 27], [], [28]⟩, ⟨[28], [0], [29]⟩]) (ini := [0, 1, 2, 3, 4, 5, 6, 7, 8, 9, 10, 11]) (fin := [2, 29, 4, 1, 3, 5, 6, 7, 8, 9, 10, 11]) (bf := [[], [0], [0, 1], [0, 1], [0, 1, 2, 3], [0, 1, 2, 3, 4], [0, 1, 2, 3, 4, 5], [0, 1, 2, 3, 4, 5, 6], [0, 1, 2, 3, 4, 5, 6, 7], [0, 1, 2, 3, 4, 5, 6, 7, 8], [0, 1, 2, 3, 4, 5, 6, 7, 8], [0, 1, 2, 3, 4, 5, 6, 7, 8], [0, 1, 2, 3, 4, 5, 6, 7, 8, 10, 11], [0, 1, 2, 3, 4, 5, 6, 7, 8, 10, 11, 12], [0, 1, 2, 3, 4, 5, 6, 7, 8, 9, 10, 11, 12, 13], [0, 1, 2, 3, 4, 5, 6, 7, 8, 9, 10, 11, 12, 13, 14], [0, 1, 2, 3, 4, 5, 6, 7, 8, 9, 10, 11, 12, 13, 14, 15], [0, 1, 2, 3, 4, 5, 6, 7, 8, 9, 10, 11, 12, 13, 14, 15, 16]]) (by kernel_rfl) (by kernel_rfl) (fun x w h1 h2 => (.cons () (.cons () (.cons () (.cons () (.cons () (.cons () (.cons () (.cons () (.cons () (.cons () (.cons () (.cons () (.nil ⟨EnvAll.of h1 ⟨rfl, rfl, rfl, rfl, rfl, rfl, rfl, rfl, rfl, rfl, rfl, trivial⟩, h2⟩)))))))))))))) (fun Q => by kernel_rfl) ⟨?_, ?_, ?_, ?_, ?_, ?_, ?_, ?_, ?_, ?_, ?_, ?_, ?_, ?_, ?_, ?_, ?_, ?_, trivial⟩ ?_
                      · rintro Fr _
                        refine SO.v rfl (opv_move rfl) ?_
                        exact SO.nilZ fun a w h1 h2 h3 h4 h5 => PZ.of h1 h3 h5 (.cons () (.cons () (.nil ⟨EnvAll.of h2 ⟨rfl, rfl, trivial⟩, h4⟩)))
                      · rintro Fr _
                        refine SO.v rfl (opv_move rfl) ?_
                        exact SO.nilZ fun a w h1 h2 h3 h4 h5 => PZ.of h1 h3 h5 (.cons () (.cons () (.nil ⟨EnvAll.of h2 ⟨rfl, rfl, trivial⟩, h4⟩)))
                      · rintro Fr _
                        refine SO.passF rfl rfl rfl b55 rfl rfl ?_
                        exact SO.nilZ fun a w h1 h2 h3 h4 h5 => PZ.of h1 h3 h5 (.cons () (.cons () (.nil ⟨EnvAll.of h2 ⟨rfl, rfl, trivial⟩, h4⟩)))
                      · rintro Fr _
                        refine SO.passF rfl rfl rfl b55 rfl rfl ?_
                        exact SO.nilZ fun a w h1 h2 h3 h4 h5 => PZ.of h1 h3 h5 (.cons () (.cons () (.nil ⟨EnvAll.of h2 ⟨rfl, rfl, trivial⟩, h4⟩)))
                      · rintro Fr _
                        refine SO.passF rfl rfl rfl b55 rfl rfl ?_
                        exact SO.nilZ fun a w h1 h2 h3 h4 h5 => PZ.of h1 h3 h5 (.cons () (.cons () (.nil ⟨EnvAll.of h2 ⟨rfl, rfl, trivial⟩, h4⟩)))
                      · rintro Fr _
                        refine SO.passF rfl rfl rfl b55 rfl rfl ?_
                        exact SO.nilZ fun a w h1 h2 h3 h4 h5 => PZ.of h1 h3 h5 (.cons () (.cons () (.nil ⟨EnvAll.of h2 ⟨rfl, rfl, trivial⟩, h4⟩)))
                      · rintro Fr _
                        refine SO.passF rfl rfl rfl b55 rfl rfl ?_
                        exact SO.nilZ fun a w h1 h2 h3 h4 h5 => PZ.of h1 h3 h5 (.cons () (.cons () (.nil ⟨EnvAll.of h2 ⟨rfl, rfl, trivial⟩, h4⟩)))
                      · rintro Fr _
                        refine SO.passF rfl rfl rfl b55 rfl rfl ?_
                        exact SO.nilZ fun a w h1 h2 h3 h4 h5 => PZ.of h1 h3 h5 (.cons () (.cons () (.nil ⟨EnvAll.of h2 ⟨rfl, rfl, trivial⟩, h4⟩)))
                      · rintro Fr _
                        refine SO.passF rfl rfl rfl b55 rfl rfl ?_
                        exact SO.nilZ fun a w h1 h2 h3 h4 h5 => PZ.of h1 h3 h5 (.cons () (.cons () (.nil ⟨EnvAll.of h2 ⟨rfl, rfl, trivial⟩, h4⟩)))
                      · rintro Fr _
                        refine SO.pass_undef rfl rfl rfl rfl ?_
                        exact SO.nilZ fun a w h1 h2 h3 h4 h5 => PZ.of h1 h3 h5 (.cons () (.cons () (.nil ⟨EnvAll.of h2 ⟨rfl, rfl, trivial⟩, h4⟩)))
                      · rintro Fr _
                        refine SO.pass_undef rfl rfl rfl rfl ?_
                        exact SO.nilZ fun a w h1 h2 h3 h4 h5 => PZ.of h1 h3 h5 (.cons () (.cons () (.nil ⟨EnvAll.of h2 ⟨rfl, rfl, trivial⟩, h4⟩)))
                      · rintro Fr _
                        refine SO.pass_undef rfl rfl rfl rfl ?_
                        exact SO.nilZ fun a w h1 h2 h3 h4 h5 => PZ.of h1 h3 h5 (.cons () (.cons () (.nil ⟨EnvAll.of h2 ⟨rfl, rfl, trivial⟩, h4⟩)))
                      · rintro Fr _
                        refine SO.pass_undef rfl rfl rfl rfl ?_
                        exact SO.nilZ fun a w h1 h2 h3 h4 h5 => PZ.of h1 h3 h5 (.cons () (.cons () (.nil ⟨EnvAll.of h2 ⟨rfl, rfl, trivial⟩, h4⟩)))
                      · rintro Fr _
                        refine SO.pass_undef rfl rfl rfl rfl ?_
                        exact SO.nilZ fun a w h1 h2 h3 h4 h5 => PZ.of h1 h3 h5 (.cons () (.cons () (.nil ⟨EnvAll.of h2 ⟨rfl, rfl, trivial⟩, h4⟩)))
                      · rintro Fr _
                        refine SO.pass_undef rfl rfl rfl rfl ?_
                        exact SO.nilZ fun a w h1 h2 h3 h4 h5 => PZ.of h1 h3 h5 (.cons () (.cons () (.nil ⟨EnvAll.of h2 ⟨rfl, rfl, trivial⟩, h4⟩)))
                      · rintro Fr _
                        refine SO.passF rfl rfl rfl b55 rfl rfl ?_
                        exact SO.nilZ fun a w h1 h2 h3 h4 h5 => PZ.of h1 h3 h5 (.cons () (.cons () (.nil ⟨EnvAll.of h2 ⟨rfl, rfl, trivial⟩, h4⟩)))
                      · rintro Fr _ _
                        refine SO.v rfl (opv_pick_t' b55 rfl rfl) ?_
                        exact SO.nilZ fun a w h1 h2 h3 h4 h5 => PZ.of h1 h3 h5 (.cons () (.cons () (.cons () (.nil ⟨EnvAll.of h2 ⟨rfl, rfl, rfl, trivial⟩, h4⟩))))
                      · rintro Fr _ _
                        refine SO.v rfl (opv_assign rfl) ?_
                        exact SO.nilZ fun a w h1 h2 h3 h4 h5 => PZ.of h1 h3 h5 (.cons () (.cons () (.nil ⟨EnvAll.of h2 ⟨rfl, rfl, trivial⟩, h4⟩)))
                      rintro _ _ _ _ _ _ _ _ _ _ _ _
                      refine S.to (ρ' := [(15, .int .i64 x15_4), (14, .bool true), (12, .int .i64 x12_3), (1, v1), (2, .int .i64 a2), (6, .bool false), (7, .bool t1), (8, v20), (9, .int .i64 x9_1), (10, v10_e2), (13, bp b52 0)]) ⟨rfl, rfl, rfl, rfl, rfl, rfl, rfl, rfl, rfl, rfl, rfl, trivial⟩ ?_
                      cases h
                      refine S.b6 ?_
                      refine S.b6 ?_
                      refine S.b6 ?_
                      refine S.b6 ?_
                      refine S.b6 ?_
                      refine S.b6 ?_
                      refine S.b6 ?_
                      refine S.to ?_ (hk5 () trivial)
                      exact ⟨rfl, rfl, rfl, rfl, rfl, rfl, rfl, rfl, rfl, rfl, rfl, trivial⟩
                    · replace h := cond_f b55 h
                      obtain ⟨x56, hx57, h⟩ := opt_bind h
                      rcases bool_or (x56.Kind != 0) with b58 | b58
                      · replace h := cond_t b58 h
                        obtain ⟨x59, hx60, h⟩ := opt_bind h
                        obtain ⟨t61, ht62, h⟩ := opt_bind h
                        refine S.draw' (Z := fun Q => ∀ (_ : Unit) (_ : Unit) (_ : Unit) (_ : Unit) (_ : Unit) (_ : Unit) (_ : Unit) (_ : Unit) (_ : Unit) (_ : Unit) (_ : Unit) (_ : Unit), Q [(15, .int .i64 x15_4), (14, .bool t61), (12, .int .i64 x12_3), (1, v1), (2, .int .i64 a2), (6, .bool false), (7, .bool t1), (8, v20), (9, .int .i64 x9_1), (10, v10_e2), (13, bp b52 0)] [Box b52 [.int .i64 t48.Kind, .int .i64 t48.Rights, .int .i64 t48.Obj, .int .i64 t48.Badge, .int .i64 t48.Guard, .int .i64 t48.Bits], Own 66 (ekI .u64) v20 s50, Own 45 ek_api_Cap v10_e2 j10_e2, Box b8 [u9_Slots, u9_Objs, .int .i64 t6.NS, .int .i64 t6.NO], OwnO 65 kr_ref10_Slot u9_Slots raws10 A11 t6.Slots, OwnO 58 kr_ref10_Obj u9_Objs raws14 A15 t6.Objs, F]) (T := [tS 14 (.bool x14_4), tS 10 (v10_e2), tS 15 (.int .i64 x15_4), tS 13 (bp b52 0), tE [(12, .int .i64 x12_3), (1, v1), (2, .int .i64 a2), (6, .bool false), (7, .bool t1), (8, v20), (9, .int .i64 x9_1)], tR (Box b52 [.int .i64 t48.Kind, .int .i64 t48.Rights, .int .i64 t48.Obj, .int .i64 t48.Badge, .int .i64 t48.Guard, .int .i64 t48.Bits]), tR (Own 66 (ekI .u64) v20 s50), tR (Own 45 ek_api_Cap v10_e2 j10_e2), tR (Box b8 [u9_Slots, u9_Objs, .int .i64 t6.NS, .int .i64 t6.NO]), tR (OwnO 65 kr_ref10_Slot u9_Slots raws10 A11 t6.Slots), tR (OwnO 58 kr_ref10_Obj u9_Objs raws14 A15 t6.Objs), tR (F), tS 74 (.bool x14_4), tS 75 (.bool x14_4), tS 76 (v10_e2), tS 77 (.int .i64 x15_4), tS 78 (idxp v10_e2 (x15_4.toNat * ek_api_Cap.sz)), tS 79 (idxp v10_e2 (x15_4.toNat * ek_api_Cap.sz)), tS 80 (.int .i64 x56.Kind), tS 81 (.bool (x56.Kind != 0)), tS 82 (.bool (x56.Kind != 0)), tS 83 (.agg #[.int .i64 t48.Kind, .int .i64 t48.Rights, .int .i64 t48.Obj, .int .i64 t48.Badge, .int .i64 t48.Guard, .int .i64 t48.Bits]), tS 84 (v10_e2), tS 85 (.int .i64 x15_4), tS 86 (idxp v10_e2 (x15_4.toNat * ek_api_Cap.sz)), tS 87 (.agg #[.int .i64 x59.Kind, .int .i64 x59.Rights, .int .i64 x59.Obj, .int .i64 x59.Badge, .int .i64 x59.Guard, .int .i64 x59.Bits]), tS 88 (.bool t61), tS 89 (.bool t61), tS 90 (.bool t61), tS 14 (.bool t61)]) (D := [⟨[0], [], [12]⟩, ⟨[12], [], [13]⟩, ⟨[1, 13], [], [14]⟩, ⟨[2, 13], [], [15]⟩, ⟨[13, 14, 15, 7], [], [16]⟩, ⟨[13, 16, 7], [], [17]⟩, ⟨[13, 17, 7], [], [18]⟩, ⟨[13, 18], [], [19]⟩, ⟨[13, 19], [], [20]⟩, ⟨[3, 20, 5], [], [21]⟩, ⟨[1, 20], [], [22]⟩, ⟨[2, 20], [], [23]⟩, ⟨[20, 22, 23, 7], [], [24]⟩, ⟨[20, 24, 7], [], [25]⟩, ⟨[20, 21, 25], [], [26]⟩, ⟨[13, 20, 26], [], [27]⟩, ⟨[13, 27], [], [28]⟩, ⟨[28], [0], [29]⟩]) (ini := [0, 1, 2, 3, 4, 5, 6, 7, 8, 9, 10, 11]) (fin := [2, 29, 4, 1, 3, 5, 6, 7, 8, 9, 10, 11]) (bf := [[], [0], [0, 1], [0, 1], [0, 1, 2, 3], [0, 1, 2, 3, 4], [0, 1, 2, 3, 4, 5], [0, 1, 2, 3, 4, 5, 6], [0, 1, 2, 3, 4, 5, 6, 7], [0, 1, 2, 3, 4, 5, 6, 7, 8], [0, 1, 2, 3, 4, 5, 6, 7, 8], [0, 1, 2, 3, 4, 5, 6, 7, 8], [0, 1, 2, 3, 4, 5, 6, 7, 8, 10, 11], [0, 1, 2, 3, 4, 5, 6, 7, 8, 10, 11, 12], [0, 1, 2, 3, 4, 5, 6, 7, 8, 9, 10, 11, 12, 13], [0, 1, 2, 3, 4, 5, 6, 7, 8, 9, 10, 11, 12, 13, 14], [0, 1, 2, 3, 4, 5, 6, 7, 8, 9, 10, 11, 12, 13, 14, 15], [0, 1, 2, 3, 4, 5, 6, 7, 8, 9, 10, 11, 12, 13, 14, 15, 16]]) (by kernel_rfl) (by kernel_rfl) (fun x w h1 h2 => (.cons () (.cons () (.cons () (.cons () (.cons () (.cons () (.cons () (.cons () (.cons () (.cons () (.cons () (.cons () (.nil ⟨EnvAll.of h1 ⟨rfl, rfl, rfl, rfl, rfl, rfl, rfl, rfl, rfl, rfl, rfl, trivial⟩, h2⟩)))))))))))))) (fun Q => by kernel_rfl) ⟨?_, ?_, ?_, ?_, ?_, ?_, ?_, ?_, ?_, ?_, ?_, ?_, ?_, ?_, ?_, ?_, ?_, ?_, trivial⟩ ?_
                        · rintro Fr _
                          refine SO.v rfl (opv_move rfl) ?_
                          exact SO.nilZ fun a w h1 h2 h3 h4 h5 => PZ.of h1 h3 h5 (.cons () (.cons () (.nil ⟨EnvAll.of h2 ⟨rfl, rfl, trivial⟩, h4⟩)))
                        · rintro Fr _
                          refine SO.v rfl (opv_move rfl) ?_
                          exact SO.nilZ fun a w h1 h2 h3 h4 h5 => PZ.of h1 h3 h5 (.cons () (.cons () (.nil ⟨EnvAll.of h2 ⟨rfl, rfl, trivial⟩, h4⟩)))
                        · rintro Fr _ _
                          refine SO.takeT rfl rfl rfl b55 ?_
                          refine SO.v rfl (opv_move rfl) ?_
                          exact SO.nilZ fun a w h1 h2 h3 h4 h5 => PZ.of h1 h3 h5 (.cons () (.cons () (.cons () (.nil ⟨EnvAll.of h2 ⟨rfl, rfl, rfl, trivial⟩, h4⟩))))
                        · rintro Fr _ _
                          refine SO.takeT rfl rfl rfl b55 ?_
                          refine SO.v rfl (opv_move rfl) ?_
                          exact SO.nilZ fun a w h1 h2 h3 h4 h5 => PZ.of h1 h3 h5 (.cons () (.cons () (.cons () (.nil ⟨EnvAll.of h2 ⟨rfl, rfl, rfl, trivial⟩, h4⟩))))
                        · rintro Fr _ _ _ _
                          refine SO.takeT rfl rfl rfl b55 ?_
                          refine SO.v rfl (opv_idx Try.underlying43 Try.sizeOf45 hr37 rfl rfl hx57) ?_
                          exact SO.nilZ fun a w h1 h2 h3 h4 h5 => PZ.of h1 h3 h5 (.cons () (.cons () (.cons () (.cons () (.cons () (.nil ⟨EnvAll.of h2 ⟨rfl, rfl, rfl, rfl, trivial⟩, h4⟩))))))
                        · rintro Fr _ _ _
                          refine SO.takeT rfl rfl rfl b55 ?_
                          refine SO.v rfl (opv_fieldIdx Try.underlying45 rfl Try.sizeOf3 hr37 hx57 rfl rfl) ?_
                          exact SO.nilZ fun a w h1 h2 h3 h4 h5 => PZ.of h1 h3 h5 (.cons () (.cons () (.cons () (.cons () (.nil ⟨EnvAll.of h2 ⟨rfl, rfl, rfl, trivial⟩, h4⟩)))))
                        · rintro Fr _ _ _
                          refine SO.takeT rfl rfl rfl b55 ?_
                          refine SO.loadI1 (j := 0) rfl Try.isAgg3 (Rd.head hr37) hx57 rfl rfl rfl rfl ?_
                          exact SO.nilZ fun a w h1 h2 h3 h4 h5 => PZ.of h1 h3 h5 (.cons () (.cons () (.cons () (.cons () (.nil ⟨EnvAll.of h2 ⟨rfl, rfl, rfl, trivial⟩, h4⟩)))))
                        · rintro Fr _ _
                          refine SO.takeT rfl rfl rfl b55 ?_
                          refine SO.v rfl (opv_neq rfl rfl) ?_
                          exact SO.nilZ fun a w h1 h2 h3 h4 h5 => PZ.of h1 h3 h5 (.cons () (.cons () (.cons () (.nil ⟨EnvAll.of h2 ⟨rfl, rfl, rfl, trivial⟩, h4⟩))))
                        · rintro Fr _ _
                          refine SO.takeT rfl rfl rfl b55 ?_
                          refine SO.v rfl (opv_move rfl) ?_
                          exact SO.nilZ fun a w h1 h2 h3 h4 h5 => PZ.of h1 h3 h5 (.cons () (.cons () (.cons () (.nil ⟨EnvAll.of h2 ⟨rfl, rfl, rfl, trivial⟩, h4⟩))))
                        · rintro Fr _ _ _
                          refine SO.takeT rfl rfl rfl b58 ?_
                          refine SO.loadN rfl Try.isAgg45 Try.sizeOf45 rfl rfl rfl ?_
                          exact SO.nilZ fun a w h1 h2 h3 h4 h5 => PZ.of h1 h3 h5 (.cons () (.cons () (.cons () (.cons () (.nil ⟨EnvAll.of h2 ⟨rfl, rfl, rfl, trivial⟩, h4⟩)))))
                        · rintro Fr _ _
                          refine SO.takeT rfl rfl rfl b58 ?_
                          refine SO.v rfl (opv_move rfl) ?_
                          exact SO.nilZ fun a w h1 h2 h3 h4 h5 => PZ.of h1 h3 h5 (.cons () (.cons () (.cons () (.nil ⟨EnvAll.of h2 ⟨rfl, rfl, rfl, trivial⟩, h4⟩))))
                        · rintro Fr _ _
                          refine SO.takeT rfl rfl rfl b58 ?_
                          refine SO.v rfl (opv_move rfl) ?_
                          exact SO.nilZ fun a w h1 h2 h3 h4 h5 => PZ.of h1 h3 h5 (.cons () (.cons () (.cons () (.nil ⟨EnvAll.of h2 ⟨rfl, rfl, rfl, trivial⟩, h4⟩))))
                        · rintro Fr _ _ _ _
                          refine SO.takeT rfl rfl rfl b58 ?_
                          refine SO.v rfl (opv_idx Try.underlying43 Try.sizeOf45 hr37 rfl rfl hx60) ?_
                          exact SO.nilZ fun a w h1 h2 h3 h4 h5 => PZ.of h1 h3 h5 (.cons () (.cons () (.cons () (.cons () (.cons () (.nil ⟨EnvAll.of h2 ⟨rfl, rfl, rfl, rfl, trivial⟩, h4⟩))))))
                        · rintro Fr _ _ _
                          refine SO.takeT rfl rfl rfl b58 ?_
                          refine SO.loadIN rfl Try.isAgg45 Try.sizeOf45 (Rd.head hr37) hx60 rfl rfl rfl ?_
                          exact SO.nilZ fun a w h1 h2 h3 h4 h5 => PZ.of h1 h3 h5 (.cons () (.cons () (.cons () (.cons () (.nil ⟨EnvAll.of h2 ⟨rfl, rfl, rfl, trivial⟩, h4⟩)))))
                        · rintro Fr _ _ _
                          refine SO.takeT rfl rfl rfl b58 ?_
                          refine SO.call (pre := []) rfl Try.call17 rfl rfl rfl (rights_Within.ct _ _ _ ht62) trivial ?_
                          rintro _ _ ⟨rfl, rfl⟩
                          exact SO.nilZ fun a w h1 h2 h3 h4 h5 => PZ.of h1 h3 h5 (.cons () (.cons () (.cons () (.cons () (.nil ⟨EnvAll.of h2 ⟨rfl, rfl, rfl, rfl, trivial⟩, h4⟩)))))
                        · rintro Fr _ _ _
                          refine SO.takeT rfl rfl rfl b55 ?_
                          refine SO.v rfl (opv_pick_t' b58 rfl rfl) ?_
                          exact SO.nilZ fun a w h1 h2 h3 h4 h5 => PZ.of h1 h3 h5 (.cons () (.cons () (.cons () (.cons () (.nil ⟨EnvAll.of h2 ⟨rfl, rfl, rfl, rfl, trivial⟩, h4⟩)))))
                        · rintro Fr _ _
                          refine SO.v rfl (opv_pick_f' b55 rfl rfl) ?_
                          exact SO.nilZ fun a w h1 h2 h3 h4 h5 => PZ.of h1 h3 h5 (.cons () (.cons () (.cons () (.nil ⟨EnvAll.of h2 ⟨rfl, rfl, rfl, trivial⟩, h4⟩))))
                        · rintro Fr _ _
                          refine SO.v rfl (opv_assign rfl) ?_
                          exact SO.nilZ fun a w h1 h2 h3 h4 h5 => PZ.of h1 h3 h5 (.cons () (.cons () (.nil ⟨EnvAll.of h2 ⟨rfl, rfl, trivial⟩, h4⟩)))
                        rintro _ _ _ _ _ _ _ _ _ _ _ _
                        refine S.to (ρ' := [(15, .int .i64 x15_4), (14, .bool t61), (12, .int .i64 x12_3), (1, v1), (2, .int .i64 a2), (6, .bool false), (7, .bool t1), (8, v20), (9, .int .i64 x9_1), (10, v10_e2), (13, bp b52 0)]) ⟨rfl, rfl, rfl, rfl, rfl, rfl, rfl, rfl, rfl, rfl, rfl, trivial⟩ ?_
                        cases h
                        refine S.b6 ?_
                        refine S.b6 ?_
                        refine S.b6 ?_
                        refine S.b6 ?_
                        refine S.b6 ?_
                        refine S.b6 ?_
                        refine S.b6 ?_
                        refine S.to ?_ (hk5 () trivial)
                        exact ⟨rfl, rfl, rfl, rfl, rfl, rfl, rfl, rfl, rfl, rfl, rfl, trivial⟩
                      · replace h := cond_f b58 h
                        refine S.draw' (Z := fun Q => ∀ (_ : Unit) (_ : Unit) (_ : Unit) (_ : Unit) (_ : Unit) (_ : Unit) (_ : Unit) (_ : Unit) (_ : Unit) (_ : Unit) (_ : Unit) (_ : Unit), Q [(15, .int .i64 x15_4), (14, .bool false), (12, .int .i64 x12_3), (1, v1), (2, .int .i64 a2), (6, .bool false), (7, .bool t1), (8, v20), (9, .int .i64 x9_1), (10, v10_e2), (13, bp b52 0)] [Box b52 [.int .i64 t48.Kind, .int .i64 t48.Rights, .int .i64 t48.Obj, .int .i64 t48.Badge, .int .i64 t48.Guard, .int .i64 t48.Bits], Own 66 (ekI .u64) v20 s50, Own 45 ek_api_Cap v10_e2 j10_e2, Box b8 [u9_Slots, u9_Objs, .int .i64 t6.NS, .int .i64 t6.NO], OwnO 65 kr_ref10_Slot u9_Slots raws10 A11 t6.Slots, OwnO 58 kr_ref10_Obj u9_Objs raws14 A15 t6.Objs, F]) (T := [tS 14 (.bool x14_4), tS 10 (v10_e2), tS 15 (.int .i64 x15_4), tS 13 (bp b52 0), tE [(12, .int .i64 x12_3), (1, v1), (2, .int .i64 a2), (6, .bool false), (7, .bool t1), (8, v20), (9, .int .i64 x9_1)], tR (Box b52 [.int .i64 t48.Kind, .int .i64 t48.Rights, .int .i64 t48.Obj, .int .i64 t48.Badge, .int .i64 t48.Guard, .int .i64 t48.Bits]), tR (Own 66 (ekI .u64) v20 s50), tR (Own 45 ek_api_Cap v10_e2 j10_e2), tR (Box b8 [u9_Slots, u9_Objs, .int .i64 t6.NS, .int .i64 t6.NO]), tR (OwnO 65 kr_ref10_Slot u9_Slots raws10 A11 t6.Slots), tR (OwnO 58 kr_ref10_Obj u9_Objs raws14 A15 t6.Objs), tR (F), tS 74 (.bool x14_4), tS 75 (.bool x14_4), tS 76 (v10_e2), tS 77 (.int .i64 x15_4), tS 78 (idxp v10_e2 (x15_4.toNat * ek_api_Cap.sz)), tS 79 (idxp v10_e2 (x15_4.toNat * ek_api_Cap.sz)), tS 80 (.int .i64 x56.Kind), tS 81 (.bool (x56.Kind != 0)), tS 82 (.bool (x56.Kind != 0)), tS 83 (undef), tS 84 (undef), tS 85 (undef), tS 86 (undef), tS 87 (undef), tS 88 (undef), tS 89 (.bool false), tS 90 (.bool false), tS 14 (.bool false)]) (D := [⟨[0], [], [12]⟩, ⟨[12], [], [13]⟩, ⟨[1, 13], [], [14]⟩, ⟨[2, 13], [], [15]⟩, ⟨[13, 14, 15, 7], [], [16]⟩, ⟨[13, 16, 7], [], [17]⟩, ⟨[13, 17, 7], [], [18]⟩, ⟨[13, 18], [], [19]⟩, ⟨[13, 19], [], [20]⟩, ⟨[20], [], [21]⟩, ⟨[20], [], [22]⟩, ⟨[20], [], [23]⟩, ⟨[20], [], [24]⟩, ⟨[20], [], [25]⟩, ⟨[20], [], [26]⟩, ⟨[13, 20, 26], [], [27]⟩, ⟨[13, 27], [], [28]⟩, ⟨[28], [0], [29]⟩]) (ini := [0, 1, 2, 3, 4, 5, 6, 7, 8, 9, 10, 11]) (fin := [2, 29, 4, 1, 3, 5, 6, 7, 8, 9, 10, 11]) (bf := [[], [0], [0, 1], [0, 1], [0, 1, 2, 3], [0, 1, 2, 3, 4], [0, 1, 2, 3, 4, 5], [0, 1, 2, 3, 4, 5, 6], [0, 1, 2, 3, 4, 5, 6, 7], [0, 1, 2, 3, 4, 5, 6, 7, 8], [0, 1, 2, 3, 4, 5, 6, 7, 8], [0, 1, 2, 3, 4, 5, 6, 7, 8], [0, 1, 2, 3, 4, 5, 6, 7, 8, 10, 11], [0, 1, 2, 3, 4, 5, 6, 7, 8, 10, 11, 12], [0, 1, 2, 3, 4, 5, 6, 7, 8, 9, 10, 11, 12, 13], [0, 1, 2, 3, 4, 5, 6, 7, 8, 9, 10, 11, 12, 13, 14], [0, 1, 2, 3, 4, 5, 6, 7, 8, 9, 10, 11, 12, 13, 14, 15], [0, 1, 2, 3, 4, 5, 6, 7, 8, 9, 10, 11, 12, 13, 14, 15, 16]]) (by kernel_rfl) (by kernel_rfl) (fun x w h1 h2 => (.cons () (.cons () (.cons () (.cons () (.cons () (.cons () (.cons () (.cons () (.cons () (.cons () (.cons () (.cons () (.nil ⟨EnvAll.of h1 ⟨rfl, rfl, rfl, rfl, rfl, rfl, rfl, rfl, rfl, rfl, rfl, trivial⟩, h2⟩)))))))))))))) (fun Q => by kernel_rfl) ⟨?_, ?_, ?_, ?_, ?_, ?_, ?_, ?_, ?_, ?_, ?_, ?_, ?_, ?_, ?_, ?_, ?_, ?_, trivial⟩ ?_
                        · rintro Fr _
                          refine SO.v rfl (opv_move rfl) ?_
                          exact SO.nilZ fun a w h1 h2 h3 h4 h5 => PZ.of h1 h3 h5 (.cons () (.cons () (.nil ⟨EnvAll.of h2 ⟨rfl, rfl, trivial⟩, h4⟩)))
                        · rintro Fr _
                          refine SO.v rfl (opv_move rfl) ?_
                          exact SO.nilZ fun a w h1 h2 h3 h4 h5 => PZ.of h1 h3 h5 (.cons () (.cons () (.nil ⟨EnvAll.of h2 ⟨rfl, rfl, trivial⟩, h4⟩)))
                        · rintro Fr _ _
                          refine SO.takeT rfl rfl rfl b55 ?_
                          refine SO.v rfl (opv_move rfl) ?_
                          exact SO.nilZ fun a w h1 h2 h3 h4 h5 => PZ.of h1 h3 h5 (.cons () (.cons () (.cons () (.nil ⟨EnvAll.of h2 ⟨rfl, rfl, rfl, trivial⟩, h4⟩))))
                        · rintro Fr _ _
                          refine SO.takeT rfl rfl rfl b55 ?_
                          refine SO.v rfl (opv_move rfl) ?_
                          exact SO.nilZ fun a w h1 h2 h3 h4 h5 => PZ.of h1 h3 h5 (.cons () (.cons () (.cons () (.nil ⟨EnvAll.of h2 ⟨rfl, rfl, rfl, trivial⟩, h4⟩))))
                        · rintro Fr _ _ _ _
                          refine SO.takeT rfl rfl rfl b55 ?_
                          refine SO.v rfl (opv_idx Try.underlying43 Try.sizeOf45 hr37 rfl rfl hx57) ?_
                          exact SO.nilZ fun a w h1 h2 h3 h4 h5 => PZ.of h1 h3 h5 (.cons () (.cons () (.cons () (.cons () (.cons () (.nil ⟨EnvAll.of h2 ⟨rfl, rfl, rfl, rfl, trivial⟩, h4⟩))))))
                        · rintro Fr _ _ _
                          refine SO.takeT rfl rfl rfl b55 ?_
                          refine SO.v rfl (opv_fieldIdx Try.underlying45 rfl Try.sizeOf3 hr37 hx57 rfl rfl) ?_
                          exact SO.nilZ fun a w h1 h2 h3 h4 h5 => PZ.of h1 h3 h5 (.cons () (.cons () (.cons () (.cons () (.nil ⟨EnvAll.of h2 ⟨rfl, rfl, rfl, trivial⟩, h4⟩)))))
                        · rintro Fr _ _ _
                          refine SO.takeT rfl rfl rfl b55 ?_
                          refine SO.loadI1 (j := 0) rfl Try.isAgg3 (Rd.head hr37) hx57 rfl rfl rfl rfl ?_
                          exact SO.nilZ fun a w h1 h2 h3 h4 h5 => PZ.of h1 h3 h5 (.cons () (.cons () (.cons () (.cons () (.nil ⟨EnvAll.of h2 ⟨rfl, rfl, rfl, trivial⟩, h4⟩)))))
                        · rintro Fr _ _
                          refine SO.takeT rfl rfl rfl b55 ?_
                          refine SO.v rfl (opv_neq rfl rfl) ?_
                          exact SO.nilZ fun a w h1 h2 h3 h4 h5 => PZ.of h1 h3 h5 (.cons () (.cons () (.cons () (.nil ⟨EnvAll.of h2 ⟨rfl, rfl, rfl, trivial⟩, h4⟩))))
                        · rintro Fr _ _
                          refine SO.takeT rfl rfl rfl b55 ?_
                          refine SO.v rfl (opv_move rfl) ?_
                          exact SO.nilZ fun a w h1 h2 h3 h4 h5 => PZ.of h1 h3 h5 (.cons () (.cons () (.cons () (.nil ⟨EnvAll.of h2 ⟨rfl, rfl, rfl, trivial⟩, h4⟩))))
                        · rintro Fr _
                          refine SO.passF rfl rfl rfl b58 rfl rfl ?_
                          exact SO.nilZ fun a w h1 h2 h3 h4 h5 => PZ.of h1 h3 h5 (.cons () (.cons () (.nil ⟨EnvAll.of h2 ⟨rfl, rfl, trivial⟩, h4⟩)))
                        · rintro Fr _
                          refine SO.passF rfl rfl rfl b58 rfl rfl ?_
                          exact SO.nilZ fun a w h1 h2 h3 h4 h5 => PZ.of h1 h3 h5 (.cons () (.cons () (.nil ⟨EnvAll.of h2 ⟨rfl, rfl, trivial⟩, h4⟩)))
                        · rintro Fr _
                          refine SO.passF rfl rfl rfl b58 rfl rfl ?_
                          exact SO.nilZ fun a w h1 h2 h3 h4 h5 => PZ.of h1 h3 h5 (.cons () (.cons () (.nil ⟨EnvAll.of h2 ⟨rfl, rfl, trivial⟩, h4⟩)))
                        · rintro Fr _
                          refine SO.passF rfl rfl rfl b58 rfl rfl ?_
                          exact SO.nilZ fun a w h1 h2 h3 h4 h5 => PZ.of h1 h3 h5 (.cons () (.cons () (.nil ⟨EnvAll.of h2 ⟨rfl, rfl, trivial⟩, h4⟩)))
                        · rintro Fr _
                          refine SO.passF rfl rfl rfl b58 rfl rfl ?_
                          exact SO.nilZ fun a w h1 h2 h3 h4 h5 => PZ.of h1 h3 h5 (.cons () (.cons () (.nil ⟨EnvAll.of h2 ⟨rfl, rfl, trivial⟩, h4⟩)))
                        · rintro Fr _
                          refine SO.passF rfl rfl rfl b58 rfl rfl ?_
                          exact SO.nilZ fun a w h1 h2 h3 h4 h5 => PZ.of h1 h3 h5 (.cons () (.cons () (.nil ⟨EnvAll.of h2 ⟨rfl, rfl, trivial⟩, h4⟩)))
                        · rintro Fr _ _ _
                          refine SO.takeT rfl rfl rfl b55 ?_
                          refine SO.v rfl (opv_pick_f' b58 rfl rfl) ?_
                          exact SO.nilZ fun a w h1 h2 h3 h4 h5 => PZ.of h1 h3 h5 (.cons () (.cons () (.cons () (.cons () (.nil ⟨EnvAll.of h2 ⟨rfl, rfl, rfl, rfl, trivial⟩, h4⟩)))))
                        · rintro Fr _ _
                          refine SO.v rfl (opv_pick_f' b55 rfl rfl) ?_
                          exact SO.nilZ fun a w h1 h2 h3 h4 h5 => PZ.of h1 h3 h5 (.cons () (.cons () (.cons () (.nil ⟨EnvAll.of h2 ⟨rfl, rfl, rfl, trivial⟩, h4⟩))))
                        · rintro Fr _ _
                          refine SO.v rfl (opv_assign rfl) ?_
                          exact SO.nilZ fun a w h1 h2 h3 h4 h5 => PZ.of h1 h3 h5 (.cons () (.cons () (.nil ⟨EnvAll.of h2 ⟨rfl, rfl, trivial⟩, h4⟩)))
                        rintro _ _ _ _ _ _ _ _ _ _ _ _
                        refine S.to (ρ' := [(15, .int .i64 x15_4), (14, .bool false), (12, .int .i64 x12_3), (1, v1), (2, .int .i64 a2), (6, .bool false), (7, .bool t1), (8, v20), (9, .int .i64 x9_1), (10, v10_e2), (13, bp b52 0)]) ⟨rfl, rfl, rfl, rfl, rfl, rfl, rfl, rfl, rfl, rfl, rfl, trivial⟩ ?_
                        cases h
                        refine S.b6 ?_
                        refine S.b6 ?_
                        refine S.b6 ?_
                        refine S.b6 ?_
                        refine S.b6 ?_
                        refine S.b6 ?_
                        refine S.b6 ?_
                        refine S.to ?_ (hk5 () trivial)
                        exact ⟨rfl, rfl, rfl, rfl, rfl, rfl, rfl, rfl, rfl, rfl, rfl, trivial⟩
                  rintro _ -
                  replace h := hJ5
                  refine S.inBlock ?_
                  refine S.region ?_
                  refine SO.v rfl (opv_move rfl) ?_
                  refine SO.v rfl (opv_add rfl rfl) ?_
                  refine SO.v rfl (opv_assign rfl) ?_
                  refine SO.nil ?_
                  refine S.b6 ?_
                  refine S.b6 ?_
                  refine S.b6 ?_
                  refine S.b6 ?_
                  refine S.b6 ?_
                  refine S.b6 ?_
                  refine S.b6 ?_
                  refine S.to ?_ (ih4 ((w64 (x15_4 + 1), j14_5), ()) h)
                  exact ⟨rfl, rfl, rfl, rfl, rfl, rfl, rfl, rfl, rfl, rfl, rfl, trivial⟩
                · replace h := cond_f b54 h
                  refine S.condF rfl b54 ?_
                  refine S.exit rfl ?_
                  cases h
                  refine S.b6 ?_
                  refine S.b6 ?_
                  refine S.b6 ?_
                  refine S.b6 ?_
                  refine S.b6 ?_
                  refine S.b6 ?_
                  refine S.b6 ?_
                  refine S.to ?_ (hK4 ())
                  exact ⟨rfl, rfl, rfl, rfl, rfl, rfl, rfl, rfl, rfl, trivial⟩
              rintro _
              refine S.seq ?_
              refine S.region ?_
              refine SO.v rfl (opv_move rfl) ?_
              refine SO.v rfl (opv_not rfl) ?_
              refine SO.nil ?_
              rcases bool_or (!j14_e4) with b63 | b63
              · replace h := cond_t b63 h
                refine S.condT rfl b63 ?_
                refine S.seq ?_
                refine S.region ?_
                refine SO.v rfl (opv_assign rfl) ?_
                refine SO.nil ?_
                refine S.to (ρ' := [(6, .bool false)]) ⟨rfl, trivial⟩ ?_
                cases h
                replace h := hK3.1 _ rfl
                cases h
                replace h := hK1.1 _ rfl
                cases h
                refine S.b4 ?_
                refine S.closeR ?_
                refine S.b5 ?_
                refine S.closeR ?_
                refine S.drop ?_
                refine S.drop ?_
                refine S.drop ?_
                refine S.drop ?_
                refine S.drop ?_
                refine S.drop ?_
                exact S.ret1 Try.func4 rfl rfl (fun w hs hk => hR w _ _ ⟨rfl, rfl⟩ hs hk)
              · replace h := cond_f b63 h
                refine S.condF rfl b63 ?_
                refine S.skip ?_
                refine S.inBlock ?_
                refine S.region ?_
                refine SO.v rfl (opv_move rfl) ?_
                refine SO.v rfl (opv_add rfl rfl) ?_
                refine SO.v rfl (opv_assign rfl) ?_
                refine SO.nil ?_
                refine S.drop ?_
                refine S.b5 ?_
                refine S.b5 ?_
                refine S.b5 ?_
                refine S.b5 ?_
                refine S.b5 ?_
                refine S.b5 ?_
                refine S.to ?_ (ih3 ((w64 (x12_3 + 1), s50), ()) h)
                exact ⟨rfl, rfl, rfl, rfl, rfl, rfl, rfl, rfl, trivial⟩
          · replace h := cond_f b47 h
            refine S.condF rfl b47 ?_
            refine S.exit rfl ?_
            cases h
            refine S.b5 ?_
            refine S.b5 ?_
            refine S.b5 ?_
            refine S.b5 ?_
            refine S.b5 ?_
            refine S.b5 ?_
            refine S.to ?_ (hK3.2 qv20_3 () rfl)
            exact ⟨rfl, rfl, rfl, rfl, rfl, rfl, trivial⟩
        refine ⟨fun r' e' => ?_, ?_⟩
        · subst e'
          have h9 := Brk.of_ret h
          exact h9
        rintro qv20_e3 _ e'
        subst e'
        replace h := Brk.of_nx h
        refine S.rd fun hr64 => ?_
        refine S.inBlock ?_
        refine S.region ?_
        refine SO.v rfl (opv_move rfl) ?_
        refine SO.v rfl (opv_add rfl rfl) ?_
        refine SO.v rfl (opv_assign rfl) ?_
        refine SO.nil ?_
        refine S.b1 ?_
        refine S.drop ?_
        refine S.b4 ?_
        refine S.b4 ?_
        refine S.b4 ?_
        refine S.b4 ?_
        refine S.b4 ?_
        refine S.to ?_ (ih1 ((w64 (x9_1 + 1), qv20_e3), ()) h)
        exact ⟨rfl, rfl, rfl, rfl, rfl, rfl, trivial⟩
      · replace h := cond_f b23 h
        refine S.condF rfl b23 ?_
        refine S.exit rfl ?_
        cases h
        refine S.b4 ?_
        refine S.b4 ?_
        refine S.b4 ?_
        refine S.b4 ?_
        refine S.b4 ?_
        refine S.to ?_ (hK1.2 qv20_1 () rfl)
        exact ⟨rfl, rfl, rfl, rfl, trivial⟩
    refine ⟨fun r' e' => ?_, ?_⟩
    · subst e'
      have h9 := Brk.of_ret h
      exact h9
    rintro qv20_e1 _ e'
    subst e'
    replace h := Brk.of_nx h
    refine S.rd fun hr65 => ?_
    refine S.seq ?_
    refine S.seq ?_
    refine S.region ?_
    refine SO.v rfl (opv_assign rfl) ?_
    refine SO.nil ?_
    obtain ⟨o6, hl6, h⟩ := opt_bind h
    refine S.b4 ?_
    refine S.b4 ?_
    refine S.b4 ?_
    refine S.b4 ?_
    refine S.b4 ?_
    refine S.to (ρ' := [(16, .int .i64 0), (2, .int .i64 a2), (6, .bool false), (7, .bool t1), (8, v20)]) ⟨rfl, rfl, rfl, rfl, rfl, trivial⟩ ?_
    refine S.forloop (X := (Int × (List Int)) × Unit) (O := Brk Bool (List Int)) (fun m x => law12_DeriveLess.l6 a2 t1 m x.1) (fun x => match x with | ((x16_6, qv20_6), _) => [(16, .int .i64 x16_6), (2, .int .i64 a2), (6, .bool false), (7, .bool t1), (8, v20)]) (fun x => match x with | ((x16_6, qv20_6), _) => [Own 66 (ekI .u64) v20 qv20_6, Box b8 [u9_Slots, u9_Objs, .int .i64 t6.NS, .int .i64 t6.NO], OwnO 65 kr_ref10_Slot u9_Slots raws10 A11 t6.Slots, OwnO 58 kr_ref10_Obj u9_Objs raws14 A15 t6.Objs, F]) (fun Sk o' => (∀ r', o' = Brk.ret r' → some r' = some r0) ∧ ∀ qv20_e6 : (List Int), ∀ _ : Unit, o' = Brk.nx qv20_e6 → Sk [(6, .bool false)] [Own 66 (ekI .u64) v20 qv20_e6, Box b8 [u9_Slots, u9_Objs, .int .i64 t6.NS, .int .i64 t6.NO], OwnO 65 kr_ref10_Slot u9_Slots raws10 A11 t6.Slots, OwnO 58 kr_ref10_Obj u9_Objs raws14 A15 t6.Objs, F]) (fun _ => rfl) ?_ (m := k) (x := ((0, qv20_e1), ())) hl6 ?_
    · clear h hl6
      intro k x o_6 h hK6 ih6
      obtain ⟨⟨x16_6, qv20_6⟩, _⟩ := x
      replace h : law12_DeriveLess.l6 a2 t1 (k + 1) (x16_6, qv20_6) = some o_6 := h
      first | rw [law12_DeriveLess.l6] at h | unfold law12_DeriveLess.l6 at h
      refine S.rd fun hr66 => ?_
      refine S.seq ?_
      refine S.seq ?_
      refine S.region ?_
      refine SO.v rfl (opv_move rfl) ?_
      refine SO.v rfl (opv_lss rfl rfl) ?_
      refine SO.nil ?_
      rcases bool_or (decide (x16_6 < 97)) with b67 | b67
      · replace h := cond_t b67 h
        refine S.condT rfl b67 ?_
        refine S.skip ?_
        refine S.seq ?_
        refine S.block ?_
        refine S.seq ?_
        refine S.region ?_
        refine SO.v rfl (opv_move rfl) ?_
        refine SO.v rfl (opv_iface Try.underlying27 rfl rfl) ?_
        refine SO.v rfl (opv_move rfl) ?_
        obtain ⟨⟨⟨t68, t69⟩, s71⟩, ht70, h⟩ := opt_bind h
        refine SO.call (pre := [(plainV v20).rep _]) rfl Try.call18 rfl rfl rfl (derive_One.ct (plainV v20) _ _ _ _ _ _ ht70) trivial ?_
        rintro _ _ ⟨rfl, rfl⟩
        refine headEq (plainV_rep _ _) ?_
        refine SO.rd fun hr72 => ?_
        refine SO.v rfl (opv_move rfl) ?_
        refine SO.v rfl (opv_extract rfl rfl) ?_
        refine SO.v rfl (opv_extract rfl rfl) ?_
        refine SO.v rfl (opv_assign rfl) ?_
        refine SO.v rfl (opv_assign rfl) ?_
        refine SO.nil ?_
        refine S.to (ρ' := [(16, .int .i64 x16_6), (2, .int .i64 a2), (6, .bool false), (7, .bool t1), (8, v20), (17, .bool t68), (18, errV 50 t69)]) ⟨rfl, rfl, rfl, rfl, rfl, rfl, rfl, trivial⟩ ?_
        refine S.seq ?_
        refine S.seq ?_
        refine S.region ?_
        refine SO.v rfl (opv_move rfl) ?_
        refine SO.v rfl (opv_neqN (e := t69) Try.underlying32 rfl) ?_
        refine SO.nil ?_
        rcases bool_or t69.isSome with b73 | b73
        · replace h := cond_t b73 h
          refine S.condT rfl b73 ?_
          refine S.seq ?_
          refine S.region ?_
          refine SO.v rfl (opv_move rfl) ?_
          refine SO.v rfl (opv_move rfl) ?_
          refine SO.cut 4 111 (.bool (t1 && (t69 == some 2))) [Own 66 (ekI .u64) v20 s71, Box b8 [u9_Slots, u9_Objs, .int .i64 t6.NS, .int .i64 t6.NO], OwnO 65 kr_ref10_Slot u9_Slots raws10 A11 t6.Slots, OwnO 58 kr_ref10_Obj u9_Objs raws14 A15 t6.Objs, F] (fun l2 hk2 => ?_) ?_
          · rcases bool_or t1 with b74 | b74
            · refine SO.takeT rfl rfl rfl b74 ?_
              refine SO.v rfl (opv_move rfl) ?_
              refine SO.takeT rfl rfl rfl b74 ?_
              refine SO.v rfl (opv_iface Try.underlying50 rfl rfl) ?_
              refine SO.takeT rfl rfl rfl b74 ?_
              refine SO.v rfl (opv_eqlE (e := t69) (c := 2) Try.underlying32 Try.underlying50 inf50 rfl rfl rfl) ?_
              refine SO.v rfl (opv_pick_t' b74 rfl rfl) ?_
              refine SO.b4 ?_
              refine SO.b4 ?_
              refine SO.b4 ?_
              refine SO.b4 ?_
              refine SO.b4 ?_
              exact hk2.fitc (m := 4) rfl (and_t b74) rfl
            · refine SO.passF rfl rfl rfl b74 rfl rfl ?_
              refine SO.passF rfl rfl rfl b74 rfl rfl ?_
              refine SO.passF rfl rfl rfl b74 rfl rfl ?_
              refine SO.v rfl (opv_pick_f' b74 rfl rfl) ?_
              refine SO.b4 ?_
              refine SO.b4 ?_
              refine SO.b4 ?_
              refine SO.b4 ?_
              refine SO.b4 ?_
              exact hk2.fitc (m := 4) rfl (and_f b74) rfl
          refine SO.v rfl (opv_move rfl) ?_
          refine SO.cut 7 119 (.bool ((t1 && (t69 == some 2)) && ((decide (a2 < 0)) || (decide (95 < a2))))) [Own 66 (ekI .u64) v20 s71, Box b8 [u9_Slots, u9_Objs, .int .i64 t6.NS, .int .i64 t6.NO], OwnO 65 kr_ref10_Slot u9_Slots raws10 A11 t6.Slots, OwnO 58 kr_ref10_Obj u9_Objs raws14 A15 t6.Objs, F] (fun l2 hk2 => ?_) ?_
          · rcases bool_or (t1 && (t69 == some 2)) with b75 | b75
            · refine SO.takeT rfl rfl rfl b75 ?_
              refine SO.v rfl (opv_move rfl) ?_
              refine SO.takeT rfl rfl rfl b75 ?_
              refine SO.v rfl (opv_lss rfl rfl) ?_
              refine SO.takeT rfl rfl rfl b75 ?_
              refine SO.v rfl (opv_move rfl) ?_
              refine SO.cut 3 118 (.bool ((decide (a2 < 0)) || (decide (95 < a2)))) [Own 66 (ekI .u64) v20 s71, Box b8 [u9_Slots, u9_Objs, .int .i64 t6.NS, .int .i64 t6.NO], OwnO 65 kr_ref10_Slot u9_Slots raws10 A11 t6.Slots, OwnO 58 kr_ref10_Obj u9_Objs raws14 A15 t6.Objs, F] (fun l2 hk2 => ?_) ?_
              · rcases bool_or (decide (a2 < 0)) with b76 | b76
                · refine SO.passF rfl rfl rfl b76 rfl rfl ?_
                  refine SO.passF rfl rfl rfl b76 rfl rfl ?_
                  refine SO.takeT rfl rfl rfl b75 ?_
                  refine SO.v rfl (opv_pick_t' b76 rfl rfl) ?_
                  refine SO.b4 ?_
                  refine SO.b4 ?_
                  refine SO.b4 ?_
                  refine SO.b4 ?_
                  refine SO.b4 ?_
                  exact hk2.fitc (m := 3) rfl (or_t b76) rfl
                · refine SO.takeT rfl rfl rfl b76 ?_
                  refine SO.v rfl (opv_move rfl) ?_
                  refine SO.takeT rfl rfl rfl b76 ?_
                  refine SO.v rfl (opv_gtr rfl rfl) ?_
                  refine SO.takeT rfl rfl rfl b75 ?_
                  refine SO.v rfl (opv_pick_f' b76 rfl rfl) ?_
                  refine SO.b4 ?_
                  refine SO.b4 ?_
                  refine SO.b4 ?_
                  refine SO.b4 ?_
                  refine SO.b4 ?_
                  exact hk2.fitc (m := 3) rfl (or_f b76) rfl
              refine SO.v rfl (opv_pick_t' b75 rfl rfl) ?_
              refine SO.b4 ?_
              refine SO.b4 ?_
              refine SO.b4 ?_
              refine SO.b4 ?_
              refine SO.b4 ?_
              exact hk2.fitc (m := 5) rfl (and_t b75) rfl
            · refine SO.passF rfl rfl rfl b75 rfl rfl ?_
              refine SO.passF rfl rfl rfl b75 rfl rfl ?_
              refine SO.passF rfl rfl rfl b75 rfl rfl ?_
              refine SO.pass_undef rfl rfl rfl rfl ?_
              refine SO.pass_undef rfl rfl rfl rfl ?_
              refine SO.passF rfl rfl rfl b75 rfl rfl ?_
              refine SO.v rfl (opv_pick_f' b75 rfl rfl) ?_
              refine SO.b4 ?_
              refine SO.b4 ?_
              refine SO.b4 ?_
              refine SO.b4 ?_
              refine SO.b4 ?_
              exact hk2.fitc (m := 7) rfl (and_f b75) rfl
          refine SO.v rfl (opv_assign rfl) ?_
          refine SO.nil ?_
          refine S.to (ρ' := [(6, .bool ((t1 && (t69 == some 2)) && ((decide (a2 < 0)) || (decide (95 < a2)))))]) ⟨rfl, trivial⟩ ?_
          cases h
          replace h := hK6.1 _ rfl
          cases h
          refine S.b2 ?_
          refine S.closeR ?_
          refine S.b3 ?_
          refine S.closeR ?_
          refine S.drop ?_
          refine S.drop ?_
          refine S.drop ?_
          refine S.drop ?_
          exact S.ret1 Try.func4 rfl rfl (fun w hs hk => hR w _ _ ⟨rfl, rfl⟩ hs hk)
        · replace h := cond_f b73 h
          refine S.condF rfl b73 ?_
          refine S.skip ?_
          refine S.seq ?_
          refine S.region ?_
          refine SO.v rfl (opv_move rfl) ?_
          refine SO.v rfl (opv_not rfl) ?_
          refine SO.nil ?_
          rcases bool_or (!t68) with b77 | b77
          · replace h := cond_t b77 h
            refine S.condT rfl b77 ?_
            refine S.seq ?_
            refine S.region ?_
            refine SO.v rfl (opv_move rfl) ?_
            refine SO.v rfl (opv_assign rfl) ?_
            refine SO.nil ?_
            refine S.to (ρ' := [(6, .bool t1)]) ⟨rfl, trivial⟩ ?_
            cases h
            replace h := hK6.1 _ rfl
            cases h
            refine S.b2 ?_
            refine S.closeR ?_
            refine S.b3 ?_
            refine S.closeR ?_
            refine S.drop ?_
            refine S.drop ?_
            refine S.drop ?_
            refine S.drop ?_
            exact S.ret1 Try.func4 rfl rfl (fun w hs hk => hR w _ _ ⟨rfl, rfl⟩ hs hk)
          · replace h := cond_f b77 h
            refine S.condF rfl b77 ?_
            refine S.skip ?_
            refine S.inBlock ?_
            refine S.region ?_
            refine SO.v rfl (opv_move rfl) ?_
            refine SO.v rfl (opv_add rfl rfl) ?_
            refine SO.v rfl (opv_assign rfl) ?_
            refine SO.nil ?_
            refine S.to (ρ' := [(16, .int .i64 (w64 (x16_6 + 1))), (2, .int .i64 a2), (6, .bool false), (7, .bool t1), (8, v20)]) ⟨rfl, rfl, rfl, rfl, rfl, trivial⟩ ?_
            refine S.b4 ?_
            refine S.b4 ?_
            refine S.b4 ?_
            refine S.b4 ?_
            refine S.b4 ?_
            refine S.to ?_ (ih6 ((w64 (x16_6 + 1), s71), ()) h)
            exact ⟨rfl, rfl, rfl, rfl, rfl, trivial⟩
      · replace h := cond_f b67 h
        refine S.condF rfl b67 ?_
        refine S.exit rfl ?_
        cases h
        refine S.b4 ?_
        refine S.b4 ?_
        refine S.b4 ?_
        refine S.b4 ?_
        refine S.b4 ?_
        refine S.to ?_ (hK6.2 qv20_6 () rfl)
        exact ⟨rfl, trivial⟩
    refine ⟨fun r' e' => ?_, ?_⟩
    · subst e'
      have h9 := Brk.of_ret h
      exact h9
    rintro qv20_e6 _ e'
    subst e'
    replace h := Brk.of_nx h
    refine S.rd fun hr78 => ?_
    refine S.seq ?_
    refine S.region ?_
    refine SO.v rfl (opv_assign rfl) ?_
    refine SO.nil ?_
    cases h
    refine S.b2 ?_
    refine S.closeR ?_
    refine S.b3 ?_
    refine S.closeR ?_
    refine S.drop ?_
    refine S.drop ?_
    refine S.drop ?_
    refine S.drop ?_
    exact S.ret1 Try.func4 rfl rfl (fun w hs hk => hR w _ _ ⟨rfl, rfl⟩ hs hk)
end Go.Proofs
