/- What the functions that EndpOnce reaches come to, and that they do. On no condition. -/
import Derived.Test.YtoccfjmgbcbbkaaFnEndpOnce0
set_option linter.all false
namespace Go.Proofs
open Go.Sl Go.RowKit
/-! 8 (*padstone/padstoneref10.State).Words -/
def ref10_State_Words.l2 (x4_1 : Int) (x11 : ref10_Slot) : Nat → (Int × (List Int)) → Option ((List Int))
  | 0, _ => none
  | k + 1, (x6_2, qv5_2) => bif decide (x6_2 < (x11.Kids.length : Int)) then ((at_ x11.Kids x6_2).bind fun x30 => (bif x6_2 == 0 then ((at_ qv5_2 (w64 ((w64 (5 * x4_1)) + 2))).bind fun x33 => some (qv5_2.set (w64 ((w64 (5 * x4_1)) + 2)).toNat (wu64 (w64 (x30 + 1))))) else ((at_ x11.Kids (w64 (x6_2 - 1))).bind fun x36 => (at_ qv5_2 (w64 ((w64 (5 * x30)) + 4))).bind fun x38 => some (qv5_2.set (w64 ((w64 (5 * x30)) + 4)).toNat (wu64 (w64 (x36 + 1)))))).bind fun qv5_3 => bif decide ((w64 (x6_2 + 1)) < (x11.Kids.length : Int)) then ((at_ x11.Kids (w64 (x6_2 + 1))).bind fun x43 => (at_ qv5_3 (w64 ((w64 (5 * x30)) + 3))).bind fun x45 => ref10_State_Words.l2 x4_1 x11 k (w64 (x6_2 + 1), qv5_3.set (w64 ((w64 (5 * x30)) + 3)).toNat (wu64 (w64 (x43 + 1))))) else (ref10_State_Words.l2 x4_1 x11 k (w64 (x6_2 + 1), qv5_3))) else (some qv5_2)
def ref10_State_Words.l1 (a0 : ref10_State) : Nat → (Int × (List Int)) → Option ((List Int))
  | 0, _ => none
  | k + 1, (x4_1, qv5_1) => bif decide (x4_1 < 96) then ((at_ a0.Slots x4_1).bind fun x11 => (ref01_Word.f x11.Cap).bind fun t20 => (at_ qv5_1 (w64 (5 * x4_1))).bind fun x22 => (at_ (qv5_1.set (w64 (5 * x4_1)).toNat t20) (w64 ((w64 (5 * x4_1)) + 1))).bind fun x25 => (ref10_State_Words.l2 x4_1 x11 k (0, (qv5_1.set (w64 (5 * x4_1)).toNat t20).set (w64 ((w64 (5 * x4_1)) + 1)).toNat (wu64 (w64 (x11.Parent + 1))))).bind fun qv5_e2 => ref10_State_Words.l1 a0 k (w64 (x4_1 + 1), qv5_e2)) else (some qv5_1)
def ref10_State_Words.l6 (x8_4 : Int) (x52 : ref10_Obj) : Nat → (Int × (List Int)) → Option ((List Int))
  | 0, _ => none
  | k + 1, (x11_6, qv5_6) => bif decide (x11_6 < 4) then ((A4.get x52.Pages x11_6).bind fun x123 => bif decide (0 ≤ x123) then ((A4.get x52.Pages x11_6).bind fun x126 => (A4.get x52.Right x11_6).bind fun x128 => (at_ qv5_6 (w64 ((w64 ((w64 (480 + (w64 (8 * x8_4)))) + 1)) + x11_6))).bind fun x130 => ref10_State_Words.l6 x8_4 x52 k (w64 (x11_6 + 1), qv5_6.set (w64 ((w64 ((w64 (480 + (w64 (8 * x8_4)))) + 1)) + x11_6)).toNat (wu64 (w64 ((w64 (8 * (w64 (x126 + 1)))) + x128))))) else (ref10_State_Words.l6 x8_4 x52 k (w64 (x11_6 + 1), qv5_6))) else (some qv5_6)
def ref10_State_Words.l7 (x8_4 : Int) (x52 : ref10_Obj) : Nat → (Int × (List Int)) → Option ((List Int))
  | 0, _ => none
  | k + 1, (x12_7, qv5_7) => bif decide (x12_7 < (x52.Queue.length : Int)) then ((at_ x52.Queue x12_7).bind fun x148 => (bif x12_7 == 0 then ((at_ qv5_7 (w64 ((w64 (480 + (w64 (8 * x8_4)))) + 2))).bind fun x151 => some (qv5_7.set (w64 ((w64 (480 + (w64 (8 * x8_4)))) + 2)).toNat (wu64 (w64 (x148 + 1))))) else (some qv5_7)).bind fun qv5_8 => bif decide ((w64 (x12_7 + 1)) < (x52.Queue.length : Int)) then ((at_ x52.Queue (w64 (x12_7 + 1))).bind fun x156 => (at_ qv5_8 (w64 ((w64 (480 + (w64 (8 * x148)))) + 2))).bind fun x158 => ref10_State_Words.l7 x8_4 x52 k (w64 (x12_7 + 1), qv5_8.set (w64 ((w64 (480 + (w64 (8 * x148)))) + 2)).toNat (wu64 (w64 (x156 + 1))))) else ((at_ qv5_8 (w64 ((w64 (480 + (w64 (8 * x8_4)))) + 3))).bind fun x161 => ref10_State_Words.l7 x8_4 x52 k (w64 (x12_7 + 1), qv5_8.set (w64 ((w64 (480 + (w64 (8 * x8_4)))) + 3)).toNat (wu64 (w64 (x148 + 1)))))) else (some qv5_7)
def ref10_State_Words.l4 (a0 : ref10_State) : Nat → (Int × (List Int)) → Option ((List Int))
  | 0, _ => none
  | k + 1, (x8_4, qv5_4) => bif decide (x8_4 < 32) then ((at_ a0.Objs x8_4).bind fun x52 => (at_ qv5_4 (w64 (480 + (w64 (8 * x8_4))))).bind fun x61 => (bif x52.Kind == 1 then ((at_ (qv5_4.set (w64 (480 + (w64 (8 * x8_4)))).toNat (wu64 x52.Kind)) (w64 ((w64 (480 + (w64 (8 * x8_4)))) + 1))).bind fun x65 => (at_ ((qv5_4.set (w64 (480 + (w64 (8 * x8_4)))).toNat (wu64 x52.Kind)).set (w64 ((w64 (480 + (w64 (8 * x8_4)))) + 1)).toNat (wu64 x52.Size)) (w64 ((w64 (480 + (w64 (8 * x8_4)))) + 2))).bind fun x68 => some (((qv5_4.set (w64 (480 + (w64 (8 * x8_4)))).toNat (wu64 x52.Kind)).set (w64 ((w64 (480 + (w64 (8 * x8_4)))) + 1)).toNat (wu64 x52.Size)).set (w64 ((w64 (480 + (w64 (8 * x8_4)))) + 2)).toNat (wu64 x52.Used))) else (bif x52.Kind == 2 then ((at_ (qv5_4.set (w64 (480 + (w64 (8 * x8_4)))).toNat (wu64 x52.Kind)) (w64 ((w64 (480 + (w64 (8 * x8_4)))) + 1))).bind fun x72 => (at_ ((qv5_4.set (w64 (480 + (w64 (8 * x8_4)))).toNat (wu64 x52.Kind)).set (w64 ((w64 (480 + (w64 (8 * x8_4)))) + 1)).toNat (wu64 x52.First)) (w64 ((w64 (480 + (w64 (8 * x8_4)))) + 2))).bind fun x75 => some (((qv5_4.set (w64 (480 + (w64 (8 * x8_4)))).toNat (wu64 x52.Kind)).set (w64 ((w64 (480 + (w64 (8 * x8_4)))) + 1)).toNat (wu64 x52.First)).set (w64 ((w64 (480 + (w64 (8 * x8_4)))) + 2)).toNat (wu64 x52.Radix))) else (bif x52.Kind == 3 then ((at_ (qv5_4.set (w64 (480 + (w64 (8 * x8_4)))).toNat (wu64 x52.Kind)) (w64 ((w64 (480 + (w64 (8 * x8_4)))) + 1))).bind fun x79 => some ((qv5_4.set (w64 (480 + (w64 (8 * x8_4)))).toNat (wu64 x52.Kind)).set (w64 ((w64 (480 + (w64 (8 * x8_4)))) + 1)).toNat (wu64 x52.Wait))) else (bif x52.Kind == 4 then ((at_ (qv5_4.set (w64 (480 + (w64 (8 * x8_4)))).toNat (wu64 x52.Kind)) (w64 ((w64 (480 + (w64 (8 * x8_4)))) + 1))).bind fun x83 => some ((qv5_4.set (w64 (480 + (w64 (8 * x8_4)))).toNat (wu64 x52.Kind)).set (w64 ((w64 (480 + (w64 (8 * x8_4)))) + 1)).toNat (wu64 x52.Word))) else (bif x52.Kind == 5 then ((at_ (qv5_4.set (w64 (480 + (w64 (8 * x8_4)))).toNat (wu64 x52.Kind)) (w64 ((w64 (480 + (w64 (8 * x8_4)))) + 1))).bind fun x87 => (at_ ((qv5_4.set (w64 (480 + (w64 (8 * x8_4)))).toNat (wu64 x52.Kind)).set (w64 ((w64 (480 + (w64 (8 * x8_4)))) + 1)).toNat (wu64 x52.State)) (w64 ((w64 (480 + (w64 (8 * x8_4)))) + 2))).bind fun x90 => (at_ ((qv5_4.set (w64 (480 + (w64 (8 * x8_4)))).toNat (wu64 x52.Kind)).set (w64 ((w64 (480 + (w64 (8 * x8_4)))) + 1)).toNat (wu64 x52.State)) (w64 ((w64 (480 + (w64 (8 * x8_4)))) + 2))).bind fun x92 => (at_ (((qv5_4.set (w64 (480 + (w64 (8 * x8_4)))).toNat (wu64 x52.Kind)).set (w64 ((w64 (480 + (w64 (8 * x8_4)))) + 1)).toNat (wu64 x52.State)).set (w64 ((w64 (480 + (w64 (8 * x8_4)))) + 2)).toNat (wu64 (x90 + (wu64 (w64 (x52.Owing + 1)))))) (w64 ((w64 (480 + (w64 (8 * x8_4)))) + 3))).bind fun x96 => (at_ ((((qv5_4.set (w64 (480 + (w64 (8 * x8_4)))).toNat (wu64 x52.Kind)).set (w64 ((w64 (480 + (w64 (8 * x8_4)))) + 1)).toNat (wu64 x52.State)).set (w64 ((w64 (480 + (w64 (8 * x8_4)))) + 2)).toNat (wu64 (x90 + (wu64 (w64 (x52.Owing + 1)))))).set (w64 ((w64 (480 + (w64 (8 * x8_4)))) + 3)).toNat (wu64 x52.Word)) (w64 ((w64 (480 + (w64 (8 * x8_4)))) + 4))).bind fun x99 => (at_ (((((qv5_4.set (w64 (480 + (w64 (8 * x8_4)))).toNat (wu64 x52.Kind)).set (w64 ((w64 (480 + (w64 (8 * x8_4)))) + 1)).toNat (wu64 x52.State)).set (w64 ((w64 (480 + (w64 (8 * x8_4)))) + 2)).toNat (wu64 (x90 + (wu64 (w64 (x52.Owing + 1)))))).set (w64 ((w64 (480 + (w64 (8 * x8_4)))) + 3)).toNat (wu64 x52.Word)).set (w64 ((w64 (480 + (w64 (8 * x8_4)))) + 4)).toNat (wu64 x52.Badge)) (w64 ((w64 (480 + (w64 (8 * x8_4)))) + 5))).bind fun x102 => (at_ ((((((qv5_4.set (w64 (480 + (w64 (8 * x8_4)))).toNat (wu64 x52.Kind)).set (w64 ((w64 (480 + (w64 (8 * x8_4)))) + 1)).toNat (wu64 x52.State)).set (w64 ((w64 (480 + (w64 (8 * x8_4)))) + 2)).toNat (wu64 (x90 + (wu64 (w64 (x52.Owing + 1)))))).set (w64 ((w64 (480 + (w64 (8 * x8_4)))) + 3)).toNat (wu64 x52.Word)).set (w64 ((w64 (480 + (w64 (8 * x8_4)))) + 4)).toNat (wu64 x52.Badge)).set (w64 ((w64 (480 + (w64 (8 * x8_4)))) + 5)).toNat (wu64 (w64 (x52.Prio + (w64 (256 * (w64 (x52.On + 1)))))))) (w64 ((w64 (480 + (w64 (8 * x8_4)))) + 6))).bind fun x105 => (ref01_Word.f x52.Root).bind fun t108 => (at_ (((((((qv5_4.set (w64 (480 + (w64 (8 * x8_4)))).toNat (wu64 x52.Kind)).set (w64 ((w64 (480 + (w64 (8 * x8_4)))) + 1)).toNat (wu64 x52.State)).set (w64 ((w64 (480 + (w64 (8 * x8_4)))) + 2)).toNat (wu64 (x90 + (wu64 (w64 (x52.Owing + 1)))))).set (w64 ((w64 (480 + (w64 (8 * x8_4)))) + 3)).toNat (wu64 x52.Word)).set (w64 ((w64 (480 + (w64 (8 * x8_4)))) + 4)).toNat (wu64 x52.Badge)).set (w64 ((w64 (480 + (w64 (8 * x8_4)))) + 5)).toNat (wu64 (w64 (x52.Prio + (w64 (256 * (w64 (x52.On + 1)))))))).set (w64 ((w64 (480 + (w64 (8 * x8_4)))) + 6)).toNat (wu64 (w64 (x52.Owes + 1)))) (w64 ((w64 (480 + (w64 (8 * x8_4)))) + 7))).bind fun x110 => some ((((((((qv5_4.set (w64 (480 + (w64 (8 * x8_4)))).toNat (wu64 x52.Kind)).set (w64 ((w64 (480 + (w64 (8 * x8_4)))) + 1)).toNat (wu64 x52.State)).set (w64 ((w64 (480 + (w64 (8 * x8_4)))) + 2)).toNat (wu64 (x90 + (wu64 (w64 (x52.Owing + 1)))))).set (w64 ((w64 (480 + (w64 (8 * x8_4)))) + 3)).toNat (wu64 x52.Word)).set (w64 ((w64 (480 + (w64 (8 * x8_4)))) + 4)).toNat (wu64 x52.Badge)).set (w64 ((w64 (480 + (w64 (8 * x8_4)))) + 5)).toNat (wu64 (w64 (x52.Prio + (w64 (256 * (w64 (x52.On + 1)))))))).set (w64 ((w64 (480 + (w64 (8 * x8_4)))) + 6)).toNat (wu64 (w64 (x52.Owes + 1)))).set (w64 ((w64 (480 + (w64 (8 * x8_4)))) + 7)).toNat t108)) else (bif x52.Kind == 6 then ((at_ (qv5_4.set (w64 (480 + (w64 (8 * x8_4)))).toNat (wu64 x52.Kind)) (w64 ((w64 (480 + (w64 (8 * x8_4)))) + 1))).bind fun x114 => (at_ ((qv5_4.set (w64 (480 + (w64 (8 * x8_4)))).toNat (wu64 x52.Kind)).set (w64 ((w64 (480 + (w64 (8 * x8_4)))) + 1)).toNat (wu64 (w64 (x52.In + 1)))) (w64 ((w64 (480 + (w64 (8 * x8_4)))) + 2))).bind fun x117 => some (((qv5_4.set (w64 (480 + (w64 (8 * x8_4)))).toNat (wu64 x52.Kind)).set (w64 ((w64 (480 + (w64 (8 * x8_4)))) + 1)).toNat (wu64 (w64 (x52.In + 1)))).set (w64 ((w64 (480 + (w64 (8 * x8_4)))) + 2)).toNat (wu64 x52.Page))) else (bif x52.Kind == 7 then ((ref10_State_Words.l6 x8_4 x52 k (0, qv5_4.set (w64 (480 + (w64 (8 * x8_4)))).toNat (wu64 x52.Kind))).bind fun qv5_e6 => some qv5_e6) else (bif x52.Kind == 8 then ((at_ (qv5_4.set (w64 (480 + (w64 (8 * x8_4)))).toNat (wu64 x52.Kind)) (w64 ((w64 (480 + (w64 (8 * x8_4)))) + 1))).bind fun x136 => (at_ ((qv5_4.set (w64 (480 + (w64 (8 * x8_4)))).toNat (wu64 x52.Kind)).set (w64 ((w64 (480 + (w64 (8 * x8_4)))) + 1)).toNat (wu64 (w64 (x52.Bound + 1)))) (w64 ((w64 (480 + (w64 (8 * x8_4)))) + 2))).bind fun x139 => (at_ (((qv5_4.set (w64 (480 + (w64 (8 * x8_4)))).toNat (wu64 x52.Kind)).set (w64 ((w64 (480 + (w64 (8 * x8_4)))) + 1)).toNat (wu64 (w64 (x52.Bound + 1)))).set (w64 ((w64 (480 + (w64 (8 * x8_4)))) + 2)).toNat (wu64 x52.Badge)) (w64 ((w64 (480 + (w64 (8 * x8_4)))) + 3))).bind fun x142 => some ((((qv5_4.set (w64 (480 + (w64 (8 * x8_4)))).toNat (wu64 x52.Kind)).set (w64 ((w64 (480 + (w64 (8 * x8_4)))) + 1)).toNat (wu64 (w64 (x52.Bound + 1)))).set (w64 ((w64 (480 + (w64 (8 * x8_4)))) + 2)).toNat (wu64 x52.Badge)).set (w64 ((w64 (480 + (w64 (8 * x8_4)))) + 3)).toNat (wu64 x52.Mask))) else (some (qv5_4.set (w64 (480 + (w64 (8 * x8_4)))).toNat (wu64 x52.Kind))))))))))).bind fun qv5_5 => (ref10_State_Words.l7 x8_4 x52 k (0, qv5_5)).bind fun qv5_e7 => ref10_State_Words.l4 a0 k (w64 (x8_4 + 1), qv5_e7)) else (some qv5_4)
def ref10_State_Words.f (k : Nat) (a0 : ref10_State) : Option ((List Int)) :=
  (mk_ 0 738).bind fun xs7 => (ref10_State_Words.l1 a0 k (0, xs7)).bind fun qv5_e1 => (ref10_State_Words.l4 a0 k (0, qv5_e1)).bind fun qv5_e4 => (at_ qv5_e4 736).bind fun x166 => (at_ (qv5_e4.set (736 : Int).toNat (wu64 a0.NS)) 737).bind fun x169 => some ((qv5_e4.set (736 : Int).toNat (wu64 a0.NS)).set (737 : Int).toNat (wu64 a0.NO))
set_option maxHeartbeats 8000000 in
set_option maxRecDepth 100000 in
theorem ref10_State_Words.ct (k : Nat) (bp0 : Nat) (v0_Slots : Value) (v0_Objs : Value) (raws_v0_Slots : List (Raw (kr_ref10_Slot).sz)) (A_v0_Slots : HProp) (raws_v0_Objs : List (Raw (kr_ref10_Obj).sz)) (A_v0_Objs : HProp) (a0 : ref10_State) (r0 : List Int) (h : ref10_State_Words.f k a0 = some r0) :
    Ct Try.prog 8 [bp bp0 0] (fun _ => True) [Box bp0 [v0_Slots, v0_Objs, .int .i64 a0.NS, .int .i64 a0.NO], OwnO 81 kr_ref10_Slot v0_Slots raws_v0_Slots A_v0_Slots a0.Slots, OwnO 72 kr_ref10_Obj v0_Objs raws_v0_Objs A_v0_Objs a0.Objs] (fun u H' => ∃ v_r0, u = v_r0 ∧ H' = [Own 35 (ekI .u64) v_r0 r0, Box bp0 [v0_Slots, v0_Objs, .int .i64 a0.NS, .int .i64 a0.NO], OwnO 81 kr_ref10_Slot v0_Slots raws_v0_Slots A_v0_Slots a0.Slots, OwnO 72 kr_ref10_Obj v0_Objs raws_v0_Objs A_v0_Objs a0.Objs]) := by
  unfold ref10_State_Words.f at h
  refine Ct.intro (n := 365) Try.func8 rfl rfl rfl ?_
  intro R w0 F hF hR
  refine S.b1 ?_
  refine S.rdO fun hrel1 hR2 => ?_
  refine S.b2 ?_
  refine S.rdO fun hrel3 hR4 => ?_
  refine S.seq ?_
  refine S.region ?_
  refine SO.v rfl (opv_assign rfl) ?_
  refine SO.nil ?_
  refine S.seq ?_
  refine S.region ?_
  obtain ⟨xs7, hx8, h⟩ := opt_bind h
  refine SO.makeSlice (K := ekI .u64) rfl Try.underlying24 inf35 rfl rfl rfl (by decide) rfl rfl rfl hx8 (fun v5 hr6 => ?_)
  refine SO.v rfl (opv_assign rfl) ?_
  refine SO.nil ?_
  refine S.seq ?_
  refine S.seq ?_
  refine S.region ?_
  refine SO.v rfl (opv_assign rfl) ?_
  refine SO.nil ?_
  obtain ⟨qv5_e1, hl1, h⟩ := opt_bind h
  refine S.b4 ?_
  refine S.b4 ?_
  refine S.b4 ?_
  refine S.b4 ?_
  refine S.b4 ?_
  refine S.to (ρ' := [(4, .int .i64 0), (3, v5), (2, .slice none 0 0), (0, bp bp0 0)]) ⟨rfl, rfl, rfl, rfl, trivial⟩ ?_
  refine S.forloop (X := (Int × (List Int)) × Unit) (O := (List Int)) (fun m x => ref10_State_Words.l1 a0 m x.1) (fun x => match x with | ((x4_1, qv5_1), _) => [(4, .int .i64 x4_1), (3, v5), (2, .slice none 0 0), (0, bp bp0 0)]) (fun x => match x with | ((x4_1, qv5_1), _) => [Own 35 (ekI .u64) v5 qv5_1, OwnO 72 kr_ref10_Obj v0_Objs raws_v0_Objs A_v0_Objs a0.Objs, OwnO 81 kr_ref10_Slot v0_Slots raws_v0_Slots A_v0_Slots a0.Slots, Box bp0 [v0_Slots, v0_Objs, .int .i64 a0.NS, .int .i64 a0.NO], F]) (fun Sk => (fun qv5_e1 => ∀ _ : Unit, Sk [(0, bp bp0 0), (2, .slice none 0 0), (3, v5)] [Own 35 (ekI .u64) v5 qv5_e1, OwnO 72 kr_ref10_Obj v0_Objs raws_v0_Objs A_v0_Objs a0.Objs, OwnO 81 kr_ref10_Slot v0_Slots raws_v0_Slots A_v0_Slots a0.Slots, Box bp0 [v0_Slots, v0_Objs, .int .i64 a0.NS, .int .i64 a0.NO], F])) (fun _ => rfl) ?_ (m := k) (x := ((0, xs7), ())) hl1 ?_
  · clear h hl1
    intro k x o_1 h hK1 ih1
    obtain ⟨⟨x4_1, qv5_1⟩, _⟩ := x
    replace h : ref10_State_Words.l1 a0 (k + 1) (x4_1, qv5_1) = some o_1 := h
    first | rw [ref10_State_Words.l1] at h | unfold ref10_State_Words.l1 at h
    refine S.rd fun hr9 => ?_
    refine S.seq ?_
    refine S.seq ?_
    refine S.region ?_
    refine SO.v rfl (opv_move rfl) ?_
    refine SO.v rfl (opv_lss rfl rfl) ?_
    refine SO.nil ?_
    rcases bool_or (decide (x4_1 < 96)) with b10 | b10
    · replace h := cond_t b10 h
      refine S.condT rfl b10 ?_
      refine S.skip ?_
      refine S.seq ?_
      refine S.block ?_
      refine S.seq ?_
      refine S.region ?_
      refine SO.v rfl (opv_move rfl) ?_
      refine SO.v rfl (opv_nilCheck rfl) ?_
      refine SO.v rfl (opv_fieldAddr Try.underlying76 rfl Try.sizeOf73 rfl rfl) ?_
      refine SO.b3 ?_
      refine SO.load1 rfl Try.isAgg73 rfl rfl ?_
      refine SO.v rfl (opv_move rfl) ?_
      obtain ⟨x11, hx12, h⟩ := opt_bind h
      obtain ⟨r13, hr14, hc15⟩ := relR.at hrel1 hx12
      refine SO.v rfl (opv_idx Try.underlying73 Try.sizeOf81 hR2 rfl rfl hr14) ?_
      refine hc15.rip fun u16 hru17 e18 => ?_
      refine SO.loadIN rfl Try.isAgg81 Try.sizeOf81 (Rd.tail (Rd.tail (Rd.tail (Rd.head hR2)))) hr14 rfl rfl e18 ?_
      refine SO.alloc rfl Try.zeroValue81 rfl (fun b19 => ?_)
      refine SO.storeN Try.sizeOf81 rfl rfl (all1 rfl (all1 rfl (all1 rfl (all1 rfl (all1 rfl (all1 rfl (all1 rfl (all1 (Rd.one hru17) rfl)))))))) rfl rfl rfl ?_
      refine SO.nil ?_
      refine S.to (ρ' := [(4, .int .i64 x4_1), (3, v5), (2, .slice none 0 0), (0, bp bp0 0), (5, bp b19 0)]) ⟨rfl, rfl, rfl, rfl, rfl, trivial⟩ ?_
      refine S.seq ?_
      refine S.region ?_
      refine SO.v rfl (opv_move rfl) ?_
      refine SO.v rfl (opv_move rfl) ?_
      refine SO.v rfl (opv_mul rfl rfl) ?_
      refine SO.v rfl (opv_fieldAddr Try.underlying81 rfl Try.sizeOf49 rfl rfl) ?_
      refine SO.loadN rfl Try.isAgg49 Try.sizeOf49 rfl rfl rfl ?_
      obtain ⟨t20, ht21, h⟩ := opt_bind h
      refine SO.call (pre := []) rfl Try.call37 rfl rfl rfl (ref01_Word.ct _ _ ht21) trivial ?_
      rintro _ _ ⟨rfl, rfl⟩
      obtain ⟨x22, hx23, h⟩ := opt_bind h
      refine SO.v rfl (opv_idx Try.underlying24 Try.sizeOf35 hr9 rfl rfl hx23) ?_
      refine SO.b2 ?_
      refine SO.storeI1 (j := 0) (z' := t20) Try.sizeOf35 hx23 rfl rfl rfl rfl rfl rfl ?_
      refine SO.rd fun hr24 => ?_
      refine SO.nil ?_
      refine S.to (ρ' := [(4, .int .i64 x4_1), (3, v5), (2, .slice none 0 0), (0, bp bp0 0), (5, bp b19 0)]) ⟨rfl, rfl, rfl, rfl, rfl, trivial⟩ ?_
      refine S.seq ?_
      refine S.region ?_
      refine SO.v rfl (opv_move rfl) ?_
      refine SO.v rfl (opv_move rfl) ?_
      refine SO.v rfl (opv_mul rfl rfl) ?_
      refine SO.v rfl (opv_add rfl rfl) ?_
      refine SO.v rfl (opv_fieldAddr Try.underlying81 rfl Try.sizeOf3 rfl rfl) ?_
      refine SO.b1 ?_
      refine SO.load1 rfl Try.isAgg3 rfl rfl ?_
      refine SO.v rfl (opv_add rfl rfl) ?_
      refine SO.v rfl (opv_conv Try.underlying3 Try.underlying35 rfl) ?_
      obtain ⟨x25, hx26, h⟩ := opt_bind h
      refine SO.v rfl (opv_idx Try.underlying24 Try.sizeOf35 hr24 rfl rfl hx26) ?_
      refine SO.b1 ?_
      refine SO.storeI1 (j := 0) (z' := wu64 (w64 (x11.Parent + 1))) Try.sizeOf35 hx26 rfl rfl rfl rfl rfl rfl ?_
      refine SO.rd fun hr27 => ?_
      refine SO.nil ?_
      refine S.to (ρ' := [(4, .int .i64 x4_1), (3, v5), (2, .slice none 0 0), (0, bp bp0 0), (5, bp b19 0)]) ⟨rfl, rfl, rfl, rfl, rfl, trivial⟩ ?_
      refine S.seq ?_
      refine S.region ?_
      refine SO.v rfl (opv_assign rfl) ?_
      refine SO.nil ?_
      obtain ⟨qv5_e2, hl2, h⟩ := opt_bind h
      refine S.b5 ?_
      refine S.b5 ?_
      refine S.b5 ?_
      refine S.b5 ?_
      refine S.b5 ?_
      refine S.b5 ?_
      refine S.to (ρ' := [(6, .int .i64 0), (4, .int .i64 x4_1), (3, v5), (2, .slice none 0 0), (0, bp bp0 0), (5, bp b19 0)]) ⟨rfl, rfl, rfl, rfl, rfl, rfl, trivial⟩ ?_
      refine S.forloop (X := (Int × (List Int)) × Unit) (O := (List Int)) (fun m x => ref10_State_Words.l2 x4_1 x11 m x.1) (fun x => match x with | ((x6_2, qv5_2), _) => [(6, .int .i64 x6_2), (4, .int .i64 x4_1), (3, v5), (2, .slice none 0 0), (0, bp bp0 0), (5, bp b19 0)]) (fun x => match x with | ((x6_2, qv5_2), _) => [Own 35 (ekI .u64) v5 qv5_2, Box b19 [.int .i64 x11.Cap.Kind, .int .i64 x11.Cap.Rights, .int .i64 x11.Cap.Obj, .int .i64 x11.Cap.Badge, .int .i64 x11.Cap.Guard, .int .i64 x11.Cap.Bits, .int .i64 x11.Parent, u16], Box bp0 [v0_Slots, v0_Objs, .int .i64 a0.NS, .int .i64 a0.NO], OwnO 72 kr_ref10_Obj v0_Objs raws_v0_Objs A_v0_Objs a0.Objs, OwnO 81 kr_ref10_Slot v0_Slots raws_v0_Slots A_v0_Slots a0.Slots, F]) (fun Sk => (fun qv5_e2 => ∀ _ : Unit, Sk [(0, bp bp0 0), (2, .slice none 0 0), (3, v5), (4, .int .i64 x4_1)] [Own 35 (ekI .u64) v5 qv5_e2, Box b19 [.int .i64 x11.Cap.Kind, .int .i64 x11.Cap.Rights, .int .i64 x11.Cap.Obj, .int .i64 x11.Cap.Badge, .int .i64 x11.Cap.Guard, .int .i64 x11.Cap.Bits, .int .i64 x11.Parent, u16], Box bp0 [v0_Slots, v0_Objs, .int .i64 a0.NS, .int .i64 a0.NO], OwnO 72 kr_ref10_Obj v0_Objs raws_v0_Objs A_v0_Objs a0.Objs, OwnO 81 kr_ref10_Slot v0_Slots raws_v0_Slots A_v0_Slots a0.Slots, F])) (fun _ => rfl) ?_ (m := k) (x := ((0, (qv5_1.set (w64 (5 * x4_1)).toNat t20).set (w64 ((w64 (5 * x4_1)) + 1)).toNat (wu64 (w64 (x11.Parent + 1)))), ())) hl2 ?_
      · clear h hl2
        intro k x o_2 h hK2 ih2
        obtain ⟨⟨x6_2, qv5_2⟩, _⟩ := x
        replace h : ref10_State_Words.l2 x4_1 x11 (k + 1) (x6_2, qv5_2) = some o_2 := h
        first | rw [ref10_State_Words.l2] at h | unfold ref10_State_Words.l2 at h
        refine S.rd fun hr28 => ?_
        refine S.seq ?_
        refine S.seq ?_
        refine S.region ?_
        refine SO.v rfl (opv_move rfl) ?_
        refine SO.v rfl (opv_fieldAddr Try.underlying81 rfl Try.sizeOf29 rfl rfl) ?_
        refine SO.b1 ?_
        refine SO.load1 rfl Try.isAgg29 rfl rfl ?_
        refine SO.v rfl (opv_lenR rfl Try.underlying29 hru17 rfl) ?_
        refine SO.v rfl (opv_lss rfl rfl) ?_
        refine SO.nil ?_
        rcases bool_or (decide (x6_2 < (x11.Kids.length : Int))) with b29 | b29
        · replace h := cond_t b29 h
          refine S.condT rfl b29 ?_
          refine S.skip ?_
          refine S.seq ?_
          refine S.block ?_
          refine S.seq ?_
          refine S.region ?_
          refine SO.v rfl (opv_fieldAddr Try.underlying81 rfl Try.sizeOf29 rfl rfl) ?_
          refine SO.load1 rfl Try.isAgg29 rfl rfl ?_
          refine SO.v rfl (opv_move rfl) ?_
          obtain ⟨x30, hx31, h⟩ := opt_bind h
          refine SO.v rfl (opv_idx Try.underlying29 Try.sizeOf3 hru17 rfl rfl hx31) ?_
          refine SO.loadI1 (j := 0) rfl Try.isAgg3 (Rd.tail (Rd.tail (Rd.tail (Rd.tail (Rd.head (Rd.pool hru17)))))) hx31 rfl rfl rfl rfl ?_
          refine SO.v rfl (opv_assign rfl) ?_
          refine SO.nil ?_
          refine S.to (ρ' := [(6, .int .i64 x6_2), (4, .int .i64 x4_1), (3, v5), (2, .slice none 0 0), (0, bp bp0 0), (5, bp b19 0), (7, .int .i64 x30)]) ⟨rfl, rfl, rfl, rfl, rfl, rfl, rfl, trivial⟩ ?_
          refine S.seq ?_
          refine S.seq ?_
          refine S.region ?_
          refine SO.v rfl (opv_move rfl) ?_
          refine SO.v rfl (opv_eql rfl rfl) ?_
          refine SO.nil ?_
          obtain ⟨qv5_3, hC3, hJ3⟩ := opt_bind h
          clear h
          refine S.cutP (G := Unit) (fun _ => True) (fun _ => [(0, bp bp0 0), (2, .slice none 0 0), (3, v5), (4, .int .i64 x4_1), (5, bp b19 0), (6, .int .i64 x6_2), (7, .int .i64 x30)]) (fun _ => [Box b19 [.int .i64 x11.Cap.Kind, .int .i64 x11.Cap.Rights, .int .i64 x11.Cap.Obj, .int .i64 x11.Cap.Badge, .int .i64 x11.Cap.Guard, .int .i64 x11.Cap.Bits, .int .i64 x11.Parent, u16], Own 35 (ekI .u64) v5 qv5_3, Box bp0 [v0_Slots, v0_Objs, .int .i64 a0.NS, .int .i64 a0.NO], OwnO 72 kr_ref10_Obj v0_Objs raws_v0_Objs A_v0_Objs a0.Objs, OwnO 81 kr_ref10_Slot v0_Slots raws_v0_Slots A_v0_Slots a0.Slots, F]) (fun hk3 => ?_) ?_
          · replace h := hC3
            rcases bool_or (x6_2 == 0) with b32 | b32
            · replace h := cond_t b32 h
              refine S.condT rfl b32 ?_
              refine S.region ?_
              refine SO.v rfl (opv_move rfl) ?_
              refine SO.v rfl (opv_move rfl) ?_
              refine SO.v rfl (opv_mul rfl rfl) ?_
              refine SO.v rfl (opv_add rfl rfl) ?_
              refine SO.v rfl (opv_move rfl) ?_
              refine SO.v rfl (opv_add rfl rfl) ?_
              refine SO.v rfl (opv_conv Try.underlying3 Try.underlying35 rfl) ?_
              obtain ⟨x33, hx34, h⟩ := opt_bind h
              refine SO.v rfl (opv_idx Try.underlying24 Try.sizeOf35 hr28 rfl rfl hx34) ?_
              refine SO.b1 ?_
              refine SO.storeI1 (j := 0) (z' := wu64 (w64 (x30 + 1))) Try.sizeOf35 hx34 rfl rfl rfl rfl rfl rfl ?_
              refine SO.rd fun hr35 => ?_
              refine SO.nil ?_
              refine S.to (ρ' := [(6, .int .i64 x6_2), (4, .int .i64 x4_1), (3, v5), (2, .slice none 0 0), (0, bp bp0 0), (5, bp b19 0), (7, .int .i64 x30)]) ⟨rfl, rfl, rfl, rfl, rfl, rfl, rfl, trivial⟩ ?_
              cases h
              refine S.b5 ?_
              refine S.b5 ?_
              refine S.b5 ?_
              refine S.b5 ?_
              refine S.b4 ?_
              refine S.b5 ?_
              refine S.to ?_ (hk3 () trivial)
              exact ⟨rfl, rfl, rfl, rfl, rfl, rfl, rfl, trivial⟩
            · replace h := cond_f b32 h
              refine S.condF rfl b32 ?_
              refine S.region ?_
              refine SO.v rfl (opv_move rfl) ?_
              refine SO.v rfl (opv_move rfl) ?_
              refine SO.v rfl (opv_mul rfl rfl) ?_
              refine SO.v rfl (opv_add rfl rfl) ?_
              refine SO.v rfl (opv_fieldAddr Try.underlying81 rfl Try.sizeOf29 rfl rfl) ?_
              refine SO.load1 rfl Try.isAgg29 rfl rfl ?_
              refine SO.v rfl (opv_move rfl) ?_
              refine SO.v rfl (opv_sub rfl rfl) ?_
              obtain ⟨x36, hx37, h⟩ := opt_bind h
              refine SO.v rfl (opv_idx Try.underlying29 Try.sizeOf3 hru17 rfl rfl hx37) ?_
              refine SO.loadI1 (j := 0) rfl Try.isAgg3 (Rd.tail (Rd.tail (Rd.tail (Rd.tail (Rd.head (Rd.pool hru17)))))) hx37 rfl rfl rfl rfl ?_
              refine SO.v rfl (opv_add rfl rfl) ?_
              refine SO.v rfl (opv_conv Try.underlying3 Try.underlying35 rfl) ?_
              obtain ⟨x38, hx39, h⟩ := opt_bind h
              refine SO.v rfl (opv_idx Try.underlying24 Try.sizeOf35 hr28 rfl rfl hx39) ?_
              refine SO.b1 ?_
              refine SO.storeI1 (j := 0) (z' := wu64 (w64 (x36 + 1))) Try.sizeOf35 hx39 rfl rfl rfl rfl rfl rfl ?_
              refine SO.rd fun hr40 => ?_
              refine SO.nil ?_
              refine S.to (ρ' := [(6, .int .i64 x6_2), (4, .int .i64 x4_1), (3, v5), (2, .slice none 0 0), (0, bp bp0 0), (5, bp b19 0), (7, .int .i64 x30)]) ⟨rfl, rfl, rfl, rfl, rfl, rfl, rfl, trivial⟩ ?_
              cases h
              refine S.b5 ?_
              refine S.b5 ?_
              refine S.b5 ?_
              refine S.b5 ?_
              refine S.b4 ?_
              refine S.b5 ?_
              refine S.to ?_ (hk3 () trivial)
              exact ⟨rfl, rfl, rfl, rfl, rfl, rfl, rfl, trivial⟩
          rintro _ -
          replace h := hJ3
          refine S.b1 ?_
          refine S.rd fun hr41 => ?_
          refine S.seq ?_
          refine S.region ?_
          refine SO.v rfl (opv_move rfl) ?_
          refine SO.v rfl (opv_add rfl rfl) ?_
          refine SO.v rfl (opv_fieldAddr Try.underlying81 rfl Try.sizeOf29 rfl rfl) ?_
          refine SO.b1 ?_
          refine SO.load1 rfl Try.isAgg29 rfl rfl ?_
          refine SO.v rfl (opv_lenR rfl Try.underlying29 hru17 rfl) ?_
          refine SO.v rfl (opv_lss rfl rfl) ?_
          refine SO.nil ?_
          rcases bool_or (decide ((w64 (x6_2 + 1)) < (x11.Kids.length : Int))) with b42 | b42
          · replace h := cond_t b42 h
            refine S.condT rfl b42 ?_
            refine S.region ?_
            refine SO.v rfl (opv_move rfl) ?_
            refine SO.v rfl (opv_move rfl) ?_
            refine SO.v rfl (opv_mul rfl rfl) ?_
            refine SO.v rfl (opv_add rfl rfl) ?_
            refine SO.v rfl (opv_fieldAddr Try.underlying81 rfl Try.sizeOf29 rfl rfl) ?_
            refine SO.load1 rfl Try.isAgg29 rfl rfl ?_
            refine SO.v rfl (opv_move rfl) ?_
            refine SO.v rfl (opv_add rfl rfl) ?_
            obtain ⟨x43, hx44, h⟩ := opt_bind h
            refine SO.v rfl (opv_idx Try.underlying29 Try.sizeOf3 hru17 rfl rfl hx44) ?_
            refine SO.loadI1 (j := 0) rfl Try.isAgg3 (Rd.tail (Rd.tail (Rd.tail (Rd.tail (Rd.head (Rd.pool hru17)))))) hx44 rfl rfl rfl rfl ?_
            refine SO.v rfl (opv_add rfl rfl) ?_
            refine SO.v rfl (opv_conv Try.underlying3 Try.underlying35 rfl) ?_
            obtain ⟨x45, hx46, h⟩ := opt_bind h
            refine SO.v rfl (opv_idx Try.underlying24 Try.sizeOf35 hr41 rfl rfl hx46) ?_
            refine SO.b1 ?_
            refine SO.storeI1 (j := 0) (z' := wu64 (w64 (x43 + 1))) Try.sizeOf35 hx46 rfl rfl rfl rfl rfl rfl ?_
            refine SO.rd fun hr47 => ?_
            refine SO.nil ?_
            refine S.to (ρ' := [(0, bp bp0 0), (2, .slice none 0 0), (3, v5), (4, .int .i64 x4_1), (5, bp b19 0), (6, .int .i64 x6_2)]) ⟨rfl, rfl, rfl, rfl, rfl, rfl, trivial⟩ ?_
            refine S.inBlock ?_
            refine S.region ?_
            refine SO.v rfl (opv_move rfl) ?_
            refine SO.v rfl (opv_add rfl rfl) ?_
            refine SO.v rfl (opv_assign rfl) ?_
            refine SO.nil ?_
            refine S.b5 ?_
            refine S.b5 ?_
            refine S.b5 ?_
            refine S.b5 ?_
            refine S.b5 ?_
            refine S.b5 ?_
            refine S.to ?_ (ih2 ((w64 (x6_2 + 1), qv5_3.set (w64 ((w64 (5 * x30)) + 3)).toNat (wu64 (w64 (x43 + 1)))), ()) h)
            exact ⟨rfl, rfl, rfl, rfl, rfl, rfl, trivial⟩
          · replace h := cond_f b42 h
            refine S.condF rfl b42 ?_
            refine S.skip ?_
            refine S.inBlock ?_
            refine S.region ?_
            refine SO.v rfl (opv_move rfl) ?_
            refine SO.v rfl (opv_add rfl rfl) ?_
            refine SO.v rfl (opv_assign rfl) ?_
            refine SO.nil ?_
            refine S.to (ρ' := [(0, bp bp0 0), (2, .slice none 0 0), (3, v5), (4, .int .i64 x4_1), (5, bp b19 0), (6, .int .i64 (w64 (x6_2 + 1)))]) ⟨rfl, rfl, rfl, rfl, rfl, rfl, trivial⟩ ?_
            refine S.b5 ?_
            refine S.b5 ?_
            refine S.b5 ?_
            refine S.b5 ?_
            refine S.b4 ?_
            refine S.b5 ?_
            refine S.to ?_ (ih2 ((w64 (x6_2 + 1), qv5_3), ()) h)
            exact ⟨rfl, rfl, rfl, rfl, rfl, rfl, trivial⟩
        · replace h := cond_f b29 h
          refine S.condF rfl b29 ?_
          refine S.exit rfl ?_
          cases h
          refine S.b5 ?_
          refine S.b5 ?_
          refine S.b5 ?_
          refine S.b5 ?_
          refine S.b4 ?_
          refine S.b5 ?_
          refine S.to ?_ (hK2 ())
          exact ⟨rfl, rfl, rfl, rfl, trivial⟩
      rintro _
      refine S.rd fun hr48 => ?_
      refine S.inBlock ?_
      refine S.region ?_
      refine SO.v rfl (opv_move rfl) ?_
      refine SO.v rfl (opv_add rfl rfl) ?_
      refine SO.v rfl (opv_assign rfl) ?_
      refine SO.nil ?_
      refine S.b1 ?_
      refine S.drop ?_
      refine S.b4 ?_
      refine S.b2 ?_
      refine S.b4 ?_
      refine S.b4 ?_
      refine S.b4 ?_
      refine S.to ?_ (ih1 ((w64 (x4_1 + 1), qv5_e2), ()) h)
      exact ⟨rfl, rfl, rfl, rfl, trivial⟩
    · replace h := cond_f b10 h
      refine S.condF rfl b10 ?_
      refine S.exit rfl ?_
      cases h
      refine S.b4 ?_
      refine S.b4 ?_
      refine S.b4 ?_
      refine S.b4 ?_
      refine S.b4 ?_
      refine S.to ?_ (hK1 ())
      exact ⟨rfl, rfl, rfl, trivial⟩
  rintro _
  refine S.rd fun hr49 => ?_
  refine S.seq ?_
  refine S.seq ?_
  refine S.region ?_
  refine SO.v rfl (opv_assign rfl) ?_
  refine SO.nil ?_
  obtain ⟨qv5_e4, hl4, h⟩ := opt_bind h
  refine S.b4 ?_
  refine S.b4 ?_
  refine S.b4 ?_
  refine S.b4 ?_
  refine S.b4 ?_
  refine S.to (ρ' := [(8, .int .i64 0), (0, bp bp0 0), (2, .slice none 0 0), (3, v5)]) ⟨rfl, rfl, rfl, rfl, trivial⟩ ?_
  refine S.forloop (X := (Int × (List Int)) × Unit) (O := (List Int)) (fun m x => ref10_State_Words.l4 a0 m x.1) (fun x => match x with | ((x8_4, qv5_4), _) => [(8, .int .i64 x8_4), (0, bp bp0 0), (2, .slice none 0 0), (3, v5)]) (fun x => match x with | ((x8_4, qv5_4), _) => [Own 35 (ekI .u64) v5 qv5_4, OwnO 72 kr_ref10_Obj v0_Objs raws_v0_Objs A_v0_Objs a0.Objs, OwnO 81 kr_ref10_Slot v0_Slots raws_v0_Slots A_v0_Slots a0.Slots, Box bp0 [v0_Slots, v0_Objs, .int .i64 a0.NS, .int .i64 a0.NO], F]) (fun Sk => (fun qv5_e4 => ∀ _ : Unit, Sk [(0, bp bp0 0), (2, .slice none 0 0), (3, v5)] [Own 35 (ekI .u64) v5 qv5_e4, OwnO 72 kr_ref10_Obj v0_Objs raws_v0_Objs A_v0_Objs a0.Objs, OwnO 81 kr_ref10_Slot v0_Slots raws_v0_Slots A_v0_Slots a0.Slots, Box bp0 [v0_Slots, v0_Objs, .int .i64 a0.NS, .int .i64 a0.NO], F])) (fun _ => rfl) ?_ (m := k) (x := ((0, qv5_e1), ())) hl4 ?_
  · clear h hl4
    intro k x o_4 h hK4 ih4
    obtain ⟨⟨x8_4, qv5_4⟩, _⟩ := x
    replace h : ref10_State_Words.l4 a0 (k + 1) (x8_4, qv5_4) = some o_4 := h
    first | rw [ref10_State_Words.l4] at h | unfold ref10_State_Words.l4 at h
    refine S.rd fun hr50 => ?_
    refine S.seq ?_
    refine S.seq ?_
    refine S.region ?_
    refine SO.v rfl (opv_move rfl) ?_
    refine SO.v rfl (opv_lss rfl rfl) ?_
    refine SO.nil ?_
    rcases bool_or (decide (x8_4 < 32)) with b51 | b51
    · replace h := cond_t b51 h
      refine S.condT rfl b51 ?_
      refine S.skip ?_
      refine S.seq ?_
      refine S.block ?_
      refine S.seq ?_
      refine S.region ?_
      refine SO.v rfl (opv_move rfl) ?_
      refine SO.v rfl (opv_nilCheck rfl) ?_
      refine SO.v rfl (opv_fieldAddr Try.underlying76 rfl Try.sizeOf74 rfl rfl) ?_
      refine SO.b3 ?_
      refine SO.load1 rfl Try.isAgg74 rfl rfl ?_
      refine SO.v rfl (opv_move rfl) ?_
      obtain ⟨x52, hx53, h⟩ := opt_bind h
      obtain ⟨r54, hr55, hc56⟩ := relR.at hrel3 hx53
      refine SO.v rfl (opv_idx Try.underlying74 Try.sizeOf72 hR4 rfl rfl hr55) ?_
      refine hc56.rip fun u57 hru58 e59 => ?_
      refine SO.loadIN rfl Try.isAgg72 Try.sizeOf72 (Rd.tail (Rd.tail (Rd.head hR4))) hr55 rfl rfl e59 ?_
      refine SO.alloc rfl Try.zeroValue72 rfl (fun b60 => ?_)
      refine SO.storeN Try.sizeOf72 rfl rfl (all1 rfl (all1 rfl (all1 rfl (all1 rfl (all1 rfl (all1 rfl (all1 (Rd.one hru58) (all1 rfl (all1 rfl (all1 rfl (all1 rfl (all1 rfl (all1 rfl (all1 rfl (all1 rfl (all1 rfl (all1 rfl (all1 rfl (all1 rfl (all1 rfl (all1 rfl (all1 rfl (all1 rfl (all1 rfl (all1 rfl (all1 rfl (all1 rfl (all1 rfl (all1 rfl (all1 rfl (all1 rfl (all1 rfl rfl)))))))))))))))))))))))))))))))) rfl rfl rfl ?_
      refine SO.nil ?_
      refine S.to (ρ' := [(8, .int .i64 x8_4), (0, bp bp0 0), (2, .slice none 0 0), (3, v5), (9, bp b60 0)]) ⟨rfl, rfl, rfl, rfl, rfl, trivial⟩ ?_
      refine S.seq ?_
      refine S.region ?_
      refine SO.v rfl (opv_move rfl) ?_
      refine SO.v rfl (opv_mul rfl rfl) ?_
      refine SO.v rfl (opv_add rfl rfl) ?_
      refine SO.v rfl (opv_assign rfl) ?_
      refine SO.nil ?_
      refine S.seq ?_
      refine S.region ?_
      refine SO.v rfl (opv_move rfl) ?_
      refine SO.v rfl (opv_move rfl) ?_
      refine SO.v rfl (opv_fieldAddr Try.underlying72 rfl Try.sizeOf3 rfl rfl) ?_
      refine SO.load1 rfl Try.isAgg3 rfl rfl ?_
      refine SO.v rfl (opv_conv Try.underlying3 Try.underlying35 rfl) ?_
      obtain ⟨x61, hx62, h⟩ := opt_bind h
      refine SO.v rfl (opv_idx Try.underlying24 Try.sizeOf35 hr50 rfl rfl hx62) ?_
      refine SO.b2 ?_
      refine SO.storeI1 (j := 0) (z' := wu64 x52.Kind) Try.sizeOf35 hx62 rfl rfl rfl rfl rfl rfl ?_
      refine SO.rd fun hr63 => ?_
      refine SO.nil ?_
      refine S.to (ρ' := [(8, .int .i64 x8_4), (0, bp bp0 0), (2, .slice none 0 0), (3, v5), (9, bp b60 0), (10, .int .i64 (w64 (480 + (w64 (8 * x8_4)))))]) ⟨rfl, rfl, rfl, rfl, rfl, rfl, trivial⟩ ?_
      refine S.seq ?_
      refine S.seq ?_
      refine S.region ?_
      refine SO.v rfl (opv_fieldAddr Try.underlying72 rfl Try.sizeOf3 rfl rfl) ?_
      refine SO.b1 ?_
      refine SO.load1 rfl Try.isAgg3 rfl rfl ?_
      refine SO.nil ?_
      obtain ⟨qv5_5, hC5, hJ5⟩ := opt_bind h
      clear h
      refine S.cutP (G := Unit) (fun _ => True) (fun _ => [(0, bp bp0 0), (2, .slice none 0 0), (3, v5), (8, .int .i64 x8_4), (9, bp b60 0), (10, .int .i64 (w64 (480 + (w64 (8 * x8_4)))))]) (fun _ => [Box b60 [.int .i64 x52.Kind, .int .i64 x52.Size, .int .i64 x52.Used, .int .i64 x52.First, .int .i64 x52.Radix, .int .i64 x52.Wait, u57, .int .i64 x52.Word, .int .i64 x52.State, .int .i64 x52.Owing, .int .i64 x52.Badge, .int .i64 x52.Prio, .int .i64 x52.On, .int .i64 x52.Owes, .int .i64 x52.Root.Kind, .int .i64 x52.Root.Rights, .int .i64 x52.Root.Obj, .int .i64 x52.Root.Badge, .int .i64 x52.Root.Guard, .int .i64 x52.Root.Bits, .int .i64 x52.Pages.a0, .int .i64 x52.Pages.a1, .int .i64 x52.Pages.a2, .int .i64 x52.Pages.a3, .int .i64 x52.Right.a0, .int .i64 x52.Right.a1, .int .i64 x52.Right.a2, .int .i64 x52.Right.a3, .int .i64 x52.In, .int .i64 x52.Page, .int .i64 x52.Bound, .int .i64 x52.Mask], Own 35 (ekI .u64) v5 qv5_5, Box bp0 [v0_Slots, v0_Objs, .int .i64 a0.NS, .int .i64 a0.NO], OwnO 72 kr_ref10_Obj v0_Objs raws_v0_Objs A_v0_Objs a0.Objs, OwnO 81 kr_ref10_Slot v0_Slots raws_v0_Slots A_v0_Slots a0.Slots, F]) (fun hk5 => ?_) ?_
      · replace h := hC5
        refine S.block ?_
        refine S.seq ?_
        refine S.region ?_
        refine SO.v rfl (opv_eql rfl rfl) ?_
        refine SO.v rfl (opv_assign rfl) ?_
        refine SO.nil ?_
        rcases bool_or (x52.Kind == 1) with b64 | b64
        · replace h := cond_t b64 h
          refine S.condT rfl b64 ?_
          refine S.seq ?_
          refine S.region ?_
          refine SO.v rfl (opv_move rfl) ?_
          refine SO.v rfl (opv_move rfl) ?_
          refine SO.v rfl (opv_add rfl rfl) ?_
          refine SO.v rfl (opv_fieldAddr Try.underlying72 rfl Try.sizeOf3 rfl rfl) ?_
          refine SO.load1 rfl Try.isAgg3 rfl rfl ?_
          refine SO.v rfl (opv_conv Try.underlying3 Try.underlying35 rfl) ?_
          obtain ⟨x65, hx66, h⟩ := opt_bind h
          refine SO.v rfl (opv_idx Try.underlying24 Try.sizeOf35 hr63 rfl rfl hx66) ?_
          refine SO.b1 ?_
          refine SO.storeI1 (j := 0) (z' := wu64 x52.Size) Try.sizeOf35 hx66 rfl rfl rfl rfl rfl rfl ?_
          refine SO.rd fun hr67 => ?_
          refine SO.nil ?_
          refine S.to (ρ' := [(8, .int .i64 x8_4), (0, bp bp0 0), (2, .slice none 0 0), (3, v5), (9, bp b60 0), (10, .int .i64 (w64 (480 + (w64 (8 * x8_4)))))]) ⟨rfl, rfl, rfl, rfl, rfl, rfl, trivial⟩ ?_
          refine S.region ?_
          refine SO.v rfl (opv_move rfl) ?_
          refine SO.v rfl (opv_move rfl) ?_
          refine SO.v rfl (opv_add rfl rfl) ?_
          refine SO.v rfl (opv_fieldAddr Try.underlying72 rfl Try.sizeOf3 rfl rfl) ?_
          refine SO.b1 ?_
          refine SO.load1 rfl Try.isAgg3 rfl rfl ?_
          refine SO.v rfl (opv_conv Try.underlying3 Try.underlying35 rfl) ?_
          obtain ⟨x68, hx69, h⟩ := opt_bind h
          refine SO.v rfl (opv_idx Try.underlying24 Try.sizeOf35 hr67 rfl rfl hx69) ?_
          refine SO.b1 ?_
          refine SO.storeI1 (j := 0) (z' := wu64 x52.Used) Try.sizeOf35 hx69 rfl rfl rfl rfl rfl rfl ?_
          refine SO.rd fun hr70 => ?_
          refine SO.nil ?_
          refine S.to (ρ' := [(8, .int .i64 x8_4), (0, bp bp0 0), (2, .slice none 0 0), (3, v5), (9, bp b60 0), (10, .int .i64 (w64 (480 + (w64 (8 * x8_4)))))]) ⟨rfl, rfl, rfl, rfl, rfl, rfl, trivial⟩ ?_
          refine S.inBlock ?_
          cases h
          refine S.b5 ?_
          refine S.b5 ?_
          refine S.b5 ?_
          refine S.b5 ?_
          refine S.b4 ?_
          refine S.b5 ?_
          refine S.to ?_ (hk5 () trivial)
          exact ⟨rfl, rfl, rfl, rfl, rfl, rfl, trivial⟩
        · replace h := cond_f b64 h
          refine S.condF rfl b64 ?_
          refine S.seq ?_
          refine S.region ?_
          refine SO.v rfl (opv_eql rfl rfl) ?_
          refine SO.v rfl (opv_assign rfl) ?_
          refine SO.nil ?_
          rcases bool_or (x52.Kind == 2) with b71 | b71
          · replace h := cond_t b71 h
            refine S.condT rfl b71 ?_
            refine S.seq ?_
            refine S.region ?_
            refine SO.v rfl (opv_move rfl) ?_
            refine SO.v rfl (opv_move rfl) ?_
            refine SO.v rfl (opv_add rfl rfl) ?_
            refine SO.v rfl (opv_fieldAddr Try.underlying72 rfl Try.sizeOf3 rfl rfl) ?_
            refine SO.load1 rfl Try.isAgg3 rfl rfl ?_
            refine SO.v rfl (opv_conv Try.underlying3 Try.underlying35 rfl) ?_
            obtain ⟨x72, hx73, h⟩ := opt_bind h
            refine SO.v rfl (opv_idx Try.underlying24 Try.sizeOf35 hr63 rfl rfl hx73) ?_
            refine SO.b1 ?_
            refine SO.storeI1 (j := 0) (z' := wu64 x52.First) Try.sizeOf35 hx73 rfl rfl rfl rfl rfl rfl ?_
            refine SO.rd fun hr74 => ?_
            refine SO.nil ?_
            refine S.to (ρ' := [(8, .int .i64 x8_4), (0, bp bp0 0), (2, .slice none 0 0), (3, v5), (9, bp b60 0), (10, .int .i64 (w64 (480 + (w64 (8 * x8_4)))))]) ⟨rfl, rfl, rfl, rfl, rfl, rfl, trivial⟩ ?_
            refine S.region ?_
            refine SO.v rfl (opv_move rfl) ?_
            refine SO.v rfl (opv_move rfl) ?_
            refine SO.v rfl (opv_add rfl rfl) ?_
            refine SO.v rfl (opv_fieldAddr Try.underlying72 rfl Try.sizeOf3 rfl rfl) ?_
            refine SO.b1 ?_
            refine SO.load1 rfl Try.isAgg3 rfl rfl ?_
            refine SO.v rfl (opv_conv Try.underlying3 Try.underlying35 rfl) ?_
            obtain ⟨x75, hx76, h⟩ := opt_bind h
            refine SO.v rfl (opv_idx Try.underlying24 Try.sizeOf35 hr74 rfl rfl hx76) ?_
            refine SO.b1 ?_
            refine SO.storeI1 (j := 0) (z' := wu64 x52.Radix) Try.sizeOf35 hx76 rfl rfl rfl rfl rfl rfl ?_
            refine SO.rd fun hr77 => ?_
            refine SO.nil ?_
            refine S.to (ρ' := [(8, .int .i64 x8_4), (0, bp bp0 0), (2, .slice none 0 0), (3, v5), (9, bp b60 0), (10, .int .i64 (w64 (480 + (w64 (8 * x8_4)))))]) ⟨rfl, rfl, rfl, rfl, rfl, rfl, trivial⟩ ?_
            refine S.inBlock ?_
            cases h
            refine S.b5 ?_
            refine S.b5 ?_
            refine S.b5 ?_
            refine S.b5 ?_
            refine S.b4 ?_
            refine S.b5 ?_
            refine S.to ?_ (hk5 () trivial)
            exact ⟨rfl, rfl, rfl, rfl, rfl, rfl, trivial⟩
          · replace h := cond_f b71 h
            refine S.condF rfl b71 ?_
            refine S.seq ?_
            refine S.region ?_
            refine SO.v rfl (opv_eql rfl rfl) ?_
            refine SO.v rfl (opv_assign rfl) ?_
            refine SO.nil ?_
            rcases bool_or (x52.Kind == 3) with b78 | b78
            · replace h := cond_t b78 h
              refine S.condT rfl b78 ?_
              refine S.region ?_
              refine SO.v rfl (opv_move rfl) ?_
              refine SO.v rfl (opv_move rfl) ?_
              refine SO.v rfl (opv_add rfl rfl) ?_
              refine SO.v rfl (opv_fieldAddr Try.underlying72 rfl Try.sizeOf3 rfl rfl) ?_
              refine SO.load1 rfl Try.isAgg3 rfl rfl ?_
              refine SO.v rfl (opv_conv Try.underlying3 Try.underlying35 rfl) ?_
              obtain ⟨x79, hx80, h⟩ := opt_bind h
              refine SO.v rfl (opv_idx Try.underlying24 Try.sizeOf35 hr63 rfl rfl hx80) ?_
              refine SO.b1 ?_
              refine SO.storeI1 (j := 0) (z' := wu64 x52.Wait) Try.sizeOf35 hx80 rfl rfl rfl rfl rfl rfl ?_
              refine SO.rd fun hr81 => ?_
              refine SO.nil ?_
              refine S.to (ρ' := [(8, .int .i64 x8_4), (0, bp bp0 0), (2, .slice none 0 0), (3, v5), (9, bp b60 0), (10, .int .i64 (w64 (480 + (w64 (8 * x8_4)))))]) ⟨rfl, rfl, rfl, rfl, rfl, rfl, trivial⟩ ?_
              refine S.inBlock ?_
              cases h
              refine S.b5 ?_
              refine S.b5 ?_
              refine S.b5 ?_
              refine S.b5 ?_
              refine S.b4 ?_
              refine S.b5 ?_
              refine S.to ?_ (hk5 () trivial)
              exact ⟨rfl, rfl, rfl, rfl, rfl, rfl, trivial⟩
            · replace h := cond_f b78 h
              refine S.condF rfl b78 ?_
              refine S.seq ?_
              refine S.region ?_
              refine SO.v rfl (opv_eql rfl rfl) ?_
              refine SO.v rfl (opv_assign rfl) ?_
              refine SO.nil ?_
              refine S.to (ρ' := [(8, .int .i64 x8_4), (0, bp bp0 0), (2, .slice none 0 0), (3, v5), (9, bp b60 0), (10, .int .i64 (w64 (480 + (w64 (8 * x8_4))))), (117, .int .i64 x52.Kind), (159, .bool (x52.Kind == 4))]) ⟨rfl, rfl, rfl, rfl, rfl, rfl, rfl, rfl, trivial⟩ ?_
              rcases bool_or (x52.Kind == 4) with b82 | b82
              · replace h := cond_t b82 h
                refine S.condT rfl b82 ?_
                refine S.region ?_
                refine SO.v rfl (opv_move rfl) ?_
                refine SO.v rfl (opv_move rfl) ?_
                refine SO.v rfl (opv_add rfl rfl) ?_
                refine SO.v rfl (opv_fieldAddr Try.underlying72 rfl Try.sizeOf3 rfl rfl) ?_
                refine SO.load1 rfl Try.isAgg3 rfl rfl ?_
                refine SO.v rfl (opv_conv Try.underlying3 Try.underlying35 rfl) ?_
                obtain ⟨x83, hx84, h⟩ := opt_bind h
                refine SO.v rfl (opv_idx Try.underlying24 Try.sizeOf35 hr63 rfl rfl hx84) ?_
                refine SO.b1 ?_
                refine SO.storeI1 (j := 0) (z' := wu64 x52.Word) Try.sizeOf35 hx84 rfl rfl rfl rfl rfl rfl ?_
                refine SO.rd fun hr85 => ?_
                refine SO.nil ?_
                refine S.to (ρ' := [(8, .int .i64 x8_4), (0, bp bp0 0), (2, .slice none 0 0), (3, v5), (9, bp b60 0), (10, .int .i64 (w64 (480 + (w64 (8 * x8_4)))))]) ⟨rfl, rfl, rfl, rfl, rfl, rfl, trivial⟩ ?_
                refine S.inBlock ?_
                cases h
                refine S.b5 ?_
                refine S.b5 ?_
                refine S.b5 ?_
                refine S.b5 ?_
                refine S.b4 ?_
                refine S.b5 ?_
                refine S.to ?_ (hk5 () trivial)
                exact ⟨rfl, rfl, rfl, rfl, rfl, rfl, trivial⟩
              · replace h := cond_f b82 h
                refine S.condF rfl b82 ?_
                refine S.seq ?_
                refine S.region ?_
                refine SO.v rfl (opv_eql rfl rfl) ?_
                refine SO.v rfl (opv_assign rfl) ?_
                refine SO.nil ?_
                rcases bool_or (x52.Kind == 5) with b86 | b86
                · replace h := cond_t b86 h
                  refine S.condT rfl b86 ?_
                  refine S.seq ?_
                  refine S.region ?_
                  refine SO.v rfl (opv_move rfl) ?_
                  refine SO.v rfl (opv_move rfl) ?_
                  refine SO.v rfl (opv_add rfl rfl) ?_
                  refine SO.v rfl (opv_fieldAddr Try.underlying72 rfl Try.sizeOf3 rfl rfl) ?_
                  refine SO.load1 rfl Try.isAgg3 rfl rfl ?_
                  refine SO.v rfl (opv_conv Try.underlying3 Try.underlying35 rfl) ?_
                  obtain ⟨x87, hx88, h⟩ := opt_bind h
                  refine SO.v rfl (opv_idx Try.underlying24 Try.sizeOf35 hr63 rfl rfl hx88) ?_
                  refine SO.b1 ?_
                  refine SO.storeI1 (j := 0) (z' := wu64 x52.State) Try.sizeOf35 hx88 rfl rfl rfl rfl rfl rfl ?_
                  refine SO.rd fun hr89 => ?_
                  refine SO.nil ?_
                  refine S.to (ρ' := [(8, .int .i64 x8_4), (0, bp bp0 0), (2, .slice none 0 0), (3, v5), (9, bp b60 0), (10, .int .i64 (w64 (480 + (w64 (8 * x8_4)))))]) ⟨rfl, rfl, rfl, rfl, rfl, rfl, trivial⟩ ?_
                  refine S.seq ?_
                  obtain ⟨x90, hx91, h⟩ := opt_bind h
                  obtain ⟨x92, hx93, h⟩ := opt_bind h
                  refine S.draw' (Z := fun Q => ∀ (_ : Unit) (_ : Unit) (_ : Unit) (_ : Unit) (_ : Unit) (_ : Unit) (_ : Unit) (_ : Unit) (_ : Unit) (_ : Unit), Q [(8, .int .i64 x8_4), (0, bp bp0 0), (2, .slice none 0 0), (3, v5), (9, bp b60 0), (10, .int .i64 (w64 (480 + (w64 (8 * x8_4)))))] [Own 35 (ekI .u64) v5 (((qv5_4.set (w64 (480 + (w64 (8 * x8_4)))).toNat (wu64 x52.Kind)).set (w64 ((w64 (480 + (w64 (8 * x8_4)))) + 1)).toNat (wu64 x52.State)).set (w64 ((w64 (480 + (w64 (8 * x8_4)))) + 2)).toNat (wu64 (x90 + (wu64 (w64 (x52.Owing + 1)))))), Box b60 [.int .i64 x52.Kind, .int .i64 x52.Size, .int .i64 x52.Used, .int .i64 x52.First, .int .i64 x52.Radix, .int .i64 x52.Wait, u57, .int .i64 x52.Word, .int .i64 x52.State, .int .i64 x52.Owing, .int .i64 x52.Badge, .int .i64 x52.Prio, .int .i64 x52.On, .int .i64 x52.Owes, .int .i64 x52.Root.Kind, .int .i64 x52.Root.Rights, .int .i64 x52.Root.Obj, .int .i64 x52.Root.Badge, .int .i64 x52.Root.Guard, .int .i64 x52.Root.Bits, .int .i64 x52.Pages.a0, .int .i64 x52.Pages.a1, .int .i64 x52.Pages.a2, .int .i64 x52.Pages.a3, .int .i64 x52.Right.a0, .int .i64 x52.Right.a1, .int .i64 x52.Right.a2, .int .i64 x52.Right.a3, .int .i64 x52.In, .int .i64 x52.Page, .int .i64 x52.Bound, .int .i64 x52.Mask], Box bp0 [v0_Slots, v0_Objs, .int .i64 a0.NS, .int .i64 a0.NO], OwnO 72 kr_ref10_Obj v0_Objs raws_v0_Objs A_v0_Objs a0.Objs, OwnO 81 kr_ref10_Slot v0_Slots raws_v0_Slots A_v0_Slots a0.Slots, F]) (T := [tS 3 (v5), tS 10 (.int .i64 (w64 (480 + (w64 (8 * x8_4))))), tS 9 (bp b60 0), tE [(8, .int .i64 x8_4), (0, bp bp0 0), (2, .slice none 0 0)], tR (Own 35 (ekI .u64) v5 ((qv5_4.set (w64 (480 + (w64 (8 * x8_4)))).toNat (wu64 x52.Kind)).set (w64 ((w64 (480 + (w64 (8 * x8_4)))) + 1)).toNat (wu64 x52.State))), tR (Box b60 [.int .i64 x52.Kind, .int .i64 x52.Size, .int .i64 x52.Used, .int .i64 x52.First, .int .i64 x52.Radix, .int .i64 x52.Wait, u57, .int .i64 x52.Word, .int .i64 x52.State, .int .i64 x52.Owing, .int .i64 x52.Badge, .int .i64 x52.Prio, .int .i64 x52.On, .int .i64 x52.Owes, .int .i64 x52.Root.Kind, .int .i64 x52.Root.Rights, .int .i64 x52.Root.Obj, .int .i64 x52.Root.Badge, .int .i64 x52.Root.Guard, .int .i64 x52.Root.Bits, .int .i64 x52.Pages.a0, .int .i64 x52.Pages.a1, .int .i64 x52.Pages.a2, .int .i64 x52.Pages.a3, .int .i64 x52.Right.a0, .int .i64 x52.Right.a1, .int .i64 x52.Right.a2, .int .i64 x52.Right.a3, .int .i64 x52.In, .int .i64 x52.Page, .int .i64 x52.Bound, .int .i64 x52.Mask]), tR (Box bp0 [v0_Slots, v0_Objs, .int .i64 a0.NS, .int .i64 a0.NO]), tR (OwnO 72 kr_ref10_Obj v0_Objs raws_v0_Objs A_v0_Objs a0.Objs), tR (OwnO 81 kr_ref10_Slot v0_Slots raws_v0_Slots A_v0_Slots a0.Slots), tR (F), tS 177 (v5), tS 178 (.int .i64 (w64 (480 + (w64 (8 * x8_4))))), tS 179 (.int .i64 (w64 ((w64 (480 + (w64 (8 * x8_4)))) + 2))), tS 180 (v5), tS 181 (.int .i64 (w64 (480 + (w64 (8 * x8_4))))), tS 182 (.int .i64 (w64 ((w64 (480 + (w64 (8 * x8_4)))) + 2))), tS 183 (idxp v5 ((w64 ((w64 (480 + (w64 (8 * x8_4)))) + 2)).toNat * (ekI .u64).sz)), tS 184 (.int .u64 x90), tS 185 (bp b60 9), tS 186 (.int .i64 x52.Owing), tS 187 (.int .i64 (w64 (x52.Owing + 1))), tS 188 (.int .u64 (wu64 (w64 (x52.Owing + 1)))), tS 189 (.int .u64 (wu64 (x90 + (wu64 (w64 (x52.Owing + 1)))))), tS 190 (idxp v5 ((w64 ((w64 (480 + (w64 (8 * x8_4)))) + 2)).toNat * (ekI .u64).sz)), tR (Own 35 (ekI .u64) v5 (((qv5_4.set (w64 (480 + (w64 (8 * x8_4)))).toNat (wu64 x52.Kind)).set (w64 ((w64 (480 + (w64 (8 * x8_4)))) + 1)).toNat (wu64 x52.State)).set (w64 ((w64 (480 + (w64 (8 * x8_4)))) + 2)).toNat (wu64 (x90 + (wu64 (w64 (x52.Owing + 1)))))))]) (D := [⟨[0], [], [10]⟩, ⟨[1], [], [11]⟩, ⟨[11], [], [12]⟩, ⟨[0], [], [13]⟩, ⟨[1], [], [14]⟩, ⟨[14], [], [15]⟩, ⟨[13, 15, 4], [], [16]⟩, ⟨[16, 4], [], [17]⟩, ⟨[2], [], [18]⟩, ⟨[18, 5], [], [19]⟩, ⟨[19], [], [20]⟩, ⟨[20], [], [21]⟩, ⟨[17, 21], [], [22]⟩, ⟨[10, 12, 4], [], [23]⟩, ⟨[22, 23], [4], [24]⟩]) (ini := [0, 1, 2, 3, 4, 5, 6, 7, 8, 9]) (fin := [3, 0, 2, 1, 24, 5, 6, 7, 8, 9]) (bf := [[], [], [1], [], [], [4], [3, 4, 5], [3, 4, 5, 6], [], [8], [8, 9], [8, 9, 10], [3, 4, 5, 6, 7, 8, 9, 10, 11], [0, 1, 2, 3, 4, 5, 6, 7, 8, 9, 10, 11, 12], [0, 1, 2, 3, 4, 5, 6, 7, 8, 9, 10, 11, 12, 13]]) (by kernel_rfl) (by kernel_rfl) (fun x w h1 h2 => (.cons () (.cons () (.cons () (.cons () (.cons () (.cons () (.cons () (.cons () (.cons () (.cons () (.nil ⟨EnvAll.of h1 ⟨rfl, rfl, rfl, rfl, rfl, rfl, trivial⟩, h2⟩)))))))))))) (fun Q => by kernel_rfl) ⟨?_, ?_, ?_, ?_, ?_, ?_, ?_, ?_, ?_, ?_, ?_, ?_, ?_, ?_, ?_, trivial⟩ ?_
                  · rintro Fr _
                    refine SO.v rfl (opv_move rfl) ?_
                    exact SO.nilZ fun a w h1 h2 h3 h4 h5 => PZ.of h1 h3 h5 (.cons () (.cons () (.nil ⟨EnvAll.of h2 ⟨rfl, rfl, trivial⟩, h4⟩)))
                  · rintro Fr _
                    refine SO.v rfl (opv_move rfl) ?_
                    exact SO.nilZ fun a w h1 h2 h3 h4 h5 => PZ.of h1 h3 h5 (.cons () (.cons () (.nil ⟨EnvAll.of h2 ⟨rfl, rfl, trivial⟩, h4⟩)))
                  · rintro Fr _
                    refine SO.v rfl (opv_add rfl rfl) ?_
                    exact SO.nilZ fun a w h1 h2 h3 h4 h5 => PZ.of h1 h3 h5 (.cons () (.cons () (.nil ⟨EnvAll.of h2 ⟨rfl, rfl, trivial⟩, h4⟩)))
                  · rintro Fr _
                    refine SO.v rfl (opv_move rfl) ?_
                    exact SO.nilZ fun a w h1 h2 h3 h4 h5 => PZ.of h1 h3 h5 (.cons () (.cons () (.nil ⟨EnvAll.of h2 ⟨rfl, rfl, trivial⟩, h4⟩)))
                  · rintro Fr _
                    refine SO.v rfl (opv_move rfl) ?_
                    exact SO.nilZ fun a w h1 h2 h3 h4 h5 => PZ.of h1 h3 h5 (.cons () (.cons () (.nil ⟨EnvAll.of h2 ⟨rfl, rfl, trivial⟩, h4⟩)))
                  · rintro Fr _
                    refine SO.v rfl (opv_add rfl rfl) ?_
                    exact SO.nilZ fun a w h1 h2 h3 h4 h5 => PZ.of h1 h3 h5 (.cons () (.cons () (.nil ⟨EnvAll.of h2 ⟨rfl, rfl, trivial⟩, h4⟩)))
                  · rintro Fr _ _ _
                    refine SO.v rfl (opv_idx Try.underlying24 Try.sizeOf35 hr89 rfl rfl hx91) ?_
                    exact SO.nilZ fun a w h1 h2 h3 h4 h5 => PZ.of h1 h3 h5 (.cons () (.cons () (.cons () (.cons () (.nil ⟨EnvAll.of h2 ⟨rfl, rfl, rfl, trivial⟩, h4⟩)))))
                  · rintro Fr _ _
                    refine SO.loadI1 (j := 0) rfl Try.isAgg35 (Rd.head hr89) hx91 rfl rfl rfl rfl ?_
                    exact SO.nilZ fun a w h1 h2 h3 h4 h5 => PZ.of h1 h3 h5 (.cons () (.cons () (.cons () (.nil ⟨EnvAll.of h2 ⟨rfl, rfl, trivial⟩, h4⟩))))
                  · rintro Fr _
                    refine SO.v rfl (opv_fieldAddr Try.underlying72 rfl Try.sizeOf3 rfl rfl) ?_
                    exact SO.nilZ fun a w h1 h2 h3 h4 h5 => PZ.of h1 h3 h5 (.cons () (.cons () (.nil ⟨EnvAll.of h2 ⟨rfl, rfl, trivial⟩, h4⟩)))
                  · rintro Fr _ _
                    refine SO.load1 rfl Try.isAgg3 rfl rfl ?_
                    exact SO.nilZ fun a w h1 h2 h3 h4 h5 => PZ.of h1 h3 h5 (.cons () (.cons () (.cons () (.nil ⟨EnvAll.of h2 ⟨rfl, rfl, trivial⟩, h4⟩))))
                  · rintro Fr _
                    refine SO.v rfl (opv_add rfl rfl) ?_
                    exact SO.nilZ fun a w h1 h2 h3 h4 h5 => PZ.of h1 h3 h5 (.cons () (.cons () (.nil ⟨EnvAll.of h2 ⟨rfl, rfl, trivial⟩, h4⟩)))
                  · rintro Fr _
                    refine SO.v rfl (opv_conv Try.underlying3 Try.underlying35 rfl) ?_
                    exact SO.nilZ fun a w h1 h2 h3 h4 h5 => PZ.of h1 h3 h5 (.cons () (.cons () (.nil ⟨EnvAll.of h2 ⟨rfl, rfl, trivial⟩, h4⟩)))
                  · rintro Fr _ _
                    refine SO.v rfl (opv_add rfl rfl) ?_
                    exact SO.nilZ fun a w h1 h2 h3 h4 h5 => PZ.of h1 h3 h5 (.cons () (.cons () (.cons () (.nil ⟨EnvAll.of h2 ⟨rfl, rfl, rfl, trivial⟩, h4⟩))))
                  · rintro Fr _ _ _
                    refine SO.v rfl (opv_idx Try.underlying24 Try.sizeOf35 hr89 rfl rfl hx93) ?_
                    exact SO.nilZ fun a w h1 h2 h3 h4 h5 => PZ.of h1 h3 h5 (.cons () (.cons () (.cons () (.cons () (.nil ⟨EnvAll.of h2 ⟨rfl, rfl, rfl, trivial⟩, h4⟩)))))
                  · rintro Fr _ _ _
                    refine SO.storeI1 (j := 0) (z' := wu64 (x90 + (wu64 (w64 (x52.Owing + 1))))) Try.sizeOf35 hx93 rfl rfl rfl rfl rfl rfl ?_
                    refine SO.rd fun hr94 => ?_
                    exact SO.nilZ fun a w h1 h2 h3 h4 h5 => PZ.of h1 h3 h5 (.cons () (.cons () (.cons () (.nil ⟨EnvAll.of h2 ⟨rfl, rfl, trivial⟩, h4⟩))))
                  rintro _ _ _ _ _ _ _ _ _ _
                  refine S.to (ρ' := [(8, .int .i64 x8_4), (0, bp bp0 0), (2, .slice none 0 0), (3, v5), (9, bp b60 0), (10, .int .i64 (w64 (480 + (w64 (8 * x8_4)))))]) ⟨rfl, rfl, rfl, rfl, rfl, rfl, trivial⟩ ?_
                  refine S.rd fun hr95 => ?_
                  refine S.seq ?_
                  refine S.region ?_
                  refine SO.v rfl (opv_move rfl) ?_
                  refine SO.v rfl (opv_move rfl) ?_
                  refine SO.v rfl (opv_add rfl rfl) ?_
                  refine SO.v rfl (opv_fieldAddr Try.underlying72 rfl Try.sizeOf3 rfl rfl) ?_
                  refine SO.b1 ?_
                  refine SO.load1 rfl Try.isAgg3 rfl rfl ?_
                  refine SO.v rfl (opv_conv Try.underlying3 Try.underlying35 rfl) ?_
                  obtain ⟨x96, hx97, h⟩ := opt_bind h
                  refine SO.v rfl (opv_idx Try.underlying24 Try.sizeOf35 hr95 rfl rfl hx97) ?_
                  refine SO.b1 ?_
                  refine SO.storeI1 (j := 0) (z' := wu64 x52.Word) Try.sizeOf35 hx97 rfl rfl rfl rfl rfl rfl ?_
                  refine SO.rd fun hr98 => ?_
                  refine SO.nil ?_
                  refine S.to (ρ' := [(8, .int .i64 x8_4), (0, bp bp0 0), (2, .slice none 0 0), (3, v5), (9, bp b60 0), (10, .int .i64 (w64 (480 + (w64 (8 * x8_4)))))]) ⟨rfl, rfl, rfl, rfl, rfl, rfl, trivial⟩ ?_
                  refine S.seq ?_
                  refine S.region ?_
                  refine SO.v rfl (opv_move rfl) ?_
                  refine SO.v rfl (opv_move rfl) ?_
                  refine SO.v rfl (opv_add rfl rfl) ?_
                  refine SO.v rfl (opv_fieldAddr Try.underlying72 rfl Try.sizeOf3 rfl rfl) ?_
                  refine SO.b1 ?_
                  refine SO.load1 rfl Try.isAgg3 rfl rfl ?_
                  refine SO.v rfl (opv_conv Try.underlying3 Try.underlying35 rfl) ?_
                  obtain ⟨x99, hx100, h⟩ := opt_bind h
                  refine SO.v rfl (opv_idx Try.underlying24 Try.sizeOf35 hr98 rfl rfl hx100) ?_
                  refine SO.b1 ?_
                  refine SO.storeI1 (j := 0) (z' := wu64 x52.Badge) Try.sizeOf35 hx100 rfl rfl rfl rfl rfl rfl ?_
                  refine SO.rd fun hr101 => ?_
                  refine SO.nil ?_
                  refine S.to (ρ' := [(8, .int .i64 x8_4), (0, bp bp0 0), (2, .slice none 0 0), (3, v5), (9, bp b60 0), (10, .int .i64 (w64 (480 + (w64 (8 * x8_4)))))]) ⟨rfl, rfl, rfl, rfl, rfl, rfl, trivial⟩ ?_
                  refine S.seq ?_
                  refine S.region ?_
                  refine SO.v rfl (opv_move rfl) ?_
                  refine SO.v rfl (opv_move rfl) ?_
                  refine SO.v rfl (opv_add rfl rfl) ?_
                  refine SO.v rfl (opv_fieldAddr Try.underlying72 rfl Try.sizeOf3 rfl rfl) ?_
                  refine SO.b1 ?_
                  refine SO.load1 rfl Try.isAgg3 rfl rfl ?_
                  refine SO.v rfl (opv_fieldAddr Try.underlying72 rfl Try.sizeOf3 rfl rfl) ?_
                  refine SO.load1 rfl Try.isAgg3 rfl rfl ?_
                  refine SO.v rfl (opv_add rfl rfl) ?_
                  refine SO.v rfl (opv_mul rfl rfl) ?_
                  refine SO.v rfl (opv_add rfl rfl) ?_
                  refine SO.v rfl (opv_conv Try.underlying3 Try.underlying35 rfl) ?_
                  obtain ⟨x102, hx103, h⟩ := opt_bind h
                  refine SO.v rfl (opv_idx Try.underlying24 Try.sizeOf35 hr101 rfl rfl hx103) ?_
                  refine SO.b1 ?_
                  refine SO.storeI1 (j := 0) (z' := wu64 (w64 (x52.Prio + (w64 (256 * (w64 (x52.On + 1))))))) Try.sizeOf35 hx103 rfl rfl rfl rfl rfl rfl ?_
                  refine SO.rd fun hr104 => ?_
                  refine SO.nil ?_
                  refine S.to (ρ' := [(8, .int .i64 x8_4), (0, bp bp0 0), (2, .slice none 0 0), (3, v5), (9, bp b60 0), (10, .int .i64 (w64 (480 + (w64 (8 * x8_4)))))]) ⟨rfl, rfl, rfl, rfl, rfl, rfl, trivial⟩ ?_
                  refine S.seq ?_
                  refine S.region ?_
                  refine SO.v rfl (opv_move rfl) ?_
                  refine SO.v rfl (opv_move rfl) ?_
                  refine SO.v rfl (opv_add rfl rfl) ?_
                  refine SO.v rfl (opv_fieldAddr Try.underlying72 rfl Try.sizeOf3 rfl rfl) ?_
                  refine SO.b1 ?_
                  refine SO.load1 rfl Try.isAgg3 rfl rfl ?_
                  refine SO.v rfl (opv_add rfl rfl) ?_
                  refine SO.v rfl (opv_conv Try.underlying3 Try.underlying35 rfl) ?_
                  obtain ⟨x105, hx106, h⟩ := opt_bind h
                  refine SO.v rfl (opv_idx Try.underlying24 Try.sizeOf35 hr104 rfl rfl hx106) ?_
                  refine SO.b1 ?_
                  refine SO.storeI1 (j := 0) (z' := wu64 (w64 (x52.Owes + 1))) Try.sizeOf35 hx106 rfl rfl rfl rfl rfl rfl ?_
                  refine SO.rd fun hr107 => ?_
                  refine SO.nil ?_
                  refine S.to (ρ' := [(8, .int .i64 x8_4), (0, bp bp0 0), (2, .slice none 0 0), (3, v5), (9, bp b60 0), (10, .int .i64 (w64 (480 + (w64 (8 * x8_4)))))]) ⟨rfl, rfl, rfl, rfl, rfl, rfl, trivial⟩ ?_
                  refine S.region ?_
                  refine SO.v rfl (opv_move rfl) ?_
                  refine SO.v rfl (opv_move rfl) ?_
                  refine SO.v rfl (opv_add rfl rfl) ?_
                  refine SO.v rfl (opv_fieldAddr Try.underlying72 rfl Try.sizeOf49 rfl rfl) ?_
                  refine SO.b1 ?_
                  refine SO.loadN rfl Try.isAgg49 Try.sizeOf49 rfl rfl rfl ?_
                  obtain ⟨t108, ht109, h⟩ := opt_bind h
                  refine SO.call (pre := []) rfl Try.call37 rfl rfl rfl (ref01_Word.ct _ _ ht109) trivial ?_
                  rintro _ _ ⟨rfl, rfl⟩
                  obtain ⟨x110, hx111, h⟩ := opt_bind h
                  refine SO.v rfl (opv_idx Try.underlying24 Try.sizeOf35 hr107 rfl rfl hx111) ?_
                  refine SO.b1 ?_
                  refine SO.storeI1 (j := 0) (z' := t108) Try.sizeOf35 hx111 rfl rfl rfl rfl rfl rfl ?_
                  refine SO.rd fun hr112 => ?_
                  refine SO.nil ?_
                  refine S.to (ρ' := [(8, .int .i64 x8_4), (0, bp bp0 0), (2, .slice none 0 0), (3, v5), (9, bp b60 0), (10, .int .i64 (w64 (480 + (w64 (8 * x8_4)))))]) ⟨rfl, rfl, rfl, rfl, rfl, rfl, trivial⟩ ?_
                  refine S.inBlock ?_
                  cases h
                  refine S.b5 ?_
                  refine S.b5 ?_
                  refine S.b5 ?_
                  refine S.b5 ?_
                  refine S.b4 ?_
                  refine S.b5 ?_
                  refine S.to ?_ (hk5 () trivial)
                  exact ⟨rfl, rfl, rfl, rfl, rfl, rfl, trivial⟩
                · replace h := cond_f b86 h
                  refine S.condF rfl b86 ?_
                  refine S.seq ?_
                  refine S.region ?_
                  refine SO.v rfl (opv_eql rfl rfl) ?_
                  refine SO.v rfl (opv_assign rfl) ?_
                  refine SO.nil ?_
                  rcases bool_or (x52.Kind == 6) with b113 | b113
                  · replace h := cond_t b113 h
                    refine S.condT rfl b113 ?_
                    refine S.seq ?_
                    refine S.region ?_
                    refine SO.v rfl (opv_move rfl) ?_
                    refine SO.v rfl (opv_move rfl) ?_
                    refine SO.v rfl (opv_add rfl rfl) ?_
                    refine SO.v rfl (opv_fieldAddr Try.underlying72 rfl Try.sizeOf3 rfl rfl) ?_
                    refine SO.load1 rfl Try.isAgg3 rfl rfl ?_
                    refine SO.v rfl (opv_add rfl rfl) ?_
                    refine SO.v rfl (opv_conv Try.underlying3 Try.underlying35 rfl) ?_
                    obtain ⟨x114, hx115, h⟩ := opt_bind h
                    refine SO.v rfl (opv_idx Try.underlying24 Try.sizeOf35 hr63 rfl rfl hx115) ?_
                    refine SO.b1 ?_
                    refine SO.storeI1 (j := 0) (z' := wu64 (w64 (x52.In + 1))) Try.sizeOf35 hx115 rfl rfl rfl rfl rfl rfl ?_
                    refine SO.rd fun hr116 => ?_
                    refine SO.nil ?_
                    refine S.to (ρ' := [(8, .int .i64 x8_4), (0, bp bp0 0), (2, .slice none 0 0), (3, v5), (9, bp b60 0), (10, .int .i64 (w64 (480 + (w64 (8 * x8_4)))))]) ⟨rfl, rfl, rfl, rfl, rfl, rfl, trivial⟩ ?_
                    refine S.region ?_
                    refine SO.v rfl (opv_move rfl) ?_
                    refine SO.v rfl (opv_move rfl) ?_
                    refine SO.v rfl (opv_add rfl rfl) ?_
                    refine SO.v rfl (opv_fieldAddr Try.underlying72 rfl Try.sizeOf3 rfl rfl) ?_
                    refine SO.b1 ?_
                    refine SO.load1 rfl Try.isAgg3 rfl rfl ?_
                    refine SO.v rfl (opv_conv Try.underlying3 Try.underlying35 rfl) ?_
                    obtain ⟨x117, hx118, h⟩ := opt_bind h
                    refine SO.v rfl (opv_idx Try.underlying24 Try.sizeOf35 hr116 rfl rfl hx118) ?_
                    refine SO.b1 ?_
                    refine SO.storeI1 (j := 0) (z' := wu64 x52.Page) Try.sizeOf35 hx118 rfl rfl rfl rfl rfl rfl ?_
                    refine SO.rd fun hr119 => ?_
                    refine SO.nil ?_
                    refine S.to (ρ' := [(8, .int .i64 x8_4), (0, bp bp0 0), (2, .slice none 0 0), (3, v5), (9, bp b60 0), (10, .int .i64 (w64 (480 + (w64 (8 * x8_4)))))]) ⟨rfl, rfl, rfl, rfl, rfl, rfl, trivial⟩ ?_
                    refine S.inBlock ?_
                    cases h
                    refine S.b5 ?_
                    refine S.b5 ?_
                    refine S.b5 ?_
                    refine S.b5 ?_
                    refine S.b4 ?_
                    refine S.b5 ?_
                    refine S.to ?_ (hk5 () trivial)
                    exact ⟨rfl, rfl, rfl, rfl, rfl, rfl, trivial⟩
                  · replace h := cond_f b113 h
                    refine S.condF rfl b113 ?_
                    refine S.seq ?_
                    refine S.region ?_
                    refine SO.v rfl (opv_eql rfl rfl) ?_
                    refine SO.v rfl (opv_assign rfl) ?_
                    refine SO.nil ?_
                    rcases bool_or (x52.Kind == 7) with b120 | b120
                    · replace h := cond_t b120 h
                      refine S.condT rfl b120 ?_
                      refine S.seq ?_
                      refine S.region ?_
                      refine SO.v rfl (opv_assign rfl) ?_
                      refine SO.nil ?_
                      refine S.to (ρ' := [(8, .int .i64 x8_4), (0, bp bp0 0), (2, .slice none 0 0), (3, v5), (9, bp b60 0), (10, .int .i64 (w64 (480 + (w64 (8 * x8_4))))), (11, .int .i64 0)]) ⟨rfl, rfl, rfl, rfl, rfl, rfl, rfl, trivial⟩ ?_
                      obtain ⟨qv5_e6, hl6, h⟩ := opt_bind h
                      refine S.b5 ?_
                      refine S.b5 ?_
                      refine S.b5 ?_
                      refine S.b5 ?_
                      refine S.b5 ?_
                      refine S.b5 ?_
                      refine S.to (ρ' := [(8, .int .i64 x8_4), (0, bp bp0 0), (2, .slice none 0 0), (3, v5), (9, bp b60 0), (10, .int .i64 (w64 (480 + (w64 (8 * x8_4))))), (11, .int .i64 0)]) ⟨rfl, rfl, rfl, rfl, rfl, rfl, rfl, trivial⟩ ?_
                      refine S.forloop (X := (Int × (List Int)) × Unit) (O := (List Int)) (fun m x => ref10_State_Words.l6 x8_4 x52 m x.1) (fun x => match x with | ((x11_6, qv5_6), _) => [(8, .int .i64 x8_4), (0, bp bp0 0), (2, .slice none 0 0), (3, v5), (9, bp b60 0), (10, .int .i64 (w64 (480 + (w64 (8 * x8_4))))), (11, .int .i64 x11_6)]) (fun x => match x with | ((x11_6, qv5_6), _) => [Box b60 [.int .i64 x52.Kind, .int .i64 x52.Size, .int .i64 x52.Used, .int .i64 x52.First, .int .i64 x52.Radix, .int .i64 x52.Wait, u57, .int .i64 x52.Word, .int .i64 x52.State, .int .i64 x52.Owing, .int .i64 x52.Badge, .int .i64 x52.Prio, .int .i64 x52.On, .int .i64 x52.Owes, .int .i64 x52.Root.Kind, .int .i64 x52.Root.Rights, .int .i64 x52.Root.Obj, .int .i64 x52.Root.Badge, .int .i64 x52.Root.Guard, .int .i64 x52.Root.Bits, .int .i64 x52.Pages.a0, .int .i64 x52.Pages.a1, .int .i64 x52.Pages.a2, .int .i64 x52.Pages.a3, .int .i64 x52.Right.a0, .int .i64 x52.Right.a1, .int .i64 x52.Right.a2, .int .i64 x52.Right.a3, .int .i64 x52.In, .int .i64 x52.Page, .int .i64 x52.Bound, .int .i64 x52.Mask], Own 35 (ekI .u64) v5 qv5_6, Box bp0 [v0_Slots, v0_Objs, .int .i64 a0.NS, .int .i64 a0.NO], OwnO 72 kr_ref10_Obj v0_Objs raws_v0_Objs A_v0_Objs a0.Objs, OwnO 81 kr_ref10_Slot v0_Slots raws_v0_Slots A_v0_Slots a0.Slots, F]) (fun Sk => (fun qv5_e6 => ∀ _ : Unit, Sk [(0, bp bp0 0), (2, .slice none 0 0), (3, v5), (8, .int .i64 x8_4), (9, bp b60 0), (10, .int .i64 (w64 (480 + (w64 (8 * x8_4)))))] [Box b60 [.int .i64 x52.Kind, .int .i64 x52.Size, .int .i64 x52.Used, .int .i64 x52.First, .int .i64 x52.Radix, .int .i64 x52.Wait, u57, .int .i64 x52.Word, .int .i64 x52.State, .int .i64 x52.Owing, .int .i64 x52.Badge, .int .i64 x52.Prio, .int .i64 x52.On, .int .i64 x52.Owes, .int .i64 x52.Root.Kind, .int .i64 x52.Root.Rights, .int .i64 x52.Root.Obj, .int .i64 x52.Root.Badge, .int .i64 x52.Root.Guard, .int .i64 x52.Root.Bits, .int .i64 x52.Pages.a0, .int .i64 x52.Pages.a1, .int .i64 x52.Pages.a2, .int .i64 x52.Pages.a3, .int .i64 x52.Right.a0, .int .i64 x52.Right.a1, .int .i64 x52.Right.a2, .int .i64 x52.Right.a3, .int .i64 x52.In, .int .i64 x52.Page, .int .i64 x52.Bound, .int .i64 x52.Mask], Own 35 (ekI .u64) v5 qv5_e6, Box bp0 [v0_Slots, v0_Objs, .int .i64 a0.NS, .int .i64 a0.NO], OwnO 72 kr_ref10_Obj v0_Objs raws_v0_Objs A_v0_Objs a0.Objs, OwnO 81 kr_ref10_Slot v0_Slots raws_v0_Slots A_v0_Slots a0.Slots, F])) (fun _ => rfl) ?_ (m := k) (x := ((0, qv5_4.set (w64 (480 + (w64 (8 * x8_4)))).toNat (wu64 x52.Kind)), ())) hl6 ?_
                      · clear h hl6
                        intro k x o_6 h hK6 ih6
                        obtain ⟨⟨x11_6, qv5_6⟩, _⟩ := x
                        replace h : ref10_State_Words.l6 x8_4 x52 (k + 1) (x11_6, qv5_6) = some o_6 := h
                        first | rw [ref10_State_Words.l6] at h | unfold ref10_State_Words.l6 at h
                        refine S.b1 ?_
                        refine S.rd fun hr121 => ?_
                        refine S.seq ?_
                        refine S.seq ?_
                        refine S.region ?_
                        refine SO.v rfl (opv_move rfl) ?_
                        refine SO.v rfl (opv_lss rfl rfl) ?_
                        refine SO.nil ?_
                        rcases bool_or (decide (x11_6 < 4)) with b122 | b122
                        · replace h := cond_t b122 h
                          refine S.condT rfl b122 ?_
                          refine S.skip ?_
                          refine S.seq ?_
                          refine S.block ?_
                          refine S.seq ?_
                          refine S.region ?_
                          refine SO.v rfl (opv_move rfl) ?_
                          refine SO.v rfl (opv_fieldAddr Try.underlying72 rfl Try.sizeOf70 rfl rfl) ?_
                          obtain ⟨x123, hx124, h⟩ := opt_bind h
                          refine SO.v rfl (opv_idxA Try.underlying70 Try.sizeOf3 rfl rfl hx124) ?_
                          refine SO.b1 ?_
                          refine SO.load1 (v := .int .i64 x123) rfl Try.isAgg3 rfl (by rcases A4.get_cases hx124 with ⟨h1, h2⟩ | ⟨h1, h2⟩ | ⟨h1, h2⟩ | ⟨h1, h2⟩ <;> simp only [h1, h2] <;> rfl) ?_
                          refine SO.v rfl (opv_geq rfl rfl) ?_
                          refine SO.nil ?_
                          rcases bool_or (decide (0 ≤ x123)) with b125 | b125
                          · replace h := cond_t b125 h
                            refine S.condT rfl b125 ?_
                            obtain ⟨x126, hx127, h⟩ := opt_bind h
                            obtain ⟨x128, hx129, h⟩ := opt_bind h
                            obtain ⟨x130, hx131, h⟩ := opt_bind h
                            refine S.draw' (Z := fun Q => ∀ (_ : Unit) (_ : Unit) (_ : Unit) (_ : Unit) (_ : Unit) (_ : Unit) (_ : Unit) (_ : Unit) (_ : Unit) (_ : Unit) (_ : Unit), Q [(8, .int .i64 x8_4), (0, bp bp0 0), (2, .slice none 0 0), (3, v5), (9, bp b60 0), (10, .int .i64 (w64 (480 + (w64 (8 * x8_4))))), (11, .int .i64 x11_6)] [Box b60 [.int .i64 x52.Kind, .int .i64 x52.Size, .int .i64 x52.Used, .int .i64 x52.First, .int .i64 x52.Radix, .int .i64 x52.Wait, u57, .int .i64 x52.Word, .int .i64 x52.State, .int .i64 x52.Owing, .int .i64 x52.Badge, .int .i64 x52.Prio, .int .i64 x52.On, .int .i64 x52.Owes, .int .i64 x52.Root.Kind, .int .i64 x52.Root.Rights, .int .i64 x52.Root.Obj, .int .i64 x52.Root.Badge, .int .i64 x52.Root.Guard, .int .i64 x52.Root.Bits, .int .i64 x52.Pages.a0, .int .i64 x52.Pages.a1, .int .i64 x52.Pages.a2, .int .i64 x52.Pages.a3, .int .i64 x52.Right.a0, .int .i64 x52.Right.a1, .int .i64 x52.Right.a2, .int .i64 x52.Right.a3, .int .i64 x52.In, .int .i64 x52.Page, .int .i64 x52.Bound, .int .i64 x52.Mask], Own 35 (ekI .u64) v5 (qv5_6.set (w64 ((w64 ((w64 (480 + (w64 (8 * x8_4)))) + 1)) + x11_6)).toNat (wu64 (w64 ((w64 (8 * (w64 (x126 + 1)))) + x128)))), Box bp0 [v0_Slots, v0_Objs, .int .i64 a0.NS, .int .i64 a0.NO], OwnO 72 kr_ref10_Obj v0_Objs raws_v0_Objs A_v0_Objs a0.Objs, OwnO 81 kr_ref10_Slot v0_Slots raws_v0_Slots A_v0_Slots a0.Slots, F]) (T := [tS 3 (v5), tS 10 (.int .i64 (w64 (480 + (w64 (8 * x8_4))))), tS 11 (.int .i64 x11_6), tS 9 (bp b60 0), tE [(8, .int .i64 x8_4), (0, bp bp0 0), (2, .slice none 0 0)], tR (Box b60 [.int .i64 x52.Kind, .int .i64 x52.Size, .int .i64 x52.Used, .int .i64 x52.First, .int .i64 x52.Radix, .int .i64 x52.Wait, u57, .int .i64 x52.Word, .int .i64 x52.State, .int .i64 x52.Owing, .int .i64 x52.Badge, .int .i64 x52.Prio, .int .i64 x52.On, .int .i64 x52.Owes, .int .i64 x52.Root.Kind, .int .i64 x52.Root.Rights, .int .i64 x52.Root.Obj, .int .i64 x52.Root.Badge, .int .i64 x52.Root.Guard, .int .i64 x52.Root.Bits, .int .i64 x52.Pages.a0, .int .i64 x52.Pages.a1, .int .i64 x52.Pages.a2, .int .i64 x52.Pages.a3, .int .i64 x52.Right.a0, .int .i64 x52.Right.a1, .int .i64 x52.Right.a2, .int .i64 x52.Right.a3, .int .i64 x52.In, .int .i64 x52.Page, .int .i64 x52.Bound, .int .i64 x52.Mask]), tR (Own 35 (ekI .u64) v5 qv5_6), tR (Box bp0 [v0_Slots, v0_Objs, .int .i64 a0.NS, .int .i64 a0.NO]), tR (OwnO 72 kr_ref10_Obj v0_Objs raws_v0_Objs A_v0_Objs a0.Objs), tR (OwnO 81 kr_ref10_Slot v0_Slots raws_v0_Slots A_v0_Slots a0.Slots), tR (F), tS 260 (v5), tS 261 (.int .i64 (w64 (480 + (w64 (8 * x8_4))))), tS 262 (.int .i64 (w64 ((w64 (480 + (w64 (8 * x8_4)))) + 1))), tS 263 (.int .i64 x11_6), tS 264 (.int .i64 (w64 ((w64 ((w64 (480 + (w64 (8 * x8_4)))) + 1)) + x11_6))), tS 265 (.int .i64 x11_6), tS 266 (bp b60 20), tS 267 (bp b60 (20 + x11_6.toNat)), tS 268 (.int .i64 x126), tS 269 (.int .i64 (w64 (x126 + 1))), tS 270 (.int .i64 (w64 (8 * (w64 (x126 + 1))))), tS 271 (.int .i64 x11_6), tS 272 (bp b60 24), tS 273 (bp b60 (24 + x11_6.toNat)), tS 274 (.int .i64 x128), tS 275 (.int .i64 (w64 ((w64 (8 * (w64 (x126 + 1)))) + x128))), tS 276 (.int .u64 (wu64 (w64 ((w64 (8 * (w64 (x126 + 1)))) + x128)))), tS 277 (idxp v5 ((w64 ((w64 ((w64 (480 + (w64 (8 * x8_4)))) + 1)) + x11_6)).toNat * (ekI .u64).sz)), tR (Own 35 (ekI .u64) v5 (qv5_6.set (w64 ((w64 ((w64 (480 + (w64 (8 * x8_4)))) + 1)) + x11_6)).toNat (wu64 (w64 ((w64 (8 * (w64 (x126 + 1)))) + x128)))))]) (D := [⟨[0], [], [11]⟩, ⟨[1], [], [12]⟩, ⟨[12], [], [13]⟩, ⟨[2], [], [14]⟩, ⟨[13, 14], [], [15]⟩, ⟨[2], [], [16]⟩, ⟨[3], [], [17]⟩, ⟨[16, 17, 5], [], [18]⟩, ⟨[18, 5], [], [19]⟩, ⟨[19], [], [20]⟩, ⟨[20], [], [21]⟩, ⟨[2], [], [22]⟩, ⟨[3], [], [23]⟩, ⟨[22, 23, 5], [], [24]⟩, ⟨[24, 5], [], [25]⟩, ⟨[21, 25], [], [26]⟩, ⟨[26], [], [27]⟩, ⟨[11, 15, 6], [], [28]⟩, ⟨[27, 28], [6], [29]⟩]) (ini := [0, 1, 2, 3, 4, 5, 6, 7, 8, 9, 10]) (fin := [4, 0, 3, 1, 2, 5, 29, 7, 8, 9, 10]) (bf := [[], [], [1], [], [1, 2, 3], [], [], [5, 6], [5, 6, 7], [5, 6, 7, 8], [5, 6, 7, 8, 9], [], [], [11, 12], [11, 12, 13], [5, 6, 7, 8, 9, 10, 11, 12, 13, 14], [5, 6, 7, 8, 9, 10, 11, 12, 13, 14, 15], [0, 1, 2, 3, 4, 5, 6, 7, 8, 9, 10, 11, 12, 13, 14, 15, 16], [0, 1, 2, 3, 4, 5, 6, 7, 8, 9, 10, 11, 12, 13, 14, 15, 16, 17]]) (by kernel_rfl) (by kernel_rfl) (fun x w h1 h2 => (.cons () (.cons () (.cons () (.cons () (.cons () (.cons () (.cons () (.cons () (.cons () (.cons () (.cons () (.nil ⟨EnvAll.of h1 ⟨rfl, rfl, rfl, rfl, rfl, rfl, rfl, trivial⟩, h2⟩))))))))))))) (fun Q => by kernel_rfl) ⟨?_, ?_, ?_, ?_, ?_, ?_, ?_, ?_, ?_, ?_, ?_, ?_, ?_, ?_, ?_, ?_, ?_, ?_, ?_, trivial⟩ ?_
                            · rintro Fr _
                              refine SO.v rfl (opv_move rfl) ?_
                              exact SO.nilZ fun a w h1 h2 h3 h4 h5 => PZ.of h1 h3 h5 (.cons () (.cons () (.nil ⟨EnvAll.of h2 ⟨rfl, rfl, trivial⟩, h4⟩)))
                            · rintro Fr _
                              refine SO.v rfl (opv_move rfl) ?_
                              exact SO.nilZ fun a w h1 h2 h3 h4 h5 => PZ.of h1 h3 h5 (.cons () (.cons () (.nil ⟨EnvAll.of h2 ⟨rfl, rfl, trivial⟩, h4⟩)))
                            · rintro Fr _
                              refine SO.v rfl (opv_add rfl rfl) ?_
                              exact SO.nilZ fun a w h1 h2 h3 h4 h5 => PZ.of h1 h3 h5 (.cons () (.cons () (.nil ⟨EnvAll.of h2 ⟨rfl, rfl, trivial⟩, h4⟩)))
                            · rintro Fr _
                              refine SO.v rfl (opv_move rfl) ?_
                              exact SO.nilZ fun a w h1 h2 h3 h4 h5 => PZ.of h1 h3 h5 (.cons () (.cons () (.nil ⟨EnvAll.of h2 ⟨rfl, rfl, trivial⟩, h4⟩)))
                            · rintro Fr _ _
                              refine SO.v rfl (opv_add rfl rfl) ?_
                              exact SO.nilZ fun a w h1 h2 h3 h4 h5 => PZ.of h1 h3 h5 (.cons () (.cons () (.cons () (.nil ⟨EnvAll.of h2 ⟨rfl, rfl, rfl, trivial⟩, h4⟩))))
                            · rintro Fr _
                              refine SO.v rfl (opv_move rfl) ?_
                              exact SO.nilZ fun a w h1 h2 h3 h4 h5 => PZ.of h1 h3 h5 (.cons () (.cons () (.nil ⟨EnvAll.of h2 ⟨rfl, rfl, trivial⟩, h4⟩)))
                            · rintro Fr _
                              refine SO.v rfl (opv_fieldAddr Try.underlying72 rfl Try.sizeOf70 rfl rfl) ?_
                              exact SO.nilZ fun a w h1 h2 h3 h4 h5 => PZ.of h1 h3 h5 (.cons () (.cons () (.nil ⟨EnvAll.of h2 ⟨rfl, rfl, trivial⟩, h4⟩)))
                            · rintro Fr _ _ _
                              refine SO.v rfl (opv_idxA Try.underlying70 Try.sizeOf3 rfl rfl hx127) ?_
                              exact SO.nilZ fun a w h1 h2 h3 h4 h5 => PZ.of h1 h3 h5 (.cons () (.cons () (.cons () (.cons () (.nil ⟨EnvAll.of h2 ⟨rfl, rfl, rfl, trivial⟩, h4⟩)))))
                            · rintro Fr _ _
                              refine SO.load1 (v := .int .i64 x126) rfl Try.isAgg3 rfl (by rcases A4.get_cases hx127 with ⟨h1, h2⟩ | ⟨h1, h2⟩ | ⟨h1, h2⟩ | ⟨h1, h2⟩ <;> simp only [h1, h2] <;> rfl) ?_
                              exact SO.nilZ fun a w h1 h2 h3 h4 h5 => PZ.of h1 h3 h5 (.cons () (.cons () (.cons () (.nil ⟨EnvAll.of h2 ⟨rfl, rfl, trivial⟩, h4⟩))))
                            · rintro Fr _
                              refine SO.v rfl (opv_add rfl rfl) ?_
                              exact SO.nilZ fun a w h1 h2 h3 h4 h5 => PZ.of h1 h3 h5 (.cons () (.cons () (.nil ⟨EnvAll.of h2 ⟨rfl, rfl, trivial⟩, h4⟩)))
                            · rintro Fr _
                              refine SO.v rfl (opv_mul rfl rfl) ?_
                              exact SO.nilZ fun a w h1 h2 h3 h4 h5 => PZ.of h1 h3 h5 (.cons () (.cons () (.nil ⟨EnvAll.of h2 ⟨rfl, rfl, trivial⟩, h4⟩)))
                            · rintro Fr _
                              refine SO.v rfl (opv_move rfl) ?_
                              exact SO.nilZ fun a w h1 h2 h3 h4 h5 => PZ.of h1 h3 h5 (.cons () (.cons () (.nil ⟨EnvAll.of h2 ⟨rfl, rfl, trivial⟩, h4⟩)))
                            · rintro Fr _
                              refine SO.v rfl (opv_fieldAddr Try.underlying72 rfl Try.sizeOf70 rfl rfl) ?_
                              exact SO.nilZ fun a w h1 h2 h3 h4 h5 => PZ.of h1 h3 h5 (.cons () (.cons () (.nil ⟨EnvAll.of h2 ⟨rfl, rfl, trivial⟩, h4⟩)))
                            · rintro Fr _ _ _
                              refine SO.v rfl (opv_idxA Try.underlying70 Try.sizeOf3 rfl rfl hx129) ?_
                              exact SO.nilZ fun a w h1 h2 h3 h4 h5 => PZ.of h1 h3 h5 (.cons () (.cons () (.cons () (.cons () (.nil ⟨EnvAll.of h2 ⟨rfl, rfl, rfl, trivial⟩, h4⟩)))))
                            · rintro Fr _ _
                              refine SO.load1 (v := .int .i64 x128) rfl Try.isAgg3 rfl (by rcases A4.get_cases hx129 with ⟨h1, h2⟩ | ⟨h1, h2⟩ | ⟨h1, h2⟩ | ⟨h1, h2⟩ <;> simp only [h1, h2] <;> rfl) ?_
                              exact SO.nilZ fun a w h1 h2 h3 h4 h5 => PZ.of h1 h3 h5 (.cons () (.cons () (.cons () (.nil ⟨EnvAll.of h2 ⟨rfl, rfl, trivial⟩, h4⟩))))
                            · rintro Fr _ _
                              refine SO.v rfl (opv_add rfl rfl) ?_
                              exact SO.nilZ fun a w h1 h2 h3 h4 h5 => PZ.of h1 h3 h5 (.cons () (.cons () (.cons () (.nil ⟨EnvAll.of h2 ⟨rfl, rfl, rfl, trivial⟩, h4⟩))))
                            · rintro Fr _
                              refine SO.v rfl (opv_conv Try.underlying3 Try.underlying35 rfl) ?_
                              exact SO.nilZ fun a w h1 h2 h3 h4 h5 => PZ.of h1 h3 h5 (.cons () (.cons () (.nil ⟨EnvAll.of h2 ⟨rfl, rfl, trivial⟩, h4⟩)))
                            · rintro Fr _ _ _
                              refine SO.v rfl (opv_idx Try.underlying24 Try.sizeOf35 hr121 rfl rfl hx131) ?_
                              exact SO.nilZ fun a w h1 h2 h3 h4 h5 => PZ.of h1 h3 h5 (.cons () (.cons () (.cons () (.cons () (.nil ⟨EnvAll.of h2 ⟨rfl, rfl, rfl, trivial⟩, h4⟩)))))
                            · rintro Fr _ _ _
                              refine SO.storeI1 (j := 0) (z' := wu64 (w64 ((w64 (8 * (w64 (x126 + 1)))) + x128))) Try.sizeOf35 hx131 rfl rfl rfl rfl rfl rfl ?_
                              refine SO.rd fun hr132 => ?_
                              exact SO.nilZ fun a w h1 h2 h3 h4 h5 => PZ.of h1 h3 h5 (.cons () (.cons () (.cons () (.nil ⟨EnvAll.of h2 ⟨rfl, rfl, trivial⟩, h4⟩))))
                            rintro _ _ _ _ _ _ _ _ _ _ _
                            refine S.to (ρ' := [(8, .int .i64 x8_4), (0, bp bp0 0), (2, .slice none 0 0), (3, v5), (9, bp b60 0), (10, .int .i64 (w64 (480 + (w64 (8 * x8_4))))), (11, .int .i64 x11_6)]) ⟨rfl, rfl, rfl, rfl, rfl, rfl, rfl, trivial⟩ ?_
                            refine S.b1 ?_
                            refine S.rd fun hr133 => ?_
                            refine S.inBlock ?_
                            refine S.region ?_
                            refine SO.v rfl (opv_move rfl) ?_
                            refine SO.v rfl (opv_add rfl rfl) ?_
                            refine SO.v rfl (opv_assign rfl) ?_
                            refine SO.nil ?_
                            refine S.b5 ?_
                            refine S.b5 ?_
                            refine S.b5 ?_
                            refine S.b5 ?_
                            refine S.b4 ?_
                            refine S.b5 ?_
                            refine S.to ?_ (ih6 ((w64 (x11_6 + 1), qv5_6.set (w64 ((w64 ((w64 (480 + (w64 (8 * x8_4)))) + 1)) + x11_6)).toNat (wu64 (w64 ((w64 (8 * (w64 (x126 + 1)))) + x128)))), ()) h)
                            exact ⟨rfl, rfl, rfl, rfl, rfl, rfl, rfl, trivial⟩
                          · replace h := cond_f b125 h
                            refine S.condF rfl b125 ?_
                            refine S.skip ?_
                            refine S.inBlock ?_
                            refine S.region ?_
                            refine SO.v rfl (opv_move rfl) ?_
                            refine SO.v rfl (opv_add rfl rfl) ?_
                            refine SO.v rfl (opv_assign rfl) ?_
                            refine SO.nil ?_
                            refine S.to (ρ' := [(8, .int .i64 x8_4), (0, bp bp0 0), (2, .slice none 0 0), (3, v5), (9, bp b60 0), (10, .int .i64 (w64 (480 + (w64 (8 * x8_4))))), (11, .int .i64 (w64 (x11_6 + 1)))]) ⟨rfl, rfl, rfl, rfl, rfl, rfl, rfl, trivial⟩ ?_
                            refine S.b5 ?_
                            refine S.b5 ?_
                            refine S.b5 ?_
                            refine S.b5 ?_
                            refine S.b5 ?_
                            refine S.b5 ?_
                            refine S.to ?_ (ih6 ((w64 (x11_6 + 1), qv5_6), ()) h)
                            exact ⟨rfl, rfl, rfl, rfl, rfl, rfl, rfl, trivial⟩
                        · replace h := cond_f b122 h
                          refine S.condF rfl b122 ?_
                          refine S.exit rfl ?_
                          cases h
                          refine S.b5 ?_
                          refine S.b5 ?_
                          refine S.b5 ?_
                          refine S.b5 ?_
                          refine S.b4 ?_
                          refine S.b5 ?_
                          refine S.to ?_ (hK6 ())
                          exact ⟨rfl, rfl, rfl, rfl, rfl, rfl, trivial⟩
                      rintro _
                      refine S.b1 ?_
                      refine S.rd fun hr134 => ?_
                      refine S.inBlock ?_
                      cases h
                      refine S.b5 ?_
                      refine S.b5 ?_
                      refine S.b5 ?_
                      refine S.b5 ?_
                      refine S.b4 ?_
                      refine S.b5 ?_
                      refine S.to ?_ (hk5 () trivial)
                      exact ⟨rfl, rfl, rfl, rfl, rfl, rfl, trivial⟩
                    · replace h := cond_f b120 h
                      refine S.condF rfl b120 ?_
                      refine S.seq ?_
                      refine S.region ?_
                      refine SO.v rfl (opv_eql rfl rfl) ?_
                      refine SO.v rfl (opv_assign rfl) ?_
                      refine SO.nil ?_
                      refine S.to (ρ' := [(8, .int .i64 x8_4), (0, bp bp0 0), (2, .slice none 0 0), (3, v5), (9, bp b60 0), (10, .int .i64 (w64 (480 + (w64 (8 * x8_4))))), (278, .bool (x52.Kind == 8))]) ⟨rfl, rfl, rfl, rfl, rfl, rfl, rfl, trivial⟩ ?_
                      rcases bool_or (x52.Kind == 8) with b135 | b135
                      · replace h := cond_t b135 h
                        refine S.condT rfl b135 ?_
                        refine S.seq ?_
                        refine S.region ?_
                        refine SO.v rfl (opv_move rfl) ?_
                        refine SO.v rfl (opv_move rfl) ?_
                        refine SO.v rfl (opv_add rfl rfl) ?_
                        refine SO.v rfl (opv_fieldAddr Try.underlying72 rfl Try.sizeOf3 rfl rfl) ?_
                        refine SO.load1 rfl Try.isAgg3 rfl rfl ?_
                        refine SO.v rfl (opv_add rfl rfl) ?_
                        refine SO.v rfl (opv_conv Try.underlying3 Try.underlying35 rfl) ?_
                        obtain ⟨x136, hx137, h⟩ := opt_bind h
                        refine SO.v rfl (opv_idx Try.underlying24 Try.sizeOf35 hr63 rfl rfl hx137) ?_
                        refine SO.b1 ?_
                        refine SO.storeI1 (j := 0) (z' := wu64 (w64 (x52.Bound + 1))) Try.sizeOf35 hx137 rfl rfl rfl rfl rfl rfl ?_
                        refine SO.rd fun hr138 => ?_
                        refine SO.nil ?_
                        refine S.to (ρ' := [(8, .int .i64 x8_4), (0, bp bp0 0), (2, .slice none 0 0), (3, v5), (9, bp b60 0), (10, .int .i64 (w64 (480 + (w64 (8 * x8_4)))))]) ⟨rfl, rfl, rfl, rfl, rfl, rfl, trivial⟩ ?_
                        refine S.seq ?_
                        refine S.region ?_
                        refine SO.v rfl (opv_move rfl) ?_
                        refine SO.v rfl (opv_move rfl) ?_
                        refine SO.v rfl (opv_add rfl rfl) ?_
                        refine SO.v rfl (opv_fieldAddr Try.underlying72 rfl Try.sizeOf3 rfl rfl) ?_
                        refine SO.b1 ?_
                        refine SO.load1 rfl Try.isAgg3 rfl rfl ?_
                        refine SO.v rfl (opv_conv Try.underlying3 Try.underlying35 rfl) ?_
                        obtain ⟨x139, hx140, h⟩ := opt_bind h
                        refine SO.v rfl (opv_idx Try.underlying24 Try.sizeOf35 hr138 rfl rfl hx140) ?_
                        refine SO.b1 ?_
                        refine SO.storeI1 (j := 0) (z' := wu64 x52.Badge) Try.sizeOf35 hx140 rfl rfl rfl rfl rfl rfl ?_
                        refine SO.rd fun hr141 => ?_
                        refine SO.nil ?_
                        refine S.to (ρ' := [(8, .int .i64 x8_4), (0, bp bp0 0), (2, .slice none 0 0), (3, v5), (9, bp b60 0), (10, .int .i64 (w64 (480 + (w64 (8 * x8_4)))))]) ⟨rfl, rfl, rfl, rfl, rfl, rfl, trivial⟩ ?_
                        refine S.region ?_
                        refine SO.v rfl (opv_move rfl) ?_
                        refine SO.v rfl (opv_move rfl) ?_
                        refine SO.v rfl (opv_add rfl rfl) ?_
                        refine SO.v rfl (opv_fieldAddr Try.underlying72 rfl Try.sizeOf3 rfl rfl) ?_
                        refine SO.b1 ?_
                        refine SO.load1 rfl Try.isAgg3 rfl rfl ?_
                        refine SO.v rfl (opv_conv Try.underlying3 Try.underlying35 rfl) ?_
                        obtain ⟨x142, hx143, h⟩ := opt_bind h
                        refine SO.v rfl (opv_idx Try.underlying24 Try.sizeOf35 hr141 rfl rfl hx143) ?_
                        refine SO.b1 ?_
                        refine SO.storeI1 (j := 0) (z' := wu64 x52.Mask) Try.sizeOf35 hx143 rfl rfl rfl rfl rfl rfl ?_
                        refine SO.rd fun hr144 => ?_
                        refine SO.nil ?_
                        refine S.to (ρ' := [(8, .int .i64 x8_4), (0, bp bp0 0), (2, .slice none 0 0), (3, v5), (9, bp b60 0), (10, .int .i64 (w64 (480 + (w64 (8 * x8_4)))))]) ⟨rfl, rfl, rfl, rfl, rfl, rfl, trivial⟩ ?_
                        refine S.inBlock ?_
                        cases h
                        refine S.b5 ?_
                        refine S.b5 ?_
                        refine S.b5 ?_
                        refine S.b5 ?_
                        refine S.b4 ?_
                        refine S.b5 ?_
                        refine S.to ?_ (hk5 () trivial)
                        exact ⟨rfl, rfl, rfl, rfl, rfl, rfl, trivial⟩
                      · replace h := cond_f b135 h
                        refine S.condF rfl b135 ?_
                        refine S.skip ?_
                        refine S.inBlock ?_
                        cases h
                        refine S.b5 ?_
                        refine S.b5 ?_
                        refine S.b5 ?_
                        refine S.b5 ?_
                        refine S.b5 ?_
                        refine S.b5 ?_
                        refine S.to ?_ (hk5 () trivial)
                        exact ⟨rfl, rfl, rfl, rfl, rfl, rfl, trivial⟩
      rintro _ -
      replace h := hJ5
      refine S.b1 ?_
      refine S.rd fun hr145 => ?_
      refine S.seq ?_
      refine S.region ?_
      refine SO.v rfl (opv_assign rfl) ?_
      refine SO.nil ?_
      obtain ⟨qv5_e7, hl7, h⟩ := opt_bind h
      refine S.b5 ?_
      refine S.b5 ?_
      refine S.b5 ?_
      refine S.b5 ?_
      refine S.b5 ?_
      refine S.b5 ?_
      refine S.to (ρ' := [(12, .int .i64 0), (0, bp bp0 0), (2, .slice none 0 0), (3, v5), (8, .int .i64 x8_4), (9, bp b60 0), (10, .int .i64 (w64 (480 + (w64 (8 * x8_4)))))]) ⟨rfl, rfl, rfl, rfl, rfl, rfl, rfl, trivial⟩ ?_
      refine S.forloop (X := (Int × (List Int)) × Unit) (O := (List Int)) (fun m x => ref10_State_Words.l7 x8_4 x52 m x.1) (fun x => match x with | ((x12_7, qv5_7), _) => [(12, .int .i64 x12_7), (0, bp bp0 0), (2, .slice none 0 0), (3, v5), (8, .int .i64 x8_4), (9, bp b60 0), (10, .int .i64 (w64 (480 + (w64 (8 * x8_4)))))]) (fun x => match x with | ((x12_7, qv5_7), _) => [Own 35 (ekI .u64) v5 qv5_7, Box b60 [.int .i64 x52.Kind, .int .i64 x52.Size, .int .i64 x52.Used, .int .i64 x52.First, .int .i64 x52.Radix, .int .i64 x52.Wait, u57, .int .i64 x52.Word, .int .i64 x52.State, .int .i64 x52.Owing, .int .i64 x52.Badge, .int .i64 x52.Prio, .int .i64 x52.On, .int .i64 x52.Owes, .int .i64 x52.Root.Kind, .int .i64 x52.Root.Rights, .int .i64 x52.Root.Obj, .int .i64 x52.Root.Badge, .int .i64 x52.Root.Guard, .int .i64 x52.Root.Bits, .int .i64 x52.Pages.a0, .int .i64 x52.Pages.a1, .int .i64 x52.Pages.a2, .int .i64 x52.Pages.a3, .int .i64 x52.Right.a0, .int .i64 x52.Right.a1, .int .i64 x52.Right.a2, .int .i64 x52.Right.a3, .int .i64 x52.In, .int .i64 x52.Page, .int .i64 x52.Bound, .int .i64 x52.Mask], Box bp0 [v0_Slots, v0_Objs, .int .i64 a0.NS, .int .i64 a0.NO], OwnO 72 kr_ref10_Obj v0_Objs raws_v0_Objs A_v0_Objs a0.Objs, OwnO 81 kr_ref10_Slot v0_Slots raws_v0_Slots A_v0_Slots a0.Slots, F]) (fun Sk => (fun qv5_e7 => ∀ _ : Unit, Sk [(0, bp bp0 0), (2, .slice none 0 0), (3, v5), (8, .int .i64 x8_4)] [Own 35 (ekI .u64) v5 qv5_e7, Box b60 [.int .i64 x52.Kind, .int .i64 x52.Size, .int .i64 x52.Used, .int .i64 x52.First, .int .i64 x52.Radix, .int .i64 x52.Wait, u57, .int .i64 x52.Word, .int .i64 x52.State, .int .i64 x52.Owing, .int .i64 x52.Badge, .int .i64 x52.Prio, .int .i64 x52.On, .int .i64 x52.Owes, .int .i64 x52.Root.Kind, .int .i64 x52.Root.Rights, .int .i64 x52.Root.Obj, .int .i64 x52.Root.Badge, .int .i64 x52.Root.Guard, .int .i64 x52.Root.Bits, .int .i64 x52.Pages.a0, .int .i64 x52.Pages.a1, .int .i64 x52.Pages.a2, .int .i64 x52.Pages.a3, .int .i64 x52.Right.a0, .int .i64 x52.Right.a1, .int .i64 x52.Right.a2, .int .i64 x52.Right.a3, .int .i64 x52.In, .int .i64 x52.Page, .int .i64 x52.Bound, .int .i64 x52.Mask], Box bp0 [v0_Slots, v0_Objs, .int .i64 a0.NS, .int .i64 a0.NO], OwnO 72 kr_ref10_Obj v0_Objs raws_v0_Objs A_v0_Objs a0.Objs, OwnO 81 kr_ref10_Slot v0_Slots raws_v0_Slots A_v0_Slots a0.Slots, F])) (fun _ => rfl) ?_ (m := k) (x := ((0, qv5_5), ())) hl7 ?_
      · clear h hl7
        intro k x o_7 h hK7 ih7
        obtain ⟨⟨x12_7, qv5_7⟩, _⟩ := x
        replace h : ref10_State_Words.l7 x8_4 x52 (k + 1) (x12_7, qv5_7) = some o_7 := h
        first | rw [ref10_State_Words.l7] at h | unfold ref10_State_Words.l7 at h
        refine S.rd fun hr146 => ?_
        refine S.seq ?_
        refine S.seq ?_
        refine S.region ?_
        refine SO.v rfl (opv_move rfl) ?_
        refine SO.v rfl (opv_fieldAddr Try.underlying72 rfl Try.sizeOf29 rfl rfl) ?_
        refine SO.b1 ?_
        refine SO.load1 rfl Try.isAgg29 rfl rfl ?_
        refine SO.v rfl (opv_lenR rfl Try.underlying29 hru58 rfl) ?_
        refine SO.v rfl (opv_lss rfl rfl) ?_
        refine SO.nil ?_
        rcases bool_or (decide (x12_7 < (x52.Queue.length : Int))) with b147 | b147
        · replace h := cond_t b147 h
          refine S.condT rfl b147 ?_
          refine S.skip ?_
          refine S.seq ?_
          refine S.block ?_
          refine S.seq ?_
          refine S.region ?_
          refine SO.v rfl (opv_fieldAddr Try.underlying72 rfl Try.sizeOf29 rfl rfl) ?_
          refine SO.load1 rfl Try.isAgg29 rfl rfl ?_
          refine SO.v rfl (opv_move rfl) ?_
          obtain ⟨x148, hx149, h⟩ := opt_bind h
          refine SO.v rfl (opv_idx Try.underlying29 Try.sizeOf3 hru58 rfl rfl hx149) ?_
          refine SO.loadI1 (j := 0) rfl Try.isAgg3 (Rd.tail (Rd.tail (Rd.tail (Rd.head (Rd.pool hru58))))) hx149 rfl rfl rfl rfl ?_
          refine SO.v rfl (opv_assign rfl) ?_
          refine SO.nil ?_
          refine S.to (ρ' := [(12, .int .i64 x12_7), (0, bp bp0 0), (2, .slice none 0 0), (3, v5), (8, .int .i64 x8_4), (9, bp b60 0), (10, .int .i64 (w64 (480 + (w64 (8 * x8_4))))), (13, .int .i64 x148)]) ⟨rfl, rfl, rfl, rfl, rfl, rfl, rfl, rfl, trivial⟩ ?_
          refine S.seq ?_
          refine S.seq ?_
          refine S.region ?_
          refine SO.v rfl (opv_move rfl) ?_
          refine SO.v rfl (opv_eql rfl rfl) ?_
          refine SO.nil ?_
          obtain ⟨qv5_8, hC8, hJ8⟩ := opt_bind h
          clear h
          refine S.cutP (G := Unit) (fun _ => True) (fun _ => [(0, bp bp0 0), (2, .slice none 0 0), (3, v5), (8, .int .i64 x8_4), (9, bp b60 0), (10, .int .i64 (w64 (480 + (w64 (8 * x8_4))))), (12, .int .i64 x12_7), (13, .int .i64 x148)]) (fun _ => [Box b60 [.int .i64 x52.Kind, .int .i64 x52.Size, .int .i64 x52.Used, .int .i64 x52.First, .int .i64 x52.Radix, .int .i64 x52.Wait, u57, .int .i64 x52.Word, .int .i64 x52.State, .int .i64 x52.Owing, .int .i64 x52.Badge, .int .i64 x52.Prio, .int .i64 x52.On, .int .i64 x52.Owes, .int .i64 x52.Root.Kind, .int .i64 x52.Root.Rights, .int .i64 x52.Root.Obj, .int .i64 x52.Root.Badge, .int .i64 x52.Root.Guard, .int .i64 x52.Root.Bits, .int .i64 x52.Pages.a0, .int .i64 x52.Pages.a1, .int .i64 x52.Pages.a2, .int .i64 x52.Pages.a3, .int .i64 x52.Right.a0, .int .i64 x52.Right.a1, .int .i64 x52.Right.a2, .int .i64 x52.Right.a3, .int .i64 x52.In, .int .i64 x52.Page, .int .i64 x52.Bound, .int .i64 x52.Mask], Own 35 (ekI .u64) v5 qv5_8, Box bp0 [v0_Slots, v0_Objs, .int .i64 a0.NS, .int .i64 a0.NO], OwnO 72 kr_ref10_Obj v0_Objs raws_v0_Objs A_v0_Objs a0.Objs, OwnO 81 kr_ref10_Slot v0_Slots raws_v0_Slots A_v0_Slots a0.Slots, F]) (fun hk8 => ?_) ?_
          · replace h := hC8
            rcases bool_or (x12_7 == 0) with b150 | b150
            · replace h := cond_t b150 h
              refine S.condT rfl b150 ?_
              refine S.region ?_
              refine SO.v rfl (opv_move rfl) ?_
              refine SO.v rfl (opv_move rfl) ?_
              refine SO.v rfl (opv_add rfl rfl) ?_
              refine SO.v rfl (opv_move rfl) ?_
              refine SO.v rfl (opv_add rfl rfl) ?_
              refine SO.v rfl (opv_conv Try.underlying3 Try.underlying35 rfl) ?_
              obtain ⟨x151, hx152, h⟩ := opt_bind h
              refine SO.v rfl (opv_idx Try.underlying24 Try.sizeOf35 hr146 rfl rfl hx152) ?_
              refine SO.b1 ?_
              refine SO.storeI1 (j := 0) (z' := wu64 (w64 (x148 + 1))) Try.sizeOf35 hx152 rfl rfl rfl rfl rfl rfl ?_
              refine SO.rd fun hr153 => ?_
              refine SO.nil ?_
              refine S.to (ρ' := [(12, .int .i64 x12_7), (0, bp bp0 0), (2, .slice none 0 0), (3, v5), (8, .int .i64 x8_4), (9, bp b60 0), (10, .int .i64 (w64 (480 + (w64 (8 * x8_4))))), (13, .int .i64 x148)]) ⟨rfl, rfl, rfl, rfl, rfl, rfl, rfl, rfl, trivial⟩ ?_
              cases h
              refine S.b5 ?_
              refine S.b5 ?_
              refine S.b5 ?_
              refine S.b5 ?_
              refine S.b4 ?_
              refine S.b5 ?_
              refine S.to ?_ (hk8 () trivial)
              exact ⟨rfl, rfl, rfl, rfl, rfl, rfl, rfl, rfl, trivial⟩
            · replace h := cond_f b150 h
              refine S.condF rfl b150 ?_
              refine S.skip ?_
              cases h
              refine S.b5 ?_
              refine S.b5 ?_
              refine S.b5 ?_
              refine S.b5 ?_
              refine S.b5 ?_
              refine S.b5 ?_
              refine S.to ?_ (hk8 () trivial)
              exact ⟨rfl, rfl, rfl, rfl, rfl, rfl, rfl, rfl, trivial⟩
          rintro _ -
          replace h := hJ8
          refine S.b1 ?_
          refine S.rd fun hr154 => ?_
          refine S.seq ?_
          refine S.region ?_
          refine SO.v rfl (opv_move rfl) ?_
          refine SO.v rfl (opv_add rfl rfl) ?_
          refine SO.v rfl (opv_fieldAddr Try.underlying72 rfl Try.sizeOf29 rfl rfl) ?_
          refine SO.b1 ?_
          refine SO.load1 rfl Try.isAgg29 rfl rfl ?_
          refine SO.v rfl (opv_lenR rfl Try.underlying29 hru58 rfl) ?_
          refine SO.v rfl (opv_lss rfl rfl) ?_
          refine SO.nil ?_
          rcases bool_or (decide ((w64 (x12_7 + 1)) < (x52.Queue.length : Int))) with b155 | b155
          · replace h := cond_t b155 h
            refine S.condT rfl b155 ?_
            refine S.region ?_
            refine SO.v rfl (opv_move rfl) ?_
            refine SO.v rfl (opv_move rfl) ?_
            refine SO.v rfl (opv_mul rfl rfl) ?_
            refine SO.v rfl (opv_add rfl rfl) ?_
            refine SO.v rfl (opv_add rfl rfl) ?_
            refine SO.v rfl (opv_fieldAddr Try.underlying72 rfl Try.sizeOf29 rfl rfl) ?_
            refine SO.load1 rfl Try.isAgg29 rfl rfl ?_
            refine SO.v rfl (opv_move rfl) ?_
            refine SO.v rfl (opv_add rfl rfl) ?_
            obtain ⟨x156, hx157, h⟩ := opt_bind h
            refine SO.v rfl (opv_idx Try.underlying29 Try.sizeOf3 hru58 rfl rfl hx157) ?_
            refine SO.loadI1 (j := 0) rfl Try.isAgg3 (Rd.tail (Rd.tail (Rd.tail (Rd.head (Rd.pool hru58))))) hx157 rfl rfl rfl rfl ?_
            refine SO.v rfl (opv_add rfl rfl) ?_
            refine SO.v rfl (opv_conv Try.underlying3 Try.underlying35 rfl) ?_
            obtain ⟨x158, hx159, h⟩ := opt_bind h
            refine SO.v rfl (opv_idx Try.underlying24 Try.sizeOf35 hr154 rfl rfl hx159) ?_
            refine SO.b1 ?_
            refine SO.storeI1 (j := 0) (z' := wu64 (w64 (x156 + 1))) Try.sizeOf35 hx159 rfl rfl rfl rfl rfl rfl ?_
            refine SO.rd fun hr160 => ?_
            refine SO.nil ?_
            refine S.to (ρ' := [(0, bp bp0 0), (2, .slice none 0 0), (3, v5), (8, .int .i64 x8_4), (9, bp b60 0), (10, .int .i64 (w64 (480 + (w64 (8 * x8_4))))), (12, .int .i64 x12_7)]) ⟨rfl, rfl, rfl, rfl, rfl, rfl, rfl, trivial⟩ ?_
            refine S.inBlock ?_
            refine S.region ?_
            refine SO.v rfl (opv_move rfl) ?_
            refine SO.v rfl (opv_add rfl rfl) ?_
            refine SO.v rfl (opv_assign rfl) ?_
            refine SO.nil ?_
            refine S.b5 ?_
            refine S.b5 ?_
            refine S.b5 ?_
            refine S.b5 ?_
            refine S.b5 ?_
            refine S.b5 ?_
            refine S.to ?_ (ih7 ((w64 (x12_7 + 1), qv5_8.set (w64 ((w64 (480 + (w64 (8 * x148)))) + 2)).toNat (wu64 (w64 (x156 + 1)))), ()) h)
            exact ⟨rfl, rfl, rfl, rfl, rfl, rfl, rfl, trivial⟩
          · replace h := cond_f b155 h
            refine S.condF rfl b155 ?_
            refine S.region ?_
            refine SO.v rfl (opv_move rfl) ?_
            refine SO.v rfl (opv_move rfl) ?_
            refine SO.v rfl (opv_add rfl rfl) ?_
            refine SO.v rfl (opv_move rfl) ?_
            refine SO.v rfl (opv_add rfl rfl) ?_
            refine SO.v rfl (opv_conv Try.underlying3 Try.underlying35 rfl) ?_
            obtain ⟨x161, hx162, h⟩ := opt_bind h
            refine SO.v rfl (opv_idx Try.underlying24 Try.sizeOf35 hr154 rfl rfl hx162) ?_
            refine SO.b1 ?_
            refine SO.storeI1 (j := 0) (z' := wu64 (w64 (x148 + 1))) Try.sizeOf35 hx162 rfl rfl rfl rfl rfl rfl ?_
            refine SO.rd fun hr163 => ?_
            refine SO.nil ?_
            refine S.to (ρ' := [(0, bp bp0 0), (2, .slice none 0 0), (3, v5), (8, .int .i64 x8_4), (9, bp b60 0), (10, .int .i64 (w64 (480 + (w64 (8 * x8_4))))), (12, .int .i64 x12_7)]) ⟨rfl, rfl, rfl, rfl, rfl, rfl, rfl, trivial⟩ ?_
            refine S.inBlock ?_
            refine S.region ?_
            refine SO.v rfl (opv_move rfl) ?_
            refine SO.v rfl (opv_add rfl rfl) ?_
            refine SO.v rfl (opv_assign rfl) ?_
            refine SO.nil ?_
            refine S.b5 ?_
            refine S.b5 ?_
            refine S.b5 ?_
            refine S.b5 ?_
            refine S.b5 ?_
            refine S.b5 ?_
            refine S.to ?_ (ih7 ((w64 (x12_7 + 1), qv5_8.set (w64 ((w64 (480 + (w64 (8 * x8_4)))) + 3)).toNat (wu64 (w64 (x148 + 1)))), ()) h)
            exact ⟨rfl, rfl, rfl, rfl, rfl, rfl, rfl, trivial⟩
        · replace h := cond_f b147 h
          refine S.condF rfl b147 ?_
          refine S.exit rfl ?_
          cases h
          refine S.b5 ?_
          refine S.b5 ?_
          refine S.b5 ?_
          refine S.b5 ?_
          refine S.b4 ?_
          refine S.b5 ?_
          refine S.to ?_ (hK7 ())
          exact ⟨rfl, rfl, rfl, rfl, trivial⟩
      rintro _
      refine S.rd fun hr164 => ?_
      refine S.inBlock ?_
      refine S.region ?_
      refine SO.v rfl (opv_move rfl) ?_
      refine SO.v rfl (opv_add rfl rfl) ?_
      refine SO.v rfl (opv_assign rfl) ?_
      refine SO.nil ?_
      refine S.b1 ?_
      refine S.drop ?_
      refine S.b4 ?_
      refine S.b2 ?_
      refine S.b4 ?_
      refine S.b4 ?_
      refine S.b4 ?_
      refine S.to ?_ (ih4 ((w64 (x8_4 + 1), qv5_e7), ()) h)
      exact ⟨rfl, rfl, rfl, rfl, trivial⟩
    · replace h := cond_f b51 h
      refine S.condF rfl b51 ?_
      refine S.exit rfl ?_
      cases h
      refine S.b4 ?_
      refine S.b4 ?_
      refine S.b4 ?_
      refine S.b4 ?_
      refine S.b4 ?_
      refine S.to ?_ (hK4 ())
      exact ⟨rfl, rfl, rfl, trivial⟩
  rintro _
  refine S.rd fun hr165 => ?_
  refine S.seq ?_
  refine S.region ?_
  refine SO.v rfl (opv_move rfl) ?_
  refine SO.v rfl (opv_move rfl) ?_
  refine SO.v rfl (opv_nilCheck rfl) ?_
  refine SO.v rfl (opv_fieldAddr Try.underlying76 rfl Try.sizeOf3 rfl rfl) ?_
  refine SO.b3 ?_
  refine SO.load1 rfl Try.isAgg3 rfl rfl ?_
  refine SO.v rfl (opv_conv Try.underlying3 Try.underlying35 rfl) ?_
  obtain ⟨x166, hx167, h⟩ := opt_bind h
  refine SO.v rfl (opv_idx Try.underlying24 Try.sizeOf35 hr165 rfl rfl hx167) ?_
  refine SO.b1 ?_
  refine SO.storeI1 (j := 0) (z' := wu64 a0.NS) Try.sizeOf35 hx167 rfl rfl rfl rfl rfl rfl ?_
  refine SO.rd fun hr168 => ?_
  refine SO.nil ?_
  refine S.to (ρ' := [(0, bp bp0 0), (2, .slice none 0 0), (3, v5)]) ⟨rfl, rfl, rfl, trivial⟩ ?_
  refine S.seq ?_
  refine S.region ?_
  refine SO.v rfl (opv_move rfl) ?_
  refine SO.v rfl (opv_move rfl) ?_
  refine SO.v rfl (opv_nilCheck rfl) ?_
  refine SO.v rfl (opv_fieldAddr Try.underlying76 rfl Try.sizeOf3 rfl rfl) ?_
  refine SO.b1 ?_
  refine SO.load1 rfl Try.isAgg3 rfl rfl ?_
  refine SO.v rfl (opv_conv Try.underlying3 Try.underlying35 rfl) ?_
  obtain ⟨x169, hx170, h⟩ := opt_bind h
  refine SO.v rfl (opv_idx Try.underlying24 Try.sizeOf35 hr168 rfl rfl hx170) ?_
  refine SO.b1 ?_
  refine SO.storeI1 (j := 0) (z' := wu64 a0.NO) Try.sizeOf35 hx170 rfl rfl rfl rfl rfl rfl ?_
  refine SO.rd fun hr171 => ?_
  refine SO.nil ?_
  refine S.to (ρ' := [(2, .slice none 0 0), (3, v5)]) ⟨rfl, rfl, trivial⟩ ?_
  refine S.seq ?_
  refine S.region ?_
  refine SO.v rfl (opv_move rfl) ?_
  refine SO.v rfl (opv_assign rfl) ?_
  refine SO.nil ?_
  cases h
  refine S.b4 ?_
  refine S.b3 ?_
  refine S.b4 ?_
  refine S.b4 ?_
  refine S.b4 ?_
  exact S.ret1 Try.func8 rfl rfl (fun w hs hk => hR w _ _ ⟨v5, rfl, rfl⟩ hs hk)
end Go.Proofs
namespace Go.Proofs
open Go.Sl Go.RowKit
/-! 6 padstone/padstonelaw15.up -/
def law15_up.f (k : Nat) : Option (Bool) :=
  (ref10_Boot.f k 2).bind fun t1 => (ref10_State_Words.f k t1).bind fun t13 => (VM.run plainI (endp_Send.f k 5 0 2 7 false) t13).bind fun ((t17, t18), s20) => (VM.run plainI (endp_Recv.f k 5 1) s20).bind fun ((t22, t23, t24), s26) => (VM.run plainI (endp_On.f 0) s26).bind fun ((t29, t30), s32) => (bif ((t17 && t18.isNone) && t23) && t24.isNone then (some (t22.Word == 7)) else (some false)).bind fun c38 => (bif c38 then (some (t22.Badge == 2)) else (some false)).bind fun c41 => (bif c41 then ((VM.run plainI (endp_State.f 0) s32).bind fun (t48, s50) => some (t48 == 1, s50)) else (some (false, s32))).bind fun (c44, w46) => some (c44 && (!t30))
set_option maxHeartbeats 8000000 in
set_option maxRecDepth 100000 in
theorem law15_up.ct (k : Nat) (r0 : Bool) (h : law15_up.f k  = some r0) :
    Ct Try.prog 6 [] (fun _ => True) [] (fun u H' => u = .bool r0 ∧ H' = []) := by
  unfold law15_up.f at h
  refine Ct.intro (n := 62) Try.func6 rfl rfl rfl ?_
  intro R w0 F hF hR
  refine S.seq ?_
  refine S.region ?_
  refine SO.v rfl (opv_assign rfl) ?_
  refine SO.nil ?_
  refine S.seq ?_
  refine S.region ?_
  obtain ⟨t1, ht2, h⟩ := opt_bind h
  refine SO.call (pre := []) rfl Try.call7 rfl rfl rfl (ref10_Boot.ct _ _ _ ht2) trivial ?_
  rintro _ _ ⟨b3, u4_Slots, u4_Objs, rfl, rfl⟩
  obtain ⟨t13, ht14, h⟩ := opt_bind h
  refine SO.b1 ?_
  refine SO.openR fun raws5 A6 hrel7 hR8 => ?_
  refine SO.b2 ?_
  refine SO.openR fun raws9 A10 hrel11 hR12 => ?_
  refine SO.b1 ?_
  refine SO.b2 ?_
  refine SO.call (pre := [Box _ _, OwnO _ _ _ _ _ _, OwnO _ _ _ _ _ _]) rfl Try.call8 rfl rfl rfl (ref10_State_Words.ct _ b3 u4_Slots u4_Objs raws5 A6 raws9 A10 _ _ ht14) trivial ?_
  rintro v15 _ ⟨_, rfl, rfl⟩
  refine SO.rd fun hr16 => ?_
  refine SO.v rfl (opv_assign rfl) ?_
  refine SO.nil ?_
  refine S.seq ?_
  refine S.region ?_
  refine SO.v rfl (opv_move rfl) ?_
  refine SO.v rfl (opv_iface Try.underlying25 rfl rfl) ?_
  obtain ⟨⟨⟨t17, t18⟩, s20⟩, ht19, h⟩ := opt_bind h
  refine SO.call (pre := [(plainV v15).rep _]) rfl Try.call11 rfl rfl rfl (endp_Send.ct (plainV v15) _ _ _ _ _ _ _ _ _ _ ht19) trivial ?_
  rintro _ _ ⟨rfl, rfl⟩
  refine headEq (plainV_rep _ _) ?_
  refine SO.rd fun hr21 => ?_
  refine SO.v rfl (opv_move rfl) ?_
  refine SO.v rfl (opv_extract rfl rfl) ?_
  refine SO.v rfl (opv_extract rfl rfl) ?_
  refine SO.v rfl (opv_assign rfl) ?_
  refine SO.v rfl (opv_assign rfl) ?_
  refine SO.nil ?_
  refine S.to (ρ' := [(0, .bool false), (1, v15), (2, .bool t17), (3, errV 44 t18)]) ⟨rfl, rfl, rfl, rfl, trivial⟩ ?_
  refine S.seq ?_
  refine S.region ?_
  refine SO.v rfl (opv_move rfl) ?_
  refine SO.v rfl (opv_iface Try.underlying25 rfl rfl) ?_
  obtain ⟨⟨⟨t22, t23, t24⟩, s26⟩, ht25, h⟩ := opt_bind h
  refine SO.call (pre := [(plainV v15).rep _]) rfl Try.call12 rfl rfl rfl (endp_Recv.ct (plainV v15) _ _ _ _ _ _ _ _ ht25) trivial ?_
  rintro _ _ ⟨rfl, rfl⟩
  refine headEq (plainV_rep _ _) ?_
  refine SO.rd fun hr27 => ?_
  refine SO.v rfl (opv_move rfl) ?_
  refine SO.v rfl (opv_extract rfl rfl) ?_
  refine SO.v rfl (opv_extract rfl rfl) ?_
  refine SO.v rfl (opv_extract rfl rfl) ?_
  refine SO.alloc rfl Try.zeroValue41 rfl (fun b28 => ?_)
  refine SO.storeN Try.sizeOf41 rfl rfl rfl rfl rfl rfl ?_
  refine SO.v rfl (opv_assign rfl) ?_
  refine SO.v rfl (opv_assign rfl) ?_
  refine SO.nil ?_
  refine S.to (ρ' := [(0, .bool false), (1, v15), (2, .bool t17), (3, errV 44 t18), (4, bp b28 0), (5, .bool t23), (6, errV 44 t24)]) ⟨rfl, rfl, rfl, rfl, rfl, rfl, rfl, trivial⟩ ?_
  refine S.seq ?_
  refine S.region ?_
  refine SO.v rfl (opv_move rfl) ?_
  refine SO.v rfl (opv_iface Try.underlying25 rfl rfl) ?_
  obtain ⟨⟨⟨t29, t30⟩, s32⟩, ht31, h⟩ := opt_bind h
  refine SO.b1 ?_
  refine SO.call (pre := [(plainV v15).rep _]) rfl Try.call19 rfl rfl rfl (endp_On.ct (plainV v15) _ _ _ _ _ ht31) trivial ?_
  rintro _ _ ⟨rfl, rfl⟩
  refine headEq (plainV_rep _ _) ?_
  refine SO.rd fun hr33 => ?_
  refine SO.v rfl (opv_move rfl) ?_
  refine SO.v rfl (opv_extract rfl rfl) ?_
  refine SO.v rfl (opv_extract rfl rfl) ?_
  refine SO.v rfl (opv_assign rfl) ?_
  refine SO.v rfl (opv_assign rfl) ?_
  refine SO.nil ?_
  refine S.to (ρ' := [(0, .bool false), (1, v15), (2, .bool t17), (3, errV 44 t18), (4, bp b28 0), (5, .bool t23), (6, errV 44 t24), (8, .bool t30)]) ⟨rfl, rfl, rfl, rfl, rfl, rfl, rfl, rfl, trivial⟩ ?_
  refine S.seq ?_
  refine S.region ?_
  refine SO.v rfl (opv_move rfl) ?_
  refine SO.v rfl (opv_move rfl) ?_
  refine SO.cut 3 34 (.bool (t17 && t18.isNone)) [Own 35 (ekI .u64) v15 s32, Box b28 [.int .i64 t22.Code, .int .i64 t22.Word, .int .i64 t22.Badge], Box b3 [u4_Slots, u4_Objs, .int .i64 t1.NS, .int .i64 t1.NO], OwnO 81 kr_ref10_Slot u4_Slots raws5 A6 t1.Slots, OwnO 72 kr_ref10_Obj u4_Objs raws9 A10 t1.Objs, F] (fun l2 hk2 => ?_) ?_
  · rcases bool_or t17 with b34 | b34
    · refine SO.takeT rfl rfl rfl b34 ?_
      refine SO.v rfl (opv_move rfl) ?_
      refine SO.takeT rfl rfl rfl b34 ?_
      refine SO.v rfl (opv_eqlN (e := t18) Try.underlying37 rfl) ?_
      refine SO.v rfl (opv_pick_t' b34 rfl rfl) ?_
      refine SO.b5 ?_
      refine SO.b5 ?_
      refine SO.b5 ?_
      refine SO.b5 ?_
      refine SO.b5 ?_
      refine SO.b5 ?_
      exact hk2.fitc (m := 3) rfl (and_t b34) rfl
    · refine SO.passF rfl rfl rfl b34 rfl rfl ?_
      refine SO.passF rfl rfl rfl b34 rfl rfl ?_
      refine SO.v rfl (opv_pick_f' b34 rfl rfl) ?_
      refine SO.b5 ?_
      refine SO.b5 ?_
      refine SO.b5 ?_
      refine SO.b5 ?_
      refine SO.b5 ?_
      refine SO.b5 ?_
      exact hk2.fitc (m := 3) rfl (and_f b34) rfl
  refine SO.v rfl (opv_move rfl) ?_
  refine SO.cut 2 37 (.bool ((t17 && t18.isNone) && t23)) [Own 35 (ekI .u64) v15 s32, Box b28 [.int .i64 t22.Code, .int .i64 t22.Word, .int .i64 t22.Badge], Box b3 [u4_Slots, u4_Objs, .int .i64 t1.NS, .int .i64 t1.NO], OwnO 81 kr_ref10_Slot u4_Slots raws5 A6 t1.Slots, OwnO 72 kr_ref10_Obj u4_Objs raws9 A10 t1.Objs, F] (fun l2 hk2 => ?_) ?_
  · rcases bool_or (t17 && t18.isNone) with b35 | b35
    · refine SO.takeT rfl rfl rfl b35 ?_
      refine SO.v rfl (opv_move rfl) ?_
      refine SO.v rfl (opv_pick_t' b35 rfl rfl) ?_
      refine SO.b5 ?_
      refine SO.b5 ?_
      refine SO.b5 ?_
      refine SO.b5 ?_
      refine SO.b5 ?_
      refine SO.b5 ?_
      exact hk2.fitc (m := 2) rfl (and_t b35) rfl
    · refine SO.passF rfl rfl rfl b35 rfl rfl ?_
      refine SO.v rfl (opv_pick_f' b35 rfl rfl) ?_
      refine SO.b5 ?_
      refine SO.b5 ?_
      refine SO.b5 ?_
      refine SO.b5 ?_
      refine SO.b5 ?_
      refine SO.b5 ?_
      exact hk2.fitc (m := 2) rfl (and_f b35) rfl
  refine SO.v rfl (opv_move rfl) ?_
  refine SO.cut 3 41 (.bool (((t17 && t18.isNone) && t23) && t24.isNone)) [Own 35 (ekI .u64) v15 s32, Box b28 [.int .i64 t22.Code, .int .i64 t22.Word, .int .i64 t22.Badge], Box b3 [u4_Slots, u4_Objs, .int .i64 t1.NS, .int .i64 t1.NO], OwnO 81 kr_ref10_Slot u4_Slots raws5 A6 t1.Slots, OwnO 72 kr_ref10_Obj u4_Objs raws9 A10 t1.Objs, F] (fun l2 hk2 => ?_) ?_
  · rcases bool_or ((t17 && t18.isNone) && t23) with b36 | b36
    · refine SO.takeT rfl rfl rfl b36 ?_
      refine SO.v rfl (opv_move rfl) ?_
      refine SO.takeT rfl rfl rfl b36 ?_
      refine SO.v rfl (opv_eqlN (e := t24) Try.underlying37 rfl) ?_
      refine SO.v rfl (opv_pick_t' b36 rfl rfl) ?_
      refine SO.b5 ?_
      refine SO.b5 ?_
      refine SO.b5 ?_
      refine SO.b5 ?_
      refine SO.b5 ?_
      refine SO.b5 ?_
      exact hk2.fitc (m := 3) rfl (and_t b36) rfl
    · refine SO.passF rfl rfl rfl b36 rfl rfl ?_
      refine SO.passF rfl rfl rfl b36 rfl rfl ?_
      refine SO.v rfl (opv_pick_f' b36 rfl rfl) ?_
      refine SO.b5 ?_
      refine SO.b5 ?_
      refine SO.b5 ?_
      refine SO.b5 ?_
      refine SO.b5 ?_
      refine SO.b5 ?_
      exact hk2.fitc (m := 3) rfl (and_f b36) rfl
  refine SO.v rfl (opv_move rfl) ?_
  obtain ⟨c38, hc39, hgk⟩ := opt_bind h
  refine SO.cut 4 46 (.bool c38) [Own 35 (ekI .u64) v15 s32, Box b28 [.int .i64 t22.Code, .int .i64 t22.Word, .int .i64 t22.Badge], Box b3 [u4_Slots, u4_Objs, .int .i64 t1.NS, .int .i64 t1.NO], OwnO 81 kr_ref10_Slot u4_Slots raws5 A6 t1.Slots, OwnO 72 kr_ref10_Obj u4_Objs raws9 A10 t1.Objs, F] (fun l2 hk2 => ?_) ?_
  · clear hgk
    replace h := hc39
    rcases bool_or (((t17 && t18.isNone) && t23) && t24.isNone) with b37 | b37
    · replace h := cond_t b37 h
      refine SO.takeT rfl rfl rfl b37 ?_
      refine SO.v rfl (opv_fieldAddr Try.underlying41 rfl Try.sizeOf3 rfl rfl) ?_
      refine SO.takeT rfl rfl rfl b37 ?_
      refine SO.b1 ?_
      refine SO.load1 rfl Try.isAgg3 rfl rfl ?_
      refine SO.takeT rfl rfl rfl b37 ?_
      refine SO.v rfl (opv_eql rfl rfl) ?_
      cases h
      refine SO.v rfl (opv_pick_t' b37 rfl rfl) ?_
      refine SO.b5 ?_
      refine SO.b5 ?_
      refine SO.b5 ?_
      refine SO.b5 ?_
      refine SO.b4 ?_
      refine SO.b5 ?_
      exact hk2.fitc (m := 4) rfl (rfl) rfl
    · replace h := cond_f b37 h
      refine SO.passF rfl rfl rfl b37 rfl rfl ?_
      refine SO.passF rfl rfl rfl b37 rfl rfl ?_
      refine SO.passF rfl rfl rfl b37 rfl rfl ?_
      cases h
      refine SO.v rfl (opv_pick_f' b37 rfl rfl) ?_
      refine SO.b5 ?_
      refine SO.b5 ?_
      refine SO.b5 ?_
      refine SO.b5 ?_
      refine SO.b5 ?_
      refine SO.b5 ?_
      exact hk2.fitc (m := 4) rfl (rfl) rfl
  clear hc39
  replace h := hgk
  refine SO.v rfl (opv_move rfl) ?_
  obtain ⟨c41, hc42, hgk⟩ := opt_bind h
  refine SO.cut 4 51 (.bool c41) [Own 35 (ekI .u64) v15 s32, Box b28 [.int .i64 t22.Code, .int .i64 t22.Word, .int .i64 t22.Badge], Box b3 [u4_Slots, u4_Objs, .int .i64 t1.NS, .int .i64 t1.NO], OwnO 81 kr_ref10_Slot u4_Slots raws5 A6 t1.Slots, OwnO 72 kr_ref10_Obj u4_Objs raws9 A10 t1.Objs, F] (fun l2 hk2 => ?_) ?_
  · clear hgk
    replace h := hc42
    rcases bool_or c38 with b40 | b40
    · replace h := cond_t b40 h
      refine SO.takeT rfl rfl rfl b40 ?_
      refine SO.v rfl (opv_fieldAddr Try.underlying41 rfl Try.sizeOf3 rfl rfl) ?_
      refine SO.takeT rfl rfl rfl b40 ?_
      refine SO.b1 ?_
      refine SO.load1 rfl Try.isAgg3 rfl rfl ?_
      refine SO.takeT rfl rfl rfl b40 ?_
      refine SO.v rfl (opv_eql rfl rfl) ?_
      cases h
      refine SO.v rfl (opv_pick_t' b40 rfl rfl) ?_
      refine SO.b5 ?_
      refine SO.b5 ?_
      refine SO.b5 ?_
      refine SO.b5 ?_
      refine SO.b4 ?_
      refine SO.b5 ?_
      exact hk2.fitc (m := 4) rfl (rfl) rfl
    · replace h := cond_f b40 h
      refine SO.passF rfl rfl rfl b40 rfl rfl ?_
      refine SO.passF rfl rfl rfl b40 rfl rfl ?_
      refine SO.passF rfl rfl rfl b40 rfl rfl ?_
      cases h
      refine SO.v rfl (opv_pick_f' b40 rfl rfl) ?_
      refine SO.b5 ?_
      refine SO.b5 ?_
      refine SO.b5 ?_
      refine SO.b5 ?_
      refine SO.b5 ?_
      refine SO.b5 ?_
      exact hk2.fitc (m := 4) rfl (rfl) rfl
  clear hc42
  replace h := hgk
  refine SO.v rfl (opv_move rfl) ?_
  obtain ⟨⟨c44, w46⟩, hc45, hgk⟩ := opt_bind h
  refine SO.cut 5 57 (.bool c44) [Own 35 (ekI .u64) v15 w46, Box b28 [.int .i64 t22.Code, .int .i64 t22.Word, .int .i64 t22.Badge], Box b3 [u4_Slots, u4_Objs, .int .i64 t1.NS, .int .i64 t1.NO], OwnO 81 kr_ref10_Slot u4_Slots raws5 A6 t1.Slots, OwnO 72 kr_ref10_Obj u4_Objs raws9 A10 t1.Objs, F] (fun l2 hk2 => ?_) ?_
  · clear hgk
    replace h := hc45
    rcases bool_or c41 with b43 | b43
    · replace h := cond_t b43 h
      refine SO.takeT rfl rfl rfl b43 ?_
      refine SO.v rfl (opv_move rfl) ?_
      refine SO.takeT rfl rfl rfl b43 ?_
      refine SO.v rfl (opv_iface Try.underlying25 rfl rfl) ?_
      refine SO.takeT rfl rfl rfl b43 ?_
      obtain ⟨⟨t48, s50⟩, ht49, h⟩ := opt_bind h
      refine SO.call (pre := [(plainV v15).rep _]) rfl Try.call10 rfl rfl rfl (endp_State.ct (plainV v15) _ _ _ _ ht49) trivial ?_
      rintro _ _ ⟨rfl, rfl⟩
      refine headEq (plainV_rep _ _) ?_
      refine SO.rd fun hr51 => ?_
      refine SO.takeT rfl rfl rfl b43 ?_
      refine SO.v rfl (opv_eql rfl rfl) ?_
      cases h
      refine SO.v rfl (opv_pick_t' b43 rfl rfl) ?_
      refine SO.b5 ?_
      refine SO.b5 ?_
      refine SO.b5 ?_
      refine SO.b5 ?_
      refine SO.b5 ?_
      refine SO.b5 ?_
      exact hk2.fitc (m := 5) rfl (rfl) rfl
    · replace h := cond_f b43 h
      refine SO.passF rfl rfl rfl b43 rfl rfl ?_
      refine SO.passF rfl rfl rfl b43 rfl rfl ?_
      refine SO.passF rfl rfl rfl b43 rfl rfl ?_
      refine SO.passF rfl rfl rfl b43 rfl rfl ?_
      cases h
      refine SO.v rfl (opv_pick_f' b43 rfl rfl) ?_
      refine SO.b5 ?_
      refine SO.b5 ?_
      refine SO.b5 ?_
      refine SO.b5 ?_
      refine SO.b5 ?_
      refine SO.b5 ?_
      exact hk2.fitc (m := 5) rfl (rfl) rfl
  clear hc45
  replace h := hgk
  refine SO.rd fun hr47 => ?_
  refine SO.v rfl (opv_move rfl) ?_
  refine SO.cut 3 61 (.bool (c44 && (!t30))) [Own 35 (ekI .u64) v15 w46, Box b28 [.int .i64 t22.Code, .int .i64 t22.Word, .int .i64 t22.Badge], Box b3 [u4_Slots, u4_Objs, .int .i64 t1.NS, .int .i64 t1.NO], OwnO 81 kr_ref10_Slot u4_Slots raws5 A6 t1.Slots, OwnO 72 kr_ref10_Obj u4_Objs raws9 A10 t1.Objs, F] (fun l2 hk2 => ?_) ?_
  · rcases bool_or c44 with b52 | b52
    · refine SO.takeT rfl rfl rfl b52 ?_
      refine SO.v rfl (opv_move rfl) ?_
      refine SO.takeT rfl rfl rfl b52 ?_
      refine SO.v rfl (opv_not rfl) ?_
      refine SO.v rfl (opv_pick_t' b52 rfl rfl) ?_
      refine SO.b5 ?_
      refine SO.b5 ?_
      refine SO.b5 ?_
      refine SO.b5 ?_
      refine SO.b5 ?_
      refine SO.b5 ?_
      exact hk2.fitc (m := 3) rfl (and_t b52) rfl
    · refine SO.passF rfl rfl rfl b52 rfl rfl ?_
      refine SO.passF rfl rfl rfl b52 rfl rfl ?_
      refine SO.v rfl (opv_pick_f' b52 rfl rfl) ?_
      refine SO.b5 ?_
      refine SO.b5 ?_
      refine SO.b5 ?_
      refine SO.b5 ?_
      refine SO.b5 ?_
      refine SO.b5 ?_
      exact hk2.fitc (m := 3) rfl (and_f b52) rfl
  refine SO.v rfl (opv_assign rfl) ?_
  refine SO.nil ?_
  refine S.to (ρ' := [(0, .bool (c44 && (!t30)))]) ⟨rfl, trivial⟩ ?_
  cases h
  refine S.b3 ?_
  refine S.closeR ?_
  refine S.b4 ?_
  refine S.closeR ?_
  refine S.drop ?_
  refine S.drop ?_
  refine S.drop ?_
  refine S.drop ?_
  refine S.drop ?_
  exact S.ret1 Try.func6 rfl rfl (fun w hs hk => hR w _ _ ⟨rfl, rfl⟩ hs hk)
end Go.Proofs
