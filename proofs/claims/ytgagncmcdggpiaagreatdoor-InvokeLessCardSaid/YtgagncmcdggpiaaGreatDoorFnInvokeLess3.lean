/- What the functions that InvokeLess reaches come to, and that they do. On no condition. -/
import Derived.Test.YtgagncmcdggpiaaGreatDoorFr1
import Derived.Test.YtgagncmcdggpiaaGreatDoorFnInvokeLess0
import Derived.Test.YtgagncmcdggpiaaGreatDoorFnInvokeLess2
set_option linter.all false
namespace Go.Proofs
open Go.Sl Go.RowKit
def ref10_State_Words.l2 (x4_1 : Int) (x11 : ref10_Slot) : Nat → (Int × (List Int)) → Option ((List Int))
  | 0, _ => none
  | k + 1, (x6_2, qv5_2) => bif decide (x6_2 < (x11.Kids.length : Int)) then ((at_ x11.Kids x6_2).bind fun x30 => (bif x6_2 == 0 then ((at_ qv5_2 (w64 ((w64 (5 * x4_1)) + 2))).bind fun x33 => some (qv5_2.set (w64 ((w64 (5 * x4_1)) + 2)).toNat (wu64 (w64 (x30 + 1))))) else ((at_ x11.Kids (w64 (x6_2 - 1))).bind fun x36 => (at_ qv5_2 (w64 ((w64 (5 * x30)) + 4))).bind fun x38 => some (qv5_2.set (w64 ((w64 (5 * x30)) + 4)).toNat (wu64 (w64 (x36 + 1)))))).bind fun qv5_3 => bif decide ((w64 (x6_2 + 1)) < (x11.Kids.length : Int)) then ((at_ x11.Kids (w64 (x6_2 + 1))).bind fun x43 => (at_ qv5_3 (w64 ((w64 (5 * x30)) + 3))).bind fun x45 => ref10_State_Words.l2 x4_1 x11 k (w64 (x6_2 + 1), qv5_3.set (w64 ((w64 (5 * x30)) + 3)).toNat (wu64 (w64 (x43 + 1))))) else (ref10_State_Words.l2 x4_1 x11 k (w64 (x6_2 + 1), qv5_3))) else (some qv5_2)
def ref10_State_Words.l1 (a0 : ref10_State) : Nat → (Int × (List Int)) → Option ((List Int))
  | 0, _ => none
  | k + 1, (x4_1, qv5_1) => bif decide (x4_1 < 96) then ((at_ a0.Slots x4_1).bind fun x11 => (ref01_Word.f x11.Cap).bind fun t20 => (at_ qv5_1 (w64 (5 * x4_1))).bind fun x22 => (at_ (qv5_1.set (w64 (5 * x4_1)).toNat t20) (w64 ((w64 (5 * x4_1)) + 1))).bind fun x25 => (ref10_State_Words.l2 x4_1 x11 k (0, (qv5_1.set (w64 (5 * x4_1)).toNat t20).set (w64 ((w64 (5 * x4_1)) + 1)).toNat (wu64 (w64 (x11.Parent + 1))))).bind fun qv5_e2 => ref10_State_Words.l1 a0 k (w64 (x4_1 + 1), qv5_e2)) else (some qv5_1)
def ref10_State_Words.l6 (x8_4 : Int) (x52 : ref10_Obj) : Nat → (Int × (List Int)) → Option ((List Int))
  | 0, _ => none
  | k + 1, (x11_6, qv5_6) => bif decide (x11_6 < 4) then ((A4.get x52.Pages x11_6).bind fun x123 => bif decide (0 ≤ x123) then ((A4.get x52.Pages x11_6).bind fun x126 => (A4.get x52.Right x11_6).bind fun x128 => (at_ qv5_6 (w64 ((w64 ((w64 (480 + (w64 (8 * x8_4)))) + 1)) + x11_6))).bind fun x130 => ref10_State_Words.l6 x8_4 x52 k (w64 (x11_6 + 1), qv5_6.set (w64 ((w64 ((w64 (480 + (w64 (8 * x8_4)))) + 1)) + x11_6)).toNat (wu64 (w64 ((w64 (8 * (w64 (x126 + 1)))) + x128))))) else (ref10_State_Words.l6 x8_4 x52 k (w64 (x11_6 + 1), qv5_6))) else (some qv5_6)
def ref10_State_Words.l7 (x8_4 : Int) (x52 : ref10_Obj) : Nat → (Int × (List Int)) → Option ((List Int))
  | 0, _ => none
  | k + 1, (x12_7, qv5_7) => bif decide (x12_7 < (x52.Queue.length : Int)) then ((at_ x52.Queue x12_7).bind fun x148 => (bif x12_7 == 0 then ((at_ qv5_7 (w64 ((w64 (480 + (w64 (8 * x8_4)))) + 2))).bind fun x151 => some (qv5_7.set (w64 ((w64 (480 + (w64 (8 * x8_4)))) + 2)).toNat (wu64 (w64 (x148 + 1))))) else (some qv5_7)).bind fun qv5_8 => bif decide ((w64 (x12_7 + 1)) < (x52.Queue.length : Int)) then ((at_ x52.Queue (w64 (x12_7 + 1))).bind fun x156 => (at_ qv5_8 (w64 ((w64 (480 + (w64 (8 * x148)))) + 2))).bind fun x158 => ref10_State_Words.l7 x8_4 x52 k (w64 (x12_7 + 1), qv5_8.set (w64 ((w64 (480 + (w64 (8 * x148)))) + 2)).toNat (wu64 (w64 (x156 + 1))))) else ((at_ qv5_8 (w64 ((w64 (480 + (w64 (8 * x8_4)))) + 3))).bind fun x161 => ref10_State_Words.l7 x8_4 x52 k (w64 (x12_7 + 1), qv5_8.set (w64 ((w64 (480 + (w64 (8 * x8_4)))) + 3)).toNat (wu64 (w64 (x148 + 1)))))) else (some qv5_7)
def ref10_State_Words.l4 (a0 : ref10_State) : Nat → (Int × (List Int)) → Option ((List Int))
  | 0, _ => none
  | k + 1, (x8_4, qv5_4) => bif decide (x8_4 < 32) then ((at_ a0.Objs x8_4).bind fun x52 => (at_ qv5_4 (w64 (480 + (w64 (8 * x8_4))))).bind fun x61 => (bif x52.Kind == 1 then ((at_ (qv5_4.set (w64 (480 + (w64 (8 * x8_4)))).toNat (wu64 x52.Kind)) (w64 ((w64 (480 + (w64 (8 * x8_4)))) + 1))).bind fun x65 => (at_ ((qv5_4.set (w64 (480 + (w64 (8 * x8_4)))).toNat (wu64 x52.Kind)).set (w64 ((w64 (480 + (w64 (8 * x8_4)))) + 1)).toNat (wu64 x52.Size)) (w64 ((w64 (480 + (w64 (8 * x8_4)))) + 2))).bind fun x68 => some (((qv5_4.set (w64 (480 + (w64 (8 * x8_4)))).toNat (wu64 x52.Kind)).set (w64 ((w64 (480 + (w64 (8 * x8_4)))) + 1)).toNat (wu64 x52.Size)).set (w64 ((w64 (480 + (w64 (8 * x8_4)))) + 2)).toNat (wu64 x52.Used))) else (bif x52.Kind == 2 then ((at_ (qv5_4.set (w64 (480 + (w64 (8 * x8_4)))).toNat (wu64 x52.Kind)) (w64 ((w64 (480 + (w64 (8 * x8_4)))) + 1))).bind fun x72 => (at_ ((qv5_4.set (w64 (480 + (w64 (8 * x8_4)))).toNat (wu64 x52.Kind)).set (w64 ((w64 (480 + (w64 (8 * x8_4)))) + 1)).toNat (wu64 x52.First)) (w64 ((w64 (480 + (w64 (8 * x8_4)))) + 2))).bind fun x75 => some (((qv5_4.set (w64 (480 + (w64 (8 * x8_4)))).toNat (wu64 x52.Kind)).set (w64 ((w64 (480 + (w64 (8 * x8_4)))) + 1)).toNat (wu64 x52.First)).set (w64 ((w64 (480 + (w64 (8 * x8_4)))) + 2)).toNat (wu64 x52.Radix))) else (bif x52.Kind == 3 then ((at_ (qv5_4.set (w64 (480 + (w64 (8 * x8_4)))).toNat (wu64 x52.Kind)) (w64 ((w64 (480 + (w64 (8 * x8_4)))) + 1))).bind fun x79 => some ((qv5_4.set (w64 (480 + (w64 (8 * x8_4)))).toNat (wu64 x52.Kind)).set (w64 ((w64 (480 + (w64 (8 * x8_4)))) + 1)).toNat (wu64 x52.Wait))) else (bif x52.Kind == 4 then ((at_ (qv5_4.set (w64 (480 + (w64 (8 * x8_4)))).toNat (wu64 x52.Kind)) (w64 ((w64 (480 + (w64 (8 * x8_4)))) + 1))).bind fun x83 => some ((qv5_4.set (w64 (480 + (w64 (8 * x8_4)))).toNat (wu64 x52.Kind)).set (w64 ((w64 (480 + (w64 (8 * x8_4)))) + 1)).toNat (wu64 x52.Word))) else (bif x52.Kind == 5 then ((at_ (qv5_4.set (w64 (480 + (w64 (8 * x8_4)))).toNat (wu64 x52.Kind)) (w64 ((w64 (480 + (w64 (8 * x8_4)))) + 1))).bind fun x87 => (at_ ((qv5_4.set (w64 (480 + (w64 (8 * x8_4)))).toNat (wu64 x52.Kind)).set (w64 ((w64 (480 + (w64 (8 * x8_4)))) + 1)).toNat (wu64 x52.State)) (w64 ((w64 (480 + (w64 (8 * x8_4)))) + 2))).bind fun x90 => (at_ ((qv5_4.set (w64 (480 + (w64 (8 * x8_4)))).toNat (wu64 x52.Kind)).set (w64 ((w64 (480 + (w64 (8 * x8_4)))) + 1)).toNat (wu64 x52.State)) (w64 ((w64 (480 + (w64 (8 * x8_4)))) + 2))).bind fun x92 => (at_ (((qv5_4.set (w64 (480 + (w64 (8 * x8_4)))).toNat (wu64 x52.Kind)).set (w64 ((w64 (480 + (w64 (8 * x8_4)))) + 1)).toNat (wu64 x52.State)).set (w64 ((w64 (480 + (w64 (8 * x8_4)))) + 2)).toNat (wu64 (x90 + (wu64 (w64 (x52.Owing + 1)))))) (w64 ((w64 (480 + (w64 (8 * x8_4)))) + 3))).bind fun x96 => (at_ ((((qv5_4.set (w64 (480 + (w64 (8 * x8_4)))).toNat (wu64 x52.Kind)).set (w64 ((w64 (480 + (w64 (8 * x8_4)))) + 1)).toNat (wu64 x52.State)).set (w64 ((w64 (480 + (w64 (8 * x8_4)))) + 2)).toNat (wu64 (x90 + (wu64 (w64 (x52.Owing + 1)))))).set (w64 ((w64 (480 + (w64 (8 * x8_4)))) + 3)).toNat (wu64 x52.Word)) (w64 ((w64 (480 + (w64 (8 * x8_4)))) + 4))).bind fun x99 => (at_ (((((qv5_4.set (w64 (480 + (w64 (8 * x8_4)))).toNat (wu64 x52.Kind)).set (w64 ((w64 (480 + (w64 (8 * x8_4)))) + 1)).toNat (wu64 x52.State)).set (w64 ((w64 (480 + (w64 (8 * x8_4)))) + 2)).toNat (wu64 (x90 + (wu64 (w64 (x52.Owing + 1)))))).set (w64 ((w64 (480 + (w64 (8 * x8_4)))) + 3)).toNat (wu64 x52.Word)).set (w64 ((w64 (480 + (w64 (8 * x8_4)))) + 4)).toNat (wu64 x52.Badge)) (w64 ((w64 (480 + (w64 (8 * x8_4)))) + 5))).bind fun x102 => (at_ ((((((qv5_4.set (w64 (480 + (w64 (8 * x8_4)))).toNat (wu64 x52.Kind)).set (w64 ((w64 (480 + (w64 (8 * x8_4)))) + 1)).toNat (wu64 x52.State)).set (w64 ((w64 (480 + (w64 (8 * x8_4)))) + 2)).toNat (wu64 (x90 + (wu64 (w64 (x52.Owing + 1)))))).set (w64 ((w64 (480 + (w64 (8 * x8_4)))) + 3)).toNat (wu64 x52.Word)).set (w64 ((w64 (480 + (w64 (8 * x8_4)))) + 4)).toNat (wu64 x52.Badge)).set (w64 ((w64 (480 + (w64 (8 * x8_4)))) + 5)).toNat (wu64 (w64 (x52.Prio + (w64 (256 * (w64 (x52.On + 1)))))))) (w64 ((w64 (480 + (w64 (8 * x8_4)))) + 6))).bind fun x105 => (ref01_Word.f x52.Root).bind fun t108 => (at_ (((((((qv5_4.set (w64 (480 + (w64 (8 * x8_4)))).toNat (wu64 x52.Kind)).set (w64 ((w64 (480 + (w64 (8 * x8_4)))) + 1)).toNat (wu64 x52.State)).set (w64 ((w64 (480 + (w64 (8 * x8_4)))) + 2)).toNat (wu64 (x90 + (wu64 (w64 (x52.Owing + 1)))))).set (w64 ((w64 (480 + (w64 (8 * x8_4)))) + 3)).toNat (wu64 x52.Word)).set (w64 ((w64 (480 + (w64 (8 * x8_4)))) + 4)).toNat (wu64 x52.Badge)).set (w64 ((w64 (480 + (w64 (8 * x8_4)))) + 5)).toNat (wu64 (w64 (x52.Prio + (w64 (256 * (w64 (x52.On + 1)))))))).set (w64 ((w64 (480 + (w64 (8 * x8_4)))) + 6)).toNat (wu64 (w64 (x52.Owes + 1)))) (w64 ((w64 (480 + (w64 (8 * x8_4)))) + 7))).bind fun x110 => some ((((((((qv5_4.set (w64 (480 + (w64 (8 * x8_4)))).toNat (wu64 x52.Kind)).set (w64 ((w64 (480 + (w64 (8 * x8_4)))) + 1)).toNat (wu64 x52.State)).set (w64 ((w64 (480 + (w64 (8 * x8_4)))) + 2)).toNat (wu64 (x90 + (wu64 (w64 (x52.Owing + 1)))))).set (w64 ((w64 (480 + (w64 (8 * x8_4)))) + 3)).toNat (wu64 x52.Word)).set (w64 ((w64 (480 + (w64 (8 * x8_4)))) + 4)).toNat (wu64 x52.Badge)).set (w64 ((w64 (480 + (w64 (8 * x8_4)))) + 5)).toNat (wu64 (w64 (x52.Prio + (w64 (256 * (w64 (x52.On + 1)))))))).set (w64 ((w64 (480 + (w64 (8 * x8_4)))) + 6)).toNat (wu64 (w64 (x52.Owes + 1)))).set (w64 ((w64 (480 + (w64 (8 * x8_4)))) + 7)).toNat t108)) else (bif x52.Kind == 6 then ((at_ (qv5_4.set (w64 (480 + (w64 (8 * x8_4)))).toNat (wu64 x52.Kind)) (w64 ((w64 (480 + (w64 (8 * x8_4)))) + 1))).bind fun x114 => (at_ ((qv5_4.set (w64 (480 + (w64 (8 * x8_4)))).toNat (wu64 x52.Kind)).set (w64 ((w64 (480 + (w64 (8 * x8_4)))) + 1)).toNat (wu64 (w64 (x52.In + 1)))) (w64 ((w64 (480 + (w64 (8 * x8_4)))) + 2))).bind fun x117 => some (((qv5_4.set (w64 (480 + (w64 (8 * x8_4)))).toNat (wu64 x52.Kind)).set (w64 ((w64 (480 + (w64 (8 * x8_4)))) + 1)).toNat (wu64 (w64 (x52.In + 1)))).set (w64 ((w64 (480 + (w64 (8 * x8_4)))) + 2)).toNat (wu64 x52.Page))) else (bif x52.Kind == 7 then ((ref10_State_Words.l6 x8_4 x52 k (0, qv5_4.set (w64 (480 + (w64 (8 * x8_4)))).toNat (wu64 x52.Kind))).bind fun qv5_e6 => some qv5_e6) else (bif x52.Kind == 8 then ((at_ (qv5_4.set (w64 (480 + (w64 (8 * x8_4)))).toNat (wu64 x52.Kind)) (w64 ((w64 (480 + (w64 (8 * x8_4)))) + 1))).bind fun x136 => (at_ ((qv5_4.set (w64 (480 + (w64 (8 * x8_4)))).toNat (wu64 x52.Kind)).set (w64 ((w64 (480 + (w64 (8 * x8_4)))) + 1)).toNat (wu64 (w64 (x52.Bound + 1)))) (w64 ((w64 (480 + (w64 (8 * x8_4)))) + 2))).bind fun x139 => (at_ (((qv5_4.set (w64 (480 + (w64 (8 * x8_4)))).toNat (wu64 x52.Kind)).set (w64 ((w64 (480 + (w64 (8 * x8_4)))) + 1)).toNat (wu64 (w64 (x52.Bound + 1)))).set (w64 ((w64 (480 + (w64 (8 * x8_4)))) + 2)).toNat (wu64 x52.Badge)) (w64 ((w64 (480 + (w64 (8 * x8_4)))) + 3))).bind fun x142 => some ((((qv5_4.set (w64 (480 + (w64 (8 * x8_4)))).toNat (wu64 x52.Kind)).set (w64 ((w64 (480 + (w64 (8 * x8_4)))) + 1)).toNat (wu64 (w64 (x52.Bound + 1)))).set (w64 ((w64 (480 + (w64 (8 * x8_4)))) + 2)).toNat (wu64 x52.Badge)).set (w64 ((w64 (480 + (w64 (8 * x8_4)))) + 3)).toNat (wu64 x52.Mask))) else (some (qv5_4.set (w64 (480 + (w64 (8 * x8_4)))).toNat (wu64 x52.Kind))))))))))).bind fun qv5_5 => (ref10_State_Words.l7 x8_4 x52 k (0, qv5_5)).bind fun qv5_e7 => ref10_State_Words.l4 a0 k (w64 (x8_4 + 1), qv5_e7)) else (some qv5_4)
def ref10_State_Words.f (k : Nat) (a0 : ref10_State) : Option ((List Int)) :=
  (mk_ 0 738).bind fun xs7 => (ref10_State_Words.l1 a0 k (0, xs7)).bind fun qv5_e1 => (ref10_State_Words.l4 a0 k (0, qv5_e1)).bind fun qv5_e4 => (at_ qv5_e4 736).bind fun x166 => (at_ (qv5_e4.set (736 : Int).toNat (wu64 a0.NS)) 737).bind fun x169 => some ((qv5_e4.set (736 : Int).toNat (wu64 a0.NS)).set (737 : Int).toNat (wu64 a0.NO))
set_option maxHeartbeats 8000000 in
set_option maxRecDepth 100000 in
theorem ref10_State_Words.ct (k : Nat) (bp0 : Nat) (v0_Slots : Value) (v0_Objs : Value) (raws_v0_Slots : List (Raw (kr_ref10_Slot).sz)) (A_v0_Slots : HProp) (raws_v0_Objs : List (Raw (kr_ref10_Obj).sz)) (A_v0_Objs : HProp) (a0 : ref10_State) (r0 : List Int) (h : ref10_State_Words.f k a0 = some r0) :
    Ct Tryz.prog 7 [bp bp0 0] (fun _ => True) [Box bp0 [v0_Slots, v0_Objs, .int .i64 a0.NS, .int .i64 a0.NO], OwnO 62 kr_ref10_Slot v0_Slots raws_v0_Slots A_v0_Slots a0.Slots, OwnO 48 kr_ref10_Obj v0_Objs raws_v0_Objs A_v0_Objs a0.Objs] (fun u H' => ∃ v_r0, u = v_r0 ∧ H' = [Own 55 (ekI .u64) v_r0 r0, Box bp0 [v0_Slots, v0_Objs, .int .i64 a0.NS, .int .i64 a0.NO], OwnO 62 kr_ref10_Slot v0_Slots raws_v0_Slots A_v0_Slots a0.Slots, OwnO 48 kr_ref10_Obj v0_Objs raws_v0_Objs A_v0_Objs a0.Objs]) := by
 unfold ref10_State_Words.f at h
 refine Ct.intro (n := 365) Tryz.func7 rfl rfl rfl ?_
 intro R w0 F hF hR
 refine S.b1 <| S.rdO fun hrel1 hR2 => S.b2 <| S.rdO fun hrel3 hR4 => S.seq <| S.region <| ag rfl <| SO.nil <| S.seq <| S.region ?_
 obtain ⟨xs7, hx8, h⟩ := opt_bind h
 refine SO.makeSlice (K := ekI .u64) rfl Tryz.underlying26 inf55 rfl rfl rfl (by decide) rfl rfl rfl hx8 fun v5 hr6 => ag rfl <| SO.nil <| S.seq <| S.seq <| S.region <| ag rfl <| SO.nil ?_
 obtain ⟨qv5_e1, hlp1, h⟩ := opt_bind h
 refine S.b4 <| S.b4 <| S.b4 <| S.b4 <| S.b4 <| tt [(4, .int .i64 0), (3, v5), (2, .slice none 0 0), (0, bp bp0 0)] rfl ?_
 refine S.forloop (X := (Int × (List Int)) × Unit) (O := (List Int)) (fun m x => ref10_State_Words.l1 a0 m x.1) (fun x => match x with | ((x4_1, qv5_1), _) => [(4, .int .i64 x4_1), (3, v5), (2, .slice none 0 0), (0, bp bp0 0)]) (fun x => match x with | ((x4_1, qv5_1), _) => [Own 55 (ekI .u64) v5 qv5_1, OwnO 48 kr_ref10_Obj v0_Objs raws_v0_Objs A_v0_Objs a0.Objs, OwnO 62 kr_ref10_Slot v0_Slots raws_v0_Slots A_v0_Slots a0.Slots, Box bp0 [v0_Slots, v0_Objs, .int .i64 a0.NS, .int .i64 a0.NO], F]) (fun Sk => (fun qv5_e1 => ∀ _ : Unit, Sk [(0, bp bp0 0), (2, .slice none 0 0), (3, v5)] [Own 55 (ekI .u64) v5 qv5_e1, OwnO 48 kr_ref10_Obj v0_Objs raws_v0_Objs A_v0_Objs a0.Objs, OwnO 62 kr_ref10_Slot v0_Slots raws_v0_Slots A_v0_Slots a0.Slots, Box bp0 [v0_Slots, v0_Objs, .int .i64 a0.NS, .int .i64 a0.NO], F])) (fun _ => rfl) ?_ (m := k) (x := ((0, xs7), ())) hlp1 ?_
 ·clear h hlp1
  intro k x o_1 h hK1 ih1
  obtain ⟨⟨x4_1, qv5_1⟩, _⟩ := x
  replace h : ref10_State_Words.l1 a0 (k + 1) (x4_1, qv5_1) = some o_1 := h
  first | rw [ref10_State_Words.l1] at h | unfold ref10_State_Words.l1 at h
  refine S.rd fun hr9 => S.seq <| S.seq <| S.region <| mv rfl <| vv (opv_lss rfl rfl) <| SO.nil ?_
  rcases bool_or (decide (x4_1 < 96)) with b10 | b10
  ·replace h := cond_t b10 h
   refine S.condT rfl b10 <| S.skip <| S.seq <| S.block <| S.seq <| S.region <| mv rfl <| nc rfl <| fa Tryz.underlying52 rfl Tryz.sizeOf49 rfl rfl <| SO.b3 <| ld Tryz.isAgg49 rfl rfl <| mv rfl ?_
   obtain ⟨x11, hx12, h⟩ := opt_bind h
   obtain ⟨r13, hr14, hc15⟩ := relR.at hrel1 hx12
   refine vv (opv_idx Tryz.underlying49 Tryz.sizeOf62 hR2 rfl rfl hr14) <| hc15.rip fun u16 hru17 e18 => SO.loadIN rfl Tryz.isAgg62 Tryz.sizeOf62 (Rd.tail (Rd.tail (Rd.tail (Rd.head hR2)))) hr14 rfl rfl e18 <| SO.alloc rfl Tryz.zeroValue62 rfl fun b19 => SO.storeN Tryz.sizeOf62 rfl rfl (all1 rfl (all1 rfl (all1 rfl (all1 rfl (all1 rfl (all1 rfl (all1 rfl (all1 (Rd.one hru17) rfl)))))))) rfl rfl rfl <| SO.nil <| tt [(4, .int .i64 x4_1), (3, v5), (2, .slice none 0 0), (0, bp bp0 0), (5, bp b19 0)] rfl <| S.seq <| S.region <| mv rfl <| mv rfl <| vv (opv_mul rfl rfl) <| fa Tryz.underlying62 rfl Tryz.sizeOf45 rfl rfl <| SO.loadN rfl Tryz.isAgg45 Tryz.sizeOf45 rfl rfl rfl ?_
   obtain ⟨t20, ht21, h⟩ := opt_bind h
   refine SO.call (pre := []) rfl Tryz.call19 rfl rfl rfl (ref01_Word.ct _ _ ht21) trivial ?_
   rintro _ _ ⟨rfl, rfl⟩
   obtain ⟨x22, hx23, h⟩ := opt_bind h
   refine vv (opv_idx Tryz.underlying26 Tryz.sizeOf55 hr9 rfl rfl hx23) <| SO.b2 <| SO.storeI1 (j := 0) (z' := t20) Tryz.sizeOf55 hx23 rfl rfl rfl rfl rfl rfl <| SO.rd fun hr24 => SO.nil <| tt [(4, .int .i64 x4_1), (3, v5), (2, .slice none 0 0), (0, bp bp0 0), (5, bp b19 0)] rfl <| S.seq <| S.region <| mv rfl <| mv rfl <| vv (opv_mul rfl rfl) <| vv (opv_add rfl rfl) <| fa Tryz.underlying62 rfl Tryz.sizeOf3 rfl rfl <| SO.b1 <| ld Tryz.isAgg3 rfl rfl <| vv (opv_add rfl rfl) <| vv (opv_conv Tryz.underlying3 Tryz.underlying55 rfl) ?_
   obtain ⟨x25, hx26, h⟩ := opt_bind h
   refine vv (opv_idx Tryz.underlying26 Tryz.sizeOf55 hr24 rfl rfl hx26) <| SO.b1 <| SO.storeI1 (j := 0) (z' := wu64 (w64 (x11.Parent + 1))) Tryz.sizeOf55 hx26 rfl rfl rfl rfl rfl rfl <| SO.rd fun hr27 => SO.nil <| tt [(4, .int .i64 x4_1), (3, v5), (2, .slice none 0 0), (0, bp bp0 0), (5, bp b19 0)] rfl <| S.seq <| S.region <| ag rfl <| SO.nil ?_
   obtain ⟨qv5_e2, hlp2, h⟩ := opt_bind h
   refine S.b5 <| S.b5 <| S.b5 <| S.b5 <| S.b5 <| S.b5 <| tt [(6, .int .i64 0), (4, .int .i64 x4_1), (3, v5), (2, .slice none 0 0), (0, bp bp0 0), (5, bp b19 0)] rfl ?_
   refine S.forloop (X := (Int × (List Int)) × Unit) (O := (List Int)) (fun m x => ref10_State_Words.l2 x4_1 x11 m x.1) (fun x => match x with | ((x6_2, qv5_2), _) => [(6, .int .i64 x6_2), (4, .int .i64 x4_1), (3, v5), (2, .slice none 0 0), (0, bp bp0 0), (5, bp b19 0)]) (fun x => match x with | ((x6_2, qv5_2), _) => [Own 55 (ekI .u64) v5 qv5_2, Box b19 [.int .i64 x11.Cap.Kind, .int .i64 x11.Cap.Rights, .int .i64 x11.Cap.Obj, .int .i64 x11.Cap.Badge, .int .i64 x11.Cap.Guard, .int .i64 x11.Cap.Bits, .int .i64 x11.Parent, u16], Box bp0 [v0_Slots, v0_Objs, .int .i64 a0.NS, .int .i64 a0.NO], OwnO 48 kr_ref10_Obj v0_Objs raws_v0_Objs A_v0_Objs a0.Objs, OwnO 62 kr_ref10_Slot v0_Slots raws_v0_Slots A_v0_Slots a0.Slots, F]) (fun Sk => (fun qv5_e2 => ∀ _ : Unit, Sk [(0, bp bp0 0), (2, .slice none 0 0), (3, v5), (4, .int .i64 x4_1)] [Own 55 (ekI .u64) v5 qv5_e2, Box b19 [.int .i64 x11.Cap.Kind, .int .i64 x11.Cap.Rights, .int .i64 x11.Cap.Obj, .int .i64 x11.Cap.Badge, .int .i64 x11.Cap.Guard, .int .i64 x11.Cap.Bits, .int .i64 x11.Parent, u16], Box bp0 [v0_Slots, v0_Objs, .int .i64 a0.NS, .int .i64 a0.NO], OwnO 48 kr_ref10_Obj v0_Objs raws_v0_Objs A_v0_Objs a0.Objs, OwnO 62 kr_ref10_Slot v0_Slots raws_v0_Slots A_v0_Slots a0.Slots, F])) (fun _ => rfl) ?_ (m := k) (x := ((0, (qv5_1.set (w64 (5 * x4_1)).toNat t20).set (w64 ((w64 (5 * x4_1)) + 1)).toNat (wu64 (w64 (x11.Parent + 1)))), ())) hlp2 ?_
   ·clear h hlp2
    intro k x o_2 h hK2 ih2
    obtain ⟨⟨x6_2, qv5_2⟩, _⟩ := x
    replace h : ref10_State_Words.l2 x4_1 x11 (k + 1) (x6_2, qv5_2) = some o_2 := h
    first | rw [ref10_State_Words.l2] at h | unfold ref10_State_Words.l2 at h
    refine S.rd fun hr28 => S.seq <| S.seq <| S.region <| mv rfl <| fa Tryz.underlying62 rfl Tryz.sizeOf43 rfl rfl <| SO.b1 <| ld Tryz.isAgg43 rfl rfl <| vv (opv_lenR rfl Tryz.underlying43 hru17 rfl) <| vv (opv_lss rfl rfl) <| SO.nil ?_
    rcases bool_or (decide (x6_2 < (x11.Kids.length : Int))) with b29 | b29
    ·replace h := cond_t b29 h
     refine S.condT rfl b29 <| S.skip <| S.seq <| S.block <| S.seq <| S.region <| fa Tryz.underlying62 rfl Tryz.sizeOf43 rfl rfl <| ld Tryz.isAgg43 rfl rfl <| mv rfl ?_
     obtain ⟨x30, hx31, h⟩ := opt_bind h
     refine vv (opv_idx Tryz.underlying43 Tryz.sizeOf3 hru17 rfl rfl hx31) <| SO.loadI1 (j := 0) rfl Tryz.isAgg3 (Rd.tail (Rd.tail (Rd.tail (Rd.tail (Rd.head (Rd.pool hru17)))))) hx31 rfl rfl rfl rfl <| ag rfl <| SO.nil <| tt [(6, .int .i64 x6_2), (4, .int .i64 x4_1), (3, v5), (2, .slice none 0 0), (0, bp bp0 0), (5, bp b19 0), (7, .int .i64 x30)] rfl <| S.seq <| S.seq <| S.region <| mv rfl <| vv (opv_eql rfl rfl) <| SO.nil ?_
     obtain ⟨qv5_3, hC3, hJ3⟩ := opt_bind h
     clear h
     refine S.cutP (G := Unit) (fun _ => True) (fun _ => [(0, bp bp0 0), (2, .slice none 0 0), (3, v5), (4, .int .i64 x4_1), (5, bp b19 0), (6, .int .i64 x6_2), (7, .int .i64 x30)]) (fun _ => [Box b19 [.int .i64 x11.Cap.Kind, .int .i64 x11.Cap.Rights, .int .i64 x11.Cap.Obj, .int .i64 x11.Cap.Badge, .int .i64 x11.Cap.Guard, .int .i64 x11.Cap.Bits, .int .i64 x11.Parent, u16], Own 55 (ekI .u64) v5 qv5_3, Box bp0 [v0_Slots, v0_Objs, .int .i64 a0.NS, .int .i64 a0.NO], OwnO 48 kr_ref10_Obj v0_Objs raws_v0_Objs A_v0_Objs a0.Objs, OwnO 62 kr_ref10_Slot v0_Slots raws_v0_Slots A_v0_Slots a0.Slots, F]) (fun hk3 => ?_) ?_
     ·replace h := hC3
      rcases bool_or (x6_2 == 0) with b32 | b32
      ·replace h := cond_t b32 h
       refine S.condT rfl b32 <| S.region <| mv rfl <| mv rfl <| vv (opv_mul rfl rfl) <| vv (opv_add rfl rfl) <| mv rfl <| vv (opv_add rfl rfl) <| vv (opv_conv Tryz.underlying3 Tryz.underlying55 rfl) ?_
       obtain ⟨x33, hx34, h⟩ := opt_bind h
       refine vv (opv_idx Tryz.underlying26 Tryz.sizeOf55 hr28 rfl rfl hx34) <| SO.b1 <| SO.storeI1 (j := 0) (z' := wu64 (w64 (x30 + 1))) Tryz.sizeOf55 hx34 rfl rfl rfl rfl rfl rfl <| SO.rd fun hr35 => SO.nil <| tt [(6, .int .i64 x6_2), (4, .int .i64 x4_1), (3, v5), (2, .slice none 0 0), (0, bp bp0 0), (5, bp b19 0), (7, .int .i64 x30)] rfl ?_
       cases h
       refine S.b5 <| S.b5 <| S.b5 <| S.b5 <| S.b4 <| S.b5 ?_
       refine S.to ?_ (hk3 () trivial)
       exact ⟨rfl, rfl, rfl, rfl, rfl, rfl, rfl, trivial⟩
      replace h := cond_f b32 h
      refine S.condF rfl b32 <| S.region <| mv rfl <| mv rfl <| vv (opv_mul rfl rfl) <| vv (opv_add rfl rfl) <| fa Tryz.underlying62 rfl Tryz.sizeOf43 rfl rfl <| ld Tryz.isAgg43 rfl rfl <| mv rfl <| vv (opv_sub rfl rfl) ?_
      obtain ⟨x36, hx37, h⟩ := opt_bind h
      refine vv (opv_idx Tryz.underlying43 Tryz.sizeOf3 hru17 rfl rfl hx37) <| SO.loadI1 (j := 0) rfl Tryz.isAgg3 (Rd.tail (Rd.tail (Rd.tail (Rd.tail (Rd.head (Rd.pool hru17)))))) hx37 rfl rfl rfl rfl <| vv (opv_add rfl rfl) <| vv (opv_conv Tryz.underlying3 Tryz.underlying55 rfl) ?_
      obtain ⟨x38, hx39, h⟩ := opt_bind h
      refine vv (opv_idx Tryz.underlying26 Tryz.sizeOf55 hr28 rfl rfl hx39) <| SO.b1 <| SO.storeI1 (j := 0) (z' := wu64 (w64 (x36 + 1))) Tryz.sizeOf55 hx39 rfl rfl rfl rfl rfl rfl <| SO.rd fun hr40 => SO.nil <| tt [(6, .int .i64 x6_2), (4, .int .i64 x4_1), (3, v5), (2, .slice none 0 0), (0, bp bp0 0), (5, bp b19 0), (7, .int .i64 x30)] rfl ?_
      cases h
      refine S.b5 <| S.b5 <| S.b5 <| S.b5 <| S.b4 <| S.b5 ?_
      refine S.to ?_ (hk3 () trivial)
      exact ⟨rfl, rfl, rfl, rfl, rfl, rfl, rfl, trivial⟩
     rintro _ -
     replace h := hJ3
     refine S.b1 <| S.rd fun hr41 => S.seq <| S.region <| mv rfl <| vv (opv_add rfl rfl) <| fa Tryz.underlying62 rfl Tryz.sizeOf43 rfl rfl <| SO.b1 <| ld Tryz.isAgg43 rfl rfl <| vv (opv_lenR rfl Tryz.underlying43 hru17 rfl) <| vv (opv_lss rfl rfl) <| SO.nil ?_
     rcases bool_or (decide ((w64 (x6_2 + 1)) < (x11.Kids.length : Int))) with b42 | b42
     ·replace h := cond_t b42 h
      refine S.condT rfl b42 <| S.region <| mv rfl <| mv rfl <| vv (opv_mul rfl rfl) <| vv (opv_add rfl rfl) <| fa Tryz.underlying62 rfl Tryz.sizeOf43 rfl rfl <| ld Tryz.isAgg43 rfl rfl <| mv rfl <| vv (opv_add rfl rfl) ?_
      obtain ⟨x43, hx44, h⟩ := opt_bind h
      refine vv (opv_idx Tryz.underlying43 Tryz.sizeOf3 hru17 rfl rfl hx44) <| SO.loadI1 (j := 0) rfl Tryz.isAgg3 (Rd.tail (Rd.tail (Rd.tail (Rd.tail (Rd.head (Rd.pool hru17)))))) hx44 rfl rfl rfl rfl <| vv (opv_add rfl rfl) <| vv (opv_conv Tryz.underlying3 Tryz.underlying55 rfl) ?_
      obtain ⟨x45, hx46, h⟩ := opt_bind h
      refine vv (opv_idx Tryz.underlying26 Tryz.sizeOf55 hr41 rfl rfl hx46) <| SO.b1 <| SO.storeI1 (j := 0) (z' := wu64 (w64 (x43 + 1))) Tryz.sizeOf55 hx46 rfl rfl rfl rfl rfl rfl <| SO.rd fun hr47 => SO.nil <| tt [(0, bp bp0 0), (2, .slice none 0 0), (3, v5), (4, .int .i64 x4_1), (5, bp b19 0), (6, .int .i64 x6_2)] rfl <| S.inBlock <| S.region <| mv rfl <| vv (opv_add rfl rfl) <| ag rfl <| SO.nil <| S.b5 <| S.b5 <| S.b5 <| S.b5 <| S.b5 <| S.b5 ?_
      refine S.to ?_ (ih2 ((w64 (x6_2 + 1), qv5_3.set (w64 ((w64 (5 * x30)) + 3)).toNat (wu64 (w64 (x43 + 1)))), ()) h)
      exact ⟨rfl, rfl, rfl, rfl, rfl, rfl, trivial⟩
     replace h := cond_f b42 h
     refine S.condF rfl b42 <| S.skip <| S.inBlock <| S.region <| mv rfl <| vv (opv_add rfl rfl) <| ag rfl <| SO.nil <| tt [(0, bp bp0 0), (2, .slice none 0 0), (3, v5), (4, .int .i64 x4_1), (5, bp b19 0), (6, .int .i64 (w64 (x6_2 + 1)))] rfl <| S.b5 <| S.b5 <| S.b5 <| S.b5 <| S.b4 <| S.b5 ?_
     refine S.to ?_ (ih2 ((w64 (x6_2 + 1), qv5_3), ()) h)
     exact ⟨rfl, rfl, rfl, rfl, rfl, rfl, trivial⟩
    replace h := cond_f b29 h
    refine S.condF rfl b29 <| S.exit rfl ?_
    cases h
    refine S.b5 <| S.b5 <| S.b5 <| S.b5 <| S.b4 <| S.b5 ?_
    refine S.to ?_ (hK2 ())
    exact ⟨rfl, rfl, rfl, rfl, trivial⟩
   rintro _
   refine S.rd fun hr48 => S.inBlock <| S.region <| mv rfl <| vv (opv_add rfl rfl) <| ag rfl <| SO.nil <| S.b1 <| S.drop <| S.b4 <| S.b2 <| S.b4 <| S.b4 <| S.b4 ?_
   refine S.to ?_ (ih1 ((w64 (x4_1 + 1), qv5_e2), ()) h)
   exact ⟨rfl, rfl, rfl, rfl, trivial⟩
  replace h := cond_f b10 h
  refine S.condF rfl b10 <| S.exit rfl ?_
  cases h
  refine S.b4 <| S.b4 <| S.b4 <| S.b4 <| S.b4 ?_
  refine S.to ?_ (hK1 ())
  exact ⟨rfl, rfl, rfl, trivial⟩
 rintro _
 refine S.rd fun hr49 => S.seq <| S.seq <| S.region <| ag rfl <| SO.nil ?_
 obtain ⟨qv5_e4, hlp4, h⟩ := opt_bind h
 refine S.b4 <| S.b4 <| S.b4 <| S.b4 <| S.b4 <| tt [(8, .int .i64 0), (0, bp bp0 0), (2, .slice none 0 0), (3, v5)] rfl ?_
 refine S.forloop (X := (Int × (List Int)) × Unit) (O := (List Int)) (fun m x => ref10_State_Words.l4 a0 m x.1) (fun x => match x with | ((x8_4, qv5_4), _) => [(8, .int .i64 x8_4), (0, bp bp0 0), (2, .slice none 0 0), (3, v5)]) (fun x => match x with | ((x8_4, qv5_4), _) => [Own 55 (ekI .u64) v5 qv5_4, OwnO 48 kr_ref10_Obj v0_Objs raws_v0_Objs A_v0_Objs a0.Objs, OwnO 62 kr_ref10_Slot v0_Slots raws_v0_Slots A_v0_Slots a0.Slots, Box bp0 [v0_Slots, v0_Objs, .int .i64 a0.NS, .int .i64 a0.NO], F]) (fun Sk => (fun qv5_e4 => ∀ _ : Unit, Sk [(0, bp bp0 0), (2, .slice none 0 0), (3, v5)] [Own 55 (ekI .u64) v5 qv5_e4, OwnO 48 kr_ref10_Obj v0_Objs raws_v0_Objs A_v0_Objs a0.Objs, OwnO 62 kr_ref10_Slot v0_Slots raws_v0_Slots A_v0_Slots a0.Slots, Box bp0 [v0_Slots, v0_Objs, .int .i64 a0.NS, .int .i64 a0.NO], F])) (fun _ => rfl) ?_ (m := k) (x := ((0, qv5_e1), ())) hlp4 ?_
 ·clear h hlp4
  intro k x o_4 h hK4 ih4
  obtain ⟨⟨x8_4, qv5_4⟩, _⟩ := x
  replace h : ref10_State_Words.l4 a0 (k + 1) (x8_4, qv5_4) = some o_4 := h
  first | rw [ref10_State_Words.l4] at h | unfold ref10_State_Words.l4 at h
  refine S.rd fun hr50 => S.seq <| S.seq <| S.region <| mv rfl <| vv (opv_lss rfl rfl) <| SO.nil ?_
  rcases bool_or (decide (x8_4 < 32)) with b51 | b51
  ·replace h := cond_t b51 h
   refine S.condT rfl b51 <| S.skip <| S.seq <| S.block <| S.seq <| S.region <| mv rfl <| nc rfl <| fa Tryz.underlying52 rfl Tryz.sizeOf50 rfl rfl <| SO.b3 <| ld Tryz.isAgg50 rfl rfl <| mv rfl ?_
   obtain ⟨x52, hx53, h⟩ := opt_bind h
   obtain ⟨r54, hr55, hc56⟩ := relR.at hrel3 hx53
   refine vv (opv_idx Tryz.underlying50 Tryz.sizeOf48 hR4 rfl rfl hr55) <| hc56.rip fun u57 hru58 e59 => SO.loadIN rfl Tryz.isAgg48 Tryz.sizeOf48 (Rd.tail (Rd.tail (Rd.head hR4))) hr55 rfl rfl e59 <| SO.alloc rfl Tryz.zeroValue48 rfl fun b60 => SO.storeN Tryz.sizeOf48 rfl rfl (all1 rfl (all1 rfl (all1 rfl (all1 rfl (all1 rfl (all1 rfl (all1 (Rd.one hru58) (all1 rfl (all1 rfl (all1 rfl (all1 rfl (all1 rfl (all1 rfl (all1 rfl (all1 rfl (all1 rfl (all1 rfl (all1 rfl (all1 rfl (all1 rfl (all1 rfl (all1 rfl (all1 rfl (all1 rfl (all1 rfl (all1 rfl (all1 rfl (all1 rfl (all1 rfl (all1 rfl (all1 rfl (all1 rfl rfl)))))))))))))))))))))))))))))))) rfl rfl rfl <| SO.nil <| tt [(8, .int .i64 x8_4), (0, bp bp0 0), (2, .slice none 0 0), (3, v5), (9, bp b60 0)] rfl <| S.seq <| S.region <| mv rfl <| vv (opv_mul rfl rfl) <| vv (opv_add rfl rfl) <| ag rfl <| SO.nil <| S.seq <| S.region <| mv rfl <| mv rfl <| fa Tryz.underlying48 rfl Tryz.sizeOf3 rfl rfl <| ld Tryz.isAgg3 rfl rfl <| vv (opv_conv Tryz.underlying3 Tryz.underlying55 rfl) ?_
   obtain ⟨x61, hx62, h⟩ := opt_bind h
   refine vv (opv_idx Tryz.underlying26 Tryz.sizeOf55 hr50 rfl rfl hx62) <| SO.b2 <| SO.storeI1 (j := 0) (z' := wu64 x52.Kind) Tryz.sizeOf55 hx62 rfl rfl rfl rfl rfl rfl <| SO.rd fun hr63 => SO.nil <| tt [(8, .int .i64 x8_4), (0, bp bp0 0), (2, .slice none 0 0), (3, v5), (9, bp b60 0), (10, .int .i64 (w64 (480 + (w64 (8 * x8_4)))))] rfl <| S.seq <| S.seq <| S.region <| fa Tryz.underlying48 rfl Tryz.sizeOf3 rfl rfl <| SO.b1 <| ld Tryz.isAgg3 rfl rfl <| SO.nil ?_
   obtain ⟨qv5_5, hC5, hJ5⟩ := opt_bind h
   clear h
   refine S.cutP (G := Unit) (fun _ => True) (fun _ => [(0, bp bp0 0), (2, .slice none 0 0), (3, v5), (8, .int .i64 x8_4), (9, bp b60 0), (10, .int .i64 (w64 (480 + (w64 (8 * x8_4)))))]) (fun _ => [Box b60 [.int .i64 x52.Kind, .int .i64 x52.Size, .int .i64 x52.Used, .int .i64 x52.First, .int .i64 x52.Radix, .int .i64 x52.Wait, u57, .int .i64 x52.Word, .int .i64 x52.State, .int .i64 x52.Owing, .int .i64 x52.Badge, .int .i64 x52.Prio, .int .i64 x52.On, .int .i64 x52.Owes, .int .i64 x52.Root.Kind, .int .i64 x52.Root.Rights, .int .i64 x52.Root.Obj, .int .i64 x52.Root.Badge, .int .i64 x52.Root.Guard, .int .i64 x52.Root.Bits, .int .i64 x52.Pages.a0, .int .i64 x52.Pages.a1, .int .i64 x52.Pages.a2, .int .i64 x52.Pages.a3, .int .i64 x52.Right.a0, .int .i64 x52.Right.a1, .int .i64 x52.Right.a2, .int .i64 x52.Right.a3, .int .i64 x52.In, .int .i64 x52.Page, .int .i64 x52.Bound, .int .i64 x52.Mask], Own 55 (ekI .u64) v5 qv5_5, Box bp0 [v0_Slots, v0_Objs, .int .i64 a0.NS, .int .i64 a0.NO], OwnO 48 kr_ref10_Obj v0_Objs raws_v0_Objs A_v0_Objs a0.Objs, OwnO 62 kr_ref10_Slot v0_Slots raws_v0_Slots A_v0_Slots a0.Slots, F]) (fun hk5 => ?_) ?_
   ·replace h := hC5
    refine S.block <| S.seq <| S.region <| vv (opv_eql rfl rfl) <| ag rfl <| SO.nil ?_
    rcases bool_or (x52.Kind == 1) with b64 | b64
    ·replace h := cond_t b64 h
     refine S.condT rfl b64 <| S.seq <| S.region <| mv rfl <| mv rfl <| vv (opv_add rfl rfl) <| fa Tryz.underlying48 rfl Tryz.sizeOf3 rfl rfl <| ld Tryz.isAgg3 rfl rfl <| vv (opv_conv Tryz.underlying3 Tryz.underlying55 rfl) ?_
     obtain ⟨x65, hx66, h⟩ := opt_bind h
     refine vv (opv_idx Tryz.underlying26 Tryz.sizeOf55 hr63 rfl rfl hx66) <| SO.b1 <| SO.storeI1 (j := 0) (z' := wu64 x52.Size) Tryz.sizeOf55 hx66 rfl rfl rfl rfl rfl rfl <| SO.rd fun hr67 => SO.nil <| tt [(8, .int .i64 x8_4), (0, bp bp0 0), (2, .slice none 0 0), (3, v5), (9, bp b60 0), (10, .int .i64 (w64 (480 + (w64 (8 * x8_4)))))] rfl <| S.region <| mv rfl <| mv rfl <| vv (opv_add rfl rfl) <| fa Tryz.underlying48 rfl Tryz.sizeOf3 rfl rfl <| SO.b1 <| ld Tryz.isAgg3 rfl rfl <| vv (opv_conv Tryz.underlying3 Tryz.underlying55 rfl) ?_
     obtain ⟨x68, hx69, h⟩ := opt_bind h
     refine vv (opv_idx Tryz.underlying26 Tryz.sizeOf55 hr67 rfl rfl hx69) <| SO.b1 <| SO.storeI1 (j := 0) (z' := wu64 x52.Used) Tryz.sizeOf55 hx69 rfl rfl rfl rfl rfl rfl <| SO.rd fun hr70 => SO.nil <| tt [(8, .int .i64 x8_4), (0, bp bp0 0), (2, .slice none 0 0), (3, v5), (9, bp b60 0), (10, .int .i64 (w64 (480 + (w64 (8 * x8_4)))))] rfl <| S.inBlock ?_
     cases h
     refine S.b5 <| S.b5 <| S.b5 <| S.b5 <| S.b4 <| S.b5 ?_
     refine S.to ?_ (hk5 () trivial)
     exact ⟨rfl, rfl, rfl, rfl, rfl, rfl, trivial⟩
    replace h := cond_f b64 h
    refine S.condF rfl b64 <| S.seq <| S.region <| vv (opv_eql rfl rfl) <| ag rfl <| SO.nil ?_
    rcases bool_or (x52.Kind == 2) with b71 | b71
    ·replace h := cond_t b71 h
     refine S.condT rfl b71 <| S.seq <| S.region <| mv rfl <| mv rfl <| vv (opv_add rfl rfl) <| fa Tryz.underlying48 rfl Tryz.sizeOf3 rfl rfl <| ld Tryz.isAgg3 rfl rfl <| vv (opv_conv Tryz.underlying3 Tryz.underlying55 rfl) ?_
     obtain ⟨x72, hx73, h⟩ := opt_bind h
     refine vv (opv_idx Tryz.underlying26 Tryz.sizeOf55 hr63 rfl rfl hx73) <| SO.b1 <| SO.storeI1 (j := 0) (z' := wu64 x52.First) Tryz.sizeOf55 hx73 rfl rfl rfl rfl rfl rfl <| SO.rd fun hr74 => SO.nil <| tt [(8, .int .i64 x8_4), (0, bp bp0 0), (2, .slice none 0 0), (3, v5), (9, bp b60 0), (10, .int .i64 (w64 (480 + (w64 (8 * x8_4)))))] rfl <| S.region <| mv rfl <| mv rfl <| vv (opv_add rfl rfl) <| fa Tryz.underlying48 rfl Tryz.sizeOf3 rfl rfl <| SO.b1 <| ld Tryz.isAgg3 rfl rfl <| vv (opv_conv Tryz.underlying3 Tryz.underlying55 rfl) ?_
     obtain ⟨x75, hx76, h⟩ := opt_bind h
     refine vv (opv_idx Tryz.underlying26 Tryz.sizeOf55 hr74 rfl rfl hx76) <| SO.b1 <| SO.storeI1 (j := 0) (z' := wu64 x52.Radix) Tryz.sizeOf55 hx76 rfl rfl rfl rfl rfl rfl <| SO.rd fun hr77 => SO.nil <| tt [(8, .int .i64 x8_4), (0, bp bp0 0), (2, .slice none 0 0), (3, v5), (9, bp b60 0), (10, .int .i64 (w64 (480 + (w64 (8 * x8_4)))))] rfl <| S.inBlock ?_
     cases h
     refine S.b5 <| S.b5 <| S.b5 <| S.b5 <| S.b4 <| S.b5 ?_
     refine S.to ?_ (hk5 () trivial)
     exact ⟨rfl, rfl, rfl, rfl, rfl, rfl, trivial⟩
    replace h := cond_f b71 h
    refine S.condF rfl b71 <| S.seq <| S.region <| vv (opv_eql rfl rfl) <| ag rfl <| SO.nil ?_
    rcases bool_or (x52.Kind == 3) with b78 | b78
    ·replace h := cond_t b78 h
     refine S.condT rfl b78 <| S.region <| mv rfl <| mv rfl <| vv (opv_add rfl rfl) <| fa Tryz.underlying48 rfl Tryz.sizeOf3 rfl rfl <| ld Tryz.isAgg3 rfl rfl <| vv (opv_conv Tryz.underlying3 Tryz.underlying55 rfl) ?_
     obtain ⟨x79, hx80, h⟩ := opt_bind h
     refine vv (opv_idx Tryz.underlying26 Tryz.sizeOf55 hr63 rfl rfl hx80) <| SO.b1 <| SO.storeI1 (j := 0) (z' := wu64 x52.Wait) Tryz.sizeOf55 hx80 rfl rfl rfl rfl rfl rfl <| SO.rd fun hr81 => SO.nil <| tt [(8, .int .i64 x8_4), (0, bp bp0 0), (2, .slice none 0 0), (3, v5), (9, bp b60 0), (10, .int .i64 (w64 (480 + (w64 (8 * x8_4)))))] rfl <| S.inBlock ?_
     cases h
     refine S.b5 <| S.b5 <| S.b5 <| S.b5 <| S.b4 <| S.b5 ?_
     refine S.to ?_ (hk5 () trivial)
     exact ⟨rfl, rfl, rfl, rfl, rfl, rfl, trivial⟩
    replace h := cond_f b78 h
    refine S.condF rfl b78 <| S.seq <| S.region <| vv (opv_eql rfl rfl) <| ag rfl <| SO.nil <| tt [(8, .int .i64 x8_4), (0, bp bp0 0), (2, .slice none 0 0), (3, v5), (9, bp b60 0), (10, .int .i64 (w64 (480 + (w64 (8 * x8_4))))), (117, .int .i64 x52.Kind), (159, .bool (x52.Kind == 4))] rfl ?_
    rcases bool_or (x52.Kind == 4) with b82 | b82
    ·replace h := cond_t b82 h
     refine S.condT rfl b82 <| S.region <| mv rfl <| mv rfl <| vv (opv_add rfl rfl) <| fa Tryz.underlying48 rfl Tryz.sizeOf3 rfl rfl <| ld Tryz.isAgg3 rfl rfl <| vv (opv_conv Tryz.underlying3 Tryz.underlying55 rfl) ?_
     obtain ⟨x83, hx84, h⟩ := opt_bind h
     refine vv (opv_idx Tryz.underlying26 Tryz.sizeOf55 hr63 rfl rfl hx84) <| SO.b1 <| SO.storeI1 (j := 0) (z' := wu64 x52.Word) Tryz.sizeOf55 hx84 rfl rfl rfl rfl rfl rfl <| SO.rd fun hr85 => SO.nil <| tt [(8, .int .i64 x8_4), (0, bp bp0 0), (2, .slice none 0 0), (3, v5), (9, bp b60 0), (10, .int .i64 (w64 (480 + (w64 (8 * x8_4)))))] rfl <| S.inBlock ?_
     cases h
     refine S.b5 <| S.b5 <| S.b5 <| S.b5 <| S.b4 <| S.b5 ?_
     refine S.to ?_ (hk5 () trivial)
     exact ⟨rfl, rfl, rfl, rfl, rfl, rfl, trivial⟩
    replace h := cond_f b82 h
    refine S.condF rfl b82 <| S.seq <| S.region <| vv (opv_eql rfl rfl) <| ag rfl <| SO.nil ?_
    rcases bool_or (x52.Kind == 5) with b86 | b86
    ·replace h := cond_t b86 h
     refine S.condT rfl b86 <| S.seq <| S.region <| mv rfl <| mv rfl <| vv (opv_add rfl rfl) <| fa Tryz.underlying48 rfl Tryz.sizeOf3 rfl rfl <| ld Tryz.isAgg3 rfl rfl <| vv (opv_conv Tryz.underlying3 Tryz.underlying55 rfl) ?_
     obtain ⟨x87, hx88, h⟩ := opt_bind h
     refine vv (opv_idx Tryz.underlying26 Tryz.sizeOf55 hr63 rfl rfl hx88) <| SO.b1 <| SO.storeI1 (j := 0) (z' := wu64 x52.State) Tryz.sizeOf55 hx88 rfl rfl rfl rfl rfl rfl <| SO.rd fun hr89 => SO.nil <| tt [(8, .int .i64 x8_4), (0, bp bp0 0), (2, .slice none 0 0), (3, v5), (9, bp b60 0), (10, .int .i64 (w64 (480 + (w64 (8 * x8_4)))))] rfl <| S.seq ?_
     obtain ⟨x90, hx91, h⟩ := opt_bind h
     obtain ⟨x92, hx93, h⟩ := opt_bind h
     refine S.draw2 (Y := fun Q => ∃ (_ _ _ _ _ _ _ _ _ _ : Unit), Q [(3, v5), (10, .int .i64 (w64 (480 + (w64 (8 * x8_4))))), (9, bp b60 0), (8, .int .i64 x8_4), (0, bp bp0 0), (2, .slice none 0 0)] [Own 55 (ekI .u64) v5 ((qv5_4.set (w64 (480 + (w64 (8 * x8_4)))).toNat (wu64 x52.Kind)).set (w64 ((w64 (480 + (w64 (8 * x8_4)))) + 1)).toNat (wu64 x52.State)), Box b60 [.int .i64 x52.Kind, .int .i64 x52.Size, .int .i64 x52.Used, .int .i64 x52.First, .int .i64 x52.Radix, .int .i64 x52.Wait, u57, .int .i64 x52.Word, .int .i64 x52.State, .int .i64 x52.Owing, .int .i64 x52.Badge, .int .i64 x52.Prio, .int .i64 x52.On, .int .i64 x52.Owes, .int .i64 x52.Root.Kind, .int .i64 x52.Root.Rights, .int .i64 x52.Root.Obj, .int .i64 x52.Root.Badge, .int .i64 x52.Root.Guard, .int .i64 x52.Root.Bits, .int .i64 x52.Pages.a0, .int .i64 x52.Pages.a1, .int .i64 x52.Pages.a2, .int .i64 x52.Pages.a3, .int .i64 x52.Right.a0, .int .i64 x52.Right.a1, .int .i64 x52.Right.a2, .int .i64 x52.Right.a3, .int .i64 x52.In, .int .i64 x52.Page, .int .i64 x52.Bound, .int .i64 x52.Mask], Box bp0 [v0_Slots, v0_Objs, .int .i64 a0.NS, .int .i64 a0.NO], OwnO 48 kr_ref10_Obj v0_Objs raws_v0_Objs A_v0_Objs a0.Objs, OwnO 62 kr_ref10_Slot v0_Slots raws_v0_Slots A_v0_Slots a0.Slots, F]) (Z := fun Q => ∀ (_ _ _ _ _ _ _ _ _ _ : Unit), Q [(8, .int .i64 x8_4), (0, bp bp0 0), (2, .slice none 0 0), (3, v5), (9, bp b60 0), (10, .int .i64 (w64 (480 + (w64 (8 * x8_4)))))] [Own 55 (ekI .u64) v5 (((qv5_4.set (w64 (480 + (w64 (8 * x8_4)))).toNat (wu64 x52.Kind)).set (w64 ((w64 (480 + (w64 (8 * x8_4)))) + 1)).toNat (wu64 x52.State)).set (w64 ((w64 (480 + (w64 (8 * x8_4)))) + 2)).toNat (wu64 (x90 + (wu64 (w64 (x52.Owing + 1)))))), Box b60 [.int .i64 x52.Kind, .int .i64 x52.Size, .int .i64 x52.Used, .int .i64 x52.First, .int .i64 x52.Radix, .int .i64 x52.Wait, u57, .int .i64 x52.Word, .int .i64 x52.State, .int .i64 x52.Owing, .int .i64 x52.Badge, .int .i64 x52.Prio, .int .i64 x52.On, .int .i64 x52.Owes, .int .i64 x52.Root.Kind, .int .i64 x52.Root.Rights, .int .i64 x52.Root.Obj, .int .i64 x52.Root.Badge, .int .i64 x52.Root.Guard, .int .i64 x52.Root.Bits, .int .i64 x52.Pages.a0, .int .i64 x52.Pages.a1, .int .i64 x52.Pages.a2, .int .i64 x52.Pages.a3, .int .i64 x52.Right.a0, .int .i64 x52.Right.a1, .int .i64 x52.Right.a2, .int .i64 x52.Right.a3, .int .i64 x52.In, .int .i64 x52.Page, .int .i64 x52.Bound, .int .i64 x52.Mask], Box bp0 [v0_Slots, v0_Objs, .int .i64 a0.NS, .int .i64 a0.NO], OwnO 48 kr_ref10_Obj v0_Objs raws_v0_Objs A_v0_Objs a0.Objs, OwnO 62 kr_ref10_Slot v0_Slots raws_v0_Slots A_v0_Slots a0.Slots, F]) (T := [tS 3 (v5), tS 10 (.int .i64 (w64 (480 + (w64 (8 * x8_4))))), tS 9 (bp b60 0), tE [(8, .int .i64 x8_4), (0, bp bp0 0), (2, .slice none 0 0)], tR (Own 55 (ekI .u64) v5 ((qv5_4.set (w64 (480 + (w64 (8 * x8_4)))).toNat (wu64 x52.Kind)).set (w64 ((w64 (480 + (w64 (8 * x8_4)))) + 1)).toNat (wu64 x52.State))), tR (Box b60 [.int .i64 x52.Kind, .int .i64 x52.Size, .int .i64 x52.Used, .int .i64 x52.First, .int .i64 x52.Radix, .int .i64 x52.Wait, u57, .int .i64 x52.Word, .int .i64 x52.State, .int .i64 x52.Owing, .int .i64 x52.Badge, .int .i64 x52.Prio, .int .i64 x52.On, .int .i64 x52.Owes, .int .i64 x52.Root.Kind, .int .i64 x52.Root.Rights, .int .i64 x52.Root.Obj, .int .i64 x52.Root.Badge, .int .i64 x52.Root.Guard, .int .i64 x52.Root.Bits, .int .i64 x52.Pages.a0, .int .i64 x52.Pages.a1, .int .i64 x52.Pages.a2, .int .i64 x52.Pages.a3, .int .i64 x52.Right.a0, .int .i64 x52.Right.a1, .int .i64 x52.Right.a2, .int .i64 x52.Right.a3, .int .i64 x52.In, .int .i64 x52.Page, .int .i64 x52.Bound, .int .i64 x52.Mask]), tR (Box bp0 [v0_Slots, v0_Objs, .int .i64 a0.NS, .int .i64 a0.NO]), tR (OwnO 48 kr_ref10_Obj v0_Objs raws_v0_Objs A_v0_Objs a0.Objs), tR (OwnO 62 kr_ref10_Slot v0_Slots raws_v0_Slots A_v0_Slots a0.Slots), tR (F), tS 177 (v5), tS 178 (.int .i64 (w64 (480 + (w64 (8 * x8_4))))), tS 179 (.int .i64 (w64 ((w64 (480 + (w64 (8 * x8_4)))) + 2))), tS 180 (v5), tS 181 (.int .i64 (w64 (480 + (w64 (8 * x8_4))))), tS 182 (.int .i64 (w64 ((w64 (480 + (w64 (8 * x8_4)))) + 2))), tS 183 (idxp v5 ((w64 ((w64 (480 + (w64 (8 * x8_4)))) + 2)).toNat * (ekI .u64).sz)), tS 184 (.int .u64 x90), tS 185 (bp b60 9), tS 186 (.int .i64 x52.Owing), tS 187 (.int .i64 (w64 (x52.Owing + 1))), tS 188 (.int .u64 (wu64 (w64 (x52.Owing + 1)))), tS 189 (.int .u64 (wu64 (x90 + (wu64 (w64 (x52.Owing + 1)))))), tS 190 (idxp v5 ((w64 ((w64 (480 + (w64 (8 * x8_4)))) + 2)).toNat * (ekI .u64).sz)), tR (Own 55 (ekI .u64) v5 (((qv5_4.set (w64 (480 + (w64 (8 * x8_4)))).toNat (wu64 x52.Kind)).set (w64 ((w64 (480 + (w64 (8 * x8_4)))) + 1)).toNat (wu64 x52.State)).set (w64 ((w64 (480 + (w64 (8 * x8_4)))) + 2)).toNat (wu64 (x90 + (wu64 (w64 (x52.Owing + 1)))))))]) (D := [⟨[0], [], [10]⟩, ⟨[1], [], [11]⟩, ⟨[11], [], [12]⟩, ⟨[0], [], [13]⟩, ⟨[1], [], [14]⟩, ⟨[14], [], [15]⟩, ⟨[13, 15, 4], [], [16]⟩, ⟨[16, 4], [], [17]⟩, ⟨[2], [], [18]⟩, ⟨[18, 5], [], [19]⟩, ⟨[19], [], [20]⟩, ⟨[20], [], [21]⟩, ⟨[17, 21], [], [22]⟩, ⟨[10, 12, 4], [], [23]⟩, ⟨[22, 23], [4], [24]⟩]) (ini := [0, 1, 2, 3, 4, 5, 6, 7, 8, 9]) (fin := [3, 0, 2, 1, 24, 5, 6, 7, 8, 9]) (bf := [[], [], [1], [], [], [4], [3, 4, 5], [3, 4, 5, 6], [], [8], [8, 9], [8, 9, 10], [3, 4, 5, 6, 7, 8, 9, 10, 11], [0, 1, 2, 3, 4, 5, 6, 7, 8, 9, 10, 11, 12], [0, 1, 2, 3, 4, 5, 6, 7, 8, 9, 10, 11, 12, 13]]) (by kernel_rfl) (by kernel_rfl) (fun Q => by kernel_rfl) (fun x w h1 h2 => ⟨(), (), (), (), (), (), (), (), (), (), EnvAll.of h1 ⟨rfl, rfl, rfl, rfl, rfl, rfl, trivial⟩, h2⟩) (fun Q => by kernel_rfl) ⟨?_, ?_, ?_, ?_, ?_, ?_, ?_, ?_, ?_, ?_, ?_, ?_, ?_, ?_, ?_, trivial⟩ ?_
     ·rintro Fr _
      exact mv rfl <| nz2 rfl () () rfl
     ·rintro Fr _
      exact mv rfl <| nz2 rfl () () rfl
     ·rintro Fr _
      exact vv (opv_add rfl rfl) <| nz2 rfl () () rfl
     ·rintro Fr _
      exact mv rfl <| nz2 rfl () () rfl
     ·rintro Fr _
      exact mv rfl <| nz2 rfl () () rfl
     ·rintro Fr _
      exact vv (opv_add rfl rfl) <| nz2 rfl () () rfl
     ·rintro Fr _ _ _
      exact vv (opv_idx Tryz.underlying26 Tryz.sizeOf55 hr89 rfl rfl hx91) <| nz4 rfl () () () () rfl
     ·rintro Fr _ _
      exact SO.loadI1 (j := 0) rfl Tryz.isAgg55 (Rd.head hr89) hx91 rfl rfl rfl rfl <| nz3 rfl () () () rfl
     ·rintro Fr _
      exact fa Tryz.underlying48 rfl Tryz.sizeOf3 rfl rfl <| nz2 rfl () () rfl
     ·rintro Fr _ _
      exact ld Tryz.isAgg3 rfl rfl <| nz3 rfl () () () rfl
     ·rintro Fr _
      exact vv (opv_add rfl rfl) <| nz2 rfl () () rfl
     ·rintro Fr _
      exact vv (opv_conv Tryz.underlying3 Tryz.underlying55 rfl) <| nz2 rfl () () rfl
     ·rintro Fr _ _
      exact vv (opv_add rfl rfl) <| nz3 rfl () () () rfl
     ·rintro Fr _ _ _
      exact vv (opv_idx Tryz.underlying26 Tryz.sizeOf55 hr89 rfl rfl hx93) <| nz4 rfl () () () () rfl
     ·rintro Fr _ _ _
      exact SO.storeI1 (j := 0) (z' := wu64 (x90 + (wu64 (w64 (x52.Owing + 1))))) Tryz.sizeOf55 hx93 rfl rfl rfl rfl rfl rfl <| SO.rd fun hr94 => nz3 rfl () () () rfl
     rintro _ _ _ _ _ _ _ _ _ _
     refine tt [(8, .int .i64 x8_4), (0, bp bp0 0), (2, .slice none 0 0), (3, v5), (9, bp b60 0), (10, .int .i64 (w64 (480 + (w64 (8 * x8_4)))))] rfl <| S.rd fun hr95 => S.seq <| S.region <| mv rfl <| mv rfl <| vv (opv_add rfl rfl) <| fa Tryz.underlying48 rfl Tryz.sizeOf3 rfl rfl <| SO.b1 <| ld Tryz.isAgg3 rfl rfl <| vv (opv_conv Tryz.underlying3 Tryz.underlying55 rfl) ?_
     obtain ⟨x96, hx97, h⟩ := opt_bind h
     refine vv (opv_idx Tryz.underlying26 Tryz.sizeOf55 hr95 rfl rfl hx97) <| SO.b1 <| SO.storeI1 (j := 0) (z' := wu64 x52.Word) Tryz.sizeOf55 hx97 rfl rfl rfl rfl rfl rfl <| SO.rd fun hr98 => SO.nil <| tt [(8, .int .i64 x8_4), (0, bp bp0 0), (2, .slice none 0 0), (3, v5), (9, bp b60 0), (10, .int .i64 (w64 (480 + (w64 (8 * x8_4)))))] rfl <| S.seq <| S.region <| mv rfl <| mv rfl <| vv (opv_add rfl rfl) <| fa Tryz.underlying48 rfl Tryz.sizeOf3 rfl rfl <| SO.b1 <| ld Tryz.isAgg3 rfl rfl <| vv (opv_conv Tryz.underlying3 Tryz.underlying55 rfl) ?_
     obtain ⟨x99, hx100, h⟩ := opt_bind h
     refine vv (opv_idx Tryz.underlying26 Tryz.sizeOf55 hr98 rfl rfl hx100) <| SO.b1 <| SO.storeI1 (j := 0) (z' := wu64 x52.Badge) Tryz.sizeOf55 hx100 rfl rfl rfl rfl rfl rfl <| SO.rd fun hr101 => SO.nil <| tt [(8, .int .i64 x8_4), (0, bp bp0 0), (2, .slice none 0 0), (3, v5), (9, bp b60 0), (10, .int .i64 (w64 (480 + (w64 (8 * x8_4)))))] rfl <| S.seq <| S.region <| mv rfl <| mv rfl <| vv (opv_add rfl rfl) <| fa Tryz.underlying48 rfl Tryz.sizeOf3 rfl rfl <| SO.b1 <| ld Tryz.isAgg3 rfl rfl <| fa Tryz.underlying48 rfl Tryz.sizeOf3 rfl rfl <| ld Tryz.isAgg3 rfl rfl <| vv (opv_add rfl rfl) <| vv (opv_mul rfl rfl) <| vv (opv_add rfl rfl) <| vv (opv_conv Tryz.underlying3 Tryz.underlying55 rfl) ?_
     obtain ⟨x102, hx103, h⟩ := opt_bind h
     refine vv (opv_idx Tryz.underlying26 Tryz.sizeOf55 hr101 rfl rfl hx103) <| SO.b1 <| SO.storeI1 (j := 0) (z' := wu64 (w64 (x52.Prio + (w64 (256 * (w64 (x52.On + 1))))))) Tryz.sizeOf55 hx103 rfl rfl rfl rfl rfl rfl <| SO.rd fun hr104 => SO.nil <| tt [(8, .int .i64 x8_4), (0, bp bp0 0), (2, .slice none 0 0), (3, v5), (9, bp b60 0), (10, .int .i64 (w64 (480 + (w64 (8 * x8_4)))))] rfl <| S.seq <| S.region <| mv rfl <| mv rfl <| vv (opv_add rfl rfl) <| fa Tryz.underlying48 rfl Tryz.sizeOf3 rfl rfl <| SO.b1 <| ld Tryz.isAgg3 rfl rfl <| vv (opv_add rfl rfl) <| vv (opv_conv Tryz.underlying3 Tryz.underlying55 rfl) ?_
     obtain ⟨x105, hx106, h⟩ := opt_bind h
     refine vv (opv_idx Tryz.underlying26 Tryz.sizeOf55 hr104 rfl rfl hx106) <| SO.b1 <| SO.storeI1 (j := 0) (z' := wu64 (w64 (x52.Owes + 1))) Tryz.sizeOf55 hx106 rfl rfl rfl rfl rfl rfl <| SO.rd fun hr107 => SO.nil <| tt [(8, .int .i64 x8_4), (0, bp bp0 0), (2, .slice none 0 0), (3, v5), (9, bp b60 0), (10, .int .i64 (w64 (480 + (w64 (8 * x8_4)))))] rfl <| S.region <| mv rfl <| mv rfl <| vv (opv_add rfl rfl) <| fa Tryz.underlying48 rfl Tryz.sizeOf45 rfl rfl <| SO.b1 <| SO.loadN rfl Tryz.isAgg45 Tryz.sizeOf45 rfl rfl rfl ?_
     obtain ⟨t108, ht109, h⟩ := opt_bind h
     refine SO.call (pre := []) rfl Tryz.call19 rfl rfl rfl (ref01_Word.ct _ _ ht109) trivial ?_
     rintro _ _ ⟨rfl, rfl⟩
     obtain ⟨x110, hx111, h⟩ := opt_bind h
     refine vv (opv_idx Tryz.underlying26 Tryz.sizeOf55 hr107 rfl rfl hx111) <| SO.b1 <| SO.storeI1 (j := 0) (z' := t108) Tryz.sizeOf55 hx111 rfl rfl rfl rfl rfl rfl <| SO.rd fun hr112 => SO.nil <| tt [(8, .int .i64 x8_4), (0, bp bp0 0), (2, .slice none 0 0), (3, v5), (9, bp b60 0), (10, .int .i64 (w64 (480 + (w64 (8 * x8_4)))))] rfl <| S.inBlock ?_
     cases h
     refine S.b5 <| S.b5 <| S.b5 <| S.b5 <| S.b4 <| S.b5 ?_
     refine S.to ?_ (hk5 () trivial)
     exact ⟨rfl, rfl, rfl, rfl, rfl, rfl, trivial⟩
    replace h := cond_f b86 h
    refine S.condF rfl b86 <| S.seq <| S.region <| vv (opv_eql rfl rfl) <| ag rfl <| SO.nil ?_
    rcases bool_or (x52.Kind == 6) with b113 | b113
    ·replace h := cond_t b113 h
     refine S.condT rfl b113 <| S.seq <| S.region <| mv rfl <| mv rfl <| vv (opv_add rfl rfl) <| fa Tryz.underlying48 rfl Tryz.sizeOf3 rfl rfl <| ld Tryz.isAgg3 rfl rfl <| vv (opv_add rfl rfl) <| vv (opv_conv Tryz.underlying3 Tryz.underlying55 rfl) ?_
     obtain ⟨x114, hx115, h⟩ := opt_bind h
     refine vv (opv_idx Tryz.underlying26 Tryz.sizeOf55 hr63 rfl rfl hx115) <| SO.b1 <| SO.storeI1 (j := 0) (z' := wu64 (w64 (x52.In + 1))) Tryz.sizeOf55 hx115 rfl rfl rfl rfl rfl rfl <| SO.rd fun hr116 => SO.nil <| tt [(8, .int .i64 x8_4), (0, bp bp0 0), (2, .slice none 0 0), (3, v5), (9, bp b60 0), (10, .int .i64 (w64 (480 + (w64 (8 * x8_4)))))] rfl <| S.region <| mv rfl <| mv rfl <| vv (opv_add rfl rfl) <| fa Tryz.underlying48 rfl Tryz.sizeOf3 rfl rfl <| SO.b1 <| ld Tryz.isAgg3 rfl rfl <| vv (opv_conv Tryz.underlying3 Tryz.underlying55 rfl) ?_
     obtain ⟨x117, hx118, h⟩ := opt_bind h
     refine vv (opv_idx Tryz.underlying26 Tryz.sizeOf55 hr116 rfl rfl hx118) <| SO.b1 <| SO.storeI1 (j := 0) (z' := wu64 x52.Page) Tryz.sizeOf55 hx118 rfl rfl rfl rfl rfl rfl <| SO.rd fun hr119 => SO.nil <| tt [(8, .int .i64 x8_4), (0, bp bp0 0), (2, .slice none 0 0), (3, v5), (9, bp b60 0), (10, .int .i64 (w64 (480 + (w64 (8 * x8_4)))))] rfl <| S.inBlock ?_
     cases h
     refine S.b5 <| S.b5 <| S.b5 <| S.b5 <| S.b4 <| S.b5 ?_
     refine S.to ?_ (hk5 () trivial)
     exact ⟨rfl, rfl, rfl, rfl, rfl, rfl, trivial⟩
    replace h := cond_f b113 h
    refine S.condF rfl b113 <| S.seq <| S.region <| vv (opv_eql rfl rfl) <| ag rfl <| SO.nil ?_
    rcases bool_or (x52.Kind == 7) with b120 | b120
    ·replace h := cond_t b120 h
     refine S.condT rfl b120 <| S.seq <| S.region <| ag rfl <| SO.nil <| tt [(8, .int .i64 x8_4), (0, bp bp0 0), (2, .slice none 0 0), (3, v5), (9, bp b60 0), (10, .int .i64 (w64 (480 + (w64 (8 * x8_4))))), (11, .int .i64 0)] rfl ?_
     obtain ⟨qv5_e6, hlp6, h⟩ := opt_bind h
     refine S.b5 <| S.b5 <| S.b5 <| S.b5 <| S.b5 <| S.b5 <| tt [(8, .int .i64 x8_4), (0, bp bp0 0), (2, .slice none 0 0), (3, v5), (9, bp b60 0), (10, .int .i64 (w64 (480 + (w64 (8 * x8_4))))), (11, .int .i64 0)] rfl ?_
     refine S.forloop (X := (Int × (List Int)) × Unit) (O := (List Int)) (fun m x => ref10_State_Words.l6 x8_4 x52 m x.1) (fun x => match x with | ((x11_6, qv5_6), _) => [(8, .int .i64 x8_4), (0, bp bp0 0), (2, .slice none 0 0), (3, v5), (9, bp b60 0), (10, .int .i64 (w64 (480 + (w64 (8 * x8_4))))), (11, .int .i64 x11_6)]) (fun x => match x with | ((x11_6, qv5_6), _) => [Box b60 [.int .i64 x52.Kind, .int .i64 x52.Size, .int .i64 x52.Used, .int .i64 x52.First, .int .i64 x52.Radix, .int .i64 x52.Wait, u57, .int .i64 x52.Word, .int .i64 x52.State, .int .i64 x52.Owing, .int .i64 x52.Badge, .int .i64 x52.Prio, .int .i64 x52.On, .int .i64 x52.Owes, .int .i64 x52.Root.Kind, .int .i64 x52.Root.Rights, .int .i64 x52.Root.Obj, .int .i64 x52.Root.Badge, .int .i64 x52.Root.Guard, .int .i64 x52.Root.Bits, .int .i64 x52.Pages.a0, .int .i64 x52.Pages.a1, .int .i64 x52.Pages.a2, .int .i64 x52.Pages.a3, .int .i64 x52.Right.a0, .int .i64 x52.Right.a1, .int .i64 x52.Right.a2, .int .i64 x52.Right.a3, .int .i64 x52.In, .int .i64 x52.Page, .int .i64 x52.Bound, .int .i64 x52.Mask], Own 55 (ekI .u64) v5 qv5_6, Box bp0 [v0_Slots, v0_Objs, .int .i64 a0.NS, .int .i64 a0.NO], OwnO 48 kr_ref10_Obj v0_Objs raws_v0_Objs A_v0_Objs a0.Objs, OwnO 62 kr_ref10_Slot v0_Slots raws_v0_Slots A_v0_Slots a0.Slots, F]) (fun Sk => (fun qv5_e6 => ∀ _ : Unit, Sk [(0, bp bp0 0), (2, .slice none 0 0), (3, v5), (8, .int .i64 x8_4), (9, bp b60 0), (10, .int .i64 (w64 (480 + (w64 (8 * x8_4)))))] [Box b60 [.int .i64 x52.Kind, .int .i64 x52.Size, .int .i64 x52.Used, .int .i64 x52.First, .int .i64 x52.Radix, .int .i64 x52.Wait, u57, .int .i64 x52.Word, .int .i64 x52.State, .int .i64 x52.Owing, .int .i64 x52.Badge, .int .i64 x52.Prio, .int .i64 x52.On, .int .i64 x52.Owes, .int .i64 x52.Root.Kind, .int .i64 x52.Root.Rights, .int .i64 x52.Root.Obj, .int .i64 x52.Root.Badge, .int .i64 x52.Root.Guard, .int .i64 x52.Root.Bits, .int .i64 x52.Pages.a0, .int .i64 x52.Pages.a1, .int .i64 x52.Pages.a2, .int .i64 x52.Pages.a3, .int .i64 x52.Right.a0, .int .i64 x52.Right.a1, .int .i64 x52.Right.a2, .int .i64 x52.Right.a3, .int .i64 x52.In, .int .i64 x52.Page, .int .i64 x52.Bound, .int .i64 x52.Mask], Own 55 (ekI .u64) v5 qv5_e6, Box bp0 [v0_Slots, v0_Objs, .int .i64 a0.NS, .int .i64 a0.NO], OwnO 48 kr_ref10_Obj v0_Objs raws_v0_Objs A_v0_Objs a0.Objs, OwnO 62 kr_ref10_Slot v0_Slots raws_v0_Slots A_v0_Slots a0.Slots, F])) (fun _ => rfl) ?_ (m := k) (x := ((0, qv5_4.set (w64 (480 + (w64 (8 * x8_4)))).toNat (wu64 x52.Kind)), ())) hlp6 ?_
     ·clear h hlp6
      intro k x o_6 h hK6 ih6
      obtain ⟨⟨x11_6, qv5_6⟩, _⟩ := x
      replace h : ref10_State_Words.l6 x8_4 x52 (k + 1) (x11_6, qv5_6) = some o_6 := h
      first | rw [ref10_State_Words.l6] at h | unfold ref10_State_Words.l6 at h
      refine S.b1 <| S.rd fun hr121 => S.seq <| S.seq <| S.region <| mv rfl <| vv (opv_lss rfl rfl) <| SO.nil ?_
      rcases bool_or (decide (x11_6 < 4)) with b122 | b122
      ·replace h := cond_t b122 h
       refine S.condT rfl b122 <| S.skip <| S.seq <| S.block <| S.seq <| S.region <| mv rfl <| fa Tryz.underlying48 rfl Tryz.sizeOf46 rfl rfl ?_
       obtain ⟨x123, hx124, h⟩ := opt_bind h
       refine vv (opv_idxA Tryz.underlying46 Tryz.sizeOf3 rfl rfl hx124) <| SO.b1 <| SO.load1 (v := .int .i64 x123) rfl Tryz.isAgg3 rfl (by rcases A4.get_cases hx124 with ⟨h1, h2⟩ | ⟨h1, h2⟩ | ⟨h1, h2⟩ | ⟨h1, h2⟩ <;> simp only [h1, h2] <;> rfl) <| vv (opv_geq rfl rfl) <| SO.nil ?_
       rcases bool_or (decide (0 ≤ x123)) with b125 | b125
       ·replace h := cond_t b125 h
        refine S.condT rfl b125 ?_
        obtain ⟨x126, hx127, h⟩ := opt_bind h
        obtain ⟨x128, hx129, h⟩ := opt_bind h
        obtain ⟨x130, hx131, h⟩ := opt_bind h
        refine S.draw2 (Y := fun Q => ∃ (_ _ _ _ _ _ _ _ _ _ _ : Unit), Q [(3, v5), (10, .int .i64 (w64 (480 + (w64 (8 * x8_4))))), (11, .int .i64 x11_6), (9, bp b60 0), (8, .int .i64 x8_4), (0, bp bp0 0), (2, .slice none 0 0)] [Box b60 [.int .i64 x52.Kind, .int .i64 x52.Size, .int .i64 x52.Used, .int .i64 x52.First, .int .i64 x52.Radix, .int .i64 x52.Wait, u57, .int .i64 x52.Word, .int .i64 x52.State, .int .i64 x52.Owing, .int .i64 x52.Badge, .int .i64 x52.Prio, .int .i64 x52.On, .int .i64 x52.Owes, .int .i64 x52.Root.Kind, .int .i64 x52.Root.Rights, .int .i64 x52.Root.Obj, .int .i64 x52.Root.Badge, .int .i64 x52.Root.Guard, .int .i64 x52.Root.Bits, .int .i64 x52.Pages.a0, .int .i64 x52.Pages.a1, .int .i64 x52.Pages.a2, .int .i64 x52.Pages.a3, .int .i64 x52.Right.a0, .int .i64 x52.Right.a1, .int .i64 x52.Right.a2, .int .i64 x52.Right.a3, .int .i64 x52.In, .int .i64 x52.Page, .int .i64 x52.Bound, .int .i64 x52.Mask], Own 55 (ekI .u64) v5 qv5_6, Box bp0 [v0_Slots, v0_Objs, .int .i64 a0.NS, .int .i64 a0.NO], OwnO 48 kr_ref10_Obj v0_Objs raws_v0_Objs A_v0_Objs a0.Objs, OwnO 62 kr_ref10_Slot v0_Slots raws_v0_Slots A_v0_Slots a0.Slots, F]) (Z := fun Q => ∀ (_ _ _ _ _ _ _ _ _ _ _ : Unit), Q [(8, .int .i64 x8_4), (0, bp bp0 0), (2, .slice none 0 0), (3, v5), (9, bp b60 0), (10, .int .i64 (w64 (480 + (w64 (8 * x8_4))))), (11, .int .i64 x11_6)] [Box b60 [.int .i64 x52.Kind, .int .i64 x52.Size, .int .i64 x52.Used, .int .i64 x52.First, .int .i64 x52.Radix, .int .i64 x52.Wait, u57, .int .i64 x52.Word, .int .i64 x52.State, .int .i64 x52.Owing, .int .i64 x52.Badge, .int .i64 x52.Prio, .int .i64 x52.On, .int .i64 x52.Owes, .int .i64 x52.Root.Kind, .int .i64 x52.Root.Rights, .int .i64 x52.Root.Obj, .int .i64 x52.Root.Badge, .int .i64 x52.Root.Guard, .int .i64 x52.Root.Bits, .int .i64 x52.Pages.a0, .int .i64 x52.Pages.a1, .int .i64 x52.Pages.a2, .int .i64 x52.Pages.a3, .int .i64 x52.Right.a0, .int .i64 x52.Right.a1, .int .i64 x52.Right.a2, .int .i64 x52.Right.a3, .int .i64 x52.In, .int .i64 x52.Page, .int .i64 x52.Bound, .int .i64 x52.Mask], Own 55 (ekI .u64) v5 (qv5_6.set (w64 ((w64 ((w64 (480 + (w64 (8 * x8_4)))) + 1)) + x11_6)).toNat (wu64 (w64 ((w64 (8 * (w64 (x126 + 1)))) + x128)))), Box bp0 [v0_Slots, v0_Objs, .int .i64 a0.NS, .int .i64 a0.NO], OwnO 48 kr_ref10_Obj v0_Objs raws_v0_Objs A_v0_Objs a0.Objs, OwnO 62 kr_ref10_Slot v0_Slots raws_v0_Slots A_v0_Slots a0.Slots, F]) (T := [tS 3 (v5), tS 10 (.int .i64 (w64 (480 + (w64 (8 * x8_4))))), tS 11 (.int .i64 x11_6), tS 9 (bp b60 0), tE [(8, .int .i64 x8_4), (0, bp bp0 0), (2, .slice none 0 0)], tR (Box b60 [.int .i64 x52.Kind, .int .i64 x52.Size, .int .i64 x52.Used, .int .i64 x52.First, .int .i64 x52.Radix, .int .i64 x52.Wait, u57, .int .i64 x52.Word, .int .i64 x52.State, .int .i64 x52.Owing, .int .i64 x52.Badge, .int .i64 x52.Prio, .int .i64 x52.On, .int .i64 x52.Owes, .int .i64 x52.Root.Kind, .int .i64 x52.Root.Rights, .int .i64 x52.Root.Obj, .int .i64 x52.Root.Badge, .int .i64 x52.Root.Guard, .int .i64 x52.Root.Bits, .int .i64 x52.Pages.a0, .int .i64 x52.Pages.a1, .int .i64 x52.Pages.a2, .int .i64 x52.Pages.a3, .int .i64 x52.Right.a0, .int .i64 x52.Right.a1, .int .i64 x52.Right.a2, .int .i64 x52.Right.a3, .int .i64 x52.In, .int .i64 x52.Page, .int .i64 x52.Bound, .int .i64 x52.Mask]), tR (Own 55 (ekI .u64) v5 qv5_6), tR (Box bp0 [v0_Slots, v0_Objs, .int .i64 a0.NS, .int .i64 a0.NO]), tR (OwnO 48 kr_ref10_Obj v0_Objs raws_v0_Objs A_v0_Objs a0.Objs), tR (OwnO 62 kr_ref10_Slot v0_Slots raws_v0_Slots A_v0_Slots a0.Slots), tR (F), tS 260 (v5), tS 261 (.int .i64 (w64 (480 + (w64 (8 * x8_4))))), tS 262 (.int .i64 (w64 ((w64 (480 + (w64 (8 * x8_4)))) + 1))), tS 263 (.int .i64 x11_6), tS 264 (.int .i64 (w64 ((w64 ((w64 (480 + (w64 (8 * x8_4)))) + 1)) + x11_6))), tS 265 (.int .i64 x11_6), tS 266 (bp b60 20), tS 267 (bp b60 (20 + x11_6.toNat)), tS 268 (.int .i64 x126), tS 269 (.int .i64 (w64 (x126 + 1))), tS 270 (.int .i64 (w64 (8 * (w64 (x126 + 1))))), tS 271 (.int .i64 x11_6), tS 272 (bp b60 24), tS 273 (bp b60 (24 + x11_6.toNat)), tS 274 (.int .i64 x128), tS 275 (.int .i64 (w64 ((w64 (8 * (w64 (x126 + 1)))) + x128))), tS 276 (.int .u64 (wu64 (w64 ((w64 (8 * (w64 (x126 + 1)))) + x128)))), tS 277 (idxp v5 ((w64 ((w64 ((w64 (480 + (w64 (8 * x8_4)))) + 1)) + x11_6)).toNat * (ekI .u64).sz)), tR (Own 55 (ekI .u64) v5 (qv5_6.set (w64 ((w64 ((w64 (480 + (w64 (8 * x8_4)))) + 1)) + x11_6)).toNat (wu64 (w64 ((w64 (8 * (w64 (x126 + 1)))) + x128)))))]) (D := [⟨[0], [], [11]⟩, ⟨[1], [], [12]⟩, ⟨[12], [], [13]⟩, ⟨[2], [], [14]⟩, ⟨[13, 14], [], [15]⟩, ⟨[2], [], [16]⟩, ⟨[3], [], [17]⟩, ⟨[16, 17, 5], [], [18]⟩, ⟨[18, 5], [], [19]⟩, ⟨[19], [], [20]⟩, ⟨[20], [], [21]⟩, ⟨[2], [], [22]⟩, ⟨[3], [], [23]⟩, ⟨[22, 23, 5], [], [24]⟩, ⟨[24, 5], [], [25]⟩, ⟨[21, 25], [], [26]⟩, ⟨[26], [], [27]⟩, ⟨[11, 15, 6], [], [28]⟩, ⟨[27, 28], [6], [29]⟩]) (ini := [0, 1, 2, 3, 4, 5, 6, 7, 8, 9, 10]) (fin := [4, 0, 3, 1, 2, 5, 29, 7, 8, 9, 10]) (bf := [[], [], [1], [], [1, 2, 3], [], [], [5, 6], [5, 6, 7], [5, 6, 7, 8], [5, 6, 7, 8, 9], [], [], [11, 12], [11, 12, 13], [5, 6, 7, 8, 9, 10, 11, 12, 13, 14], [5, 6, 7, 8, 9, 10, 11, 12, 13, 14, 15], [0, 1, 2, 3, 4, 5, 6, 7, 8, 9, 10, 11, 12, 13, 14, 15, 16], [0, 1, 2, 3, 4, 5, 6, 7, 8, 9, 10, 11, 12, 13, 14, 15, 16, 17]]) (by kernel_rfl) (by kernel_rfl) (fun Q => by kernel_rfl) (fun x w h1 h2 => ⟨(), (), (), (), (), (), (), (), (), (), (), EnvAll.of h1 ⟨rfl, rfl, rfl, rfl, rfl, rfl, rfl, trivial⟩, h2⟩) (fun Q => by kernel_rfl) ⟨?_, ?_, ?_, ?_, ?_, ?_, ?_, ?_, ?_, ?_, ?_, ?_, ?_, ?_, ?_, ?_, ?_, ?_, ?_, trivial⟩ ?_
        ·rintro Fr _
         exact mv rfl <| nz2 rfl () () rfl
        ·rintro Fr _
         exact mv rfl <| nz2 rfl () () rfl
        ·rintro Fr _
         exact vv (opv_add rfl rfl) <| nz2 rfl () () rfl
        ·rintro Fr _
         exact mv rfl <| nz2 rfl () () rfl
        ·rintro Fr _ _
         exact vv (opv_add rfl rfl) <| nz3 rfl () () () rfl
        ·rintro Fr _
         exact mv rfl <| nz2 rfl () () rfl
        ·rintro Fr _
         exact fa Tryz.underlying48 rfl Tryz.sizeOf46 rfl rfl <| nz2 rfl () () rfl
        ·rintro Fr _ _ _
         exact vv (opv_idxA Tryz.underlying46 Tryz.sizeOf3 rfl rfl hx127) <| nz4 rfl () () () () rfl
        ·rintro Fr _ _
         exact SO.load1 (v := .int .i64 x126) rfl Tryz.isAgg3 rfl (by rcases A4.get_cases hx127 with ⟨h1, h2⟩ | ⟨h1, h2⟩ | ⟨h1, h2⟩ | ⟨h1, h2⟩ <;> simp only [h1, h2] <;> rfl) <| nz3 rfl () () () rfl
        ·rintro Fr _
         exact vv (opv_add rfl rfl) <| nz2 rfl () () rfl
        ·rintro Fr _
         exact vv (opv_mul rfl rfl) <| nz2 rfl () () rfl
        ·rintro Fr _
         exact mv rfl <| nz2 rfl () () rfl
        ·rintro Fr _
         exact fa Tryz.underlying48 rfl Tryz.sizeOf46 rfl rfl <| nz2 rfl () () rfl
        ·rintro Fr _ _ _
         exact vv (opv_idxA Tryz.underlying46 Tryz.sizeOf3 rfl rfl hx129) <| nz4 rfl () () () () rfl
        ·rintro Fr _ _
         exact SO.load1 (v := .int .i64 x128) rfl Tryz.isAgg3 rfl (by rcases A4.get_cases hx129 with ⟨h1, h2⟩ | ⟨h1, h2⟩ | ⟨h1, h2⟩ | ⟨h1, h2⟩ <;> simp only [h1, h2] <;> rfl) <| nz3 rfl () () () rfl
        ·rintro Fr _ _
         exact vv (opv_add rfl rfl) <| nz3 rfl () () () rfl
        ·rintro Fr _
         exact vv (opv_conv Tryz.underlying3 Tryz.underlying55 rfl) <| nz2 rfl () () rfl
        ·rintro Fr _ _ _
         exact vv (opv_idx Tryz.underlying26 Tryz.sizeOf55 hr121 rfl rfl hx131) <| nz4 rfl () () () () rfl
        ·rintro Fr _ _ _
         exact SO.storeI1 (j := 0) (z' := wu64 (w64 ((w64 (8 * (w64 (x126 + 1)))) + x128))) Tryz.sizeOf55 hx131 rfl rfl rfl rfl rfl rfl <| SO.rd fun hr132 => nz3 rfl () () () rfl
        rintro _ _ _ _ _ _ _ _ _ _ _
        refine tt [(8, .int .i64 x8_4), (0, bp bp0 0), (2, .slice none 0 0), (3, v5), (9, bp b60 0), (10, .int .i64 (w64 (480 + (w64 (8 * x8_4))))), (11, .int .i64 x11_6)] rfl <| S.b1 <| S.rd fun hr133 => S.inBlock <| S.region <| mv rfl <| vv (opv_add rfl rfl) <| ag rfl <| SO.nil <| S.b5 <| S.b5 <| S.b5 <| S.b5 <| S.b4 <| S.b5 ?_
        refine S.to ?_ (ih6 ((w64 (x11_6 + 1), qv5_6.set (w64 ((w64 ((w64 (480 + (w64 (8 * x8_4)))) + 1)) + x11_6)).toNat (wu64 (w64 ((w64 (8 * (w64 (x126 + 1)))) + x128)))), ()) h)
        exact ⟨rfl, rfl, rfl, rfl, rfl, rfl, rfl, trivial⟩
       replace h := cond_f b125 h
       refine S.condF rfl b125 <| S.skip <| S.inBlock <| S.region <| mv rfl <| vv (opv_add rfl rfl) <| ag rfl <| SO.nil <| tt [(8, .int .i64 x8_4), (0, bp bp0 0), (2, .slice none 0 0), (3, v5), (9, bp b60 0), (10, .int .i64 (w64 (480 + (w64 (8 * x8_4))))), (11, .int .i64 (w64 (x11_6 + 1)))] rfl <| S.b5 <| S.b5 <| S.b5 <| S.b5 <| S.b5 <| S.b5 ?_
       refine S.to ?_ (ih6 ((w64 (x11_6 + 1), qv5_6), ()) h)
       exact ⟨rfl, rfl, rfl, rfl, rfl, rfl, rfl, trivial⟩
      replace h := cond_f b122 h
      refine S.condF rfl b122 <| S.exit rfl ?_
      cases h
      refine S.b5 <| S.b5 <| S.b5 <| S.b5 <| S.b4 <| S.b5 ?_
      refine S.to ?_ (hK6 ())
      exact ⟨rfl, rfl, rfl, rfl, rfl, rfl, trivial⟩
     rintro _
     refine S.b1 <| S.rd fun hr134 => S.inBlock ?_
     cases h
     refine S.b5 <| S.b5 <| S.b5 <| S.b5 <| S.b4 <| S.b5 ?_
     refine S.to ?_ (hk5 () trivial)
     exact ⟨rfl, rfl, rfl, rfl, rfl, rfl, trivial⟩
    replace h := cond_f b120 h
    refine S.condF rfl b120 <| S.seq <| S.region <| vv (opv_eql rfl rfl) <| ag rfl <| SO.nil <| tt [(8, .int .i64 x8_4), (0, bp bp0 0), (2, .slice none 0 0), (3, v5), (9, bp b60 0), (10, .int .i64 (w64 (480 + (w64 (8 * x8_4))))), (278, .bool (x52.Kind == 8))] rfl ?_
    rcases bool_or (x52.Kind == 8) with b135 | b135
    ·replace h := cond_t b135 h
     refine S.condT rfl b135 <| S.seq <| S.region <| mv rfl <| mv rfl <| vv (opv_add rfl rfl) <| fa Tryz.underlying48 rfl Tryz.sizeOf3 rfl rfl <| ld Tryz.isAgg3 rfl rfl <| vv (opv_add rfl rfl) <| vv (opv_conv Tryz.underlying3 Tryz.underlying55 rfl) ?_
     obtain ⟨x136, hx137, h⟩ := opt_bind h
     refine vv (opv_idx Tryz.underlying26 Tryz.sizeOf55 hr63 rfl rfl hx137) <| SO.b1 <| SO.storeI1 (j := 0) (z' := wu64 (w64 (x52.Bound + 1))) Tryz.sizeOf55 hx137 rfl rfl rfl rfl rfl rfl <| SO.rd fun hr138 => SO.nil <| tt [(8, .int .i64 x8_4), (0, bp bp0 0), (2, .slice none 0 0), (3, v5), (9, bp b60 0), (10, .int .i64 (w64 (480 + (w64 (8 * x8_4)))))] rfl <| S.seq <| S.region <| mv rfl <| mv rfl <| vv (opv_add rfl rfl) <| fa Tryz.underlying48 rfl Tryz.sizeOf3 rfl rfl <| SO.b1 <| ld Tryz.isAgg3 rfl rfl <| vv (opv_conv Tryz.underlying3 Tryz.underlying55 rfl) ?_
     obtain ⟨x139, hx140, h⟩ := opt_bind h
     refine vv (opv_idx Tryz.underlying26 Tryz.sizeOf55 hr138 rfl rfl hx140) <| SO.b1 <| SO.storeI1 (j := 0) (z' := wu64 x52.Badge) Tryz.sizeOf55 hx140 rfl rfl rfl rfl rfl rfl <| SO.rd fun hr141 => SO.nil <| tt [(8, .int .i64 x8_4), (0, bp bp0 0), (2, .slice none 0 0), (3, v5), (9, bp b60 0), (10, .int .i64 (w64 (480 + (w64 (8 * x8_4)))))] rfl <| S.region <| mv rfl <| mv rfl <| vv (opv_add rfl rfl) <| fa Tryz.underlying48 rfl Tryz.sizeOf3 rfl rfl <| SO.b1 <| ld Tryz.isAgg3 rfl rfl <| vv (opv_conv Tryz.underlying3 Tryz.underlying55 rfl) ?_
     obtain ⟨x142, hx143, h⟩ := opt_bind h
     refine vv (opv_idx Tryz.underlying26 Tryz.sizeOf55 hr141 rfl rfl hx143) <| SO.b1 <| SO.storeI1 (j := 0) (z' := wu64 x52.Mask) Tryz.sizeOf55 hx143 rfl rfl rfl rfl rfl rfl <| SO.rd fun hr144 => SO.nil <| tt [(8, .int .i64 x8_4), (0, bp bp0 0), (2, .slice none 0 0), (3, v5), (9, bp b60 0), (10, .int .i64 (w64 (480 + (w64 (8 * x8_4)))))] rfl <| S.inBlock ?_
     cases h
     refine S.b5 <| S.b5 <| S.b5 <| S.b5 <| S.b4 <| S.b5 ?_
     refine S.to ?_ (hk5 () trivial)
     exact ⟨rfl, rfl, rfl, rfl, rfl, rfl, trivial⟩
    replace h := cond_f b135 h
    refine S.condF rfl b135 <| S.skip <| S.inBlock ?_
    cases h
    refine S.b5 <| S.b5 <| S.b5 <| S.b5 <| S.b5 <| S.b5 ?_
    refine S.to ?_ (hk5 () trivial)
    exact ⟨rfl, rfl, rfl, rfl, rfl, rfl, trivial⟩
   rintro _ -
   replace h := hJ5
   refine S.b1 <| S.rd fun hr145 => S.seq <| S.region <| ag rfl <| SO.nil ?_
   obtain ⟨qv5_e7, hlp7, h⟩ := opt_bind h
   refine S.b5 <| S.b5 <| S.b5 <| S.b5 <| S.b5 <| S.b5 <| tt [(12, .int .i64 0), (0, bp bp0 0), (2, .slice none 0 0), (3, v5), (8, .int .i64 x8_4), (9, bp b60 0), (10, .int .i64 (w64 (480 + (w64 (8 * x8_4)))))] rfl ?_
   refine S.forloop (X := (Int × (List Int)) × Unit) (O := (List Int)) (fun m x => ref10_State_Words.l7 x8_4 x52 m x.1) (fun x => match x with | ((x12_7, qv5_7), _) => [(12, .int .i64 x12_7), (0, bp bp0 0), (2, .slice none 0 0), (3, v5), (8, .int .i64 x8_4), (9, bp b60 0), (10, .int .i64 (w64 (480 + (w64 (8 * x8_4)))))]) (fun x => match x with | ((x12_7, qv5_7), _) => [Own 55 (ekI .u64) v5 qv5_7, Box b60 [.int .i64 x52.Kind, .int .i64 x52.Size, .int .i64 x52.Used, .int .i64 x52.First, .int .i64 x52.Radix, .int .i64 x52.Wait, u57, .int .i64 x52.Word, .int .i64 x52.State, .int .i64 x52.Owing, .int .i64 x52.Badge, .int .i64 x52.Prio, .int .i64 x52.On, .int .i64 x52.Owes, .int .i64 x52.Root.Kind, .int .i64 x52.Root.Rights, .int .i64 x52.Root.Obj, .int .i64 x52.Root.Badge, .int .i64 x52.Root.Guard, .int .i64 x52.Root.Bits, .int .i64 x52.Pages.a0, .int .i64 x52.Pages.a1, .int .i64 x52.Pages.a2, .int .i64 x52.Pages.a3, .int .i64 x52.Right.a0, .int .i64 x52.Right.a1, .int .i64 x52.Right.a2, .int .i64 x52.Right.a3, .int .i64 x52.In, .int .i64 x52.Page, .int .i64 x52.Bound, .int .i64 x52.Mask], Box bp0 [v0_Slots, v0_Objs, .int .i64 a0.NS, .int .i64 a0.NO], OwnO 48 kr_ref10_Obj v0_Objs raws_v0_Objs A_v0_Objs a0.Objs, OwnO 62 kr_ref10_Slot v0_Slots raws_v0_Slots A_v0_Slots a0.Slots, F]) (fun Sk => (fun qv5_e7 => ∀ _ : Unit, Sk [(0, bp bp0 0), (2, .slice none 0 0), (3, v5), (8, .int .i64 x8_4)] [Own 55 (ekI .u64) v5 qv5_e7, Box b60 [.int .i64 x52.Kind, .int .i64 x52.Size, .int .i64 x52.Used, .int .i64 x52.First, .int .i64 x52.Radix, .int .i64 x52.Wait, u57, .int .i64 x52.Word, .int .i64 x52.State, .int .i64 x52.Owing, .int .i64 x52.Badge, .int .i64 x52.Prio, .int .i64 x52.On, .int .i64 x52.Owes, .int .i64 x52.Root.Kind, .int .i64 x52.Root.Rights, .int .i64 x52.Root.Obj, .int .i64 x52.Root.Badge, .int .i64 x52.Root.Guard, .int .i64 x52.Root.Bits, .int .i64 x52.Pages.a0, .int .i64 x52.Pages.a1, .int .i64 x52.Pages.a2, .int .i64 x52.Pages.a3, .int .i64 x52.Right.a0, .int .i64 x52.Right.a1, .int .i64 x52.Right.a2, .int .i64 x52.Right.a3, .int .i64 x52.In, .int .i64 x52.Page, .int .i64 x52.Bound, .int .i64 x52.Mask], Box bp0 [v0_Slots, v0_Objs, .int .i64 a0.NS, .int .i64 a0.NO], OwnO 48 kr_ref10_Obj v0_Objs raws_v0_Objs A_v0_Objs a0.Objs, OwnO 62 kr_ref10_Slot v0_Slots raws_v0_Slots A_v0_Slots a0.Slots, F])) (fun _ => rfl) ?_ (m := k) (x := ((0, qv5_5), ())) hlp7 ?_
   ·clear h hlp7
    intro k x o_7 h hK7 ih7
    obtain ⟨⟨x12_7, qv5_7⟩, _⟩ := x
    replace h : ref10_State_Words.l7 x8_4 x52 (k + 1) (x12_7, qv5_7) = some o_7 := h
    first | rw [ref10_State_Words.l7] at h | unfold ref10_State_Words.l7 at h
    refine S.rd fun hr146 => S.seq <| S.seq <| S.region <| mv rfl <| fa Tryz.underlying48 rfl Tryz.sizeOf43 rfl rfl <| SO.b1 <| ld Tryz.isAgg43 rfl rfl <| vv (opv_lenR rfl Tryz.underlying43 hru58 rfl) <| vv (opv_lss rfl rfl) <| SO.nil ?_
    rcases bool_or (decide (x12_7 < (x52.Queue.length : Int))) with b147 | b147
    ·replace h := cond_t b147 h
     refine S.condT rfl b147 <| S.skip <| S.seq <| S.block <| S.seq <| S.region <| fa Tryz.underlying48 rfl Tryz.sizeOf43 rfl rfl <| ld Tryz.isAgg43 rfl rfl <| mv rfl ?_
     obtain ⟨x148, hx149, h⟩ := opt_bind h
     refine vv (opv_idx Tryz.underlying43 Tryz.sizeOf3 hru58 rfl rfl hx149) <| SO.loadI1 (j := 0) rfl Tryz.isAgg3 (Rd.tail (Rd.tail (Rd.tail (Rd.head (Rd.pool hru58))))) hx149 rfl rfl rfl rfl <| ag rfl <| SO.nil <| tt [(12, .int .i64 x12_7), (0, bp bp0 0), (2, .slice none 0 0), (3, v5), (8, .int .i64 x8_4), (9, bp b60 0), (10, .int .i64 (w64 (480 + (w64 (8 * x8_4))))), (13, .int .i64 x148)] rfl <| S.seq <| S.seq <| S.region <| mv rfl <| vv (opv_eql rfl rfl) <| SO.nil ?_
     obtain ⟨qv5_8, hC8, hJ8⟩ := opt_bind h
     clear h
     refine S.cutP (G := Unit) (fun _ => True) (fun _ => [(0, bp bp0 0), (2, .slice none 0 0), (3, v5), (8, .int .i64 x8_4), (9, bp b60 0), (10, .int .i64 (w64 (480 + (w64 (8 * x8_4))))), (12, .int .i64 x12_7), (13, .int .i64 x148)]) (fun _ => [Box b60 [.int .i64 x52.Kind, .int .i64 x52.Size, .int .i64 x52.Used, .int .i64 x52.First, .int .i64 x52.Radix, .int .i64 x52.Wait, u57, .int .i64 x52.Word, .int .i64 x52.State, .int .i64 x52.Owing, .int .i64 x52.Badge, .int .i64 x52.Prio, .int .i64 x52.On, .int .i64 x52.Owes, .int .i64 x52.Root.Kind, .int .i64 x52.Root.Rights, .int .i64 x52.Root.Obj, .int .i64 x52.Root.Badge, .int .i64 x52.Root.Guard, .int .i64 x52.Root.Bits, .int .i64 x52.Pages.a0, .int .i64 x52.Pages.a1, .int .i64 x52.Pages.a2, .int .i64 x52.Pages.a3, .int .i64 x52.Right.a0, .int .i64 x52.Right.a1, .int .i64 x52.Right.a2, .int .i64 x52.Right.a3, .int .i64 x52.In, .int .i64 x52.Page, .int .i64 x52.Bound, .int .i64 x52.Mask], Own 55 (ekI .u64) v5 qv5_8, Box bp0 [v0_Slots, v0_Objs, .int .i64 a0.NS, .int .i64 a0.NO], OwnO 48 kr_ref10_Obj v0_Objs raws_v0_Objs A_v0_Objs a0.Objs, OwnO 62 kr_ref10_Slot v0_Slots raws_v0_Slots A_v0_Slots a0.Slots, F]) (fun hk8 => ?_) ?_
     ·replace h := hC8
      rcases bool_or (x12_7 == 0) with b150 | b150
      ·replace h := cond_t b150 h
       refine S.condT rfl b150 <| S.region <| mv rfl <| mv rfl <| vv (opv_add rfl rfl) <| mv rfl <| vv (opv_add rfl rfl) <| vv (opv_conv Tryz.underlying3 Tryz.underlying55 rfl) ?_
       obtain ⟨x151, hx152, h⟩ := opt_bind h
       refine vv (opv_idx Tryz.underlying26 Tryz.sizeOf55 hr146 rfl rfl hx152) <| SO.b1 <| SO.storeI1 (j := 0) (z' := wu64 (w64 (x148 + 1))) Tryz.sizeOf55 hx152 rfl rfl rfl rfl rfl rfl <| SO.rd fun hr153 => SO.nil <| tt [(12, .int .i64 x12_7), (0, bp bp0 0), (2, .slice none 0 0), (3, v5), (8, .int .i64 x8_4), (9, bp b60 0), (10, .int .i64 (w64 (480 + (w64 (8 * x8_4))))), (13, .int .i64 x148)] rfl ?_
       cases h
       refine S.b5 <| S.b5 <| S.b5 <| S.b5 <| S.b4 <| S.b5 ?_
       refine S.to ?_ (hk8 () trivial)
       exact ⟨rfl, rfl, rfl, rfl, rfl, rfl, rfl, rfl, trivial⟩
      replace h := cond_f b150 h
      refine S.condF rfl b150 <| S.skip ?_
      cases h
      refine S.b5 <| S.b5 <| S.b5 <| S.b5 <| S.b5 <| S.b5 ?_
      refine S.to ?_ (hk8 () trivial)
      exact ⟨rfl, rfl, rfl, rfl, rfl, rfl, rfl, rfl, trivial⟩
     rintro _ -
     replace h := hJ8
     refine S.b1 <| S.rd fun hr154 => S.seq <| S.region <| mv rfl <| vv (opv_add rfl rfl) <| fa Tryz.underlying48 rfl Tryz.sizeOf43 rfl rfl <| SO.b1 <| ld Tryz.isAgg43 rfl rfl <| vv (opv_lenR rfl Tryz.underlying43 hru58 rfl) <| vv (opv_lss rfl rfl) <| SO.nil ?_
     rcases bool_or (decide ((w64 (x12_7 + 1)) < (x52.Queue.length : Int))) with b155 | b155
     ·replace h := cond_t b155 h
      refine S.condT rfl b155 <| S.region <| mv rfl <| mv rfl <| vv (opv_mul rfl rfl) <| vv (opv_add rfl rfl) <| vv (opv_add rfl rfl) <| fa Tryz.underlying48 rfl Tryz.sizeOf43 rfl rfl <| ld Tryz.isAgg43 rfl rfl <| mv rfl <| vv (opv_add rfl rfl) ?_
      obtain ⟨x156, hx157, h⟩ := opt_bind h
      refine vv (opv_idx Tryz.underlying43 Tryz.sizeOf3 hru58 rfl rfl hx157) <| SO.loadI1 (j := 0) rfl Tryz.isAgg3 (Rd.tail (Rd.tail (Rd.tail (Rd.head (Rd.pool hru58))))) hx157 rfl rfl rfl rfl <| vv (opv_add rfl rfl) <| vv (opv_conv Tryz.underlying3 Tryz.underlying55 rfl) ?_
      obtain ⟨x158, hx159, h⟩ := opt_bind h
      refine vv (opv_idx Tryz.underlying26 Tryz.sizeOf55 hr154 rfl rfl hx159) <| SO.b1 <| SO.storeI1 (j := 0) (z' := wu64 (w64 (x156 + 1))) Tryz.sizeOf55 hx159 rfl rfl rfl rfl rfl rfl <| SO.rd fun hr160 => SO.nil <| tt [(0, bp bp0 0), (2, .slice none 0 0), (3, v5), (8, .int .i64 x8_4), (9, bp b60 0), (10, .int .i64 (w64 (480 + (w64 (8 * x8_4))))), (12, .int .i64 x12_7)] rfl <| S.inBlock <| S.region <| mv rfl <| vv (opv_add rfl rfl) <| ag rfl <| SO.nil <| S.b5 <| S.b5 <| S.b5 <| S.b5 <| S.b5 <| S.b5 ?_
      refine S.to ?_ (ih7 ((w64 (x12_7 + 1), qv5_8.set (w64 ((w64 (480 + (w64 (8 * x148)))) + 2)).toNat (wu64 (w64 (x156 + 1)))), ()) h)
      exact ⟨rfl, rfl, rfl, rfl, rfl, rfl, rfl, trivial⟩
     replace h := cond_f b155 h
     refine S.condF rfl b155 <| S.region <| mv rfl <| mv rfl <| vv (opv_add rfl rfl) <| mv rfl <| vv (opv_add rfl rfl) <| vv (opv_conv Tryz.underlying3 Tryz.underlying55 rfl) ?_
     obtain ⟨x161, hx162, h⟩ := opt_bind h
     refine vv (opv_idx Tryz.underlying26 Tryz.sizeOf55 hr154 rfl rfl hx162) <| SO.b1 <| SO.storeI1 (j := 0) (z' := wu64 (w64 (x148 + 1))) Tryz.sizeOf55 hx162 rfl rfl rfl rfl rfl rfl <| SO.rd fun hr163 => SO.nil <| tt [(0, bp bp0 0), (2, .slice none 0 0), (3, v5), (8, .int .i64 x8_4), (9, bp b60 0), (10, .int .i64 (w64 (480 + (w64 (8 * x8_4))))), (12, .int .i64 x12_7)] rfl <| S.inBlock <| S.region <| mv rfl <| vv (opv_add rfl rfl) <| ag rfl <| SO.nil <| S.b5 <| S.b5 <| S.b5 <| S.b5 <| S.b5 <| S.b5 ?_
     refine S.to ?_ (ih7 ((w64 (x12_7 + 1), qv5_8.set (w64 ((w64 (480 + (w64 (8 * x8_4)))) + 3)).toNat (wu64 (w64 (x148 + 1)))), ()) h)
     exact ⟨rfl, rfl, rfl, rfl, rfl, rfl, rfl, trivial⟩
    replace h := cond_f b147 h
    refine S.condF rfl b147 <| S.exit rfl ?_
    cases h
    refine S.b5 <| S.b5 <| S.b5 <| S.b5 <| S.b4 <| S.b5 ?_
    refine S.to ?_ (hK7 ())
    exact ⟨rfl, rfl, rfl, rfl, trivial⟩
   rintro _
   refine S.rd fun hr164 => S.inBlock <| S.region <| mv rfl <| vv (opv_add rfl rfl) <| ag rfl <| SO.nil <| S.b1 <| S.drop <| S.b4 <| S.b2 <| S.b4 <| S.b4 <| S.b4 ?_
   refine S.to ?_ (ih4 ((w64 (x8_4 + 1), qv5_e7), ()) h)
   exact ⟨rfl, rfl, rfl, rfl, trivial⟩
  replace h := cond_f b51 h
  refine S.condF rfl b51 <| S.exit rfl ?_
  cases h
  refine S.b4 <| S.b4 <| S.b4 <| S.b4 <| S.b4 ?_
  refine S.to ?_ (hK4 ())
  exact ⟨rfl, rfl, rfl, trivial⟩
 rintro _
 refine S.rd fun hr165 => S.seq <| S.region <| mv rfl <| mv rfl <| nc rfl <| fa Tryz.underlying52 rfl Tryz.sizeOf3 rfl rfl <| SO.b3 <| ld Tryz.isAgg3 rfl rfl <| vv (opv_conv Tryz.underlying3 Tryz.underlying55 rfl) ?_
 obtain ⟨x166, hx167, h⟩ := opt_bind h
 refine vv (opv_idx Tryz.underlying26 Tryz.sizeOf55 hr165 rfl rfl hx167) <| SO.b1 <| SO.storeI1 (j := 0) (z' := wu64 a0.NS) Tryz.sizeOf55 hx167 rfl rfl rfl rfl rfl rfl <| SO.rd fun hr168 => SO.nil <| tt [(0, bp bp0 0), (2, .slice none 0 0), (3, v5)] rfl <| S.seq <| S.region <| mv rfl <| mv rfl <| nc rfl <| fa Tryz.underlying52 rfl Tryz.sizeOf3 rfl rfl <| SO.b1 <| ld Tryz.isAgg3 rfl rfl <| vv (opv_conv Tryz.underlying3 Tryz.underlying55 rfl) ?_
 obtain ⟨x169, hx170, h⟩ := opt_bind h
 refine vv (opv_idx Tryz.underlying26 Tryz.sizeOf55 hr168 rfl rfl hx170) <| SO.b1 <| SO.storeI1 (j := 0) (z' := wu64 a0.NO) Tryz.sizeOf55 hx170 rfl rfl rfl rfl rfl rfl <| SO.rd fun hr171 => SO.nil <| tt [(2, .slice none 0 0), (3, v5)] rfl <| S.seq <| S.region <| mv rfl <| ag rfl <| SO.nil ?_
 cases h
 exact S.b4 <| S.b3 <| S.b4 <| S.b4 <| S.b4 <| S.ret1 Tryz.func7 rfl rfl (hR · _ _ ⟨v5, rfl, rfl⟩)
def law21_within.f (a0 : api_Cap) (a1 : api_Cap) : Option (Bool) :=
  (bif (a0.Kind == a1.Kind) && (a0.Obj == a1.Obj) then (some ((band .i64 a0.Rights a1.Rights) == a0.Rights)) else (some false)).bind fun c5 => some c5
set_option maxHeartbeats 8000000 in
set_option maxRecDepth 100000 in
theorem law21_within.ct (a0 : api_Cap) (a1 : api_Cap) (r0 : Bool) (h : law21_within.f a0 a1 = some r0) :
    Ct Tryz.prog 15 [.agg #[.int .i64 a0.Kind, .int .i64 a0.Rights, .int .i64 a0.Obj, .int .i64 a0.Badge, .int .i64 a0.Guard, .int .i64 a0.Bits], .agg #[.int .i64 a1.Kind, .int .i64 a1.Rights, .int .i64 a1.Obj, .int .i64 a1.Badge, .int .i64 a1.Guard, .int .i64 a1.Bits]] (fun _ => True) [] (fun u H' => u = .bool r0 ∧ H' = []) := by
 unfold law21_within.f at h
 refine Ct.intro (n := 27) Tryz.func15 rfl rfl rfl ?_
 intro R w0 F hF hR
 refine S.seq <| S.region <| SO.box rfl rfl rfl fun b1 => SO.box rfl rfl rfl fun b2 => ag rfl <| SO.nil <| S.seq <| S.region <| fa Tryz.underlying45 rfl Tryz.sizeOf3 rfl rfl <| SO.b1 <| ld Tryz.isAgg3 rfl rfl <| fa Tryz.underlying45 rfl Tryz.sizeOf3 rfl rfl <| SO.b1 <| ld Tryz.isAgg3 rfl rfl <| vv (opv_eql rfl rfl) <| mv rfl ?_
 refine SO.cut 6 16 (.bool ((a0.Kind == a1.Kind) && (a0.Obj == a1.Obj))) [Box b2 [.int .i64 a1.Kind, .int .i64 a1.Rights, .int .i64 a1.Obj, .int .i64 a1.Badge, .int .i64 a1.Guard, .int .i64 a1.Bits], Box b1 [.int .i64 a0.Kind, .int .i64 a0.Rights, .int .i64 a0.Obj, .int .i64 a0.Badge, .int .i64 a0.Guard, .int .i64 a0.Bits], F] (fun l2 hk2 => ?_) ?_
 ·rcases bool_or (a0.Kind == a1.Kind) with b3 | b3
  ·exact SO.takeT rfl rfl rfl b3 <| fa Tryz.underlying45 rfl Tryz.sizeOf3 rfl rfl <| SO.takeT rfl rfl rfl b3 <| SO.b1 <| ld Tryz.isAgg3 rfl rfl <| SO.takeT rfl rfl rfl b3 <| fa Tryz.underlying45 rfl Tryz.sizeOf3 rfl rfl <| SO.takeT rfl rfl rfl b3 <| SO.b1 <| ld Tryz.isAgg3 rfl rfl <| SO.takeT rfl rfl rfl b3 <| vv (opv_eql rfl rfl) <| vv (opv_pick_t' b3 rfl rfl) <| SO.b2 <| SO.b2 <| SO.b2 <| hk2.fitc (m := 6) rfl (and_t b3) rfl
  exact pf rfl rfl rfl b3 <| pf rfl rfl rfl b3 <| pf rfl rfl rfl b3 <| pf rfl rfl rfl b3 <| pf rfl rfl rfl b3 <| vv (opv_pick_f' b3 rfl rfl) <| SO.b2 <| SO.b2 <| SO.b2 <| hk2.fitc (m := 6) rfl (and_f b3) rfl
 refine mv rfl ?_
 obtain ⟨c5, hc6, hgk⟩ := opt_bind h
 refine SO.cut 9 26 (.bool c5) [Box b2 [.int .i64 a1.Kind, .int .i64 a1.Rights, .int .i64 a1.Obj, .int .i64 a1.Badge, .int .i64 a1.Guard, .int .i64 a1.Bits], Box b1 [.int .i64 a0.Kind, .int .i64 a0.Rights, .int .i64 a0.Obj, .int .i64 a0.Badge, .int .i64 a0.Guard, .int .i64 a0.Bits], F] (fun l2 hk2 => ?_) ?_
 ·clear hgk
  replace h := hc6
  rcases bool_or ((a0.Kind == a1.Kind) && (a0.Obj == a1.Obj)) with b4 | b4
  ·replace h := cond_t b4 h
   refine SO.takeT rfl rfl rfl b4 <| fa Tryz.underlying45 rfl Tryz.sizeOf3 rfl rfl <| SO.takeT rfl rfl rfl b4 <| SO.b1 <| ld Tryz.isAgg3 rfl rfl <| SO.takeT rfl rfl rfl b4 <| fa Tryz.underlying45 rfl Tryz.sizeOf3 rfl rfl <| SO.takeT rfl rfl rfl b4 <| SO.b1 <| ld Tryz.isAgg3 rfl rfl <| SO.takeT rfl rfl rfl b4 <| vv (opv_and rfl rfl) <| SO.takeT rfl rfl rfl b4 <| fa Tryz.underlying45 rfl Tryz.sizeOf3 rfl rfl <| SO.takeT rfl rfl rfl b4 <| SO.b1 <| ld Tryz.isAgg3 rfl rfl <| SO.takeT rfl rfl rfl b4 <| vv (opv_eql rfl rfl) ?_
   cases h
   exact vv (opv_pick_t' b4 rfl rfl) <| SO.b2 <| SO.b1 <| SO.b2 <| hk2.fitc (m := 9) rfl (rfl) rfl
  replace h := cond_f b4 h
  refine pf rfl rfl rfl b4 <| pf rfl rfl rfl b4 <| pf rfl rfl rfl b4 <| pf rfl rfl rfl b4 <| pf rfl rfl rfl b4 <| pf rfl rfl rfl b4 <| pf rfl rfl rfl b4 <| pf rfl rfl rfl b4 ?_
  cases h
  exact vv (opv_pick_f' b4 rfl rfl) <| SO.b2 <| SO.b2 <| SO.b2 <| hk2.fitc (m := 9) rfl (rfl) rfl
 clear hc6
 replace h := hgk
 refine ag rfl <| SO.nil <| tt [(4, .bool c5)] rfl ?_
 cases h
 exact S.drop <| S.drop <| S.ret1 Tryz.func15 rfl rfl (hR · _ _ ⟨rfl, rfl⟩)
def ref10_Same.l1 (a0 : List Int) (a1 : List Int) : Nat → Int → Option (Brk Bool Unit)
  | 0, _ => none
  | k + 1, x5_1 => bif decide (x5_1 < (a0.length : Int)) then ((at_ a0 x5_1).bind fun x3 => (at_ a1 x5_1).bind fun x5 => bif x3 != x5 then (some (Brk.ret false)) else (ref10_Same.l1 a0 a1 k (w64 (x5_1 + 1)))) else (some (Brk.nx ()))
def ref10_Same.f (k : Nat) (a0 : List Int) (a1 : List Int) : Option (Bool) :=
  bif (a0.length : Int) != (a1.length : Int) then (some false) else ((ref10_Same.l1 a0 a1 k 0).bind fun o1 => Brk.go o1 (fun r => some r) (fun _ => some true))
set_option maxHeartbeats 8000000 in
set_option maxRecDepth 100000 in
theorem ref10_Same.ct (k : Nat) (v0 : Value) (v1 : Value) (a0 : List Int) (a1 : List Int) (r0 : Bool) (h : ref10_Same.f k a0 a1 = some r0) :
    Ct Tryz.prog 10 [v0, v1] (fun F => Rd (ekI .u64) v0 a0 F ∧ Rd (ekI .u64) v1 a1 F) [] (fun u H' => u = .bool r0 ∧ H' = []) := by
 unfold ref10_Same.f at h
 refine Ct.intro (n := 26) Tryz.func10 rfl rfl rfl ?_
 intro R w0 F hF hR
 obtain ⟨hF0, hF1⟩ := hF
 refine S.seq <| S.region <| ag rfl <| SO.nil <| S.seq <| S.seq <| S.region <| mv rfl <| vv (opv_lenR rfl Tryz.underlying26 hF0 rfl) <| mv rfl <| vv (opv_lenR rfl Tryz.underlying26 hF1 rfl) <| vv (opv_neq rfl rfl) <| SO.nil ?_
 rcases bool_or ((a0.length : Int) != (a1.length : Int)) with b1 | b1
 ·replace h := cond_t b1 h
  refine S.condT rfl b1 <| S.seq <| S.region <| ag rfl <| SO.nil <| tt [(4, .bool false)] rfl ?_
  cases h
  exact S.ret1 Tryz.func10 rfl rfl (hR · _ _ ⟨rfl, rfl⟩)
 replace h := cond_f b1 h
 refine S.condF rfl b1 <| S.skip <| S.seq <| S.seq <| S.region <| ag rfl <| SO.nil ?_
 obtain ⟨o1, hlp1, h⟩ := opt_bind h
 refine tt [(5, .int .i64 0), (4, .bool false), (0, v0), (1, v1)] rfl ?_
 refine S.forloop (X := Int × Unit) (O := Brk Bool Unit) (fun m x => ref10_Same.l1 a0 a1 m x.1) (fun x => match x with | (x5_1, _) => [(5, .int .i64 x5_1), (4, .bool false), (0, v0), (1, v1)]) (fun x => match x with | (x5_1, _) => [F]) (fun Sk o' => (∀ r', o' = Brk.ret r' → some r' = some r0) ∧ ∀ _ : Unit, ∀ _ : Unit, o' = Brk.nx () → Sk [(4, .bool false)] [F]) (fun _ => rfl) ?_ (m := k) (x := (0, ())) hlp1 ?_
 ·clear h hlp1
  intro k x o_1 h hK1 ih1
  obtain ⟨x5_1, _⟩ := x
  replace h : ref10_Same.l1 a0 a1 (k + 1) x5_1 = some o_1 := h
  first | rw [ref10_Same.l1] at h | unfold ref10_Same.l1 at h
  refine S.seq <| S.seq <| S.region <| mv rfl <| mv rfl <| vv (opv_lenR rfl Tryz.underlying26 hF0 rfl) <| vv (opv_lss rfl rfl) <| SO.nil ?_
  rcases bool_or (decide (x5_1 < (a0.length : Int))) with b2 | b2
  ·replace h := cond_t b2 h
   refine S.condT rfl b2 <| S.skip <| S.seq <| S.block <| S.seq ?_
   obtain ⟨x3, hx4, h⟩ := opt_bind h
   obtain ⟨x5, hx6, h⟩ := opt_bind h
   refine S.draw2 (Y := fun Q => ∃ (_ _ _ _ _ : Unit), Q [(0, v0), (5, .int .i64 x5_1), (1, v1), (4, .bool false)] [F]) (Z := fun Q => ∀ (_ _ _ _ _ _ : Unit), Q [(5, .int .i64 x5_1), (4, .bool false), (0, v0), (1, v1), (25, .bool (x3 != x5))] [F]) (T := [tS 0 (v0), tS 5 (.int .i64 x5_1), tS 1 (v1), tS 4 (.bool false), tR (F), tS 17 (v0), tS 18 (.int .i64 x5_1), tS 19 (idxp v0 (x5_1.toNat * (ekI .u64).sz)), tS 20 (.int .u64 x3), tS 21 (v1), tS 22 (.int .i64 x5_1), tS 23 (idxp v1 (x5_1.toNat * (ekI .u64).sz)), tS 24 (.int .u64 x5), tS 25 (.bool (x3 != x5))]) (D := [⟨[0], [], [5]⟩, ⟨[1], [], [6]⟩, ⟨[5, 6, 4], [], [7]⟩, ⟨[7, 4], [], [8]⟩, ⟨[2], [], [9]⟩, ⟨[1], [], [10]⟩, ⟨[9, 10, 4], [], [11]⟩, ⟨[11, 4], [], [12]⟩, ⟨[8, 12], [], [13]⟩]) (ini := [0, 1, 2, 3, 4]) (fin := [1, 3, 0, 2, 13, 4]) (bf := [[], [], [0, 1], [0, 1, 2], [], [], [4, 5], [4, 5, 6], [0, 1, 2, 3, 4, 5, 6, 7]]) (by kernel_rfl) (by kernel_rfl) (fun Q => by kernel_rfl) (fun x w h1 h2 => ⟨(), (), (), (), (), EnvAll.of h1 ⟨rfl, rfl, rfl, rfl, trivial⟩, h2⟩) (fun Q => by kernel_rfl) ⟨?_, ?_, ?_, ?_, ?_, ?_, ?_, ?_, ?_, trivial⟩ ?_
   ·rintro Fr _
    exact mv rfl <| nz2 rfl () () rfl
   ·rintro Fr _
    exact mv rfl <| nz2 rfl () () rfl
   ·rintro Fr _ _ _
    exact vv (opv_idx Tryz.underlying26 Tryz.sizeOf55 hF0 rfl rfl hx4) <| nz4 rfl () () () () rfl
   ·rintro Fr _ _
    exact SO.loadI1 (j := 0) rfl Tryz.isAgg55 (Rd.head hF0) hx4 rfl rfl rfl rfl <| nz3 rfl () () () rfl
   ·rintro Fr _
    exact mv rfl <| nz2 rfl () () rfl
   ·rintro Fr _
    exact mv rfl <| nz2 rfl () () rfl
   ·rintro Fr _ _ _
    exact vv (opv_idx Tryz.underlying26 Tryz.sizeOf55 hF1 rfl rfl hx6) <| nz4 rfl () () () () rfl
   ·rintro Fr _ _
    exact SO.loadI1 (j := 0) rfl Tryz.isAgg55 (Rd.head hF1) hx6 rfl rfl rfl rfl <| nz3 rfl () () () rfl
   ·rintro Fr _ _
    exact vv (opv_neq rfl rfl) <| nz3 rfl () () () rfl
   rintro _ _ _ _ _ _
   refine tt [(5, .int .i64 x5_1), (4, .bool false), (0, v0), (1, v1), (25, .bool (x3 != x5))] rfl ?_
   rcases bool_or (x3 != x5) with b7 | b7
   ·replace h := cond_t b7 h
    refine S.condT rfl b7 <| S.seq <| S.region <| ag rfl <| SO.nil ?_
    cases h
    replace h := hK1.1 _ rfl
    cases h
    exact S.ret1 Tryz.func10 rfl rfl (hR · _ _ ⟨rfl, rfl⟩)
   replace h := cond_f b7 h
   refine S.condF rfl b7 <| S.skip <| S.inBlock <| S.region <| mv rfl <| vv (opv_add rfl rfl) <| ag rfl <| SO.nil ?_
   refine S.to ?_ (ih1 (w64 (x5_1 + 1), ()) h)
   exact ⟨rfl, rfl, rfl, rfl, trivial⟩
  replace h := cond_f b2 h
  refine S.condF rfl b2 <| S.exit rfl ?_
  cases h
  refine S.to ?_ (hK1.2 () () rfl)
  exact ⟨rfl, trivial⟩
 refine ⟨fun r' e' => ?_, ?_⟩
 ·subst e'
  have h9 := Brk.of_ret h
  exact h9
 rintro _ _ e'
 subst e'
 replace h := Brk.of_nx h
 refine S.seq <| S.region <| ag rfl <| SO.nil ?_
 cases h
 exact S.ret1 Tryz.func10 rfl rfl (hR · _ _ ⟨rfl, rfl⟩)
def ref01_in.f (a0 : Int) (a1 : Int) : Option (Bool) :=
  some ((decide (0 ≤ a0)) && (decide (a0 ≤ a1)))
def ref01_two.l1 (a0 : Int) : Nat → (Int × Int) → Option (Int)
  | 0, _ => none
  | k + 1, (x4_1, x3_1) => bif decide (x4_1 < a0) then (ref01_two.l1 a0 k (w64 (x4_1 + 1), w64 (2 * x3_1))) else (some x3_1)
def ref01_two.f (k : Nat) (a0 : Int) : Option (Int) :=
  (ref01_two.l1 a0 k (0, 1)).bind fun j3_e1 => some j3_e1
def ref01_May.f (k : Nat) (a0 : api_Cap) : Option (Bool) :=
  (ref01_in.f a0.Kind 8).bind fun t2 => (ref01_in.f a0.Rights 7).bind fun t4 => (ref01_in.f a0.Obj 31).bind fun t6 => (ref01_in.f a0.Badge 65535).bind fun t8 => (ref01_in.f a0.Bits 8).bind fun t10 => bif ((((!t2) || (!t4)) || (!t6)) || (!t8)) || (!t10) then (some false) else (bif (a0.Kind == 0) && ((a0.Rights != 0) || (a0.Obj != 0)) then (some false) else (bif ((a0.Kind != 3) && (a0.Kind != 4)) && (a0.Badge != 0) then (some false) else (bif (a0.Kind != 2) && ((a0.Bits != 0) || (a0.Guard != 0)) then (some false) else ((bif decide (0 ≤ a0.Guard) then ((ref01_two.f k a0.Bits).bind fun t27 => some (decide (a0.Guard < t27))) else (some false)).bind fun j2_1 => some j2_1))))
def ref01_Mutate.f (k : Nat) (a0 : api_Cap) (a1 : Int) (a2 : Int) : Option ((api_Cap × Int)) :=
  (ref01_May.f k a0).bind fun t3 => bif (!t3) || (a0.Kind == 0) then (some ((⟨0, 0, 0, 0, 0, 0⟩ : api_Cap), 1)) else (bif a0.Kind != 2 then (some ((⟨0, 0, 0, 0, 0, 0⟩ : api_Cap), 5)) else ((ref01_May.f k ({ a0 with Guard := a1, Bits := a2 } : api_Cap)).bind fun t8 => bif !t8 then (some ((⟨0, 0, 0, 0, 0, 0⟩ : api_Cap), 1)) else (some (({ a0 with Guard := a1, Bits := a2 } : api_Cap), 0))))
end Go.Proofs

