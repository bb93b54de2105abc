/- What the functions that IrqOnce reaches come to, and that they do. On no condition. -/
import Derived.Test.YtehlmdihimmanaaFnIrqOnce0
set_option linter.all false
namespace Go.Proofs
open Go.Sl Go.RowKit
/-! 9 (*padstone/padstoneref10.State).Words -/
def ref10_State_Words.l2 (x4_1 : Int) (x7 : ref10_Slot) : Nat → (Int × (List Int)) → Option ((Int × Int × Bool × (List Int)))
  | 0, _ => none
  | k + 1, (x6_2, qv1_2) => bif decide (x6_2 < (x7.Kids.length : Int)) then ((at_ x7.Kids x6_2).bind fun x30 => (bif x6_2 == 0 then ((at_ qv1_2 (w64 ((w64 (5 * x4_1)) + 2))).bind fun x33 => some (qv1_2.set (w64 ((w64 (5 * x4_1)) + 2)).toNat (wu64 (w64 (x30 + 1))))) else ((at_ x7.Kids (w64 (x6_2 - 1))).bind fun x36 => (at_ qv1_2 (w64 ((w64 (5 * x30)) + 4))).bind fun x38 => some (qv1_2.set (w64 ((w64 (5 * x30)) + 4)).toNat (wu64 (w64 (x36 + 1)))))).bind fun qv1_3 => bif decide ((w64 (x6_2 + 1)) < (x7.Kids.length : Int)) then ((at_ x7.Kids (w64 (x6_2 + 1))).bind fun x43 => (at_ qv1_3 (w64 ((w64 (5 * x30)) + 3))).bind fun x45 => ref10_State_Words.l2 x4_1 x7 k (w64 (x6_2 + 1), qv1_3.set (w64 ((w64 (5 * x30)) + 3)).toNat (wu64 (w64 (x43 + 1))))) else (ref10_State_Words.l2 x4_1 x7 k (w64 (x6_2 + 1), qv1_3))) else (some (x6_2, x6_2, decide (x6_2 < (x7.Kids.length : Int)), qv1_2))
def ref10_State_Words.l1 (a0 : ref10_State) : Nat → (Int × (List Int)) → Option ((List Int))
  | 0, _ => none
  | k + 1, (x4_1, qv1_1) => bif decide (x4_1 < 96) then ((at_ a0.Slots x4_1).bind fun x7 => (ref01_Word.f x7.Cap).bind fun t20 => (at_ qv1_1 (w64 (5 * x4_1))).bind fun x22 => (at_ (qv1_1.set (w64 (5 * x4_1)).toNat t20) (w64 ((w64 (5 * x4_1)) + 1))).bind fun x25 => (ref10_State_Words.l2 x4_1 x7 k (0, (qv1_1.set (w64 (5 * x4_1)).toNat t20).set (w64 ((w64 (5 * x4_1)) + 1)).toNat (wu64 (w64 (x7.Parent + 1))))).bind fun (j6_e2, j42_e2, j46_e2, qv1_e2) => ref10_State_Words.l1 a0 k (w64 (x4_1 + 1), qv1_e2)) else (some qv1_1)
def ref10_State_Words.l6 (x8_4 : Int) (x52 : ref10_Obj) : Nat → (Int × (List Int)) → Option ((Int × Int × Bool × (List Int)))
  | 0, _ => none
  | k + 1, (x11_6, qv1_6) => bif decide (x11_6 < 4) then ((A4.get x52.Pages x11_6).bind fun x127 => bif decide (0 ≤ x127) then ((A4.get x52.Pages x11_6).bind fun x130 => (A4.get x52.Right x11_6).bind fun x132 => (at_ qv1_6 (w64 ((w64 ((w64 (480 + (w64 (8 * x8_4)))) + 1)) + x11_6))).bind fun x134 => ref10_State_Words.l6 x8_4 x52 k (w64 (x11_6 + 1), qv1_6.set (w64 ((w64 ((w64 (480 + (w64 (8 * x8_4)))) + 1)) + x11_6)).toNat (wu64 (w64 ((w64 (8 * (w64 (x130 + 1)))) + x132))))) else (ref10_State_Words.l6 x8_4 x52 k (w64 (x11_6 + 1), qv1_6))) else (some (x11_6, x11_6, decide (x11_6 < 4), qv1_6))
def ref10_State_Words.l7 (x8_4 : Int) (x52 : ref10_Obj) : Nat → (Int × (List Int)) → Option ((Int × Int × Bool × (List Int)))
  | 0, _ => none
  | k + 1, (x12_7, qv1_7) => bif decide (x12_7 < (x52.Queue.length : Int)) then ((at_ x52.Queue x12_7).bind fun x152 => (bif x12_7 == 0 then ((at_ qv1_7 (w64 ((w64 (480 + (w64 (8 * x8_4)))) + 2))).bind fun x155 => some (qv1_7.set (w64 ((w64 (480 + (w64 (8 * x8_4)))) + 2)).toNat (wu64 (w64 (x152 + 1))))) else (some qv1_7)).bind fun qv1_8 => bif decide ((w64 (x12_7 + 1)) < (x52.Queue.length : Int)) then ((at_ x52.Queue (w64 (x12_7 + 1))).bind fun x160 => (at_ qv1_8 (w64 ((w64 (480 + (w64 (8 * x152)))) + 2))).bind fun x162 => ref10_State_Words.l7 x8_4 x52 k (w64 (x12_7 + 1), qv1_8.set (w64 ((w64 (480 + (w64 (8 * x152)))) + 2)).toNat (wu64 (w64 (x160 + 1))))) else ((at_ qv1_8 (w64 ((w64 (480 + (w64 (8 * x8_4)))) + 3))).bind fun x165 => ref10_State_Words.l7 x8_4 x52 k (w64 (x12_7 + 1), qv1_8.set (w64 ((w64 (480 + (w64 (8 * x8_4)))) + 3)).toNat (wu64 (w64 (x152 + 1)))))) else (some (x12_7, x12_7, decide (x12_7 < (x52.Queue.length : Int)), qv1_7))
def ref10_State_Words.l4 (a0 : ref10_State) : Nat → (Int × (List Int)) → Option ((List Int))
  | 0, _ => none
  | k + 1, (x8_4, qv1_4) => bif decide (x8_4 < 32) then ((at_ a0.Objs x8_4).bind fun x52 => (at_ qv1_4 (w64 (480 + (w64 (8 * x8_4))))).bind fun x65 => (bif x52.Kind == 1 then ((at_ (qv1_4.set (w64 (480 + (w64 (8 * x8_4)))).toNat (wu64 x52.Kind)) (w64 ((w64 (480 + (w64 (8 * x8_4)))) + 1))).bind fun x69 => (at_ ((qv1_4.set (w64 (480 + (w64 (8 * x8_4)))).toNat (wu64 x52.Kind)).set (w64 ((w64 (480 + (w64 (8 * x8_4)))) + 1)).toNat (wu64 x52.Size)) (w64 ((w64 (480 + (w64 (8 * x8_4)))) + 2))).bind fun x72 => some (((qv1_4.set (w64 (480 + (w64 (8 * x8_4)))).toNat (wu64 x52.Kind)).set (w64 ((w64 (480 + (w64 (8 * x8_4)))) + 1)).toNat (wu64 x52.Size)).set (w64 ((w64 (480 + (w64 (8 * x8_4)))) + 2)).toNat (wu64 x52.Used))) else (bif x52.Kind == 2 then ((at_ (qv1_4.set (w64 (480 + (w64 (8 * x8_4)))).toNat (wu64 x52.Kind)) (w64 ((w64 (480 + (w64 (8 * x8_4)))) + 1))).bind fun x76 => (at_ ((qv1_4.set (w64 (480 + (w64 (8 * x8_4)))).toNat (wu64 x52.Kind)).set (w64 ((w64 (480 + (w64 (8 * x8_4)))) + 1)).toNat (wu64 x52.First)) (w64 ((w64 (480 + (w64 (8 * x8_4)))) + 2))).bind fun x79 => some (((qv1_4.set (w64 (480 + (w64 (8 * x8_4)))).toNat (wu64 x52.Kind)).set (w64 ((w64 (480 + (w64 (8 * x8_4)))) + 1)).toNat (wu64 x52.First)).set (w64 ((w64 (480 + (w64 (8 * x8_4)))) + 2)).toNat (wu64 x52.Radix))) else (bif x52.Kind == 3 then ((at_ (qv1_4.set (w64 (480 + (w64 (8 * x8_4)))).toNat (wu64 x52.Kind)) (w64 ((w64 (480 + (w64 (8 * x8_4)))) + 1))).bind fun x83 => some ((qv1_4.set (w64 (480 + (w64 (8 * x8_4)))).toNat (wu64 x52.Kind)).set (w64 ((w64 (480 + (w64 (8 * x8_4)))) + 1)).toNat (wu64 x52.Wait))) else (bif x52.Kind == 4 then ((at_ (qv1_4.set (w64 (480 + (w64 (8 * x8_4)))).toNat (wu64 x52.Kind)) (w64 ((w64 (480 + (w64 (8 * x8_4)))) + 1))).bind fun x87 => some ((qv1_4.set (w64 (480 + (w64 (8 * x8_4)))).toNat (wu64 x52.Kind)).set (w64 ((w64 (480 + (w64 (8 * x8_4)))) + 1)).toNat (wu64 x52.Word))) else (bif x52.Kind == 5 then ((at_ (qv1_4.set (w64 (480 + (w64 (8 * x8_4)))).toNat (wu64 x52.Kind)) (w64 ((w64 (480 + (w64 (8 * x8_4)))) + 1))).bind fun x91 => (at_ ((qv1_4.set (w64 (480 + (w64 (8 * x8_4)))).toNat (wu64 x52.Kind)).set (w64 ((w64 (480 + (w64 (8 * x8_4)))) + 1)).toNat (wu64 x52.State)) (w64 ((w64 (480 + (w64 (8 * x8_4)))) + 2))).bind fun x94 => (at_ ((qv1_4.set (w64 (480 + (w64 (8 * x8_4)))).toNat (wu64 x52.Kind)).set (w64 ((w64 (480 + (w64 (8 * x8_4)))) + 1)).toNat (wu64 x52.State)) (w64 ((w64 (480 + (w64 (8 * x8_4)))) + 2))).bind fun x96 => (at_ (((qv1_4.set (w64 (480 + (w64 (8 * x8_4)))).toNat (wu64 x52.Kind)).set (w64 ((w64 (480 + (w64 (8 * x8_4)))) + 1)).toNat (wu64 x52.State)).set (w64 ((w64 (480 + (w64 (8 * x8_4)))) + 2)).toNat (wu64 (x94 + (wu64 (w64 (x52.Owing + 1)))))) (w64 ((w64 (480 + (w64 (8 * x8_4)))) + 3))).bind fun x100 => (at_ ((((qv1_4.set (w64 (480 + (w64 (8 * x8_4)))).toNat (wu64 x52.Kind)).set (w64 ((w64 (480 + (w64 (8 * x8_4)))) + 1)).toNat (wu64 x52.State)).set (w64 ((w64 (480 + (w64 (8 * x8_4)))) + 2)).toNat (wu64 (x94 + (wu64 (w64 (x52.Owing + 1)))))).set (w64 ((w64 (480 + (w64 (8 * x8_4)))) + 3)).toNat (wu64 x52.Word)) (w64 ((w64 (480 + (w64 (8 * x8_4)))) + 4))).bind fun x103 => (at_ (((((qv1_4.set (w64 (480 + (w64 (8 * x8_4)))).toNat (wu64 x52.Kind)).set (w64 ((w64 (480 + (w64 (8 * x8_4)))) + 1)).toNat (wu64 x52.State)).set (w64 ((w64 (480 + (w64 (8 * x8_4)))) + 2)).toNat (wu64 (x94 + (wu64 (w64 (x52.Owing + 1)))))).set (w64 ((w64 (480 + (w64 (8 * x8_4)))) + 3)).toNat (wu64 x52.Word)).set (w64 ((w64 (480 + (w64 (8 * x8_4)))) + 4)).toNat (wu64 x52.Badge)) (w64 ((w64 (480 + (w64 (8 * x8_4)))) + 5))).bind fun x106 => (at_ ((((((qv1_4.set (w64 (480 + (w64 (8 * x8_4)))).toNat (wu64 x52.Kind)).set (w64 ((w64 (480 + (w64 (8 * x8_4)))) + 1)).toNat (wu64 x52.State)).set (w64 ((w64 (480 + (w64 (8 * x8_4)))) + 2)).toNat (wu64 (x94 + (wu64 (w64 (x52.Owing + 1)))))).set (w64 ((w64 (480 + (w64 (8 * x8_4)))) + 3)).toNat (wu64 x52.Word)).set (w64 ((w64 (480 + (w64 (8 * x8_4)))) + 4)).toNat (wu64 x52.Badge)).set (w64 ((w64 (480 + (w64 (8 * x8_4)))) + 5)).toNat (wu64 (w64 (x52.Prio + (w64 (256 * (w64 (x52.On + 1)))))))) (w64 ((w64 (480 + (w64 (8 * x8_4)))) + 6))).bind fun x109 => (ref01_Word.f x52.Root).bind fun t112 => (at_ (((((((qv1_4.set (w64 (480 + (w64 (8 * x8_4)))).toNat (wu64 x52.Kind)).set (w64 ((w64 (480 + (w64 (8 * x8_4)))) + 1)).toNat (wu64 x52.State)).set (w64 ((w64 (480 + (w64 (8 * x8_4)))) + 2)).toNat (wu64 (x94 + (wu64 (w64 (x52.Owing + 1)))))).set (w64 ((w64 (480 + (w64 (8 * x8_4)))) + 3)).toNat (wu64 x52.Word)).set (w64 ((w64 (480 + (w64 (8 * x8_4)))) + 4)).toNat (wu64 x52.Badge)).set (w64 ((w64 (480 + (w64 (8 * x8_4)))) + 5)).toNat (wu64 (w64 (x52.Prio + (w64 (256 * (w64 (x52.On + 1)))))))).set (w64 ((w64 (480 + (w64 (8 * x8_4)))) + 6)).toNat (wu64 (w64 (x52.Owes + 1)))) (w64 ((w64 (480 + (w64 (8 * x8_4)))) + 7))).bind fun x114 => some ((((((((qv1_4.set (w64 (480 + (w64 (8 * x8_4)))).toNat (wu64 x52.Kind)).set (w64 ((w64 (480 + (w64 (8 * x8_4)))) + 1)).toNat (wu64 x52.State)).set (w64 ((w64 (480 + (w64 (8 * x8_4)))) + 2)).toNat (wu64 (x94 + (wu64 (w64 (x52.Owing + 1)))))).set (w64 ((w64 (480 + (w64 (8 * x8_4)))) + 3)).toNat (wu64 x52.Word)).set (w64 ((w64 (480 + (w64 (8 * x8_4)))) + 4)).toNat (wu64 x52.Badge)).set (w64 ((w64 (480 + (w64 (8 * x8_4)))) + 5)).toNat (wu64 (w64 (x52.Prio + (w64 (256 * (w64 (x52.On + 1)))))))).set (w64 ((w64 (480 + (w64 (8 * x8_4)))) + 6)).toNat (wu64 (w64 (x52.Owes + 1)))).set (w64 ((w64 (480 + (w64 (8 * x8_4)))) + 7)).toNat t112)) else (bif x52.Kind == 6 then ((at_ (qv1_4.set (w64 (480 + (w64 (8 * x8_4)))).toNat (wu64 x52.Kind)) (w64 ((w64 (480 + (w64 (8 * x8_4)))) + 1))).bind fun x118 => (at_ ((qv1_4.set (w64 (480 + (w64 (8 * x8_4)))).toNat (wu64 x52.Kind)).set (w64 ((w64 (480 + (w64 (8 * x8_4)))) + 1)).toNat (wu64 (w64 (x52.In + 1)))) (w64 ((w64 (480 + (w64 (8 * x8_4)))) + 2))).bind fun x121 => some (((qv1_4.set (w64 (480 + (w64 (8 * x8_4)))).toNat (wu64 x52.Kind)).set (w64 ((w64 (480 + (w64 (8 * x8_4)))) + 1)).toNat (wu64 (w64 (x52.In + 1)))).set (w64 ((w64 (480 + (w64 (8 * x8_4)))) + 2)).toNat (wu64 x52.Page))) else (bif x52.Kind == 7 then ((ref10_State_Words.l6 x8_4 x52 k (0, qv1_4.set (w64 (480 + (w64 (8 * x8_4)))).toNat (wu64 x52.Kind))).bind fun (j11_e6, j251_e6, j252_e6, qv1_e6) => some qv1_e6) else (bif x52.Kind == 8 then ((at_ (qv1_4.set (w64 (480 + (w64 (8 * x8_4)))).toNat (wu64 x52.Kind)) (w64 ((w64 (480 + (w64 (8 * x8_4)))) + 1))).bind fun x140 => (at_ ((qv1_4.set (w64 (480 + (w64 (8 * x8_4)))).toNat (wu64 x52.Kind)).set (w64 ((w64 (480 + (w64 (8 * x8_4)))) + 1)).toNat (wu64 (w64 (x52.Bound + 1)))) (w64 ((w64 (480 + (w64 (8 * x8_4)))) + 2))).bind fun x143 => (at_ (((qv1_4.set (w64 (480 + (w64 (8 * x8_4)))).toNat (wu64 x52.Kind)).set (w64 ((w64 (480 + (w64 (8 * x8_4)))) + 1)).toNat (wu64 (w64 (x52.Bound + 1)))).set (w64 ((w64 (480 + (w64 (8 * x8_4)))) + 2)).toNat (wu64 x52.Badge)) (w64 ((w64 (480 + (w64 (8 * x8_4)))) + 3))).bind fun x146 => some ((((qv1_4.set (w64 (480 + (w64 (8 * x8_4)))).toNat (wu64 x52.Kind)).set (w64 ((w64 (480 + (w64 (8 * x8_4)))) + 1)).toNat (wu64 (w64 (x52.Bound + 1)))).set (w64 ((w64 (480 + (w64 (8 * x8_4)))) + 2)).toNat (wu64 x52.Badge)).set (w64 ((w64 (480 + (w64 (8 * x8_4)))) + 3)).toNat (wu64 x52.Mask))) else (some (qv1_4.set (w64 (480 + (w64 (8 * x8_4)))).toNat (wu64 x52.Kind))))))))))).bind fun qv1_5 => (ref10_State_Words.l7 x8_4 x52 k (0, qv1_5)).bind fun (j12_e7, j302_e7, j306_e7, qv1_e7) => ref10_State_Words.l4 a0 k (w64 (x8_4 + 1), qv1_e7)) else (some qv1_4)
def ref10_State_Words.f (k : Nat) (a0 : ref10_State) : Option ((List Int)) :=
  (mk_ 0 738).bind fun xs3 => (ref10_State_Words.l1 a0 k (0, xs3)).bind fun qv1_e1 => (ref10_State_Words.l4 a0 k (0, qv1_e1)).bind fun qv1_e4 => (at_ qv1_e4 736).bind fun x170 => (at_ (qv1_e4.set (736 : Int).toNat (wu64 a0.NS)) 737).bind fun x173 => some ((qv1_e4.set (736 : Int).toNat (wu64 a0.NS)).set (737 : Int).toNat (wu64 a0.NO))
set_option maxHeartbeats 8000000 in
set_option maxRecDepth 100000 in
theorem ref10_State_Words.ct (k : Nat) (bp0 : Nat) (v0_Slots : Value) (v0_Objs : Value) (a0 : ref10_State) (r0 : List Int) (h : ref10_State_Words.f k a0 = some r0) :
    Ct Try.prog 9 [bp bp0 0] (fun _ => True) [Box bp0 [v0_Slots, v0_Objs, .int .i64 a0.NS, .int .i64 a0.NO], OwnR 77 kr_ref10_Slot v0_Slots a0.Slots, OwnR 70 kr_ref10_Obj v0_Objs a0.Objs] (fun u H' => ∃ v_r0, u = v_r0 ∧ H' = [Own 63 (ekI .u64) v_r0 r0, Box bp0 [v0_Slots, v0_Objs, .int .i64 a0.NS, .int .i64 a0.NO], OwnR 77 kr_ref10_Slot v0_Slots a0.Slots, OwnR 70 kr_ref10_Obj v0_Objs a0.Objs]) := by
  unfold ref10_State_Words.f at h
  refine Ct.intro (n := 365) Try.func9 rfl rfl rfl ?_
  intro R w0 F hF hR
  refine S.seq ?_
  refine S.region ?_
  refine SO.v rfl (opv_assign rfl) ?_
  refine SO.nil ?_
  refine S.seq ?_
  refine S.region ?_
  obtain ⟨xs3, hx4, h⟩ := opt_bind h
  refine SO.makeSlice (K := ekI .u64) rfl Try.underlying24 inf63 rfl rfl rfl (by decide) rfl rfl rfl hx4 (fun v1 hr2 => ?_)
  refine SO.v rfl (opv_assign rfl) ?_
  refine SO.nil ?_
  refine S.seq ?_
  refine S.seq ?_
  refine S.region ?_
  refine SO.v rfl (opv_assign rfl) ?_
  refine SO.nil ?_
  obtain ⟨qv1_e1, hl1, h⟩ := opt_bind h
  refine S.b4 ?_
  refine S.b4 ?_
  refine S.b4 ?_
  refine S.b4 ?_
  refine S.b4 ?_
  refine S.to (ρ' := [(4, .int .i64 0), (3, v1), (2, .slice none 0 0), (0, bp bp0 0)]) ⟨rfl, rfl, rfl, rfl, trivial⟩ ?_
  refine S.forloop (X := (Int × (List Int)) × Unit) (O := (List Int)) (fun m x => ref10_State_Words.l1 a0 m x.1) (fun x => match x with | ((x4_1, qv1_1), _) => [(4, .int .i64 x4_1), (3, v1), (2, .slice none 0 0), (0, bp bp0 0)]) (fun x => match x with | ((x4_1, qv1_1), _) => [Own 63 (ekI .u64) v1 qv1_1, Box bp0 [v0_Slots, v0_Objs, .int .i64 a0.NS, .int .i64 a0.NO], OwnR 77 kr_ref10_Slot v0_Slots a0.Slots, OwnR 70 kr_ref10_Obj v0_Objs a0.Objs, F]) (fun Sk => (fun qv1_e1 => ∀ _ : Unit, Sk [(0, bp bp0 0), (2, .slice none 0 0), (3, v1)] [Own 63 (ekI .u64) v1 qv1_e1, Box bp0 [v0_Slots, v0_Objs, .int .i64 a0.NS, .int .i64 a0.NO], OwnR 77 kr_ref10_Slot v0_Slots a0.Slots, OwnR 70 kr_ref10_Obj v0_Objs a0.Objs, F])) (fun _ => rfl) ?_ (m := k) (x := ((0, xs3), ())) hl1 ?_
  · clear h hl1
    intro k x o_1 h hK1 ih1
    obtain ⟨⟨x4_1, qv1_1⟩, _⟩ := x
    replace h : ref10_State_Words.l1 a0 (k + 1) (x4_1, qv1_1) = some o_1 := h
    first | rw [ref10_State_Words.l1] at h | unfold ref10_State_Words.l1 at h
    refine S.rd fun hr5 => ?_
    refine S.seq ?_
    refine S.seq ?_
    refine S.region ?_
    refine SO.v rfl (opv_move rfl) ?_
    refine SO.v rfl (opv_lss rfl rfl) ?_
    refine SO.nil ?_
    rcases bool_or (decide (x4_1 < 96)) with b6 | b6
    · replace h := cond_t b6 h
      refine S.condT rfl b6 ?_
      refine S.skip ?_
      refine S.seq ?_
      refine S.block ?_
      refine S.seq ?_
      refine S.region ?_
      refine SO.v rfl (opv_move rfl) ?_
      refine SO.v rfl (opv_nilCheck rfl) ?_
      refine SO.v rfl (opv_fieldAddr Try.underlying75 rfl Try.sizeOf72 rfl rfl) ?_
      refine SO.b1 ?_
      refine SO.load1 rfl Try.isAgg72 rfl rfl ?_
      refine SO.v rfl (opv_move rfl) ?_
      refine SO.b2 ?_
      refine SO.openR fun raws12 A13 hrel14 hR15 => ?_
      obtain ⟨x7, hx8, h⟩ := opt_bind h
      obtain ⟨r9, hr10, hc11⟩ := relR.at hrel14 hx8
      refine SO.v rfl (opv_idx Try.underlying72 Try.sizeOf77 hR15 rfl rfl hr10) ?_
      refine hc11.rip fun u16 hru17 e18 => ?_
      refine SO.loadIN rfl Try.isAgg77 Try.sizeOf77 (Rd.head hR15) hr10 rfl rfl e18 ?_
      refine SO.alloc rfl Try.zeroValue77 rfl (fun b19 => ?_)
      refine SO.storeN Try.sizeOf77 rfl rfl (all1 rfl (all1 rfl (all1 rfl (all1 rfl (all1 rfl (all1 rfl (all1 rfl (all1 (Rd.one hru17) rfl)))))))) rfl rfl rfl ?_
      refine SO.nil ?_
      refine S.seq ?_
      refine S.region ?_
      refine SO.v rfl (opv_move rfl) ?_
      refine SO.v rfl (opv_move rfl) ?_
      refine SO.v rfl (opv_mul rfl rfl) ?_
      refine SO.v rfl (opv_fieldAddr Try.underlying77 rfl Try.sizeOf66 rfl rfl) ?_
      refine SO.loadN rfl Try.isAgg66 Try.sizeOf66 rfl rfl rfl ?_
      obtain ⟨t20, ht21, h⟩ := opt_bind h
      refine SO.call (pre := []) rfl Try.call30 rfl rfl rfl (ref01_Word.ct _ _ ht21) trivial ?_
      rintro _ _ ⟨rfl, rfl⟩
      obtain ⟨x22, hx23, h⟩ := opt_bind h
      refine SO.v rfl (opv_idx Try.underlying24 Try.sizeOf63 hr5 rfl rfl hx23) ?_
      refine SO.b3 ?_
      refine SO.storeI1 (j := 0) (z' := t20) Try.sizeOf63 hx23 rfl rfl rfl rfl rfl rfl ?_
      refine SO.rd fun hr24 => ?_
      refine SO.nil ?_
      refine S.seq ?_
      refine S.region ?_
      refine SO.v rfl (opv_move rfl) ?_
      refine SO.v rfl (opv_move rfl) ?_
      refine SO.v rfl (opv_mul rfl rfl) ?_
      refine SO.v rfl (opv_add rfl rfl) ?_
      refine SO.v rfl (opv_fieldAddr Try.underlying77 rfl Try.sizeOf3 rfl rfl) ?_
      refine SO.b1 ?_
      refine SO.load1 rfl Try.isAgg3 rfl rfl ?_
      refine SO.v rfl (opv_add rfl rfl) ?_
      refine SO.v rfl (opv_conv Try.underlying3 Try.underlying63 rfl) ?_
      obtain ⟨x25, hx26, h⟩ := opt_bind h
      refine SO.v rfl (opv_idx Try.underlying24 Try.sizeOf63 hr24 rfl rfl hx26) ?_
      refine SO.b1 ?_
      refine SO.storeI1 (j := 0) (z' := wu64 (w64 (x7.Parent + 1))) Try.sizeOf63 hx26 rfl rfl rfl rfl rfl rfl ?_
      refine SO.rd fun hr27 => ?_
      refine SO.nil ?_
      refine S.seq ?_
      refine S.region ?_
      refine SO.v rfl (opv_assign rfl) ?_
      refine SO.nil ?_
      obtain ⟨⟨j6_e2, j42_e2, j46_e2, qv1_e2⟩, hl2, h⟩ := opt_bind h
      refine S.b5 ?_
      refine S.b5 ?_
      refine S.b5 ?_
      refine S.b5 ?_
      refine S.b5 ?_
      refine S.b5 ?_
      refine S.to (ρ' := [(6, .int .i64 0), (41, idxp v1 ((w64 ((w64 (5 * x4_1)) + 1)).toNat * (ekI .u64).sz)), (40, .int .u64 (wu64 (w64 (x7.Parent + 1)))), (39, .int .i64 (w64 (x7.Parent + 1))), (38, .int .i64 x7.Parent), (37, bp b19 6), (36, .int .i64 (w64 ((w64 (5 * x4_1)) + 1))), (35, .int .i64 (w64 (5 * x4_1))), (34, .int .i64 x4_1), (33, v1), (32, idxp v1 ((w64 (5 * x4_1)).toNat * (ekI .u64).sz)), (31, .int .u64 t20), (30, .agg #[.int .i64 x7.Cap.Kind, .int .i64 x7.Cap.Rights, .int .i64 x7.Cap.Obj, .int .i64 x7.Cap.Badge, .int .i64 x7.Cap.Guard, .int .i64 x7.Cap.Bits]), (29, bp b19 0), (28, .int .i64 (w64 (5 * x4_1))), (27, .int .i64 x4_1), (26, v1), (5, bp b19 0), (25, .agg #[.int .i64 x7.Cap.Kind, .int .i64 x7.Cap.Rights, .int .i64 x7.Cap.Obj, .int .i64 x7.Cap.Badge, .int .i64 x7.Cap.Guard, .int .i64 x7.Cap.Bits, .int .i64 x7.Parent, u16]), (24, idxp v0_Slots (x4_1.toNat * kr_ref10_Slot.sz)), (23, .int .i64 x4_1), (22, v0_Slots), (21, bp bp0 0), (20, bp bp0 0), (19, bp bp0 0), (16, .bool (decide (x4_1 < 96))), (15, .int .i64 x4_1), (4, .int .i64 x4_1), (3, v1), (2, .slice none 0 0), (0, bp bp0 0)]) ⟨rfl, rfl, rfl, rfl, rfl, rfl, rfl, rfl, rfl, rfl, rfl, rfl, rfl, rfl, rfl, rfl, rfl, rfl, rfl, rfl, rfl, rfl, rfl, rfl, rfl, rfl, rfl, rfl, rfl, rfl, rfl, trivial⟩ ?_
      refine S.forloop (X := (Int × (List Int)) × Unit) (O := (Int × Int × Bool × (List Int))) (fun m x => ref10_State_Words.l2 x4_1 x7 m x.1) (fun x => match x with | ((x6_2, qv1_2), _) => [(6, .int .i64 x6_2), (41, idxp v1 ((w64 ((w64 (5 * x4_1)) + 1)).toNat * (ekI .u64).sz)), (40, .int .u64 (wu64 (w64 (x7.Parent + 1)))), (39, .int .i64 (w64 (x7.Parent + 1))), (38, .int .i64 x7.Parent), (37, bp b19 6), (36, .int .i64 (w64 ((w64 (5 * x4_1)) + 1))), (35, .int .i64 (w64 (5 * x4_1))), (34, .int .i64 x4_1), (33, v1), (32, idxp v1 ((w64 (5 * x4_1)).toNat * (ekI .u64).sz)), (31, .int .u64 t20), (30, .agg #[.int .i64 x7.Cap.Kind, .int .i64 x7.Cap.Rights, .int .i64 x7.Cap.Obj, .int .i64 x7.Cap.Badge, .int .i64 x7.Cap.Guard, .int .i64 x7.Cap.Bits]), (29, bp b19 0), (28, .int .i64 (w64 (5 * x4_1))), (27, .int .i64 x4_1), (26, v1), (5, bp b19 0), (25, .agg #[.int .i64 x7.Cap.Kind, .int .i64 x7.Cap.Rights, .int .i64 x7.Cap.Obj, .int .i64 x7.Cap.Badge, .int .i64 x7.Cap.Guard, .int .i64 x7.Cap.Bits, .int .i64 x7.Parent, u16]), (24, idxp v0_Slots (x4_1.toNat * kr_ref10_Slot.sz)), (23, .int .i64 x4_1), (22, v0_Slots), (21, bp bp0 0), (20, bp bp0 0), (19, bp bp0 0), (16, .bool (decide (x4_1 < 96))), (15, .int .i64 x4_1), (4, .int .i64 x4_1), (3, v1), (2, .slice none 0 0), (0, bp bp0 0)]) (fun x => match x with | ((x6_2, qv1_2), _) => [Own 63 (ekI .u64) v1 qv1_2, Box b19 [.int .i64 x7.Cap.Kind, .int .i64 x7.Cap.Rights, .int .i64 x7.Cap.Obj, .int .i64 x7.Cap.Badge, .int .i64 x7.Cap.Guard, .int .i64 x7.Cap.Bits, .int .i64 x7.Parent, u16], OwnO 77 kr_ref10_Slot v0_Slots raws12 A13 a0.Slots, Box bp0 [v0_Slots, v0_Objs, .int .i64 a0.NS, .int .i64 a0.NO], OwnR 70 kr_ref10_Obj v0_Objs a0.Objs, F]) (fun Sk => (fun x => match x with | (j6_e2, j42_e2, j46_e2, qv1_e2) => ∀ _ : Unit, Sk [(0, bp bp0 0), (2, .slice none 0 0), (3, v1), (4, .int .i64 x4_1), (5, bp b19 0), (6, .int .i64 j6_e2), (15, .int .i64 x4_1), (16, .bool (decide (x4_1 < 96))), (19, bp bp0 0), (20, bp bp0 0), (21, bp bp0 0), (22, v0_Slots), (23, .int .i64 x4_1), (24, idxp v0_Slots (x4_1.toNat * kr_ref10_Slot.sz)), (25, .agg #[.int .i64 x7.Cap.Kind, .int .i64 x7.Cap.Rights, .int .i64 x7.Cap.Obj, .int .i64 x7.Cap.Badge, .int .i64 x7.Cap.Guard, .int .i64 x7.Cap.Bits, .int .i64 x7.Parent, u16]), (26, v1), (27, .int .i64 x4_1), (28, .int .i64 (w64 (5 * x4_1))), (29, bp b19 0), (30, .agg #[.int .i64 x7.Cap.Kind, .int .i64 x7.Cap.Rights, .int .i64 x7.Cap.Obj, .int .i64 x7.Cap.Badge, .int .i64 x7.Cap.Guard, .int .i64 x7.Cap.Bits]), (31, .int .u64 t20), (32, idxp v1 ((w64 (5 * x4_1)).toNat * (ekI .u64).sz)), (33, v1), (34, .int .i64 x4_1), (35, .int .i64 (w64 (5 * x4_1))), (36, .int .i64 (w64 ((w64 (5 * x4_1)) + 1))), (37, bp b19 6), (38, .int .i64 x7.Parent), (39, .int .i64 (w64 (x7.Parent + 1))), (40, .int .u64 (wu64 (w64 (x7.Parent + 1)))), (41, idxp v1 ((w64 ((w64 (5 * x4_1)) + 1)).toNat * (ekI .u64).sz)), (42, .int .i64 j42_e2), (43, bp b19 7), (44, u16), (45, .int .i64 (x7.Kids.length : Int)), (46, .bool j46_e2)] [Own 63 (ekI .u64) v1 qv1_e2, Box b19 [.int .i64 x7.Cap.Kind, .int .i64 x7.Cap.Rights, .int .i64 x7.Cap.Obj, .int .i64 x7.Cap.Badge, .int .i64 x7.Cap.Guard, .int .i64 x7.Cap.Bits, .int .i64 x7.Parent, u16], OwnO 77 kr_ref10_Slot v0_Slots raws12 A13 a0.Slots, Box bp0 [v0_Slots, v0_Objs, .int .i64 a0.NS, .int .i64 a0.NO], OwnR 70 kr_ref10_Obj v0_Objs a0.Objs, F])) (fun _ => rfl) ?_ (m := k) (x := ((0, (qv1_1.set (w64 (5 * x4_1)).toNat t20).set (w64 ((w64 (5 * x4_1)) + 1)).toNat (wu64 (w64 (x7.Parent + 1)))), ())) hl2 ?_
      · clear h hl2
        intro k x o_2 h hK2 ih2
        obtain ⟨⟨x6_2, qv1_2⟩, _⟩ := x
        replace h : ref10_State_Words.l2 x4_1 x7 (k + 1) (x6_2, qv1_2) = some o_2 := h
        first | rw [ref10_State_Words.l2] at h | unfold ref10_State_Words.l2 at h
        refine S.rd fun hr28 => ?_
        refine S.seq ?_
        refine S.seq ?_
        refine S.region ?_
        refine SO.v rfl (opv_move rfl) ?_
        refine SO.v rfl (opv_fieldAddr Try.underlying77 rfl Try.sizeOf67 rfl rfl) ?_
        refine SO.b1 ?_
        refine SO.load1 rfl Try.isAgg67 rfl rfl ?_
        refine SO.v rfl (opv_lenR rfl Try.underlying67 hru17 rfl) ?_
        refine SO.v rfl (opv_lss rfl rfl) ?_
        refine SO.nil ?_
        rcases bool_or (decide (x6_2 < (x7.Kids.length : Int))) with b29 | b29
        · replace h := cond_t b29 h
          refine S.condT rfl b29 ?_
          refine S.skip ?_
          refine S.seq ?_
          refine S.block ?_
          refine S.seq ?_
          refine S.region ?_
          refine SO.v rfl (opv_fieldAddr Try.underlying77 rfl Try.sizeOf67 rfl rfl) ?_
          refine SO.load1 rfl Try.isAgg67 rfl rfl ?_
          refine SO.v rfl (opv_move rfl) ?_
          obtain ⟨x30, hx31, h⟩ := opt_bind h
          refine SO.v rfl (opv_idx Try.underlying67 Try.sizeOf3 hru17 rfl rfl hx31) ?_
          refine SO.loadI1 (j := 0) rfl Try.isAgg3 (Rd.tail (Rd.tail (Rd.head (Rd.pool hru17)))) hx31 rfl rfl rfl rfl ?_
          refine SO.v rfl (opv_assign rfl) ?_
          refine SO.nil ?_
          refine S.seq ?_
          refine S.seq ?_
          refine S.region ?_
          refine SO.v rfl (opv_move rfl) ?_
          refine SO.v rfl (opv_eql rfl rfl) ?_
          refine SO.nil ?_
          obtain ⟨qv1_3, hC3, hJ3⟩ := opt_bind h
          clear h
          refine S.cutP (G := Unit) (fun _ => True) (fun _ => [(0, bp bp0 0), (2, .slice none 0 0), (3, v1), (4, .int .i64 x4_1), (5, bp b19 0), (6, .int .i64 x6_2), (7, .int .i64 x30), (15, .int .i64 x4_1), (16, .bool (decide (x4_1 < 96))), (19, bp bp0 0), (20, bp bp0 0), (21, bp bp0 0), (22, v0_Slots), (23, .int .i64 x4_1), (24, idxp v0_Slots (x4_1.toNat * kr_ref10_Slot.sz)), (25, .agg #[.int .i64 x7.Cap.Kind, .int .i64 x7.Cap.Rights, .int .i64 x7.Cap.Obj, .int .i64 x7.Cap.Badge, .int .i64 x7.Cap.Guard, .int .i64 x7.Cap.Bits, .int .i64 x7.Parent, u16]), (26, v1), (27, .int .i64 x4_1), (28, .int .i64 (w64 (5 * x4_1))), (29, bp b19 0), (30, .agg #[.int .i64 x7.Cap.Kind, .int .i64 x7.Cap.Rights, .int .i64 x7.Cap.Obj, .int .i64 x7.Cap.Badge, .int .i64 x7.Cap.Guard, .int .i64 x7.Cap.Bits]), (31, .int .u64 t20), (32, idxp v1 ((w64 (5 * x4_1)).toNat * (ekI .u64).sz)), (33, v1), (34, .int .i64 x4_1), (35, .int .i64 (w64 (5 * x4_1))), (36, .int .i64 (w64 ((w64 (5 * x4_1)) + 1))), (37, bp b19 6), (38, .int .i64 x7.Parent), (39, .int .i64 (w64 (x7.Parent + 1))), (40, .int .u64 (wu64 (w64 (x7.Parent + 1)))), (41, idxp v1 ((w64 ((w64 (5 * x4_1)) + 1)).toNat * (ekI .u64).sz)), (42, .int .i64 x6_2), (43, bp b19 7), (44, u16), (45, .int .i64 (x7.Kids.length : Int)), (46, .bool (decide (x6_2 < (x7.Kids.length : Int)))), (49, bp b19 7), (50, u16), (51, .int .i64 x6_2), (52, idxp u16 (x6_2.toNat * (ekI .i64).sz)), (53, .int .i64 x30), (54, .int .i64 x6_2), (55, .bool (x6_2 == 0))]) (fun _ => [Box b19 [.int .i64 x7.Cap.Kind, .int .i64 x7.Cap.Rights, .int .i64 x7.Cap.Obj, .int .i64 x7.Cap.Badge, .int .i64 x7.Cap.Guard, .int .i64 x7.Cap.Bits, .int .i64 x7.Parent, u16], Own 63 (ekI .u64) v1 qv1_3, OwnO 77 kr_ref10_Slot v0_Slots raws12 A13 a0.Slots, Box bp0 [v0_Slots, v0_Objs, .int .i64 a0.NS, .int .i64 a0.NO], OwnR 70 kr_ref10_Obj v0_Objs a0.Objs, F]) (fun hk3 => ?_) ?_
          · replace h := hC3
            rcases bool_or (x6_2 == 0) with b32 | b32
            · replace h := cond_t b32 h
              refine S.condT rfl b32 ?_
              refine S.region ?_
              refine SO.v rfl (opv_move rfl) ?_
              refine SO.v rfl (opv_move rfl) ?_
              refine SO.v rfl (opv_mul rfl rfl) ?_
              refine SO.v rfl (opv_add rfl rfl) ?_
              refine SO.v rfl (opv_move rfl) ?_
              refine SO.v rfl (opv_add rfl rfl) ?_
              refine SO.v rfl (opv_conv Try.underlying3 Try.underlying63 rfl) ?_
              obtain ⟨x33, hx34, h⟩ := opt_bind h
              refine SO.v rfl (opv_idx Try.underlying24 Try.sizeOf63 hr28 rfl rfl hx34) ?_
              refine SO.b1 ?_
              refine SO.storeI1 (j := 0) (z' := wu64 (w64 (x30 + 1))) Try.sizeOf63 hx34 rfl rfl rfl rfl rfl rfl ?_
              refine SO.rd fun hr35 => ?_
              refine SO.nil ?_
              cases h
              refine S.b5 ?_
              refine S.b5 ?_
              refine S.b5 ?_
              refine S.b5 ?_
              refine S.b4 ?_
              refine S.b5 ?_
              refine S.to ?_ (hk3 () trivial)
              exact ⟨rfl, rfl, rfl, rfl, rfl, rfl, rfl, rfl, rfl, rfl, rfl, rfl, rfl, rfl, rfl, rfl, rfl, rfl, rfl, rfl, rfl, rfl, rfl, rfl, rfl, rfl, rfl, rfl, rfl, rfl, rfl, rfl, rfl, rfl, rfl, rfl, rfl, rfl, rfl, rfl, rfl, rfl, rfl, rfl, trivial⟩
            · replace h := cond_f b32 h
              refine S.condF rfl b32 ?_
              refine S.region ?_
              refine SO.v rfl (opv_move rfl) ?_
              refine SO.v rfl (opv_move rfl) ?_
              refine SO.v rfl (opv_mul rfl rfl) ?_
              refine SO.v rfl (opv_add rfl rfl) ?_
              refine SO.v rfl (opv_fieldAddr Try.underlying77 rfl Try.sizeOf67 rfl rfl) ?_
              refine SO.load1 rfl Try.isAgg67 rfl rfl ?_
              refine SO.v rfl (opv_move rfl) ?_
              refine SO.v rfl (opv_sub rfl rfl) ?_
              obtain ⟨x36, hx37, h⟩ := opt_bind h
              refine SO.v rfl (opv_idx Try.underlying67 Try.sizeOf3 hru17 rfl rfl hx37) ?_
              refine SO.loadI1 (j := 0) rfl Try.isAgg3 (Rd.tail (Rd.tail (Rd.head (Rd.pool hru17)))) hx37 rfl rfl rfl rfl ?_
              refine SO.v rfl (opv_add rfl rfl) ?_
              refine SO.v rfl (opv_conv Try.underlying3 Try.underlying63 rfl) ?_
              obtain ⟨x38, hx39, h⟩ := opt_bind h
              refine SO.v rfl (opv_idx Try.underlying24 Try.sizeOf63 hr28 rfl rfl hx39) ?_
              refine SO.b1 ?_
              refine SO.storeI1 (j := 0) (z' := wu64 (w64 (x36 + 1))) Try.sizeOf63 hx39 rfl rfl rfl rfl rfl rfl ?_
              refine SO.rd fun hr40 => ?_
              refine SO.nil ?_
              cases h
              refine S.b5 ?_
              refine S.b5 ?_
              refine S.b5 ?_
              refine S.b5 ?_
              refine S.b4 ?_
              refine S.b5 ?_
              refine S.to ?_ (hk3 () trivial)
              exact ⟨rfl, rfl, rfl, rfl, rfl, rfl, rfl, rfl, rfl, rfl, rfl, rfl, rfl, rfl, rfl, rfl, rfl, rfl, rfl, rfl, rfl, rfl, rfl, rfl, rfl, rfl, rfl, rfl, rfl, rfl, rfl, rfl, rfl, rfl, rfl, rfl, rfl, rfl, rfl, rfl, rfl, rfl, rfl, rfl, trivial⟩
          rintro _ -
          replace h := hJ3
          refine S.b1 ?_
          refine S.rd fun hr41 => ?_
          refine S.seq ?_
          refine S.region ?_
          refine SO.v rfl (opv_move rfl) ?_
          refine SO.v rfl (opv_add rfl rfl) ?_
          refine SO.v rfl (opv_fieldAddr Try.underlying77 rfl Try.sizeOf67 rfl rfl) ?_
          refine SO.b1 ?_
          refine SO.load1 rfl Try.isAgg67 rfl rfl ?_
          refine SO.v rfl (opv_lenR rfl Try.underlying67 hru17 rfl) ?_
          refine SO.v rfl (opv_lss rfl rfl) ?_
          refine SO.nil ?_
          rcases bool_or (decide ((w64 (x6_2 + 1)) < (x7.Kids.length : Int))) with b42 | b42
          · replace h := cond_t b42 h
            refine S.condT rfl b42 ?_
            refine S.region ?_
            refine SO.v rfl (opv_move rfl) ?_
            refine SO.v rfl (opv_move rfl) ?_
            refine SO.v rfl (opv_mul rfl rfl) ?_
            refine SO.v rfl (opv_add rfl rfl) ?_
            refine SO.v rfl (opv_fieldAddr Try.underlying77 rfl Try.sizeOf67 rfl rfl) ?_
            refine SO.load1 rfl Try.isAgg67 rfl rfl ?_
            refine SO.v rfl (opv_move rfl) ?_
            refine SO.v rfl (opv_add rfl rfl) ?_
            obtain ⟨x43, hx44, h⟩ := opt_bind h
            refine SO.v rfl (opv_idx Try.underlying67 Try.sizeOf3 hru17 rfl rfl hx44) ?_
            refine SO.loadI1 (j := 0) rfl Try.isAgg3 (Rd.tail (Rd.tail (Rd.head (Rd.pool hru17)))) hx44 rfl rfl rfl rfl ?_
            refine SO.v rfl (opv_add rfl rfl) ?_
            refine SO.v rfl (opv_conv Try.underlying3 Try.underlying63 rfl) ?_
            obtain ⟨x45, hx46, h⟩ := opt_bind h
            refine SO.v rfl (opv_idx Try.underlying24 Try.sizeOf63 hr41 rfl rfl hx46) ?_
            refine SO.b1 ?_
            refine SO.storeI1 (j := 0) (z' := wu64 (w64 (x43 + 1))) Try.sizeOf63 hx46 rfl rfl rfl rfl rfl rfl ?_
            refine SO.rd fun hr47 => ?_
            refine SO.nil ?_
            refine S.inBlock ?_
            refine S.region ?_
            refine SO.v rfl (opv_move rfl) ?_
            refine SO.v rfl (opv_add rfl rfl) ?_
            refine SO.v rfl (opv_assign rfl) ?_
            refine SO.nil ?_
            refine S.b5 ?_
            refine S.b5 ?_
            refine S.b5 ?_
            refine S.b5 ?_
            refine S.b5 ?_
            refine S.b5 ?_
            refine S.to ?_ (ih2 ((w64 (x6_2 + 1), qv1_3.set (w64 ((w64 (5 * x30)) + 3)).toNat (wu64 (w64 (x43 + 1)))), ()) h)
            exact ⟨rfl, rfl, rfl, rfl, rfl, rfl, rfl, rfl, rfl, rfl, rfl, rfl, rfl, rfl, rfl, rfl, rfl, rfl, rfl, rfl, rfl, rfl, rfl, rfl, rfl, rfl, rfl, rfl, rfl, rfl, rfl, trivial⟩
          · replace h := cond_f b42 h
            refine S.condF rfl b42 ?_
            refine S.skip ?_
            refine S.inBlock ?_
            refine S.region ?_
            refine SO.v rfl (opv_move rfl) ?_
            refine SO.v rfl (opv_add rfl rfl) ?_
            refine SO.v rfl (opv_assign rfl) ?_
            refine SO.nil ?_
            refine S.b5 ?_
            refine S.b5 ?_
            refine S.b5 ?_
            refine S.b5 ?_
            refine S.b4 ?_
            refine S.b5 ?_
            refine S.to ?_ (ih2 ((w64 (x6_2 + 1), qv1_3), ()) h)
            exact ⟨rfl, rfl, rfl, rfl, rfl, rfl, rfl, rfl, rfl, rfl, rfl, rfl, rfl, rfl, rfl, rfl, rfl, rfl, rfl, rfl, rfl, rfl, rfl, rfl, rfl, rfl, rfl, rfl, rfl, rfl, rfl, trivial⟩
        · replace h := cond_f b29 h
          refine S.condF rfl b29 ?_
          refine S.exit rfl ?_
          cases h
          refine S.b5 ?_
          refine S.b5 ?_
          refine S.b5 ?_
          refine S.b5 ?_
          refine S.b4 ?_
          refine S.b5 ?_
          refine S.to ?_ (hK2 ())
          exact ⟨rfl, rfl, rfl, rfl, rfl, rfl, rfl, rfl, rfl, rfl, rfl, rfl, rfl, rfl, rfl, rfl, rfl, rfl, rfl, rfl, rfl, rfl, rfl, rfl, rfl, rfl, rfl, rfl, rfl, rfl, rfl, rfl, rfl, rfl, rfl, rfl, trivial⟩
      rintro _
      refine S.rd fun hr48 => ?_
      refine S.inBlock ?_
      refine S.region ?_
      refine SO.v rfl (opv_move rfl) ?_
      refine SO.v rfl (opv_add rfl rfl) ?_
      refine SO.v rfl (opv_assign rfl) ?_
      refine SO.nil ?_
      refine S.b2 ?_
      refine S.closeR ?_
      refine S.b2 ?_
      refine S.drop ?_
      refine S.b4 ?_
      refine S.b4 ?_
      refine S.b2 ?_
      refine S.b4 ?_
      refine S.b4 ?_
      refine S.to ?_ (ih1 ((w64 (x4_1 + 1), qv1_e2), ()) h)
      exact ⟨rfl, rfl, rfl, rfl, trivial⟩
    · replace h := cond_f b6 h
      refine S.condF rfl b6 ?_
      refine S.exit rfl ?_
      cases h
      refine S.b4 ?_
      refine S.b4 ?_
      refine S.b4 ?_
      refine S.b4 ?_
      refine S.b4 ?_
      refine S.to ?_ (hK1 ())
      exact ⟨rfl, rfl, rfl, trivial⟩
  rintro _
  refine S.rd fun hr49 => ?_
  refine S.seq ?_
  refine S.seq ?_
  refine S.region ?_
  refine SO.v rfl (opv_assign rfl) ?_
  refine SO.nil ?_
  obtain ⟨qv1_e4, hl4, h⟩ := opt_bind h
  refine S.b4 ?_
  refine S.b4 ?_
  refine S.b4 ?_
  refine S.b4 ?_
  refine S.b4 ?_
  refine S.to (ρ' := [(8, .int .i64 0), (0, bp bp0 0), (2, .slice none 0 0), (3, v1)]) ⟨rfl, rfl, rfl, rfl, trivial⟩ ?_
  refine S.forloop (X := (Int × (List Int)) × Unit) (O := (List Int)) (fun m x => ref10_State_Words.l4 a0 m x.1) (fun x => match x with | ((x8_4, qv1_4), _) => [(8, .int .i64 x8_4), (0, bp bp0 0), (2, .slice none 0 0), (3, v1)]) (fun x => match x with | ((x8_4, qv1_4), _) => [Own 63 (ekI .u64) v1 qv1_4, Box bp0 [v0_Slots, v0_Objs, .int .i64 a0.NS, .int .i64 a0.NO], OwnR 77 kr_ref10_Slot v0_Slots a0.Slots, OwnR 70 kr_ref10_Obj v0_Objs a0.Objs, F]) (fun Sk => (fun qv1_e4 => ∀ _ : Unit, Sk [(0, bp bp0 0), (2, .slice none 0 0), (3, v1)] [Own 63 (ekI .u64) v1 qv1_e4, Box bp0 [v0_Slots, v0_Objs, .int .i64 a0.NS, .int .i64 a0.NO], OwnR 77 kr_ref10_Slot v0_Slots a0.Slots, OwnR 70 kr_ref10_Obj v0_Objs a0.Objs, F])) (fun _ => rfl) ?_ (m := k) (x := ((0, qv1_e1), ())) hl4 ?_
  · clear h hl4
    intro k x o_4 h hK4 ih4
    obtain ⟨⟨x8_4, qv1_4⟩, _⟩ := x
    replace h : ref10_State_Words.l4 a0 (k + 1) (x8_4, qv1_4) = some o_4 := h
    first | rw [ref10_State_Words.l4] at h | unfold ref10_State_Words.l4 at h
    refine S.rd fun hr50 => ?_
    refine S.seq ?_
    refine S.seq ?_
    refine S.region ?_
    refine SO.v rfl (opv_move rfl) ?_
    refine SO.v rfl (opv_lss rfl rfl) ?_
    refine SO.nil ?_
    rcases bool_or (decide (x8_4 < 32)) with b51 | b51
    · replace h := cond_t b51 h
      refine S.condT rfl b51 ?_
      refine S.skip ?_
      refine S.seq ?_
      refine S.block ?_
      refine S.seq ?_
      refine S.region ?_
      refine SO.v rfl (opv_move rfl) ?_
      refine SO.v rfl (opv_nilCheck rfl) ?_
      refine SO.v rfl (opv_fieldAddr Try.underlying75 rfl Try.sizeOf73 rfl rfl) ?_
      refine SO.b1 ?_
      refine SO.load1 rfl Try.isAgg73 rfl rfl ?_
      refine SO.v rfl (opv_move rfl) ?_
      refine SO.b3 ?_
      refine SO.openR fun raws57 A58 hrel59 hR60 => ?_
      obtain ⟨x52, hx53, h⟩ := opt_bind h
      obtain ⟨r54, hr55, hc56⟩ := relR.at hrel59 hx53
      refine SO.v rfl (opv_idx Try.underlying73 Try.sizeOf70 hR60 rfl rfl hr55) ?_
      refine hc56.rip fun u61 hru62 e63 => ?_
      refine SO.loadIN rfl Try.isAgg70 Try.sizeOf70 (Rd.head hR60) hr55 rfl rfl e63 ?_
      refine SO.alloc rfl Try.zeroValue70 rfl (fun b64 => ?_)
      refine SO.storeN Try.sizeOf70 rfl rfl (all1 rfl (all1 rfl (all1 rfl (all1 rfl (all1 rfl (all1 rfl (all1 (Rd.one hru62) (all1 rfl (all1 rfl (all1 rfl (all1 rfl (all1 rfl (all1 rfl (all1 rfl (all1 rfl (all1 rfl (all1 rfl (all1 rfl (all1 rfl (all1 rfl (all1 rfl (all1 rfl (all1 rfl (all1 rfl (all1 rfl (all1 rfl (all1 rfl (all1 rfl (all1 rfl (all1 rfl (all1 rfl (all1 rfl rfl)))))))))))))))))))))))))))))))) rfl rfl rfl ?_
      refine SO.nil ?_
      refine S.seq ?_
      refine S.region ?_
      refine SO.v rfl (opv_move rfl) ?_
      refine SO.v rfl (opv_mul rfl rfl) ?_
      refine SO.v rfl (opv_add rfl rfl) ?_
      refine SO.v rfl (opv_assign rfl) ?_
      refine SO.nil ?_
      refine S.seq ?_
      refine S.region ?_
      refine SO.v rfl (opv_move rfl) ?_
      refine SO.v rfl (opv_move rfl) ?_
      refine SO.v rfl (opv_fieldAddr Try.underlying70 rfl Try.sizeOf3 rfl rfl) ?_
      refine SO.load1 rfl Try.isAgg3 rfl rfl ?_
      refine SO.v rfl (opv_conv Try.underlying3 Try.underlying63 rfl) ?_
      obtain ⟨x65, hx66, h⟩ := opt_bind h
      refine SO.v rfl (opv_idx Try.underlying24 Try.sizeOf63 hr50 rfl rfl hx66) ?_
      refine SO.b3 ?_
      refine SO.storeI1 (j := 0) (z' := wu64 x52.Kind) Try.sizeOf63 hx66 rfl rfl rfl rfl rfl rfl ?_
      refine SO.rd fun hr67 => ?_
      refine SO.nil ?_
      refine S.seq ?_
      refine S.seq ?_
      refine S.region ?_
      refine SO.v rfl (opv_fieldAddr Try.underlying70 rfl Try.sizeOf3 rfl rfl) ?_
      refine SO.b1 ?_
      refine SO.load1 rfl Try.isAgg3 rfl rfl ?_
      refine SO.nil ?_
      obtain ⟨qv1_5, hC5, hJ5⟩ := opt_bind h
      clear h
      refine S.cutP (G := Unit) (fun _ => True) (fun _ => [(0, bp bp0 0), (2, .slice none 0 0), (3, v1), (8, .int .i64 x8_4), (9, bp b64 0), (10, .int .i64 (w64 (480 + (w64 (8 * x8_4))))), (96, .int .i64 x8_4), (97, .bool (decide (x8_4 < 32))), (100, bp bp0 0), (101, bp bp0 0), (102, bp bp0 1), (103, v0_Objs), (104, .int .i64 x8_4), (105, idxp v0_Objs (x8_4.toNat * kr_ref10_Obj.sz)), (106, .agg #[.int .i64 x52.Kind, .int .i64 x52.Size, .int .i64 x52.Used, .int .i64 x52.First, .int .i64 x52.Radix, .int .i64 x52.Wait, u61, .int .i64 x52.Word, .int .i64 x52.State, .int .i64 x52.Owing, .int .i64 x52.Badge, .int .i64 x52.Prio, .int .i64 x52.On, .int .i64 x52.Owes, .int .i64 x52.Root.Kind, .int .i64 x52.Root.Rights, .int .i64 x52.Root.Obj, .int .i64 x52.Root.Badge, .int .i64 x52.Root.Guard, .int .i64 x52.Root.Bits, .int .i64 x52.Pages.a0, .int .i64 x52.Pages.a1, .int .i64 x52.Pages.a2, .int .i64 x52.Pages.a3, .int .i64 x52.Right.a0, .int .i64 x52.Right.a1, .int .i64 x52.Right.a2, .int .i64 x52.Right.a3, .int .i64 x52.In, .int .i64 x52.Page, .int .i64 x52.Bound, .int .i64 x52.Mask]), (107, .int .i64 x8_4), (108, .int .i64 (w64 (8 * x8_4))), (109, .int .i64 (w64 (480 + (w64 (8 * x8_4))))), (110, v1), (111, .int .i64 (w64 (480 + (w64 (8 * x8_4))))), (112, bp b64 0), (113, .int .i64 x52.Kind), (114, .int .u64 (wu64 x52.Kind)), (115, idxp v1 ((w64 (480 + (w64 (8 * x8_4)))).toNat * (ekI .u64).sz)), (116, bp b64 0), (117, .int .i64 x52.Kind), (118, .bool (x52.Kind == 1)), (119, .bool (x52.Kind == 1))]) (fun _ => [Box b64 [.int .i64 x52.Kind, .int .i64 x52.Size, .int .i64 x52.Used, .int .i64 x52.First, .int .i64 x52.Radix, .int .i64 x52.Wait, u61, .int .i64 x52.Word, .int .i64 x52.State, .int .i64 x52.Owing, .int .i64 x52.Badge, .int .i64 x52.Prio, .int .i64 x52.On, .int .i64 x52.Owes, .int .i64 x52.Root.Kind, .int .i64 x52.Root.Rights, .int .i64 x52.Root.Obj, .int .i64 x52.Root.Badge, .int .i64 x52.Root.Guard, .int .i64 x52.Root.Bits, .int .i64 x52.Pages.a0, .int .i64 x52.Pages.a1, .int .i64 x52.Pages.a2, .int .i64 x52.Pages.a3, .int .i64 x52.Right.a0, .int .i64 x52.Right.a1, .int .i64 x52.Right.a2, .int .i64 x52.Right.a3, .int .i64 x52.In, .int .i64 x52.Page, .int .i64 x52.Bound, .int .i64 x52.Mask], Own 63 (ekI .u64) v1 qv1_5, OwnO 70 kr_ref10_Obj v0_Objs raws57 A58 a0.Objs, Box bp0 [v0_Slots, v0_Objs, .int .i64 a0.NS, .int .i64 a0.NO], OwnR 77 kr_ref10_Slot v0_Slots a0.Slots, F]) (fun hk5 => ?_) ?_
      · replace h := hC5
        refine S.block ?_
        refine S.seq ?_
        refine S.region ?_
        refine SO.v rfl (opv_eql rfl rfl) ?_
        refine SO.v rfl (opv_assign rfl) ?_
        refine SO.nil ?_
        rcases bool_or (x52.Kind == 1) with b68 | b68
        · replace h := cond_t b68 h
          refine S.condT rfl b68 ?_
          refine S.seq ?_
          refine S.region ?_
          refine SO.v rfl (opv_move rfl) ?_
          refine SO.v rfl (opv_move rfl) ?_
          refine SO.v rfl (opv_add rfl rfl) ?_
          refine SO.v rfl (opv_fieldAddr Try.underlying70 rfl Try.sizeOf3 rfl rfl) ?_
          refine SO.load1 rfl Try.isAgg3 rfl rfl ?_
          refine SO.v rfl (opv_conv Try.underlying3 Try.underlying63 rfl) ?_
          obtain ⟨x69, hx70, h⟩ := opt_bind h
          refine SO.v rfl (opv_idx Try.underlying24 Try.sizeOf63 hr67 rfl rfl hx70) ?_
          refine SO.b1 ?_
          refine SO.storeI1 (j := 0) (z' := wu64 x52.Size) Try.sizeOf63 hx70 rfl rfl rfl rfl rfl rfl ?_
          refine SO.rd fun hr71 => ?_
          refine SO.nil ?_
          refine S.region ?_
          refine SO.v rfl (opv_move rfl) ?_
          refine SO.v rfl (opv_move rfl) ?_
          refine SO.v rfl (opv_add rfl rfl) ?_
          refine SO.v rfl (opv_fieldAddr Try.underlying70 rfl Try.sizeOf3 rfl rfl) ?_
          refine SO.b1 ?_
          refine SO.load1 rfl Try.isAgg3 rfl rfl ?_
          refine SO.v rfl (opv_conv Try.underlying3 Try.underlying63 rfl) ?_
          obtain ⟨x72, hx73, h⟩ := opt_bind h
          refine SO.v rfl (opv_idx Try.underlying24 Try.sizeOf63 hr71 rfl rfl hx73) ?_
          refine SO.b1 ?_
          refine SO.storeI1 (j := 0) (z' := wu64 x52.Used) Try.sizeOf63 hx73 rfl rfl rfl rfl rfl rfl ?_
          refine SO.rd fun hr74 => ?_
          refine SO.nil ?_
          refine S.inBlock ?_
          cases h
          refine S.b5 ?_
          refine S.b5 ?_
          refine S.b5 ?_
          refine S.b5 ?_
          refine S.b4 ?_
          refine S.b5 ?_
          refine S.to ?_ (hk5 () trivial)
          exact ⟨rfl, rfl, rfl, rfl, rfl, rfl, rfl, rfl, rfl, rfl, rfl, rfl, rfl, rfl, rfl, rfl, rfl, rfl, rfl, rfl, rfl, rfl, rfl, rfl, rfl, rfl, rfl, rfl, trivial⟩
        · replace h := cond_f b68 h
          refine S.condF rfl b68 ?_
          refine S.seq ?_
          refine S.region ?_
          refine SO.v rfl (opv_eql rfl rfl) ?_
          refine SO.v rfl (opv_assign rfl) ?_
          refine SO.nil ?_
          rcases bool_or (x52.Kind == 2) with b75 | b75
          · replace h := cond_t b75 h
            refine S.condT rfl b75 ?_
            refine S.seq ?_
            refine S.region ?_
            refine SO.v rfl (opv_move rfl) ?_
            refine SO.v rfl (opv_move rfl) ?_
            refine SO.v rfl (opv_add rfl rfl) ?_
            refine SO.v rfl (opv_fieldAddr Try.underlying70 rfl Try.sizeOf3 rfl rfl) ?_
            refine SO.load1 rfl Try.isAgg3 rfl rfl ?_
            refine SO.v rfl (opv_conv Try.underlying3 Try.underlying63 rfl) ?_
            obtain ⟨x76, hx77, h⟩ := opt_bind h
            refine SO.v rfl (opv_idx Try.underlying24 Try.sizeOf63 hr67 rfl rfl hx77) ?_
            refine SO.b1 ?_
            refine SO.storeI1 (j := 0) (z' := wu64 x52.First) Try.sizeOf63 hx77 rfl rfl rfl rfl rfl rfl ?_
            refine SO.rd fun hr78 => ?_
            refine SO.nil ?_
            refine S.region ?_
            refine SO.v rfl (opv_move rfl) ?_
            refine SO.v rfl (opv_move rfl) ?_
            refine SO.v rfl (opv_add rfl rfl) ?_
            refine SO.v rfl (opv_fieldAddr Try.underlying70 rfl Try.sizeOf3 rfl rfl) ?_
            refine SO.b1 ?_
            refine SO.load1 rfl Try.isAgg3 rfl rfl ?_
            refine SO.v rfl (opv_conv Try.underlying3 Try.underlying63 rfl) ?_
            obtain ⟨x79, hx80, h⟩ := opt_bind h
            refine SO.v rfl (opv_idx Try.underlying24 Try.sizeOf63 hr78 rfl rfl hx80) ?_
            refine SO.b1 ?_
            refine SO.storeI1 (j := 0) (z' := wu64 x52.Radix) Try.sizeOf63 hx80 rfl rfl rfl rfl rfl rfl ?_
            refine SO.rd fun hr81 => ?_
            refine SO.nil ?_
            refine S.inBlock ?_
            cases h
            refine S.b5 ?_
            refine S.b5 ?_
            refine S.b5 ?_
            refine S.b5 ?_
            refine S.b4 ?_
            refine S.b5 ?_
            refine S.to ?_ (hk5 () trivial)
            exact ⟨rfl, rfl, rfl, rfl, rfl, rfl, rfl, rfl, rfl, rfl, rfl, rfl, rfl, rfl, rfl, rfl, rfl, rfl, rfl, rfl, rfl, rfl, rfl, rfl, rfl, rfl, rfl, rfl, trivial⟩
          · replace h := cond_f b75 h
            refine S.condF rfl b75 ?_
            refine S.seq ?_
            refine S.region ?_
            refine SO.v rfl (opv_eql rfl rfl) ?_
            refine SO.v rfl (opv_assign rfl) ?_
            refine SO.nil ?_
            rcases bool_or (x52.Kind == 3) with b82 | b82
            · replace h := cond_t b82 h
              refine S.condT rfl b82 ?_
              refine S.region ?_
              refine SO.v rfl (opv_move rfl) ?_
              refine SO.v rfl (opv_move rfl) ?_
              refine SO.v rfl (opv_add rfl rfl) ?_
              refine SO.v rfl (opv_fieldAddr Try.underlying70 rfl Try.sizeOf3 rfl rfl) ?_
              refine SO.load1 rfl Try.isAgg3 rfl rfl ?_
              refine SO.v rfl (opv_conv Try.underlying3 Try.underlying63 rfl) ?_
              obtain ⟨x83, hx84, h⟩ := opt_bind h
              refine SO.v rfl (opv_idx Try.underlying24 Try.sizeOf63 hr67 rfl rfl hx84) ?_
              refine SO.b1 ?_
              refine SO.storeI1 (j := 0) (z' := wu64 x52.Wait) Try.sizeOf63 hx84 rfl rfl rfl rfl rfl rfl ?_
              refine SO.rd fun hr85 => ?_
              refine SO.nil ?_
              refine S.inBlock ?_
              cases h
              refine S.b5 ?_
              refine S.b5 ?_
              refine S.b5 ?_
              refine S.b5 ?_
              refine S.b4 ?_
              refine S.b5 ?_
              refine S.to ?_ (hk5 () trivial)
              exact ⟨rfl, rfl, rfl, rfl, rfl, rfl, rfl, rfl, rfl, rfl, rfl, rfl, rfl, rfl, rfl, rfl, rfl, rfl, rfl, rfl, rfl, rfl, rfl, rfl, rfl, rfl, rfl, rfl, trivial⟩
            · replace h := cond_f b82 h
              refine S.condF rfl b82 ?_
              refine S.seq ?_
              refine S.region ?_
              refine SO.v rfl (opv_eql rfl rfl) ?_
              refine SO.v rfl (opv_assign rfl) ?_
              refine SO.nil ?_
              rcases bool_or (x52.Kind == 4) with b86 | b86
              · replace h := cond_t b86 h
                refine S.condT rfl b86 ?_
                refine S.region ?_
                refine SO.v rfl (opv_move rfl) ?_
                refine SO.v rfl (opv_move rfl) ?_
                refine SO.v rfl (opv_add rfl rfl) ?_
                refine SO.v rfl (opv_fieldAddr Try.underlying70 rfl Try.sizeOf3 rfl rfl) ?_
                refine SO.load1 rfl Try.isAgg3 rfl rfl ?_
                refine SO.v rfl (opv_conv Try.underlying3 Try.underlying63 rfl) ?_
                obtain ⟨x87, hx88, h⟩ := opt_bind h
                refine SO.v rfl (opv_idx Try.underlying24 Try.sizeOf63 hr67 rfl rfl hx88) ?_
                refine SO.b1 ?_
                refine SO.storeI1 (j := 0) (z' := wu64 x52.Word) Try.sizeOf63 hx88 rfl rfl rfl rfl rfl rfl ?_
                refine SO.rd fun hr89 => ?_
                refine SO.nil ?_
                refine S.inBlock ?_
                cases h
                refine S.b5 ?_
                refine S.b5 ?_
                refine S.b5 ?_
                refine S.b5 ?_
                refine S.b4 ?_
                refine S.b5 ?_
                refine S.to ?_ (hk5 () trivial)
                exact ⟨rfl, rfl, rfl, rfl, rfl, rfl, rfl, rfl, rfl, rfl, rfl, rfl, rfl, rfl, rfl, rfl, rfl, rfl, rfl, rfl, rfl, rfl, rfl, rfl, rfl, rfl, rfl, rfl, trivial⟩
              · replace h := cond_f b86 h
                refine S.condF rfl b86 ?_
                refine S.seq ?_
                refine S.region ?_
                refine SO.v rfl (opv_eql rfl rfl) ?_
                refine SO.v rfl (opv_assign rfl) ?_
                refine SO.nil ?_
                rcases bool_or (x52.Kind == 5) with b90 | b90
                · replace h := cond_t b90 h
                  refine S.condT rfl b90 ?_
                  refine S.seq ?_
                  refine S.region ?_
                  refine SO.v rfl (opv_move rfl) ?_
                  refine SO.v rfl (opv_move rfl) ?_
                  refine SO.v rfl (opv_add rfl rfl) ?_
                  refine SO.v rfl (opv_fieldAddr Try.underlying70 rfl Try.sizeOf3 rfl rfl) ?_
                  refine SO.load1 rfl Try.isAgg3 rfl rfl ?_
                  refine SO.v rfl (opv_conv Try.underlying3 Try.underlying63 rfl) ?_
                  obtain ⟨x91, hx92, h⟩ := opt_bind h
                  refine SO.v rfl (opv_idx Try.underlying24 Try.sizeOf63 hr67 rfl rfl hx92) ?_
                  refine SO.b1 ?_
                  refine SO.storeI1 (j := 0) (z' := wu64 x52.State) Try.sizeOf63 hx92 rfl rfl rfl rfl rfl rfl ?_
                  refine SO.rd fun hr93 => ?_
                  refine SO.nil ?_
                  refine S.seq ?_
                  obtain ⟨x94, hx95, h⟩ := opt_bind h
                  obtain ⟨x96, hx97, h⟩ := opt_bind h
                  refine S.draw' (Z := fun Q => ∀ (_ : Unit) (_ : Unit) (_ : Unit) (_ : Unit) (_ : Unit) (_ : Unit) (_ : Unit) (_ : Unit) (_ : Unit) (_ : Unit) (_ : Unit) (_ : Unit) (_ : Unit) (_ : Unit) (_ : Unit) (_ : Unit) (_ : Unit) (_ : Unit) (_ : Unit) (_ : Unit) (_ : Unit) (_ : Unit) (_ : Unit) (_ : Unit), Q [(176, idxp v1 ((w64 ((w64 (480 + (w64 (8 * x8_4)))) + 1)).toNat * (ekI .u64).sz)), (175, .int .u64 (wu64 x52.State)), (174, .int .i64 x52.State), (173, bp b64 8), (172, .int .i64 (w64 ((w64 (480 + (w64 (8 * x8_4)))) + 1))), (171, .int .i64 (w64 (480 + (w64 (8 * x8_4))))), (170, v1), (168, .bool (x52.Kind == 5)), (169, .bool (x52.Kind == 5)), (159, .bool (x52.Kind == 4)), (160, .bool (x52.Kind == 4)), (150, .bool (x52.Kind == 3)), (151, .bool (x52.Kind == 3)), (134, .bool (x52.Kind == 2)), (135, .bool (x52.Kind == 2)), (118, .bool (x52.Kind == 1)), (119, .bool (x52.Kind == 1)), (117, .int .i64 x52.Kind), (116, bp b64 0), (115, idxp v1 ((w64 (480 + (w64 (8 * x8_4)))).toNat * (ekI .u64).sz)), (114, .int .u64 (wu64 x52.Kind)), (113, .int .i64 x52.Kind), (112, bp b64 0), (111, .int .i64 (w64 (480 + (w64 (8 * x8_4))))), (110, v1), (109, .int .i64 (w64 (480 + (w64 (8 * x8_4))))), (108, .int .i64 (w64 (8 * x8_4))), (107, .int .i64 x8_4), (106, .agg #[.int .i64 x52.Kind, .int .i64 x52.Size, .int .i64 x52.Used, .int .i64 x52.First, .int .i64 x52.Radix, .int .i64 x52.Wait, u61, .int .i64 x52.Word, .int .i64 x52.State, .int .i64 x52.Owing, .int .i64 x52.Badge, .int .i64 x52.Prio, .int .i64 x52.On, .int .i64 x52.Owes, .int .i64 x52.Root.Kind, .int .i64 x52.Root.Rights, .int .i64 x52.Root.Obj, .int .i64 x52.Root.Badge, .int .i64 x52.Root.Guard, .int .i64 x52.Root.Bits, .int .i64 x52.Pages.a0, .int .i64 x52.Pages.a1, .int .i64 x52.Pages.a2, .int .i64 x52.Pages.a3, .int .i64 x52.Right.a0, .int .i64 x52.Right.a1, .int .i64 x52.Right.a2, .int .i64 x52.Right.a3, .int .i64 x52.In, .int .i64 x52.Page, .int .i64 x52.Bound, .int .i64 x52.Mask]), (105, idxp v0_Objs (x8_4.toNat * kr_ref10_Obj.sz)), (104, .int .i64 x8_4), (103, v0_Objs), (102, bp bp0 1), (101, bp bp0 0), (100, bp bp0 0), (97, .bool (decide (x8_4 < 32))), (96, .int .i64 x8_4), (8, .int .i64 x8_4), (0, bp bp0 0), (2, .slice none 0 0), (3, v1), (9, bp b64 0), (10, .int .i64 (w64 (480 + (w64 (8 * x8_4))))), (177, v1), (178, .int .i64 (w64 (480 + (w64 (8 * x8_4))))), (179, .int .i64 (w64 ((w64 (480 + (w64 (8 * x8_4)))) + 2))), (180, v1), (181, .int .i64 (w64 (480 + (w64 (8 * x8_4))))), (182, .int .i64 (w64 ((w64 (480 + (w64 (8 * x8_4)))) + 2))), (183, idxp v1 ((w64 ((w64 (480 + (w64 (8 * x8_4)))) + 2)).toNat * (ekI .u64).sz)), (184, .int .u64 x94), (185, bp b64 9), (186, .int .i64 x52.Owing), (187, .int .i64 (w64 (x52.Owing + 1))), (188, .int .u64 (wu64 (w64 (x52.Owing + 1)))), (189, .int .u64 (wu64 (x94 + (wu64 (w64 (x52.Owing + 1)))))), (190, idxp v1 ((w64 ((w64 (480 + (w64 (8 * x8_4)))) + 2)).toNat * (ekI .u64).sz))] [Own 63 (ekI .u64) v1 (((qv1_4.set (w64 (480 + (w64 (8 * x8_4)))).toNat (wu64 x52.Kind)).set (w64 ((w64 (480 + (w64 (8 * x8_4)))) + 1)).toNat (wu64 x52.State)).set (w64 ((w64 (480 + (w64 (8 * x8_4)))) + 2)).toNat (wu64 (x94 + (wu64 (w64 (x52.Owing + 1)))))), Box b64 [.int .i64 x52.Kind, .int .i64 x52.Size, .int .i64 x52.Used, .int .i64 x52.First, .int .i64 x52.Radix, .int .i64 x52.Wait, u61, .int .i64 x52.Word, .int .i64 x52.State, .int .i64 x52.Owing, .int .i64 x52.Badge, .int .i64 x52.Prio, .int .i64 x52.On, .int .i64 x52.Owes, .int .i64 x52.Root.Kind, .int .i64 x52.Root.Rights, .int .i64 x52.Root.Obj, .int .i64 x52.Root.Badge, .int .i64 x52.Root.Guard, .int .i64 x52.Root.Bits, .int .i64 x52.Pages.a0, .int .i64 x52.Pages.a1, .int .i64 x52.Pages.a2, .int .i64 x52.Pages.a3, .int .i64 x52.Right.a0, .int .i64 x52.Right.a1, .int .i64 x52.Right.a2, .int .i64 x52.Right.a3, .int .i64 x52.In, .int .i64 x52.Page, .int .i64 x52.Bound, .int .i64 x52.Mask], OwnO 70 kr_ref10_Obj v0_Objs raws57 A58 a0.Objs, Box bp0 [v0_Slots, v0_Objs, .int .i64 a0.NS, .int .i64 a0.NO], OwnR 77 kr_ref10_Slot v0_Slots a0.Slots, F]) (T := [tS 3 (v1), tS 10 (.int .i64 (w64 (480 + (w64 (8 * x8_4))))), tS 9 (bp b64 0), tE [(176, idxp v1 ((w64 ((w64 (480 + (w64 (8 * x8_4)))) + 1)).toNat * (ekI .u64).sz)), (175, .int .u64 (wu64 x52.State)), (174, .int .i64 x52.State), (173, bp b64 8), (172, .int .i64 (w64 ((w64 (480 + (w64 (8 * x8_4)))) + 1))), (171, .int .i64 (w64 (480 + (w64 (8 * x8_4))))), (170, v1), (168, .bool (x52.Kind == 5)), (169, .bool (x52.Kind == 5)), (159, .bool (x52.Kind == 4)), (160, .bool (x52.Kind == 4)), (150, .bool (x52.Kind == 3)), (151, .bool (x52.Kind == 3)), (134, .bool (x52.Kind == 2)), (135, .bool (x52.Kind == 2)), (118, .bool (x52.Kind == 1)), (119, .bool (x52.Kind == 1)), (117, .int .i64 x52.Kind), (116, bp b64 0), (115, idxp v1 ((w64 (480 + (w64 (8 * x8_4)))).toNat * (ekI .u64).sz)), (114, .int .u64 (wu64 x52.Kind)), (113, .int .i64 x52.Kind), (112, bp b64 0), (111, .int .i64 (w64 (480 + (w64 (8 * x8_4))))), (110, v1), (109, .int .i64 (w64 (480 + (w64 (8 * x8_4))))), (108, .int .i64 (w64 (8 * x8_4))), (107, .int .i64 x8_4), (106, .agg #[.int .i64 x52.Kind, .int .i64 x52.Size, .int .i64 x52.Used, .int .i64 x52.First, .int .i64 x52.Radix, .int .i64 x52.Wait, u61, .int .i64 x52.Word, .int .i64 x52.State, .int .i64 x52.Owing, .int .i64 x52.Badge, .int .i64 x52.Prio, .int .i64 x52.On, .int .i64 x52.Owes, .int .i64 x52.Root.Kind, .int .i64 x52.Root.Rights, .int .i64 x52.Root.Obj, .int .i64 x52.Root.Badge, .int .i64 x52.Root.Guard, .int .i64 x52.Root.Bits, .int .i64 x52.Pages.a0, .int .i64 x52.Pages.a1, .int .i64 x52.Pages.a2, .int .i64 x52.Pages.a3, .int .i64 x52.Right.a0, .int .i64 x52.Right.a1, .int .i64 x52.Right.a2, .int .i64 x52.Right.a3, .int .i64 x52.In, .int .i64 x52.Page, .int .i64 x52.Bound, .int .i64 x52.Mask]), (105, idxp v0_Objs (x8_4.toNat * kr_ref10_Obj.sz)), (104, .int .i64 x8_4), (103, v0_Objs), (102, bp bp0 1), (101, bp bp0 0), (100, bp bp0 0), (97, .bool (decide (x8_4 < 32))), (96, .int .i64 x8_4), (8, .int .i64 x8_4), (0, bp bp0 0), (2, .slice none 0 0)], tR (Own 63 (ekI .u64) v1 ((qv1_4.set (w64 (480 + (w64 (8 * x8_4)))).toNat (wu64 x52.Kind)).set (w64 ((w64 (480 + (w64 (8 * x8_4)))) + 1)).toNat (wu64 x52.State))), tR (Box b64 [.int .i64 x52.Kind, .int .i64 x52.Size, .int .i64 x52.Used, .int .i64 x52.First, .int .i64 x52.Radix, .int .i64 x52.Wait, u61, .int .i64 x52.Word, .int .i64 x52.State, .int .i64 x52.Owing, .int .i64 x52.Badge, .int .i64 x52.Prio, .int .i64 x52.On, .int .i64 x52.Owes, .int .i64 x52.Root.Kind, .int .i64 x52.Root.Rights, .int .i64 x52.Root.Obj, .int .i64 x52.Root.Badge, .int .i64 x52.Root.Guard, .int .i64 x52.Root.Bits, .int .i64 x52.Pages.a0, .int .i64 x52.Pages.a1, .int .i64 x52.Pages.a2, .int .i64 x52.Pages.a3, .int .i64 x52.Right.a0, .int .i64 x52.Right.a1, .int .i64 x52.Right.a2, .int .i64 x52.Right.a3, .int .i64 x52.In, .int .i64 x52.Page, .int .i64 x52.Bound, .int .i64 x52.Mask]), tR (OwnO 70 kr_ref10_Obj v0_Objs raws57 A58 a0.Objs), tR (Box bp0 [v0_Slots, v0_Objs, .int .i64 a0.NS, .int .i64 a0.NO]), tR (OwnR 77 kr_ref10_Slot v0_Slots a0.Slots), tR (F), tS 177 (v1), tS 178 (.int .i64 (w64 (480 + (w64 (8 * x8_4))))), tS 179 (.int .i64 (w64 ((w64 (480 + (w64 (8 * x8_4)))) + 2))), tS 180 (v1), tS 181 (.int .i64 (w64 (480 + (w64 (8 * x8_4))))), tS 182 (.int .i64 (w64 ((w64 (480 + (w64 (8 * x8_4)))) + 2))), tS 183 (idxp v1 ((w64 ((w64 (480 + (w64 (8 * x8_4)))) + 2)).toNat * (ekI .u64).sz)), tS 184 (.int .u64 x94), tS 185 (bp b64 9), tS 186 (.int .i64 x52.Owing), tS 187 (.int .i64 (w64 (x52.Owing + 1))), tS 188 (.int .u64 (wu64 (w64 (x52.Owing + 1)))), tS 189 (.int .u64 (wu64 (x94 + (wu64 (w64 (x52.Owing + 1)))))), tS 190 (idxp v1 ((w64 ((w64 (480 + (w64 (8 * x8_4)))) + 2)).toNat * (ekI .u64).sz)), tR (Own 63 (ekI .u64) v1 (((qv1_4.set (w64 (480 + (w64 (8 * x8_4)))).toNat (wu64 x52.Kind)).set (w64 ((w64 (480 + (w64 (8 * x8_4)))) + 1)).toNat (wu64 x52.State)).set (w64 ((w64 (480 + (w64 (8 * x8_4)))) + 2)).toNat (wu64 (x94 + (wu64 (w64 (x52.Owing + 1)))))))]) (D := [⟨[0], [], [10]⟩, ⟨[1], [], [11]⟩, ⟨[11], [], [12]⟩, ⟨[0], [], [13]⟩, ⟨[1], [], [14]⟩, ⟨[14], [], [15]⟩, ⟨[13, 15, 4], [], [16]⟩, ⟨[16, 4], [], [17]⟩, ⟨[2], [], [18]⟩, ⟨[18, 5], [], [19]⟩, ⟨[19], [], [20]⟩, ⟨[20], [], [21]⟩, ⟨[17, 21], [], [22]⟩, ⟨[10, 12, 4], [], [23]⟩, ⟨[22, 23], [4], [24]⟩]) (ini := [0, 1, 2, 3, 4, 5, 6, 7, 8, 9]) (fin := [3, 0, 2, 1, 10, 11, 12, 13, 14, 15, 16, 17, 18, 19, 20, 21, 22, 23, 24, 5, 6, 7, 8, 9]) (bf := [[], [], [1], [], [], [4], [3, 4, 5], [3, 4, 5, 6], [], [8], [8, 9], [8, 9, 10], [3, 4, 5, 6, 7, 8, 9, 10, 11], [0, 1, 2, 3, 4, 5, 6, 7, 8, 9, 10, 11, 12], [0, 1, 2, 3, 4, 5, 6, 7, 8, 9, 10, 11, 12, 13]]) (by kernel_rfl) (by kernel_rfl) (fun x w h1 h2 => (.cons () (.cons () (.cons () (.cons () (.cons () (.cons () (.cons () (.cons () (.cons () (.cons () (.nil ⟨EnvAll.of h1 ⟨rfl, rfl, rfl, rfl, rfl, rfl, rfl, rfl, rfl, rfl, rfl, rfl, rfl, rfl, rfl, rfl, rfl, rfl, rfl, rfl, rfl, rfl, rfl, rfl, rfl, rfl, rfl, rfl, rfl, rfl, rfl, rfl, rfl, rfl, rfl, rfl, rfl, rfl, rfl, rfl, rfl, rfl, rfl, trivial⟩, h2⟩)))))))))))) (fun Q => by kernel_rfl) ⟨?_, ?_, ?_, ?_, ?_, ?_, ?_, ?_, ?_, ?_, ?_, ?_, ?_, ?_, ?_, trivial⟩ ?_
                  · rintro Fr _
                    refine SO.v rfl (opv_move rfl) ?_
                    exact SO.nilZ fun a w h1 h2 h3 h4 h5 => PZ.of h1 h3 h5 (.cons () (.cons () (.nil ⟨EnvAll.of h2 ⟨rfl, rfl, trivial⟩, h4⟩)))
                  · rintro Fr _
                    refine SO.v rfl (opv_move rfl) ?_
                    exact SO.nilZ fun a w h1 h2 h3 h4 h5 => PZ.of h1 h3 h5 (.cons () (.cons () (.nil ⟨EnvAll.of h2 ⟨rfl, rfl, trivial⟩, h4⟩)))
                  · rintro Fr _
                    refine SO.v rfl (opv_add rfl rfl) ?_
                    exact SO.nilZ fun a w h1 h2 h3 h4 h5 => PZ.of h1 h3 h5 (.cons () (.cons () (.nil ⟨EnvAll.of h2 ⟨rfl, rfl, trivial⟩, h4⟩)))
                  · rintro Fr _
                    refine SO.v rfl (opv_move rfl) ?_
                    exact SO.nilZ fun a w h1 h2 h3 h4 h5 => PZ.of h1 h3 h5 (.cons () (.cons () (.nil ⟨EnvAll.of h2 ⟨rfl, rfl, trivial⟩, h4⟩)))
                  · rintro Fr _
                    refine SO.v rfl (opv_move rfl) ?_
                    exact SO.nilZ fun a w h1 h2 h3 h4 h5 => PZ.of h1 h3 h5 (.cons () (.cons () (.nil ⟨EnvAll.of h2 ⟨rfl, rfl, trivial⟩, h4⟩)))
                  · rintro Fr _
                    refine SO.v rfl (opv_add rfl rfl) ?_
                    exact SO.nilZ fun a w h1 h2 h3 h4 h5 => PZ.of h1 h3 h5 (.cons () (.cons () (.nil ⟨EnvAll.of h2 ⟨rfl, rfl, trivial⟩, h4⟩)))
                  · rintro Fr _ _ _
                    refine SO.v rfl (opv_idx Try.underlying24 Try.sizeOf63 hr93 rfl rfl hx95) ?_
                    exact SO.nilZ fun a w h1 h2 h3 h4 h5 => PZ.of h1 h3 h5 (.cons () (.cons () (.cons () (.cons () (.nil ⟨EnvAll.of h2 ⟨rfl, rfl, rfl, trivial⟩, h4⟩)))))
                  · rintro Fr _ _
                    refine SO.loadI1 (j := 0) rfl Try.isAgg63 (Rd.head hr93) hx95 rfl rfl rfl rfl ?_
                    exact SO.nilZ fun a w h1 h2 h3 h4 h5 => PZ.of h1 h3 h5 (.cons () (.cons () (.cons () (.nil ⟨EnvAll.of h2 ⟨rfl, rfl, trivial⟩, h4⟩))))
                  · rintro Fr _
                    refine SO.v rfl (opv_fieldAddr Try.underlying70 rfl Try.sizeOf3 rfl rfl) ?_
                    exact SO.nilZ fun a w h1 h2 h3 h4 h5 => PZ.of h1 h3 h5 (.cons () (.cons () (.nil ⟨EnvAll.of h2 ⟨rfl, rfl, trivial⟩, h4⟩)))
                  · rintro Fr _ _
                    refine SO.load1 rfl Try.isAgg3 rfl rfl ?_
                    exact SO.nilZ fun a w h1 h2 h3 h4 h5 => PZ.of h1 h3 h5 (.cons () (.cons () (.cons () (.nil ⟨EnvAll.of h2 ⟨rfl, rfl, trivial⟩, h4⟩))))
                  · rintro Fr _
                    refine SO.v rfl (opv_add rfl rfl) ?_
                    exact SO.nilZ fun a w h1 h2 h3 h4 h5 => PZ.of h1 h3 h5 (.cons () (.cons () (.nil ⟨EnvAll.of h2 ⟨rfl, rfl, trivial⟩, h4⟩)))
                  · rintro Fr _
                    refine SO.v rfl (opv_conv Try.underlying3 Try.underlying63 rfl) ?_
                    exact SO.nilZ fun a w h1 h2 h3 h4 h5 => PZ.of h1 h3 h5 (.cons () (.cons () (.nil ⟨EnvAll.of h2 ⟨rfl, rfl, trivial⟩, h4⟩)))
                  · rintro Fr _ _
                    refine SO.v rfl (opv_add rfl rfl) ?_
                    exact SO.nilZ fun a w h1 h2 h3 h4 h5 => PZ.of h1 h3 h5 (.cons () (.cons () (.cons () (.nil ⟨EnvAll.of h2 ⟨rfl, rfl, rfl, trivial⟩, h4⟩))))
                  · rintro Fr _ _ _
                    refine SO.v rfl (opv_idx Try.underlying24 Try.sizeOf63 hr93 rfl rfl hx97) ?_
                    exact SO.nilZ fun a w h1 h2 h3 h4 h5 => PZ.of h1 h3 h5 (.cons () (.cons () (.cons () (.cons () (.nil ⟨EnvAll.of h2 ⟨rfl, rfl, rfl, trivial⟩, h4⟩)))))
                  · rintro Fr _ _ _
                    refine SO.storeI1 (j := 0) (z' := wu64 (x94 + (wu64 (w64 (x52.Owing + 1))))) Try.sizeOf63 hx97 rfl rfl rfl rfl rfl rfl ?_
                    refine SO.rd fun hr98 => ?_
                    exact SO.nilZ fun a w h1 h2 h3 h4 h5 => PZ.of h1 h3 h5 (.cons () (.cons () (.cons () (.nil ⟨EnvAll.of h2 ⟨rfl, rfl, trivial⟩, h4⟩))))
                  rintro _ _ _ _ _ _ _ _ _ _ _ _ _ _ _ _ _ _ _ _ _ _ _ _
                  refine S.to (ρ' := [(176, idxp v1 ((w64 ((w64 (480 + (w64 (8 * x8_4)))) + 1)).toNat * (ekI .u64).sz)), (175, .int .u64 (wu64 x52.State)), (174, .int .i64 x52.State), (173, bp b64 8), (172, .int .i64 (w64 ((w64 (480 + (w64 (8 * x8_4)))) + 1))), (171, .int .i64 (w64 (480 + (w64 (8 * x8_4))))), (170, v1), (168, .bool (x52.Kind == 5)), (169, .bool (x52.Kind == 5)), (159, .bool (x52.Kind == 4)), (160, .bool (x52.Kind == 4)), (150, .bool (x52.Kind == 3)), (151, .bool (x52.Kind == 3)), (134, .bool (x52.Kind == 2)), (135, .bool (x52.Kind == 2)), (118, .bool (x52.Kind == 1)), (119, .bool (x52.Kind == 1)), (117, .int .i64 x52.Kind), (116, bp b64 0), (115, idxp v1 ((w64 (480 + (w64 (8 * x8_4)))).toNat * (ekI .u64).sz)), (114, .int .u64 (wu64 x52.Kind)), (113, .int .i64 x52.Kind), (112, bp b64 0), (111, .int .i64 (w64 (480 + (w64 (8 * x8_4))))), (110, v1), (109, .int .i64 (w64 (480 + (w64 (8 * x8_4))))), (108, .int .i64 (w64 (8 * x8_4))), (107, .int .i64 x8_4), (106, .agg #[.int .i64 x52.Kind, .int .i64 x52.Size, .int .i64 x52.Used, .int .i64 x52.First, .int .i64 x52.Radix, .int .i64 x52.Wait, u61, .int .i64 x52.Word, .int .i64 x52.State, .int .i64 x52.Owing, .int .i64 x52.Badge, .int .i64 x52.Prio, .int .i64 x52.On, .int .i64 x52.Owes, .int .i64 x52.Root.Kind, .int .i64 x52.Root.Rights, .int .i64 x52.Root.Obj, .int .i64 x52.Root.Badge, .int .i64 x52.Root.Guard, .int .i64 x52.Root.Bits, .int .i64 x52.Pages.a0, .int .i64 x52.Pages.a1, .int .i64 x52.Pages.a2, .int .i64 x52.Pages.a3, .int .i64 x52.Right.a0, .int .i64 x52.Right.a1, .int .i64 x52.Right.a2, .int .i64 x52.Right.a3, .int .i64 x52.In, .int .i64 x52.Page, .int .i64 x52.Bound, .int .i64 x52.Mask]), (105, idxp v0_Objs (x8_4.toNat * kr_ref10_Obj.sz)), (104, .int .i64 x8_4), (103, v0_Objs), (102, bp bp0 1), (101, bp bp0 0), (100, bp bp0 0), (97, .bool (decide (x8_4 < 32))), (96, .int .i64 x8_4), (8, .int .i64 x8_4), (0, bp bp0 0), (2, .slice none 0 0), (3, v1), (9, bp b64 0), (10, .int .i64 (w64 (480 + (w64 (8 * x8_4))))), (177, v1), (178, .int .i64 (w64 (480 + (w64 (8 * x8_4))))), (179, .int .i64 (w64 ((w64 (480 + (w64 (8 * x8_4)))) + 2))), (180, v1), (181, .int .i64 (w64 (480 + (w64 (8 * x8_4))))), (182, .int .i64 (w64 ((w64 (480 + (w64 (8 * x8_4)))) + 2))), (183, idxp v1 ((w64 ((w64 (480 + (w64 (8 * x8_4)))) + 2)).toNat * (ekI .u64).sz)), (184, .int .u64 x94), (185, bp b64 9), (186, .int .i64 x52.Owing), (187, .int .i64 (w64 (x52.Owing + 1))), (188, .int .u64 (wu64 (w64 (x52.Owing + 1)))), (189, .int .u64 (wu64 (x94 + (wu64 (w64 (x52.Owing + 1)))))), (190, idxp v1 ((w64 ((w64 (480 + (w64 (8 * x8_4)))) + 2)).toNat * (ekI .u64).sz))]) ⟨rfl, rfl, rfl, rfl, rfl, rfl, rfl, rfl, rfl, rfl, rfl, rfl, rfl, rfl, rfl, rfl, rfl, rfl, rfl, rfl, rfl, rfl, rfl, rfl, rfl, rfl, rfl, rfl, rfl, rfl, rfl, rfl, rfl, rfl, rfl, rfl, rfl, rfl, rfl, rfl, rfl, rfl, rfl, rfl, rfl, rfl, rfl, rfl, rfl, rfl, rfl, rfl, rfl, rfl, rfl, rfl, rfl, trivial⟩ ?_
                  refine S.rd fun hr99 => ?_
                  refine S.seq ?_
                  refine S.region ?_
                  refine SO.v rfl (opv_move rfl) ?_
                  refine SO.v rfl (opv_move rfl) ?_
                  refine SO.v rfl (opv_add rfl rfl) ?_
                  refine SO.v rfl (opv_fieldAddr Try.underlying70 rfl Try.sizeOf3 rfl rfl) ?_
                  refine SO.b1 ?_
                  refine SO.load1 rfl Try.isAgg3 rfl rfl ?_
                  refine SO.v rfl (opv_conv Try.underlying3 Try.underlying63 rfl) ?_
                  obtain ⟨x100, hx101, h⟩ := opt_bind h
                  refine SO.v rfl (opv_idx Try.underlying24 Try.sizeOf63 hr99 rfl rfl hx101) ?_
                  refine SO.b1 ?_
                  refine SO.storeI1 (j := 0) (z' := wu64 x52.Word) Try.sizeOf63 hx101 rfl rfl rfl rfl rfl rfl ?_
                  refine SO.rd fun hr102 => ?_
                  refine SO.nil ?_
                  refine S.seq ?_
                  refine S.region ?_
                  refine SO.v rfl (opv_move rfl) ?_
                  refine SO.v rfl (opv_move rfl) ?_
                  refine SO.v rfl (opv_add rfl rfl) ?_
                  refine SO.v rfl (opv_fieldAddr Try.underlying70 rfl Try.sizeOf3 rfl rfl) ?_
                  refine SO.b1 ?_
                  refine SO.load1 rfl Try.isAgg3 rfl rfl ?_
                  refine SO.v rfl (opv_conv Try.underlying3 Try.underlying63 rfl) ?_
                  obtain ⟨x103, hx104, h⟩ := opt_bind h
                  refine SO.v rfl (opv_idx Try.underlying24 Try.sizeOf63 hr102 rfl rfl hx104) ?_
                  refine SO.b1 ?_
                  refine SO.storeI1 (j := 0) (z' := wu64 x52.Badge) Try.sizeOf63 hx104 rfl rfl rfl rfl rfl rfl ?_
                  refine SO.rd fun hr105 => ?_
                  refine SO.nil ?_
                  refine S.seq ?_
                  refine S.region ?_
                  refine SO.v rfl (opv_move rfl) ?_
                  refine SO.v rfl (opv_move rfl) ?_
                  refine SO.v rfl (opv_add rfl rfl) ?_
                  refine SO.v rfl (opv_fieldAddr Try.underlying70 rfl Try.sizeOf3 rfl rfl) ?_
                  refine SO.b1 ?_
                  refine SO.load1 rfl Try.isAgg3 rfl rfl ?_
                  refine SO.v rfl (opv_fieldAddr Try.underlying70 rfl Try.sizeOf3 rfl rfl) ?_
                  refine SO.load1 rfl Try.isAgg3 rfl rfl ?_
                  refine SO.v rfl (opv_add rfl rfl) ?_
                  refine SO.v rfl (opv_mul rfl rfl) ?_
                  refine SO.v rfl (opv_add rfl rfl) ?_
                  refine SO.v rfl (opv_conv Try.underlying3 Try.underlying63 rfl) ?_
                  obtain ⟨x106, hx107, h⟩ := opt_bind h
                  refine SO.v rfl (opv_idx Try.underlying24 Try.sizeOf63 hr105 rfl rfl hx107) ?_
                  refine SO.b1 ?_
                  refine SO.storeI1 (j := 0) (z' := wu64 (w64 (x52.Prio + (w64 (256 * (w64 (x52.On + 1))))))) Try.sizeOf63 hx107 rfl rfl rfl rfl rfl rfl ?_
                  refine SO.rd fun hr108 => ?_
                  refine SO.nil ?_
                  refine S.seq ?_
                  refine S.region ?_
                  refine SO.v rfl (opv_move rfl) ?_
                  refine SO.v rfl (opv_move rfl) ?_
                  refine SO.v rfl (opv_add rfl rfl) ?_
                  refine SO.v rfl (opv_fieldAddr Try.underlying70 rfl Try.sizeOf3 rfl rfl) ?_
                  refine SO.b1 ?_
                  refine SO.load1 rfl Try.isAgg3 rfl rfl ?_
                  refine SO.v rfl (opv_add rfl rfl) ?_
                  refine SO.v rfl (opv_conv Try.underlying3 Try.underlying63 rfl) ?_
                  obtain ⟨x109, hx110, h⟩ := opt_bind h
                  refine SO.v rfl (opv_idx Try.underlying24 Try.sizeOf63 hr108 rfl rfl hx110) ?_
                  refine SO.b1 ?_
                  refine SO.storeI1 (j := 0) (z' := wu64 (w64 (x52.Owes + 1))) Try.sizeOf63 hx110 rfl rfl rfl rfl rfl rfl ?_
                  refine SO.rd fun hr111 => ?_
                  refine SO.nil ?_
                  refine S.region ?_
                  refine SO.v rfl (opv_move rfl) ?_
                  refine SO.v rfl (opv_move rfl) ?_
                  refine SO.v rfl (opv_add rfl rfl) ?_
                  refine SO.v rfl (opv_fieldAddr Try.underlying70 rfl Try.sizeOf66 rfl rfl) ?_
                  refine SO.b1 ?_
                  refine SO.loadN rfl Try.isAgg66 Try.sizeOf66 rfl rfl rfl ?_
                  obtain ⟨t112, ht113, h⟩ := opt_bind h
                  refine SO.call (pre := []) rfl Try.call30 rfl rfl rfl (ref01_Word.ct _ _ ht113) trivial ?_
                  rintro _ _ ⟨rfl, rfl⟩
                  obtain ⟨x114, hx115, h⟩ := opt_bind h
                  refine SO.v rfl (opv_idx Try.underlying24 Try.sizeOf63 hr111 rfl rfl hx115) ?_
                  refine SO.b1 ?_
                  refine SO.storeI1 (j := 0) (z' := t112) Try.sizeOf63 hx115 rfl rfl rfl rfl rfl rfl ?_
                  refine SO.rd fun hr116 => ?_
                  refine SO.nil ?_
                  refine S.inBlock ?_
                  cases h
                  refine S.b5 ?_
                  refine S.b5 ?_
                  refine S.b5 ?_
                  refine S.b5 ?_
                  refine S.b4 ?_
                  refine S.b5 ?_
                  refine S.to ?_ (hk5 () trivial)
                  exact ⟨rfl, rfl, rfl, rfl, rfl, rfl, rfl, rfl, rfl, rfl, rfl, rfl, rfl, rfl, rfl, rfl, rfl, rfl, rfl, rfl, rfl, rfl, rfl, rfl, rfl, rfl, rfl, rfl, trivial⟩
                · replace h := cond_f b90 h
                  refine S.condF rfl b90 ?_
                  refine S.seq ?_
                  refine S.region ?_
                  refine SO.v rfl (opv_eql rfl rfl) ?_
                  refine SO.v rfl (opv_assign rfl) ?_
                  refine SO.nil ?_
                  rcases bool_or (x52.Kind == 6) with b117 | b117
                  · replace h := cond_t b117 h
                    refine S.condT rfl b117 ?_
                    refine S.seq ?_
                    refine S.region ?_
                    refine SO.v rfl (opv_move rfl) ?_
                    refine SO.v rfl (opv_move rfl) ?_
                    refine SO.v rfl (opv_add rfl rfl) ?_
                    refine SO.v rfl (opv_fieldAddr Try.underlying70 rfl Try.sizeOf3 rfl rfl) ?_
                    refine SO.load1 rfl Try.isAgg3 rfl rfl ?_
                    refine SO.v rfl (opv_add rfl rfl) ?_
                    refine SO.v rfl (opv_conv Try.underlying3 Try.underlying63 rfl) ?_
                    obtain ⟨x118, hx119, h⟩ := opt_bind h
                    refine SO.v rfl (opv_idx Try.underlying24 Try.sizeOf63 hr67 rfl rfl hx119) ?_
                    refine SO.b1 ?_
                    refine SO.storeI1 (j := 0) (z' := wu64 (w64 (x52.In + 1))) Try.sizeOf63 hx119 rfl rfl rfl rfl rfl rfl ?_
                    refine SO.rd fun hr120 => ?_
                    refine SO.nil ?_
                    refine S.region ?_
                    refine SO.v rfl (opv_move rfl) ?_
                    refine SO.v rfl (opv_move rfl) ?_
                    refine SO.v rfl (opv_add rfl rfl) ?_
                    refine SO.v rfl (opv_fieldAddr Try.underlying70 rfl Try.sizeOf3 rfl rfl) ?_
                    refine SO.b1 ?_
                    refine SO.load1 rfl Try.isAgg3 rfl rfl ?_
                    refine SO.v rfl (opv_conv Try.underlying3 Try.underlying63 rfl) ?_
                    obtain ⟨x121, hx122, h⟩ := opt_bind h
                    refine SO.v rfl (opv_idx Try.underlying24 Try.sizeOf63 hr120 rfl rfl hx122) ?_
                    refine SO.b1 ?_
                    refine SO.storeI1 (j := 0) (z' := wu64 x52.Page) Try.sizeOf63 hx122 rfl rfl rfl rfl rfl rfl ?_
                    refine SO.rd fun hr123 => ?_
                    refine SO.nil ?_
                    refine S.inBlock ?_
                    cases h
                    refine S.b5 ?_
                    refine S.b5 ?_
                    refine S.b5 ?_
                    refine S.b5 ?_
                    refine S.b4 ?_
                    refine S.b5 ?_
                    refine S.to ?_ (hk5 () trivial)
                    exact ⟨rfl, rfl, rfl, rfl, rfl, rfl, rfl, rfl, rfl, rfl, rfl, rfl, rfl, rfl, rfl, rfl, rfl, rfl, rfl, rfl, rfl, rfl, rfl, rfl, rfl, rfl, rfl, rfl, trivial⟩
                  · replace h := cond_f b117 h
                    refine S.condF rfl b117 ?_
                    refine S.seq ?_
                    refine S.region ?_
                    refine SO.v rfl (opv_eql rfl rfl) ?_
                    refine SO.v rfl (opv_assign rfl) ?_
                    refine SO.nil ?_
                    rcases bool_or (x52.Kind == 7) with b124 | b124
                    · replace h := cond_t b124 h
                      refine S.condT rfl b124 ?_
                      refine S.seq ?_
                      refine S.region ?_
                      refine SO.v rfl (opv_assign rfl) ?_
                      refine SO.nil ?_
                      obtain ⟨⟨j11_e6, j251_e6, j252_e6, qv1_e6⟩, hl6, h⟩ := opt_bind h
                      refine S.b5 ?_
                      refine S.b5 ?_
                      refine S.b5 ?_
                      refine S.b5 ?_
                      refine S.b5 ?_
                      refine S.b5 ?_
                      refine S.to (ρ' := [(11, .int .i64 0), (249, .bool (x52.Kind == 7)), (250, .bool (x52.Kind == 7)), (232, .bool (x52.Kind == 6)), (233, .bool (x52.Kind == 6)), (168, .bool (x52.Kind == 5)), (169, .bool (x52.Kind == 5)), (159, .bool (x52.Kind == 4)), (160, .bool (x52.Kind == 4)), (150, .bool (x52.Kind == 3)), (151, .bool (x52.Kind == 3)), (134, .bool (x52.Kind == 2)), (135, .bool (x52.Kind == 2)), (118, .bool (x52.Kind == 1)), (119, .bool (x52.Kind == 1)), (117, .int .i64 x52.Kind), (116, bp b64 0), (115, idxp v1 ((w64 (480 + (w64 (8 * x8_4)))).toNat * (ekI .u64).sz)), (114, .int .u64 (wu64 x52.Kind)), (113, .int .i64 x52.Kind), (112, bp b64 0), (111, .int .i64 (w64 (480 + (w64 (8 * x8_4))))), (110, v1), (10, .int .i64 (w64 (480 + (w64 (8 * x8_4))))), (109, .int .i64 (w64 (480 + (w64 (8 * x8_4))))), (108, .int .i64 (w64 (8 * x8_4))), (107, .int .i64 x8_4), (9, bp b64 0), (106, .agg #[.int .i64 x52.Kind, .int .i64 x52.Size, .int .i64 x52.Used, .int .i64 x52.First, .int .i64 x52.Radix, .int .i64 x52.Wait, u61, .int .i64 x52.Word, .int .i64 x52.State, .int .i64 x52.Owing, .int .i64 x52.Badge, .int .i64 x52.Prio, .int .i64 x52.On, .int .i64 x52.Owes, .int .i64 x52.Root.Kind, .int .i64 x52.Root.Rights, .int .i64 x52.Root.Obj, .int .i64 x52.Root.Badge, .int .i64 x52.Root.Guard, .int .i64 x52.Root.Bits, .int .i64 x52.Pages.a0, .int .i64 x52.Pages.a1, .int .i64 x52.Pages.a2, .int .i64 x52.Pages.a3, .int .i64 x52.Right.a0, .int .i64 x52.Right.a1, .int .i64 x52.Right.a2, .int .i64 x52.Right.a3, .int .i64 x52.In, .int .i64 x52.Page, .int .i64 x52.Bound, .int .i64 x52.Mask]), (105, idxp v0_Objs (x8_4.toNat * kr_ref10_Obj.sz)), (104, .int .i64 x8_4), (103, v0_Objs), (102, bp bp0 1), (101, bp bp0 0), (100, bp bp0 0), (97, .bool (decide (x8_4 < 32))), (96, .int .i64 x8_4), (8, .int .i64 x8_4), (0, bp bp0 0), (2, .slice none 0 0), (3, v1)]) ⟨rfl, rfl, rfl, rfl, rfl, rfl, rfl, rfl, rfl, rfl, rfl, rfl, rfl, rfl, rfl, rfl, rfl, rfl, rfl, rfl, rfl, rfl, rfl, rfl, rfl, rfl, rfl, rfl, rfl, rfl, rfl, rfl, rfl, rfl, rfl, rfl, rfl, rfl, rfl, rfl, rfl, trivial⟩ ?_
                      refine S.forloop (X := (Int × (List Int)) × Unit) (O := (Int × Int × Bool × (List Int))) (fun m x => ref10_State_Words.l6 x8_4 x52 m x.1) (fun x => match x with | ((x11_6, qv1_6), _) => [(11, .int .i64 x11_6), (249, .bool (x52.Kind == 7)), (250, .bool (x52.Kind == 7)), (232, .bool (x52.Kind == 6)), (233, .bool (x52.Kind == 6)), (168, .bool (x52.Kind == 5)), (169, .bool (x52.Kind == 5)), (159, .bool (x52.Kind == 4)), (160, .bool (x52.Kind == 4)), (150, .bool (x52.Kind == 3)), (151, .bool (x52.Kind == 3)), (134, .bool (x52.Kind == 2)), (135, .bool (x52.Kind == 2)), (118, .bool (x52.Kind == 1)), (119, .bool (x52.Kind == 1)), (117, .int .i64 x52.Kind), (116, bp b64 0), (115, idxp v1 ((w64 (480 + (w64 (8 * x8_4)))).toNat * (ekI .u64).sz)), (114, .int .u64 (wu64 x52.Kind)), (113, .int .i64 x52.Kind), (112, bp b64 0), (111, .int .i64 (w64 (480 + (w64 (8 * x8_4))))), (110, v1), (10, .int .i64 (w64 (480 + (w64 (8 * x8_4))))), (109, .int .i64 (w64 (480 + (w64 (8 * x8_4))))), (108, .int .i64 (w64 (8 * x8_4))), (107, .int .i64 x8_4), (9, bp b64 0), (106, .agg #[.int .i64 x52.Kind, .int .i64 x52.Size, .int .i64 x52.Used, .int .i64 x52.First, .int .i64 x52.Radix, .int .i64 x52.Wait, u61, .int .i64 x52.Word, .int .i64 x52.State, .int .i64 x52.Owing, .int .i64 x52.Badge, .int .i64 x52.Prio, .int .i64 x52.On, .int .i64 x52.Owes, .int .i64 x52.Root.Kind, .int .i64 x52.Root.Rights, .int .i64 x52.Root.Obj, .int .i64 x52.Root.Badge, .int .i64 x52.Root.Guard, .int .i64 x52.Root.Bits, .int .i64 x52.Pages.a0, .int .i64 x52.Pages.a1, .int .i64 x52.Pages.a2, .int .i64 x52.Pages.a3, .int .i64 x52.Right.a0, .int .i64 x52.Right.a1, .int .i64 x52.Right.a2, .int .i64 x52.Right.a3, .int .i64 x52.In, .int .i64 x52.Page, .int .i64 x52.Bound, .int .i64 x52.Mask]), (105, idxp v0_Objs (x8_4.toNat * kr_ref10_Obj.sz)), (104, .int .i64 x8_4), (103, v0_Objs), (102, bp bp0 1), (101, bp bp0 0), (100, bp bp0 0), (97, .bool (decide (x8_4 < 32))), (96, .int .i64 x8_4), (8, .int .i64 x8_4), (0, bp bp0 0), (2, .slice none 0 0), (3, v1)]) (fun x => match x with | ((x11_6, qv1_6), _) => [Box b64 [.int .i64 x52.Kind, .int .i64 x52.Size, .int .i64 x52.Used, .int .i64 x52.First, .int .i64 x52.Radix, .int .i64 x52.Wait, u61, .int .i64 x52.Word, .int .i64 x52.State, .int .i64 x52.Owing, .int .i64 x52.Badge, .int .i64 x52.Prio, .int .i64 x52.On, .int .i64 x52.Owes, .int .i64 x52.Root.Kind, .int .i64 x52.Root.Rights, .int .i64 x52.Root.Obj, .int .i64 x52.Root.Badge, .int .i64 x52.Root.Guard, .int .i64 x52.Root.Bits, .int .i64 x52.Pages.a0, .int .i64 x52.Pages.a1, .int .i64 x52.Pages.a2, .int .i64 x52.Pages.a3, .int .i64 x52.Right.a0, .int .i64 x52.Right.a1, .int .i64 x52.Right.a2, .int .i64 x52.Right.a3, .int .i64 x52.In, .int .i64 x52.Page, .int .i64 x52.Bound, .int .i64 x52.Mask], Own 63 (ekI .u64) v1 qv1_6, OwnO 70 kr_ref10_Obj v0_Objs raws57 A58 a0.Objs, Box bp0 [v0_Slots, v0_Objs, .int .i64 a0.NS, .int .i64 a0.NO], OwnR 77 kr_ref10_Slot v0_Slots a0.Slots, F]) (fun Sk => (fun x => match x with | (j11_e6, j251_e6, j252_e6, qv1_e6) => ∀ _ : Unit, Sk [(0, bp bp0 0), (2, .slice none 0 0), (3, v1), (8, .int .i64 x8_4), (9, bp b64 0), (10, .int .i64 (w64 (480 + (w64 (8 * x8_4))))), (11, .int .i64 j11_e6), (96, .int .i64 x8_4), (97, .bool (decide (x8_4 < 32))), (100, bp bp0 0), (101, bp bp0 0), (102, bp bp0 1), (103, v0_Objs), (104, .int .i64 x8_4), (105, idxp v0_Objs (x8_4.toNat * kr_ref10_Obj.sz)), (106, .agg #[.int .i64 x52.Kind, .int .i64 x52.Size, .int .i64 x52.Used, .int .i64 x52.First, .int .i64 x52.Radix, .int .i64 x52.Wait, u61, .int .i64 x52.Word, .int .i64 x52.State, .int .i64 x52.Owing, .int .i64 x52.Badge, .int .i64 x52.Prio, .int .i64 x52.On, .int .i64 x52.Owes, .int .i64 x52.Root.Kind, .int .i64 x52.Root.Rights, .int .i64 x52.Root.Obj, .int .i64 x52.Root.Badge, .int .i64 x52.Root.Guard, .int .i64 x52.Root.Bits, .int .i64 x52.Pages.a0, .int .i64 x52.Pages.a1, .int .i64 x52.Pages.a2, .int .i64 x52.Pages.a3, .int .i64 x52.Right.a0, .int .i64 x52.Right.a1, .int .i64 x52.Right.a2, .int .i64 x52.Right.a3, .int .i64 x52.In, .int .i64 x52.Page, .int .i64 x52.Bound, .int .i64 x52.Mask]), (107, .int .i64 x8_4), (108, .int .i64 (w64 (8 * x8_4))), (109, .int .i64 (w64 (480 + (w64 (8 * x8_4))))), (110, v1), (111, .int .i64 (w64 (480 + (w64 (8 * x8_4))))), (112, bp b64 0), (113, .int .i64 x52.Kind), (114, .int .u64 (wu64 x52.Kind)), (115, idxp v1 ((w64 (480 + (w64 (8 * x8_4)))).toNat * (ekI .u64).sz)), (116, bp b64 0), (117, .int .i64 x52.Kind), (118, .bool (x52.Kind == 1)), (119, .bool (x52.Kind == 1)), (134, .bool (x52.Kind == 2)), (135, .bool (x52.Kind == 2)), (150, .bool (x52.Kind == 3)), (151, .bool (x52.Kind == 3)), (159, .bool (x52.Kind == 4)), (160, .bool (x52.Kind == 4)), (168, .bool (x52.Kind == 5)), (169, .bool (x52.Kind == 5)), (232, .bool (x52.Kind == 6)), (233, .bool (x52.Kind == 6)), (249, .bool (x52.Kind == 7)), (250, .bool (x52.Kind == 7)), (251, .int .i64 j251_e6), (252, .bool j252_e6)] [Box b64 [.int .i64 x52.Kind, .int .i64 x52.Size, .int .i64 x52.Used, .int .i64 x52.First, .int .i64 x52.Radix, .int .i64 x52.Wait, u61, .int .i64 x52.Word, .int .i64 x52.State, .int .i64 x52.Owing, .int .i64 x52.Badge, .int .i64 x52.Prio, .int .i64 x52.On, .int .i64 x52.Owes, .int .i64 x52.Root.Kind, .int .i64 x52.Root.Rights, .int .i64 x52.Root.Obj, .int .i64 x52.Root.Badge, .int .i64 x52.Root.Guard, .int .i64 x52.Root.Bits, .int .i64 x52.Pages.a0, .int .i64 x52.Pages.a1, .int .i64 x52.Pages.a2, .int .i64 x52.Pages.a3, .int .i64 x52.Right.a0, .int .i64 x52.Right.a1, .int .i64 x52.Right.a2, .int .i64 x52.Right.a3, .int .i64 x52.In, .int .i64 x52.Page, .int .i64 x52.Bound, .int .i64 x52.Mask], Own 63 (ekI .u64) v1 qv1_e6, OwnO 70 kr_ref10_Obj v0_Objs raws57 A58 a0.Objs, Box bp0 [v0_Slots, v0_Objs, .int .i64 a0.NS, .int .i64 a0.NO], OwnR 77 kr_ref10_Slot v0_Slots a0.Slots, F])) (fun _ => rfl) ?_ (m := k) (x := ((0, qv1_4.set (w64 (480 + (w64 (8 * x8_4)))).toNat (wu64 x52.Kind)), ())) hl6 ?_
                      · clear h hl6
                        intro k x o_6 h hK6 ih6
                        obtain ⟨⟨x11_6, qv1_6⟩, _⟩ := x
                        replace h : ref10_State_Words.l6 x8_4 x52 (k + 1) (x11_6, qv1_6) = some o_6 := h
                        first | rw [ref10_State_Words.l6] at h | unfold ref10_State_Words.l6 at h
                        refine S.b1 ?_
                        refine S.rd fun hr125 => ?_
                        refine S.seq ?_
                        refine S.seq ?_
                        refine S.region ?_
                        refine SO.v rfl (opv_move rfl) ?_
                        refine SO.v rfl (opv_lss rfl rfl) ?_
                        refine SO.nil ?_
                        rcases bool_or (decide (x11_6 < 4)) with b126 | b126
                        · replace h := cond_t b126 h
                          refine S.condT rfl b126 ?_
                          refine S.skip ?_
                          refine S.seq ?_
                          refine S.block ?_
                          refine S.seq ?_
                          refine S.region ?_
                          refine SO.v rfl (opv_move rfl) ?_
                          refine SO.v rfl (opv_fieldAddr Try.underlying70 rfl Try.sizeOf68 rfl rfl) ?_
                          obtain ⟨x127, hx128, h⟩ := opt_bind h
                          refine SO.v rfl (opv_idxA Try.underlying68 Try.sizeOf3 rfl rfl hx128) ?_
                          refine SO.b1 ?_
                          refine SO.load1 (v := .int .i64 x127) rfl Try.isAgg3 rfl (by rcases A4.get_cases hx128 with ⟨h1, h2⟩ | ⟨h1, h2⟩ | ⟨h1, h2⟩ | ⟨h1, h2⟩ <;> simp only [h1, h2] <;> rfl) ?_
                          refine SO.v rfl (opv_geq rfl rfl) ?_
                          refine SO.nil ?_
                          rcases bool_or (decide (0 ≤ x127)) with b129 | b129
                          · replace h := cond_t b129 h
                            refine S.condT rfl b129 ?_
                            obtain ⟨x130, hx131, h⟩ := opt_bind h
                            obtain ⟨x132, hx133, h⟩ := opt_bind h
                            obtain ⟨x134, hx135, h⟩ := opt_bind h
                            refine S.draw' (Z := fun Q => ∀ (_ : Unit) (_ : Unit) (_ : Unit) (_ : Unit) (_ : Unit) (_ : Unit) (_ : Unit) (_ : Unit) (_ : Unit) (_ : Unit) (_ : Unit) (_ : Unit) (_ : Unit) (_ : Unit) (_ : Unit) (_ : Unit) (_ : Unit) (_ : Unit) (_ : Unit) (_ : Unit) (_ : Unit) (_ : Unit) (_ : Unit) (_ : Unit) (_ : Unit) (_ : Unit) (_ : Unit) (_ : Unit) (_ : Unit), Q [(11, .int .i64 x11_6), (259, .bool (decide (0 ≤ x127))), (258, .int .i64 x127), (257, bp b64 (20 + x11_6.toNat)), (256, bp b64 20), (255, .int .i64 x11_6), (252, .bool (decide (x11_6 < 4))), (251, .int .i64 x11_6), (249, .bool (x52.Kind == 7)), (250, .bool (x52.Kind == 7)), (232, .bool (x52.Kind == 6)), (233, .bool (x52.Kind == 6)), (168, .bool (x52.Kind == 5)), (169, .bool (x52.Kind == 5)), (159, .bool (x52.Kind == 4)), (160, .bool (x52.Kind == 4)), (150, .bool (x52.Kind == 3)), (151, .bool (x52.Kind == 3)), (134, .bool (x52.Kind == 2)), (135, .bool (x52.Kind == 2)), (118, .bool (x52.Kind == 1)), (119, .bool (x52.Kind == 1)), (117, .int .i64 x52.Kind), (116, bp b64 0), (115, idxp v1 ((w64 (480 + (w64 (8 * x8_4)))).toNat * (ekI .u64).sz)), (114, .int .u64 (wu64 x52.Kind)), (113, .int .i64 x52.Kind), (112, bp b64 0), (111, .int .i64 (w64 (480 + (w64 (8 * x8_4))))), (110, v1), (109, .int .i64 (w64 (480 + (w64 (8 * x8_4))))), (108, .int .i64 (w64 (8 * x8_4))), (107, .int .i64 x8_4), (106, .agg #[.int .i64 x52.Kind, .int .i64 x52.Size, .int .i64 x52.Used, .int .i64 x52.First, .int .i64 x52.Radix, .int .i64 x52.Wait, u61, .int .i64 x52.Word, .int .i64 x52.State, .int .i64 x52.Owing, .int .i64 x52.Badge, .int .i64 x52.Prio, .int .i64 x52.On, .int .i64 x52.Owes, .int .i64 x52.Root.Kind, .int .i64 x52.Root.Rights, .int .i64 x52.Root.Obj, .int .i64 x52.Root.Badge, .int .i64 x52.Root.Guard, .int .i64 x52.Root.Bits, .int .i64 x52.Pages.a0, .int .i64 x52.Pages.a1, .int .i64 x52.Pages.a2, .int .i64 x52.Pages.a3, .int .i64 x52.Right.a0, .int .i64 x52.Right.a1, .int .i64 x52.Right.a2, .int .i64 x52.Right.a3, .int .i64 x52.In, .int .i64 x52.Page, .int .i64 x52.Bound, .int .i64 x52.Mask]), (105, idxp v0_Objs (x8_4.toNat * kr_ref10_Obj.sz)), (104, .int .i64 x8_4), (103, v0_Objs), (102, bp bp0 1), (101, bp bp0 0), (100, bp bp0 0), (97, .bool (decide (x8_4 < 32))), (96, .int .i64 x8_4), (8, .int .i64 x8_4), (0, bp bp0 0), (2, .slice none 0 0), (10, .int .i64 (w64 (480 + (w64 (8 * x8_4))))), (9, bp b64 0), (3, v1), (260, v1), (261, .int .i64 (w64 (480 + (w64 (8 * x8_4))))), (262, .int .i64 (w64 ((w64 (480 + (w64 (8 * x8_4)))) + 1))), (263, .int .i64 x11_6), (264, .int .i64 (w64 ((w64 ((w64 (480 + (w64 (8 * x8_4)))) + 1)) + x11_6))), (265, .int .i64 x11_6), (266, bp b64 20), (267, bp b64 (20 + x11_6.toNat)), (268, .int .i64 x130), (269, .int .i64 (w64 (x130 + 1))), (270, .int .i64 (w64 (8 * (w64 (x130 + 1))))), (271, .int .i64 x11_6), (272, bp b64 24), (273, bp b64 (24 + x11_6.toNat)), (274, .int .i64 x132), (275, .int .i64 (w64 ((w64 (8 * (w64 (x130 + 1)))) + x132))), (276, .int .u64 (wu64 (w64 ((w64 (8 * (w64 (x130 + 1)))) + x132)))), (277, idxp v1 ((w64 ((w64 ((w64 (480 + (w64 (8 * x8_4)))) + 1)) + x11_6)).toNat * (ekI .u64).sz))] [Box b64 [.int .i64 x52.Kind, .int .i64 x52.Size, .int .i64 x52.Used, .int .i64 x52.First, .int .i64 x52.Radix, .int .i64 x52.Wait, u61, .int .i64 x52.Word, .int .i64 x52.State, .int .i64 x52.Owing, .int .i64 x52.Badge, .int .i64 x52.Prio, .int .i64 x52.On, .int .i64 x52.Owes, .int .i64 x52.Root.Kind, .int .i64 x52.Root.Rights, .int .i64 x52.Root.Obj, .int .i64 x52.Root.Badge, .int .i64 x52.Root.Guard, .int .i64 x52.Root.Bits, .int .i64 x52.Pages.a0, .int .i64 x52.Pages.a1, .int .i64 x52.Pages.a2, .int .i64 x52.Pages.a3, .int .i64 x52.Right.a0, .int .i64 x52.Right.a1, .int .i64 x52.Right.a2, .int .i64 x52.Right.a3, .int .i64 x52.In, .int .i64 x52.Page, .int .i64 x52.Bound, .int .i64 x52.Mask], Own 63 (ekI .u64) v1 (qv1_6.set (w64 ((w64 ((w64 (480 + (w64 (8 * x8_4)))) + 1)) + x11_6)).toNat (wu64 (w64 ((w64 (8 * (w64 (x130 + 1)))) + x132)))), OwnO 70 kr_ref10_Obj v0_Objs raws57 A58 a0.Objs, Box bp0 [v0_Slots, v0_Objs, .int .i64 a0.NS, .int .i64 a0.NO], OwnR 77 kr_ref10_Slot v0_Slots a0.Slots, F]) (T := [tS 3 (v1), tS 10 (.int .i64 (w64 (480 + (w64 (8 * x8_4))))), tS 11 (.int .i64 x11_6), tS 9 (bp b64 0), tE [(259, .bool (decide (0 ≤ x127))), (258, .int .i64 x127), (257, bp b64 (20 + x11_6.toNat)), (256, bp b64 20), (255, .int .i64 x11_6), (252, .bool (decide (x11_6 < 4))), (251, .int .i64 x11_6), (249, .bool (x52.Kind == 7)), (250, .bool (x52.Kind == 7)), (232, .bool (x52.Kind == 6)), (233, .bool (x52.Kind == 6)), (168, .bool (x52.Kind == 5)), (169, .bool (x52.Kind == 5)), (159, .bool (x52.Kind == 4)), (160, .bool (x52.Kind == 4)), (150, .bool (x52.Kind == 3)), (151, .bool (x52.Kind == 3)), (134, .bool (x52.Kind == 2)), (135, .bool (x52.Kind == 2)), (118, .bool (x52.Kind == 1)), (119, .bool (x52.Kind == 1)), (117, .int .i64 x52.Kind), (116, bp b64 0), (115, idxp v1 ((w64 (480 + (w64 (8 * x8_4)))).toNat * (ekI .u64).sz)), (114, .int .u64 (wu64 x52.Kind)), (113, .int .i64 x52.Kind), (112, bp b64 0), (111, .int .i64 (w64 (480 + (w64 (8 * x8_4))))), (110, v1), (109, .int .i64 (w64 (480 + (w64 (8 * x8_4))))), (108, .int .i64 (w64 (8 * x8_4))), (107, .int .i64 x8_4), (106, .agg #[.int .i64 x52.Kind, .int .i64 x52.Size, .int .i64 x52.Used, .int .i64 x52.First, .int .i64 x52.Radix, .int .i64 x52.Wait, u61, .int .i64 x52.Word, .int .i64 x52.State, .int .i64 x52.Owing, .int .i64 x52.Badge, .int .i64 x52.Prio, .int .i64 x52.On, .int .i64 x52.Owes, .int .i64 x52.Root.Kind, .int .i64 x52.Root.Rights, .int .i64 x52.Root.Obj, .int .i64 x52.Root.Badge, .int .i64 x52.Root.Guard, .int .i64 x52.Root.Bits, .int .i64 x52.Pages.a0, .int .i64 x52.Pages.a1, .int .i64 x52.Pages.a2, .int .i64 x52.Pages.a3, .int .i64 x52.Right.a0, .int .i64 x52.Right.a1, .int .i64 x52.Right.a2, .int .i64 x52.Right.a3, .int .i64 x52.In, .int .i64 x52.Page, .int .i64 x52.Bound, .int .i64 x52.Mask]), (105, idxp v0_Objs (x8_4.toNat * kr_ref10_Obj.sz)), (104, .int .i64 x8_4), (103, v0_Objs), (102, bp bp0 1), (101, bp bp0 0), (100, bp bp0 0), (97, .bool (decide (x8_4 < 32))), (96, .int .i64 x8_4), (8, .int .i64 x8_4), (0, bp bp0 0), (2, .slice none 0 0)], tR (Box b64 [.int .i64 x52.Kind, .int .i64 x52.Size, .int .i64 x52.Used, .int .i64 x52.First, .int .i64 x52.Radix, .int .i64 x52.Wait, u61, .int .i64 x52.Word, .int .i64 x52.State, .int .i64 x52.Owing, .int .i64 x52.Badge, .int .i64 x52.Prio, .int .i64 x52.On, .int .i64 x52.Owes, .int .i64 x52.Root.Kind, .int .i64 x52.Root.Rights, .int .i64 x52.Root.Obj, .int .i64 x52.Root.Badge, .int .i64 x52.Root.Guard, .int .i64 x52.Root.Bits, .int .i64 x52.Pages.a0, .int .i64 x52.Pages.a1, .int .i64 x52.Pages.a2, .int .i64 x52.Pages.a3, .int .i64 x52.Right.a0, .int .i64 x52.Right.a1, .int .i64 x52.Right.a2, .int .i64 x52.Right.a3, .int .i64 x52.In, .int .i64 x52.Page, .int .i64 x52.Bound, .int .i64 x52.Mask]), tR (Own 63 (ekI .u64) v1 qv1_6), tR (OwnO 70 kr_ref10_Obj v0_Objs raws57 A58 a0.Objs), tR (Box bp0 [v0_Slots, v0_Objs, .int .i64 a0.NS, .int .i64 a0.NO]), tR (OwnR 77 kr_ref10_Slot v0_Slots a0.Slots), tR (F), tS 260 (v1), tS 261 (.int .i64 (w64 (480 + (w64 (8 * x8_4))))), tS 262 (.int .i64 (w64 ((w64 (480 + (w64 (8 * x8_4)))) + 1))), tS 263 (.int .i64 x11_6), tS 264 (.int .i64 (w64 ((w64 ((w64 (480 + (w64 (8 * x8_4)))) + 1)) + x11_6))), tS 265 (.int .i64 x11_6), tS 266 (bp b64 20), tS 267 (bp b64 (20 + x11_6.toNat)), tS 268 (.int .i64 x130), tS 269 (.int .i64 (w64 (x130 + 1))), tS 270 (.int .i64 (w64 (8 * (w64 (x130 + 1))))), tS 271 (.int .i64 x11_6), tS 272 (bp b64 24), tS 273 (bp b64 (24 + x11_6.toNat)), tS 274 (.int .i64 x132), tS 275 (.int .i64 (w64 ((w64 (8 * (w64 (x130 + 1)))) + x132))), tS 276 (.int .u64 (wu64 (w64 ((w64 (8 * (w64 (x130 + 1)))) + x132)))), tS 277 (idxp v1 ((w64 ((w64 ((w64 (480 + (w64 (8 * x8_4)))) + 1)) + x11_6)).toNat * (ekI .u64).sz)), tR (Own 63 (ekI .u64) v1 (qv1_6.set (w64 ((w64 ((w64 (480 + (w64 (8 * x8_4)))) + 1)) + x11_6)).toNat (wu64 (w64 ((w64 (8 * (w64 (x130 + 1)))) + x132)))))]) (D := [⟨[0], [], [11]⟩, ⟨[1], [], [12]⟩, ⟨[12], [], [13]⟩, ⟨[2], [], [14]⟩, ⟨[13, 14], [], [15]⟩, ⟨[2], [], [16]⟩, ⟨[3], [], [17]⟩, ⟨[16, 17, 5], [], [18]⟩, ⟨[18, 5], [], [19]⟩, ⟨[19], [], [20]⟩, ⟨[20], [], [21]⟩, ⟨[2], [], [22]⟩, ⟨[3], [], [23]⟩, ⟨[22, 23, 5], [], [24]⟩, ⟨[24, 5], [], [25]⟩, ⟨[21, 25], [], [26]⟩, ⟨[26], [], [27]⟩, ⟨[11, 15, 6], [], [28]⟩, ⟨[27, 28], [6], [29]⟩]) (ini := [0, 1, 2, 3, 4, 5, 6, 7, 8, 9, 10]) (fin := [2, 4, 1, 3, 0, 11, 12, 13, 14, 15, 16, 17, 18, 19, 20, 21, 22, 23, 24, 25, 26, 27, 28, 5, 29, 7, 8, 9, 10]) (bf := [[], [], [1], [], [1, 2, 3], [], [], [5, 6], [5, 6, 7], [5, 6, 7, 8], [5, 6, 7, 8, 9], [], [], [11, 12], [11, 12, 13], [5, 6, 7, 8, 9, 10, 11, 12, 13, 14], [5, 6, 7, 8, 9, 10, 11, 12, 13, 14, 15], [0, 1, 2, 3, 4, 5, 6, 7, 8, 9, 10, 11, 12, 13, 14, 15, 16], [0, 1, 2, 3, 4, 5, 6, 7, 8, 9, 10, 11, 12, 13, 14, 15, 16, 17]]) (by kernel_rfl) (by kernel_rfl) (fun x w h1 h2 => (.cons () (.cons () (.cons () (.cons () (.cons () (.cons () (.cons () (.cons () (.cons () (.cons () (.cons () (.nil ⟨EnvAll.of h1 ⟨rfl, rfl, rfl, rfl, rfl, rfl, rfl, rfl, rfl, rfl, rfl, rfl, rfl, rfl, rfl, rfl, rfl, rfl, rfl, rfl, rfl, rfl, rfl, rfl, rfl, rfl, rfl, rfl, rfl, rfl, rfl, rfl, rfl, rfl, rfl, rfl, rfl, rfl, rfl, rfl, rfl, rfl, rfl, rfl, rfl, rfl, rfl, rfl, trivial⟩, h2⟩))))))))))))) (fun Q => by kernel_rfl) ⟨?_, ?_, ?_, ?_, ?_, ?_, ?_, ?_, ?_, ?_, ?_, ?_, ?_, ?_, ?_, ?_, ?_, ?_, ?_, trivial⟩ ?_
                            · rintro Fr _
                              refine SO.v rfl (opv_move rfl) ?_
                              exact SO.nilZ fun a w h1 h2 h3 h4 h5 => PZ.of h1 h3 h5 (.cons () (.cons () (.nil ⟨EnvAll.of h2 ⟨rfl, rfl, trivial⟩, h4⟩)))
                            · rintro Fr _
                              refine SO.v rfl (opv_move rfl) ?_
                              exact SO.nilZ fun a w h1 h2 h3 h4 h5 => PZ.of h1 h3 h5 (.cons () (.cons () (.nil ⟨EnvAll.of h2 ⟨rfl, rfl, trivial⟩, h4⟩)))
                            · rintro Fr _
                              refine SO.v rfl (opv_add rfl rfl) ?_
                              exact SO.nilZ fun a w h1 h2 h3 h4 h5 => PZ.of h1 h3 h5 (.cons () (.cons () (.nil ⟨EnvAll.of h2 ⟨rfl, rfl, trivial⟩, h4⟩)))
                            · rintro Fr _
                              refine SO.v rfl (opv_move rfl) ?_
                              exact SO.nilZ fun a w h1 h2 h3 h4 h5 => PZ.of h1 h3 h5 (.cons () (.cons () (.nil ⟨EnvAll.of h2 ⟨rfl, rfl, trivial⟩, h4⟩)))
                            · rintro Fr _ _
                              refine SO.v rfl (opv_add rfl rfl) ?_
                              exact SO.nilZ fun a w h1 h2 h3 h4 h5 => PZ.of h1 h3 h5 (.cons () (.cons () (.cons () (.nil ⟨EnvAll.of h2 ⟨rfl, rfl, rfl, trivial⟩, h4⟩))))
                            · rintro Fr _
                              refine SO.v rfl (opv_move rfl) ?_
                              exact SO.nilZ fun a w h1 h2 h3 h4 h5 => PZ.of h1 h3 h5 (.cons () (.cons () (.nil ⟨EnvAll.of h2 ⟨rfl, rfl, trivial⟩, h4⟩)))
                            · rintro Fr _
                              refine SO.v rfl (opv_fieldAddr Try.underlying70 rfl Try.sizeOf68 rfl rfl) ?_
                              exact SO.nilZ fun a w h1 h2 h3 h4 h5 => PZ.of h1 h3 h5 (.cons () (.cons () (.nil ⟨EnvAll.of h2 ⟨rfl, rfl, trivial⟩, h4⟩)))
                            · rintro Fr _ _ _
                              refine SO.v rfl (opv_idxA Try.underlying68 Try.sizeOf3 rfl rfl hx131) ?_
                              exact SO.nilZ fun a w h1 h2 h3 h4 h5 => PZ.of h1 h3 h5 (.cons () (.cons () (.cons () (.cons () (.nil ⟨EnvAll.of h2 ⟨rfl, rfl, rfl, trivial⟩, h4⟩)))))
                            · rintro Fr _ _
                              refine SO.load1 (v := .int .i64 x130) rfl Try.isAgg3 rfl (by rcases A4.get_cases hx131 with ⟨h1, h2⟩ | ⟨h1, h2⟩ | ⟨h1, h2⟩ | ⟨h1, h2⟩ <;> simp only [h1, h2] <;> rfl) ?_
                              exact SO.nilZ fun a w h1 h2 h3 h4 h5 => PZ.of h1 h3 h5 (.cons () (.cons () (.cons () (.nil ⟨EnvAll.of h2 ⟨rfl, rfl, trivial⟩, h4⟩))))
                            · rintro Fr _
                              refine SO.v rfl (opv_add rfl rfl) ?_
                              exact SO.nilZ fun a w h1 h2 h3 h4 h5 => PZ.of h1 h3 h5 (.cons () (.cons () (.nil ⟨EnvAll.of h2 ⟨rfl, rfl, trivial⟩, h4⟩)))
                            · rintro Fr _
                              refine SO.v rfl (opv_mul rfl rfl) ?_
                              exact SO.nilZ fun a w h1 h2 h3 h4 h5 => PZ.of h1 h3 h5 (.cons () (.cons () (.nil ⟨EnvAll.of h2 ⟨rfl, rfl, trivial⟩, h4⟩)))
                            · rintro Fr _
                              refine SO.v rfl (opv_move rfl) ?_
                              exact SO.nilZ fun a w h1 h2 h3 h4 h5 => PZ.of h1 h3 h5 (.cons () (.cons () (.nil ⟨EnvAll.of h2 ⟨rfl, rfl, trivial⟩, h4⟩)))
                            · rintro Fr _
                              refine SO.v rfl (opv_fieldAddr Try.underlying70 rfl Try.sizeOf68 rfl rfl) ?_
                              exact SO.nilZ fun a w h1 h2 h3 h4 h5 => PZ.of h1 h3 h5 (.cons () (.cons () (.nil ⟨EnvAll.of h2 ⟨rfl, rfl, trivial⟩, h4⟩)))
                            · rintro Fr _ _ _
                              refine SO.v rfl (opv_idxA Try.underlying68 Try.sizeOf3 rfl rfl hx133) ?_
                              exact SO.nilZ fun a w h1 h2 h3 h4 h5 => PZ.of h1 h3 h5 (.cons () (.cons () (.cons () (.cons () (.nil ⟨EnvAll.of h2 ⟨rfl, rfl, rfl, trivial⟩, h4⟩)))))
                            · rintro Fr _ _
                              refine SO.load1 (v := .int .i64 x132) rfl Try.isAgg3 rfl (by rcases A4.get_cases hx133 with ⟨h1, h2⟩ | ⟨h1, h2⟩ | ⟨h1, h2⟩ | ⟨h1, h2⟩ <;> simp only [h1, h2] <;> rfl) ?_
                              exact SO.nilZ fun a w h1 h2 h3 h4 h5 => PZ.of h1 h3 h5 (.cons () (.cons () (.cons () (.nil ⟨EnvAll.of h2 ⟨rfl, rfl, trivial⟩, h4⟩))))
                            · rintro Fr _ _
                              refine SO.v rfl (opv_add rfl rfl) ?_
                              exact SO.nilZ fun a w h1 h2 h3 h4 h5 => PZ.of h1 h3 h5 (.cons () (.cons () (.cons () (.nil ⟨EnvAll.of h2 ⟨rfl, rfl, rfl, trivial⟩, h4⟩))))
                            · rintro Fr _
                              refine SO.v rfl (opv_conv Try.underlying3 Try.underlying63 rfl) ?_
                              exact SO.nilZ fun a w h1 h2 h3 h4 h5 => PZ.of h1 h3 h5 (.cons () (.cons () (.nil ⟨EnvAll.of h2 ⟨rfl, rfl, trivial⟩, h4⟩)))
                            · rintro Fr _ _ _
                              refine SO.v rfl (opv_idx Try.underlying24 Try.sizeOf63 hr125 rfl rfl hx135) ?_
                              exact SO.nilZ fun a w h1 h2 h3 h4 h5 => PZ.of h1 h3 h5 (.cons () (.cons () (.cons () (.cons () (.nil ⟨EnvAll.of h2 ⟨rfl, rfl, rfl, trivial⟩, h4⟩)))))
                            · rintro Fr _ _ _
                              refine SO.storeI1 (j := 0) (z' := wu64 (w64 ((w64 (8 * (w64 (x130 + 1)))) + x132))) Try.sizeOf63 hx135 rfl rfl rfl rfl rfl rfl ?_
                              refine SO.rd fun hr136 => ?_
                              exact SO.nilZ fun a w h1 h2 h3 h4 h5 => PZ.of h1 h3 h5 (.cons () (.cons () (.cons () (.nil ⟨EnvAll.of h2 ⟨rfl, rfl, trivial⟩, h4⟩))))
                            rintro _ _ _ _ _ _ _ _ _ _ _ _ _ _ _ _ _ _ _ _ _ _ _ _ _ _ _ _ _
                            refine S.to (ρ' := [(11, .int .i64 x11_6), (259, .bool (decide (0 ≤ x127))), (258, .int .i64 x127), (257, bp b64 (20 + x11_6.toNat)), (256, bp b64 20), (255, .int .i64 x11_6), (252, .bool (decide (x11_6 < 4))), (251, .int .i64 x11_6), (249, .bool (x52.Kind == 7)), (250, .bool (x52.Kind == 7)), (232, .bool (x52.Kind == 6)), (233, .bool (x52.Kind == 6)), (168, .bool (x52.Kind == 5)), (169, .bool (x52.Kind == 5)), (159, .bool (x52.Kind == 4)), (160, .bool (x52.Kind == 4)), (150, .bool (x52.Kind == 3)), (151, .bool (x52.Kind == 3)), (134, .bool (x52.Kind == 2)), (135, .bool (x52.Kind == 2)), (118, .bool (x52.Kind == 1)), (119, .bool (x52.Kind == 1)), (117, .int .i64 x52.Kind), (116, bp b64 0), (115, idxp v1 ((w64 (480 + (w64 (8 * x8_4)))).toNat * (ekI .u64).sz)), (114, .int .u64 (wu64 x52.Kind)), (113, .int .i64 x52.Kind), (112, bp b64 0), (111, .int .i64 (w64 (480 + (w64 (8 * x8_4))))), (110, v1), (109, .int .i64 (w64 (480 + (w64 (8 * x8_4))))), (108, .int .i64 (w64 (8 * x8_4))), (107, .int .i64 x8_4), (106, .agg #[.int .i64 x52.Kind, .int .i64 x52.Size, .int .i64 x52.Used, .int .i64 x52.First, .int .i64 x52.Radix, .int .i64 x52.Wait, u61, .int .i64 x52.Word, .int .i64 x52.State, .int .i64 x52.Owing, .int .i64 x52.Badge, .int .i64 x52.Prio, .int .i64 x52.On, .int .i64 x52.Owes, .int .i64 x52.Root.Kind, .int .i64 x52.Root.Rights, .int .i64 x52.Root.Obj, .int .i64 x52.Root.Badge, .int .i64 x52.Root.Guard, .int .i64 x52.Root.Bits, .int .i64 x52.Pages.a0, .int .i64 x52.Pages.a1, .int .i64 x52.Pages.a2, .int .i64 x52.Pages.a3, .int .i64 x52.Right.a0, .int .i64 x52.Right.a1, .int .i64 x52.Right.a2, .int .i64 x52.Right.a3, .int .i64 x52.In, .int .i64 x52.Page, .int .i64 x52.Bound, .int .i64 x52.Mask]), (105, idxp v0_Objs (x8_4.toNat * kr_ref10_Obj.sz)), (104, .int .i64 x8_4), (103, v0_Objs), (102, bp bp0 1), (101, bp bp0 0), (100, bp bp0 0), (97, .bool (decide (x8_4 < 32))), (96, .int .i64 x8_4), (8, .int .i64 x8_4), (0, bp bp0 0), (2, .slice none 0 0), (10, .int .i64 (w64 (480 + (w64 (8 * x8_4))))), (9, bp b64 0), (3, v1), (260, v1), (261, .int .i64 (w64 (480 + (w64 (8 * x8_4))))), (262, .int .i64 (w64 ((w64 (480 + (w64 (8 * x8_4)))) + 1))), (263, .int .i64 x11_6), (264, .int .i64 (w64 ((w64 ((w64 (480 + (w64 (8 * x8_4)))) + 1)) + x11_6))), (265, .int .i64 x11_6), (266, bp b64 20), (267, bp b64 (20 + x11_6.toNat)), (268, .int .i64 x130), (269, .int .i64 (w64 (x130 + 1))), (270, .int .i64 (w64 (8 * (w64 (x130 + 1))))), (271, .int .i64 x11_6), (272, bp b64 24), (273, bp b64 (24 + x11_6.toNat)), (274, .int .i64 x132), (275, .int .i64 (w64 ((w64 (8 * (w64 (x130 + 1)))) + x132))), (276, .int .u64 (wu64 (w64 ((w64 (8 * (w64 (x130 + 1)))) + x132)))), (277, idxp v1 ((w64 ((w64 ((w64 (480 + (w64 (8 * x8_4)))) + 1)) + x11_6)).toNat * (ekI .u64).sz))]) ⟨rfl, rfl, rfl, rfl, rfl, rfl, rfl, rfl, rfl, rfl, rfl, rfl, rfl, rfl, rfl, rfl, rfl, rfl, rfl, rfl, rfl, rfl, rfl, rfl, rfl, rfl, rfl, rfl, rfl, rfl, rfl, rfl, rfl, rfl, rfl, rfl, rfl, rfl, rfl, rfl, rfl, rfl, rfl, rfl, rfl, rfl, rfl, rfl, rfl, rfl, rfl, rfl, rfl, rfl, rfl, rfl, rfl, rfl, rfl, rfl, rfl, rfl, rfl, rfl, rfl, rfl, trivial⟩ ?_
                            refine S.b1 ?_
                            refine S.rd fun hr137 => ?_
                            refine S.inBlock ?_
                            refine S.region ?_
                            refine SO.v rfl (opv_move rfl) ?_
                            refine SO.v rfl (opv_add rfl rfl) ?_
                            refine SO.v rfl (opv_assign rfl) ?_
                            refine SO.nil ?_
                            refine S.b5 ?_
                            refine S.b5 ?_
                            refine S.b5 ?_
                            refine S.b5 ?_
                            refine S.b4 ?_
                            refine S.b5 ?_
                            refine S.to ?_ (ih6 ((w64 (x11_6 + 1), qv1_6.set (w64 ((w64 ((w64 (480 + (w64 (8 * x8_4)))) + 1)) + x11_6)).toNat (wu64 (w64 ((w64 (8 * (w64 (x130 + 1)))) + x132)))), ()) h)
                            exact ⟨rfl, rfl, rfl, rfl, rfl, rfl, rfl, rfl, rfl, rfl, rfl, rfl, rfl, rfl, rfl, rfl, rfl, rfl, rfl, rfl, rfl, rfl, rfl, rfl, rfl, rfl, rfl, rfl, rfl, rfl, rfl, rfl, rfl, rfl, rfl, rfl, rfl, rfl, rfl, rfl, rfl, trivial⟩
                          · replace h := cond_f b129 h
                            refine S.condF rfl b129 ?_
                            refine S.skip ?_
                            refine S.inBlock ?_
                            refine S.region ?_
                            refine SO.v rfl (opv_move rfl) ?_
                            refine SO.v rfl (opv_add rfl rfl) ?_
                            refine SO.v rfl (opv_assign rfl) ?_
                            refine SO.nil ?_
                            refine S.b5 ?_
                            refine S.b5 ?_
                            refine S.b5 ?_
                            refine S.b5 ?_
                            refine S.b5 ?_
                            refine S.b5 ?_
                            refine S.to ?_ (ih6 ((w64 (x11_6 + 1), qv1_6), ()) h)
                            exact ⟨rfl, rfl, rfl, rfl, rfl, rfl, rfl, rfl, rfl, rfl, rfl, rfl, rfl, rfl, rfl, rfl, rfl, rfl, rfl, rfl, rfl, rfl, rfl, rfl, rfl, rfl, rfl, rfl, rfl, rfl, rfl, rfl, rfl, rfl, rfl, rfl, rfl, rfl, rfl, rfl, rfl, trivial⟩
                        · replace h := cond_f b126 h
                          refine S.condF rfl b126 ?_
                          refine S.exit rfl ?_
                          cases h
                          refine S.b5 ?_
                          refine S.b5 ?_
                          refine S.b5 ?_
                          refine S.b5 ?_
                          refine S.b4 ?_
                          refine S.b5 ?_
                          refine S.to ?_ (hK6 ())
                          exact ⟨rfl, rfl, rfl, rfl, rfl, rfl, rfl, rfl, rfl, rfl, rfl, rfl, rfl, rfl, rfl, rfl, rfl, rfl, rfl, rfl, rfl, rfl, rfl, rfl, rfl, rfl, rfl, rfl, rfl, rfl, rfl, rfl, rfl, rfl, rfl, rfl, rfl, rfl, rfl, rfl, rfl, rfl, rfl, trivial⟩
                      rintro _
                      refine S.b1 ?_
                      refine S.rd fun hr138 => ?_
                      refine S.inBlock ?_
                      cases h
                      refine S.b5 ?_
                      refine S.b5 ?_
                      refine S.b5 ?_
                      refine S.b5 ?_
                      refine S.b4 ?_
                      refine S.b5 ?_
                      refine S.to ?_ (hk5 () trivial)
                      exact ⟨rfl, rfl, rfl, rfl, rfl, rfl, rfl, rfl, rfl, rfl, rfl, rfl, rfl, rfl, rfl, rfl, rfl, rfl, rfl, rfl, rfl, rfl, rfl, rfl, rfl, rfl, rfl, rfl, trivial⟩
                    · replace h := cond_f b124 h
                      refine S.condF rfl b124 ?_
                      refine S.seq ?_
                      refine S.region ?_
                      refine SO.v rfl (opv_eql rfl rfl) ?_
                      refine SO.v rfl (opv_assign rfl) ?_
                      refine SO.nil ?_
                      rcases bool_or (x52.Kind == 8) with b139 | b139
                      · replace h := cond_t b139 h
                        refine S.condT rfl b139 ?_
                        refine S.seq ?_
                        refine S.region ?_
                        refine SO.v rfl (opv_move rfl) ?_
                        refine SO.v rfl (opv_move rfl) ?_
                        refine SO.v rfl (opv_add rfl rfl) ?_
                        refine SO.v rfl (opv_fieldAddr Try.underlying70 rfl Try.sizeOf3 rfl rfl) ?_
                        refine SO.load1 rfl Try.isAgg3 rfl rfl ?_
                        refine SO.v rfl (opv_add rfl rfl) ?_
                        refine SO.v rfl (opv_conv Try.underlying3 Try.underlying63 rfl) ?_
                        obtain ⟨x140, hx141, h⟩ := opt_bind h
                        refine SO.v rfl (opv_idx Try.underlying24 Try.sizeOf63 hr67 rfl rfl hx141) ?_
                        refine SO.b1 ?_
                        refine SO.storeI1 (j := 0) (z' := wu64 (w64 (x52.Bound + 1))) Try.sizeOf63 hx141 rfl rfl rfl rfl rfl rfl ?_
                        refine SO.rd fun hr142 => ?_
                        refine SO.nil ?_
                        refine S.seq ?_
                        refine S.region ?_
                        refine SO.v rfl (opv_move rfl) ?_
                        refine SO.v rfl (opv_move rfl) ?_
                        refine SO.v rfl (opv_add rfl rfl) ?_
                        refine SO.v rfl (opv_fieldAddr Try.underlying70 rfl Try.sizeOf3 rfl rfl) ?_
                        refine SO.b1 ?_
                        refine SO.load1 rfl Try.isAgg3 rfl rfl ?_
                        refine SO.v rfl (opv_conv Try.underlying3 Try.underlying63 rfl) ?_
                        obtain ⟨x143, hx144, h⟩ := opt_bind h
                        refine SO.v rfl (opv_idx Try.underlying24 Try.sizeOf63 hr142 rfl rfl hx144) ?_
                        refine SO.b1 ?_
                        refine SO.storeI1 (j := 0) (z' := wu64 x52.Badge) Try.sizeOf63 hx144 rfl rfl rfl rfl rfl rfl ?_
                        refine SO.rd fun hr145 => ?_
                        refine SO.nil ?_
                        refine S.region ?_
                        refine SO.v rfl (opv_move rfl) ?_
                        refine SO.v rfl (opv_move rfl) ?_
                        refine SO.v rfl (opv_add rfl rfl) ?_
                        refine SO.v rfl (opv_fieldAddr Try.underlying70 rfl Try.sizeOf3 rfl rfl) ?_
                        refine SO.b1 ?_
                        refine SO.load1 rfl Try.isAgg3 rfl rfl ?_
                        refine SO.v rfl (opv_conv Try.underlying3 Try.underlying63 rfl) ?_
                        obtain ⟨x146, hx147, h⟩ := opt_bind h
                        refine SO.v rfl (opv_idx Try.underlying24 Try.sizeOf63 hr145 rfl rfl hx147) ?_
                        refine SO.b1 ?_
                        refine SO.storeI1 (j := 0) (z' := wu64 x52.Mask) Try.sizeOf63 hx147 rfl rfl rfl rfl rfl rfl ?_
                        refine SO.rd fun hr148 => ?_
                        refine SO.nil ?_
                        refine S.inBlock ?_
                        cases h
                        refine S.b5 ?_
                        refine S.b5 ?_
                        refine S.b5 ?_
                        refine S.b5 ?_
                        refine S.b4 ?_
                        refine S.b5 ?_
                        refine S.to ?_ (hk5 () trivial)
                        exact ⟨rfl, rfl, rfl, rfl, rfl, rfl, rfl, rfl, rfl, rfl, rfl, rfl, rfl, rfl, rfl, rfl, rfl, rfl, rfl, rfl, rfl, rfl, rfl, rfl, rfl, rfl, rfl, rfl, trivial⟩
                      · replace h := cond_f b139 h
                        refine S.condF rfl b139 ?_
                        refine S.skip ?_
                        refine S.inBlock ?_
                        cases h
                        refine S.b5 ?_
                        refine S.b5 ?_
                        refine S.b5 ?_
                        refine S.b5 ?_
                        refine S.b5 ?_
                        refine S.b5 ?_
                        refine S.to ?_ (hk5 () trivial)
                        exact ⟨rfl, rfl, rfl, rfl, rfl, rfl, rfl, rfl, rfl, rfl, rfl, rfl, rfl, rfl, rfl, rfl, rfl, rfl, rfl, rfl, rfl, rfl, rfl, rfl, rfl, rfl, rfl, rfl, trivial⟩
      rintro _ -
      replace h := hJ5
      refine S.b1 ?_
      refine S.rd fun hr149 => ?_
      refine S.seq ?_
      refine S.region ?_
      refine SO.v rfl (opv_assign rfl) ?_
      refine SO.nil ?_
      obtain ⟨⟨j12_e7, j302_e7, j306_e7, qv1_e7⟩, hl7, h⟩ := opt_bind h
      refine S.b5 ?_
      refine S.b5 ?_
      refine S.b5 ?_
      refine S.b5 ?_
      refine S.b5 ?_
      refine S.b5 ?_
      refine S.to (ρ' := [(12, .int .i64 0), (0, bp bp0 0), (2, .slice none 0 0), (3, v1), (8, .int .i64 x8_4), (9, bp b64 0), (10, .int .i64 (w64 (480 + (w64 (8 * x8_4))))), (96, .int .i64 x8_4), (97, .bool (decide (x8_4 < 32))), (100, bp bp0 0), (101, bp bp0 0), (102, bp bp0 1), (103, v0_Objs), (104, .int .i64 x8_4), (105, idxp v0_Objs (x8_4.toNat * kr_ref10_Obj.sz)), (106, .agg #[.int .i64 x52.Kind, .int .i64 x52.Size, .int .i64 x52.Used, .int .i64 x52.First, .int .i64 x52.Radix, .int .i64 x52.Wait, u61, .int .i64 x52.Word, .int .i64 x52.State, .int .i64 x52.Owing, .int .i64 x52.Badge, .int .i64 x52.Prio, .int .i64 x52.On, .int .i64 x52.Owes, .int .i64 x52.Root.Kind, .int .i64 x52.Root.Rights, .int .i64 x52.Root.Obj, .int .i64 x52.Root.Badge, .int .i64 x52.Root.Guard, .int .i64 x52.Root.Bits, .int .i64 x52.Pages.a0, .int .i64 x52.Pages.a1, .int .i64 x52.Pages.a2, .int .i64 x52.Pages.a3, .int .i64 x52.Right.a0, .int .i64 x52.Right.a1, .int .i64 x52.Right.a2, .int .i64 x52.Right.a3, .int .i64 x52.In, .int .i64 x52.Page, .int .i64 x52.Bound, .int .i64 x52.Mask]), (107, .int .i64 x8_4), (108, .int .i64 (w64 (8 * x8_4))), (109, .int .i64 (w64 (480 + (w64 (8 * x8_4))))), (110, v1), (111, .int .i64 (w64 (480 + (w64 (8 * x8_4))))), (112, bp b64 0), (113, .int .i64 x52.Kind), (114, .int .u64 (wu64 x52.Kind)), (115, idxp v1 ((w64 (480 + (w64 (8 * x8_4)))).toNat * (ekI .u64).sz)), (116, bp b64 0), (117, .int .i64 x52.Kind), (118, .bool (x52.Kind == 1)), (119, .bool (x52.Kind == 1))]) ⟨rfl, rfl, rfl, rfl, rfl, rfl, rfl, rfl, rfl, rfl, rfl, rfl, rfl, rfl, rfl, rfl, rfl, rfl, rfl, rfl, rfl, rfl, rfl, rfl, rfl, rfl, rfl, rfl, rfl, trivial⟩ ?_
      refine S.forloop (X := (Int × (List Int)) × Unit) (O := (Int × Int × Bool × (List Int))) (fun m x => ref10_State_Words.l7 x8_4 x52 m x.1) (fun x => match x with | ((x12_7, qv1_7), _) => [(12, .int .i64 x12_7), (0, bp bp0 0), (2, .slice none 0 0), (3, v1), (8, .int .i64 x8_4), (9, bp b64 0), (10, .int .i64 (w64 (480 + (w64 (8 * x8_4))))), (96, .int .i64 x8_4), (97, .bool (decide (x8_4 < 32))), (100, bp bp0 0), (101, bp bp0 0), (102, bp bp0 1), (103, v0_Objs), (104, .int .i64 x8_4), (105, idxp v0_Objs (x8_4.toNat * kr_ref10_Obj.sz)), (106, .agg #[.int .i64 x52.Kind, .int .i64 x52.Size, .int .i64 x52.Used, .int .i64 x52.First, .int .i64 x52.Radix, .int .i64 x52.Wait, u61, .int .i64 x52.Word, .int .i64 x52.State, .int .i64 x52.Owing, .int .i64 x52.Badge, .int .i64 x52.Prio, .int .i64 x52.On, .int .i64 x52.Owes, .int .i64 x52.Root.Kind, .int .i64 x52.Root.Rights, .int .i64 x52.Root.Obj, .int .i64 x52.Root.Badge, .int .i64 x52.Root.Guard, .int .i64 x52.Root.Bits, .int .i64 x52.Pages.a0, .int .i64 x52.Pages.a1, .int .i64 x52.Pages.a2, .int .i64 x52.Pages.a3, .int .i64 x52.Right.a0, .int .i64 x52.Right.a1, .int .i64 x52.Right.a2, .int .i64 x52.Right.a3, .int .i64 x52.In, .int .i64 x52.Page, .int .i64 x52.Bound, .int .i64 x52.Mask]), (107, .int .i64 x8_4), (108, .int .i64 (w64 (8 * x8_4))), (109, .int .i64 (w64 (480 + (w64 (8 * x8_4))))), (110, v1), (111, .int .i64 (w64 (480 + (w64 (8 * x8_4))))), (112, bp b64 0), (113, .int .i64 x52.Kind), (114, .int .u64 (wu64 x52.Kind)), (115, idxp v1 ((w64 (480 + (w64 (8 * x8_4)))).toNat * (ekI .u64).sz)), (116, bp b64 0), (117, .int .i64 x52.Kind), (118, .bool (x52.Kind == 1)), (119, .bool (x52.Kind == 1))]) (fun x => match x with | ((x12_7, qv1_7), _) => [Own 63 (ekI .u64) v1 qv1_7, Box b64 [.int .i64 x52.Kind, .int .i64 x52.Size, .int .i64 x52.Used, .int .i64 x52.First, .int .i64 x52.Radix, .int .i64 x52.Wait, u61, .int .i64 x52.Word, .int .i64 x52.State, .int .i64 x52.Owing, .int .i64 x52.Badge, .int .i64 x52.Prio, .int .i64 x52.On, .int .i64 x52.Owes, .int .i64 x52.Root.Kind, .int .i64 x52.Root.Rights, .int .i64 x52.Root.Obj, .int .i64 x52.Root.Badge, .int .i64 x52.Root.Guard, .int .i64 x52.Root.Bits, .int .i64 x52.Pages.a0, .int .i64 x52.Pages.a1, .int .i64 x52.Pages.a2, .int .i64 x52.Pages.a3, .int .i64 x52.Right.a0, .int .i64 x52.Right.a1, .int .i64 x52.Right.a2, .int .i64 x52.Right.a3, .int .i64 x52.In, .int .i64 x52.Page, .int .i64 x52.Bound, .int .i64 x52.Mask], OwnO 70 kr_ref10_Obj v0_Objs raws57 A58 a0.Objs, Box bp0 [v0_Slots, v0_Objs, .int .i64 a0.NS, .int .i64 a0.NO], OwnR 77 kr_ref10_Slot v0_Slots a0.Slots, F]) (fun Sk => (fun x => match x with | (j12_e7, j302_e7, j306_e7, qv1_e7) => ∀ _ : Unit, Sk [(0, bp bp0 0), (2, .slice none 0 0), (3, v1), (8, .int .i64 x8_4), (9, bp b64 0), (10, .int .i64 (w64 (480 + (w64 (8 * x8_4))))), (12, .int .i64 j12_e7), (96, .int .i64 x8_4), (97, .bool (decide (x8_4 < 32))), (100, bp bp0 0), (101, bp bp0 0), (102, bp bp0 1), (103, v0_Objs), (104, .int .i64 x8_4), (105, idxp v0_Objs (x8_4.toNat * kr_ref10_Obj.sz)), (106, .agg #[.int .i64 x52.Kind, .int .i64 x52.Size, .int .i64 x52.Used, .int .i64 x52.First, .int .i64 x52.Radix, .int .i64 x52.Wait, u61, .int .i64 x52.Word, .int .i64 x52.State, .int .i64 x52.Owing, .int .i64 x52.Badge, .int .i64 x52.Prio, .int .i64 x52.On, .int .i64 x52.Owes, .int .i64 x52.Root.Kind, .int .i64 x52.Root.Rights, .int .i64 x52.Root.Obj, .int .i64 x52.Root.Badge, .int .i64 x52.Root.Guard, .int .i64 x52.Root.Bits, .int .i64 x52.Pages.a0, .int .i64 x52.Pages.a1, .int .i64 x52.Pages.a2, .int .i64 x52.Pages.a3, .int .i64 x52.Right.a0, .int .i64 x52.Right.a1, .int .i64 x52.Right.a2, .int .i64 x52.Right.a3, .int .i64 x52.In, .int .i64 x52.Page, .int .i64 x52.Bound, .int .i64 x52.Mask]), (107, .int .i64 x8_4), (108, .int .i64 (w64 (8 * x8_4))), (109, .int .i64 (w64 (480 + (w64 (8 * x8_4))))), (110, v1), (111, .int .i64 (w64 (480 + (w64 (8 * x8_4))))), (112, bp b64 0), (113, .int .i64 x52.Kind), (114, .int .u64 (wu64 x52.Kind)), (115, idxp v1 ((w64 (480 + (w64 (8 * x8_4)))).toNat * (ekI .u64).sz)), (116, bp b64 0), (117, .int .i64 x52.Kind), (118, .bool (x52.Kind == 1)), (119, .bool (x52.Kind == 1)), (302, .int .i64 j302_e7), (303, bp b64 6), (304, u61), (305, .int .i64 (x52.Queue.length : Int)), (306, .bool j306_e7)] [Own 63 (ekI .u64) v1 qv1_e7, Box b64 [.int .i64 x52.Kind, .int .i64 x52.Size, .int .i64 x52.Used, .int .i64 x52.First, .int .i64 x52.Radix, .int .i64 x52.Wait, u61, .int .i64 x52.Word, .int .i64 x52.State, .int .i64 x52.Owing, .int .i64 x52.Badge, .int .i64 x52.Prio, .int .i64 x52.On, .int .i64 x52.Owes, .int .i64 x52.Root.Kind, .int .i64 x52.Root.Rights, .int .i64 x52.Root.Obj, .int .i64 x52.Root.Badge, .int .i64 x52.Root.Guard, .int .i64 x52.Root.Bits, .int .i64 x52.Pages.a0, .int .i64 x52.Pages.a1, .int .i64 x52.Pages.a2, .int .i64 x52.Pages.a3, .int .i64 x52.Right.a0, .int .i64 x52.Right.a1, .int .i64 x52.Right.a2, .int .i64 x52.Right.a3, .int .i64 x52.In, .int .i64 x52.Page, .int .i64 x52.Bound, .int .i64 x52.Mask], OwnO 70 kr_ref10_Obj v0_Objs raws57 A58 a0.Objs, Box bp0 [v0_Slots, v0_Objs, .int .i64 a0.NS, .int .i64 a0.NO], OwnR 77 kr_ref10_Slot v0_Slots a0.Slots, F])) (fun _ => rfl) ?_ (m := k) (x := ((0, qv1_5), ())) hl7 ?_
      · clear h hl7
        intro k x o_7 h hK7 ih7
        obtain ⟨⟨x12_7, qv1_7⟩, _⟩ := x
        replace h : ref10_State_Words.l7 x8_4 x52 (k + 1) (x12_7, qv1_7) = some o_7 := h
        first | rw [ref10_State_Words.l7] at h | unfold ref10_State_Words.l7 at h
        refine S.rd fun hr150 => ?_
        refine S.seq ?_
        refine S.seq ?_
        refine S.region ?_
        refine SO.v rfl (opv_move rfl) ?_
        refine SO.v rfl (opv_fieldAddr Try.underlying70 rfl Try.sizeOf67 rfl rfl) ?_
        refine SO.b1 ?_
        refine SO.load1 rfl Try.isAgg67 rfl rfl ?_
        refine SO.v rfl (opv_lenR rfl Try.underlying67 hru62 rfl) ?_
        refine SO.v rfl (opv_lss rfl rfl) ?_
        refine SO.nil ?_
        rcases bool_or (decide (x12_7 < (x52.Queue.length : Int))) with b151 | b151
        · replace h := cond_t b151 h
          refine S.condT rfl b151 ?_
          refine S.skip ?_
          refine S.seq ?_
          refine S.block ?_
          refine S.seq ?_
          refine S.region ?_
          refine SO.v rfl (opv_fieldAddr Try.underlying70 rfl Try.sizeOf67 rfl rfl) ?_
          refine SO.load1 rfl Try.isAgg67 rfl rfl ?_
          refine SO.v rfl (opv_move rfl) ?_
          obtain ⟨x152, hx153, h⟩ := opt_bind h
          refine SO.v rfl (opv_idx Try.underlying67 Try.sizeOf3 hru62 rfl rfl hx153) ?_
          refine SO.loadI1 (j := 0) rfl Try.isAgg3 (Rd.tail (Rd.tail (Rd.head (Rd.pool hru62)))) hx153 rfl rfl rfl rfl ?_
          refine SO.v rfl (opv_assign rfl) ?_
          refine SO.nil ?_
          refine S.seq ?_
          refine S.seq ?_
          refine S.region ?_
          refine SO.v rfl (opv_move rfl) ?_
          refine SO.v rfl (opv_eql rfl rfl) ?_
          refine SO.nil ?_
          obtain ⟨qv1_8, hC8, hJ8⟩ := opt_bind h
          clear h
          refine S.cutP (G := Unit) (fun _ => True) (fun _ => [(0, bp bp0 0), (2, .slice none 0 0), (3, v1), (8, .int .i64 x8_4), (9, bp b64 0), (10, .int .i64 (w64 (480 + (w64 (8 * x8_4))))), (12, .int .i64 x12_7), (13, .int .i64 x152), (96, .int .i64 x8_4), (97, .bool (decide (x8_4 < 32))), (100, bp bp0 0), (101, bp bp0 0), (102, bp bp0 1), (103, v0_Objs), (104, .int .i64 x8_4), (105, idxp v0_Objs (x8_4.toNat * kr_ref10_Obj.sz)), (106, .agg #[.int .i64 x52.Kind, .int .i64 x52.Size, .int .i64 x52.Used, .int .i64 x52.First, .int .i64 x52.Radix, .int .i64 x52.Wait, u61, .int .i64 x52.Word, .int .i64 x52.State, .int .i64 x52.Owing, .int .i64 x52.Badge, .int .i64 x52.Prio, .int .i64 x52.On, .int .i64 x52.Owes, .int .i64 x52.Root.Kind, .int .i64 x52.Root.Rights, .int .i64 x52.Root.Obj, .int .i64 x52.Root.Badge, .int .i64 x52.Root.Guard, .int .i64 x52.Root.Bits, .int .i64 x52.Pages.a0, .int .i64 x52.Pages.a1, .int .i64 x52.Pages.a2, .int .i64 x52.Pages.a3, .int .i64 x52.Right.a0, .int .i64 x52.Right.a1, .int .i64 x52.Right.a2, .int .i64 x52.Right.a3, .int .i64 x52.In, .int .i64 x52.Page, .int .i64 x52.Bound, .int .i64 x52.Mask]), (107, .int .i64 x8_4), (108, .int .i64 (w64 (8 * x8_4))), (109, .int .i64 (w64 (480 + (w64 (8 * x8_4))))), (110, v1), (111, .int .i64 (w64 (480 + (w64 (8 * x8_4))))), (112, bp b64 0), (113, .int .i64 x52.Kind), (114, .int .u64 (wu64 x52.Kind)), (115, idxp v1 ((w64 (480 + (w64 (8 * x8_4)))).toNat * (ekI .u64).sz)), (116, bp b64 0), (117, .int .i64 x52.Kind), (118, .bool (x52.Kind == 1)), (119, .bool (x52.Kind == 1)), (302, .int .i64 x12_7), (303, bp b64 6), (304, u61), (305, .int .i64 (x52.Queue.length : Int)), (306, .bool (decide (x12_7 < (x52.Queue.length : Int)))), (309, bp b64 6), (310, u61), (311, .int .i64 x12_7), (312, idxp u61 (x12_7.toNat * (ekI .i64).sz)), (313, .int .i64 x152), (314, .int .i64 x12_7), (315, .bool (x12_7 == 0))]) (fun _ => [Box b64 [.int .i64 x52.Kind, .int .i64 x52.Size, .int .i64 x52.Used, .int .i64 x52.First, .int .i64 x52.Radix, .int .i64 x52.Wait, u61, .int .i64 x52.Word, .int .i64 x52.State, .int .i64 x52.Owing, .int .i64 x52.Badge, .int .i64 x52.Prio, .int .i64 x52.On, .int .i64 x52.Owes, .int .i64 x52.Root.Kind, .int .i64 x52.Root.Rights, .int .i64 x52.Root.Obj, .int .i64 x52.Root.Badge, .int .i64 x52.Root.Guard, .int .i64 x52.Root.Bits, .int .i64 x52.Pages.a0, .int .i64 x52.Pages.a1, .int .i64 x52.Pages.a2, .int .i64 x52.Pages.a3, .int .i64 x52.Right.a0, .int .i64 x52.Right.a1, .int .i64 x52.Right.a2, .int .i64 x52.Right.a3, .int .i64 x52.In, .int .i64 x52.Page, .int .i64 x52.Bound, .int .i64 x52.Mask], Own 63 (ekI .u64) v1 qv1_8, OwnO 70 kr_ref10_Obj v0_Objs raws57 A58 a0.Objs, Box bp0 [v0_Slots, v0_Objs, .int .i64 a0.NS, .int .i64 a0.NO], OwnR 77 kr_ref10_Slot v0_Slots a0.Slots, F]) (fun hk8 => ?_) ?_
          · replace h := hC8
            rcases bool_or (x12_7 == 0) with b154 | b154
            · replace h := cond_t b154 h
              refine S.condT rfl b154 ?_
              refine S.region ?_
              refine SO.v rfl (opv_move rfl) ?_
              refine SO.v rfl (opv_move rfl) ?_
              refine SO.v rfl (opv_add rfl rfl) ?_
              refine SO.v rfl (opv_move rfl) ?_
              refine SO.v rfl (opv_add rfl rfl) ?_
              refine SO.v rfl (opv_conv Try.underlying3 Try.underlying63 rfl) ?_
              obtain ⟨x155, hx156, h⟩ := opt_bind h
              refine SO.v rfl (opv_idx Try.underlying24 Try.sizeOf63 hr150 rfl rfl hx156) ?_
              refine SO.b1 ?_
              refine SO.storeI1 (j := 0) (z' := wu64 (w64 (x152 + 1))) Try.sizeOf63 hx156 rfl rfl rfl rfl rfl rfl ?_
              refine SO.rd fun hr157 => ?_
              refine SO.nil ?_
              cases h
              refine S.b5 ?_
              refine S.b5 ?_
              refine S.b5 ?_
              refine S.b5 ?_
              refine S.b4 ?_
              refine S.b5 ?_
              refine S.to ?_ (hk8 () trivial)
              exact ⟨rfl, rfl, rfl, rfl, rfl, rfl, rfl, rfl, rfl, rfl, rfl, rfl, rfl, rfl, rfl, rfl, rfl, rfl, rfl, rfl, rfl, rfl, rfl, rfl, rfl, rfl, rfl, rfl, rfl, rfl, rfl, rfl, rfl, rfl, rfl, rfl, rfl, rfl, rfl, rfl, rfl, rfl, trivial⟩
            · replace h := cond_f b154 h
              refine S.condF rfl b154 ?_
              refine S.skip ?_
              cases h
              refine S.b5 ?_
              refine S.b5 ?_
              refine S.b5 ?_
              refine S.b5 ?_
              refine S.b5 ?_
              refine S.b5 ?_
              refine S.to ?_ (hk8 () trivial)
              exact ⟨rfl, rfl, rfl, rfl, rfl, rfl, rfl, rfl, rfl, rfl, rfl, rfl, rfl, rfl, rfl, rfl, rfl, rfl, rfl, rfl, rfl, rfl, rfl, rfl, rfl, rfl, rfl, rfl, rfl, rfl, rfl, rfl, rfl, rfl, rfl, rfl, rfl, rfl, rfl, rfl, rfl, rfl, trivial⟩
          rintro _ -
          replace h := hJ8
          refine S.b1 ?_
          refine S.rd fun hr158 => ?_
          refine S.seq ?_
          refine S.region ?_
          refine SO.v rfl (opv_move rfl) ?_
          refine SO.v rfl (opv_add rfl rfl) ?_
          refine SO.v rfl (opv_fieldAddr Try.underlying70 rfl Try.sizeOf67 rfl rfl) ?_
          refine SO.b1 ?_
          refine SO.load1 rfl Try.isAgg67 rfl rfl ?_
          refine SO.v rfl (opv_lenR rfl Try.underlying67 hru62 rfl) ?_
          refine SO.v rfl (opv_lss rfl rfl) ?_
          refine SO.nil ?_
          rcases bool_or (decide ((w64 (x12_7 + 1)) < (x52.Queue.length : Int))) with b159 | b159
          · replace h := cond_t b159 h
            refine S.condT rfl b159 ?_
            refine S.region ?_
            refine SO.v rfl (opv_move rfl) ?_
            refine SO.v rfl (opv_move rfl) ?_
            refine SO.v rfl (opv_mul rfl rfl) ?_
            refine SO.v rfl (opv_add rfl rfl) ?_
            refine SO.v rfl (opv_add rfl rfl) ?_
            refine SO.v rfl (opv_fieldAddr Try.underlying70 rfl Try.sizeOf67 rfl rfl) ?_
            refine SO.load1 rfl Try.isAgg67 rfl rfl ?_
            refine SO.v rfl (opv_move rfl) ?_
            refine SO.v rfl (opv_add rfl rfl) ?_
            obtain ⟨x160, hx161, h⟩ := opt_bind h
            refine SO.v rfl (opv_idx Try.underlying67 Try.sizeOf3 hru62 rfl rfl hx161) ?_
            refine SO.loadI1 (j := 0) rfl Try.isAgg3 (Rd.tail (Rd.tail (Rd.head (Rd.pool hru62)))) hx161 rfl rfl rfl rfl ?_
            refine SO.v rfl (opv_add rfl rfl) ?_
            refine SO.v rfl (opv_conv Try.underlying3 Try.underlying63 rfl) ?_
            obtain ⟨x162, hx163, h⟩ := opt_bind h
            refine SO.v rfl (opv_idx Try.underlying24 Try.sizeOf63 hr158 rfl rfl hx163) ?_
            refine SO.b1 ?_
            refine SO.storeI1 (j := 0) (z' := wu64 (w64 (x160 + 1))) Try.sizeOf63 hx163 rfl rfl rfl rfl rfl rfl ?_
            refine SO.rd fun hr164 => ?_
            refine SO.nil ?_
            refine S.inBlock ?_
            refine S.region ?_
            refine SO.v rfl (opv_move rfl) ?_
            refine SO.v rfl (opv_add rfl rfl) ?_
            refine SO.v rfl (opv_assign rfl) ?_
            refine SO.nil ?_
            refine S.b5 ?_
            refine S.b5 ?_
            refine S.b5 ?_
            refine S.b5 ?_
            refine S.b5 ?_
            refine S.b5 ?_
            refine S.to ?_ (ih7 ((w64 (x12_7 + 1), qv1_8.set (w64 ((w64 (480 + (w64 (8 * x152)))) + 2)).toNat (wu64 (w64 (x160 + 1)))), ()) h)
            exact ⟨rfl, rfl, rfl, rfl, rfl, rfl, rfl, rfl, rfl, rfl, rfl, rfl, rfl, rfl, rfl, rfl, rfl, rfl, rfl, rfl, rfl, rfl, rfl, rfl, rfl, rfl, rfl, rfl, rfl, trivial⟩
          · replace h := cond_f b159 h
            refine S.condF rfl b159 ?_
            refine S.region ?_
            refine SO.v rfl (opv_move rfl) ?_
            refine SO.v rfl (opv_move rfl) ?_
            refine SO.v rfl (opv_add rfl rfl) ?_
            refine SO.v rfl (opv_move rfl) ?_
            refine SO.v rfl (opv_add rfl rfl) ?_
            refine SO.v rfl (opv_conv Try.underlying3 Try.underlying63 rfl) ?_
            obtain ⟨x165, hx166, h⟩ := opt_bind h
            refine SO.v rfl (opv_idx Try.underlying24 Try.sizeOf63 hr158 rfl rfl hx166) ?_
            refine SO.b1 ?_
            refine SO.storeI1 (j := 0) (z' := wu64 (w64 (x152 + 1))) Try.sizeOf63 hx166 rfl rfl rfl rfl rfl rfl ?_
            refine SO.rd fun hr167 => ?_
            refine SO.nil ?_
            refine S.inBlock ?_
            refine S.region ?_
            refine SO.v rfl (opv_move rfl) ?_
            refine SO.v rfl (opv_add rfl rfl) ?_
            refine SO.v rfl (opv_assign rfl) ?_
            refine SO.nil ?_
            refine S.b5 ?_
            refine S.b5 ?_
            refine S.b5 ?_
            refine S.b5 ?_
            refine S.b5 ?_
            refine S.b5 ?_
            refine S.to ?_ (ih7 ((w64 (x12_7 + 1), qv1_8.set (w64 ((w64 (480 + (w64 (8 * x8_4)))) + 3)).toNat (wu64 (w64 (x152 + 1)))), ()) h)
            exact ⟨rfl, rfl, rfl, rfl, rfl, rfl, rfl, rfl, rfl, rfl, rfl, rfl, rfl, rfl, rfl, rfl, rfl, rfl, rfl, rfl, rfl, rfl, rfl, rfl, rfl, rfl, rfl, rfl, rfl, trivial⟩
        · replace h := cond_f b151 h
          refine S.condF rfl b151 ?_
          refine S.exit rfl ?_
          cases h
          refine S.b5 ?_
          refine S.b5 ?_
          refine S.b5 ?_
          refine S.b5 ?_
          refine S.b4 ?_
          refine S.b5 ?_
          refine S.to ?_ (hK7 ())
          exact ⟨rfl, rfl, rfl, rfl, rfl, rfl, rfl, rfl, rfl, rfl, rfl, rfl, rfl, rfl, rfl, rfl, rfl, rfl, rfl, rfl, rfl, rfl, rfl, rfl, rfl, rfl, rfl, rfl, rfl, rfl, rfl, rfl, rfl, rfl, trivial⟩
      rintro _
      refine S.rd fun hr168 => ?_
      refine S.inBlock ?_
      refine S.region ?_
      refine SO.v rfl (opv_move rfl) ?_
      refine SO.v rfl (opv_add rfl rfl) ?_
      refine SO.v rfl (opv_assign rfl) ?_
      refine SO.nil ?_
      refine S.b2 ?_
      refine S.closeR ?_
      refine S.b2 ?_
      refine S.drop ?_
      refine S.b4 ?_
      refine S.b1 ?_
      refine S.b4 ?_
      refine S.b4 ?_
      refine S.b4 ?_
      refine S.to ?_ (ih4 ((w64 (x8_4 + 1), qv1_e7), ()) h)
      exact ⟨rfl, rfl, rfl, rfl, trivial⟩
    · replace h := cond_f b51 h
      refine S.condF rfl b51 ?_
      refine S.exit rfl ?_
      cases h
      refine S.b4 ?_
      refine S.b4 ?_
      refine S.b4 ?_
      refine S.b4 ?_
      refine S.b4 ?_
      refine S.to ?_ (hK4 ())
      exact ⟨rfl, rfl, rfl, trivial⟩
  rintro _
  refine S.rd fun hr169 => ?_
  refine S.seq ?_
  refine S.region ?_
  refine SO.v rfl (opv_move rfl) ?_
  refine SO.v rfl (opv_move rfl) ?_
  refine SO.v rfl (opv_nilCheck rfl) ?_
  refine SO.v rfl (opv_fieldAddr Try.underlying75 rfl Try.sizeOf3 rfl rfl) ?_
  refine SO.b1 ?_
  refine SO.load1 rfl Try.isAgg3 rfl rfl ?_
  refine SO.v rfl (opv_conv Try.underlying3 Try.underlying63 rfl) ?_
  obtain ⟨x170, hx171, h⟩ := opt_bind h
  refine SO.v rfl (opv_idx Try.underlying24 Try.sizeOf63 hr169 rfl rfl hx171) ?_
  refine SO.b1 ?_
  refine SO.storeI1 (j := 0) (z' := wu64 a0.NS) Try.sizeOf63 hx171 rfl rfl rfl rfl rfl rfl ?_
  refine SO.rd fun hr172 => ?_
  refine SO.nil ?_
  refine S.to (ρ' := [(0, bp bp0 0), (2, .slice none 0 0), (3, v1)]) ⟨rfl, rfl, rfl, trivial⟩ ?_
  refine S.seq ?_
  refine S.region ?_
  refine SO.v rfl (opv_move rfl) ?_
  refine SO.v rfl (opv_move rfl) ?_
  refine SO.v rfl (opv_nilCheck rfl) ?_
  refine SO.v rfl (opv_fieldAddr Try.underlying75 rfl Try.sizeOf3 rfl rfl) ?_
  refine SO.b1 ?_
  refine SO.load1 rfl Try.isAgg3 rfl rfl ?_
  refine SO.v rfl (opv_conv Try.underlying3 Try.underlying63 rfl) ?_
  obtain ⟨x173, hx174, h⟩ := opt_bind h
  refine SO.v rfl (opv_idx Try.underlying24 Try.sizeOf63 hr172 rfl rfl hx174) ?_
  refine SO.b1 ?_
  refine SO.storeI1 (j := 0) (z' := wu64 a0.NO) Try.sizeOf63 hx174 rfl rfl rfl rfl rfl rfl ?_
  refine SO.rd fun hr175 => ?_
  refine SO.nil ?_
  refine S.to (ρ' := [(2, .slice none 0 0), (3, v1)]) ⟨rfl, rfl, trivial⟩ ?_
  refine S.seq ?_
  refine S.region ?_
  refine SO.v rfl (opv_move rfl) ?_
  refine SO.v rfl (opv_assign rfl) ?_
  refine SO.nil ?_
  cases h
  refine S.b4 ?_
  refine S.b4 ?_
  refine S.b4 ?_
  refine S.b4 ?_
  refine S.b4 ?_
  exact S.ret1 Try.func9 rfl rfl (fun w hs hk => hR w _ _ ⟨v1, rfl, rfl⟩ hs hk)
end Go.Proofs
namespace Go.Proofs
open Go.Sl Go.RowKit
/-! 7 padstone/padstonelaw19.up -/
def law19_up.f (k : Nat) : Option (Bool) :=
  (ref10_Boot.f k 1).bind fun t1 => (ref10_State_Words.f k t1).bind fun t5 => (VM.run plainI (irq_Bind.f 6 5 9) t5).bind fun (t9, s11) => (VM.run plainI (irq_Fire.f 6) s11).bind fun ((t13, t14), s16) => (VM.run plainI (irq_Fire.f 6) s16).bind fun ((t18, t19), s21) => (VM.run plainI (ntfn_Poll.f 5) s21).bind fun ((t23, t24), s26) => (bif (((((t9.isNone && t13) && t14.isNone) && (!t18)) && t19.isNone) && (t23.Word == 9)) && t24.isNone then ((VM.run plainI (irq_Ack.f 6) s26).bind fun (t40, s42) => some (t40.isNone, s42)) else (some (false, s26))).bind fun (c36, w38) => (bif c36 then ((VM.run plainI (irq_Ack.f 6) w38).bind fun (t49, s51) => some (t49 == some 10, s51)) else (some (false, w38))).bind fun (c45, w47) => some c45
set_option maxHeartbeats 8000000 in
set_option maxRecDepth 100000 in
theorem law19_up.ct (k : Nat) (r0 : Bool) (h : law19_up.f k  = some r0) :
    Ct Try.prog 7 [] (fun _ => True) [] (fun u H' => u = .bool r0 ∧ H' = []) := by
  unfold law19_up.f at h
  refine Ct.intro (n := 71) Try.func7 rfl rfl rfl ?_
  intro R w0 F hF hR
  refine S.seq ?_
  refine S.region ?_
  refine SO.v rfl (opv_assign rfl) ?_
  refine SO.nil ?_
  refine S.seq ?_
  refine S.region ?_
  obtain ⟨t1, ht2, h⟩ := opt_bind h
  refine SO.call (pre := []) rfl Try.call8 rfl rfl rfl (ref10_Boot.ct _ _ _ ht2) trivial ?_
  rintro _ _ ⟨b3, u4_Slots, u4_Objs, rfl, rfl⟩
  obtain ⟨t5, ht6, h⟩ := opt_bind h
  refine SO.b2 ?_
  refine SO.b2 ?_
  refine SO.b2 ?_
  refine SO.call (pre := [Box _ _, OwnR _ _ _ _, OwnR _ _ _ _]) rfl Try.call9 rfl rfl rfl (ref10_State_Words.ct _ b3 u4_Slots u4_Objs _ _ ht6) trivial ?_
  rintro v7 _ ⟨_, rfl, rfl⟩
  refine SO.rd fun hr8 => ?_
  refine SO.v rfl (opv_assign rfl) ?_
  refine SO.nil ?_
  refine S.seq ?_
  refine S.region ?_
  refine SO.v rfl (opv_move rfl) ?_
  refine SO.v rfl (opv_iface Try.underlying25 rfl rfl) ?_
  obtain ⟨⟨t9, s11⟩, ht10, h⟩ := opt_bind h
  refine SO.call (pre := [(plainV v7).rep _]) rfl Try.call11 rfl rfl rfl (irq_Bind.ct (plainV v7) _ _ _ _ _ _ ht10) trivial ?_
  rintro _ _ ⟨rfl, rfl⟩
  refine headEq (plainV_rep _ _) ?_
  refine SO.rd fun hr12 => ?_
  refine SO.v rfl (opv_assign rfl) ?_
  refine SO.nil ?_
  refine S.seq ?_
  refine S.region ?_
  refine SO.v rfl (opv_move rfl) ?_
  refine SO.v rfl (opv_iface Try.underlying25 rfl rfl) ?_
  obtain ⟨⟨⟨t13, t14⟩, s16⟩, ht15, h⟩ := opt_bind h
  refine SO.call (pre := [(plainV v7).rep _]) rfl Try.call12 rfl rfl rfl (irq_Fire.ct (plainV v7) _ _ _ _ _ ht15) trivial ?_
  rintro _ _ ⟨rfl, rfl⟩
  refine headEq (plainV_rep _ _) ?_
  refine SO.rd fun hr17 => ?_
  refine SO.v rfl (opv_move rfl) ?_
  refine SO.v rfl (opv_extract rfl rfl) ?_
  refine SO.v rfl (opv_extract rfl rfl) ?_
  refine SO.v rfl (opv_assign rfl) ?_
  refine SO.v rfl (opv_assign rfl) ?_
  refine SO.nil ?_
  refine S.to (ρ' := [(0, .bool false), (1, v7), (2, errV 59 t9), (3, .bool t13), (4, errV 59 t14)]) ⟨rfl, rfl, rfl, rfl, rfl, trivial⟩ ?_
  refine S.seq ?_
  refine S.region ?_
  refine SO.v rfl (opv_move rfl) ?_
  refine SO.v rfl (opv_iface Try.underlying25 rfl rfl) ?_
  obtain ⟨⟨⟨t18, t19⟩, s21⟩, ht20, h⟩ := opt_bind h
  refine SO.call (pre := [(plainV v7).rep _]) rfl Try.call12 rfl rfl rfl (irq_Fire.ct (plainV v7) _ _ _ _ _ ht20) trivial ?_
  rintro _ _ ⟨rfl, rfl⟩
  refine headEq (plainV_rep _ _) ?_
  refine SO.rd fun hr22 => ?_
  refine SO.v rfl (opv_move rfl) ?_
  refine SO.v rfl (opv_extract rfl rfl) ?_
  refine SO.v rfl (opv_extract rfl rfl) ?_
  refine SO.v rfl (opv_assign rfl) ?_
  refine SO.v rfl (opv_assign rfl) ?_
  refine SO.nil ?_
  refine S.seq ?_
  refine S.region ?_
  refine SO.v rfl (opv_move rfl) ?_
  refine SO.v rfl (opv_iface Try.underlying25 rfl rfl) ?_
  obtain ⟨⟨⟨t23, t24⟩, s26⟩, ht25, h⟩ := opt_bind h
  refine SO.call (pre := [(plainV v7).rep _]) rfl Try.call25 rfl rfl rfl (ntfn_Poll.ct (plainV v7) _ _ _ _ _ ht25) trivial ?_
  rintro _ _ ⟨rfl, rfl⟩
  refine headEq (plainV_rep _ _) ?_
  refine SO.rd fun hr27 => ?_
  refine SO.v rfl (opv_move rfl) ?_
  refine SO.v rfl (opv_extract rfl rfl) ?_
  refine SO.v rfl (opv_extract rfl rfl) ?_
  refine SO.alloc rfl Try.zeroValue45 rfl (fun b28 => ?_)
  refine SO.storeN Try.sizeOf45 rfl rfl rfl rfl rfl rfl ?_
  refine SO.v rfl (opv_assign rfl) ?_
  refine SO.nil ?_
  refine S.to (ρ' := [(0, .bool false), (1, v7), (2, errV 59 t9), (3, .bool t13), (4, errV 59 t14), (5, .bool t18), (6, errV 59 t19), (7, bp b28 0), (8, errV 59 t24)]) ⟨rfl, rfl, rfl, rfl, rfl, rfl, rfl, rfl, rfl, trivial⟩ ?_
  refine S.seq ?_
  refine S.region ?_
  refine SO.v rfl (opv_move rfl) ?_
  refine SO.v rfl (opv_eqlN (e := t9) Try.underlying33 rfl) ?_
  refine SO.v rfl (opv_move rfl) ?_
  refine SO.cut 2 36 (.bool (t9.isNone && t13)) [Box b28 [.int .i64 t23.Code, .int .i64 t23.Word, .int .i64 t23.Badge], Own 63 (ekI .u64) v7 s26, Box b3 [u4_Slots, u4_Objs, .int .i64 t1.NS, .int .i64 t1.NO], OwnR 77 kr_ref10_Slot u4_Slots t1.Slots, OwnR 70 kr_ref10_Obj u4_Objs t1.Objs, F] (fun l2 hk2 => ?_) ?_
  · rcases bool_or t9.isNone with b29 | b29
    · refine SO.takeT rfl rfl rfl b29 ?_
      refine SO.v rfl (opv_move rfl) ?_
      refine SO.v rfl (opv_pick_t' b29 rfl rfl) ?_
      refine SO.b5 ?_
      refine SO.b5 ?_
      refine SO.b5 ?_
      refine SO.b5 ?_
      refine SO.b5 ?_
      refine SO.b5 ?_
      exact hk2.fitc (m := 2) rfl (and_t b29) rfl
    · refine SO.passF rfl rfl rfl b29 rfl rfl ?_
      refine SO.v rfl (opv_pick_f' b29 rfl rfl) ?_
      refine SO.b5 ?_
      refine SO.b5 ?_
      refine SO.b5 ?_
      refine SO.b5 ?_
      refine SO.b5 ?_
      refine SO.b5 ?_
      exact hk2.fitc (m := 2) rfl (and_f b29) rfl
  refine SO.v rfl (opv_move rfl) ?_
  refine SO.cut 3 40 (.bool ((t9.isNone && t13) && t14.isNone)) [Box b28 [.int .i64 t23.Code, .int .i64 t23.Word, .int .i64 t23.Badge], Own 63 (ekI .u64) v7 s26, Box b3 [u4_Slots, u4_Objs, .int .i64 t1.NS, .int .i64 t1.NO], OwnR 77 kr_ref10_Slot u4_Slots t1.Slots, OwnR 70 kr_ref10_Obj u4_Objs t1.Objs, F] (fun l2 hk2 => ?_) ?_
  · rcases bool_or (t9.isNone && t13) with b30 | b30
    · refine SO.takeT rfl rfl rfl b30 ?_
      refine SO.v rfl (opv_move rfl) ?_
      refine SO.takeT rfl rfl rfl b30 ?_
      refine SO.v rfl (opv_eqlN (e := t14) Try.underlying33 rfl) ?_
      refine SO.v rfl (opv_pick_t' b30 rfl rfl) ?_
      refine SO.b5 ?_
      refine SO.b5 ?_
      refine SO.b5 ?_
      refine SO.b5 ?_
      refine SO.b5 ?_
      refine SO.b5 ?_
      exact hk2.fitc (m := 3) rfl (and_t b30) rfl
    · refine SO.passF rfl rfl rfl b30 rfl rfl ?_
      refine SO.passF rfl rfl rfl b30 rfl rfl ?_
      refine SO.v rfl (opv_pick_f' b30 rfl rfl) ?_
      refine SO.b5 ?_
      refine SO.b5 ?_
      refine SO.b5 ?_
      refine SO.b5 ?_
      refine SO.b5 ?_
      refine SO.b5 ?_
      exact hk2.fitc (m := 3) rfl (and_f b30) rfl
  refine SO.v rfl (opv_move rfl) ?_
  refine SO.cut 3 44 (.bool (((t9.isNone && t13) && t14.isNone) && (!t18))) [Box b28 [.int .i64 t23.Code, .int .i64 t23.Word, .int .i64 t23.Badge], Own 63 (ekI .u64) v7 s26, Box b3 [u4_Slots, u4_Objs, .int .i64 t1.NS, .int .i64 t1.NO], OwnR 77 kr_ref10_Slot u4_Slots t1.Slots, OwnR 70 kr_ref10_Obj u4_Objs t1.Objs, F] (fun l2 hk2 => ?_) ?_
  · rcases bool_or ((t9.isNone && t13) && t14.isNone) with b31 | b31
    · refine SO.takeT rfl rfl rfl b31 ?_
      refine SO.v rfl (opv_move rfl) ?_
      refine SO.takeT rfl rfl rfl b31 ?_
      refine SO.v rfl (opv_not rfl) ?_
      refine SO.v rfl (opv_pick_t' b31 rfl rfl) ?_
      refine SO.b5 ?_
      refine SO.b5 ?_
      refine SO.b5 ?_
      refine SO.b5 ?_
      refine SO.b5 ?_
      refine SO.b5 ?_
      exact hk2.fitc (m := 3) rfl (and_t b31) rfl
    · refine SO.passF rfl rfl rfl b31 rfl rfl ?_
      refine SO.passF rfl rfl rfl b31 rfl rfl ?_
      refine SO.v rfl (opv_pick_f' b31 rfl rfl) ?_
      refine SO.b5 ?_
      refine SO.b5 ?_
      refine SO.b5 ?_
      refine SO.b5 ?_
      refine SO.b5 ?_
      refine SO.b5 ?_
      exact hk2.fitc (m := 3) rfl (and_f b31) rfl
  refine SO.v rfl (opv_move rfl) ?_
  refine SO.cut 3 48 (.bool ((((t9.isNone && t13) && t14.isNone) && (!t18)) && t19.isNone)) [Box b28 [.int .i64 t23.Code, .int .i64 t23.Word, .int .i64 t23.Badge], Own 63 (ekI .u64) v7 s26, Box b3 [u4_Slots, u4_Objs, .int .i64 t1.NS, .int .i64 t1.NO], OwnR 77 kr_ref10_Slot u4_Slots t1.Slots, OwnR 70 kr_ref10_Obj u4_Objs t1.Objs, F] (fun l2 hk2 => ?_) ?_
  · rcases bool_or (((t9.isNone && t13) && t14.isNone) && (!t18)) with b32 | b32
    · refine SO.takeT rfl rfl rfl b32 ?_
      refine SO.v rfl (opv_move rfl) ?_
      refine SO.takeT rfl rfl rfl b32 ?_
      refine SO.v rfl (opv_eqlN (e := t19) Try.underlying33 rfl) ?_
      refine SO.v rfl (opv_pick_t' b32 rfl rfl) ?_
      refine SO.b5 ?_
      refine SO.b5 ?_
      refine SO.b5 ?_
      refine SO.b5 ?_
      refine SO.b5 ?_
      refine SO.b5 ?_
      exact hk2.fitc (m := 3) rfl (and_t b32) rfl
    · refine SO.passF rfl rfl rfl b32 rfl rfl ?_
      refine SO.passF rfl rfl rfl b32 rfl rfl ?_
      refine SO.v rfl (opv_pick_f' b32 rfl rfl) ?_
      refine SO.b5 ?_
      refine SO.b5 ?_
      refine SO.b5 ?_
      refine SO.b5 ?_
      refine SO.b5 ?_
      refine SO.b5 ?_
      exact hk2.fitc (m := 3) rfl (and_f b32) rfl
  refine SO.v rfl (opv_move rfl) ?_
  refine SO.cut 4 53 (.bool (((((t9.isNone && t13) && t14.isNone) && (!t18)) && t19.isNone) && (t23.Word == 9))) [Box b28 [.int .i64 t23.Code, .int .i64 t23.Word, .int .i64 t23.Badge], Own 63 (ekI .u64) v7 s26, Box b3 [u4_Slots, u4_Objs, .int .i64 t1.NS, .int .i64 t1.NO], OwnR 77 kr_ref10_Slot u4_Slots t1.Slots, OwnR 70 kr_ref10_Obj u4_Objs t1.Objs, F] (fun l2 hk2 => ?_) ?_
  · rcases bool_or ((((t9.isNone && t13) && t14.isNone) && (!t18)) && t19.isNone) with b33 | b33
    · refine SO.takeT rfl rfl rfl b33 ?_
      refine SO.v rfl (opv_fieldAddr Try.underlying45 rfl Try.sizeOf3 rfl rfl) ?_
      refine SO.takeT rfl rfl rfl b33 ?_
      refine SO.load1 rfl Try.isAgg3 rfl rfl ?_
      refine SO.takeT rfl rfl rfl b33 ?_
      refine SO.v rfl (opv_eql rfl rfl) ?_
      refine SO.v rfl (opv_pick_t' b33 rfl rfl) ?_
      refine SO.b5 ?_
      refine SO.b5 ?_
      refine SO.b5 ?_
      refine SO.b5 ?_
      refine SO.b5 ?_
      refine SO.b5 ?_
      exact hk2.fitc (m := 4) rfl (and_t b33) rfl
    · refine SO.passF rfl rfl rfl b33 rfl rfl ?_
      refine SO.passF rfl rfl rfl b33 rfl rfl ?_
      refine SO.passF rfl rfl rfl b33 rfl rfl ?_
      refine SO.v rfl (opv_pick_f' b33 rfl rfl) ?_
      refine SO.b5 ?_
      refine SO.b5 ?_
      refine SO.b5 ?_
      refine SO.b5 ?_
      refine SO.b5 ?_
      refine SO.b5 ?_
      exact hk2.fitc (m := 4) rfl (and_f b33) rfl
  refine SO.v rfl (opv_move rfl) ?_
  refine SO.cut 3 57 (.bool ((((((t9.isNone && t13) && t14.isNone) && (!t18)) && t19.isNone) && (t23.Word == 9)) && t24.isNone)) [Box b28 [.int .i64 t23.Code, .int .i64 t23.Word, .int .i64 t23.Badge], Own 63 (ekI .u64) v7 s26, Box b3 [u4_Slots, u4_Objs, .int .i64 t1.NS, .int .i64 t1.NO], OwnR 77 kr_ref10_Slot u4_Slots t1.Slots, OwnR 70 kr_ref10_Obj u4_Objs t1.Objs, F] (fun l2 hk2 => ?_) ?_
  · rcases bool_or (((((t9.isNone && t13) && t14.isNone) && (!t18)) && t19.isNone) && (t23.Word == 9)) with b34 | b34
    · refine SO.takeT rfl rfl rfl b34 ?_
      refine SO.v rfl (opv_move rfl) ?_
      refine SO.takeT rfl rfl rfl b34 ?_
      refine SO.v rfl (opv_eqlN (e := t24) Try.underlying33 rfl) ?_
      refine SO.v rfl (opv_pick_t' b34 rfl rfl) ?_
      refine SO.b5 ?_
      refine SO.b5 ?_
      refine SO.b5 ?_
      refine SO.b5 ?_
      refine SO.b5 ?_
      refine SO.b5 ?_
      exact hk2.fitc (m := 3) rfl (and_t b34) rfl
    · refine SO.passF rfl rfl rfl b34 rfl rfl ?_
      refine SO.passF rfl rfl rfl b34 rfl rfl ?_
      refine SO.v rfl (opv_pick_f' b34 rfl rfl) ?_
      refine SO.b5 ?_
      refine SO.b5 ?_
      refine SO.b5 ?_
      refine SO.b5 ?_
      refine SO.b5 ?_
      refine SO.b5 ?_
      exact hk2.fitc (m := 3) rfl (and_f b34) rfl
  refine SO.v rfl (opv_move rfl) ?_
  obtain ⟨⟨c36, w38⟩, hc37, hgk⟩ := opt_bind h
  refine SO.cut 5 63 (.bool c36) [Box b28 [.int .i64 t23.Code, .int .i64 t23.Word, .int .i64 t23.Badge], Own 63 (ekI .u64) v7 w38, Box b3 [u4_Slots, u4_Objs, .int .i64 t1.NS, .int .i64 t1.NO], OwnR 77 kr_ref10_Slot u4_Slots t1.Slots, OwnR 70 kr_ref10_Obj u4_Objs t1.Objs, F] (fun l2 hk2 => ?_) ?_
  · clear hgk
    replace h := hc37
    rcases bool_or ((((((t9.isNone && t13) && t14.isNone) && (!t18)) && t19.isNone) && (t23.Word == 9)) && t24.isNone) with b35 | b35
    · replace h := cond_t b35 h
      refine SO.takeT rfl rfl rfl b35 ?_
      refine SO.v rfl (opv_move rfl) ?_
      refine SO.takeT rfl rfl rfl b35 ?_
      refine SO.v rfl (opv_iface Try.underlying25 rfl rfl) ?_
      refine SO.takeT rfl rfl rfl b35 ?_
      obtain ⟨⟨t40, s42⟩, ht41, h⟩ := opt_bind h
      refine SO.b1 ?_
      refine SO.call (pre := [(plainV v7).rep _]) rfl Try.call13 rfl rfl rfl (irq_Ack.ct (plainV v7) _ _ _ _ ht41) trivial ?_
      rintro _ _ ⟨rfl, rfl⟩
      refine headEq (plainV_rep _ _) ?_
      refine SO.rd fun hr43 => ?_
      refine SO.takeT rfl rfl rfl b35 ?_
      refine SO.v rfl (opv_eqlN (e := t40) Try.underlying33 rfl) ?_
      cases h
      refine SO.v rfl (opv_pick_t' b35 rfl rfl) ?_
      refine SO.b5 ?_
      refine SO.b5 ?_
      refine SO.b5 ?_
      refine SO.b5 ?_
      refine SO.b4 ?_
      refine SO.b5 ?_
      exact hk2.fitc (m := 5) rfl (rfl) rfl
    · replace h := cond_f b35 h
      refine SO.passF rfl rfl rfl b35 rfl rfl ?_
      refine SO.passF rfl rfl rfl b35 rfl rfl ?_
      refine SO.passF rfl rfl rfl b35 rfl rfl ?_
      refine SO.passF rfl rfl rfl b35 rfl rfl ?_
      cases h
      refine SO.v rfl (opv_pick_f' b35 rfl rfl) ?_
      refine SO.b5 ?_
      refine SO.b5 ?_
      refine SO.b5 ?_
      refine SO.b5 ?_
      refine SO.b5 ?_
      refine SO.b5 ?_
      exact hk2.fitc (m := 5) rfl (rfl) rfl
  clear hc37
  replace h := hgk
  refine SO.b1 ?_
  refine SO.rd fun hr39 => ?_
  refine SO.v rfl (opv_move rfl) ?_
  obtain ⟨⟨c45, w47⟩, hc46, hgk⟩ := opt_bind h
  refine SO.cut 6 70 (.bool c45) [Own 63 (ekI .u64) v7 w47, Box b28 [.int .i64 t23.Code, .int .i64 t23.Word, .int .i64 t23.Badge], Box b3 [u4_Slots, u4_Objs, .int .i64 t1.NS, .int .i64 t1.NO], OwnR 77 kr_ref10_Slot u4_Slots t1.Slots, OwnR 70 kr_ref10_Obj u4_Objs t1.Objs, F] (fun l2 hk2 => ?_) ?_
  · clear hgk
    replace h := hc46
    rcases bool_or c36 with b44 | b44
    · replace h := cond_t b44 h
      refine SO.takeT rfl rfl rfl b44 ?_
      refine SO.v rfl (opv_move rfl) ?_
      refine SO.takeT rfl rfl rfl b44 ?_
      refine SO.v rfl (opv_iface Try.underlying25 rfl rfl) ?_
      refine SO.takeT rfl rfl rfl b44 ?_
      obtain ⟨⟨t49, s51⟩, ht50, h⟩ := opt_bind h
      refine SO.call (pre := [(plainV v7).rep _]) rfl Try.call13 rfl rfl rfl (irq_Ack.ct (plainV v7) _ _ _ _ ht50) trivial ?_
      rintro _ _ ⟨rfl, rfl⟩
      refine headEq (plainV_rep _ _) ?_
      refine SO.rd fun hr52 => ?_
      refine SO.takeT rfl rfl rfl b44 ?_
      refine SO.v rfl (opv_iface Try.underlying59 rfl rfl) ?_
      refine SO.takeT rfl rfl rfl b44 ?_
      refine SO.v rfl (opv_eqlE (e := t49) (c := 10) Try.underlying33 Try.underlying59 inf59 rfl rfl rfl) ?_
      cases h
      refine SO.v rfl (opv_pick_t' b44 rfl rfl) ?_
      refine SO.b5 ?_
      refine SO.b5 ?_
      refine SO.b5 ?_
      refine SO.b5 ?_
      refine SO.b5 ?_
      refine SO.b5 ?_
      exact hk2.fitc (m := 6) rfl (rfl) rfl
    · replace h := cond_f b44 h
      refine SO.passF rfl rfl rfl b44 rfl rfl ?_
      refine SO.passF rfl rfl rfl b44 rfl rfl ?_
      refine SO.passF rfl rfl rfl b44 rfl rfl ?_
      refine SO.passF rfl rfl rfl b44 rfl rfl ?_
      refine SO.passF rfl rfl rfl b44 rfl rfl ?_
      cases h
      refine SO.v rfl (opv_pick_f' b44 rfl rfl) ?_
      refine SO.b5 ?_
      refine SO.b5 ?_
      refine SO.b5 ?_
      refine SO.b5 ?_
      refine SO.b5 ?_
      refine SO.b5 ?_
      exact hk2.fitc (m := 6) rfl (rfl) rfl
  clear hc46
  replace h := hgk
  refine SO.rd fun hr48 => ?_
  refine SO.v rfl (opv_assign rfl) ?_
  refine SO.nil ?_
  refine S.to (ρ' := [(0, .bool c45)]) ⟨rfl, trivial⟩ ?_
  cases h
  refine S.drop ?_
  refine S.drop ?_
  refine S.drop ?_
  refine S.drop ?_
  refine S.drop ?_
  exact S.ret1 Try.func7 rfl rfl (fun w hs hk => hR w _ _ ⟨rfl, rfl⟩ hs hk)
end Go.Proofs
namespace Go.Proofs
open Go.Sl Go.RowKit
/-! 3 padstone/padstonelaw19.IrqOnce -/
def law19_IrqOnce.l1 (a0 : List law19_Deed) : Nat → (Int × Bool × Bool × (List Int)) → Option (Brk Bool (List Int))
  | 0, _ => none
  | k + 1, (x7_1, x6_1, x5_1, qv10_1) => bif decide (x7_1 < (a0.length : Int)) then ((at_ a0 x7_1).bind fun x14 => (law10_Pick.f x14.What 5).bind fun t16 => bif t16 == 0 then ((at_ a0 x7_1).bind fun x19 => (VM.run plainI (irq_Bind.f 6 5 x19.N) qv10_1).bind fun (t21, s23) => bif t21.isSome then (some (Brk.ret false)) else (law19_IrqOnce.l1 a0 k (w64 (x7_1 + 1), true, true, s23))) else ((bif t16 == 1 then (some (t16 == 1)) else (some (t16 == 2))).bind fun j41_2 => bif j41_2 then ((VM.run plainI (irq_Fire.f 6) qv10_1).bind fun ((t28, t29), s31) => bif t29.isSome || (t28 != (x5_1 && x6_1)) then (some (Brk.ret false)) else (bif t28 then (law19_IrqOnce.l1 a0 k (w64 (x7_1 + 1), false, x5_1, s31)) else (law19_IrqOnce.l1 a0 k (w64 (x7_1 + 1), x6_1, x5_1, s31)))) else (bif t16 == 3 then ((VM.run plainI (irq_Ack.f 6) qv10_1).bind fun (t38, s40) => bif t38.isNone != (x5_1 && (!x6_1)) then (some (Brk.ret false)) else (bif t38.isNone then (law19_IrqOnce.l1 a0 k (w64 (x7_1 + 1), true, x5_1, s40)) else (law19_IrqOnce.l1 a0 k (w64 (x7_1 + 1), x6_1, x5_1, s40)))) else (law19_IrqOnce.l1 a0 k (w64 (x7_1 + 1), x6_1, x5_1, qv10_1))))) else (some (Brk.nx qv10_1))
def law19_IrqOnce.f (k : Nat) (a0 : List law19_Deed) : Option (Bool) :=
  (law19_up.f k ).bind fun t1 => bif decide (120 < (a0.length : Int)) then (some t1) else ((ref10_Boot.f k 1).bind fun t4 => (ref10_State_Words.f k t4).bind fun t8 => (law19_IrqOnce.l1 a0 k (0, false, false, t8)).bind fun o1 => Brk.go o1 (fun r => some r) (fun qv10_e1 => some t1))
set_option maxHeartbeats 8000000 in
set_option maxRecDepth 100000 in
theorem law19_IrqOnce.ct (k : Nat) (v0 : Value) (a0 : List law19_Deed) (r0 : Bool) (h : law19_IrqOnce.f k a0 = some r0) :
    Ct Try.prog 3 [v0] (fun F => Rd ek_law19_Deed v0 a0 F) [] (fun u H' => u = .bool r0 ∧ H' = []) := by
  unfold law19_IrqOnce.f at h
  refine Ct.intro (n := 77) Try.func3 rfl rfl rfl ?_
  intro R w0 F hF hR
  have hF0 := hF
  refine S.seq ?_
  refine S.region ?_
  refine SO.v rfl (opv_assign rfl) ?_
  refine SO.nil ?_
  refine S.seq ?_
  refine S.region ?_
  obtain ⟨t1, ht2, h⟩ := opt_bind h
  refine SO.call (pre := []) rfl Try.call7 rfl rfl rfl (law19_up.ct _ _ ht2) trivial ?_
  rintro _ _ ⟨rfl, rfl⟩
  refine SO.v rfl (opv_assign rfl) ?_
  refine SO.nil ?_
  refine S.seq ?_
  refine S.seq ?_
  refine S.region ?_
  refine SO.v rfl (opv_move rfl) ?_
  refine SO.v rfl (opv_lenR rfl Try.underlying22 hF0 rfl) ?_
  refine SO.v rfl (opv_gtr rfl rfl) ?_
  refine SO.nil ?_
  rcases bool_or (decide (120 < (a0.length : Int))) with b3 | b3
  · replace h := cond_t b3 h
    refine S.condT rfl b3 ?_
    refine S.seq ?_
    refine S.region ?_
    refine SO.v rfl (opv_move rfl) ?_
    refine SO.v rfl (opv_assign rfl) ?_
    refine SO.nil ?_
    cases h
    exact S.ret1 Try.func3 rfl rfl (fun w hs hk => hR w _ _ ⟨rfl, rfl⟩ hs hk)
  · replace h := cond_f b3 h
    refine S.condF rfl b3 ?_
    refine S.skip ?_
    refine S.seq ?_
    refine S.region ?_
    obtain ⟨t4, ht5, h⟩ := opt_bind h
    refine SO.call (pre := []) rfl Try.call8 rfl rfl rfl (ref10_Boot.ct _ _ _ ht5) trivial ?_
    rintro _ _ ⟨b6, u7_Slots, u7_Objs, rfl, rfl⟩
    obtain ⟨t8, ht9, h⟩ := opt_bind h
    refine SO.b2 ?_
    refine SO.b2 ?_
    refine SO.b2 ?_
    refine SO.call (pre := [Box _ _, OwnR _ _ _ _, OwnR _ _ _ _]) rfl Try.call9 rfl rfl rfl (ref10_State_Words.ct _ b6 u7_Slots u7_Objs _ _ ht9) trivial ?_
    rintro v10 _ ⟨_, rfl, rfl⟩
    refine SO.rd fun hr11 => ?_
    refine SO.v rfl (opv_assign rfl) ?_
    refine SO.nil ?_
    refine S.seq ?_
    refine S.region ?_
    refine SO.v rfl (opv_assign rfl) ?_
    refine SO.nil ?_
    refine S.seq ?_
    refine S.region ?_
    refine SO.v rfl (opv_assign rfl) ?_
    refine SO.nil ?_
    refine S.seq ?_
    refine S.seq ?_
    refine S.region ?_
    refine SO.v rfl (opv_assign rfl) ?_
    refine SO.nil ?_
    obtain ⟨o1, hl1, h⟩ := opt_bind h
    refine S.b4 ?_
    refine S.b4 ?_
    refine S.b4 ?_
    refine S.b4 ?_
    refine S.b4 ?_
    refine S.to (ρ' := [(7, .int .i64 0), (6, .bool false), (5, .bool false), (4, v10), (3, .bool t1), (2, .bool false), (0, v0)]) ⟨rfl, rfl, rfl, rfl, rfl, rfl, rfl, trivial⟩ ?_
    refine S.forloop (X := (Int × Bool × Bool × (List Int)) × Unit) (O := Brk Bool (List Int)) (fun m x => law19_IrqOnce.l1 a0 m x.1) (fun x => match x with | ((x7_1, x6_1, x5_1, qv10_1), _) => [(7, .int .i64 x7_1), (6, .bool x6_1), (5, .bool x5_1), (4, v10), (3, .bool t1), (2, .bool false), (0, v0)]) (fun x => match x with | ((x7_1, x6_1, x5_1, qv10_1), _) => [Own 63 (ekI .u64) v10 qv10_1, Box b6 [u7_Slots, u7_Objs, .int .i64 t4.NS, .int .i64 t4.NO], OwnR 77 kr_ref10_Slot u7_Slots t4.Slots, OwnR 70 kr_ref10_Obj u7_Objs t4.Objs, F]) (fun Sk o' => (∀ r', o' = Brk.ret r' → some r' = some r0) ∧ ∀ qv10_e1 : (List Int), ∀ _ : Unit, o' = Brk.nx qv10_e1 → Sk [(2, .bool false), (3, .bool t1)] [Own 63 (ekI .u64) v10 qv10_e1, Box b6 [u7_Slots, u7_Objs, .int .i64 t4.NS, .int .i64 t4.NO], OwnR 77 kr_ref10_Slot u7_Slots t4.Slots, OwnR 70 kr_ref10_Obj u7_Objs t4.Objs, F]) (fun _ => rfl) ?_ (m := k) (x := ((0, false, false, t8), ())) hl1 ?_
    · clear h hl1
      intro k x o_1 h hK1 ih1
      obtain ⟨⟨x7_1, x6_1, x5_1, qv10_1⟩, _⟩ := x
      replace h : law19_IrqOnce.l1 a0 (k + 1) (x7_1, x6_1, x5_1, qv10_1) = some o_1 := h
      first | rw [law19_IrqOnce.l1] at h | unfold law19_IrqOnce.l1 at h
      refine S.rd fun hr12 => ?_
      refine S.seq ?_
      refine S.seq ?_
      refine S.region ?_
      refine SO.v rfl (opv_move rfl) ?_
      refine SO.v rfl (opv_move rfl) ?_
      refine SO.v rfl (opv_lenR rfl Try.underlying22 hF0 rfl) ?_
      refine SO.v rfl (opv_lss rfl rfl) ?_
      refine SO.nil ?_
      rcases bool_or (decide (x7_1 < (a0.length : Int))) with b13 | b13
      · replace h := cond_t b13 h
        refine S.condT rfl b13 ?_
        refine S.skip ?_
        refine S.seq ?_
        refine S.block ?_
        refine S.seq ?_
        refine S.region ?_
        refine SO.v rfl (opv_move rfl) ?_
        refine SO.v rfl (opv_move rfl) ?_
        obtain ⟨x14, hx15, h⟩ := opt_bind h
        refine SO.v rfl (opv_idx Try.underlying22 Try.sizeOf31 hF0 rfl rfl hx15) ?_
        refine SO.v rfl (opv_fieldIdx Try.underlying31 rfl Try.sizeOf3 hF0 hx15 rfl rfl) ?_
        refine SO.loadI1 (j := 0) rfl Try.isAgg3 (Rd.tail (Rd.tail (Rd.tail (Rd.tail (Rd.head hF0))))) hx15 rfl rfl rfl rfl ?_
        obtain ⟨t16, ht17, h⟩ := opt_bind h
        refine SO.call (pre := []) rfl Try.call10 rfl rfl rfl (law10_Pick.ct _ _ _ ht17) trivial ?_
        rintro _ _ ⟨rfl, rfl⟩
        refine SO.nil ?_
        refine S.block ?_
        refine S.seq ?_
        refine S.region ?_
        refine SO.v rfl (opv_eql rfl rfl) ?_
        refine SO.v rfl (opv_assign rfl) ?_
        refine SO.nil ?_
        rcases bool_or (t16 == 0) with b18 | b18
        · replace h := cond_t b18 h
          refine S.condT rfl b18 ?_
          refine S.seq ?_
          refine S.seq ?_
          refine S.region ?_
          refine SO.v rfl (opv_move rfl) ?_
          refine SO.v rfl (opv_iface Try.underlying25 rfl rfl) ?_
          refine SO.v rfl (opv_move rfl) ?_
          refine SO.v rfl (opv_move rfl) ?_
          obtain ⟨x19, hx20, h⟩ := opt_bind h
          refine SO.v rfl (opv_idx Try.underlying22 Try.sizeOf31 hF0 rfl rfl hx20) ?_
          refine SO.v rfl (opv_fieldIdx Try.underlying31 rfl Try.sizeOf3 hF0 hx20 rfl rfl) ?_
          refine SO.loadI1 (j := 3) rfl Try.isAgg3 (Rd.tail (Rd.tail (Rd.tail (Rd.tail (Rd.head hF0))))) hx20 rfl rfl rfl rfl ?_
          obtain ⟨⟨t21, s23⟩, ht22, h⟩ := opt_bind h
          refine SO.call (pre := [(plainV v10).rep _]) rfl Try.call11 rfl rfl rfl (irq_Bind.ct (plainV v10) _ _ _ _ _ _ ht22) trivial ?_
          rintro _ _ ⟨rfl, rfl⟩
          refine headEq (plainV_rep _ _) ?_
          refine SO.rd fun hr24 => ?_
          refine SO.v rfl (opv_neqN (e := t21) Try.underlying33 rfl) ?_
          refine SO.nil ?_
          rcases bool_or t21.isSome with b25 | b25
          · replace h := cond_t b25 h
            refine S.condT rfl b25 ?_
            refine S.seq ?_
            refine S.region ?_
            refine SO.v rfl (opv_assign rfl) ?_
            refine SO.nil ?_
            cases h
            replace h := hK1.1 _ rfl
            cases h
            refine S.drop ?_
            refine S.drop ?_
            refine S.drop ?_
            refine S.drop ?_
            exact S.ret1 Try.func3 rfl rfl (fun w hs hk => hR w _ _ ⟨rfl, rfl⟩ hs hk)
          · replace h := cond_f b25 h
            refine S.condF rfl b25 ?_
            refine S.skip ?_
            refine S.seq ?_
            refine S.region ?_
            refine SO.v rfl (opv_assign rfl) ?_
            refine SO.nil ?_
            refine S.region ?_
            refine SO.v rfl (opv_assign rfl) ?_
            refine SO.nil ?_
            refine S.inBlock ?_
            refine S.inBlock ?_
            refine S.region ?_
            refine SO.v rfl (opv_move rfl) ?_
            refine SO.v rfl (opv_add rfl rfl) ?_
            refine SO.v rfl (opv_assign rfl) ?_
            refine SO.nil ?_
            refine S.b4 ?_
            refine S.b4 ?_
            refine S.b4 ?_
            refine S.b4 ?_
            refine S.b4 ?_
            refine S.to ?_ (ih1 ((w64 (x7_1 + 1), true, true, s23), ()) h)
            exact ⟨rfl, rfl, rfl, rfl, rfl, rfl, rfl, trivial⟩
        · replace h := cond_f b18 h
          refine S.condF rfl b18 ?_
          refine S.seq ?_
          refine S.seq ?_
          refine S.region ?_
          refine SO.v rfl (opv_eql rfl rfl) ?_
          refine SO.v rfl (opv_assign rfl) ?_
          refine SO.nil ?_
          obtain ⟨j41_2, hC2, hJ2⟩ := opt_bind h
          clear h
          refine S.cutP (G := Unit) (fun _ => True) (fun _ => [(0, v0), (2, .bool false), (3, .bool t1), (4, v10), (5, .bool x5_1), (6, .bool x6_1), (7, .int .i64 x7_1), (18, .int .i64 x7_1), (19, v0), (20, .int .i64 (a0.length : Int)), (21, .bool (decide (x7_1 < (a0.length : Int)))), (24, v0), (25, .int .i64 x7_1), (26, idxp v0 (x7_1.toNat * ek_law19_Deed.sz)), (27, idxp v0 (x7_1.toNat * ek_law19_Deed.sz)), (28, .int .i64 x14.What), (29, .int .i64 t16), (30, .bool (t16 == 0)), (31, .bool (t16 == 0)), (41, .bool j41_2), (42, .bool (t16 == 1))]) (fun _ => [Own 63 (ekI .u64) v10 qv10_1, Box b6 [u7_Slots, u7_Objs, .int .i64 t4.NS, .int .i64 t4.NO], OwnR 77 kr_ref10_Slot u7_Slots t4.Slots, OwnR 70 kr_ref10_Obj u7_Objs t4.Objs, F]) (fun hk2 => ?_) ?_
          · replace h := hC2
            rcases bool_or (t16 == 1) with b26 | b26
            · replace h := cond_t b26 h
              refine S.condT rfl b26 ?_
              refine S.skip ?_
              cases h
              refine S.b4 ?_
              refine S.b4 ?_
              refine S.b4 ?_
              refine S.b4 ?_
              refine S.b4 ?_
              refine S.to ?_ (hk2 () trivial)
              exact ⟨rfl, rfl, rfl, rfl, rfl, rfl, rfl, rfl, rfl, rfl, rfl, rfl, rfl, rfl, rfl, rfl, rfl, rfl, rfl, rfl, rfl, trivial⟩
            · replace h := cond_f b26 h
              refine S.condF rfl b26 ?_
              refine S.region ?_
              refine SO.v rfl (opv_eql rfl rfl) ?_
              refine SO.v rfl (opv_assign rfl) ?_
              refine SO.nil ?_
              cases h
              refine S.b4 ?_
              refine S.b4 ?_
              refine S.b4 ?_
              refine S.b4 ?_
              refine S.b4 ?_
              refine S.to ?_ (hk2 () trivial)
              exact ⟨rfl, rfl, rfl, rfl, rfl, rfl, rfl, rfl, rfl, rfl, rfl, rfl, rfl, rfl, rfl, rfl, rfl, rfl, rfl, rfl, rfl, trivial⟩
          rintro _ -
          replace h := hJ2
          rcases bool_or j41_2 with b27 | b27
          · replace h := cond_t b27 h
            refine S.condT rfl b27 ?_
            refine S.seq ?_
            refine S.region ?_
            refine SO.v rfl (opv_move rfl) ?_
            refine SO.v rfl (opv_iface Try.underlying25 rfl rfl) ?_
            obtain ⟨⟨⟨t28, t29⟩, s31⟩, ht30, h⟩ := opt_bind h
            refine SO.call (pre := [(plainV v10).rep _]) rfl Try.call12 rfl rfl rfl (irq_Fire.ct (plainV v10) _ _ _ _ _ ht30) trivial ?_
            rintro _ _ ⟨rfl, rfl⟩
            refine headEq (plainV_rep _ _) ?_
            refine SO.rd fun hr32 => ?_
            refine SO.v rfl (opv_move rfl) ?_
            refine SO.v rfl (opv_extract rfl rfl) ?_
            refine SO.v rfl (opv_extract rfl rfl) ?_
            refine SO.v rfl (opv_assign rfl) ?_
            refine SO.v rfl (opv_assign rfl) ?_
            refine SO.nil ?_
            refine S.seq ?_
            refine S.seq ?_
            refine S.region ?_
            refine SO.v rfl (opv_move rfl) ?_
            refine SO.v rfl (opv_neqN (e := t29) Try.underlying33 rfl) ?_
            refine SO.v rfl (opv_move rfl) ?_
            refine SO.cut 7 59 (.bool (t29.isSome || (t28 != (x5_1 && x6_1)))) [Own 63 (ekI .u64) v10 s31, Box b6 [u7_Slots, u7_Objs, .int .i64 t4.NS, .int .i64 t4.NO], OwnR 77 kr_ref10_Slot u7_Slots t4.Slots, OwnR 70 kr_ref10_Obj u7_Objs t4.Objs, F] (fun l2 hk2 => ?_) ?_
            · rcases bool_or t29.isSome with b33 | b33
              · refine SO.passF rfl rfl rfl b33 rfl rfl ?_
                refine SO.passF rfl rfl rfl b33 rfl rfl ?_
                refine SO.passF rfl rfl rfl b33 rfl rfl ?_
                refine SO.pass_undef rfl rfl rfl rfl ?_
                refine SO.passF rfl rfl rfl b33 rfl rfl ?_
                refine SO.passF rfl rfl rfl b33 rfl rfl ?_
                refine SO.v rfl (opv_pick_t' b33 rfl rfl) ?_
                refine SO.b4 ?_
                refine SO.b4 ?_
                refine SO.b4 ?_
                refine SO.b4 ?_
                refine SO.b4 ?_
                exact hk2.fitc (m := 7) rfl (or_t b33) rfl
              · refine SO.takeT rfl rfl rfl b33 ?_
                refine SO.v rfl (opv_move rfl) ?_
                refine SO.takeT rfl rfl rfl b33 ?_
                refine SO.v rfl (opv_move rfl) ?_
                refine SO.takeT rfl rfl rfl b33 ?_
                refine SO.v rfl (opv_move rfl) ?_
                refine SO.cut 2 57 (.bool (x5_1 && x6_1)) [Own 63 (ekI .u64) v10 s31, Box b6 [u7_Slots, u7_Objs, .int .i64 t4.NS, .int .i64 t4.NO], OwnR 77 kr_ref10_Slot u7_Slots t4.Slots, OwnR 70 kr_ref10_Obj u7_Objs t4.Objs, F] (fun l2 hk2 => ?_) ?_
                · rcases bool_or x5_1 with b34 | b34
                  · refine SO.takeT rfl rfl rfl b34 ?_
                    refine SO.v rfl (opv_move rfl) ?_
                    refine SO.takeT rfl rfl rfl b33 ?_
                    refine SO.v rfl (opv_pick_t' b34 rfl rfl) ?_
                    refine SO.b4 ?_
                    refine SO.b4 ?_
                    refine SO.b4 ?_
                    refine SO.b4 ?_
                    refine SO.b4 ?_
                    exact hk2.fitc (m := 2) rfl (and_t b34) rfl
                  · refine SO.passF rfl rfl rfl b34 rfl rfl ?_
                    refine SO.takeT rfl rfl rfl b33 ?_
                    refine SO.v rfl (opv_pick_f' b34 rfl rfl) ?_
                    refine SO.b4 ?_
                    refine SO.b4 ?_
                    refine SO.b4 ?_
                    refine SO.b4 ?_
                    refine SO.b4 ?_
                    exact hk2.fitc (m := 2) rfl (and_f b34) rfl
                refine SO.takeT rfl rfl rfl b33 ?_
                refine SO.v rfl (opv_neqB Try.underlying4 rfl rfl) ?_
                refine SO.v rfl (opv_pick_f' b33 rfl rfl) ?_
                refine SO.b4 ?_
                refine SO.b4 ?_
                refine SO.b4 ?_
                refine SO.b4 ?_
                refine SO.b4 ?_
                exact hk2.fitc (m := 6) rfl (or_f b33) rfl
            refine SO.nil ?_
            rcases bool_or (t29.isSome || (t28 != (x5_1 && x6_1))) with b35 | b35
            · replace h := cond_t b35 h
              refine S.condT rfl b35 ?_
              refine S.seq ?_
              refine S.region ?_
              refine SO.v rfl (opv_assign rfl) ?_
              refine SO.nil ?_
              cases h
              replace h := hK1.1 _ rfl
              cases h
              refine S.drop ?_
              refine S.drop ?_
              refine S.drop ?_
              refine S.drop ?_
              exact S.ret1 Try.func3 rfl rfl (fun w hs hk => hR w _ _ ⟨rfl, rfl⟩ hs hk)
            · replace h := cond_f b35 h
              refine S.condF rfl b35 ?_
              refine S.skip ?_
              refine S.seq ?_
              refine S.region ?_
              refine SO.v rfl (opv_move rfl) ?_
              refine SO.nil ?_
              rcases bool_or t28 with b36 | b36
              · replace h := cond_t b36 h
                refine S.condT rfl b36 ?_
                refine S.region ?_
                refine SO.v rfl (opv_assign rfl) ?_
                refine SO.nil ?_
                refine S.inBlock ?_
                refine S.inBlock ?_
                refine S.region ?_
                refine SO.v rfl (opv_move rfl) ?_
                refine SO.v rfl (opv_add rfl rfl) ?_
                refine SO.v rfl (opv_assign rfl) ?_
                refine SO.nil ?_
                refine S.b4 ?_
                refine S.b4 ?_
                refine S.b4 ?_
                refine S.b4 ?_
                refine S.b4 ?_
                refine S.to ?_ (ih1 ((w64 (x7_1 + 1), false, x5_1, s31), ()) h)
                exact ⟨rfl, rfl, rfl, rfl, rfl, rfl, rfl, trivial⟩
              · replace h := cond_f b36 h
                refine S.condF rfl b36 ?_
                refine S.skip ?_
                refine S.inBlock ?_
                refine S.inBlock ?_
                refine S.region ?_
                refine SO.v rfl (opv_move rfl) ?_
                refine SO.v rfl (opv_add rfl rfl) ?_
                refine SO.v rfl (opv_assign rfl) ?_
                refine SO.nil ?_
                refine S.b4 ?_
                refine S.b4 ?_
                refine S.b4 ?_
                refine S.b4 ?_
                refine S.b4 ?_
                refine S.to ?_ (ih1 ((w64 (x7_1 + 1), x6_1, x5_1, s31), ()) h)
                exact ⟨rfl, rfl, rfl, rfl, rfl, rfl, rfl, trivial⟩
          · replace h := cond_f b27 h
            refine S.condF rfl b27 ?_
            refine S.seq ?_
            refine S.region ?_
            refine SO.v rfl (opv_eql rfl rfl) ?_
            refine SO.v rfl (opv_assign rfl) ?_
            refine SO.nil ?_
            rcases bool_or (t16 == 3) with b37 | b37
            · replace h := cond_t b37 h
              refine S.condT rfl b37 ?_
              refine S.seq ?_
              refine S.region ?_
              refine SO.v rfl (opv_move rfl) ?_
              refine SO.v rfl (opv_iface Try.underlying25 rfl rfl) ?_
              obtain ⟨⟨t38, s40⟩, ht39, h⟩ := opt_bind h
              refine SO.call (pre := [(plainV v10).rep _]) rfl Try.call13 rfl rfl rfl (irq_Ack.ct (plainV v10) _ _ _ _ ht39) trivial ?_
              rintro _ _ ⟨rfl, rfl⟩
              refine headEq (plainV_rep _ _) ?_
              refine SO.rd fun hr41 => ?_
              refine SO.v rfl (opv_assign rfl) ?_
              refine SO.nil ?_
              refine S.seq ?_
              refine S.seq ?_
              refine S.region ?_
              refine SO.v rfl (opv_move rfl) ?_
              refine SO.v rfl (opv_eqlN (e := t38) Try.underlying33 rfl) ?_
              refine SO.v rfl (opv_move rfl) ?_
              refine SO.v rfl (opv_move rfl) ?_
              refine SO.cut 3 72 (.bool (x5_1 && (!x6_1))) [Own 63 (ekI .u64) v10 s40, Box b6 [u7_Slots, u7_Objs, .int .i64 t4.NS, .int .i64 t4.NO], OwnR 77 kr_ref10_Slot u7_Slots t4.Slots, OwnR 70 kr_ref10_Obj u7_Objs t4.Objs, F] (fun l2 hk2 => ?_) ?_
              · rcases bool_or x5_1 with b42 | b42
                · refine SO.takeT rfl rfl rfl b42 ?_
                  refine SO.v rfl (opv_move rfl) ?_
                  refine SO.takeT rfl rfl rfl b42 ?_
                  refine SO.v rfl (opv_not rfl) ?_
                  refine SO.v rfl (opv_pick_t' b42 rfl rfl) ?_
                  refine SO.b4 ?_
                  refine SO.b4 ?_
                  refine SO.b4 ?_
                  refine SO.b4 ?_
                  refine SO.b4 ?_
                  exact hk2.fitc (m := 3) rfl (and_t b42) rfl
                · refine SO.passF rfl rfl rfl b42 rfl rfl ?_
                  refine SO.passF rfl rfl rfl b42 rfl rfl ?_
                  refine SO.v rfl (opv_pick_f' b42 rfl rfl) ?_
                  refine SO.b4 ?_
                  refine SO.b4 ?_
                  refine SO.b4 ?_
                  refine SO.b4 ?_
                  refine SO.b4 ?_
                  exact hk2.fitc (m := 3) rfl (and_f b42) rfl
              refine SO.v rfl (opv_neqB Try.underlying4 rfl rfl) ?_
              refine SO.nil ?_
              rcases bool_or (t38.isNone != (x5_1 && (!x6_1))) with b43 | b43
              · replace h := cond_t b43 h
                refine S.condT rfl b43 ?_
                refine S.seq ?_
                refine S.region ?_
                refine SO.v rfl (opv_assign rfl) ?_
                refine SO.nil ?_
                cases h
                replace h := hK1.1 _ rfl
                cases h
                refine S.drop ?_
                refine S.drop ?_
                refine S.drop ?_
                refine S.drop ?_
                exact S.ret1 Try.func3 rfl rfl (fun w hs hk => hR w _ _ ⟨rfl, rfl⟩ hs hk)
              · replace h := cond_f b43 h
                refine S.condF rfl b43 ?_
                refine S.skip ?_
                refine S.seq ?_
                refine S.region ?_
                refine SO.v rfl (opv_move rfl) ?_
                refine SO.v rfl (opv_eqlN (e := t38) Try.underlying33 rfl) ?_
                refine SO.nil ?_
                rcases bool_or t38.isNone with b44 | b44
                · replace h := cond_t b44 h
                  refine S.condT rfl b44 ?_
                  refine S.region ?_
                  refine SO.v rfl (opv_assign rfl) ?_
                  refine SO.nil ?_
                  refine S.inBlock ?_
                  refine S.inBlock ?_
                  refine S.region ?_
                  refine SO.v rfl (opv_move rfl) ?_
                  refine SO.v rfl (opv_add rfl rfl) ?_
                  refine SO.v rfl (opv_assign rfl) ?_
                  refine SO.nil ?_
                  refine S.b4 ?_
                  refine S.b4 ?_
                  refine S.b4 ?_
                  refine S.b4 ?_
                  refine S.b4 ?_
                  refine S.to ?_ (ih1 ((w64 (x7_1 + 1), true, x5_1, s40), ()) h)
                  exact ⟨rfl, rfl, rfl, rfl, rfl, rfl, rfl, trivial⟩
                · replace h := cond_f b44 h
                  refine S.condF rfl b44 ?_
                  refine S.skip ?_
                  refine S.inBlock ?_
                  refine S.inBlock ?_
                  refine S.region ?_
                  refine SO.v rfl (opv_move rfl) ?_
                  refine SO.v rfl (opv_add rfl rfl) ?_
                  refine SO.v rfl (opv_assign rfl) ?_
                  refine SO.nil ?_
                  refine S.b4 ?_
                  refine S.b4 ?_
                  refine S.b4 ?_
                  refine S.b4 ?_
                  refine S.b4 ?_
                  refine S.to ?_ (ih1 ((w64 (x7_1 + 1), x6_1, x5_1, s40), ()) h)
                  exact ⟨rfl, rfl, rfl, rfl, rfl, rfl, rfl, trivial⟩
            · replace h := cond_f b37 h
              refine S.condF rfl b37 ?_
              refine S.skip ?_
              refine S.inBlock ?_
              refine S.inBlock ?_
              refine S.region ?_
              refine SO.v rfl (opv_move rfl) ?_
              refine SO.v rfl (opv_add rfl rfl) ?_
              refine SO.v rfl (opv_assign rfl) ?_
              refine SO.nil ?_
              refine S.b4 ?_
              refine S.b4 ?_
              refine S.b4 ?_
              refine S.b4 ?_
              refine S.b4 ?_
              refine S.to ?_ (ih1 ((w64 (x7_1 + 1), x6_1, x5_1, qv10_1), ()) h)
              exact ⟨rfl, rfl, rfl, rfl, rfl, rfl, rfl, trivial⟩
      · replace h := cond_f b13 h
        refine S.condF rfl b13 ?_
        refine S.exit rfl ?_
        cases h
        refine S.b4 ?_
        refine S.b4 ?_
        refine S.b4 ?_
        refine S.b4 ?_
        refine S.b4 ?_
        refine S.to ?_ (hK1.2 qv10_1 () rfl)
        exact ⟨rfl, rfl, trivial⟩
    refine ⟨fun r' e' => ?_, ?_⟩
    · subst e'
      have h9 := Brk.of_ret h
      exact h9
    rintro qv10_e1 _ e'
    subst e'
    replace h := Brk.of_nx h
    refine S.rd fun hr45 => ?_
    refine S.seq ?_
    refine S.region ?_
    refine SO.v rfl (opv_move rfl) ?_
    refine SO.v rfl (opv_assign rfl) ?_
    refine SO.nil ?_
    cases h
    refine S.drop ?_
    refine S.drop ?_
    refine S.drop ?_
    refine S.drop ?_
    exact S.ret1 Try.func3 rfl rfl (fun w hs hk => hR w _ _ ⟨rfl, rfl⟩ hs hk)
end Go.Proofs
