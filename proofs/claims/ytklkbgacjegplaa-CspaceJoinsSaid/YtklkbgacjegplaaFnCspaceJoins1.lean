/- What the functions that CspaceJoins reaches come to, and that they do. On no condition. -/
import Derived.Test.YtklkbgacjegplaaFnCspaceJoins0
set_option linter.all false
namespace Go.Proofs
open Go.Sl Go.RowKit
/-! 10 padstone/padstoneref10.Boot -/
def ref10_Boot.l1 (a0 : Int) : Nat → (Int × (List ref10_Obj) × (List ref10_Slot)) → Option (((List ref10_Slot) × (List ref10_Obj)))
  | 0, _ => none
  | k + 1, (x6_1, qu4_Objs_1, qu4_Slots_1) => bif decide (x6_1 < a0) then ((ref10_Fresh.f 5).bind fun t9 => (at_ qu4_Objs_1 x6_1).bind fun x18 => (at_ qu4_Slots_1 (w64 (14 + x6_1))).bind fun x31 => ref10_Boot.l1 a0 k (w64 (x6_1 + 1), qu4_Objs_1.set x6_1.toNat ({ t9 with State := 1, Root := (⟨2, 7, a0, 0, 0, 8⟩ : api_Cap) } : ref10_Obj), qu4_Slots_1.set (w64 (14 + x6_1)).toNat ({ x31 with Cap := (⟨5, 7, x6_1, 0, 0, 0⟩ : api_Cap) } : ref10_Slot))) else (some (qu4_Slots_1, qu4_Objs_1))
def ref10_Boot.l2 (a0 : Int) : Nat → (Int × (List ref10_Obj) × (List ref10_Slot)) → Option (((List ref10_Slot) × (List ref10_Obj)))
  | 0, _ => none
  | k + 1, (x8_2, qu4_Objs_2, qu4_Slots_2) => bif decide (x8_2 < 8) then ((at_ ([2, 2, 1, 3, 4, 8, 7, 6]) x8_2).bind fun x48 => (ref10_Fresh.f x48).bind fun t50 => (at_ qu4_Objs_2 (w64 (a0 + x8_2))).bind fun x54 => bif decide (2 ≤ x8_2) then ((at_ ([2, 2, 1, 3, 4, 8, 7, 6]) x8_2).bind fun x73 => (at_ qu4_Slots_2 (w64 (6 + x8_2))).bind fun x75 => ref10_Boot.l2 a0 k (w64 (x8_2 + 1), qu4_Objs_2.set (w64 (a0 + x8_2)).toNat t50, qu4_Slots_2.set (w64 (6 + x8_2)).toNat ({ x75 with Cap := (⟨x73, 7, w64 (a0 + x8_2), 0, 0, 0⟩ : api_Cap) } : ref10_Slot))) else (ref10_Boot.l2 a0 k (w64 (x8_2 + 1), qu4_Objs_2.set (w64 (a0 + x8_2)).toNat t50, qu4_Slots_2))) else (some (qu4_Slots_2, qu4_Objs_2))
def ref10_Boot.f (k : Nat) (a0 : Int) : Option (ref10_State) :=
  (ref10_New.f k ).bind fun t1 => (ref10_Boot.l1 a0 k (0, t1.Objs, t1.Slots)).bind fun (qu4_Slots_e1, qu4_Objs_e1) => (ref10_Boot.l2 a0 k (0, qu4_Objs_e1, qu4_Slots_e1)).bind fun (qu4_Slots_e2, qu4_Objs_e2) => (at_ qu4_Objs_e2 a0).bind fun x83 => (at_ (qu4_Objs_e2.set a0.toNat ({ x83 with Radix := 3 } : ref10_Obj)) (w64 (a0 + 1))).bind fun x95 => (at_ ((qu4_Objs_e2.set a0.toNat ({ x83 with Radix := 3 } : ref10_Obj)).set (w64 (a0 + 1)).toNat ({ x95 with First := 8 } : ref10_Obj)) (w64 (a0 + 1))).bind fun x103 => (at_ (((qu4_Objs_e2.set a0.toNat ({ x83 with Radix := 3 } : ref10_Obj)).set (w64 (a0 + 1)).toNat ({ x95 with First := 8 } : ref10_Obj)).set (w64 (a0 + 1)).toNat ({ x103 with Radix := 5 } : ref10_Obj)) (w64 (a0 + 2))).bind fun x111 => (at_ qu4_Slots_e2 0).bind fun x119 => (at_ (qu4_Slots_e2.set (0 : Int).toNat ({ x119 with Cap := (⟨2, 7, w64 (a0 + 1), 0, 0, 0⟩ : api_Cap) } : ref10_Slot)) 1).bind fun x131 => some (⟨(qu4_Slots_e2.set (0 : Int).toNat ({ x119 with Cap := (⟨2, 7, w64 (a0 + 1), 0, 0, 0⟩ : api_Cap) } : ref10_Slot)).set (1 : Int).toNat ({ x131 with Cap := (⟨2, 7, a0, 0, 0, 8⟩ : api_Cap) } : ref10_Slot), (((qu4_Objs_e2.set a0.toNat ({ x83 with Radix := 3 } : ref10_Obj)).set (w64 (a0 + 1)).toNat ({ x95 with First := 8 } : ref10_Obj)).set (w64 (a0 + 1)).toNat ({ x103 with Radix := 5 } : ref10_Obj)).set (w64 (a0 + 2)).toNat ({ x111 with Size := 200 } : ref10_Obj), 40, w64 (a0 + 8)⟩ : ref10_State)
set_option maxHeartbeats 8000000 in
set_option maxRecDepth 100000 in
theorem ref10_Boot.ct (k : Nat) (a0 : Int) (r0 : ref10_State) (h : ref10_Boot.f k a0 = some r0) :
    Ct Try.prog 10 [.int .i64 a0] (fun _ => True) [] (fun u H' => ∃ b_r0 w_r0_Slots w_r0_Objs, u = bp b_r0 0 ∧ H' = [Box b_r0 [w_r0_Slots, w_r0_Objs, .int .i64 r0.NS, .int .i64 r0.NO], OwnR 71 kr_ref10_Slot w_r0_Slots r0.Slots, OwnR 38 kr_ref10_Obj w_r0_Objs r0.Objs]) := by
  unfold ref10_Boot.f at h
  refine Ct.intro (n := 130) Try.func10 rfl rfl rfl ?_
  intro R w0 F hF hR
  refine S.seq ?_
  refine S.region ?_
  refine SO.v rfl (opv_assign rfl) ?_
  refine SO.nil ?_
  refine S.seq ?_
  refine S.region ?_
  obtain ⟨t1, ht2, h⟩ := opt_bind h
  refine SO.call (pre := []) rfl Try.call26 rfl rfl rfl (ref10_New.ct _ _ ht2) trivial ?_
  rintro _ _ ⟨b3, u4_Slots, u4_Objs, rfl, rfl⟩
  refine SO.v rfl (opv_assign rfl) ?_
  refine SO.nil ?_
  refine S.seq ?_
  refine S.region ?_
  refine SO.v rfl (opv_move rfl) ?_
  refine SO.v rfl (opv_build (v := .agg #[.int .i64 2, .int .i64 7, .int .i64 a0, .int .i64 0, .int .i64 0, .int .i64 8]) rfl (by intro w; kernel_rfl)) ?_
  refine SO.alloc rfl Try.zeroValue24 rfl (fun b5 => ?_)
  refine SO.storeN Try.sizeOf24 rfl rfl rfl rfl rfl rfl ?_
  refine SO.nil ?_
  refine S.seq ?_
  refine S.region ?_
  refine SO.buildSlice (K := ekI .i64) (xs := [2, 2, 1, 3, 4, 8, 7, 6]) (cs := [.int .i64 2, .int .i64 2, .int .i64 1, .int .i64 3, .int .i64 4, .int .i64 8, .int .i64 7, .int .i64 6]) rfl Try.underlying35 Try.sizeOf3 Try.zeroValue3 rfl rfl rfl (by kernel_rfl) rfl rfl rfl (fun v6 hr7 => ?_)
  refine SO.v rfl (opv_assign rfl) ?_
  refine SO.nil ?_
  refine S.seq ?_
  refine S.seq ?_
  refine S.region ?_
  refine SO.v rfl (opv_assign rfl) ?_
  refine SO.nil ?_
  obtain ⟨⟨qu4_Slots_e1, qu4_Objs_e1⟩, hl1, h⟩ := opt_bind h
  refine S.b5 ?_
  refine S.b5 ?_
  refine S.b5 ?_
  refine S.b5 ?_
  refine S.b5 ?_
  refine S.b5 ?_
  refine S.to (ρ' := [(6, .int .i64 0), (5, v6), (4, bp b5 0), (3, bp b3 0), (2, .pointer none), (0, .int .i64 a0)]) ⟨rfl, rfl, rfl, rfl, rfl, rfl, trivial⟩ ?_
  refine S.forloop (X := (Int × (List ref10_Obj) × (List ref10_Slot)) × Unit) (O := ((List ref10_Slot) × (List ref10_Obj))) (fun m x => ref10_Boot.l1 a0 m x.1) (fun x => match x with | ((x6_1, qu4_Objs_1, qu4_Slots_1), _) => [(6, .int .i64 x6_1), (5, v6), (4, bp b5 0), (3, bp b3 0), (2, .pointer none), (0, .int .i64 a0)]) (fun x => match x with | ((x6_1, qu4_Objs_1, qu4_Slots_1), _) => [Own 3 (ekI .i64) v6 ([2, 2, 1, 3, 4, 8, 7, 6]), Box b5 [.int .i64 2, .int .i64 7, .int .i64 a0, .int .i64 0, .int .i64 0, .int .i64 8], Box b3 [u4_Slots, u4_Objs, .int .i64 t1.NS, .int .i64 t1.NO], OwnR 71 kr_ref10_Slot u4_Slots qu4_Slots_1, OwnR 38 kr_ref10_Obj u4_Objs qu4_Objs_1, F]) (fun Sk => (fun x => match x with | (qu4_Slots_e1, qu4_Objs_e1) => ∀ _ : Unit, Sk [(0, .int .i64 a0), (2, .pointer none), (3, bp b3 0), (4, bp b5 0), (5, v6)] [Own 3 (ekI .i64) v6 ([2, 2, 1, 3, 4, 8, 7, 6]), Box b5 [.int .i64 2, .int .i64 7, .int .i64 a0, .int .i64 0, .int .i64 0, .int .i64 8], Box b3 [u4_Slots, u4_Objs, .int .i64 t1.NS, .int .i64 t1.NO], OwnR 71 kr_ref10_Slot u4_Slots qu4_Slots_e1, OwnR 38 kr_ref10_Obj u4_Objs qu4_Objs_e1, F])) (fun _ => rfl) ?_ (m := k) (x := ((0, t1.Objs, t1.Slots), ())) hl1 ?_
  · clear h hl1
    intro k x o_1 h hK1 ih1
    obtain ⟨⟨x6_1, qu4_Objs_1, qu4_Slots_1⟩, _⟩ := x
    replace h : ref10_Boot.l1 a0 (k + 1) (x6_1, qu4_Objs_1, qu4_Slots_1) = some o_1 := h
    first | rw [ref10_Boot.l1] at h | unfold ref10_Boot.l1 at h
    refine S.seq ?_
    refine S.seq ?_
    refine S.region ?_
    refine SO.v rfl (opv_move rfl) ?_
    refine SO.v rfl (opv_move rfl) ?_
    refine SO.v rfl (opv_lss rfl rfl) ?_
    refine SO.nil ?_
    rcases bool_or (decide (x6_1 < a0)) with b8 | b8
    · replace h := cond_t b8 h
      refine S.condT rfl b8 ?_
      refine S.skip ?_
      refine S.seq ?_
      refine S.block ?_
      refine S.seq ?_
      refine S.region ?_
      obtain ⟨t9, ht10, h⟩ := opt_bind h
      refine SO.call (pre := []) rfl Try.call27 rfl rfl rfl (ref10_Fresh.ct _ _ ht10) trivial ?_
      rintro _ _ ⟨u11_Queue, rfl, rfl⟩
      refine SO.rd fun hr12 => ?_
      refine SO.alloc rfl Try.zeroValue38 rfl (fun b13 => ?_)
      refine SO.storeN Try.sizeOf38 rfl rfl (all1 rfl (all1 rfl (all1 rfl (all1 rfl (all1 rfl (all1 rfl (all1 (Rd.one hr12) (all1 rfl (all1 rfl (all1 rfl (all1 rfl (all1 rfl (all1 rfl (all1 rfl (all1 rfl (all1 rfl (all1 rfl (all1 rfl (all1 rfl (all1 rfl (all1 rfl (all1 rfl (all1 rfl (all1 rfl (all1 rfl (all1 rfl (all1 rfl (all1 rfl (all1 rfl (all1 rfl (all1 rfl (all1 rfl rfl)))))))))))))))))))))))))))))))) rfl rfl rfl ?_
      refine SO.nil ?_
      refine S.seq ?_
      refine S.region ?_
      refine SO.v rfl (opv_fieldAddr Try.underlying38 rfl Try.sizeOf3 rfl rfl) ?_
      refine SO.store1 Try.sizeOf3 rfl rfl rfl rfl ?_
      refine SO.nil ?_
      refine S.seq ?_
      refine S.region ?_
      refine SO.b3 ?_
      refine SO.loadN rfl Try.isAgg24 Try.sizeOf24 rfl rfl rfl ?_
      refine SO.v rfl (opv_fieldAddr Try.underlying38 rfl Try.sizeOf24 rfl rfl) ?_
      refine SO.b1 ?_
      refine SO.storeN Try.sizeOf24 rfl rfl rfl rfl rfl rfl ?_
      refine SO.nil ?_
      refine S.seq ?_
      refine S.b6 ?_
      refine S.openR fun raws14 A15 hrel16 hR17 => ?_
      obtain ⟨x18, hx19, h⟩ := opt_bind h
      obtain ⟨r20, hr21, hc22⟩ := relR.at hrel16 hx19
      refine S.draw' (Z := fun Q => ∀ (_ : Unit) (_ : Unit) (_ : Unit) (_ : Unit) (_ : Unit) (_ : Unit) (_ : Unit) (_ : Unit) (_ : Unit) (_ : Unit) (_ : Unit) (_ : Unit) (_ : Unit) (_ : Unit) (_ : Unit) (_ : Unit) (_ : Unit) (_ : Unit), Q [(6, .int .i64 x6_1), (21, bp b13 14), (20, .agg #[.int .i64 2, .int .i64 7, .int .i64 a0, .int .i64 0, .int .i64 0, .int .i64 8]), (19, bp b13 8), (18, .agg #[.int .i64 t9.Kind, .int .i64 t9.Size, .int .i64 t9.Used, .int .i64 t9.First, .int .i64 t9.Radix, .int .i64 t9.Wait, u11_Queue, .int .i64 t9.Word, .int .i64 t9.State, .int .i64 t9.Owing, .int .i64 t9.Badge, .int .i64 t9.Prio, .int .i64 t9.On, .int .i64 t9.Owes, .int .i64 t9.Root.Kind, .int .i64 t9.Root.Rights, .int .i64 t9.Root.Obj, .int .i64 t9.Root.Badge, .int .i64 t9.Root.Guard, .int .i64 t9.Root.Bits, .int .i64 t9.Pages.a0, .int .i64 t9.Pages.a1, .int .i64 t9.Pages.a2, .int .i64 t9.Pages.a3, .int .i64 t9.Right.a0, .int .i64 t9.Right.a1, .int .i64 t9.Right.a2, .int .i64 t9.Right.a3, .int .i64 t9.In, .int .i64 t9.Page, .int .i64 t9.Bound, .int .i64 t9.Mask]), (15, .bool (decide (x6_1 < a0))), (14, .int .i64 a0), (13, .int .i64 x6_1), (5, v6), (4, bp b5 0), (2, .pointer none), (0, .int .i64 a0), (3, bp b3 0), (7, bp b13 0), (22, bp b3 0), (23, bp b3 0), (24, bp b3 1), (25, u4_Objs), (26, .int .i64 x6_1), (27, .agg #[.int .i64 t9.Kind, .int .i64 t9.Size, .int .i64 t9.Used, .int .i64 t9.First, .int .i64 t9.Radix, .int .i64 t9.Wait, u11_Queue, .int .i64 t9.Word, .int .i64 1, .int .i64 t9.Owing, .int .i64 t9.Badge, .int .i64 t9.Prio, .int .i64 t9.On, .int .i64 t9.Owes, .int .i64 2, .int .i64 7, .int .i64 a0, .int .i64 0, .int .i64 0, .int .i64 8, .int .i64 t9.Pages.a0, .int .i64 t9.Pages.a1, .int .i64 t9.Pages.a2, .int .i64 t9.Pages.a3, .int .i64 t9.Right.a0, .int .i64 t9.Right.a1, .int .i64 t9.Right.a2, .int .i64 t9.Right.a3, .int .i64 t9.In, .int .i64 t9.Page, .int .i64 t9.Bound, .int .i64 t9.Mask]), (28, idxp u4_Objs (x6_1.toNat * kr_ref10_Obj.sz))] [OwnR 38 kr_ref10_Obj u4_Objs (qu4_Objs_1.set x6_1.toNat ({ t9 with State := 1, Root := (⟨2, 7, a0, 0, 0, 8⟩ : api_Cap) } : ref10_Obj)), Box b13 [.int .i64 t9.Kind, .int .i64 t9.Size, .int .i64 t9.Used, .int .i64 t9.First, .int .i64 t9.Radix, .int .i64 t9.Wait, u11_Queue, .int .i64 t9.Word, .int .i64 1, .int .i64 t9.Owing, .int .i64 t9.Badge, .int .i64 t9.Prio, .int .i64 t9.On, .int .i64 t9.Owes, .int .i64 2, .int .i64 7, .int .i64 a0, .int .i64 0, .int .i64 0, .int .i64 8, .int .i64 t9.Pages.a0, .int .i64 t9.Pages.a1, .int .i64 t9.Pages.a2, .int .i64 t9.Pages.a3, .int .i64 t9.Right.a0, .int .i64 t9.Right.a1, .int .i64 t9.Right.a2, .int .i64 t9.Right.a3, .int .i64 t9.In, .int .i64 t9.Page, .int .i64 t9.Bound, .int .i64 t9.Mask], Box b5 [.int .i64 2, .int .i64 7, .int .i64 a0, .int .i64 0, .int .i64 0, .int .i64 8], Own 3 (ekI .i64) v6 ([2, 2, 1, 3, 4, 8, 7, 6]), Box b3 [u4_Slots, u4_Objs, .int .i64 t1.NS, .int .i64 t1.NO], OwnR 71 kr_ref10_Slot u4_Slots qu4_Slots_1, F]) (T := [tS 3 (bp b3 0), tS 6 (.int .i64 x6_1), tS 7 (bp b13 0), tE [(21, bp b13 14), (20, .agg #[.int .i64 2, .int .i64 7, .int .i64 a0, .int .i64 0, .int .i64 0, .int .i64 8]), (19, bp b13 8), (18, .agg #[.int .i64 t9.Kind, .int .i64 t9.Size, .int .i64 t9.Used, .int .i64 t9.First, .int .i64 t9.Radix, .int .i64 t9.Wait, u11_Queue, .int .i64 t9.Word, .int .i64 t9.State, .int .i64 t9.Owing, .int .i64 t9.Badge, .int .i64 t9.Prio, .int .i64 t9.On, .int .i64 t9.Owes, .int .i64 t9.Root.Kind, .int .i64 t9.Root.Rights, .int .i64 t9.Root.Obj, .int .i64 t9.Root.Badge, .int .i64 t9.Root.Guard, .int .i64 t9.Root.Bits, .int .i64 t9.Pages.a0, .int .i64 t9.Pages.a1, .int .i64 t9.Pages.a2, .int .i64 t9.Pages.a3, .int .i64 t9.Right.a0, .int .i64 t9.Right.a1, .int .i64 t9.Right.a2, .int .i64 t9.Right.a3, .int .i64 t9.In, .int .i64 t9.Page, .int .i64 t9.Bound, .int .i64 t9.Mask]), (15, .bool (decide (x6_1 < a0))), (14, .int .i64 a0), (13, .int .i64 x6_1), (5, v6), (4, bp b5 0), (2, .pointer none), (0, .int .i64 a0)], tR (OwnO 38 kr_ref10_Obj u4_Objs raws14 A15 qu4_Objs_1), tR (Box b13 [.int .i64 t9.Kind, .int .i64 t9.Size, .int .i64 t9.Used, .int .i64 t9.First, .int .i64 t9.Radix, .int .i64 t9.Wait, u11_Queue, .int .i64 t9.Word, .int .i64 1, .int .i64 t9.Owing, .int .i64 t9.Badge, .int .i64 t9.Prio, .int .i64 t9.On, .int .i64 t9.Owes, .int .i64 2, .int .i64 7, .int .i64 a0, .int .i64 0, .int .i64 0, .int .i64 8, .int .i64 t9.Pages.a0, .int .i64 t9.Pages.a1, .int .i64 t9.Pages.a2, .int .i64 t9.Pages.a3, .int .i64 t9.Right.a0, .int .i64 t9.Right.a1, .int .i64 t9.Right.a2, .int .i64 t9.Right.a3, .int .i64 t9.In, .int .i64 t9.Page, .int .i64 t9.Bound, .int .i64 t9.Mask]), tR (Box b5 [.int .i64 2, .int .i64 7, .int .i64 a0, .int .i64 0, .int .i64 0, .int .i64 8]), tR (Own 3 (ekI .i64) u11_Queue t9.Queue), tR (Own 3 (ekI .i64) v6 ([2, 2, 1, 3, 4, 8, 7, 6])), tR (Box b3 [u4_Slots, u4_Objs, .int .i64 t1.NS, .int .i64 t1.NO]), tR (OwnR 71 kr_ref10_Slot u4_Slots qu4_Slots_1), tR (F), tS 22 (bp b3 0), tS 23 (bp b3 0), tS 24 (bp b3 1), tS 25 (u4_Objs), tS 26 (.int .i64 x6_1), tS 27 (.agg #[.int .i64 t9.Kind, .int .i64 t9.Size, .int .i64 t9.Used, .int .i64 t9.First, .int .i64 t9.Radix, .int .i64 t9.Wait, u11_Queue, .int .i64 t9.Word, .int .i64 1, .int .i64 t9.Owing, .int .i64 t9.Badge, .int .i64 t9.Prio, .int .i64 t9.On, .int .i64 t9.Owes, .int .i64 2, .int .i64 7, .int .i64 a0, .int .i64 0, .int .i64 0, .int .i64 8, .int .i64 t9.Pages.a0, .int .i64 t9.Pages.a1, .int .i64 t9.Pages.a2, .int .i64 t9.Pages.a3, .int .i64 t9.Right.a0, .int .i64 t9.Right.a1, .int .i64 t9.Right.a2, .int .i64 t9.Right.a3, .int .i64 t9.In, .int .i64 t9.Page, .int .i64 t9.Bound, .int .i64 t9.Mask]), tS 28 (idxp u4_Objs (x6_1.toNat * kr_ref10_Obj.sz)), tR (OwnR 38 kr_ref10_Obj u4_Objs (qu4_Objs_1.set x6_1.toNat ({ t9 with State := 1, Root := (⟨2, 7, a0, 0, 0, 8⟩ : api_Cap) } : ref10_Obj)))]) (D := [⟨[0], [], [12]⟩, ⟨[12], [], [13]⟩, ⟨[13], [], [14]⟩, ⟨[14, 9], [], [15]⟩, ⟨[1], [], [16]⟩, ⟨[2, 5], [], [17]⟩, ⟨[15, 16, 4], [], [18]⟩, ⟨[17, 18], [4, 7], [19]⟩]) (ini := [0, 1, 2, 3, 4, 5, 6, 7, 8, 9, 10, 11]) (fin := [1, 3, 0, 2, 12, 13, 14, 15, 16, 17, 18, 19, 5, 6, 8, 9, 10, 11]) (bf := [[], [0], [0, 1], [0, 1, 2], [], [], [0, 1, 2, 3, 4, 5], [0, 1, 2, 3, 4, 5, 6]]) (by kernel_rfl) (by kernel_rfl) (fun x w h1 h2 => (.cons () (.cons () (.cons () (.cons () (.cons () (.cons () (.cons () (.cons () (.cons () (.cons () (.cons () (.cons () (.nil ⟨EnvAll.of h1 ⟨rfl, rfl, rfl, rfl, rfl, rfl, rfl, rfl, rfl, rfl, rfl, rfl, rfl, rfl, trivial⟩, h2⟩)))))))))))))) (fun Q => by kernel_rfl) ⟨?_, ?_, ?_, ?_, ?_, ?_, ?_, ?_, trivial⟩ ?_
      · rintro Fr _
        refine SO.v rfl (opv_move rfl) ?_
        exact SO.nilZ fun a w h1 h2 h3 h4 h5 => PZ.of h1 h3 h5 (.cons () (.cons () (.nil ⟨EnvAll.of h2 ⟨rfl, rfl, trivial⟩, h4⟩)))
      · rintro Fr _
        refine SO.v rfl (opv_nilCheck rfl) ?_
        exact SO.nilZ fun a w h1 h2 h3 h4 h5 => PZ.of h1 h3 h5 (.cons () (.cons () (.nil ⟨EnvAll.of h2 ⟨rfl, rfl, trivial⟩, h4⟩)))
      · rintro Fr _
        refine SO.v rfl (opv_fieldAddr Try.underlying42 rfl Try.sizeOf40 rfl rfl) ?_
        exact SO.nilZ fun a w h1 h2 h3 h4 h5 => PZ.of h1 h3 h5 (.cons () (.cons () (.nil ⟨EnvAll.of h2 ⟨rfl, rfl, trivial⟩, h4⟩)))
      · rintro Fr _ _
        refine SO.load1 rfl Try.isAgg40 rfl rfl ?_
        exact SO.nilZ fun a w h1 h2 h3 h4 h5 => PZ.of h1 h3 h5 (.cons () (.cons () (.cons () (.nil ⟨EnvAll.of h2 ⟨rfl, rfl, trivial⟩, h4⟩))))
      · rintro Fr _
        refine SO.v rfl (opv_move rfl) ?_
        exact SO.nilZ fun a w h1 h2 h3 h4 h5 => PZ.of h1 h3 h5 (.cons () (.cons () (.nil ⟨EnvAll.of h2 ⟨rfl, rfl, trivial⟩, h4⟩)))
      · rintro Fr _ _
        refine SO.loadN rfl Try.isAgg38 Try.sizeOf38 rfl rfl rfl ?_
        exact SO.nilZ fun a w h1 h2 h3 h4 h5 => PZ.of h1 h3 h5 (.cons () (.cons () (.cons () (.nil ⟨EnvAll.of h2 ⟨rfl, rfl, trivial⟩, h4⟩))))
      · rintro Fr _ _ _
        refine SO.v rfl (opv_idx Try.underlying40 Try.sizeOf38 hR17 rfl rfl hr21) ?_
        exact SO.nilZ fun a w h1 h2 h3 h4 h5 => PZ.of h1 h3 h5 (.cons () (.cons () (.cons () (.cons () (.nil ⟨EnvAll.of h2 ⟨rfl, rfl, rfl, trivial⟩, h4⟩)))))
      · rintro Fr _ _ _ _
        refine SO.b1 ?_
        refine SO.freeze hrel16 fun A23 hcov24 hru25 hrel26 hR27 => ?_
        refine SO.storeON (z' := ({ t9 with State := 1, Root := (⟨2, 7, a0, 0, 0, 8⟩ : api_Cap) } : ref10_Obj)) Try.sizeOf38 hrel26 hx19 rfl rfl rfl ⟨rfl, rfl, rfl, rfl, rfl, rfl, hru25, rfl, rfl, rfl, rfl, rfl, rfl, rfl, rfl, rfl, rfl, rfl, rfl, rfl, rfl, rfl, rfl, rfl, rfl, rfl, rfl, rfl, rfl, rfl, rfl, rfl, trivial⟩ (fun raws28 hrel29 hR30 => ?_)
        refine SO.closeR ?_
        exact SO.nilZ fun a w h1 h2 h3 h4 h5 => PZ.of h1 h3 h5 (.cons () (.cons () (.cons () (.nil ⟨EnvAll.of h2 ⟨rfl, rfl, trivial⟩, h4⟩))))
      rintro _ _ _ _ _ _ _ _ _ _ _ _ _ _ _ _ _ _
      refine S.to (ρ' := [(6, .int .i64 x6_1), (21, bp b13 14), (20, .agg #[.int .i64 2, .int .i64 7, .int .i64 a0, .int .i64 0, .int .i64 0, .int .i64 8]), (19, bp b13 8), (18, .agg #[.int .i64 t9.Kind, .int .i64 t9.Size, .int .i64 t9.Used, .int .i64 t9.First, .int .i64 t9.Radix, .int .i64 t9.Wait, u11_Queue, .int .i64 t9.Word, .int .i64 t9.State, .int .i64 t9.Owing, .int .i64 t9.Badge, .int .i64 t9.Prio, .int .i64 t9.On, .int .i64 t9.Owes, .int .i64 t9.Root.Kind, .int .i64 t9.Root.Rights, .int .i64 t9.Root.Obj, .int .i64 t9.Root.Badge, .int .i64 t9.Root.Guard, .int .i64 t9.Root.Bits, .int .i64 t9.Pages.a0, .int .i64 t9.Pages.a1, .int .i64 t9.Pages.a2, .int .i64 t9.Pages.a3, .int .i64 t9.Right.a0, .int .i64 t9.Right.a1, .int .i64 t9.Right.a2, .int .i64 t9.Right.a3, .int .i64 t9.In, .int .i64 t9.Page, .int .i64 t9.Bound, .int .i64 t9.Mask]), (15, .bool (decide (x6_1 < a0))), (14, .int .i64 a0), (13, .int .i64 x6_1), (5, v6), (4, bp b5 0), (2, .pointer none), (0, .int .i64 a0), (3, bp b3 0), (7, bp b13 0), (22, bp b3 0), (23, bp b3 0), (24, bp b3 1), (25, u4_Objs), (26, .int .i64 x6_1), (27, .agg #[.int .i64 t9.Kind, .int .i64 t9.Size, .int .i64 t9.Used, .int .i64 t9.First, .int .i64 t9.Radix, .int .i64 t9.Wait, u11_Queue, .int .i64 t9.Word, .int .i64 1, .int .i64 t9.Owing, .int .i64 t9.Badge, .int .i64 t9.Prio, .int .i64 t9.On, .int .i64 t9.Owes, .int .i64 2, .int .i64 7, .int .i64 a0, .int .i64 0, .int .i64 0, .int .i64 8, .int .i64 t9.Pages.a0, .int .i64 t9.Pages.a1, .int .i64 t9.Pages.a2, .int .i64 t9.Pages.a3, .int .i64 t9.Right.a0, .int .i64 t9.Right.a1, .int .i64 t9.Right.a2, .int .i64 t9.Right.a3, .int .i64 t9.In, .int .i64 t9.Page, .int .i64 t9.Bound, .int .i64 t9.Mask]), (28, idxp u4_Objs (x6_1.toNat * kr_ref10_Obj.sz))]) ⟨rfl, rfl, rfl, rfl, rfl, rfl, rfl, rfl, rfl, rfl, rfl, rfl, rfl, rfl, rfl, rfl, rfl, rfl, rfl, rfl, rfl, trivial⟩ ?_
      refine S.region ?_
      refine SO.v rfl (opv_move rfl) ?_
      refine SO.v rfl (opv_nilCheck rfl) ?_
      refine SO.v rfl (opv_fieldAddr Try.underlying42 rfl Try.sizeOf39 rfl rfl) ?_
      refine SO.b4 ?_
      refine SO.load1 rfl Try.isAgg39 rfl rfl ?_
      refine SO.v rfl (opv_move rfl) ?_
      refine SO.v rfl (opv_add rfl rfl) ?_
      refine SO.v rfl (opv_move rfl) ?_
      refine SO.v rfl (opv_build (v := .agg #[.int .i64 5, .int .i64 7, .int .i64 x6_1, .int .i64 0, .int .i64 0, .int .i64 0]) rfl (by intro w; kernel_rfl)) ?_
      refine SO.b5 ?_
      refine SO.openR fun raws36 A37 hrel38 hR39 => ?_
      obtain ⟨x31, hx32, h⟩ := opt_bind h
      obtain ⟨r33, hr34, hc35⟩ := relR.at hrel38 hx32
      refine SO.v rfl (opv_idx Try.underlying39 Try.sizeOf71 hR39 rfl rfl hr34) ?_
      refine SO.v rfl (opv_fieldIdx Try.underlying71 rfl Try.sizeOf24 hR39 hr34 rfl rfl) ?_
      refine SO.storeOP (j := 0) (us := [.int .i64 5, .int .i64 7, .int .i64 x6_1, .int .i64 0, .int .i64 0, .int .i64 0]) (z' := ({ x31 with Cap := (⟨5, 7, x6_1, 0, 0, 0⟩ : api_Cap) } : ref10_Slot)) Try.sizeOf24 hrel38 hx32 rfl rfl rfl rfl rfl rfl rfl (fun raws40 hrel41 hR42 => ?_)
      refine SO.nil ?_
      refine S.inBlock ?_
      refine S.region ?_
      refine SO.v rfl (opv_move rfl) ?_
      refine SO.v rfl (opv_add rfl rfl) ?_
      refine SO.v rfl (opv_assign rfl) ?_
      refine SO.nil ?_
      refine S.closeR ?_
      refine S.b3 ?_
      refine S.drop ?_
      refine S.b5 ?_
      refine S.b3 ?_
      refine S.b2 ?_
      refine S.b3 ?_
      refine S.b4 ?_
      refine S.b5 ?_
      refine S.to ?_ (ih1 ((w64 (x6_1 + 1), qu4_Objs_1.set x6_1.toNat ({ t9 with State := 1, Root := (⟨2, 7, a0, 0, 0, 8⟩ : api_Cap) } : ref10_Obj), qu4_Slots_1.set (w64 (14 + x6_1)).toNat ({ x31 with Cap := (⟨5, 7, x6_1, 0, 0, 0⟩ : api_Cap) } : ref10_Slot)), ()) h)
      exact ⟨rfl, rfl, rfl, rfl, rfl, rfl, trivial⟩
    · replace h := cond_f b8 h
      refine S.condF rfl b8 ?_
      refine S.exit rfl ?_
      cases h
      refine S.b5 ?_
      refine S.b5 ?_
      refine S.b5 ?_
      refine S.b5 ?_
      refine S.b5 ?_
      refine S.b5 ?_
      refine S.to ?_ (hK1 ())
      exact ⟨rfl, rfl, rfl, rfl, rfl, trivial⟩
  rintro _
  refine S.seq ?_
  refine S.seq ?_
  refine S.region ?_
  refine SO.v rfl (opv_assign rfl) ?_
  refine SO.nil ?_
  obtain ⟨⟨qu4_Slots_e2, qu4_Objs_e2⟩, hl2, h⟩ := opt_bind h
  refine S.b5 ?_
  refine S.b5 ?_
  refine S.b5 ?_
  refine S.b5 ?_
  refine S.b5 ?_
  refine S.b5 ?_
  refine S.to (ρ' := [(8, .int .i64 0), (0, .int .i64 a0), (2, .pointer none), (3, bp b3 0), (4, bp b5 0), (5, v6)]) ⟨rfl, rfl, rfl, rfl, rfl, rfl, trivial⟩ ?_
  refine S.forloop (X := (Int × (List ref10_Obj) × (List ref10_Slot)) × Unit) (O := ((List ref10_Slot) × (List ref10_Obj))) (fun m x => ref10_Boot.l2 a0 m x.1) (fun x => match x with | ((x8_2, qu4_Objs_2, qu4_Slots_2), _) => [(8, .int .i64 x8_2), (0, .int .i64 a0), (2, .pointer none), (3, bp b3 0), (4, bp b5 0), (5, v6)]) (fun x => match x with | ((x8_2, qu4_Objs_2, qu4_Slots_2), _) => [Own 3 (ekI .i64) v6 ([2, 2, 1, 3, 4, 8, 7, 6]), Box b5 [.int .i64 2, .int .i64 7, .int .i64 a0, .int .i64 0, .int .i64 0, .int .i64 8], Box b3 [u4_Slots, u4_Objs, .int .i64 t1.NS, .int .i64 t1.NO], OwnR 71 kr_ref10_Slot u4_Slots qu4_Slots_2, OwnR 38 kr_ref10_Obj u4_Objs qu4_Objs_2, F]) (fun Sk => (fun x => match x with | (qu4_Slots_e2, qu4_Objs_e2) => ∀ _ : Unit, Sk [(0, .int .i64 a0), (2, .pointer none), (3, bp b3 0), (4, bp b5 0)] [Own 3 (ekI .i64) v6 ([2, 2, 1, 3, 4, 8, 7, 6]), Box b5 [.int .i64 2, .int .i64 7, .int .i64 a0, .int .i64 0, .int .i64 0, .int .i64 8], Box b3 [u4_Slots, u4_Objs, .int .i64 t1.NS, .int .i64 t1.NO], OwnR 71 kr_ref10_Slot u4_Slots qu4_Slots_e2, OwnR 38 kr_ref10_Obj u4_Objs qu4_Objs_e2, F])) (fun _ => rfl) ?_ (m := k) (x := ((0, qu4_Objs_e1, qu4_Slots_e1), ())) hl2 ?_
  · clear h hl2
    intro k x o_2 h hK2 ih2
    obtain ⟨⟨x8_2, qu4_Objs_2, qu4_Slots_2⟩, _⟩ := x
    replace h : ref10_Boot.l2 a0 (k + 1) (x8_2, qu4_Objs_2, qu4_Slots_2) = some o_2 := h
    first | rw [ref10_Boot.l2] at h | unfold ref10_Boot.l2 at h
    refine S.seq ?_
    refine S.seq ?_
    refine S.region ?_
    refine SO.v rfl (opv_move rfl) ?_
    refine SO.v rfl (opv_lss rfl rfl) ?_
    refine SO.nil ?_
    rcases bool_or (decide (x8_2 < 8)) with b43 | b43
    · replace h := cond_t b43 h
      refine S.condT rfl b43 ?_
      refine S.skip ?_
      refine S.seq ?_
      refine S.block ?_
      refine S.seq ?_
      refine S.b4 ?_
      refine S.openR fun raws44 A45 hrel46 hR47 => ?_
      obtain ⟨x48, hx49, h⟩ := opt_bind h
      obtain ⟨t50, ht51, h⟩ := opt_bind h
      obtain ⟨x54, hx55, h⟩ := opt_bind h
      obtain ⟨r56, hr57, hc58⟩ := relR.at hrel46 hx55
      refine S.draw' (Z := fun Q => ∀ (_ : Unit) (_ : Unit) (_ : Unit) (_ : Unit) (_ : Unit) (_ : Unit) (_ : Unit) (_ : Unit) (_ : Unit) (_ : Unit) (_ : Unit) (_ : Unit) (_ : Unit) (_ : Unit) (_ : Unit) (_ : Unit) (_ : Unit) (_ : Unit) (_ : Unit) (_ : Unit) (_ : Unit) (_ : Unit) (_ : Unit), Q [(8, .int .i64 x8_2), (0, .int .i64 a0), (40, .bool (decide (x8_2 < 8))), (39, .int .i64 x8_2), (2, .pointer none), (4, bp b5 0), (3, bp b3 0), (5, v6), (43, bp b3 0), (44, bp b3 0), (45, bp b3 1), (46, u4_Objs), (47, .int .i64 a0), (48, .int .i64 x8_2), (49, .int .i64 (w64 (a0 + x8_2))), (50, v6), (51, .int .i64 x8_2), (52, idxp v6 (x8_2.toNat * (ekI .i64).sz)), (53, .int .i64 x48), (55, idxp u4_Objs ((w64 (a0 + x8_2)).toNat * kr_ref10_Obj.sz))] [OwnR 38 kr_ref10_Obj u4_Objs (qu4_Objs_2.set (w64 (a0 + x8_2)).toNat t50), Own 3 (ekI .i64) v6 ([2, 2, 1, 3, 4, 8, 7, 6]), Box b5 [.int .i64 2, .int .i64 7, .int .i64 a0, .int .i64 0, .int .i64 0, .int .i64 8], Box b3 [u4_Slots, u4_Objs, .int .i64 t1.NS, .int .i64 t1.NO], OwnR 71 kr_ref10_Slot u4_Slots qu4_Slots_2, F]) (T := [tS 3 (bp b3 0), tS 0 (.int .i64 a0), tS 8 (.int .i64 x8_2), tS 5 (v6), tE [(40, .bool (decide (x8_2 < 8))), (39, .int .i64 x8_2), (2, .pointer none), (4, bp b5 0)], tR (OwnO 38 kr_ref10_Obj u4_Objs raws44 A45 qu4_Objs_2), tR (Own 3 (ekI .i64) v6 ([2, 2, 1, 3, 4, 8, 7, 6])), tR (Box b5 [.int .i64 2, .int .i64 7, .int .i64 a0, .int .i64 0, .int .i64 0, .int .i64 8]), tR (Box b3 [u4_Slots, u4_Objs, .int .i64 t1.NS, .int .i64 t1.NO]), tR (OwnR 71 kr_ref10_Slot u4_Slots qu4_Slots_2), tR (F), tS 43 (bp b3 0), tS 44 (bp b3 0), tS 45 (bp b3 1), tS 46 (u4_Objs), tS 47 (.int .i64 a0), tS 48 (.int .i64 x8_2), tS 49 (.int .i64 (w64 (a0 + x8_2))), tS 50 (v6), tS 51 (.int .i64 x8_2), tS 52 (idxp v6 (x8_2.toNat * (ekI .i64).sz)), tS 53 (.int .i64 x48), ⟨Value, [54], (fun u52_Queue => [(54, .agg #[.int .i64 t50.Kind, .int .i64 t50.Size, .int .i64 t50.Used, .int .i64 t50.First, .int .i64 t50.Radix, .int .i64 t50.Wait, u52_Queue, .int .i64 t50.Word, .int .i64 t50.State, .int .i64 t50.Owing, .int .i64 t50.Badge, .int .i64 t50.Prio, .int .i64 t50.On, .int .i64 t50.Owes, .int .i64 t50.Root.Kind, .int .i64 t50.Root.Rights, .int .i64 t50.Root.Obj, .int .i64 t50.Root.Badge, .int .i64 t50.Root.Guard, .int .i64 t50.Root.Bits, .int .i64 t50.Pages.a0, .int .i64 t50.Pages.a1, .int .i64 t50.Pages.a2, .int .i64 t50.Pages.a3, .int .i64 t50.Right.a0, .int .i64 t50.Right.a1, .int .i64 t50.Right.a2, .int .i64 t50.Right.a3, .int .i64 t50.In, .int .i64 t50.Page, .int .i64 t50.Bound, .int .i64 t50.Mask])]), (fun u52_Queue => [Own 3 (ekI .i64) u52_Queue t50.Queue]), fun _ => rfl⟩, tS 55 (idxp u4_Objs ((w64 (a0 + x8_2)).toNat * kr_ref10_Obj.sz)), tR (OwnR 38 kr_ref10_Obj u4_Objs (qu4_Objs_2.set (w64 (a0 + x8_2)).toNat t50))]) (D := [⟨[0], [], [11]⟩, ⟨[11], [], [12]⟩, ⟨[12], [], [13]⟩, ⟨[13, 8], [], [14]⟩, ⟨[1], [], [15]⟩, ⟨[2], [], [16]⟩, ⟨[15, 16], [], [17]⟩, ⟨[3], [], [18]⟩, ⟨[2], [], [19]⟩, ⟨[18, 19, 6], [], [20]⟩, ⟨[20, 6], [], [21]⟩, ⟨[21], [], [22]⟩, ⟨[14, 17, 5], [], [23]⟩, ⟨[23], [22, 5], [24]⟩]) (ini := [0, 1, 2, 3, 4, 5, 6, 7, 8, 9, 10]) (fin := [2, 1, 4, 0, 3, 11, 12, 13, 14, 15, 16, 17, 18, 19, 20, 21, 23, 24, 6, 7, 8, 9, 10]) (bf := [[], [0], [0, 1], [0, 1, 2], [], [], [4, 5], [], [], [7, 8], [7, 8, 9], [7, 8, 9, 10], [0, 1, 2, 3, 4, 5, 6, 7, 8, 9, 10, 11], [0, 1, 2, 3, 4, 5, 6, 7, 8, 9, 10, 11, 12]]) (by kernel_rfl) (by kernel_rfl) (fun x w h1 h2 => (.cons () (.cons () (.cons () (.cons () (.cons () (.cons () (.cons () (.cons () (.cons () (.cons () (.cons () (.nil ⟨EnvAll.of h1 ⟨rfl, rfl, rfl, rfl, rfl, rfl, rfl, rfl, trivial⟩, h2⟩))))))))))))) (fun Q => by kernel_rfl) ⟨?_, ?_, ?_, ?_, ?_, ?_, ?_, ?_, ?_, ?_, ?_, ?_, ?_, ?_, trivial⟩ ?_
      · rintro Fr _
        refine SO.v rfl (opv_move rfl) ?_
        exact SO.nilZ fun a w h1 h2 h3 h4 h5 => PZ.of h1 h3 h5 (.cons () (.cons () (.nil ⟨EnvAll.of h2 ⟨rfl, rfl, trivial⟩, h4⟩)))
      · rintro Fr _
        refine SO.v rfl (opv_nilCheck rfl) ?_
        exact SO.nilZ fun a w h1 h2 h3 h4 h5 => PZ.of h1 h3 h5 (.cons () (.cons () (.nil ⟨EnvAll.of h2 ⟨rfl, rfl, trivial⟩, h4⟩)))
      · rintro Fr _
        refine SO.v rfl (opv_fieldAddr Try.underlying42 rfl Try.sizeOf40 rfl rfl) ?_
        exact SO.nilZ fun a w h1 h2 h3 h4 h5 => PZ.of h1 h3 h5 (.cons () (.cons () (.nil ⟨EnvAll.of h2 ⟨rfl, rfl, trivial⟩, h4⟩)))
      · rintro Fr _ _
        refine SO.load1 rfl Try.isAgg40 rfl rfl ?_
        exact SO.nilZ fun a w h1 h2 h3 h4 h5 => PZ.of h1 h3 h5 (.cons () (.cons () (.cons () (.nil ⟨EnvAll.of h2 ⟨rfl, rfl, trivial⟩, h4⟩))))
      · rintro Fr _
        refine SO.v rfl (opv_move rfl) ?_
        exact SO.nilZ fun a w h1 h2 h3 h4 h5 => PZ.of h1 h3 h5 (.cons () (.cons () (.nil ⟨EnvAll.of h2 ⟨rfl, rfl, trivial⟩, h4⟩)))
      · rintro Fr _
        refine SO.v rfl (opv_move rfl) ?_
        exact SO.nilZ fun a w h1 h2 h3 h4 h5 => PZ.of h1 h3 h5 (.cons () (.cons () (.nil ⟨EnvAll.of h2 ⟨rfl, rfl, trivial⟩, h4⟩)))
      · rintro Fr _ _
        refine SO.v rfl (opv_add rfl rfl) ?_
        exact SO.nilZ fun a w h1 h2 h3 h4 h5 => PZ.of h1 h3 h5 (.cons () (.cons () (.cons () (.nil ⟨EnvAll.of h2 ⟨rfl, rfl, rfl, trivial⟩, h4⟩))))
      · rintro Fr _
        refine SO.v rfl (opv_move rfl) ?_
        exact SO.nilZ fun a w h1 h2 h3 h4 h5 => PZ.of h1 h3 h5 (.cons () (.cons () (.nil ⟨EnvAll.of h2 ⟨rfl, rfl, trivial⟩, h4⟩)))
      · rintro Fr _
        refine SO.v rfl (opv_move rfl) ?_
        exact SO.nilZ fun a w h1 h2 h3 h4 h5 => PZ.of h1 h3 h5 (.cons () (.cons () (.nil ⟨EnvAll.of h2 ⟨rfl, rfl, trivial⟩, h4⟩)))
      · rintro Fr _ _ _
        refine SO.v rfl (opv_idx Try.underlying35 Try.sizeOf3 hr7 rfl rfl hx49) ?_
        exact SO.nilZ fun a w h1 h2 h3 h4 h5 => PZ.of h1 h3 h5 (.cons () (.cons () (.cons () (.cons () (.nil ⟨EnvAll.of h2 ⟨rfl, rfl, rfl, trivial⟩, h4⟩)))))
      · rintro Fr _ _
        refine SO.loadI1 (j := 0) rfl Try.isAgg3 (Rd.head hr7) hx49 rfl rfl rfl rfl ?_
        exact SO.nilZ fun a w h1 h2 h3 h4 h5 => PZ.of h1 h3 h5 (.cons () (.cons () (.cons () (.nil ⟨EnvAll.of h2 ⟨rfl, rfl, trivial⟩, h4⟩))))
      · rintro Fr _
        refine SO.call (pre := []) rfl Try.call27 rfl rfl rfl (ref10_Fresh.ct _ _ ht51) trivial ?_
        rintro _ _ ⟨u52_Queue, rfl, rfl⟩
        refine SO.rd fun hr53 => ?_
        exact SO.nilZ fun a w h1 h2 h3 h4 h5 => PZ.of h1 h3 h5 (.cons () (.cons u52_Queue (.nil ⟨EnvAll.of h2 ⟨rfl, rfl, trivial⟩, h4⟩)))
      · rintro Fr _ _ _
        refine SO.v rfl (opv_idx Try.underlying40 Try.sizeOf38 hR47 rfl rfl hr57) ?_
        exact SO.nilZ fun a w h1 h2 h3 h4 h5 => PZ.of h1 h3 h5 (.cons () (.cons () (.cons () (.cons () (.nil ⟨EnvAll.of h2 ⟨rfl, rfl, rfl, trivial⟩, h4⟩)))))
      · rintro Fr _ u52_Queue _
        refine SO.rd fun hr59 => ?_
        refine SO.b1 ?_
        refine SO.b1 ?_
        refine SO.freeze hrel46 fun A60 hcov61 hru62 hrel63 hR64 => ?_
        refine SO.storeON (z' := t50) Try.sizeOf38 hrel63 hx55 rfl rfl rfl ⟨rfl, rfl, rfl, rfl, rfl, rfl, hru62, rfl, rfl, rfl, rfl, rfl, rfl, rfl, rfl, rfl, rfl, rfl, rfl, rfl, rfl, rfl, rfl, rfl, rfl, rfl, rfl, rfl, rfl, rfl, rfl, rfl, trivial⟩ (fun raws65 hrel66 hR67 => ?_)
        refine SO.closeR ?_
        exact SO.nilZ fun a w h1 h2 h3 h4 h5 => PZ.of h1 h3 h5 (.cons () (.cons () (.nil ⟨EnvAll.of h2 ⟨rfl, trivial⟩, h4⟩)))
      rintro _ _ _ _ _ _ _ _ _ _ _ _ _ _ _ _ _ _ _ _ _ _ _
      refine S.to (ρ' := [(8, .int .i64 x8_2), (0, .int .i64 a0), (40, .bool (decide (x8_2 < 8))), (39, .int .i64 x8_2), (2, .pointer none), (4, bp b5 0), (3, bp b3 0), (5, v6), (43, bp b3 0), (44, bp b3 0), (45, bp b3 1), (46, u4_Objs), (47, .int .i64 a0), (48, .int .i64 x8_2), (49, .int .i64 (w64 (a0 + x8_2))), (50, v6), (51, .int .i64 x8_2), (52, idxp v6 (x8_2.toNat * (ekI .i64).sz)), (53, .int .i64 x48), (55, idxp u4_Objs ((w64 (a0 + x8_2)).toNat * kr_ref10_Obj.sz))]) ⟨rfl, rfl, rfl, rfl, rfl, rfl, rfl, rfl, rfl, rfl, rfl, rfl, rfl, rfl, rfl, rfl, rfl, rfl, rfl, rfl, trivial⟩ ?_
      refine S.seq ?_
      refine S.region ?_
      refine SO.v rfl (opv_move rfl) ?_
      refine SO.v rfl (opv_geq rfl rfl) ?_
      refine SO.nil ?_
      rcases bool_or (decide (2 ≤ x8_2)) with b68 | b68
      · replace h := cond_t b68 h
        refine S.condT rfl b68 ?_
        refine S.b4 ?_
        refine S.openR fun raws69 A70 hrel71 hR72 => ?_
        obtain ⟨x73, hx74, h⟩ := opt_bind h
        obtain ⟨x75, hx76, h⟩ := opt_bind h
        obtain ⟨r77, hr78, hc79⟩ := relR.at hrel71 hx76
        refine S.draw' (Z := fun Q => ∀ (_ : Unit) (_ : Unit) (_ : Unit) (_ : Unit) (_ : Unit) (_ : Unit) (_ : Unit) (_ : Unit) (_ : Unit) (_ : Unit) (_ : Unit) (_ : Unit) (_ : Unit) (_ : Unit) (_ : Unit) (_ : Unit) (_ : Unit) (_ : Unit) (_ : Unit) (_ : Unit) (_ : Unit) (_ : Unit) (_ : Unit) (_ : Unit) (_ : Unit) (_ : Unit) (_ : Unit), Q [(8, .int .i64 x8_2), (0, .int .i64 a0), (57, .bool (decide (2 ≤ x8_2))), (56, .int .i64 x8_2), (40, .bool (decide (x8_2 < 8))), (39, .int .i64 x8_2), (2, .pointer none), (4, bp b5 0), (43, bp b3 0), (44, bp b3 0), (45, bp b3 1), (46, u4_Objs), (47, .int .i64 a0), (48, .int .i64 x8_2), (49, .int .i64 (w64 (a0 + x8_2))), (50, v6), (51, .int .i64 x8_2), (52, idxp v6 (x8_2.toNat * (ekI .i64).sz)), (53, .int .i64 x48), (55, idxp u4_Objs ((w64 (a0 + x8_2)).toNat * kr_ref10_Obj.sz)), (3, bp b3 0), (5, v6), (58, bp b3 0), (59, bp b3 0), (60, bp b3 0), (61, u4_Slots), (62, .int .i64 x8_2), (63, .int .i64 (w64 (6 + x8_2))), (64, v6), (65, .int .i64 x8_2), (66, idxp v6 (x8_2.toNat * (ekI .i64).sz)), (67, .int .i64 x73), (68, .int .i64 a0), (69, .int .i64 x8_2), (70, .int .i64 (w64 (a0 + x8_2))), (71, .agg #[.int .i64 x73, .int .i64 7, .int .i64 (w64 (a0 + x8_2)), .int .i64 0, .int .i64 0, .int .i64 0]), (72, idxp u4_Slots ((w64 (6 + x8_2)).toNat * kr_ref10_Slot.sz)), (73, idxp u4_Slots ((w64 (6 + x8_2)).toNat * kr_ref10_Slot.sz))] [OwnR 71 kr_ref10_Slot u4_Slots (qu4_Slots_2.set (w64 (6 + x8_2)).toNat ({ x75 with Cap := (⟨x73, 7, w64 (a0 + x8_2), 0, 0, 0⟩ : api_Cap) } : ref10_Slot)), OwnR 38 kr_ref10_Obj u4_Objs (qu4_Objs_2.set (w64 (a0 + x8_2)).toNat t50), Own 3 (ekI .i64) v6 ([2, 2, 1, 3, 4, 8, 7, 6]), Box b5 [.int .i64 2, .int .i64 7, .int .i64 a0, .int .i64 0, .int .i64 0, .int .i64 8], Box b3 [u4_Slots, u4_Objs, .int .i64 t1.NS, .int .i64 t1.NO], F]) (T := [tS 3 (bp b3 0), tS 8 (.int .i64 x8_2), tS 5 (v6), tS 0 (.int .i64 a0), tE [(57, .bool (decide (2 ≤ x8_2))), (56, .int .i64 x8_2), (40, .bool (decide (x8_2 < 8))), (39, .int .i64 x8_2), (2, .pointer none), (4, bp b5 0), (43, bp b3 0), (44, bp b3 0), (45, bp b3 1), (46, u4_Objs), (47, .int .i64 a0), (48, .int .i64 x8_2), (49, .int .i64 (w64 (a0 + x8_2))), (50, v6), (51, .int .i64 x8_2), (52, idxp v6 (x8_2.toNat * (ekI .i64).sz)), (53, .int .i64 x48), (55, idxp u4_Objs ((w64 (a0 + x8_2)).toNat * kr_ref10_Obj.sz))], tR (OwnO 71 kr_ref10_Slot u4_Slots raws69 A70 qu4_Slots_2), tR (OwnR 38 kr_ref10_Obj u4_Objs (qu4_Objs_2.set (w64 (a0 + x8_2)).toNat t50)), tR (Own 3 (ekI .i64) v6 ([2, 2, 1, 3, 4, 8, 7, 6])), tR (Box b5 [.int .i64 2, .int .i64 7, .int .i64 a0, .int .i64 0, .int .i64 0, .int .i64 8]), tR (Box b3 [u4_Slots, u4_Objs, .int .i64 t1.NS, .int .i64 t1.NO]), tR (F), tS 58 (bp b3 0), tS 59 (bp b3 0), tS 60 (bp b3 0), tS 61 (u4_Slots), tS 62 (.int .i64 x8_2), tS 63 (.int .i64 (w64 (6 + x8_2))), tS 64 (v6), tS 65 (.int .i64 x8_2), tS 66 (idxp v6 (x8_2.toNat * (ekI .i64).sz)), tS 67 (.int .i64 x73), tS 68 (.int .i64 a0), tS 69 (.int .i64 x8_2), tS 70 (.int .i64 (w64 (a0 + x8_2))), tS 71 (.agg #[.int .i64 x73, .int .i64 7, .int .i64 (w64 (a0 + x8_2)), .int .i64 0, .int .i64 0, .int .i64 0]), tS 72 (idxp u4_Slots ((w64 (6 + x8_2)).toNat * kr_ref10_Slot.sz)), tS 73 (idxp u4_Slots ((w64 (6 + x8_2)).toNat * kr_ref10_Slot.sz)), tR (OwnR 71 kr_ref10_Slot u4_Slots (qu4_Slots_2.set (w64 (6 + x8_2)).toNat ({ x75 with Cap := (⟨x73, 7, w64 (a0 + x8_2), 0, 0, 0⟩ : api_Cap) } : ref10_Slot)))]) (D := [⟨[0], [], [11]⟩, ⟨[11], [], [12]⟩, ⟨[12], [], [13]⟩, ⟨[13, 9], [], [14]⟩, ⟨[1], [], [15]⟩, ⟨[15], [], [16]⟩, ⟨[2], [], [17]⟩, ⟨[1], [], [18]⟩, ⟨[17, 18, 7], [], [19]⟩, ⟨[19, 7], [], [20]⟩, ⟨[3], [], [21]⟩, ⟨[1], [], [22]⟩, ⟨[21, 22], [], [23]⟩, ⟨[20, 23], [], [24]⟩, ⟨[14, 16, 5], [], [25]⟩, ⟨[25, 5], [], [26]⟩, ⟨[24, 26], [5], [27]⟩]) (ini := [0, 1, 2, 3, 4, 5, 6, 7, 8, 9, 10]) (fin := [1, 3, 4, 0, 2, 11, 12, 13, 14, 15, 16, 17, 18, 19, 20, 21, 22, 23, 24, 25, 26, 27, 6, 7, 8, 9, 10]) (bf := [[], [0], [0, 1], [0, 1, 2], [], [4], [], [], [6, 7], [6, 7, 8], [], [], [10, 11], [6, 7, 8, 9, 10, 11, 12], [0, 1, 2, 3, 4, 5, 6, 7, 8, 9, 10, 11, 12, 13], [0, 1, 2, 3, 4, 5, 6, 7, 8, 9, 10, 11, 12, 13, 14], [0, 1, 2, 3, 4, 5, 6, 7, 8, 9, 10, 11, 12, 13, 14, 15]]) (by kernel_rfl) (by kernel_rfl) (fun x w h1 h2 => (.cons () (.cons () (.cons () (.cons () (.cons () (.cons () (.cons () (.cons () (.cons () (.cons () (.cons () (.nil ⟨EnvAll.of h1 ⟨rfl, rfl, rfl, rfl, rfl, rfl, rfl, rfl, rfl, rfl, rfl, rfl, rfl, rfl, rfl, rfl, rfl, rfl, rfl, rfl, rfl, rfl, trivial⟩, h2⟩))))))))))))) (fun Q => by kernel_rfl) ⟨?_, ?_, ?_, ?_, ?_, ?_, ?_, ?_, ?_, ?_, ?_, ?_, ?_, ?_, ?_, ?_, ?_, trivial⟩ ?_
        · rintro Fr _
          refine SO.v rfl (opv_move rfl) ?_
          exact SO.nilZ fun a w h1 h2 h3 h4 h5 => PZ.of h1 h3 h5 (.cons () (.cons () (.nil ⟨EnvAll.of h2 ⟨rfl, rfl, trivial⟩, h4⟩)))
        · rintro Fr _
          refine SO.v rfl (opv_nilCheck rfl) ?_
          exact SO.nilZ fun a w h1 h2 h3 h4 h5 => PZ.of h1 h3 h5 (.cons () (.cons () (.nil ⟨EnvAll.of h2 ⟨rfl, rfl, trivial⟩, h4⟩)))
        · rintro Fr _
          refine SO.v rfl (opv_fieldAddr Try.underlying42 rfl Try.sizeOf39 rfl rfl) ?_
          exact SO.nilZ fun a w h1 h2 h3 h4 h5 => PZ.of h1 h3 h5 (.cons () (.cons () (.nil ⟨EnvAll.of h2 ⟨rfl, rfl, trivial⟩, h4⟩)))
        · rintro Fr _ _
          refine SO.load1 rfl Try.isAgg39 rfl rfl ?_
          exact SO.nilZ fun a w h1 h2 h3 h4 h5 => PZ.of h1 h3 h5 (.cons () (.cons () (.cons () (.nil ⟨EnvAll.of h2 ⟨rfl, rfl, trivial⟩, h4⟩))))
        · rintro Fr _
          refine SO.v rfl (opv_move rfl) ?_
          exact SO.nilZ fun a w h1 h2 h3 h4 h5 => PZ.of h1 h3 h5 (.cons () (.cons () (.nil ⟨EnvAll.of h2 ⟨rfl, rfl, trivial⟩, h4⟩)))
        · rintro Fr _
          refine SO.v rfl (opv_add rfl rfl) ?_
          exact SO.nilZ fun a w h1 h2 h3 h4 h5 => PZ.of h1 h3 h5 (.cons () (.cons () (.nil ⟨EnvAll.of h2 ⟨rfl, rfl, trivial⟩, h4⟩)))
        · rintro Fr _
          refine SO.v rfl (opv_move rfl) ?_
          exact SO.nilZ fun a w h1 h2 h3 h4 h5 => PZ.of h1 h3 h5 (.cons () (.cons () (.nil ⟨EnvAll.of h2 ⟨rfl, rfl, trivial⟩, h4⟩)))
        · rintro Fr _
          refine SO.v rfl (opv_move rfl) ?_
          exact SO.nilZ fun a w h1 h2 h3 h4 h5 => PZ.of h1 h3 h5 (.cons () (.cons () (.nil ⟨EnvAll.of h2 ⟨rfl, rfl, trivial⟩, h4⟩)))
        · rintro Fr _ _ _
          refine SO.v rfl (opv_idx Try.underlying35 Try.sizeOf3 hr7 rfl rfl hx74) ?_
          exact SO.nilZ fun a w h1 h2 h3 h4 h5 => PZ.of h1 h3 h5 (.cons () (.cons () (.cons () (.cons () (.nil ⟨EnvAll.of h2 ⟨rfl, rfl, rfl, trivial⟩, h4⟩)))))
        · rintro Fr _ _
          refine SO.loadI1 (j := 0) rfl Try.isAgg3 (Rd.head hr7) hx74 rfl rfl rfl rfl ?_
          exact SO.nilZ fun a w h1 h2 h3 h4 h5 => PZ.of h1 h3 h5 (.cons () (.cons () (.cons () (.nil ⟨EnvAll.of h2 ⟨rfl, rfl, trivial⟩, h4⟩))))
        · rintro Fr _
          refine SO.v rfl (opv_move rfl) ?_
          exact SO.nilZ fun a w h1 h2 h3 h4 h5 => PZ.of h1 h3 h5 (.cons () (.cons () (.nil ⟨EnvAll.of h2 ⟨rfl, rfl, trivial⟩, h4⟩)))
        · rintro Fr _
          refine SO.v rfl (opv_move rfl) ?_
          exact SO.nilZ fun a w h1 h2 h3 h4 h5 => PZ.of h1 h3 h5 (.cons () (.cons () (.nil ⟨EnvAll.of h2 ⟨rfl, rfl, trivial⟩, h4⟩)))
        · rintro Fr _ _
          refine SO.v rfl (opv_add rfl rfl) ?_
          exact SO.nilZ fun a w h1 h2 h3 h4 h5 => PZ.of h1 h3 h5 (.cons () (.cons () (.cons () (.nil ⟨EnvAll.of h2 ⟨rfl, rfl, rfl, trivial⟩, h4⟩))))
        · rintro Fr _ _
          refine SO.v rfl (opv_build (v := .agg #[.int .i64 x73, .int .i64 7, .int .i64 (w64 (a0 + x8_2)), .int .i64 0, .int .i64 0, .int .i64 0]) rfl (by intro w; kernel_rfl)) ?_
          exact SO.nilZ fun a w h1 h2 h3 h4 h5 => PZ.of h1 h3 h5 (.cons () (.cons () (.cons () (.nil ⟨EnvAll.of h2 ⟨rfl, rfl, rfl, trivial⟩, h4⟩))))
        · rintro Fr _ _ _
          refine SO.v rfl (opv_idx Try.underlying39 Try.sizeOf71 hR72 rfl rfl hr78) ?_
          exact SO.nilZ fun a w h1 h2 h3 h4 h5 => PZ.of h1 h3 h5 (.cons () (.cons () (.cons () (.cons () (.nil ⟨EnvAll.of h2 ⟨rfl, rfl, rfl, trivial⟩, h4⟩)))))
        · rintro Fr _ _
          refine SO.v rfl (opv_fieldIdx Try.underlying71 rfl Try.sizeOf24 hR72 hr78 rfl rfl) ?_
          exact SO.nilZ fun a w h1 h2 h3 h4 h5 => PZ.of h1 h3 h5 (.cons () (.cons () (.cons () (.nil ⟨EnvAll.of h2 ⟨rfl, rfl, trivial⟩, h4⟩))))
        · rintro Fr _ _ _
          refine SO.storeOP (j := 0) (us := [.int .i64 x73, .int .i64 7, .int .i64 (w64 (a0 + x8_2)), .int .i64 0, .int .i64 0, .int .i64 0]) (z' := ({ x75 with Cap := (⟨x73, 7, w64 (a0 + x8_2), 0, 0, 0⟩ : api_Cap) } : ref10_Slot)) Try.sizeOf24 hrel71 hx76 rfl rfl rfl rfl rfl rfl rfl (fun raws80 hrel81 hR82 => ?_)
          refine SO.closeR ?_
          exact SO.nilZ fun a w h1 h2 h3 h4 h5 => PZ.of h1 h3 h5 (.cons () (.cons () (.cons () (.nil ⟨EnvAll.of h2 ⟨rfl, rfl, trivial⟩, h4⟩))))
        rintro _ _ _ _ _ _ _ _ _ _ _ _ _ _ _ _ _ _ _ _ _ _ _ _ _ _ _
        refine S.to (ρ' := [(8, .int .i64 x8_2), (0, .int .i64 a0), (57, .bool (decide (2 ≤ x8_2))), (56, .int .i64 x8_2), (40, .bool (decide (x8_2 < 8))), (39, .int .i64 x8_2), (2, .pointer none), (4, bp b5 0), (43, bp b3 0), (44, bp b3 0), (45, bp b3 1), (46, u4_Objs), (47, .int .i64 a0), (48, .int .i64 x8_2), (49, .int .i64 (w64 (a0 + x8_2))), (50, v6), (51, .int .i64 x8_2), (52, idxp v6 (x8_2.toNat * (ekI .i64).sz)), (53, .int .i64 x48), (55, idxp u4_Objs ((w64 (a0 + x8_2)).toNat * kr_ref10_Obj.sz)), (3, bp b3 0), (5, v6), (58, bp b3 0), (59, bp b3 0), (60, bp b3 0), (61, u4_Slots), (62, .int .i64 x8_2), (63, .int .i64 (w64 (6 + x8_2))), (64, v6), (65, .int .i64 x8_2), (66, idxp v6 (x8_2.toNat * (ekI .i64).sz)), (67, .int .i64 x73), (68, .int .i64 a0), (69, .int .i64 x8_2), (70, .int .i64 (w64 (a0 + x8_2))), (71, .agg #[.int .i64 x73, .int .i64 7, .int .i64 (w64 (a0 + x8_2)), .int .i64 0, .int .i64 0, .int .i64 0]), (72, idxp u4_Slots ((w64 (6 + x8_2)).toNat * kr_ref10_Slot.sz)), (73, idxp u4_Slots ((w64 (6 + x8_2)).toNat * kr_ref10_Slot.sz))]) ⟨rfl, rfl, rfl, rfl, rfl, rfl, rfl, rfl, rfl, rfl, rfl, rfl, rfl, rfl, rfl, rfl, rfl, rfl, rfl, rfl, rfl, rfl, rfl, rfl, rfl, rfl, rfl, rfl, rfl, rfl, rfl, rfl, rfl, rfl, rfl, rfl, rfl, rfl, trivial⟩ ?_
        refine S.inBlock ?_
        refine S.region ?_
        refine SO.v rfl (opv_move rfl) ?_
        refine SO.v rfl (opv_add rfl rfl) ?_
        refine SO.v rfl (opv_assign rfl) ?_
        refine SO.nil ?_
        refine S.b5 ?_
        refine S.b2 ?_
        refine S.b2 ?_
        refine S.b5 ?_
        refine S.b5 ?_
        refine S.b5 ?_
        refine S.to ?_ (ih2 ((w64 (x8_2 + 1), qu4_Objs_2.set (w64 (a0 + x8_2)).toNat t50, qu4_Slots_2.set (w64 (6 + x8_2)).toNat ({ x75 with Cap := (⟨x73, 7, w64 (a0 + x8_2), 0, 0, 0⟩ : api_Cap) } : ref10_Slot)), ()) h)
        exact ⟨rfl, rfl, rfl, rfl, rfl, rfl, trivial⟩
      · replace h := cond_f b68 h
        refine S.condF rfl b68 ?_
        refine S.skip ?_
        refine S.inBlock ?_
        refine S.region ?_
        refine SO.v rfl (opv_move rfl) ?_
        refine SO.v rfl (opv_add rfl rfl) ?_
        refine SO.v rfl (opv_assign rfl) ?_
        refine SO.nil ?_
        refine S.b5 ?_
        refine S.b1 ?_
        refine S.b5 ?_
        refine S.b5 ?_
        refine S.b5 ?_
        refine S.b5 ?_
        refine S.to ?_ (ih2 ((w64 (x8_2 + 1), qu4_Objs_2.set (w64 (a0 + x8_2)).toNat t50, qu4_Slots_2), ()) h)
        exact ⟨rfl, rfl, rfl, rfl, rfl, rfl, trivial⟩
    · replace h := cond_f b43 h
      refine S.condF rfl b43 ?_
      refine S.exit rfl ?_
      cases h
      refine S.b5 ?_
      refine S.b5 ?_
      refine S.b5 ?_
      refine S.b5 ?_
      refine S.b5 ?_
      refine S.b5 ?_
      refine S.to ?_ (hK2 ())
      exact ⟨rfl, rfl, rfl, rfl, trivial⟩
  rintro _
  refine S.seq ?_
  refine S.region ?_
  refine SO.v rfl (opv_move rfl) ?_
  refine SO.v rfl (opv_nilCheck rfl) ?_
  refine SO.v rfl (opv_fieldAddr Try.underlying42 rfl Try.sizeOf40 rfl rfl) ?_
  refine SO.b2 ?_
  refine SO.load1 rfl Try.isAgg40 rfl rfl ?_
  refine SO.v rfl (opv_move rfl) ?_
  refine SO.b4 ?_
  refine SO.openR fun raws88 A89 hrel90 hR91 => ?_
  obtain ⟨x83, hx84, h⟩ := opt_bind h
  obtain ⟨r85, hr86, hc87⟩ := relR.at hrel90 hx84
  refine SO.v rfl (opv_idx Try.underlying40 Try.sizeOf38 hR91 rfl rfl hr86) ?_
  refine SO.v rfl (opv_fieldIdx Try.underlying38 rfl Try.sizeOf3 hR91 hr86 rfl rfl) ?_
  refine SO.storeO1 (j := 4) (q := .val (.int .i64 3)) (z' := ({ x83 with Radix := 3 } : ref10_Obj)) Try.sizeOf3 hrel90 hx84 rfl rfl rfl rfl rfl rfl rfl (fun raws92 hrel93 hR94 => ?_)
  refine SO.nil ?_
  refine S.to (ρ' := [(0, .int .i64 a0), (2, .pointer none), (3, bp b3 0), (4, bp b5 0)]) ⟨rfl, rfl, rfl, rfl, trivial⟩ ?_
  refine S.seq ?_
  refine S.region ?_
  refine SO.v rfl (opv_move rfl) ?_
  refine SO.v rfl (opv_nilCheck rfl) ?_
  refine SO.v rfl (opv_fieldAddr Try.underlying42 rfl Try.sizeOf40 rfl rfl) ?_
  refine SO.b1 ?_
  refine SO.load1 rfl Try.isAgg40 rfl rfl ?_
  refine SO.v rfl (opv_move rfl) ?_
  refine SO.v rfl (opv_add rfl rfl) ?_
  obtain ⟨x95, hx96, h⟩ := opt_bind h
  obtain ⟨r97, hr98, hc99⟩ := relR.at hrel93 hx96
  refine SO.v rfl (opv_idx Try.underlying40 Try.sizeOf38 hR94 rfl rfl hr98) ?_
  refine SO.v rfl (opv_fieldIdx Try.underlying38 rfl Try.sizeOf3 hR94 hr98 rfl rfl) ?_
  refine SO.b1 ?_
  refine SO.storeO1 (j := 3) (q := .val (.int .i64 8)) (z' := ({ x95 with First := 8 } : ref10_Obj)) Try.sizeOf3 hrel93 hx96 rfl rfl rfl rfl rfl rfl rfl (fun raws100 hrel101 hR102 => ?_)
  refine SO.nil ?_
  refine S.to (ρ' := [(0, .int .i64 a0), (2, .pointer none), (3, bp b3 0), (4, bp b5 0)]) ⟨rfl, rfl, rfl, rfl, trivial⟩ ?_
  refine S.seq ?_
  refine S.region ?_
  refine SO.v rfl (opv_move rfl) ?_
  refine SO.v rfl (opv_nilCheck rfl) ?_
  refine SO.v rfl (opv_fieldAddr Try.underlying42 rfl Try.sizeOf40 rfl rfl) ?_
  refine SO.b1 ?_
  refine SO.load1 rfl Try.isAgg40 rfl rfl ?_
  refine SO.v rfl (opv_move rfl) ?_
  refine SO.v rfl (opv_add rfl rfl) ?_
  obtain ⟨x103, hx104, h⟩ := opt_bind h
  obtain ⟨r105, hr106, hc107⟩ := relR.at hrel101 hx104
  refine SO.v rfl (opv_idx Try.underlying40 Try.sizeOf38 hR102 rfl rfl hr106) ?_
  refine SO.v rfl (opv_fieldIdx Try.underlying38 rfl Try.sizeOf3 hR102 hr106 rfl rfl) ?_
  refine SO.b1 ?_
  refine SO.storeO1 (j := 4) (q := .val (.int .i64 5)) (z' := ({ x103 with Radix := 5 } : ref10_Obj)) Try.sizeOf3 hrel101 hx104 rfl rfl rfl rfl rfl rfl rfl (fun raws108 hrel109 hR110 => ?_)
  refine SO.nil ?_
  refine S.to (ρ' := [(0, .int .i64 a0), (2, .pointer none), (3, bp b3 0), (4, bp b5 0)]) ⟨rfl, rfl, rfl, rfl, trivial⟩ ?_
  refine S.seq ?_
  refine S.region ?_
  refine SO.v rfl (opv_move rfl) ?_
  refine SO.v rfl (opv_nilCheck rfl) ?_
  refine SO.v rfl (opv_fieldAddr Try.underlying42 rfl Try.sizeOf40 rfl rfl) ?_
  refine SO.b1 ?_
  refine SO.load1 rfl Try.isAgg40 rfl rfl ?_
  refine SO.v rfl (opv_move rfl) ?_
  refine SO.v rfl (opv_add rfl rfl) ?_
  obtain ⟨x111, hx112, h⟩ := opt_bind h
  obtain ⟨r113, hr114, hc115⟩ := relR.at hrel109 hx112
  refine SO.v rfl (opv_idx Try.underlying40 Try.sizeOf38 hR110 rfl rfl hr114) ?_
  refine SO.v rfl (opv_fieldIdx Try.underlying38 rfl Try.sizeOf3 hR110 hr114 rfl rfl) ?_
  refine SO.b1 ?_
  refine SO.storeO1 (j := 1) (q := .val (.int .i64 200)) (z' := ({ x111 with Size := 200 } : ref10_Obj)) Try.sizeOf3 hrel109 hx112 rfl rfl rfl rfl rfl rfl rfl (fun raws116 hrel117 hR118 => ?_)
  refine SO.nil ?_
  refine S.to (ρ' := [(0, .int .i64 a0), (2, .pointer none), (3, bp b3 0), (4, bp b5 0)]) ⟨rfl, rfl, rfl, rfl, trivial⟩ ?_
  refine S.seq ?_
  refine S.region ?_
  refine SO.v rfl (opv_move rfl) ?_
  refine SO.v rfl (opv_nilCheck rfl) ?_
  refine SO.v rfl (opv_fieldAddr Try.underlying42 rfl Try.sizeOf39 rfl rfl) ?_
  refine SO.b1 ?_
  refine SO.load1 rfl Try.isAgg39 rfl rfl ?_
  refine SO.v rfl (opv_move rfl) ?_
  refine SO.v rfl (opv_add rfl rfl) ?_
  refine SO.v rfl (opv_build (v := .agg #[.int .i64 2, .int .i64 7, .int .i64 (w64 (a0 + 1)), .int .i64 0, .int .i64 0, .int .i64 0]) rfl (by intro w; kernel_rfl)) ?_
  refine SO.b4 ?_
  refine SO.openR fun raws124 A125 hrel126 hR127 => ?_
  obtain ⟨x119, hx120, h⟩ := opt_bind h
  obtain ⟨r121, hr122, hc123⟩ := relR.at hrel126 hx120
  refine SO.v rfl (opv_idx Try.underlying39 Try.sizeOf71 hR127 rfl rfl hr122) ?_
  refine SO.v rfl (opv_fieldIdx Try.underlying71 rfl Try.sizeOf24 hR127 hr122 rfl rfl) ?_
  refine SO.storeOP (j := 0) (us := [.int .i64 2, .int .i64 7, .int .i64 (w64 (a0 + 1)), .int .i64 0, .int .i64 0, .int .i64 0]) (z' := ({ x119 with Cap := (⟨2, 7, w64 (a0 + 1), 0, 0, 0⟩ : api_Cap) } : ref10_Slot)) Try.sizeOf24 hrel126 hx120 rfl rfl rfl rfl rfl rfl rfl (fun raws128 hrel129 hR130 => ?_)
  refine SO.nil ?_
  refine S.to (ρ' := [(0, .int .i64 a0), (2, .pointer none), (3, bp b3 0), (4, bp b5 0)]) ⟨rfl, rfl, rfl, rfl, trivial⟩ ?_
  refine S.seq ?_
  obtain ⟨x131, hx132, h⟩ := opt_bind h
  obtain ⟨r133, hr134, hc135⟩ := relR.at hrel129 hx132
  refine S.draw' (Z := fun Q => ∀ (_ : Unit) (_ : Unit) (_ : Unit) (_ : Unit) (_ : Unit) (_ : Unit) (_ : Unit) (_ : Unit), Q [(0, .int .i64 a0), (2, .pointer none), (3, bp b3 0)] [OwnR 71 kr_ref10_Slot u4_Slots ((qu4_Slots_e2.set (0 : Int).toNat ({ x119 with Cap := (⟨2, 7, w64 (a0 + 1), 0, 0, 0⟩ : api_Cap) } : ref10_Slot)).set (1 : Int).toNat ({ x131 with Cap := (⟨2, 7, a0, 0, 0, 8⟩ : api_Cap) } : ref10_Slot)), Box b3 [u4_Slots, u4_Objs, .int .i64 t1.NS, .int .i64 t1.NO], OwnO 38 kr_ref10_Obj u4_Objs raws116 A89 ((((qu4_Objs_e2.set a0.toNat ({ x83 with Radix := 3 } : ref10_Obj)).set (w64 (a0 + 1)).toNat ({ x95 with First := 8 } : ref10_Obj)).set (w64 (a0 + 1)).toNat ({ x103 with Radix := 5 } : ref10_Obj)).set (w64 (a0 + 2)).toNat ({ x111 with Size := 200 } : ref10_Obj)), Own 3 (ekI .i64) v6 ([2, 2, 1, 3, 4, 8, 7, 6]), Box b5 [.int .i64 2, .int .i64 7, .int .i64 a0, .int .i64 0, .int .i64 0, .int .i64 8], F]) (T := [tS 3 (bp b3 0), tS 4 (bp b5 0), tE [(0, .int .i64 a0), (2, .pointer none)], tR (OwnO 71 kr_ref10_Slot u4_Slots raws128 A125 (qu4_Slots_e2.set (0 : Int).toNat ({ x119 with Cap := (⟨2, 7, w64 (a0 + 1), 0, 0, 0⟩ : api_Cap) } : ref10_Slot))), tR (Box b3 [u4_Slots, u4_Objs, .int .i64 t1.NS, .int .i64 t1.NO]), tR (OwnO 38 kr_ref10_Obj u4_Objs raws116 A89 ((((qu4_Objs_e2.set a0.toNat ({ x83 with Radix := 3 } : ref10_Obj)).set (w64 (a0 + 1)).toNat ({ x95 with First := 8 } : ref10_Obj)).set (w64 (a0 + 1)).toNat ({ x103 with Radix := 5 } : ref10_Obj)).set (w64 (a0 + 2)).toNat ({ x111 with Size := 200 } : ref10_Obj))), tR (Own 3 (ekI .i64) v6 ([2, 2, 1, 3, 4, 8, 7, 6])), tR (Box b5 [.int .i64 2, .int .i64 7, .int .i64 a0, .int .i64 0, .int .i64 0, .int .i64 8]), tR (F), tS 114 (bp b3 0), tS 115 (bp b3 0), tS 116 (bp b3 0), tS 117 (u4_Slots), tS 118 (.agg #[.int .i64 2, .int .i64 7, .int .i64 a0, .int .i64 0, .int .i64 0, .int .i64 8]), tS 119 (idxp u4_Slots ((1 : Int).toNat * kr_ref10_Slot.sz)), tS 120 (idxp u4_Slots ((1 : Int).toNat * kr_ref10_Slot.sz)), tR (OwnR 71 kr_ref10_Slot u4_Slots ((qu4_Slots_e2.set (0 : Int).toNat ({ x119 with Cap := (⟨2, 7, w64 (a0 + 1), 0, 0, 0⟩ : api_Cap) } : ref10_Slot)).set (1 : Int).toNat ({ x131 with Cap := (⟨2, 7, a0, 0, 0, 8⟩ : api_Cap) } : ref10_Slot)))]) (D := [⟨[0], [], [9]⟩, ⟨[9], [], [10]⟩, ⟨[10], [], [11]⟩, ⟨[11, 4], [], [12]⟩, ⟨[1, 7], [], [13]⟩, ⟨[12, 3], [], [14]⟩, ⟨[14, 3], [], [15]⟩, ⟨[13, 15], [3], [16]⟩]) (ini := [0, 1, 2, 3, 4, 5, 6, 7, 8]) (fin := [2, 0, 16, 4, 5, 6, 7, 8]) (bf := [[], [0], [0, 1], [0, 1, 2], [], [0, 1, 2, 3, 4], [0, 1, 2, 3, 4, 5], [0, 1, 2, 3, 4, 5, 6]]) (by kernel_rfl) (by kernel_rfl) (fun x w h1 h2 => (.cons () (.cons () (.cons () (.cons () (.cons () (.cons () (.cons () (.cons () (.cons () (.nil ⟨EnvAll.of h1 ⟨rfl, rfl, rfl, rfl, trivial⟩, h2⟩))))))))))) (fun Q => by kernel_rfl) ⟨?_, ?_, ?_, ?_, ?_, ?_, ?_, ?_, trivial⟩ ?_
  · rintro Fr _
    refine SO.v rfl (opv_move rfl) ?_
    exact SO.nilZ fun a w h1 h2 h3 h4 h5 => PZ.of h1 h3 h5 (.cons () (.cons () (.nil ⟨EnvAll.of h2 ⟨rfl, rfl, trivial⟩, h4⟩)))
  · rintro Fr _
    refine SO.v rfl (opv_nilCheck rfl) ?_
    exact SO.nilZ fun a w h1 h2 h3 h4 h5 => PZ.of h1 h3 h5 (.cons () (.cons () (.nil ⟨EnvAll.of h2 ⟨rfl, rfl, trivial⟩, h4⟩)))
  · rintro Fr _
    refine SO.v rfl (opv_fieldAddr Try.underlying42 rfl Try.sizeOf39 rfl rfl) ?_
    exact SO.nilZ fun a w h1 h2 h3 h4 h5 => PZ.of h1 h3 h5 (.cons () (.cons () (.nil ⟨EnvAll.of h2 ⟨rfl, rfl, trivial⟩, h4⟩)))
  · rintro Fr _ _
    refine SO.load1 rfl Try.isAgg39 rfl rfl ?_
    exact SO.nilZ fun a w h1 h2 h3 h4 h5 => PZ.of h1 h3 h5 (.cons () (.cons () (.cons () (.nil ⟨EnvAll.of h2 ⟨rfl, rfl, trivial⟩, h4⟩))))
  · rintro Fr _ _
    refine SO.loadN rfl Try.isAgg24 Try.sizeOf24 rfl rfl rfl ?_
    exact SO.nilZ fun a w h1 h2 h3 h4 h5 => PZ.of h1 h3 h5 (.cons () (.cons () (.cons () (.nil ⟨EnvAll.of h2 ⟨rfl, rfl, trivial⟩, h4⟩))))
  · rintro Fr _ _
    refine SO.v rfl (opv_idx Try.underlying39 Try.sizeOf71 hR130 rfl rfl hr134) ?_
    exact SO.nilZ fun a w h1 h2 h3 h4 h5 => PZ.of h1 h3 h5 (.cons () (.cons () (.cons () (.nil ⟨EnvAll.of h2 ⟨rfl, rfl, trivial⟩, h4⟩))))
  · rintro Fr _ _
    refine SO.v rfl (opv_fieldIdx Try.underlying71 rfl Try.sizeOf24 hR130 hr134 rfl rfl) ?_
    exact SO.nilZ fun a w h1 h2 h3 h4 h5 => PZ.of h1 h3 h5 (.cons () (.cons () (.cons () (.nil ⟨EnvAll.of h2 ⟨rfl, rfl, trivial⟩, h4⟩))))
  · rintro Fr _ _ _
    refine SO.storeOP (j := 0) (us := [.int .i64 2, .int .i64 7, .int .i64 a0, .int .i64 0, .int .i64 0, .int .i64 8]) (z' := ({ x131 with Cap := (⟨2, 7, a0, 0, 0, 8⟩ : api_Cap) } : ref10_Slot)) Try.sizeOf24 hrel129 hx132 rfl rfl rfl rfl rfl rfl rfl (fun raws136 hrel137 hR138 => ?_)
    refine SO.closeR ?_
    exact SO.nilZ fun a w h1 h2 h3 h4 h5 => PZ.of h1 h3 h5 (.cons () (.cons () (.cons () (.nil ⟨EnvAll.of h2 ⟨rfl, rfl, trivial⟩, h4⟩))))
  rintro _ _ _ _ _ _ _ _
  refine S.to (ρ' := [(0, .int .i64 a0), (2, .pointer none), (3, bp b3 0)]) ⟨rfl, rfl, rfl, trivial⟩ ?_
  refine S.seq ?_
  refine S.region ?_
  refine SO.v rfl (opv_move rfl) ?_
  refine SO.v rfl (opv_nilCheck rfl) ?_
  refine SO.v rfl (opv_fieldAddr Try.underlying42 rfl Try.sizeOf3 rfl rfl) ?_
  refine SO.b1 ?_
  refine SO.store1 Try.sizeOf3 rfl rfl rfl rfl ?_
  refine SO.nil ?_
  refine S.seq ?_
  refine S.region ?_
  refine SO.v rfl (opv_move rfl) ?_
  refine SO.v rfl (opv_move rfl) ?_
  refine SO.v rfl (opv_add rfl rfl) ?_
  refine SO.v rfl (opv_nilCheck rfl) ?_
  refine SO.v rfl (opv_fieldAddr Try.underlying42 rfl Try.sizeOf3 rfl rfl) ?_
  refine SO.store1 Try.sizeOf3 rfl rfl rfl rfl ?_
  refine SO.nil ?_
  refine S.to (ρ' := [(2, .pointer none), (3, bp b3 0)]) ⟨rfl, rfl, trivial⟩ ?_
  refine S.seq ?_
  refine S.region ?_
  refine SO.v rfl (opv_move rfl) ?_
  refine SO.v rfl (opv_assign rfl) ?_
  refine SO.nil ?_
  cases h
  refine S.b2 ?_
  refine S.closeR ?_
  refine S.b3 ?_
  refine S.drop ?_
  refine S.b3 ?_
  refine S.drop ?_
  refine S.b3 ?_
  refine S.b1 ?_
  refine S.b3 ?_
  refine S.b3 ?_
  exact S.ret1 Try.func10 rfl rfl (fun w hs hk => hR w _ _ ⟨b3, u4_Slots, u4_Objs, rfl, rfl⟩ hs hk)
end Go.Proofs
namespace Go.Proofs
open Go.Sl Go.RowKit
/-! 28 padstone/padstoneref01.Word -/
def ref01_Word.f (a0 : api_Cap) : Option (Int) :=
  some (wu64 ((wu64 ((wu64 ((wu64 ((wu64 ((wu64 a0.Kind) + (wu64 (16 * (wu64 a0.Rights))))) + (wu64 (128 * (wu64 a0.Obj))))) + (wu64 (4096 * (wu64 a0.Badge))))) + (wu64 (268435456 * (wu64 a0.Bits))))) + (wu64 (4294967296 * (wu64 a0.Guard)))))
set_option maxHeartbeats 8000000 in
set_option maxRecDepth 100000 in
theorem ref01_Word.ct (a0 : api_Cap) (r0 : Int) (h : ref01_Word.f a0 = some r0) :
    Ct Try.prog 28 [.agg #[.int .i64 a0.Kind, .int .i64 a0.Rights, .int .i64 a0.Obj, .int .i64 a0.Badge, .int .i64 a0.Guard, .int .i64 a0.Bits]] (fun _ => True) [] (fun u H' => u = .int .u64 r0 ∧ H' = []) := by
  unfold ref01_Word.f at h
  refine Ct.intro (n := 31) Try.func28 rfl rfl rfl ?_
  intro R w0 F hF hR
  refine S.seq ?_
  refine S.region ?_
  refine SO.box rfl rfl rfl (fun b1 => ?_)
  refine SO.v rfl (opv_assign rfl) ?_
  refine SO.nil ?_
  refine S.seq ?_
  refine S.region ?_
  refine SO.v rfl (opv_fieldAddr Try.underlying24 rfl Try.sizeOf3 rfl rfl) ?_
  refine SO.load1 rfl Try.isAgg3 rfl rfl ?_
  refine SO.v rfl (opv_conv Try.underlying3 Try.underlying72 rfl) ?_
  refine SO.v rfl (opv_fieldAddr Try.underlying24 rfl Try.sizeOf3 rfl rfl) ?_
  refine SO.load1 rfl Try.isAgg3 rfl rfl ?_
  refine SO.v rfl (opv_conv Try.underlying3 Try.underlying72 rfl) ?_
  refine SO.v rfl (opv_mul rfl rfl) ?_
  refine SO.v rfl (opv_add rfl rfl) ?_
  refine SO.v rfl (opv_fieldAddr Try.underlying24 rfl Try.sizeOf3 rfl rfl) ?_
  refine SO.load1 rfl Try.isAgg3 rfl rfl ?_
  refine SO.v rfl (opv_conv Try.underlying3 Try.underlying72 rfl) ?_
  refine SO.v rfl (opv_mul rfl rfl) ?_
  refine SO.v rfl (opv_add rfl rfl) ?_
  refine SO.v rfl (opv_fieldAddr Try.underlying24 rfl Try.sizeOf3 rfl rfl) ?_
  refine SO.load1 rfl Try.isAgg3 rfl rfl ?_
  refine SO.v rfl (opv_conv Try.underlying3 Try.underlying72 rfl) ?_
  refine SO.v rfl (opv_mul rfl rfl) ?_
  refine SO.v rfl (opv_add rfl rfl) ?_
  refine SO.v rfl (opv_fieldAddr Try.underlying24 rfl Try.sizeOf3 rfl rfl) ?_
  refine SO.load1 rfl Try.isAgg3 rfl rfl ?_
  refine SO.v rfl (opv_conv Try.underlying3 Try.underlying72 rfl) ?_
  refine SO.v rfl (opv_mul rfl rfl) ?_
  refine SO.v rfl (opv_add rfl rfl) ?_
  refine SO.v rfl (opv_fieldAddr Try.underlying24 rfl Try.sizeOf3 rfl rfl) ?_
  refine SO.load1 rfl Try.isAgg3 rfl rfl ?_
  refine SO.v rfl (opv_conv Try.underlying3 Try.underlying72 rfl) ?_
  refine SO.v rfl (opv_mul rfl rfl) ?_
  refine SO.v rfl (opv_add rfl rfl) ?_
  refine SO.v rfl (opv_assign rfl) ?_
  refine SO.nil ?_
  refine S.to (ρ' := [(2, .int .u64 (wu64 ((wu64 ((wu64 ((wu64 ((wu64 ((wu64 a0.Kind) + (wu64 (16 * (wu64 a0.Rights))))) + (wu64 (128 * (wu64 a0.Obj))))) + (wu64 (4096 * (wu64 a0.Badge))))) + (wu64 (268435456 * (wu64 a0.Bits))))) + (wu64 (4294967296 * (wu64 a0.Guard))))))]) ⟨rfl, trivial⟩ ?_
  cases h
  refine S.drop ?_
  exact S.ret1 Try.func28 rfl rfl (fun w hs hk => hR w _ _ ⟨rfl, rfl⟩ hs hk)
end Go.Proofs
namespace Go.Proofs
open Go.Sl Go.RowKit
/-! 11 (*padstone/padstoneref10.State).Words -/
def ref10_State_Words.l2 (x4_1 : Int) (x7 : ref10_Slot) : Nat → (Int × (List Int)) → Option ((Int × Int × Bool × (List Int)))
  | 0, _ => none
  | k + 1, (x6_2, qv1_2) => bif decide (x6_2 < (x7.Kids.length : Int)) then ((at_ x7.Kids x6_2).bind fun x30 => (bif x6_2 == 0 then ((at_ qv1_2 (w64 ((w64 (5 * x4_1)) + 2))).bind fun x33 => some (qv1_2.set (w64 ((w64 (5 * x4_1)) + 2)).toNat (wu64 (w64 (x30 + 1))))) else ((at_ x7.Kids (w64 (x6_2 - 1))).bind fun x36 => (at_ qv1_2 (w64 ((w64 (5 * x30)) + 4))).bind fun x38 => some (qv1_2.set (w64 ((w64 (5 * x30)) + 4)).toNat (wu64 (w64 (x36 + 1)))))).bind fun qv1_3 => bif decide ((w64 (x6_2 + 1)) < (x7.Kids.length : Int)) then ((at_ x7.Kids (w64 (x6_2 + 1))).bind fun x43 => (at_ qv1_3 (w64 ((w64 (5 * x30)) + 3))).bind fun x45 => ref10_State_Words.l2 x4_1 x7 k (w64 (x6_2 + 1), qv1_3.set (w64 ((w64 (5 * x30)) + 3)).toNat (wu64 (w64 (x43 + 1))))) else (ref10_State_Words.l2 x4_1 x7 k (w64 (x6_2 + 1), qv1_3))) else (some (x6_2, x6_2, decide (x6_2 < (x7.Kids.length : Int)), qv1_2))
def ref10_State_Words.l1 (a0 : ref10_State) : Nat → (Int × (List Int)) → Option ((List Int))
  | 0, _ => none
  | k + 1, (x4_1, qv1_1) => bif decide (x4_1 < 96) then ((at_ a0.Slots x4_1).bind fun x7 => (ref01_Word.f x7.Cap).bind fun t20 => (at_ qv1_1 (w64 (5 * x4_1))).bind fun x22 => (at_ (qv1_1.set (w64 (5 * x4_1)).toNat t20) (w64 ((w64 (5 * x4_1)) + 1))).bind fun x25 => (ref10_State_Words.l2 x4_1 x7 k (0, (qv1_1.set (w64 (5 * x4_1)).toNat t20).set (w64 ((w64 (5 * x4_1)) + 1)).toNat (wu64 (w64 (x7.Parent + 1))))).bind fun (j6_e2, j42_e2, j46_e2, qv1_e2) => ref10_State_Words.l1 a0 k (w64 (x4_1 + 1), qv1_e2)) else (some qv1_1)
def ref10_State_Words.l6 (x8_4 : Int) (x52 : ref10_Obj) : Nat → (Int × (List Int)) → Option ((Int × Int × Bool × (List Int)))
  | 0, _ => none
  | k + 1, (x11_6, qv1_6) => bif decide (x11_6 < 4) then ((A4.get x52.Pages x11_6).bind fun x127 => bif decide (0 ≤ x127) then ((A4.get x52.Pages x11_6).bind fun x130 => (A4.get x52.Right x11_6).bind fun x132 => (at_ qv1_6 (w64 ((w64 ((w64 (480 + (w64 (8 * x8_4)))) + 1)) + x11_6))).bind fun x134 => ref10_State_Words.l6 x8_4 x52 k (w64 (x11_6 + 1), qv1_6.set (w64 ((w64 ((w64 (480 + (w64 (8 * x8_4)))) + 1)) + x11_6)).toNat (wu64 (w64 ((w64 (8 * (w64 (x130 + 1)))) + x132))))) else (ref10_State_Words.l6 x8_4 x52 k (w64 (x11_6 + 1), qv1_6))) else (some (x11_6, x11_6, decide (x11_6 < 4), qv1_6))
def ref10_State_Words.l7 (x8_4 : Int) (x52 : ref10_Obj) : Nat → (Int × (List Int)) → Option ((Int × Int × Bool × (List Int)))
  | 0, _ => none
  | k + 1, (x12_7, qv1_7) => bif decide (x12_7 < (x52.Queue.length : Int)) then ((at_ x52.Queue x12_7).bind fun x152 => (bif x12_7 == 0 then ((at_ qv1_7 (w64 ((w64 (480 + (w64 (8 * x8_4)))) + 2))).bind fun x155 => some (qv1_7.set (w64 ((w64 (480 + (w64 (8 * x8_4)))) + 2)).toNat (wu64 (w64 (x152 + 1))))) else (some qv1_7)).bind fun qv1_8 => bif decide ((w64 (x12_7 + 1)) < (x52.Queue.length : Int)) then ((at_ x52.Queue (w64 (x12_7 + 1))).bind fun x160 => (at_ qv1_8 (w64 ((w64 (480 + (w64 (8 * x152)))) + 2))).bind fun x162 => ref10_State_Words.l7 x8_4 x52 k (w64 (x12_7 + 1), qv1_8.set (w64 ((w64 (480 + (w64 (8 * x152)))) + 2)).toNat (wu64 (w64 (x160 + 1))))) else ((at_ qv1_8 (w64 ((w64 (480 + (w64 (8 * x8_4)))) + 3))).bind fun x165 => ref10_State_Words.l7 x8_4 x52 k (w64 (x12_7 + 1), qv1_8.set (w64 ((w64 (480 + (w64 (8 * x8_4)))) + 3)).toNat (wu64 (w64 (x152 + 1)))))) else (some (x12_7, x12_7, decide (x12_7 < (x52.Queue.length : Int)), qv1_7))
def ref10_State_Words.l4 (a0 : ref10_State) : Nat → (Int × (List Int)) → Option ((List Int))
  | 0, _ => none
  | k + 1, (x8_4, qv1_4) => bif decide (x8_4 < 32) then ((at_ a0.Objs x8_4).bind fun x52 => (at_ qv1_4 (w64 (480 + (w64 (8 * x8_4))))).bind fun x65 => (bif x52.Kind == 1 then ((at_ (qv1_4.set (w64 (480 + (w64 (8 * x8_4)))).toNat (wu64 x52.Kind)) (w64 ((w64 (480 + (w64 (8 * x8_4)))) + 1))).bind fun x69 => (at_ ((qv1_4.set (w64 (480 + (w64 (8 * x8_4)))).toNat (wu64 x52.Kind)).set (w64 ((w64 (480 + (w64 (8 * x8_4)))) + 1)).toNat (wu64 x52.Size)) (w64 ((w64 (480 + (w64 (8 * x8_4)))) + 2))).bind fun x72 => some (((qv1_4.set (w64 (480 + (w64 (8 * x8_4)))).toNat (wu64 x52.Kind)).set (w64 ((w64 (480 + (w64 (8 * x8_4)))) + 1)).toNat (wu64 x52.Size)).set (w64 ((w64 (480 + (w64 (8 * x8_4)))) + 2)).toNat (wu64 x52.Used))) else (bif x52.Kind == 2 then ((at_ (qv1_4.set (w64 (480 + (w64 (8 * x8_4)))).toNat (wu64 x52.Kind)) (w64 ((w64 (480 + (w64 (8 * x8_4)))) + 1))).bind fun x76 => (at_ ((qv1_4.set (w64 (480 + (w64 (8 * x8_4)))).toNat (wu64 x52.Kind)).set (w64 ((w64 (480 + (w64 (8 * x8_4)))) + 1)).toNat (wu64 x52.First)) (w64 ((w64 (480 + (w64 (8 * x8_4)))) + 2))).bind fun x79 => some (((qv1_4.set (w64 (480 + (w64 (8 * x8_4)))).toNat (wu64 x52.Kind)).set (w64 ((w64 (480 + (w64 (8 * x8_4)))) + 1)).toNat (wu64 x52.First)).set (w64 ((w64 (480 + (w64 (8 * x8_4)))) + 2)).toNat (wu64 x52.Radix))) else (bif x52.Kind == 3 then ((at_ (qv1_4.set (w64 (480 + (w64 (8 * x8_4)))).toNat (wu64 x52.Kind)) (w64 ((w64 (480 + (w64 (8 * x8_4)))) + 1))).bind fun x83 => some ((qv1_4.set (w64 (480 + (w64 (8 * x8_4)))).toNat (wu64 x52.Kind)).set (w64 ((w64 (480 + (w64 (8 * x8_4)))) + 1)).toNat (wu64 x52.Wait))) else (bif x52.Kind == 4 then ((at_ (qv1_4.set (w64 (480 + (w64 (8 * x8_4)))).toNat (wu64 x52.Kind)) (w64 ((w64 (480 + (w64 (8 * x8_4)))) + 1))).bind fun x87 => some ((qv1_4.set (w64 (480 + (w64 (8 * x8_4)))).toNat (wu64 x52.Kind)).set (w64 ((w64 (480 + (w64 (8 * x8_4)))) + 1)).toNat (wu64 x52.Word))) else (bif x52.Kind == 5 then ((at_ (qv1_4.set (w64 (480 + (w64 (8 * x8_4)))).toNat (wu64 x52.Kind)) (w64 ((w64 (480 + (w64 (8 * x8_4)))) + 1))).bind fun x91 => (at_ ((qv1_4.set (w64 (480 + (w64 (8 * x8_4)))).toNat (wu64 x52.Kind)).set (w64 ((w64 (480 + (w64 (8 * x8_4)))) + 1)).toNat (wu64 x52.State)) (w64 ((w64 (480 + (w64 (8 * x8_4)))) + 2))).bind fun x94 => (at_ ((qv1_4.set (w64 (480 + (w64 (8 * x8_4)))).toNat (wu64 x52.Kind)).set (w64 ((w64 (480 + (w64 (8 * x8_4)))) + 1)).toNat (wu64 x52.State)) (w64 ((w64 (480 + (w64 (8 * x8_4)))) + 2))).bind fun x96 => (at_ (((qv1_4.set (w64 (480 + (w64 (8 * x8_4)))).toNat (wu64 x52.Kind)).set (w64 ((w64 (480 + (w64 (8 * x8_4)))) + 1)).toNat (wu64 x52.State)).set (w64 ((w64 (480 + (w64 (8 * x8_4)))) + 2)).toNat (wu64 (x94 + (wu64 (w64 (x52.Owing + 1)))))) (w64 ((w64 (480 + (w64 (8 * x8_4)))) + 3))).bind fun x100 => (at_ ((((qv1_4.set (w64 (480 + (w64 (8 * x8_4)))).toNat (wu64 x52.Kind)).set (w64 ((w64 (480 + (w64 (8 * x8_4)))) + 1)).toNat (wu64 x52.State)).set (w64 ((w64 (480 + (w64 (8 * x8_4)))) + 2)).toNat (wu64 (x94 + (wu64 (w64 (x52.Owing + 1)))))).set (w64 ((w64 (480 + (w64 (8 * x8_4)))) + 3)).toNat (wu64 x52.Word)) (w64 ((w64 (480 + (w64 (8 * x8_4)))) + 4))).bind fun x103 => (at_ (((((qv1_4.set (w64 (480 + (w64 (8 * x8_4)))).toNat (wu64 x52.Kind)).set (w64 ((w64 (480 + (w64 (8 * x8_4)))) + 1)).toNat (wu64 x52.State)).set (w64 ((w64 (480 + (w64 (8 * x8_4)))) + 2)).toNat (wu64 (x94 + (wu64 (w64 (x52.Owing + 1)))))).set (w64 ((w64 (480 + (w64 (8 * x8_4)))) + 3)).toNat (wu64 x52.Word)).set (w64 ((w64 (480 + (w64 (8 * x8_4)))) + 4)).toNat (wu64 x52.Badge)) (w64 ((w64 (480 + (w64 (8 * x8_4)))) + 5))).bind fun x106 => (at_ ((((((qv1_4.set (w64 (480 + (w64 (8 * x8_4)))).toNat (wu64 x52.Kind)).set (w64 ((w64 (480 + (w64 (8 * x8_4)))) + 1)).toNat (wu64 x52.State)).set (w64 ((w64 (480 + (w64 (8 * x8_4)))) + 2)).toNat (wu64 (x94 + (wu64 (w64 (x52.Owing + 1)))))).set (w64 ((w64 (480 + (w64 (8 * x8_4)))) + 3)).toNat (wu64 x52.Word)).set (w64 ((w64 (480 + (w64 (8 * x8_4)))) + 4)).toNat (wu64 x52.Badge)).set (w64 ((w64 (480 + (w64 (8 * x8_4)))) + 5)).toNat (wu64 (w64 (x52.Prio + (w64 (256 * (w64 (x52.On + 1)))))))) (w64 ((w64 (480 + (w64 (8 * x8_4)))) + 6))).bind fun x109 => (ref01_Word.f x52.Root).bind fun t112 => (at_ (((((((qv1_4.set (w64 (480 + (w64 (8 * x8_4)))).toNat (wu64 x52.Kind)).set (w64 ((w64 (480 + (w64 (8 * x8_4)))) + 1)).toNat (wu64 x52.State)).set (w64 ((w64 (480 + (w64 (8 * x8_4)))) + 2)).toNat (wu64 (x94 + (wu64 (w64 (x52.Owing + 1)))))).set (w64 ((w64 (480 + (w64 (8 * x8_4)))) + 3)).toNat (wu64 x52.Word)).set (w64 ((w64 (480 + (w64 (8 * x8_4)))) + 4)).toNat (wu64 x52.Badge)).set (w64 ((w64 (480 + (w64 (8 * x8_4)))) + 5)).toNat (wu64 (w64 (x52.Prio + (w64 (256 * (w64 (x52.On + 1)))))))).set (w64 ((w64 (480 + (w64 (8 * x8_4)))) + 6)).toNat (wu64 (w64 (x52.Owes + 1)))) (w64 ((w64 (480 + (w64 (8 * x8_4)))) + 7))).bind fun x114 => some ((((((((qv1_4.set (w64 (480 + (w64 (8 * x8_4)))).toNat (wu64 x52.Kind)).set (w64 ((w64 (480 + (w64 (8 * x8_4)))) + 1)).toNat (wu64 x52.State)).set (w64 ((w64 (480 + (w64 (8 * x8_4)))) + 2)).toNat (wu64 (x94 + (wu64 (w64 (x52.Owing + 1)))))).set (w64 ((w64 (480 + (w64 (8 * x8_4)))) + 3)).toNat (wu64 x52.Word)).set (w64 ((w64 (480 + (w64 (8 * x8_4)))) + 4)).toNat (wu64 x52.Badge)).set (w64 ((w64 (480 + (w64 (8 * x8_4)))) + 5)).toNat (wu64 (w64 (x52.Prio + (w64 (256 * (w64 (x52.On + 1)))))))).set (w64 ((w64 (480 + (w64 (8 * x8_4)))) + 6)).toNat (wu64 (w64 (x52.Owes + 1)))).set (w64 ((w64 (480 + (w64 (8 * x8_4)))) + 7)).toNat t112)) else (bif x52.Kind == 6 then ((at_ (qv1_4.set (w64 (480 + (w64 (8 * x8_4)))).toNat (wu64 x52.Kind)) (w64 ((w64 (480 + (w64 (8 * x8_4)))) + 1))).bind fun x118 => (at_ ((qv1_4.set (w64 (480 + (w64 (8 * x8_4)))).toNat (wu64 x52.Kind)).set (w64 ((w64 (480 + (w64 (8 * x8_4)))) + 1)).toNat (wu64 (w64 (x52.In + 1)))) (w64 ((w64 (480 + (w64 (8 * x8_4)))) + 2))).bind fun x121 => some (((qv1_4.set (w64 (480 + (w64 (8 * x8_4)))).toNat (wu64 x52.Kind)).set (w64 ((w64 (480 + (w64 (8 * x8_4)))) + 1)).toNat (wu64 (w64 (x52.In + 1)))).set (w64 ((w64 (480 + (w64 (8 * x8_4)))) + 2)).toNat (wu64 x52.Page))) else (bif x52.Kind == 7 then ((ref10_State_Words.l6 x8_4 x52 k (0, qv1_4.set (w64 (480 + (w64 (8 * x8_4)))).toNat (wu64 x52.Kind))).bind fun (j11_e6, j251_e6, j252_e6, qv1_e6) => some qv1_e6) else (bif x52.Kind == 8 then ((at_ (qv1_4.set (w64 (480 + (w64 (8 * x8_4)))).toNat (wu64 x52.Kind)) (w64 ((w64 (480 + (w64 (8 * x8_4)))) + 1))).bind fun x140 => (at_ ((qv1_4.set (w64 (480 + (w64 (8 * x8_4)))).toNat (wu64 x52.Kind)).set (w64 ((w64 (480 + (w64 (8 * x8_4)))) + 1)).toNat (wu64 (w64 (x52.Bound + 1)))) (w64 ((w64 (480 + (w64 (8 * x8_4)))) + 2))).bind fun x143 => (at_ (((qv1_4.set (w64 (480 + (w64 (8 * x8_4)))).toNat (wu64 x52.Kind)).set (w64 ((w64 (480 + (w64 (8 * x8_4)))) + 1)).toNat (wu64 (w64 (x52.Bound + 1)))).set (w64 ((w64 (480 + (w64 (8 * x8_4)))) + 2)).toNat (wu64 x52.Badge)) (w64 ((w64 (480 + (w64 (8 * x8_4)))) + 3))).bind fun x146 => some ((((qv1_4.set (w64 (480 + (w64 (8 * x8_4)))).toNat (wu64 x52.Kind)).set (w64 ((w64 (480 + (w64 (8 * x8_4)))) + 1)).toNat (wu64 (w64 (x52.Bound + 1)))).set (w64 ((w64 (480 + (w64 (8 * x8_4)))) + 2)).toNat (wu64 x52.Badge)).set (w64 ((w64 (480 + (w64 (8 * x8_4)))) + 3)).toNat (wu64 x52.Mask))) else (some (qv1_4.set (w64 (480 + (w64 (8 * x8_4)))).toNat (wu64 x52.Kind))))))))))).bind fun qv1_5 => (ref10_State_Words.l7 x8_4 x52 k (0, qv1_5)).bind fun (j12_e7, j302_e7, j306_e7, qv1_e7) => ref10_State_Words.l4 a0 k (w64 (x8_4 + 1), qv1_e7)) else (some qv1_4)
def ref10_State_Words.f (k : Nat) (a0 : ref10_State) : Option ((List Int)) :=
  (mk_ 0 738).bind fun xs3 => (ref10_State_Words.l1 a0 k (0, xs3)).bind fun qv1_e1 => (ref10_State_Words.l4 a0 k (0, qv1_e1)).bind fun qv1_e4 => (at_ qv1_e4 736).bind fun x170 => (at_ (qv1_e4.set (736 : Int).toNat (wu64 a0.NS)) 737).bind fun x173 => some ((qv1_e4.set (736 : Int).toNat (wu64 a0.NS)).set (737 : Int).toNat (wu64 a0.NO))
set_option maxHeartbeats 8000000 in
set_option maxRecDepth 100000 in
theorem ref10_State_Words.ct (k : Nat) (bp0 : Nat) (v0_Slots : Value) (v0_Objs : Value) (a0 : ref10_State) (r0 : List Int) (h : ref10_State_Words.f k a0 = some r0) :
    Ct Try.prog 11 [bp bp0 0] (fun _ => True) [Box bp0 [v0_Slots, v0_Objs, .int .i64 a0.NS, .int .i64 a0.NO], OwnR 71 kr_ref10_Slot v0_Slots a0.Slots, OwnR 38 kr_ref10_Obj v0_Objs a0.Objs] (fun u H' => ∃ v_r0, u = v_r0 ∧ H' = [Own 72 (ekI .u64) v_r0 r0, Box bp0 [v0_Slots, v0_Objs, .int .i64 a0.NS, .int .i64 a0.NO], OwnR 71 kr_ref10_Slot v0_Slots a0.Slots, OwnR 38 kr_ref10_Obj v0_Objs a0.Objs]) := by
  unfold ref10_State_Words.f at h
  refine Ct.intro (n := 365) Try.func11 rfl rfl rfl ?_
  intro R w0 F hF hR
  refine S.seq ?_
  refine S.region ?_
  refine SO.v rfl (opv_assign rfl) ?_
  refine SO.nil ?_
  refine S.seq ?_
  refine S.region ?_
  obtain ⟨xs3, hx4, h⟩ := opt_bind h
  refine SO.makeSlice (K := ekI .u64) rfl Try.underlying22 inf72 rfl rfl rfl (by decide) rfl rfl rfl hx4 (fun v1 hr2 => ?_)
  refine SO.v rfl (opv_assign rfl) ?_
  refine SO.nil ?_
  refine S.seq ?_
  refine S.seq ?_
  refine S.region ?_
  refine SO.v rfl (opv_assign rfl) ?_
  refine SO.nil ?_
  obtain ⟨qv1_e1, hl1, h⟩ := opt_bind h
  refine S.b4 ?_
  refine S.b4 ?_
  refine S.b4 ?_
  refine S.b4 ?_
  refine S.b4 ?_
  refine S.to (ρ' := [(4, .int .i64 0), (3, v1), (2, .slice none 0 0), (0, bp bp0 0)]) ⟨rfl, rfl, rfl, rfl, trivial⟩ ?_
  refine S.forloop (X := (Int × (List Int)) × Unit) (O := (List Int)) (fun m x => ref10_State_Words.l1 a0 m x.1) (fun x => match x with | ((x4_1, qv1_1), _) => [(4, .int .i64 x4_1), (3, v1), (2, .slice none 0 0), (0, bp bp0 0)]) (fun x => match x with | ((x4_1, qv1_1), _) => [Own 72 (ekI .u64) v1 qv1_1, Box bp0 [v0_Slots, v0_Objs, .int .i64 a0.NS, .int .i64 a0.NO], OwnR 71 kr_ref10_Slot v0_Slots a0.Slots, OwnR 38 kr_ref10_Obj v0_Objs a0.Objs, F]) (fun Sk => (fun qv1_e1 => ∀ _ : Unit, Sk [(0, bp bp0 0), (2, .slice none 0 0), (3, v1)] [Own 72 (ekI .u64) v1 qv1_e1, Box bp0 [v0_Slots, v0_Objs, .int .i64 a0.NS, .int .i64 a0.NO], OwnR 71 kr_ref10_Slot v0_Slots a0.Slots, OwnR 38 kr_ref10_Obj v0_Objs a0.Objs, F])) (fun _ => rfl) ?_ (m := k) (x := ((0, xs3), ())) hl1 ?_
  · clear h hl1
    intro k x o_1 h hK1 ih1
    obtain ⟨⟨x4_1, qv1_1⟩, _⟩ := x
    replace h : ref10_State_Words.l1 a0 (k + 1) (x4_1, qv1_1) = some o_1 := h
    first | rw [ref10_State_Words.l1] at h | unfold ref10_State_Words.l1 at h
    refine S.rd fun hr5 => ?_
    refine S.seq ?_
    refine S.seq ?_
    refine S.region ?_
    refine SO.v rfl (opv_move rfl) ?_
    refine SO.v rfl (opv_lss rfl rfl) ?_
    refine SO.nil ?_
    rcases bool_or (decide (x4_1 < 96)) with b6 | b6
    · replace h := cond_t b6 h
      refine S.condT rfl b6 ?_
      refine S.skip ?_
      refine S.seq ?_
      refine S.block ?_
      refine S.seq ?_
      refine S.region ?_
      refine SO.v rfl (opv_move rfl) ?_
      refine SO.v rfl (opv_nilCheck rfl) ?_
      refine SO.v rfl (opv_fieldAddr Try.underlying42 rfl Try.sizeOf39 rfl rfl) ?_
      refine SO.b1 ?_
      refine SO.load1 rfl Try.isAgg39 rfl rfl ?_
      refine SO.v rfl (opv_move rfl) ?_
      refine SO.b2 ?_
      refine SO.openR fun raws12 A13 hrel14 hR15 => ?_
      obtain ⟨x7, hx8, h⟩ := opt_bind h
      obtain ⟨r9, hr10, hc11⟩ := relR.at hrel14 hx8
      refine SO.v rfl (opv_idx Try.underlying39 Try.sizeOf71 hR15 rfl rfl hr10) ?_
      refine hc11.rip fun u16 hru17 e18 => ?_
      refine SO.loadIN rfl Try.isAgg71 Try.sizeOf71 (Rd.head hR15) hr10 rfl rfl e18 ?_
      refine SO.alloc rfl Try.zeroValue71 rfl (fun b19 => ?_)
      refine SO.storeN Try.sizeOf71 rfl rfl (all1 rfl (all1 rfl (all1 rfl (all1 rfl (all1 rfl (all1 rfl (all1 rfl (all1 (Rd.one hru17) rfl)))))))) rfl rfl rfl ?_
      refine SO.nil ?_
      refine S.seq ?_
      refine S.region ?_
      refine SO.v rfl (opv_move rfl) ?_
      refine SO.v rfl (opv_move rfl) ?_
      refine SO.v rfl (opv_mul rfl rfl) ?_
      refine SO.v rfl (opv_fieldAddr Try.underlying71 rfl Try.sizeOf24 rfl rfl) ?_
      refine SO.loadN rfl Try.isAgg24 Try.sizeOf24 rfl rfl rfl ?_
      obtain ⟨t20, ht21, h⟩ := opt_bind h
      refine SO.call (pre := []) rfl Try.call28 rfl rfl rfl (ref01_Word.ct _ _ ht21) trivial ?_
      rintro _ _ ⟨rfl, rfl⟩
      obtain ⟨x22, hx23, h⟩ := opt_bind h
      refine SO.v rfl (opv_idx Try.underlying22 Try.sizeOf72 hr5 rfl rfl hx23) ?_
      refine SO.b3 ?_
      refine SO.storeI1 (j := 0) (z' := t20) Try.sizeOf72 hx23 rfl rfl rfl rfl rfl rfl ?_
      refine SO.rd fun hr24 => ?_
      refine SO.nil ?_
      refine S.seq ?_
      refine S.region ?_
      refine SO.v rfl (opv_move rfl) ?_
      refine SO.v rfl (opv_move rfl) ?_
      refine SO.v rfl (opv_mul rfl rfl) ?_
      refine SO.v rfl (opv_add rfl rfl) ?_
      refine SO.v rfl (opv_fieldAddr Try.underlying71 rfl Try.sizeOf3 rfl rfl) ?_
      refine SO.b1 ?_
      refine SO.load1 rfl Try.isAgg3 rfl rfl ?_
      refine SO.v rfl (opv_add rfl rfl) ?_
      refine SO.v rfl (opv_conv Try.underlying3 Try.underlying72 rfl) ?_
      obtain ⟨x25, hx26, h⟩ := opt_bind h
      refine SO.v rfl (opv_idx Try.underlying22 Try.sizeOf72 hr24 rfl rfl hx26) ?_
      refine SO.b1 ?_
      refine SO.storeI1 (j := 0) (z' := wu64 (w64 (x7.Parent + 1))) Try.sizeOf72 hx26 rfl rfl rfl rfl rfl rfl ?_
      refine SO.rd fun hr27 => ?_
      refine SO.nil ?_
      refine S.seq ?_
      refine S.region ?_
      refine SO.v rfl (opv_assign rfl) ?_
      refine SO.nil ?_
      obtain ⟨⟨j6_e2, j42_e2, j46_e2, qv1_e2⟩, hl2, h⟩ := opt_bind h
      refine S.b5 ?_
      refine S.b5 ?_
      refine S.b5 ?_
      refine S.b5 ?_
      refine S.b5 ?_
      refine S.b5 ?_
      refine S.to (ρ' := [(6, .int .i64 0), (41, idxp v1 ((w64 ((w64 (5 * x4_1)) + 1)).toNat * (ekI .u64).sz)), (40, .int .u64 (wu64 (w64 (x7.Parent + 1)))), (39, .int .i64 (w64 (x7.Parent + 1))), (38, .int .i64 x7.Parent), (37, bp b19 6), (36, .int .i64 (w64 ((w64 (5 * x4_1)) + 1))), (35, .int .i64 (w64 (5 * x4_1))), (34, .int .i64 x4_1), (33, v1), (32, idxp v1 ((w64 (5 * x4_1)).toNat * (ekI .u64).sz)), (31, .int .u64 t20), (30, .agg #[.int .i64 x7.Cap.Kind, .int .i64 x7.Cap.Rights, .int .i64 x7.Cap.Obj, .int .i64 x7.Cap.Badge, .int .i64 x7.Cap.Guard, .int .i64 x7.Cap.Bits]), (29, bp b19 0), (28, .int .i64 (w64 (5 * x4_1))), (27, .int .i64 x4_1), (26, v1), (5, bp b19 0), (25, .agg #[.int .i64 x7.Cap.Kind, .int .i64 x7.Cap.Rights, .int .i64 x7.Cap.Obj, .int .i64 x7.Cap.Badge, .int .i64 x7.Cap.Guard, .int .i64 x7.Cap.Bits, .int .i64 x7.Parent, u16]), (24, idxp v0_Slots (x4_1.toNat * kr_ref10_Slot.sz)), (23, .int .i64 x4_1), (22, v0_Slots), (21, bp bp0 0), (20, bp bp0 0), (19, bp bp0 0), (16, .bool (decide (x4_1 < 96))), (15, .int .i64 x4_1), (4, .int .i64 x4_1), (3, v1), (2, .slice none 0 0), (0, bp bp0 0)]) ⟨rfl, rfl, rfl, rfl, rfl, rfl, rfl, rfl, rfl, rfl, rfl, rfl, rfl, rfl, rfl, rfl, rfl, rfl, rfl, rfl, rfl, rfl, rfl, rfl, rfl, rfl, rfl, rfl, rfl, rfl, rfl, trivial⟩ ?_
      refine S.forloop (X := (Int × (List Int)) × Unit) (O := (Int × Int × Bool × (List Int))) (fun m x => ref10_State_Words.l2 x4_1 x7 m x.1) (fun x => match x with | ((x6_2, qv1_2), _) => [(6, .int .i64 x6_2), (41, idxp v1 ((w64 ((w64 (5 * x4_1)) + 1)).toNat * (ekI .u64).sz)), (40, .int .u64 (wu64 (w64 (x7.Parent + 1)))), (39, .int .i64 (w64 (x7.Parent + 1))), (38, .int .i64 x7.Parent), (37, bp b19 6), (36, .int .i64 (w64 ((w64 (5 * x4_1)) + 1))), (35, .int .i64 (w64 (5 * x4_1))), (34, .int .i64 x4_1), (33, v1), (32, idxp v1 ((w64 (5 * x4_1)).toNat * (ekI .u64).sz)), (31, .int .u64 t20), (30, .agg #[.int .i64 x7.Cap.Kind, .int .i64 x7.Cap.Rights, .int .i64 x7.Cap.Obj, .int .i64 x7.Cap.Badge, .int .i64 x7.Cap.Guard, .int .i64 x7.Cap.Bits]), (29, bp b19 0), (28, .int .i64 (w64 (5 * x4_1))), (27, .int .i64 x4_1), (26, v1), (5, bp b19 0), (25, .agg #[.int .i64 x7.Cap.Kind, .int .i64 x7.Cap.Rights, .int .i64 x7.Cap.Obj, .int .i64 x7.Cap.Badge, .int .i64 x7.Cap.Guard, .int .i64 x7.Cap.Bits, .int .i64 x7.Parent, u16]), (24, idxp v0_Slots (x4_1.toNat * kr_ref10_Slot.sz)), (23, .int .i64 x4_1), (22, v0_Slots), (21, bp bp0 0), (20, bp bp0 0), (19, bp bp0 0), (16, .bool (decide (x4_1 < 96))), (15, .int .i64 x4_1), (4, .int .i64 x4_1), (3, v1), (2, .slice none 0 0), (0, bp bp0 0)]) (fun x => match x with | ((x6_2, qv1_2), _) => [Own 72 (ekI .u64) v1 qv1_2, Box b19 [.int .i64 x7.Cap.Kind, .int .i64 x7.Cap.Rights, .int .i64 x7.Cap.Obj, .int .i64 x7.Cap.Badge, .int .i64 x7.Cap.Guard, .int .i64 x7.Cap.Bits, .int .i64 x7.Parent, u16], OwnO 71 kr_ref10_Slot v0_Slots raws12 A13 a0.Slots, Box bp0 [v0_Slots, v0_Objs, .int .i64 a0.NS, .int .i64 a0.NO], OwnR 38 kr_ref10_Obj v0_Objs a0.Objs, F]) (fun Sk => (fun x => match x with | (j6_e2, j42_e2, j46_e2, qv1_e2) => ∀ _ : Unit, Sk [(0, bp bp0 0), (2, .slice none 0 0), (3, v1), (4, .int .i64 x4_1), (5, bp b19 0), (6, .int .i64 j6_e2), (15, .int .i64 x4_1), (16, .bool (decide (x4_1 < 96))), (19, bp bp0 0), (20, bp bp0 0), (21, bp bp0 0), (22, v0_Slots), (23, .int .i64 x4_1), (24, idxp v0_Slots (x4_1.toNat * kr_ref10_Slot.sz)), (25, .agg #[.int .i64 x7.Cap.Kind, .int .i64 x7.Cap.Rights, .int .i64 x7.Cap.Obj, .int .i64 x7.Cap.Badge, .int .i64 x7.Cap.Guard, .int .i64 x7.Cap.Bits, .int .i64 x7.Parent, u16]), (26, v1), (27, .int .i64 x4_1), (28, .int .i64 (w64 (5 * x4_1))), (29, bp b19 0), (30, .agg #[.int .i64 x7.Cap.Kind, .int .i64 x7.Cap.Rights, .int .i64 x7.Cap.Obj, .int .i64 x7.Cap.Badge, .int .i64 x7.Cap.Guard, .int .i64 x7.Cap.Bits]), (31, .int .u64 t20), (32, idxp v1 ((w64 (5 * x4_1)).toNat * (ekI .u64).sz)), (33, v1), (34, .int .i64 x4_1), (35, .int .i64 (w64 (5 * x4_1))), (36, .int .i64 (w64 ((w64 (5 * x4_1)) + 1))), (37, bp b19 6), (38, .int .i64 x7.Parent), (39, .int .i64 (w64 (x7.Parent + 1))), (40, .int .u64 (wu64 (w64 (x7.Parent + 1)))), (41, idxp v1 ((w64 ((w64 (5 * x4_1)) + 1)).toNat * (ekI .u64).sz)), (42, .int .i64 j42_e2), (43, bp b19 7), (44, u16), (45, .int .i64 (x7.Kids.length : Int)), (46, .bool j46_e2)] [Own 72 (ekI .u64) v1 qv1_e2, Box b19 [.int .i64 x7.Cap.Kind, .int .i64 x7.Cap.Rights, .int .i64 x7.Cap.Obj, .int .i64 x7.Cap.Badge, .int .i64 x7.Cap.Guard, .int .i64 x7.Cap.Bits, .int .i64 x7.Parent, u16], OwnO 71 kr_ref10_Slot v0_Slots raws12 A13 a0.Slots, Box bp0 [v0_Slots, v0_Objs, .int .i64 a0.NS, .int .i64 a0.NO], OwnR 38 kr_ref10_Obj v0_Objs a0.Objs, F])) (fun _ => rfl) ?_ (m := k) (x := ((0, (qv1_1.set (w64 (5 * x4_1)).toNat t20).set (w64 ((w64 (5 * x4_1)) + 1)).toNat (wu64 (w64 (x7.Parent + 1)))), ())) hl2 ?_
      · clear h hl2
        intro k x o_2 h hK2 ih2
        obtain ⟨⟨x6_2, qv1_2⟩, _⟩ := x
        replace h : ref10_State_Words.l2 x4_1 x7 (k + 1) (x6_2, qv1_2) = some o_2 := h
        first | rw [ref10_State_Words.l2] at h | unfold ref10_State_Words.l2 at h
        refine S.rd fun hr28 => ?_
        refine S.seq ?_
        refine S.seq ?_
        refine S.region ?_
        refine SO.v rfl (opv_move rfl) ?_
        refine SO.v rfl (opv_fieldAddr Try.underlying71 rfl Try.sizeOf35 rfl rfl) ?_
        refine SO.b1 ?_
        refine SO.load1 rfl Try.isAgg35 rfl rfl ?_
        refine SO.v rfl (opv_lenR rfl Try.underlying35 hru17 rfl) ?_
        refine SO.v rfl (opv_lss rfl rfl) ?_
        refine SO.nil ?_
        rcases bool_or (decide (x6_2 < (x7.Kids.length : Int))) with b29 | b29
        · replace h := cond_t b29 h
          refine S.condT rfl b29 ?_
          refine S.skip ?_
          refine S.seq ?_
          refine S.block ?_
          refine S.seq ?_
          refine S.region ?_
          refine SO.v rfl (opv_fieldAddr Try.underlying71 rfl Try.sizeOf35 rfl rfl) ?_
          refine SO.load1 rfl Try.isAgg35 rfl rfl ?_
          refine SO.v rfl (opv_move rfl) ?_
          obtain ⟨x30, hx31, h⟩ := opt_bind h
          refine SO.v rfl (opv_idx Try.underlying35 Try.sizeOf3 hru17 rfl rfl hx31) ?_
          refine SO.loadI1 (j := 0) rfl Try.isAgg3 (Rd.tail (Rd.tail (Rd.head (Rd.pool hru17)))) hx31 rfl rfl rfl rfl ?_
          refine SO.v rfl (opv_assign rfl) ?_
          refine SO.nil ?_
          refine S.seq ?_
          refine S.seq ?_
          refine S.region ?_
          refine SO.v rfl (opv_move rfl) ?_
          refine SO.v rfl (opv_eql rfl rfl) ?_
          refine SO.nil ?_
          obtain ⟨qv1_3, hC3, hJ3⟩ := opt_bind h
          clear h
          refine S.cutP (G := Unit) (fun _ => True) (fun _ => [(0, bp bp0 0), (2, .slice none 0 0), (3, v1), (4, .int .i64 x4_1), (5, bp b19 0), (6, .int .i64 x6_2), (7, .int .i64 x30), (15, .int .i64 x4_1), (16, .bool (decide (x4_1 < 96))), (19, bp bp0 0), (20, bp bp0 0), (21, bp bp0 0), (22, v0_Slots), (23, .int .i64 x4_1), (24, idxp v0_Slots (x4_1.toNat * kr_ref10_Slot.sz)), (25, .agg #[.int .i64 x7.Cap.Kind, .int .i64 x7.Cap.Rights, .int .i64 x7.Cap.Obj, .int .i64 x7.Cap.Badge, .int .i64 x7.Cap.Guard, .int .i64 x7.Cap.Bits, .int .i64 x7.Parent, u16]), (26, v1), (27, .int .i64 x4_1), (28, .int .i64 (w64 (5 * x4_1))), (29, bp b19 0), (30, .agg #[.int .i64 x7.Cap.Kind, .int .i64 x7.Cap.Rights, .int .i64 x7.Cap.Obj, .int .i64 x7.Cap.Badge, .int .i64 x7.Cap.Guard, .int .i64 x7.Cap.Bits]), (31, .int .u64 t20), (32, idxp v1 ((w64 (5 * x4_1)).toNat * (ekI .u64).sz)), (33, v1), (34, .int .i64 x4_1), (35, .int .i64 (w64 (5 * x4_1))), (36, .int .i64 (w64 ((w64 (5 * x4_1)) + 1))), (37, bp b19 6), (38, .int .i64 x7.Parent), (39, .int .i64 (w64 (x7.Parent + 1))), (40, .int .u64 (wu64 (w64 (x7.Parent + 1)))), (41, idxp v1 ((w64 ((w64 (5 * x4_1)) + 1)).toNat * (ekI .u64).sz)), (42, .int .i64 x6_2), (43, bp b19 7), (44, u16), (45, .int .i64 (x7.Kids.length : Int)), (46, .bool (decide (x6_2 < (x7.Kids.length : Int)))), (49, bp b19 7), (50, u16), (51, .int .i64 x6_2), (52, idxp u16 (x6_2.toNat * (ekI .i64).sz)), (53, .int .i64 x30), (54, .int .i64 x6_2), (55, .bool (x6_2 == 0))]) (fun _ => [Box b19 [.int .i64 x7.Cap.Kind, .int .i64 x7.Cap.Rights, .int .i64 x7.Cap.Obj, .int .i64 x7.Cap.Badge, .int .i64 x7.Cap.Guard, .int .i64 x7.Cap.Bits, .int .i64 x7.Parent, u16], Own 72 (ekI .u64) v1 qv1_3, OwnO 71 kr_ref10_Slot v0_Slots raws12 A13 a0.Slots, Box bp0 [v0_Slots, v0_Objs, .int .i64 a0.NS, .int .i64 a0.NO], OwnR 38 kr_ref10_Obj v0_Objs a0.Objs, F]) (fun hk3 => ?_) ?_
          · replace h := hC3
            rcases bool_or (x6_2 == 0) with b32 | b32
            · replace h := cond_t b32 h
              refine S.condT rfl b32 ?_
              refine S.region ?_
              refine SO.v rfl (opv_move rfl) ?_
              refine SO.v rfl (opv_move rfl) ?_
              refine SO.v rfl (opv_mul rfl rfl) ?_
              refine SO.v rfl (opv_add rfl rfl) ?_
              refine SO.v rfl (opv_move rfl) ?_
              refine SO.v rfl (opv_add rfl rfl) ?_
              refine SO.v rfl (opv_conv Try.underlying3 Try.underlying72 rfl) ?_
              obtain ⟨x33, hx34, h⟩ := opt_bind h
              refine SO.v rfl (opv_idx Try.underlying22 Try.sizeOf72 hr28 rfl rfl hx34) ?_
              refine SO.b1 ?_
              refine SO.storeI1 (j := 0) (z' := wu64 (w64 (x30 + 1))) Try.sizeOf72 hx34 rfl rfl rfl rfl rfl rfl ?_
              refine SO.rd fun hr35 => ?_
              refine SO.nil ?_
              cases h
              refine S.b5 ?_
              refine S.b5 ?_
              refine S.b5 ?_
              refine S.b5 ?_
              refine S.b4 ?_
              refine S.b5 ?_
              refine S.to ?_ (hk3 () trivial)
              exact ⟨rfl, rfl, rfl, rfl, rfl, rfl, rfl, rfl, rfl, rfl, rfl, rfl, rfl, rfl, rfl, rfl, rfl, rfl, rfl, rfl, rfl, rfl, rfl, rfl, rfl, rfl, rfl, rfl, rfl, rfl, rfl, rfl, rfl, rfl, rfl, rfl, rfl, rfl, rfl, rfl, rfl, rfl, rfl, rfl, trivial⟩
            · replace h := cond_f b32 h
              refine S.condF rfl b32 ?_
              refine S.region ?_
              refine SO.v rfl (opv_move rfl) ?_
              refine SO.v rfl (opv_move rfl) ?_
              refine SO.v rfl (opv_mul rfl rfl) ?_
              refine SO.v rfl (opv_add rfl rfl) ?_
              refine SO.v rfl (opv_fieldAddr Try.underlying71 rfl Try.sizeOf35 rfl rfl) ?_
              refine SO.load1 rfl Try.isAgg35 rfl rfl ?_
              refine SO.v rfl (opv_move rfl) ?_
              refine SO.v rfl (opv_sub rfl rfl) ?_
              obtain ⟨x36, hx37, h⟩ := opt_bind h
              refine SO.v rfl (opv_idx Try.underlying35 Try.sizeOf3 hru17 rfl rfl hx37) ?_
              refine SO.loadI1 (j := 0) rfl Try.isAgg3 (Rd.tail (Rd.tail (Rd.head (Rd.pool hru17)))) hx37 rfl rfl rfl rfl ?_
              refine SO.v rfl (opv_add rfl rfl) ?_
              refine SO.v rfl (opv_conv Try.underlying3 Try.underlying72 rfl) ?_
              obtain ⟨x38, hx39, h⟩ := opt_bind h
              refine SO.v rfl (opv_idx Try.underlying22 Try.sizeOf72 hr28 rfl rfl hx39) ?_
              refine SO.b1 ?_
              refine SO.storeI1 (j := 0) (z' := wu64 (w64 (x36 + 1))) Try.sizeOf72 hx39 rfl rfl rfl rfl rfl rfl ?_
              refine SO.rd fun hr40 => ?_
              refine SO.nil ?_
              cases h
              refine S.b5 ?_
              refine S.b5 ?_
              refine S.b5 ?_
              refine S.b5 ?_
              refine S.b4 ?_
              refine S.b5 ?_
              refine S.to ?_ (hk3 () trivial)
              exact ⟨rfl, rfl, rfl, rfl, rfl, rfl, rfl, rfl, rfl, rfl, rfl, rfl, rfl, rfl, rfl, rfl, rfl, rfl, rfl, rfl, rfl, rfl, rfl, rfl, rfl, rfl, rfl, rfl, rfl, rfl, rfl, rfl, rfl, rfl, rfl, rfl, rfl, rfl, rfl, rfl, rfl, rfl, rfl, rfl, trivial⟩
          rintro _ -
          replace h := hJ3
          refine S.b1 ?_
          refine S.rd fun hr41 => ?_
          refine S.seq ?_
          refine S.region ?_
          refine SO.v rfl (opv_move rfl) ?_
          refine SO.v rfl (opv_add rfl rfl) ?_
          refine SO.v rfl (opv_fieldAddr Try.underlying71 rfl Try.sizeOf35 rfl rfl) ?_
          refine SO.b1 ?_
          refine SO.load1 rfl Try.isAgg35 rfl rfl ?_
          refine SO.v rfl (opv_lenR rfl Try.underlying35 hru17 rfl) ?_
          refine SO.v rfl (opv_lss rfl rfl) ?_
          refine SO.nil ?_
          rcases bool_or (decide ((w64 (x6_2 + 1)) < (x7.Kids.length : Int))) with b42 | b42
          · replace h := cond_t b42 h
            refine S.condT rfl b42 ?_
            refine S.region ?_
            refine SO.v rfl (opv_move rfl) ?_
            refine SO.v rfl (opv_move rfl) ?_
            refine SO.v rfl (opv_mul rfl rfl) ?_
            refine SO.v rfl (opv_add rfl rfl) ?_
            refine SO.v rfl (opv_fieldAddr Try.underlying71 rfl Try.sizeOf35 rfl rfl) ?_
            refine SO.load1 rfl Try.isAgg35 rfl rfl ?_
            refine SO.v rfl (opv_move rfl) ?_
            refine SO.v rfl (opv_add rfl rfl) ?_
            obtain ⟨x43, hx44, h⟩ := opt_bind h
            refine SO.v rfl (opv_idx Try.underlying35 Try.sizeOf3 hru17 rfl rfl hx44) ?_
            refine SO.loadI1 (j := 0) rfl Try.isAgg3 (Rd.tail (Rd.tail (Rd.head (Rd.pool hru17)))) hx44 rfl rfl rfl rfl ?_
            refine SO.v rfl (opv_add rfl rfl) ?_
            refine SO.v rfl (opv_conv Try.underlying3 Try.underlying72 rfl) ?_
            obtain ⟨x45, hx46, h⟩ := opt_bind h
            refine SO.v rfl (opv_idx Try.underlying22 Try.sizeOf72 hr41 rfl rfl hx46) ?_
            refine SO.b1 ?_
            refine SO.storeI1 (j := 0) (z' := wu64 (w64 (x43 + 1))) Try.sizeOf72 hx46 rfl rfl rfl rfl rfl rfl ?_
            refine SO.rd fun hr47 => ?_
            refine SO.nil ?_
            refine S.inBlock ?_
            refine S.region ?_
            refine SO.v rfl (opv_move rfl) ?_
            refine SO.v rfl (opv_add rfl rfl) ?_
            refine SO.v rfl (opv_assign rfl) ?_
            refine SO.nil ?_
            refine S.b5 ?_
            refine S.b5 ?_
            refine S.b5 ?_
            refine S.b5 ?_
            refine S.b5 ?_
            refine S.b5 ?_
            refine S.to ?_ (ih2 ((w64 (x6_2 + 1), qv1_3.set (w64 ((w64 (5 * x30)) + 3)).toNat (wu64 (w64 (x43 + 1)))), ()) h)
            exact ⟨rfl, rfl, rfl, rfl, rfl, rfl, rfl, rfl, rfl, rfl, rfl, rfl, rfl, rfl, rfl, rfl, rfl, rfl, rfl, rfl, rfl, rfl, rfl, rfl, rfl, rfl, rfl, rfl, rfl, rfl, rfl, trivial⟩
          · replace h := cond_f b42 h
            refine S.condF rfl b42 ?_
            refine S.skip ?_
            refine S.inBlock ?_
            refine S.region ?_
            refine SO.v rfl (opv_move rfl) ?_
            refine SO.v rfl (opv_add rfl rfl) ?_
            refine SO.v rfl (opv_assign rfl) ?_
            refine SO.nil ?_
            refine S.b5 ?_
            refine S.b5 ?_
            refine S.b5 ?_
            refine S.b5 ?_
            refine S.b4 ?_
            refine S.b5 ?_
            refine S.to ?_ (ih2 ((w64 (x6_2 + 1), qv1_3), ()) h)
            exact ⟨rfl, rfl, rfl, rfl, rfl, rfl, rfl, rfl, rfl, rfl, rfl, rfl, rfl, rfl, rfl, rfl, rfl, rfl, rfl, rfl, rfl, rfl, rfl, rfl, rfl, rfl, rfl, rfl, rfl, rfl, rfl, trivial⟩
        · replace h := cond_f b29 h
          refine S.condF rfl b29 ?_
          refine S.exit rfl ?_
          cases h
          refine S.b5 ?_
          refine S.b5 ?_
          refine S.b5 ?_
          refine S.b5 ?_
          refine S.b4 ?_
          refine S.b5 ?_
          refine S.to ?_ (hK2 ())
          exact ⟨rfl, rfl, rfl, rfl, rfl, rfl, rfl, rfl, rfl, rfl, rfl, rfl, rfl, rfl, rfl, rfl, rfl, rfl, rfl, rfl, rfl, rfl, rfl, rfl, rfl, rfl, rfl, rfl, rfl, rfl, rfl, rfl, rfl, rfl, rfl, rfl, trivial⟩
      rintro _
      refine S.rd fun hr48 => ?_
      refine S.inBlock ?_
      refine S.region ?_
      refine SO.v rfl (opv_move rfl) ?_
      refine SO.v rfl (opv_add rfl rfl) ?_
      refine SO.v rfl (opv_assign rfl) ?_
      refine SO.nil ?_
      refine S.b2 ?_
      refine S.closeR ?_
      refine S.b2 ?_
      refine S.drop ?_
      refine S.b4 ?_
      refine S.b4 ?_
      refine S.b2 ?_
      refine S.b4 ?_
      refine S.b4 ?_
      refine S.to ?_ (ih1 ((w64 (x4_1 + 1), qv1_e2), ()) h)
      exact ⟨rfl, rfl, rfl, rfl, trivial⟩
    · replace h := cond_f b6 h
      refine S.condF rfl b6 ?_
      refine S.exit rfl ?_
      cases h
      refine S.b4 ?_
      refine S.b4 ?_
      refine S.b4 ?_
      refine S.b4 ?_
      refine S.b4 ?_
      refine S.to ?_ (hK1 ())
      exact ⟨rfl, rfl, rfl, trivial⟩
  rintro _
  refine S.rd fun hr49 => ?_
  refine S.seq ?_
  refine S.seq ?_
  refine S.region ?_
  refine SO.v rfl (opv_assign rfl) ?_
  refine SO.nil ?_
  obtain ⟨qv1_e4, hl4, h⟩ := opt_bind h
  refine S.b4 ?_
  refine S.b4 ?_
  refine S.b4 ?_
  refine S.b4 ?_
  refine S.b4 ?_
  refine S.to (ρ' := [(8, .int .i64 0), (0, bp bp0 0), (2, .slice none 0 0), (3, v1)]) ⟨rfl, rfl, rfl, rfl, trivial⟩ ?_
  refine S.forloop (X := (Int × (List Int)) × Unit) (O := (List Int)) (fun m x => ref10_State_Words.l4 a0 m x.1) (fun x => match x with | ((x8_4, qv1_4), _) => [(8, .int .i64 x8_4), (0, bp bp0 0), (2, .slice none 0 0), (3, v1)]) (fun x => match x with | ((x8_4, qv1_4), _) => [Own 72 (ekI .u64) v1 qv1_4, Box bp0 [v0_Slots, v0_Objs, .int .i64 a0.NS, .int .i64 a0.NO], OwnR 71 kr_ref10_Slot v0_Slots a0.Slots, OwnR 38 kr_ref10_Obj v0_Objs a0.Objs, F]) (fun Sk => (fun qv1_e4 => ∀ _ : Unit, Sk [(0, bp bp0 0), (2, .slice none 0 0), (3, v1)] [Own 72 (ekI .u64) v1 qv1_e4, Box bp0 [v0_Slots, v0_Objs, .int .i64 a0.NS, .int .i64 a0.NO], OwnR 71 kr_ref10_Slot v0_Slots a0.Slots, OwnR 38 kr_ref10_Obj v0_Objs a0.Objs, F])) (fun _ => rfl) ?_ (m := k) (x := ((0, qv1_e1), ())) hl4 ?_
  · clear h hl4
    intro k x o_4 h hK4 ih4
    obtain ⟨⟨x8_4, qv1_4⟩, _⟩ := x
    replace h : ref10_State_Words.l4 a0 (k + 1) (x8_4, qv1_4) = some o_4 := h
    first | rw [ref10_State_Words.l4] at h | unfold ref10_State_Words.l4 at h
    refine S.rd fun hr50 => ?_
    refine S.seq ?_
    refine S.seq ?_
    refine S.region ?_
    refine SO.v rfl (opv_move rfl) ?_
    refine SO.v rfl (opv_lss rfl rfl) ?_
    refine SO.nil ?_
    rcases bool_or (decide (x8_4 < 32)) with b51 | b51
    · replace h := cond_t b51 h
      refine S.condT rfl b51 ?_
      refine S.skip ?_
      refine S.seq ?_
      refine S.block ?_
      refine S.seq ?_
      refine S.region ?_
      refine SO.v rfl (opv_move rfl) ?_
      refine SO.v rfl (opv_nilCheck rfl) ?_
      refine SO.v rfl (opv_fieldAddr Try.underlying42 rfl Try.sizeOf40 rfl rfl) ?_
      refine SO.b1 ?_
      refine SO.load1 rfl Try.isAgg40 rfl rfl ?_
      refine SO.v rfl (opv_move rfl) ?_
      refine SO.b3 ?_
      refine SO.openR fun raws57 A58 hrel59 hR60 => ?_
      obtain ⟨x52, hx53, h⟩ := opt_bind h
      obtain ⟨r54, hr55, hc56⟩ := relR.at hrel59 hx53
      refine SO.v rfl (opv_idx Try.underlying40 Try.sizeOf38 hR60 rfl rfl hr55) ?_
      refine hc56.rip fun u61 hru62 e63 => ?_
      refine SO.loadIN rfl Try.isAgg38 Try.sizeOf38 (Rd.head hR60) hr55 rfl rfl e63 ?_
      refine SO.alloc rfl Try.zeroValue38 rfl (fun b64 => ?_)
      refine SO.storeN Try.sizeOf38 rfl rfl (all1 rfl (all1 rfl (all1 rfl (all1 rfl (all1 rfl (all1 rfl (all1 (Rd.one hru62) (all1 rfl (all1 rfl (all1 rfl (all1 rfl (all1 rfl (all1 rfl (all1 rfl (all1 rfl (all1 rfl (all1 rfl (all1 rfl (all1 rfl (all1 rfl (all1 rfl (all1 rfl (all1 rfl (all1 rfl (all1 rfl (all1 rfl (all1 rfl (all1 rfl (all1 rfl (all1 rfl (all1 rfl (all1 rfl rfl)))))))))))))))))))))))))))))))) rfl rfl rfl ?_
      refine SO.nil ?_
      refine S.seq ?_
      refine S.region ?_
      refine SO.v rfl (opv_move rfl) ?_
      refine SO.v rfl (opv_mul rfl rfl) ?_
      refine SO.v rfl (opv_add rfl rfl) ?_
      refine SO.v rfl (opv_assign rfl) ?_
      refine SO.nil ?_
      refine S.seq ?_
      refine S.region ?_
      refine SO.v rfl (opv_move rfl) ?_
      refine SO.v rfl (opv_move rfl) ?_
      refine SO.v rfl (opv_fieldAddr Try.underlying38 rfl Try.sizeOf3 rfl rfl) ?_
      refine SO.load1 rfl Try.isAgg3 rfl rfl ?_
      refine SO.v rfl (opv_conv Try.underlying3 Try.underlying72 rfl) ?_
      obtain ⟨x65, hx66, h⟩ := opt_bind h
      refine SO.v rfl (opv_idx Try.underlying22 Try.sizeOf72 hr50 rfl rfl hx66) ?_
      refine SO.b3 ?_
      refine SO.storeI1 (j := 0) (z' := wu64 x52.Kind) Try.sizeOf72 hx66 rfl rfl rfl rfl rfl rfl ?_
      refine SO.rd fun hr67 => ?_
      refine SO.nil ?_
      refine S.seq ?_
      refine S.seq ?_
      refine S.region ?_
      refine SO.v rfl (opv_fieldAddr Try.underlying38 rfl Try.sizeOf3 rfl rfl) ?_
      refine SO.b1 ?_
      refine SO.load1 rfl Try.isAgg3 rfl rfl ?_
      refine SO.nil ?_
      obtain ⟨qv1_5, hC5, hJ5⟩ := opt_bind h
      clear h
      refine S.cutP (G := Unit) (fun _ => True) (fun _ => [(0, bp bp0 0), (2, .slice none 0 0), (3, v1), (8, .int .i64 x8_4), (9, bp b64 0), (10, .int .i64 (w64 (480 + (w64 (8 * x8_4))))), (96, .int .i64 x8_4), (97, .bool (decide (x8_4 < 32))), (100, bp bp0 0), (101, bp bp0 0), (102, bp bp0 1), (103, v0_Objs), (104, .int .i64 x8_4), (105, idxp v0_Objs (x8_4.toNat * kr_ref10_Obj.sz)), (106, .agg #[.int .i64 x52.Kind, .int .i64 x52.Size, .int .i64 x52.Used, .int .i64 x52.First, .int .i64 x52.Radix, .int .i64 x52.Wait, u61, .int .i64 x52.Word, .int .i64 x52.State, .int .i64 x52.Owing, .int .i64 x52.Badge, .int .i64 x52.Prio, .int .i64 x52.On, .int .i64 x52.Owes, .int .i64 x52.Root.Kind, .int .i64 x52.Root.Rights, .int .i64 x52.Root.Obj, .int .i64 x52.Root.Badge, .int .i64 x52.Root.Guard, .int .i64 x52.Root.Bits, .int .i64 x52.Pages.a0, .int .i64 x52.Pages.a1, .int .i64 x52.Pages.a2, .int .i64 x52.Pages.a3, .int .i64 x52.Right.a0, .int .i64 x52.Right.a1, .int .i64 x52.Right.a2, .int .i64 x52.Right.a3, .int .i64 x52.In, .int .i64 x52.Page, .int .i64 x52.Bound, .int .i64 x52.Mask]), (107, .int .i64 x8_4), (108, .int .i64 (w64 (8 * x8_4))), (109, .int .i64 (w64 (480 + (w64 (8 * x8_4))))), (110, v1), (111, .int .i64 (w64 (480 + (w64 (8 * x8_4))))), (112, bp b64 0), (113, .int .i64 x52.Kind), (114, .int .u64 (wu64 x52.Kind)), (115, idxp v1 ((w64 (480 + (w64 (8 * x8_4)))).toNat * (ekI .u64).sz)), (116, bp b64 0), (117, .int .i64 x52.Kind), (118, .bool (x52.Kind == 1)), (119, .bool (x52.Kind == 1))]) (fun _ => [Box b64 [.int .i64 x52.Kind, .int .i64 x52.Size, .int .i64 x52.Used, .int .i64 x52.First, .int .i64 x52.Radix, .int .i64 x52.Wait, u61, .int .i64 x52.Word, .int .i64 x52.State, .int .i64 x52.Owing, .int .i64 x52.Badge, .int .i64 x52.Prio, .int .i64 x52.On, .int .i64 x52.Owes, .int .i64 x52.Root.Kind, .int .i64 x52.Root.Rights, .int .i64 x52.Root.Obj, .int .i64 x52.Root.Badge, .int .i64 x52.Root.Guard, .int .i64 x52.Root.Bits, .int .i64 x52.Pages.a0, .int .i64 x52.Pages.a1, .int .i64 x52.Pages.a2, .int .i64 x52.Pages.a3, .int .i64 x52.Right.a0, .int .i64 x52.Right.a1, .int .i64 x52.Right.a2, .int .i64 x52.Right.a3, .int .i64 x52.In, .int .i64 x52.Page, .int .i64 x52.Bound, .int .i64 x52.Mask], Own 72 (ekI .u64) v1 qv1_5, OwnO 38 kr_ref10_Obj v0_Objs raws57 A58 a0.Objs, Box bp0 [v0_Slots, v0_Objs, .int .i64 a0.NS, .int .i64 a0.NO], OwnR 71 kr_ref10_Slot v0_Slots a0.Slots, F]) (fun hk5 => ?_) ?_
      · replace h := hC5
        refine S.block ?_
        refine S.seq ?_
        refine S.region ?_
        refine SO.v rfl (opv_eql rfl rfl) ?_
        refine SO.v rfl (opv_assign rfl) ?_
        refine SO.nil ?_
        rcases bool_or (x52.Kind == 1) with b68 | b68
        · replace h := cond_t b68 h
          refine S.condT rfl b68 ?_
          refine S.seq ?_
          refine S.region ?_
          refine SO.v rfl (opv_move rfl) ?_
          refine SO.v rfl (opv_move rfl) ?_
          refine SO.v rfl (opv_add rfl rfl) ?_
          refine SO.v rfl (opv_fieldAddr Try.underlying38 rfl Try.sizeOf3 rfl rfl) ?_
          refine SO.load1 rfl Try.isAgg3 rfl rfl ?_
          refine SO.v rfl (opv_conv Try.underlying3 Try.underlying72 rfl) ?_
          obtain ⟨x69, hx70, h⟩ := opt_bind h
          refine SO.v rfl (opv_idx Try.underlying22 Try.sizeOf72 hr67 rfl rfl hx70) ?_
          refine SO.b1 ?_
          refine SO.storeI1 (j := 0) (z' := wu64 x52.Size) Try.sizeOf72 hx70 rfl rfl rfl rfl rfl rfl ?_
          refine SO.rd fun hr71 => ?_
          refine SO.nil ?_
          refine S.region ?_
          refine SO.v rfl (opv_move rfl) ?_
          refine SO.v rfl (opv_move rfl) ?_
          refine SO.v rfl (opv_add rfl rfl) ?_
          refine SO.v rfl (opv_fieldAddr Try.underlying38 rfl Try.sizeOf3 rfl rfl) ?_
          refine SO.b1 ?_
          refine SO.load1 rfl Try.isAgg3 rfl rfl ?_
          refine SO.v rfl (opv_conv Try.underlying3 Try.underlying72 rfl) ?_
          obtain ⟨x72, hx73, h⟩ := opt_bind h
          refine SO.v rfl (opv_idx Try.underlying22 Try.sizeOf72 hr71 rfl rfl hx73) ?_
          refine SO.b1 ?_
          refine SO.storeI1 (j := 0) (z' := wu64 x52.Used) Try.sizeOf72 hx73 rfl rfl rfl rfl rfl rfl ?_
          refine SO.rd fun hr74 => ?_
          refine SO.nil ?_
          refine S.inBlock ?_
          cases h
          refine S.b5 ?_
          refine S.b5 ?_
          refine S.b5 ?_
          refine S.b5 ?_
          refine S.b4 ?_
          refine S.b5 ?_
          refine S.to ?_ (hk5 () trivial)
          exact ⟨rfl, rfl, rfl, rfl, rfl, rfl, rfl, rfl, rfl, rfl, rfl, rfl, rfl, rfl, rfl, rfl, rfl, rfl, rfl, rfl, rfl, rfl, rfl, rfl, rfl, rfl, rfl, rfl, trivial⟩
        · replace h := cond_f b68 h
          refine S.condF rfl b68 ?_
          refine S.seq ?_
          refine S.region ?_
          refine SO.v rfl (opv_eql rfl rfl) ?_
          refine SO.v rfl (opv_assign rfl) ?_
          refine SO.nil ?_
          rcases bool_or (x52.Kind == 2) with b75 | b75
          · replace h := cond_t b75 h
            refine S.condT rfl b75 ?_
            refine S.seq ?_
            refine S.region ?_
            refine SO.v rfl (opv_move rfl) ?_
            refine SO.v rfl (opv_move rfl) ?_
            refine SO.v rfl (opv_add rfl rfl) ?_
            refine SO.v rfl (opv_fieldAddr Try.underlying38 rfl Try.sizeOf3 rfl rfl) ?_
            refine SO.load1 rfl Try.isAgg3 rfl rfl ?_
            refine SO.v rfl (opv_conv Try.underlying3 Try.underlying72 rfl) ?_
            obtain ⟨x76, hx77, h⟩ := opt_bind h
            refine SO.v rfl (opv_idx Try.underlying22 Try.sizeOf72 hr67 rfl rfl hx77) ?_
            refine SO.b1 ?_
            refine SO.storeI1 (j := 0) (z' := wu64 x52.First) Try.sizeOf72 hx77 rfl rfl rfl rfl rfl rfl ?_
            refine SO.rd fun hr78 => ?_
            refine SO.nil ?_
            refine S.region ?_
            refine SO.v rfl (opv_move rfl) ?_
            refine SO.v rfl (opv_move rfl) ?_
            refine SO.v rfl (opv_add rfl rfl) ?_
            refine SO.v rfl (opv_fieldAddr Try.underlying38 rfl Try.sizeOf3 rfl rfl) ?_
            refine SO.b1 ?_
            refine SO.load1 rfl Try.isAgg3 rfl rfl ?_
            refine SO.v rfl (opv_conv Try.underlying3 Try.underlying72 rfl) ?_
            obtain ⟨x79, hx80, h⟩ := opt_bind h
            refine SO.v rfl (opv_idx Try.underlying22 Try.sizeOf72 hr78 rfl rfl hx80) ?_
            refine SO.b1 ?_
            refine SO.storeI1 (j := 0) (z' := wu64 x52.Radix) Try.sizeOf72 hx80 rfl rfl rfl rfl rfl rfl ?_
            refine SO.rd fun hr81 => ?_
            refine SO.nil ?_
            refine S.inBlock ?_
            cases h
            refine S.b5 ?_
            refine S.b5 ?_
            refine S.b5 ?_
            refine S.b5 ?_
            refine S.b4 ?_
            refine S.b5 ?_
            refine S.to ?_ (hk5 () trivial)
            exact ⟨rfl, rfl, rfl, rfl, rfl, rfl, rfl, rfl, rfl, rfl, rfl, rfl, rfl, rfl, rfl, rfl, rfl, rfl, rfl, rfl, rfl, rfl, rfl, rfl, rfl, rfl, rfl, rfl, trivial⟩
          · replace h := cond_f b75 h
            refine S.condF rfl b75 ?_
            refine S.seq ?_
            refine S.region ?_
            refine SO.v rfl (opv_eql rfl rfl) ?_
            refine SO.v rfl (opv_assign rfl) ?_
            refine SO.nil ?_
            rcases bool_or (x52.Kind == 3) with b82 | b82
            · replace h := cond_t b82 h
              refine S.condT rfl b82 ?_
              refine S.region ?_
              refine SO.v rfl (opv_move rfl) ?_
              refine SO.v rfl (opv_move rfl) ?_
              refine SO.v rfl (opv_add rfl rfl) ?_
              refine SO.v rfl (opv_fieldAddr Try.underlying38 rfl Try.sizeOf3 rfl rfl) ?_
              refine SO.load1 rfl Try.isAgg3 rfl rfl ?_
              refine SO.v rfl (opv_conv Try.underlying3 Try.underlying72 rfl) ?_
              obtain ⟨x83, hx84, h⟩ := opt_bind h
              refine SO.v rfl (opv_idx Try.underlying22 Try.sizeOf72 hr67 rfl rfl hx84) ?_
              refine SO.b1 ?_
              refine SO.storeI1 (j := 0) (z' := wu64 x52.Wait) Try.sizeOf72 hx84 rfl rfl rfl rfl rfl rfl ?_
              refine SO.rd fun hr85 => ?_
              refine SO.nil ?_
              refine S.inBlock ?_
              cases h
              refine S.b5 ?_
              refine S.b5 ?_
              refine S.b5 ?_
              refine S.b5 ?_
              refine S.b4 ?_
              refine S.b5 ?_
              refine S.to ?_ (hk5 () trivial)
              exact ⟨rfl, rfl, rfl, rfl, rfl, rfl, rfl, rfl, rfl, rfl, rfl, rfl, rfl, rfl, rfl, rfl, rfl, rfl, rfl, rfl, rfl, rfl, rfl, rfl, rfl, rfl, rfl, rfl, trivial⟩
            · replace h := cond_f b82 h
              refine S.condF rfl b82 ?_
              refine S.seq ?_
              refine S.region ?_
              refine SO.v rfl (opv_eql rfl rfl) ?_
              refine SO.v rfl (opv_assign rfl) ?_
              refine SO.nil ?_
              rcases bool_or (x52.Kind == 4) with b86 | b86
              · replace h := cond_t b86 h
                refine S.condT rfl b86 ?_
                refine S.region ?_
                refine SO.v rfl (opv_move rfl) ?_
                refine SO.v rfl (opv_move rfl) ?_
                refine SO.v rfl (opv_add rfl rfl) ?_
                refine SO.v rfl (opv_fieldAddr Try.underlying38 rfl Try.sizeOf3 rfl rfl) ?_
                refine SO.load1 rfl Try.isAgg3 rfl rfl ?_
                refine SO.v rfl (opv_conv Try.underlying3 Try.underlying72 rfl) ?_
                obtain ⟨x87, hx88, h⟩ := opt_bind h
                refine SO.v rfl (opv_idx Try.underlying22 Try.sizeOf72 hr67 rfl rfl hx88) ?_
                refine SO.b1 ?_
                refine SO.storeI1 (j := 0) (z' := wu64 x52.Word) Try.sizeOf72 hx88 rfl rfl rfl rfl rfl rfl ?_
                refine SO.rd fun hr89 => ?_
                refine SO.nil ?_
                refine S.inBlock ?_
                cases h
                refine S.b5 ?_
                refine S.b5 ?_
                refine S.b5 ?_
                refine S.b5 ?_
                refine S.b4 ?_
                refine S.b5 ?_
                refine S.to ?_ (hk5 () trivial)
                exact ⟨rfl, rfl, rfl, rfl, rfl, rfl, rfl, rfl, rfl, rfl, rfl, rfl, rfl, rfl, rfl, rfl, rfl, rfl, rfl, rfl, rfl, rfl, rfl, rfl, rfl, rfl, rfl, rfl, trivial⟩
              · replace h := cond_f b86 h
                refine S.condF rfl b86 ?_
                refine S.seq ?_
                refine S.region ?_
                refine SO.v rfl (opv_eql rfl rfl) ?_
                refine SO.v rfl (opv_assign rfl) ?_
                refine SO.nil ?_
                rcases bool_or (x52.Kind == 5) with b90 | b90
                · replace h := cond_t b90 h
                  refine S.condT rfl b90 ?_
                  refine S.seq ?_
                  refine S.region ?_
                  refine SO.v rfl (opv_move rfl) ?_
                  refine SO.v rfl (opv_move rfl) ?_
                  refine SO.v rfl (opv_add rfl rfl) ?_
                  refine SO.v rfl (opv_fieldAddr Try.underlying38 rfl Try.sizeOf3 rfl rfl) ?_
                  refine SO.load1 rfl Try.isAgg3 rfl rfl ?_
                  refine SO.v rfl (opv_conv Try.underlying3 Try.underlying72 rfl) ?_
                  obtain ⟨x91, hx92, h⟩ := opt_bind h
                  refine SO.v rfl (opv_idx Try.underlying22 Try.sizeOf72 hr67 rfl rfl hx92) ?_
                  refine SO.b1 ?_
                  refine SO.storeI1 (j := 0) (z' := wu64 x52.State) Try.sizeOf72 hx92 rfl rfl rfl rfl rfl rfl ?_
                  refine SO.rd fun hr93 => ?_
                  refine SO.nil ?_
                  refine S.seq ?_
                  obtain ⟨x94, hx95, h⟩ := opt_bind h
                  obtain ⟨x96, hx97, h⟩ := opt_bind h
                  refine S.draw' (Z := fun Q => ∀ (_ : Unit) (_ : Unit) (_ : Unit) (_ : Unit) (_ : Unit) (_ : Unit) (_ : Unit) (_ : Unit) (_ : Unit) (_ : Unit) (_ : Unit) (_ : Unit) (_ : Unit) (_ : Unit) (_ : Unit) (_ : Unit) (_ : Unit) (_ : Unit) (_ : Unit) (_ : Unit) (_ : Unit) (_ : Unit) (_ : Unit) (_ : Unit), Q [(176, idxp v1 ((w64 ((w64 (480 + (w64 (8 * x8_4)))) + 1)).toNat * (ekI .u64).sz)), (175, .int .u64 (wu64 x52.State)), (174, .int .i64 x52.State), (173, bp b64 8), (172, .int .i64 (w64 ((w64 (480 + (w64 (8 * x8_4)))) + 1))), (171, .int .i64 (w64 (480 + (w64 (8 * x8_4))))), (170, v1), (168, .bool (x52.Kind == 5)), (169, .bool (x52.Kind == 5)), (159, .bool (x52.Kind == 4)), (160, .bool (x52.Kind == 4)), (150, .bool (x52.Kind == 3)), (151, .bool (x52.Kind == 3)), (134, .bool (x52.Kind == 2)), (135, .bool (x52.Kind == 2)), (118, .bool (x52.Kind == 1)), (119, .bool (x52.Kind == 1)), (117, .int .i64 x52.Kind), (116, bp b64 0), (115, idxp v1 ((w64 (480 + (w64 (8 * x8_4)))).toNat * (ekI .u64).sz)), (114, .int .u64 (wu64 x52.Kind)), (113, .int .i64 x52.Kind), (112, bp b64 0), (111, .int .i64 (w64 (480 + (w64 (8 * x8_4))))), (110, v1), (109, .int .i64 (w64 (480 + (w64 (8 * x8_4))))), (108, .int .i64 (w64 (8 * x8_4))), (107, .int .i64 x8_4), (106, .agg #[.int .i64 x52.Kind, .int .i64 x52.Size, .int .i64 x52.Used, .int .i64 x52.First, .int .i64 x52.Radix, .int .i64 x52.Wait, u61, .int .i64 x52.Word, .int .i64 x52.State, .int .i64 x52.Owing, .int .i64 x52.Badge, .int .i64 x52.Prio, .int .i64 x52.On, .int .i64 x52.Owes, .int .i64 x52.Root.Kind, .int .i64 x52.Root.Rights, .int .i64 x52.Root.Obj, .int .i64 x52.Root.Badge, .int .i64 x52.Root.Guard, .int .i64 x52.Root.Bits, .int .i64 x52.Pages.a0, .int .i64 x52.Pages.a1, .int .i64 x52.Pages.a2, .int .i64 x52.Pages.a3, .int .i64 x52.Right.a0, .int .i64 x52.Right.a1, .int .i64 x52.Right.a2, .int .i64 x52.Right.a3, .int .i64 x52.In, .int .i64 x52.Page, .int .i64 x52.Bound, .int .i64 x52.Mask]), (105, idxp v0_Objs (x8_4.toNat * kr_ref10_Obj.sz)), (104, .int .i64 x8_4), (103, v0_Objs), (102, bp bp0 1), (101, bp bp0 0), (100, bp bp0 0), (97, .bool (decide (x8_4 < 32))), (96, .int .i64 x8_4), (8, .int .i64 x8_4), (0, bp bp0 0), (2, .slice none 0 0), (3, v1), (9, bp b64 0), (10, .int .i64 (w64 (480 + (w64 (8 * x8_4))))), (177, v1), (178, .int .i64 (w64 (480 + (w64 (8 * x8_4))))), (179, .int .i64 (w64 ((w64 (480 + (w64 (8 * x8_4)))) + 2))), (180, v1), (181, .int .i64 (w64 (480 + (w64 (8 * x8_4))))), (182, .int .i64 (w64 ((w64 (480 + (w64 (8 * x8_4)))) + 2))), (183, idxp v1 ((w64 ((w64 (480 + (w64 (8 * x8_4)))) + 2)).toNat * (ekI .u64).sz)), (184, .int .u64 x94), (185, bp b64 9), (186, .int .i64 x52.Owing), (187, .int .i64 (w64 (x52.Owing + 1))), (188, .int .u64 (wu64 (w64 (x52.Owing + 1)))), (189, .int .u64 (wu64 (x94 + (wu64 (w64 (x52.Owing + 1)))))), (190, idxp v1 ((w64 ((w64 (480 + (w64 (8 * x8_4)))) + 2)).toNat * (ekI .u64).sz))] [Own 72 (ekI .u64) v1 (((qv1_4.set (w64 (480 + (w64 (8 * x8_4)))).toNat (wu64 x52.Kind)).set (w64 ((w64 (480 + (w64 (8 * x8_4)))) + 1)).toNat (wu64 x52.State)).set (w64 ((w64 (480 + (w64 (8 * x8_4)))) + 2)).toNat (wu64 (x94 + (wu64 (w64 (x52.Owing + 1)))))), Box b64 [.int .i64 x52.Kind, .int .i64 x52.Size, .int .i64 x52.Used, .int .i64 x52.First, .int .i64 x52.Radix, .int .i64 x52.Wait, u61, .int .i64 x52.Word, .int .i64 x52.State, .int .i64 x52.Owing, .int .i64 x52.Badge, .int .i64 x52.Prio, .int .i64 x52.On, .int .i64 x52.Owes, .int .i64 x52.Root.Kind, .int .i64 x52.Root.Rights, .int .i64 x52.Root.Obj, .int .i64 x52.Root.Badge, .int .i64 x52.Root.Guard, .int .i64 x52.Root.Bits, .int .i64 x52.Pages.a0, .int .i64 x52.Pages.a1, .int .i64 x52.Pages.a2, .int .i64 x52.Pages.a3, .int .i64 x52.Right.a0, .int .i64 x52.Right.a1, .int .i64 x52.Right.a2, .int .i64 x52.Right.a3, .int .i64 x52.In, .int .i64 x52.Page, .int .i64 x52.Bound, .int .i64 x52.Mask], OwnO 38 kr_ref10_Obj v0_Objs raws57 A58 a0.Objs, Box bp0 [v0_Slots, v0_Objs, .int .i64 a0.NS, .int .i64 a0.NO], OwnR 71 kr_ref10_Slot v0_Slots a0.Slots, F]) (T := [tS 3 (v1), tS 10 (.int .i64 (w64 (480 + (w64 (8 * x8_4))))), tS 9 (bp b64 0), tE [(176, idxp v1 ((w64 ((w64 (480 + (w64 (8 * x8_4)))) + 1)).toNat * (ekI .u64).sz)), (175, .int .u64 (wu64 x52.State)), (174, .int .i64 x52.State), (173, bp b64 8), (172, .int .i64 (w64 ((w64 (480 + (w64 (8 * x8_4)))) + 1))), (171, .int .i64 (w64 (480 + (w64 (8 * x8_4))))), (170, v1), (168, .bool (x52.Kind == 5)), (169, .bool (x52.Kind == 5)), (159, .bool (x52.Kind == 4)), (160, .bool (x52.Kind == 4)), (150, .bool (x52.Kind == 3)), (151, .bool (x52.Kind == 3)), (134, .bool (x52.Kind == 2)), (135, .bool (x52.Kind == 2)), (118, .bool (x52.Kind == 1)), (119, .bool (x52.Kind == 1)), (117, .int .i64 x52.Kind), (116, bp b64 0), (115, idxp v1 ((w64 (480 + (w64 (8 * x8_4)))).toNat * (ekI .u64).sz)), (114, .int .u64 (wu64 x52.Kind)), (113, .int .i64 x52.Kind), (112, bp b64 0), (111, .int .i64 (w64 (480 + (w64 (8 * x8_4))))), (110, v1), (109, .int .i64 (w64 (480 + (w64 (8 * x8_4))))), (108, .int .i64 (w64 (8 * x8_4))), (107, .int .i64 x8_4), (106, .agg #[.int .i64 x52.Kind, .int .i64 x52.Size, .int .i64 x52.Used, .int .i64 x52.First, .int .i64 x52.Radix, .int .i64 x52.Wait, u61, .int .i64 x52.Word, .int .i64 x52.State, .int .i64 x52.Owing, .int .i64 x52.Badge, .int .i64 x52.Prio, .int .i64 x52.On, .int .i64 x52.Owes, .int .i64 x52.Root.Kind, .int .i64 x52.Root.Rights, .int .i64 x52.Root.Obj, .int .i64 x52.Root.Badge, .int .i64 x52.Root.Guard, .int .i64 x52.Root.Bits, .int .i64 x52.Pages.a0, .int .i64 x52.Pages.a1, .int .i64 x52.Pages.a2, .int .i64 x52.Pages.a3, .int .i64 x52.Right.a0, .int .i64 x52.Right.a1, .int .i64 x52.Right.a2, .int .i64 x52.Right.a3, .int .i64 x52.In, .int .i64 x52.Page, .int .i64 x52.Bound, .int .i64 x52.Mask]), (105, idxp v0_Objs (x8_4.toNat * kr_ref10_Obj.sz)), (104, .int .i64 x8_4), (103, v0_Objs), (102, bp bp0 1), (101, bp bp0 0), (100, bp bp0 0), (97, .bool (decide (x8_4 < 32))), (96, .int .i64 x8_4), (8, .int .i64 x8_4), (0, bp bp0 0), (2, .slice none 0 0)], tR (Own 72 (ekI .u64) v1 ((qv1_4.set (w64 (480 + (w64 (8 * x8_4)))).toNat (wu64 x52.Kind)).set (w64 ((w64 (480 + (w64 (8 * x8_4)))) + 1)).toNat (wu64 x52.State))), tR (Box b64 [.int .i64 x52.Kind, .int .i64 x52.Size, .int .i64 x52.Used, .int .i64 x52.First, .int .i64 x52.Radix, .int .i64 x52.Wait, u61, .int .i64 x52.Word, .int .i64 x52.State, .int .i64 x52.Owing, .int .i64 x52.Badge, .int .i64 x52.Prio, .int .i64 x52.On, .int .i64 x52.Owes, .int .i64 x52.Root.Kind, .int .i64 x52.Root.Rights, .int .i64 x52.Root.Obj, .int .i64 x52.Root.Badge, .int .i64 x52.Root.Guard, .int .i64 x52.Root.Bits, .int .i64 x52.Pages.a0, .int .i64 x52.Pages.a1, .int .i64 x52.Pages.a2, .int .i64 x52.Pages.a3, .int .i64 x52.Right.a0, .int .i64 x52.Right.a1, .int .i64 x52.Right.a2, .int .i64 x52.Right.a3, .int .i64 x52.In, .int .i64 x52.Page, .int .i64 x52.Bound, .int .i64 x52.Mask]), tR (OwnO 38 kr_ref10_Obj v0_Objs raws57 A58 a0.Objs), tR (Box bp0 [v0_Slots, v0_Objs, .int .i64 a0.NS, .int .i64 a0.NO]), tR (OwnR 71 kr_ref10_Slot v0_Slots a0.Slots), tR (F), tS 177 (v1), tS 178 (.int .i64 (w64 (480 + (w64 (8 * x8_4))))), tS 179 (.int .i64 (w64 ((w64 (480 + (w64 (8 * x8_4)))) + 2))), tS 180 (v1), tS 181 (.int .i64 (w64 (480 + (w64 (8 * x8_4))))), tS 182 (.int .i64 (w64 ((w64 (480 + (w64 (8 * x8_4)))) + 2))), tS 183 (idxp v1 ((w64 ((w64 (480 + (w64 (8 * x8_4)))) + 2)).toNat * (ekI .u64).sz)), tS 184 (.int .u64 x94), tS 185 (bp b64 9), tS 186 (.int .i64 x52.Owing), tS 187 (.int .i64 (w64 (x52.Owing + 1))), tS 188 (.int .u64 (wu64 (w64 (x52.Owing + 1)))), tS 189 (.int .u64 (wu64 (x94 + (wu64 (w64 (x52.Owing + 1)))))), tS 190 (idxp v1 ((w64 ((w64 (480 + (w64 (8 * x8_4)))) + 2)).toNat * (ekI .u64).sz)), tR (Own 72 (ekI .u64) v1 (((qv1_4.set (w64 (480 + (w64 (8 * x8_4)))).toNat (wu64 x52.Kind)).set (w64 ((w64 (480 + (w64 (8 * x8_4)))) + 1)).toNat (wu64 x52.State)).set (w64 ((w64 (480 + (w64 (8 * x8_4)))) + 2)).toNat (wu64 (x94 + (wu64 (w64 (x52.Owing + 1)))))))]) (D := [⟨[0], [], [10]⟩, ⟨[1], [], [11]⟩, ⟨[11], [], [12]⟩, ⟨[0], [], [13]⟩, ⟨[1], [], [14]⟩, ⟨[14], [], [15]⟩, ⟨[13, 15, 4], [], [16]⟩, ⟨[16, 4], [], [17]⟩, ⟨[2], [], [18]⟩, ⟨[18, 5], [], [19]⟩, ⟨[19], [], [20]⟩, ⟨[20], [], [21]⟩, ⟨[17, 21], [], [22]⟩, ⟨[10, 12, 4], [], [23]⟩, ⟨[22, 23], [4], [24]⟩]) (ini := [0, 1, 2, 3, 4, 5, 6, 7, 8, 9]) (fin := [3, 0, 2, 1, 10, 11, 12, 13, 14, 15, 16, 17, 18, 19, 20, 21, 22, 23, 24, 5, 6, 7, 8, 9]) (bf := [[], [], [1], [], [], [4], [3, 4, 5], [3, 4, 5, 6], [], [8], [8, 9], [8, 9, 10], [3, 4, 5, 6, 7, 8, 9, 10, 11], [0, 1, 2, 3, 4, 5, 6, 7, 8, 9, 10, 11, 12], [0, 1, 2, 3, 4, 5, 6, 7, 8, 9, 10, 11, 12, 13]]) (by kernel_rfl) (by kernel_rfl) (fun x w h1 h2 => (.cons () (.cons () (.cons () (.cons () (.cons () (.cons () (.cons () (.cons () (.cons () (.cons () (.nil ⟨EnvAll.of h1 ⟨rfl, rfl, rfl, rfl, rfl, rfl, rfl, rfl, rfl, rfl, rfl, rfl, rfl, rfl, rfl, rfl, rfl, rfl, rfl, rfl, rfl, rfl, rfl, rfl, rfl, rfl, rfl, rfl, rfl, rfl, rfl, rfl, rfl, rfl, rfl, rfl, rfl, rfl, rfl, rfl, rfl, rfl, rfl, trivial⟩, h2⟩)))))))))))) (fun Q => by kernel_rfl) ⟨?_, ?_, ?_, ?_, ?_, ?_, ?_, ?_, ?_, ?_, ?_, ?_, ?_, ?_, ?_, trivial⟩ ?_
                  · rintro Fr _
                    refine SO.v rfl (opv_move rfl) ?_
                    exact SO.nilZ fun a w h1 h2 h3 h4 h5 => PZ.of h1 h3 h5 (.cons () (.cons () (.nil ⟨EnvAll.of h2 ⟨rfl, rfl, trivial⟩, h4⟩)))
                  · rintro Fr _
                    refine SO.v rfl (opv_move rfl) ?_
                    exact SO.nilZ fun a w h1 h2 h3 h4 h5 => PZ.of h1 h3 h5 (.cons () (.cons () (.nil ⟨EnvAll.of h2 ⟨rfl, rfl, trivial⟩, h4⟩)))
                  · rintro Fr _
                    refine SO.v rfl (opv_add rfl rfl) ?_
                    exact SO.nilZ fun a w h1 h2 h3 h4 h5 => PZ.of h1 h3 h5 (.cons () (.cons () (.nil ⟨EnvAll.of h2 ⟨rfl, rfl, trivial⟩, h4⟩)))
                  · rintro Fr _
                    refine SO.v rfl (opv_move rfl) ?_
                    exact SO.nilZ fun a w h1 h2 h3 h4 h5 => PZ.of h1 h3 h5 (.cons () (.cons () (.nil ⟨EnvAll.of h2 ⟨rfl, rfl, trivial⟩, h4⟩)))
                  · rintro Fr _
                    refine SO.v rfl (opv_move rfl) ?_
                    exact SO.nilZ fun a w h1 h2 h3 h4 h5 => PZ.of h1 h3 h5 (.cons () (.cons () (.nil ⟨EnvAll.of h2 ⟨rfl, rfl, trivial⟩, h4⟩)))
                  · rintro Fr _
                    refine SO.v rfl (opv_add rfl rfl) ?_
                    exact SO.nilZ fun a w h1 h2 h3 h4 h5 => PZ.of h1 h3 h5 (.cons () (.cons () (.nil ⟨EnvAll.of h2 ⟨rfl, rfl, trivial⟩, h4⟩)))
                  · rintro Fr _ _ _
                    refine SO.v rfl (opv_idx Try.underlying22 Try.sizeOf72 hr93 rfl rfl hx95) ?_
                    exact SO.nilZ fun a w h1 h2 h3 h4 h5 => PZ.of h1 h3 h5 (.cons () (.cons () (.cons () (.cons () (.nil ⟨EnvAll.of h2 ⟨rfl, rfl, rfl, trivial⟩, h4⟩)))))
                  · rintro Fr _ _
                    refine SO.loadI1 (j := 0) rfl Try.isAgg72 (Rd.head hr93) hx95 rfl rfl rfl rfl ?_
                    exact SO.nilZ fun a w h1 h2 h3 h4 h5 => PZ.of h1 h3 h5 (.cons () (.cons () (.cons () (.nil ⟨EnvAll.of h2 ⟨rfl, rfl, trivial⟩, h4⟩))))
                  · rintro Fr _
                    refine SO.v rfl (opv_fieldAddr Try.underlying38 rfl Try.sizeOf3 rfl rfl) ?_
                    exact SO.nilZ fun a w h1 h2 h3 h4 h5 => PZ.of h1 h3 h5 (.cons () (.cons () (.nil ⟨EnvAll.of h2 ⟨rfl, rfl, trivial⟩, h4⟩)))
                  · rintro Fr _ _
                    refine SO.load1 rfl Try.isAgg3 rfl rfl ?_
                    exact SO.nilZ fun a w h1 h2 h3 h4 h5 => PZ.of h1 h3 h5 (.cons () (.cons () (.cons () (.nil ⟨EnvAll.of h2 ⟨rfl, rfl, trivial⟩, h4⟩))))
                  · rintro Fr _
                    refine SO.v rfl (opv_add rfl rfl) ?_
                    exact SO.nilZ fun a w h1 h2 h3 h4 h5 => PZ.of h1 h3 h5 (.cons () (.cons () (.nil ⟨EnvAll.of h2 ⟨rfl, rfl, trivial⟩, h4⟩)))
                  · rintro Fr _
                    refine SO.v rfl (opv_conv Try.underlying3 Try.underlying72 rfl) ?_
                    exact SO.nilZ fun a w h1 h2 h3 h4 h5 => PZ.of h1 h3 h5 (.cons () (.cons () (.nil ⟨EnvAll.of h2 ⟨rfl, rfl, trivial⟩, h4⟩)))
                  · rintro Fr _ _
                    refine SO.v rfl (opv_add rfl rfl) ?_
                    exact SO.nilZ fun a w h1 h2 h3 h4 h5 => PZ.of h1 h3 h5 (.cons () (.cons () (.cons () (.nil ⟨EnvAll.of h2 ⟨rfl, rfl, rfl, trivial⟩, h4⟩))))
                  · rintro Fr _ _ _
                    refine SO.v rfl (opv_idx Try.underlying22 Try.sizeOf72 hr93 rfl rfl hx97) ?_
                    exact SO.nilZ fun a w h1 h2 h3 h4 h5 => PZ.of h1 h3 h5 (.cons () (.cons () (.cons () (.cons () (.nil ⟨EnvAll.of h2 ⟨rfl, rfl, rfl, trivial⟩, h4⟩)))))
                  · rintro Fr _ _ _
                    refine SO.storeI1 (j := 0) (z' := wu64 (x94 + (wu64 (w64 (x52.Owing + 1))))) Try.sizeOf72 hx97 rfl rfl rfl rfl rfl rfl ?_
                    refine SO.rd fun hr98 => ?_
                    exact SO.nilZ fun a w h1 h2 h3 h4 h5 => PZ.of h1 h3 h5 (.cons () (.cons () (.cons () (.nil ⟨EnvAll.of h2 ⟨rfl, rfl, trivial⟩, h4⟩))))
                  rintro _ _ _ _ _ _ _ _ _ _ _ _ _ _ _ _ _ _ _ _ _ _ _ _
                  refine S.to (ρ' := [(176, idxp v1 ((w64 ((w64 (480 + (w64 (8 * x8_4)))) + 1)).toNat * (ekI .u64).sz)), (175, .int .u64 (wu64 x52.State)), (174, .int .i64 x52.State), (173, bp b64 8), (172, .int .i64 (w64 ((w64 (480 + (w64 (8 * x8_4)))) + 1))), (171, .int .i64 (w64 (480 + (w64 (8 * x8_4))))), (170, v1), (168, .bool (x52.Kind == 5)), (169, .bool (x52.Kind == 5)), (159, .bool (x52.Kind == 4)), (160, .bool (x52.Kind == 4)), (150, .bool (x52.Kind == 3)), (151, .bool (x52.Kind == 3)), (134, .bool (x52.Kind == 2)), (135, .bool (x52.Kind == 2)), (118, .bool (x52.Kind == 1)), (119, .bool (x52.Kind == 1)), (117, .int .i64 x52.Kind), (116, bp b64 0), (115, idxp v1 ((w64 (480 + (w64 (8 * x8_4)))).toNat * (ekI .u64).sz)), (114, .int .u64 (wu64 x52.Kind)), (113, .int .i64 x52.Kind), (112, bp b64 0), (111, .int .i64 (w64 (480 + (w64 (8 * x8_4))))), (110, v1), (109, .int .i64 (w64 (480 + (w64 (8 * x8_4))))), (108, .int .i64 (w64 (8 * x8_4))), (107, .int .i64 x8_4), (106, .agg #[.int .i64 x52.Kind, .int .i64 x52.Size, .int .i64 x52.Used, .int .i64 x52.First, .int .i64 x52.Radix, .int .i64 x52.Wait, u61, .int .i64 x52.Word, .int .i64 x52.State, .int .i64 x52.Owing, .int .i64 x52.Badge, .int .i64 x52.Prio, .int .i64 x52.On, .int .i64 x52.Owes, .int .i64 x52.Root.Kind, .int .i64 x52.Root.Rights, .int .i64 x52.Root.Obj, .int .i64 x52.Root.Badge, .int .i64 x52.Root.Guard, .int .i64 x52.Root.Bits, .int .i64 x52.Pages.a0, .int .i64 x52.Pages.a1, .int .i64 x52.Pages.a2, .int .i64 x52.Pages.a3, .int .i64 x52.Right.a0, .int .i64 x52.Right.a1, .int .i64 x52.Right.a2, .int .i64 x52.Right.a3, .int .i64 x52.In, .int .i64 x52.Page, .int .i64 x52.Bound, .int .i64 x52.Mask]), (105, idxp v0_Objs (x8_4.toNat * kr_ref10_Obj.sz)), (104, .int .i64 x8_4), (103, v0_Objs), (102, bp bp0 1), (101, bp bp0 0), (100, bp bp0 0), (97, .bool (decide (x8_4 < 32))), (96, .int .i64 x8_4), (8, .int .i64 x8_4), (0, bp bp0 0), (2, .slice none 0 0), (3, v1), (9, bp b64 0), (10, .int .i64 (w64 (480 + (w64 (8 * x8_4))))), (177, v1), (178, .int .i64 (w64 (480 + (w64 (8 * x8_4))))), (179, .int .i64 (w64 ((w64 (480 + (w64 (8 * x8_4)))) + 2))), (180, v1), (181, .int .i64 (w64 (480 + (w64 (8 * x8_4))))), (182, .int .i64 (w64 ((w64 (480 + (w64 (8 * x8_4)))) + 2))), (183, idxp v1 ((w64 ((w64 (480 + (w64 (8 * x8_4)))) + 2)).toNat * (ekI .u64).sz)), (184, .int .u64 x94), (185, bp b64 9), (186, .int .i64 x52.Owing), (187, .int .i64 (w64 (x52.Owing + 1))), (188, .int .u64 (wu64 (w64 (x52.Owing + 1)))), (189, .int .u64 (wu64 (x94 + (wu64 (w64 (x52.Owing + 1)))))), (190, idxp v1 ((w64 ((w64 (480 + (w64 (8 * x8_4)))) + 2)).toNat * (ekI .u64).sz))]) ⟨rfl, rfl, rfl, rfl, rfl, rfl, rfl, rfl, rfl, rfl, rfl, rfl, rfl, rfl, rfl, rfl, rfl, rfl, rfl, rfl, rfl, rfl, rfl, rfl, rfl, rfl, rfl, rfl, rfl, rfl, rfl, rfl, rfl, rfl, rfl, rfl, rfl, rfl, rfl, rfl, rfl, rfl, rfl, rfl, rfl, rfl, rfl, rfl, rfl, rfl, rfl, rfl, rfl, rfl, rfl, rfl, rfl, trivial⟩ ?_
                  refine S.rd fun hr99 => ?_
                  refine S.seq ?_
                  refine S.region ?_
                  refine SO.v rfl (opv_move rfl) ?_
                  refine SO.v rfl (opv_move rfl) ?_
                  refine SO.v rfl (opv_add rfl rfl) ?_
                  refine SO.v rfl (opv_fieldAddr Try.underlying38 rfl Try.sizeOf3 rfl rfl) ?_
                  refine SO.b1 ?_
                  refine SO.load1 rfl Try.isAgg3 rfl rfl ?_
                  refine SO.v rfl (opv_conv Try.underlying3 Try.underlying72 rfl) ?_
                  obtain ⟨x100, hx101, h⟩ := opt_bind h
                  refine SO.v rfl (opv_idx Try.underlying22 Try.sizeOf72 hr99 rfl rfl hx101) ?_
                  refine SO.b1 ?_
                  refine SO.storeI1 (j := 0) (z' := wu64 x52.Word) Try.sizeOf72 hx101 rfl rfl rfl rfl rfl rfl ?_
                  refine SO.rd fun hr102 => ?_
                  refine SO.nil ?_
                  refine S.seq ?_
                  refine S.region ?_
                  refine SO.v rfl (opv_move rfl) ?_
                  refine SO.v rfl (opv_move rfl) ?_
                  refine SO.v rfl (opv_add rfl rfl) ?_
                  refine SO.v rfl (opv_fieldAddr Try.underlying38 rfl Try.sizeOf3 rfl rfl) ?_
                  refine SO.b1 ?_
                  refine SO.load1 rfl Try.isAgg3 rfl rfl ?_
                  refine SO.v rfl (opv_conv Try.underlying3 Try.underlying72 rfl) ?_
                  obtain ⟨x103, hx104, h⟩ := opt_bind h
                  refine SO.v rfl (opv_idx Try.underlying22 Try.sizeOf72 hr102 rfl rfl hx104) ?_
                  refine SO.b1 ?_
                  refine SO.storeI1 (j := 0) (z' := wu64 x52.Badge) Try.sizeOf72 hx104 rfl rfl rfl rfl rfl rfl ?_
                  refine SO.rd fun hr105 => ?_
                  refine SO.nil ?_
                  refine S.seq ?_
                  refine S.region ?_
                  refine SO.v rfl (opv_move rfl) ?_
                  refine SO.v rfl (opv_move rfl) ?_
                  refine SO.v rfl (opv_add rfl rfl) ?_
                  refine SO.v rfl (opv_fieldAddr Try.underlying38 rfl Try.sizeOf3 rfl rfl) ?_
                  refine SO.b1 ?_
                  refine SO.load1 rfl Try.isAgg3 rfl rfl ?_
                  refine SO.v rfl (opv_fieldAddr Try.underlying38 rfl Try.sizeOf3 rfl rfl) ?_
                  refine SO.load1 rfl Try.isAgg3 rfl rfl ?_
                  refine SO.v rfl (opv_add rfl rfl) ?_
                  refine SO.v rfl (opv_mul rfl rfl) ?_
                  refine SO.v rfl (opv_add rfl rfl) ?_
                  refine SO.v rfl (opv_conv Try.underlying3 Try.underlying72 rfl) ?_
                  obtain ⟨x106, hx107, h⟩ := opt_bind h
                  refine SO.v rfl (opv_idx Try.underlying22 Try.sizeOf72 hr105 rfl rfl hx107) ?_
                  refine SO.b1 ?_
                  refine SO.storeI1 (j := 0) (z' := wu64 (w64 (x52.Prio + (w64 (256 * (w64 (x52.On + 1))))))) Try.sizeOf72 hx107 rfl rfl rfl rfl rfl rfl ?_
                  refine SO.rd fun hr108 => ?_
                  refine SO.nil ?_
                  refine S.seq ?_
                  refine S.region ?_
                  refine SO.v rfl (opv_move rfl) ?_
                  refine SO.v rfl (opv_move rfl) ?_
                  refine SO.v rfl (opv_add rfl rfl) ?_
                  refine SO.v rfl (opv_fieldAddr Try.underlying38 rfl Try.sizeOf3 rfl rfl) ?_
                  refine SO.b1 ?_
                  refine SO.load1 rfl Try.isAgg3 rfl rfl ?_
                  refine SO.v rfl (opv_add rfl rfl) ?_
                  refine SO.v rfl (opv_conv Try.underlying3 Try.underlying72 rfl) ?_
                  obtain ⟨x109, hx110, h⟩ := opt_bind h
                  refine SO.v rfl (opv_idx Try.underlying22 Try.sizeOf72 hr108 rfl rfl hx110) ?_
                  refine SO.b1 ?_
                  refine SO.storeI1 (j := 0) (z' := wu64 (w64 (x52.Owes + 1))) Try.sizeOf72 hx110 rfl rfl rfl rfl rfl rfl ?_
                  refine SO.rd fun hr111 => ?_
                  refine SO.nil ?_
                  refine S.region ?_
                  refine SO.v rfl (opv_move rfl) ?_
                  refine SO.v rfl (opv_move rfl) ?_
                  refine SO.v rfl (opv_add rfl rfl) ?_
                  refine SO.v rfl (opv_fieldAddr Try.underlying38 rfl Try.sizeOf24 rfl rfl) ?_
                  refine SO.b1 ?_
                  refine SO.loadN rfl Try.isAgg24 Try.sizeOf24 rfl rfl rfl ?_
                  obtain ⟨t112, ht113, h⟩ := opt_bind h
                  refine SO.call (pre := []) rfl Try.call28 rfl rfl rfl (ref01_Word.ct _ _ ht113) trivial ?_
                  rintro _ _ ⟨rfl, rfl⟩
                  obtain ⟨x114, hx115, h⟩ := opt_bind h
                  refine SO.v rfl (opv_idx Try.underlying22 Try.sizeOf72 hr111 rfl rfl hx115) ?_
                  refine SO.b1 ?_
                  refine SO.storeI1 (j := 0) (z' := t112) Try.sizeOf72 hx115 rfl rfl rfl rfl rfl rfl ?_
                  refine SO.rd fun hr116 => ?_
                  refine SO.nil ?_
                  refine S.inBlock ?_
                  cases h
                  refine S.b5 ?_
                  refine S.b5 ?_
                  refine S.b5 ?_
                  refine S.b5 ?_
                  refine S.b4 ?_
                  refine S.b5 ?_
                  refine S.to ?_ (hk5 () trivial)
                  exact ⟨rfl, rfl, rfl, rfl, rfl, rfl, rfl, rfl, rfl, rfl, rfl, rfl, rfl, rfl, rfl, rfl, rfl, rfl, rfl, rfl, rfl, rfl, rfl, rfl, rfl, rfl, rfl, rfl, trivial⟩
                · replace h := cond_f b90 h
                  refine S.condF rfl b90 ?_
                  refine S.seq ?_
                  refine S.region ?_
                  refine SO.v rfl (opv_eql rfl rfl) ?_
                  refine SO.v rfl (opv_assign rfl) ?_
                  refine SO.nil ?_
                  rcases bool_or (x52.Kind == 6) with b117 | b117
                  · replace h := cond_t b117 h
                    refine S.condT rfl b117 ?_
                    refine S.seq ?_
                    refine S.region ?_
                    refine SO.v rfl (opv_move rfl) ?_
                    refine SO.v rfl (opv_move rfl) ?_
                    refine SO.v rfl (opv_add rfl rfl) ?_
                    refine SO.v rfl (opv_fieldAddr Try.underlying38 rfl Try.sizeOf3 rfl rfl) ?_
                    refine SO.load1 rfl Try.isAgg3 rfl rfl ?_
                    refine SO.v rfl (opv_add rfl rfl) ?_
                    refine SO.v rfl (opv_conv Try.underlying3 Try.underlying72 rfl) ?_
                    obtain ⟨x118, hx119, h⟩ := opt_bind h
                    refine SO.v rfl (opv_idx Try.underlying22 Try.sizeOf72 hr67 rfl rfl hx119) ?_
                    refine SO.b1 ?_
                    refine SO.storeI1 (j := 0) (z' := wu64 (w64 (x52.In + 1))) Try.sizeOf72 hx119 rfl rfl rfl rfl rfl rfl ?_
                    refine SO.rd fun hr120 => ?_
                    refine SO.nil ?_
                    refine S.region ?_
                    refine SO.v rfl (opv_move rfl) ?_
                    refine SO.v rfl (opv_move rfl) ?_
                    refine SO.v rfl (opv_add rfl rfl) ?_
                    refine SO.v rfl (opv_fieldAddr Try.underlying38 rfl Try.sizeOf3 rfl rfl) ?_
                    refine SO.b1 ?_
                    refine SO.load1 rfl Try.isAgg3 rfl rfl ?_
                    refine SO.v rfl (opv_conv Try.underlying3 Try.underlying72 rfl) ?_
                    obtain ⟨x121, hx122, h⟩ := opt_bind h
                    refine SO.v rfl (opv_idx Try.underlying22 Try.sizeOf72 hr120 rfl rfl hx122) ?_
                    refine SO.b1 ?_
                    refine SO.storeI1 (j := 0) (z' := wu64 x52.Page) Try.sizeOf72 hx122 rfl rfl rfl rfl rfl rfl ?_
                    refine SO.rd fun hr123 => ?_
                    refine SO.nil ?_
                    refine S.inBlock ?_
                    cases h
                    refine S.b5 ?_
                    refine S.b5 ?_
                    refine S.b5 ?_
                    refine S.b5 ?_
                    refine S.b4 ?_
                    refine S.b5 ?_
                    refine S.to ?_ (hk5 () trivial)
                    exact ⟨rfl, rfl, rfl, rfl, rfl, rfl, rfl, rfl, rfl, rfl, rfl, rfl, rfl, rfl, rfl, rfl, rfl, rfl, rfl, rfl, rfl, rfl, rfl, rfl, rfl, rfl, rfl, rfl, trivial⟩
                  · replace h := cond_f b117 h
                    refine S.condF rfl b117 ?_
                    refine S.seq ?_
                    refine S.region ?_
                    refine SO.v rfl (opv_eql rfl rfl) ?_
                    refine SO.v rfl (opv_assign rfl) ?_
                    refine SO.nil ?_
                    rcases bool_or (x52.Kind == 7) with b124 | b124
                    · replace h := cond_t b124 h
                      refine S.condT rfl b124 ?_
                      refine S.seq ?_
                      refine S.region ?_
                      refine SO.v rfl (opv_assign rfl) ?_
                      refine SO.nil ?_
                      obtain ⟨⟨j11_e6, j251_e6, j252_e6, qv1_e6⟩, hl6, h⟩ := opt_bind h
                      refine S.b5 ?_
                      refine S.b5 ?_
                      refine S.b5 ?_
                      refine S.b5 ?_
                      refine S.b5 ?_
                      refine S.b5 ?_
                      refine S.to (ρ' := [(11, .int .i64 0), (249, .bool (x52.Kind == 7)), (250, .bool (x52.Kind == 7)), (232, .bool (x52.Kind == 6)), (233, .bool (x52.Kind == 6)), (168, .bool (x52.Kind == 5)), (169, .bool (x52.Kind == 5)), (159, .bool (x52.Kind == 4)), (160, .bool (x52.Kind == 4)), (150, .bool (x52.Kind == 3)), (151, .bool (x52.Kind == 3)), (134, .bool (x52.Kind == 2)), (135, .bool (x52.Kind == 2)), (118, .bool (x52.Kind == 1)), (119, .bool (x52.Kind == 1)), (117, .int .i64 x52.Kind), (116, bp b64 0), (115, idxp v1 ((w64 (480 + (w64 (8 * x8_4)))).toNat * (ekI .u64).sz)), (114, .int .u64 (wu64 x52.Kind)), (113, .int .i64 x52.Kind), (112, bp b64 0), (111, .int .i64 (w64 (480 + (w64 (8 * x8_4))))), (110, v1), (10, .int .i64 (w64 (480 + (w64 (8 * x8_4))))), (109, .int .i64 (w64 (480 + (w64 (8 * x8_4))))), (108, .int .i64 (w64 (8 * x8_4))), (107, .int .i64 x8_4), (9, bp b64 0), (106, .agg #[.int .i64 x52.Kind, .int .i64 x52.Size, .int .i64 x52.Used, .int .i64 x52.First, .int .i64 x52.Radix, .int .i64 x52.Wait, u61, .int .i64 x52.Word, .int .i64 x52.State, .int .i64 x52.Owing, .int .i64 x52.Badge, .int .i64 x52.Prio, .int .i64 x52.On, .int .i64 x52.Owes, .int .i64 x52.Root.Kind, .int .i64 x52.Root.Rights, .int .i64 x52.Root.Obj, .int .i64 x52.Root.Badge, .int .i64 x52.Root.Guard, .int .i64 x52.Root.Bits, .int .i64 x52.Pages.a0, .int .i64 x52.Pages.a1, .int .i64 x52.Pages.a2, .int .i64 x52.Pages.a3, .int .i64 x52.Right.a0, .int .i64 x52.Right.a1, .int .i64 x52.Right.a2, .int .i64 x52.Right.a3, .int .i64 x52.In, .int .i64 x52.Page, .int .i64 x52.Bound, .int .i64 x52.Mask]), (105, idxp v0_Objs (x8_4.toNat * kr_ref10_Obj.sz)), (104, .int .i64 x8_4), (103, v0_Objs), (102, bp bp0 1), (101, bp bp0 0), (100, bp bp0 0), (97, .bool (decide (x8_4 < 32))), (96, .int .i64 x8_4), (8, .int .i64 x8_4), (0, bp bp0 0), (2, .slice none 0 0), (3, v1)]) ⟨rfl, rfl, rfl, rfl, rfl, rfl, rfl, rfl, rfl, rfl, rfl, rfl, rfl, rfl, rfl, rfl, rfl, rfl, rfl, rfl, rfl, rfl, rfl, rfl, rfl, rfl, rfl, rfl, rfl, rfl, rfl, rfl, rfl, rfl, rfl, rfl, rfl, rfl, rfl, rfl, rfl, trivial⟩ ?_
                      refine S.forloop (X := (Int × (List Int)) × Unit) (O := (Int × Int × Bool × (List Int))) (fun m x => ref10_State_Words.l6 x8_4 x52 m x.1) (fun x => match x with | ((x11_6, qv1_6), _) => [(11, .int .i64 x11_6), (249, .bool (x52.Kind == 7)), (250, .bool (x52.Kind == 7)), (232, .bool (x52.Kind == 6)), (233, .bool (x52.Kind == 6)), (168, .bool (x52.Kind == 5)), (169, .bool (x52.Kind == 5)), (159, .bool (x52.Kind == 4)), (160, .bool (x52.Kind == 4)), (150, .bool (x52.Kind == 3)), (151, .bool (x52.Kind == 3)), (134, .bool (x52.Kind == 2)), (135, .bool (x52.Kind == 2)), (118, .bool (x52.Kind == 1)), (119, .bool (x52.Kind == 1)), (117, .int .i64 x52.Kind), (116, bp b64 0), (115, idxp v1 ((w64 (480 + (w64 (8 * x8_4)))).toNat * (ekI .u64).sz)), (114, .int .u64 (wu64 x52.Kind)), (113, .int .i64 x52.Kind), (112, bp b64 0), (111, .int .i64 (w64 (480 + (w64 (8 * x8_4))))), (110, v1), (10, .int .i64 (w64 (480 + (w64 (8 * x8_4))))), (109, .int .i64 (w64 (480 + (w64 (8 * x8_4))))), (108, .int .i64 (w64 (8 * x8_4))), (107, .int .i64 x8_4), (9, bp b64 0), (106, .agg #[.int .i64 x52.Kind, .int .i64 x52.Size, .int .i64 x52.Used, .int .i64 x52.First, .int .i64 x52.Radix, .int .i64 x52.Wait, u61, .int .i64 x52.Word, .int .i64 x52.State, .int .i64 x52.Owing, .int .i64 x52.Badge, .int .i64 x52.Prio, .int .i64 x52.On, .int .i64 x52.Owes, .int .i64 x52.Root.Kind, .int .i64 x52.Root.Rights, .int .i64 x52.Root.Obj, .int .i64 x52.Root.Badge, .int .i64 x52.Root.Guard, .int .i64 x52.Root.Bits, .int .i64 x52.Pages.a0, .int .i64 x52.Pages.a1, .int .i64 x52.Pages.a2, .int .i64 x52.Pages.a3, .int .i64 x52.Right.a0, .int .i64 x52.Right.a1, .int .i64 x52.Right.a2, .int .i64 x52.Right.a3, .int .i64 x52.In, .int .i64 x52.Page, .int .i64 x52.Bound, .int .i64 x52.Mask]), (105, idxp v0_Objs (x8_4.toNat * kr_ref10_Obj.sz)), (104, .int .i64 x8_4), (103, v0_Objs), (102, bp bp0 1), (101, bp bp0 0), (100, bp bp0 0), (97, .bool (decide (x8_4 < 32))), (96, .int .i64 x8_4), (8, .int .i64 x8_4), (0, bp bp0 0), (2, .slice none 0 0), (3, v1)]) (fun x => match x with | ((x11_6, qv1_6), _) => [Box b64 [.int .i64 x52.Kind, .int .i64 x52.Size, .int .i64 x52.Used, .int .i64 x52.First, .int .i64 x52.Radix, .int .i64 x52.Wait, u61, .int .i64 x52.Word, .int .i64 x52.State, .int .i64 x52.Owing, .int .i64 x52.Badge, .int .i64 x52.Prio, .int .i64 x52.On, .int .i64 x52.Owes, .int .i64 x52.Root.Kind, .int .i64 x52.Root.Rights, .int .i64 x52.Root.Obj, .int .i64 x52.Root.Badge, .int .i64 x52.Root.Guard, .int .i64 x52.Root.Bits, .int .i64 x52.Pages.a0, .int .i64 x52.Pages.a1, .int .i64 x52.Pages.a2, .int .i64 x52.Pages.a3, .int .i64 x52.Right.a0, .int .i64 x52.Right.a1, .int .i64 x52.Right.a2, .int .i64 x52.Right.a3, .int .i64 x52.In, .int .i64 x52.Page, .int .i64 x52.Bound, .int .i64 x52.Mask], Own 72 (ekI .u64) v1 qv1_6, OwnO 38 kr_ref10_Obj v0_Objs raws57 A58 a0.Objs, Box bp0 [v0_Slots, v0_Objs, .int .i64 a0.NS, .int .i64 a0.NO], OwnR 71 kr_ref10_Slot v0_Slots a0.Slots, F]) (fun Sk => (fun x => match x with | (j11_e6, j251_e6, j252_e6, qv1_e6) => ∀ _ : Unit, Sk [(0, bp bp0 0), (2, .slice none 0 0), (3, v1), (8, .int .i64 x8_4), (9, bp b64 0), (10, .int .i64 (w64 (480 + (w64 (8 * x8_4))))), (11, .int .i64 j11_e6), (96, .int .i64 x8_4), (97, .bool (decide (x8_4 < 32))), (100, bp bp0 0), (101, bp bp0 0), (102, bp bp0 1), (103, v0_Objs), (104, .int .i64 x8_4), (105, idxp v0_Objs (x8_4.toNat * kr_ref10_Obj.sz)), (106, .agg #[.int .i64 x52.Kind, .int .i64 x52.Size, .int .i64 x52.Used, .int .i64 x52.First, .int .i64 x52.Radix, .int .i64 x52.Wait, u61, .int .i64 x52.Word, .int .i64 x52.State, .int .i64 x52.Owing, .int .i64 x52.Badge, .int .i64 x52.Prio, .int .i64 x52.On, .int .i64 x52.Owes, .int .i64 x52.Root.Kind, .int .i64 x52.Root.Rights, .int .i64 x52.Root.Obj, .int .i64 x52.Root.Badge, .int .i64 x52.Root.Guard, .int .i64 x52.Root.Bits, .int .i64 x52.Pages.a0, .int .i64 x52.Pages.a1, .int .i64 x52.Pages.a2, .int .i64 x52.Pages.a3, .int .i64 x52.Right.a0, .int .i64 x52.Right.a1, .int .i64 x52.Right.a2, .int .i64 x52.Right.a3, .int .i64 x52.In, .int .i64 x52.Page, .int .i64 x52.Bound, .int .i64 x52.Mask]), (107, .int .i64 x8_4), (108, .int .i64 (w64 (8 * x8_4))), (109, .int .i64 (w64 (480 + (w64 (8 * x8_4))))), (110, v1), (111, .int .i64 (w64 (480 + (w64 (8 * x8_4))))), (112, bp b64 0), (113, .int .i64 x52.Kind), (114, .int .u64 (wu64 x52.Kind)), (115, idxp v1 ((w64 (480 + (w64 (8 * x8_4)))).toNat * (ekI .u64).sz)), (116, bp b64 0), (117, .int .i64 x52.Kind), (118, .bool (x52.Kind == 1)), (119, .bool (x52.Kind == 1)), (134, .bool (x52.Kind == 2)), (135, .bool (x52.Kind == 2)), (150, .bool (x52.Kind == 3)), (151, .bool (x52.Kind == 3)), (159, .bool (x52.Kind == 4)), (160, .bool (x52.Kind == 4)), (168, .bool (x52.Kind == 5)), (169, .bool (x52.Kind == 5)), (232, .bool (x52.Kind == 6)), (233, .bool (x52.Kind == 6)), (249, .bool (x52.Kind == 7)), (250, .bool (x52.Kind == 7)), (251, .int .i64 j251_e6), (252, .bool j252_e6)] [Box b64 [.int .i64 x52.Kind, .int .i64 x52.Size, .int .i64 x52.Used, .int .i64 x52.First, .int .i64 x52.Radix, .int .i64 x52.Wait, u61, .int .i64 x52.Word, .int .i64 x52.State, .int .i64 x52.Owing, .int .i64 x52.Badge, .int .i64 x52.Prio, .int .i64 x52.On, .int .i64 x52.Owes, .int .i64 x52.Root.Kind, .int .i64 x52.Root.Rights, .int .i64 x52.Root.Obj, .int .i64 x52.Root.Badge, .int .i64 x52.Root.Guard, .int .i64 x52.Root.Bits, .int .i64 x52.Pages.a0, .int .i64 x52.Pages.a1, .int .i64 x52.Pages.a2, .int .i64 x52.Pages.a3, .int .i64 x52.Right.a0, .int .i64 x52.Right.a1, .int .i64 x52.Right.a2, .int .i64 x52.Right.a3, .int .i64 x52.In, .int .i64 x52.Page, .int .i64 x52.Bound, .int .i64 x52.Mask], Own 72 (ekI .u64) v1 qv1_e6, OwnO 38 kr_ref10_Obj v0_Objs raws57 A58 a0.Objs, Box bp0 [v0_Slots, v0_Objs, .int .i64 a0.NS, .int .i64 a0.NO], OwnR 71 kr_ref10_Slot v0_Slots a0.Slots, F])) (fun _ => rfl) ?_ (m := k) (x := ((0, qv1_4.set (w64 (480 + (w64 (8 * x8_4)))).toNat (wu64 x52.Kind)), ())) hl6 ?_
                      · clear h hl6
                        intro k x o_6 h hK6 ih6
                        obtain ⟨⟨x11_6, qv1_6⟩, _⟩ := x
                        replace h : ref10_State_Words.l6 x8_4 x52 (k + 1) (x11_6, qv1_6) = some o_6 := h
                        first | rw [ref10_State_Words.l6] at h | unfold ref10_State_Words.l6 at h
                        refine S.b1 ?_
                        refine S.rd fun hr125 => ?_
                        refine S.seq ?_
                        refine S.seq ?_
                        refine S.region ?_
                        refine SO.v rfl (opv_move rfl) ?_
                        refine SO.v rfl (opv_lss rfl rfl) ?_
                        refine SO.nil ?_
                        rcases bool_or (decide (x11_6 < 4)) with b126 | b126
                        · replace h := cond_t b126 h
                          refine S.condT rfl b126 ?_
                          refine S.skip ?_
                          refine S.seq ?_
                          refine S.block ?_
                          refine S.seq ?_
                          refine S.region ?_
                          refine SO.v rfl (opv_move rfl) ?_
                          refine SO.v rfl (opv_fieldAddr Try.underlying38 rfl Try.sizeOf36 rfl rfl) ?_
                          obtain ⟨x127, hx128, h⟩ := opt_bind h
                          refine SO.v rfl (opv_idxA Try.underlying36 Try.sizeOf3 rfl rfl hx128) ?_
                          refine SO.b1 ?_
                          refine SO.load1 (v := .int .i64 x127) rfl Try.isAgg3 rfl (by rcases A4.get_cases hx128 with ⟨h1, h2⟩ | ⟨h1, h2⟩ | ⟨h1, h2⟩ | ⟨h1, h2⟩ <;> simp only [h1, h2] <;> rfl) ?_
                          refine SO.v rfl (opv_geq rfl rfl) ?_
                          refine SO.nil ?_
                          rcases bool_or (decide (0 ≤ x127)) with b129 | b129
                          · replace h := cond_t b129 h
                            refine S.condT rfl b129 ?_
                            obtain ⟨x130, hx131, h⟩ := opt_bind h
                            obtain ⟨x132, hx133, h⟩ := opt_bind h
                            obtain ⟨x134, hx135, h⟩ := opt_bind h
                            refine S.draw' (Z := fun Q => ∀ (_ : Unit) (_ : Unit) (_ : Unit) (_ : Unit) (_ : Unit) (_ : Unit) (_ : Unit) (_ : Unit) (_ : Unit) (_ : Unit) (_ : Unit) (_ : Unit) (_ : Unit) (_ : Unit) (_ : Unit) (_ : Unit) (_ : Unit) (_ : Unit) (_ : Unit) (_ : Unit) (_ : Unit) (_ : Unit) (_ : Unit) (_ : Unit) (_ : Unit) (_ : Unit) (_ : Unit) (_ : Unit) (_ : Unit), Q [(11, .int .i64 x11_6), (259, .bool (decide (0 ≤ x127))), (258, .int .i64 x127), (257, bp b64 (20 + x11_6.toNat)), (256, bp b64 20), (255, .int .i64 x11_6), (252, .bool (decide (x11_6 < 4))), (251, .int .i64 x11_6), (249, .bool (x52.Kind == 7)), (250, .bool (x52.Kind == 7)), (232, .bool (x52.Kind == 6)), (233, .bool (x52.Kind == 6)), (168, .bool (x52.Kind == 5)), (169, .bool (x52.Kind == 5)), (159, .bool (x52.Kind == 4)), (160, .bool (x52.Kind == 4)), (150, .bool (x52.Kind == 3)), (151, .bool (x52.Kind == 3)), (134, .bool (x52.Kind == 2)), (135, .bool (x52.Kind == 2)), (118, .bool (x52.Kind == 1)), (119, .bool (x52.Kind == 1)), (117, .int .i64 x52.Kind), (116, bp b64 0), (115, idxp v1 ((w64 (480 + (w64 (8 * x8_4)))).toNat * (ekI .u64).sz)), (114, .int .u64 (wu64 x52.Kind)), (113, .int .i64 x52.Kind), (112, bp b64 0), (111, .int .i64 (w64 (480 + (w64 (8 * x8_4))))), (110, v1), (109, .int .i64 (w64 (480 + (w64 (8 * x8_4))))), (108, .int .i64 (w64 (8 * x8_4))), (107, .int .i64 x8_4), (106, .agg #[.int .i64 x52.Kind, .int .i64 x52.Size, .int .i64 x52.Used, .int .i64 x52.First, .int .i64 x52.Radix, .int .i64 x52.Wait, u61, .int .i64 x52.Word, .int .i64 x52.State, .int .i64 x52.Owing, .int .i64 x52.Badge, .int .i64 x52.Prio, .int .i64 x52.On, .int .i64 x52.Owes, .int .i64 x52.Root.Kind, .int .i64 x52.Root.Rights, .int .i64 x52.Root.Obj, .int .i64 x52.Root.Badge, .int .i64 x52.Root.Guard, .int .i64 x52.Root.Bits, .int .i64 x52.Pages.a0, .int .i64 x52.Pages.a1, .int .i64 x52.Pages.a2, .int .i64 x52.Pages.a3, .int .i64 x52.Right.a0, .int .i64 x52.Right.a1, .int .i64 x52.Right.a2, .int .i64 x52.Right.a3, .int .i64 x52.In, .int .i64 x52.Page, .int .i64 x52.Bound, .int .i64 x52.Mask]), (105, idxp v0_Objs (x8_4.toNat * kr_ref10_Obj.sz)), (104, .int .i64 x8_4), (103, v0_Objs), (102, bp bp0 1), (101, bp bp0 0), (100, bp bp0 0), (97, .bool (decide (x8_4 < 32))), (96, .int .i64 x8_4), (8, .int .i64 x8_4), (0, bp bp0 0), (2, .slice none 0 0), (10, .int .i64 (w64 (480 + (w64 (8 * x8_4))))), (9, bp b64 0), (3, v1), (260, v1), (261, .int .i64 (w64 (480 + (w64 (8 * x8_4))))), (262, .int .i64 (w64 ((w64 (480 + (w64 (8 * x8_4)))) + 1))), (263, .int .i64 x11_6), (264, .int .i64 (w64 ((w64 ((w64 (480 + (w64 (8 * x8_4)))) + 1)) + x11_6))), (265, .int .i64 x11_6), (266, bp b64 20), (267, bp b64 (20 + x11_6.toNat)), (268, .int .i64 x130), (269, .int .i64 (w64 (x130 + 1))), (270, .int .i64 (w64 (8 * (w64 (x130 + 1))))), (271, .int .i64 x11_6), (272, bp b64 24), (273, bp b64 (24 + x11_6.toNat)), (274, .int .i64 x132), (275, .int .i64 (w64 ((w64 (8 * (w64 (x130 + 1)))) + x132))), (276, .int .u64 (wu64 (w64 ((w64 (8 * (w64 (x130 + 1)))) + x132)))), (277, idxp v1 ((w64 ((w64 ((w64 (480 + (w64 (8 * x8_4)))) + 1)) + x11_6)).toNat * (ekI .u64).sz))] [Box b64 [.int .i64 x52.Kind, .int .i64 x52.Size, .int .i64 x52.Used, .int .i64 x52.First, .int .i64 x52.Radix, .int .i64 x52.Wait, u61, .int .i64 x52.Word, .int .i64 x52.State, .int .i64 x52.Owing, .int .i64 x52.Badge, .int .i64 x52.Prio, .int .i64 x52.On, .int .i64 x52.Owes, .int .i64 x52.Root.Kind, .int .i64 x52.Root.Rights, .int .i64 x52.Root.Obj, .int .i64 x52.Root.Badge, .int .i64 x52.Root.Guard, .int .i64 x52.Root.Bits, .int .i64 x52.Pages.a0, .int .i64 x52.Pages.a1, .int .i64 x52.Pages.a2, .int .i64 x52.Pages.a3, .int .i64 x52.Right.a0, .int .i64 x52.Right.a1, .int .i64 x52.Right.a2, .int .i64 x52.Right.a3, .int .i64 x52.In, .int .i64 x52.Page, .int .i64 x52.Bound, .int .i64 x52.Mask], Own 72 (ekI .u64) v1 (qv1_6.set (w64 ((w64 ((w64 (480 + (w64 (8 * x8_4)))) + 1)) + x11_6)).toNat (wu64 (w64 ((w64 (8 * (w64 (x130 + 1)))) + x132)))), OwnO 38 kr_ref10_Obj v0_Objs raws57 A58 a0.Objs, Box bp0 [v0_Slots, v0_Objs, .int .i64 a0.NS, .int .i64 a0.NO], OwnR 71 kr_ref10_Slot v0_Slots a0.Slots, F]) (T := [tS 3 (v1), tS 10 (.int .i64 (w64 (480 + (w64 (8 * x8_4))))), tS 11 (.int .i64 x11_6), tS 9 (bp b64 0), tE [(259, .bool (decide (0 ≤ x127))), (258, .int .i64 x127), (257, bp b64 (20 + x11_6.toNat)), (256, bp b64 20), (255, .int .i64 x11_6), (252, .bool (decide (x11_6 < 4))), (251, .int .i64 x11_6), (249, .bool (x52.Kind == 7)), (250, .bool (x52.Kind == 7)), (232, .bool (x52.Kind == 6)), (233, .bool (x52.Kind == 6)), (168, .bool (x52.Kind == 5)), (169, .bool (x52.Kind == 5)), (159, .bool (x52.Kind == 4)), (160, .bool (x52.Kind == 4)), (150, .bool (x52.Kind == 3)), (151, .bool (x52.Kind == 3)), (134, .bool (x52.Kind == 2)), (135, .bool (x52.Kind == 2)), (118, .bool (x52.Kind == 1)), (119, .bool (x52.Kind == 1)), (117, .int .i64 x52.Kind), (116, bp b64 0), (115, idxp v1 ((w64 (480 + (w64 (8 * x8_4)))).toNat * (ekI .u64).sz)), (114, .int .u64 (wu64 x52.Kind)), (113, .int .i64 x52.Kind), (112, bp b64 0), (111, .int .i64 (w64 (480 + (w64 (8 * x8_4))))), (110, v1), (109, .int .i64 (w64 (480 + (w64 (8 * x8_4))))), (108, .int .i64 (w64 (8 * x8_4))), (107, .int .i64 x8_4), (106, .agg #[.int .i64 x52.Kind, .int .i64 x52.Size, .int .i64 x52.Used, .int .i64 x52.First, .int .i64 x52.Radix, .int .i64 x52.Wait, u61, .int .i64 x52.Word, .int .i64 x52.State, .int .i64 x52.Owing, .int .i64 x52.Badge, .int .i64 x52.Prio, .int .i64 x52.On, .int .i64 x52.Owes, .int .i64 x52.Root.Kind, .int .i64 x52.Root.Rights, .int .i64 x52.Root.Obj, .int .i64 x52.Root.Badge, .int .i64 x52.Root.Guard, .int .i64 x52.Root.Bits, .int .i64 x52.Pages.a0, .int .i64 x52.Pages.a1, .int .i64 x52.Pages.a2, .int .i64 x52.Pages.a3, .int .i64 x52.Right.a0, .int .i64 x52.Right.a1, .int .i64 x52.Right.a2, .int .i64 x52.Right.a3, .int .i64 x52.In, .int .i64 x52.Page, .int .i64 x52.Bound, .int .i64 x52.Mask]), (105, idxp v0_Objs (x8_4.toNat * kr_ref10_Obj.sz)), (104, .int .i64 x8_4), (103, v0_Objs), (102, bp bp0 1), (101, bp bp0 0), (100, bp bp0 0), (97, .bool (decide (x8_4 < 32))), (96, .int .i64 x8_4), (8, .int .i64 x8_4), (0, bp bp0 0), (2, .slice none 0 0)], tR (Box b64 [.int .i64 x52.Kind, .int .i64 x52.Size, .int .i64 x52.Used, .int .i64 x52.First, .int .i64 x52.Radix, .int .i64 x52.Wait, u61, .int .i64 x52.Word, .int .i64 x52.State, .int .i64 x52.Owing, .int .i64 x52.Badge, .int .i64 x52.Prio, .int .i64 x52.On, .int .i64 x52.Owes, .int .i64 x52.Root.Kind, .int .i64 x52.Root.Rights, .int .i64 x52.Root.Obj, .int .i64 x52.Root.Badge, .int .i64 x52.Root.Guard, .int .i64 x52.Root.Bits, .int .i64 x52.Pages.a0, .int .i64 x52.Pages.a1, .int .i64 x52.Pages.a2, .int .i64 x52.Pages.a3, .int .i64 x52.Right.a0, .int .i64 x52.Right.a1, .int .i64 x52.Right.a2, .int .i64 x52.Right.a3, .int .i64 x52.In, .int .i64 x52.Page, .int .i64 x52.Bound, .int .i64 x52.Mask]), tR (Own 72 (ekI .u64) v1 qv1_6), tR (OwnO 38 kr_ref10_Obj v0_Objs raws57 A58 a0.Objs), tR (Box bp0 [v0_Slots, v0_Objs, .int .i64 a0.NS, .int .i64 a0.NO]), tR (OwnR 71 kr_ref10_Slot v0_Slots a0.Slots), tR (F), tS 260 (v1), tS 261 (.int .i64 (w64 (480 + (w64 (8 * x8_4))))), tS 262 (.int .i64 (w64 ((w64 (480 + (w64 (8 * x8_4)))) + 1))), tS 263 (.int .i64 x11_6), tS 264 (.int .i64 (w64 ((w64 ((w64 (480 + (w64 (8 * x8_4)))) + 1)) + x11_6))), tS 265 (.int .i64 x11_6), tS 266 (bp b64 20), tS 267 (bp b64 (20 + x11_6.toNat)), tS 268 (.int .i64 x130), tS 269 (.int .i64 (w64 (x130 + 1))), tS 270 (.int .i64 (w64 (8 * (w64 (x130 + 1))))), tS 271 (.int .i64 x11_6), tS 272 (bp b64 24), tS 273 (bp b64 (24 + x11_6.toNat)), tS 274 (.int .i64 x132), tS 275 (.int .i64 (w64 ((w64 (8 * (w64 (x130 + 1)))) + x132))), tS 276 (.int .u64 (wu64 (w64 ((w64 (8 * (w64 (x130 + 1)))) + x132)))), tS 277 (idxp v1 ((w64 ((w64 ((w64 (480 + (w64 (8 * x8_4)))) + 1)) + x11_6)).toNat * (ekI .u64).sz)), tR (Own 72 (ekI .u64) v1 (qv1_6.set (w64 ((w64 ((w64 (480 + (w64 (8 * x8_4)))) + 1)) + x11_6)).toNat (wu64 (w64 ((w64 (8 * (w64 (x130 + 1)))) + x132)))))]) (D := [⟨[0], [], [11]⟩, ⟨[1], [], [12]⟩, ⟨[12], [], [13]⟩, ⟨[2], [], [14]⟩, ⟨[13, 14], [], [15]⟩, ⟨[2], [], [16]⟩, ⟨[3], [], [17]⟩, ⟨[16, 17, 5], [], [18]⟩, ⟨[18, 5], [], [19]⟩, ⟨[19], [], [20]⟩, ⟨[20], [], [21]⟩, ⟨[2], [], [22]⟩, ⟨[3], [], [23]⟩, ⟨[22, 23, 5], [], [24]⟩, ⟨[24, 5], [], [25]⟩, ⟨[21, 25], [], [26]⟩, ⟨[26], [], [27]⟩, ⟨[11, 15, 6], [], [28]⟩, ⟨[27, 28], [6], [29]⟩]) (ini := [0, 1, 2, 3, 4, 5, 6, 7, 8, 9, 10]) (fin := [2, 4, 1, 3, 0, 11, 12, 13, 14, 15, 16, 17, 18, 19, 20, 21, 22, 23, 24, 25, 26, 27, 28, 5, 29, 7, 8, 9, 10]) (bf := [[], [], [1], [], [1, 2, 3], [], [], [5, 6], [5, 6, 7], [5, 6, 7, 8], [5, 6, 7, 8, 9], [], [], [11, 12], [11, 12, 13], [5, 6, 7, 8, 9, 10, 11, 12, 13, 14], [5, 6, 7, 8, 9, 10, 11, 12, 13, 14, 15], [0, 1, 2, 3, 4, 5, 6, 7, 8, 9, 10, 11, 12, 13, 14, 15, 16], [0, 1, 2, 3, 4, 5, 6, 7, 8, 9, 10, 11, 12, 13, 14, 15, 16, 17]]) (by kernel_rfl) (by kernel_rfl) (fun x w h1 h2 => (.cons () (.cons () (.cons () (.cons () (.cons () (.cons () (.cons () (.cons () (.cons () (.cons () (.cons () (.nil ⟨EnvAll.of h1 ⟨rfl, rfl, rfl, rfl, rfl, rfl, rfl, rfl, rfl, rfl, rfl, rfl, rfl, rfl, rfl, rfl, rfl, rfl, rfl, rfl, rfl, rfl, rfl, rfl, rfl, rfl, rfl, rfl, rfl, rfl, rfl, rfl, rfl, rfl, rfl, rfl, rfl, rfl, rfl, rfl, rfl, rfl, rfl, rfl, rfl, rfl, rfl, rfl, trivial⟩, h2⟩))))))))))))) (fun Q => by kernel_rfl) ⟨?_, ?_, ?_, ?_, ?_, ?_, ?_, ?_, ?_, ?_, ?_, ?_, ?_, ?_, ?_, ?_, ?_, ?_, ?_, trivial⟩ ?_
                            · rintro Fr _
                              refine SO.v rfl (opv_move rfl) ?_
                              exact SO.nilZ fun a w h1 h2 h3 h4 h5 => PZ.of h1 h3 h5 (.cons () (.cons () (.nil ⟨EnvAll.of h2 ⟨rfl, rfl, trivial⟩, h4⟩)))
                            · rintro Fr _
                              refine SO.v rfl (opv_move rfl) ?_
                              exact SO.nilZ fun a w h1 h2 h3 h4 h5 => PZ.of h1 h3 h5 (.cons () (.cons () (.nil ⟨EnvAll.of h2 ⟨rfl, rfl, trivial⟩, h4⟩)))
                            · rintro Fr _
                              refine SO.v rfl (opv_add rfl rfl) ?_
                              exact SO.nilZ fun a w h1 h2 h3 h4 h5 => PZ.of h1 h3 h5 (.cons () (.cons () (.nil ⟨EnvAll.of h2 ⟨rfl, rfl, trivial⟩, h4⟩)))
                            · rintro Fr _
                              refine SO.v rfl (opv_move rfl) ?_
                              exact SO.nilZ fun a w h1 h2 h3 h4 h5 => PZ.of h1 h3 h5 (.cons () (.cons () (.nil ⟨EnvAll.of h2 ⟨rfl, rfl, trivial⟩, h4⟩)))
                            · rintro Fr _ _
                              refine SO.v rfl (opv_add rfl rfl) ?_
                              exact SO.nilZ fun a w h1 h2 h3 h4 h5 => PZ.of h1 h3 h5 (.cons () (.cons () (.cons () (.nil ⟨EnvAll.of h2 ⟨rfl, rfl, rfl, trivial⟩, h4⟩))))
                            · rintro Fr _
                              refine SO.v rfl (opv_move rfl) ?_
                              exact SO.nilZ fun a w h1 h2 h3 h4 h5 => PZ.of h1 h3 h5 (.cons () (.cons () (.nil ⟨EnvAll.of h2 ⟨rfl, rfl, trivial⟩, h4⟩)))
                            · rintro Fr _
                              refine SO.v rfl (opv_fieldAddr Try.underlying38 rfl Try.sizeOf36 rfl rfl) ?_
                              exact SO.nilZ fun a w h1 h2 h3 h4 h5 => PZ.of h1 h3 h5 (.cons () (.cons () (.nil ⟨EnvAll.of h2 ⟨rfl, rfl, trivial⟩, h4⟩)))
                            · rintro Fr _ _ _
                              refine SO.v rfl (opv_idxA Try.underlying36 Try.sizeOf3 rfl rfl hx131) ?_
                              exact SO.nilZ fun a w h1 h2 h3 h4 h5 => PZ.of h1 h3 h5 (.cons () (.cons () (.cons () (.cons () (.nil ⟨EnvAll.of h2 ⟨rfl, rfl, rfl, trivial⟩, h4⟩)))))
                            · rintro Fr _ _
                              refine SO.load1 (v := .int .i64 x130) rfl Try.isAgg3 rfl (by rcases A4.get_cases hx131 with ⟨h1, h2⟩ | ⟨h1, h2⟩ | ⟨h1, h2⟩ | ⟨h1, h2⟩ <;> simp only [h1, h2] <;> rfl) ?_
                              exact SO.nilZ fun a w h1 h2 h3 h4 h5 => PZ.of h1 h3 h5 (.cons () (.cons () (.cons () (.nil ⟨EnvAll.of h2 ⟨rfl, rfl, trivial⟩, h4⟩))))
                            · rintro Fr _
                              refine SO.v rfl (opv_add rfl rfl) ?_
                              exact SO.nilZ fun a w h1 h2 h3 h4 h5 => PZ.of h1 h3 h5 (.cons () (.cons () (.nil ⟨EnvAll.of h2 ⟨rfl, rfl, trivial⟩, h4⟩)))
                            · rintro Fr _
                              refine SO.v rfl (opv_mul rfl rfl) ?_
                              exact SO.nilZ fun a w h1 h2 h3 h4 h5 => PZ.of h1 h3 h5 (.cons () (.cons () (.nil ⟨EnvAll.of h2 ⟨rfl, rfl, trivial⟩, h4⟩)))
                            · rintro Fr _
                              refine SO.v rfl (opv_move rfl) ?_
                              exact SO.nilZ fun a w h1 h2 h3 h4 h5 => PZ.of h1 h3 h5 (.cons () (.cons () (.nil ⟨EnvAll.of h2 ⟨rfl, rfl, trivial⟩, h4⟩)))
                            · rintro Fr _
                              refine SO.v rfl (opv_fieldAddr Try.underlying38 rfl Try.sizeOf36 rfl rfl) ?_
                              exact SO.nilZ fun a w h1 h2 h3 h4 h5 => PZ.of h1 h3 h5 (.cons () (.cons () (.nil ⟨EnvAll.of h2 ⟨rfl, rfl, trivial⟩, h4⟩)))
                            · rintro Fr _ _ _
                              refine SO.v rfl (opv_idxA Try.underlying36 Try.sizeOf3 rfl rfl hx133) ?_
                              exact SO.nilZ fun a w h1 h2 h3 h4 h5 => PZ.of h1 h3 h5 (.cons () (.cons () (.cons () (.cons () (.nil ⟨EnvAll.of h2 ⟨rfl, rfl, rfl, trivial⟩, h4⟩)))))
                            · rintro Fr _ _
                              refine SO.load1 (v := .int .i64 x132) rfl Try.isAgg3 rfl (by rcases A4.get_cases hx133 with ⟨h1, h2⟩ | ⟨h1, h2⟩ | ⟨h1, h2⟩ | ⟨h1, h2⟩ <;> simp only [h1, h2] <;> rfl) ?_
                              exact SO.nilZ fun a w h1 h2 h3 h4 h5 => PZ.of h1 h3 h5 (.cons () (.cons () (.cons () (.nil ⟨EnvAll.of h2 ⟨rfl, rfl, trivial⟩, h4⟩))))
                            · rintro Fr _ _
                              refine SO.v rfl (opv_add rfl rfl) ?_
                              exact SO.nilZ fun a w h1 h2 h3 h4 h5 => PZ.of h1 h3 h5 (.cons () (.cons () (.cons () (.nil ⟨EnvAll.of h2 ⟨rfl, rfl, rfl, trivial⟩, h4⟩))))
                            · rintro Fr _
                              refine SO.v rfl (opv_conv Try.underlying3 Try.underlying72 rfl) ?_
                              exact SO.nilZ fun a w h1 h2 h3 h4 h5 => PZ.of h1 h3 h5 (.cons () (.cons () (.nil ⟨EnvAll.of h2 ⟨rfl, rfl, trivial⟩, h4⟩)))
                            · rintro Fr _ _ _
                              refine SO.v rfl (opv_idx Try.underlying22 Try.sizeOf72 hr125 rfl rfl hx135) ?_
                              exact SO.nilZ fun a w h1 h2 h3 h4 h5 => PZ.of h1 h3 h5 (.cons () (.cons () (.cons () (.cons () (.nil ⟨EnvAll.of h2 ⟨rfl, rfl, rfl, trivial⟩, h4⟩)))))
                            · rintro Fr _ _ _
                              refine SO.storeI1 (j := 0) (z' := wu64 (w64 ((w64 (8 * (w64 (x130 + 1)))) + x132))) Try.sizeOf72 hx135 rfl rfl rfl rfl rfl rfl ?_
                              refine SO.rd fun hr136 => ?_
                              exact SO.nilZ fun a w h1 h2 h3 h4 h5 => PZ.of h1 h3 h5 (.cons () (.cons () (.cons () (.nil ⟨EnvAll.of h2 ⟨rfl, rfl, trivial⟩, h4⟩))))
                            rintro _ _ _ _ _ _ _ _ _ _ _ _ _ _ _ _ _ _ _ _ _ _ _ _ _ _ _ _ _
                            refine S.to (ρ' := [(11, .int .i64 x11_6), (259, .bool (decide (0 ≤ x127))), (258, .int .i64 x127), (257, bp b64 (20 + x11_6.toNat)), (256, bp b64 20), (255, .int .i64 x11_6), (252, .bool (decide (x11_6 < 4))), (251, .int .i64 x11_6), (249, .bool (x52.Kind == 7)), (250, .bool (x52.Kind == 7)), (232, .bool (x52.Kind == 6)), (233, .bool (x52.Kind == 6)), (168, .bool (x52.Kind == 5)), (169, .bool (x52.Kind == 5)), (159, .bool (x52.Kind == 4)), (160, .bool (x52.Kind == 4)), (150, .bool (x52.Kind == 3)), (151, .bool (x52.Kind == 3)), (134, .bool (x52.Kind == 2)), (135, .bool (x52.Kind == 2)), (118, .bool (x52.Kind == 1)), (119, .bool (x52.Kind == 1)), (117, .int .i64 x52.Kind), (116, bp b64 0), (115, idxp v1 ((w64 (480 + (w64 (8 * x8_4)))).toNat * (ekI .u64).sz)), (114, .int .u64 (wu64 x52.Kind)), (113, .int .i64 x52.Kind), (112, bp b64 0), (111, .int .i64 (w64 (480 + (w64 (8 * x8_4))))), (110, v1), (109, .int .i64 (w64 (480 + (w64 (8 * x8_4))))), (108, .int .i64 (w64 (8 * x8_4))), (107, .int .i64 x8_4), (106, .agg #[.int .i64 x52.Kind, .int .i64 x52.Size, .int .i64 x52.Used, .int .i64 x52.First, .int .i64 x52.Radix, .int .i64 x52.Wait, u61, .int .i64 x52.Word, .int .i64 x52.State, .int .i64 x52.Owing, .int .i64 x52.Badge, .int .i64 x52.Prio, .int .i64 x52.On, .int .i64 x52.Owes, .int .i64 x52.Root.Kind, .int .i64 x52.Root.Rights, .int .i64 x52.Root.Obj, .int .i64 x52.Root.Badge, .int .i64 x52.Root.Guard, .int .i64 x52.Root.Bits, .int .i64 x52.Pages.a0, .int .i64 x52.Pages.a1, .int .i64 x52.Pages.a2, .int .i64 x52.Pages.a3, .int .i64 x52.Right.a0, .int .i64 x52.Right.a1, .int .i64 x52.Right.a2, .int .i64 x52.Right.a3, .int .i64 x52.In, .int .i64 x52.Page, .int .i64 x52.Bound, .int .i64 x52.Mask]), (105, idxp v0_Objs (x8_4.toNat * kr_ref10_Obj.sz)), (104, .int .i64 x8_4), (103, v0_Objs), (102, bp bp0 1), (101, bp bp0 0), (100, bp bp0 0), (97, .bool (decide (x8_4 < 32))), (96, .int .i64 x8_4), (8, .int .i64 x8_4), (0, bp bp0 0), (2, .slice none 0 0), (10, .int .i64 (w64 (480 + (w64 (8 * x8_4))))), (9, bp b64 0), (3, v1), (260, v1), (261, .int .i64 (w64 (480 + (w64 (8 * x8_4))))), (262, .int .i64 (w64 ((w64 (480 + (w64 (8 * x8_4)))) + 1))), (263, .int .i64 x11_6), (264, .int .i64 (w64 ((w64 ((w64 (480 + (w64 (8 * x8_4)))) + 1)) + x11_6))), (265, .int .i64 x11_6), (266, bp b64 20), (267, bp b64 (20 + x11_6.toNat)), (268, .int .i64 x130), (269, .int .i64 (w64 (x130 + 1))), (270, .int .i64 (w64 (8 * (w64 (x130 + 1))))), (271, .int .i64 x11_6), (272, bp b64 24), (273, bp b64 (24 + x11_6.toNat)), (274, .int .i64 x132), (275, .int .i64 (w64 ((w64 (8 * (w64 (x130 + 1)))) + x132))), (276, .int .u64 (wu64 (w64 ((w64 (8 * (w64 (x130 + 1)))) + x132)))), (277, idxp v1 ((w64 ((w64 ((w64 (480 + (w64 (8 * x8_4)))) + 1)) + x11_6)).toNat * (ekI .u64).sz))]) ⟨rfl, rfl, rfl, rfl, rfl, rfl, rfl, rfl, rfl, rfl, rfl, rfl, rfl, rfl, rfl, rfl, rfl, rfl, rfl, rfl, rfl, rfl, rfl, rfl, rfl, rfl, rfl, rfl, rfl, rfl, rfl, rfl, rfl, rfl, rfl, rfl, rfl, rfl, rfl, rfl, rfl, rfl, rfl, rfl, rfl, rfl, rfl, rfl, rfl, rfl, rfl, rfl, rfl, rfl, rfl, rfl, rfl, rfl, rfl, rfl, rfl, rfl, rfl, rfl, rfl, rfl, trivial⟩ ?_
                            refine S.b1 ?_
                            refine S.rd fun hr137 => ?_
                            refine S.inBlock ?_
                            refine S.region ?_
                            refine SO.v rfl (opv_move rfl) ?_
                            refine SO.v rfl (opv_add rfl rfl) ?_
                            refine SO.v rfl (opv_assign rfl) ?_
                            refine SO.nil ?_
                            refine S.b5 ?_
                            refine S.b5 ?_
                            refine S.b5 ?_
                            refine S.b5 ?_
                            refine S.b4 ?_
                            refine S.b5 ?_
                            refine S.to ?_ (ih6 ((w64 (x11_6 + 1), qv1_6.set (w64 ((w64 ((w64 (480 + (w64 (8 * x8_4)))) + 1)) + x11_6)).toNat (wu64 (w64 ((w64 (8 * (w64 (x130 + 1)))) + x132)))), ()) h)
                            exact ⟨rfl, rfl, rfl, rfl, rfl, rfl, rfl, rfl, rfl, rfl, rfl, rfl, rfl, rfl, rfl, rfl, rfl, rfl, rfl, rfl, rfl, rfl, rfl, rfl, rfl, rfl, rfl, rfl, rfl, rfl, rfl, rfl, rfl, rfl, rfl, rfl, rfl, rfl, rfl, rfl, rfl, trivial⟩
                          · replace h := cond_f b129 h
                            refine S.condF rfl b129 ?_
                            refine S.skip ?_
                            refine S.inBlock ?_
                            refine S.region ?_
                            refine SO.v rfl (opv_move rfl) ?_
                            refine SO.v rfl (opv_add rfl rfl) ?_
                            refine SO.v rfl (opv_assign rfl) ?_
                            refine SO.nil ?_
                            refine S.b5 ?_
                            refine S.b5 ?_
                            refine S.b5 ?_
                            refine S.b5 ?_
                            refine S.b5 ?_
                            refine S.b5 ?_
                            refine S.to ?_ (ih6 ((w64 (x11_6 + 1), qv1_6), ()) h)
                            exact ⟨rfl, rfl, rfl, rfl, rfl, rfl, rfl, rfl, rfl, rfl, rfl, rfl, rfl, rfl, rfl, rfl, rfl, rfl, rfl, rfl, rfl, rfl, rfl, rfl, rfl, rfl, rfl, rfl, rfl, rfl, rfl, rfl, rfl, rfl, rfl, rfl, rfl, rfl, rfl, rfl, rfl, trivial⟩
                        · replace h := cond_f b126 h
                          refine S.condF rfl b126 ?_
                          refine S.exit rfl ?_
                          cases h
                          refine S.b5 ?_
                          refine S.b5 ?_
                          refine S.b5 ?_
                          refine S.b5 ?_
                          refine S.b4 ?_
                          refine S.b5 ?_
                          refine S.to ?_ (hK6 ())
                          exact ⟨rfl, rfl, rfl, rfl, rfl, rfl, rfl, rfl, rfl, rfl, rfl, rfl, rfl, rfl, rfl, rfl, rfl, rfl, rfl, rfl, rfl, rfl, rfl, rfl, rfl, rfl, rfl, rfl, rfl, rfl, rfl, rfl, rfl, rfl, rfl, rfl, rfl, rfl, rfl, rfl, rfl, rfl, rfl, trivial⟩
                      rintro _
                      refine S.b1 ?_
                      refine S.rd fun hr138 => ?_
                      refine S.inBlock ?_
                      cases h
                      refine S.b5 ?_
                      refine S.b5 ?_
                      refine S.b5 ?_
                      refine S.b5 ?_
                      refine S.b4 ?_
                      refine S.b5 ?_
                      refine S.to ?_ (hk5 () trivial)
                      exact ⟨rfl, rfl, rfl, rfl, rfl, rfl, rfl, rfl, rfl, rfl, rfl, rfl, rfl, rfl, rfl, rfl, rfl, rfl, rfl, rfl, rfl, rfl, rfl, rfl, rfl, rfl, rfl, rfl, trivial⟩
                    · replace h := cond_f b124 h
                      refine S.condF rfl b124 ?_
                      refine S.seq ?_
                      refine S.region ?_
                      refine SO.v rfl (opv_eql rfl rfl) ?_
                      refine SO.v rfl (opv_assign rfl) ?_
                      refine SO.nil ?_
                      rcases bool_or (x52.Kind == 8) with b139 | b139
                      · replace h := cond_t b139 h
                        refine S.condT rfl b139 ?_
                        refine S.seq ?_
                        refine S.region ?_
                        refine SO.v rfl (opv_move rfl) ?_
                        refine SO.v rfl (opv_move rfl) ?_
                        refine SO.v rfl (opv_add rfl rfl) ?_
                        refine SO.v rfl (opv_fieldAddr Try.underlying38 rfl Try.sizeOf3 rfl rfl) ?_
                        refine SO.load1 rfl Try.isAgg3 rfl rfl ?_
                        refine SO.v rfl (opv_add rfl rfl) ?_
                        refine SO.v rfl (opv_conv Try.underlying3 Try.underlying72 rfl) ?_
                        obtain ⟨x140, hx141, h⟩ := opt_bind h
                        refine SO.v rfl (opv_idx Try.underlying22 Try.sizeOf72 hr67 rfl rfl hx141) ?_
                        refine SO.b1 ?_
                        refine SO.storeI1 (j := 0) (z' := wu64 (w64 (x52.Bound + 1))) Try.sizeOf72 hx141 rfl rfl rfl rfl rfl rfl ?_
                        refine SO.rd fun hr142 => ?_
                        refine SO.nil ?_
                        refine S.seq ?_
                        refine S.region ?_
                        refine SO.v rfl (opv_move rfl) ?_
                        refine SO.v rfl (opv_move rfl) ?_
                        refine SO.v rfl (opv_add rfl rfl) ?_
                        refine SO.v rfl (opv_fieldAddr Try.underlying38 rfl Try.sizeOf3 rfl rfl) ?_
                        refine SO.b1 ?_
                        refine SO.load1 rfl Try.isAgg3 rfl rfl ?_
                        refine SO.v rfl (opv_conv Try.underlying3 Try.underlying72 rfl) ?_
                        obtain ⟨x143, hx144, h⟩ := opt_bind h
                        refine SO.v rfl (opv_idx Try.underlying22 Try.sizeOf72 hr142 rfl rfl hx144) ?_
                        refine SO.b1 ?_
                        refine SO.storeI1 (j := 0) (z' := wu64 x52.Badge) Try.sizeOf72 hx144 rfl rfl rfl rfl rfl rfl ?_
                        refine SO.rd fun hr145 => ?_
                        refine SO.nil ?_
                        refine S.region ?_
                        refine SO.v rfl (opv_move rfl) ?_
                        refine SO.v rfl (opv_move rfl) ?_
                        refine SO.v rfl (opv_add rfl rfl) ?_
                        refine SO.v rfl (opv_fieldAddr Try.underlying38 rfl Try.sizeOf3 rfl rfl) ?_
                        refine SO.b1 ?_
                        refine SO.load1 rfl Try.isAgg3 rfl rfl ?_
                        refine SO.v rfl (opv_conv Try.underlying3 Try.underlying72 rfl) ?_
                        obtain ⟨x146, hx147, h⟩ := opt_bind h
                        refine SO.v rfl (opv_idx Try.underlying22 Try.sizeOf72 hr145 rfl rfl hx147) ?_
                        refine SO.b1 ?_
                        refine SO.storeI1 (j := 0) (z' := wu64 x52.Mask) Try.sizeOf72 hx147 rfl rfl rfl rfl rfl rfl ?_
                        refine SO.rd fun hr148 => ?_
                        refine SO.nil ?_
                        refine S.inBlock ?_
                        cases h
                        refine S.b5 ?_
                        refine S.b5 ?_
                        refine S.b5 ?_
                        refine S.b5 ?_
                        refine S.b4 ?_
                        refine S.b5 ?_
                        refine S.to ?_ (hk5 () trivial)
                        exact ⟨rfl, rfl, rfl, rfl, rfl, rfl, rfl, rfl, rfl, rfl, rfl, rfl, rfl, rfl, rfl, rfl, rfl, rfl, rfl, rfl, rfl, rfl, rfl, rfl, rfl, rfl, rfl, rfl, trivial⟩
                      · replace h := cond_f b139 h
                        refine S.condF rfl b139 ?_
                        refine S.skip ?_
                        refine S.inBlock ?_
                        cases h
                        refine S.b5 ?_
                        refine S.b5 ?_
                        refine S.b5 ?_
                        refine S.b5 ?_
                        refine S.b5 ?_
                        refine S.b5 ?_
                        refine S.to ?_ (hk5 () trivial)
                        exact ⟨rfl, rfl, rfl, rfl, rfl, rfl, rfl, rfl, rfl, rfl, rfl, rfl, rfl, rfl, rfl, rfl, rfl, rfl, rfl, rfl, rfl, rfl, rfl, rfl, rfl, rfl, rfl, rfl, trivial⟩
      rintro _ -
      replace h := hJ5
      refine S.b1 ?_
      refine S.rd fun hr149 => ?_
      refine S.seq ?_
      refine S.region ?_
      refine SO.v rfl (opv_assign rfl) ?_
      refine SO.nil ?_
      obtain ⟨⟨j12_e7, j302_e7, j306_e7, qv1_e7⟩, hl7, h⟩ := opt_bind h
      refine S.b5 ?_
      refine S.b5 ?_
      refine S.b5 ?_
      refine S.b5 ?_
      refine S.b5 ?_
      refine S.b5 ?_
      refine S.to (ρ' := [(12, .int .i64 0), (0, bp bp0 0), (2, .slice none 0 0), (3, v1), (8, .int .i64 x8_4), (9, bp b64 0), (10, .int .i64 (w64 (480 + (w64 (8 * x8_4))))), (96, .int .i64 x8_4), (97, .bool (decide (x8_4 < 32))), (100, bp bp0 0), (101, bp bp0 0), (102, bp bp0 1), (103, v0_Objs), (104, .int .i64 x8_4), (105, idxp v0_Objs (x8_4.toNat * kr_ref10_Obj.sz)), (106, .agg #[.int .i64 x52.Kind, .int .i64 x52.Size, .int .i64 x52.Used, .int .i64 x52.First, .int .i64 x52.Radix, .int .i64 x52.Wait, u61, .int .i64 x52.Word, .int .i64 x52.State, .int .i64 x52.Owing, .int .i64 x52.Badge, .int .i64 x52.Prio, .int .i64 x52.On, .int .i64 x52.Owes, .int .i64 x52.Root.Kind, .int .i64 x52.Root.Rights, .int .i64 x52.Root.Obj, .int .i64 x52.Root.Badge, .int .i64 x52.Root.Guard, .int .i64 x52.Root.Bits, .int .i64 x52.Pages.a0, .int .i64 x52.Pages.a1, .int .i64 x52.Pages.a2, .int .i64 x52.Pages.a3, .int .i64 x52.Right.a0, .int .i64 x52.Right.a1, .int .i64 x52.Right.a2, .int .i64 x52.Right.a3, .int .i64 x52.In, .int .i64 x52.Page, .int .i64 x52.Bound, .int .i64 x52.Mask]), (107, .int .i64 x8_4), (108, .int .i64 (w64 (8 * x8_4))), (109, .int .i64 (w64 (480 + (w64 (8 * x8_4))))), (110, v1), (111, .int .i64 (w64 (480 + (w64 (8 * x8_4))))), (112, bp b64 0), (113, .int .i64 x52.Kind), (114, .int .u64 (wu64 x52.Kind)), (115, idxp v1 ((w64 (480 + (w64 (8 * x8_4)))).toNat * (ekI .u64).sz)), (116, bp b64 0), (117, .int .i64 x52.Kind), (118, .bool (x52.Kind == 1)), (119, .bool (x52.Kind == 1))]) ⟨rfl, rfl, rfl, rfl, rfl, rfl, rfl, rfl, rfl, rfl, rfl, rfl, rfl, rfl, rfl, rfl, rfl, rfl, rfl, rfl, rfl, rfl, rfl, rfl, rfl, rfl, rfl, rfl, rfl, trivial⟩ ?_
      refine S.forloop (X := (Int × (List Int)) × Unit) (O := (Int × Int × Bool × (List Int))) (fun m x => ref10_State_Words.l7 x8_4 x52 m x.1) (fun x => match x with | ((x12_7, qv1_7), _) => [(12, .int .i64 x12_7), (0, bp bp0 0), (2, .slice none 0 0), (3, v1), (8, .int .i64 x8_4), (9, bp b64 0), (10, .int .i64 (w64 (480 + (w64 (8 * x8_4))))), (96, .int .i64 x8_4), (97, .bool (decide (x8_4 < 32))), (100, bp bp0 0), (101, bp bp0 0), (102, bp bp0 1), (103, v0_Objs), (104, .int .i64 x8_4), (105, idxp v0_Objs (x8_4.toNat * kr_ref10_Obj.sz)), (106, .agg #[.int .i64 x52.Kind, .int .i64 x52.Size, .int .i64 x52.Used, .int .i64 x52.First, .int .i64 x52.Radix, .int .i64 x52.Wait, u61, .int .i64 x52.Word, .int .i64 x52.State, .int .i64 x52.Owing, .int .i64 x52.Badge, .int .i64 x52.Prio, .int .i64 x52.On, .int .i64 x52.Owes, .int .i64 x52.Root.Kind, .int .i64 x52.Root.Rights, .int .i64 x52.Root.Obj, .int .i64 x52.Root.Badge, .int .i64 x52.Root.Guard, .int .i64 x52.Root.Bits, .int .i64 x52.Pages.a0, .int .i64 x52.Pages.a1, .int .i64 x52.Pages.a2, .int .i64 x52.Pages.a3, .int .i64 x52.Right.a0, .int .i64 x52.Right.a1, .int .i64 x52.Right.a2, .int .i64 x52.Right.a3, .int .i64 x52.In, .int .i64 x52.Page, .int .i64 x52.Bound, .int .i64 x52.Mask]), (107, .int .i64 x8_4), (108, .int .i64 (w64 (8 * x8_4))), (109, .int .i64 (w64 (480 + (w64 (8 * x8_4))))), (110, v1), (111, .int .i64 (w64 (480 + (w64 (8 * x8_4))))), (112, bp b64 0), (113, .int .i64 x52.Kind), (114, .int .u64 (wu64 x52.Kind)), (115, idxp v1 ((w64 (480 + (w64 (8 * x8_4)))).toNat * (ekI .u64).sz)), (116, bp b64 0), (117, .int .i64 x52.Kind), (118, .bool (x52.Kind == 1)), (119, .bool (x52.Kind == 1))]) (fun x => match x with | ((x12_7, qv1_7), _) => [Own 72 (ekI .u64) v1 qv1_7, Box b64 [.int .i64 x52.Kind, .int .i64 x52.Size, .int .i64 x52.Used, .int .i64 x52.First, .int .i64 x52.Radix, .int .i64 x52.Wait, u61, .int .i64 x52.Word, .int .i64 x52.State, .int .i64 x52.Owing, .int .i64 x52.Badge, .int .i64 x52.Prio, .int .i64 x52.On, .int .i64 x52.Owes, .int .i64 x52.Root.Kind, .int .i64 x52.Root.Rights, .int .i64 x52.Root.Obj, .int .i64 x52.Root.Badge, .int .i64 x52.Root.Guard, .int .i64 x52.Root.Bits, .int .i64 x52.Pages.a0, .int .i64 x52.Pages.a1, .int .i64 x52.Pages.a2, .int .i64 x52.Pages.a3, .int .i64 x52.Right.a0, .int .i64 x52.Right.a1, .int .i64 x52.Right.a2, .int .i64 x52.Right.a3, .int .i64 x52.In, .int .i64 x52.Page, .int .i64 x52.Bound, .int .i64 x52.Mask], OwnO 38 kr_ref10_Obj v0_Objs raws57 A58 a0.Objs, Box bp0 [v0_Slots, v0_Objs, .int .i64 a0.NS, .int .i64 a0.NO], OwnR 71 kr_ref10_Slot v0_Slots a0.Slots, F]) (fun Sk => (fun x => match x with | (j12_e7, j302_e7, j306_e7, qv1_e7) => ∀ _ : Unit, Sk [(0, bp bp0 0), (2, .slice none 0 0), (3, v1), (8, .int .i64 x8_4), (9, bp b64 0), (10, .int .i64 (w64 (480 + (w64 (8 * x8_4))))), (12, .int .i64 j12_e7), (96, .int .i64 x8_4), (97, .bool (decide (x8_4 < 32))), (100, bp bp0 0), (101, bp bp0 0), (102, bp bp0 1), (103, v0_Objs), (104, .int .i64 x8_4), (105, idxp v0_Objs (x8_4.toNat * kr_ref10_Obj.sz)), (106, .agg #[.int .i64 x52.Kind, .int .i64 x52.Size, .int .i64 x52.Used, .int .i64 x52.First, .int .i64 x52.Radix, .int .i64 x52.Wait, u61, .int .i64 x52.Word, .int .i64 x52.State, .int .i64 x52.Owing, .int .i64 x52.Badge, .int .i64 x52.Prio, .int .i64 x52.On, .int .i64 x52.Owes, .int .i64 x52.Root.Kind, .int .i64 x52.Root.Rights, .int .i64 x52.Root.Obj, .int .i64 x52.Root.Badge, .int .i64 x52.Root.Guard, .int .i64 x52.Root.Bits, .int .i64 x52.Pages.a0, .int .i64 x52.Pages.a1, .int .i64 x52.Pages.a2, .int .i64 x52.Pages.a3, .int .i64 x52.Right.a0, .int .i64 x52.Right.a1, .int .i64 x52.Right.a2, .int .i64 x52.Right.a3, .int .i64 x52.In, .int .i64 x52.Page, .int .i64 x52.Bound, .int .i64 x52.Mask]), (107, .int .i64 x8_4), (108, .int .i64 (w64 (8 * x8_4))), (109, .int .i64 (w64 (480 + (w64 (8 * x8_4))))), (110, v1), (111, .int .i64 (w64 (480 + (w64 (8 * x8_4))))), (112, bp b64 0), (113, .int .i64 x52.Kind), (114, .int .u64 (wu64 x52.Kind)), (115, idxp v1 ((w64 (480 + (w64 (8 * x8_4)))).toNat * (ekI .u64).sz)), (116, bp b64 0), (117, .int .i64 x52.Kind), (118, .bool (x52.Kind == 1)), (119, .bool (x52.Kind == 1)), (302, .int .i64 j302_e7), (303, bp b64 6), (304, u61), (305, .int .i64 (x52.Queue.length : Int)), (306, .bool j306_e7)] [Own 72 (ekI .u64) v1 qv1_e7, Box b64 [.int .i64 x52.Kind, .int .i64 x52.Size, .int .i64 x52.Used, .int .i64 x52.First, .int .i64 x52.Radix, .int .i64 x52.Wait, u61, .int .i64 x52.Word, .int .i64 x52.State, .int .i64 x52.Owing, .int .i64 x52.Badge, .int .i64 x52.Prio, .int .i64 x52.On, .int .i64 x52.Owes, .int .i64 x52.Root.Kind, .int .i64 x52.Root.Rights, .int .i64 x52.Root.Obj, .int .i64 x52.Root.Badge, .int .i64 x52.Root.Guard, .int .i64 x52.Root.Bits, .int .i64 x52.Pages.a0, .int .i64 x52.Pages.a1, .int .i64 x52.Pages.a2, .int .i64 x52.Pages.a3, .int .i64 x52.Right.a0, .int .i64 x52.Right.a1, .int .i64 x52.Right.a2, .int .i64 x52.Right.a3, .int .i64 x52.In, .int .i64 x52.Page, .int .i64 x52.Bound, .int .i64 x52.Mask], OwnO 38 kr_ref10_Obj v0_Objs raws57 A58 a0.Objs, Box bp0 [v0_Slots, v0_Objs, .int .i64 a0.NS, .int .i64 a0.NO], OwnR 71 kr_ref10_Slot v0_Slots a0.Slots, F])) (fun _ => rfl) ?_ (m := k) (x := ((0, qv1_5), ())) hl7 ?_
      · clear h hl7
        intro k x o_7 h hK7 ih7
        obtain ⟨⟨x12_7, qv1_7⟩, _⟩ := x
        replace h : ref10_State_Words.l7 x8_4 x52 (k + 1) (x12_7, qv1_7) = some o_7 := h
        first | rw [ref10_State_Words.l7] at h | unfold ref10_State_Words.l7 at h
        refine S.rd fun hr150 => ?_
        refine S.seq ?_
        refine S.seq ?_
        refine S.region ?_
        refine SO.v rfl (opv_move rfl) ?_
        refine SO.v rfl (opv_fieldAddr Try.underlying38 rfl Try.sizeOf35 rfl rfl) ?_
        refine SO.b1 ?_
        refine SO.load1 rfl Try.isAgg35 rfl rfl ?_
        refine SO.v rfl (opv_lenR rfl Try.underlying35 hru62 rfl) ?_
        refine SO.v rfl (opv_lss rfl rfl) ?_
        refine SO.nil ?_
        rcases bool_or (decide (x12_7 < (x52.Queue.length : Int))) with b151 | b151
        · replace h := cond_t b151 h
          refine S.condT rfl b151 ?_
          refine S.skip ?_
          refine S.seq ?_
          refine S.block ?_
          refine S.seq ?_
          refine S.region ?_
          refine SO.v rfl (opv_fieldAddr Try.underlying38 rfl Try.sizeOf35 rfl rfl) ?_
          refine SO.load1 rfl Try.isAgg35 rfl rfl ?_
          refine SO.v rfl (opv_move rfl) ?_
          obtain ⟨x152, hx153, h⟩ := opt_bind h
          refine SO.v rfl (opv_idx Try.underlying35 Try.sizeOf3 hru62 rfl rfl hx153) ?_
          refine SO.loadI1 (j := 0) rfl Try.isAgg3 (Rd.tail (Rd.tail (Rd.head (Rd.pool hru62)))) hx153 rfl rfl rfl rfl ?_
          refine SO.v rfl (opv_assign rfl) ?_
          refine SO.nil ?_
          refine S.seq ?_
          refine S.seq ?_
          refine S.region ?_
          refine SO.v rfl (opv_move rfl) ?_
          refine SO.v rfl (opv_eql rfl rfl) ?_
          refine SO.nil ?_
          obtain ⟨qv1_8, hC8, hJ8⟩ := opt_bind h
          clear h
          refine S.cutP (G := Unit) (fun _ => True) (fun _ => [(0, bp bp0 0), (2, .slice none 0 0), (3, v1), (8, .int .i64 x8_4), (9, bp b64 0), (10, .int .i64 (w64 (480 + (w64 (8 * x8_4))))), (12, .int .i64 x12_7), (13, .int .i64 x152), (96, .int .i64 x8_4), (97, .bool (decide (x8_4 < 32))), (100, bp bp0 0), (101, bp bp0 0), (102, bp bp0 1), (103, v0_Objs), (104, .int .i64 x8_4), (105, idxp v0_Objs (x8_4.toNat * kr_ref10_Obj.sz)), (106, .agg #[.int .i64 x52.Kind, .int .i64 x52.Size, .int .i64 x52.Used, .int .i64 x52.First, .int .i64 x52.Radix, .int .i64 x52.Wait, u61, .int .i64 x52.Word, .int .i64 x52.State, .int .i64 x52.Owing, .int .i64 x52.Badge, .int .i64 x52.Prio, .int .i64 x52.On, .int .i64 x52.Owes, .int .i64 x52.Root.Kind, .int .i64 x52.Root.Rights, .int .i64 x52.Root.Obj, .int .i64 x52.Root.Badge, .int .i64 x52.Root.Guard, .int .i64 x52.Root.Bits, .int .i64 x52.Pages.a0, .int .i64 x52.Pages.a1, .int .i64 x52.Pages.a2, .int .i64 x52.Pages.a3, .int .i64 x52.Right.a0, .int .i64 x52.Right.a1, .int .i64 x52.Right.a2, .int .i64 x52.Right.a3, .int .i64 x52.In, .int .i64 x52.Page, .int .i64 x52.Bound, .int .i64 x52.Mask]), (107, .int .i64 x8_4), (108, .int .i64 (w64 (8 * x8_4))), (109, .int .i64 (w64 (480 + (w64 (8 * x8_4))))), (110, v1), (111, .int .i64 (w64 (480 + (w64 (8 * x8_4))))), (112, bp b64 0), (113, .int .i64 x52.Kind), (114, .int .u64 (wu64 x52.Kind)), (115, idxp v1 ((w64 (480 + (w64 (8 * x8_4)))).toNat * (ekI .u64).sz)), (116, bp b64 0), (117, .int .i64 x52.Kind), (118, .bool (x52.Kind == 1)), (119, .bool (x52.Kind == 1)), (302, .int .i64 x12_7), (303, bp b64 6), (304, u61), (305, .int .i64 (x52.Queue.length : Int)), (306, .bool (decide (x12_7 < (x52.Queue.length : Int)))), (309, bp b64 6), (310, u61), (311, .int .i64 x12_7), (312, idxp u61 (x12_7.toNat * (ekI .i64).sz)), (313, .int .i64 x152), (314, .int .i64 x12_7), (315, .bool (x12_7 == 0))]) (fun _ => [Box b64 [.int .i64 x52.Kind, .int .i64 x52.Size, .int .i64 x52.Used, .int .i64 x52.First, .int .i64 x52.Radix, .int .i64 x52.Wait, u61, .int .i64 x52.Word, .int .i64 x52.State, .int .i64 x52.Owing, .int .i64 x52.Badge, .int .i64 x52.Prio, .int .i64 x52.On, .int .i64 x52.Owes, .int .i64 x52.Root.Kind, .int .i64 x52.Root.Rights, .int .i64 x52.Root.Obj, .int .i64 x52.Root.Badge, .int .i64 x52.Root.Guard, .int .i64 x52.Root.Bits, .int .i64 x52.Pages.a0, .int .i64 x52.Pages.a1, .int .i64 x52.Pages.a2, .int .i64 x52.Pages.a3, .int .i64 x52.Right.a0, .int .i64 x52.Right.a1, .int .i64 x52.Right.a2, .int .i64 x52.Right.a3, .int .i64 x52.In, .int .i64 x52.Page, .int .i64 x52.Bound, .int .i64 x52.Mask], Own 72 (ekI .u64) v1 qv1_8, OwnO 38 kr_ref10_Obj v0_Objs raws57 A58 a0.Objs, Box bp0 [v0_Slots, v0_Objs, .int .i64 a0.NS, .int .i64 a0.NO], OwnR 71 kr_ref10_Slot v0_Slots a0.Slots, F]) (fun hk8 => ?_) ?_
          · replace h := hC8
            rcases bool_or (x12_7 == 0) with b154 | b154
            · replace h := cond_t b154 h
              refine S.condT rfl b154 ?_
              refine S.region ?_
              refine SO.v rfl (opv_move rfl) ?_
              refine SO.v rfl (opv_move rfl) ?_
              refine SO.v rfl (opv_add rfl rfl) ?_
              refine SO.v rfl (opv_move rfl) ?_
              refine SO.v rfl (opv_add rfl rfl) ?_
              refine SO.v rfl (opv_conv Try.underlying3 Try.underlying72 rfl) ?_
              obtain ⟨x155, hx156, h⟩ := opt_bind h
              refine SO.v rfl (opv_idx Try.underlying22 Try.sizeOf72 hr150 rfl rfl hx156) ?_
              refine SO.b1 ?_
              refine SO.storeI1 (j := 0) (z' := wu64 (w64 (x152 + 1))) Try.sizeOf72 hx156 rfl rfl rfl rfl rfl rfl ?_
              refine SO.rd fun hr157 => ?_
              refine SO.nil ?_
              cases h
              refine S.b5 ?_
              refine S.b5 ?_
              refine S.b5 ?_
              refine S.b5 ?_
              refine S.b4 ?_
              refine S.b5 ?_
              refine S.to ?_ (hk8 () trivial)
              exact ⟨rfl, rfl, rfl, rfl, rfl, rfl, rfl, rfl, rfl, rfl, rfl, rfl, rfl, rfl, rfl, rfl, rfl, rfl, rfl, rfl, rfl, rfl, rfl, rfl, rfl, rfl, rfl, rfl, rfl, rfl, rfl, rfl, rfl, rfl, rfl, rfl, rfl, rfl, rfl, rfl, rfl, rfl, trivial⟩
            · replace h := cond_f b154 h
              refine S.condF rfl b154 ?_
              refine S.skip ?_
              cases h
              refine S.b5 ?_
              refine S.b5 ?_
              refine S.b5 ?_
              refine S.b5 ?_
              refine S.b5 ?_
              refine S.b5 ?_
              refine S.to ?_ (hk8 () trivial)
              exact ⟨rfl, rfl, rfl, rfl, rfl, rfl, rfl, rfl, rfl, rfl, rfl, rfl, rfl, rfl, rfl, rfl, rfl, rfl, rfl, rfl, rfl, rfl, rfl, rfl, rfl, rfl, rfl, rfl, rfl, rfl, rfl, rfl, rfl, rfl, rfl, rfl, rfl, rfl, rfl, rfl, rfl, rfl, trivial⟩
          rintro _ -
          replace h := hJ8
          refine S.b1 ?_
          refine S.rd fun hr158 => ?_
          refine S.seq ?_
          refine S.region ?_
          refine SO.v rfl (opv_move rfl) ?_
          refine SO.v rfl (opv_add rfl rfl) ?_
          refine SO.v rfl (opv_fieldAddr Try.underlying38 rfl Try.sizeOf35 rfl rfl) ?_
          refine SO.b1 ?_
          refine SO.load1 rfl Try.isAgg35 rfl rfl ?_
          refine SO.v rfl (opv_lenR rfl Try.underlying35 hru62 rfl) ?_
          refine SO.v rfl (opv_lss rfl rfl) ?_
          refine SO.nil ?_
          rcases bool_or (decide ((w64 (x12_7 + 1)) < (x52.Queue.length : Int))) with b159 | b159
          · replace h := cond_t b159 h
            refine S.condT rfl b159 ?_
            refine S.region ?_
            refine SO.v rfl (opv_move rfl) ?_
            refine SO.v rfl (opv_move rfl) ?_
            refine SO.v rfl (opv_mul rfl rfl) ?_
            refine SO.v rfl (opv_add rfl rfl) ?_
            refine SO.v rfl (opv_add rfl rfl) ?_
            refine SO.v rfl (opv_fieldAddr Try.underlying38 rfl Try.sizeOf35 rfl rfl) ?_
            refine SO.load1 rfl Try.isAgg35 rfl rfl ?_
            refine SO.v rfl (opv_move rfl) ?_
            refine SO.v rfl (opv_add rfl rfl) ?_
            obtain ⟨x160, hx161, h⟩ := opt_bind h
            refine SO.v rfl (opv_idx Try.underlying35 Try.sizeOf3 hru62 rfl rfl hx161) ?_
            refine SO.loadI1 (j := 0) rfl Try.isAgg3 (Rd.tail (Rd.tail (Rd.head (Rd.pool hru62)))) hx161 rfl rfl rfl rfl ?_
            refine SO.v rfl (opv_add rfl rfl) ?_
            refine SO.v rfl (opv_conv Try.underlying3 Try.underlying72 rfl) ?_
            obtain ⟨x162, hx163, h⟩ := opt_bind h
            refine SO.v rfl (opv_idx Try.underlying22 Try.sizeOf72 hr158 rfl rfl hx163) ?_
            refine SO.b1 ?_
            refine SO.storeI1 (j := 0) (z' := wu64 (w64 (x160 + 1))) Try.sizeOf72 hx163 rfl rfl rfl rfl rfl rfl ?_
            refine SO.rd fun hr164 => ?_
            refine SO.nil ?_
            refine S.inBlock ?_
            refine S.region ?_
            refine SO.v rfl (opv_move rfl) ?_
            refine SO.v rfl (opv_add rfl rfl) ?_
            refine SO.v rfl (opv_assign rfl) ?_
            refine SO.nil ?_
            refine S.b5 ?_
            refine S.b5 ?_
            refine S.b5 ?_
            refine S.b5 ?_
            refine S.b5 ?_
            refine S.b5 ?_
            refine S.to ?_ (ih7 ((w64 (x12_7 + 1), qv1_8.set (w64 ((w64 (480 + (w64 (8 * x152)))) + 2)).toNat (wu64 (w64 (x160 + 1)))), ()) h)
            exact ⟨rfl, rfl, rfl, rfl, rfl, rfl, rfl, rfl, rfl, rfl, rfl, rfl, rfl, rfl, rfl, rfl, rfl, rfl, rfl, rfl, rfl, rfl, rfl, rfl, rfl, rfl, rfl, rfl, rfl, trivial⟩
          · replace h := cond_f b159 h
            refine S.condF rfl b159 ?_
            refine S.region ?_
            refine SO.v rfl (opv_move rfl) ?_
            refine SO.v rfl (opv_move rfl) ?_
            refine SO.v rfl (opv_add rfl rfl) ?_
            refine SO.v rfl (opv_move rfl) ?_
            refine SO.v rfl (opv_add rfl rfl) ?_
            refine SO.v rfl (opv_conv Try.underlying3 Try.underlying72 rfl) ?_
            obtain ⟨x165, hx166, h⟩ := opt_bind h
            refine SO.v rfl (opv_idx Try.underlying22 Try.sizeOf72 hr158 rfl rfl hx166) ?_
            refine SO.b1 ?_
            refine SO.storeI1 (j := 0) (z' := wu64 (w64 (x152 + 1))) Try.sizeOf72 hx166 rfl rfl rfl rfl rfl rfl ?_
            refine SO.rd fun hr167 => ?_
            refine SO.nil ?_
            refine S.inBlock ?_
            refine S.region ?_
            refine SO.v rfl (opv_move rfl) ?_
            refine SO.v rfl (opv_add rfl rfl) ?_
            refine SO.v rfl (opv_assign rfl) ?_
            refine SO.nil ?_
            refine S.b5 ?_
            refine S.b5 ?_
            refine S.b5 ?_
            refine S.b5 ?_
            refine S.b5 ?_
            refine S.b5 ?_
            refine S.to ?_ (ih7 ((w64 (x12_7 + 1), qv1_8.set (w64 ((w64 (480 + (w64 (8 * x8_4)))) + 3)).toNat (wu64 (w64 (x152 + 1)))), ()) h)
            exact ⟨rfl, rfl, rfl, rfl, rfl, rfl, rfl, rfl, rfl, rfl, rfl, rfl, rfl, rfl, rfl, rfl, rfl, rfl, rfl, rfl, rfl, rfl, rfl, rfl, rfl, rfl, rfl, rfl, rfl, trivial⟩
        · replace h := cond_f b151 h
          refine S.condF rfl b151 ?_
          refine S.exit rfl ?_
          cases h
          refine S.b5 ?_
          refine S.b5 ?_
          refine S.b5 ?_
          refine S.b5 ?_
          refine S.b4 ?_
          refine S.b5 ?_
          refine S.to ?_ (hK7 ())
          exact ⟨rfl, rfl, rfl, rfl, rfl, rfl, rfl, rfl, rfl, rfl, rfl, rfl, rfl, rfl, rfl, rfl, rfl, rfl, rfl, rfl, rfl, rfl, rfl, rfl, rfl, rfl, rfl, rfl, rfl, rfl, rfl, rfl, rfl, rfl, trivial⟩
      rintro _
      refine S.rd fun hr168 => ?_
      refine S.inBlock ?_
      refine S.region ?_
      refine SO.v rfl (opv_move rfl) ?_
      refine SO.v rfl (opv_add rfl rfl) ?_
      refine SO.v rfl (opv_assign rfl) ?_
      refine SO.nil ?_
      refine S.b2 ?_
      refine S.closeR ?_
      refine S.b2 ?_
      refine S.drop ?_
      refine S.b4 ?_
      refine S.b1 ?_
      refine S.b4 ?_
      refine S.b4 ?_
      refine S.b4 ?_
      refine S.to ?_ (ih4 ((w64 (x8_4 + 1), qv1_e7), ()) h)
      exact ⟨rfl, rfl, rfl, rfl, trivial⟩
    · replace h := cond_f b51 h
      refine S.condF rfl b51 ?_
      refine S.exit rfl ?_
      cases h
      refine S.b4 ?_
      refine S.b4 ?_
      refine S.b4 ?_
      refine S.b4 ?_
      refine S.b4 ?_
      refine S.to ?_ (hK4 ())
      exact ⟨rfl, rfl, rfl, trivial⟩
  rintro _
  refine S.rd fun hr169 => ?_
  refine S.seq ?_
  refine S.region ?_
  refine SO.v rfl (opv_move rfl) ?_
  refine SO.v rfl (opv_move rfl) ?_
  refine SO.v rfl (opv_nilCheck rfl) ?_
  refine SO.v rfl (opv_fieldAddr Try.underlying42 rfl Try.sizeOf3 rfl rfl) ?_
  refine SO.b1 ?_
  refine SO.load1 rfl Try.isAgg3 rfl rfl ?_
  refine SO.v rfl (opv_conv Try.underlying3 Try.underlying72 rfl) ?_
  obtain ⟨x170, hx171, h⟩ := opt_bind h
  refine SO.v rfl (opv_idx Try.underlying22 Try.sizeOf72 hr169 rfl rfl hx171) ?_
  refine SO.b1 ?_
  refine SO.storeI1 (j := 0) (z' := wu64 a0.NS) Try.sizeOf72 hx171 rfl rfl rfl rfl rfl rfl ?_
  refine SO.rd fun hr172 => ?_
  refine SO.nil ?_
  refine S.to (ρ' := [(0, bp bp0 0), (2, .slice none 0 0), (3, v1)]) ⟨rfl, rfl, rfl, trivial⟩ ?_
  refine S.seq ?_
  refine S.region ?_
  refine SO.v rfl (opv_move rfl) ?_
  refine SO.v rfl (opv_move rfl) ?_
  refine SO.v rfl (opv_nilCheck rfl) ?_
  refine SO.v rfl (opv_fieldAddr Try.underlying42 rfl Try.sizeOf3 rfl rfl) ?_
  refine SO.b1 ?_
  refine SO.load1 rfl Try.isAgg3 rfl rfl ?_
  refine SO.v rfl (opv_conv Try.underlying3 Try.underlying72 rfl) ?_
  obtain ⟨x173, hx174, h⟩ := opt_bind h
  refine SO.v rfl (opv_idx Try.underlying22 Try.sizeOf72 hr172 rfl rfl hx174) ?_
  refine SO.b1 ?_
  refine SO.storeI1 (j := 0) (z' := wu64 a0.NO) Try.sizeOf72 hx174 rfl rfl rfl rfl rfl rfl ?_
  refine SO.rd fun hr175 => ?_
  refine SO.nil ?_
  refine S.to (ρ' := [(2, .slice none 0 0), (3, v1)]) ⟨rfl, rfl, trivial⟩ ?_
  refine S.seq ?_
  refine S.region ?_
  refine SO.v rfl (opv_move rfl) ?_
  refine SO.v rfl (opv_assign rfl) ?_
  refine SO.nil ?_
  cases h
  refine S.b4 ?_
  refine S.b4 ?_
  refine S.b4 ?_
  refine S.b4 ?_
  refine S.b4 ?_
  exact S.ret1 Try.func11 rfl rfl (fun w hs hk => hR w _ _ ⟨v1, rfl, rfl⟩ hs hk)
end Go.Proofs
