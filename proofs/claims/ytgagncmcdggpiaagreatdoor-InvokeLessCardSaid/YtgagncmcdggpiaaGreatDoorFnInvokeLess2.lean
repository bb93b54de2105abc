/- What the functions that InvokeLess reaches come to, and that they do. On no condition. -/
import Derived.Test.YtgagncmcdggpiaaGreatDoorFr1
import Derived.Test.YtgagncmcdggpiaaGreatDoorFnInvokeLess0
import Derived.Test.YtgagncmcdggpiaaGreatDoorFnInvokeLess1
set_option linter.all false
namespace Go.Proofs
open Go.Sl Go.RowKit
def invoke_doer_slots.f (k : Nat) (a0 : invoke_doer) : VM ((api_Reply × (Option Int))) :=
  bif a0.c.Op == 12 then ((derive_Delete.f k a0.slot).bind fun t3 => VM.ret ((⟨0, 0, 0⟩ : api_Reply), t3)) else (bif a0.c.Op == 13 then ((derive_One.f k a0.slot).bind fun (t7, t8) => bif t7 then (VM.ret ((⟨0, 1, 0⟩ : api_Reply), t8)) else (VM.ret ((⟨0, 0, 0⟩ : api_Reply), t8))) else ((invoke_doer_find.f k a0 a0.c.A).bind fun (t12, t13) => bif t13.isSome then (VM.ret ((⟨0, 0, 0⟩ : api_Reply), t13)) else (bif a0.c.Op == 8 then ((derive_Copy.f k a0.slot t12 a0.c.B).bind fun t18 => VM.ret ((⟨0, 0, 0⟩ : api_Reply), t18)) else (bif a0.c.Op == 9 then ((derive_Mint.f k a0.slot t12 a0.c.B a0.c.C).bind fun t22 => VM.ret ((⟨0, 0, 0⟩ : api_Reply), t22)) else (bif a0.c.Op == 10 then ((derive_Move.f k a0.slot t12).bind fun t26 => VM.ret ((⟨0, 0, 0⟩ : api_Reply), t26)) else (bif a0.c.Op == 11 then ((derive_Mutate.f k a0.slot t12 a0.c.B a0.c.C).bind fun t30 => VM.ret ((⟨0, 0, 0⟩ : api_Reply), t30)) else ((VM.opt (invoke_is.f a0.cap 1 0)).bind fun t33 => bif t33.isSome then (VM.ret ((⟨0, 0, 0⟩ : api_Reply), t33)) else ((untyped_Retype.f k a0.slot t12 a0.c.B a0.c.C).bind fun (t36, t37) => VM.ret ((⟨0, t36, 0⟩ : api_Reply), t37)))))))))
set_option maxHeartbeats 8000000 in
set_option maxRecDepth 100000 in
theorem invoke_doer_slots.ct (V : VW Tryz.prog) (k : Nat) (bp0 : Nat) (a0 : invoke_doer) (r0 : api_Reply) (r1 : Option Int) (s s' : V.S) (h : VM.run V.toVI (invoke_doer_slots.f k a0) s = some ((r0, r1), s')) :
    Ct Tryz.prog 37 [bp bp0 0] (fun _ => True) [Box bp0 [V.val, .int .i64 a0.t, .int .i64 a0.c.Op, .int .i64 a0.c.Cap, .int .i64 a0.c.A, .int .i64 a0.c.B, .int .i64 a0.c.C, .int .i64 a0.c.D, .int .i64 a0.slot, .int .i64 a0.cap.Kind, .int .i64 a0.cap.Rights, .int .i64 a0.cap.Obj, .int .i64 a0.cap.Badge, .int .i64 a0.cap.Guard, .int .i64 a0.cap.Bits], V.rep s] (fun u H' => u = .tuple #[.agg #[.int .i64 r0.Code, .int .i64 r0.Word, .int .i64 r0.Badge], errV 98 r1] ∧ H' = [Box bp0 [V.val, .int .i64 a0.t, .int .i64 a0.c.Op, .int .i64 a0.c.Cap, .int .i64 a0.c.A, .int .i64 a0.c.B, .int .i64 a0.c.C, .int .i64 a0.c.D, .int .i64 a0.slot, .int .i64 a0.cap.Kind, .int .i64 a0.cap.Rights, .int .i64 a0.cap.Obj, .int .i64 a0.cap.Badge, .int .i64 a0.cap.Guard, .int .i64 a0.cap.Bits], V.rep s']) := by
 unfold invoke_doer_slots.f at h
 refine Ct.intro (n := 175) Tryz.func37 rfl rfl rfl ?_
 intro R w0 F hF hR
 refine S.seq <| S.region <| SO.alloc rfl Tryz.zeroValue34 rfl fun b1 => ag rfl <| SO.nil <| S.seq <| S.seq <| S.region <| mv rfl <| nc rfl <| fa Tryz.underlying72 rfl Tryz.sizeOf30 rfl rfl <| fa Tryz.underlying30 rfl Tryz.sizeOf3 rfl rfl <| SO.b1 <| ld Tryz.isAgg3 rfl rfl <| SO.nil <| S.block <| S.seq <| S.region <| vv (opv_eql rfl rfl) <| ag rfl <| SO.nil ?_
 rcases bool_or (a0.c.Op == 12) with b2 | b2
 ·replace h := VM.cond_t V.toVI b2 h
  refine S.condT rfl b2 <| S.seq ?_
  obtain ⟨t3, s5, ht4, h⟩ := VM.bind_some V.toVI h
  refine S.draw2 (Y := fun Q => ∃ (_ _ _ _ _ _ : Unit), Q [(0, bp bp0 0), (2, bp b1 0)] [Box bp0 [V.val, .int .i64 a0.t, .int .i64 a0.c.Op, .int .i64 a0.c.Cap, .int .i64 a0.c.A, .int .i64 a0.c.B, .int .i64 a0.c.C, .int .i64 a0.c.D, .int .i64 a0.slot, .int .i64 a0.cap.Kind, .int .i64 a0.cap.Rights, .int .i64 a0.cap.Obj, .int .i64 a0.cap.Badge, .int .i64 a0.cap.Guard, .int .i64 a0.cap.Bits], Box b1 [.int .i64 0, .int .i64 0, .int .i64 0], V.rep s, F]) (Z := fun Q => ∀ (_ _ _ _ _ _ : Unit), Q [(2, bp b1 0), (3, errV 98 t3)] [Box bp0 [V.val, .int .i64 a0.t, .int .i64 a0.c.Op, .int .i64 a0.c.Cap, .int .i64 a0.c.A, .int .i64 a0.c.B, .int .i64 a0.c.C, .int .i64 a0.c.D, .int .i64 a0.slot, .int .i64 a0.cap.Kind, .int .i64 a0.cap.Rights, .int .i64 a0.cap.Obj, .int .i64 a0.cap.Badge, .int .i64 a0.cap.Guard, .int .i64 a0.cap.Bits], Box b1 [.int .i64 0, .int .i64 0, .int .i64 0], V.rep s5, F]) (T := [tS 0 (bp bp0 0), tS 2 (bp b1 0), tR (Box bp0 [V.val, .int .i64 a0.t, .int .i64 a0.c.Op, .int .i64 a0.c.Cap, .int .i64 a0.c.A, .int .i64 a0.c.B, .int .i64 a0.c.C, .int .i64 a0.c.D, .int .i64 a0.slot, .int .i64 a0.cap.Kind, .int .i64 a0.cap.Rights, .int .i64 a0.cap.Obj, .int .i64 a0.cap.Badge, .int .i64 a0.cap.Guard, .int .i64 a0.cap.Bits]), tR (Box b1 [.int .i64 0, .int .i64 0, .int .i64 0]), tR (V.rep s), tR (F), tS 17 (.agg #[.int .i64 0, .int .i64 0, .int .i64 0]), tS 18 (bp bp0 0), tS 19 (bp bp0 0), tS 20 (bp bp0 0), tS 21 (V.val), tS 22 (bp bp0 0), tS 23 (bp bp0 0), tS 24 (bp bp0 8), tS 25 (.int .i64 a0.slot), tR (V.rep s5), tS 26 (errV 98 t3), tS 3 (errV 98 t3)]) (D := [⟨[], [], [6]⟩, ⟨[0], [], [7]⟩, ⟨[7], [], [8]⟩, ⟨[8], [], [9]⟩, ⟨[9, 2], [], [10]⟩, ⟨[0], [], [11]⟩, ⟨[11], [], [12]⟩, ⟨[12], [], [13]⟩, ⟨[13, 2], [], [14]⟩, ⟨[10, 14], [4], [15, 16]⟩, ⟨[1, 6, 3], [], []⟩, ⟨[16], [], [17]⟩]) (ini := [0, 1, 2, 3, 4, 5]) (fin := [1, 17, 2, 3, 15, 5]) (bf := [[], [], [1], [1, 2], [1, 2, 3], [], [5], [5, 6], [5, 6, 7], [1, 2, 3, 4, 5, 6, 7, 8], [0, 1, 2, 3, 4, 5, 6, 7, 8, 9], [0, 1, 2, 3, 4, 5, 6, 7, 8, 9, 10]]) (by kernel_rfl) (by kernel_rfl) (fun Q => by kernel_rfl) (fun x w h1 h2 => ⟨(), (), (), (), (), (), EnvAll.of h1 ⟨rfl, rfl, trivial⟩, h2⟩) (fun Q => by kernel_rfl) ⟨?_, ?_, ?_, ?_, ?_, ?_, ?_, ?_, ?_, ?_, ?_, ?_, trivial⟩ ?_
  ·rintro Fr
   exact vv (opv_build (v := .agg #[.int .i64 0, .int .i64 0, .int .i64 0]) rfl (by intro w; kernel_rfl)) <| nz1 rfl () rfl
  ·rintro Fr _
   exact mv rfl <| nz2 rfl () () rfl
  ·rintro Fr _
   exact nc rfl <| nz2 rfl () () rfl
  ·rintro Fr _
   exact fa Tryz.underlying72 rfl Tryz.sizeOf65 rfl rfl <| nz2 rfl () () rfl
  ·rintro Fr _ _
   exact ld Tryz.isAgg65 rfl rfl <| nz3 rfl () () () rfl
  ·rintro Fr _
   exact mv rfl <| nz2 rfl () () rfl
  ·rintro Fr _
   exact nc rfl <| nz2 rfl () () rfl
  ·rintro Fr _
   exact fa Tryz.underlying72 rfl Tryz.sizeOf3 rfl rfl <| nz2 rfl () () rfl
  ·rintro Fr _ _
   exact ld Tryz.isAgg3 rfl rfl <| nz3 rfl () () () rfl
  ·rintro Fr _ _ _
   refine SO.call (pre := [V.rep _]) rfl Tryz.call66 rfl rfl rfl (derive_Delete.ct V _ _ _ _ _ ht4) trivial ?_
   rintro _ _ ⟨rfl, rfl⟩
   exact nz4 rfl () () () () rfl
  ·rintro Fr _ _ _
   exact SO.storeN Tryz.sizeOf34 rfl rfl rfl rfl rfl rfl <| nz3 rfl () () () rfl
  ·rintro Fr _
   exact ag rfl <| nz2 rfl () () rfl
  rintro _ _ _ _ _ _
  refine tt [(2, bp b1 0), (3, errV 98 t3)] rfl ?_
  obtain ⟨hq, rfl⟩ := VM.ret_some V.toVI h
  cases hq
  exact S.b3 <| S.b3 <| S.b2 <| S.b3 <| S.retC1 Tryz.func37 rfl rfl rfl Tryz.isAgg34 Tryz.sizeOf34 rfl rfl (fun w hs hk => hR w _ _ ⟨rfl, rfl⟩ hs.drop hk)
 replace h := VM.cond_f V.toVI b2 h
 refine S.condF rfl b2 <| S.seq <| S.region <| vv (opv_eql rfl rfl) <| ag rfl <| SO.nil <| tt [(0, bp bp0 0), (2, bp b1 0), (3, errV 98 none), (27, .bool (a0.c.Op == 13))] rfl ?_
 rcases bool_or (a0.c.Op == 13) with b6 | b6
 ·replace h := VM.cond_t V.toVI b6 h
  refine S.condT rfl b6 <| S.seq ?_
  obtain ⟨⟨t7, t8⟩, s10, ht9, h⟩ := VM.bind_some V.toVI h
  refine S.draw2 (Y := fun Q => ∃ (_ _ _ _ _ _ : Unit), Q [(0, bp bp0 0), (2, bp b1 0), (3, errV 98 none)] [Box bp0 [V.val, .int .i64 a0.t, .int .i64 a0.c.Op, .int .i64 a0.c.Cap, .int .i64 a0.c.A, .int .i64 a0.c.B, .int .i64 a0.c.C, .int .i64 a0.c.D, .int .i64 a0.slot, .int .i64 a0.cap.Kind, .int .i64 a0.cap.Rights, .int .i64 a0.cap.Obj, .int .i64 a0.cap.Badge, .int .i64 a0.cap.Guard, .int .i64 a0.cap.Bits], Box b1 [.int .i64 0, .int .i64 0, .int .i64 0], V.rep s, F]) (Z := fun Q => ∀ (_ _ _ _ _ _ _ : Unit), Q [(2, bp b1 0), (3, errV 98 none), (4, .bool t7), (5, errV 98 t8)] [Box bp0 [V.val, .int .i64 a0.t, .int .i64 a0.c.Op, .int .i64 a0.c.Cap, .int .i64 a0.c.A, .int .i64 a0.c.B, .int .i64 a0.c.C, .int .i64 a0.c.D, .int .i64 a0.slot, .int .i64 a0.cap.Kind, .int .i64 a0.cap.Rights, .int .i64 a0.cap.Obj, .int .i64 a0.cap.Badge, .int .i64 a0.cap.Guard, .int .i64 a0.cap.Bits], Box b1 [.int .i64 0, .int .i64 0, .int .i64 0], V.rep s10, F]) (T := [tS 0 (bp bp0 0), tE [(2, bp b1 0), (3, errV 98 none)], tR (Box bp0 [V.val, .int .i64 a0.t, .int .i64 a0.c.Op, .int .i64 a0.c.Cap, .int .i64 a0.c.A, .int .i64 a0.c.B, .int .i64 a0.c.C, .int .i64 a0.c.D, .int .i64 a0.slot, .int .i64 a0.cap.Kind, .int .i64 a0.cap.Rights, .int .i64 a0.cap.Obj, .int .i64 a0.cap.Badge, .int .i64 a0.cap.Guard, .int .i64 a0.cap.Bits]), tR (Box b1 [.int .i64 0, .int .i64 0, .int .i64 0]), tR (V.rep s), tR (F), tS 30 (bp bp0 0), tS 31 (bp bp0 0), tS 32 (bp bp0 0), tS 33 (V.val), tS 34 (bp bp0 0), tS 35 (bp bp0 0), tS 36 (bp bp0 8), tS 37 (.int .i64 a0.slot), tR (V.rep s10), tS 38 (.tuple #[.bool t7, errV 98 t8]), tS 29 (.tuple #[.bool t7, errV 98 t8]), tS 39 (.bool t7), tS 40 (errV 98 t8), tS 4 (.bool t7), tS 5 (errV 98 t8)]) (D := [⟨[0], [], [6]⟩, ⟨[6], [], [7]⟩, ⟨[7], [], [8]⟩, ⟨[8, 2], [], [9]⟩, ⟨[0], [], [10]⟩, ⟨[10], [], [11]⟩, ⟨[11], [], [12]⟩, ⟨[12, 2], [], [13]⟩, ⟨[9, 13], [4], [14, 15]⟩, ⟨[15], [], [16]⟩, ⟨[16], [], [17]⟩, ⟨[16], [], [18]⟩, ⟨[17], [], [19]⟩, ⟨[18], [], [20]⟩]) (ini := [0, 1, 2, 3, 4, 5]) (fin := [1, 19, 20, 2, 3, 14, 5]) (bf := [[], [0], [0, 1], [0, 1, 2], [], [4], [4, 5], [4, 5, 6], [0, 1, 2, 3, 4, 5, 6, 7], [0, 1, 2, 3, 4, 5, 6, 7, 8], [0, 1, 2, 3, 4, 5, 6, 7, 8, 9], [0, 1, 2, 3, 4, 5, 6, 7, 8, 9], [0, 1, 2, 3, 4, 5, 6, 7, 8, 9, 10], [0, 1, 2, 3, 4, 5, 6, 7, 8, 9, 10, 11, 12]]) (by kernel_rfl) (by kernel_rfl) (fun Q => by kernel_rfl) (fun x w h1 h2 => ⟨(), (), (), (), (), (), EnvAll.of h1 ⟨rfl, rfl, rfl, trivial⟩, h2⟩) (fun Q => by kernel_rfl) ⟨?_, ?_, ?_, ?_, ?_, ?_, ?_, ?_, ?_, ?_, ?_, ?_, ?_, ?_, trivial⟩ ?_
  ·rintro Fr _
   exact mv rfl <| nz2 rfl () () rfl
  ·rintro Fr _
   exact nc rfl <| nz2 rfl () () rfl
  ·rintro Fr _
   exact fa Tryz.underlying72 rfl Tryz.sizeOf65 rfl rfl <| nz2 rfl () () rfl
  ·rintro Fr _ _
   exact ld Tryz.isAgg65 rfl rfl <| nz3 rfl () () () rfl
  ·rintro Fr _
   exact mv rfl <| nz2 rfl () () rfl
  ·rintro Fr _
   exact nc rfl <| nz2 rfl () () rfl
  ·rintro Fr _
   exact fa Tryz.underlying72 rfl Tryz.sizeOf3 rfl rfl <| nz2 rfl () () rfl
  ·rintro Fr _ _
   exact ld Tryz.isAgg3 rfl rfl <| nz3 rfl () () () rfl
  ·rintro Fr _ _ _
   refine SO.call (pre := [V.rep _]) rfl Tryz.call67 rfl rfl rfl (derive_One.ct V _ _ _ _ _ _ ht9) trivial ?_
   rintro _ _ ⟨rfl, rfl⟩
   exact nz4 rfl () () () () rfl
  ·rintro Fr _
   exact mv rfl <| nz2 rfl () () rfl
  ·rintro Fr _
   exact vv (opv_extract rfl rfl) <| nz2 rfl () () rfl
  ·rintro Fr _
   exact vv (opv_extract rfl rfl) <| nz2 rfl () () rfl
  ·rintro Fr _
   exact ag rfl <| nz2 rfl () () rfl
  ·rintro Fr _
   exact ag rfl <| nz2 rfl () () rfl
  rintro _ _ _ _ _ _ _
  refine tt [(2, bp b1 0), (3, errV 98 none), (4, .bool t7), (5, errV 98 t8)] rfl <| S.seq <| S.seq <| S.region <| mv rfl <| SO.nil ?_
  rcases bool_or t7 with b11 | b11
  ·replace h := VM.cond_t V.toVI b11 h
   refine S.condT rfl b11 <| S.seq <| S.region <| vv (opv_build (v := .agg #[.int .i64 0, .int .i64 1, .int .i64 0]) rfl (by intro w; kernel_rfl)) <| mv rfl <| SO.b1 <| SO.storeN Tryz.sizeOf34 rfl rfl rfl rfl rfl rfl <| ag rfl <| SO.nil ?_
   obtain ⟨hq, rfl⟩ := VM.ret_some V.toVI h
   cases hq
   exact S.b3 <| S.b3 <| S.b3 <| S.b3 <| S.retC1 Tryz.func37 rfl rfl rfl Tryz.isAgg34 Tryz.sizeOf34 rfl rfl (fun w hs hk => hR w _ _ ⟨rfl, rfl⟩ hs.drop hk)
  replace h := VM.cond_f V.toVI b11 h
  refine S.condF rfl b11 <| S.skip <| S.seq <| S.region <| vv (opv_build (v := .agg #[.int .i64 0, .int .i64 0, .int .i64 0]) rfl (by intro w; kernel_rfl)) <| mv rfl <| SO.b1 <| SO.storeN Tryz.sizeOf34 rfl rfl rfl rfl rfl rfl <| ag rfl <| SO.nil ?_
  obtain ⟨hq, rfl⟩ := VM.ret_some V.toVI h
  cases hq
  exact S.b3 <| S.b3 <| S.b3 <| S.b3 <| S.retC1 Tryz.func37 rfl rfl rfl Tryz.isAgg34 Tryz.sizeOf34 rfl rfl (fun w hs hk => hR w _ _ ⟨rfl, rfl⟩ hs.drop hk)
 replace h := VM.cond_f V.toVI b6 h
 refine S.condF rfl b6 <| S.skip <| S.inBlock <| S.seq <| S.region <| mv rfl <| mv rfl <| nc rfl <| fa Tryz.underlying72 rfl Tryz.sizeOf30 rfl rfl <| fa Tryz.underlying30 rfl Tryz.sizeOf3 rfl rfl <| ld Tryz.isAgg3 rfl rfl ?_
 obtain ⟨⟨t12, t13⟩, s15, ht14, h⟩ := VM.bind_some V.toVI h
 refine SO.b2 <| SO.b1 <| SO.call (pre := [Box _ _, V.rep _]) rfl Tryz.call35 rfl rfl rfl (invoke_doer_find.ct V _ bp0 _ _ _ _ _ _ ht14) trivial ?_
 rintro _ _ ⟨rfl, rfl⟩
 refine mv rfl <| vv (opv_extract rfl rfl) <| vv (opv_extract rfl rfl) <| ag rfl <| ag rfl <| SO.nil <| tt [(0, bp bp0 0), (2, bp b1 0), (3, errV 98 none), (6, .int .i64 t12), (7, errV 98 t13)] rfl <| S.seq <| S.seq <| S.region <| mv rfl <| vv (opv_neqN (e := t13) Tryz.underlying74 rfl) <| SO.nil ?_
 rcases bool_or t13.isSome with b16 | b16
 ·replace h := VM.cond_t V.toVI b16 h
  refine S.condT rfl b16 <| S.seq <| S.region <| vv (opv_build (v := .agg #[.int .i64 0, .int .i64 0, .int .i64 0]) rfl (by intro w; kernel_rfl)) <| mv rfl <| SO.b2 <| SO.storeN Tryz.sizeOf34 rfl rfl rfl rfl rfl rfl <| ag rfl <| SO.nil <| tt [(2, bp b1 0), (3, errV 98 t13)] rfl ?_
  obtain ⟨hq, rfl⟩ := VM.ret_some V.toVI h
  cases hq
  exact S.b3 <| S.b3 <| S.b3 <| S.b3 <| S.retC1 Tryz.func37 rfl rfl rfl Tryz.isAgg34 Tryz.sizeOf34 rfl rfl (fun w hs hk => hR w _ _ ⟨rfl, rfl⟩ hs.drop hk)
 replace h := VM.cond_f V.toVI b16 h
 refine S.condF rfl b16 <| S.skip <| S.seq <| S.seq <| S.region <| mv rfl <| nc rfl <| fa Tryz.underlying72 rfl Tryz.sizeOf30 rfl rfl <| fa Tryz.underlying30 rfl Tryz.sizeOf3 rfl rfl <| ld Tryz.isAgg3 rfl rfl <| SO.nil <| tt [(0, bp bp0 0), (2, bp b1 0), (3, errV 98 none), (6, .int .i64 t12), (64, .int .i64 a0.c.Op)] rfl <| S.block <| S.seq <| S.region <| vv (opv_eql rfl rfl) <| ag rfl <| SO.nil ?_
 rcases bool_or (a0.c.Op == 8) with b17 | b17
 ·replace h := VM.cond_t V.toVI b17 h
  refine S.condT rfl b17 ?_
  obtain ⟨t18, s20, ht19, h⟩ := VM.bind_some V.toVI h
  refine S.draw2 (Y := fun Q => ∃ (_ _ _ _ _ _ _ : Unit), Q [(0, bp bp0 0), (6, .int .i64 t12), (2, bp b1 0), (3, errV 98 none)] [Box bp0 [V.val, .int .i64 a0.t, .int .i64 a0.c.Op, .int .i64 a0.c.Cap, .int .i64 a0.c.A, .int .i64 a0.c.B, .int .i64 a0.c.C, .int .i64 a0.c.D, .int .i64 a0.slot, .int .i64 a0.cap.Kind, .int .i64 a0.cap.Rights, .int .i64 a0.cap.Obj, .int .i64 a0.cap.Badge, .int .i64 a0.cap.Guard, .int .i64 a0.cap.Bits], V.rep s15, Box b1 [.int .i64 0, .int .i64 0, .int .i64 0], F]) (Z := fun Q => ∀ (_ _ _ _ _ _ : Unit), Q [(2, bp b1 0), (3, errV 98 none), (7, errV 98 t18)] [Box bp0 [V.val, .int .i64 a0.t, .int .i64 a0.c.Op, .int .i64 a0.c.Cap, .int .i64 a0.c.A, .int .i64 a0.c.B, .int .i64 a0.c.C, .int .i64 a0.c.D, .int .i64 a0.slot, .int .i64 a0.cap.Kind, .int .i64 a0.cap.Rights, .int .i64 a0.cap.Obj, .int .i64 a0.cap.Badge, .int .i64 a0.cap.Guard, .int .i64 a0.cap.Bits], V.rep s20, Box b1 [.int .i64 0, .int .i64 0, .int .i64 0], F]) (T := [tS 0 (bp bp0 0), tS 6 (.int .i64 t12), tE [(2, bp b1 0), (3, errV 98 none)], tR (Box bp0 [V.val, .int .i64 a0.t, .int .i64 a0.c.Op, .int .i64 a0.c.Cap, .int .i64 a0.c.A, .int .i64 a0.c.B, .int .i64 a0.c.C, .int .i64 a0.c.D, .int .i64 a0.slot, .int .i64 a0.cap.Kind, .int .i64 a0.cap.Rights, .int .i64 a0.cap.Obj, .int .i64 a0.cap.Badge, .int .i64 a0.cap.Guard, .int .i64 a0.cap.Bits]), tR (V.rep s15), tR (Box b1 [.int .i64 0, .int .i64 0, .int .i64 0]), tR (F), tS 102 (bp bp0 0), tS 103 (bp bp0 0), tS 104 (bp bp0 0), tS 105 (V.val), tS 106 (bp bp0 0), tS 107 (bp bp0 0), tS 108 (bp bp0 8), tS 109 (.int .i64 a0.slot), tS 110 (.int .i64 t12), tS 111 (bp bp0 0), tS 112 (bp bp0 0), tS 113 (bp bp0 2), tS 114 (bp bp0 5), tS 115 (.int .i64 a0.c.B), tR (V.rep s20), tS 116 (errV 98 t18), tS 7 (errV 98 t18)]) (D := [⟨[0], [], [7]⟩, ⟨[7], [], [8]⟩, ⟨[8], [], [9]⟩, ⟨[9, 3], [], [10]⟩, ⟨[0], [], [11]⟩, ⟨[11], [], [12]⟩, ⟨[12], [], [13]⟩, ⟨[13, 3], [], [14]⟩, ⟨[1], [], [15]⟩, ⟨[0], [], [16]⟩, ⟨[16], [], [17]⟩, ⟨[17], [], [18]⟩, ⟨[18], [], [19]⟩, ⟨[19, 3], [], [20]⟩, ⟨[10, 14, 15, 20], [4], [21, 22]⟩, ⟨[22], [], [23]⟩]) (ini := [0, 1, 2, 3, 4, 5, 6]) (fin := [2, 23, 3, 21, 5, 6]) (bf := [[], [0], [0, 1], [0, 1, 2], [], [4], [4, 5], [4, 5, 6], [], [], [9], [9, 10], [9, 10, 11], [9, 10, 11, 12], [0, 1, 2, 3, 4, 5, 6, 7, 8, 9, 10, 11, 12, 13], [0, 1, 2, 3, 4, 5, 6, 7, 8, 9, 10, 11, 12, 13, 14]]) (by kernel_rfl) (by kernel_rfl) (fun Q => by kernel_rfl) (fun x w h1 h2 => ⟨(), (), (), (), (), (), (), EnvAll.of h1 ⟨rfl, rfl, rfl, rfl, trivial⟩, h2⟩) (fun Q => by kernel_rfl) ⟨?_, ?_, ?_, ?_, ?_, ?_, ?_, ?_, ?_, ?_, ?_, ?_, ?_, ?_, ?_, ?_, trivial⟩ ?_
  ·rintro Fr _
   exact mv rfl <| nz2 rfl () () rfl
  ·rintro Fr _
   exact nc rfl <| nz2 rfl () () rfl
  ·rintro Fr _
   exact fa Tryz.underlying72 rfl Tryz.sizeOf65 rfl rfl <| nz2 rfl () () rfl
  ·rintro Fr _ _
   exact ld Tryz.isAgg65 rfl rfl <| nz3 rfl () () () rfl
  ·rintro Fr _
   exact mv rfl <| nz2 rfl () () rfl
  ·rintro Fr _
   exact nc rfl <| nz2 rfl () () rfl
  ·rintro Fr _
   exact fa Tryz.underlying72 rfl Tryz.sizeOf3 rfl rfl <| nz2 rfl () () rfl
  ·rintro Fr _ _
   exact ld Tryz.isAgg3 rfl rfl <| nz3 rfl () () () rfl
  ·rintro Fr _
   exact mv rfl <| nz2 rfl () () rfl
  ·rintro Fr _
   exact mv rfl <| nz2 rfl () () rfl
  ·rintro Fr _
   exact nc rfl <| nz2 rfl () () rfl
  ·rintro Fr _
   exact fa Tryz.underlying72 rfl Tryz.sizeOf30 rfl rfl <| nz2 rfl () () rfl
  ·rintro Fr _
   exact fa Tryz.underlying30 rfl Tryz.sizeOf3 rfl rfl <| nz2 rfl () () rfl
  ·rintro Fr _ _
   exact ld Tryz.isAgg3 rfl rfl <| nz3 rfl () () () rfl
  ·refine spec2 (X := fun Q => ∀ (_ _ _ _ _ : Unit), Q [(105, V.val), (109, .int .i64 a0.slot), (110, .int .i64 t12), (115, .int .i64 a0.c.B)] [V.rep s15]) (fun Q => by kernel_rfl) ?_
   rintro Fr _ _ _ _ _
   refine SO.call (pre := [V.rep _]) rfl Tryz.call68 rfl rfl rfl (derive_Copy.ct V _ _ _ _ _ _ _ ht19) trivial ?_
   rintro _ _ ⟨rfl, rfl⟩
   exact SO.nilZ fun a w h1 h2 h3 h4 h5 => PZ.of2 (Y := fun Q => ∃ (_ _ _ _ _ _ : Unit), Q [(105, V.val), (109, .int .i64 a0.slot), (110, .int .i64 t12), (115, .int .i64 a0.c.B), (116, errV 98 t18)] [V.rep s20]) (fun Q => by kernel_rfl) h1 h3 h5 ⟨(), (), (), (), (), (), EnvAll.of h2 ⟨rfl, rfl, rfl, rfl, rfl, trivial⟩, h4⟩
  ·rintro Fr _
   exact ag rfl <| nz2 rfl () () rfl
  rintro _ _ _ _ _ _
  refine tt [(2, bp b1 0), (3, errV 98 none), (7, errV 98 t18)] rfl <| S.inBlock <| S.seq <| S.region <| vv (opv_build (v := .agg #[.int .i64 0, .int .i64 0, .int .i64 0]) rfl (by intro w; kernel_rfl)) <| mv rfl <| SO.b2 <| SO.storeN Tryz.sizeOf34 rfl rfl rfl rfl rfl rfl <| ag rfl <| SO.nil ?_
  obtain ⟨hq, rfl⟩ := VM.ret_some V.toVI h
  cases hq
  exact S.b3 <| S.b3 <| S.b3 <| S.b3 <| S.retC1 Tryz.func37 rfl rfl rfl Tryz.isAgg34 Tryz.sizeOf34 rfl rfl (fun w hs hk => hR w _ _ ⟨rfl, rfl⟩ hs.drop hk)
 replace h := VM.cond_f V.toVI b17 h
 refine S.condF rfl b17 <| S.seq <| S.region <| vv (opv_eql rfl rfl) <| ag rfl <| SO.nil ?_
 rcases bool_or (a0.c.Op == 9) with b21 | b21
 ·replace h := VM.cond_t V.toVI b21 h
  refine S.condT rfl b21 ?_
  obtain ⟨t22, s24, ht23, h⟩ := VM.bind_some V.toVI h
  refine S.draw2 (Y := fun Q => ∃ (_ _ _ _ _ _ _ : Unit), Q [(0, bp bp0 0), (6, .int .i64 t12), (2, bp b1 0), (3, errV 98 none)] [Box bp0 [V.val, .int .i64 a0.t, .int .i64 a0.c.Op, .int .i64 a0.c.Cap, .int .i64 a0.c.A, .int .i64 a0.c.B, .int .i64 a0.c.C, .int .i64 a0.c.D, .int .i64 a0.slot, .int .i64 a0.cap.Kind, .int .i64 a0.cap.Rights, .int .i64 a0.cap.Obj, .int .i64 a0.cap.Badge, .int .i64 a0.cap.Guard, .int .i64 a0.cap.Bits], V.rep s15, Box b1 [.int .i64 0, .int .i64 0, .int .i64 0], F]) (Z := fun Q => ∀ (_ _ _ _ _ _ : Unit), Q [(2, bp b1 0), (3, errV 98 none), (7, errV 98 t22)] [Box bp0 [V.val, .int .i64 a0.t, .int .i64 a0.c.Op, .int .i64 a0.c.Cap, .int .i64 a0.c.A, .int .i64 a0.c.B, .int .i64 a0.c.C, .int .i64 a0.c.D, .int .i64 a0.slot, .int .i64 a0.cap.Kind, .int .i64 a0.cap.Rights, .int .i64 a0.cap.Obj, .int .i64 a0.cap.Badge, .int .i64 a0.cap.Guard, .int .i64 a0.cap.Bits], V.rep s24, Box b1 [.int .i64 0, .int .i64 0, .int .i64 0], F]) (T := [tS 0 (bp bp0 0), tS 6 (.int .i64 t12), tE [(2, bp b1 0), (3, errV 98 none)], tR (Box bp0 [V.val, .int .i64 a0.t, .int .i64 a0.c.Op, .int .i64 a0.c.Cap, .int .i64 a0.c.A, .int .i64 a0.c.B, .int .i64 a0.c.C, .int .i64 a0.c.D, .int .i64 a0.slot, .int .i64 a0.cap.Kind, .int .i64 a0.cap.Rights, .int .i64 a0.cap.Obj, .int .i64 a0.cap.Badge, .int .i64 a0.cap.Guard, .int .i64 a0.cap.Bits]), tR (V.rep s15), tR (Box b1 [.int .i64 0, .int .i64 0, .int .i64 0]), tR (F), tS 119 (bp bp0 0), tS 120 (bp bp0 0), tS 121 (bp bp0 0), tS 122 (V.val), tS 123 (bp bp0 0), tS 124 (bp bp0 0), tS 125 (bp bp0 8), tS 126 (.int .i64 a0.slot), tS 127 (.int .i64 t12), tS 128 (bp bp0 0), tS 129 (bp bp0 0), tS 130 (bp bp0 2), tS 131 (bp bp0 5), tS 132 (.int .i64 a0.c.B), tS 133 (bp bp0 0), tS 134 (bp bp0 0), tS 135 (bp bp0 2), tS 136 (bp bp0 6), tS 137 (.int .i64 a0.c.C), tR (V.rep s24), tS 138 (errV 98 t22), tS 7 (errV 98 t22)]) (D := [⟨[0], [], [7]⟩, ⟨[7], [], [8]⟩, ⟨[8], [], [9]⟩, ⟨[9, 3], [], [10]⟩, ⟨[0], [], [11]⟩, ⟨[11], [], [12]⟩, ⟨[12], [], [13]⟩, ⟨[13, 3], [], [14]⟩, ⟨[1], [], [15]⟩, ⟨[0], [], [16]⟩, ⟨[16], [], [17]⟩, ⟨[17], [], [18]⟩, ⟨[18], [], [19]⟩, ⟨[19, 3], [], [20]⟩, ⟨[0], [], [21]⟩, ⟨[21], [], [22]⟩, ⟨[22], [], [23]⟩, ⟨[23], [], [24]⟩, ⟨[24, 3], [], [25]⟩, ⟨[10, 14, 15, 20, 25], [4], [26, 27]⟩, ⟨[27], [], [28]⟩]) (ini := [0, 1, 2, 3, 4, 5, 6]) (fin := [2, 28, 3, 26, 5, 6]) (bf := [[], [0], [0, 1], [0, 1, 2], [], [4], [4, 5], [4, 5, 6], [], [], [9], [9, 10], [9, 10, 11], [9, 10, 11, 12], [], [14], [14, 15], [14, 15, 16], [14, 15, 16, 17], [0, 1, 2, 3, 4, 5, 6, 7, 8, 9, 10, 11, 12, 13, 14, 15, 16, 17, 18], [0, 1, 2, 3, 4, 5, 6, 7, 8, 9, 10, 11, 12, 13, 14, 15, 16, 17, 18, 19]]) (by kernel_rfl) (by kernel_rfl) (fun Q => by kernel_rfl) (fun x w h1 h2 => ⟨(), (), (), (), (), (), (), EnvAll.of h1 ⟨rfl, rfl, rfl, rfl, trivial⟩, h2⟩) (fun Q => by kernel_rfl) ⟨?_, ?_, ?_, ?_, ?_, ?_, ?_, ?_, ?_, ?_, ?_, ?_, ?_, ?_, ?_, ?_, ?_, ?_, ?_, ?_, ?_, trivial⟩ ?_
  ·rintro Fr _
   exact mv rfl <| nz2 rfl () () rfl
  ·rintro Fr _
   exact nc rfl <| nz2 rfl () () rfl
  ·rintro Fr _
   exact fa Tryz.underlying72 rfl Tryz.sizeOf65 rfl rfl <| nz2 rfl () () rfl
  ·rintro Fr _ _
   exact ld Tryz.isAgg65 rfl rfl <| nz3 rfl () () () rfl
  ·rintro Fr _
   exact mv rfl <| nz2 rfl () () rfl
  ·rintro Fr _
   exact nc rfl <| nz2 rfl () () rfl
  ·rintro Fr _
   exact fa Tryz.underlying72 rfl Tryz.sizeOf3 rfl rfl <| nz2 rfl () () rfl
  ·rintro Fr _ _
   exact ld Tryz.isAgg3 rfl rfl <| nz3 rfl () () () rfl
  ·rintro Fr _
   exact mv rfl <| nz2 rfl () () rfl
  ·rintro Fr _
   exact mv rfl <| nz2 rfl () () rfl
  ·rintro Fr _
   exact nc rfl <| nz2 rfl () () rfl
  ·rintro Fr _
   exact fa Tryz.underlying72 rfl Tryz.sizeOf30 rfl rfl <| nz2 rfl () () rfl
  ·rintro Fr _
   exact fa Tryz.underlying30 rfl Tryz.sizeOf3 rfl rfl <| nz2 rfl () () rfl
  ·rintro Fr _ _
   exact ld Tryz.isAgg3 rfl rfl <| nz3 rfl () () () rfl
  ·rintro Fr _
   exact mv rfl <| nz2 rfl () () rfl
  ·rintro Fr _
   exact nc rfl <| nz2 rfl () () rfl
  ·rintro Fr _
   exact fa Tryz.underlying72 rfl Tryz.sizeOf30 rfl rfl <| nz2 rfl () () rfl
  ·rintro Fr _
   exact fa Tryz.underlying30 rfl Tryz.sizeOf3 rfl rfl <| nz2 rfl () () rfl
  ·rintro Fr _ _
   exact ld Tryz.isAgg3 rfl rfl <| nz3 rfl () () () rfl
  ·refine spec2 (X := fun Q => ∀ (_ _ _ _ _ _ : Unit), Q [(122, V.val), (126, .int .i64 a0.slot), (127, .int .i64 t12), (132, .int .i64 a0.c.B), (137, .int .i64 a0.c.C)] [V.rep s15]) (fun Q => by kernel_rfl) ?_
   rintro Fr _ _ _ _ _ _
   refine SO.call (pre := [V.rep _]) rfl Tryz.call69 rfl rfl rfl (derive_Mint.ct V _ _ _ _ _ _ _ _ ht23) trivial ?_
   rintro _ _ ⟨rfl, rfl⟩
   exact SO.nilZ fun a w h1 h2 h3 h4 h5 => PZ.of2 (Y := fun Q => ∃ (_ _ _ _ _ _ _ : Unit), Q [(122, V.val), (126, .int .i64 a0.slot), (127, .int .i64 t12), (132, .int .i64 a0.c.B), (137, .int .i64 a0.c.C), (138, errV 98 t22)] [V.rep s24]) (fun Q => by kernel_rfl) h1 h3 h5 ⟨(), (), (), (), (), (), (), EnvAll.of h2 ⟨rfl, rfl, rfl, rfl, rfl, rfl, trivial⟩, h4⟩
  ·rintro Fr _
   exact ag rfl <| nz2 rfl () () rfl
  rintro _ _ _ _ _ _
  refine tt [(2, bp b1 0), (3, errV 98 none), (7, errV 98 t22)] rfl <| S.inBlock <| S.seq <| S.region <| vv (opv_build (v := .agg #[.int .i64 0, .int .i64 0, .int .i64 0]) rfl (by intro w; kernel_rfl)) <| mv rfl <| SO.b2 <| SO.storeN Tryz.sizeOf34 rfl rfl rfl rfl rfl rfl <| ag rfl <| SO.nil ?_
  obtain ⟨hq, rfl⟩ := VM.ret_some V.toVI h
  cases hq
  exact S.b3 <| S.b3 <| S.b3 <| S.b3 <| S.retC1 Tryz.func37 rfl rfl rfl Tryz.isAgg34 Tryz.sizeOf34 rfl rfl (fun w hs hk => hR w _ _ ⟨rfl, rfl⟩ hs.drop hk)
 replace h := VM.cond_f V.toVI b21 h
 refine S.condF rfl b21 <| S.seq <| S.region <| vv (opv_eql rfl rfl) <| ag rfl <| SO.nil ?_
 rcases bool_or (a0.c.Op == 10) with b25 | b25
 ·replace h := VM.cond_t V.toVI b25 h
  refine S.condT rfl b25 ?_
  obtain ⟨t26, s28, ht27, h⟩ := VM.bind_some V.toVI h
  refine S.draw2 (Y := fun Q => ∃ (_ _ _ _ _ _ _ : Unit), Q [(0, bp bp0 0), (6, .int .i64 t12), (2, bp b1 0), (3, errV 98 none)] [Box bp0 [V.val, .int .i64 a0.t, .int .i64 a0.c.Op, .int .i64 a0.c.Cap, .int .i64 a0.c.A, .int .i64 a0.c.B, .int .i64 a0.c.C, .int .i64 a0.c.D, .int .i64 a0.slot, .int .i64 a0.cap.Kind, .int .i64 a0.cap.Rights, .int .i64 a0.cap.Obj, .int .i64 a0.cap.Badge, .int .i64 a0.cap.Guard, .int .i64 a0.cap.Bits], V.rep s15, Box b1 [.int .i64 0, .int .i64 0, .int .i64 0], F]) (Z := fun Q => ∀ (_ _ _ _ _ _ : Unit), Q [(2, bp b1 0), (3, errV 98 none), (7, errV 98 t26)] [Box bp0 [V.val, .int .i64 a0.t, .int .i64 a0.c.Op, .int .i64 a0.c.Cap, .int .i64 a0.c.A, .int .i64 a0.c.B, .int .i64 a0.c.C, .int .i64 a0.c.D, .int .i64 a0.slot, .int .i64 a0.cap.Kind, .int .i64 a0.cap.Rights, .int .i64 a0.cap.Obj, .int .i64 a0.cap.Badge, .int .i64 a0.cap.Guard, .int .i64 a0.cap.Bits], V.rep s28, Box b1 [.int .i64 0, .int .i64 0, .int .i64 0], F]) (T := [tS 0 (bp bp0 0), tS 6 (.int .i64 t12), tE [(2, bp b1 0), (3, errV 98 none)], tR (Box bp0 [V.val, .int .i64 a0.t, .int .i64 a0.c.Op, .int .i64 a0.c.Cap, .int .i64 a0.c.A, .int .i64 a0.c.B, .int .i64 a0.c.C, .int .i64 a0.c.D, .int .i64 a0.slot, .int .i64 a0.cap.Kind, .int .i64 a0.cap.Rights, .int .i64 a0.cap.Obj, .int .i64 a0.cap.Badge, .int .i64 a0.cap.Guard, .int .i64 a0.cap.Bits]), tR (V.rep s15), tR (Box b1 [.int .i64 0, .int .i64 0, .int .i64 0]), tR (F), tS 141 (bp bp0 0), tS 142 (bp bp0 0), tS 143 (bp bp0 0), tS 144 (V.val), tS 145 (bp bp0 0), tS 146 (bp bp0 0), tS 147 (bp bp0 8), tS 148 (.int .i64 a0.slot), tS 149 (.int .i64 t12), tR (V.rep s28), tS 150 (errV 98 t26), tS 7 (errV 98 t26)]) (D := [⟨[0], [], [7]⟩, ⟨[7], [], [8]⟩, ⟨[8], [], [9]⟩, ⟨[9, 3], [], [10]⟩, ⟨[0], [], [11]⟩, ⟨[11], [], [12]⟩, ⟨[12], [], [13]⟩, ⟨[13, 3], [], [14]⟩, ⟨[1], [], [15]⟩, ⟨[10, 14, 15], [4], [16, 17]⟩, ⟨[17], [], [18]⟩]) (ini := [0, 1, 2, 3, 4, 5, 6]) (fin := [2, 18, 3, 16, 5, 6]) (bf := [[], [0], [0, 1], [0, 1, 2], [], [4], [4, 5], [4, 5, 6], [], [0, 1, 2, 3, 4, 5, 6, 7, 8], [0, 1, 2, 3, 4, 5, 6, 7, 8, 9]]) (by kernel_rfl) (by kernel_rfl) (fun Q => by kernel_rfl) (fun x w h1 h2 => ⟨(), (), (), (), (), (), (), EnvAll.of h1 ⟨rfl, rfl, rfl, rfl, trivial⟩, h2⟩) (fun Q => by kernel_rfl) ⟨?_, ?_, ?_, ?_, ?_, ?_, ?_, ?_, ?_, ?_, ?_, trivial⟩ ?_
  ·rintro Fr _
   exact mv rfl <| nz2 rfl () () rfl
  ·rintro Fr _
   exact nc rfl <| nz2 rfl () () rfl
  ·rintro Fr _
   exact fa Tryz.underlying72 rfl Tryz.sizeOf65 rfl rfl <| nz2 rfl () () rfl
  ·rintro Fr _ _
   exact ld Tryz.isAgg65 rfl rfl <| nz3 rfl () () () rfl
  ·rintro Fr _
   exact mv rfl <| nz2 rfl () () rfl
  ·rintro Fr _
   exact nc rfl <| nz2 rfl () () rfl
  ·rintro Fr _
   exact fa Tryz.underlying72 rfl Tryz.sizeOf3 rfl rfl <| nz2 rfl () () rfl
  ·rintro Fr _ _
   exact ld Tryz.isAgg3 rfl rfl <| nz3 rfl () () () rfl
  ·rintro Fr _
   exact mv rfl <| nz2 rfl () () rfl
  ·rintro Fr _ _ _ _
   refine SO.call (pre := [V.rep _]) rfl Tryz.call70 rfl rfl rfl (derive_Move.ct V _ _ _ _ _ _ ht27) trivial ?_
   rintro _ _ ⟨rfl, rfl⟩
   exact SO.nilZ fun a w h1 h2 h3 h4 h5 => PZ.of2 (Y := fun Q => ∃ (_ _ _ _ _ : Unit), Q [(144, V.val), (148, .int .i64 a0.slot), (149, .int .i64 t12), (150, errV 98 t26)] [V.rep s28]) (fun Q => by kernel_rfl) h1 h3 h5 ⟨(), (), (), (), (), EnvAll.of h2 ⟨rfl, rfl, rfl, rfl, trivial⟩, h4⟩
  ·rintro Fr _
   exact ag rfl <| nz2 rfl () () rfl
  rintro _ _ _ _ _ _
  refine tt [(2, bp b1 0), (3, errV 98 none), (7, errV 98 t26)] rfl <| S.inBlock <| S.seq <| S.region <| vv (opv_build (v := .agg #[.int .i64 0, .int .i64 0, .int .i64 0]) rfl (by intro w; kernel_rfl)) <| mv rfl <| SO.b2 <| SO.storeN Tryz.sizeOf34 rfl rfl rfl rfl rfl rfl <| ag rfl <| SO.nil ?_
  obtain ⟨hq, rfl⟩ := VM.ret_some V.toVI h
  cases hq
  exact S.b3 <| S.b3 <| S.b3 <| S.b3 <| S.retC1 Tryz.func37 rfl rfl rfl Tryz.isAgg34 Tryz.sizeOf34 rfl rfl (fun w hs hk => hR w _ _ ⟨rfl, rfl⟩ hs.drop hk)
 replace h := VM.cond_f V.toVI b25 h
 refine S.condF rfl b25 <| S.seq <| S.region <| vv (opv_eql rfl rfl) <| ag rfl <| SO.nil <| tt [(0, bp bp0 0), (2, bp b1 0), (3, errV 98 none), (6, .int .i64 t12), (151, .bool (a0.c.Op == 11))] rfl ?_
 rcases bool_or (a0.c.Op == 11) with b29 | b29
 ·replace h := VM.cond_t V.toVI b29 h
  refine S.condT rfl b29 ?_
  obtain ⟨t30, s32, ht31, h⟩ := VM.bind_some V.toVI h
  refine S.draw2 (Y := fun Q => ∃ (_ _ _ _ _ _ _ : Unit), Q [(0, bp bp0 0), (6, .int .i64 t12), (2, bp b1 0), (3, errV 98 none)] [Box bp0 [V.val, .int .i64 a0.t, .int .i64 a0.c.Op, .int .i64 a0.c.Cap, .int .i64 a0.c.A, .int .i64 a0.c.B, .int .i64 a0.c.C, .int .i64 a0.c.D, .int .i64 a0.slot, .int .i64 a0.cap.Kind, .int .i64 a0.cap.Rights, .int .i64 a0.cap.Obj, .int .i64 a0.cap.Badge, .int .i64 a0.cap.Guard, .int .i64 a0.cap.Bits], V.rep s15, Box b1 [.int .i64 0, .int .i64 0, .int .i64 0], F]) (Z := fun Q => ∀ (_ _ _ _ _ _ : Unit), Q [(2, bp b1 0), (3, errV 98 none), (7, errV 98 t30)] [Box bp0 [V.val, .int .i64 a0.t, .int .i64 a0.c.Op, .int .i64 a0.c.Cap, .int .i64 a0.c.A, .int .i64 a0.c.B, .int .i64 a0.c.C, .int .i64 a0.c.D, .int .i64 a0.slot, .int .i64 a0.cap.Kind, .int .i64 a0.cap.Rights, .int .i64 a0.cap.Obj, .int .i64 a0.cap.Badge, .int .i64 a0.cap.Guard, .int .i64 a0.cap.Bits], V.rep s32, Box b1 [.int .i64 0, .int .i64 0, .int .i64 0], F]) (T := [tS 0 (bp bp0 0), tS 6 (.int .i64 t12), tE [(2, bp b1 0), (3, errV 98 none)], tR (Box bp0 [V.val, .int .i64 a0.t, .int .i64 a0.c.Op, .int .i64 a0.c.Cap, .int .i64 a0.c.A, .int .i64 a0.c.B, .int .i64 a0.c.C, .int .i64 a0.c.D, .int .i64 a0.slot, .int .i64 a0.cap.Kind, .int .i64 a0.cap.Rights, .int .i64 a0.cap.Obj, .int .i64 a0.cap.Badge, .int .i64 a0.cap.Guard, .int .i64 a0.cap.Bits]), tR (V.rep s15), tR (Box b1 [.int .i64 0, .int .i64 0, .int .i64 0]), tR (F), tS 153 (bp bp0 0), tS 154 (bp bp0 0), tS 155 (bp bp0 0), tS 156 (V.val), tS 157 (bp bp0 0), tS 158 (bp bp0 0), tS 159 (bp bp0 8), tS 160 (.int .i64 a0.slot), tS 161 (.int .i64 t12), tS 162 (bp bp0 0), tS 163 (bp bp0 0), tS 164 (bp bp0 2), tS 165 (bp bp0 5), tS 166 (.int .i64 a0.c.B), tS 167 (bp bp0 0), tS 168 (bp bp0 0), tS 169 (bp bp0 2), tS 170 (bp bp0 6), tS 171 (.int .i64 a0.c.C), tR (V.rep s32), tS 172 (errV 98 t30), tS 7 (errV 98 t30)]) (D := [⟨[0], [], [7]⟩, ⟨[7], [], [8]⟩, ⟨[8], [], [9]⟩, ⟨[9, 3], [], [10]⟩, ⟨[0], [], [11]⟩, ⟨[11], [], [12]⟩, ⟨[12], [], [13]⟩, ⟨[13, 3], [], [14]⟩, ⟨[1], [], [15]⟩, ⟨[0], [], [16]⟩, ⟨[16], [], [17]⟩, ⟨[17], [], [18]⟩, ⟨[18], [], [19]⟩, ⟨[19, 3], [], [20]⟩, ⟨[0], [], [21]⟩, ⟨[21], [], [22]⟩, ⟨[22], [], [23]⟩, ⟨[23], [], [24]⟩, ⟨[24, 3], [], [25]⟩, ⟨[10, 14, 15, 20, 25], [4], [26, 27]⟩, ⟨[27], [], [28]⟩]) (ini := [0, 1, 2, 3, 4, 5, 6]) (fin := [2, 28, 3, 26, 5, 6]) (bf := [[], [0], [0, 1], [0, 1, 2], [], [4], [4, 5], [4, 5, 6], [], [], [9], [9, 10], [9, 10, 11], [9, 10, 11, 12], [], [14], [14, 15], [14, 15, 16], [14, 15, 16, 17], [0, 1, 2, 3, 4, 5, 6, 7, 8, 9, 10, 11, 12, 13, 14, 15, 16, 17, 18], [0, 1, 2, 3, 4, 5, 6, 7, 8, 9, 10, 11, 12, 13, 14, 15, 16, 17, 18, 19]]) (by kernel_rfl) (by kernel_rfl) (fun Q => by kernel_rfl) (fun x w h1 h2 => ⟨(), (), (), (), (), (), (), EnvAll.of h1 ⟨rfl, rfl, rfl, rfl, trivial⟩, h2⟩) (fun Q => by kernel_rfl) ⟨?_, ?_, ?_, ?_, ?_, ?_, ?_, ?_, ?_, ?_, ?_, ?_, ?_, ?_, ?_, ?_, ?_, ?_, ?_, ?_, ?_, trivial⟩ ?_
  ·rintro Fr _
   exact mv rfl <| nz2 rfl () () rfl
  ·rintro Fr _
   exact nc rfl <| nz2 rfl () () rfl
  ·rintro Fr _
   exact fa Tryz.underlying72 rfl Tryz.sizeOf65 rfl rfl <| nz2 rfl () () rfl
  ·rintro Fr _ _
   exact ld Tryz.isAgg65 rfl rfl <| nz3 rfl () () () rfl
  ·rintro Fr _
   exact mv rfl <| nz2 rfl () () rfl
  ·rintro Fr _
   exact nc rfl <| nz2 rfl () () rfl
  ·rintro Fr _
   exact fa Tryz.underlying72 rfl Tryz.sizeOf3 rfl rfl <| nz2 rfl () () rfl
  ·rintro Fr _ _
   exact ld Tryz.isAgg3 rfl rfl <| nz3 rfl () () () rfl
  ·rintro Fr _
   exact mv rfl <| nz2 rfl () () rfl
  ·rintro Fr _
   exact mv rfl <| nz2 rfl () () rfl
  ·rintro Fr _
   exact nc rfl <| nz2 rfl () () rfl
  ·rintro Fr _
   exact fa Tryz.underlying72 rfl Tryz.sizeOf30 rfl rfl <| nz2 rfl () () rfl
  ·rintro Fr _
   exact fa Tryz.underlying30 rfl Tryz.sizeOf3 rfl rfl <| nz2 rfl () () rfl
  ·rintro Fr _ _
   exact ld Tryz.isAgg3 rfl rfl <| nz3 rfl () () () rfl
  ·rintro Fr _
   exact mv rfl <| nz2 rfl () () rfl
  ·rintro Fr _
   exact nc rfl <| nz2 rfl () () rfl
  ·rintro Fr _
   exact fa Tryz.underlying72 rfl Tryz.sizeOf30 rfl rfl <| nz2 rfl () () rfl
  ·rintro Fr _
   exact fa Tryz.underlying30 rfl Tryz.sizeOf3 rfl rfl <| nz2 rfl () () rfl
  ·rintro Fr _ _
   exact ld Tryz.isAgg3 rfl rfl <| nz3 rfl () () () rfl
  ·refine spec2 (X := fun Q => ∀ (_ _ _ _ _ _ : Unit), Q [(156, V.val), (160, .int .i64 a0.slot), (161, .int .i64 t12), (166, .int .i64 a0.c.B), (171, .int .i64 a0.c.C)] [V.rep s15]) (fun Q => by kernel_rfl) ?_
   rintro Fr _ _ _ _ _ _
   refine SO.call (pre := [V.rep _]) rfl Tryz.call71 rfl rfl rfl (derive_Mutate.ct V _ _ _ _ _ _ _ _ ht31) trivial ?_
   rintro _ _ ⟨rfl, rfl⟩
   exact SO.nilZ fun a w h1 h2 h3 h4 h5 => PZ.of2 (Y := fun Q => ∃ (_ _ _ _ _ _ _ : Unit), Q [(156, V.val), (160, .int .i64 a0.slot), (161, .int .i64 t12), (166, .int .i64 a0.c.B), (171, .int .i64 a0.c.C), (172, errV 98 t30)] [V.rep s32]) (fun Q => by kernel_rfl) h1 h3 h5 ⟨(), (), (), (), (), (), (), EnvAll.of h2 ⟨rfl, rfl, rfl, rfl, rfl, rfl, trivial⟩, h4⟩
  ·rintro Fr _
   exact ag rfl <| nz2 rfl () () rfl
  rintro _ _ _ _ _ _
  refine tt [(2, bp b1 0), (3, errV 98 none), (7, errV 98 t30)] rfl <| S.inBlock <| S.seq <| S.region <| vv (opv_build (v := .agg #[.int .i64 0, .int .i64 0, .int .i64 0]) rfl (by intro w; kernel_rfl)) <| mv rfl <| SO.b2 <| SO.storeN Tryz.sizeOf34 rfl rfl rfl rfl rfl rfl <| ag rfl <| SO.nil ?_
  obtain ⟨hq, rfl⟩ := VM.ret_some V.toVI h
  cases hq
  exact S.b3 <| S.b3 <| S.b3 <| S.b3 <| S.retC1 Tryz.func37 rfl rfl rfl Tryz.isAgg34 Tryz.sizeOf34 rfl rfl (fun w hs hk => hR w _ _ ⟨rfl, rfl⟩ hs.drop hk)
 replace h := VM.cond_f V.toVI b29 h
 refine S.condF rfl b29 <| S.seq <| S.seq <| S.region <| mv rfl <| nc rfl <| fa Tryz.underlying72 rfl Tryz.sizeOf45 rfl rfl <| SO.loadN rfl Tryz.isAgg45 Tryz.sizeOf45 rfl rfl rfl ?_
 obtain ⟨t33, ht34, h⟩ := VM.opt_some V.toVI h
 refine SO.call (pre := []) rfl Tryz.call59 rfl rfl rfl (invoke_is.ct _ _ _ _ ht34) trivial ?_
 rintro _ _ ⟨rfl, rfl⟩
 refine ag rfl <| SO.nil <| S.seq <| S.region <| mv rfl <| vv (opv_neqN (e := t33) Tryz.underlying74 rfl) <| SO.nil <| tt [(0, bp bp0 0), (2, bp b1 0), (3, errV 98 none), (6, .int .i64 t12), (7, errV 98 t33), (71, .bool t33.isSome)] rfl ?_
 rcases bool_or t33.isSome with b35 | b35
 ·replace h := VM.cond_t V.toVI b35 h
  refine S.condT rfl b35 <| S.seq <| S.region <| vv (opv_build (v := .agg #[.int .i64 0, .int .i64 0, .int .i64 0]) rfl (by intro w; kernel_rfl)) <| mv rfl <| SO.b2 <| SO.storeN Tryz.sizeOf34 rfl rfl rfl rfl rfl rfl <| ag rfl <| SO.nil ?_
  obtain ⟨hq, rfl⟩ := VM.ret_some V.toVI h
  cases hq
  exact S.b3 <| S.b3 <| S.b3 <| S.b3 <| S.retC1 Tryz.func37 rfl rfl rfl Tryz.isAgg34 Tryz.sizeOf34 rfl rfl (fun w hs hk => hR w _ _ ⟨rfl, rfl⟩ hs.drop hk)
 replace h := VM.cond_f V.toVI b35 h
 refine S.condF rfl b35 <| S.skip <| S.seq ?_
 obtain ⟨⟨t36, t37⟩, s39, ht38, h⟩ := VM.bind_some V.toVI h
 refine S.draw2 (Y := fun Q => ∃ (_ _ _ _ _ _ _ : Unit), Q [(0, bp bp0 0), (6, .int .i64 t12), (2, bp b1 0), (3, errV 98 none)] [Box bp0 [V.val, .int .i64 a0.t, .int .i64 a0.c.Op, .int .i64 a0.c.Cap, .int .i64 a0.c.A, .int .i64 a0.c.B, .int .i64 a0.c.C, .int .i64 a0.c.D, .int .i64 a0.slot, .int .i64 a0.cap.Kind, .int .i64 a0.cap.Rights, .int .i64 a0.cap.Obj, .int .i64 a0.cap.Badge, .int .i64 a0.cap.Guard, .int .i64 a0.cap.Bits], V.rep s15, Box b1 [.int .i64 0, .int .i64 0, .int .i64 0], F]) (Z := fun Q => ∀ (_ _ _ _ _ _ _ : Unit), Q [(2, bp b1 0), (3, errV 98 none), (8, .int .i64 t36), (9, errV 98 t37)] [Box bp0 [V.val, .int .i64 a0.t, .int .i64 a0.c.Op, .int .i64 a0.c.Cap, .int .i64 a0.c.A, .int .i64 a0.c.B, .int .i64 a0.c.C, .int .i64 a0.c.D, .int .i64 a0.slot, .int .i64 a0.cap.Kind, .int .i64 a0.cap.Rights, .int .i64 a0.cap.Obj, .int .i64 a0.cap.Badge, .int .i64 a0.cap.Guard, .int .i64 a0.cap.Bits], V.rep s39, Box b1 [.int .i64 0, .int .i64 0, .int .i64 0], F]) (T := [tS 0 (bp bp0 0), tS 6 (.int .i64 t12), tE [(2, bp b1 0), (3, errV 98 none)], tR (Box bp0 [V.val, .int .i64 a0.t, .int .i64 a0.c.Op, .int .i64 a0.c.Cap, .int .i64 a0.c.A, .int .i64 a0.c.B, .int .i64 a0.c.C, .int .i64 a0.c.D, .int .i64 a0.slot, .int .i64 a0.cap.Kind, .int .i64 a0.cap.Rights, .int .i64 a0.cap.Obj, .int .i64 a0.cap.Badge, .int .i64 a0.cap.Guard, .int .i64 a0.cap.Bits]), tR (V.rep s15), tR (Box b1 [.int .i64 0, .int .i64 0, .int .i64 0]), tR (F), tS 75 (bp bp0 0), tS 76 (bp bp0 0), tS 77 (bp bp0 0), tS 78 (V.val), tS 79 (bp bp0 0), tS 80 (bp bp0 0), tS 81 (bp bp0 8), tS 82 (.int .i64 a0.slot), tS 83 (.int .i64 t12), tS 84 (bp bp0 0), tS 85 (bp bp0 0), tS 86 (bp bp0 2), tS 87 (bp bp0 5), tS 88 (.int .i64 a0.c.B), tS 89 (bp bp0 0), tS 90 (bp bp0 0), tS 91 (bp bp0 2), tS 92 (bp bp0 6), tS 93 (.int .i64 a0.c.C), tR (V.rep s39), tS 94 (.tuple #[.int .i64 t36, errV 98 t37]), tS 74 (.tuple #[.int .i64 t36, errV 98 t37]), tS 95 (.int .i64 t36), tS 96 (errV 98 t37), tS 8 (.int .i64 t36), tS 9 (errV 98 t37)]) (D := [⟨[0], [], [7]⟩, ⟨[7], [], [8]⟩, ⟨[8], [], [9]⟩, ⟨[9, 3], [], [10]⟩, ⟨[0], [], [11]⟩, ⟨[11], [], [12]⟩, ⟨[12], [], [13]⟩, ⟨[13, 3], [], [14]⟩, ⟨[1], [], [15]⟩, ⟨[0], [], [16]⟩, ⟨[16], [], [17]⟩, ⟨[17], [], [18]⟩, ⟨[18], [], [19]⟩, ⟨[19, 3], [], [20]⟩, ⟨[0], [], [21]⟩, ⟨[21], [], [22]⟩, ⟨[22], [], [23]⟩, ⟨[23], [], [24]⟩, ⟨[24, 3], [], [25]⟩, ⟨[10, 14, 15, 20, 25], [4], [26, 27]⟩, ⟨[27], [], [28]⟩, ⟨[28], [], [29]⟩, ⟨[28], [], [30]⟩, ⟨[29], [], [31]⟩, ⟨[30], [], [32]⟩]) (ini := [0, 1, 2, 3, 4, 5, 6]) (fin := [2, 31, 32, 3, 26, 5, 6]) (bf := [[], [0], [0, 1], [0, 1, 2], [], [4], [4, 5], [4, 5, 6], [], [], [9], [9, 10], [9, 10, 11], [9, 10, 11, 12], [], [14], [14, 15], [14, 15, 16], [14, 15, 16, 17], [0, 1, 2, 3, 4, 5, 6, 7, 8, 9, 10, 11, 12, 13, 14, 15, 16, 17, 18], [0, 1, 2, 3, 4, 5, 6, 7, 8, 9, 10, 11, 12, 13, 14, 15, 16, 17, 18, 19], [0, 1, 2, 3, 4, 5, 6, 7, 8, 9, 10, 11, 12, 13, 14, 15, 16, 17, 18, 19, 20], [0, 1, 2, 3, 4, 5, 6, 7, 8, 9, 10, 11, 12, 13, 14, 15, 16, 17, 18, 19, 20], [0, 1, 2, 3, 4, 5, 6, 7, 8, 9, 10, 11, 12, 13, 14, 15, 16, 17, 18, 19, 20, 21], [0, 1, 2, 3, 4, 5, 6, 7, 8, 9, 10, 11, 12, 13, 14, 15, 16, 17, 18, 19, 20, 21, 22, 23]]) (by kernel_rfl) (by kernel_rfl) (fun Q => by kernel_rfl) (fun x w h1 h2 => ⟨(), (), (), (), (), (), (), EnvAll.of h1 ⟨rfl, rfl, rfl, rfl, trivial⟩, h2⟩) (fun Q => by kernel_rfl) ⟨?_, ?_, ?_, ?_, ?_, ?_, ?_, ?_, ?_, ?_, ?_, ?_, ?_, ?_, ?_, ?_, ?_, ?_, ?_, ?_, ?_, ?_, ?_, ?_, ?_, trivial⟩ ?_
 ·rintro Fr _
  exact mv rfl <| nz2 rfl () () rfl
 ·rintro Fr _
  exact nc rfl <| nz2 rfl () () rfl
 ·rintro Fr _
  exact fa Tryz.underlying72 rfl Tryz.sizeOf65 rfl rfl <| nz2 rfl () () rfl
 ·rintro Fr _ _
  exact ld Tryz.isAgg65 rfl rfl <| nz3 rfl () () () rfl
 ·rintro Fr _
  exact mv rfl <| nz2 rfl () () rfl
 ·rintro Fr _
  exact nc rfl <| nz2 rfl () () rfl
 ·rintro Fr _
  exact fa Tryz.underlying72 rfl Tryz.sizeOf3 rfl rfl <| nz2 rfl () () rfl
 ·rintro Fr _ _
  exact ld Tryz.isAgg3 rfl rfl <| nz3 rfl () () () rfl
 ·rintro Fr _
  exact mv rfl <| nz2 rfl () () rfl
 ·rintro Fr _
  exact mv rfl <| nz2 rfl () () rfl
 ·rintro Fr _
  exact nc rfl <| nz2 rfl () () rfl
 ·rintro Fr _
  exact fa Tryz.underlying72 rfl Tryz.sizeOf30 rfl rfl <| nz2 rfl () () rfl
 ·rintro Fr _
  exact fa Tryz.underlying30 rfl Tryz.sizeOf3 rfl rfl <| nz2 rfl () () rfl
 ·rintro Fr _ _
  exact ld Tryz.isAgg3 rfl rfl <| nz3 rfl () () () rfl
 ·rintro Fr _
  exact mv rfl <| nz2 rfl () () rfl
 ·rintro Fr _
  exact nc rfl <| nz2 rfl () () rfl
 ·rintro Fr _
  exact fa Tryz.underlying72 rfl Tryz.sizeOf30 rfl rfl <| nz2 rfl () () rfl
 ·rintro Fr _
  exact fa Tryz.underlying30 rfl Tryz.sizeOf3 rfl rfl <| nz2 rfl () () rfl
 ·rintro Fr _ _
  exact ld Tryz.isAgg3 rfl rfl <| nz3 rfl () () () rfl
 ·refine spec2 (X := fun Q => ∀ (_ _ _ _ _ _ : Unit), Q [(78, V.val), (82, .int .i64 a0.slot), (83, .int .i64 t12), (88, .int .i64 a0.c.B), (93, .int .i64 a0.c.C)] [V.rep s15]) (fun Q => by kernel_rfl) ?_
  rintro Fr _ _ _ _ _ _
  refine SO.call (pre := [V.rep _]) rfl Tryz.call72 rfl rfl rfl (untyped_Retype.ct V _ _ _ _ _ _ _ _ _ ht38) trivial ?_
  rintro _ _ ⟨rfl, rfl⟩
  exact SO.nilZ fun a w h1 h2 h3 h4 h5 => PZ.of2 (Y := fun Q => ∃ (_ _ _ _ _ _ _ : Unit), Q [(78, V.val), (82, .int .i64 a0.slot), (83, .int .i64 t12), (88, .int .i64 a0.c.B), (93, .int .i64 a0.c.C), (94, .tuple #[.int .i64 t36, errV 98 t37])] [V.rep s39]) (fun Q => by kernel_rfl) h1 h3 h5 ⟨(), (), (), (), (), (), (), EnvAll.of h2 ⟨rfl, rfl, rfl, rfl, rfl, rfl, trivial⟩, h4⟩
 ·rintro Fr _
  exact mv rfl <| nz2 rfl () () rfl
 ·rintro Fr _
  exact vv (opv_extract rfl rfl) <| nz2 rfl () () rfl
 ·rintro Fr _
  exact vv (opv_extract rfl rfl) <| nz2 rfl () () rfl
 ·rintro Fr _
  exact ag rfl <| nz2 rfl () () rfl
 ·rintro Fr _
  exact ag rfl <| nz2 rfl () () rfl
 rintro _ _ _ _ _ _ _
 refine tt [(2, bp b1 0), (3, errV 98 none), (8, .int .i64 t36), (9, errV 98 t37)] rfl <| S.seq <| S.region <| mv rfl <| vv (opv_build (v := .agg #[.int .i64 0, .int .i64 t36, .int .i64 0]) rfl (by intro w; kernel_rfl)) <| mv rfl <| SO.b2 <| SO.storeN Tryz.sizeOf34 rfl rfl rfl rfl rfl rfl <| ag rfl <| SO.nil ?_
 obtain ⟨hq, rfl⟩ := VM.ret_some V.toVI h
 cases hq
 exact S.b3 <| S.b3 <| S.b3 <| S.b3 <| S.retC1 Tryz.func37 rfl rfl rfl Tryz.isAgg34 Tryz.sizeOf34 rfl rfl (fun w hs hk => hR w _ _ ⟨rfl, rfl⟩ hs.drop hk)
def tcb_Prio.f (a1 : Int) (a2 : Int) : VM ((Option Int)) :=
  (lay_Is.f a1 5).bind fun t1 => bif !t1 then (VM.ret (some 2)) else (bif (decide (a2 < 0)) || (decide (255 < a2)) then (VM.ret (some 1)) else ((lay_Field.f a1 5).bind fun t7 => (lay_Put.f a1 5 (w64 ((w64 ((w64 (t7.tdiv 256)) * 256)) + a2))).bind fun _ => VM.ret none))
set_option maxHeartbeats 8000000 in
set_option maxRecDepth 100000 in
theorem tcb_Prio.ct (V : VW Tryz.prog) (a1 : Int) (a2 : Int) (r0 : Option Int) (s s' : V.S) (h : VM.run V.toVI (tcb_Prio.f a1 a2) s = some (r0, s')) :
    Ct Tryz.prog 75 [V.val, .int .i64 a1, .int .i64 a2] (fun _ => True) [V.rep s] (fun u H' => u = errV 98 r0 ∧ H' = [V.rep s']) := by
 unfold tcb_Prio.f at h
 refine Ct.intro (n := 31) Tryz.func75 rfl rfl rfl ?_
 intro R w0 F hF hR
 refine S.seq <| S.region <| ag rfl <| SO.nil <| S.seq <| S.block <| S.seq <| S.region <| mv rfl <| mv rfl ?_
 obtain ⟨t1, s3, ht2, h⟩ := VM.bind_some V.toVI h
 refine SO.call (pre := [V.rep _]) rfl Tryz.call29 rfl rfl rfl (lay_Is.ct V _ _ _ _ _ ht2) trivial ?_
 rintro _ _ ⟨rfl, rfl⟩
 refine vv (opv_not rfl) <| ag rfl <| SO.nil ?_
 rcases bool_or (!t1) with b4 | b4
 ·replace h := VM.cond_t V.toVI b4 h
  refine S.condT rfl b4 <| S.seq <| S.region <| vv (opv_iface Tryz.underlying98 rfl rfl) <| ag rfl <| SO.nil <| tt [(6, errV 98 (some 2))] rfl ?_
  obtain ⟨hq, rfl⟩ := VM.ret_some V.toVI h
  cases hq
  exact S.b1 <| S.b1 <| S.ret1 Tryz.func75 rfl rfl (hR · _ _ ⟨rfl, rfl⟩)
 replace h := VM.cond_f V.toVI b4 h
 refine S.condF rfl b4 <| S.seq <| S.region <| mv rfl <| vv (opv_lss rfl rfl) <| mv rfl ?_
 refine SO.cut 3 19 (.bool ((decide (a2 < 0)) || (decide (255 < a2)))) [V.rep s3, F] (fun l2 hk2 => ?_) ?_
 ·rcases bool_or (decide (a2 < 0)) with b5 | b5
  ·exact pf rfl rfl rfl b5 <| pf rfl rfl rfl b5 <| vv (opv_pick_t' b5 rfl rfl) <| SO.b1 <| SO.b1 <| hk2.fitc (m := 3) rfl (or_t b5) rfl
  exact SO.takeT rfl rfl rfl b5 <| mv rfl <| SO.takeT rfl rfl rfl b5 <| vv (opv_gtr rfl rfl) <| vv (opv_pick_f' b5 rfl rfl) <| SO.b1 <| SO.b1 <| hk2.fitc (m := 3) rfl (or_f b5) rfl
 refine ag rfl <| SO.nil <| tt [(0, V.val), (1, .int .i64 a1), (2, .int .i64 a2), (6, errV 98 none), (13, .bool ((decide (a2 < 0)) || (decide (255 < a2))))] rfl ?_
 rcases bool_or ((decide (a2 < 0)) || (decide (255 < a2))) with b6 | b6
 ·replace h := VM.cond_t V.toVI b6 h
  refine S.condT rfl b6 <| S.seq <| S.region <| vv (opv_iface Tryz.underlying98 rfl rfl) <| ag rfl <| SO.nil ?_
  obtain ⟨hq, rfl⟩ := VM.ret_some V.toVI h
  cases hq
  exact S.b1 <| S.b1 <| S.ret1 Tryz.func75 rfl rfl (hR · _ _ ⟨rfl, rfl⟩)
 replace h := VM.cond_f V.toVI b6 h
 refine S.condF rfl b6 <| S.skip <| S.inBlock <| S.seq <| S.region <| mv rfl <| mv rfl <| mv rfl <| mv rfl ?_
 obtain ⟨t7, s9, ht8, h⟩ := VM.bind_some V.toVI h
 refine SO.call (pre := [V.rep _]) rfl Tryz.call27 rfl rfl rfl (lay_Field.ct V _ _ _ _ _ ht8) trivial ?_
 rintro _ _ ⟨rfl, rfl⟩
 refine vv (opv_quo rfl rfl (by decide)) <| vv (opv_mul rfl rfl) <| mv rfl <| vv (opv_add rfl rfl) ?_
 obtain ⟨_, s11, ht10, h⟩ := VM.bind_some V.toVI h
 refine SO.call (pre := [V.rep _]) rfl Tryz.call55 rfl rfl rfl (lay_Put.ct V _ _ _ _ _ ht10) trivial ?_
 rintro _ _ ⟨rfl, rfl⟩
 refine SO.nil <| tt [(6, errV 98 none)] rfl <| S.seq <| S.region <| ag rfl <| SO.nil ?_
 obtain ⟨hq, rfl⟩ := VM.ret_some V.toVI h
 cases hq
 exact S.b1 <| S.b1 <| S.ret1 Tryz.func75 rfl rfl (hR · _ _ ⟨rfl, rfl⟩)
def tcb_Resume.f (a1 : Int) : VM ((Option Int)) :=
  (lay_Is.f a1 5).bind fun t1 => bif !t1 then (VM.ret (some 2)) else ((endp_State.f a1).bind fun t5 => bif t5 != 0 then (VM.ret (some 10)) else ((endp_Wake.f a1 0 0).bind fun _ => VM.ret none))
set_option maxHeartbeats 8000000 in
set_option maxRecDepth 100000 in
theorem tcb_Resume.ct (V : VW Tryz.prog) (a1 : Int) (r0 : Option Int) (s s' : V.S) (h : VM.run V.toVI (tcb_Resume.f a1) s = some (r0, s')) :
    Ct Tryz.prog 74 [V.val, .int .i64 a1] (fun _ => True) [V.rep s] (fun u H' => u = errV 98 r0 ∧ H' = [V.rep s']) := by
 unfold tcb_Resume.f at h
 refine Ct.intro (n := 20) Tryz.func74 rfl rfl rfl ?_
 intro R w0 F hF hR
 refine S.seq <| S.region <| ag rfl <| SO.nil <| S.seq <| S.block <| S.seq <| S.region <| mv rfl <| mv rfl ?_
 obtain ⟨t1, s3, ht2, h⟩ := VM.bind_some V.toVI h
 refine SO.call (pre := [V.rep _]) rfl Tryz.call29 rfl rfl rfl (lay_Is.ct V _ _ _ _ _ ht2) trivial ?_
 rintro _ _ ⟨rfl, rfl⟩
 refine vv (opv_not rfl) <| ag rfl <| SO.nil ?_
 rcases bool_or (!t1) with b4 | b4
 ·replace h := VM.cond_t V.toVI b4 h
  refine S.condT rfl b4 <| S.seq <| S.region <| vv (opv_iface Tryz.underlying98 rfl rfl) <| ag rfl <| SO.nil <| tt [(4, errV 98 (some 2))] rfl ?_
  obtain ⟨hq, rfl⟩ := VM.ret_some V.toVI h
  cases hq
  exact S.b1 <| S.b1 <| S.ret1 Tryz.func74 rfl rfl (hR · _ _ ⟨rfl, rfl⟩)
 replace h := VM.cond_f V.toVI b4 h
 refine S.condF rfl b4 <| S.seq <| S.region <| mv rfl <| mv rfl ?_
 obtain ⟨t5, s7, ht6, h⟩ := VM.bind_some V.toVI h
 refine SO.call (pre := [V.rep _]) rfl Tryz.call30 rfl rfl rfl (endp_State.ct V _ _ _ _ ht6) trivial ?_
 rintro _ _ ⟨rfl, rfl⟩
 refine vv (opv_neq rfl rfl) <| ag rfl <| SO.nil <| tt [(0, V.val), (1, .int .i64 a1), (4, errV 98 none), (11, .bool (t5 != 0))] rfl ?_
 rcases bool_or (t5 != 0) with b8 | b8
 ·replace h := VM.cond_t V.toVI b8 h
  refine S.condT rfl b8 <| S.seq <| S.region <| vv (opv_iface Tryz.underlying98 rfl rfl) <| ag rfl <| SO.nil ?_
  obtain ⟨hq, rfl⟩ := VM.ret_some V.toVI h
  cases hq
  exact S.b1 <| S.b1 <| S.ret1 Tryz.func74 rfl rfl (hR · _ _ ⟨rfl, rfl⟩)
 replace h := VM.cond_f V.toVI b8 h
 refine S.condF rfl b8 <| S.skip <| S.inBlock <| S.seq <| S.region <| mv rfl <| mv rfl ?_
 obtain ⟨_, s10, ht9, h⟩ := VM.bind_some V.toVI h
 refine SO.call (pre := [V.rep _]) rfl Tryz.call56 rfl rfl rfl (endp_Wake.ct V _ _ _ _ _ ht9) trivial ?_
 rintro _ _ ⟨rfl, rfl⟩
 refine SO.nil <| S.seq <| S.region <| ag rfl <| SO.nil ?_
 obtain ⟨hq, rfl⟩ := VM.ret_some V.toVI h
 cases hq
 exact S.b1 <| S.b1 <| S.ret1 Tryz.func74 rfl rfl (hR · _ _ ⟨rfl, rfl⟩)
def tcb_SetRoot.f (k : Nat) (a1 : Int) (a2 : api_Cap) : VM ((Option Int)) :=
  (VM.opt (pack_Put.f k a2)).bind fun (t2, t3) => (lay_Is.f a1 5).bind fun t5 => bif !t5 then (VM.ret (some 2)) else ((bif t3.isSome then (VM.ret true) else ((cspace_Fine.f a2).bind fun t12 => VM.ret (!t12))).bind fun c10 => bif c10 then (VM.ret (some 5)) else ((lay_Put.f a1 7 (w64 t2)).bind fun _ => VM.ret none))
set_option maxHeartbeats 8000000 in
set_option maxRecDepth 100000 in
theorem tcb_SetRoot.ct (V : VW Tryz.prog) (k : Nat) (a1 : Int) (a2 : api_Cap) (r0 : Option Int) (s s' : V.S) (h : VM.run V.toVI (tcb_SetRoot.f k a1 a2) s = some (r0, s')) :
    Ct Tryz.prog 77 [V.val, .int .i64 a1, .agg #[.int .i64 a2.Kind, .int .i64 a2.Rights, .int .i64 a2.Obj, .int .i64 a2.Badge, .int .i64 a2.Guard, .int .i64 a2.Bits]] (fun _ => True) [V.rep s] (fun u H' => u = errV 98 r0 ∧ H' = [V.rep s']) := by
 unfold tcb_SetRoot.f at h
 refine Ct.intro (n := 35) Tryz.func77 rfl rfl rfl ?_
 intro R w0 F hF hR
 refine S.seq <| S.region <| SO.box rfl rfl rfl fun b1 => ag rfl <| SO.nil <| S.seq <| S.region <| SO.loadN rfl Tryz.isAgg45 Tryz.sizeOf45 rfl rfl rfl ?_
 obtain ⟨⟨t2, t3⟩, ht4, h⟩ := VM.opt_some V.toVI h
 refine SO.call (pre := []) rfl Tryz.call140 rfl rfl rfl (pack_Put.ct _ _ _ _ ht4) trivial ?_
 rintro _ _ ⟨rfl, rfl⟩
 refine mv rfl <| vv (opv_extract rfl rfl) <| vv (opv_extract rfl rfl) <| ag rfl <| ag rfl <| SO.nil <| S.seq <| S.block <| S.seq <| S.region <| mv rfl <| mv rfl ?_
 obtain ⟨t5, s7, ht6, h⟩ := VM.bind_some V.toVI h
 refine SO.b1 <| SO.call (pre := [V.rep _]) rfl Tryz.call29 rfl rfl rfl (lay_Is.ct V _ _ _ _ _ ht6) trivial ?_
 rintro _ _ ⟨rfl, rfl⟩
 refine vv (opv_not rfl) <| ag rfl <| SO.nil <| tt [(0, V.val), (1, .int .i64 a1), (5, bp b1 0), (6, errV 98 none), (7, .int .u64 t2), (8, errV 98 t3), (14, .bool (!t5))] rfl ?_
 rcases bool_or (!t5) with b8 | b8
 ·replace h := VM.cond_t V.toVI b8 h
  refine S.condT rfl b8 <| S.seq <| S.region <| vv (opv_iface Tryz.underlying98 rfl rfl) <| ag rfl <| SO.nil <| tt [(6, errV 98 (some 2))] rfl ?_
  obtain ⟨hq, rfl⟩ := VM.ret_some V.toVI h
  cases hq
  exact S.b1 <| S.drop <| S.b1 <| S.b1 <| S.ret1 Tryz.func77 rfl rfl (hR · _ _ ⟨rfl, rfl⟩)
 replace h := VM.cond_f V.toVI b8 h
 refine S.condF rfl b8 <| S.seq <| S.region <| mv rfl <| vv (opv_neqN (e := t3) Tryz.underlying74 rfl) <| mv rfl ?_
 obtain ⟨c10, s15, hc11, hgk⟩ := VM.bind_some V.toVI h
 refine SO.cut 5 28 (.bool c10) [V.rep s15, Box b1 [.int .i64 a2.Kind, .int .i64 a2.Rights, .int .i64 a2.Obj, .int .i64 a2.Badge, .int .i64 a2.Guard, .int .i64 a2.Bits], F] (fun l2 hk2 => ?_) ?_
 ·clear hgk
  replace h := hc11
  rcases bool_or t3.isSome with b9 | b9
  ·replace h := VM.cond_t V.toVI b9 h
   refine pf rfl rfl rfl b9 <| pf rfl rfl rfl b9 <| pf rfl rfl rfl b9 <| pf rfl rfl rfl b9 ?_
   obtain ⟨hq, rfl⟩ := VM.ret_some V.toVI h
   cases hq
   exact vv (opv_pick_t' b9 rfl rfl) <| SO.b2 <| SO.b2 <| SO.b2 <| hk2.fitc (m := 5) rfl (rfl) rfl
  replace h := VM.cond_f V.toVI b9 h
  refine SO.takeT rfl rfl rfl b9 <| mv rfl <| SO.takeT rfl rfl rfl b9 <| SO.b1 <| SO.loadN rfl Tryz.isAgg45 Tryz.sizeOf45 rfl rfl rfl <| SO.takeT rfl rfl rfl b9 ?_
  obtain ⟨t12, s14, ht13, h⟩ := VM.bind_some V.toVI h
  refine SO.b1 <| SO.call (pre := [V.rep _]) rfl Tryz.call116 rfl rfl rfl (cspace_Fine.ct V _ _ _ _ ht13) trivial ?_
  rintro _ _ ⟨rfl, rfl⟩
  refine SO.takeT rfl rfl rfl b9 <| vv (opv_not rfl) ?_
  obtain ⟨hq, rfl⟩ := VM.ret_some V.toVI h
  cases hq
  exact vv (opv_pick_f' b9 rfl rfl) <| SO.b2 <| SO.b2 <| SO.b2 <| hk2.fitc (m := 5) rfl (rfl) rfl
 clear hc11
 replace h := hgk
 refine ag rfl <| SO.nil <| tt [(0, V.val), (1, .int .i64 a1), (6, errV 98 none), (7, .int .u64 t2), (20, .bool c10)] rfl ?_
 rcases bool_or c10 with b16 | b16
 ·replace h := VM.cond_t V.toVI b16 h
  refine S.condT rfl b16 <| S.seq <| S.region <| vv (opv_iface Tryz.underlying98 rfl rfl) <| ag rfl <| SO.nil ?_
  obtain ⟨hq, rfl⟩ := VM.ret_some V.toVI h
  cases hq
  exact S.b1 <| S.drop <| S.b1 <| S.b1 <| S.ret1 Tryz.func77 rfl rfl (hR · _ _ ⟨rfl, rfl⟩)
 replace h := VM.cond_f V.toVI b16 h
 refine S.condF rfl b16 <| S.skip <| S.inBlock <| S.seq <| S.region <| mv rfl <| mv rfl <| mv rfl <| vv (opv_conv Tryz.underlying55 Tryz.underlying3 rfl) ?_
 obtain ⟨_, s18, ht17, h⟩ := VM.bind_some V.toVI h
 refine SO.call (pre := [V.rep _]) rfl Tryz.call55 rfl rfl rfl (lay_Put.ct V _ _ _ _ _ ht17) trivial ?_
 rintro _ _ ⟨rfl, rfl⟩
 refine SO.nil <| tt [(6, errV 98 none)] rfl <| S.seq <| S.region <| ag rfl <| SO.nil ?_
 obtain ⟨hq, rfl⟩ := VM.ret_some V.toVI h
 cases hq
 exact S.b1 <| S.drop <| S.b1 <| S.b1 <| S.ret1 Tryz.func77 rfl rfl (hR · _ _ ⟨rfl, rfl⟩)
def endp_On.f (a1 : Int) : VM ((Int × Bool)) :=
  (lay_Field.f a1 5).bind fun t1 => bif (decide ((w64 (t1.tdiv 256)) < 1)) || (decide (32 < (w64 (t1.tdiv 256)))) then (VM.ret (0, false)) else (VM.ret (w64 ((w64 (t1.tdiv 256)) - 1), true))
set_option maxHeartbeats 8000000 in
set_option maxRecDepth 100000 in
theorem endp_On.ct (V : VW Tryz.prog) (a1 : Int) (r0 : Int) (r1 : Bool) (s s' : V.S) (h : VM.run V.toVI (endp_On.f a1) s = some ((r0, r1), s')) :
    Ct Tryz.prog 187 [V.val, .int .i64 a1] (fun _ => True) [V.rep s] (fun u H' => u = .tuple #[.int .i64 r0, .bool r1] ∧ H' = [V.rep s']) := by
 unfold endp_On.f at h
 refine Ct.intro (n := 19) Tryz.func187 rfl rfl rfl ?_
 intro R w0 F hF hR
 refine S.seq <| S.region <| ag rfl <| ag rfl <| SO.nil <| S.seq <| S.region <| mv rfl <| mv rfl ?_
 obtain ⟨t1, s3, ht2, h⟩ := VM.bind_some V.toVI h
 refine SO.call (pre := [V.rep _]) rfl Tryz.call27 rfl rfl rfl (lay_Field.ct V _ _ _ _ _ ht2) trivial ?_
 rintro _ _ ⟨rfl, rfl⟩
 refine vv (opv_quo rfl rfl (by decide)) <| ag rfl <| SO.nil <| S.seq <| S.seq <| S.region <| mv rfl <| vv (opv_lss rfl rfl) <| mv rfl ?_
 refine SO.cut 3 16 (.bool ((decide ((w64 (t1.tdiv 256)) < 1)) || (decide (32 < (w64 (t1.tdiv 256)))))) [V.rep s3, F] (fun l2 hk2 => ?_) ?_
 ·rcases bool_or (decide ((w64 (t1.tdiv 256)) < 1)) with b4 | b4
  ·exact pf rfl rfl rfl b4 <| pf rfl rfl rfl b4 <| vv (opv_pick_t' b4 rfl rfl) <| SO.b1 <| SO.b1 <| hk2.fitc (m := 3) rfl (or_t b4) rfl
  exact SO.takeT rfl rfl rfl b4 <| mv rfl <| SO.takeT rfl rfl rfl b4 <| vv (opv_gtr rfl rfl) <| vv (opv_pick_f' b4 rfl rfl) <| SO.b1 <| SO.b1 <| hk2.fitc (m := 3) rfl (or_f b4) rfl
 refine SO.nil <| tt [(4, .int .i64 0), (5, .bool false), (6, .int .i64 (w64 (t1.tdiv 256))), (16, .bool ((decide ((w64 (t1.tdiv 256)) < 1)) || (decide (32 < (w64 (t1.tdiv 256))))))] rfl ?_
 rcases bool_or ((decide ((w64 (t1.tdiv 256)) < 1)) || (decide (32 < (w64 (t1.tdiv 256))))) with b5 | b5
 ·replace h := VM.cond_t V.toVI b5 h
  refine S.condT rfl b5 <| S.seq <| S.region <| ag rfl <| ag rfl <| SO.nil ?_
  obtain ⟨hq, rfl⟩ := VM.ret_some V.toVI h
  cases hq
  exact S.b1 <| S.b1 <| S.ret2 Tryz.func187 rfl rfl rfl (hR · _ _ ⟨rfl, rfl⟩)
 replace h := VM.cond_f V.toVI b5 h
 refine S.condF rfl b5 <| S.skip <| S.seq <| S.region <| mv rfl <| vv (opv_sub rfl rfl) <| ag rfl <| ag rfl <| SO.nil ?_
 obtain ⟨hq, rfl⟩ := VM.ret_some V.toVI h
 cases hq
 exact S.b1 <| S.b1 <| S.ret2 Tryz.func187 rfl rfl rfl (hR · _ _ ⟨rfl, rfl⟩)
def queue_put.l1 (a2 : List Int) : Nat → Int → VM (Unit)
  | 0, _ => VM.fail
  | k + 1, x13_1 => bif decide (x13_1 < (a2.length : Int)) then ((VM.opt (at_ a2 x13_1)).bind fun x2 => bif decide ((w64 (x13_1 + 1)) < (a2.length : Int)) then ((VM.opt (at_ a2 (w64 (x13_1 + 1)))).bind fun x5 => (lay_Put.f x2 2 (w64 (x5 + 1))).bind fun _ => queue_put.l1 a2 k (w64 (x13_1 + 1))) else ((lay_Put.f x2 2 0).bind fun _ => queue_put.l1 a2 k (w64 (x13_1 + 1)))) else (VM.ret ())
def queue_put.f (k : Nat) (a1 : Int) (a2 : List Int) : VM (Unit) :=
  (queue_put.l1 a2 k 0).bind fun _ => bif decide (0 < (a2.length : Int)) then ((VM.opt (at_ a2 0)).bind fun x12 => (VM.opt (at_ a2 (w64 ((a2.length : Int) - 1)))).bind fun x14 => (lay_Put.f a1 2 (w64 (x12 + 1))).bind fun _ => (lay_Put.f a1 3 (w64 (x14 + 1))).bind fun _ => VM.ret ()) else ((lay_Put.f a1 2 0).bind fun _ => (lay_Put.f a1 3 0).bind fun _ => VM.ret ())
set_option maxHeartbeats 8000000 in
set_option maxRecDepth 100000 in
theorem queue_put.ct (V : VW Tryz.prog) (k : Nat) (v2 : Value) (a1 : Int) (a2 : List Int) (s s' : V.S) (h : VM.run V.toVI (queue_put.f k a1 a2) s = some ((), s')) :
    Ct Tryz.prog 205 [V.val, .int .i64 a1, v2] (fun F => Rd (ekI .i64) v2 a2 F) [V.rep s] (fun u H' => u = .tuple #[] ∧ H' = [V.rep s']) := by
 unfold queue_put.f at h
 refine Ct.intro (n := 56) Tryz.func205 rfl rfl rfl ?_
 intro R w0 F hF hR
 have hF2 := hF
 refine S.seq <| S.region <| ag rfl <| ag rfl <| SO.nil <| S.seq <| S.seq <| S.region <| mv rfl <| vv (opv_lenR rfl Tryz.underlying43 hF2 rfl) <| mv rfl <| SO.nil ?_
 obtain ⟨_, so_1, hlp1, h⟩ := VM.bind_some V.toVI h
 refine S.b1 <| S.b1 <| tt [(13, .int .i64 0), (12, .int .i64 (a2.length : Int)), (11, v2), (7, .int .i64 0), (6, .int .i64 0), (0, V.val), (1, .int .i64 a1), (2, v2)] rfl ?_
 refine S.forloop (X := (Int × V.S) × Unit) (O := (Unit) × V.S) (fun m x => VM.run V.toVI (queue_put.l1 a2 m x.1.1) x.1.2) (fun x => match x with | ((x13_1, sx_1), _) => [(13, .int .i64 x13_1), (12, .int .i64 (a2.length : Int)), (11, v2), (7, .int .i64 0), (6, .int .i64 0), (0, V.val), (1, .int .i64 a1), (2, v2)]) (fun x => match x with | ((x13_1, sx_1), _) => [V.rep sx_1, F]) (fun Sk oo => match oo with | (_, so_1) => ∀ _ : Unit, Sk [(0, V.val), (1, .int .i64 a1), (2, v2), (6, .int .i64 0), (7, .int .i64 0)] [V.rep so_1, F]) (fun _ => rfl) ?_ (m := k) (x := ((0, s), ())) hlp1 ?_
 ·clear h hlp1
  intro k x o_1 h hK1 ih1
  obtain ⟨⟨x13_1, sx_1⟩, _⟩ := x
  obtain ⟨o_1, so_1_⟩ := o_1
  replace h : VM.run V.toVI (queue_put.l1 a2 (k + 1) x13_1) sx_1 = some (o_1, so_1_) := h
  first | rw [queue_put.l1] at h | unfold queue_put.l1 at h
  refine S.seq <| S.region <| vv (opv_lss rfl rfl) <| SO.nil <| S.seq ?_
  rcases bool_or (decide (x13_1 < (a2.length : Int))) with b1 | b1
  ·replace h := VM.cond_t V.toVI b1 h
   refine S.condT rfl b1 <| S.skip <| S.seq <| S.block <| S.seq <| S.region <| mv rfl ?_
   obtain ⟨x2, hx3, h⟩ := VM.opt_some V.toVI h
   refine vv (opv_idx Tryz.underlying43 Tryz.sizeOf3 hF2 rfl rfl hx3) <| SO.loadI1 (j := 0) rfl Tryz.isAgg3 (Rd.tail (Rd.head hF2)) hx3 rfl rfl rfl rfl <| ag rfl <| ag rfl <| SO.nil <| S.seq <| S.region <| ag rfl <| SO.nil <| S.seq <| S.seq <| S.region <| mv rfl <| vv (opv_add rfl rfl) <| mv rfl <| vv (opv_lenR rfl Tryz.underlying43 hF2 rfl) <| vv (opv_lss rfl rfl) <| SO.nil <| tt [(13, .int .i64 x13_1), (12, .int .i64 (a2.length : Int)), (11, v2), (7, .int .i64 0), (6, .int .i64 0), (0, V.val), (1, .int .i64 a1), (2, v2), (8, .int .i64 x13_1), (9, .int .i64 x2), (10, .int .i64 0), (22, .bool (decide ((w64 (x13_1 + 1)) < (a2.length : Int))))] rfl ?_
   rcases bool_or (decide ((w64 (x13_1 + 1)) < (a2.length : Int))) with b4 | b4
   ·replace h := VM.cond_t V.toVI b4 h
    refine S.condT rfl b4 <| S.region <| mv rfl <| mv rfl <| vv (opv_add rfl rfl) ?_
    obtain ⟨x5, hx6, h⟩ := VM.opt_some V.toVI h
    refine vv (opv_idx Tryz.underlying43 Tryz.sizeOf3 hF2 rfl rfl hx6) <| SO.loadI1 (j := 0) rfl Tryz.isAgg3 (Rd.tail (Rd.head hF2)) hx6 rfl rfl rfl rfl <| vv (opv_add rfl rfl) <| ag rfl <| SO.nil <| tt [(13, .int .i64 x13_1), (12, .int .i64 (a2.length : Int)), (11, v2), (7, .int .i64 0), (6, .int .i64 0), (0, V.val), (1, .int .i64 a1), (2, v2), (9, .int .i64 x2), (10, .int .i64 (w64 (x5 + 1)))] rfl <| S.region <| mv rfl <| mv rfl <| mv rfl ?_
    obtain ⟨_, s8, ht7, h⟩ := VM.bind_some V.toVI h
    refine SO.call (pre := [V.rep _]) rfl Tryz.call55 rfl rfl rfl (lay_Put.ct V _ _ _ _ _ ht7) trivial ?_
    rintro _ _ ⟨rfl, rfl⟩
    refine SO.nil <| S.inBlock <| S.region <| vv (opv_add rfl rfl) <| mv rfl <| SO.nil <| tt [(13, .int .i64 (w64 (x13_1 + 1))), (12, .int .i64 (a2.length : Int)), (11, v2), (7, .int .i64 0), (6, .int .i64 0), (0, V.val), (1, .int .i64 a1), (2, v2)] rfl <| S.b1 <| S.b1 ?_
    refine S.to ?_ (ih1 ((w64 (x13_1 + 1), s8), ()) h)
    exact ⟨rfl, rfl, rfl, rfl, rfl, rfl, rfl, rfl, trivial⟩
   replace h := VM.cond_f V.toVI b4 h
   refine S.condF rfl b4 <| S.skip <| S.region <| mv rfl <| mv rfl <| mv rfl ?_
   obtain ⟨_, s10, ht9, h⟩ := VM.bind_some V.toVI h
   refine SO.call (pre := [V.rep _]) rfl Tryz.call55 rfl rfl rfl (lay_Put.ct V _ _ _ _ _ ht9) trivial ?_
   rintro _ _ ⟨rfl, rfl⟩
   refine SO.nil <| tt [(13, .int .i64 x13_1), (12, .int .i64 (a2.length : Int)), (11, v2), (7, .int .i64 0), (6, .int .i64 0), (0, V.val), (1, .int .i64 a1), (2, v2)] rfl <| S.inBlock <| S.region <| vv (opv_add rfl rfl) <| mv rfl <| SO.nil <| S.b1 <| S.b1 ?_
   refine S.to ?_ (ih1 ((w64 (x13_1 + 1), s10), ()) h)
   exact ⟨rfl, rfl, rfl, rfl, rfl, rfl, rfl, rfl, trivial⟩
  replace h := VM.cond_f V.toVI b1 h
  refine S.condF rfl b1 <| S.exit rfl ?_
  obtain ⟨hq, rfl⟩ := VM.ret_some V.toVI h
  cases hq
  refine S.b1 <| S.b1 ?_
  refine S.to ?_ (hK1 ())
  exact ⟨rfl, rfl, rfl, rfl, rfl, trivial⟩
 rintro _
 refine S.seq <| S.seq <| S.region <| mv rfl <| vv (opv_lenR rfl Tryz.underlying43 hF2 rfl) <| vv (opv_gtr rfl rfl) <| SO.nil ?_
 rcases bool_or (decide (0 < (a2.length : Int))) with b11 | b11
 ·replace h := VM.cond_t V.toVI b11 h
  refine S.condT rfl b11 ?_
  obtain ⟨x12, hx13, h⟩ := VM.opt_some V.toVI h
  obtain ⟨x14, hx15, h⟩ := VM.opt_some V.toVI h
  refine S.draw2 (Y := fun Q => ∃ (_ _ _ _ : Unit), Q [(2, v2), (0, V.val), (1, .int .i64 a1)] [V.rep so_1, F]) (Z := fun Q => ∀ (_ _ _ _ _ : Unit), Q [(0, V.val), (1, .int .i64 a1), (6, .int .i64 (w64 (x12 + 1))), (7, .int .i64 (w64 (x14 + 1)))] [V.rep so_1, F]) (T := [tS 2 (v2), tE [(0, V.val), (1, .int .i64 a1)], tR (V.rep so_1), tR (F), tS 37 (v2), tS 38 (idxp v2 ((0 : Int).toNat * (ekI .i64).sz)), tS 39 (.int .i64 x12), tS 40 (.int .i64 (w64 (x12 + 1))), tS 41 (v2), tS 42 (v2), tS 43 (.int .i64 (a2.length : Int)), tS 44 (.int .i64 (w64 ((a2.length : Int) - 1))), tS 45 (idxp v2 ((w64 ((a2.length : Int) - 1)).toNat * (ekI .i64).sz)), tS 46 (.int .i64 x14), tS 47 (.int .i64 (w64 (x14 + 1))), tS 6 (.int .i64 (w64 (x12 + 1))), tS 7 (.int .i64 (w64 (x14 + 1)))]) (D := [⟨[0], [], [4]⟩, ⟨[4, 3], [], [5]⟩, ⟨[5, 3], [], [6]⟩, ⟨[6], [], [7]⟩, ⟨[0], [], [8]⟩, ⟨[0], [], [9]⟩, ⟨[9, 3], [], [10]⟩, ⟨[10], [], [11]⟩, ⟨[8, 11, 3], [], [12]⟩, ⟨[12, 3], [], [13]⟩, ⟨[13], [], [14]⟩, ⟨[7], [], [15]⟩, ⟨[14], [], [16]⟩]) (ini := [0, 1, 2, 3]) (fin := [1, 15, 16, 2, 3]) (bf := [[], [0], [0, 1], [0, 1, 2], [], [], [5], [5, 6], [4, 5, 6, 7], [4, 5, 6, 7, 8], [4, 5, 6, 7, 8, 9], [0, 1, 2, 3], [0, 1, 2, 3, 4, 5, 6, 7, 8, 9, 10, 11]]) (by kernel_rfl) (by kernel_rfl) (fun Q => by kernel_rfl) (fun x w h1 h2 => ⟨(), (), (), (), EnvAll.of h1 ⟨rfl, rfl, rfl, trivial⟩, h2⟩) (fun Q => by kernel_rfl) ⟨?_, ?_, ?_, ?_, ?_, ?_, ?_, ?_, ?_, ?_, ?_, ?_, ?_, trivial⟩ ?_
  ·rintro Fr _
   exact mv rfl <| nz2 rfl () () rfl
  ·rintro Fr _ _
   exact vv (opv_idx Tryz.underlying43 Tryz.sizeOf3 hF2 rfl rfl hx13) <| nz3 rfl () () () rfl
  ·rintro Fr _ _
   exact SO.loadI1 (j := 0) rfl Tryz.isAgg3 (Rd.head hF2) hx13 rfl rfl rfl rfl <| nz3 rfl () () () rfl
  ·rintro Fr _
   exact vv (opv_add rfl rfl) <| nz2 rfl () () rfl
  ·rintro Fr _
   exact mv rfl <| nz2 rfl () () rfl
  ·rintro Fr _
   exact mv rfl <| nz2 rfl () () rfl
  ·rintro Fr _ _
   exact vv (opv_lenR rfl Tryz.underlying43 hF2 rfl) <| nz3 rfl () () () rfl
  ·rintro Fr _
   exact vv (opv_sub rfl rfl) <| nz2 rfl () () rfl
  ·rintro Fr _ _ _
   exact vv (opv_idx Tryz.underlying43 Tryz.sizeOf3 hF2 rfl rfl hx15) <| nz4 rfl () () () () rfl
  ·rintro Fr _ _
   exact SO.loadI1 (j := 0) rfl Tryz.isAgg3 (Rd.head hF2) hx15 rfl rfl rfl rfl <| nz3 rfl () () () rfl
  ·rintro Fr _
   exact vv (opv_add rfl rfl) <| nz2 rfl () () rfl
  ·rintro Fr _
   exact ag rfl <| nz2 rfl () () rfl
  ·rintro Fr _
   exact ag rfl <| nz2 rfl () () rfl
  rintro _ _ _ _ _
  refine tt [(0, V.val), (1, .int .i64 a1), (6, .int .i64 (w64 (x12 + 1))), (7, .int .i64 (w64 (x14 + 1)))] rfl <| S.seq <| S.region <| mv rfl <| mv rfl <| mv rfl ?_
  obtain ⟨_, s17, ht16, h⟩ := VM.bind_some V.toVI h
  refine SO.call (pre := [V.rep _]) rfl Tryz.call55 rfl rfl rfl (lay_Put.ct V _ _ _ _ _ ht16) trivial ?_
  rintro _ _ ⟨rfl, rfl⟩
  refine SO.nil <| S.region <| mv rfl <| mv rfl <| mv rfl ?_
  obtain ⟨_, s19, ht18, h⟩ := VM.bind_some V.toVI h
  refine SO.call (pre := [V.rep _]) rfl Tryz.call55 rfl rfl rfl (lay_Put.ct V _ _ _ _ _ ht18) trivial ?_
  rintro _ _ ⟨rfl, rfl⟩
  refine SO.nil <| S.to (ρ' := []) trivial ?_
  obtain ⟨hq, rfl⟩ := VM.ret_some V.toVI h
  cases hq
  exact S.b1 <| S.b1 <| S.fin0 Tryz.func205 rfl (hR · _ _ ⟨rfl, rfl⟩)
 replace h := VM.cond_f V.toVI b11 h
 refine S.condF rfl b11 <| S.skip <| S.seq <| S.region <| mv rfl <| mv rfl <| mv rfl ?_
 obtain ⟨_, s21, ht20, h⟩ := VM.bind_some V.toVI h
 refine SO.call (pre := [V.rep _]) rfl Tryz.call55 rfl rfl rfl (lay_Put.ct V _ _ _ _ _ ht20) trivial ?_
 rintro _ _ ⟨rfl, rfl⟩
 refine SO.nil <| tt [(0, V.val), (1, .int .i64 a1), (7, .int .i64 0)] rfl <| S.region <| mv rfl <| mv rfl <| mv rfl ?_
 obtain ⟨_, s23, ht22, h⟩ := VM.bind_some V.toVI h
 refine SO.call (pre := [V.rep _]) rfl Tryz.call55 rfl rfl rfl (lay_Put.ct V _ _ _ _ _ ht22) trivial ?_
 rintro _ _ ⟨rfl, rfl⟩
 refine SO.nil <| S.to (ρ' := []) trivial ?_
 obtain ⟨hq, rfl⟩ := VM.ret_some V.toVI h
 cases hq
 exact S.b1 <| S.b1 <| S.fin0 Tryz.func205 rfl (hR · _ _ ⟨rfl, rfl⟩)
def slices_Delete_int_int.f (a0 : List Int) (a1 : Int) (a2 : Int) : Option ((List Int)) :=
  (chk (delOk a0 a1 a2)).bind fun _ => bif a1 == a2 then (some a0) else (some (((delz a0 a1 a2).take (delN a0 a1 a2) ++ List.replicate ((delz a0 a1 a2).length - (delN a0 a1 a2)) 0).take (delN a0 a1 a2)))
set_option maxHeartbeats 8000000 in
set_option maxRecDepth 100000 in
theorem slices_Delete_int_int.ct (v0 : Value) (a0 : List Int) (a1 : Int) (a2 : Int) (r0 : List Int) (h : slices_Delete_int_int.f a0 a1 a2 = some r0) :
    Ct Tryz.prog 206 [v0, .int .i64 a1, .int .i64 a2] (fun _ => True) [Own 3 (ekI .i64) v0 a0] (fun u H' => ∃ v_r0, u = v_r0 ∧ H' = [Own 3 (ekI .i64) v_r0 r0]) := by
 unfold slices_Delete_int_int.f at h
 refine Ct.intro (n := 33) Tryz.func206 rfl rfl rfl ?_
 intro R w0 F hF hR
 refine S.rd fun hr1 => S.seq <| S.region <| ag rfl <| SO.nil <| S.seq <| S.region <| mv rfl <| mv rfl <| mv rfl <| mv rfl <| vv (opv_lenR rfl Tryz.underlying43 hr1 rfl) ?_
 obtain ⟨_, hc2, h⟩ := opt_bind h
 refine vv (opv_slc3 Tryz.underlying43 Tryz.sizeOf3 hr1 (chk_some hc2) rfl rfl rfl rfl) <| SO.nil <| S.seq <| S.seq <| S.region <| mv rfl <| mv rfl <| vv (opv_eql rfl rfl) <| SO.nil <| tt [(0, v0), (1, .int .i64 a1), (2, .int .i64 a2), (6, .slice none 0 0), (16, .bool (a1 == a2))] rfl ?_
 rcases bool_or (a1 == a2) with b3 | b3
 ·replace h := cond_t b3 h
  refine S.condT rfl b3 <| S.seq <| S.region <| mv rfl <| ag rfl <| SO.nil ?_
  cases h
  exact S.b1 <| S.b1 <| S.ret1 Tryz.func206 rfl rfl (hR · _ _ ⟨v0, rfl, rfl⟩)
 replace h := cond_f b3 h
 refine S.condF rfl b3 <| S.skip <| S.seq <| S.region <| mv rfl <| vv (opv_lenR rfl Tryz.underlying43 hr1 rfl) <| ag rfl <| SO.nil <| S.seq ?_
 refine S.draw2 (Y := fun Q => ∃ (_ _ _ _ _ _ : Unit), Q [(0, v0), (1, .int .i64 a1), (2, .int .i64 a2), (7, .int .i64 (a0.length : Int)), (6, .slice none 0 0)] [Own 3 (ekI .i64) v0 a0, F]) (Z := fun Q => ∀ (_ _ _ _ : Unit), Q [(0, slcHi v0 (delN a0 a1 a2)), (7, .int .i64 (a0.length : Int)), (6, .slice none 0 0)] [Own 3 (ekI .i64) v0 (delz a0 a1 a2), F]) (T := [tS 0 (v0), tS 1 (.int .i64 a1), tS 2 (.int .i64 a2), tE [(7, .int .i64 (a0.length : Int)), (6, .slice none 0 0)], tR (Own 3 (ekI .i64) v0 a0), tR (F), tS 20 (v0), tS 21 (.int .i64 a1), tS 22 (slcHi v0 a1.toNat), tS 23 (v0), tS 24 (.int .i64 a2), tS 25 (slcV v0 a2.toNat (ekI .i64).sz), tR (Own 3 (ekI .i64) v0 (delz a0 a1 a2)), tS 26 (slcHi v0 (delN a0 a1 a2)), tS 0 (slcHi v0 (delN a0 a1 a2))]) (D := [⟨[0], [], [6]⟩, ⟨[1], [], [7]⟩, ⟨[6, 7, 4], [], [8]⟩, ⟨[0], [], [9]⟩, ⟨[2], [], [10]⟩, ⟨[9, 10, 4], [], [11]⟩, ⟨[8, 11], [4], [12, 13]⟩, ⟨[13], [0], [14]⟩]) (ini := [0, 1, 2, 3, 4, 5]) (fin := [14, 3, 12, 5]) (bf := [[], [], [0, 1], [], [], [3, 4], [0, 1, 2, 3, 4, 5], [0, 1, 2, 3, 4, 5, 6]]) (by kernel_rfl) (by kernel_rfl) (fun Q => by kernel_rfl) (fun x w h1 h2 => ⟨(), (), (), (), (), (), EnvAll.of h1 ⟨rfl, rfl, rfl, rfl, rfl, trivial⟩, h2⟩) (fun Q => by kernel_rfl) ⟨?_, ?_, ?_, ?_, ?_, ?_, ?_, ?_, trivial⟩ ?_
 ·rintro Fr _
  exact mv rfl <| nz2 rfl () () rfl
 ·rintro Fr _
  exact mv rfl <| nz2 rfl () () rfl
 ·rintro Fr _ _ _
  exact vv (opv_slcHi Tryz.underlying43 Tryz.sizeOf3 hr1 (chk_some hc2) rfl rfl) <| nz4 rfl () () () () rfl
 ·rintro Fr _
  exact mv rfl <| nz2 rfl () () rfl
 ·rintro Fr _
  exact mv rfl <| nz2 rfl () () rfl
 ·rintro Fr _ _ _
  exact vv (opv_slcLo Tryz.underlying43 Tryz.sizeOf3 hr1 (slcF_of (chk_some hc2)) rfl rfl) <| nz4 rfl () () () () rfl
 ·rintro Fr _ _ _
  exact SO.appendDel rfl Tryz.underlying43 inf3 rfl (chk_some hc2) (lt_of_del (chk_some hc2) (by assumption)) rfl rfl <| SO.rd fun hr4 => nz4 rfl () () () () rfl
 ·rintro Fr _ _
  exact ag rfl <| nz2 rfl () () rfl
 rintro _ _ _ _
 refine tt [(0, slcHi v0 (delN a0 a1 a2)), (7, .int .i64 (a0.length : Int)), (6, .slice none 0 0)] rfl <| S.rd fun hr5 => S.seq <| S.region <| mv rfl <| mv rfl <| vv (opv_lenHi rfl Tryz.underlying43 hr5 rfl) <| mv rfl <| vv (opv_slcT (L := a0.length) Tryz.underlying43 Tryz.sizeOf3 hr5 (len_delz (chk_some hc2)) (by simp [len_delz (chk_some hc2), delN]) rfl rfl rfl) <| SO.clearT (zx := 0) Tryz.underlying43 Tryz.zeroValue3 rfl (by rw [len_delz (chk_some hc2)]; exact delN_lt (chk_some hc2) (lt_of_del (chk_some hc2) (by assumption))) rfl <| SO.rd fun hr6 => SO.nil <| S.seq <| S.region <| mv rfl <| ag rfl <| SO.nil <| tt [(6, slcHi v0 (delN a0 a1 a2))] rfl ?_
 cases h
 exact S.shrink (m := (delN a0 a1 a2)) (by simp [len_delz (chk_some hc2), delN]) <| S.b1 <| S.b1 <| S.ret1 Tryz.func206 rfl rfl (hR · _ _ ⟨(slcHi v0 (delN a0 a1 a2)), rfl, rfl⟩)
def slices_Index_int_int.l1 (a0 : List Int) (a1 : Int) : Nat → Int → Option (Brk Int Unit)
  | 0, _ => none
  | k + 1, x8_1 => bif decide (x8_1 < (a0.length : Int)) then ((at_ a0 x8_1).bind fun x2 => bif a1 == x2 then (some (Brk.ret x8_1)) else (slices_Index_int_int.l1 a0 a1 k (w64 (x8_1 + 1)))) else (some (Brk.nx ()))
def slices_Index_int_int.f (k : Nat) (a0 : List Int) (a1 : Int) : Option (Int) :=
  (slices_Index_int_int.l1 a0 a1 k 0).bind fun o1 => Brk.go o1 (fun r => some r) (fun _ => some (-1))
set_option maxHeartbeats 8000000 in
set_option maxRecDepth 100000 in
theorem slices_Index_int_int.ct (k : Nat) (v0 : Value) (a0 : List Int) (a1 : Int) (r0 : Int) (h : slices_Index_int_int.f k a0 a1 = some r0) :
    Ct Tryz.prog 204 [v0, .int .i64 a1] (fun F => Rd (ekI .i64) v0 a0 F) [] (fun u H' => u = .int .i64 r0 ∧ H' = []) := by
 unfold slices_Index_int_int.f at h
 refine Ct.intro (n := 19) Tryz.func204 rfl rfl rfl ?_
 intro R w0 F hF hR
 have hF0 := hF
 refine S.seq <| S.region <| ag rfl <| SO.nil <| S.seq <| S.seq <| S.region <| mv rfl <| vv (opv_lenR rfl Tryz.underlying43 hF0 rfl) <| mv rfl <| SO.nil ?_
 obtain ⟨o1, hlp1, h⟩ := opt_bind h
 refine tt [(8, .int .i64 0), (7, .int .i64 (a0.length : Int)), (4, .int .i64 0), (0, v0), (1, .int .i64 a1)] rfl ?_
 refine S.forloop (X := Int × Unit) (O := Brk Int Unit) (fun m x => slices_Index_int_int.l1 a0 a1 m x.1) (fun x => match x with | (x8_1, _) => [(8, .int .i64 x8_1), (7, .int .i64 (a0.length : Int)), (4, .int .i64 0), (0, v0), (1, .int .i64 a1)]) (fun x => match x with | (x8_1, _) => [F]) (fun Sk o' => (∀ r', o' = Brk.ret r' → some r' = some r0) ∧ ∀ _ : Unit, ∀ _ : Unit, o' = Brk.nx () → Sk [(4, .int .i64 0)] [F]) (fun _ => rfl) ?_ (m := k) (x := (0, ())) hlp1 ?_
 ·clear h hlp1
  intro k x o_1 h hK1 ih1
  obtain ⟨x8_1, _⟩ := x
  replace h : slices_Index_int_int.l1 a0 a1 (k + 1) x8_1 = some o_1 := h
  first | rw [slices_Index_int_int.l1] at h | unfold slices_Index_int_int.l1 at h
  refine S.seq <| S.region <| vv (opv_lss rfl rfl) <| SO.nil <| S.seq ?_
  rcases bool_or (decide (x8_1 < (a0.length : Int))) with b1 | b1
  ·replace h := cond_t b1 h
   refine S.condT rfl b1 <| S.skip <| S.seq <| S.block <| S.seq <| S.region <| mv rfl <| ag rfl <| SO.nil <| S.seq <| S.region <| mv rfl <| mv rfl <| mv rfl ?_
   obtain ⟨x2, hx3, h⟩ := opt_bind h
   refine vv (opv_idx Tryz.underlying43 Tryz.sizeOf3 hF0 rfl rfl hx3) <| SO.loadI1 (j := 0) rfl Tryz.isAgg3 (Rd.head hF0) hx3 rfl rfl rfl rfl <| vv (opv_eql rfl rfl) <| SO.nil <| tt [(8, .int .i64 x8_1), (7, .int .i64 (a0.length : Int)), (4, .int .i64 0), (0, v0), (1, .int .i64 a1), (5, .int .i64 x8_1), (16, .bool (a1 == x2))] rfl ?_
   rcases bool_or (a1 == x2) with b4 | b4
   ·replace h := cond_t b4 h
    refine S.condT rfl b4 <| S.seq <| S.region <| mv rfl <| ag rfl <| SO.nil <| tt [(4, .int .i64 x8_1)] rfl ?_
    cases h
    replace h := hK1.1 _ rfl
    cases h
    exact S.ret1 Tryz.func204 rfl rfl (hR · _ _ ⟨rfl, rfl⟩)
   replace h := cond_f b4 h
   refine S.condF rfl b4 <| S.skip <| S.inBlock <| S.region <| vv (opv_add rfl rfl) <| mv rfl <| SO.nil ?_
   refine S.to ?_ (ih1 (w64 (x8_1 + 1), ()) h)
   exact ⟨rfl, rfl, rfl, rfl, rfl, trivial⟩
  replace h := cond_f b1 h
  refine S.condF rfl b1 <| S.exit rfl ?_
  cases h
  refine S.to ?_ (hK1.2 () () rfl)
  exact ⟨rfl, trivial⟩
 refine ⟨fun r' e' => ?_, ?_⟩
 ·subst e'
  have h9 := Brk.of_ret h
  exact h9
 rintro _ _ e'
 subst e'
 replace h := Brk.of_nx h
 refine S.seq <| S.region <| ag rfl <| SO.nil ?_
 cases h
 exact S.ret1 Tryz.func204 rfl rfl (hR · _ _ ⟨rfl, rfl⟩)
def queue_Remove.f (k : Nat) (a1 : Int) (a2 : Int) : VM (Bool) :=
  (queue_List.f k a1).bind fun t1 => (VM.opt (slices_Index_int_int.f k t1 a2)).bind fun t6 => bif decide (t6 < 0) then (VM.ret false) else ((VM.opt (slices_Delete_int_int.f t1 t6 (w64 (t6 + 1)))).bind fun t9 => (queue_put.f k a1 t9).bind fun _ => (lay_Put.f a2 2 0).bind fun _ => VM.ret true)
set_option maxHeartbeats 8000000 in
set_option maxRecDepth 100000 in
theorem queue_Remove.ct (V : VW Tryz.prog) (k : Nat) (a1 : Int) (a2 : Int) (r0 : Bool) (s s' : V.S) (h : VM.run V.toVI (queue_Remove.f k a1 a2) s = some (r0, s')) :
    Ct Tryz.prog 188 [V.val, .int .i64 a1, .int .i64 a2] (fun _ => True) [V.rep s] (fun u H' => u = .bool r0 ∧ H' = [V.rep s']) := by
 unfold queue_Remove.f at h
 refine Ct.intro (n := 28) Tryz.func188 rfl rfl rfl ?_
 intro R w0 F hF hR
 refine S.seq <| S.region <| ag rfl <| SO.nil <| S.seq <| S.region <| mv rfl <| mv rfl ?_
 obtain ⟨t1, s3, ht2, h⟩ := VM.bind_some V.toVI h
 refine SO.call (pre := [V.rep _]) rfl Tryz.call173 rfl rfl rfl (queue_List.ct V _ _ _ _ _ ht2) trivial ?_
 rintro v4 _ ⟨_, rfl, rfl⟩
 refine SO.rd fun hr5 => ag rfl <| SO.nil <| S.seq <| S.region <| mv rfl <| mv rfl ?_
 obtain ⟨t6, ht7, h⟩ := VM.opt_some V.toVI h
 refine SO.call (pre := []) rfl Tryz.call204 rfl rfl rfl (slices_Index_int_int.ct _ v4 _ _ _ ht7) (Rd.head hr5) ?_
 rintro _ _ ⟨rfl, rfl⟩
 refine ag rfl <| SO.nil <| S.seq <| S.seq <| S.region <| mv rfl <| vv (opv_lss rfl rfl) <| SO.nil <| tt [(0, V.val), (1, .int .i64 a1), (2, .int .i64 a2), (6, .bool false), (7, v4), (8, .int .i64 t6), (16, .bool (decide (t6 < 0)))] rfl ?_
 rcases bool_or (decide (t6 < 0)) with b8 | b8
 ·replace h := VM.cond_t V.toVI b8 h
  refine S.condT rfl b8 <| S.seq <| S.region <| ag rfl <| SO.nil ?_
  obtain ⟨hq, rfl⟩ := VM.ret_some V.toVI h
  cases hq
  exact S.drop <| S.b1 <| S.b1 <| S.ret1 Tryz.func188 rfl rfl (hR · _ _ ⟨rfl, rfl⟩)
 replace h := VM.cond_f V.toVI b8 h
 refine S.condF rfl b8 <| S.skip <| S.seq <| S.region <| mv rfl <| mv rfl <| mv rfl <| mv rfl <| mv rfl <| vv (opv_add rfl rfl) ?_
 obtain ⟨t9, ht10, h⟩ := VM.opt_some V.toVI h
 refine SO.call (pre := [Own _ _ _ _]) rfl Tryz.call206 rfl rfl rfl (slices_Delete_int_int.ct v4 _ _ _ _ ht10) trivial ?_
 rintro v11 _ ⟨_, rfl, rfl⟩
 refine SO.rd fun hr12 => ?_
 obtain ⟨_, s14, ht13, h⟩ := VM.bind_some V.toVI h
 refine SO.b1 <| SO.call (pre := [V.rep _]) rfl Tryz.call205 rfl rfl rfl (queue_put.ct V _ v11 _ _ _ _ ht13) (Rd.head hr12) ?_
 rintro _ _ ⟨rfl, rfl⟩
 refine SO.nil <| tt [(0, V.val), (2, .int .i64 a2), (6, .bool false)] rfl <| S.seq <| S.region <| mv rfl <| mv rfl ?_
 obtain ⟨_, s16, ht15, h⟩ := VM.bind_some V.toVI h
 refine SO.call (pre := [V.rep _]) rfl Tryz.call55 rfl rfl rfl (lay_Put.ct V _ _ _ _ _ ht15) trivial ?_
 rintro _ _ ⟨rfl, rfl⟩
 refine SO.nil <| S.seq <| S.region <| ag rfl <| SO.nil ?_
 obtain ⟨hq, rfl⟩ := VM.ret_some V.toVI h
 cases hq
 exact S.b1 <| S.drop <| S.b1 <| S.b1 <| S.ret1 Tryz.func188 rfl rfl (hR · _ _ ⟨rfl, rfl⟩)
def endp_Cancel.f (k : Nat) (a1 : Int) : VM (Unit) :=
  (VM.opt (endp_there.f a1)).bind fun t1 => bif !t1 then (VM.ret ()) else ((endp_On.f a1).bind fun (t4, t5) => (endp_State.f a1).bind fun t8 => bif t8 == 4 then ((lay_Ref.f a1 2).bind fun (t12, t13) => bif t13 then ((lay_Put.f t12 6 0).bind fun _ => (lay_Put.f a1 2 0).bind fun _ => (lay_Put.f a1 1 0).bind fun _ => (endp_on.f a1 0).bind fun _ => VM.ret ()) else ((lay_Put.f a1 2 0).bind fun _ => (lay_Put.f a1 1 0).bind fun _ => (endp_on.f a1 0).bind fun _ => VM.ret ())) else (bif t5 then ((queue_Remove.f k t4 a1).bind fun t32 => (lay_Is.f t4 3).bind fun t35 => bif t35 then ((endp_rest.f k t4).bind fun _ => (lay_Put.f a1 1 0).bind fun _ => (endp_on.f a1 0).bind fun _ => VM.ret ()) else ((lay_Put.f a1 1 0).bind fun _ => (endp_on.f a1 0).bind fun _ => VM.ret ())) else ((lay_Put.f a1 1 0).bind fun _ => (endp_on.f a1 0).bind fun _ => VM.ret ())))
set_option maxHeartbeats 8000000 in
set_option maxRecDepth 100000 in
theorem endp_Cancel.ct (V : VW Tryz.prog) (k : Nat) (a1 : Int) (s s' : V.S) (h : VM.run V.toVI (endp_Cancel.f k a1) s = some ((), s')) :
    Ct Tryz.prog 139 [V.val, .int .i64 a1] (fun _ => True) [V.rep s] (fun u H' => u = .tuple #[] ∧ H' = [V.rep s']) := by
 unfold endp_Cancel.f at h
 refine Ct.intro (n := 53) Tryz.func139 rfl rfl rfl ?_
 intro R w0 F hF hR
 refine S.seq <| S.seq <| S.region <| mv rfl ?_
 obtain ⟨t1, ht2, h⟩ := VM.opt_some V.toVI h
 refine SO.call (pre := []) rfl Tryz.call53 rfl rfl rfl (endp_there.ct _ _ ht2) trivial ?_
 rintro _ _ ⟨rfl, rfl⟩
 refine vv (opv_not rfl) <| SO.nil ?_
 rcases bool_or (!t1) with b3 | b3
 ·replace h := VM.cond_t V.toVI b3 h
  refine S.condT rfl b3 ?_
  obtain ⟨hq, rfl⟩ := VM.ret_some V.toVI h
  cases hq
  exact S.b1 <| S.b1 <| S.ret0 Tryz.func139 rfl (hR · _ _ ⟨rfl, rfl⟩)
 replace h := VM.cond_f V.toVI b3 h
 refine S.condF rfl b3 <| S.skip <| S.seq <| S.region <| mv rfl <| mv rfl ?_
 obtain ⟨⟨t4, t5⟩, s7, ht6, h⟩ := VM.bind_some V.toVI h
 refine SO.call (pre := [V.rep _]) rfl Tryz.call187 rfl rfl rfl (endp_On.ct V _ _ _ _ _ ht6) trivial ?_
 rintro _ _ ⟨rfl, rfl⟩
 refine mv rfl <| vv (opv_extract rfl rfl) <| vv (opv_extract rfl rfl) <| ag rfl <| ag rfl <| SO.nil <| tt [(0, V.val), (1, .int .i64 a1), (4, .int .i64 t4), (5, .bool t5)] rfl <| S.seq <| S.block <| S.seq <| S.region <| mv rfl <| mv rfl ?_
 obtain ⟨t8, s10, ht9, h⟩ := VM.bind_some V.toVI h
 refine SO.call (pre := [V.rep _]) rfl Tryz.call30 rfl rfl rfl (endp_State.ct V _ _ _ _ ht9) trivial ?_
 rintro _ _ ⟨rfl, rfl⟩
 refine vv (opv_eql rfl rfl) <| ag rfl <| SO.nil ?_
 rcases bool_or (t8 == 4) with b11 | b11
 ·replace h := VM.cond_t V.toVI b11 h
  refine S.condT rfl b11 <| S.seq <| S.seq <| S.region <| mv rfl <| mv rfl ?_
  obtain ⟨⟨t12, t13⟩, s15, ht14, h⟩ := VM.bind_some V.toVI h
  refine SO.call (pre := [V.rep _]) rfl Tryz.call54 rfl rfl rfl (lay_Ref.ct V _ _ _ _ _ _ ht14) trivial ?_
  rintro _ _ ⟨rfl, rfl⟩
  refine mv rfl <| vv (opv_extract rfl rfl) <| vv (opv_extract rfl rfl) <| ag rfl <| ag rfl <| SO.nil <| tt [(0, V.val), (1, .int .i64 a1), (6, .int .i64 t12), (7, .bool t13)] rfl <| S.seq <| S.region <| mv rfl <| SO.nil ?_
  rcases bool_or t13 with b16 | b16
  ·replace h := VM.cond_t V.toVI b16 h
   refine S.condT rfl b16 <| S.region <| mv rfl <| mv rfl ?_
   obtain ⟨_, s18, ht17, h⟩ := VM.bind_some V.toVI h
   refine SO.call (pre := [V.rep _]) rfl Tryz.call55 rfl rfl rfl (lay_Put.ct V _ _ _ _ _ ht17) trivial ?_
   rintro _ _ ⟨rfl, rfl⟩
   refine SO.nil <| S.region <| mv rfl <| mv rfl ?_
   obtain ⟨_, s20, ht19, h⟩ := VM.bind_some V.toVI h
   refine SO.call (pre := [V.rep _]) rfl Tryz.call55 rfl rfl rfl (lay_Put.ct V _ _ _ _ _ ht19) trivial ?_
   rintro _ _ ⟨rfl, rfl⟩
   refine SO.nil <| tt [(0, V.val), (1, .int .i64 a1)] rfl <| S.inBlock <| S.seq <| S.region <| mv rfl <| mv rfl ?_
   obtain ⟨_, s22, ht21, h⟩ := VM.bind_some V.toVI h
   refine SO.call (pre := [V.rep _]) rfl Tryz.call55 rfl rfl rfl (lay_Put.ct V _ _ _ _ _ ht21) trivial ?_
   rintro _ _ ⟨rfl, rfl⟩
   refine SO.nil <| S.region <| mv rfl <| mv rfl ?_
   obtain ⟨_, s24, ht23, h⟩ := VM.bind_some V.toVI h
   refine SO.call (pre := [V.rep _]) rfl Tryz.call115 rfl rfl rfl (endp_on.ct V _ _ _ _ ht23) trivial ?_
   rintro _ _ ⟨rfl, rfl⟩
   refine SO.nil <| S.to (ρ' := []) trivial ?_
   obtain ⟨hq, rfl⟩ := VM.ret_some V.toVI h
   cases hq
   exact S.b1 <| S.b1 <| S.fin0 Tryz.func139 rfl (hR · _ _ ⟨rfl, rfl⟩)
  replace h := VM.cond_f V.toVI b16 h
  refine S.condF rfl b16 <| S.skip <| S.region <| mv rfl <| mv rfl ?_
  obtain ⟨_, s26, ht25, h⟩ := VM.bind_some V.toVI h
  refine SO.call (pre := [V.rep _]) rfl Tryz.call55 rfl rfl rfl (lay_Put.ct V _ _ _ _ _ ht25) trivial ?_
  rintro _ _ ⟨rfl, rfl⟩
  refine SO.nil <| S.inBlock <| S.seq <| S.region <| mv rfl <| mv rfl ?_
  obtain ⟨_, s28, ht27, h⟩ := VM.bind_some V.toVI h
  refine SO.call (pre := [V.rep _]) rfl Tryz.call55 rfl rfl rfl (lay_Put.ct V _ _ _ _ _ ht27) trivial ?_
  rintro _ _ ⟨rfl, rfl⟩
  refine SO.nil <| tt [(0, V.val), (1, .int .i64 a1)] rfl <| S.region <| mv rfl <| mv rfl ?_
  obtain ⟨_, s30, ht29, h⟩ := VM.bind_some V.toVI h
  refine SO.call (pre := [V.rep _]) rfl Tryz.call115 rfl rfl rfl (endp_on.ct V _ _ _ _ ht29) trivial ?_
  rintro _ _ ⟨rfl, rfl⟩
  refine SO.nil ?_
  obtain ⟨hq, rfl⟩ := VM.ret_some V.toVI h
  cases hq
  exact S.b1 <| S.b1 <| S.fin0 Tryz.func139 rfl (hR · _ _ ⟨rfl, rfl⟩)
 replace h := VM.cond_f V.toVI b11 h
 refine S.condF rfl b11 <| S.seq <| S.region <| mv rfl <| ag rfl <| SO.nil <| tt [(0, V.val), (1, .int .i64 a1), (4, .int .i64 t4), (35, .bool t5)] rfl ?_
 rcases bool_or t5 with b31 | b31
 ·replace h := VM.cond_t V.toVI b31 h
  refine S.condT rfl b31 <| S.seq <| S.region <| mv rfl <| mv rfl <| mv rfl ?_
  obtain ⟨t32, s34, ht33, h⟩ := VM.bind_some V.toVI h
  refine SO.call (pre := [V.rep _]) rfl Tryz.call188 rfl rfl rfl (queue_Remove.ct V _ _ _ _ _ _ ht33) trivial ?_
  rintro _ _ ⟨rfl, rfl⟩
  refine SO.nil <| S.seq <| S.region <| mv rfl <| mv rfl ?_
  obtain ⟨t35, s37, ht36, h⟩ := VM.bind_some V.toVI h
  refine SO.call (pre := [V.rep _]) rfl Tryz.call29 rfl rfl rfl (lay_Is.ct V _ _ _ _ _ ht36) trivial ?_
  rintro _ _ ⟨rfl, rfl⟩
  refine SO.nil <| tt [(0, V.val), (1, .int .i64 a1), (4, .int .i64 t4), (43, .bool t35)] rfl ?_
  rcases bool_or t35 with b38 | b38
  ·replace h := VM.cond_t V.toVI b38 h
   refine S.condT rfl b38 <| S.region <| mv rfl <| mv rfl ?_
   obtain ⟨_, s40, ht39, h⟩ := VM.bind_some V.toVI h
   refine SO.call (pre := [V.rep _]) rfl Tryz.call120 rfl rfl rfl (endp_rest.ct V _ _ _ _ ht39) trivial ?_
   rintro _ _ ⟨rfl, rfl⟩
   refine SO.nil <| S.inBlock <| S.seq <| S.region <| mv rfl <| mv rfl ?_
   obtain ⟨_, s42, ht41, h⟩ := VM.bind_some V.toVI h
   refine SO.call (pre := [V.rep _]) rfl Tryz.call55 rfl rfl rfl (lay_Put.ct V _ _ _ _ _ ht41) trivial ?_
   rintro _ _ ⟨rfl, rfl⟩
   refine SO.nil <| tt [(0, V.val), (1, .int .i64 a1)] rfl <| S.region <| mv rfl <| mv rfl ?_
   obtain ⟨_, s44, ht43, h⟩ := VM.bind_some V.toVI h
   refine SO.call (pre := [V.rep _]) rfl Tryz.call115 rfl rfl rfl (endp_on.ct V _ _ _ _ ht43) trivial ?_
   rintro _ _ ⟨rfl, rfl⟩
   refine SO.nil ?_
   obtain ⟨hq, rfl⟩ := VM.ret_some V.toVI h
   cases hq
   exact S.b1 <| S.b1 <| S.fin0 Tryz.func139 rfl (hR · _ _ ⟨rfl, rfl⟩)
  replace h := VM.cond_f V.toVI b38 h
  refine S.condF rfl b38 <| S.skip <| S.inBlock <| S.seq <| S.region <| mv rfl <| mv rfl ?_
  obtain ⟨_, s46, ht45, h⟩ := VM.bind_some V.toVI h
  refine SO.call (pre := [V.rep _]) rfl Tryz.call55 rfl rfl rfl (lay_Put.ct V _ _ _ _ _ ht45) trivial ?_
  rintro _ _ ⟨rfl, rfl⟩
  refine SO.nil <| S.region <| mv rfl <| mv rfl ?_
  obtain ⟨_, s48, ht47, h⟩ := VM.bind_some V.toVI h
  refine SO.call (pre := [V.rep _]) rfl Tryz.call115 rfl rfl rfl (endp_on.ct V _ _ _ _ ht47) trivial ?_
  rintro _ _ ⟨rfl, rfl⟩
  refine SO.nil <| S.to (ρ' := []) trivial ?_
  obtain ⟨hq, rfl⟩ := VM.ret_some V.toVI h
  cases hq
  exact S.b1 <| S.b1 <| S.fin0 Tryz.func139 rfl (hR · _ _ ⟨rfl, rfl⟩)
 replace h := VM.cond_f V.toVI b31 h
 refine S.condF rfl b31 <| S.skip <| S.inBlock <| S.seq <| S.region <| mv rfl <| mv rfl ?_
 obtain ⟨_, s50, ht49, h⟩ := VM.bind_some V.toVI h
 refine SO.call (pre := [V.rep _]) rfl Tryz.call55 rfl rfl rfl (lay_Put.ct V _ _ _ _ _ ht49) trivial ?_
 rintro _ _ ⟨rfl, rfl⟩
 refine SO.nil <| S.region <| mv rfl <| mv rfl ?_
 obtain ⟨_, s52, ht51, h⟩ := VM.bind_some V.toVI h
 refine SO.call (pre := [V.rep _]) rfl Tryz.call115 rfl rfl rfl (endp_on.ct V _ _ _ _ ht51) trivial ?_
 rintro _ _ ⟨rfl, rfl⟩
 refine SO.nil <| S.to (ρ' := []) trivial ?_
 obtain ⟨hq, rfl⟩ := VM.ret_some V.toVI h
 cases hq
 exact S.b1 <| S.b1 <| S.fin0 Tryz.func139 rfl (hR · _ _ ⟨rfl, rfl⟩)
def tcb_Suspend.f (k : Nat) (a1 : Int) : VM ((Option Int)) :=
  (lay_Is.f a1 5).bind fun t1 => bif !t1 then (VM.ret (some 2)) else ((endp_State.f a1).bind fun t5 => bif t5 == 0 then (VM.ret (some 10)) else ((endp_Cancel.f k a1).bind fun _ => VM.ret none))
set_option maxHeartbeats 8000000 in
set_option maxRecDepth 100000 in
theorem tcb_Suspend.ct (V : VW Tryz.prog) (k : Nat) (a1 : Int) (r0 : Option Int) (s s' : V.S) (h : VM.run V.toVI (tcb_Suspend.f k a1) s = some (r0, s')) :
    Ct Tryz.prog 73 [V.val, .int .i64 a1] (fun _ => True) [V.rep s] (fun u H' => u = errV 98 r0 ∧ H' = [V.rep s']) := by
 unfold tcb_Suspend.f at h
 refine Ct.intro (n := 20) Tryz.func73 rfl rfl rfl ?_
 intro R w0 F hF hR
 refine S.seq <| S.region <| ag rfl <| SO.nil <| S.seq <| S.block <| S.seq <| S.region <| mv rfl <| mv rfl ?_
 obtain ⟨t1, s3, ht2, h⟩ := VM.bind_some V.toVI h
 refine SO.call (pre := [V.rep _]) rfl Tryz.call29 rfl rfl rfl (lay_Is.ct V _ _ _ _ _ ht2) trivial ?_
 rintro _ _ ⟨rfl, rfl⟩
 refine vv (opv_not rfl) <| ag rfl <| SO.nil ?_
 rcases bool_or (!t1) with b4 | b4
 ·replace h := VM.cond_t V.toVI b4 h
  refine S.condT rfl b4 <| S.seq <| S.region <| vv (opv_iface Tryz.underlying98 rfl rfl) <| ag rfl <| SO.nil <| tt [(4, errV 98 (some 2))] rfl ?_
  obtain ⟨hq, rfl⟩ := VM.ret_some V.toVI h
  cases hq
  exact S.b1 <| S.b1 <| S.ret1 Tryz.func73 rfl rfl (hR · _ _ ⟨rfl, rfl⟩)
 replace h := VM.cond_f V.toVI b4 h
 refine S.condF rfl b4 <| S.seq <| S.region <| mv rfl <| mv rfl ?_
 obtain ⟨t5, s7, ht6, h⟩ := VM.bind_some V.toVI h
 refine SO.call (pre := [V.rep _]) rfl Tryz.call30 rfl rfl rfl (endp_State.ct V _ _ _ _ ht6) trivial ?_
 rintro _ _ ⟨rfl, rfl⟩
 refine vv (opv_eql rfl rfl) <| ag rfl <| SO.nil <| tt [(0, V.val), (1, .int .i64 a1), (4, errV 98 none), (11, .bool (t5 == 0))] rfl ?_
 rcases bool_or (t5 == 0) with b8 | b8
 ·replace h := VM.cond_t V.toVI b8 h
  refine S.condT rfl b8 <| S.seq <| S.region <| vv (opv_iface Tryz.underlying98 rfl rfl) <| ag rfl <| SO.nil ?_
  obtain ⟨hq, rfl⟩ := VM.ret_some V.toVI h
  cases hq
  exact S.b1 <| S.b1 <| S.ret1 Tryz.func73 rfl rfl (hR · _ _ ⟨rfl, rfl⟩)
 replace h := VM.cond_f V.toVI b8 h
 refine S.condF rfl b8 <| S.skip <| S.inBlock <| S.seq <| S.region <| mv rfl <| mv rfl ?_
 obtain ⟨_, s10, ht9, h⟩ := VM.bind_some V.toVI h
 refine SO.call (pre := [V.rep _]) rfl Tryz.call139 rfl rfl rfl (endp_Cancel.ct V _ _ _ _ ht9) trivial ?_
 rintro _ _ ⟨rfl, rfl⟩
 refine SO.nil <| S.seq <| S.region <| ag rfl <| SO.nil ?_
 obtain ⟨hq, rfl⟩ := VM.ret_some V.toVI h
 cases hq
 exact S.b1 <| S.b1 <| S.ret1 Tryz.func73 rfl rfl (hR · _ _ ⟨rfl, rfl⟩)
def invoke_doer_thread.f (k : Nat) (a0 : invoke_doer) : VM ((Option Int)) :=
  (VM.opt (invoke_is.f a0.cap 5 2)).bind fun t1 => bif t1.isSome then (VM.ret t1) else (bif a0.c.Op == 15 then ((tcb_Suspend.f k a0.cap.Obj).bind fun t5 => VM.ret t5) else (bif a0.c.Op == 16 then ((tcb_Resume.f a0.cap.Obj).bind fun t9 => VM.ret t9) else (bif a0.c.Op == 17 then ((tcb_Prio.f a0.cap.Obj a0.c.A).bind fun t13 => VM.ret t13) else ((invoke_doer_other.f k a0 2 0).bind fun (t16, t17) => bif t17.isSome then (VM.ret t17) else ((tcb_SetRoot.f k a0.cap.Obj t16).bind fun t22 => VM.ret t22)))))
set_option maxHeartbeats 8000000 in
set_option maxRecDepth 100000 in
theorem invoke_doer_thread.ct (V : VW Tryz.prog) (k : Nat) (bp0 : Nat) (a0 : invoke_doer) (r0 : Option Int) (s s' : V.S) (h : VM.run V.toVI (invoke_doer_thread.f k a0) s = some (r0, s')) :
    Ct Tryz.prog 38 [bp bp0 0] (fun _ => True) [Box bp0 [V.val, .int .i64 a0.t, .int .i64 a0.c.Op, .int .i64 a0.c.Cap, .int .i64 a0.c.A, .int .i64 a0.c.B, .int .i64 a0.c.C, .int .i64 a0.c.D, .int .i64 a0.slot, .int .i64 a0.cap.Kind, .int .i64 a0.cap.Rights, .int .i64 a0.cap.Obj, .int .i64 a0.cap.Badge, .int .i64 a0.cap.Guard, .int .i64 a0.cap.Bits], V.rep s] (fun u H' => u = errV 98 r0 ∧ H' = [Box bp0 [V.val, .int .i64 a0.t, .int .i64 a0.c.Op, .int .i64 a0.c.Cap, .int .i64 a0.c.A, .int .i64 a0.c.B, .int .i64 a0.c.C, .int .i64 a0.c.D, .int .i64 a0.slot, .int .i64 a0.cap.Kind, .int .i64 a0.cap.Rights, .int .i64 a0.cap.Obj, .int .i64 a0.cap.Badge, .int .i64 a0.cap.Guard, .int .i64 a0.cap.Bits], V.rep s']) := by
 unfold invoke_doer_thread.f at h
 refine Ct.intro (n := 79) Tryz.func38 rfl rfl rfl ?_
 intro R w0 F hF hR
 refine S.seq <| S.region <| ag rfl <| SO.nil <| S.seq <| S.seq <| S.region <| mv rfl <| nc rfl <| fa Tryz.underlying72 rfl Tryz.sizeOf45 rfl rfl <| SO.loadN rfl Tryz.isAgg45 Tryz.sizeOf45 rfl rfl rfl ?_
 obtain ⟨t1, ht2, h⟩ := VM.opt_some V.toVI h
 refine SO.call (pre := []) rfl Tryz.call59 rfl rfl rfl (invoke_is.ct _ _ _ _ ht2) trivial ?_
 rintro _ _ ⟨rfl, rfl⟩
 refine ag rfl <| SO.nil <| S.seq <| S.region <| mv rfl <| vv (opv_neqN (e := t1) Tryz.underlying74 rfl) <| SO.nil ?_
 rcases bool_or t1.isSome with b3 | b3
 ·replace h := VM.cond_t V.toVI b3 h
  refine S.condT rfl b3 <| S.seq <| S.region <| mv rfl <| ag rfl <| SO.nil <| tt [(2, errV 98 t1)] rfl ?_
  obtain ⟨hq, rfl⟩ := VM.ret_some V.toVI h
  cases hq
  exact S.b2 <| S.b2 <| S.b2 <| S.ret1 Tryz.func38 rfl rfl (hR · _ _ ⟨rfl, rfl⟩)
 replace h := VM.cond_f V.toVI b3 h
 refine S.condF rfl b3 <| S.skip <| S.seq <| S.seq <| S.region <| mv rfl <| nc rfl <| fa Tryz.underlying72 rfl Tryz.sizeOf30 rfl rfl <| fa Tryz.underlying30 rfl Tryz.sizeOf3 rfl rfl <| ld Tryz.isAgg3 rfl rfl <| SO.nil <| tt [(0, bp bp0 0), (2, errV 98 none), (18, .int .i64 a0.c.Op)] rfl <| S.block <| S.seq <| S.region <| vv (opv_eql rfl rfl) <| ag rfl <| SO.nil ?_
 rcases bool_or (a0.c.Op == 15) with b4 | b4
 ·replace h := VM.cond_t V.toVI b4 h
  refine S.condT rfl b4 <| S.seq ?_
  obtain ⟨t5, s7, ht6, h⟩ := VM.bind_some V.toVI h
  refine S.draw2 (Y := fun Q => ∃ (_ _ _ _ : Unit), Q [(0, bp bp0 0)] [Box bp0 [V.val, .int .i64 a0.t, .int .i64 a0.c.Op, .int .i64 a0.c.Cap, .int .i64 a0.c.A, .int .i64 a0.c.B, .int .i64 a0.c.C, .int .i64 a0.c.D, .int .i64 a0.slot, .int .i64 a0.cap.Kind, .int .i64 a0.cap.Rights, .int .i64 a0.cap.Obj, .int .i64 a0.cap.Badge, .int .i64 a0.cap.Guard, .int .i64 a0.cap.Bits], V.rep s, F]) (Z := fun Q => ∀ (_ _ _ _ : Unit), Q [(2, errV 98 t5)] [Box bp0 [V.val, .int .i64 a0.t, .int .i64 a0.c.Op, .int .i64 a0.c.Cap, .int .i64 a0.c.A, .int .i64 a0.c.B, .int .i64 a0.c.C, .int .i64 a0.c.D, .int .i64 a0.slot, .int .i64 a0.cap.Kind, .int .i64 a0.cap.Rights, .int .i64 a0.cap.Obj, .int .i64 a0.cap.Badge, .int .i64 a0.cap.Guard, .int .i64 a0.cap.Bits], V.rep s7, F]) (T := [tS 0 (bp bp0 0), tR (Box bp0 [V.val, .int .i64 a0.t, .int .i64 a0.c.Op, .int .i64 a0.c.Cap, .int .i64 a0.c.A, .int .i64 a0.c.B, .int .i64 a0.c.C, .int .i64 a0.c.D, .int .i64 a0.slot, .int .i64 a0.cap.Kind, .int .i64 a0.cap.Rights, .int .i64 a0.cap.Obj, .int .i64 a0.cap.Badge, .int .i64 a0.cap.Guard, .int .i64 a0.cap.Bits]), tR (V.rep s), tR (F), tS 21 (bp bp0 0), tS 22 (bp bp0 0), tS 23 (bp bp0 0), tS 24 (V.val), tS 25 (bp bp0 0), tS 26 (bp bp0 0), tS 27 (bp bp0 9), tS 28 (bp bp0 11), tS 29 (.int .i64 a0.cap.Obj), tR (V.rep s7), tS 30 (errV 98 t5), tS 2 (errV 98 t5)]) (D := [⟨[0], [], [4]⟩, ⟨[4], [], [5]⟩, ⟨[5], [], [6]⟩, ⟨[6, 1], [], [7]⟩, ⟨[0], [], [8]⟩, ⟨[8], [], [9]⟩, ⟨[9], [], [10]⟩, ⟨[10], [], [11]⟩, ⟨[11, 1], [], [12]⟩, ⟨[7, 12], [2], [13, 14]⟩, ⟨[14], [], [15]⟩]) (ini := [0, 1, 2, 3]) (fin := [15, 1, 13, 3]) (bf := [[], [0], [0, 1], [0, 1, 2], [], [4], [4, 5], [4, 5, 6], [4, 5, 6, 7], [0, 1, 2, 3, 4, 5, 6, 7, 8], [0, 1, 2, 3, 4, 5, 6, 7, 8, 9]]) (by kernel_rfl) (by kernel_rfl) (fun Q => by kernel_rfl) (fun x w h1 h2 => ⟨(), (), (), (), EnvAll.of h1 ⟨rfl, trivial⟩, h2⟩) (fun Q => by kernel_rfl) ⟨?_, ?_, ?_, ?_, ?_, ?_, ?_, ?_, ?_, ?_, ?_, trivial⟩ ?_
  ·rintro Fr _
   exact mv rfl <| nz2 rfl () () rfl
  ·rintro Fr _
   exact nc rfl <| nz2 rfl () () rfl
  ·rintro Fr _
   exact fa Tryz.underlying72 rfl Tryz.sizeOf65 rfl rfl <| nz2 rfl () () rfl
  ·rintro Fr _ _
   exact ld Tryz.isAgg65 rfl rfl <| nz3 rfl () () () rfl
  ·rintro Fr _
   exact mv rfl <| nz2 rfl () () rfl
  ·rintro Fr _
   exact nc rfl <| nz2 rfl () () rfl
  ·rintro Fr _
   exact fa Tryz.underlying72 rfl Tryz.sizeOf45 rfl rfl <| nz2 rfl () () rfl
  ·rintro Fr _
   exact fa Tryz.underlying45 rfl Tryz.sizeOf3 rfl rfl <| nz2 rfl () () rfl
  ·rintro Fr _ _
   exact ld Tryz.isAgg3 rfl rfl <| nz3 rfl () () () rfl
  ·rintro Fr _ _ _
   refine SO.call (pre := [V.rep _]) rfl Tryz.call73 rfl rfl rfl (tcb_Suspend.ct V _ _ _ _ _ ht6) trivial ?_
   rintro _ _ ⟨rfl, rfl⟩
   exact nz4 rfl () () () () rfl
  ·rintro Fr _
   exact ag rfl <| nz2 rfl () () rfl
  rintro _ _ _ _
  refine tt [(2, errV 98 t5)] rfl ?_
  obtain ⟨hq, rfl⟩ := VM.ret_some V.toVI h
  cases hq
  exact S.b2 <| S.b2 <| S.b2 <| S.ret1 Tryz.func38 rfl rfl (hR · _ _ ⟨rfl, rfl⟩)
 replace h := VM.cond_f V.toVI b4 h
 refine S.condF rfl b4 <| S.seq <| S.region <| vv (opv_eql rfl rfl) <| ag rfl <| SO.nil ?_
 rcases bool_or (a0.c.Op == 16) with b8 | b8
 ·replace h := VM.cond_t V.toVI b8 h
  refine S.condT rfl b8 <| S.seq ?_
  obtain ⟨t9, s11, ht10, h⟩ := VM.bind_some V.toVI h
  refine S.draw2 (Y := fun Q => ∃ (_ _ _ _ : Unit), Q [(0, bp bp0 0)] [Box bp0 [V.val, .int .i64 a0.t, .int .i64 a0.c.Op, .int .i64 a0.c.Cap, .int .i64 a0.c.A, .int .i64 a0.c.B, .int .i64 a0.c.C, .int .i64 a0.c.D, .int .i64 a0.slot, .int .i64 a0.cap.Kind, .int .i64 a0.cap.Rights, .int .i64 a0.cap.Obj, .int .i64 a0.cap.Badge, .int .i64 a0.cap.Guard, .int .i64 a0.cap.Bits], V.rep s, F]) (Z := fun Q => ∀ (_ _ _ _ : Unit), Q [(2, errV 98 t9)] [Box bp0 [V.val, .int .i64 a0.t, .int .i64 a0.c.Op, .int .i64 a0.c.Cap, .int .i64 a0.c.A, .int .i64 a0.c.B, .int .i64 a0.c.C, .int .i64 a0.c.D, .int .i64 a0.slot, .int .i64 a0.cap.Kind, .int .i64 a0.cap.Rights, .int .i64 a0.cap.Obj, .int .i64 a0.cap.Badge, .int .i64 a0.cap.Guard, .int .i64 a0.cap.Bits], V.rep s11, F]) (T := [tS 0 (bp bp0 0), tR (Box bp0 [V.val, .int .i64 a0.t, .int .i64 a0.c.Op, .int .i64 a0.c.Cap, .int .i64 a0.c.A, .int .i64 a0.c.B, .int .i64 a0.c.C, .int .i64 a0.c.D, .int .i64 a0.slot, .int .i64 a0.cap.Kind, .int .i64 a0.cap.Rights, .int .i64 a0.cap.Obj, .int .i64 a0.cap.Badge, .int .i64 a0.cap.Guard, .int .i64 a0.cap.Bits]), tR (V.rep s), tR (F), tS 33 (bp bp0 0), tS 34 (bp bp0 0), tS 35 (bp bp0 0), tS 36 (V.val), tS 37 (bp bp0 0), tS 38 (bp bp0 0), tS 39 (bp bp0 9), tS 40 (bp bp0 11), tS 41 (.int .i64 a0.cap.Obj), tR (V.rep s11), tS 42 (errV 98 t9), tS 2 (errV 98 t9)]) (D := [⟨[0], [], [4]⟩, ⟨[4], [], [5]⟩, ⟨[5], [], [6]⟩, ⟨[6, 1], [], [7]⟩, ⟨[0], [], [8]⟩, ⟨[8], [], [9]⟩, ⟨[9], [], [10]⟩, ⟨[10], [], [11]⟩, ⟨[11, 1], [], [12]⟩, ⟨[7, 12], [2], [13, 14]⟩, ⟨[14], [], [15]⟩]) (ini := [0, 1, 2, 3]) (fin := [15, 1, 13, 3]) (bf := [[], [0], [0, 1], [0, 1, 2], [], [4], [4, 5], [4, 5, 6], [4, 5, 6, 7], [0, 1, 2, 3, 4, 5, 6, 7, 8], [0, 1, 2, 3, 4, 5, 6, 7, 8, 9]]) (by kernel_rfl) (by kernel_rfl) (fun Q => by kernel_rfl) (fun x w h1 h2 => ⟨(), (), (), (), EnvAll.of h1 ⟨rfl, trivial⟩, h2⟩) (fun Q => by kernel_rfl) ⟨?_, ?_, ?_, ?_, ?_, ?_, ?_, ?_, ?_, ?_, ?_, trivial⟩ ?_
  ·rintro Fr _
   exact mv rfl <| nz2 rfl () () rfl
  ·rintro Fr _
   exact nc rfl <| nz2 rfl () () rfl
  ·rintro Fr _
   exact fa Tryz.underlying72 rfl Tryz.sizeOf65 rfl rfl <| nz2 rfl () () rfl
  ·rintro Fr _ _
   exact ld Tryz.isAgg65 rfl rfl <| nz3 rfl () () () rfl
  ·rintro Fr _
   exact mv rfl <| nz2 rfl () () rfl
  ·rintro Fr _
   exact nc rfl <| nz2 rfl () () rfl
  ·rintro Fr _
   exact fa Tryz.underlying72 rfl Tryz.sizeOf45 rfl rfl <| nz2 rfl () () rfl
  ·rintro Fr _
   exact fa Tryz.underlying45 rfl Tryz.sizeOf3 rfl rfl <| nz2 rfl () () rfl
  ·rintro Fr _ _
   exact ld Tryz.isAgg3 rfl rfl <| nz3 rfl () () () rfl
  ·rintro Fr _ _ _
   refine SO.call (pre := [V.rep _]) rfl Tryz.call74 rfl rfl rfl (tcb_Resume.ct V _ _ _ _ ht10) trivial ?_
   rintro _ _ ⟨rfl, rfl⟩
   exact nz4 rfl () () () () rfl
  ·rintro Fr _
   exact ag rfl <| nz2 rfl () () rfl
  rintro _ _ _ _
  refine tt [(2, errV 98 t9)] rfl ?_
  obtain ⟨hq, rfl⟩ := VM.ret_some V.toVI h
  cases hq
  exact S.b2 <| S.b2 <| S.b2 <| S.ret1 Tryz.func38 rfl rfl (hR · _ _ ⟨rfl, rfl⟩)
 replace h := VM.cond_f V.toVI b8 h
 refine S.condF rfl b8 <| S.seq <| S.region <| vv (opv_eql rfl rfl) <| ag rfl <| SO.nil ?_
 rcases bool_or (a0.c.Op == 17) with b12 | b12
 ·replace h := VM.cond_t V.toVI b12 h
  refine S.condT rfl b12 <| S.seq ?_
  obtain ⟨t13, s15, ht14, h⟩ := VM.bind_some V.toVI h
  refine S.draw2 (Y := fun Q => ∃ (_ _ _ _ : Unit), Q [(0, bp bp0 0)] [Box bp0 [V.val, .int .i64 a0.t, .int .i64 a0.c.Op, .int .i64 a0.c.Cap, .int .i64 a0.c.A, .int .i64 a0.c.B, .int .i64 a0.c.C, .int .i64 a0.c.D, .int .i64 a0.slot, .int .i64 a0.cap.Kind, .int .i64 a0.cap.Rights, .int .i64 a0.cap.Obj, .int .i64 a0.cap.Badge, .int .i64 a0.cap.Guard, .int .i64 a0.cap.Bits], V.rep s, F]) (Z := fun Q => ∀ (_ _ _ _ : Unit), Q [(2, errV 98 t13)] [Box bp0 [V.val, .int .i64 a0.t, .int .i64 a0.c.Op, .int .i64 a0.c.Cap, .int .i64 a0.c.A, .int .i64 a0.c.B, .int .i64 a0.c.C, .int .i64 a0.c.D, .int .i64 a0.slot, .int .i64 a0.cap.Kind, .int .i64 a0.cap.Rights, .int .i64 a0.cap.Obj, .int .i64 a0.cap.Badge, .int .i64 a0.cap.Guard, .int .i64 a0.cap.Bits], V.rep s15, F]) (T := [tS 0 (bp bp0 0), tR (Box bp0 [V.val, .int .i64 a0.t, .int .i64 a0.c.Op, .int .i64 a0.c.Cap, .int .i64 a0.c.A, .int .i64 a0.c.B, .int .i64 a0.c.C, .int .i64 a0.c.D, .int .i64 a0.slot, .int .i64 a0.cap.Kind, .int .i64 a0.cap.Rights, .int .i64 a0.cap.Obj, .int .i64 a0.cap.Badge, .int .i64 a0.cap.Guard, .int .i64 a0.cap.Bits]), tR (V.rep s), tR (F), tS 45 (bp bp0 0), tS 46 (bp bp0 0), tS 47 (bp bp0 0), tS 48 (V.val), tS 49 (bp bp0 0), tS 50 (bp bp0 0), tS 51 (bp bp0 9), tS 52 (bp bp0 11), tS 53 (.int .i64 a0.cap.Obj), tS 54 (bp bp0 0), tS 55 (bp bp0 0), tS 56 (bp bp0 2), tS 57 (bp bp0 4), tS 58 (.int .i64 a0.c.A), tR (V.rep s15), tS 59 (errV 98 t13), tS 2 (errV 98 t13)]) (D := [⟨[0], [], [4]⟩, ⟨[4], [], [5]⟩, ⟨[5], [], [6]⟩, ⟨[6, 1], [], [7]⟩, ⟨[0], [], [8]⟩, ⟨[8], [], [9]⟩, ⟨[9], [], [10]⟩, ⟨[10], [], [11]⟩, ⟨[11, 1], [], [12]⟩, ⟨[0], [], [13]⟩, ⟨[13], [], [14]⟩, ⟨[14], [], [15]⟩, ⟨[15], [], [16]⟩, ⟨[16, 1], [], [17]⟩, ⟨[7, 12, 17], [2], [18, 19]⟩, ⟨[19], [], [20]⟩]) (ini := [0, 1, 2, 3]) (fin := [20, 1, 18, 3]) (bf := [[], [0], [0, 1], [0, 1, 2], [], [4], [4, 5], [4, 5, 6], [4, 5, 6, 7], [], [9], [9, 10], [9, 10, 11], [9, 10, 11, 12], [0, 1, 2, 3, 4, 5, 6, 7, 8, 9, 10, 11, 12, 13], [0, 1, 2, 3, 4, 5, 6, 7, 8, 9, 10, 11, 12, 13, 14]]) (by kernel_rfl) (by kernel_rfl) (fun Q => by kernel_rfl) (fun x w h1 h2 => ⟨(), (), (), (), EnvAll.of h1 ⟨rfl, trivial⟩, h2⟩) (fun Q => by kernel_rfl) ⟨?_, ?_, ?_, ?_, ?_, ?_, ?_, ?_, ?_, ?_, ?_, ?_, ?_, ?_, ?_, ?_, trivial⟩ ?_
  ·rintro Fr _
   exact mv rfl <| nz2 rfl () () rfl
  ·rintro Fr _
   exact nc rfl <| nz2 rfl () () rfl
  ·rintro Fr _
   exact fa Tryz.underlying72 rfl Tryz.sizeOf65 rfl rfl <| nz2 rfl () () rfl
  ·rintro Fr _ _
   exact ld Tryz.isAgg65 rfl rfl <| nz3 rfl () () () rfl
  ·rintro Fr _
   exact mv rfl <| nz2 rfl () () rfl
  ·rintro Fr _
   exact nc rfl <| nz2 rfl () () rfl
  ·rintro Fr _
   exact fa Tryz.underlying72 rfl Tryz.sizeOf45 rfl rfl <| nz2 rfl () () rfl
  ·rintro Fr _
   exact fa Tryz.underlying45 rfl Tryz.sizeOf3 rfl rfl <| nz2 rfl () () rfl
  ·rintro Fr _ _
   exact ld Tryz.isAgg3 rfl rfl <| nz3 rfl () () () rfl
  ·rintro Fr _
   exact mv rfl <| nz2 rfl () () rfl
  ·rintro Fr _
   exact nc rfl <| nz2 rfl () () rfl
  ·rintro Fr _
   exact fa Tryz.underlying72 rfl Tryz.sizeOf30 rfl rfl <| nz2 rfl () () rfl
  ·rintro Fr _
   exact fa Tryz.underlying30 rfl Tryz.sizeOf3 rfl rfl <| nz2 rfl () () rfl
  ·rintro Fr _ _
   exact ld Tryz.isAgg3 rfl rfl <| nz3 rfl () () () rfl
  ·rintro Fr _ _ _ _
   refine SO.call (pre := [V.rep _]) rfl Tryz.call75 rfl rfl rfl (tcb_Prio.ct V _ _ _ _ _ ht14) trivial ?_
   rintro _ _ ⟨rfl, rfl⟩
   exact SO.nilZ fun a w h1 h2 h3 h4 h5 => PZ.of2 (Y := fun Q => ∃ (_ _ _ _ _ : Unit), Q [(48, V.val), (53, .int .i64 a0.cap.Obj), (58, .int .i64 a0.c.A), (59, errV 98 t13)] [V.rep s15]) (fun Q => by kernel_rfl) h1 h3 h5 ⟨(), (), (), (), (), EnvAll.of h2 ⟨rfl, rfl, rfl, rfl, trivial⟩, h4⟩
  ·rintro Fr _
   exact ag rfl <| nz2 rfl () () rfl
  rintro _ _ _ _
  refine tt [(2, errV 98 t13)] rfl ?_
  obtain ⟨hq, rfl⟩ := VM.ret_some V.toVI h
  cases hq
  exact S.b2 <| S.b2 <| S.b2 <| S.ret1 Tryz.func38 rfl rfl (hR · _ _ ⟨rfl, rfl⟩)
 replace h := VM.cond_f V.toVI b12 h
 refine S.condF rfl b12 <| S.skip <| S.inBlock <| S.seq <| S.region <| mv rfl ?_
 obtain ⟨⟨t16, t17⟩, s19, ht18, h⟩ := VM.bind_some V.toVI h
 refine SO.b1 <| SO.b1 <| SO.call (pre := [Box _ _, V.rep _]) rfl Tryz.call76 rfl rfl rfl (invoke_doer_other.ct V _ bp0 _ _ _ _ _ _ _ ht18) trivial ?_
 rintro _ _ ⟨rfl, rfl⟩
 refine mv rfl <| vv (opv_extract rfl rfl) <| vv (opv_extract rfl rfl) <| SO.alloc rfl Tryz.zeroValue45 rfl fun b20 => SO.storeN Tryz.sizeOf45 rfl rfl rfl rfl rfl rfl <| ag rfl <| SO.nil <| tt [(0, bp bp0 0), (2, errV 98 none), (4, bp b20 0), (5, errV 98 t17)] rfl <| S.seq <| S.seq <| S.region <| mv rfl <| vv (opv_neqN (e := t17) Tryz.underlying74 rfl) <| SO.nil ?_
 rcases bool_or t17.isSome with b21 | b21
 ·replace h := VM.cond_t V.toVI b21 h
  refine S.condT rfl b21 <| S.seq <| S.region <| mv rfl <| ag rfl <| SO.nil ?_
  obtain ⟨hq, rfl⟩ := VM.ret_some V.toVI h
  cases hq
  exact S.drop <| S.b2 <| S.b2 <| S.b2 <| S.ret1 Tryz.func38 rfl rfl (hR · _ _ ⟨rfl, rfl⟩)
 replace h := VM.cond_f V.toVI b21 h
 refine S.condF rfl b21 <| S.skip <| S.seq ?_
 obtain ⟨t22, s24, ht23, h⟩ := VM.bind_some V.toVI h
 refine S.draw2 (Y := fun Q => ∃ (_ _ _ _ _ _ : Unit), Q [(0, bp bp0 0), (4, bp b20 0)] [Box b20 [.int .i64 t16.Kind, .int .i64 t16.Rights, .int .i64 t16.Obj, .int .i64 t16.Badge, .int .i64 t16.Guard, .int .i64 t16.Bits], Box bp0 [V.val, .int .i64 a0.t, .int .i64 a0.c.Op, .int .i64 a0.c.Cap, .int .i64 a0.c.A, .int .i64 a0.c.B, .int .i64 a0.c.C, .int .i64 a0.c.D, .int .i64 a0.slot, .int .i64 a0.cap.Kind, .int .i64 a0.cap.Rights, .int .i64 a0.cap.Obj, .int .i64 a0.cap.Badge, .int .i64 a0.cap.Guard, .int .i64 a0.cap.Bits], V.rep s19, F]) (Z := fun Q => ∀ (_ _ _ _ _ : Unit), Q [(2, errV 98 t22)] [Box b20 [.int .i64 t16.Kind, .int .i64 t16.Rights, .int .i64 t16.Obj, .int .i64 t16.Badge, .int .i64 t16.Guard, .int .i64 t16.Bits], Box bp0 [V.val, .int .i64 a0.t, .int .i64 a0.c.Op, .int .i64 a0.c.Cap, .int .i64 a0.c.A, .int .i64 a0.c.B, .int .i64 a0.c.C, .int .i64 a0.c.D, .int .i64 a0.slot, .int .i64 a0.cap.Kind, .int .i64 a0.cap.Rights, .int .i64 a0.cap.Obj, .int .i64 a0.cap.Badge, .int .i64 a0.cap.Guard, .int .i64 a0.cap.Bits], V.rep s24, F]) (T := [tS 0 (bp bp0 0), tS 4 (bp b20 0), tR (Box b20 [.int .i64 t16.Kind, .int .i64 t16.Rights, .int .i64 t16.Obj, .int .i64 t16.Badge, .int .i64 t16.Guard, .int .i64 t16.Bits]), tR (Box bp0 [V.val, .int .i64 a0.t, .int .i64 a0.c.Op, .int .i64 a0.c.Cap, .int .i64 a0.c.A, .int .i64 a0.c.B, .int .i64 a0.c.C, .int .i64 a0.c.D, .int .i64 a0.slot, .int .i64 a0.cap.Kind, .int .i64 a0.cap.Rights, .int .i64 a0.cap.Obj, .int .i64 a0.cap.Badge, .int .i64 a0.cap.Guard, .int .i64 a0.cap.Bits]), tR (V.rep s19), tR (F), tS 68 (bp bp0 0), tS 69 (bp bp0 0), tS 70 (bp bp0 0), tS 71 (V.val), tS 72 (bp bp0 0), tS 73 (bp bp0 0), tS 74 (bp bp0 9), tS 75 (bp bp0 11), tS 76 (.int .i64 a0.cap.Obj), tS 77 (.agg #[.int .i64 t16.Kind, .int .i64 t16.Rights, .int .i64 t16.Obj, .int .i64 t16.Badge, .int .i64 t16.Guard, .int .i64 t16.Bits]), tR (V.rep s24), tS 78 (errV 98 t22), tS 2 (errV 98 t22)]) (D := [⟨[0], [], [6]⟩, ⟨[6], [], [7]⟩, ⟨[7], [], [8]⟩, ⟨[8, 3], [], [9]⟩, ⟨[0], [], [10]⟩, ⟨[10], [], [11]⟩, ⟨[11], [], [12]⟩, ⟨[12], [], [13]⟩, ⟨[13, 3], [], [14]⟩, ⟨[1, 2], [], [15]⟩, ⟨[9, 14, 15], [4], [16, 17]⟩, ⟨[17], [], [18]⟩]) (ini := [0, 1, 2, 3, 4, 5]) (fin := [18, 2, 3, 16, 5]) (bf := [[], [0], [0, 1], [0, 1, 2], [], [4], [4, 5], [4, 5, 6], [4, 5, 6, 7], [], [0, 1, 2, 3, 4, 5, 6, 7, 8, 9], [0, 1, 2, 3, 4, 5, 6, 7, 8, 9, 10]]) (by kernel_rfl) (by kernel_rfl) (fun Q => by kernel_rfl) (fun x w h1 h2 => ⟨(), (), (), (), (), (), EnvAll.of h1 ⟨rfl, rfl, trivial⟩, h2⟩) (fun Q => by kernel_rfl) ⟨?_, ?_, ?_, ?_, ?_, ?_, ?_, ?_, ?_, ?_, ?_, ?_, trivial⟩ ?_
 ·rintro Fr _
  exact mv rfl <| nz2 rfl () () rfl
 ·rintro Fr _
  exact nc rfl <| nz2 rfl () () rfl
 ·rintro Fr _
  exact fa Tryz.underlying72 rfl Tryz.sizeOf65 rfl rfl <| nz2 rfl () () rfl
 ·rintro Fr _ _
  exact ld Tryz.isAgg65 rfl rfl <| nz3 rfl () () () rfl
 ·rintro Fr _
  exact mv rfl <| nz2 rfl () () rfl
 ·rintro Fr _
  exact nc rfl <| nz2 rfl () () rfl
 ·rintro Fr _
  exact fa Tryz.underlying72 rfl Tryz.sizeOf45 rfl rfl <| nz2 rfl () () rfl
 ·rintro Fr _
  exact fa Tryz.underlying45 rfl Tryz.sizeOf3 rfl rfl <| nz2 rfl () () rfl
 ·rintro Fr _ _
  exact ld Tryz.isAgg3 rfl rfl <| nz3 rfl () () () rfl
 ·rintro Fr _ _
  exact SO.loadN rfl Tryz.isAgg45 Tryz.sizeOf45 rfl rfl rfl <| nz3 rfl () () () rfl
 ·rintro Fr _ _ _ _
  refine SO.call (pre := [V.rep _]) rfl Tryz.call77 rfl rfl rfl (tcb_SetRoot.ct V _ _ _ _ _ _ ht23) trivial ?_
  rintro _ _ ⟨rfl, rfl⟩
  exact SO.nilZ fun a w h1 h2 h3 h4 h5 => PZ.of2 (Y := fun Q => ∃ (_ _ _ _ _ : Unit), Q [(71, V.val), (76, .int .i64 a0.cap.Obj), (77, .agg #[.int .i64 t16.Kind, .int .i64 t16.Rights, .int .i64 t16.Obj, .int .i64 t16.Badge, .int .i64 t16.Guard, .int .i64 t16.Bits]), (78, errV 98 t22)] [V.rep s24]) (fun Q => by kernel_rfl) h1 h3 h5 ⟨(), (), (), (), (), EnvAll.of h2 ⟨rfl, rfl, rfl, rfl, trivial⟩, h4⟩
 ·rintro Fr _
  exact ag rfl <| nz2 rfl () () rfl
 rintro _ _ _ _ _
 refine tt [(2, errV 98 t22)] rfl ?_
 obtain ⟨hq, rfl⟩ := VM.ret_some V.toVI h
 cases hq
 exact S.drop <| S.b2 <| S.b2 <| S.b2 <| S.ret1 Tryz.func38 rfl rfl (hR · _ _ ⟨rfl, rfl⟩)
def invoke_doer_do.f (k : Nat) (a0 : invoke_doer) : VM ((api_Reply × (Option Int) × invoke_doer)) :=
  bif a0.c.Op == 4 then ((endp_Answer.f a0.t a0.c.A).bind fun t3 => VM.ret ((⟨0, 0, 0⟩ : api_Reply), t3, a0)) else ((invoke_doer_find.f k a0 a0.c.Cap).bind fun (t6, t7) => bif t7.isSome then (VM.ret ((⟨0, 0, 0⟩ : api_Reply), t7, a0)) else ((cspace_Cap.f k t6).bind fun t11 => bif decide (a0.c.Op ≤ 7) then ((invoke_doer_message.f k ({ a0 with slot := t6, cap := t11 } : invoke_doer)).bind fun (t15, t16) => VM.ret (t15, t16, ({ a0 with slot := t6, cap := t11 } : invoke_doer))) else (bif decide (a0.c.Op ≤ 14) then ((invoke_doer_slots.f k ({ a0 with slot := t6, cap := t11 } : invoke_doer)).bind fun (t21, t22) => VM.ret (t21, t22, ({ a0 with slot := t6, cap := t11 } : invoke_doer))) else (bif decide (a0.c.Op ≤ 18) then ((invoke_doer_thread.f k ({ a0 with slot := t6, cap := t11 } : invoke_doer)).bind fun t27 => VM.ret ((⟨0, 0, 0⟩ : api_Reply), t27, ({ a0 with slot := t6, cap := t11 } : invoke_doer))) else ((invoke_doer_device.f k ({ a0 with slot := t6, cap := t11 } : invoke_doer)).bind fun t31 => VM.ret ((⟨0, 0, 0⟩ : api_Reply), t31, ({ a0 with slot := t6, cap := t11 } : invoke_doer)))))))
set_option maxHeartbeats 8000000 in
set_option maxRecDepth 100000 in
theorem invoke_doer_do.ct (V : VW Tryz.prog) (k : Nat) (bp0 : Nat) (a0 : invoke_doer) (r0 : api_Reply) (r1 : Option Int) (rp0 : invoke_doer) (s s' : V.S) (h : VM.run V.toVI (invoke_doer_do.f k a0) s = some ((r0, r1, rp0), s')) :
    Ct Tryz.prog 21 [bp bp0 0] (fun _ => True) [Box bp0 [V.val, .int .i64 a0.t, .int .i64 a0.c.Op, .int .i64 a0.c.Cap, .int .i64 a0.c.A, .int .i64 a0.c.B, .int .i64 a0.c.C, .int .i64 a0.c.D, .int .i64 a0.slot, .int .i64 a0.cap.Kind, .int .i64 a0.cap.Rights, .int .i64 a0.cap.Obj, .int .i64 a0.cap.Badge, .int .i64 a0.cap.Guard, .int .i64 a0.cap.Bits], V.rep s] (fun u H' => u = .tuple #[.agg #[.int .i64 r0.Code, .int .i64 r0.Word, .int .i64 r0.Badge], errV 98 r1] ∧ H' = [Box bp0 [V.val, .int .i64 rp0.t, .int .i64 rp0.c.Op, .int .i64 rp0.c.Cap, .int .i64 rp0.c.A, .int .i64 rp0.c.B, .int .i64 rp0.c.C, .int .i64 rp0.c.D, .int .i64 rp0.slot, .int .i64 rp0.cap.Kind, .int .i64 rp0.cap.Rights, .int .i64 rp0.cap.Obj, .int .i64 rp0.cap.Badge, .int .i64 rp0.cap.Guard, .int .i64 rp0.cap.Bits], V.rep s']) := by
 unfold invoke_doer_do.f at h
 refine Ct.intro (n := 89) Tryz.func21 rfl rfl rfl ?_
 intro R w0 F hF hR
 refine S.seq <| S.region <| SO.alloc rfl Tryz.zeroValue34 rfl fun b1 => ag rfl <| SO.nil <| S.seq <| S.seq <| S.region <| mv rfl <| nc rfl <| fa Tryz.underlying72 rfl Tryz.sizeOf30 rfl rfl <| fa Tryz.underlying30 rfl Tryz.sizeOf3 rfl rfl <| SO.b1 <| ld Tryz.isAgg3 rfl rfl <| vv (opv_eql rfl rfl) <| SO.nil ?_
 rcases bool_or (a0.c.Op == 4) with b2 | b2
 ·replace h := VM.cond_t V.toVI b2 h
  refine S.condT rfl b2 <| S.seq ?_
  obtain ⟨t3, s5, ht4, h⟩ := VM.bind_some V.toVI h
  refine S.draw2 (Y := fun Q => ∃ (_ _ _ _ _ _ : Unit), Q [(0, bp bp0 0), (2, bp b1 0)] [Box bp0 [V.val, .int .i64 a0.t, .int .i64 a0.c.Op, .int .i64 a0.c.Cap, .int .i64 a0.c.A, .int .i64 a0.c.B, .int .i64 a0.c.C, .int .i64 a0.c.D, .int .i64 a0.slot, .int .i64 a0.cap.Kind, .int .i64 a0.cap.Rights, .int .i64 a0.cap.Obj, .int .i64 a0.cap.Badge, .int .i64 a0.cap.Guard, .int .i64 a0.cap.Bits], Box b1 [.int .i64 0, .int .i64 0, .int .i64 0], V.rep s, F]) (Z := fun Q => ∀ (_ _ _ _ _ _ : Unit), Q [(2, bp b1 0), (3, errV 98 t3)] [Box bp0 [V.val, .int .i64 a0.t, .int .i64 a0.c.Op, .int .i64 a0.c.Cap, .int .i64 a0.c.A, .int .i64 a0.c.B, .int .i64 a0.c.C, .int .i64 a0.c.D, .int .i64 a0.slot, .int .i64 a0.cap.Kind, .int .i64 a0.cap.Rights, .int .i64 a0.cap.Obj, .int .i64 a0.cap.Badge, .int .i64 a0.cap.Guard, .int .i64 a0.cap.Bits], Box b1 [.int .i64 0, .int .i64 0, .int .i64 0], V.rep s5, F]) (T := [tS 0 (bp bp0 0), tS 2 (bp b1 0), tR (Box bp0 [V.val, .int .i64 a0.t, .int .i64 a0.c.Op, .int .i64 a0.c.Cap, .int .i64 a0.c.A, .int .i64 a0.c.B, .int .i64 a0.c.C, .int .i64 a0.c.D, .int .i64 a0.slot, .int .i64 a0.cap.Kind, .int .i64 a0.cap.Rights, .int .i64 a0.cap.Obj, .int .i64 a0.cap.Badge, .int .i64 a0.cap.Guard, .int .i64 a0.cap.Bits]), tR (Box b1 [.int .i64 0, .int .i64 0, .int .i64 0]), tR (V.rep s), tR (F), tS 12 (.agg #[.int .i64 0, .int .i64 0, .int .i64 0]), tS 13 (bp bp0 0), tS 14 (bp bp0 0), tS 15 (bp bp0 0), tS 16 (V.val), tS 17 (bp bp0 0), tS 18 (bp bp0 0), tS 19 (bp bp0 1), tS 20 (.int .i64 a0.t), tS 21 (bp bp0 0), tS 22 (bp bp0 0), tS 23 (bp bp0 2), tS 24 (bp bp0 4), tS 25 (.int .i64 a0.c.A), tR (V.rep s5), tS 26 (errV 98 t3), tS 3 (errV 98 t3)]) (D := [⟨[], [], [6]⟩, ⟨[0], [], [7]⟩, ⟨[7], [], [8]⟩, ⟨[8], [], [9]⟩, ⟨[9, 2], [], [10]⟩, ⟨[0], [], [11]⟩, ⟨[11], [], [12]⟩, ⟨[12], [], [13]⟩, ⟨[13, 2], [], [14]⟩, ⟨[0], [], [15]⟩, ⟨[15], [], [16]⟩, ⟨[16], [], [17]⟩, ⟨[17], [], [18]⟩, ⟨[18, 2], [], [19]⟩, ⟨[10, 14, 19], [4], [20, 21]⟩, ⟨[1, 6, 3], [], []⟩, ⟨[21], [], [22]⟩]) (ini := [0, 1, 2, 3, 4, 5]) (fin := [1, 22, 2, 3, 20, 5]) (bf := [[], [], [1], [1, 2], [1, 2, 3], [], [5], [5, 6], [5, 6, 7], [], [9], [9, 10], [9, 10, 11], [9, 10, 11, 12], [1, 2, 3, 4, 5, 6, 7, 8, 9, 10, 11, 12, 13], [0, 1, 2, 3, 4, 5, 6, 7, 8, 9, 10, 11, 12, 13, 14], [0, 1, 2, 3, 4, 5, 6, 7, 8, 9, 10, 11, 12, 13, 14, 15]]) (by kernel_rfl) (by kernel_rfl) (fun Q => by kernel_rfl) (fun x w h1 h2 => ⟨(), (), (), (), (), (), EnvAll.of h1 ⟨rfl, rfl, trivial⟩, h2⟩) (fun Q => by kernel_rfl) ⟨?_, ?_, ?_, ?_, ?_, ?_, ?_, ?_, ?_, ?_, ?_, ?_, ?_, ?_, ?_, ?_, ?_, trivial⟩ ?_
  ·rintro Fr
   exact vv (opv_build (v := .agg #[.int .i64 0, .int .i64 0, .int .i64 0]) rfl (by intro w; kernel_rfl)) <| nz1 rfl () rfl
  ·rintro Fr _
   exact mv rfl <| nz2 rfl () () rfl
  ·rintro Fr _
   exact nc rfl <| nz2 rfl () () rfl
  ·rintro Fr _
   exact fa Tryz.underlying72 rfl Tryz.sizeOf65 rfl rfl <| nz2 rfl () () rfl
  ·rintro Fr _ _
   exact ld Tryz.isAgg65 rfl rfl <| nz3 rfl () () () rfl
  ·rintro Fr _
   exact mv rfl <| nz2 rfl () () rfl
  ·rintro Fr _
   exact nc rfl <| nz2 rfl () () rfl
  ·rintro Fr _
   exact fa Tryz.underlying72 rfl Tryz.sizeOf3 rfl rfl <| nz2 rfl () () rfl
  ·rintro Fr _ _
   exact ld Tryz.isAgg3 rfl rfl <| nz3 rfl () () () rfl
  ·rintro Fr _
   exact mv rfl <| nz2 rfl () () rfl
  ·rintro Fr _
   exact nc rfl <| nz2 rfl () () rfl
  ·rintro Fr _
   exact fa Tryz.underlying72 rfl Tryz.sizeOf30 rfl rfl <| nz2 rfl () () rfl
  ·rintro Fr _
   exact fa Tryz.underlying30 rfl Tryz.sizeOf3 rfl rfl <| nz2 rfl () () rfl
  ·rintro Fr _ _
   exact ld Tryz.isAgg3 rfl rfl <| nz3 rfl () () () rfl
  ·rintro Fr _ _ _ _
   refine SO.call (pre := [V.rep _]) rfl Tryz.call34 rfl rfl rfl (endp_Answer.ct V _ _ _ _ _ ht4) trivial ?_
   rintro _ _ ⟨rfl, rfl⟩
   exact SO.nilZ fun a w h1 h2 h3 h4 h5 => PZ.of2 (Y := fun Q => ∃ (_ _ _ _ _ : Unit), Q [(16, V.val), (20, .int .i64 a0.t), (25, .int .i64 a0.c.A), (26, errV 98 t3)] [V.rep s5]) (fun Q => by kernel_rfl) h1 h3 h5 ⟨(), (), (), (), (), EnvAll.of h2 ⟨rfl, rfl, rfl, rfl, trivial⟩, h4⟩
  ·rintro Fr _ _ _
   exact SO.storeN Tryz.sizeOf34 rfl rfl rfl rfl rfl rfl <| nz3 rfl () () () rfl
  ·rintro Fr _
   exact ag rfl <| nz2 rfl () () rfl
  rintro _ _ _ _ _ _
  refine tt [(2, bp b1 0), (3, errV 98 t3)] rfl ?_
  obtain ⟨hq, rfl⟩ := VM.ret_some V.toVI h
  cases hq
  exact S.b3 <| S.b3 <| S.b2 <| S.b3 <| S.retC1 Tryz.func21 rfl rfl rfl Tryz.isAgg34 Tryz.sizeOf34 rfl rfl (fun w hs hk => hR w _ _ ⟨rfl, rfl⟩ hs.drop hk)
 replace h := VM.cond_f V.toVI b2 h
 refine S.condF rfl b2 <| S.skip <| S.seq <| S.region <| mv rfl <| mv rfl <| nc rfl <| fa Tryz.underlying72 rfl Tryz.sizeOf30 rfl rfl <| fa Tryz.underlying30 rfl Tryz.sizeOf3 rfl rfl <| ld Tryz.isAgg3 rfl rfl ?_
 obtain ⟨⟨t6, t7⟩, s9, ht8, h⟩ := VM.bind_some V.toVI h
 refine SO.b2 <| SO.b1 <| SO.call (pre := [Box _ _, V.rep _]) rfl Tryz.call35 rfl rfl rfl (invoke_doer_find.ct V _ bp0 _ _ _ _ _ _ ht8) trivial ?_
 rintro _ _ ⟨rfl, rfl⟩
 refine mv rfl <| vv (opv_extract rfl rfl) <| vv (opv_extract rfl rfl) <| ag rfl <| ag rfl <| SO.nil <| tt [(0, bp bp0 0), (2, bp b1 0), (3, errV 98 none), (4, .int .i64 t6), (5, errV 98 t7)] rfl <| S.seq <| S.seq <| S.region <| mv rfl <| vv (opv_neqN (e := t7) Tryz.underlying74 rfl) <| SO.nil ?_
 rcases bool_or t7.isSome with b10 | b10
 ·replace h := VM.cond_t V.toVI b10 h
  refine S.condT rfl b10 <| S.seq <| S.region <| vv (opv_build (v := .agg #[.int .i64 0, .int .i64 0, .int .i64 0]) rfl (by intro w; kernel_rfl)) <| mv rfl <| SO.b2 <| SO.storeN Tryz.sizeOf34 rfl rfl rfl rfl rfl rfl <| ag rfl <| SO.nil <| tt [(2, bp b1 0), (3, errV 98 t7)] rfl ?_
  obtain ⟨hq, rfl⟩ := VM.ret_some V.toVI h
  cases hq
  exact S.b3 <| S.b3 <| S.b3 <| S.b3 <| S.retC1 Tryz.func21 rfl rfl rfl Tryz.isAgg34 Tryz.sizeOf34 rfl rfl (fun w hs hk => hR w _ _ ⟨rfl, rfl⟩ hs.drop hk)
 replace h := VM.cond_f V.toVI b10 h
 refine S.condF rfl b10 <| S.skip <| S.seq <| S.region <| mv rfl <| mv rfl <| mv rfl <| mv rfl <| nc rfl <| fa Tryz.underlying72 rfl Tryz.sizeOf65 rfl rfl <| ld Tryz.isAgg65 rfl rfl <| mv rfl ?_
 obtain ⟨t11, s13, ht12, h⟩ := VM.bind_some V.toVI h
 refine SO.b1 <| SO.call (pre := [V.rep _]) rfl Tryz.call14 rfl rfl rfl (cspace_Cap.ct V _ _ _ _ _ ht12) trivial ?_
 rintro _ _ ⟨rfl, rfl⟩
 refine nc rfl <| fa Tryz.underlying72 rfl Tryz.sizeOf3 rfl rfl <| SO.b1 <| SO.store1 Tryz.sizeOf3 rfl rfl rfl rfl <| nc rfl <| fa Tryz.underlying72 rfl Tryz.sizeOf45 rfl rfl <| SO.storeN Tryz.sizeOf45 rfl rfl rfl rfl rfl rfl <| SO.nil <| tt [(0, bp bp0 0), (2, bp b1 0), (3, errV 98 none)] rfl <| S.seq <| S.block <| S.seq <| S.region <| mv rfl <| nc rfl <| fa Tryz.underlying72 rfl Tryz.sizeOf30 rfl rfl <| fa Tryz.underlying30 rfl Tryz.sizeOf3 rfl rfl <| ld Tryz.isAgg3 rfl rfl <| vv (opv_leq rfl rfl) <| ag rfl <| SO.nil ?_
 rcases bool_or (decide (a0.c.Op ≤ 7)) with b14 | b14
 ·replace h := VM.cond_t V.toVI b14 h
  refine S.condT rfl b14 <| S.seq <| S.region <| mv rfl ?_
  obtain ⟨⟨t15, t16⟩, s18, ht17, h⟩ := VM.bind_some V.toVI h
  refine SO.b1 <| SO.b1 ?_
  have ct19 := invoke_doer_message.ct V _ bp0 _ _ _ _ _ ht17
  try dsimp only at ct19
  refine SO.call (pre := [Box _ _, V.rep _]) rfl Tryz.call36 rfl rfl rfl ct19 trivial ?_
  rintro _ _ ⟨rfl, rfl⟩
  refine vv (opv_extract rfl rfl) <| vv (opv_extract rfl rfl) <| SO.b2 <| SO.storeN Tryz.sizeOf34 rfl rfl rfl rfl rfl rfl <| ag rfl <| SO.nil <| tt [(2, bp b1 0), (3, errV 98 t16)] rfl ?_
  obtain ⟨hq, rfl⟩ := VM.ret_some V.toVI h
  cases hq
  exact S.b3 <| S.b3 <| S.b3 <| S.b3 <| S.retC1 Tryz.func21 rfl rfl rfl Tryz.isAgg34 Tryz.sizeOf34 rfl rfl (fun w hs hk => hR w _ _ ⟨rfl, rfl⟩ hs.drop hk)
 replace h := VM.cond_f V.toVI b14 h
 refine S.condF rfl b14 <| S.seq <| S.region <| mv rfl <| nc rfl <| fa Tryz.underlying72 rfl Tryz.sizeOf30 rfl rfl <| fa Tryz.underlying30 rfl Tryz.sizeOf3 rfl rfl <| ld Tryz.isAgg3 rfl rfl <| vv (opv_leq rfl rfl) <| ag rfl <| SO.nil <| tt [(0, bp bp0 0), (2, bp b1 0), (3, errV 98 none), (65, .bool (decide (a0.c.Op ≤ 14)))] rfl ?_
 rcases bool_or (decide (a0.c.Op ≤ 14)) with b20 | b20
 ·replace h := VM.cond_t V.toVI b20 h
  refine S.condT rfl b20 <| S.seq <| S.region <| mv rfl ?_
  obtain ⟨⟨t21, t22⟩, s24, ht23, h⟩ := VM.bind_some V.toVI h
  refine SO.b1 <| SO.b1 ?_
  have ct25 := invoke_doer_slots.ct V _ bp0 _ _ _ _ _ ht23
  try dsimp only at ct25
  refine SO.call (pre := [Box _ _, V.rep _]) rfl Tryz.call37 rfl rfl rfl ct25 trivial ?_
  rintro _ _ ⟨rfl, rfl⟩
  refine vv (opv_extract rfl rfl) <| vv (opv_extract rfl rfl) <| SO.b2 <| SO.storeN Tryz.sizeOf34 rfl rfl rfl rfl rfl rfl <| ag rfl <| SO.nil ?_
  obtain ⟨hq, rfl⟩ := VM.ret_some V.toVI h
  cases hq
  exact S.b3 <| S.b3 <| S.b3 <| S.b3 <| S.retC1 Tryz.func21 rfl rfl rfl Tryz.isAgg34 Tryz.sizeOf34 rfl rfl (fun w hs hk => hR w _ _ ⟨rfl, rfl⟩ hs.drop hk)
 replace h := VM.cond_f V.toVI b20 h
 refine S.condF rfl b20 <| S.seq <| S.region <| mv rfl <| nc rfl <| fa Tryz.underlying72 rfl Tryz.sizeOf30 rfl rfl <| fa Tryz.underlying30 rfl Tryz.sizeOf3 rfl rfl <| ld Tryz.isAgg3 rfl rfl <| vv (opv_leq rfl rfl) <| ag rfl <| SO.nil <| tt [(0, bp bp0 0), (2, bp b1 0), (3, errV 98 none), (76, .bool (decide (a0.c.Op ≤ 18)))] rfl ?_
 rcases bool_or (decide (a0.c.Op ≤ 18)) with b26 | b26
 ·replace h := VM.cond_t V.toVI b26 h
  refine S.condT rfl b26 <| S.seq <| S.region <| vv (opv_build (v := .agg #[.int .i64 0, .int .i64 0, .int .i64 0]) rfl (by intro w; kernel_rfl)) <| mv rfl ?_
  obtain ⟨t27, s29, ht28, h⟩ := VM.bind_some V.toVI h
  refine SO.b1 <| SO.b1 ?_
  have ct30 := invoke_doer_thread.ct V _ bp0 _ _ _ _ ht28
  try dsimp only at ct30
  refine SO.call (pre := [Box _ _, V.rep _]) rfl Tryz.call38 rfl rfl rfl ct30 trivial ?_
  rintro _ _ ⟨rfl, rfl⟩
  refine SO.b2 <| SO.storeN Tryz.sizeOf34 rfl rfl rfl rfl rfl rfl <| ag rfl <| SO.nil ?_
  obtain ⟨hq, rfl⟩ := VM.ret_some V.toVI h
  cases hq
  exact S.b3 <| S.b3 <| S.b3 <| S.b3 <| S.retC1 Tryz.func21 rfl rfl rfl Tryz.isAgg34 Tryz.sizeOf34 rfl rfl (fun w hs hk => hR w _ _ ⟨rfl, rfl⟩ hs.drop hk)
 replace h := VM.cond_f V.toVI b26 h
 refine S.condF rfl b26 <| S.skip <| S.inBlock <| S.seq <| S.region <| vv (opv_build (v := .agg #[.int .i64 0, .int .i64 0, .int .i64 0]) rfl (by intro w; kernel_rfl)) <| mv rfl ?_
 obtain ⟨t31, s33, ht32, h⟩ := VM.bind_some V.toVI h
 refine SO.b1 <| SO.b1 ?_
 have ct34 := invoke_doer_device.ct V _ bp0 _ _ _ _ ht32
 try dsimp only at ct34
 refine SO.call (pre := [Box _ _, V.rep _]) rfl Tryz.call39 rfl rfl rfl ct34 trivial ?_
 rintro _ _ ⟨rfl, rfl⟩
 refine SO.b2 <| SO.storeN Tryz.sizeOf34 rfl rfl rfl rfl rfl rfl <| ag rfl <| SO.nil ?_
 obtain ⟨hq, rfl⟩ := VM.ret_some V.toVI h
 cases hq
 exact S.b3 <| S.b3 <| S.b3 <| S.b3 <| S.retC1 Tryz.func21 rfl rfl rfl Tryz.isAgg34 Tryz.sizeOf34 rfl rfl (fun w hs hk => hR w _ _ ⟨rfl, rfl⟩ hs.drop hk)
def law10_Pick.f (a0 : Int) (a1 : Int) : Option (Int) :=
  bif decide (a0 < 0) then ((chk (decide (a1 ≠ 0))).bind fun _ => some ((w64 (0 - (w64 (a0 + 1)))).tmod a1)) else ((chk (decide (a1 ≠ 0))).bind fun _ => some (a0.tmod a1))
set_option maxHeartbeats 8000000 in
set_option maxRecDepth 100000 in
theorem law10_Pick.ct (a0 : Int) (a1 : Int) (r0 : Int) (h : law10_Pick.f a0 a1 = some r0) :
    Ct Tryz.prog 16 [.int .i64 a0, .int .i64 a1] (fun _ => True) [] (fun u H' => u = .int .i64 r0 ∧ H' = []) := by
 unfold law10_Pick.f at h
 refine Ct.intro (n := 13) Tryz.func16 rfl rfl rfl ?_
 intro R w0 F hF hR
 refine S.seq <| S.region <| ag rfl <| SO.nil <| S.seq <| S.seq <| S.region <| mv rfl <| vv (opv_lss rfl rfl) <| SO.nil ?_
 rcases bool_or (decide (a0 < 0)) with b1 | b1
 ·replace h := cond_t b1 h
  refine S.condT rfl b1 <| S.region <| mv rfl <| vv (opv_add rfl rfl) <| vv (opv_neg rfl) <| ag rfl <| SO.nil <| S.seq <| S.region <| mv rfl <| mv rfl ?_
  obtain ⟨_, hc2, h⟩ := opt_bind h
  refine vv (opv_rem rfl rfl (of_decide_eq_true (chk_some hc2))) <| ag rfl <| SO.nil <| tt [(4, .int .i64 ((w64 (0 - (w64 (a0 + 1)))).tmod a1))] rfl ?_
  cases h
  exact S.ret1 Tryz.func16 rfl rfl (hR · _ _ ⟨rfl, rfl⟩)
 replace h := cond_f b1 h
 refine S.condF rfl b1 <| S.skip <| S.seq <| S.region <| mv rfl <| mv rfl ?_
 obtain ⟨_, hc3, h⟩ := opt_bind h
 refine vv (opv_rem rfl rfl (of_decide_eq_true (chk_some hc3))) <| ag rfl <| SO.nil <| tt [(4, .int .i64 (a0.tmod a1))] rfl ?_
 cases h
 exact S.ret1 Tryz.func16 rfl rfl (hR · _ _ ⟨rfl, rfl⟩)
def invoke_Woken.f (a1 : Int) : VM ((api_Reply × Bool)) :=
  (invoke_Ready.f a1).bind fun t2 => bif !t2 then (VM.ret ((⟨0, 0, 0⟩ : api_Reply), false)) else ((lay_Field.f a1 3).bind fun t6 => (lay_Field.f a1 4).bind fun t9 => VM.ret ((⟨0, band .i64 t6 2147483647, band .i64 t9 65535⟩ : api_Reply), true))
set_option maxHeartbeats 8000000 in
set_option maxRecDepth 100000 in
theorem invoke_Woken.ct (V : VW Tryz.prog) (a1 : Int) (r0 : api_Reply) (r1 : Bool) (s s' : V.S) (h : VM.run V.toVI (invoke_Woken.f a1) s = some ((r0, r1), s')) :
    Ct Tryz.prog 11 [V.val, .int .i64 a1] (fun _ => True) [V.rep s] (fun u H' => u = .tuple #[.agg #[.int .i64 r0.Code, .int .i64 r0.Word, .int .i64 r0.Badge], .bool r1] ∧ H' = [V.rep s']) := by
 unfold invoke_Woken.f at h
 refine Ct.intro (n := 20) Tryz.func11 rfl rfl rfl ?_
 intro R w0 F hF hR
 refine S.seq <| S.region <| SO.alloc rfl Tryz.zeroValue34 rfl fun b1 => ag rfl <| SO.nil <| S.seq <| S.seq <| S.region <| mv rfl <| mv rfl ?_
 obtain ⟨t2, s4, ht3, h⟩ := VM.bind_some V.toVI h
 refine SO.b1 <| SO.call (pre := [V.rep _]) rfl Tryz.call13 rfl rfl rfl (invoke_Ready.ct V _ _ _ _ ht3) trivial ?_
 rintro _ _ ⟨rfl, rfl⟩
 refine vv (opv_not rfl) <| SO.nil ?_
 rcases bool_or (!t2) with b5 | b5
 ·replace h := VM.cond_t V.toVI b5 h
  refine S.condT rfl b5 <| S.seq <| S.region <| vv (opv_build (v := .agg #[.int .i64 0, .int .i64 0, .int .i64 0]) rfl (by intro w; kernel_rfl)) <| SO.b1 <| SO.storeN Tryz.sizeOf34 rfl rfl rfl rfl rfl rfl <| ag rfl <| SO.nil <| tt [(4, bp b1 0), (5, .bool false)] rfl ?_
  obtain ⟨hq, rfl⟩ := VM.ret_some V.toVI h
  cases hq
  exact S.b2 <| S.b2 <| S.b2 <| S.retC1 Tryz.func11 rfl rfl rfl Tryz.isAgg34 Tryz.sizeOf34 rfl rfl (fun w hs hk => hR w _ _ ⟨rfl, rfl⟩ hs.drop hk)
 replace h := VM.cond_f V.toVI b5 h
 refine S.condF rfl b5 <| S.skip <| S.seq <| S.region <| mv rfl <| mv rfl ?_
 obtain ⟨t6, s8, ht7, h⟩ := VM.bind_some V.toVI h
 refine SO.call (pre := [V.rep _]) rfl Tryz.call27 rfl rfl rfl (lay_Field.ct V _ _ _ _ _ ht7) trivial ?_
 rintro _ _ ⟨rfl, rfl⟩
 refine vv (opv_and rfl rfl) <| mv rfl <| mv rfl ?_
 obtain ⟨t9, s11, ht10, h⟩ := VM.bind_some V.toVI h
 refine SO.call (pre := [V.rep _]) rfl Tryz.call27 rfl rfl rfl (lay_Field.ct V _ _ _ _ _ ht10) trivial ?_
 rintro _ _ ⟨rfl, rfl⟩
 refine vv (opv_and rfl rfl) <| vv (opv_build (v := .agg #[.int .i64 0, .int .i64 (band .i64 t6 2147483647), .int .i64 (band .i64 t9 65535)]) rfl (by intro w; kernel_rfl)) <| SO.b1 <| SO.storeN Tryz.sizeOf34 rfl rfl rfl rfl rfl rfl <| ag rfl <| SO.nil <| tt [(4, bp b1 0), (5, .bool true)] rfl ?_
 obtain ⟨hq, rfl⟩ := VM.ret_some V.toVI h
 cases hq
 exact S.b2 <| S.b2 <| S.b2 <| S.retC1 Tryz.func11 rfl rfl rfl Tryz.isAgg34 Tryz.sizeOf34 rfl rfl (fun w hs hk => hR w _ _ ⟨rfl, rfl⟩ hs.drop hk)
def ref10_Fresh.f (a0 : Int) : Option (ref10_Obj) :=
  some (⟨a0, 0, 0, 0, 0, 0, [], 0, 0, -1, 0, 0, -1, -1, (⟨0, 0, 0, 0, 0, 0⟩ : api_Cap), (⟨-1, -1, -1, -1⟩ : A4), (⟨0, 0, 0, 0⟩ : A4), -1, 0, -1, 0⟩ : ref10_Obj)
set_option maxHeartbeats 8000000 in
set_option maxRecDepth 100000 in
theorem ref10_Fresh.ct (a0 : Int) (r0 : ref10_Obj) (h : ref10_Fresh.f a0 = some r0) :
    Ct Tryz.prog 18 [.int .i64 a0] (fun _ => True) [] (fun u H' => ∃ w_r0_Queue, u = .agg #[.int .i64 r0.Kind, .int .i64 r0.Size, .int .i64 r0.Used, .int .i64 r0.First, .int .i64 r0.Radix, .int .i64 r0.Wait, w_r0_Queue, .int .i64 r0.Word, .int .i64 r0.State, .int .i64 r0.Owing, .int .i64 r0.Badge, .int .i64 r0.Prio, .int .i64 r0.On, .int .i64 r0.Owes, .int .i64 r0.Root.Kind, .int .i64 r0.Root.Rights, .int .i64 r0.Root.Obj, .int .i64 r0.Root.Badge, .int .i64 r0.Root.Guard, .int .i64 r0.Root.Bits, .int .i64 r0.Pages.a0, .int .i64 r0.Pages.a1, .int .i64 r0.Pages.a2, .int .i64 r0.Pages.a3, .int .i64 r0.Right.a0, .int .i64 r0.Right.a1, .int .i64 r0.Right.a2, .int .i64 r0.Right.a3, .int .i64 r0.In, .int .i64 r0.Page, .int .i64 r0.Bound, .int .i64 r0.Mask] ∧ H' = [Own 3 (ekI .i64) w_r0_Queue r0.Queue]) := by
 unfold ref10_Fresh.f at h
 refine Ct.intro (n := 6) Tryz.func18 rfl rfl rfl ?_
 intro R w0 F hF hR
 refine S.seq <| S.region <| SO.alloc rfl Tryz.zeroValue48 rfl fun b1 => SO.nil <| S.seq <| S.region <| mv rfl <| vv (opv_build (v := .agg #[.int .i64 (-1), .int .i64 (-1), .int .i64 (-1), .int .i64 (-1)]) rfl (by intro w; kernel_rfl)) <| vv (opv_build (v := .agg #[.int .i64 a0, .int .i64 0, .int .i64 0, .int .i64 0, .int .i64 0, .int .i64 0, .slice none 0 0, .int .i64 0, .int .i64 0, .int .i64 (-1), .int .i64 0, .int .i64 0, .int .i64 (-1), .int .i64 (-1), .int .i64 0, .int .i64 0, .int .i64 0, .int .i64 0, .int .i64 0, .int .i64 0, .int .i64 (-1), .int .i64 (-1), .int .i64 (-1), .int .i64 (-1), .int .i64 0, .int .i64 0, .int .i64 0, .int .i64 0, .int .i64 (-1), .int .i64 0, .int .i64 (-1), .int .i64 0]) rfl (by intro w; kernel_rfl)) <| SO.storeN Tryz.sizeOf48 rfl rfl rfl rfl rfl rfl <| SO.nil ?_
 cases h
 exact S.newOwn 3 (ekI .i64) <| S.b2 <| S.b1 <| S.b2 <| S.retC Tryz.func18 rfl rfl Tryz.isAgg48 Tryz.sizeOf48 rfl rfl (fun w hs hk => hR w _ _ ⟨(.slice none 0 0), rfl, rfl⟩ hs.drop hk)
def ref10_New.l1 : Nat → (Int × (List ref10_Slot)) → Option ((List ref10_Slot))
  | 0, _ => none
  | k + 1, (x2_1, y1_0_1) => bif decide (x2_1 < 96) then ((app y1_0_1 ([(⟨(⟨0, 0, 0, 0, 0, 0⟩ : api_Cap), -1, []⟩ : ref10_Slot)])).bind fun zs5 => ref10_New.l1  k (w64 (x2_1 + 1), zs5)) else (some y1_0_1)
def ref10_New.l2 : Nat → (Int × (List ref10_Obj)) → Option ((List ref10_Obj))
  | 0, _ => none
  | k + 1, (x3_2, y1_1_2) => bif decide (x3_2 < 32) then ((ref10_Fresh.f 0).bind fun t18 => (app y1_1_2 ([t18])).bind fun zs25 => ref10_New.l2  k (w64 (x3_2 + 1), zs25)) else (some y1_1_2)
def ref10_New.f (k : Nat) : Option (ref10_State) :=
  (ref10_New.l1 k (0, [])).bind fun y1_0_e1 => (ref10_New.l2 k (0, [])).bind fun y1_1_e2 => some (⟨y1_0_e1, y1_1_e2, 0, 0⟩ : ref10_State)
set_option maxHeartbeats 8000000 in
set_option maxRecDepth 100000 in
theorem ref10_New.ct (k : Nat) (r0 : ref10_State) (h : ref10_New.f k  = some r0) :
    Ct Tryz.prog 17 [] (fun _ => True) [] (fun u H' => ∃ b_r0 w_r0_Slots w_r0_Objs, u = bp b_r0 0 ∧ H' = [Box b_r0 [w_r0_Slots, w_r0_Objs, .int .i64 r0.NS, .int .i64 r0.NO], OwnR 62 kr_ref10_Slot w_r0_Slots r0.Slots, OwnR 48 kr_ref10_Obj w_r0_Objs r0.Objs]) := by
 unfold ref10_New.f at h
 refine Ct.intro (n := 35) Tryz.func17 rfl rfl rfl ?_
 intro R w0 F hF hR
 refine S.seq <| S.region <| ag rfl <| SO.nil <| S.seq <| S.region <| vv (opv_build (v := .agg #[.slice none 0 0, .slice none 0 0, .int .i64 0, .int .i64 0]) rfl (by intro w; kernel_rfl)) <| SO.box rfl rfl rfl fun b1 => ag rfl <| SO.nil <| S.seq <| S.seq <| S.region <| ag rfl <| SO.nil ?_
 obtain ⟨y1_0_e1, hlp1, h⟩ := opt_bind h
 refine S.newOwnR 62 kr_ref10_Slot <| S.b2 <| S.b2 <| S.b2 <| tt [(2, .int .i64 0), (1, bp b1 0), (0, .pointer none)] rfl ?_
 refine S.forloop (X := (Int × (List ref10_Slot)) × Value) (O := (List ref10_Slot)) (fun m x => ref10_New.l1  m x.1) (fun x => match x with | ((x2_1, y1_0_1), vy1_0_1) => [(2, .int .i64 x2_1), (1, bp b1 0), (0, .pointer none)]) (fun x => match x with | ((x2_1, y1_0_1), vy1_0_1) => [OwnR 62 kr_ref10_Slot vy1_0_1 y1_0_1, Box b1 [vy1_0_1, .slice none 0 0, .int .i64 0, .int .i64 0], F]) (fun Sk => (fun y1_0_e1 => ∀ vy1_0_e1 : Value, Sk [(0, .pointer none), (1, bp b1 0)] [OwnR 62 kr_ref10_Slot vy1_0_e1 y1_0_e1, Box b1 [vy1_0_e1, .slice none 0 0, .int .i64 0, .int .i64 0], F])) (fun _ => rfl) ?_ (m := k) (x := ((0, []), .slice none 0 0)) hlp1 ?_
 ·clear h hlp1
  intro k x o_1 h hK1 ih1
  obtain ⟨⟨x2_1, y1_0_1⟩, vy1_0_1⟩ := x
  replace h : ref10_New.l1  (k + 1) (x2_1, y1_0_1) = some o_1 := h
  first | rw [ref10_New.l1] at h | unfold ref10_New.l1 at h
  refine S.seq <| S.seq <| S.region <| mv rfl <| vv (opv_lss rfl rfl) <| SO.nil ?_
  rcases bool_or (decide (x2_1 < 96)) with b2 | b2
  ·replace h := cond_t b2 h
   refine S.condT rfl b2 <| S.skip <| S.seq <| S.block <| S.region <| mv rfl <| mv rfl <| nc rfl <| fa Tryz.underlying52 rfl Tryz.sizeOf49 rfl rfl <| SO.b1 <| ld Tryz.isAgg49 rfl rfl <| vv (opv_build (v := .agg #[.int .i64 0, .int .i64 0, .int .i64 0, .int .i64 0, .int .i64 0, .int .i64 0, .int .i64 (-1), .slice none 0 0]) rfl (by intro w; kernel_rfl)) <| SO.emp <| SO.buildSliceR1 (K := kr_ref10_Slot) (y := (⟨(⟨0, 0, 0, 0, 0, 0⟩ : api_Cap), -1, []⟩ : ref10_Slot)) (cs := [.int .i64 0, .int .i64 0, .int .i64 0, .int .i64 0, .int .i64 0, .int .i64 0, .int .i64 (-1), .slice none 0 0]) rfl Tryz.underlying49 Tryz.sizeOf62 Tryz.zeroValue62 rfl rfl (by kernel_rfl) ⟨rfl, rfl, rfl, rfl, rfl, rfl, rfl, Rd.nil0, trivial⟩ fun v3 => ?_
   obtain ⟨zs5, hz6, h⟩ := opt_bind h
   refine SO.b2 <| SO.b1 <| SO.b1 <| SO.appendR rfl Tryz.underlying49 inf62 rfl rfl rfl (by decide) rfl rfl rfl hz6 fun v7 => nc rfl <| fa Tryz.underlying52 rfl Tryz.sizeOf49 rfl rfl <| SO.oneR fun h18 => SO.b1 <| SO.store1 Tryz.sizeOf49 rfl rfl h18 rfl <| SO.nil <| tt [(2, .int .i64 x2_1), (1, bp b1 0), (0, .pointer none)] rfl <| S.inBlock <| S.region <| mv rfl <| vv (opv_add rfl rfl) <| ag rfl <| SO.nil <| S.b2 <| S.b1 <| S.b2 ?_
   refine S.to ?_ (ih1 ((w64 (x2_1 + 1), zs5), v7) h)
   exact ⟨rfl, rfl, rfl, trivial⟩
  replace h := cond_f b2 h
  refine S.condF rfl b2 <| S.exit rfl ?_
  cases h
  refine S.b2 <| S.b2 <| S.b2 ?_
  refine S.to ?_ (hK1 vy1_0_1)
  exact ⟨rfl, rfl, trivial⟩
 rintro vy1_0_e1
 refine S.seq <| S.seq <| S.region <| ag rfl <| SO.nil ?_
 obtain ⟨y1_1_e2, hlp2, h⟩ := opt_bind h
 refine S.newOwnR 48 kr_ref10_Obj <| S.b3 <| S.b3 <| S.b3 <| S.b3 <| tt [(3, .int .i64 0), (0, .pointer none), (1, bp b1 0)] rfl ?_
 refine S.forloop (X := (Int × (List ref10_Obj)) × Value) (O := (List ref10_Obj)) (fun m x => ref10_New.l2  m x.1) (fun x => match x with | ((x3_2, y1_1_2), vy1_1_2) => [(3, .int .i64 x3_2), (0, .pointer none), (1, bp b1 0)]) (fun x => match x with | ((x3_2, y1_1_2), vy1_1_2) => [OwnR 48 kr_ref10_Obj vy1_1_2 y1_1_2, OwnR 62 kr_ref10_Slot vy1_0_e1 y1_0_e1, Box b1 [vy1_0_e1, vy1_1_2, .int .i64 0, .int .i64 0], F]) (fun Sk => (fun y1_1_e2 => ∀ vy1_1_e2 : Value, Sk [(0, .pointer none), (1, bp b1 0)] [OwnR 48 kr_ref10_Obj vy1_1_e2 y1_1_e2, OwnR 62 kr_ref10_Slot vy1_0_e1 y1_0_e1, Box b1 [vy1_0_e1, vy1_1_e2, .int .i64 0, .int .i64 0], F])) (fun _ => rfl) ?_ (m := k) (x := ((0, []), .slice none 0 0)) hlp2 ?_
 ·clear h hlp2
  intro k x o_2 h hK2 ih2
  obtain ⟨⟨x3_2, y1_1_2⟩, vy1_1_2⟩ := x
  replace h : ref10_New.l2  (k + 1) (x3_2, y1_1_2) = some o_2 := h
  first | rw [ref10_New.l2] at h | unfold ref10_New.l2 at h
  refine S.seq <| S.seq <| S.region <| mv rfl <| vv (opv_lss rfl rfl) <| SO.nil ?_
  rcases bool_or (decide (x3_2 < 32)) with b9 | b9
  ·replace h := cond_t b9 h
   refine S.condT rfl b9 <| S.skip <| S.seq <| S.block <| S.openR fun raws10 A11 hrel12 hR13 => S.b1 <| S.openR fun raws14 A15 hrel16 hR17 => ?_
   obtain ⟨t18, ht19, h⟩ := opt_bind h
   obtain ⟨zs25, hz26, h⟩ := opt_bind h
   refine S.draw2 (Y := fun Q => ∃ (_ _ _ _ _ _ : Unit), Q [(1, bp b1 0), (3, .int .i64 x3_2), (0, .pointer none)] [OwnO 62 kr_ref10_Slot vy1_0_e1 raws14 A15 y1_0_e1, OwnO 48 kr_ref10_Obj vy1_1_2 raws10 A11 y1_1_2, Box b1 [vy1_0_e1, vy1_1_2, .int .i64 0, .int .i64 0], F]) (Z := fun Q => ∀ (_ _ : Unit) (v27 : Value) (_ _ : Unit), Q [(3, .int .i64 x3_2), (0, .pointer none), (1, bp b1 0), (31, v27)] [OwnR 48 kr_ref10_Obj v27 zs25, Box b1 [vy1_0_e1, v27, .int .i64 0, .int .i64 0], OwnO 62 kr_ref10_Slot vy1_0_e1 raws14 A15 y1_0_e1, F]) (T := [tS 1 (bp b1 0), tE [(3, .int .i64 x3_2), (0, .pointer none)], tR (OwnO 62 kr_ref10_Slot vy1_0_e1 raws14 A15 y1_0_e1), tR (OwnO 48 kr_ref10_Obj vy1_1_2 raws10 A11 y1_1_2), tR (Box b1 [vy1_0_e1, vy1_1_2, .int .i64 0, .int .i64 0]), tR (F), tS 24 (bp b1 0), tS 25 (bp b1 0), tS 26 (bp b1 0), tS 27 (bp b1 1), tS 28 (vy1_1_2), ⟨Value, [29], (fun u20_Queue => [(29, .agg #[.int .i64 t18.Kind, .int .i64 t18.Size, .int .i64 t18.Used, .int .i64 t18.First, .int .i64 t18.Radix, .int .i64 t18.Wait, u20_Queue, .int .i64 t18.Word, .int .i64 t18.State, .int .i64 t18.Owing, .int .i64 t18.Badge, .int .i64 t18.Prio, .int .i64 t18.On, .int .i64 t18.Owes, .int .i64 t18.Root.Kind, .int .i64 t18.Root.Rights, .int .i64 t18.Root.Obj, .int .i64 t18.Root.Badge, .int .i64 t18.Root.Guard, .int .i64 t18.Root.Bits, .int .i64 t18.Pages.a0, .int .i64 t18.Pages.a1, .int .i64 t18.Pages.a2, .int .i64 t18.Pages.a3, .int .i64 t18.Right.a0, .int .i64 t18.Right.a1, .int .i64 t18.Right.a2, .int .i64 t18.Right.a3, .int .i64 t18.In, .int .i64 t18.Page, .int .i64 t18.Bound, .int .i64 t18.Mask])]), (fun u20_Queue => [Own 3 (ekI .i64) u20_Queue t18.Queue]), fun _ => rfl⟩, ⟨Value, [30], (fun v23 => [(30, v23)]), (fun v23 => [OwnR 48 kr_ref10_Obj v23 ([t18])]), fun _ => rfl⟩, ⟨Value, [31], (fun v27 => [(31, v27)]), (fun v27 => [OwnR 48 kr_ref10_Obj v27 zs25]), fun _ => rfl⟩, tS 32 (bp b1 0), tS 33 (bp b1 1), ⟨Value, [31], (fun v27 => [(31, v27)]), (fun v27 => [OwnR 48 kr_ref10_Obj v27 zs25, Box b1 [vy1_0_e1, v27, .int .i64 0, .int .i64 0]]), fun _ => rfl⟩]) (D := [⟨[0], [], [6]⟩, ⟨[0], [], [7]⟩, ⟨[7], [], [8]⟩, ⟨[8], [], [9]⟩, ⟨[9, 4], [], [10]⟩, ⟨[], [], [11]⟩, ⟨[], [11], [12]⟩, ⟨[10], [12, 3], [13]⟩, ⟨[6], [], [14]⟩, ⟨[14], [], [15]⟩, ⟨[15], [4, 13], [16]⟩]) (ini := [0, 1, 2, 3, 4, 5]) (fin := [1, 0, 16, 2, 5]) (bf := [[], [], [1], [1, 2], [1, 2, 3], [], [5], [1, 2, 3, 4, 5, 6], [0, 1, 2, 3, 4, 5, 6, 7], [0, 1, 2, 3, 4, 5, 6, 7, 8], [0, 1, 2, 3, 4, 5, 6, 7, 8, 9]]) (by kernel_rfl) (by kernel_rfl) (fun Q => by kernel_rfl) (fun x w h1 h2 => ⟨(), (), (), (), (), (), EnvAll.of h1 ⟨rfl, rfl, rfl, trivial⟩, h2⟩) (fun Q => by kernel_rfl) ⟨?_, ?_, ?_, ?_, ?_, ?_, ?_, ?_, ?_, ?_, ?_, trivial⟩ ?_
   ·rintro Fr _
    exact mv rfl <| nz2 rfl () () rfl
   ·rintro Fr _
    exact mv rfl <| nz2 rfl () () rfl
   ·rintro Fr _
    exact nc rfl <| nz2 rfl () () rfl
   ·rintro Fr _
    exact fa Tryz.underlying52 rfl Tryz.sizeOf50 rfl rfl <| nz2 rfl () () rfl
   ·rintro Fr _ _
    exact ld Tryz.isAgg50 rfl rfl <| nz3 rfl () () () rfl
   ·rintro Fr
    refine SO.call (pre := []) rfl Tryz.call18 rfl rfl rfl (ref10_Fresh.ct _ _ ht19) trivial ?_
    rintro _ _ ⟨u20_Queue, rfl, rfl⟩
    exact SO.rd fun hr21 => SO.nilZ fun a w h1 h2 h3 h4 h5 => PZ.of h1 h3 h5 (.cons u20_Queue (.nil ⟨EnvAll.of h2 ⟨rfl, trivial⟩, h4⟩))
   ·rintro Fr u20_Queue
    exact SO.rd fun hr22 => SO.buildSliceR1 (K := kr_ref10_Obj) (y := t18) (cs := [.int .i64 t18.Kind, .int .i64 t18.Size, .int .i64 t18.Used, .int .i64 t18.First, .int .i64 t18.Radix, .int .i64 t18.Wait, u20_Queue, .int .i64 t18.Word, .int .i64 t18.State, .int .i64 t18.Owing, .int .i64 t18.Badge, .int .i64 t18.Prio, .int .i64 t18.On, .int .i64 t18.Owes, .int .i64 t18.Root.Kind, .int .i64 t18.Root.Rights, .int .i64 t18.Root.Obj, .int .i64 t18.Root.Badge, .int .i64 t18.Root.Guard, .int .i64 t18.Root.Bits, .int .i64 t18.Pages.a0, .int .i64 t18.Pages.a1, .int .i64 t18.Pages.a2, .int .i64 t18.Pages.a3, .int .i64 t18.Right.a0, .int .i64 t18.Right.a1, .int .i64 t18.Right.a2, .int .i64 t18.Right.a3, .int .i64 t18.In, .int .i64 t18.Page, .int .i64 t18.Bound, .int .i64 t18.Mask]) rfl Tryz.underlying50 Tryz.sizeOf48 Tryz.zeroValue48 rfl rfl (by kernel_rfl) ⟨rfl, rfl, rfl, rfl, rfl, rfl, hr22, rfl, rfl, rfl, rfl, rfl, rfl, rfl, rfl, rfl, rfl, rfl, rfl, rfl, rfl, rfl, rfl, rfl, rfl, rfl, rfl, rfl, rfl, rfl, rfl, rfl, trivial⟩ fun v23 => SO.nilZ fun a w h1 h2 h3 h4 h5 => PZ.of h1 h3 h5 (.cons v23 (.nil ⟨EnvAll.of h2 ⟨rfl, trivial⟩, h4⟩))
   ·rintro Fr _ v23 _
    exact SO.b1 <| SO.closeR <| SO.b1 <| SO.b1 <| SO.appendR rfl Tryz.underlying50 inf48 rfl rfl rfl (by decide) rfl rfl rfl hz26 fun v27 => SO.nilZ fun a w h1 h2 h3 h4 h5 => PZ.of h1 h3 h5 (.cons () (.cons v27 (.nil ⟨EnvAll.of h2 ⟨rfl, rfl, trivial⟩, h4⟩)))
   ·rintro Fr _
    exact nc rfl <| nz2 rfl () () rfl
   ·rintro Fr _
    exact fa Tryz.underlying52 rfl Tryz.sizeOf50 rfl rfl <| nz2 rfl () () rfl
   ·rintro Fr _ _ v27
    exact SO.b1 <| SO.oneR fun h128 => SO.b1 <| SO.store1 Tryz.sizeOf50 rfl rfl h128 rfl <| SO.b1 <| SO.nilZ fun a w h1 h2 h3 h4 h5 => PZ.of h1 h3 h5 (.cons () (.cons v27 (.nil ⟨EnvAll.of h2 ⟨rfl, rfl, trivial⟩, h4⟩)))
   rintro _ _ v27 _ _
   refine tt [(3, .int .i64 x3_2), (0, .pointer none), (1, bp b1 0)] rfl <| S.inBlock <| S.region <| mv rfl <| vv (opv_add rfl rfl) <| ag rfl <| SO.nil <| S.b2 <| S.closeR <| S.b3 <| S.b3 <| S.b2 <| S.b3 ?_
   refine S.to ?_ (ih2 ((w64 (x3_2 + 1), zs25), v27) h)
   exact ⟨rfl, rfl, rfl, trivial⟩
  replace h := cond_f b9 h
  refine S.condF rfl b9 <| S.exit rfl ?_
  cases h
  refine S.b3 <| S.b3 <| S.b3 <| S.b3 ?_
  refine S.to ?_ (hK2 vy1_1_2)
  exact ⟨rfl, rfl, trivial⟩
 rintro vy1_1_e2
 refine S.seq <| S.region <| mv rfl <| ag rfl <| SO.nil ?_
 cases h
 exact S.b3 <| S.b1 <| S.b2 <| S.b3 <| S.ret1 Tryz.func17 rfl rfl (hR · _ _ ⟨b1, vy1_0_e1, vy1_1_e2, rfl, rfl⟩)
def ref10_Boot.l1 (a0 : Int) : Nat → (Int × (List ref10_Obj) × (List ref10_Slot)) → Option (((List ref10_Slot) × (List ref10_Obj)))
  | 0, _ => none
  | k + 1, (x6_1, qu4_Objs_1, qu4_Slots_1) => bif decide (x6_1 < a0) then ((ref10_Fresh.f 5).bind fun t9 => (at_ qu4_Objs_1 x6_1).bind fun x18 => (at_ qu4_Slots_1 (w64 (14 + x6_1))).bind fun x31 => ref10_Boot.l1 a0 k (w64 (x6_1 + 1), qu4_Objs_1.set x6_1.toNat ({ t9 with State := 1, Root := (⟨2, 7, a0, 0, 0, 8⟩ : api_Cap) } : ref10_Obj), qu4_Slots_1.set (w64 (14 + x6_1)).toNat ({ x31 with Cap := (⟨5, 7, x6_1, 0, 0, 0⟩ : api_Cap) } : ref10_Slot))) else (some (qu4_Slots_1, qu4_Objs_1))
def ref10_Boot.l2 (a0 : Int) : Nat → (Int × (List ref10_Obj) × (List ref10_Slot)) → Option (((List ref10_Slot) × (List ref10_Obj)))
  | 0, _ => none
  | k + 1, (x8_2, qu4_Objs_2, qu4_Slots_2) => bif decide (x8_2 < 8) then ((at_ ([2, 2, 1, 3, 4, 8, 7, 6]) x8_2).bind fun x52 => (ref10_Fresh.f x52).bind fun t54 => (at_ qu4_Objs_2 (w64 (a0 + x8_2))).bind fun x58 => bif decide (2 ≤ x8_2) then ((at_ ([2, 2, 1, 3, 4, 8, 7, 6]) x8_2).bind fun x73 => (at_ qu4_Slots_2 (w64 (6 + x8_2))).bind fun x75 => ref10_Boot.l2 a0 k (w64 (x8_2 + 1), qu4_Objs_2.set (w64 (a0 + x8_2)).toNat t54, qu4_Slots_2.set (w64 (6 + x8_2)).toNat ({ x75 with Cap := (⟨x73, 7, w64 (a0 + x8_2), 0, 0, 0⟩ : api_Cap) } : ref10_Slot))) else (ref10_Boot.l2 a0 k (w64 (x8_2 + 1), qu4_Objs_2.set (w64 (a0 + x8_2)).toNat t54, qu4_Slots_2))) else (some (qu4_Slots_2, qu4_Objs_2))
def ref10_Boot.f (k : Nat) (a0 : Int) : Option (ref10_State) :=
  (ref10_New.f k ).bind fun t1 => (ref10_Boot.l1 a0 k (0, t1.Objs, t1.Slots)).bind fun (qu4_Slots_e1, qu4_Objs_e1) => (ref10_Boot.l2 a0 k (0, qu4_Objs_e1, qu4_Slots_e1)).bind fun (qu4_Slots_e2, qu4_Objs_e2) => (at_ qu4_Objs_e2 a0).bind fun x83 => (at_ (qu4_Objs_e2.set a0.toNat ({ x83 with Radix := 3 } : ref10_Obj)) (w64 (a0 + 1))).bind fun x95 => (at_ ((qu4_Objs_e2.set a0.toNat ({ x83 with Radix := 3 } : ref10_Obj)).set (w64 (a0 + 1)).toNat ({ x95 with First := 8 } : ref10_Obj)) (w64 (a0 + 1))).bind fun x103 => (at_ (((qu4_Objs_e2.set a0.toNat ({ x83 with Radix := 3 } : ref10_Obj)).set (w64 (a0 + 1)).toNat ({ x95 with First := 8 } : ref10_Obj)).set (w64 (a0 + 1)).toNat ({ x103 with Radix := 5 } : ref10_Obj)) (w64 (a0 + 2))).bind fun x111 => (at_ qu4_Slots_e2 0).bind fun x119 => (at_ (qu4_Slots_e2.set (0 : Int).toNat ({ x119 with Cap := (⟨2, 7, w64 (a0 + 1), 0, 0, 0⟩ : api_Cap) } : ref10_Slot)) 1).bind fun x131 => some (⟨(qu4_Slots_e2.set (0 : Int).toNat ({ x119 with Cap := (⟨2, 7, w64 (a0 + 1), 0, 0, 0⟩ : api_Cap) } : ref10_Slot)).set (1 : Int).toNat ({ x131 with Cap := (⟨2, 7, a0, 0, 0, 8⟩ : api_Cap) } : ref10_Slot), (((qu4_Objs_e2.set a0.toNat ({ x83 with Radix := 3 } : ref10_Obj)).set (w64 (a0 + 1)).toNat ({ x95 with First := 8 } : ref10_Obj)).set (w64 (a0 + 1)).toNat ({ x103 with Radix := 5 } : ref10_Obj)).set (w64 (a0 + 2)).toNat ({ x111 with Size := 200 } : ref10_Obj), 40, w64 (a0 + 8)⟩ : ref10_State)
set_option maxHeartbeats 8000000 in
set_option maxRecDepth 100000 in
theorem ref10_Boot.ct (k : Nat) (a0 : Int) (r0 : ref10_State) (h : ref10_Boot.f k a0 = some r0) :
    Ct Tryz.prog 6 [.int .i64 a0] (fun _ => True) [] (fun u H' => ∃ b_r0 w_r0_Slots w_r0_Objs, u = bp b_r0 0 ∧ H' = [Box b_r0 [w_r0_Slots, w_r0_Objs, .int .i64 r0.NS, .int .i64 r0.NO], OwnR 62 kr_ref10_Slot w_r0_Slots r0.Slots, OwnR 48 kr_ref10_Obj w_r0_Objs r0.Objs]) := by
 unfold ref10_Boot.f at h
 refine Ct.intro (n := 130) Tryz.func6 rfl rfl rfl ?_
 intro R w0 F hF hR
 refine S.seq <| S.region <| ag rfl <| SO.nil <| S.seq <| S.region ?_
 obtain ⟨t1, ht2, h⟩ := opt_bind h
 refine SO.call (pre := []) rfl Tryz.call17 rfl rfl rfl (ref10_New.ct _ _ ht2) trivial ?_
 rintro _ _ ⟨b3, u4_Slots, u4_Objs, rfl, rfl⟩
 refine ag rfl <| SO.nil <| S.seq <| S.region <| mv rfl <| vv (opv_build (v := .agg #[.int .i64 2, .int .i64 7, .int .i64 a0, .int .i64 0, .int .i64 0, .int .i64 8]) rfl (by intro w; kernel_rfl)) <| SO.alloc rfl Tryz.zeroValue45 rfl fun b5 => SO.storeN Tryz.sizeOf45 rfl rfl rfl rfl rfl rfl <| SO.nil <| S.seq <| S.region <| SO.buildSlice (K := ekI .i64) (xs := [2, 2, 1, 3, 4, 8, 7, 6]) (cs := [.int .i64 2, .int .i64 2, .int .i64 1, .int .i64 3, .int .i64 4, .int .i64 8, .int .i64 7, .int .i64 6]) rfl Tryz.underlying43 Tryz.sizeOf3 Tryz.zeroValue3 rfl rfl rfl (by kernel_rfl) rfl rfl rfl fun v6 hr7 => ag rfl <| SO.nil <| S.seq <| S.seq <| S.region <| ag rfl <| SO.nil ?_
 obtain ⟨⟨qu4_Slots_e1, qu4_Objs_e1⟩, hlp1, h⟩ := opt_bind h
 refine S.b5 <| S.b5 <| S.b5 <| S.b5 <| S.b5 <| S.b5 <| tt [(6, .int .i64 0), (5, v6), (4, bp b5 0), (3, bp b3 0), (2, .pointer none), (0, .int .i64 a0)] rfl ?_
 refine S.forloop (X := (Int × (List ref10_Obj) × (List ref10_Slot)) × Unit) (O := ((List ref10_Slot) × (List ref10_Obj))) (fun m x => ref10_Boot.l1 a0 m x.1) (fun x => match x with | ((x6_1, qu4_Objs_1, qu4_Slots_1), _) => [(6, .int .i64 x6_1), (5, v6), (4, bp b5 0), (3, bp b3 0), (2, .pointer none), (0, .int .i64 a0)]) (fun x => match x with | ((x6_1, qu4_Objs_1, qu4_Slots_1), _) => [Own 3 (ekI .i64) v6 ([2, 2, 1, 3, 4, 8, 7, 6]), Box b5 [.int .i64 2, .int .i64 7, .int .i64 a0, .int .i64 0, .int .i64 0, .int .i64 8], Box b3 [u4_Slots, u4_Objs, .int .i64 t1.NS, .int .i64 t1.NO], OwnR 62 kr_ref10_Slot u4_Slots qu4_Slots_1, OwnR 48 kr_ref10_Obj u4_Objs qu4_Objs_1, F]) (fun Sk => (fun x => match x with | (qu4_Slots_e1, qu4_Objs_e1) => ∀ _ : Unit, Sk [(0, .int .i64 a0), (2, .pointer none), (3, bp b3 0), (4, bp b5 0), (5, v6)] [Own 3 (ekI .i64) v6 ([2, 2, 1, 3, 4, 8, 7, 6]), Box b5 [.int .i64 2, .int .i64 7, .int .i64 a0, .int .i64 0, .int .i64 0, .int .i64 8], Box b3 [u4_Slots, u4_Objs, .int .i64 t1.NS, .int .i64 t1.NO], OwnR 62 kr_ref10_Slot u4_Slots qu4_Slots_e1, OwnR 48 kr_ref10_Obj u4_Objs qu4_Objs_e1, F])) (fun _ => rfl) ?_ (m := k) (x := ((0, t1.Objs, t1.Slots), ())) hlp1 ?_
 ·clear h hlp1
  intro k x o_1 h hK1 ih1
  obtain ⟨⟨x6_1, qu4_Objs_1, qu4_Slots_1⟩, _⟩ := x
  replace h : ref10_Boot.l1 a0 (k + 1) (x6_1, qu4_Objs_1, qu4_Slots_1) = some o_1 := h
  first | rw [ref10_Boot.l1] at h | unfold ref10_Boot.l1 at h
  refine S.seq <| S.seq <| S.region <| mv rfl <| mv rfl <| vv (opv_lss rfl rfl) <| SO.nil ?_
  rcases bool_or (decide (x6_1 < a0)) with b8 | b8
  ·replace h := cond_t b8 h
   refine S.condT rfl b8 <| S.skip <| S.seq <| S.block <| S.seq <| S.region ?_
   obtain ⟨t9, ht10, h⟩ := opt_bind h
   refine SO.call (pre := []) rfl Tryz.call18 rfl rfl rfl (ref10_Fresh.ct _ _ ht10) trivial ?_
   rintro _ _ ⟨u11_Queue, rfl, rfl⟩
   refine SO.rd fun hr12 => SO.alloc rfl Tryz.zeroValue48 rfl fun b13 => SO.storeN Tryz.sizeOf48 rfl rfl (all1 rfl (all1 rfl (all1 rfl (all1 rfl (all1 rfl (all1 rfl (all1 (Rd.one hr12) (all1 rfl (all1 rfl (all1 rfl (all1 rfl (all1 rfl (all1 rfl (all1 rfl (all1 rfl (all1 rfl (all1 rfl (all1 rfl (all1 rfl (all1 rfl (all1 rfl (all1 rfl (all1 rfl (all1 rfl (all1 rfl (all1 rfl (all1 rfl (all1 rfl (all1 rfl (all1 rfl (all1 rfl (all1 rfl rfl)))))))))))))))))))))))))))))))) rfl rfl rfl <| SO.nil <| S.seq <| S.region <| fa Tryz.underlying48 rfl Tryz.sizeOf3 rfl rfl <| SO.store1 Tryz.sizeOf3 rfl rfl rfl rfl <| SO.nil <| S.seq <| S.region <| SO.b3 <| SO.loadN rfl Tryz.isAgg45 Tryz.sizeOf45 rfl rfl rfl <| fa Tryz.underlying48 rfl Tryz.sizeOf45 rfl rfl <| SO.b1 <| SO.storeN Tryz.sizeOf45 rfl rfl rfl rfl rfl rfl <| SO.nil <| tt [(6, .int .i64 x6_1), (5, v6), (4, bp b5 0), (3, bp b3 0), (2, .pointer none), (0, .int .i64 a0), (7, bp b13 0)] rfl <| S.seq <| S.b6 <| S.openR fun raws14 A15 hrel16 hR17 => ?_
   obtain ⟨x18, hx19, h⟩ := opt_bind h
   obtain ⟨r20, hr21, hc22⟩ := relR.at hrel16 hx19
   refine S.draw2 (Y := fun Q => ∃ (_ _ _ _ _ _ _ _ _ _ _ _ : Unit), Q [(3, bp b3 0), (6, .int .i64 x6_1), (7, bp b13 0), (5, v6), (4, bp b5 0), (2, .pointer none), (0, .int .i64 a0)] [OwnO 48 kr_ref10_Obj u4_Objs raws14 A15 qu4_Objs_1, Box b13 [.int .i64 t9.Kind, .int .i64 t9.Size, .int .i64 t9.Used, .int .i64 t9.First, .int .i64 t9.Radix, .int .i64 t9.Wait, u11_Queue, .int .i64 t9.Word, .int .i64 1, .int .i64 t9.Owing, .int .i64 t9.Badge, .int .i64 t9.Prio, .int .i64 t9.On, .int .i64 t9.Owes, .int .i64 2, .int .i64 7, .int .i64 a0, .int .i64 0, .int .i64 0, .int .i64 8, .int .i64 t9.Pages.a0, .int .i64 t9.Pages.a1, .int .i64 t9.Pages.a2, .int .i64 t9.Pages.a3, .int .i64 t9.Right.a0, .int .i64 t9.Right.a1, .int .i64 t9.Right.a2, .int .i64 t9.Right.a3, .int .i64 t9.In, .int .i64 t9.Page, .int .i64 t9.Bound, .int .i64 t9.Mask], Box b5 [.int .i64 2, .int .i64 7, .int .i64 a0, .int .i64 0, .int .i64 0, .int .i64 8], Own 3 (ekI .i64) u11_Queue t9.Queue, Own 3 (ekI .i64) v6 ([2, 2, 1, 3, 4, 8, 7, 6]), Box b3 [u4_Slots, u4_Objs, .int .i64 t1.NS, .int .i64 t1.NO], OwnR 62 kr_ref10_Slot u4_Slots qu4_Slots_1, F]) (Z := fun Q => ∀ (_ _ _ _ _ _ _ _ _ _ : Unit), Q [(6, .int .i64 x6_1), (5, v6), (4, bp b5 0), (2, .pointer none), (0, .int .i64 a0), (3, bp b3 0)] [OwnR 48 kr_ref10_Obj u4_Objs (qu4_Objs_1.set x6_1.toNat ({ t9 with State := 1, Root := (⟨2, 7, a0, 0, 0, 8⟩ : api_Cap) } : ref10_Obj)), Box b13 [.int .i64 t9.Kind, .int .i64 t9.Size, .int .i64 t9.Used, .int .i64 t9.First, .int .i64 t9.Radix, .int .i64 t9.Wait, u11_Queue, .int .i64 t9.Word, .int .i64 1, .int .i64 t9.Owing, .int .i64 t9.Badge, .int .i64 t9.Prio, .int .i64 t9.On, .int .i64 t9.Owes, .int .i64 2, .int .i64 7, .int .i64 a0, .int .i64 0, .int .i64 0, .int .i64 8, .int .i64 t9.Pages.a0, .int .i64 t9.Pages.a1, .int .i64 t9.Pages.a2, .int .i64 t9.Pages.a3, .int .i64 t9.Right.a0, .int .i64 t9.Right.a1, .int .i64 t9.Right.a2, .int .i64 t9.Right.a3, .int .i64 t9.In, .int .i64 t9.Page, .int .i64 t9.Bound, .int .i64 t9.Mask], Box b5 [.int .i64 2, .int .i64 7, .int .i64 a0, .int .i64 0, .int .i64 0, .int .i64 8], Own 3 (ekI .i64) v6 ([2, 2, 1, 3, 4, 8, 7, 6]), Box b3 [u4_Slots, u4_Objs, .int .i64 t1.NS, .int .i64 t1.NO], OwnR 62 kr_ref10_Slot u4_Slots qu4_Slots_1, F]) (T := [tS 3 (bp b3 0), tS 6 (.int .i64 x6_1), tS 7 (bp b13 0), tE [(5, v6), (4, bp b5 0), (2, .pointer none), (0, .int .i64 a0)], tR (OwnO 48 kr_ref10_Obj u4_Objs raws14 A15 qu4_Objs_1), tR (Box b13 [.int .i64 t9.Kind, .int .i64 t9.Size, .int .i64 t9.Used, .int .i64 t9.First, .int .i64 t9.Radix, .int .i64 t9.Wait, u11_Queue, .int .i64 t9.Word, .int .i64 1, .int .i64 t9.Owing, .int .i64 t9.Badge, .int .i64 t9.Prio, .int .i64 t9.On, .int .i64 t9.Owes, .int .i64 2, .int .i64 7, .int .i64 a0, .int .i64 0, .int .i64 0, .int .i64 8, .int .i64 t9.Pages.a0, .int .i64 t9.Pages.a1, .int .i64 t9.Pages.a2, .int .i64 t9.Pages.a3, .int .i64 t9.Right.a0, .int .i64 t9.Right.a1, .int .i64 t9.Right.a2, .int .i64 t9.Right.a3, .int .i64 t9.In, .int .i64 t9.Page, .int .i64 t9.Bound, .int .i64 t9.Mask]), tR (Box b5 [.int .i64 2, .int .i64 7, .int .i64 a0, .int .i64 0, .int .i64 0, .int .i64 8]), tR (Own 3 (ekI .i64) u11_Queue t9.Queue), tR (Own 3 (ekI .i64) v6 ([2, 2, 1, 3, 4, 8, 7, 6])), tR (Box b3 [u4_Slots, u4_Objs, .int .i64 t1.NS, .int .i64 t1.NO]), tR (OwnR 62 kr_ref10_Slot u4_Slots qu4_Slots_1), tR (F), tS 22 (bp b3 0), tS 23 (bp b3 0), tS 24 (bp b3 1), tS 25 (u4_Objs), tS 26 (.int .i64 x6_1), tS 27 (.agg #[.int .i64 t9.Kind, .int .i64 t9.Size, .int .i64 t9.Used, .int .i64 t9.First, .int .i64 t9.Radix, .int .i64 t9.Wait, u11_Queue, .int .i64 t9.Word, .int .i64 1, .int .i64 t9.Owing, .int .i64 t9.Badge, .int .i64 t9.Prio, .int .i64 t9.On, .int .i64 t9.Owes, .int .i64 2, .int .i64 7, .int .i64 a0, .int .i64 0, .int .i64 0, .int .i64 8, .int .i64 t9.Pages.a0, .int .i64 t9.Pages.a1, .int .i64 t9.Pages.a2, .int .i64 t9.Pages.a3, .int .i64 t9.Right.a0, .int .i64 t9.Right.a1, .int .i64 t9.Right.a2, .int .i64 t9.Right.a3, .int .i64 t9.In, .int .i64 t9.Page, .int .i64 t9.Bound, .int .i64 t9.Mask]), tS 28 (idxp u4_Objs (x6_1.toNat * kr_ref10_Obj.sz)), tR (OwnR 48 kr_ref10_Obj u4_Objs (qu4_Objs_1.set x6_1.toNat ({ t9 with State := 1, Root := (⟨2, 7, a0, 0, 0, 8⟩ : api_Cap) } : ref10_Obj)))]) (D := [⟨[0], [], [12]⟩, ⟨[12], [], [13]⟩, ⟨[13], [], [14]⟩, ⟨[14, 9], [], [15]⟩, ⟨[1], [], [16]⟩, ⟨[2, 5], [], [17]⟩, ⟨[15, 16, 4], [], [18]⟩, ⟨[17, 18], [4, 7], [19]⟩]) (ini := [0, 1, 2, 3, 4, 5, 6, 7, 8, 9, 10, 11]) (fin := [1, 3, 0, 19, 5, 6, 8, 9, 10, 11]) (bf := [[], [0], [0, 1], [0, 1, 2], [], [], [0, 1, 2, 3, 4, 5], [0, 1, 2, 3, 4, 5, 6]]) (by kernel_rfl) (by kernel_rfl) (fun Q => by kernel_rfl) (fun x w h1 h2 => ⟨(), (), (), (), (), (), (), (), (), (), (), (), EnvAll.of h1 ⟨rfl, rfl, rfl, rfl, rfl, rfl, rfl, trivial⟩, h2⟩) (fun Q => by kernel_rfl) ⟨?_, ?_, ?_, ?_, ?_, ?_, ?_, ?_, trivial⟩ ?_
   ·rintro Fr _
    exact mv rfl <| nz2 rfl () () rfl
   ·rintro Fr _
    exact nc rfl <| nz2 rfl () () rfl
   ·rintro Fr _
    exact fa Tryz.underlying52 rfl Tryz.sizeOf50 rfl rfl <| nz2 rfl () () rfl
   ·rintro Fr _ _
    exact ld Tryz.isAgg50 rfl rfl <| nz3 rfl () () () rfl
   ·rintro Fr _
    exact mv rfl <| nz2 rfl () () rfl
   ·rintro Fr _ _
    exact SO.loadN rfl Tryz.isAgg48 Tryz.sizeOf48 rfl rfl rfl <| nz3 rfl () () () rfl
   ·rintro Fr _ _ _
    exact vv (opv_idx Tryz.underlying50 Tryz.sizeOf48 hR17 rfl rfl hr21) <| nz4 rfl () () () () rfl
   ·rintro Fr _ _ _ _
    exact SO.b1 <| SO.freeze hrel16 fun A23 hcov24 hru25 hrel26 hR27 => SO.storeON (z' := ({ t9 with State := 1, Root := (⟨2, 7, a0, 0, 0, 8⟩ : api_Cap) } : ref10_Obj)) Tryz.sizeOf48 hrel26 hx19 rfl rfl rfl ⟨rfl, rfl, rfl, rfl, rfl, rfl, hru25, rfl, rfl, rfl, rfl, rfl, rfl, rfl, rfl, rfl, rfl, rfl, rfl, rfl, rfl, rfl, rfl, rfl, rfl, rfl, rfl, rfl, rfl, rfl, rfl, rfl, trivial⟩ fun raws28 hrel29 hR30 => SO.closeR <| nz3 rfl () () () rfl
   rintro _ _ _ _ _ _ _ _ _ _
   refine tt [(6, .int .i64 x6_1), (5, v6), (4, bp b5 0), (2, .pointer none), (0, .int .i64 a0), (3, bp b3 0)] rfl <| S.region <| mv rfl <| nc rfl <| fa Tryz.underlying52 rfl Tryz.sizeOf49 rfl rfl <| SO.b4 <| ld Tryz.isAgg49 rfl rfl <| mv rfl <| vv (opv_add rfl rfl) <| mv rfl <| vv (opv_build (v := .agg #[.int .i64 5, .int .i64 7, .int .i64 x6_1, .int .i64 0, .int .i64 0, .int .i64 0]) rfl (by intro w; kernel_rfl)) <| SO.b5 <| SO.openR fun raws36 A37 hrel38 hR39 => ?_
   obtain ⟨x31, hx32, h⟩ := opt_bind h
   obtain ⟨r33, hr34, hc35⟩ := relR.at hrel38 hx32
   refine vv (opv_idx Tryz.underlying49 Tryz.sizeOf62 hR39 rfl rfl hr34) <| vv (opv_fieldIdx Tryz.underlying62 rfl Tryz.sizeOf45 hR39 hr34 rfl rfl) <| SO.storeOP (j := 0) (us := [.int .i64 5, .int .i64 7, .int .i64 x6_1, .int .i64 0, .int .i64 0, .int .i64 0]) (z' := ({ x31 with Cap := (⟨5, 7, x6_1, 0, 0, 0⟩ : api_Cap) } : ref10_Slot)) Tryz.sizeOf45 hrel38 hx32 rfl rfl rfl rfl rfl rfl rfl fun raws40 hrel41 hR42 => SO.nil <| tt [(6, .int .i64 x6_1), (5, v6), (4, bp b5 0), (2, .pointer none), (0, .int .i64 a0), (3, bp b3 0)] rfl <| S.inBlock <| S.region <| mv rfl <| vv (opv_add rfl rfl) <| ag rfl <| SO.nil <| S.closeR <| S.b3 <| S.drop <| S.b5 <| S.b3 <| S.b2 <| S.b3 <| S.b4 <| S.b5 ?_
   refine S.to ?_ (ih1 ((w64 (x6_1 + 1), qu4_Objs_1.set x6_1.toNat ({ t9 with State := 1, Root := (⟨2, 7, a0, 0, 0, 8⟩ : api_Cap) } : ref10_Obj), qu4_Slots_1.set (w64 (14 + x6_1)).toNat ({ x31 with Cap := (⟨5, 7, x6_1, 0, 0, 0⟩ : api_Cap) } : ref10_Slot)), ()) h)
   exact ⟨rfl, rfl, rfl, rfl, rfl, rfl, trivial⟩
  replace h := cond_f b8 h
  refine S.condF rfl b8 <| S.exit rfl ?_
  cases h
  refine S.b5 <| S.b5 <| S.b5 <| S.b5 <| S.b5 <| S.b5 ?_
  refine S.to ?_ (hK1 ())
  exact ⟨rfl, rfl, rfl, rfl, rfl, trivial⟩
 rintro _
 refine S.seq <| S.seq <| S.region <| ag rfl <| SO.nil ?_
 obtain ⟨⟨qu4_Slots_e2, qu4_Objs_e2⟩, hlp2, h⟩ := opt_bind h
 refine S.b5 <| S.b5 <| S.b5 <| S.b5 <| S.b5 <| S.b5 <| tt [(8, .int .i64 0), (0, .int .i64 a0), (2, .pointer none), (3, bp b3 0), (4, bp b5 0), (5, v6)] rfl ?_
 refine S.forloop (X := (Int × (List ref10_Obj) × (List ref10_Slot)) × Unit) (O := ((List ref10_Slot) × (List ref10_Obj))) (fun m x => ref10_Boot.l2 a0 m x.1) (fun x => match x with | ((x8_2, qu4_Objs_2, qu4_Slots_2), _) => [(8, .int .i64 x8_2), (0, .int .i64 a0), (2, .pointer none), (3, bp b3 0), (4, bp b5 0), (5, v6)]) (fun x => match x with | ((x8_2, qu4_Objs_2, qu4_Slots_2), _) => [Own 3 (ekI .i64) v6 ([2, 2, 1, 3, 4, 8, 7, 6]), Box b5 [.int .i64 2, .int .i64 7, .int .i64 a0, .int .i64 0, .int .i64 0, .int .i64 8], Box b3 [u4_Slots, u4_Objs, .int .i64 t1.NS, .int .i64 t1.NO], OwnR 62 kr_ref10_Slot u4_Slots qu4_Slots_2, OwnR 48 kr_ref10_Obj u4_Objs qu4_Objs_2, F]) (fun Sk => (fun x => match x with | (qu4_Slots_e2, qu4_Objs_e2) => ∀ _ : Unit, Sk [(0, .int .i64 a0), (2, .pointer none), (3, bp b3 0), (4, bp b5 0)] [Own 3 (ekI .i64) v6 ([2, 2, 1, 3, 4, 8, 7, 6]), Box b5 [.int .i64 2, .int .i64 7, .int .i64 a0, .int .i64 0, .int .i64 0, .int .i64 8], Box b3 [u4_Slots, u4_Objs, .int .i64 t1.NS, .int .i64 t1.NO], OwnR 62 kr_ref10_Slot u4_Slots qu4_Slots_e2, OwnR 48 kr_ref10_Obj u4_Objs qu4_Objs_e2, F])) (fun _ => rfl) ?_ (m := k) (x := ((0, qu4_Objs_e1, qu4_Slots_e1), ())) hlp2 ?_
 ·clear h hlp2
  intro k x o_2 h hK2 ih2
  obtain ⟨⟨x8_2, qu4_Objs_2, qu4_Slots_2⟩, _⟩ := x
  replace h : ref10_Boot.l2 a0 (k + 1) (x8_2, qu4_Objs_2, qu4_Slots_2) = some o_2 := h
  first | rw [ref10_Boot.l2] at h | unfold ref10_Boot.l2 at h
  refine S.seq <| S.seq <| S.region <| mv rfl <| vv (opv_lss rfl rfl) <| SO.nil ?_
  rcases bool_or (decide (x8_2 < 8)) with b43 | b43
  ·replace h := cond_t b43 h
   refine S.condT rfl b43 <| S.skip <| S.seq <| S.block <| S.seq <| S.b3 <| S.openR fun raws44 A45 hrel46 hR47 => S.b4 <| S.openR fun raws48 A49 hrel50 hR51 => ?_
   obtain ⟨x52, hx53, h⟩ := opt_bind h
   obtain ⟨t54, ht55, h⟩ := opt_bind h
   obtain ⟨x58, hx59, h⟩ := opt_bind h
   obtain ⟨r60, hr61, hc62⟩ := relR.at hrel50 hx59
   refine S.draw2 (Y := fun Q => ∃ (_ _ _ _ _ _ _ _ _ _ _ : Unit), Q [(3, bp b3 0), (0, .int .i64 a0), (8, .int .i64 x8_2), (5, v6), (2, .pointer none), (4, bp b5 0)] [OwnO 48 kr_ref10_Obj u4_Objs raws48 A49 qu4_Objs_2, OwnO 62 kr_ref10_Slot u4_Slots raws44 A45 qu4_Slots_2, Own 3 (ekI .i64) v6 ([2, 2, 1, 3, 4, 8, 7, 6]), Box b5 [.int .i64 2, .int .i64 7, .int .i64 a0, .int .i64 0, .int .i64 0, .int .i64 8], Box b3 [u4_Slots, u4_Objs, .int .i64 t1.NS, .int .i64 t1.NO], F]) (Z := fun Q => ∀ (_ _ _ _ _ _ _ _ _ _ _ : Unit), Q [(8, .int .i64 x8_2), (0, .int .i64 a0), (2, .pointer none), (4, bp b5 0), (3, bp b3 0), (5, v6)] [OwnR 48 kr_ref10_Obj u4_Objs (qu4_Objs_2.set (w64 (a0 + x8_2)).toNat t54), OwnO 62 kr_ref10_Slot u4_Slots raws44 A45 qu4_Slots_2, Own 3 (ekI .i64) v6 ([2, 2, 1, 3, 4, 8, 7, 6]), Box b5 [.int .i64 2, .int .i64 7, .int .i64 a0, .int .i64 0, .int .i64 0, .int .i64 8], Box b3 [u4_Slots, u4_Objs, .int .i64 t1.NS, .int .i64 t1.NO], F]) (T := [tS 3 (bp b3 0), tS 0 (.int .i64 a0), tS 8 (.int .i64 x8_2), tS 5 (v6), tE [(2, .pointer none), (4, bp b5 0)], tR (OwnO 48 kr_ref10_Obj u4_Objs raws48 A49 qu4_Objs_2), tR (OwnO 62 kr_ref10_Slot u4_Slots raws44 A45 qu4_Slots_2), tR (Own 3 (ekI .i64) v6 ([2, 2, 1, 3, 4, 8, 7, 6])), tR (Box b5 [.int .i64 2, .int .i64 7, .int .i64 a0, .int .i64 0, .int .i64 0, .int .i64 8]), tR (Box b3 [u4_Slots, u4_Objs, .int .i64 t1.NS, .int .i64 t1.NO]), tR (F), tS 43 (bp b3 0), tS 44 (bp b3 0), tS 45 (bp b3 1), tS 46 (u4_Objs), tS 47 (.int .i64 a0), tS 48 (.int .i64 x8_2), tS 49 (.int .i64 (w64 (a0 + x8_2))), tS 50 (v6), tS 51 (.int .i64 x8_2), tS 52 (idxp v6 (x8_2.toNat * (ekI .i64).sz)), tS 53 (.int .i64 x52), ⟨Value, [54], (fun u56_Queue => [(54, .agg #[.int .i64 t54.Kind, .int .i64 t54.Size, .int .i64 t54.Used, .int .i64 t54.First, .int .i64 t54.Radix, .int .i64 t54.Wait, u56_Queue, .int .i64 t54.Word, .int .i64 t54.State, .int .i64 t54.Owing, .int .i64 t54.Badge, .int .i64 t54.Prio, .int .i64 t54.On, .int .i64 t54.Owes, .int .i64 t54.Root.Kind, .int .i64 t54.Root.Rights, .int .i64 t54.Root.Obj, .int .i64 t54.Root.Badge, .int .i64 t54.Root.Guard, .int .i64 t54.Root.Bits, .int .i64 t54.Pages.a0, .int .i64 t54.Pages.a1, .int .i64 t54.Pages.a2, .int .i64 t54.Pages.a3, .int .i64 t54.Right.a0, .int .i64 t54.Right.a1, .int .i64 t54.Right.a2, .int .i64 t54.Right.a3, .int .i64 t54.In, .int .i64 t54.Page, .int .i64 t54.Bound, .int .i64 t54.Mask])]), (fun u56_Queue => [Own 3 (ekI .i64) u56_Queue t54.Queue]), fun _ => rfl⟩, tS 55 (idxp u4_Objs ((w64 (a0 + x8_2)).toNat * kr_ref10_Obj.sz)), tR (OwnR 48 kr_ref10_Obj u4_Objs (qu4_Objs_2.set (w64 (a0 + x8_2)).toNat t54))]) (D := [⟨[0], [], [11]⟩, ⟨[11], [], [12]⟩, ⟨[12], [], [13]⟩, ⟨[13, 9], [], [14]⟩, ⟨[1], [], [15]⟩, ⟨[2], [], [16]⟩, ⟨[15, 16], [], [17]⟩, ⟨[3], [], [18]⟩, ⟨[2], [], [19]⟩, ⟨[18, 19, 7], [], [20]⟩, ⟨[20, 7], [], [21]⟩, ⟨[21], [], [22]⟩, ⟨[14, 17, 5], [], [23]⟩, ⟨[23], [22, 5], [24]⟩]) (ini := [0, 1, 2, 3, 4, 5, 6, 7, 8, 9, 10]) (fin := [2, 1, 4, 0, 3, 24, 6, 7, 8, 9, 10]) (bf := [[], [0], [0, 1], [0, 1, 2], [], [], [4, 5], [], [], [7, 8], [7, 8, 9], [7, 8, 9, 10], [0, 1, 2, 3, 4, 5, 6, 7, 8, 9, 10, 11], [0, 1, 2, 3, 4, 5, 6, 7, 8, 9, 10, 11, 12]]) (by kernel_rfl) (by kernel_rfl) (fun Q => by kernel_rfl) (fun x w h1 h2 => ⟨(), (), (), (), (), (), (), (), (), (), (), EnvAll.of h1 ⟨rfl, rfl, rfl, rfl, rfl, rfl, trivial⟩, h2⟩) (fun Q => by kernel_rfl) ⟨?_, ?_, ?_, ?_, ?_, ?_, ?_, ?_, ?_, ?_, ?_, ?_, ?_, ?_, trivial⟩ ?_
   ·rintro Fr _
    exact mv rfl <| nz2 rfl () () rfl
   ·rintro Fr _
    exact nc rfl <| nz2 rfl () () rfl
   ·rintro Fr _
    exact fa Tryz.underlying52 rfl Tryz.sizeOf50 rfl rfl <| nz2 rfl () () rfl
   ·rintro Fr _ _
    exact ld Tryz.isAgg50 rfl rfl <| nz3 rfl () () () rfl
   ·rintro Fr _
    exact mv rfl <| nz2 rfl () () rfl
   ·rintro Fr _
    exact mv rfl <| nz2 rfl () () rfl
   ·rintro Fr _ _
    exact vv (opv_add rfl rfl) <| nz3 rfl () () () rfl
   ·rintro Fr _
    exact mv rfl <| nz2 rfl () () rfl
   ·rintro Fr _
    exact mv rfl <| nz2 rfl () () rfl
   ·rintro Fr _ _ _
    exact vv (opv_idx Tryz.underlying43 Tryz.sizeOf3 hr7 rfl rfl hx53) <| nz4 rfl () () () () rfl
   ·rintro Fr _ _
    exact SO.loadI1 (j := 0) rfl Tryz.isAgg3 (Rd.head hr7) hx53 rfl rfl rfl rfl <| nz3 rfl () () () rfl
   ·rintro Fr _
    refine SO.call (pre := []) rfl Tryz.call18 rfl rfl rfl (ref10_Fresh.ct _ _ ht55) trivial ?_
    rintro _ _ ⟨u56_Queue, rfl, rfl⟩
    exact SO.rd fun hr57 => SO.nilZ fun a w h1 h2 h3 h4 h5 => PZ.of h1 h3 h5 (.cons () (.cons u56_Queue (.nil ⟨EnvAll.of h2 ⟨rfl, rfl, trivial⟩, h4⟩)))
   ·rintro Fr _ _ _
    exact vv (opv_idx Tryz.underlying50 Tryz.sizeOf48 hR51 rfl rfl hr61) <| nz4 rfl () () () () rfl
   ·rintro Fr _ u56_Queue _
    exact SO.rd fun hr63 => SO.b1 <| SO.b1 <| SO.freeze hrel50 fun A64 hcov65 hru66 hrel67 hR68 => SO.storeON (z' := t54) Tryz.sizeOf48 hrel67 hx59 rfl rfl rfl ⟨rfl, rfl, rfl, rfl, rfl, rfl, hru66, rfl, rfl, rfl, rfl, rfl, rfl, rfl, rfl, rfl, rfl, rfl, rfl, rfl, rfl, rfl, rfl, rfl, rfl, rfl, rfl, rfl, rfl, rfl, rfl, rfl, trivial⟩ fun raws69 hrel70 hR71 => SO.closeR <| nz2 rfl () () rfl
   rintro _ _ _ _ _ _ _ _ _ _ _
   refine tt [(8, .int .i64 x8_2), (0, .int .i64 a0), (2, .pointer none), (4, bp b5 0), (3, bp b3 0), (5, v6)] rfl <| S.seq <| S.region <| mv rfl <| vv (opv_geq rfl rfl) <| SO.nil ?_
   rcases bool_or (decide (2 ≤ x8_2)) with b72 | b72
   ·replace h := cond_t b72 h
    refine S.condT rfl b72 ?_
    obtain ⟨x73, hx74, h⟩ := opt_bind h
    obtain ⟨x75, hx76, h⟩ := opt_bind h
    obtain ⟨r77, hr78, hc79⟩ := relR.at hrel46 hx76
    refine S.draw2 (Y := fun Q => ∃ (_ _ _ _ _ _ _ _ _ _ _ : Unit), Q [(3, bp b3 0), (8, .int .i64 x8_2), (5, v6), (0, .int .i64 a0), (2, .pointer none), (4, bp b5 0)] [OwnR 48 kr_ref10_Obj u4_Objs (qu4_Objs_2.set (w64 (a0 + x8_2)).toNat t54), OwnO 62 kr_ref10_Slot u4_Slots raws44 A45 qu4_Slots_2, Own 3 (ekI .i64) v6 ([2, 2, 1, 3, 4, 8, 7, 6]), Box b5 [.int .i64 2, .int .i64 7, .int .i64 a0, .int .i64 0, .int .i64 0, .int .i64 8], Box b3 [u4_Slots, u4_Objs, .int .i64 t1.NS, .int .i64 t1.NO], F]) (Z := fun Q => ∀ (_ _ _ _ _ _ _ _ _ _ _ : Unit), Q [(8, .int .i64 x8_2), (0, .int .i64 a0), (2, .pointer none), (4, bp b5 0), (3, bp b3 0), (5, v6)] [OwnR 48 kr_ref10_Obj u4_Objs (qu4_Objs_2.set (w64 (a0 + x8_2)).toNat t54), OwnR 62 kr_ref10_Slot u4_Slots (qu4_Slots_2.set (w64 (6 + x8_2)).toNat ({ x75 with Cap := (⟨x73, 7, w64 (a0 + x8_2), 0, 0, 0⟩ : api_Cap) } : ref10_Slot)), Own 3 (ekI .i64) v6 ([2, 2, 1, 3, 4, 8, 7, 6]), Box b5 [.int .i64 2, .int .i64 7, .int .i64 a0, .int .i64 0, .int .i64 0, .int .i64 8], Box b3 [u4_Slots, u4_Objs, .int .i64 t1.NS, .int .i64 t1.NO], F]) (T := [tS 3 (bp b3 0), tS 8 (.int .i64 x8_2), tS 5 (v6), tS 0 (.int .i64 a0), tE [(2, .pointer none), (4, bp b5 0)], tR (OwnR 48 kr_ref10_Obj u4_Objs (qu4_Objs_2.set (w64 (a0 + x8_2)).toNat t54)), tR (OwnO 62 kr_ref10_Slot u4_Slots raws44 A45 qu4_Slots_2), tR (Own 3 (ekI .i64) v6 ([2, 2, 1, 3, 4, 8, 7, 6])), tR (Box b5 [.int .i64 2, .int .i64 7, .int .i64 a0, .int .i64 0, .int .i64 0, .int .i64 8]), tR (Box b3 [u4_Slots, u4_Objs, .int .i64 t1.NS, .int .i64 t1.NO]), tR (F), tS 58 (bp b3 0), tS 59 (bp b3 0), tS 60 (bp b3 0), tS 61 (u4_Slots), tS 62 (.int .i64 x8_2), tS 63 (.int .i64 (w64 (6 + x8_2))), tS 64 (v6), tS 65 (.int .i64 x8_2), tS 66 (idxp v6 (x8_2.toNat * (ekI .i64).sz)), tS 67 (.int .i64 x73), tS 68 (.int .i64 a0), tS 69 (.int .i64 x8_2), tS 70 (.int .i64 (w64 (a0 + x8_2))), tS 71 (.agg #[.int .i64 x73, .int .i64 7, .int .i64 (w64 (a0 + x8_2)), .int .i64 0, .int .i64 0, .int .i64 0]), tS 72 (idxp u4_Slots ((w64 (6 + x8_2)).toNat * kr_ref10_Slot.sz)), tS 73 (idxp u4_Slots ((w64 (6 + x8_2)).toNat * kr_ref10_Slot.sz)), tR (OwnR 62 kr_ref10_Slot u4_Slots (qu4_Slots_2.set (w64 (6 + x8_2)).toNat ({ x75 with Cap := (⟨x73, 7, w64 (a0 + x8_2), 0, 0, 0⟩ : api_Cap) } : ref10_Slot)))]) (D := [⟨[0], [], [11]⟩, ⟨[11], [], [12]⟩, ⟨[12], [], [13]⟩, ⟨[13, 9], [], [14]⟩, ⟨[1], [], [15]⟩, ⟨[15], [], [16]⟩, ⟨[2], [], [17]⟩, ⟨[1], [], [18]⟩, ⟨[17, 18, 7], [], [19]⟩, ⟨[19, 7], [], [20]⟩, ⟨[3], [], [21]⟩, ⟨[1], [], [22]⟩, ⟨[21, 22], [], [23]⟩, ⟨[20, 23], [], [24]⟩, ⟨[14, 16, 6], [], [25]⟩, ⟨[25, 6], [], [26]⟩, ⟨[24, 26], [6], [27]⟩]) (ini := [0, 1, 2, 3, 4, 5, 6, 7, 8, 9, 10]) (fin := [1, 3, 4, 0, 2, 5, 27, 7, 8, 9, 10]) (bf := [[], [0], [0, 1], [0, 1, 2], [], [4], [], [], [6, 7], [6, 7, 8], [], [], [10, 11], [6, 7, 8, 9, 10, 11, 12], [0, 1, 2, 3, 4, 5, 6, 7, 8, 9, 10, 11, 12, 13], [0, 1, 2, 3, 4, 5, 6, 7, 8, 9, 10, 11, 12, 13, 14], [0, 1, 2, 3, 4, 5, 6, 7, 8, 9, 10, 11, 12, 13, 14, 15]]) (by kernel_rfl) (by kernel_rfl) (fun Q => by kernel_rfl) (fun x w h1 h2 => ⟨(), (), (), (), (), (), (), (), (), (), (), EnvAll.of h1 ⟨rfl, rfl, rfl, rfl, rfl, rfl, trivial⟩, h2⟩) (fun Q => by kernel_rfl) ⟨?_, ?_, ?_, ?_, ?_, ?_, ?_, ?_, ?_, ?_, ?_, ?_, ?_, ?_, ?_, ?_, ?_, trivial⟩ ?_
    ·rintro Fr _
     exact mv rfl <| nz2 rfl () () rfl
    ·rintro Fr _
     exact nc rfl <| nz2 rfl () () rfl
    ·rintro Fr _
     exact fa Tryz.underlying52 rfl Tryz.sizeOf49 rfl rfl <| nz2 rfl () () rfl
    ·rintro Fr _ _
     exact ld Tryz.isAgg49 rfl rfl <| nz3 rfl () () () rfl
    ·rintro Fr _
     exact mv rfl <| nz2 rfl () () rfl
    ·rintro Fr _
     exact vv (opv_add rfl rfl) <| nz2 rfl () () rfl
    ·rintro Fr _
     exact mv rfl <| nz2 rfl () () rfl
    ·rintro Fr _
     exact mv rfl <| nz2 rfl () () rfl
    ·rintro Fr _ _ _
     exact vv (opv_idx Tryz.underlying43 Tryz.sizeOf3 hr7 rfl rfl hx74) <| nz4 rfl () () () () rfl
    ·rintro Fr _ _
     exact SO.loadI1 (j := 0) rfl Tryz.isAgg3 (Rd.head hr7) hx74 rfl rfl rfl rfl <| nz3 rfl () () () rfl
    ·rintro Fr _
     exact mv rfl <| nz2 rfl () () rfl
    ·rintro Fr _
     exact mv rfl <| nz2 rfl () () rfl
    ·rintro Fr _ _
     exact vv (opv_add rfl rfl) <| nz3 rfl () () () rfl
    ·rintro Fr _ _
     exact vv (opv_build (v := .agg #[.int .i64 x73, .int .i64 7, .int .i64 (w64 (a0 + x8_2)), .int .i64 0, .int .i64 0, .int .i64 0]) rfl (by intro w; kernel_rfl)) <| nz3 rfl () () () rfl
    ·rintro Fr _ _ _
     exact vv (opv_idx Tryz.underlying49 Tryz.sizeOf62 hR47 rfl rfl hr78) <| nz4 rfl () () () () rfl
    ·rintro Fr _ _
     exact vv (opv_fieldIdx Tryz.underlying62 rfl Tryz.sizeOf45 hR47 hr78 rfl rfl) <| nz3 rfl () () () rfl
    ·rintro Fr _ _ _
     exact SO.storeOP (j := 0) (us := [.int .i64 x73, .int .i64 7, .int .i64 (w64 (a0 + x8_2)), .int .i64 0, .int .i64 0, .int .i64 0]) (z' := ({ x75 with Cap := (⟨x73, 7, w64 (a0 + x8_2), 0, 0, 0⟩ : api_Cap) } : ref10_Slot)) Tryz.sizeOf45 hrel46 hx76 rfl rfl rfl rfl rfl rfl rfl fun raws80 hrel81 hR82 => SO.closeR <| nz3 rfl () () () rfl
    rintro _ _ _ _ _ _ _ _ _ _ _
    refine tt [(8, .int .i64 x8_2), (0, .int .i64 a0), (2, .pointer none), (4, bp b5 0), (3, bp b3 0), (5, v6)] rfl <| S.inBlock <| S.region <| mv rfl <| vv (opv_add rfl rfl) <| ag rfl <| SO.nil <| S.b5 <| S.b1 <| S.b2 <| S.b5 <| S.b5 <| S.b5 ?_
    refine S.to ?_ (ih2 ((w64 (x8_2 + 1), qu4_Objs_2.set (w64 (a0 + x8_2)).toNat t54, qu4_Slots_2.set (w64 (6 + x8_2)).toNat ({ x75 with Cap := (⟨x73, 7, w64 (a0 + x8_2), 0, 0, 0⟩ : api_Cap) } : ref10_Slot)), ()) h)
    exact ⟨rfl, rfl, rfl, rfl, rfl, rfl, trivial⟩
   replace h := cond_f b72 h
   refine S.condF rfl b72 <| S.skip <| S.inBlock <| S.region <| mv rfl <| vv (opv_add rfl rfl) <| ag rfl <| SO.nil <| S.b1 <| S.closeR <| S.b5 <| S.b2 <| S.b2 <| S.b5 <| S.b5 <| S.b5 ?_
   refine S.to ?_ (ih2 ((w64 (x8_2 + 1), qu4_Objs_2.set (w64 (a0 + x8_2)).toNat t54, qu4_Slots_2), ()) h)
   exact ⟨rfl, rfl, rfl, rfl, rfl, rfl, trivial⟩
  replace h := cond_f b43 h
  refine S.condF rfl b43 <| S.exit rfl ?_
  cases h
  refine S.b5 <| S.b5 <| S.b5 <| S.b5 <| S.b5 <| S.b5 ?_
  refine S.to ?_ (hK2 ())
  exact ⟨rfl, rfl, rfl, rfl, trivial⟩
 rintro _
 refine S.seq <| S.region <| mv rfl <| nc rfl <| fa Tryz.underlying52 rfl Tryz.sizeOf50 rfl rfl <| SO.b2 <| ld Tryz.isAgg50 rfl rfl <| mv rfl <| SO.b4 <| SO.openR fun raws88 A89 hrel90 hR91 => ?_
 obtain ⟨x83, hx84, h⟩ := opt_bind h
 obtain ⟨r85, hr86, hc87⟩ := relR.at hrel90 hx84
 refine vv (opv_idx Tryz.underlying50 Tryz.sizeOf48 hR91 rfl rfl hr86) <| vv (opv_fieldIdx Tryz.underlying48 rfl Tryz.sizeOf3 hR91 hr86 rfl rfl) <| SO.storeO1 (j := 4) (q := .val (.int .i64 3)) (z' := ({ x83 with Radix := 3 } : ref10_Obj)) Tryz.sizeOf3 hrel90 hx84 rfl rfl rfl rfl rfl rfl rfl fun raws92 hrel93 hR94 => SO.nil <| tt [(0, .int .i64 a0), (2, .pointer none), (3, bp b3 0), (4, bp b5 0)] rfl <| S.seq <| S.region <| mv rfl <| nc rfl <| fa Tryz.underlying52 rfl Tryz.sizeOf50 rfl rfl <| SO.b1 <| ld Tryz.isAgg50 rfl rfl <| mv rfl <| vv (opv_add rfl rfl) ?_
 obtain ⟨x95, hx96, h⟩ := opt_bind h
 obtain ⟨r97, hr98, hc99⟩ := relR.at hrel93 hx96
 refine vv (opv_idx Tryz.underlying50 Tryz.sizeOf48 hR94 rfl rfl hr98) <| vv (opv_fieldIdx Tryz.underlying48 rfl Tryz.sizeOf3 hR94 hr98 rfl rfl) <| SO.b1 <| SO.storeO1 (j := 3) (q := .val (.int .i64 8)) (z' := ({ x95 with First := 8 } : ref10_Obj)) Tryz.sizeOf3 hrel93 hx96 rfl rfl rfl rfl rfl rfl rfl fun raws100 hrel101 hR102 => SO.nil <| tt [(0, .int .i64 a0), (2, .pointer none), (3, bp b3 0), (4, bp b5 0)] rfl <| S.seq <| S.region <| mv rfl <| nc rfl <| fa Tryz.underlying52 rfl Tryz.sizeOf50 rfl rfl <| SO.b1 <| ld Tryz.isAgg50 rfl rfl <| mv rfl <| vv (opv_add rfl rfl) ?_
 obtain ⟨x103, hx104, h⟩ := opt_bind h
 obtain ⟨r105, hr106, hc107⟩ := relR.at hrel101 hx104
 refine vv (opv_idx Tryz.underlying50 Tryz.sizeOf48 hR102 rfl rfl hr106) <| vv (opv_fieldIdx Tryz.underlying48 rfl Tryz.sizeOf3 hR102 hr106 rfl rfl) <| SO.b1 <| SO.storeO1 (j := 4) (q := .val (.int .i64 5)) (z' := ({ x103 with Radix := 5 } : ref10_Obj)) Tryz.sizeOf3 hrel101 hx104 rfl rfl rfl rfl rfl rfl rfl fun raws108 hrel109 hR110 => SO.nil <| tt [(0, .int .i64 a0), (2, .pointer none), (3, bp b3 0), (4, bp b5 0)] rfl <| S.seq <| S.region <| mv rfl <| nc rfl <| fa Tryz.underlying52 rfl Tryz.sizeOf50 rfl rfl <| SO.b1 <| ld Tryz.isAgg50 rfl rfl <| mv rfl <| vv (opv_add rfl rfl) ?_
 obtain ⟨x111, hx112, h⟩ := opt_bind h
 obtain ⟨r113, hr114, hc115⟩ := relR.at hrel109 hx112
 refine vv (opv_idx Tryz.underlying50 Tryz.sizeOf48 hR110 rfl rfl hr114) <| vv (opv_fieldIdx Tryz.underlying48 rfl Tryz.sizeOf3 hR110 hr114 rfl rfl) <| SO.b1 <| SO.storeO1 (j := 1) (q := .val (.int .i64 200)) (z' := ({ x111 with Size := 200 } : ref10_Obj)) Tryz.sizeOf3 hrel109 hx112 rfl rfl rfl rfl rfl rfl rfl fun raws116 hrel117 hR118 => SO.nil <| tt [(0, .int .i64 a0), (2, .pointer none), (3, bp b3 0), (4, bp b5 0)] rfl <| S.seq <| S.region <| mv rfl <| nc rfl <| fa Tryz.underlying52 rfl Tryz.sizeOf49 rfl rfl <| SO.b1 <| ld Tryz.isAgg49 rfl rfl <| mv rfl <| vv (opv_add rfl rfl) <| vv (opv_build (v := .agg #[.int .i64 2, .int .i64 7, .int .i64 (w64 (a0 + 1)), .int .i64 0, .int .i64 0, .int .i64 0]) rfl (by intro w; kernel_rfl)) <| SO.b4 <| SO.openR fun raws124 A125 hrel126 hR127 => ?_
 obtain ⟨x119, hx120, h⟩ := opt_bind h
 obtain ⟨r121, hr122, hc123⟩ := relR.at hrel126 hx120
 refine vv (opv_idx Tryz.underlying49 Tryz.sizeOf62 hR127 rfl rfl hr122) <| vv (opv_fieldIdx Tryz.underlying62 rfl Tryz.sizeOf45 hR127 hr122 rfl rfl) <| SO.storeOP (j := 0) (us := [.int .i64 2, .int .i64 7, .int .i64 (w64 (a0 + 1)), .int .i64 0, .int .i64 0, .int .i64 0]) (z' := ({ x119 with Cap := (⟨2, 7, w64 (a0 + 1), 0, 0, 0⟩ : api_Cap) } : ref10_Slot)) Tryz.sizeOf45 hrel126 hx120 rfl rfl rfl rfl rfl rfl rfl fun raws128 hrel129 hR130 => SO.nil <| tt [(0, .int .i64 a0), (2, .pointer none), (3, bp b3 0), (4, bp b5 0)] rfl <| S.seq ?_
 obtain ⟨x131, hx132, h⟩ := opt_bind h
 obtain ⟨r133, hr134, hc135⟩ := relR.at hrel129 hx132
 refine S.draw2 (Y := fun Q => ∃ (_ _ _ _ _ _ _ _ _ : Unit), Q [(3, bp b3 0), (4, bp b5 0), (0, .int .i64 a0), (2, .pointer none)] [OwnO 62 kr_ref10_Slot u4_Slots raws128 A125 (qu4_Slots_e2.set (0 : Int).toNat ({ x119 with Cap := (⟨2, 7, w64 (a0 + 1), 0, 0, 0⟩ : api_Cap) } : ref10_Slot)), Box b3 [u4_Slots, u4_Objs, .int .i64 t1.NS, .int .i64 t1.NO], OwnO 48 kr_ref10_Obj u4_Objs raws116 A89 ((((qu4_Objs_e2.set a0.toNat ({ x83 with Radix := 3 } : ref10_Obj)).set (w64 (a0 + 1)).toNat ({ x95 with First := 8 } : ref10_Obj)).set (w64 (a0 + 1)).toNat ({ x103 with Radix := 5 } : ref10_Obj)).set (w64 (a0 + 2)).toNat ({ x111 with Size := 200 } : ref10_Obj)), Own 3 (ekI .i64) v6 ([2, 2, 1, 3, 4, 8, 7, 6]), Box b5 [.int .i64 2, .int .i64 7, .int .i64 a0, .int .i64 0, .int .i64 0, .int .i64 8], F]) (Z := fun Q => ∀ (_ _ _ _ _ _ _ _ : Unit), Q [(0, .int .i64 a0), (2, .pointer none), (3, bp b3 0)] [OwnR 62 kr_ref10_Slot u4_Slots ((qu4_Slots_e2.set (0 : Int).toNat ({ x119 with Cap := (⟨2, 7, w64 (a0 + 1), 0, 0, 0⟩ : api_Cap) } : ref10_Slot)).set (1 : Int).toNat ({ x131 with Cap := (⟨2, 7, a0, 0, 0, 8⟩ : api_Cap) } : ref10_Slot)), Box b3 [u4_Slots, u4_Objs, .int .i64 t1.NS, .int .i64 t1.NO], OwnO 48 kr_ref10_Obj u4_Objs raws116 A89 ((((qu4_Objs_e2.set a0.toNat ({ x83 with Radix := 3 } : ref10_Obj)).set (w64 (a0 + 1)).toNat ({ x95 with First := 8 } : ref10_Obj)).set (w64 (a0 + 1)).toNat ({ x103 with Radix := 5 } : ref10_Obj)).set (w64 (a0 + 2)).toNat ({ x111 with Size := 200 } : ref10_Obj)), Own 3 (ekI .i64) v6 ([2, 2, 1, 3, 4, 8, 7, 6]), Box b5 [.int .i64 2, .int .i64 7, .int .i64 a0, .int .i64 0, .int .i64 0, .int .i64 8], F]) (T := [tS 3 (bp b3 0), tS 4 (bp b5 0), tE [(0, .int .i64 a0), (2, .pointer none)], tR (OwnO 62 kr_ref10_Slot u4_Slots raws128 A125 (qu4_Slots_e2.set (0 : Int).toNat ({ x119 with Cap := (⟨2, 7, w64 (a0 + 1), 0, 0, 0⟩ : api_Cap) } : ref10_Slot))), tR (Box b3 [u4_Slots, u4_Objs, .int .i64 t1.NS, .int .i64 t1.NO]), tR (OwnO 48 kr_ref10_Obj u4_Objs raws116 A89 ((((qu4_Objs_e2.set a0.toNat ({ x83 with Radix := 3 } : ref10_Obj)).set (w64 (a0 + 1)).toNat ({ x95 with First := 8 } : ref10_Obj)).set (w64 (a0 + 1)).toNat ({ x103 with Radix := 5 } : ref10_Obj)).set (w64 (a0 + 2)).toNat ({ x111 with Size := 200 } : ref10_Obj))), tR (Own 3 (ekI .i64) v6 ([2, 2, 1, 3, 4, 8, 7, 6])), tR (Box b5 [.int .i64 2, .int .i64 7, .int .i64 a0, .int .i64 0, .int .i64 0, .int .i64 8]), tR (F), tS 114 (bp b3 0), tS 115 (bp b3 0), tS 116 (bp b3 0), tS 117 (u4_Slots), tS 118 (.agg #[.int .i64 2, .int .i64 7, .int .i64 a0, .int .i64 0, .int .i64 0, .int .i64 8]), tS 119 (idxp u4_Slots ((1 : Int).toNat * kr_ref10_Slot.sz)), tS 120 (idxp u4_Slots ((1 : Int).toNat * kr_ref10_Slot.sz)), tR (OwnR 62 kr_ref10_Slot u4_Slots ((qu4_Slots_e2.set (0 : Int).toNat ({ x119 with Cap := (⟨2, 7, w64 (a0 + 1), 0, 0, 0⟩ : api_Cap) } : ref10_Slot)).set (1 : Int).toNat ({ x131 with Cap := (⟨2, 7, a0, 0, 0, 8⟩ : api_Cap) } : ref10_Slot)))]) (D := [⟨[0], [], [9]⟩, ⟨[9], [], [10]⟩, ⟨[10], [], [11]⟩, ⟨[11, 4], [], [12]⟩, ⟨[1, 7], [], [13]⟩, ⟨[12, 3], [], [14]⟩, ⟨[14, 3], [], [15]⟩, ⟨[13, 15], [3], [16]⟩]) (ini := [0, 1, 2, 3, 4, 5, 6, 7, 8]) (fin := [2, 0, 16, 4, 5, 6, 7, 8]) (bf := [[], [0], [0, 1], [0, 1, 2], [], [0, 1, 2, 3, 4], [0, 1, 2, 3, 4, 5], [0, 1, 2, 3, 4, 5, 6]]) (by kernel_rfl) (by kernel_rfl) (fun Q => by kernel_rfl) (fun x w h1 h2 => ⟨(), (), (), (), (), (), (), (), (), EnvAll.of h1 ⟨rfl, rfl, rfl, rfl, trivial⟩, h2⟩) (fun Q => by kernel_rfl) ⟨?_, ?_, ?_, ?_, ?_, ?_, ?_, ?_, trivial⟩ ?_
 ·rintro Fr _
  exact mv rfl <| nz2 rfl () () rfl
 ·rintro Fr _
  exact nc rfl <| nz2 rfl () () rfl
 ·rintro Fr _
  exact fa Tryz.underlying52 rfl Tryz.sizeOf49 rfl rfl <| nz2 rfl () () rfl
 ·rintro Fr _ _
  exact ld Tryz.isAgg49 rfl rfl <| nz3 rfl () () () rfl
 ·rintro Fr _ _
  exact SO.loadN rfl Tryz.isAgg45 Tryz.sizeOf45 rfl rfl rfl <| nz3 rfl () () () rfl
 ·rintro Fr _ _
  exact vv (opv_idx Tryz.underlying49 Tryz.sizeOf62 hR130 rfl rfl hr134) <| nz3 rfl () () () rfl
 ·rintro Fr _ _
  exact vv (opv_fieldIdx Tryz.underlying62 rfl Tryz.sizeOf45 hR130 hr134 rfl rfl) <| nz3 rfl () () () rfl
 ·rintro Fr _ _ _
  exact SO.storeOP (j := 0) (us := [.int .i64 2, .int .i64 7, .int .i64 a0, .int .i64 0, .int .i64 0, .int .i64 8]) (z' := ({ x131 with Cap := (⟨2, 7, a0, 0, 0, 8⟩ : api_Cap) } : ref10_Slot)) Tryz.sizeOf45 hrel129 hx132 rfl rfl rfl rfl rfl rfl rfl fun raws136 hrel137 hR138 => SO.closeR <| nz3 rfl () () () rfl
 rintro _ _ _ _ _ _ _ _
 refine tt [(0, .int .i64 a0), (2, .pointer none), (3, bp b3 0)] rfl <| S.seq <| S.region <| mv rfl <| nc rfl <| fa Tryz.underlying52 rfl Tryz.sizeOf3 rfl rfl <| SO.b1 <| SO.store1 Tryz.sizeOf3 rfl rfl rfl rfl <| SO.nil <| S.seq <| S.region <| mv rfl <| mv rfl <| vv (opv_add rfl rfl) <| nc rfl <| fa Tryz.underlying52 rfl Tryz.sizeOf3 rfl rfl <| SO.store1 Tryz.sizeOf3 rfl rfl rfl rfl <| SO.nil <| tt [(2, .pointer none), (3, bp b3 0)] rfl <| S.seq <| S.region <| mv rfl <| ag rfl <| SO.nil ?_
 cases h
 exact S.b2 <| S.closeR <| S.b3 <| S.drop <| S.b3 <| S.drop <| S.b3 <| S.b1 <| S.b3 <| S.b3 <| S.ret1 Tryz.func6 rfl rfl (hR · _ _ ⟨b3, u4_Slots, u4_Objs, rfl, rfl⟩)
def ref01_Word.f (a0 : api_Cap) : Option (Int) :=
  some (wu64 ((wu64 ((wu64 ((wu64 ((wu64 ((wu64 a0.Kind) + (wu64 (16 * (wu64 a0.Rights))))) + (wu64 (128 * (wu64 a0.Obj))))) + (wu64 (4096 * (wu64 a0.Badge))))) + (wu64 (268435456 * (wu64 a0.Bits))))) + (wu64 (4294967296 * (wu64 a0.Guard)))))
set_option maxHeartbeats 8000000 in
set_option maxRecDepth 100000 in
theorem ref01_Word.ct (a0 : api_Cap) (r0 : Int) (h : ref01_Word.f a0 = some r0) :
    Ct Tryz.prog 19 [.agg #[.int .i64 a0.Kind, .int .i64 a0.Rights, .int .i64 a0.Obj, .int .i64 a0.Badge, .int .i64 a0.Guard, .int .i64 a0.Bits]] (fun _ => True) [] (fun u H' => u = .int .u64 r0 ∧ H' = []) := by
 unfold ref01_Word.f at h
 refine Ct.intro (n := 31) Tryz.func19 rfl rfl rfl ?_
 intro R w0 F hF hR
 refine S.seq <| S.region <| SO.box rfl rfl rfl fun b1 => ag rfl <| SO.nil <| S.seq <| S.region <| fa Tryz.underlying45 rfl Tryz.sizeOf3 rfl rfl <| ld Tryz.isAgg3 rfl rfl <| vv (opv_conv Tryz.underlying3 Tryz.underlying55 rfl) <| fa Tryz.underlying45 rfl Tryz.sizeOf3 rfl rfl <| ld Tryz.isAgg3 rfl rfl <| vv (opv_conv Tryz.underlying3 Tryz.underlying55 rfl) <| vv (opv_mul rfl rfl) <| vv (opv_add rfl rfl) <| fa Tryz.underlying45 rfl Tryz.sizeOf3 rfl rfl <| ld Tryz.isAgg3 rfl rfl <| vv (opv_conv Tryz.underlying3 Tryz.underlying55 rfl) <| vv (opv_mul rfl rfl) <| vv (opv_add rfl rfl) <| fa Tryz.underlying45 rfl Tryz.sizeOf3 rfl rfl <| ld Tryz.isAgg3 rfl rfl <| vv (opv_conv Tryz.underlying3 Tryz.underlying55 rfl) <| vv (opv_mul rfl rfl) ?_
 refine vv (opv_add rfl rfl) <| fa Tryz.underlying45 rfl Tryz.sizeOf3 rfl rfl <| ld Tryz.isAgg3 rfl rfl <| vv (opv_conv Tryz.underlying3 Tryz.underlying55 rfl) <| vv (opv_mul rfl rfl) <| vv (opv_add rfl rfl) <| fa Tryz.underlying45 rfl Tryz.sizeOf3 rfl rfl <| ld Tryz.isAgg3 rfl rfl <| vv (opv_conv Tryz.underlying3 Tryz.underlying55 rfl) <| vv (opv_mul rfl rfl) <| vv (opv_add rfl rfl) <| ag rfl <| SO.nil <| tt [(2, .int .u64 (wu64 ((wu64 ((wu64 ((wu64 ((wu64 ((wu64 a0.Kind) + (wu64 (16 * (wu64 a0.Rights))))) + (wu64 (128 * (wu64 a0.Obj))))) + (wu64 (4096 * (wu64 a0.Badge))))) + (wu64 (268435456 * (wu64 a0.Bits))))) + (wu64 (4294967296 * (wu64 a0.Guard))))))] rfl ?_
 cases h
 exact S.drop <| S.ret1 Tryz.func19 rfl rfl (hR · _ _ ⟨rfl, rfl⟩)
end Go.Proofs

