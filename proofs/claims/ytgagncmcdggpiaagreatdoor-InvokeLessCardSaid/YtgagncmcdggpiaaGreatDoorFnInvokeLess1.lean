/- What the functions that InvokeLess reaches come to, and that they do. On no condition. -/
import Derived.Test.YtgagncmcdggpiaaGreatDoorFr1
import Derived.Test.YtgagncmcdggpiaaGreatDoorFnInvokeLess0
set_option linter.all false
namespace Go.Proofs
open Go.Sl Go.RowKit
def endp_Recv.f (k : Nat) (a1 : Int) (a2 : Int) : VM ((api_Reply × Bool × (Option Int))) :=
  (VM.opt (endp_there.f a1)).bind fun t2 => (bif !t2 then (VM.ret true) else ((VM.opt (endp_there.f a2)).bind fun t7 => VM.ret (!t7))).bind fun c5 => bif c5 then (VM.ret ((⟨0, 0, 0⟩ : api_Reply), false, (some 2))) else ((lay_Ref.f a2 6).bind fun (t11, t12) => bif t12 then (VM.ret ((⟨0, 0, 0⟩ : api_Reply), false, (some 10))) else ((lay_Field.f a1 1).bind fun t16 => bif t16 == 1 then ((queue_Pop.f a1).bind fun (t20, t21) => bif t21 then ((lay_Field.f t20 3).bind fun t25 => (lay_Field.f t20 4).bind fun t28 => (endp_State.f t20).bind fun t32 => (bif t32 == 6 then ((endp_owe.f a2 t20).bind fun _ => VM.ret ()) else ((endp_Wake.f t20 0 0).bind fun _ => VM.ret ())).bind fun _ => (endp_rest.f k a1).bind fun _ => VM.ret ((⟨0, t25, t28⟩ : api_Reply), true, none)) else ((endp_Block.f a1 a2 3).bind fun _ => (lay_Put.f a1 1 2).bind fun _ => VM.ret ((⟨0, 0, 0⟩ : api_Reply), false, none))) else ((endp_Block.f a1 a2 3).bind fun _ => (lay_Put.f a1 1 2).bind fun _ => VM.ret ((⟨0, 0, 0⟩ : api_Reply), false, none))))
set_option maxHeartbeats 8000000 in
set_option maxRecDepth 100000 in
theorem endp_Recv.ct (V : VW Tryz.prog) (k : Nat) (a1 : Int) (a2 : Int) (r0 : api_Reply) (r1 : Bool) (r2 : Option Int) (s s' : V.S) (h : VM.run V.toVI (endp_Recv.f k a1 a2) s = some ((r0, r1, r2), s')) :
    Ct Tryz.prog 61 [V.val, .int .i64 a1, .int .i64 a2] (fun _ => True) [V.rep s] (fun u H' => u = .tuple #[.agg #[.int .i64 r0.Code, .int .i64 r0.Word, .int .i64 r0.Badge], .bool r1, errV 98 r2] ∧ H' = [V.rep s']) := by
 unfold endp_Recv.f at h
 refine Ct.intro (n := 74) Tryz.func61 rfl rfl rfl ?_
 intro R w0 F hF hR
 refine S.seq <| S.region <| SO.alloc rfl Tryz.zeroValue34 rfl fun b1 => ag rfl <| ag rfl <| SO.nil <| S.seq <| S.seq <| S.region <| mv rfl ?_
 obtain ⟨t2, ht3, h⟩ := VM.opt_some V.toVI h
 refine SO.call (pre := []) rfl Tryz.call53 rfl rfl rfl (endp_there.ct _ _ ht3) trivial ?_
 rintro _ _ ⟨rfl, rfl⟩
 refine vv (opv_not rfl) <| mv rfl ?_
 obtain ⟨c5, s9, hc6, hgk⟩ := VM.bind_some V.toVI h
 refine SO.cut 4 21 (.bool c5) [Box b1 [.int .i64 0, .int .i64 0, .int .i64 0], V.rep s9, F] (fun l2 hk2 => ?_) ?_
 ·clear hgk
  replace h := hc6
  rcases bool_or (!t2) with b4 | b4
  ·replace h := VM.cond_t V.toVI b4 h
   refine pf rfl rfl rfl b4 <| pf rfl rfl rfl b4 <| pf rfl rfl rfl b4 ?_
   obtain ⟨hq, rfl⟩ := VM.ret_some V.toVI h
   cases hq
   exact vv (opv_pick_t' b4 rfl rfl) <| SO.b2 <| SO.b2 <| SO.b2 <| hk2.fitc (m := 4) rfl (rfl) rfl
  replace h := VM.cond_f V.toVI b4 h
  refine SO.takeT rfl rfl rfl b4 <| mv rfl <| SO.takeT rfl rfl rfl b4 ?_
  obtain ⟨t7, ht8, h⟩ := VM.opt_some V.toVI h
  refine SO.call (pre := []) rfl Tryz.call53 rfl rfl rfl (endp_there.ct _ _ ht8) trivial ?_
  rintro _ _ ⟨rfl, rfl⟩
  refine SO.takeT rfl rfl rfl b4 <| vv (opv_not rfl) ?_
  obtain ⟨hq, rfl⟩ := VM.ret_some V.toVI h
  cases hq
  exact vv (opv_pick_f' b4 rfl rfl) <| SO.b2 <| SO.b2 <| SO.b2 <| hk2.fitc (m := 4) rfl (rfl) rfl
 clear hc6
 replace h := hgk
 refine SO.nil ?_
 rcases bool_or c5 with b10 | b10
 ·replace h := VM.cond_t V.toVI b10 h
  refine S.condT rfl b10 <| S.seq <| S.region <| vv (opv_build (v := .agg #[.int .i64 0, .int .i64 0, .int .i64 0]) rfl (by intro w; kernel_rfl)) <| vv (opv_iface Tryz.underlying98 rfl rfl) <| SO.storeN Tryz.sizeOf34 rfl rfl rfl rfl rfl rfl <| ag rfl <| ag rfl <| SO.nil <| tt [(6, bp b1 0), (7, .bool false), (8, errV 98 (some 2))] rfl ?_
  obtain ⟨hq, rfl⟩ := VM.ret_some V.toVI h
  cases hq
  exact S.b2 <| S.b2 <| S.b2 <| S.retC2 Tryz.func61 rfl rfl rfl rfl Tryz.isAgg34 Tryz.sizeOf34 rfl rfl (fun w hs hk => hR w _ _ ⟨rfl, rfl⟩ hs.drop hk)
 replace h := VM.cond_f V.toVI b10 h
 refine S.condF rfl b10 <| S.skip <| S.seq <| S.seq <| S.region <| mv rfl <| mv rfl ?_
 obtain ⟨⟨t11, t12⟩, s14, ht13, h⟩ := VM.bind_some V.toVI h
 refine SO.b1 <| SO.call (pre := [V.rep _]) rfl Tryz.call54 rfl rfl rfl (lay_Ref.ct V _ _ _ _ _ _ ht13) trivial ?_
 rintro _ _ ⟨rfl, rfl⟩
 refine mv rfl <| vv (opv_extract rfl rfl) <| vv (opv_extract rfl rfl) <| ag rfl <| ag rfl <| SO.nil <| tt [(0, V.val), (1, .int .i64 a1), (2, .int .i64 a2), (6, bp b1 0), (7, .bool false), (8, errV 98 none), (10, .bool t12)] rfl <| S.seq <| S.region <| mv rfl <| SO.nil ?_
 rcases bool_or t12 with b15 | b15
 ·replace h := VM.cond_t V.toVI b15 h
  refine S.condT rfl b15 <| S.seq <| S.region <| vv (opv_build (v := .agg #[.int .i64 0, .int .i64 0, .int .i64 0]) rfl (by intro w; kernel_rfl)) <| vv (opv_iface Tryz.underlying98 rfl rfl) <| SO.b1 <| SO.storeN Tryz.sizeOf34 rfl rfl rfl rfl rfl rfl <| ag rfl <| ag rfl <| SO.nil <| tt [(6, bp b1 0), (7, .bool false), (8, errV 98 (some 10))] rfl ?_
  obtain ⟨hq, rfl⟩ := VM.ret_some V.toVI h
  cases hq
  exact S.b2 <| S.b2 <| S.b2 <| S.retC2 Tryz.func61 rfl rfl rfl rfl Tryz.isAgg34 Tryz.sizeOf34 rfl rfl (fun w hs hk => hR w _ _ ⟨rfl, rfl⟩ hs.drop hk)
 replace h := VM.cond_f V.toVI b15 h
 refine S.condF rfl b15 <| S.skip <| S.seq <| S.seq <| S.region <| mv rfl <| mv rfl ?_
 obtain ⟨t16, s18, ht17, h⟩ := VM.bind_some V.toVI h
 refine SO.call (pre := [V.rep _]) rfl Tryz.call27 rfl rfl rfl (lay_Field.ct V _ _ _ _ _ ht17) trivial ?_
 rintro _ _ ⟨rfl, rfl⟩
 refine vv (opv_eql rfl rfl) <| SO.nil ?_
 rcases bool_or (t16 == 1) with b19 | b19
 ·replace h := VM.cond_t V.toVI b19 h
  refine S.condT rfl b19 <| S.seq <| S.region <| mv rfl <| mv rfl ?_
  obtain ⟨⟨t20, t21⟩, s23, ht22, h⟩ := VM.bind_some V.toVI h
  refine SO.call (pre := [V.rep _]) rfl Tryz.call119 rfl rfl rfl (queue_Pop.ct V _ _ _ _ _ ht22) trivial ?_
  rintro _ _ ⟨rfl, rfl⟩
  refine mv rfl <| vv (opv_extract rfl rfl) <| vv (opv_extract rfl rfl) <| ag rfl <| ag rfl <| SO.nil <| tt [(0, V.val), (1, .int .i64 a1), (2, .int .i64 a2), (6, bp b1 0), (7, .bool false), (8, errV 98 none), (11, .int .i64 t20), (12, .bool t21)] rfl <| S.seq <| S.region <| mv rfl <| SO.nil ?_
  rcases bool_or t21 with b24 | b24
  ·replace h := VM.cond_t V.toVI b24 h
   refine S.condT rfl b24 <| S.seq <| S.region <| mv rfl <| mv rfl ?_
   obtain ⟨t25, s27, ht26, h⟩ := VM.bind_some V.toVI h
   refine SO.call (pre := [V.rep _]) rfl Tryz.call27 rfl rfl rfl (lay_Field.ct V _ _ _ _ _ ht26) trivial ?_
   rintro _ _ ⟨rfl, rfl⟩
   refine mv rfl <| mv rfl ?_
   obtain ⟨t28, s30, ht29, h⟩ := VM.bind_some V.toVI h
   refine SO.call (pre := [V.rep _]) rfl Tryz.call27 rfl rfl rfl (lay_Field.ct V _ _ _ _ _ ht29) trivial ?_
   rintro _ _ ⟨rfl, rfl⟩
   refine vv (opv_build (v := .agg #[.int .i64 0, .int .i64 t25, .int .i64 t28]) rfl (by intro w; kernel_rfl)) <| SO.alloc rfl Tryz.zeroValue34 rfl fun b31 => SO.storeN Tryz.sizeOf34 rfl rfl rfl rfl rfl rfl <| SO.nil <| tt [(0, V.val), (1, .int .i64 a1), (2, .int .i64 a2), (6, bp b1 0), (7, .bool false), (8, errV 98 none), (11, .int .i64 t20), (13, bp b31 0)] rfl <| S.seq <| S.seq <| S.region <| mv rfl <| mv rfl ?_
   obtain ⟨t32, s34, ht33, h⟩ := VM.bind_some V.toVI h
   refine SO.b1 <| SO.call (pre := [V.rep _]) rfl Tryz.call30 rfl rfl rfl (endp_State.ct V _ _ _ _ ht33) trivial ?_
   rintro _ _ ⟨rfl, rfl⟩
   refine vv (opv_eql rfl rfl) <| SO.nil ?_
   obtain ⟨_, s_1, hC1, hJ1⟩ := VM.bind_some V.toVI h
   clear h
   refine S.cutP (G := Unit) (fun _ => True) (fun _ => [(0, V.val), (1, .int .i64 a1), (6, bp b1 0), (7, .bool false), (8, errV 98 none), (13, bp b31 0)]) (fun _ => [V.rep s_1, Box b31 [.int .i64 0, .int .i64 t25, .int .i64 t28], Box b1 [.int .i64 0, .int .i64 0, .int .i64 0], F]) (fun hk1 => ?_) ?_
   ·replace h := hC1
    rcases bool_or (t32 == 6) with b35 | b35
    ·replace h := VM.cond_t V.toVI b35 h
     refine S.condT rfl b35 <| S.region <| mv rfl <| mv rfl <| mv rfl ?_
     obtain ⟨_, s37, ht36, h⟩ := VM.bind_some V.toVI h
     refine SO.call (pre := [V.rep _]) rfl Tryz.call121 rfl rfl rfl (endp_owe.ct V _ _ _ _ ht36) trivial ?_
     rintro _ _ ⟨rfl, rfl⟩
     refine SO.nil <| tt [(0, V.val), (1, .int .i64 a1), (6, bp b1 0), (7, .bool false), (8, errV 98 none), (13, bp b31 0)] rfl ?_
     obtain ⟨hq, rfl⟩ := VM.ret_some V.toVI h
     cases hq
     refine S.b3 <| S.b3 <| S.b3 <| S.b3 ?_
     refine S.to ?_ (hk1 () trivial)
     exact ⟨rfl, rfl, rfl, rfl, rfl, rfl, trivial⟩
    replace h := VM.cond_f V.toVI b35 h
    refine S.condF rfl b35 <| S.region <| mv rfl <| mv rfl ?_
    obtain ⟨_, s39, ht38, h⟩ := VM.bind_some V.toVI h
    refine SO.call (pre := [V.rep _]) rfl Tryz.call56 rfl rfl rfl (endp_Wake.ct V _ _ _ _ _ ht38) trivial ?_
    rintro _ _ ⟨rfl, rfl⟩
    refine SO.nil <| tt [(0, V.val), (1, .int .i64 a1), (6, bp b1 0), (7, .bool false), (8, errV 98 none), (13, bp b31 0)] rfl ?_
    obtain ⟨hq, rfl⟩ := VM.ret_some V.toVI h
    cases hq
    refine S.b3 <| S.b3 <| S.b3 <| S.b3 ?_
    refine S.to ?_ (hk1 () trivial)
    exact ⟨rfl, rfl, rfl, rfl, rfl, rfl, trivial⟩
   rintro _ -
   replace h := hJ1
   refine S.seq <| S.region <| mv rfl <| mv rfl ?_
   obtain ⟨_, s41, ht40, h⟩ := VM.bind_some V.toVI h
   refine SO.call (pre := [V.rep _]) rfl Tryz.call120 rfl rfl rfl (endp_rest.ct V _ _ _ _ ht40) trivial ?_
   rintro _ _ ⟨rfl, rfl⟩
   refine SO.nil <| S.seq <| S.region <| SO.b1 <| SO.loadN rfl Tryz.isAgg34 Tryz.sizeOf34 rfl rfl rfl <| SO.b2 <| SO.storeN Tryz.sizeOf34 rfl rfl rfl rfl rfl rfl <| ag rfl <| ag rfl <| SO.nil <| tt [(6, bp b1 0), (7, .bool true), (8, errV 98 none)] rfl ?_
   obtain ⟨hq, rfl⟩ := VM.ret_some V.toVI h
   cases hq
   exact S.b1 <| S.drop <| S.b2 <| S.b2 <| S.b2 <| S.retC2 Tryz.func61 rfl rfl rfl rfl Tryz.isAgg34 Tryz.sizeOf34 rfl rfl (fun w hs hk => hR w _ _ ⟨rfl, rfl⟩ hs.drop hk)
  replace h := VM.cond_f V.toVI b24 h
  refine S.condF rfl b24 <| S.skip <| S.seq <| S.region <| mv rfl <| mv rfl <| mv rfl ?_
  obtain ⟨_, s43, ht42, h⟩ := VM.bind_some V.toVI h
  refine SO.call (pre := [V.rep _]) rfl Tryz.call122 rfl rfl rfl (endp_Block.ct V _ _ _ _ _ ht42) trivial ?_
  rintro _ _ ⟨rfl, rfl⟩
  refine SO.nil <| tt [(0, V.val), (1, .int .i64 a1), (6, bp b1 0), (7, .bool false), (8, errV 98 none)] rfl <| S.seq <| S.region <| mv rfl <| mv rfl ?_
  obtain ⟨_, s45, ht44, h⟩ := VM.bind_some V.toVI h
  refine SO.call (pre := [V.rep _]) rfl Tryz.call55 rfl rfl rfl (lay_Put.ct V _ _ _ _ _ ht44) trivial ?_
  rintro _ _ ⟨rfl, rfl⟩
  refine SO.nil <| S.seq <| S.region <| vv (opv_build (v := .agg #[.int .i64 0, .int .i64 0, .int .i64 0]) rfl (by intro w; kernel_rfl)) <| SO.b1 <| SO.storeN Tryz.sizeOf34 rfl rfl rfl rfl rfl rfl <| ag rfl <| ag rfl <| SO.nil ?_
  obtain ⟨hq, rfl⟩ := VM.ret_some V.toVI h
  cases hq
  exact S.b2 <| S.b2 <| S.b2 <| S.retC2 Tryz.func61 rfl rfl rfl rfl Tryz.isAgg34 Tryz.sizeOf34 rfl rfl (fun w hs hk => hR w _ _ ⟨rfl, rfl⟩ hs.drop hk)
 replace h := VM.cond_f V.toVI b19 h
 refine S.condF rfl b19 <| S.skip <| S.seq <| S.region <| mv rfl <| mv rfl <| mv rfl ?_
 obtain ⟨_, s47, ht46, h⟩ := VM.bind_some V.toVI h
 refine SO.call (pre := [V.rep _]) rfl Tryz.call122 rfl rfl rfl (endp_Block.ct V _ _ _ _ _ ht46) trivial ?_
 rintro _ _ ⟨rfl, rfl⟩
 refine SO.nil <| tt [(0, V.val), (1, .int .i64 a1), (6, bp b1 0), (7, .bool false), (8, errV 98 none)] rfl <| S.seq <| S.region <| mv rfl <| mv rfl ?_
 obtain ⟨_, s49, ht48, h⟩ := VM.bind_some V.toVI h
 refine SO.call (pre := [V.rep _]) rfl Tryz.call55 rfl rfl rfl (lay_Put.ct V _ _ _ _ _ ht48) trivial ?_
 rintro _ _ ⟨rfl, rfl⟩
 refine SO.nil <| S.seq <| S.region <| vv (opv_build (v := .agg #[.int .i64 0, .int .i64 0, .int .i64 0]) rfl (by intro w; kernel_rfl)) <| SO.b1 <| SO.storeN Tryz.sizeOf34 rfl rfl rfl rfl rfl rfl <| ag rfl <| ag rfl <| SO.nil ?_
 obtain ⟨hq, rfl⟩ := VM.ret_some V.toVI h
 cases hq
 exact S.b2 <| S.b2 <| S.b2 <| S.retC2 Tryz.func61 rfl rfl rfl rfl Tryz.isAgg34 Tryz.sizeOf34 rfl rfl (fun w hs hk => hR w _ _ ⟨rfl, rfl⟩ hs.drop hk)
def endp_Send.f (k : Nat) (a1 : Int) (a2 : Int) (a3 : Int) (a4 : Int) (a5 : Bool) : VM ((Bool × (Option Int))) :=
  (VM.opt (endp_there.f a1)).bind fun t1 => (bif !t1 then (VM.ret true) else ((VM.opt (endp_there.f a2)).bind fun t6 => VM.ret (!t6))).bind fun c4 => bif c4 then (VM.ret (false, (some 2))) else ((lay_Field.f a1 1).bind fun t10 => (((bif t10 == 2 then ((queue_Pop.f a1).bind fun (t14, t15) => bif t15 then ((endp_Wake.f t14 a4 a3).bind fun _ => (endp_rest.f k a1).bind fun _ => bif a5 then ((endp_owe.f t14 a2).bind fun _ => VM.ret (Brk.ret (a5, none))) else (VM.ret (Brk.ret (a5, none)))) else (VM.ret (Brk.nx ()))) else (VM.ret (Brk.nx ()))) : VM (Brk (Bool × (Option Int)) Unit))).bind fun o1 => Brk.go o1 (fun r => VM.ret r) (fun _ => (bif a5 then (VM.ret (6 : Int)) else (VM.ret (2 : Int))).bind fun j16_2 => (endp_Block.f a1 a2 j16_2).bind fun _ => (lay_Put.f a2 3 a4).bind fun _ => (lay_Put.f a2 4 a3).bind fun _ => (lay_Put.f a1 1 1).bind fun _ => VM.ret (true, none)))
set_option maxHeartbeats 8000000 in
set_option maxRecDepth 100000 in
theorem endp_Send.ct (V : VW Tryz.prog) (k : Nat) (a1 : Int) (a2 : Int) (a3 : Int) (a4 : Int) (a5 : Bool) (r0 : Bool) (r1 : Option Int) (s s' : V.S) (h : VM.run V.toVI (endp_Send.f k a1 a2 a3 a4 a5) s = some ((r0, r1), s')) :
    Ct Tryz.prog 60 [V.val, .int .i64 a1, .int .i64 a2, .int .i64 a3, .int .i64 a4, .bool a5] (fun _ => True) [V.rep s] (fun u H' => u = .tuple #[.bool r0, errV 98 r1] ∧ H' = [V.rep s']) := by
 unfold endp_Send.f at h
 refine Ct.intro (n := 68) Tryz.func60 rfl rfl rfl ?_
 intro R w0 F hF hR
 refine S.seq <| S.region <| ag rfl <| ag rfl <| SO.nil <| S.seq <| S.seq <| S.region <| mv rfl ?_
 obtain ⟨t1, ht2, h⟩ := VM.opt_some V.toVI h
 refine SO.call (pre := []) rfl Tryz.call53 rfl rfl rfl (endp_there.ct _ _ ht2) trivial ?_
 rintro _ _ ⟨rfl, rfl⟩
 refine vv (opv_not rfl) <| mv rfl ?_
 obtain ⟨c4, s8, hc5, hgk⟩ := VM.bind_some V.toVI h
 refine SO.cut 4 24 (.bool c4) [V.rep s8, F] (fun l2 hk2 => ?_) ?_
 ·clear hgk
  replace h := hc5
  rcases bool_or (!t1) with b3 | b3
  ·replace h := VM.cond_t V.toVI b3 h
   refine pf rfl rfl rfl b3 <| pf rfl rfl rfl b3 <| pf rfl rfl rfl b3 ?_
   obtain ⟨hq, rfl⟩ := VM.ret_some V.toVI h
   cases hq
   exact vv (opv_pick_t' b3 rfl rfl) <| SO.b1 <| SO.b1 <| hk2.fitc (m := 4) rfl (rfl) rfl
  replace h := VM.cond_f V.toVI b3 h
  refine SO.takeT rfl rfl rfl b3 <| mv rfl <| SO.takeT rfl rfl rfl b3 ?_
  obtain ⟨t6, ht7, h⟩ := VM.opt_some V.toVI h
  refine SO.call (pre := []) rfl Tryz.call53 rfl rfl rfl (endp_there.ct _ _ ht7) trivial ?_
  rintro _ _ ⟨rfl, rfl⟩
  refine SO.takeT rfl rfl rfl b3 <| vv (opv_not rfl) ?_
  obtain ⟨hq, rfl⟩ := VM.ret_some V.toVI h
  cases hq
  exact vv (opv_pick_f' b3 rfl rfl) <| SO.b1 <| SO.b1 <| hk2.fitc (m := 4) rfl (rfl) rfl
 clear hc5
 replace h := hgk
 refine SO.nil ?_
 rcases bool_or c4 with b9 | b9
 ·replace h := VM.cond_t V.toVI b9 h
  refine S.condT rfl b9 <| S.seq <| S.region <| vv (opv_iface Tryz.underlying98 rfl rfl) <| ag rfl <| ag rfl <| SO.nil <| tt [(12, .bool false), (13, errV 98 (some 2))] rfl ?_
  obtain ⟨hq, rfl⟩ := VM.ret_some V.toVI h
  cases hq
  exact S.b1 <| S.b1 <| S.ret2 Tryz.func60 rfl rfl rfl (hR · _ _ ⟨rfl, rfl⟩)
 replace h := VM.cond_f V.toVI b9 h
 refine S.condF rfl b9 <| S.skip <| S.seq <| S.seq <| S.region <| mv rfl <| mv rfl ?_
 obtain ⟨t10, s12, ht11, h⟩ := VM.bind_some V.toVI h
 refine SO.call (pre := [V.rep _]) rfl Tryz.call27 rfl rfl rfl (lay_Field.ct V _ _ _ _ _ ht11) trivial ?_
 rintro _ _ ⟨rfl, rfl⟩
 refine vv (opv_eql rfl rfl) <| SO.nil <| tt [(0, V.val), (1, .int .i64 a1), (2, .int .i64 a2), (3, .int .i64 a3), (4, .int .i64 a4), (5, .bool a5), (12, .bool false), (13, errV 98 none), (29, .bool (t10 == 2))] rfl ?_
 obtain ⟨o1, s_1, hC1, hJ1⟩ := VM.bind_some V.toVI h
 clear h
 refine S.cutP (G := Unit × Unit) (fun x => o1 = Brk.nx x.1) (fun x => match x with | (_, _) => [(0, V.val), (1, .int .i64 a1), (2, .int .i64 a2), (3, .int .i64 a3), (4, .int .i64 a4), (5, .bool a5), (12, .bool false), (13, errV 98 none)]) (fun x => match x with | (_, _) => [V.rep s_1, F]) (fun hk1 => ?_) ?_
 ·replace h := hC1
  rcases bool_or (t10 == 2) with b13 | b13
  ·replace h := VM.cond_t V.toVI b13 h
   refine S.condT rfl b13 <| S.seq <| S.region <| mv rfl <| mv rfl ?_
   obtain ⟨⟨t14, t15⟩, s17, ht16, h⟩ := VM.bind_some V.toVI h
   refine SO.call (pre := [V.rep _]) rfl Tryz.call119 rfl rfl rfl (queue_Pop.ct V _ _ _ _ _ ht16) trivial ?_
   rintro _ _ ⟨rfl, rfl⟩
   refine mv rfl <| vv (opv_extract rfl rfl) <| vv (opv_extract rfl rfl) <| ag rfl <| ag rfl <| SO.nil <| tt [(0, V.val), (1, .int .i64 a1), (2, .int .i64 a2), (3, .int .i64 a3), (4, .int .i64 a4), (5, .bool a5), (12, .bool false), (13, errV 98 none), (14, .int .i64 t14), (15, .bool t15)] rfl <| S.seq <| S.region <| mv rfl <| SO.nil ?_
   rcases bool_or t15 with b18 | b18
   ·replace h := VM.cond_t V.toVI b18 h
    refine S.condT rfl b18 <| S.seq <| S.region <| mv rfl <| mv rfl <| mv rfl <| mv rfl ?_
    obtain ⟨_, s20, ht19, h⟩ := VM.bind_some V.toVI h
    refine SO.call (pre := [V.rep _]) rfl Tryz.call56 rfl rfl rfl (endp_Wake.ct V _ _ _ _ _ ht19) trivial ?_
    rintro _ _ ⟨rfl, rfl⟩
    refine SO.nil <| tt [(0, V.val), (1, .int .i64 a1), (2, .int .i64 a2), (5, .bool a5), (12, .bool false), (13, errV 98 none), (14, .int .i64 t14)] rfl <| S.seq <| S.region <| mv rfl <| mv rfl ?_
    obtain ⟨_, s22, ht21, h⟩ := VM.bind_some V.toVI h
    refine SO.call (pre := [V.rep _]) rfl Tryz.call120 rfl rfl rfl (endp_rest.ct V _ _ _ _ ht21) trivial ?_
    rintro _ _ ⟨rfl, rfl⟩
    refine SO.nil <| S.seq <| S.seq <| S.region <| mv rfl <| SO.nil ?_
    rcases bool_or a5 with b23 | b23
    ·replace h := VM.cond_t V.toVI b23 h
     refine S.condT rfl b23 <| S.region <| mv rfl <| mv rfl <| mv rfl ?_
     obtain ⟨_, s25, ht24, h⟩ := VM.bind_some V.toVI h
     refine SO.call (pre := [V.rep _]) rfl Tryz.call121 rfl rfl rfl (endp_owe.ct V _ _ _ _ ht24) trivial ?_
     rintro _ _ ⟨rfl, rfl⟩
     refine SO.nil <| tt [(5, .bool a5), (12, .bool false), (13, errV 98 none)] rfl <| S.seq <| S.region <| mv rfl <| ag rfl <| ag rfl <| SO.nil ?_
     obtain ⟨hq, rfl⟩ := VM.ret_some V.toVI h
     cases hq
     replace h := VM.of_ret hJ1
     obtain ⟨hq, rfl⟩ := VM.ret_some V.toVI h
     cases hq
     exact S.b1 <| S.b1 <| S.ret2 Tryz.func60 rfl rfl rfl (hR · _ _ ⟨rfl, rfl⟩)
    replace h := VM.cond_f V.toVI b23 h
    refine S.condF rfl b23 <| S.skip <| S.seq <| S.region <| mv rfl <| ag rfl <| ag rfl <| SO.nil <| tt [(12, .bool a5), (13, errV 98 none)] rfl ?_
    obtain ⟨hq, rfl⟩ := VM.ret_some V.toVI h
    cases hq
    replace h := VM.of_ret hJ1
    obtain ⟨hq, rfl⟩ := VM.ret_some V.toVI h
    cases hq
    exact S.b1 <| S.b1 <| S.ret2 Tryz.func60 rfl rfl rfl (hR · _ _ ⟨rfl, rfl⟩)
   replace h := VM.cond_f V.toVI b18 h
   refine S.condF rfl b18 <| S.skip ?_
   obtain ⟨hq, rfl⟩ := VM.ret_some V.toVI h
   cases hq
   refine S.b1 <| S.b1 ?_
   refine S.to ?_ (hk1 ((), ()) rfl)
   exact ⟨rfl, rfl, rfl, rfl, rfl, rfl, rfl, rfl, trivial⟩
  replace h := VM.cond_f V.toVI b13 h
  refine S.condF rfl b13 <| S.skip ?_
  obtain ⟨hq, rfl⟩ := VM.ret_some V.toVI h
  cases hq
  refine S.b1 <| S.b1 ?_
  refine S.to ?_ (hk1 ((), ()) rfl)
  exact ⟨rfl, rfl, rfl, rfl, rfl, rfl, rfl, rfl, trivial⟩
 rintro ⟨_, _⟩ hq
 subst hq
 replace h := VM.of_nx hJ1
 refine S.seq <| S.region <| ag rfl <| SO.nil <| S.seq <| S.seq <| S.region <| mv rfl <| SO.nil ?_
 obtain ⟨j16_2, s_2, hC2, hJ2⟩ := VM.bind_some V.toVI h
 clear h
 refine S.cutP (G := Unit) (fun _ => True) (fun _ => [(0, V.val), (1, .int .i64 a1), (2, .int .i64 a2), (3, .int .i64 a3), (4, .int .i64 a4), (12, .bool false), (13, errV 98 none), (16, .int .i64 j16_2)]) (fun _ => [V.rep s_2, F]) (fun hk2 => ?_) ?_
 ·replace h := hC2
  rcases bool_or a5 with b26 | b26
  ·replace h := VM.cond_t V.toVI b26 h
   refine S.condT rfl b26 <| S.region <| ag rfl <| SO.nil ?_
   obtain ⟨hq, rfl⟩ := VM.ret_some V.toVI h
   cases hq
   refine S.b1 <| S.b1 ?_
   refine S.to ?_ (hk2 () trivial)
   exact ⟨rfl, rfl, rfl, rfl, rfl, rfl, rfl, rfl, trivial⟩
  replace h := VM.cond_f V.toVI b26 h
  refine S.condF rfl b26 <| S.skip ?_
  obtain ⟨hq, rfl⟩ := VM.ret_some V.toVI h
  cases hq
  refine S.b1 <| S.b1 ?_
  refine S.to ?_ (hk2 () trivial)
  exact ⟨rfl, rfl, rfl, rfl, rfl, rfl, rfl, rfl, trivial⟩
 rintro _ -
 replace h := hJ2
 refine S.seq <| S.region <| mv rfl <| mv rfl <| mv rfl <| mv rfl ?_
 obtain ⟨_, s28, ht27, h⟩ := VM.bind_some V.toVI h
 refine SO.call (pre := [V.rep _]) rfl Tryz.call122 rfl rfl rfl (endp_Block.ct V _ _ _ _ _ ht27) trivial ?_
 rintro _ _ ⟨rfl, rfl⟩
 refine SO.nil <| S.seq <| S.region <| mv rfl <| mv rfl <| mv rfl ?_
 obtain ⟨_, s30, ht29, h⟩ := VM.bind_some V.toVI h
 refine SO.call (pre := [V.rep _]) rfl Tryz.call55 rfl rfl rfl (lay_Put.ct V _ _ _ _ _ ht29) trivial ?_
 rintro _ _ ⟨rfl, rfl⟩
 refine SO.nil <| tt [(0, V.val), (1, .int .i64 a1), (2, .int .i64 a2), (3, .int .i64 a3), (12, .bool false), (13, errV 98 none)] rfl <| S.seq <| S.region <| mv rfl <| mv rfl <| mv rfl ?_
 obtain ⟨_, s32, ht31, h⟩ := VM.bind_some V.toVI h
 refine SO.call (pre := [V.rep _]) rfl Tryz.call55 rfl rfl rfl (lay_Put.ct V _ _ _ _ _ ht31) trivial ?_
 rintro _ _ ⟨rfl, rfl⟩
 refine SO.nil <| S.seq <| S.region <| mv rfl <| mv rfl ?_
 obtain ⟨_, s34, ht33, h⟩ := VM.bind_some V.toVI h
 refine SO.call (pre := [V.rep _]) rfl Tryz.call55 rfl rfl rfl (lay_Put.ct V _ _ _ _ _ ht33) trivial ?_
 rintro _ _ ⟨rfl, rfl⟩
 refine SO.nil <| tt [(12, .bool false), (13, errV 98 none)] rfl <| S.seq <| S.region <| ag rfl <| ag rfl <| SO.nil ?_
 obtain ⟨hq, rfl⟩ := VM.ret_some V.toVI h
 cases hq
 exact S.b1 <| S.b1 <| S.ret2 Tryz.func60 rfl rfl rfl (hR · _ _ ⟨rfl, rfl⟩)
def ntfn_there.f (a0 : Int) : Option (Bool) :=
  (lay_Obj.f a0 0).bind fun (t1, t2) => some t2
set_option maxHeartbeats 8000000 in
set_option maxRecDepth 100000 in
theorem ntfn_there.ct (a0 : Int) (r0 : Bool) (h : ntfn_there.f a0 = some r0) :
    Ct Tryz.prog 123 [.int .i64 a0] (fun _ => True) [] (fun u H' => u = .bool r0 ∧ H' = []) := by
 unfold ntfn_there.f at h
 refine Ct.intro (n := 11) Tryz.func123 rfl rfl rfl ?_
 intro R w0 F hF hR
 refine S.seq <| S.region <| ag rfl <| SO.nil <| S.seq <| S.region <| mv rfl ?_
 obtain ⟨⟨t1, t2⟩, ht3, h⟩ := opt_bind h
 refine SO.call (pre := []) rfl Tryz.call49 rfl rfl rfl (lay_Obj.ct _ _ _ _ ht3) trivial ?_
 rintro _ _ ⟨rfl, rfl⟩
 refine mv rfl <| vv (opv_extract rfl rfl) <| vv (opv_extract rfl rfl) <| ag rfl <| ag rfl <| SO.nil <| tt [(2, .bool false), (4, .bool t2)] rfl <| S.seq <| S.region <| mv rfl <| ag rfl <| SO.nil ?_
 cases h
 exact S.ret1 Tryz.func123 rfl rfl (hR · _ _ ⟨rfl, rfl⟩)
def ntfn_word.f (a1 : Int) : VM (Int) :=
  (lay_Field.f a1 1).bind fun t1 => VM.ret (band .i64 t1 65535)
set_option maxHeartbeats 8000000 in
set_option maxRecDepth 100000 in
theorem ntfn_word.ct (V : VW Tryz.prog) (a1 : Int) (r0 : Int) (s s' : V.S) (h : VM.run V.toVI (ntfn_word.f a1) s = some (r0, s')) :
    Ct Tryz.prog 124 [V.val, .int .i64 a1] (fun _ => True) [V.rep s] (fun u H' => u = .int .i64 r0 ∧ H' = [V.rep s']) := by
 unfold ntfn_word.f at h
 refine Ct.intro (n := 9) Tryz.func124 rfl rfl rfl ?_
 intro R w0 F hF hR
 refine S.seq <| S.region <| ag rfl <| SO.nil <| S.seq <| S.region <| mv rfl <| mv rfl ?_
 obtain ⟨t1, s3, ht2, h⟩ := VM.bind_some V.toVI h
 refine SO.call (pre := [V.rep _]) rfl Tryz.call27 rfl rfl rfl (lay_Field.ct V _ _ _ _ _ ht2) trivial ?_
 rintro _ _ ⟨rfl, rfl⟩
 refine vv (opv_and rfl rfl) <| ag rfl <| SO.nil ?_
 obtain ⟨hq, rfl⟩ := VM.ret_some V.toVI h
 cases hq
 exact S.b1 <| S.b1 <| S.ret1 Tryz.func124 rfl rfl (hR · _ _ ⟨rfl, rfl⟩)
def ntfn_Poll.f (a1 : Int) : VM ((api_Reply × (Option Int))) :=
  (VM.opt (ntfn_there.f a1)).bind fun t2 => bif !t2 then (VM.ret ((⟨0, 0, 0⟩ : api_Reply), (some 2))) else ((ntfn_word.f a1).bind fun t5 => (lay_Put.f a1 1 0).bind fun _ => VM.ret ((⟨0, t5, 0⟩ : api_Reply), none))
set_option maxHeartbeats 8000000 in
set_option maxRecDepth 100000 in
theorem ntfn_Poll.ct (V : VW Tryz.prog) (a1 : Int) (r0 : api_Reply) (r1 : Option Int) (s s' : V.S) (h : VM.run V.toVI (ntfn_Poll.f a1) s = some ((r0, r1), s')) :
    Ct Tryz.prog 65 [V.val, .int .i64 a1] (fun _ => True) [V.rep s] (fun u H' => u = .tuple #[.agg #[.int .i64 r0.Code, .int .i64 r0.Word, .int .i64 r0.Badge], errV 98 r1] ∧ H' = [V.rep s']) := by
 unfold ntfn_Poll.f at h
 refine Ct.intro (n := 20) Tryz.func65 rfl rfl rfl ?_
 intro R w0 F hF hR
 refine S.seq <| S.region <| SO.alloc rfl Tryz.zeroValue34 rfl fun b1 => ag rfl <| SO.nil <| S.seq <| S.seq <| S.region <| mv rfl ?_
 obtain ⟨t2, ht3, h⟩ := VM.opt_some V.toVI h
 refine SO.call (pre := []) rfl Tryz.call123 rfl rfl rfl (ntfn_there.ct _ _ ht3) trivial ?_
 rintro _ _ ⟨rfl, rfl⟩
 refine vv (opv_not rfl) <| SO.nil ?_
 rcases bool_or (!t2) with b4 | b4
 ·replace h := VM.cond_t V.toVI b4 h
  refine S.condT rfl b4 <| S.seq <| S.region <| vv (opv_build (v := .agg #[.int .i64 0, .int .i64 0, .int .i64 0]) rfl (by intro w; kernel_rfl)) <| vv (opv_iface Tryz.underlying98 rfl rfl) <| SO.storeN Tryz.sizeOf34 rfl rfl rfl rfl rfl rfl <| ag rfl <| SO.nil <| tt [(4, bp b1 0), (5, errV 98 (some 2))] rfl ?_
  obtain ⟨hq, rfl⟩ := VM.ret_some V.toVI h
  cases hq
  exact S.b2 <| S.b2 <| S.b2 <| S.retC1 Tryz.func65 rfl rfl rfl Tryz.isAgg34 Tryz.sizeOf34 rfl rfl (fun w hs hk => hR w _ _ ⟨rfl, rfl⟩ hs.drop hk)
 replace h := VM.cond_f V.toVI b4 h
 refine S.condF rfl b4 <| S.skip <| S.seq <| S.region <| mv rfl <| mv rfl ?_
 obtain ⟨t5, s7, ht6, h⟩ := VM.bind_some V.toVI h
 refine SO.b1 <| SO.call (pre := [V.rep _]) rfl Tryz.call124 rfl rfl rfl (ntfn_word.ct V _ _ _ _ ht6) trivial ?_
 rintro _ _ ⟨rfl, rfl⟩
 refine ag rfl <| SO.nil <| S.seq <| S.region <| mv rfl <| mv rfl ?_
 obtain ⟨_, s9, ht8, h⟩ := VM.bind_some V.toVI h
 refine SO.call (pre := [V.rep _]) rfl Tryz.call55 rfl rfl rfl (lay_Put.ct V _ _ _ _ _ ht8) trivial ?_
 rintro _ _ ⟨rfl, rfl⟩
 refine SO.nil <| tt [(4, bp b1 0), (5, errV 98 none), (6, .int .i64 t5)] rfl <| S.seq <| S.region <| mv rfl <| vv (opv_build (v := .agg #[.int .i64 0, .int .i64 t5, .int .i64 0]) rfl (by intro w; kernel_rfl)) <| SO.b1 <| SO.storeN Tryz.sizeOf34 rfl rfl rfl rfl rfl rfl <| ag rfl <| SO.nil ?_
 obtain ⟨hq, rfl⟩ := VM.ret_some V.toVI h
 cases hq
 exact S.b2 <| S.b2 <| S.b2 <| S.retC1 Tryz.func65 rfl rfl rfl Tryz.isAgg34 Tryz.sizeOf34 rfl rfl (fun w hs hk => hR w _ _ ⟨rfl, rfl⟩ hs.drop hk)
def ntfn_Signal.f (a1 : Int) (a2 : Int) : VM ((Option Int)) :=
  (VM.opt (ntfn_there.f a1)).bind fun t1 => bif !t1 then (VM.ret (some 2)) else ((queue_Pop.f a1).bind fun (t4, t5) => bif t5 then ((endp_Wake.f t4 (band .i64 a2 65535) 0).bind fun _ => VM.ret none) else ((ntfn_word.f a1).bind fun t11 => (lay_Put.f a1 1 (bor .i64 t11 (band .i64 a2 65535))).bind fun _ => VM.ret none))
set_option maxHeartbeats 8000000 in
set_option maxRecDepth 100000 in
theorem ntfn_Signal.ct (V : VW Tryz.prog) (a1 : Int) (a2 : Int) (r0 : Option Int) (s s' : V.S) (h : VM.run V.toVI (ntfn_Signal.f a1 a2) s = some (r0, s')) :
    Ct Tryz.prog 62 [V.val, .int .i64 a1, .int .i64 a2] (fun _ => True) [V.rep s] (fun u H' => u = errV 98 r0 ∧ H' = [V.rep s']) := by
 unfold ntfn_Signal.f at h
 refine Ct.intro (n := 34) Tryz.func62 rfl rfl rfl ?_
 intro R w0 F hF hR
 refine S.seq <| S.region <| ag rfl <| SO.nil <| S.seq <| S.seq <| S.region <| mv rfl ?_
 obtain ⟨t1, ht2, h⟩ := VM.opt_some V.toVI h
 refine SO.call (pre := []) rfl Tryz.call123 rfl rfl rfl (ntfn_there.ct _ _ ht2) trivial ?_
 rintro _ _ ⟨rfl, rfl⟩
 refine vv (opv_not rfl) <| SO.nil ?_
 rcases bool_or (!t1) with b3 | b3
 ·replace h := VM.cond_t V.toVI b3 h
  refine S.condT rfl b3 <| S.seq <| S.region <| vv (opv_iface Tryz.underlying98 rfl rfl) <| ag rfl <| SO.nil <| tt [(6, errV 98 (some 2))] rfl ?_
  obtain ⟨hq, rfl⟩ := VM.ret_some V.toVI h
  cases hq
  exact S.b1 <| S.b1 <| S.ret1 Tryz.func62 rfl rfl (hR · _ _ ⟨rfl, rfl⟩)
 replace h := VM.cond_f V.toVI b3 h
 refine S.condF rfl b3 <| S.skip <| S.seq <| S.region <| mv rfl <| vv (opv_and rfl rfl) <| ag rfl <| SO.nil <| S.seq <| S.seq <| S.region <| mv rfl <| mv rfl ?_
 obtain ⟨⟨t4, t5⟩, s7, ht6, h⟩ := VM.bind_some V.toVI h
 refine SO.call (pre := [V.rep _]) rfl Tryz.call119 rfl rfl rfl (queue_Pop.ct V _ _ _ _ _ ht6) trivial ?_
 rintro _ _ ⟨rfl, rfl⟩
 refine mv rfl <| vv (opv_extract rfl rfl) <| vv (opv_extract rfl rfl) <| ag rfl <| ag rfl <| SO.nil <| tt [(0, V.val), (1, .int .i64 a1), (2, .int .i64 (band .i64 a2 65535)), (6, errV 98 none), (7, .int .i64 t4), (8, .bool t5)] rfl <| S.seq <| S.region <| mv rfl <| SO.nil ?_
 rcases bool_or t5 with b8 | b8
 ·replace h := VM.cond_t V.toVI b8 h
  refine S.condT rfl b8 <| S.seq <| S.region <| mv rfl <| mv rfl <| mv rfl ?_
  obtain ⟨_, s10, ht9, h⟩ := VM.bind_some V.toVI h
  refine SO.call (pre := [V.rep _]) rfl Tryz.call56 rfl rfl rfl (endp_Wake.ct V _ _ _ _ _ ht9) trivial ?_
  rintro _ _ ⟨rfl, rfl⟩
  refine SO.nil <| tt [(6, errV 98 none)] rfl <| S.seq <| S.region <| ag rfl <| SO.nil ?_
  obtain ⟨hq, rfl⟩ := VM.ret_some V.toVI h
  cases hq
  exact S.b1 <| S.b1 <| S.ret1 Tryz.func62 rfl rfl (hR · _ _ ⟨rfl, rfl⟩)
 replace h := VM.cond_f V.toVI b8 h
 refine S.condF rfl b8 <| S.skip <| S.seq <| S.region <| mv rfl <| mv rfl <| mv rfl <| mv rfl ?_
 obtain ⟨t11, s13, ht12, h⟩ := VM.bind_some V.toVI h
 refine SO.call (pre := [V.rep _]) rfl Tryz.call124 rfl rfl rfl (ntfn_word.ct V _ _ _ _ ht12) trivial ?_
 rintro _ _ ⟨rfl, rfl⟩
 refine mv rfl <| vv (opv_or rfl rfl) ?_
 obtain ⟨_, s15, ht14, h⟩ := VM.bind_some V.toVI h
 refine SO.call (pre := [V.rep _]) rfl Tryz.call55 rfl rfl rfl (lay_Put.ct V _ _ _ _ _ ht14) trivial ?_
 rintro _ _ ⟨rfl, rfl⟩
 refine SO.nil <| tt [(6, errV 98 none)] rfl <| S.seq <| S.region <| ag rfl <| SO.nil ?_
 obtain ⟨hq, rfl⟩ := VM.ret_some V.toVI h
 cases hq
 exact S.b1 <| S.b1 <| S.ret1 Tryz.func62 rfl rfl (hR · _ _ ⟨rfl, rfl⟩)
def ntfn_Wait.f (a1 : Int) (a2 : Int) : VM ((api_Reply × Bool × (Option Int))) :=
  (VM.opt (ntfn_there.f a1)).bind fun t2 => (bif !t2 then (VM.ret true) else ((VM.opt (ntfn_there.f a2)).bind fun t7 => VM.ret (!t7))).bind fun c5 => bif c5 then (VM.ret ((⟨0, 0, 0⟩ : api_Reply), false, (some 2))) else ((ntfn_word.f a1).bind fun t11 => bif t11 == 0 then ((endp_Block.f a1 a2 5).bind fun _ => VM.ret ((⟨0, 0, 0⟩ : api_Reply), false, none)) else ((ntfn_Poll.f a1).bind fun (t17, t18) => VM.ret (t17, t18.isNone, t18)))
set_option maxHeartbeats 8000000 in
set_option maxRecDepth 100000 in
theorem ntfn_Wait.ct (V : VW Tryz.prog) (a1 : Int) (a2 : Int) (r0 : api_Reply) (r1 : Bool) (r2 : Option Int) (s s' : V.S) (h : VM.run V.toVI (ntfn_Wait.f a1 a2) s = some ((r0, r1, r2), s')) :
    Ct Tryz.prog 64 [V.val, .int .i64 a1, .int .i64 a2] (fun _ => True) [V.rep s] (fun u H' => u = .tuple #[.agg #[.int .i64 r0.Code, .int .i64 r0.Word, .int .i64 r0.Badge], .bool r1, errV 98 r2] ∧ H' = [V.rep s']) := by
 unfold ntfn_Wait.f at h
 refine Ct.intro (n := 42) Tryz.func64 rfl rfl rfl ?_
 intro R w0 F hF hR
 refine S.seq <| S.region <| SO.alloc rfl Tryz.zeroValue34 rfl fun b1 => ag rfl <| ag rfl <| SO.nil <| S.seq <| S.block <| S.seq <| S.region <| mv rfl ?_
 obtain ⟨t2, ht3, h⟩ := VM.opt_some V.toVI h
 refine SO.call (pre := []) rfl Tryz.call123 rfl rfl rfl (ntfn_there.ct _ _ ht3) trivial ?_
 rintro _ _ ⟨rfl, rfl⟩
 refine vv (opv_not rfl) <| mv rfl ?_
 obtain ⟨c5, s9, hc6, hgk⟩ := VM.bind_some V.toVI h
 refine SO.cut 4 19 (.bool c5) [Box b1 [.int .i64 0, .int .i64 0, .int .i64 0], V.rep s9, F] (fun l2 hk2 => ?_) ?_
 ·clear hgk
  replace h := hc6
  rcases bool_or (!t2) with b4 | b4
  ·replace h := VM.cond_t V.toVI b4 h
   refine pf rfl rfl rfl b4 <| pf rfl rfl rfl b4 <| pf rfl rfl rfl b4 ?_
   obtain ⟨hq, rfl⟩ := VM.ret_some V.toVI h
   cases hq
   exact vv (opv_pick_t' b4 rfl rfl) <| SO.b2 <| SO.b2 <| SO.b2 <| hk2.fitc (m := 4) rfl (rfl) rfl
  replace h := VM.cond_f V.toVI b4 h
  refine SO.takeT rfl rfl rfl b4 <| mv rfl <| SO.takeT rfl rfl rfl b4 ?_
  obtain ⟨t7, ht8, h⟩ := VM.opt_some V.toVI h
  refine SO.call (pre := []) rfl Tryz.call123 rfl rfl rfl (ntfn_there.ct _ _ ht8) trivial ?_
  rintro _ _ ⟨rfl, rfl⟩
  refine SO.takeT rfl rfl rfl b4 <| vv (opv_not rfl) ?_
  obtain ⟨hq, rfl⟩ := VM.ret_some V.toVI h
  cases hq
  exact vv (opv_pick_f' b4 rfl rfl) <| SO.b2 <| SO.b2 <| SO.b2 <| hk2.fitc (m := 4) rfl (rfl) rfl
 clear hc6
 replace h := hgk
 refine ag rfl <| SO.nil ?_
 rcases bool_or c5 with b10 | b10
 ·replace h := VM.cond_t V.toVI b10 h
  refine S.condT rfl b10 <| S.seq <| S.region <| vv (opv_build (v := .agg #[.int .i64 0, .int .i64 0, .int .i64 0]) rfl (by intro w; kernel_rfl)) <| vv (opv_iface Tryz.underlying98 rfl rfl) <| SO.storeN Tryz.sizeOf34 rfl rfl rfl rfl rfl rfl <| ag rfl <| ag rfl <| SO.nil <| tt [(6, bp b1 0), (7, .bool false), (8, errV 98 (some 2))] rfl ?_
  obtain ⟨hq, rfl⟩ := VM.ret_some V.toVI h
  cases hq
  exact S.b2 <| S.b2 <| S.b2 <| S.retC2 Tryz.func64 rfl rfl rfl rfl Tryz.isAgg34 Tryz.sizeOf34 rfl rfl (fun w hs hk => hR w _ _ ⟨rfl, rfl⟩ hs.drop hk)
 replace h := VM.cond_f V.toVI b10 h
 refine S.condF rfl b10 <| S.seq <| S.region <| mv rfl <| mv rfl ?_
 obtain ⟨t11, s13, ht12, h⟩ := VM.bind_some V.toVI h
 refine SO.b1 <| SO.call (pre := [V.rep _]) rfl Tryz.call124 rfl rfl rfl (ntfn_word.ct V _ _ _ _ ht12) trivial ?_
 rintro _ _ ⟨rfl, rfl⟩
 refine vv (opv_eql rfl rfl) <| ag rfl <| SO.nil <| tt [(0, V.val), (1, .int .i64 a1), (2, .int .i64 a2), (6, bp b1 0), (7, .bool false), (8, errV 98 none), (22, .bool (t11 == 0))] rfl ?_
 rcases bool_or (t11 == 0) with b14 | b14
 ·replace h := VM.cond_t V.toVI b14 h
  refine S.condT rfl b14 <| S.seq <| S.region <| mv rfl <| mv rfl <| mv rfl ?_
  obtain ⟨_, s16, ht15, h⟩ := VM.bind_some V.toVI h
  refine SO.call (pre := [V.rep _]) rfl Tryz.call122 rfl rfl rfl (endp_Block.ct V _ _ _ _ _ ht15) trivial ?_
  rintro _ _ ⟨rfl, rfl⟩
  refine SO.nil <| tt [(6, bp b1 0), (7, .bool false), (8, errV 98 none)] rfl <| S.seq <| S.region <| vv (opv_build (v := .agg #[.int .i64 0, .int .i64 0, .int .i64 0]) rfl (by intro w; kernel_rfl)) <| SO.b1 <| SO.storeN Tryz.sizeOf34 rfl rfl rfl rfl rfl rfl <| ag rfl <| ag rfl <| SO.nil ?_
  obtain ⟨hq, rfl⟩ := VM.ret_some V.toVI h
  cases hq
  exact S.b2 <| S.b2 <| S.b2 <| S.retC2 Tryz.func64 rfl rfl rfl rfl Tryz.isAgg34 Tryz.sizeOf34 rfl rfl (fun w hs hk => hR w _ _ ⟨rfl, rfl⟩ hs.drop hk)
 replace h := VM.cond_f V.toVI b14 h
 refine S.condF rfl b14 <| S.skip <| S.inBlock <| S.seq <| S.region <| mv rfl <| mv rfl ?_
 obtain ⟨⟨t17, t18⟩, s20, ht19, h⟩ := VM.bind_some V.toVI h
 refine SO.call (pre := [V.rep _]) rfl Tryz.call65 rfl rfl rfl (ntfn_Poll.ct V _ _ _ _ _ ht19) trivial ?_
 rintro _ _ ⟨rfl, rfl⟩
 refine mv rfl <| vv (opv_extract rfl rfl) <| vv (opv_extract rfl rfl) <| SO.alloc rfl Tryz.zeroValue34 rfl fun b21 => SO.storeN Tryz.sizeOf34 rfl rfl rfl rfl rfl rfl <| ag rfl <| SO.nil <| tt [(6, bp b1 0), (7, .bool false), (8, errV 98 none), (9, bp b21 0), (10, errV 98 t18)] rfl <| S.seq ?_
 refine S.draw2 (Y := fun Q => ∃ (_ _ _ _ _ _ _ : Unit), Q [(9, bp b21 0), (10, errV 98 t18), (6, bp b1 0)] [Box b21 [.int .i64 t17.Code, .int .i64 t17.Word, .int .i64 t17.Badge], V.rep s20, Box b1 [.int .i64 0, .int .i64 0, .int .i64 0], F]) (Z := fun Q => ∀ (_ _ _ _ _ _ _ : Unit), Q [(6, bp b1 0), (7, .bool t18.isNone), (8, errV 98 t18)] [Box b21 [.int .i64 t17.Code, .int .i64 t17.Word, .int .i64 t17.Badge], V.rep s20, Box b1 [.int .i64 t17.Code, .int .i64 t17.Word, .int .i64 t17.Badge], F]) (T := [tS 9 (bp b21 0), tS 10 (errV 98 t18), tS 6 (bp b1 0), tR (Box b21 [.int .i64 t17.Code, .int .i64 t17.Word, .int .i64 t17.Badge]), tR (V.rep s20), tR (Box b1 [.int .i64 0, .int .i64 0, .int .i64 0]), tR (F), tS 38 (.agg #[.int .i64 t17.Code, .int .i64 t17.Word, .int .i64 t17.Badge]), tS 39 (errV 98 t18), tS 40 (.bool t18.isNone), tS 41 (errV 98 t18), tR (Box b1 [.int .i64 t17.Code, .int .i64 t17.Word, .int .i64 t17.Badge]), tS 7 (.bool t18.isNone), tS 8 (errV 98 t18)]) (D := [⟨[0, 3], [], [7]⟩, ⟨[1], [], [8]⟩, ⟨[8], [], [9]⟩, ⟨[1], [], [10]⟩, ⟨[2, 7], [5], [11]⟩, ⟨[9], [], [12]⟩, ⟨[10], [], [13]⟩]) (ini := [0, 1, 2, 3, 4, 5, 6]) (fin := [2, 12, 13, 3, 4, 11, 6]) (bf := [[], [], [1], [], [0], [0, 1, 2, 4], [0, 1, 2, 3, 4, 5]]) (by kernel_rfl) (by kernel_rfl) (fun Q => by kernel_rfl) (fun x w h1 h2 => ⟨(), (), (), (), (), (), (), EnvAll.of h1 ⟨rfl, rfl, rfl, trivial⟩, h2⟩) (fun Q => by kernel_rfl) ⟨?_, ?_, ?_, ?_, ?_, ?_, ?_, trivial⟩ ?_
 ·rintro Fr _ _
  exact SO.loadN rfl Tryz.isAgg34 Tryz.sizeOf34 rfl rfl rfl <| nz3 rfl () () () rfl
 ·rintro Fr _
  exact mv rfl <| nz2 rfl () () rfl
 ·rintro Fr _
  exact vv (opv_eqlN (e := t18) Tryz.underlying74 rfl) <| nz2 rfl () () rfl
 ·rintro Fr _
  exact mv rfl <| nz2 rfl () () rfl
 ·rintro Fr _ _ _
  exact SO.storeN Tryz.sizeOf34 rfl rfl rfl rfl rfl rfl <| nz3 rfl () () () rfl
 ·rintro Fr _
  exact ag rfl <| nz2 rfl () () rfl
 ·rintro Fr _
  exact ag rfl <| nz2 rfl () () rfl
 rintro _ _ _ _ _ _ _
 refine tt [(6, bp b1 0), (7, .bool t18.isNone), (8, errV 98 t18)] rfl ?_
 obtain ⟨hq, rfl⟩ := VM.ret_some V.toVI h
 cases hq
 exact S.drop <| S.b2 <| S.b1 <| S.b2 <| S.retC2 Tryz.func64 rfl rfl rfl rfl Tryz.isAgg34 Tryz.sizeOf34 rfl rfl (fun w hs hk => hR w _ _ ⟨rfl, rfl⟩ hs.drop hk)
def invoke_doer_message.f (k : Nat) (a0 : invoke_doer) : VM ((api_Reply × (Option Int))) :=
  (bif a0.c.Op == 3 then (VM.ret ((3, 6) : (Int × Int))) else (bif a0.c.Op == 2 then (VM.ret ((3, 1) : (Int × Int))) else (bif a0.c.Op == 5 then (VM.ret ((4, 2) : (Int × Int))) else (bif a0.c.Op == 6 then (bif a0.c.Op == 6 then (VM.ret ((4, 1) : (Int × Int))) else (VM.ret ((3, 2) : (Int × Int)))) else (bif a0.c.Op == 7 then (VM.ret ((4, 1) : (Int × Int))) else (VM.ret ((3, 2) : (Int × Int)))))))).bind fun (j5_1, j6_1) => (VM.opt (invoke_is.f a0.cap j5_1 j6_1)).bind fun t9 => bif t9.isSome then (VM.ret ((⟨0, 0, 0⟩ : api_Reply), t9)) else ((bif a0.c.Op == 1 then (VM.ret (a0.c.Op == 1)) else (VM.ret (a0.c.Op == 3))).bind fun j52_2 => bif j52_2 then ((endp_Send.f k a0.cap.Obj a0.t a0.cap.Badge a0.c.A (a0.c.Op == 3)).bind fun (t14, t15) => VM.ret ((⟨0, 0, 0⟩ : api_Reply), t15)) else (bif a0.c.Op == 2 then ((endp_Recv.f k a0.cap.Obj a0.t).bind fun (t19, t20, t21) => VM.ret (t19, t21)) else (bif a0.c.Op == 5 then ((VM.opt (invoke_signed.f a0.cap)).bind fun t25 => (ntfn_Signal.f a0.cap.Obj t25).bind fun t27 => VM.ret ((⟨0, 0, 0⟩ : api_Reply), t27)) else (bif a0.c.Op == 6 then ((ntfn_Wait.f a0.cap.Obj a0.t).bind fun (t31, t32, t33) => VM.ret (t31, t33)) else ((ntfn_Poll.f a0.cap.Obj).bind fun (t36, t37) => VM.ret (t36, t37))))))
set_option maxHeartbeats 8000000 in
set_option maxRecDepth 100000 in
theorem invoke_doer_message.ct (V : VW Tryz.prog) (k : Nat) (bp0 : Nat) (a0 : invoke_doer) (r0 : api_Reply) (r1 : Option Int) (s s' : V.S) (h : VM.run V.toVI (invoke_doer_message.f k a0) s = some ((r0, r1), s')) :
    Ct Tryz.prog 36 [bp bp0 0] (fun _ => True) [Box bp0 [V.val, .int .i64 a0.t, .int .i64 a0.c.Op, .int .i64 a0.c.Cap, .int .i64 a0.c.A, .int .i64 a0.c.B, .int .i64 a0.c.C, .int .i64 a0.c.D, .int .i64 a0.slot, .int .i64 a0.cap.Kind, .int .i64 a0.cap.Rights, .int .i64 a0.cap.Obj, .int .i64 a0.cap.Badge, .int .i64 a0.cap.Guard, .int .i64 a0.cap.Bits], V.rep s] (fun u H' => u = .tuple #[.agg #[.int .i64 r0.Code, .int .i64 r0.Word, .int .i64 r0.Badge], errV 98 r1] ∧ H' = [Box bp0 [V.val, .int .i64 a0.t, .int .i64 a0.c.Op, .int .i64 a0.c.Cap, .int .i64 a0.c.A, .int .i64 a0.c.B, .int .i64 a0.c.C, .int .i64 a0.c.D, .int .i64 a0.slot, .int .i64 a0.cap.Kind, .int .i64 a0.cap.Rights, .int .i64 a0.cap.Obj, .int .i64 a0.cap.Badge, .int .i64 a0.cap.Guard, .int .i64 a0.cap.Bits], V.rep s']) := by
 unfold invoke_doer_message.f at h
 refine Ct.intro (n := 147) Tryz.func36 rfl rfl rfl ?_
 intro R w0 F hF hR
 refine S.seq <| S.region <| SO.alloc rfl Tryz.zeroValue34 rfl fun b1 => ag rfl <| SO.nil <| S.seq <| S.region <| SO.alloc rfl Tryz.zeroValue34 rfl fun b2 => SO.nil <| S.seq <| S.region <| ag rfl <| ag rfl <| SO.nil <| S.seq <| S.seq <| S.region <| mv rfl <| nc rfl <| fa Tryz.underlying72 rfl Tryz.sizeOf30 rfl rfl <| fa Tryz.underlying30 rfl Tryz.sizeOf3 rfl rfl <| SO.b2 <| ld Tryz.isAgg3 rfl rfl <| SO.nil ?_
 obtain ⟨⟨j5_1, j6_1⟩, s_1, hC1, hJ1⟩ := VM.bind_some V.toVI h
 clear h
 refine S.cutP (G := Unit) (fun _ => True) (fun _ => [(0, bp bp0 0), (2, bp b1 0), (3, errV 98 none), (4, bp b2 0), (5, .int .i64 j5_1), (6, .int .i64 j6_1)]) (fun _ => [Box bp0 [V.val, .int .i64 a0.t, .int .i64 a0.c.Op, .int .i64 a0.c.Cap, .int .i64 a0.c.A, .int .i64 a0.c.B, .int .i64 a0.c.C, .int .i64 a0.c.D, .int .i64 a0.slot, .int .i64 a0.cap.Kind, .int .i64 a0.cap.Rights, .int .i64 a0.cap.Obj, .int .i64 a0.cap.Badge, .int .i64 a0.cap.Guard, .int .i64 a0.cap.Bits], Box b2 [.int .i64 0, .int .i64 0, .int .i64 0], Box b1 [.int .i64 0, .int .i64 0, .int .i64 0], V.rep s_1, F]) (fun hk1 => ?_) ?_
 ·replace h := hC1
  refine S.block <| S.seq <| S.region <| vv (opv_eql rfl rfl) <| ag rfl <| SO.nil ?_
  rcases bool_or (a0.c.Op == 3) with b3 | b3
  ·replace h := VM.cond_t V.toVI b3 h
   refine S.condT rfl b3 <| S.region <| ag rfl <| SO.nil <| tt [(0, bp bp0 0), (2, bp b1 0), (3, errV 98 none), (4, bp b2 0), (5, .int .i64 3), (6, .int .i64 6)] rfl <| S.inBlock ?_
   obtain ⟨hq, rfl⟩ := VM.ret_some V.toVI h
   cases hq
   refine S.b4 <| S.b4 <| S.b4 <| S.b4 <| S.b4 ?_
   refine S.to ?_ (hk1 () trivial)
   exact ⟨rfl, rfl, rfl, rfl, rfl, rfl, trivial⟩
  replace h := VM.cond_f V.toVI b3 h
  refine S.condF rfl b3 <| S.seq <| S.region <| vv (opv_eql rfl rfl) <| ag rfl <| SO.nil <| tt [(0, bp bp0 0), (2, bp b1 0), (3, errV 98 none), (4, bp b2 0), (5, .int .i64 3), (6, .int .i64 2), (13, .int .i64 a0.c.Op), (16, .bool (a0.c.Op == 2))] rfl ?_
  rcases bool_or (a0.c.Op == 2) with b4 | b4
  ·replace h := VM.cond_t V.toVI b4 h
   refine S.condT rfl b4 <| S.region <| ag rfl <| SO.nil <| S.inBlock ?_
   obtain ⟨hq, rfl⟩ := VM.ret_some V.toVI h
   cases hq
   refine S.b4 <| S.b4 <| S.b4 <| S.b4 <| S.b4 ?_
   refine S.to ?_ (hk1 () trivial)
   exact ⟨rfl, rfl, rfl, rfl, rfl, rfl, trivial⟩
  replace h := VM.cond_f V.toVI b4 h
  refine S.condF rfl b4 <| S.seq <| S.region <| vv (opv_eql rfl rfl) <| ag rfl <| SO.nil ?_
  rcases bool_or (a0.c.Op == 5) with b5 | b5
  ·replace h := VM.cond_t V.toVI b5 h
   refine S.condT rfl b5 <| S.region <| ag rfl <| SO.nil <| S.inBlock ?_
   obtain ⟨hq, rfl⟩ := VM.ret_some V.toVI h
   cases hq
   refine S.b4 <| S.b4 <| S.b4 <| S.b4 <| S.b4 ?_
   refine S.to ?_ (hk1 () trivial)
   exact ⟨rfl, rfl, rfl, rfl, rfl, rfl, trivial⟩
  replace h := VM.cond_f V.toVI b5 h
  refine S.condF rfl b5 <| S.seq <| S.seq <| S.region <| vv (opv_eql rfl rfl) <| ag rfl <| SO.nil ?_
  rcases bool_or (a0.c.Op == 6) with b6 | b6
  ·replace h := VM.cond_t V.toVI b6 h
   refine S.condT rfl b6 <| S.skip ?_
   rcases bool_or (a0.c.Op == 6) with b7 | b7
   ·replace h := VM.cond_t V.toVI b7 h
    refine S.condT rfl b7 <| S.region <| ag rfl <| ag rfl <| SO.nil <| S.inBlock ?_
    obtain ⟨hq, rfl⟩ := VM.ret_some V.toVI h
    cases hq
    refine S.b4 <| S.b4 <| S.b4 <| S.b4 <| S.b4 ?_
    refine S.to ?_ (hk1 () trivial)
    exact ⟨rfl, rfl, rfl, rfl, rfl, rfl, trivial⟩
   replace h := VM.cond_f V.toVI b7 h
   refine S.condF rfl b7 <| S.skip <| S.inBlock ?_
   obtain ⟨hq, rfl⟩ := VM.ret_some V.toVI h
   cases hq
   refine S.b4 <| S.b4 <| S.b4 <| S.b4 <| S.b4 ?_
   refine S.to ?_ (hk1 () trivial)
   exact ⟨rfl, rfl, rfl, rfl, rfl, rfl, trivial⟩
  replace h := VM.cond_f V.toVI b6 h
  refine S.condF rfl b6 <| S.region <| vv (opv_eql rfl rfl) <| ag rfl <| SO.nil ?_
  rcases bool_or (a0.c.Op == 7) with b8 | b8
  ·replace h := VM.cond_t V.toVI b8 h
   refine S.condT rfl b8 <| S.region <| ag rfl <| ag rfl <| SO.nil <| tt [(0, bp bp0 0), (2, bp b1 0), (3, errV 98 none), (4, bp b2 0), (5, .int .i64 4), (6, .int .i64 1)] rfl <| S.inBlock ?_
   obtain ⟨hq, rfl⟩ := VM.ret_some V.toVI h
   cases hq
   refine S.b4 <| S.b4 <| S.b4 <| S.b4 <| S.b4 ?_
   refine S.to ?_ (hk1 () trivial)
   exact ⟨rfl, rfl, rfl, rfl, rfl, rfl, trivial⟩
  replace h := VM.cond_f V.toVI b8 h
  refine S.condF rfl b8 <| S.skip <| S.inBlock ?_
  obtain ⟨hq, rfl⟩ := VM.ret_some V.toVI h
  cases hq
  refine S.b4 <| S.b4 <| S.b4 <| S.b4 <| S.b4 ?_
  refine S.to ?_ (hk1 () trivial)
  exact ⟨rfl, rfl, rfl, rfl, rfl, rfl, trivial⟩
 rintro _ -
 replace h := hJ1
 refine S.seq <| S.seq <| S.region <| mv rfl <| nc rfl <| fa Tryz.underlying72 rfl Tryz.sizeOf45 rfl rfl <| SO.loadN rfl Tryz.isAgg45 Tryz.sizeOf45 rfl rfl rfl <| mv rfl <| mv rfl ?_
 obtain ⟨t9, ht10, h⟩ := VM.opt_some V.toVI h
 refine SO.call (pre := []) rfl Tryz.call59 rfl rfl rfl (invoke_is.ct _ _ _ _ ht10) trivial ?_
 rintro _ _ ⟨rfl, rfl⟩
 refine ag rfl <| SO.nil <| tt [(0, bp bp0 0), (2, bp b1 0), (3, errV 98 none), (4, bp b2 0), (7, errV 98 t9)] rfl <| S.seq <| S.region <| mv rfl <| vv (opv_neqN (e := t9) Tryz.underlying74 rfl) <| SO.nil ?_
 rcases bool_or t9.isSome with b11 | b11
 ·replace h := VM.cond_t V.toVI b11 h
  refine S.condT rfl b11 <| S.seq <| S.region <| SO.b1 <| SO.loadN rfl Tryz.isAgg34 Tryz.sizeOf34 rfl rfl rfl <| mv rfl <| SO.b2 <| SO.storeN Tryz.sizeOf34 rfl rfl rfl rfl rfl rfl <| ag rfl <| SO.nil <| tt [(2, bp b1 0), (3, errV 98 t9)] rfl ?_
  obtain ⟨hq, rfl⟩ := VM.ret_some V.toVI h
  cases hq
  exact S.b1 <| S.drop <| S.b3 <| S.b3 <| S.b3 <| S.b3 <| S.retC1 Tryz.func36 rfl rfl rfl Tryz.isAgg34 Tryz.sizeOf34 rfl rfl (fun w hs hk => hR w _ _ ⟨rfl, rfl⟩ hs.drop hk)
 replace h := VM.cond_f V.toVI b11 h
 refine S.condF rfl b11 <| S.skip <| S.seq <| S.region <| ag rfl <| SO.nil <| S.seq <| S.seq <| S.region <| mv rfl <| nc rfl <| fa Tryz.underlying72 rfl Tryz.sizeOf30 rfl rfl <| fa Tryz.underlying30 rfl Tryz.sizeOf3 rfl rfl <| ld Tryz.isAgg3 rfl rfl <| SO.nil <| tt [(0, bp bp0 0), (2, bp b1 0), (3, errV 98 none), (4, bp b2 0), (38, .int .i64 a0.c.Op)] rfl <| S.block <| S.seq <| S.seq <| S.region <| vv (opv_eql rfl rfl) <| ag rfl <| SO.nil ?_
 obtain ⟨j52_2, s_2, hC2, hJ2⟩ := VM.bind_some V.toVI h
 clear h
 refine S.cutP (G := Unit) (fun _ => True) (fun _ => [(0, bp bp0 0), (2, bp b1 0), (3, errV 98 none), (4, bp b2 0), (38, .int .i64 a0.c.Op), (52, .bool j52_2)]) (fun _ => [Box bp0 [V.val, .int .i64 a0.t, .int .i64 a0.c.Op, .int .i64 a0.c.Cap, .int .i64 a0.c.A, .int .i64 a0.c.B, .int .i64 a0.c.C, .int .i64 a0.c.D, .int .i64 a0.slot, .int .i64 a0.cap.Kind, .int .i64 a0.cap.Rights, .int .i64 a0.cap.Obj, .int .i64 a0.cap.Badge, .int .i64 a0.cap.Guard, .int .i64 a0.cap.Bits], Box b2 [.int .i64 0, .int .i64 0, .int .i64 0], Box b1 [.int .i64 0, .int .i64 0, .int .i64 0], V.rep s_2, F]) (fun hk2 => ?_) ?_
 ·replace h := hC2
  rcases bool_or (a0.c.Op == 1) with b12 | b12
  ·replace h := VM.cond_t V.toVI b12 h
   refine S.condT rfl b12 <| S.skip ?_
   obtain ⟨hq, rfl⟩ := VM.ret_some V.toVI h
   cases hq
   refine S.b4 <| S.b4 <| S.b4 <| S.b4 <| S.b4 ?_
   refine S.to ?_ (hk2 () trivial)
   exact ⟨rfl, rfl, rfl, rfl, rfl, rfl, trivial⟩
  replace h := VM.cond_f V.toVI b12 h
  refine S.condF rfl b12 <| S.region <| vv (opv_eql rfl rfl) <| ag rfl <| SO.nil ?_
  obtain ⟨hq, rfl⟩ := VM.ret_some V.toVI h
  cases hq
  refine S.b4 <| S.b4 <| S.b4 <| S.b4 <| S.b4 ?_
  refine S.to ?_ (hk2 () trivial)
  exact ⟨rfl, rfl, rfl, rfl, rfl, rfl, trivial⟩
 rintro _ -
 replace h := hJ2
 rcases bool_or j52_2 with b13 | b13
 ·replace h := VM.cond_t V.toVI b13 h
  refine S.condT rfl b13 ?_
  obtain ⟨⟨t14, t15⟩, s17, ht16, h⟩ := VM.bind_some V.toVI h
  refine S.draw2 (Y := fun Q => ∃ (_ _ _ _ _ _ _ : Unit), Q [(0, bp bp0 0), (2, bp b1 0), (3, errV 98 none), (4, bp b2 0)] [Box bp0 [V.val, .int .i64 a0.t, .int .i64 a0.c.Op, .int .i64 a0.c.Cap, .int .i64 a0.c.A, .int .i64 a0.c.B, .int .i64 a0.c.C, .int .i64 a0.c.D, .int .i64 a0.slot, .int .i64 a0.cap.Kind, .int .i64 a0.cap.Rights, .int .i64 a0.cap.Obj, .int .i64 a0.cap.Badge, .int .i64 a0.cap.Guard, .int .i64 a0.cap.Bits], Box b2 [.int .i64 0, .int .i64 0, .int .i64 0], Box b1 [.int .i64 0, .int .i64 0, .int .i64 0], V.rep s_2, F]) (Z := fun Q => ∀ (_ _ _ _ _ _ _ : Unit), Q [(2, bp b1 0), (3, errV 98 none), (4, bp b2 0), (8, errV 98 t15)] [Box bp0 [V.val, .int .i64 a0.t, .int .i64 a0.c.Op, .int .i64 a0.c.Cap, .int .i64 a0.c.A, .int .i64 a0.c.B, .int .i64 a0.c.C, .int .i64 a0.c.D, .int .i64 a0.slot, .int .i64 a0.cap.Kind, .int .i64 a0.cap.Rights, .int .i64 a0.cap.Obj, .int .i64 a0.cap.Badge, .int .i64 a0.cap.Guard, .int .i64 a0.cap.Bits], Box b2 [.int .i64 0, .int .i64 0, .int .i64 0], Box b1 [.int .i64 0, .int .i64 0, .int .i64 0], V.rep s17, F]) (T := [tS 0 (bp bp0 0), tE [(2, bp b1 0), (3, errV 98 none), (4, bp b2 0)], tR (Box bp0 [V.val, .int .i64 a0.t, .int .i64 a0.c.Op, .int .i64 a0.c.Cap, .int .i64 a0.c.A, .int .i64 a0.c.B, .int .i64 a0.c.C, .int .i64 a0.c.D, .int .i64 a0.slot, .int .i64 a0.cap.Kind, .int .i64 a0.cap.Rights, .int .i64 a0.cap.Obj, .int .i64 a0.cap.Badge, .int .i64 a0.cap.Guard, .int .i64 a0.cap.Bits]), tR (Box b2 [.int .i64 0, .int .i64 0, .int .i64 0]), tR (Box b1 [.int .i64 0, .int .i64 0, .int .i64 0]), tR (V.rep s_2), tR (F), tS 56 (bp bp0 0), tS 57 (bp bp0 0), tS 58 (bp bp0 0), tS 59 (V.val), tS 60 (bp bp0 0), tS 61 (bp bp0 0), tS 62 (bp bp0 9), tS 63 (bp bp0 11), tS 64 (.int .i64 a0.cap.Obj), tS 65 (bp bp0 0), tS 66 (bp bp0 0), tS 67 (bp bp0 1), tS 68 (.int .i64 a0.t), tS 69 (bp bp0 0), tS 70 (bp bp0 0), tS 71 (bp bp0 9), tS 72 (bp bp0 12), tS 73 (.int .i64 a0.cap.Badge), tS 74 (bp bp0 0), tS 75 (bp bp0 0), tS 76 (bp bp0 2), tS 77 (bp bp0 4), tS 78 (.int .i64 a0.c.A), tS 79 (bp bp0 0), tS 80 (bp bp0 0), tS 81 (bp bp0 2), tS 82 (bp bp0 2), tS 83 (.int .i64 a0.c.Op), tS 84 (.bool (a0.c.Op == 3)), tR (V.rep s17), tS 85 (.tuple #[.bool t14, errV 98 t15]), tS 55 (.tuple #[.bool t14, errV 98 t15]), tS 86 (.bool t14), tS 87 (errV 98 t15), tS 8 (errV 98 t15)]) (D := [⟨[0], [], [7]⟩, ⟨[7], [], [8]⟩, ⟨[8], [], [9]⟩, ⟨[9, 2], [], [10]⟩, ⟨[0], [], [11]⟩, ⟨[11], [], [12]⟩, ⟨[12], [], [13]⟩, ⟨[13], [], [14]⟩, ⟨[14, 2], [], [15]⟩, ⟨[0], [], [16]⟩, ⟨[16], [], [17]⟩, ⟨[17], [], [18]⟩, ⟨[18, 2], [], [19]⟩, ⟨[0], [], [20]⟩, ⟨[20], [], [21]⟩, ⟨[21], [], [22]⟩, ⟨[22], [], [23]⟩, ⟨[23, 2], [], [24]⟩, ⟨[0], [], [25]⟩, ⟨[25], [], [26]⟩, ⟨[26], [], [27]⟩, ⟨[27], [], [28]⟩, ⟨[28, 2], [], [29]⟩, ⟨[0], [], [30]⟩, ⟨[30], [], [31]⟩, ⟨[31], [], [32]⟩, ⟨[32], [], [33]⟩, ⟨[33, 2], [], [34]⟩, ⟨[34], [], [35]⟩, ⟨[10, 15, 19, 24, 29, 35], [5], [36, 37]⟩, ⟨[37], [], [38]⟩, ⟨[38], [], [39]⟩, ⟨[38], [], [40]⟩, ⟨[40], [], [41]⟩]) (ini := [0, 1, 2, 3, 4, 5, 6]) (fin := [1, 41, 2, 3, 4, 36, 6]) (bf := [[], [0], [0, 1], [0, 1, 2], [], [4], [4, 5], [4, 5, 6], [4, 5, 6, 7], [], [9], [9, 10], [9, 10, 11], [], [13], [13, 14], [13, 14, 15], [13, 14, 15, 16], [], [18], [18, 19], [18, 19, 20], [18, 19, 20, 21], [], [23], [23, 24], [23, 24, 25], [23, 24, 25, 26], [23, 24, 25, 26, 27], [0, 1, 2, 3, 4, 5, 6, 7, 8, 9, 10, 11, 12, 13, 14, 15, 16, 17, 18, 19, 20, 21, 22, 23, 24, 25, 26, 27, 28], [0, 1, 2, 3, 4, 5, 6, 7, 8, 9, 10, 11, 12, 13, 14, 15, 16, 17, 18, 19, 20, 21, 22, 23, 24, 25, 26, 27, 28, 29], [0, 1, 2, 3, 4, 5, 6, 7, 8, 9, 10, 11, 12, 13, 14, 15, 16, 17, 18, 19, 20, 21, 22, 23, 24, 25, 26, 27, 28, 29, 30], [0, 1, 2, 3, 4, 5, 6, 7, 8, 9, 10, 11, 12, 13, 14, 15, 16, 17, 18, 19, 20, 21, 22, 23, 24, 25, 26, 27, 28, 29, 30], [0, 1, 2, 3, 4, 5, 6, 7, 8, 9, 10, 11, 12, 13, 14, 15, 16, 17, 18, 19, 20, 21, 22, 23, 24, 25, 26, 27, 28, 29, 30, 31, 32]]) (by kernel_rfl) (by kernel_rfl) (fun Q => by kernel_rfl) (fun x w h1 h2 => ⟨(), (), (), (), (), (), (), EnvAll.of h1 ⟨rfl, rfl, rfl, rfl, trivial⟩, h2⟩) (fun Q => by kernel_rfl) ⟨?_, ?_, ?_, ?_, ?_, ?_, ?_, ?_, ?_, ?_, ?_, ?_, ?_, ?_, ?_, ?_, ?_, ?_, ?_, ?_, ?_, ?_, ?_, ?_, ?_, ?_, ?_, ?_, ?_, ?_, ?_, ?_, ?_, ?_, trivial⟩ ?_
  ·rintro Fr _
   exact mv rfl <| nz2 rfl () () rfl
  ·rintro Fr _
   exact nc rfl <| nz2 rfl () () rfl
  ·rintro Fr _
   exact fa Tryz.underlying72 rfl Tryz.sizeOf65 rfl rfl <| nz2 rfl () () rfl
  ·rintro Fr _ _
   exact ld Tryz.isAgg65 rfl rfl <| nz3 rfl () () () rfl
  ·rintro Fr _
   exact mv rfl <| nz2 rfl () () rfl
  ·rintro Fr _
   exact nc rfl <| nz2 rfl () () rfl
  ·rintro Fr _
   exact fa Tryz.underlying72 rfl Tryz.sizeOf45 rfl rfl <| nz2 rfl () () rfl
  ·rintro Fr _
   exact fa Tryz.underlying45 rfl Tryz.sizeOf3 rfl rfl <| nz2 rfl () () rfl
  ·rintro Fr _ _
   exact ld Tryz.isAgg3 rfl rfl <| nz3 rfl () () () rfl
  ·rintro Fr _
   exact mv rfl <| nz2 rfl () () rfl
  ·rintro Fr _
   exact nc rfl <| nz2 rfl () () rfl
  ·rintro Fr _
   exact fa Tryz.underlying72 rfl Tryz.sizeOf3 rfl rfl <| nz2 rfl () () rfl
  ·rintro Fr _ _
   exact ld Tryz.isAgg3 rfl rfl <| nz3 rfl () () () rfl
  ·rintro Fr _
   exact mv rfl <| nz2 rfl () () rfl
  ·rintro Fr _
   exact nc rfl <| nz2 rfl () () rfl
  ·rintro Fr _
   exact fa Tryz.underlying72 rfl Tryz.sizeOf45 rfl rfl <| nz2 rfl () () rfl
  ·rintro Fr _
   exact fa Tryz.underlying45 rfl Tryz.sizeOf3 rfl rfl <| nz2 rfl () () rfl
  ·rintro Fr _ _
   exact ld Tryz.isAgg3 rfl rfl <| nz3 rfl () () () rfl
  ·rintro Fr _
   exact mv rfl <| nz2 rfl () () rfl
  ·rintro Fr _
   exact nc rfl <| nz2 rfl () () rfl
  ·rintro Fr _
   exact fa Tryz.underlying72 rfl Tryz.sizeOf30 rfl rfl <| nz2 rfl () () rfl
  ·rintro Fr _
   exact fa Tryz.underlying30 rfl Tryz.sizeOf3 rfl rfl <| nz2 rfl () () rfl
  ·rintro Fr _ _
   exact ld Tryz.isAgg3 rfl rfl <| nz3 rfl () () () rfl
  ·rintro Fr _
   exact mv rfl <| nz2 rfl () () rfl
  ·rintro Fr _
   exact nc rfl <| nz2 rfl () () rfl
  ·rintro Fr _
   exact fa Tryz.underlying72 rfl Tryz.sizeOf30 rfl rfl <| nz2 rfl () () rfl
  ·rintro Fr _
   exact fa Tryz.underlying30 rfl Tryz.sizeOf3 rfl rfl <| nz2 rfl () () rfl
  ·rintro Fr _ _
   exact ld Tryz.isAgg3 rfl rfl <| nz3 rfl () () () rfl
  ·rintro Fr _
   exact vv (opv_eql rfl rfl) <| nz2 rfl () () rfl
  ·refine spec2 (X := fun Q => ∀ (_ _ _ _ _ _ _ : Unit), Q [(59, V.val), (64, .int .i64 a0.cap.Obj), (68, .int .i64 a0.t), (73, .int .i64 a0.cap.Badge), (78, .int .i64 a0.c.A), (84, .bool (a0.c.Op == 3))] [V.rep s_2]) (fun Q => by kernel_rfl) ?_
   rintro Fr _ _ _ _ _ _ _
   refine SO.call (pre := [V.rep _]) rfl Tryz.call60 rfl rfl rfl (endp_Send.ct V _ _ _ _ _ _ _ _ _ _ ht16) trivial ?_
   rintro _ _ ⟨rfl, rfl⟩
   exact SO.nilZ fun a w h1 h2 h3 h4 h5 => PZ.of2 (Y := fun Q => ∃ (_ _ _ _ _ _ _ _ : Unit), Q [(59, V.val), (64, .int .i64 a0.cap.Obj), (68, .int .i64 a0.t), (73, .int .i64 a0.cap.Badge), (78, .int .i64 a0.c.A), (84, .bool (a0.c.Op == 3)), (85, .tuple #[.bool t14, errV 98 t15])] [V.rep s17]) (fun Q => by kernel_rfl) h1 h3 h5 ⟨(), (), (), (), (), (), (), (), EnvAll.of h2 ⟨rfl, rfl, rfl, rfl, rfl, rfl, rfl, trivial⟩, h4⟩
  ·rintro Fr _
   exact mv rfl <| nz2 rfl () () rfl
  ·rintro Fr _
   exact vv (opv_extract rfl rfl) <| nz2 rfl () () rfl
  ·rintro Fr _
   exact vv (opv_extract rfl rfl) <| nz2 rfl () () rfl
  ·rintro Fr _
   exact ag rfl <| nz2 rfl () () rfl
  rintro _ _ _ _ _ _ _
  refine tt [(2, bp b1 0), (3, errV 98 none), (4, bp b2 0), (8, errV 98 t15)] rfl <| S.inBlock <| S.seq <| S.region <| SO.b1 <| SO.loadN rfl Tryz.isAgg34 Tryz.sizeOf34 rfl rfl rfl <| mv rfl <| SO.b2 <| SO.storeN Tryz.sizeOf34 rfl rfl rfl rfl rfl rfl <| ag rfl <| SO.nil ?_
  obtain ⟨hq, rfl⟩ := VM.ret_some V.toVI h
  cases hq
  exact S.b1 <| S.drop <| S.b3 <| S.b3 <| S.b3 <| S.b3 <| S.retC1 Tryz.func36 rfl rfl rfl Tryz.isAgg34 Tryz.sizeOf34 rfl rfl (fun w hs hk => hR w _ _ ⟨rfl, rfl⟩ hs.drop hk)
 replace h := VM.cond_f V.toVI b13 h
 refine S.condF rfl b13 <| S.seq <| S.region <| vv (opv_eql rfl rfl) <| ag rfl <| SO.nil ?_
 rcases bool_or (a0.c.Op == 2) with b18 | b18
 ·replace h := VM.cond_t V.toVI b18 h
  refine S.condT rfl b18 ?_
  obtain ⟨⟨t19, t20, t21⟩, s23, ht22, h⟩ := VM.bind_some V.toVI h
  refine S.draw2 (Y := fun Q => ∃ (_ _ _ _ _ _ _ _ : Unit), Q [(0, bp bp0 0), (4, bp b2 0), (2, bp b1 0), (3, errV 98 none)] [Box bp0 [V.val, .int .i64 a0.t, .int .i64 a0.c.Op, .int .i64 a0.c.Cap, .int .i64 a0.c.A, .int .i64 a0.c.B, .int .i64 a0.c.C, .int .i64 a0.c.D, .int .i64 a0.slot, .int .i64 a0.cap.Kind, .int .i64 a0.cap.Rights, .int .i64 a0.cap.Obj, .int .i64 a0.cap.Badge, .int .i64 a0.cap.Guard, .int .i64 a0.cap.Bits], Box b2 [.int .i64 0, .int .i64 0, .int .i64 0], Box b1 [.int .i64 0, .int .i64 0, .int .i64 0], V.rep s_2, F]) (Z := fun Q => ∀ (_ _ _ _ _ _ _ _ : Unit), Q [(2, bp b1 0), (3, errV 98 none), (4, bp b2 0), (8, errV 98 t21)] [Box bp0 [V.val, .int .i64 a0.t, .int .i64 a0.c.Op, .int .i64 a0.c.Cap, .int .i64 a0.c.A, .int .i64 a0.c.B, .int .i64 a0.c.C, .int .i64 a0.c.D, .int .i64 a0.slot, .int .i64 a0.cap.Kind, .int .i64 a0.cap.Rights, .int .i64 a0.cap.Obj, .int .i64 a0.cap.Badge, .int .i64 a0.cap.Guard, .int .i64 a0.cap.Bits], Box b2 [.int .i64 t19.Code, .int .i64 t19.Word, .int .i64 t19.Badge], Box b1 [.int .i64 0, .int .i64 0, .int .i64 0], V.rep s23, F]) (T := [tS 0 (bp bp0 0), tS 4 (bp b2 0), tE [(2, bp b1 0), (3, errV 98 none)], tR (Box bp0 [V.val, .int .i64 a0.t, .int .i64 a0.c.Op, .int .i64 a0.c.Cap, .int .i64 a0.c.A, .int .i64 a0.c.B, .int .i64 a0.c.C, .int .i64 a0.c.D, .int .i64 a0.slot, .int .i64 a0.cap.Kind, .int .i64 a0.cap.Rights, .int .i64 a0.cap.Obj, .int .i64 a0.cap.Badge, .int .i64 a0.cap.Guard, .int .i64 a0.cap.Bits]), tR (Box b2 [.int .i64 0, .int .i64 0, .int .i64 0]), tR (Box b1 [.int .i64 0, .int .i64 0, .int .i64 0]), tR (V.rep s_2), tR (F), tS 91 (bp bp0 0), tS 92 (bp bp0 0), tS 93 (bp bp0 0), tS 94 (V.val), tS 95 (bp bp0 0), tS 96 (bp bp0 0), tS 97 (bp bp0 9), tS 98 (bp bp0 11), tS 99 (.int .i64 a0.cap.Obj), tS 100 (bp bp0 0), tS 101 (bp bp0 0), tS 102 (bp bp0 1), tS 103 (.int .i64 a0.t), tR (V.rep s23), tS 104 (.tuple #[.agg #[.int .i64 t19.Code, .int .i64 t19.Word, .int .i64 t19.Badge], .bool t20, errV 98 t21]), tS 90 (.tuple #[.agg #[.int .i64 t19.Code, .int .i64 t19.Word, .int .i64 t19.Badge], .bool t20, errV 98 t21]), tS 105 (.agg #[.int .i64 t19.Code, .int .i64 t19.Word, .int .i64 t19.Badge]), tS 106 (.bool t20), tS 107 (errV 98 t21), tR (Box b2 [.int .i64 t19.Code, .int .i64 t19.Word, .int .i64 t19.Badge]), tS 8 (errV 98 t21)]) (D := [⟨[0], [], [8]⟩, ⟨[8], [], [9]⟩, ⟨[9], [], [10]⟩, ⟨[10, 3], [], [11]⟩, ⟨[0], [], [12]⟩, ⟨[12], [], [13]⟩, ⟨[13], [], [14]⟩, ⟨[14], [], [15]⟩, ⟨[15, 3], [], [16]⟩, ⟨[0], [], [17]⟩, ⟨[17], [], [18]⟩, ⟨[18], [], [19]⟩, ⟨[19, 3], [], [20]⟩, ⟨[11, 16, 20], [6], [21, 22]⟩, ⟨[22], [], [23]⟩, ⟨[23], [], [24]⟩, ⟨[23], [], [25]⟩, ⟨[23], [], [26]⟩, ⟨[1, 24], [4], [27]⟩, ⟨[26], [], [28]⟩]) (ini := [0, 1, 2, 3, 4, 5, 6, 7]) (fin := [2, 1, 28, 3, 27, 5, 21, 7]) (bf := [[], [0], [0, 1], [0, 1, 2], [], [4], [4, 5], [4, 5, 6], [4, 5, 6, 7], [], [9], [9, 10], [9, 10, 11], [0, 1, 2, 3, 4, 5, 6, 7, 8, 9, 10, 11, 12], [0, 1, 2, 3, 4, 5, 6, 7, 8, 9, 10, 11, 12, 13], [0, 1, 2, 3, 4, 5, 6, 7, 8, 9, 10, 11, 12, 13, 14], [0, 1, 2, 3, 4, 5, 6, 7, 8, 9, 10, 11, 12, 13, 14], [0, 1, 2, 3, 4, 5, 6, 7, 8, 9, 10, 11, 12, 13, 14], [0, 1, 2, 3, 4, 5, 6, 7, 8, 9, 10, 11, 12, 13, 14, 15], [0, 1, 2, 3, 4, 5, 6, 7, 8, 9, 10, 11, 12, 13, 14, 15, 16, 17, 18]]) (by kernel_rfl) (by kernel_rfl) (fun Q => by kernel_rfl) (fun x w h1 h2 => ⟨(), (), (), (), (), (), (), (), EnvAll.of h1 ⟨rfl, rfl, rfl, rfl, trivial⟩, h2⟩) (fun Q => by kernel_rfl) ⟨?_, ?_, ?_, ?_, ?_, ?_, ?_, ?_, ?_, ?_, ?_, ?_, ?_, ?_, ?_, ?_, ?_, ?_, ?_, ?_, trivial⟩ ?_
  ·rintro Fr _
   exact mv rfl <| nz2 rfl () () rfl
  ·rintro Fr _
   exact nc rfl <| nz2 rfl () () rfl
  ·rintro Fr _
   exact fa Tryz.underlying72 rfl Tryz.sizeOf65 rfl rfl <| nz2 rfl () () rfl
  ·rintro Fr _ _
   exact ld Tryz.isAgg65 rfl rfl <| nz3 rfl () () () rfl
  ·rintro Fr _
   exact mv rfl <| nz2 rfl () () rfl
  ·rintro Fr _
   exact nc rfl <| nz2 rfl () () rfl
  ·rintro Fr _
   exact fa Tryz.underlying72 rfl Tryz.sizeOf45 rfl rfl <| nz2 rfl () () rfl
  ·rintro Fr _
   exact fa Tryz.underlying45 rfl Tryz.sizeOf3 rfl rfl <| nz2 rfl () () rfl
  ·rintro Fr _ _
   exact ld Tryz.isAgg3 rfl rfl <| nz3 rfl () () () rfl
  ·rintro Fr _
   exact mv rfl <| nz2 rfl () () rfl
  ·rintro Fr _
   exact nc rfl <| nz2 rfl () () rfl
  ·rintro Fr _
   exact fa Tryz.underlying72 rfl Tryz.sizeOf3 rfl rfl <| nz2 rfl () () rfl
  ·rintro Fr _ _
   exact ld Tryz.isAgg3 rfl rfl <| nz3 rfl () () () rfl
  ·rintro Fr _ _ _ _
   refine SO.call (pre := [V.rep _]) rfl Tryz.call61 rfl rfl rfl (endp_Recv.ct V _ _ _ _ _ _ _ _ ht22) trivial ?_
   rintro _ _ ⟨rfl, rfl⟩
   exact SO.nilZ fun a w h1 h2 h3 h4 h5 => PZ.of2 (Y := fun Q => ∃ (_ _ _ _ _ : Unit), Q [(94, V.val), (99, .int .i64 a0.cap.Obj), (103, .int .i64 a0.t), (104, .tuple #[.agg #[.int .i64 t19.Code, .int .i64 t19.Word, .int .i64 t19.Badge], .bool t20, errV 98 t21])] [V.rep s23]) (fun Q => by kernel_rfl) h1 h3 h5 ⟨(), (), (), (), (), EnvAll.of h2 ⟨rfl, rfl, rfl, rfl, trivial⟩, h4⟩
  ·rintro Fr _
   exact mv rfl <| nz2 rfl () () rfl
  ·rintro Fr _
   exact vv (opv_extract rfl rfl) <| nz2 rfl () () rfl
  ·rintro Fr _
   exact vv (opv_extract rfl rfl) <| nz2 rfl () () rfl
  ·rintro Fr _
   exact vv (opv_extract rfl rfl) <| nz2 rfl () () rfl
  ·rintro Fr _ _ _
   exact SO.storeN Tryz.sizeOf34 rfl rfl rfl rfl rfl rfl <| nz3 rfl () () () rfl
  ·rintro Fr _
   exact ag rfl <| nz2 rfl () () rfl
  rintro _ _ _ _ _ _ _ _
  refine tt [(2, bp b1 0), (3, errV 98 none), (4, bp b2 0), (8, errV 98 t21)] rfl <| S.inBlock <| S.seq <| S.region <| SO.b1 <| SO.loadN rfl Tryz.isAgg34 Tryz.sizeOf34 rfl rfl rfl <| mv rfl <| SO.b2 <| SO.storeN Tryz.sizeOf34 rfl rfl rfl rfl rfl rfl <| ag rfl <| SO.nil ?_
  obtain ⟨hq, rfl⟩ := VM.ret_some V.toVI h
  cases hq
  exact S.b1 <| S.drop <| S.b3 <| S.b3 <| S.b3 <| S.b3 <| S.retC1 Tryz.func36 rfl rfl rfl Tryz.isAgg34 Tryz.sizeOf34 rfl rfl (fun w hs hk => hR w _ _ ⟨rfl, rfl⟩ hs.drop hk)
 replace h := VM.cond_f V.toVI b18 h
 refine S.condF rfl b18 <| S.seq <| S.region <| vv (opv_eql rfl rfl) <| ag rfl <| SO.nil ?_
 rcases bool_or (a0.c.Op == 5) with b24 | b24
 ·replace h := VM.cond_t V.toVI b24 h
  refine S.condT rfl b24 ?_
  obtain ⟨t25, ht26, h⟩ := VM.opt_some V.toVI h
  obtain ⟨t27, s29, ht28, h⟩ := VM.bind_some V.toVI h
  refine S.draw2 (Y := fun Q => ∃ (_ _ _ _ _ _ _ : Unit), Q [(0, bp bp0 0), (2, bp b1 0), (3, errV 98 none), (4, bp b2 0)] [Box bp0 [V.val, .int .i64 a0.t, .int .i64 a0.c.Op, .int .i64 a0.c.Cap, .int .i64 a0.c.A, .int .i64 a0.c.B, .int .i64 a0.c.C, .int .i64 a0.c.D, .int .i64 a0.slot, .int .i64 a0.cap.Kind, .int .i64 a0.cap.Rights, .int .i64 a0.cap.Obj, .int .i64 a0.cap.Badge, .int .i64 a0.cap.Guard, .int .i64 a0.cap.Bits], Box b2 [.int .i64 0, .int .i64 0, .int .i64 0], Box b1 [.int .i64 0, .int .i64 0, .int .i64 0], V.rep s_2, F]) (Z := fun Q => ∀ (_ _ _ _ _ _ _ : Unit), Q [(2, bp b1 0), (3, errV 98 none), (4, bp b2 0), (8, errV 98 t27)] [Box bp0 [V.val, .int .i64 a0.t, .int .i64 a0.c.Op, .int .i64 a0.c.Cap, .int .i64 a0.c.A, .int .i64 a0.c.B, .int .i64 a0.c.C, .int .i64 a0.c.D, .int .i64 a0.slot, .int .i64 a0.cap.Kind, .int .i64 a0.cap.Rights, .int .i64 a0.cap.Obj, .int .i64 a0.cap.Badge, .int .i64 a0.cap.Guard, .int .i64 a0.cap.Bits], Box b2 [.int .i64 0, .int .i64 0, .int .i64 0], Box b1 [.int .i64 0, .int .i64 0, .int .i64 0], V.rep s29, F]) (T := [tS 0 (bp bp0 0), tE [(2, bp b1 0), (3, errV 98 none), (4, bp b2 0)], tR (Box bp0 [V.val, .int .i64 a0.t, .int .i64 a0.c.Op, .int .i64 a0.c.Cap, .int .i64 a0.c.A, .int .i64 a0.c.B, .int .i64 a0.c.C, .int .i64 a0.c.D, .int .i64 a0.slot, .int .i64 a0.cap.Kind, .int .i64 a0.cap.Rights, .int .i64 a0.cap.Obj, .int .i64 a0.cap.Badge, .int .i64 a0.cap.Guard, .int .i64 a0.cap.Bits]), tR (Box b2 [.int .i64 0, .int .i64 0, .int .i64 0]), tR (Box b1 [.int .i64 0, .int .i64 0, .int .i64 0]), tR (V.rep s_2), tR (F), tS 110 (bp bp0 0), tS 111 (bp bp0 0), tS 112 (bp bp0 0), tS 113 (V.val), tS 114 (bp bp0 0), tS 115 (bp bp0 0), tS 116 (bp bp0 9), tS 117 (bp bp0 11), tS 118 (.int .i64 a0.cap.Obj), tS 119 (bp bp0 0), tS 120 (bp bp0 0), tS 121 (bp bp0 9), tS 122 (.agg #[.int .i64 a0.cap.Kind, .int .i64 a0.cap.Rights, .int .i64 a0.cap.Obj, .int .i64 a0.cap.Badge, .int .i64 a0.cap.Guard, .int .i64 a0.cap.Bits]), tS 123 (.int .i64 t25), tR (V.rep s29), tS 124 (errV 98 t27), tS 8 (errV 98 t27)]) (D := [⟨[0], [], [7]⟩, ⟨[7], [], [8]⟩, ⟨[8], [], [9]⟩, ⟨[9, 2], [], [10]⟩, ⟨[0], [], [11]⟩, ⟨[11], [], [12]⟩, ⟨[12], [], [13]⟩, ⟨[13], [], [14]⟩, ⟨[14, 2], [], [15]⟩, ⟨[0], [], [16]⟩, ⟨[16], [], [17]⟩, ⟨[17], [], [18]⟩, ⟨[18, 2], [], [19]⟩, ⟨[19], [], [20]⟩, ⟨[10, 15, 20], [5], [21, 22]⟩, ⟨[22], [], [23]⟩]) (ini := [0, 1, 2, 3, 4, 5, 6]) (fin := [1, 23, 2, 3, 4, 21, 6]) (bf := [[], [0], [0, 1], [0, 1, 2], [], [4], [4, 5], [4, 5, 6], [4, 5, 6, 7], [], [9], [9, 10], [9, 10, 11], [9, 10, 11, 12], [0, 1, 2, 3, 4, 5, 6, 7, 8, 9, 10, 11, 12, 13], [0, 1, 2, 3, 4, 5, 6, 7, 8, 9, 10, 11, 12, 13, 14]]) (by kernel_rfl) (by kernel_rfl) (fun Q => by kernel_rfl) (fun x w h1 h2 => ⟨(), (), (), (), (), (), (), EnvAll.of h1 ⟨rfl, rfl, rfl, rfl, trivial⟩, h2⟩) (fun Q => by kernel_rfl) ⟨?_, ?_, ?_, ?_, ?_, ?_, ?_, ?_, ?_, ?_, ?_, ?_, ?_, ?_, ?_, ?_, trivial⟩ ?_
  ·rintro Fr _
   exact mv rfl <| nz2 rfl () () rfl
  ·rintro Fr _
   exact nc rfl <| nz2 rfl () () rfl
  ·rintro Fr _
   exact fa Tryz.underlying72 rfl Tryz.sizeOf65 rfl rfl <| nz2 rfl () () rfl
  ·rintro Fr _ _
   exact ld Tryz.isAgg65 rfl rfl <| nz3 rfl () () () rfl
  ·rintro Fr _
   exact mv rfl <| nz2 rfl () () rfl
  ·rintro Fr _
   exact nc rfl <| nz2 rfl () () rfl
  ·rintro Fr _
   exact fa Tryz.underlying72 rfl Tryz.sizeOf45 rfl rfl <| nz2 rfl () () rfl
  ·rintro Fr _
   exact fa Tryz.underlying45 rfl Tryz.sizeOf3 rfl rfl <| nz2 rfl () () rfl
  ·rintro Fr _ _
   exact ld Tryz.isAgg3 rfl rfl <| nz3 rfl () () () rfl
  ·rintro Fr _
   exact mv rfl <| nz2 rfl () () rfl
  ·rintro Fr _
   exact nc rfl <| nz2 rfl () () rfl
  ·rintro Fr _
   exact fa Tryz.underlying72 rfl Tryz.sizeOf45 rfl rfl <| nz2 rfl () () rfl
  ·rintro Fr _ _
   exact SO.loadN rfl Tryz.isAgg45 Tryz.sizeOf45 rfl rfl rfl <| nz3 rfl () () () rfl
  ·rintro Fr _
   refine SO.call (pre := []) rfl Tryz.call63 rfl rfl rfl (invoke_signed.ct _ _ ht26) trivial ?_
   rintro _ _ ⟨rfl, rfl⟩
   exact nz2 rfl () () rfl
  ·rintro Fr _ _ _ _
   refine SO.call (pre := [V.rep _]) rfl Tryz.call62 rfl rfl rfl (ntfn_Signal.ct V _ _ _ _ _ ht28) trivial ?_
   rintro _ _ ⟨rfl, rfl⟩
   exact SO.nilZ fun a w h1 h2 h3 h4 h5 => PZ.of2 (Y := fun Q => ∃ (_ _ _ _ _ : Unit), Q [(113, V.val), (118, .int .i64 a0.cap.Obj), (123, .int .i64 t25), (124, errV 98 t27)] [V.rep s29]) (fun Q => by kernel_rfl) h1 h3 h5 ⟨(), (), (), (), (), EnvAll.of h2 ⟨rfl, rfl, rfl, rfl, trivial⟩, h4⟩
  ·rintro Fr _
   exact ag rfl <| nz2 rfl () () rfl
  rintro _ _ _ _ _ _ _
  refine tt [(2, bp b1 0), (3, errV 98 none), (4, bp b2 0), (8, errV 98 t27)] rfl <| S.inBlock <| S.seq <| S.region <| SO.b1 <| SO.loadN rfl Tryz.isAgg34 Tryz.sizeOf34 rfl rfl rfl <| mv rfl <| SO.b2 <| SO.storeN Tryz.sizeOf34 rfl rfl rfl rfl rfl rfl <| ag rfl <| SO.nil ?_
  obtain ⟨hq, rfl⟩ := VM.ret_some V.toVI h
  cases hq
  exact S.b1 <| S.drop <| S.b3 <| S.b3 <| S.b3 <| S.b3 <| S.retC1 Tryz.func36 rfl rfl rfl Tryz.isAgg34 Tryz.sizeOf34 rfl rfl (fun w hs hk => hR w _ _ ⟨rfl, rfl⟩ hs.drop hk)
 replace h := VM.cond_f V.toVI b24 h
 refine S.condF rfl b24 <| S.seq <| S.region <| vv (opv_eql rfl rfl) <| ag rfl <| SO.nil <| tt [(0, bp bp0 0), (2, bp b1 0), (3, errV 98 none), (4, bp b2 0), (125, .bool (a0.c.Op == 6))] rfl ?_
 rcases bool_or (a0.c.Op == 6) with b30 | b30
 ·replace h := VM.cond_t V.toVI b30 h
  refine S.condT rfl b30 ?_
  obtain ⟨⟨t31, t32, t33⟩, s35, ht34, h⟩ := VM.bind_some V.toVI h
  refine S.draw2 (Y := fun Q => ∃ (_ _ _ _ _ _ _ _ : Unit), Q [(0, bp bp0 0), (4, bp b2 0), (2, bp b1 0), (3, errV 98 none)] [Box bp0 [V.val, .int .i64 a0.t, .int .i64 a0.c.Op, .int .i64 a0.c.Cap, .int .i64 a0.c.A, .int .i64 a0.c.B, .int .i64 a0.c.C, .int .i64 a0.c.D, .int .i64 a0.slot, .int .i64 a0.cap.Kind, .int .i64 a0.cap.Rights, .int .i64 a0.cap.Obj, .int .i64 a0.cap.Badge, .int .i64 a0.cap.Guard, .int .i64 a0.cap.Bits], Box b2 [.int .i64 0, .int .i64 0, .int .i64 0], Box b1 [.int .i64 0, .int .i64 0, .int .i64 0], V.rep s_2, F]) (Z := fun Q => ∀ (_ _ _ _ _ _ _ _ : Unit), Q [(2, bp b1 0), (3, errV 98 none), (4, bp b2 0), (8, errV 98 t33)] [Box bp0 [V.val, .int .i64 a0.t, .int .i64 a0.c.Op, .int .i64 a0.c.Cap, .int .i64 a0.c.A, .int .i64 a0.c.B, .int .i64 a0.c.C, .int .i64 a0.c.D, .int .i64 a0.slot, .int .i64 a0.cap.Kind, .int .i64 a0.cap.Rights, .int .i64 a0.cap.Obj, .int .i64 a0.cap.Badge, .int .i64 a0.cap.Guard, .int .i64 a0.cap.Bits], Box b2 [.int .i64 t31.Code, .int .i64 t31.Word, .int .i64 t31.Badge], Box b1 [.int .i64 0, .int .i64 0, .int .i64 0], V.rep s35, F]) (T := [tS 0 (bp bp0 0), tS 4 (bp b2 0), tE [(2, bp b1 0), (3, errV 98 none)], tR (Box bp0 [V.val, .int .i64 a0.t, .int .i64 a0.c.Op, .int .i64 a0.c.Cap, .int .i64 a0.c.A, .int .i64 a0.c.B, .int .i64 a0.c.C, .int .i64 a0.c.D, .int .i64 a0.slot, .int .i64 a0.cap.Kind, .int .i64 a0.cap.Rights, .int .i64 a0.cap.Obj, .int .i64 a0.cap.Badge, .int .i64 a0.cap.Guard, .int .i64 a0.cap.Bits]), tR (Box b2 [.int .i64 0, .int .i64 0, .int .i64 0]), tR (Box b1 [.int .i64 0, .int .i64 0, .int .i64 0]), tR (V.rep s_2), tR (F), tS 128 (bp bp0 0), tS 129 (bp bp0 0), tS 130 (bp bp0 0), tS 131 (V.val), tS 132 (bp bp0 0), tS 133 (bp bp0 0), tS 134 (bp bp0 9), tS 135 (bp bp0 11), tS 136 (.int .i64 a0.cap.Obj), tS 137 (bp bp0 0), tS 138 (bp bp0 0), tS 139 (bp bp0 1), tS 140 (.int .i64 a0.t), tR (V.rep s35), tS 141 (.tuple #[.agg #[.int .i64 t31.Code, .int .i64 t31.Word, .int .i64 t31.Badge], .bool t32, errV 98 t33]), tS 127 (.tuple #[.agg #[.int .i64 t31.Code, .int .i64 t31.Word, .int .i64 t31.Badge], .bool t32, errV 98 t33]), tS 142 (.agg #[.int .i64 t31.Code, .int .i64 t31.Word, .int .i64 t31.Badge]), tS 143 (.bool t32), tS 144 (errV 98 t33), tR (Box b2 [.int .i64 t31.Code, .int .i64 t31.Word, .int .i64 t31.Badge]), tS 8 (errV 98 t33)]) (D := [⟨[0], [], [8]⟩, ⟨[8], [], [9]⟩, ⟨[9], [], [10]⟩, ⟨[10, 3], [], [11]⟩, ⟨[0], [], [12]⟩, ⟨[12], [], [13]⟩, ⟨[13], [], [14]⟩, ⟨[14], [], [15]⟩, ⟨[15, 3], [], [16]⟩, ⟨[0], [], [17]⟩, ⟨[17], [], [18]⟩, ⟨[18], [], [19]⟩, ⟨[19, 3], [], [20]⟩, ⟨[11, 16, 20], [6], [21, 22]⟩, ⟨[22], [], [23]⟩, ⟨[23], [], [24]⟩, ⟨[23], [], [25]⟩, ⟨[23], [], [26]⟩, ⟨[1, 24], [4], [27]⟩, ⟨[26], [], [28]⟩]) (ini := [0, 1, 2, 3, 4, 5, 6, 7]) (fin := [2, 1, 28, 3, 27, 5, 21, 7]) (bf := [[], [0], [0, 1], [0, 1, 2], [], [4], [4, 5], [4, 5, 6], [4, 5, 6, 7], [], [9], [9, 10], [9, 10, 11], [0, 1, 2, 3, 4, 5, 6, 7, 8, 9, 10, 11, 12], [0, 1, 2, 3, 4, 5, 6, 7, 8, 9, 10, 11, 12, 13], [0, 1, 2, 3, 4, 5, 6, 7, 8, 9, 10, 11, 12, 13, 14], [0, 1, 2, 3, 4, 5, 6, 7, 8, 9, 10, 11, 12, 13, 14], [0, 1, 2, 3, 4, 5, 6, 7, 8, 9, 10, 11, 12, 13, 14], [0, 1, 2, 3, 4, 5, 6, 7, 8, 9, 10, 11, 12, 13, 14, 15], [0, 1, 2, 3, 4, 5, 6, 7, 8, 9, 10, 11, 12, 13, 14, 15, 16, 17, 18]]) (by kernel_rfl) (by kernel_rfl) (fun Q => by kernel_rfl) (fun x w h1 h2 => ⟨(), (), (), (), (), (), (), (), EnvAll.of h1 ⟨rfl, rfl, rfl, rfl, trivial⟩, h2⟩) (fun Q => by kernel_rfl) ⟨?_, ?_, ?_, ?_, ?_, ?_, ?_, ?_, ?_, ?_, ?_, ?_, ?_, ?_, ?_, ?_, ?_, ?_, ?_, ?_, trivial⟩ ?_
  ·rintro Fr _
   exact mv rfl <| nz2 rfl () () rfl
  ·rintro Fr _
   exact nc rfl <| nz2 rfl () () rfl
  ·rintro Fr _
   exact fa Tryz.underlying72 rfl Tryz.sizeOf65 rfl rfl <| nz2 rfl () () rfl
  ·rintro Fr _ _
   exact ld Tryz.isAgg65 rfl rfl <| nz3 rfl () () () rfl
  ·rintro Fr _
   exact mv rfl <| nz2 rfl () () rfl
  ·rintro Fr _
   exact nc rfl <| nz2 rfl () () rfl
  ·rintro Fr _
   exact fa Tryz.underlying72 rfl Tryz.sizeOf45 rfl rfl <| nz2 rfl () () rfl
  ·rintro Fr _
   exact fa Tryz.underlying45 rfl Tryz.sizeOf3 rfl rfl <| nz2 rfl () () rfl
  ·rintro Fr _ _
   exact ld Tryz.isAgg3 rfl rfl <| nz3 rfl () () () rfl
  ·rintro Fr _
   exact mv rfl <| nz2 rfl () () rfl
  ·rintro Fr _
   exact nc rfl <| nz2 rfl () () rfl
  ·rintro Fr _
   exact fa Tryz.underlying72 rfl Tryz.sizeOf3 rfl rfl <| nz2 rfl () () rfl
  ·rintro Fr _ _
   exact ld Tryz.isAgg3 rfl rfl <| nz3 rfl () () () rfl
  ·rintro Fr _ _ _ _
   refine SO.call (pre := [V.rep _]) rfl Tryz.call64 rfl rfl rfl (ntfn_Wait.ct V _ _ _ _ _ _ _ ht34) trivial ?_
   rintro _ _ ⟨rfl, rfl⟩
   exact SO.nilZ fun a w h1 h2 h3 h4 h5 => PZ.of2 (Y := fun Q => ∃ (_ _ _ _ _ : Unit), Q [(131, V.val), (136, .int .i64 a0.cap.Obj), (140, .int .i64 a0.t), (141, .tuple #[.agg #[.int .i64 t31.Code, .int .i64 t31.Word, .int .i64 t31.Badge], .bool t32, errV 98 t33])] [V.rep s35]) (fun Q => by kernel_rfl) h1 h3 h5 ⟨(), (), (), (), (), EnvAll.of h2 ⟨rfl, rfl, rfl, rfl, trivial⟩, h4⟩
  ·rintro Fr _
   exact mv rfl <| nz2 rfl () () rfl
  ·rintro Fr _
   exact vv (opv_extract rfl rfl) <| nz2 rfl () () rfl
  ·rintro Fr _
   exact vv (opv_extract rfl rfl) <| nz2 rfl () () rfl
  ·rintro Fr _
   exact vv (opv_extract rfl rfl) <| nz2 rfl () () rfl
  ·rintro Fr _ _ _
   exact SO.storeN Tryz.sizeOf34 rfl rfl rfl rfl rfl rfl <| nz3 rfl () () () rfl
  ·rintro Fr _
   exact ag rfl <| nz2 rfl () () rfl
  rintro _ _ _ _ _ _ _ _
  refine tt [(2, bp b1 0), (3, errV 98 none), (4, bp b2 0), (8, errV 98 t33)] rfl <| S.inBlock <| S.seq <| S.region <| SO.b1 <| SO.loadN rfl Tryz.isAgg34 Tryz.sizeOf34 rfl rfl rfl <| mv rfl <| SO.b2 <| SO.storeN Tryz.sizeOf34 rfl rfl rfl rfl rfl rfl <| ag rfl <| SO.nil ?_
  obtain ⟨hq, rfl⟩ := VM.ret_some V.toVI h
  cases hq
  exact S.b1 <| S.drop <| S.b3 <| S.b3 <| S.b3 <| S.b3 <| S.retC1 Tryz.func36 rfl rfl rfl Tryz.isAgg34 Tryz.sizeOf34 rfl rfl (fun w hs hk => hR w _ _ ⟨rfl, rfl⟩ hs.drop hk)
 replace h := VM.cond_f V.toVI b30 h
 refine S.condF rfl b30 ?_
 obtain ⟨⟨t36, t37⟩, s39, ht38, h⟩ := VM.bind_some V.toVI h
 refine S.draw2 (Y := fun Q => ∃ (_ _ _ _ _ _ _ _ : Unit), Q [(0, bp bp0 0), (4, bp b2 0), (2, bp b1 0), (3, errV 98 none)] [Box bp0 [V.val, .int .i64 a0.t, .int .i64 a0.c.Op, .int .i64 a0.c.Cap, .int .i64 a0.c.A, .int .i64 a0.c.B, .int .i64 a0.c.C, .int .i64 a0.c.D, .int .i64 a0.slot, .int .i64 a0.cap.Kind, .int .i64 a0.cap.Rights, .int .i64 a0.cap.Obj, .int .i64 a0.cap.Badge, .int .i64 a0.cap.Guard, .int .i64 a0.cap.Bits], Box b2 [.int .i64 0, .int .i64 0, .int .i64 0], Box b1 [.int .i64 0, .int .i64 0, .int .i64 0], V.rep s_2, F]) (Z := fun Q => ∀ (_ _ _ _ _ _ _ _ : Unit), Q [(2, bp b1 0), (3, errV 98 none), (4, bp b2 0), (8, errV 98 t37)] [Box bp0 [V.val, .int .i64 a0.t, .int .i64 a0.c.Op, .int .i64 a0.c.Cap, .int .i64 a0.c.A, .int .i64 a0.c.B, .int .i64 a0.c.C, .int .i64 a0.c.D, .int .i64 a0.slot, .int .i64 a0.cap.Kind, .int .i64 a0.cap.Rights, .int .i64 a0.cap.Obj, .int .i64 a0.cap.Badge, .int .i64 a0.cap.Guard, .int .i64 a0.cap.Bits], Box b2 [.int .i64 t36.Code, .int .i64 t36.Word, .int .i64 t36.Badge], Box b1 [.int .i64 0, .int .i64 0, .int .i64 0], V.rep s39, F]) (T := [tS 0 (bp bp0 0), tS 4 (bp b2 0), tE [(2, bp b1 0), (3, errV 98 none)], tR (Box bp0 [V.val, .int .i64 a0.t, .int .i64 a0.c.Op, .int .i64 a0.c.Cap, .int .i64 a0.c.A, .int .i64 a0.c.B, .int .i64 a0.c.C, .int .i64 a0.c.D, .int .i64 a0.slot, .int .i64 a0.cap.Kind, .int .i64 a0.cap.Rights, .int .i64 a0.cap.Obj, .int .i64 a0.cap.Badge, .int .i64 a0.cap.Guard, .int .i64 a0.cap.Bits]), tR (Box b2 [.int .i64 0, .int .i64 0, .int .i64 0]), tR (Box b1 [.int .i64 0, .int .i64 0, .int .i64 0]), tR (V.rep s_2), tR (F), tS 40 (bp bp0 0), tS 41 (bp bp0 0), tS 42 (bp bp0 0), tS 43 (V.val), tS 44 (bp bp0 0), tS 45 (bp bp0 0), tS 46 (bp bp0 9), tS 47 (bp bp0 11), tS 48 (.int .i64 a0.cap.Obj), tR (V.rep s39), tS 49 (.tuple #[.agg #[.int .i64 t36.Code, .int .i64 t36.Word, .int .i64 t36.Badge], errV 98 t37]), tS 39 (.tuple #[.agg #[.int .i64 t36.Code, .int .i64 t36.Word, .int .i64 t36.Badge], errV 98 t37]), tS 50 (.agg #[.int .i64 t36.Code, .int .i64 t36.Word, .int .i64 t36.Badge]), tS 51 (errV 98 t37), tR (Box b2 [.int .i64 t36.Code, .int .i64 t36.Word, .int .i64 t36.Badge]), tS 8 (errV 98 t37)]) (D := [⟨[0], [], [8]⟩, ⟨[8], [], [9]⟩, ⟨[9], [], [10]⟩, ⟨[10, 3], [], [11]⟩, ⟨[0], [], [12]⟩, ⟨[12], [], [13]⟩, ⟨[13], [], [14]⟩, ⟨[14], [], [15]⟩, ⟨[15, 3], [], [16]⟩, ⟨[11, 16], [6], [17, 18]⟩, ⟨[18], [], [19]⟩, ⟨[19], [], [20]⟩, ⟨[19], [], [21]⟩, ⟨[1, 20], [4], [22]⟩, ⟨[21], [], [23]⟩]) (ini := [0, 1, 2, 3, 4, 5, 6, 7]) (fin := [2, 1, 23, 3, 22, 5, 17, 7]) (bf := [[], [0], [0, 1], [0, 1, 2], [], [4], [4, 5], [4, 5, 6], [4, 5, 6, 7], [0, 1, 2, 3, 4, 5, 6, 7, 8], [0, 1, 2, 3, 4, 5, 6, 7, 8, 9], [0, 1, 2, 3, 4, 5, 6, 7, 8, 9, 10], [0, 1, 2, 3, 4, 5, 6, 7, 8, 9, 10], [0, 1, 2, 3, 4, 5, 6, 7, 8, 9, 10, 11], [0, 1, 2, 3, 4, 5, 6, 7, 8, 9, 10, 11, 12, 13]]) (by kernel_rfl) (by kernel_rfl) (fun Q => by kernel_rfl) (fun x w h1 h2 => ⟨(), (), (), (), (), (), (), (), EnvAll.of h1 ⟨rfl, rfl, rfl, rfl, trivial⟩, h2⟩) (fun Q => by kernel_rfl) ⟨?_, ?_, ?_, ?_, ?_, ?_, ?_, ?_, ?_, ?_, ?_, ?_, ?_, ?_, ?_, trivial⟩ ?_
 ·rintro Fr _
  exact mv rfl <| nz2 rfl () () rfl
 ·rintro Fr _
  exact nc rfl <| nz2 rfl () () rfl
 ·rintro Fr _
  exact fa Tryz.underlying72 rfl Tryz.sizeOf65 rfl rfl <| nz2 rfl () () rfl
 ·rintro Fr _ _
  exact ld Tryz.isAgg65 rfl rfl <| nz3 rfl () () () rfl
 ·rintro Fr _
  exact mv rfl <| nz2 rfl () () rfl
 ·rintro Fr _
  exact nc rfl <| nz2 rfl () () rfl
 ·rintro Fr _
  exact fa Tryz.underlying72 rfl Tryz.sizeOf45 rfl rfl <| nz2 rfl () () rfl
 ·rintro Fr _
  exact fa Tryz.underlying45 rfl Tryz.sizeOf3 rfl rfl <| nz2 rfl () () rfl
 ·rintro Fr _ _
  exact ld Tryz.isAgg3 rfl rfl <| nz3 rfl () () () rfl
 ·rintro Fr _ _ _
  refine SO.call (pre := [V.rep _]) rfl Tryz.call65 rfl rfl rfl (ntfn_Poll.ct V _ _ _ _ _ ht38) trivial ?_
  rintro _ _ ⟨rfl, rfl⟩
  exact nz4 rfl () () () () rfl
 ·rintro Fr _
  exact mv rfl <| nz2 rfl () () rfl
 ·rintro Fr _
  exact vv (opv_extract rfl rfl) <| nz2 rfl () () rfl
 ·rintro Fr _
  exact vv (opv_extract rfl rfl) <| nz2 rfl () () rfl
 ·rintro Fr _ _ _
  exact SO.storeN Tryz.sizeOf34 rfl rfl rfl rfl rfl rfl <| nz3 rfl () () () rfl
 ·rintro Fr _
  exact ag rfl <| nz2 rfl () () rfl
 rintro _ _ _ _ _ _ _ _
 refine tt [(2, bp b1 0), (3, errV 98 none), (4, bp b2 0), (8, errV 98 t37)] rfl <| S.inBlock <| S.seq <| S.region <| SO.b1 <| SO.loadN rfl Tryz.isAgg34 Tryz.sizeOf34 rfl rfl rfl <| mv rfl <| SO.b2 <| SO.storeN Tryz.sizeOf34 rfl rfl rfl rfl rfl rfl <| ag rfl <| SO.nil ?_
 obtain ⟨hq, rfl⟩ := VM.ret_some V.toVI h
 cases hq
 exact S.b1 <| S.drop <| S.b3 <| S.b3 <| S.b3 <| S.b3 <| S.retC1 Tryz.func36 rfl rfl rfl Tryz.isAgg34 Tryz.sizeOf34 rfl rfl (fun w hs hk => hR w _ _ ⟨rfl, rfl⟩ hs.drop hk)
def cdt_get.f (a1 : Int) (a2 : Int) : VM (Int) :=
  (VM.opt (lay_Slot.f a1 a2)).bind fun (t1, t2) => bif !t2 then (VM.ret (-1)) else (VM.rd t1 fun t5 => bif (decide (t5 < 1)) || (decide (96 < t5)) then (VM.ret (-1)) else (VM.ret (w64 ((w64 t5) - 1))))
set_option maxHeartbeats 8000000 in
set_option maxRecDepth 100000 in
theorem cdt_get.ct (V : VW Tryz.prog) (a1 : Int) (a2 : Int) (r0 : Int) (s s' : V.S) (h : VM.run V.toVI (cdt_get.f a1 a2) s = some (r0, s')) :
    Ct Tryz.prog 175 [V.val, .int .i64 a1, .int .i64 a2] (fun _ => True) [V.rep s] (fun u H' => u = .int .i64 r0 ∧ H' = [V.rep s']) := by
 unfold cdt_get.f at h
 refine Ct.intro (n := 30) Tryz.func175 rfl rfl rfl ?_
 intro R w0 F hF hR
 refine S.seq <| S.region <| ag rfl <| SO.nil <| S.seq <| S.region <| mv rfl <| mv rfl ?_
 obtain ⟨⟨t1, t2⟩, ht3, h⟩ := VM.opt_some V.toVI h
 refine SO.call (pre := []) rfl Tryz.call31 rfl rfl rfl (lay_Slot.ct _ _ _ _ ht3) trivial ?_
 rintro _ _ ⟨rfl, rfl⟩
 refine mv rfl <| vv (opv_extract rfl rfl) <| vv (opv_extract rfl rfl) <| ag rfl <| ag rfl <| SO.nil <| tt [(0, V.val), (6, .int .i64 0), (7, .int .i64 t1), (8, .bool t2)] rfl <| S.seq <| S.seq <| S.region <| mv rfl <| vv (opv_not rfl) <| SO.nil ?_
 rcases bool_or (!t2) with b4 | b4
 ·replace h := VM.cond_t V.toVI b4 h
  refine S.condT rfl b4 <| S.seq <| S.region <| ag rfl <| SO.nil ?_
  obtain ⟨hq, rfl⟩ := VM.ret_some V.toVI h
  cases hq
  exact S.b1 <| S.b1 <| S.ret1 Tryz.func175 rfl rfl (hR · _ _ ⟨rfl, rfl⟩)
 replace h := VM.cond_f V.toVI b4 h
 refine S.condF rfl b4 <| S.skip <| S.seq <| S.region <| mv rfl <| mv rfl ?_
 obtain ⟨t5, s6, hv7, h⟩ := VM.rd_some V.toVI h
 refine SO.vread' V rfl rfl rfl hv7 <| ag rfl <| SO.nil <| tt [(6, .int .i64 0), (9, .int .u64 t5)] rfl <| S.seq <| S.seq <| S.region <| mv rfl <| vv (opv_lss rfl rfl) <| mv rfl ?_
 refine SO.cut 3 26 (.bool ((decide (t5 < 1)) || (decide (96 < t5)))) [V.rep s6, F] (fun l2 hk2 => ?_) ?_
 ·rcases bool_or (decide (t5 < 1)) with b8 | b8
  ·exact pf rfl rfl rfl b8 <| pf rfl rfl rfl b8 <| vv (opv_pick_t' b8 rfl rfl) <| SO.b1 <| SO.b1 <| hk2.fitc (m := 3) rfl (or_t b8) rfl
  exact SO.takeT rfl rfl rfl b8 <| mv rfl <| SO.takeT rfl rfl rfl b8 <| vv (opv_gtr rfl rfl) <| vv (opv_pick_f' b8 rfl rfl) <| SO.b1 <| SO.b1 <| hk2.fitc (m := 3) rfl (or_f b8) rfl
 refine SO.nil ?_
 rcases bool_or ((decide (t5 < 1)) || (decide (96 < t5))) with b9 | b9
 ·replace h := VM.cond_t V.toVI b9 h
  refine S.condT rfl b9 <| S.seq <| S.region <| ag rfl <| SO.nil ?_
  obtain ⟨hq, rfl⟩ := VM.ret_some V.toVI h
  cases hq
  exact S.b1 <| S.b1 <| S.ret1 Tryz.func175 rfl rfl (hR · _ _ ⟨rfl, rfl⟩)
 replace h := VM.cond_f V.toVI b9 h
 refine S.condF rfl b9 <| S.skip <| S.seq <| S.region <| mv rfl <| vv (opv_conv Tryz.underlying55 Tryz.underlying3 rfl) <| vv (opv_sub rfl rfl) <| ag rfl <| SO.nil <| tt [(6, .int .i64 (w64 ((w64 t5) - 1)))] rfl ?_
 obtain ⟨hq, rfl⟩ := VM.ret_some V.toVI h
 cases hq
 exact S.b1 <| S.b1 <| S.ret1 Tryz.func175 rfl rfl (hR · _ _ ⟨rfl, rfl⟩)
def cdt_Parent.f (a1 : Int) : VM (Int) :=
  (cdt_get.f a1 1).bind fun t1 => VM.ret t1
set_option maxHeartbeats 8000000 in
set_option maxRecDepth 100000 in
theorem cdt_Parent.ct (V : VW Tryz.prog) (a1 : Int) (r0 : Int) (s s' : V.S) (h : VM.run V.toVI (cdt_Parent.f a1) s = some (r0, s')) :
    Ct Tryz.prog 177 [V.val, .int .i64 a1] (fun _ => True) [V.rep s] (fun u H' => u = .int .i64 r0 ∧ H' = [V.rep s']) := by
 unfold cdt_Parent.f at h
 refine Ct.intro (n := 8) Tryz.func177 rfl rfl rfl ?_
 intro R w0 F hF hR
 refine S.seq <| S.region <| ag rfl <| SO.nil <| S.seq <| S.region <| mv rfl <| mv rfl ?_
 obtain ⟨t1, s3, ht2, h⟩ := VM.bind_some V.toVI h
 refine SO.call (pre := [V.rep _]) rfl Tryz.call175 rfl rfl rfl (cdt_get.ct V _ _ _ _ _ ht2) trivial ?_
 rintro _ _ ⟨rfl, rfl⟩
 refine ag rfl <| SO.nil ?_
 obtain ⟨hq, rfl⟩ := VM.ret_some V.toVI h
 cases hq
 exact S.b1 <| S.b1 <| S.ret1 Tryz.func177 rfl rfl (hR · _ _ ⟨rfl, rfl⟩)
def cdt_put.f (a1 : Int) (a2 : Int) (a3 : Int) : VM (Unit) :=
  (VM.opt (lay_Slot.f a1 a2)).bind fun (t1, t2) => bif t2 then (VM.wr t1 (wu64 (w64 (a3 + 1))) (VM.ret ())) else (VM.ret ())
set_option maxHeartbeats 8000000 in
set_option maxRecDepth 100000 in
theorem cdt_put.ct (V : VW Tryz.prog) (a1 : Int) (a2 : Int) (a3 : Int) (s s' : V.S) (h : VM.run V.toVI (cdt_put.f a1 a2 a3) s = some ((), s')) :
    Ct Tryz.prog 186 [V.val, .int .i64 a1, .int .i64 a2, .int .i64 a3] (fun _ => True) [V.rep s] (fun u H' => u = .tuple #[] ∧ H' = [V.rep s']) := by
 unfold cdt_put.f at h
 refine Ct.intro (n := 23) Tryz.func186 rfl rfl rfl ?_
 intro R w0 F hF hR
 refine S.seq <| S.region <| mv rfl <| mv rfl ?_
 obtain ⟨⟨t1, t2⟩, ht3, h⟩ := VM.opt_some V.toVI h
 refine SO.call (pre := []) rfl Tryz.call31 rfl rfl rfl (lay_Slot.ct _ _ _ _ ht3) trivial ?_
 rintro _ _ ⟨rfl, rfl⟩
 refine mv rfl <| vv (opv_extract rfl rfl) <| vv (opv_extract rfl rfl) <| ag rfl <| ag rfl <| SO.nil <| tt [(0, V.val), (3, .int .i64 a3), (8, .int .i64 t1), (9, .bool t2)] rfl <| S.seq <| S.region <| mv rfl <| SO.nil ?_
 rcases bool_or t2 with b4 | b4
 ·replace h := VM.cond_t V.toVI b4 h
  refine S.condT rfl b4 <| S.region <| mv rfl <| mv rfl <| mv rfl <| vv (opv_add rfl rfl) <| vv (opv_conv Tryz.underlying3 Tryz.underlying55 rfl) ?_
  obtain ⟨s5, hv6, h⟩ := VM.wr_some V.toVI h
  refine SO.vwrite' V rfl rfl rfl rfl hv6 <| SO.nil <| S.to (ρ' := []) trivial ?_
  obtain ⟨hq, rfl⟩ := VM.ret_some V.toVI h
  cases hq
  exact S.b1 <| S.b1 <| S.fin0 Tryz.func186 rfl (hR · _ _ ⟨rfl, rfl⟩)
 replace h := VM.cond_f V.toVI b4 h
 refine S.condF rfl b4 <| S.skip ?_
 obtain ⟨hq, rfl⟩ := VM.ret_some V.toVI h
 cases hq
 exact S.b1 <| S.b1 <| S.fin0 Tryz.func186 rfl (hR · _ _ ⟨rfl, rfl⟩)
def cdt_there.f (a0 : Int) : Option (Bool) :=
  (lay_Slot.f a0 0).bind fun (t1, t2) => some t2
set_option maxHeartbeats 8000000 in
set_option maxRecDepth 100000 in
theorem cdt_there.ct (a0 : Int) (r0 : Bool) (h : cdt_there.f a0 = some r0) :
    Ct Tryz.prog 176 [.int .i64 a0] (fun _ => True) [] (fun u H' => u = .bool r0 ∧ H' = []) := by
 unfold cdt_there.f at h
 refine Ct.intro (n := 11) Tryz.func176 rfl rfl rfl ?_
 intro R w0 F hF hR
 refine S.seq <| S.region <| ag rfl <| SO.nil <| S.seq <| S.region <| mv rfl ?_
 obtain ⟨⟨t1, t2⟩, ht3, h⟩ := opt_bind h
 refine SO.call (pre := []) rfl Tryz.call31 rfl rfl rfl (lay_Slot.ct _ _ _ _ ht3) trivial ?_
 rintro _ _ ⟨rfl, rfl⟩
 refine mv rfl <| vv (opv_extract rfl rfl) <| vv (opv_extract rfl rfl) <| ag rfl <| ag rfl <| SO.nil <| tt [(2, .bool false), (4, .bool t2)] rfl <| S.seq <| S.region <| mv rfl <| ag rfl <| SO.nil ?_
 cases h
 exact S.ret1 Tryz.func176 rfl rfl (hR · _ _ ⟨rfl, rfl⟩)
def cdt_Link.f (a1 : Int) (a2 : Int) : VM ((Option Int)) :=
  (VM.opt (cdt_there.f a1)).bind fun t1 => (bif !t1 then (VM.ret true) else ((VM.opt (cdt_there.f a2)).bind fun t6 => VM.ret (!t6))).bind fun c4 => bif c4 then (VM.ret (some 2)) else ((bif a1 == a2 then (VM.ret true) else ((cdt_Parent.f a1).bind fun t13 => VM.ret (t13 != (-1)))).bind fun c11 => bif c11 then (VM.ret (some 10)) else ((cdt_get.f a2 2).bind fun t18 => (cdt_put.f a1 1 a2).bind fun _ => (cdt_put.f a1 3 t18).bind fun _ => (cdt_put.f a1 4 (-1)).bind fun _ => (cdt_put.f t18 4 a1).bind fun _ => (cdt_put.f a2 2 a1).bind fun _ => VM.ret none))
set_option maxHeartbeats 8000000 in
set_option maxRecDepth 100000 in
theorem cdt_Link.ct (V : VW Tryz.prog) (a1 : Int) (a2 : Int) (r0 : Option Int) (s s' : V.S) (h : VM.run V.toVI (cdt_Link.f a1 a2) s = some (r0, s')) :
    Ct Tryz.prog 138 [V.val, .int .i64 a1, .int .i64 a2] (fun _ => True) [V.rep s] (fun u H' => u = errV 98 r0 ∧ H' = [V.rep s']) := by
 unfold cdt_Link.f at h
 refine Ct.intro (n := 51) Tryz.func138 rfl rfl rfl ?_
 intro R w0 F hF hR
 refine S.seq <| S.region <| ag rfl <| SO.nil <| S.seq <| S.block <| S.seq <| S.region <| mv rfl ?_
 obtain ⟨t1, ht2, h⟩ := VM.opt_some V.toVI h
 refine SO.call (pre := []) rfl Tryz.call176 rfl rfl rfl (cdt_there.ct _ _ ht2) trivial ?_
 rintro _ _ ⟨rfl, rfl⟩
 refine vv (opv_not rfl) <| mv rfl ?_
 obtain ⟨c4, s8, hc5, hgk⟩ := VM.bind_some V.toVI h
 refine SO.cut 4 16 (.bool c4) [V.rep s8, F] (fun l2 hk2 => ?_) ?_
 ·clear hgk
  replace h := hc5
  rcases bool_or (!t1) with b3 | b3
  ·replace h := VM.cond_t V.toVI b3 h
   refine pf rfl rfl rfl b3 <| pf rfl rfl rfl b3 <| pf rfl rfl rfl b3 ?_
   obtain ⟨hq, rfl⟩ := VM.ret_some V.toVI h
   cases hq
   exact vv (opv_pick_t' b3 rfl rfl) <| SO.b1 <| SO.b1 <| hk2.fitc (m := 4) rfl (rfl) rfl
  replace h := VM.cond_f V.toVI b3 h
  refine SO.takeT rfl rfl rfl b3 <| mv rfl <| SO.takeT rfl rfl rfl b3 ?_
  obtain ⟨t6, ht7, h⟩ := VM.opt_some V.toVI h
  refine SO.call (pre := []) rfl Tryz.call176 rfl rfl rfl (cdt_there.ct _ _ ht7) trivial ?_
  rintro _ _ ⟨rfl, rfl⟩
  refine SO.takeT rfl rfl rfl b3 <| vv (opv_not rfl) ?_
  obtain ⟨hq, rfl⟩ := VM.ret_some V.toVI h
  cases hq
  exact vv (opv_pick_f' b3 rfl rfl) <| SO.b1 <| SO.b1 <| hk2.fitc (m := 4) rfl (rfl) rfl
 clear hc5
 replace h := hgk
 refine ag rfl <| SO.nil ?_
 rcases bool_or c4 with b9 | b9
 ·replace h := VM.cond_t V.toVI b9 h
  refine S.condT rfl b9 <| S.seq <| S.region <| vv (opv_iface Tryz.underlying98 rfl rfl) <| ag rfl <| SO.nil <| tt [(6, errV 98 (some 2))] rfl ?_
  obtain ⟨hq, rfl⟩ := VM.ret_some V.toVI h
  cases hq
  exact S.b1 <| S.b1 <| S.ret1 Tryz.func138 rfl rfl (hR · _ _ ⟨rfl, rfl⟩)
 replace h := VM.cond_f V.toVI b9 h
 refine S.condF rfl b9 <| S.seq <| S.region <| mv rfl <| mv rfl <| vv (opv_eql rfl rfl) <| mv rfl ?_
 obtain ⟨c11, s16, hc12, hgk⟩ := VM.bind_some V.toVI h
 refine SO.cut 5 27 (.bool c11) [V.rep s16, F] (fun l2 hk2 => ?_) ?_
 ·clear hgk
  replace h := hc12
  rcases bool_or (a1 == a2) with b10 | b10
  ·replace h := VM.cond_t V.toVI b10 h
   refine pf rfl rfl rfl b10 <| pf rfl rfl rfl b10 <| pf rfl rfl rfl b10 <| pf rfl rfl rfl b10 ?_
   obtain ⟨hq, rfl⟩ := VM.ret_some V.toVI h
   cases hq
   exact vv (opv_pick_t' b10 rfl rfl) <| SO.b1 <| SO.b1 <| hk2.fitc (m := 5) rfl (rfl) rfl
  replace h := VM.cond_f V.toVI b10 h
  refine SO.takeT rfl rfl rfl b10 <| mv rfl <| SO.takeT rfl rfl rfl b10 <| mv rfl <| SO.takeT rfl rfl rfl b10 ?_
  obtain ⟨t13, s15, ht14, h⟩ := VM.bind_some V.toVI h
  refine SO.call (pre := [V.rep _]) rfl Tryz.call177 rfl rfl rfl (cdt_Parent.ct V _ _ _ _ ht14) trivial ?_
  rintro _ _ ⟨rfl, rfl⟩
  refine SO.takeT rfl rfl rfl b10 <| vv (opv_neq rfl rfl) ?_
  obtain ⟨hq, rfl⟩ := VM.ret_some V.toVI h
  cases hq
  exact vv (opv_pick_f' b10 rfl rfl) <| SO.b1 <| SO.b1 <| hk2.fitc (m := 5) rfl (rfl) rfl
 clear hc12
 replace h := hgk
 refine ag rfl <| SO.nil <| tt [(0, V.val), (1, .int .i64 a1), (2, .int .i64 a2), (6, errV 98 none), (18, .bool c11)] rfl ?_
 rcases bool_or c11 with b17 | b17
 ·replace h := VM.cond_t V.toVI b17 h
  refine S.condT rfl b17 <| S.seq <| S.region <| vv (opv_iface Tryz.underlying98 rfl rfl) <| ag rfl <| SO.nil ?_
  obtain ⟨hq, rfl⟩ := VM.ret_some V.toVI h
  cases hq
  exact S.b1 <| S.b1 <| S.ret1 Tryz.func138 rfl rfl (hR · _ _ ⟨rfl, rfl⟩)
 replace h := VM.cond_f V.toVI b17 h
 refine S.condF rfl b17 <| S.skip <| S.inBlock <| S.seq <| S.region <| mv rfl <| mv rfl ?_
 obtain ⟨t18, s20, ht19, h⟩ := VM.bind_some V.toVI h
 refine SO.call (pre := [V.rep _]) rfl Tryz.call175 rfl rfl rfl (cdt_get.ct V _ _ _ _ _ ht19) trivial ?_
 rintro _ _ ⟨rfl, rfl⟩
 refine ag rfl <| SO.nil <| S.seq <| S.region <| mv rfl <| mv rfl <| mv rfl ?_
 obtain ⟨_, s22, ht21, h⟩ := VM.bind_some V.toVI h
 refine SO.call (pre := [V.rep _]) rfl Tryz.call186 rfl rfl rfl (cdt_put.ct V _ _ _ _ _ ht21) trivial ?_
 rintro _ _ ⟨rfl, rfl⟩
 refine SO.nil <| tt [(0, V.val), (1, .int .i64 a1), (2, .int .i64 a2), (6, errV 98 none), (7, .int .i64 t18)] rfl <| S.seq <| S.region <| mv rfl <| mv rfl <| mv rfl ?_
 obtain ⟨_, s24, ht23, h⟩ := VM.bind_some V.toVI h
 refine SO.call (pre := [V.rep _]) rfl Tryz.call186 rfl rfl rfl (cdt_put.ct V _ _ _ _ _ ht23) trivial ?_
 rintro _ _ ⟨rfl, rfl⟩
 refine SO.nil <| S.seq <| S.region <| mv rfl <| mv rfl ?_
 obtain ⟨_, s26, ht25, h⟩ := VM.bind_some V.toVI h
 refine SO.call (pre := [V.rep _]) rfl Tryz.call186 rfl rfl rfl (cdt_put.ct V _ _ _ _ _ ht25) trivial ?_
 rintro _ _ ⟨rfl, rfl⟩
 refine SO.nil <| tt [(0, V.val), (1, .int .i64 a1), (2, .int .i64 a2), (6, errV 98 none), (7, .int .i64 t18)] rfl <| S.seq <| S.region <| mv rfl <| mv rfl <| mv rfl ?_
 obtain ⟨_, s28, ht27, h⟩ := VM.bind_some V.toVI h
 refine SO.call (pre := [V.rep _]) rfl Tryz.call186 rfl rfl rfl (cdt_put.ct V _ _ _ _ _ ht27) trivial ?_
 rintro _ _ ⟨rfl, rfl⟩
 refine SO.nil <| S.seq <| S.region <| mv rfl <| mv rfl <| mv rfl ?_
 obtain ⟨_, s30, ht29, h⟩ := VM.bind_some V.toVI h
 refine SO.call (pre := [V.rep _]) rfl Tryz.call186 rfl rfl rfl (cdt_put.ct V _ _ _ _ _ ht29) trivial ?_
 rintro _ _ ⟨rfl, rfl⟩
 refine SO.nil <| tt [(6, errV 98 none)] rfl <| S.seq <| S.region <| ag rfl <| SO.nil ?_
 obtain ⟨hq, rfl⟩ := VM.ret_some V.toVI h
 cases hq
 exact S.b1 <| S.b1 <| S.ret1 Tryz.func138 rfl rfl (hR · _ _ ⟨rfl, rfl⟩)
def pack_Put.l1 (a0 : api_Cap) (t7 : List Int) : Nat → (Int × Int × Int) → Option (Int)
  | 0, _ => none
  | k + 1, (x28_1, x4_1, x5_1) => bif decide (x28_1 < (t7.length : Int)) then ((at_ t7 x28_1).bind fun x12 => (at_ ([a0.Kind, a0.Rights, a0.Obj, a0.Badge, a0.Bits, a0.Guard]) x28_1).bind fun x14 => (chk (decide (0 ≤ x5_1))).bind fun _ => pack_Put.l1 a0 t7 k (w64 (x28_1 + 1), bor .u64 x4_1 (bshl .u64 (wu64 x14) x5_1), w64 (x5_1 + x12))) else (some x4_1)
def pack_Put.f (k : Nat) (a0 : api_Cap) : Option ((Int × (Option Int))) :=
  (pack_May.f a0).bind fun t2 => bif !t2 then (some (0, (some 1))) else ((pack_widths.f ).bind fun t7 => (pack_Put.l1 a0 t7 k (0, 0, 0)).bind fun j4_e1 => some (j4_e1, none))
set_option maxHeartbeats 8000000 in
set_option maxRecDepth 100000 in
theorem pack_Put.ct (k : Nat) (a0 : api_Cap) (r0 : Int) (r1 : Option Int) (h : pack_Put.f k a0 = some (r0, r1)) :
    Ct Tryz.prog 140 [.agg #[.int .i64 a0.Kind, .int .i64 a0.Rights, .int .i64 a0.Obj, .int .i64 a0.Badge, .int .i64 a0.Guard, .int .i64 a0.Bits]] (fun _ => True) [] (fun u H' => u = .tuple #[.int .u64 r0, errV 98 r1] ∧ H' = []) := by
 unfold pack_Put.f at h
 refine Ct.intro (n := 47) Tryz.func140 rfl rfl rfl ?_
 intro R w0 F hF hR
 refine S.seq <| S.region <| SO.box rfl rfl rfl fun b1 => ag rfl <| ag rfl <| SO.nil <| S.seq <| S.seq <| S.region <| SO.loadN rfl Tryz.isAgg45 Tryz.sizeOf45 rfl rfl rfl ?_
 obtain ⟨t2, ht3, h⟩ := opt_bind h
 refine SO.call (pre := []) rfl Tryz.call52 rfl rfl rfl (pack_May.ct _ _ ht3) trivial ?_
 rintro _ _ ⟨rfl, rfl⟩
 refine vv (opv_not rfl) <| SO.nil ?_
 rcases bool_or (!t2) with b4 | b4
 ·replace h := cond_t b4 h
  refine S.condT rfl b4 <| S.seq <| S.region <| vv (opv_iface Tryz.underlying98 rfl rfl) <| ag rfl <| ag rfl <| SO.nil ?_
  cases h
  exact S.drop <| S.ret2 Tryz.func140 rfl rfl rfl (hR · _ _ ⟨rfl, rfl⟩)
 replace h := cond_f b4 h
 refine S.condF rfl b4 <| S.skip <| S.seq <| S.region <| ag rfl <| SO.nil <| S.seq <| S.region <| ag rfl <| SO.nil <| S.seq <| S.region <| fa Tryz.underlying45 rfl Tryz.sizeOf3 rfl rfl <| ld Tryz.isAgg3 rfl rfl <| fa Tryz.underlying45 rfl Tryz.sizeOf3 rfl rfl <| ld Tryz.isAgg3 rfl rfl <| fa Tryz.underlying45 rfl Tryz.sizeOf3 rfl rfl <| ld Tryz.isAgg3 rfl rfl <| fa Tryz.underlying45 rfl Tryz.sizeOf3 rfl rfl <| ld Tryz.isAgg3 rfl rfl <| fa Tryz.underlying45 rfl Tryz.sizeOf3 rfl rfl <| ld Tryz.isAgg3 rfl rfl <| fa Tryz.underlying45 rfl Tryz.sizeOf3 rfl rfl <| ld Tryz.isAgg3 rfl rfl ?_
 refine SO.buildSlice (K := ekI .i64) (xs := [a0.Kind, a0.Rights, a0.Obj, a0.Badge, a0.Bits, a0.Guard]) (cs := [.int .i64 a0.Kind, .int .i64 a0.Rights, .int .i64 a0.Obj, .int .i64 a0.Badge, .int .i64 a0.Bits, .int .i64 a0.Guard]) rfl Tryz.underlying43 Tryz.sizeOf3 Tryz.zeroValue3 rfl rfl rfl (by kernel_rfl) rfl rfl rfl fun v5 hr6 => ag rfl <| SO.nil <| tt [(2, .int .u64 0), (3, errV 98 none), (4, .int .u64 0), (5, .int .i64 0), (6, v5)] rfl <| S.seq <| S.seq <| S.region ?_
 obtain ⟨t7, ht8, h⟩ := opt_bind h
 refine SO.call (pre := []) rfl Tryz.call51 rfl rfl rfl (pack_widths.ct _ ht8) trivial ?_
 rintro v9 _ ⟨_, rfl, rfl⟩
 refine SO.rd fun hr10 => vv (opv_lenR rfl Tryz.underlying43 hr10 rfl) <| mv rfl <| SO.nil ?_
 obtain ⟨j4_e1, hlp1, h⟩ := opt_bind h
 refine S.b3 <| S.b3 <| S.b3 <| S.b3 <| tt [(28, .int .i64 0), (27, .int .i64 (t7.length : Int)), (26, v9), (2, .int .u64 0), (3, errV 98 none), (4, .int .u64 0), (5, .int .i64 0), (6, v5)] rfl ?_
 refine S.forloop (X := (Int × Int × Int) × Unit) (O := Int) (fun m x => pack_Put.l1 a0 t7 m x.1) (fun x => match x with | ((x28_1, x4_1, x5_1), _) => [(28, .int .i64 x28_1), (27, .int .i64 (t7.length : Int)), (26, v9), (2, .int .u64 0), (3, errV 98 none), (4, .int .u64 x4_1), (5, .int .i64 x5_1), (6, v5)]) (fun x => match x with | ((x28_1, x4_1, x5_1), _) => [Own 3 (ekI .i64) v9 t7, Own 3 (ekI .i64) v5 ([a0.Kind, a0.Rights, a0.Obj, a0.Badge, a0.Bits, a0.Guard]), Box b1 [.int .i64 a0.Kind, .int .i64 a0.Rights, .int .i64 a0.Obj, .int .i64 a0.Badge, .int .i64 a0.Guard, .int .i64 a0.Bits], F]) (fun Sk => (fun j4_e1 => ∀ _ : Unit, Sk [(2, .int .u64 0), (3, errV 98 none), (4, .int .u64 j4_e1)] [Own 3 (ekI .i64) v9 t7, Own 3 (ekI .i64) v5 ([a0.Kind, a0.Rights, a0.Obj, a0.Badge, a0.Bits, a0.Guard]), Box b1 [.int .i64 a0.Kind, .int .i64 a0.Rights, .int .i64 a0.Obj, .int .i64 a0.Badge, .int .i64 a0.Guard, .int .i64 a0.Bits], F])) (fun _ => rfl) ?_ (m := k) (x := ((0, 0, 0), ())) hlp1 ?_
 ·clear h hlp1
  intro k x o_1 h hK1 ih1
  obtain ⟨⟨x28_1, x4_1, x5_1⟩, _⟩ := x
  replace h : pack_Put.l1 a0 t7 (k + 1) (x28_1, x4_1, x5_1) = some o_1 := h
  first | rw [pack_Put.l1] at h | unfold pack_Put.l1 at h
  refine S.seq <| S.region <| vv (opv_lss rfl rfl) <| SO.nil <| S.seq ?_
  rcases bool_or (decide (x28_1 < (t7.length : Int))) with b11 | b11
  ·replace h := cond_t b11 h
   refine S.condT rfl b11 <| S.skip <| S.seq <| S.block <| S.seq <| S.region <| mv rfl ?_
   obtain ⟨x12, hx13, h⟩ := opt_bind h
   refine vv (opv_idx Tryz.underlying43 Tryz.sizeOf3 hr10 rfl rfl hx13) <| SO.loadI1 (j := 0) rfl Tryz.isAgg3 (Rd.head hr10) hx13 rfl rfl rfl rfl <| ag rfl <| ag rfl <| SO.nil <| S.seq <| S.region <| mv rfl <| mv rfl <| mv rfl ?_
   obtain ⟨x14, hx15, h⟩ := opt_bind h
   refine vv (opv_idx Tryz.underlying43 Tryz.sizeOf3 hr6 rfl rfl hx15) <| SO.loadI1 (j := 0) rfl Tryz.isAgg3 (Rd.tail (Rd.head hr6)) hx15 rfl rfl rfl rfl <| vv (opv_conv Tryz.underlying3 Tryz.underlying55 rfl) <| mv rfl ?_
   obtain ⟨_, hc16, h⟩ := opt_bind h
   refine vv (opv_shl rfl rfl (of_decide_eq_true (chk_some hc16))) <| vv (opv_or rfl rfl) <| ag rfl <| SO.nil <| tt [(28, .int .i64 x28_1), (27, .int .i64 (t7.length : Int)), (26, v9), (2, .int .u64 0), (3, errV 98 none), (4, .int .u64 (bor .u64 x4_1 (bshl .u64 (wu64 x14) x5_1))), (5, .int .i64 x5_1), (6, v5), (8, .int .i64 x12)] rfl <| S.region <| mv rfl <| mv rfl <| vv (opv_add rfl rfl) <| ag rfl <| SO.nil <| S.inBlock <| S.region <| vv (opv_add rfl rfl) <| mv rfl <| SO.nil <| S.b3 <| S.b3 <| S.b3 <| S.b3 ?_
   refine S.to ?_ (ih1 ((w64 (x28_1 + 1), bor .u64 x4_1 (bshl .u64 (wu64 x14) x5_1), w64 (x5_1 + x12)), ()) h)
   exact ⟨rfl, rfl, rfl, rfl, rfl, rfl, rfl, rfl, trivial⟩
  replace h := cond_f b11 h
  refine S.condF rfl b11 <| S.exit rfl ?_
  cases h
  refine S.b3 <| S.b3 <| S.b3 <| S.b3 ?_
  refine S.to ?_ (hK1 ())
  exact ⟨rfl, rfl, rfl, trivial⟩
 rintro _
 refine S.seq <| S.region <| mv rfl <| ag rfl <| ag rfl <| SO.nil ?_
 cases h
 exact S.drop <| S.drop <| S.drop <| S.ret2 Tryz.func140 rfl rfl rfl (hR · _ _ ⟨rfl, rfl⟩)
def cspace_Set.f (k : Nat) (a1 : Int) (a2 : api_Cap) : VM ((Option Int)) :=
  (VM.opt (lay_Slot.f a1 0)).bind fun (t2, t3) => bif !t3 then (VM.ret (some 2)) else ((VM.opt (pack_Put.f k a2)).bind fun (t6, t7) => bif t7.isSome then (VM.ret t7) else (VM.wr t2 t6 (VM.ret none)))
set_option maxHeartbeats 8000000 in
set_option maxRecDepth 100000 in
theorem cspace_Set.ct (V : VW Tryz.prog) (k : Nat) (a1 : Int) (a2 : api_Cap) (r0 : Option Int) (s s' : V.S) (h : VM.run V.toVI (cspace_Set.f k a1 a2) s = some (r0, s')) :
    Ct Tryz.prog 128 [V.val, .int .i64 a1, .agg #[.int .i64 a2.Kind, .int .i64 a2.Rights, .int .i64 a2.Obj, .int .i64 a2.Badge, .int .i64 a2.Guard, .int .i64 a2.Bits]] (fun _ => True) [V.rep s] (fun u H' => u = errV 98 r0 ∧ H' = [V.rep s']) := by
 unfold cspace_Set.f at h
 refine Ct.intro (n := 31) Tryz.func128 rfl rfl rfl ?_
 intro R w0 F hF hR
 refine S.seq <| S.region <| SO.box rfl rfl rfl fun b1 => ag rfl <| SO.nil <| S.seq <| S.region <| mv rfl ?_
 obtain ⟨⟨t2, t3⟩, ht4, h⟩ := VM.opt_some V.toVI h
 refine SO.call (pre := []) rfl Tryz.call31 rfl rfl rfl (lay_Slot.ct _ _ _ _ ht4) trivial ?_
 rintro _ _ ⟨rfl, rfl⟩
 refine mv rfl <| vv (opv_extract rfl rfl) <| vv (opv_extract rfl rfl) <| ag rfl <| ag rfl <| SO.nil <| tt [(0, V.val), (5, bp b1 0), (6, errV 98 none), (7, .int .i64 t2), (8, .bool t3)] rfl <| S.seq <| S.seq <| S.region <| mv rfl <| vv (opv_not rfl) <| SO.nil ?_
 rcases bool_or (!t3) with b5 | b5
 ·replace h := VM.cond_t V.toVI b5 h
  refine S.condT rfl b5 <| S.seq <| S.region <| vv (opv_iface Tryz.underlying98 rfl rfl) <| ag rfl <| SO.nil <| tt [(6, errV 98 (some 2))] rfl ?_
  obtain ⟨hq, rfl⟩ := VM.ret_some V.toVI h
  cases hq
  exact S.drop <| S.b1 <| S.b1 <| S.ret1 Tryz.func128 rfl rfl (hR · _ _ ⟨rfl, rfl⟩)
 replace h := VM.cond_f V.toVI b5 h
 refine S.condF rfl b5 <| S.skip <| S.seq <| S.region <| SO.loadN rfl Tryz.isAgg45 Tryz.sizeOf45 rfl rfl rfl ?_
 obtain ⟨⟨t6, t7⟩, ht8, h⟩ := VM.opt_some V.toVI h
 refine SO.call (pre := []) rfl Tryz.call140 rfl rfl rfl (pack_Put.ct _ _ _ _ ht8) trivial ?_
 rintro _ _ ⟨rfl, rfl⟩
 refine mv rfl <| vv (opv_extract rfl rfl) <| vv (opv_extract rfl rfl) <| ag rfl <| ag rfl <| SO.nil <| tt [(0, V.val), (6, errV 98 none), (7, .int .i64 t2), (9, .int .u64 t6), (10, errV 98 t7)] rfl <| S.seq <| S.seq <| S.region <| mv rfl <| vv (opv_neqN (e := t7) Tryz.underlying74 rfl) <| SO.nil ?_
 rcases bool_or t7.isSome with b9 | b9
 ·replace h := VM.cond_t V.toVI b9 h
  refine S.condT rfl b9 <| S.seq <| S.region <| mv rfl <| ag rfl <| SO.nil <| tt [(6, errV 98 t7)] rfl ?_
  obtain ⟨hq, rfl⟩ := VM.ret_some V.toVI h
  cases hq
  exact S.drop <| S.b1 <| S.b1 <| S.ret1 Tryz.func128 rfl rfl (hR · _ _ ⟨rfl, rfl⟩)
 replace h := VM.cond_f V.toVI b9 h
 refine S.condF rfl b9 <| S.skip <| S.seq <| S.region <| mv rfl <| mv rfl <| mv rfl ?_
 obtain ⟨s10, hv11, h⟩ := VM.wr_some V.toVI h
 refine SO.b1 <| SO.vwrite' V rfl rfl rfl rfl hv11 <| SO.nil <| tt [(6, errV 98 none)] rfl <| S.seq <| S.region <| ag rfl <| SO.nil ?_
 obtain ⟨hq, rfl⟩ := VM.ret_some V.toVI h
 cases hq
 exact S.b1 <| S.drop <| S.b1 <| S.b1 <| S.ret1 Tryz.func128 rfl rfl (hR · _ _ ⟨rfl, rfl⟩)
def derive_below.f (k : Nat) (a1 : Int) (a2 : Int) (a3 : api_Cap) : VM ((Option Int)) :=
  (cdt_Link.f a2 a1).bind fun t2 => bif t2.isSome then (VM.ret t2) else ((cspace_Set.f k a2 a3).bind fun t6 => VM.ret t6)
set_option maxHeartbeats 8000000 in
set_option maxRecDepth 100000 in
theorem derive_below.ct (V : VW Tryz.prog) (k : Nat) (a1 : Int) (a2 : Int) (a3 : api_Cap) (r0 : Option Int) (s s' : V.S) (h : VM.run V.toVI (derive_below.f k a1 a2 a3) s = some (r0, s')) :
    Ct Tryz.prog 132 [V.val, .int .i64 a1, .int .i64 a2, .agg #[.int .i64 a3.Kind, .int .i64 a3.Rights, .int .i64 a3.Obj, .int .i64 a3.Badge, .int .i64 a3.Guard, .int .i64 a3.Bits]] (fun _ => True) [V.rep s] (fun u H' => u = errV 98 r0 ∧ H' = [V.rep s']) := by
 unfold derive_below.f at h
 refine Ct.intro (n := 21) Tryz.func132 rfl rfl rfl ?_
 intro R w0 F hF hR
 refine S.seq <| S.region <| SO.box rfl rfl rfl fun b1 => ag rfl <| SO.nil <| S.seq <| S.seq <| S.region <| mv rfl <| mv rfl <| mv rfl ?_
 obtain ⟨t2, s4, ht3, h⟩ := VM.bind_some V.toVI h
 refine SO.b1 <| SO.call (pre := [V.rep _]) rfl Tryz.call138 rfl rfl rfl (cdt_Link.ct V _ _ _ _ _ ht3) trivial ?_
 rintro _ _ ⟨rfl, rfl⟩
 refine ag rfl <| SO.nil <| S.seq <| S.region <| mv rfl <| vv (opv_neqN (e := t2) Tryz.underlying74 rfl) <| SO.nil <| tt [(0, V.val), (2, .int .i64 a2), (7, bp b1 0), (8, errV 98 none), (9, errV 98 t2), (15, .bool t2.isSome)] rfl ?_
 rcases bool_or t2.isSome with b5 | b5
 ·replace h := VM.cond_t V.toVI b5 h
  refine S.condT rfl b5 <| S.seq <| S.region <| mv rfl <| ag rfl <| SO.nil ?_
  obtain ⟨hq, rfl⟩ := VM.ret_some V.toVI h
  cases hq
  exact S.b1 <| S.drop <| S.b1 <| S.b1 <| S.ret1 Tryz.func132 rfl rfl (hR · _ _ ⟨rfl, rfl⟩)
 replace h := VM.cond_f V.toVI b5 h
 refine S.condF rfl b5 <| S.skip <| S.seq <| S.region <| mv rfl <| mv rfl <| SO.b1 <| SO.loadN rfl Tryz.isAgg45 Tryz.sizeOf45 rfl rfl rfl ?_
 obtain ⟨t6, s8, ht7, h⟩ := VM.bind_some V.toVI h
 refine SO.b1 <| SO.call (pre := [V.rep _]) rfl Tryz.call128 rfl rfl rfl (cspace_Set.ct V _ _ _ _ _ _ ht7) trivial ?_
 rintro _ _ ⟨rfl, rfl⟩
 refine ag rfl <| SO.nil <| tt [(8, errV 98 t6)] rfl ?_
 obtain ⟨hq, rfl⟩ := VM.ret_some V.toVI h
 cases hq
 exact S.b1 <| S.drop <| S.b1 <| S.b1 <| S.ret1 Tryz.func132 rfl rfl (hR · _ _ ⟨rfl, rfl⟩)
def derive_there.f (a0 : Int) : Option (Bool) :=
  (lay_Slot.f a0 0).bind fun (t1, t2) => some t2
set_option maxHeartbeats 8000000 in
set_option maxRecDepth 100000 in
theorem derive_there.ct (a0 : Int) (r0 : Bool) (h : derive_there.f a0 = some r0) :
    Ct Tryz.prog 125 [.int .i64 a0] (fun _ => True) [] (fun u H' => u = .bool r0 ∧ H' = []) := by
 unfold derive_there.f at h
 refine Ct.intro (n := 11) Tryz.func125 rfl rfl rfl ?_
 intro R w0 F hF hR
 refine S.seq <| S.region <| ag rfl <| SO.nil <| S.seq <| S.region <| mv rfl ?_
 obtain ⟨⟨t1, t2⟩, ht3, h⟩ := opt_bind h
 refine SO.call (pre := []) rfl Tryz.call31 rfl rfl rfl (lay_Slot.ct _ _ _ _ ht3) trivial ?_
 rintro _ _ ⟨rfl, rfl⟩
 refine mv rfl <| vv (opv_extract rfl rfl) <| vv (opv_extract rfl rfl) <| ag rfl <| ag rfl <| SO.nil <| tt [(2, .bool false), (4, .bool t2)] rfl <| S.seq <| S.region <| mv rfl <| ag rfl <| SO.nil ?_
 cases h
 exact S.ret1 Tryz.func125 rfl rfl (hR · _ _ ⟨rfl, rfl⟩)
def derive_ends.f (k : Nat) (a1 : Int) (a2 : Int) : VM ((api_Cap × (Option Int))) :=
  (cspace_Cap.f k a1).bind fun t2 => (VM.opt (derive_there.f a1)).bind fun t6 => (bif !t6 then (VM.ret true) else ((VM.opt (derive_there.f a2)).bind fun t11 => VM.ret (!t11))).bind fun c9 => bif c9 || (t2.Kind == 0) then (VM.ret (t2, (some 2))) else ((cspace_Cap.f k a2).bind fun t16 => bif t16.Kind != 0 then (VM.ret (t2, (some 8))) else (VM.ret (t2, none)))
set_option maxHeartbeats 8000000 in
set_option maxRecDepth 100000 in
theorem derive_ends.ct (V : VW Tryz.prog) (k : Nat) (a1 : Int) (a2 : Int) (r0 : api_Cap) (r1 : Option Int) (s s' : V.S) (h : VM.run V.toVI (derive_ends.f k a1 a2) s = some ((r0, r1), s')) :
    Ct Tryz.prog 130 [V.val, .int .i64 a1, .int .i64 a2] (fun _ => True) [V.rep s] (fun u H' => u = .tuple #[.agg #[.int .i64 r0.Kind, .int .i64 r0.Rights, .int .i64 r0.Obj, .int .i64 r0.Badge, .int .i64 r0.Guard, .int .i64 r0.Bits], errV 98 r1] ∧ H' = [V.rep s']) := by
 unfold derive_ends.f at h
 refine Ct.intro (n := 37) Tryz.func130 rfl rfl rfl ?_
 intro R w0 F hF hR
 refine S.seq <| S.region <| SO.alloc rfl Tryz.zeroValue45 rfl fun b1 => ag rfl <| SO.nil <| S.seq <| S.region <| mv rfl <| mv rfl ?_
 obtain ⟨t2, s4, ht3, h⟩ := VM.bind_some V.toVI h
 refine SO.b1 <| SO.call (pre := [V.rep _]) rfl Tryz.call14 rfl rfl rfl (cspace_Cap.ct V _ _ _ _ _ ht3) trivial ?_
 rintro _ _ ⟨rfl, rfl⟩
 refine SO.alloc rfl Tryz.zeroValue45 rfl fun b5 => SO.storeN Tryz.sizeOf45 rfl rfl rfl rfl rfl rfl <| SO.nil <| S.seq <| S.block <| S.seq <| S.region <| mv rfl ?_
 obtain ⟨t6, ht7, h⟩ := VM.opt_some V.toVI h
 refine SO.call (pre := []) rfl Tryz.call125 rfl rfl rfl (derive_there.ct _ _ ht7) trivial ?_
 rintro _ _ ⟨rfl, rfl⟩
 refine vv (opv_not rfl) <| mv rfl ?_
 obtain ⟨c9, s13, hc10, hgk⟩ := VM.bind_some V.toVI h
 refine SO.cut 4 20 (.bool c9) [Box b5 [.int .i64 t2.Kind, .int .i64 t2.Rights, .int .i64 t2.Obj, .int .i64 t2.Badge, .int .i64 t2.Guard, .int .i64 t2.Bits], V.rep s13, Box b1 [.int .i64 0, .int .i64 0, .int .i64 0, .int .i64 0, .int .i64 0, .int .i64 0], F] (fun l2 hk2 => ?_) ?_
 ·clear hgk
  replace h := hc10
  rcases bool_or (!t6) with b8 | b8
  ·replace h := VM.cond_t V.toVI b8 h
   refine pf rfl rfl rfl b8 <| pf rfl rfl rfl b8 <| pf rfl rfl rfl b8 ?_
   obtain ⟨hq, rfl⟩ := VM.ret_some V.toVI h
   cases hq
   exact vv (opv_pick_t' b8 rfl rfl) <| SO.b3 <| SO.b3 <| SO.b3 <| SO.b3 <| hk2.fitc (m := 4) rfl (rfl) rfl
  replace h := VM.cond_f V.toVI b8 h
  refine SO.takeT rfl rfl rfl b8 <| mv rfl <| SO.takeT rfl rfl rfl b8 ?_
  obtain ⟨t11, ht12, h⟩ := VM.opt_some V.toVI h
  refine SO.call (pre := []) rfl Tryz.call125 rfl rfl rfl (derive_there.ct _ _ ht12) trivial ?_
  rintro _ _ ⟨rfl, rfl⟩
  refine SO.takeT rfl rfl rfl b8 <| vv (opv_not rfl) ?_
  obtain ⟨hq, rfl⟩ := VM.ret_some V.toVI h
  cases hq
  exact vv (opv_pick_f' b8 rfl rfl) <| SO.b3 <| SO.b3 <| SO.b3 <| SO.b3 <| hk2.fitc (m := 4) rfl (rfl) rfl
 clear hc10
 replace h := hgk
 refine mv rfl ?_
 refine SO.cut 4 25 (.bool (c9 || (t2.Kind == 0))) [Box b5 [.int .i64 t2.Kind, .int .i64 t2.Rights, .int .i64 t2.Obj, .int .i64 t2.Badge, .int .i64 t2.Guard, .int .i64 t2.Bits], V.rep s13, Box b1 [.int .i64 0, .int .i64 0, .int .i64 0, .int .i64 0, .int .i64 0, .int .i64 0], F] (fun l2 hk2 => ?_) ?_
 ·rcases bool_or c9 with b14 | b14
  ·exact pf rfl rfl rfl b14 <| pf rfl rfl rfl b14 <| pf rfl rfl rfl b14 <| vv (opv_pick_t' b14 rfl rfl) <| SO.b3 <| SO.b3 <| SO.b3 <| SO.b3 <| hk2.fitc (m := 4) rfl (or_t b14) rfl
  exact SO.takeT rfl rfl rfl b14 <| fa Tryz.underlying45 rfl Tryz.sizeOf3 rfl rfl <| SO.takeT rfl rfl rfl b14 <| ld Tryz.isAgg3 rfl rfl <| SO.takeT rfl rfl rfl b14 <| vv (opv_eql rfl rfl) <| vv (opv_pick_f' b14 rfl rfl) <| SO.b3 <| SO.b3 <| SO.b3 <| SO.b3 <| hk2.fitc (m := 4) rfl (or_f b14) rfl
 refine ag rfl <| SO.nil <| tt [(0, V.val), (2, .int .i64 a2), (6, bp b1 0), (7, errV 98 none), (8, bp b5 0), (12, .bool (c9 || (t2.Kind == 0)))] rfl ?_
 rcases bool_or (c9 || (t2.Kind == 0)) with b15 | b15
 ·replace h := VM.cond_t V.toVI b15 h
  refine S.condT rfl b15 <| S.seq <| S.region <| SO.loadN rfl Tryz.isAgg45 Tryz.sizeOf45 rfl rfl rfl <| vv (opv_iface Tryz.underlying98 rfl rfl) <| SO.b2 <| SO.storeN Tryz.sizeOf45 rfl rfl rfl rfl rfl rfl <| ag rfl <| SO.nil ?_
  obtain ⟨hq, rfl⟩ := VM.ret_some V.toVI h
  cases hq
  exact S.b1 <| S.drop <| S.b2 <| S.b2 <| S.b2 <| S.retC1 Tryz.func130 rfl rfl rfl Tryz.isAgg45 Tryz.sizeOf45 rfl rfl (fun w hs hk => hR w _ _ ⟨rfl, rfl⟩ hs.drop hk)
 replace h := VM.cond_f V.toVI b15 h
 refine S.condF rfl b15 <| S.seq <| S.region <| mv rfl <| mv rfl ?_
 obtain ⟨t16, s18, ht17, h⟩ := VM.bind_some V.toVI h
 refine SO.b1 <| SO.call (pre := [V.rep _]) rfl Tryz.call14 rfl rfl rfl (cspace_Cap.ct V _ _ _ _ _ ht17) trivial ?_
 rintro _ _ ⟨rfl, rfl⟩
 refine vv (opv_field Tryz.underlying45 rfl Tryz.isAgg3 rfl rfl) <| vv (opv_neq rfl rfl) <| ag rfl <| SO.nil <| tt [(6, bp b1 0), (7, errV 98 none), (8, bp b5 0), (28, .bool (t16.Kind != 0))] rfl ?_
 rcases bool_or (t16.Kind != 0) with b19 | b19
 ·replace h := VM.cond_t V.toVI b19 h
  refine S.condT rfl b19 <| S.seq <| S.region <| SO.b1 <| SO.loadN rfl Tryz.isAgg45 Tryz.sizeOf45 rfl rfl rfl <| vv (opv_iface Tryz.underlying98 rfl rfl) <| SO.b2 <| SO.storeN Tryz.sizeOf45 rfl rfl rfl rfl rfl rfl <| ag rfl <| SO.nil ?_
  obtain ⟨hq, rfl⟩ := VM.ret_some V.toVI h
  cases hq
  exact S.b1 <| S.drop <| S.b2 <| S.b2 <| S.b2 <| S.retC1 Tryz.func130 rfl rfl rfl Tryz.isAgg45 Tryz.sizeOf45 rfl rfl (fun w hs hk => hR w _ _ ⟨rfl, rfl⟩ hs.drop hk)
 replace h := VM.cond_f V.toVI b19 h
 refine S.condF rfl b19 <| S.skip <| S.inBlock <| S.seq <| S.region <| SO.b1 <| SO.loadN rfl Tryz.isAgg45 Tryz.sizeOf45 rfl rfl rfl <| SO.b2 <| SO.storeN Tryz.sizeOf45 rfl rfl rfl rfl rfl rfl <| ag rfl <| SO.nil ?_
 obtain ⟨hq, rfl⟩ := VM.ret_some V.toVI h
 cases hq
 exact S.b1 <| S.drop <| S.b2 <| S.b2 <| S.b2 <| S.retC1 Tryz.func130 rfl rfl rfl Tryz.isAgg45 Tryz.sizeOf45 rfl rfl (fun w hs hk => hR w _ _ ⟨rfl, rfl⟩ hs.drop hk)
def rights_mask.f (a0 : Int) : Option (Bool) :=
  some ((decide (0 ≤ a0)) && (decide (a0 ≤ 7)))
set_option maxHeartbeats 8000000 in
set_option maxRecDepth 100000 in
theorem rights_mask.ct (a0 : Int) (r0 : Bool) (h : rights_mask.f a0 = some r0) :
    Ct Tryz.prog 181 [.int .i64 a0] (fun _ => True) [] (fun u H' => u = .bool r0 ∧ H' = []) := by
 unfold rights_mask.f at h
 refine Ct.intro (n := 9) Tryz.func181 rfl rfl rfl ?_
 intro R w0 F hF hR
 refine S.seq <| S.region <| ag rfl <| SO.nil <| S.seq <| S.region <| mv rfl <| vv (opv_geq rfl rfl) <| mv rfl ?_
 refine SO.cut 3 8 (.bool ((decide (0 ≤ a0)) && (decide (a0 ≤ 7)))) [F] (fun l2 hk2 => ?_) ?_
 ·rcases bool_or (decide (0 ≤ a0)) with b1 | b1
  ·exact SO.takeT rfl rfl rfl b1 <| mv rfl <| SO.takeT rfl rfl rfl b1 <| vv (opv_leq rfl rfl) <| vv (opv_pick_t' b1 rfl rfl) <| hk2.fitc (m := 3) rfl (and_t b1) rfl
  exact pf rfl rfl rfl b1 <| pf rfl rfl rfl b1 <| vv (opv_pick_f' b1 rfl rfl) <| hk2.fitc (m := 3) rfl (and_f b1) rfl
 refine ag rfl <| SO.nil ?_
 cases h
 exact S.ret1 Tryz.func181 rfl rfl (hR · _ _ ⟨rfl, rfl⟩)
def rights_real.f (a0 : api_Cap) : Option (Bool) :=
  (bif a0.Kind != 0 then ((pack_May.f a0).bind fun t5 => some t5) else (some false)).bind fun c3 => some c3
set_option maxHeartbeats 8000000 in
set_option maxRecDepth 100000 in
theorem rights_real.ct (a0 : api_Cap) (r0 : Bool) (h : rights_real.f a0 = some r0) :
    Ct Tryz.prog 180 [.agg #[.int .i64 a0.Kind, .int .i64 a0.Rights, .int .i64 a0.Obj, .int .i64 a0.Badge, .int .i64 a0.Guard, .int .i64 a0.Bits]] (fun _ => True) [] (fun u H' => u = .bool r0 ∧ H' = []) := by
 unfold rights_real.f at h
 refine Ct.intro (n := 10) Tryz.func180 rfl rfl rfl ?_
 intro R w0 F hF hR
 refine S.seq <| S.region <| SO.box rfl rfl rfl fun b1 => ag rfl <| SO.nil <| S.seq <| S.region <| fa Tryz.underlying45 rfl Tryz.sizeOf3 rfl rfl <| ld Tryz.isAgg3 rfl rfl <| vv (opv_neq rfl rfl) <| mv rfl ?_
 obtain ⟨c3, hc4, hgk⟩ := opt_bind h
 refine SO.cut 3 9 (.bool c3) [Box b1 [.int .i64 a0.Kind, .int .i64 a0.Rights, .int .i64 a0.Obj, .int .i64 a0.Badge, .int .i64 a0.Guard, .int .i64 a0.Bits], F] (fun l2 hk2 => ?_) ?_
 ·clear hgk
  replace h := hc4
  rcases bool_or (a0.Kind != 0) with b2 | b2
  ·replace h := cond_t b2 h
   refine SO.takeT rfl rfl rfl b2 <| SO.loadN rfl Tryz.isAgg45 Tryz.sizeOf45 rfl rfl rfl <| SO.takeT rfl rfl rfl b2 ?_
   obtain ⟨t5, ht6, h⟩ := opt_bind h
   refine SO.call (pre := []) rfl Tryz.call52 rfl rfl rfl (pack_May.ct _ _ ht6) trivial ?_
   rintro _ _ ⟨rfl, rfl⟩
   cases h
   exact vv (opv_pick_t' b2 rfl rfl) <| SO.b1 <| SO.b1 <| hk2.fitc (m := 3) rfl (rfl) rfl
  replace h := cond_f b2 h
  refine pf rfl rfl rfl b2 <| pf rfl rfl rfl b2 ?_
  cases h
  exact vv (opv_pick_f' b2 rfl rfl) <| SO.b1 <| SO.b1 <| hk2.fitc (m := 3) rfl (rfl) rfl
 clear hc4
 replace h := hgk
 refine ag rfl <| SO.nil <| tt [(2, .bool c3)] rfl ?_
 cases h
 exact S.drop <| S.ret1 Tryz.func180 rfl rfl (hR · _ _ ⟨rfl, rfl⟩)
def rights_Derive.f (a0 : api_Cap) (a1 : Int) : Option ((api_Cap × (Option Int))) :=
  (rights_real.f a0).bind fun t3 => (bif !t3 then (some true) else ((rights_mask.f a1).bind fun t8 => some (!t8))).bind fun c6 => bif c6 then (some ((⟨0, 0, 0, 0, 0, 0⟩ : api_Cap), (some 1))) else (bif a0.Kind == 1 then (some ((⟨0, 0, 0, 0, 0, 0⟩ : api_Cap), (some 5))) else (some (({ a0 with Rights := band .i64 a0.Rights a1 } : api_Cap), none)))
set_option maxHeartbeats 8000000 in
set_option maxRecDepth 100000 in
theorem rights_Derive.ct (a0 : api_Cap) (a1 : Int) (r0 : api_Cap) (r1 : Option Int) (h : rights_Derive.f a0 a1 = some (r0, r1)) :
    Ct Tryz.prog 131 [.agg #[.int .i64 a0.Kind, .int .i64 a0.Rights, .int .i64 a0.Obj, .int .i64 a0.Badge, .int .i64 a0.Guard, .int .i64 a0.Bits], .int .i64 a1] (fun _ => True) [] (fun u H' => u = .tuple #[.agg #[.int .i64 r0.Kind, .int .i64 r0.Rights, .int .i64 r0.Obj, .int .i64 r0.Badge, .int .i64 r0.Guard, .int .i64 r0.Bits], errV 98 r1] ∧ H' = []) := by
 unfold rights_Derive.f at h
 refine Ct.intro (n := 29) Tryz.func131 rfl rfl rfl ?_
 intro R w0 F hF hR
 refine S.seq <| S.region <| SO.box rfl rfl rfl fun b1 => SO.alloc rfl Tryz.zeroValue45 rfl fun b2 => ag rfl <| SO.nil <| S.seq <| S.block <| S.seq <| S.region <| SO.b1 <| SO.loadN rfl Tryz.isAgg45 Tryz.sizeOf45 rfl rfl rfl ?_
 obtain ⟨t3, ht4, h⟩ := opt_bind h
 refine SO.call (pre := []) rfl Tryz.call180 rfl rfl rfl (rights_real.ct _ _ ht4) trivial ?_
 rintro _ _ ⟨rfl, rfl⟩
 refine vv (opv_not rfl) <| mv rfl ?_
 obtain ⟨c6, hc7, hgk⟩ := opt_bind h
 refine SO.cut 4 14 (.bool c6) [Box b1 [.int .i64 a0.Kind, .int .i64 a0.Rights, .int .i64 a0.Obj, .int .i64 a0.Badge, .int .i64 a0.Guard, .int .i64 a0.Bits], Box b2 [.int .i64 0, .int .i64 0, .int .i64 0, .int .i64 0, .int .i64 0, .int .i64 0], F] (fun l2 hk2 => ?_) ?_
 ·clear hgk
  replace h := hc7
  rcases bool_or (!t3) with b5 | b5
  ·replace h := cond_t b5 h
   refine pf rfl rfl rfl b5 <| pf rfl rfl rfl b5 <| pf rfl rfl rfl b5 ?_
   cases h
   exact vv (opv_pick_t' b5 rfl rfl) <| SO.b2 <| SO.b2 <| SO.b2 <| hk2.fitc (m := 4) rfl (rfl) rfl
  replace h := cond_f b5 h
  refine SO.takeT rfl rfl rfl b5 <| mv rfl <| SO.takeT rfl rfl rfl b5 ?_
  obtain ⟨t8, ht9, h⟩ := opt_bind h
  refine SO.call (pre := []) rfl Tryz.call181 rfl rfl rfl (rights_mask.ct _ _ ht9) trivial ?_
  rintro _ _ ⟨rfl, rfl⟩
  refine SO.takeT rfl rfl rfl b5 <| vv (opv_not rfl) ?_
  cases h
  exact vv (opv_pick_f' b5 rfl rfl) <| SO.b2 <| SO.b2 <| SO.b2 <| hk2.fitc (m := 4) rfl (rfl) rfl
 clear hc7
 replace h := hgk
 refine ag rfl <| SO.nil ?_
 rcases bool_or c6 with b10 | b10
 ·replace h := cond_t b10 h
  refine S.condT rfl b10 <| S.seq <| S.region <| vv (opv_build (v := .agg #[.int .i64 0, .int .i64 0, .int .i64 0, .int .i64 0, .int .i64 0, .int .i64 0]) rfl (by intro w; kernel_rfl)) <| vv (opv_iface Tryz.underlying98 rfl rfl) <| SO.b1 <| SO.storeN Tryz.sizeOf45 rfl rfl rfl rfl rfl rfl <| ag rfl <| SO.nil <| tt [(4, bp b2 0), (5, errV 98 (some 1))] rfl ?_
  cases h
  exact S.b1 <| S.drop <| S.b1 <| S.b1 <| S.retC1 Tryz.func131 rfl rfl rfl Tryz.isAgg45 Tryz.sizeOf45 rfl rfl (fun w hs hk => hR w _ _ ⟨rfl, rfl⟩ hs.drop hk)
 replace h := cond_f b10 h
 refine S.condF rfl b10 <| S.seq <| S.region <| fa Tryz.underlying45 rfl Tryz.sizeOf3 rfl rfl <| ld Tryz.isAgg3 rfl rfl <| vv (opv_eql rfl rfl) <| ag rfl <| SO.nil <| tt [(1, .int .i64 a1), (2, bp b1 0), (4, bp b2 0), (5, errV 98 none), (17, .bool (a0.Kind == 1))] rfl ?_
 rcases bool_or (a0.Kind == 1) with b11 | b11
 ·replace h := cond_t b11 h
  refine S.condT rfl b11 <| S.seq <| S.region <| vv (opv_build (v := .agg #[.int .i64 0, .int .i64 0, .int .i64 0, .int .i64 0, .int .i64 0, .int .i64 0]) rfl (by intro w; kernel_rfl)) <| vv (opv_iface Tryz.underlying98 rfl rfl) <| SO.b1 <| SO.storeN Tryz.sizeOf45 rfl rfl rfl rfl rfl rfl <| ag rfl <| SO.nil ?_
  cases h
  exact S.b1 <| S.drop <| S.b1 <| S.b1 <| S.retC1 Tryz.func131 rfl rfl rfl Tryz.isAgg45 Tryz.sizeOf45 rfl rfl (fun w hs hk => hR w _ _ ⟨rfl, rfl⟩ hs.drop hk)
 replace h := cond_f b11 h
 refine S.condF rfl b11 <| S.skip <| S.inBlock <| S.seq <| S.region <| fa Tryz.underlying45 rfl Tryz.sizeOf3 rfl rfl <| ld Tryz.isAgg3 rfl rfl <| mv rfl <| vv (opv_and rfl rfl) <| fa Tryz.underlying45 rfl Tryz.sizeOf3 rfl rfl <| SO.store1 Tryz.sizeOf3 rfl rfl rfl rfl <| SO.nil <| tt [(2, bp b1 0), (4, bp b2 0), (5, errV 98 none)] rfl <| S.seq <| S.region <| SO.loadN rfl Tryz.isAgg45 Tryz.sizeOf45 rfl rfl rfl <| SO.b1 <| SO.storeN Tryz.sizeOf45 rfl rfl rfl rfl rfl rfl <| ag rfl <| SO.nil ?_
 cases h
 exact S.b1 <| S.drop <| S.b1 <| S.b1 <| S.retC1 Tryz.func131 rfl rfl rfl Tryz.isAgg45 Tryz.sizeOf45 rfl rfl (fun w hs hk => hR w _ _ ⟨rfl, rfl⟩ hs.drop hk)
def derive_Copy.f (k : Nat) (a1 : Int) (a2 : Int) (a3 : Int) : VM ((Option Int)) :=
  (derive_ends.f k a1 a2).bind fun (t1, t2) => bif t2.isSome then (VM.ret t2) else ((VM.opt (rights_Derive.f t1 a3)).bind fun (t7, t8) => bif t8.isSome then (VM.ret t8) else ((derive_below.f k a1 a2 t7).bind fun t11 => VM.ret t11))
set_option maxHeartbeats 8000000 in
set_option maxRecDepth 100000 in
theorem derive_Copy.ct (V : VW Tryz.prog) (k : Nat) (a1 : Int) (a2 : Int) (a3 : Int) (r0 : Option Int) (s s' : V.S) (h : VM.run V.toVI (derive_Copy.f k a1 a2 a3) s = some (r0, s')) :
    Ct Tryz.prog 68 [V.val, .int .i64 a1, .int .i64 a2, .int .i64 a3] (fun _ => True) [V.rep s] (fun u H' => u = errV 98 r0 ∧ H' = [V.rep s']) := by
 unfold derive_Copy.f at h
 refine Ct.intro (n := 35) Tryz.func68 rfl rfl rfl ?_
 intro R w0 F hF hR
 refine S.seq <| S.region <| ag rfl <| SO.nil <| S.seq <| S.region <| mv rfl <| mv rfl <| mv rfl ?_
 obtain ⟨⟨t1, t2⟩, s4, ht3, h⟩ := VM.bind_some V.toVI h
 refine SO.call (pre := [V.rep _]) rfl Tryz.call130 rfl rfl rfl (derive_ends.ct V _ _ _ _ _ _ _ ht3) trivial ?_
 rintro _ _ ⟨rfl, rfl⟩
 refine mv rfl <| vv (opv_extract rfl rfl) <| vv (opv_extract rfl rfl) <| SO.alloc rfl Tryz.zeroValue45 rfl fun b5 => SO.storeN Tryz.sizeOf45 rfl rfl rfl rfl rfl rfl <| ag rfl <| SO.nil <| tt [(0, V.val), (1, .int .i64 a1), (2, .int .i64 a2), (3, .int .i64 a3), (8, errV 98 none), (9, bp b5 0), (10, errV 98 t2)] rfl <| S.seq <| S.seq <| S.region <| mv rfl <| vv (opv_neqN (e := t2) Tryz.underlying74 rfl) <| SO.nil ?_
 rcases bool_or t2.isSome with b6 | b6
 ·replace h := VM.cond_t V.toVI b6 h
  refine S.condT rfl b6 <| S.seq <| S.region <| mv rfl <| ag rfl <| SO.nil <| tt [(8, errV 98 t2)] rfl ?_
  obtain ⟨hq, rfl⟩ := VM.ret_some V.toVI h
  cases hq
  exact S.drop <| S.b1 <| S.b1 <| S.ret1 Tryz.func68 rfl rfl (hR · _ _ ⟨rfl, rfl⟩)
 replace h := VM.cond_f V.toVI b6 h
 refine S.condF rfl b6 <| S.skip <| S.seq <| S.seq <| S.region <| SO.loadN rfl Tryz.isAgg45 Tryz.sizeOf45 rfl rfl rfl <| mv rfl ?_
 obtain ⟨⟨t7, t8⟩, ht9, h⟩ := VM.opt_some V.toVI h
 refine SO.call (pre := []) rfl Tryz.call131 rfl rfl rfl (rights_Derive.ct _ _ _ _ ht9) trivial ?_
 rintro _ _ ⟨rfl, rfl⟩
 refine mv rfl <| vv (opv_extract rfl rfl) <| vv (opv_extract rfl rfl) <| SO.storeN Tryz.sizeOf45 rfl rfl rfl rfl rfl rfl <| ag rfl <| SO.nil <| tt [(0, V.val), (1, .int .i64 a1), (2, .int .i64 a2), (8, errV 98 none), (9, bp b5 0), (10, errV 98 t8)] rfl <| S.seq <| S.region <| mv rfl <| vv (opv_neqN (e := t8) Tryz.underlying74 rfl) <| SO.nil ?_
 rcases bool_or t8.isSome with b10 | b10
 ·replace h := VM.cond_t V.toVI b10 h
  refine S.condT rfl b10 <| S.seq <| S.region <| mv rfl <| ag rfl <| SO.nil <| tt [(8, errV 98 t8)] rfl ?_
  obtain ⟨hq, rfl⟩ := VM.ret_some V.toVI h
  cases hq
  exact S.drop <| S.b1 <| S.b1 <| S.ret1 Tryz.func68 rfl rfl (hR · _ _ ⟨rfl, rfl⟩)
 replace h := VM.cond_f V.toVI b10 h
 refine S.condF rfl b10 <| S.skip <| S.seq <| S.region <| mv rfl <| mv rfl <| mv rfl <| SO.loadN rfl Tryz.isAgg45 Tryz.sizeOf45 rfl rfl rfl ?_
 obtain ⟨t11, s13, ht12, h⟩ := VM.bind_some V.toVI h
 refine SO.b1 <| SO.call (pre := [V.rep _]) rfl Tryz.call132 rfl rfl rfl (derive_below.ct V _ _ _ _ _ _ _ ht12) trivial ?_
 rintro _ _ ⟨rfl, rfl⟩
 refine ag rfl <| SO.nil <| tt [(8, errV 98 t11)] rfl ?_
 obtain ⟨hq, rfl⟩ := VM.ret_some V.toVI h
 cases hq
 exact S.b1 <| S.drop <| S.b1 <| S.b1 <| S.ret1 Tryz.func68 rfl rfl (hR · _ _ ⟨rfl, rfl⟩)
def cdt_Kids.l1 : Nat → (Int × (List Int)) → VM ((List Int))
  | 0, _ => VM.fail
  | k + 1, (x6_1, x5_1) => bif (x6_1 != (-1)) && (decide ((x5_1.length : Int) < 96)) then ((VM.opt (app x5_1 ([x6_1]))).bind fun zs9 => (cdt_get.f x6_1 3).bind fun t13 => cdt_Kids.l1  k (t13, zs9)) else (VM.ret x5_1)
def cdt_Kids.f (k : Nat) (a1 : Int) : VM ((List Int)) :=
  (cdt_get.f a1 2).bind fun t1 => (cdt_Kids.l1 k (t1, [])).bind fun j5_e1 => VM.ret j5_e1
set_option maxHeartbeats 8000000 in
set_option maxRecDepth 100000 in
theorem cdt_Kids.ct (V : VW Tryz.prog) (k : Nat) (a1 : Int) (r0 : List Int) (s s' : V.S) (h : VM.run V.toVI (cdt_Kids.f k a1) s = some (r0, s')) :
    Ct Tryz.prog 126 [V.val, .int .i64 a1] (fun _ => True) [V.rep s] (fun u H' => ∃ v_r0, u = v_r0 ∧ H' = [Own 3 (ekI .i64) v_r0 r0, V.rep s']) := by
 unfold cdt_Kids.f at h
 refine Ct.intro (n := 25) Tryz.func126 rfl rfl rfl ?_
 intro R w0 F hF hR
 refine S.seq <| S.region <| ag rfl <| SO.nil <| S.seq <| S.region <| ag rfl <| SO.nil <| S.seq <| S.seq <| S.region <| mv rfl <| mv rfl ?_
 obtain ⟨t1, s3, ht2, h⟩ := VM.bind_some V.toVI h
 refine SO.call (pre := [V.rep _]) rfl Tryz.call175 rfl rfl rfl (cdt_get.ct V _ _ _ _ _ ht2) trivial ?_
 rintro _ _ ⟨rfl, rfl⟩
 refine ag rfl <| SO.nil ?_
 obtain ⟨j5_e1, so_1, hlp1, h⟩ := VM.bind_some V.toVI h
 refine S.newOwn 3 (ekI .i64) <| S.b2 <| S.b2 <| S.b2 <| tt [(6, .int .i64 t1), (5, .slice none 0 0), (4, .slice none 0 0), (0, V.val)] rfl ?_
 refine S.forloop (X := ((Int × (List Int)) × V.S) × Value) (O := ((List Int)) × V.S) (fun m x => VM.run V.toVI (cdt_Kids.l1  m x.1.1) x.1.2) (fun x => match x with | (((x6_1, x5_1), sx_1), v5_1) => [(6, .int .i64 x6_1), (5, v5_1), (4, .slice none 0 0), (0, V.val)]) (fun x => match x with | (((x6_1, x5_1), sx_1), v5_1) => [Own 3 (ekI .i64) v5_1 x5_1, V.rep sx_1, F]) (fun Sk oo => match oo with | (j5_e1, so_1) => ∀ v5_e1 : Value, Sk [(4, .slice none 0 0), (5, v5_e1)] [Own 3 (ekI .i64) v5_e1 j5_e1, V.rep so_1, F]) (fun _ => rfl) ?_ (m := k) (x := (((t1, []), s3), .slice none 0 0)) hlp1 ?_
 ·clear h hlp1
  intro k x o_1 h hK1 ih1
  obtain ⟨⟨⟨x6_1, x5_1⟩, sx_1⟩, v5_1⟩ := x
  obtain ⟨o_1, so_1_⟩ := o_1
  replace h : VM.run V.toVI (cdt_Kids.l1  (k + 1) (x6_1, x5_1)) sx_1 = some (o_1, so_1_) := h
  first | rw [cdt_Kids.l1] at h | unfold cdt_Kids.l1 at h
  refine S.rd fun hr4 => S.seq <| S.seq <| S.region <| mv rfl <| vv (opv_neq rfl rfl) <| mv rfl ?_
  refine SO.cut 4 16 (.bool ((x6_1 != (-1)) && (decide ((x5_1.length : Int) < 96)))) [Own 3 (ekI .i64) v5_1 x5_1, V.rep sx_1, F] (fun l2 hk2 => ?_) ?_
  ·rcases bool_or (x6_1 != (-1)) with b5 | b5
   ·exact SO.takeT rfl rfl rfl b5 <| mv rfl <| SO.takeT rfl rfl rfl b5 <| vv (opv_lenR rfl Tryz.underlying43 hr4 rfl) <| SO.takeT rfl rfl rfl b5 <| vv (opv_lss rfl rfl) <| vv (opv_pick_t' b5 rfl rfl) <| SO.b2 <| SO.b2 <| SO.b2 <| hk2.fitc (m := 4) rfl (and_t b5) rfl
   exact pf rfl rfl rfl b5 <| pf rfl rfl rfl b5 <| pf rfl rfl rfl b5 <| vv (opv_pick_f' b5 rfl rfl) <| SO.b2 <| SO.b2 <| SO.b2 <| hk2.fitc (m := 4) rfl (and_f b5) rfl
  refine SO.nil ?_
  rcases bool_or ((x6_1 != (-1)) && (decide ((x5_1.length : Int) < 96))) with b6 | b6
  ·replace h := VM.cond_t V.toVI b6 h
   refine S.condT rfl b6 <| S.skip <| S.seq <| S.block <| S.region <| mv rfl <| mv rfl <| SO.buildSlice (K := ekI .i64) (xs := [x6_1]) (cs := [.int .i64 x6_1]) rfl Tryz.underlying43 Tryz.sizeOf3 Tryz.zeroValue3 rfl rfl rfl (by kernel_rfl) rfl rfl rfl fun v7 hr8 => ?_
   obtain ⟨zs9, hz10, h⟩ := VM.opt_some V.toVI h
   refine SO.b1 <| SO.append rfl Tryz.underlying43 Tryz.underlying43 inf3 rfl rfl rfl (by decide) rfl rfl rfl (Rd.head hr8) hz10 fun v11 => SO.rd fun hr12 => ag rfl <| SO.nil <| tt [(6, .int .i64 x6_1), (5, v11), (4, .slice none 0 0), (0, V.val)] rfl <| S.inBlock <| S.region <| mv rfl <| mv rfl ?_
   obtain ⟨t13, s15, ht14, h⟩ := VM.bind_some V.toVI h
   refine SO.b2 <| SO.call (pre := [V.rep _]) rfl Tryz.call175 rfl rfl rfl (cdt_get.ct V _ _ _ _ _ ht14) trivial ?_
   rintro _ _ ⟨rfl, rfl⟩
   refine ag rfl <| SO.nil <| S.b2 <| S.drop <| S.b2 <| S.b1 <| S.b2 ?_
   refine S.to ?_ (ih1 (((t13, zs9), s15), v11) h)
   exact ⟨rfl, rfl, rfl, rfl, trivial⟩
  replace h := VM.cond_f V.toVI b6 h
  refine S.condF rfl b6 <| S.exit rfl ?_
  obtain ⟨hq, rfl⟩ := VM.ret_some V.toVI h
  cases hq
  refine S.b2 <| S.b2 <| S.b2 ?_
  refine S.to ?_ (hK1 v5_1)
  exact ⟨rfl, rfl, trivial⟩
 rintro v5_e1
 refine S.rd fun hr16 => S.seq <| S.region <| mv rfl <| ag rfl <| SO.nil ?_
 obtain ⟨hq, rfl⟩ := VM.ret_some V.toVI h
 cases hq
 exact S.b2 <| S.b2 <| S.b2 <| S.ret1 Tryz.func126 rfl rfl (hR · _ _ ⟨v5_e1, rfl, rfl⟩)
def cdt_beside.f (a1 : Int) (a2 : Int) (a3 : Int) : VM (Unit) :=
  (cdt_get.f a1 4).bind fun t1 => (cdt_get.f a1 3).bind fun t4 => bif t1 != (-1) then ((cdt_put.f t1 3 a2).bind fun _ => (cdt_put.f t4 4 a3).bind fun _ => VM.ret ()) else ((cdt_Parent.f a1).bind fun t12 => (cdt_put.f t12 2 a2).bind fun _ => (cdt_put.f t4 4 a3).bind fun _ => VM.ret ())
set_option maxHeartbeats 8000000 in
set_option maxRecDepth 100000 in
theorem cdt_beside.ct (V : VW Tryz.prog) (a1 : Int) (a2 : Int) (a3 : Int) (s s' : V.S) (h : VM.run V.toVI (cdt_beside.f a1 a2 a3) s = some ((), s')) :
    Ct Tryz.prog 178 [V.val, .int .i64 a1, .int .i64 a2, .int .i64 a3] (fun _ => True) [V.rep s] (fun u H' => u = .tuple #[] ∧ H' = [V.rep s']) := by
 unfold cdt_beside.f at h
 refine Ct.intro (n := 32) Tryz.func178 rfl rfl rfl ?_
 intro R w0 F hF hR
 refine S.seq <| S.region <| mv rfl <| mv rfl ?_
 obtain ⟨t1, s3, ht2, h⟩ := VM.bind_some V.toVI h
 refine SO.call (pre := [V.rep _]) rfl Tryz.call175 rfl rfl rfl (cdt_get.ct V _ _ _ _ _ ht2) trivial ?_
 rintro _ _ ⟨rfl, rfl⟩
 refine mv rfl <| mv rfl ?_
 obtain ⟨t4, s6, ht5, h⟩ := VM.bind_some V.toVI h
 refine SO.call (pre := [V.rep _]) rfl Tryz.call175 rfl rfl rfl (cdt_get.ct V _ _ _ _ _ ht5) trivial ?_
 rintro _ _ ⟨rfl, rfl⟩
 refine ag rfl <| ag rfl <| SO.nil <| S.seq <| S.seq <| S.region <| mv rfl <| vv (opv_neq rfl rfl) <| SO.nil <| tt [(0, V.val), (1, .int .i64 a1), (2, .int .i64 a2), (3, .int .i64 a3), (8, .int .i64 t1), (9, .int .i64 t4), (17, .bool (t1 != (-1)))] rfl ?_
 rcases bool_or (t1 != (-1)) with b7 | b7
 ·replace h := VM.cond_t V.toVI b7 h
  refine S.condT rfl b7 <| S.region <| mv rfl <| mv rfl <| mv rfl ?_
  obtain ⟨_, s9, ht8, h⟩ := VM.bind_some V.toVI h
  refine SO.call (pre := [V.rep _]) rfl Tryz.call186 rfl rfl rfl (cdt_put.ct V _ _ _ _ _ ht8) trivial ?_
  rintro _ _ ⟨rfl, rfl⟩
  refine SO.nil <| tt [(0, V.val), (3, .int .i64 a3), (9, .int .i64 t4)] rfl <| S.region <| mv rfl <| mv rfl <| mv rfl ?_
  obtain ⟨_, s11, ht10, h⟩ := VM.bind_some V.toVI h
  refine SO.call (pre := [V.rep _]) rfl Tryz.call186 rfl rfl rfl (cdt_put.ct V _ _ _ _ _ ht10) trivial ?_
  rintro _ _ ⟨rfl, rfl⟩
  refine SO.nil <| S.to (ρ' := []) trivial ?_
  obtain ⟨hq, rfl⟩ := VM.ret_some V.toVI h
  cases hq
  exact S.b1 <| S.b1 <| S.fin0 Tryz.func178 rfl (hR · _ _ ⟨rfl, rfl⟩)
 replace h := VM.cond_f V.toVI b7 h
 refine S.condF rfl b7 <| S.region <| mv rfl <| mv rfl <| mv rfl ?_
 obtain ⟨t12, s14, ht13, h⟩ := VM.bind_some V.toVI h
 refine SO.call (pre := [V.rep _]) rfl Tryz.call177 rfl rfl rfl (cdt_Parent.ct V _ _ _ _ ht13) trivial ?_
 rintro _ _ ⟨rfl, rfl⟩
 refine mv rfl ?_
 obtain ⟨_, s16, ht15, h⟩ := VM.bind_some V.toVI h
 refine SO.call (pre := [V.rep _]) rfl Tryz.call186 rfl rfl rfl (cdt_put.ct V _ _ _ _ _ ht15) trivial ?_
 rintro _ _ ⟨rfl, rfl⟩
 refine SO.nil <| tt [(0, V.val), (3, .int .i64 a3), (9, .int .i64 t4)] rfl <| S.region <| mv rfl <| mv rfl <| mv rfl ?_
 obtain ⟨_, s18, ht17, h⟩ := VM.bind_some V.toVI h
 refine SO.call (pre := [V.rep _]) rfl Tryz.call186 rfl rfl rfl (cdt_put.ct V _ _ _ _ _ ht17) trivial ?_
 rintro _ _ ⟨rfl, rfl⟩
 refine SO.nil <| S.to (ρ' := []) trivial ?_
 obtain ⟨hq, rfl⟩ := VM.ret_some V.toVI h
 cases hq
 exact S.b1 <| S.b1 <| S.fin0 Tryz.func178 rfl (hR · _ _ ⟨rfl, rfl⟩)
def cdt_clear.f (a1 : Int) : VM (Unit) :=
  (cdt_put.f a1 1 (-1)).bind fun _ => (cdt_put.f a1 3 (-1)).bind fun _ => (cdt_put.f a1 4 (-1)).bind fun _ => VM.ret ()
set_option maxHeartbeats 8000000 in
set_option maxRecDepth 100000 in
theorem cdt_clear.ct (V : VW Tryz.prog) (a1 : Int) (s s' : V.S) (h : VM.run V.toVI (cdt_clear.f a1) s = some ((), s')) :
    Ct Tryz.prog 179 [V.val, .int .i64 a1] (fun _ => True) [V.rep s] (fun u H' => u = .tuple #[] ∧ H' = [V.rep s']) := by
 unfold cdt_clear.f at h
 refine Ct.intro (n := 13) Tryz.func179 rfl rfl rfl ?_
 intro R w0 F hF hR
 refine S.seq <| S.region <| mv rfl <| mv rfl ?_
 obtain ⟨_, s2, ht1, h⟩ := VM.bind_some V.toVI h
 refine SO.call (pre := [V.rep _]) rfl Tryz.call186 rfl rfl rfl (cdt_put.ct V _ _ _ _ _ ht1) trivial ?_
 rintro _ _ ⟨rfl, rfl⟩
 refine SO.nil <| S.seq <| S.region <| mv rfl <| mv rfl ?_
 obtain ⟨_, s4, ht3, h⟩ := VM.bind_some V.toVI h
 refine SO.call (pre := [V.rep _]) rfl Tryz.call186 rfl rfl rfl (cdt_put.ct V _ _ _ _ _ ht3) trivial ?_
 rintro _ _ ⟨rfl, rfl⟩
 refine SO.nil <| S.region <| mv rfl <| mv rfl ?_
 obtain ⟨_, s6, ht5, h⟩ := VM.bind_some V.toVI h
 refine SO.call (pre := [V.rep _]) rfl Tryz.call186 rfl rfl rfl (cdt_put.ct V _ _ _ _ _ ht5) trivial ?_
 rintro _ _ ⟨rfl, rfl⟩
 refine SO.nil <| S.to (ρ' := []) trivial ?_
 obtain ⟨hq, rfl⟩ := VM.ret_some V.toVI h
 cases hq
 exact S.b1 <| S.b1 <| S.fin0 Tryz.func179 rfl (hR · _ _ ⟨rfl, rfl⟩)
def cdt_Unlink.f (a1 : Int) : VM ((Option Int)) :=
  (VM.opt (cdt_there.f a1)).bind fun t1 => bif !t1 then (VM.ret (some 2)) else ((cdt_Parent.f a1).bind fun t4 => bif t4 == (-1) then (VM.ret none) else ((cdt_get.f a1 3).bind fun t8 => (cdt_get.f a1 4).bind fun t11 => (cdt_beside.f a1 t8 t11).bind fun _ => (cdt_clear.f a1).bind fun _ => VM.ret none))
set_option maxHeartbeats 8000000 in
set_option maxRecDepth 100000 in
theorem cdt_Unlink.ct (V : VW Tryz.prog) (a1 : Int) (r0 : Option Int) (s s' : V.S) (h : VM.run V.toVI (cdt_Unlink.f a1) s = some (r0, s')) :
    Ct Tryz.prog 127 [V.val, .int .i64 a1] (fun _ => True) [V.rep s] (fun u H' => u = errV 98 r0 ∧ H' = [V.rep s']) := by
 unfold cdt_Unlink.f at h
 refine Ct.intro (n := 25) Tryz.func127 rfl rfl rfl ?_
 intro R w0 F hF hR
 refine S.seq <| S.region <| ag rfl <| SO.nil <| S.seq <| S.seq <| S.region <| mv rfl ?_
 obtain ⟨t1, ht2, h⟩ := VM.opt_some V.toVI h
 refine SO.call (pre := []) rfl Tryz.call176 rfl rfl rfl (cdt_there.ct _ _ ht2) trivial ?_
 rintro _ _ ⟨rfl, rfl⟩
 refine vv (opv_not rfl) <| SO.nil ?_
 rcases bool_or (!t1) with b3 | b3
 ·replace h := VM.cond_t V.toVI b3 h
  refine S.condT rfl b3 <| S.seq <| S.region <| vv (opv_iface Tryz.underlying98 rfl rfl) <| ag rfl <| SO.nil ?_
  obtain ⟨hq, rfl⟩ := VM.ret_some V.toVI h
  cases hq
  exact S.b1 <| S.b1 <| S.ret1 Tryz.func127 rfl rfl (hR · _ _ ⟨rfl, rfl⟩)
 replace h := VM.cond_f V.toVI b3 h
 refine S.condF rfl b3 <| S.skip <| S.seq <| S.seq <| S.region <| mv rfl <| mv rfl ?_
 obtain ⟨t4, s6, ht5, h⟩ := VM.bind_some V.toVI h
 refine SO.call (pre := [V.rep _]) rfl Tryz.call177 rfl rfl rfl (cdt_Parent.ct V _ _ _ _ ht5) trivial ?_
 rintro _ _ ⟨rfl, rfl⟩
 refine vv (opv_eql rfl rfl) <| SO.nil ?_
 rcases bool_or (t4 == (-1)) with b7 | b7
 ·replace h := VM.cond_t V.toVI b7 h
  refine S.condT rfl b7 <| S.seq <| S.region <| ag rfl <| SO.nil <| tt [(4, errV 98 none)] rfl ?_
  obtain ⟨hq, rfl⟩ := VM.ret_some V.toVI h
  cases hq
  exact S.b1 <| S.b1 <| S.ret1 Tryz.func127 rfl rfl (hR · _ _ ⟨rfl, rfl⟩)
 replace h := VM.cond_f V.toVI b7 h
 refine S.condF rfl b7 <| S.skip <| S.seq <| S.region <| mv rfl <| mv rfl <| mv rfl <| mv rfl ?_
 obtain ⟨t8, s10, ht9, h⟩ := VM.bind_some V.toVI h
 refine SO.call (pre := [V.rep _]) rfl Tryz.call175 rfl rfl rfl (cdt_get.ct V _ _ _ _ _ ht9) trivial ?_
 rintro _ _ ⟨rfl, rfl⟩
 refine mv rfl <| mv rfl ?_
 obtain ⟨t11, s13, ht12, h⟩ := VM.bind_some V.toVI h
 refine SO.call (pre := [V.rep _]) rfl Tryz.call175 rfl rfl rfl (cdt_get.ct V _ _ _ _ _ ht12) trivial ?_
 rintro _ _ ⟨rfl, rfl⟩
 obtain ⟨_, s15, ht14, h⟩ := VM.bind_some V.toVI h
 refine SO.call (pre := [V.rep _]) rfl Tryz.call178 rfl rfl rfl (cdt_beside.ct V _ _ _ _ _ ht14) trivial ?_
 rintro _ _ ⟨rfl, rfl⟩
 refine SO.nil <| tt [(0, V.val), (1, .int .i64 a1), (4, errV 98 none)] rfl <| S.seq <| S.region <| mv rfl <| mv rfl ?_
 obtain ⟨_, s17, ht16, h⟩ := VM.bind_some V.toVI h
 refine SO.call (pre := [V.rep _]) rfl Tryz.call179 rfl rfl rfl (cdt_clear.ct V _ _ _ ht16) trivial ?_
 rintro _ _ ⟨rfl, rfl⟩
 refine SO.nil <| S.seq <| S.region <| ag rfl <| SO.nil ?_
 obtain ⟨hq, rfl⟩ := VM.ret_some V.toVI h
 cases hq
 exact S.b1 <| S.b1 <| S.ret1 Tryz.func127 rfl rfl (hR · _ _ ⟨rfl, rfl⟩)
def derive_Delete.f (k : Nat) (a1 : Int) : VM ((Option Int)) :=
  (VM.opt (derive_there.f a1)).bind fun t1 => bif !t1 then (VM.ret (some 2)) else ((cdt_Kids.f k a1).bind fun t4 => bif decide (0 < (t4.length : Int)) then (VM.ret (some 9)) else ((cdt_Unlink.f a1).bind fun t10 => bif t10.isSome then (VM.ret t10) else ((cspace_Set.f k a1 (⟨0, 0, 0, 0, 0, 0⟩ : api_Cap)).bind fun t14 => VM.ret t14)))
set_option maxHeartbeats 8000000 in
set_option maxRecDepth 100000 in
theorem derive_Delete.ct (V : VW Tryz.prog) (k : Nat) (a1 : Int) (r0 : Option Int) (s s' : V.S) (h : VM.run V.toVI (derive_Delete.f k a1) s = some (r0, s')) :
    Ct Tryz.prog 66 [V.val, .int .i64 a1] (fun _ => True) [V.rep s] (fun u H' => u = errV 98 r0 ∧ H' = [V.rep s']) := by
 unfold derive_Delete.f at h
 refine Ct.intro (n := 28) Tryz.func66 rfl rfl rfl ?_
 intro R w0 F hF hR
 refine S.seq <| S.region <| ag rfl <| SO.nil <| S.seq <| S.block <| S.seq <| S.region <| mv rfl ?_
 obtain ⟨t1, ht2, h⟩ := VM.opt_some V.toVI h
 refine SO.call (pre := []) rfl Tryz.call125 rfl rfl rfl (derive_there.ct _ _ ht2) trivial ?_
 rintro _ _ ⟨rfl, rfl⟩
 refine vv (opv_not rfl) <| ag rfl <| SO.nil ?_
 rcases bool_or (!t1) with b3 | b3
 ·replace h := VM.cond_t V.toVI b3 h
  refine S.condT rfl b3 <| S.seq <| S.region <| vv (opv_iface Tryz.underlying98 rfl rfl) <| ag rfl <| SO.nil <| tt [(4, errV 98 (some 2))] rfl ?_
  obtain ⟨hq, rfl⟩ := VM.ret_some V.toVI h
  cases hq
  exact S.b1 <| S.b1 <| S.ret1 Tryz.func66 rfl rfl (hR · _ _ ⟨rfl, rfl⟩)
 replace h := VM.cond_f V.toVI b3 h
 refine S.condF rfl b3 <| S.seq <| S.region <| mv rfl <| mv rfl ?_
 obtain ⟨t4, s6, ht5, h⟩ := VM.bind_some V.toVI h
 refine SO.call (pre := [V.rep _]) rfl Tryz.call126 rfl rfl rfl (cdt_Kids.ct V _ _ _ _ _ ht5) trivial ?_
 rintro v7 _ ⟨_, rfl, rfl⟩
 refine SO.rd fun hr8 => vv (opv_lenR rfl Tryz.underlying43 hr8 rfl) <| vv (opv_gtr rfl rfl) <| ag rfl <| SO.nil <| tt [(0, V.val), (1, .int .i64 a1), (4, errV 98 none), (11, .bool (decide (0 < (t4.length : Int))))] rfl ?_
 rcases bool_or (decide (0 < (t4.length : Int))) with b9 | b9
 ·replace h := VM.cond_t V.toVI b9 h
  refine S.condT rfl b9 <| S.seq <| S.region <| vv (opv_iface Tryz.underlying98 rfl rfl) <| ag rfl <| SO.nil ?_
  obtain ⟨hq, rfl⟩ := VM.ret_some V.toVI h
  cases hq
  exact S.drop <| S.b1 <| S.b1 <| S.ret1 Tryz.func66 rfl rfl (hR · _ _ ⟨rfl, rfl⟩)
 replace h := VM.cond_f V.toVI b9 h
 refine S.condF rfl b9 <| S.skip <| S.inBlock <| S.seq <| S.seq <| S.region <| mv rfl <| mv rfl ?_
 obtain ⟨t10, s12, ht11, h⟩ := VM.bind_some V.toVI h
 refine SO.b1 <| SO.call (pre := [V.rep _]) rfl Tryz.call127 rfl rfl rfl (cdt_Unlink.ct V _ _ _ _ ht11) trivial ?_
 rintro _ _ ⟨rfl, rfl⟩
 refine ag rfl <| SO.nil <| S.seq <| S.region <| mv rfl <| vv (opv_neqN (e := t10) Tryz.underlying74 rfl) <| SO.nil ?_
 rcases bool_or t10.isSome with b13 | b13
 ·replace h := VM.cond_t V.toVI b13 h
  refine S.condT rfl b13 <| S.seq <| S.region <| mv rfl <| ag rfl <| SO.nil <| tt [(4, errV 98 t10)] rfl ?_
  obtain ⟨hq, rfl⟩ := VM.ret_some V.toVI h
  cases hq
  exact S.b1 <| S.drop <| S.b1 <| S.b1 <| S.ret1 Tryz.func66 rfl rfl (hR · _ _ ⟨rfl, rfl⟩)
 replace h := VM.cond_f V.toVI b13 h
 refine S.condF rfl b13 <| S.skip <| S.seq <| S.region <| mv rfl <| mv rfl <| vv (opv_build (v := .agg #[.int .i64 0, .int .i64 0, .int .i64 0, .int .i64 0, .int .i64 0, .int .i64 0]) rfl (by intro w; kernel_rfl)) ?_
 obtain ⟨t14, s16, ht15, h⟩ := VM.bind_some V.toVI h
 have ct17 := cspace_Set.ct V _ _ _ _ _ _ ht15
 try dsimp only at ct17
 refine SO.call (pre := [V.rep _]) rfl Tryz.call128 rfl rfl rfl ct17 trivial ?_
 rintro _ _ ⟨rfl, rfl⟩
 refine ag rfl <| SO.nil <| tt [(4, errV 98 t14)] rfl ?_
 obtain ⟨hq, rfl⟩ := VM.ret_some V.toVI h
 cases hq
 exact S.b1 <| S.drop <| S.b1 <| S.b1 <| S.ret1 Tryz.func66 rfl rfl (hR · _ _ ⟨rfl, rfl⟩)
def rights_Mint.f (a0 : api_Cap) (a1 : Int) (a2 : Int) : Option ((api_Cap × (Option Int))) :=
  (rights_real.f a0).bind fun t3 => (bif !t3 then (some true) else ((rights_mask.f a1).bind fun t8 => some (!t8))).bind fun c6 => bif (c6 || (decide (a2 < 1))) || (decide (65535 < a2)) then (some ((⟨0, 0, 0, 0, 0, 0⟩ : api_Cap), (some 1))) else (bif (a0.Kind != 3) && (a0.Kind != 4) then (some ((⟨0, 0, 0, 0, 0, 0⟩ : api_Cap), (some 5))) else (bif a0.Badge != 0 then (some ((⟨0, 0, 0, 0, 0, 0⟩ : api_Cap), (some 10))) else (some (({ a0 with Rights := band .i64 a0.Rights a1, Badge := a2 } : api_Cap), none))))
set_option maxHeartbeats 8000000 in
set_option maxRecDepth 100000 in
theorem rights_Mint.ct (a0 : api_Cap) (a1 : Int) (a2 : Int) (r0 : api_Cap) (r1 : Option Int) (h : rights_Mint.f a0 a1 a2 = some (r0, r1)) :
    Ct Tryz.prog 133 [.agg #[.int .i64 a0.Kind, .int .i64 a0.Rights, .int .i64 a0.Obj, .int .i64 a0.Badge, .int .i64 a0.Guard, .int .i64 a0.Bits], .int .i64 a1, .int .i64 a2] (fun _ => True) [] (fun u H' => u = .tuple #[.agg #[.int .i64 r0.Kind, .int .i64 r0.Rights, .int .i64 r0.Obj, .int .i64 r0.Badge, .int .i64 r0.Guard, .int .i64 r0.Bits], errV 98 r1] ∧ H' = []) := by
 unfold rights_Mint.f at h
 refine Ct.intro (n := 52) Tryz.func133 rfl rfl rfl ?_
 intro R w0 F hF hR
 refine S.seq <| S.region <| SO.box rfl rfl rfl fun b1 => SO.alloc rfl Tryz.zeroValue45 rfl fun b2 => ag rfl <| SO.nil <| S.seq <| S.block <| S.seq <| S.region <| SO.b1 <| SO.loadN rfl Tryz.isAgg45 Tryz.sizeOf45 rfl rfl rfl ?_
 obtain ⟨t3, ht4, h⟩ := opt_bind h
 refine SO.call (pre := []) rfl Tryz.call180 rfl rfl rfl (rights_real.ct _ _ ht4) trivial ?_
 rintro _ _ ⟨rfl, rfl⟩
 refine vv (opv_not rfl) <| mv rfl ?_
 obtain ⟨c6, hc7, hgk⟩ := opt_bind h
 refine SO.cut 4 16 (.bool c6) [Box b1 [.int .i64 a0.Kind, .int .i64 a0.Rights, .int .i64 a0.Obj, .int .i64 a0.Badge, .int .i64 a0.Guard, .int .i64 a0.Bits], Box b2 [.int .i64 0, .int .i64 0, .int .i64 0, .int .i64 0, .int .i64 0, .int .i64 0], F] (fun l2 hk2 => ?_) ?_
 ·clear hgk
  replace h := hc7
  rcases bool_or (!t3) with b5 | b5
  ·replace h := cond_t b5 h
   refine pf rfl rfl rfl b5 <| pf rfl rfl rfl b5 <| pf rfl rfl rfl b5 ?_
   cases h
   exact vv (opv_pick_t' b5 rfl rfl) <| SO.b2 <| SO.b2 <| SO.b2 <| hk2.fitc (m := 4) rfl (rfl) rfl
  replace h := cond_f b5 h
  refine SO.takeT rfl rfl rfl b5 <| mv rfl <| SO.takeT rfl rfl rfl b5 ?_
  obtain ⟨t8, ht9, h⟩ := opt_bind h
  refine SO.call (pre := []) rfl Tryz.call181 rfl rfl rfl (rights_mask.ct _ _ ht9) trivial ?_
  rintro _ _ ⟨rfl, rfl⟩
  refine SO.takeT rfl rfl rfl b5 <| vv (opv_not rfl) ?_
  cases h
  exact vv (opv_pick_f' b5 rfl rfl) <| SO.b2 <| SO.b2 <| SO.b2 <| hk2.fitc (m := 4) rfl (rfl) rfl
 clear hc7
 replace h := hgk
 refine mv rfl ?_
 refine SO.cut 3 20 (.bool (c6 || (decide (a2 < 1)))) [Box b1 [.int .i64 a0.Kind, .int .i64 a0.Rights, .int .i64 a0.Obj, .int .i64 a0.Badge, .int .i64 a0.Guard, .int .i64 a0.Bits], Box b2 [.int .i64 0, .int .i64 0, .int .i64 0, .int .i64 0, .int .i64 0, .int .i64 0], F] (fun l2 hk2 => ?_) ?_
 ·rcases bool_or c6 with b10 | b10
  ·exact pf rfl rfl rfl b10 <| pf rfl rfl rfl b10 <| vv (opv_pick_t' b10 rfl rfl) <| SO.b2 <| SO.b2 <| SO.b2 <| hk2.fitc (m := 3) rfl (or_t b10) rfl
  exact SO.takeT rfl rfl rfl b10 <| mv rfl <| SO.takeT rfl rfl rfl b10 <| vv (opv_lss rfl rfl) <| vv (opv_pick_f' b10 rfl rfl) <| SO.b2 <| SO.b2 <| SO.b2 <| hk2.fitc (m := 3) rfl (or_f b10) rfl
 refine mv rfl ?_
 refine SO.cut 3 24 (.bool ((c6 || (decide (a2 < 1))) || (decide (65535 < a2)))) [Box b1 [.int .i64 a0.Kind, .int .i64 a0.Rights, .int .i64 a0.Obj, .int .i64 a0.Badge, .int .i64 a0.Guard, .int .i64 a0.Bits], Box b2 [.int .i64 0, .int .i64 0, .int .i64 0, .int .i64 0, .int .i64 0, .int .i64 0], F] (fun l2 hk2 => ?_) ?_
 ·rcases bool_or (c6 || (decide (a2 < 1))) with b11 | b11
  ·exact pf rfl rfl rfl b11 <| pf rfl rfl rfl b11 <| vv (opv_pick_t' b11 rfl rfl) <| SO.b2 <| SO.b2 <| SO.b2 <| hk2.fitc (m := 3) rfl (or_t b11) rfl
  exact SO.takeT rfl rfl rfl b11 <| mv rfl <| SO.takeT rfl rfl rfl b11 <| vv (opv_gtr rfl rfl) <| vv (opv_pick_f' b11 rfl rfl) <| SO.b2 <| SO.b2 <| SO.b2 <| hk2.fitc (m := 3) rfl (or_f b11) rfl
 refine ag rfl <| SO.nil <| tt [(1, .int .i64 a1), (2, .int .i64 a2), (3, bp b1 0), (6, bp b2 0), (7, errV 98 none), (8, .bool ((c6 || (decide (a2 < 1))) || (decide (65535 < a2))))] rfl ?_
 rcases bool_or ((c6 || (decide (a2 < 1))) || (decide (65535 < a2))) with b12 | b12
 ·replace h := cond_t b12 h
  refine S.condT rfl b12 <| S.seq <| S.region <| vv (opv_build (v := .agg #[.int .i64 0, .int .i64 0, .int .i64 0, .int .i64 0, .int .i64 0, .int .i64 0]) rfl (by intro w; kernel_rfl)) <| vv (opv_iface Tryz.underlying98 rfl rfl) <| SO.b1 <| SO.storeN Tryz.sizeOf45 rfl rfl rfl rfl rfl rfl <| ag rfl <| SO.nil ?_
  cases h
  exact S.b1 <| S.drop <| S.b1 <| S.b1 <| S.retC1 Tryz.func133 rfl rfl rfl Tryz.isAgg45 Tryz.sizeOf45 rfl rfl (fun w hs hk => hR w _ _ ⟨rfl, rfl⟩ hs.drop hk)
 replace h := cond_f b12 h
 refine S.condF rfl b12 <| S.seq <| S.region <| fa Tryz.underlying45 rfl Tryz.sizeOf3 rfl rfl <| ld Tryz.isAgg3 rfl rfl <| vv (opv_neq rfl rfl) <| mv rfl ?_
 refine SO.cut 4 35 (.bool ((a0.Kind != 3) && (a0.Kind != 4))) [Box b1 [.int .i64 a0.Kind, .int .i64 a0.Rights, .int .i64 a0.Obj, .int .i64 a0.Badge, .int .i64 a0.Guard, .int .i64 a0.Bits], Box b2 [.int .i64 0, .int .i64 0, .int .i64 0, .int .i64 0, .int .i64 0, .int .i64 0], F] (fun l2 hk2 => ?_) ?_
 ·rcases bool_or (a0.Kind != 3) with b13 | b13
  ·exact SO.takeT rfl rfl rfl b13 <| fa Tryz.underlying45 rfl Tryz.sizeOf3 rfl rfl <| SO.takeT rfl rfl rfl b13 <| ld Tryz.isAgg3 rfl rfl <| SO.takeT rfl rfl rfl b13 <| vv (opv_neq rfl rfl) <| vv (opv_pick_t' b13 rfl rfl) <| SO.b2 <| SO.b2 <| SO.b2 <| hk2.fitc (m := 4) rfl (and_t b13) rfl
  exact pf rfl rfl rfl b13 <| pf rfl rfl rfl b13 <| pf rfl rfl rfl b13 <| vv (opv_pick_f' b13 rfl rfl) <| SO.b2 <| SO.b2 <| SO.b2 <| hk2.fitc (m := 4) rfl (and_f b13) rfl
 refine ag rfl <| SO.nil ?_
 rcases bool_or ((a0.Kind != 3) && (a0.Kind != 4)) with b14 | b14
 ·replace h := cond_t b14 h
  refine S.condT rfl b14 <| S.seq <| S.region <| vv (opv_build (v := .agg #[.int .i64 0, .int .i64 0, .int .i64 0, .int .i64 0, .int .i64 0, .int .i64 0]) rfl (by intro w; kernel_rfl)) <| vv (opv_iface Tryz.underlying98 rfl rfl) <| SO.b1 <| SO.storeN Tryz.sizeOf45 rfl rfl rfl rfl rfl rfl <| ag rfl <| SO.nil <| tt [(6, bp b2 0), (7, errV 98 (some 5))] rfl ?_
  cases h
  exact S.b1 <| S.drop <| S.b1 <| S.b1 <| S.retC1 Tryz.func133 rfl rfl rfl Tryz.isAgg45 Tryz.sizeOf45 rfl rfl (fun w hs hk => hR w _ _ ⟨rfl, rfl⟩ hs.drop hk)
 replace h := cond_f b14 h
 refine S.condF rfl b14 <| S.seq <| S.region <| fa Tryz.underlying45 rfl Tryz.sizeOf3 rfl rfl <| ld Tryz.isAgg3 rfl rfl <| vv (opv_neq rfl rfl) <| ag rfl <| SO.nil <| tt [(1, .int .i64 a1), (2, .int .i64 a2), (3, bp b1 0), (6, bp b2 0), (7, errV 98 none), (38, .bool (a0.Badge != 0))] rfl ?_
 rcases bool_or (a0.Badge != 0) with b15 | b15
 ·replace h := cond_t b15 h
  refine S.condT rfl b15 <| S.seq <| S.region <| vv (opv_build (v := .agg #[.int .i64 0, .int .i64 0, .int .i64 0, .int .i64 0, .int .i64 0, .int .i64 0]) rfl (by intro w; kernel_rfl)) <| vv (opv_iface Tryz.underlying98 rfl rfl) <| SO.b1 <| SO.storeN Tryz.sizeOf45 rfl rfl rfl rfl rfl rfl <| ag rfl <| SO.nil ?_
  cases h
  exact S.b1 <| S.drop <| S.b1 <| S.b1 <| S.retC1 Tryz.func133 rfl rfl rfl Tryz.isAgg45 Tryz.sizeOf45 rfl rfl (fun w hs hk => hR w _ _ ⟨rfl, rfl⟩ hs.drop hk)
 replace h := cond_f b15 h
 refine S.condF rfl b15 <| S.skip <| S.inBlock <| S.seq <| S.region <| fa Tryz.underlying45 rfl Tryz.sizeOf3 rfl rfl <| ld Tryz.isAgg3 rfl rfl <| mv rfl <| vv (opv_and rfl rfl) <| fa Tryz.underlying45 rfl Tryz.sizeOf3 rfl rfl <| SO.store1 Tryz.sizeOf3 rfl rfl rfl rfl <| SO.nil <| tt [(2, .int .i64 a2), (3, bp b1 0), (6, bp b2 0), (7, errV 98 none)] rfl <| S.seq <| S.region <| mv rfl <| fa Tryz.underlying45 rfl Tryz.sizeOf3 rfl rfl <| SO.store1 Tryz.sizeOf3 rfl rfl rfl rfl <| SO.nil <| S.seq <| S.region <| SO.loadN rfl Tryz.isAgg45 Tryz.sizeOf45 rfl rfl rfl <| SO.b1 <| SO.storeN Tryz.sizeOf45 rfl rfl rfl rfl rfl rfl ?_
 refine ag rfl <| SO.nil ?_
 cases h
 exact S.b1 <| S.drop <| S.b1 <| S.b1 <| S.retC1 Tryz.func133 rfl rfl rfl Tryz.isAgg45 Tryz.sizeOf45 rfl rfl (fun w hs hk => hR w _ _ ⟨rfl, rfl⟩ hs.drop hk)
def derive_Mint.f (k : Nat) (a1 : Int) (a2 : Int) (a3 : Int) (a4 : Int) : VM ((Option Int)) :=
  (derive_ends.f k a1 a2).bind fun (t1, t2) => bif t2.isSome then (VM.ret t2) else ((VM.opt (rights_Mint.f t1 a3 a4)).bind fun (t7, t8) => bif t8.isSome then (VM.ret t8) else ((derive_below.f k a1 a2 t7).bind fun t11 => VM.ret t11))
set_option maxHeartbeats 8000000 in
set_option maxRecDepth 100000 in
theorem derive_Mint.ct (V : VW Tryz.prog) (k : Nat) (a1 : Int) (a2 : Int) (a3 : Int) (a4 : Int) (r0 : Option Int) (s s' : V.S) (h : VM.run V.toVI (derive_Mint.f k a1 a2 a3 a4) s = some (r0, s')) :
    Ct Tryz.prog 69 [V.val, .int .i64 a1, .int .i64 a2, .int .i64 a3, .int .i64 a4] (fun _ => True) [V.rep s] (fun u H' => u = errV 98 r0 ∧ H' = [V.rep s']) := by
 unfold derive_Mint.f at h
 refine Ct.intro (n := 38) Tryz.func69 rfl rfl rfl ?_
 intro R w0 F hF hR
 refine S.seq <| S.region <| ag rfl <| SO.nil <| S.seq <| S.region <| mv rfl <| mv rfl <| mv rfl ?_
 obtain ⟨⟨t1, t2⟩, s4, ht3, h⟩ := VM.bind_some V.toVI h
 refine SO.call (pre := [V.rep _]) rfl Tryz.call130 rfl rfl rfl (derive_ends.ct V _ _ _ _ _ _ _ ht3) trivial ?_
 rintro _ _ ⟨rfl, rfl⟩
 refine mv rfl <| vv (opv_extract rfl rfl) <| vv (opv_extract rfl rfl) <| SO.alloc rfl Tryz.zeroValue45 rfl fun b5 => SO.storeN Tryz.sizeOf45 rfl rfl rfl rfl rfl rfl <| ag rfl <| SO.nil <| tt [(0, V.val), (1, .int .i64 a1), (2, .int .i64 a2), (3, .int .i64 a3), (4, .int .i64 a4), (10, errV 98 none), (11, bp b5 0), (12, errV 98 t2)] rfl <| S.seq <| S.seq <| S.region <| mv rfl <| vv (opv_neqN (e := t2) Tryz.underlying74 rfl) <| SO.nil ?_
 rcases bool_or t2.isSome with b6 | b6
 ·replace h := VM.cond_t V.toVI b6 h
  refine S.condT rfl b6 <| S.seq <| S.region <| mv rfl <| ag rfl <| SO.nil <| tt [(10, errV 98 t2)] rfl ?_
  obtain ⟨hq, rfl⟩ := VM.ret_some V.toVI h
  cases hq
  exact S.drop <| S.b1 <| S.b1 <| S.ret1 Tryz.func69 rfl rfl (hR · _ _ ⟨rfl, rfl⟩)
 replace h := VM.cond_f V.toVI b6 h
 refine S.condF rfl b6 <| S.skip <| S.seq <| S.seq <| S.region <| SO.loadN rfl Tryz.isAgg45 Tryz.sizeOf45 rfl rfl rfl <| mv rfl <| mv rfl ?_
 obtain ⟨⟨t7, t8⟩, ht9, h⟩ := VM.opt_some V.toVI h
 refine SO.call (pre := []) rfl Tryz.call133 rfl rfl rfl (rights_Mint.ct _ _ _ _ _ ht9) trivial ?_
 rintro _ _ ⟨rfl, rfl⟩
 refine mv rfl <| vv (opv_extract rfl rfl) <| vv (opv_extract rfl rfl) <| SO.storeN Tryz.sizeOf45 rfl rfl rfl rfl rfl rfl <| ag rfl <| SO.nil <| tt [(0, V.val), (1, .int .i64 a1), (2, .int .i64 a2), (10, errV 98 none), (11, bp b5 0), (12, errV 98 t8)] rfl <| S.seq <| S.region <| mv rfl <| vv (opv_neqN (e := t8) Tryz.underlying74 rfl) <| SO.nil ?_
 rcases bool_or t8.isSome with b10 | b10
 ·replace h := VM.cond_t V.toVI b10 h
  refine S.condT rfl b10 <| S.seq <| S.region <| mv rfl <| ag rfl <| SO.nil <| tt [(10, errV 98 t8)] rfl ?_
  obtain ⟨hq, rfl⟩ := VM.ret_some V.toVI h
  cases hq
  exact S.drop <| S.b1 <| S.b1 <| S.ret1 Tryz.func69 rfl rfl (hR · _ _ ⟨rfl, rfl⟩)
 replace h := VM.cond_f V.toVI b10 h
 refine S.condF rfl b10 <| S.skip <| S.seq <| S.region <| mv rfl <| mv rfl <| mv rfl <| SO.loadN rfl Tryz.isAgg45 Tryz.sizeOf45 rfl rfl rfl ?_
 obtain ⟨t11, s13, ht12, h⟩ := VM.bind_some V.toVI h
 refine SO.b1 <| SO.call (pre := [V.rep _]) rfl Tryz.call132 rfl rfl rfl (derive_below.ct V _ _ _ _ _ _ _ ht12) trivial ?_
 rintro _ _ ⟨rfl, rfl⟩
 refine ag rfl <| SO.nil <| tt [(10, errV 98 t11)] rfl ?_
 obtain ⟨hq, rfl⟩ := VM.ret_some V.toVI h
 cases hq
 exact S.b1 <| S.drop <| S.b1 <| S.b1 <| S.ret1 Tryz.func69 rfl rfl (hR · _ _ ⟨rfl, rfl⟩)
def cdt_Replace.l2 (a2 : Int) (t48 : List Int) : Nat → Int → VM (Unit)
  | 0, _ => VM.fail
  | k + 1, x70_2 => bif decide (x70_2 < (t48.length : Int)) then ((VM.opt (at_ t48 x70_2)).bind fun x54 => (cdt_put.f x54 1 a2).bind fun _ => cdt_Replace.l2 a2 t48 k (w64 (x70_2 + 1))) else (VM.ret ())
def cdt_Replace.f (k : Nat) (a1 : Int) (a2 : Int) : VM ((Option Int)) :=
  (VM.opt (cdt_there.f a1)).bind fun t1 => (bif !t1 then (VM.ret true) else ((VM.opt (cdt_there.f a2)).bind fun t6 => VM.ret (!t6))).bind fun c4 => bif c4 then (VM.ret (some 2)) else ((bif a1 == a2 then (VM.ret true) else ((cdt_Parent.f a2).bind fun t13 => VM.ret (t13 != (-1)))).bind fun c11 => (bif c11 then (VM.ret true) else ((cdt_get.f a2 2).bind fun t20 => VM.ret (t20 != (-1)))).bind fun c18 => bif c18 then (VM.ret (some 10)) else ((cdt_Parent.f a1).bind fun t25 => (bif t25 != (-1) then ((cdt_Parent.f a1).bind fun t29 => (cdt_put.f a2 1 t29).bind fun _ => (cdt_get.f a1 3).bind fun t34 => (cdt_put.f a2 3 t34).bind fun _ => (cdt_get.f a1 4).bind fun t39 => (cdt_put.f a2 4 t39).bind fun _ => (cdt_beside.f a1 a2 a2).bind fun _ => (cdt_clear.f a1).bind fun _ => VM.ret ()) else (VM.ret ())).bind fun _ => (cdt_Kids.f k a1).bind fun t48 => (cdt_Replace.l2 a2 t48 k 0).bind fun _ => (cdt_get.f a1 2).bind fun t58 => (cdt_put.f a2 2 t58).bind fun _ => (cdt_put.f a1 2 (-1)).bind fun _ => VM.ret none))
set_option maxHeartbeats 8000000 in
set_option maxRecDepth 100000 in
theorem cdt_Replace.ct (V : VW Tryz.prog) (k : Nat) (a1 : Int) (a2 : Int) (r0 : Option Int) (s s' : V.S) (h : VM.run V.toVI (cdt_Replace.f k a1 a2) s = some (r0, s')) :
    Ct Tryz.prog 182 [V.val, .int .i64 a1, .int .i64 a2] (fun _ => True) [V.rep s] (fun u H' => u = errV 98 r0 ∧ H' = [V.rep s']) := by
 unfold cdt_Replace.f at h
 refine Ct.intro (n := 88) Tryz.func182 rfl rfl rfl ?_
 intro R w0 F hF hR
 refine S.seq <| S.region <| ag rfl <| SO.nil <| S.seq <| S.block <| S.seq <| S.region <| mv rfl ?_
 obtain ⟨t1, ht2, h⟩ := VM.opt_some V.toVI h
 refine SO.call (pre := []) rfl Tryz.call176 rfl rfl rfl (cdt_there.ct _ _ ht2) trivial ?_
 rintro _ _ ⟨rfl, rfl⟩
 refine vv (opv_not rfl) <| mv rfl ?_
 obtain ⟨c4, s8, hc5, hgk⟩ := VM.bind_some V.toVI h
 refine SO.cut 4 17 (.bool c4) [V.rep s8, F] (fun l2 hk2 => ?_) ?_
 ·clear hgk
  replace h := hc5
  rcases bool_or (!t1) with b3 | b3
  ·replace h := VM.cond_t V.toVI b3 h
   refine pf rfl rfl rfl b3 <| pf rfl rfl rfl b3 <| pf rfl rfl rfl b3 ?_
   obtain ⟨hq, rfl⟩ := VM.ret_some V.toVI h
   cases hq
   exact vv (opv_pick_t' b3 rfl rfl) <| SO.b1 <| SO.b1 <| hk2.fitc (m := 4) rfl (rfl) rfl
  replace h := VM.cond_f V.toVI b3 h
  refine SO.takeT rfl rfl rfl b3 <| mv rfl <| SO.takeT rfl rfl rfl b3 ?_
  obtain ⟨t6, ht7, h⟩ := VM.opt_some V.toVI h
  refine SO.call (pre := []) rfl Tryz.call176 rfl rfl rfl (cdt_there.ct _ _ ht7) trivial ?_
  rintro _ _ ⟨rfl, rfl⟩
  refine SO.takeT rfl rfl rfl b3 <| vv (opv_not rfl) ?_
  obtain ⟨hq, rfl⟩ := VM.ret_some V.toVI h
  cases hq
  exact vv (opv_pick_f' b3 rfl rfl) <| SO.b1 <| SO.b1 <| hk2.fitc (m := 4) rfl (rfl) rfl
 clear hc5
 replace h := hgk
 refine ag rfl <| SO.nil ?_
 rcases bool_or c4 with b9 | b9
 ·replace h := VM.cond_t V.toVI b9 h
  refine S.condT rfl b9 <| S.seq <| S.region <| vv (opv_iface Tryz.underlying98 rfl rfl) <| ag rfl <| SO.nil <| tt [(6, errV 98 (some 2))] rfl ?_
  obtain ⟨hq, rfl⟩ := VM.ret_some V.toVI h
  cases hq
  exact S.b1 <| S.b1 <| S.ret1 Tryz.func182 rfl rfl (hR · _ _ ⟨rfl, rfl⟩)
 replace h := VM.cond_f V.toVI b9 h
 refine S.condF rfl b9 <| S.seq <| S.region <| mv rfl <| mv rfl <| vv (opv_eql rfl rfl) <| mv rfl ?_
 obtain ⟨c11, s16, hc12, hgk⟩ := VM.bind_some V.toVI h
 refine SO.cut 5 28 (.bool c11) [V.rep s16, F] (fun l2 hk2 => ?_) ?_
 ·clear hgk
  replace h := hc12
  rcases bool_or (a1 == a2) with b10 | b10
  ·replace h := VM.cond_t V.toVI b10 h
   refine pf rfl rfl rfl b10 <| pf rfl rfl rfl b10 <| pf rfl rfl rfl b10 <| pf rfl rfl rfl b10 ?_
   obtain ⟨hq, rfl⟩ := VM.ret_some V.toVI h
   cases hq
   exact vv (opv_pick_t' b10 rfl rfl) <| SO.b1 <| SO.b1 <| hk2.fitc (m := 5) rfl (rfl) rfl
  replace h := VM.cond_f V.toVI b10 h
  refine SO.takeT rfl rfl rfl b10 <| mv rfl <| SO.takeT rfl rfl rfl b10 <| mv rfl <| SO.takeT rfl rfl rfl b10 ?_
  obtain ⟨t13, s15, ht14, h⟩ := VM.bind_some V.toVI h
  refine SO.call (pre := [V.rep _]) rfl Tryz.call177 rfl rfl rfl (cdt_Parent.ct V _ _ _ _ ht14) trivial ?_
  rintro _ _ ⟨rfl, rfl⟩
  refine SO.takeT rfl rfl rfl b10 <| vv (opv_neq rfl rfl) ?_
  obtain ⟨hq, rfl⟩ := VM.ret_some V.toVI h
  cases hq
  exact vv (opv_pick_f' b10 rfl rfl) <| SO.b1 <| SO.b1 <| hk2.fitc (m := 5) rfl (rfl) rfl
 clear hc12
 replace h := hgk
 refine mv rfl ?_
 obtain ⟨c18, s23, hc19, hgk⟩ := VM.bind_some V.toVI h
 refine SO.cut 5 34 (.bool c18) [V.rep s23, F] (fun l2 hk2 => ?_) ?_
 ·clear hgk
  replace h := hc19
  rcases bool_or c11 with b17 | b17
  ·replace h := VM.cond_t V.toVI b17 h
   refine pf rfl rfl rfl b17 <| pf rfl rfl rfl b17 <| pf rfl rfl rfl b17 <| pf rfl rfl rfl b17 ?_
   obtain ⟨hq, rfl⟩ := VM.ret_some V.toVI h
   cases hq
   exact vv (opv_pick_t' b17 rfl rfl) <| SO.b1 <| SO.b1 <| hk2.fitc (m := 5) rfl (rfl) rfl
  replace h := VM.cond_f V.toVI b17 h
  refine SO.takeT rfl rfl rfl b17 <| mv rfl <| SO.takeT rfl rfl rfl b17 <| mv rfl <| SO.takeT rfl rfl rfl b17 ?_
  obtain ⟨t20, s22, ht21, h⟩ := VM.bind_some V.toVI h
  refine SO.call (pre := [V.rep _]) rfl Tryz.call175 rfl rfl rfl (cdt_get.ct V _ _ _ _ _ ht21) trivial ?_
  rintro _ _ ⟨rfl, rfl⟩
  refine SO.takeT rfl rfl rfl b17 <| vv (opv_neq rfl rfl) ?_
  obtain ⟨hq, rfl⟩ := VM.ret_some V.toVI h
  cases hq
  exact vv (opv_pick_f' b17 rfl rfl) <| SO.b1 <| SO.b1 <| hk2.fitc (m := 5) rfl (rfl) rfl
 clear hc19
 replace h := hgk
 refine ag rfl <| SO.nil <| tt [(0, V.val), (1, .int .i64 a1), (2, .int .i64 a2), (6, errV 98 none), (19, .bool c18)] rfl ?_
 rcases bool_or c18 with b24 | b24
 ·replace h := VM.cond_t V.toVI b24 h
  refine S.condT rfl b24 <| S.seq <| S.region <| vv (opv_iface Tryz.underlying98 rfl rfl) <| ag rfl <| SO.nil ?_
  obtain ⟨hq, rfl⟩ := VM.ret_some V.toVI h
  cases hq
  exact S.b1 <| S.b1 <| S.ret1 Tryz.func182 rfl rfl (hR · _ _ ⟨rfl, rfl⟩)
 replace h := VM.cond_f V.toVI b24 h
 refine S.condF rfl b24 <| S.skip <| S.inBlock <| S.seq <| S.seq <| S.region <| mv rfl <| mv rfl ?_
 obtain ⟨t25, s27, ht26, h⟩ := VM.bind_some V.toVI h
 refine SO.call (pre := [V.rep _]) rfl Tryz.call177 rfl rfl rfl (cdt_Parent.ct V _ _ _ _ ht26) trivial ?_
 rintro _ _ ⟨rfl, rfl⟩
 refine vv (opv_neq rfl rfl) <| SO.nil ?_
 obtain ⟨_, s_1, hC1, hJ1⟩ := VM.bind_some V.toVI h
 clear h
 refine S.cutP (G := Unit) (fun _ => True) (fun _ => [(0, V.val), (1, .int .i64 a1), (2, .int .i64 a2), (6, errV 98 none)]) (fun _ => [V.rep s_1, F]) (fun hk1 => ?_) ?_
 ·replace h := hC1
  rcases bool_or (t25 != (-1)) with b28 | b28
  ·replace h := VM.cond_t V.toVI b28 h
   refine S.condT rfl b28 <| S.seq <| S.region <| mv rfl <| mv rfl <| mv rfl <| mv rfl ?_
   obtain ⟨t29, s31, ht30, h⟩ := VM.bind_some V.toVI h
   refine SO.call (pre := [V.rep _]) rfl Tryz.call177 rfl rfl rfl (cdt_Parent.ct V _ _ _ _ ht30) trivial ?_
   rintro _ _ ⟨rfl, rfl⟩
   obtain ⟨_, s33, ht32, h⟩ := VM.bind_some V.toVI h
   refine SO.call (pre := [V.rep _]) rfl Tryz.call186 rfl rfl rfl (cdt_put.ct V _ _ _ _ _ ht32) trivial ?_
   rintro _ _ ⟨rfl, rfl⟩
   refine SO.nil <| tt [(0, V.val), (1, .int .i64 a1), (2, .int .i64 a2), (6, errV 98 none)] rfl <| S.seq <| S.region <| mv rfl <| mv rfl <| mv rfl <| mv rfl ?_
   obtain ⟨t34, s36, ht35, h⟩ := VM.bind_some V.toVI h
   refine SO.call (pre := [V.rep _]) rfl Tryz.call175 rfl rfl rfl (cdt_get.ct V _ _ _ _ _ ht35) trivial ?_
   rintro _ _ ⟨rfl, rfl⟩
   obtain ⟨_, s38, ht37, h⟩ := VM.bind_some V.toVI h
   refine SO.call (pre := [V.rep _]) rfl Tryz.call186 rfl rfl rfl (cdt_put.ct V _ _ _ _ _ ht37) trivial ?_
   rintro _ _ ⟨rfl, rfl⟩
   refine SO.nil <| S.seq <| S.region <| mv rfl <| mv rfl <| mv rfl <| mv rfl ?_
   obtain ⟨t39, s41, ht40, h⟩ := VM.bind_some V.toVI h
   refine SO.call (pre := [V.rep _]) rfl Tryz.call175 rfl rfl rfl (cdt_get.ct V _ _ _ _ _ ht40) trivial ?_
   rintro _ _ ⟨rfl, rfl⟩
   obtain ⟨_, s43, ht42, h⟩ := VM.bind_some V.toVI h
   refine SO.call (pre := [V.rep _]) rfl Tryz.call186 rfl rfl rfl (cdt_put.ct V _ _ _ _ _ ht42) trivial ?_
   rintro _ _ ⟨rfl, rfl⟩
   refine SO.nil <| tt [(0, V.val), (1, .int .i64 a1), (2, .int .i64 a2), (6, errV 98 none)] rfl <| S.seq <| S.region <| mv rfl <| mv rfl <| mv rfl <| mv rfl ?_
   obtain ⟨_, s45, ht44, h⟩ := VM.bind_some V.toVI h
   refine SO.call (pre := [V.rep _]) rfl Tryz.call178 rfl rfl rfl (cdt_beside.ct V _ _ _ _ _ ht44) trivial ?_
   rintro _ _ ⟨rfl, rfl⟩
   refine SO.nil <| S.region <| mv rfl <| mv rfl ?_
   obtain ⟨_, s47, ht46, h⟩ := VM.bind_some V.toVI h
   refine SO.call (pre := [V.rep _]) rfl Tryz.call179 rfl rfl rfl (cdt_clear.ct V _ _ _ ht46) trivial ?_
   rintro _ _ ⟨rfl, rfl⟩
   refine SO.nil <| tt [(0, V.val), (1, .int .i64 a1), (2, .int .i64 a2), (6, errV 98 none)] rfl ?_
   obtain ⟨hq, rfl⟩ := VM.ret_some V.toVI h
   cases hq
   refine S.b1 <| S.b1 ?_
   refine S.to ?_ (hk1 () trivial)
   exact ⟨rfl, rfl, rfl, rfl, trivial⟩
  replace h := VM.cond_f V.toVI b28 h
  refine S.condF rfl b28 <| S.skip ?_
  obtain ⟨hq, rfl⟩ := VM.ret_some V.toVI h
  cases hq
  refine S.b1 <| S.b1 ?_
  refine S.to ?_ (hk1 () trivial)
  exact ⟨rfl, rfl, rfl, rfl, trivial⟩
 rintro _ -
 replace h := hJ1
 refine S.seq <| S.seq <| S.region <| mv rfl <| mv rfl ?_
 obtain ⟨t48, s50, ht49, h⟩ := VM.bind_some V.toVI h
 refine SO.call (pre := [V.rep _]) rfl Tryz.call126 rfl rfl rfl (cdt_Kids.ct V _ _ _ _ _ ht49) trivial ?_
 rintro v51 _ ⟨_, rfl, rfl⟩
 refine SO.rd fun hr52 => vv (opv_lenR rfl Tryz.underlying43 hr52 rfl) <| mv rfl <| SO.nil ?_
 obtain ⟨_, so_2, hlp2, h⟩ := VM.bind_some V.toVI h
 refine S.b2 <| S.b2 <| S.b2 <| tt [(70, .int .i64 0), (69, .int .i64 (t48.length : Int)), (68, v51), (0, V.val), (1, .int .i64 a1), (2, .int .i64 a2), (6, errV 98 none)] rfl ?_
 refine S.forloop (X := (Int × V.S) × Unit) (O := (Unit) × V.S) (fun m x => VM.run V.toVI (cdt_Replace.l2 a2 t48 m x.1.1) x.1.2) (fun x => match x with | ((x70_2, sx_2), _) => [(70, .int .i64 x70_2), (69, .int .i64 (t48.length : Int)), (68, v51), (0, V.val), (1, .int .i64 a1), (2, .int .i64 a2), (6, errV 98 none)]) (fun x => match x with | ((x70_2, sx_2), _) => [Own 3 (ekI .i64) v51 t48, V.rep sx_2, F]) (fun Sk oo => match oo with | (_, so_2) => ∀ _ : Unit, Sk [(0, V.val), (1, .int .i64 a1), (2, .int .i64 a2), (6, errV 98 none)] [Own 3 (ekI .i64) v51 t48, V.rep so_2, F]) (fun _ => rfl) ?_ (m := k) (x := ((0, s50), ())) hlp2 ?_
 ·clear h hlp2
  intro k x o_2 h hK2 ih2
  obtain ⟨⟨x70_2, sx_2⟩, _⟩ := x
  obtain ⟨o_2, so_2_⟩ := o_2
  replace h : VM.run V.toVI (cdt_Replace.l2 a2 t48 (k + 1) x70_2) sx_2 = some (o_2, so_2_) := h
  first | rw [cdt_Replace.l2] at h | unfold cdt_Replace.l2 at h
  refine S.seq <| S.region <| vv (opv_lss rfl rfl) <| SO.nil <| S.seq ?_
  rcases bool_or (decide (x70_2 < (t48.length : Int))) with b53 | b53
  ·replace h := VM.cond_t V.toVI b53 h
   refine S.condT rfl b53 <| S.skip <| S.seq <| S.block <| S.seq <| S.region ?_
   obtain ⟨x54, hx55, h⟩ := VM.opt_some V.toVI h
   refine vv (opv_idx Tryz.underlying43 Tryz.sizeOf3 hr52 rfl rfl hx55) <| SO.loadI1 (j := 0) rfl Tryz.isAgg3 (Rd.head hr52) hx55 rfl rfl rfl rfl <| ag rfl <| SO.nil <| S.region <| mv rfl <| mv rfl <| mv rfl ?_
   obtain ⟨_, s57, ht56, h⟩ := VM.bind_some V.toVI h
   refine SO.b1 <| SO.call (pre := [V.rep _]) rfl Tryz.call186 rfl rfl rfl (cdt_put.ct V _ _ _ _ _ ht56) trivial ?_
   rintro _ _ ⟨rfl, rfl⟩
   refine SO.nil <| tt [(70, .int .i64 x70_2), (69, .int .i64 (t48.length : Int)), (68, v51), (0, V.val), (1, .int .i64 a1), (2, .int .i64 a2), (6, errV 98 none)] rfl <| S.inBlock <| S.region <| vv (opv_add rfl rfl) <| mv rfl <| SO.nil <| S.b2 <| S.b1 <| S.b2 ?_
   refine S.to ?_ (ih2 ((w64 (x70_2 + 1), s57), ()) h)
   exact ⟨rfl, rfl, rfl, rfl, rfl, rfl, rfl, trivial⟩
  replace h := VM.cond_f V.toVI b53 h
  refine S.condF rfl b53 <| S.exit rfl ?_
  obtain ⟨hq, rfl⟩ := VM.ret_some V.toVI h
  cases hq
  refine S.b2 <| S.b2 <| S.b2 ?_
  refine S.to ?_ (hK2 ())
  exact ⟨rfl, rfl, rfl, rfl, trivial⟩
 rintro _
 refine S.seq <| S.region <| mv rfl <| mv rfl <| mv rfl <| mv rfl ?_
 obtain ⟨t58, s60, ht59, h⟩ := VM.bind_some V.toVI h
 refine SO.b1 <| SO.call (pre := [V.rep _]) rfl Tryz.call175 rfl rfl rfl (cdt_get.ct V _ _ _ _ _ ht59) trivial ?_
 rintro _ _ ⟨rfl, rfl⟩
 obtain ⟨_, s62, ht61, h⟩ := VM.bind_some V.toVI h
 refine SO.call (pre := [V.rep _]) rfl Tryz.call186 rfl rfl rfl (cdt_put.ct V _ _ _ _ _ ht61) trivial ?_
 rintro _ _ ⟨rfl, rfl⟩
 refine SO.nil <| tt [(0, V.val), (1, .int .i64 a1), (6, errV 98 none)] rfl <| S.seq <| S.region <| mv rfl <| mv rfl ?_
 obtain ⟨_, s64, ht63, h⟩ := VM.bind_some V.toVI h
 refine SO.call (pre := [V.rep _]) rfl Tryz.call186 rfl rfl rfl (cdt_put.ct V _ _ _ _ _ ht63) trivial ?_
 rintro _ _ ⟨rfl, rfl⟩
 refine SO.nil <| S.seq <| S.region <| ag rfl <| SO.nil ?_
 obtain ⟨hq, rfl⟩ := VM.ret_some V.toVI h
 cases hq
 exact S.b1 <| S.drop <| S.b1 <| S.b1 <| S.ret1 Tryz.func182 rfl rfl (hR · _ _ ⟨rfl, rfl⟩)
def derive_turn.f (k : Nat) (a1 : Int) (a2 : Int) (a3 : api_Cap) : VM ((Option Int)) :=
  (cdt_Replace.f k a1 a2).bind fun t2 => bif t2.isSome then (VM.ret t2) else ((cspace_Set.f k a2 a3).bind fun t6 => bif t6.isSome then (VM.ret t6) else ((cspace_Set.f k a1 (⟨0, 0, 0, 0, 0, 0⟩ : api_Cap)).bind fun t10 => VM.ret t10))
set_option maxHeartbeats 8000000 in
set_option maxRecDepth 100000 in
theorem derive_turn.ct (V : VW Tryz.prog) (k : Nat) (a1 : Int) (a2 : Int) (a3 : api_Cap) (r0 : Option Int) (s s' : V.S) (h : VM.run V.toVI (derive_turn.f k a1 a2 a3) s = some (r0, s')) :
    Ct Tryz.prog 134 [V.val, .int .i64 a1, .int .i64 a2, .agg #[.int .i64 a3.Kind, .int .i64 a3.Rights, .int .i64 a3.Obj, .int .i64 a3.Badge, .int .i64 a3.Guard, .int .i64 a3.Bits]] (fun _ => True) [V.rep s] (fun u H' => u = errV 98 r0 ∧ H' = [V.rep s']) := by
 unfold derive_turn.f at h
 refine Ct.intro (n := 29) Tryz.func134 rfl rfl rfl ?_
 intro R w0 F hF hR
 refine S.seq <| S.region <| SO.box rfl rfl rfl fun b1 => ag rfl <| SO.nil <| S.seq <| S.seq <| S.region <| mv rfl <| mv rfl <| mv rfl ?_
 obtain ⟨t2, s4, ht3, h⟩ := VM.bind_some V.toVI h
 refine SO.b1 <| SO.call (pre := [V.rep _]) rfl Tryz.call182 rfl rfl rfl (cdt_Replace.ct V _ _ _ _ _ _ ht3) trivial ?_
 rintro _ _ ⟨rfl, rfl⟩
 refine ag rfl <| SO.nil <| S.seq <| S.region <| mv rfl <| vv (opv_neqN (e := t2) Tryz.underlying74 rfl) <| SO.nil ?_
 rcases bool_or t2.isSome with b5 | b5
 ·replace h := VM.cond_t V.toVI b5 h
  refine S.condT rfl b5 <| S.seq <| S.region <| mv rfl <| ag rfl <| SO.nil <| tt [(8, errV 98 t2)] rfl ?_
  obtain ⟨hq, rfl⟩ := VM.ret_some V.toVI h
  cases hq
  exact S.b1 <| S.drop <| S.b1 <| S.b1 <| S.ret1 Tryz.func134 rfl rfl (hR · _ _ ⟨rfl, rfl⟩)
 replace h := VM.cond_f V.toVI b5 h
 refine S.condF rfl b5 <| S.skip <| S.seq <| S.seq <| S.region <| mv rfl <| mv rfl <| SO.b1 <| SO.loadN rfl Tryz.isAgg45 Tryz.sizeOf45 rfl rfl rfl ?_
 obtain ⟨t6, s8, ht7, h⟩ := VM.bind_some V.toVI h
 refine SO.b1 <| SO.call (pre := [V.rep _]) rfl Tryz.call128 rfl rfl rfl (cspace_Set.ct V _ _ _ _ _ _ ht7) trivial ?_
 rintro _ _ ⟨rfl, rfl⟩
 refine ag rfl <| SO.nil <| tt [(0, V.val), (1, .int .i64 a1), (8, errV 98 none), (10, errV 98 t6)] rfl <| S.seq <| S.region <| mv rfl <| vv (opv_neqN (e := t6) Tryz.underlying74 rfl) <| SO.nil ?_
 rcases bool_or t6.isSome with b9 | b9
 ·replace h := VM.cond_t V.toVI b9 h
  refine S.condT rfl b9 <| S.seq <| S.region <| mv rfl <| ag rfl <| SO.nil ?_
  obtain ⟨hq, rfl⟩ := VM.ret_some V.toVI h
  cases hq
  exact S.b1 <| S.drop <| S.b1 <| S.b1 <| S.ret1 Tryz.func134 rfl rfl (hR · _ _ ⟨rfl, rfl⟩)
 replace h := VM.cond_f V.toVI b9 h
 refine S.condF rfl b9 <| S.skip <| S.seq <| S.region <| mv rfl <| mv rfl <| vv (opv_build (v := .agg #[.int .i64 0, .int .i64 0, .int .i64 0, .int .i64 0, .int .i64 0, .int .i64 0]) rfl (by intro w; kernel_rfl)) ?_
 obtain ⟨t10, s12, ht11, h⟩ := VM.bind_some V.toVI h
 have ct13 := cspace_Set.ct V _ _ _ _ _ _ ht11
 try dsimp only at ct13
 refine SO.call (pre := [V.rep _]) rfl Tryz.call128 rfl rfl rfl ct13 trivial ?_
 rintro _ _ ⟨rfl, rfl⟩
 refine ag rfl <| SO.nil <| tt [(8, errV 98 t10)] rfl ?_
 obtain ⟨hq, rfl⟩ := VM.ret_some V.toVI h
 cases hq
 exact S.b1 <| S.drop <| S.b1 <| S.b1 <| S.ret1 Tryz.func134 rfl rfl (hR · _ _ ⟨rfl, rfl⟩)
def derive_Move.f (k : Nat) (a1 : Int) (a2 : Int) : VM ((Option Int)) :=
  (derive_ends.f k a1 a2).bind fun (t1, t2) => bif t2.isSome then (VM.ret t2) else ((derive_turn.f k a1 a2 t1).bind fun t7 => VM.ret t7)
set_option maxHeartbeats 8000000 in
set_option maxRecDepth 100000 in
theorem derive_Move.ct (V : VW Tryz.prog) (k : Nat) (a1 : Int) (a2 : Int) (r0 : Option Int) (s s' : V.S) (h : VM.run V.toVI (derive_Move.f k a1 a2) s = some (r0, s')) :
    Ct Tryz.prog 70 [V.val, .int .i64 a1, .int .i64 a2] (fun _ => True) [V.rep s] (fun u H' => u = errV 98 r0 ∧ H' = [V.rep s']) := by
 unfold derive_Move.f at h
 refine Ct.intro (n := 24) Tryz.func70 rfl rfl rfl ?_
 intro R w0 F hF hR
 refine S.seq <| S.region <| ag rfl <| SO.nil <| S.seq <| S.region <| mv rfl <| mv rfl <| mv rfl ?_
 obtain ⟨⟨t1, t2⟩, s4, ht3, h⟩ := VM.bind_some V.toVI h
 refine SO.call (pre := [V.rep _]) rfl Tryz.call130 rfl rfl rfl (derive_ends.ct V _ _ _ _ _ _ _ ht3) trivial ?_
 rintro _ _ ⟨rfl, rfl⟩
 refine mv rfl <| vv (opv_extract rfl rfl) <| vv (opv_extract rfl rfl) <| SO.alloc rfl Tryz.zeroValue45 rfl fun b5 => SO.storeN Tryz.sizeOf45 rfl rfl rfl rfl rfl rfl <| ag rfl <| SO.nil <| tt [(0, V.val), (1, .int .i64 a1), (2, .int .i64 a2), (6, errV 98 none), (7, bp b5 0), (8, errV 98 t2)] rfl <| S.seq <| S.seq <| S.region <| mv rfl <| vv (opv_neqN (e := t2) Tryz.underlying74 rfl) <| SO.nil ?_
 rcases bool_or t2.isSome with b6 | b6
 ·replace h := VM.cond_t V.toVI b6 h
  refine S.condT rfl b6 <| S.seq <| S.region <| mv rfl <| ag rfl <| SO.nil <| tt [(6, errV 98 t2)] rfl ?_
  obtain ⟨hq, rfl⟩ := VM.ret_some V.toVI h
  cases hq
  exact S.drop <| S.b1 <| S.b1 <| S.ret1 Tryz.func70 rfl rfl (hR · _ _ ⟨rfl, rfl⟩)
 replace h := VM.cond_f V.toVI b6 h
 refine S.condF rfl b6 <| S.skip <| S.seq <| S.region <| mv rfl <| mv rfl <| mv rfl <| SO.loadN rfl Tryz.isAgg45 Tryz.sizeOf45 rfl rfl rfl ?_
 obtain ⟨t7, s9, ht8, h⟩ := VM.bind_some V.toVI h
 refine SO.b1 <| SO.call (pre := [V.rep _]) rfl Tryz.call134 rfl rfl rfl (derive_turn.ct V _ _ _ _ _ _ _ ht8) trivial ?_
 rintro _ _ ⟨rfl, rfl⟩
 refine ag rfl <| SO.nil <| tt [(6, errV 98 t7)] rfl ?_
 obtain ⟨hq, rfl⟩ := VM.ret_some V.toVI h
 cases hq
 exact S.b1 <| S.drop <| S.b1 <| S.b1 <| S.ret1 Tryz.func70 rfl rfl (hR · _ _ ⟨rfl, rfl⟩)
def rights_Mutate.f (a0 : api_Cap) (a1 : Int) (a2 : Int) : Option ((api_Cap × (Option Int))) :=
  (rights_real.f a0).bind fun t3 => bif !t3 then (some ((⟨0, 0, 0, 0, 0, 0⟩ : api_Cap), (some 1))) else (bif a0.Kind != 2 then (some ((⟨0, 0, 0, 0, 0, 0⟩ : api_Cap), (some 5))) else ((pack_May.f ({ a0 with Guard := a1, Bits := a2 } : api_Cap)).bind fun t7 => bif !t7 then (some ((⟨0, 0, 0, 0, 0, 0⟩ : api_Cap), (some 1))) else (some (({ a0 with Guard := a1, Bits := a2 } : api_Cap), none))))
set_option maxHeartbeats 8000000 in
set_option maxRecDepth 100000 in
theorem rights_Mutate.ct (a0 : api_Cap) (a1 : Int) (a2 : Int) (r0 : api_Cap) (r1 : Option Int) (h : rights_Mutate.f a0 a1 a2 = some (r0, r1)) :
    Ct Tryz.prog 135 [.agg #[.int .i64 a0.Kind, .int .i64 a0.Rights, .int .i64 a0.Obj, .int .i64 a0.Badge, .int .i64 a0.Guard, .int .i64 a0.Bits], .int .i64 a1, .int .i64 a2] (fun _ => True) [] (fun u H' => u = .tuple #[.agg #[.int .i64 r0.Kind, .int .i64 r0.Rights, .int .i64 r0.Obj, .int .i64 r0.Badge, .int .i64 r0.Guard, .int .i64 r0.Bits], errV 98 r1] ∧ H' = []) := by
 unfold rights_Mutate.f at h
 refine Ct.intro (n := 30) Tryz.func135 rfl rfl rfl ?_
 intro R w0 F hF hR
 refine S.seq <| S.region <| SO.box rfl rfl rfl fun b1 => SO.alloc rfl Tryz.zeroValue45 rfl fun b2 => ag rfl <| SO.nil <| S.seq <| S.block <| S.seq <| S.region <| SO.b1 <| SO.loadN rfl Tryz.isAgg45 Tryz.sizeOf45 rfl rfl rfl ?_
 obtain ⟨t3, ht4, h⟩ := opt_bind h
 refine SO.call (pre := []) rfl Tryz.call180 rfl rfl rfl (rights_real.ct _ _ ht4) trivial ?_
 rintro _ _ ⟨rfl, rfl⟩
 refine vv (opv_not rfl) <| ag rfl <| SO.nil ?_
 rcases bool_or (!t3) with b5 | b5
 ·replace h := cond_t b5 h
  refine S.condT rfl b5 <| S.seq <| S.region <| vv (opv_build (v := .agg #[.int .i64 0, .int .i64 0, .int .i64 0, .int .i64 0, .int .i64 0, .int .i64 0]) rfl (by intro w; kernel_rfl)) <| vv (opv_iface Tryz.underlying98 rfl rfl) <| SO.b1 <| SO.storeN Tryz.sizeOf45 rfl rfl rfl rfl rfl rfl <| ag rfl <| SO.nil <| tt [(6, bp b2 0), (7, errV 98 (some 1))] rfl ?_
  cases h
  exact S.b1 <| S.drop <| S.b1 <| S.b1 <| S.retC1 Tryz.func135 rfl rfl rfl Tryz.isAgg45 Tryz.sizeOf45 rfl rfl (fun w hs hk => hR w _ _ ⟨rfl, rfl⟩ hs.drop hk)
 replace h := cond_f b5 h
 refine S.condF rfl b5 <| S.seq <| S.region <| fa Tryz.underlying45 rfl Tryz.sizeOf3 rfl rfl <| ld Tryz.isAgg3 rfl rfl <| vv (opv_neq rfl rfl) <| ag rfl <| SO.nil <| tt [(1, .int .i64 a1), (2, .int .i64 a2), (3, bp b1 0), (6, bp b2 0), (7, errV 98 none), (14, .bool (a0.Kind != 2))] rfl ?_
 rcases bool_or (a0.Kind != 2) with b6 | b6
 ·replace h := cond_t b6 h
  refine S.condT rfl b6 <| S.seq <| S.region <| vv (opv_build (v := .agg #[.int .i64 0, .int .i64 0, .int .i64 0, .int .i64 0, .int .i64 0, .int .i64 0]) rfl (by intro w; kernel_rfl)) <| vv (opv_iface Tryz.underlying98 rfl rfl) <| SO.b1 <| SO.storeN Tryz.sizeOf45 rfl rfl rfl rfl rfl rfl <| ag rfl <| SO.nil ?_
  cases h
  exact S.b1 <| S.drop <| S.b1 <| S.b1 <| S.retC1 Tryz.func135 rfl rfl rfl Tryz.isAgg45 Tryz.sizeOf45 rfl rfl (fun w hs hk => hR w _ _ ⟨rfl, rfl⟩ hs.drop hk)
 replace h := cond_f b6 h
 refine S.condF rfl b6 <| S.skip <| S.inBlock <| S.seq <| S.region <| mv rfl <| mv rfl <| fa Tryz.underlying45 rfl Tryz.sizeOf3 rfl rfl <| SO.store1 Tryz.sizeOf3 rfl rfl rfl rfl <| fa Tryz.underlying45 rfl Tryz.sizeOf3 rfl rfl <| SO.store1 Tryz.sizeOf3 rfl rfl rfl rfl <| SO.nil <| tt [(3, bp b1 0), (6, bp b2 0), (7, errV 98 none)] rfl <| S.seq <| S.seq <| S.region <| SO.loadN rfl Tryz.isAgg45 Tryz.sizeOf45 rfl rfl rfl ?_
 obtain ⟨t7, ht8, h⟩ := opt_bind h
 have ct10 := pack_May.ct _ _ ht8
 try dsimp only at ct10
 refine SO.call (pre := []) rfl Tryz.call52 rfl rfl rfl ct10 trivial ?_
 rintro _ _ ⟨rfl, rfl⟩
 refine vv (opv_not rfl) <| SO.nil ?_
 rcases bool_or (!t7) with b9 | b9
 ·replace h := cond_t b9 h
  refine S.condT rfl b9 <| S.seq <| S.region <| vv (opv_build (v := .agg #[.int .i64 0, .int .i64 0, .int .i64 0, .int .i64 0, .int .i64 0, .int .i64 0]) rfl (by intro w; kernel_rfl)) <| vv (opv_iface Tryz.underlying98 rfl rfl) <| SO.b1 <| SO.storeN Tryz.sizeOf45 rfl rfl rfl rfl rfl rfl <| ag rfl <| SO.nil ?_
  cases h
  exact S.b1 <| S.drop <| S.b1 <| S.b1 <| S.retC1 Tryz.func135 rfl rfl rfl Tryz.isAgg45 Tryz.sizeOf45 rfl rfl (fun w hs hk => hR w _ _ ⟨rfl, rfl⟩ hs.drop hk)
 replace h := cond_f b9 h
 refine S.condF rfl b9 <| S.skip <| S.seq <| S.region <| SO.loadN rfl Tryz.isAgg45 Tryz.sizeOf45 rfl rfl rfl <| SO.b1 <| SO.storeN Tryz.sizeOf45 rfl rfl rfl rfl rfl rfl <| ag rfl <| SO.nil ?_
 cases h
 exact S.b1 <| S.drop <| S.b1 <| S.b1 <| S.retC1 Tryz.func135 rfl rfl rfl Tryz.isAgg45 Tryz.sizeOf45 rfl rfl (fun w hs hk => hR w _ _ ⟨rfl, rfl⟩ hs.drop hk)
def derive_Mutate.f (k : Nat) (a1 : Int) (a2 : Int) (a3 : Int) (a4 : Int) : VM ((Option Int)) :=
  (derive_ends.f k a1 a2).bind fun (t1, t2) => bif t2.isSome then (VM.ret t2) else ((VM.opt (rights_Mutate.f t1 a3 a4)).bind fun (t7, t8) => bif t8.isSome then (VM.ret t8) else ((derive_turn.f k a1 a2 t7).bind fun t11 => VM.ret t11))
set_option maxHeartbeats 8000000 in
set_option maxRecDepth 100000 in
theorem derive_Mutate.ct (V : VW Tryz.prog) (k : Nat) (a1 : Int) (a2 : Int) (a3 : Int) (a4 : Int) (r0 : Option Int) (s s' : V.S) (h : VM.run V.toVI (derive_Mutate.f k a1 a2 a3 a4) s = some (r0, s')) :
    Ct Tryz.prog 71 [V.val, .int .i64 a1, .int .i64 a2, .int .i64 a3, .int .i64 a4] (fun _ => True) [V.rep s] (fun u H' => u = errV 98 r0 ∧ H' = [V.rep s']) := by
 unfold derive_Mutate.f at h
 refine Ct.intro (n := 38) Tryz.func71 rfl rfl rfl ?_
 intro R w0 F hF hR
 refine S.seq <| S.region <| ag rfl <| SO.nil <| S.seq <| S.region <| mv rfl <| mv rfl <| mv rfl ?_
 obtain ⟨⟨t1, t2⟩, s4, ht3, h⟩ := VM.bind_some V.toVI h
 refine SO.call (pre := [V.rep _]) rfl Tryz.call130 rfl rfl rfl (derive_ends.ct V _ _ _ _ _ _ _ ht3) trivial ?_
 rintro _ _ ⟨rfl, rfl⟩
 refine mv rfl <| vv (opv_extract rfl rfl) <| vv (opv_extract rfl rfl) <| SO.alloc rfl Tryz.zeroValue45 rfl fun b5 => SO.storeN Tryz.sizeOf45 rfl rfl rfl rfl rfl rfl <| ag rfl <| SO.nil <| tt [(0, V.val), (1, .int .i64 a1), (2, .int .i64 a2), (3, .int .i64 a3), (4, .int .i64 a4), (10, errV 98 none), (11, bp b5 0), (12, errV 98 t2)] rfl <| S.seq <| S.seq <| S.region <| mv rfl <| vv (opv_neqN (e := t2) Tryz.underlying74 rfl) <| SO.nil ?_
 rcases bool_or t2.isSome with b6 | b6
 ·replace h := VM.cond_t V.toVI b6 h
  refine S.condT rfl b6 <| S.seq <| S.region <| mv rfl <| ag rfl <| SO.nil <| tt [(10, errV 98 t2)] rfl ?_
  obtain ⟨hq, rfl⟩ := VM.ret_some V.toVI h
  cases hq
  exact S.drop <| S.b1 <| S.b1 <| S.ret1 Tryz.func71 rfl rfl (hR · _ _ ⟨rfl, rfl⟩)
 replace h := VM.cond_f V.toVI b6 h
 refine S.condF rfl b6 <| S.skip <| S.seq <| S.seq <| S.region <| SO.loadN rfl Tryz.isAgg45 Tryz.sizeOf45 rfl rfl rfl <| mv rfl <| mv rfl ?_
 obtain ⟨⟨t7, t8⟩, ht9, h⟩ := VM.opt_some V.toVI h
 refine SO.call (pre := []) rfl Tryz.call135 rfl rfl rfl (rights_Mutate.ct _ _ _ _ _ ht9) trivial ?_
 rintro _ _ ⟨rfl, rfl⟩
 refine mv rfl <| vv (opv_extract rfl rfl) <| vv (opv_extract rfl rfl) <| SO.storeN Tryz.sizeOf45 rfl rfl rfl rfl rfl rfl <| ag rfl <| SO.nil <| tt [(0, V.val), (1, .int .i64 a1), (2, .int .i64 a2), (10, errV 98 none), (11, bp b5 0), (12, errV 98 t8)] rfl <| S.seq <| S.region <| mv rfl <| vv (opv_neqN (e := t8) Tryz.underlying74 rfl) <| SO.nil ?_
 rcases bool_or t8.isSome with b10 | b10
 ·replace h := VM.cond_t V.toVI b10 h
  refine S.condT rfl b10 <| S.seq <| S.region <| mv rfl <| ag rfl <| SO.nil <| tt [(10, errV 98 t8)] rfl ?_
  obtain ⟨hq, rfl⟩ := VM.ret_some V.toVI h
  cases hq
  exact S.drop <| S.b1 <| S.b1 <| S.ret1 Tryz.func71 rfl rfl (hR · _ _ ⟨rfl, rfl⟩)
 replace h := VM.cond_f V.toVI b10 h
 refine S.condF rfl b10 <| S.skip <| S.seq <| S.region <| mv rfl <| mv rfl <| mv rfl <| SO.loadN rfl Tryz.isAgg45 Tryz.sizeOf45 rfl rfl rfl ?_
 obtain ⟨t11, s13, ht12, h⟩ := VM.bind_some V.toVI h
 refine SO.b1 <| SO.call (pre := [V.rep _]) rfl Tryz.call134 rfl rfl rfl (derive_turn.ct V _ _ _ _ _ _ _ ht12) trivial ?_
 rintro _ _ ⟨rfl, rfl⟩
 refine ag rfl <| SO.nil <| tt [(10, errV 98 t11)] rfl ?_
 obtain ⟨hq, rfl⟩ := VM.ret_some V.toVI h
 cases hq
 exact S.b1 <| S.drop <| S.b1 <| S.b1 <| S.ret1 Tryz.func71 rfl rfl (hR · _ _ ⟨rfl, rfl⟩)
def cdt_Leaf.l1 : Nat → (Int × Int) → VM (Int)
  | 0, _ => VM.fail
  | k + 1, (x9_1, x1_1) => bif decide (x9_1 < 96) then ((cdt_get.f x1_1 2).bind fun t5 => bif t5 == (-1) then (VM.ret x1_1) else (cdt_Leaf.l1  k (w64 (x9_1 + 1), t5))) else (VM.ret x1_1)
def cdt_Leaf.f (k : Nat) (a1 : Int) : VM (Int) :=
  (VM.opt (cdt_there.f a1)).bind fun t1 => bif !t1 then (VM.ret (-1)) else ((cdt_Leaf.l1 k (0, a1)).bind fun j1_e1 => VM.ret j1_e1)
set_option maxHeartbeats 8000000 in
set_option maxRecDepth 100000 in
theorem cdt_Leaf.ct (V : VW Tryz.prog) (k : Nat) (a1 : Int) (r0 : Int) (s s' : V.S) (h : VM.run V.toVI (cdt_Leaf.f k a1) s = some (r0, s')) :
    Ct Tryz.prog 129 [V.val, .int .i64 a1] (fun _ => True) [V.rep s] (fun u H' => u = .int .i64 r0 ∧ H' = [V.rep s']) := by
 unfold cdt_Leaf.f at h
 refine Ct.intro (n := 19) Tryz.func129 rfl rfl rfl ?_
 intro R w0 F hF hR
 refine S.seq <| S.region <| ag rfl <| SO.nil <| S.seq <| S.seq <| S.region <| mv rfl ?_
 obtain ⟨t1, ht2, h⟩ := VM.opt_some V.toVI h
 refine SO.call (pre := []) rfl Tryz.call176 rfl rfl rfl (cdt_there.ct _ _ ht2) trivial ?_
 rintro _ _ ⟨rfl, rfl⟩
 refine vv (opv_not rfl) <| SO.nil ?_
 rcases bool_or (!t1) with b3 | b3
 ·replace h := VM.cond_t V.toVI b3 h
  refine S.condT rfl b3 <| S.seq <| S.region <| ag rfl <| SO.nil ?_
  obtain ⟨hq, rfl⟩ := VM.ret_some V.toVI h
  cases hq
  exact S.b1 <| S.b1 <| S.ret1 Tryz.func129 rfl rfl (hR · _ _ ⟨rfl, rfl⟩)
 replace h := VM.cond_f V.toVI b3 h
 refine S.condF rfl b3 <| S.skip <| S.seq <| S.seq <| S.region <| mv rfl <| SO.nil ?_
 obtain ⟨j1_e1, so_1, hlp1, h⟩ := VM.bind_some V.toVI h
 refine S.b1 <| S.b1 <| tt [(9, .int .i64 0), (4, .int .i64 0), (0, V.val), (1, .int .i64 a1)] rfl ?_
 refine S.forloop (X := ((Int × Int) × V.S) × Unit) (O := (Int) × V.S) (fun m x => VM.run V.toVI (cdt_Leaf.l1  m x.1.1) x.1.2) (fun x => match x with | (((x9_1, x1_1), sx_1), _) => [(9, .int .i64 x9_1), (4, .int .i64 0), (0, V.val), (1, .int .i64 x1_1)]) (fun x => match x with | (((x9_1, x1_1), sx_1), _) => [V.rep sx_1, F]) (fun Sk oo => match oo with | (j1_e1, so_1) => ∀ _ : Unit, Sk [(1, .int .i64 j1_e1), (4, .int .i64 0)] [V.rep so_1, F]) (fun _ => rfl) ?_ (m := k) (x := (((0, a1), s), ())) hlp1 ?_
 ·clear h hlp1
  intro k x o_1 h hK1 ih1
  obtain ⟨⟨⟨x9_1, x1_1⟩, sx_1⟩, _⟩ := x
  obtain ⟨o_1, so_1_⟩ := o_1
  replace h : VM.run V.toVI (cdt_Leaf.l1  (k + 1) (x9_1, x1_1)) sx_1 = some (o_1, so_1_) := h
  first | rw [cdt_Leaf.l1] at h | unfold cdt_Leaf.l1 at h
  refine S.seq <| S.region <| vv (opv_lss rfl rfl) <| SO.nil <| S.seq ?_
  rcases bool_or (decide (x9_1 < 96)) with b4 | b4
  ·replace h := VM.cond_t V.toVI b4 h
   refine S.condT rfl b4 <| S.skip <| S.seq <| S.block <| S.seq <| S.region <| mv rfl <| mv rfl ?_
   obtain ⟨t5, s7, ht6, h⟩ := VM.bind_some V.toVI h
   refine SO.call (pre := [V.rep _]) rfl Tryz.call175 rfl rfl rfl (cdt_get.ct V _ _ _ _ _ ht6) trivial ?_
   rintro _ _ ⟨rfl, rfl⟩
   refine ag rfl <| SO.nil <| S.seq <| S.seq <| S.region <| mv rfl <| vv (opv_eql rfl rfl) <| SO.nil ?_
   rcases bool_or (t5 == (-1)) with b8 | b8
   ·replace h := VM.cond_t V.toVI b8 h
    refine S.condT rfl b8 <| S.exit rfl ?_
    obtain ⟨hq, rfl⟩ := VM.ret_some V.toVI h
    cases hq
    refine S.b1 <| S.b1 ?_
    refine S.to ?_ (hK1 ())
    exact ⟨rfl, rfl, trivial⟩
   replace h := VM.cond_f V.toVI b8 h
   refine S.condF rfl b8 <| S.skip <| S.region <| mv rfl <| ag rfl <| SO.nil <| tt [(9, .int .i64 x9_1), (4, .int .i64 0), (0, V.val), (1, .int .i64 t5)] rfl <| S.inBlock <| S.region <| vv (opv_add rfl rfl) <| mv rfl <| SO.nil <| S.b1 <| S.b1 ?_
   refine S.to ?_ (ih1 (((w64 (x9_1 + 1), t5), s7), ()) h)
   exact ⟨rfl, rfl, rfl, rfl, trivial⟩
  replace h := VM.cond_f V.toVI b4 h
  refine S.condF rfl b4 <| S.exit rfl ?_
  obtain ⟨hq, rfl⟩ := VM.ret_some V.toVI h
  cases hq
  refine S.b1 <| S.b1 ?_
  refine S.to ?_ (hK1 ())
  exact ⟨rfl, rfl, trivial⟩
 rintro _
 refine S.seq <| S.region <| mv rfl <| ag rfl <| SO.nil ?_
 obtain ⟨hq, rfl⟩ := VM.ret_some V.toVI h
 cases hq
 exact S.b1 <| S.b1 <| S.ret1 Tryz.func129 rfl rfl (hR · _ _ ⟨rfl, rfl⟩)
def derive_One.f (k : Nat) (a1 : Int) : VM ((Bool × (Option Int))) :=
  (VM.opt (derive_there.f a1)).bind fun t1 => bif !t1 then (VM.ret (false, (some 2))) else ((cdt_Kids.f k a1).bind fun t4 => bif (t4.length : Int) == 0 then (VM.ret (false, none)) else ((cdt_Leaf.f k a1).bind fun t10 => (derive_Delete.f k t10).bind fun t13 => VM.ret (t13.isNone, t13)))
set_option maxHeartbeats 8000000 in
set_option maxRecDepth 100000 in
theorem derive_One.ct (V : VW Tryz.prog) (k : Nat) (a1 : Int) (r0 : Bool) (r1 : Option Int) (s s' : V.S) (h : VM.run V.toVI (derive_One.f k a1) s = some ((r0, r1), s')) :
    Ct Tryz.prog 67 [V.val, .int .i64 a1] (fun _ => True) [V.rep s] (fun u H' => u = .tuple #[.bool r0, errV 98 r1] ∧ H' = [V.rep s']) := by
 unfold derive_One.f at h
 refine Ct.intro (n := 26) Tryz.func67 rfl rfl rfl ?_
 intro R w0 F hF hR
 refine S.seq <| S.region <| ag rfl <| ag rfl <| SO.nil <| S.seq <| S.block <| S.seq <| S.region <| mv rfl ?_
 obtain ⟨t1, ht2, h⟩ := VM.opt_some V.toVI h
 refine SO.call (pre := []) rfl Tryz.call125 rfl rfl rfl (derive_there.ct _ _ ht2) trivial ?_
 rintro _ _ ⟨rfl, rfl⟩
 refine vv (opv_not rfl) <| ag rfl <| SO.nil ?_
 rcases bool_or (!t1) with b3 | b3
 ·replace h := VM.cond_t V.toVI b3 h
  refine S.condT rfl b3 <| S.seq <| S.region <| vv (opv_iface Tryz.underlying98 rfl rfl) <| ag rfl <| ag rfl <| SO.nil <| tt [(4, .bool false), (5, errV 98 (some 2))] rfl ?_
  obtain ⟨hq, rfl⟩ := VM.ret_some V.toVI h
  cases hq
  exact S.b1 <| S.b1 <| S.ret2 Tryz.func67 rfl rfl rfl (hR · _ _ ⟨rfl, rfl⟩)
 replace h := VM.cond_f V.toVI b3 h
 refine S.condF rfl b3 <| S.seq <| S.region <| mv rfl <| mv rfl ?_
 obtain ⟨t4, s6, ht5, h⟩ := VM.bind_some V.toVI h
 refine SO.call (pre := [V.rep _]) rfl Tryz.call126 rfl rfl rfl (cdt_Kids.ct V _ _ _ _ _ ht5) trivial ?_
 rintro v7 _ ⟨_, rfl, rfl⟩
 refine SO.rd fun hr8 => vv (opv_lenR rfl Tryz.underlying43 hr8 rfl) <| vv (opv_eql rfl rfl) <| ag rfl <| SO.nil <| tt [(0, V.val), (1, .int .i64 a1), (4, .bool false), (5, errV 98 none), (12, .bool ((t4.length : Int) == 0))] rfl ?_
 rcases bool_or ((t4.length : Int) == 0) with b9 | b9
 ·replace h := VM.cond_t V.toVI b9 h
  refine S.condT rfl b9 <| S.seq <| S.region <| ag rfl <| ag rfl <| SO.nil ?_
  obtain ⟨hq, rfl⟩ := VM.ret_some V.toVI h
  cases hq
  exact S.drop <| S.b1 <| S.b1 <| S.ret2 Tryz.func67 rfl rfl rfl (hR · _ _ ⟨rfl, rfl⟩)
 replace h := VM.cond_f V.toVI b9 h
 refine S.condF rfl b9 <| S.skip <| S.inBlock <| S.seq <| S.region <| mv rfl <| mv rfl <| mv rfl ?_
 obtain ⟨t10, s12, ht11, h⟩ := VM.bind_some V.toVI h
 refine SO.b1 <| SO.call (pre := [V.rep _]) rfl Tryz.call129 rfl rfl rfl (cdt_Leaf.ct V _ _ _ _ _ ht11) trivial ?_
 rintro _ _ ⟨rfl, rfl⟩
 obtain ⟨t13, s15, ht14, h⟩ := VM.bind_some V.toVI h
 refine SO.call (pre := [V.rep _]) rfl Tryz.call66 rfl rfl rfl (derive_Delete.ct V _ _ _ _ _ ht14) trivial ?_
 rintro _ _ ⟨rfl, rfl⟩
 refine ag rfl <| SO.nil <| tt [(4, .bool false), (5, errV 98 none), (6, errV 98 t13)] rfl <| S.seq <| S.region <| mv rfl <| vv (opv_eqlN (e := t13) Tryz.underlying74 rfl) <| mv rfl <| ag rfl <| ag rfl <| SO.nil ?_
 obtain ⟨hq, rfl⟩ := VM.ret_some V.toVI h
 cases hq
 exact S.b1 <| S.drop <| S.b1 <| S.b1 <| S.ret2 Tryz.func67 rfl rfl rfl (hR · _ _ ⟨rfl, rfl⟩)
def lay_Used.f : VM ((Int × Int)) :=
  VM.rd 736 fun t1 => VM.rd 737 fun t4 => VM.ret (w64 (if 96 < t1 then 96 else t1), w64 (if 32 < t4 then 32 else t4))
set_option maxHeartbeats 8000000 in
set_option maxRecDepth 100000 in
theorem lay_Used.ct (V : VW Tryz.prog) (r0 : Int) (r1 : Int) (s s' : V.S) (h : VM.run V.toVI (lay_Used.f ) s = some ((r0, r1), s')) :
    Ct Tryz.prog 185 [V.val] (fun _ => True) [V.rep s] (fun u H' => u = .tuple #[.int .i64 r0, .int .i64 r1] ∧ H' = [V.rep s']) := by
 unfold lay_Used.f at h
 refine Ct.intro (n := 12) Tryz.func185 rfl rfl rfl ?_
 intro R w0 F hF hR
 refine S.seq <| S.region <| ag rfl <| ag rfl <| SO.nil <| S.seq <| S.region <| mv rfl ?_
 obtain ⟨t1, s2, hv3, h⟩ := VM.rd_some V.toVI h
 refine SO.vread' V rfl rfl rfl hv3 <| vv (opv_min rfl rfl) <| vv (opv_conv Tryz.underlying55 Tryz.underlying3 rfl) <| mv rfl ?_
 obtain ⟨t4, s5, hv6, h⟩ := VM.rd_some V.toVI h
 refine SO.vread' V rfl rfl rfl hv6 <| vv (opv_min rfl rfl) <| vv (opv_conv Tryz.underlying55 Tryz.underlying3 rfl) <| ag rfl <| ag rfl <| SO.nil <| tt [(2, .int .i64 (w64 (if 96 < t1 then 96 else t1))), (3, .int .i64 (w64 (if 32 < t4 then 32 else t4)))] rfl ?_
 obtain ⟨hq, rfl⟩ := VM.ret_some V.toVI h
 cases hq
 exact S.b1 <| S.b1 <| S.ret2 Tryz.func185 rfl rfl rfl (hR · _ _ ⟨rfl, rfl⟩)
def lay_Take.f (a1 : Int) (a2 : Int) : VM ((Int × Int × (Option Int))) :=
  bif (decide (a1 < 0)) || (decide (a2 < 0)) then (VM.ret (0, 0, (some 1))) else ((lay_Used.f ).bind fun (t3, t4) => bif (decide ((w64 (96 - t3)) < a1)) || (decide ((w64 (32 - t4)) < a2)) then (VM.ret (0, 0, (some 7))) else (VM.wr 736 (wu64 (w64 (t3 + a1))) (VM.wr 737 (wu64 (w64 (t4 + a2))) (VM.ret (t3, t4, none)))))
set_option maxHeartbeats 8000000 in
set_option maxRecDepth 100000 in
theorem lay_Take.ct (V : VW Tryz.prog) (a1 : Int) (a2 : Int) (r0 : Int) (r1 : Int) (r2 : Option Int) (s s' : V.S) (h : VM.run V.toVI (lay_Take.f a1 a2) s = some ((r0, r1, r2), s')) :
    Ct Tryz.prog 137 [V.val, .int .i64 a1, .int .i64 a2] (fun _ => True) [V.rep s] (fun u H' => u = .tuple #[.int .i64 r0, .int .i64 r1, errV 98 r2] ∧ H' = [V.rep s']) := by
 unfold lay_Take.f at h
 refine Ct.intro (n := 48) Tryz.func137 rfl rfl rfl ?_
 intro R w0 F hF hR
 refine S.seq <| S.region <| ag rfl <| ag rfl <| ag rfl <| SO.nil <| S.seq <| S.seq <| S.region <| mv rfl <| vv (opv_lss rfl rfl) <| mv rfl ?_
 refine SO.cut 3 16 (.bool ((decide (a1 < 0)) || (decide (a2 < 0)))) [V.rep s, F] (fun l2 hk2 => ?_) ?_
 ·rcases bool_or (decide (a1 < 0)) with b1 | b1
  ·exact pf rfl rfl rfl b1 <| pf rfl rfl rfl b1 <| vv (opv_pick_t' b1 rfl rfl) <| SO.b1 <| SO.b1 <| hk2.fitc (m := 3) rfl (or_t b1) rfl
  exact SO.takeT rfl rfl rfl b1 <| mv rfl <| SO.takeT rfl rfl rfl b1 <| vv (opv_lss rfl rfl) <| vv (opv_pick_f' b1 rfl rfl) <| SO.b1 <| SO.b1 <| hk2.fitc (m := 3) rfl (or_f b1) rfl
 refine SO.nil ?_
 rcases bool_or ((decide (a1 < 0)) || (decide (a2 < 0))) with b2 | b2
 ·replace h := VM.cond_t V.toVI b2 h
  refine S.condT rfl b2 <| S.seq <| S.region <| vv (opv_iface Tryz.underlying98 rfl rfl) <| ag rfl <| ag rfl <| ag rfl <| SO.nil <| tt [(6, .int .i64 0), (7, .int .i64 0), (8, errV 98 (some 1))] rfl ?_
  obtain ⟨hq, rfl⟩ := VM.ret_some V.toVI h
  cases hq
  exact S.b1 <| S.b1 <| S.ret3 Tryz.func137 rfl rfl rfl rfl (hR · _ _ ⟨rfl, rfl⟩)
 replace h := VM.cond_f V.toVI b2 h
 refine S.condF rfl b2 <| S.skip <| S.seq <| S.region <| mv rfl ?_
 obtain ⟨⟨t3, t4⟩, s6, ht5, h⟩ := VM.bind_some V.toVI h
 refine SO.call (pre := [V.rep _]) rfl Tryz.call185 rfl rfl rfl (lay_Used.ct V _ _ _ _ ht5) trivial ?_
 rintro _ _ ⟨rfl, rfl⟩
 refine mv rfl <| vv (opv_extract rfl rfl) <| vv (opv_extract rfl rfl) <| ag rfl <| ag rfl <| SO.nil <| tt [(0, V.val), (1, .int .i64 a1), (2, .int .i64 a2), (6, .int .i64 0), (7, .int .i64 0), (8, errV 98 none), (9, .int .i64 t3), (10, .int .i64 t4)] rfl <| S.seq <| S.seq <| S.region <| mv rfl <| mv rfl <| vv (opv_sub rfl rfl) <| vv (opv_gtr rfl rfl) <| mv rfl ?_
 refine SO.cut 5 32 (.bool ((decide ((w64 (96 - t3)) < a1)) || (decide ((w64 (32 - t4)) < a2)))) [V.rep s6, F] (fun l2 hk2 => ?_) ?_
 ·rcases bool_or (decide ((w64 (96 - t3)) < a1)) with b7 | b7
  ·exact pf rfl rfl rfl b7 <| pf rfl rfl rfl b7 <| pf rfl rfl rfl b7 <| pf rfl rfl rfl b7 <| vv (opv_pick_t' b7 rfl rfl) <| SO.b1 <| SO.b1 <| hk2.fitc (m := 5) rfl (or_t b7) rfl
  exact SO.takeT rfl rfl rfl b7 <| mv rfl <| SO.takeT rfl rfl rfl b7 <| mv rfl <| SO.takeT rfl rfl rfl b7 <| vv (opv_sub rfl rfl) <| SO.takeT rfl rfl rfl b7 <| vv (opv_gtr rfl rfl) <| vv (opv_pick_f' b7 rfl rfl) <| SO.b1 <| SO.b1 <| hk2.fitc (m := 5) rfl (or_f b7) rfl
 refine SO.nil ?_
 rcases bool_or ((decide ((w64 (96 - t3)) < a1)) || (decide ((w64 (32 - t4)) < a2))) with b8 | b8
 ·replace h := VM.cond_t V.toVI b8 h
  refine S.condT rfl b8 <| S.seq <| S.region <| vv (opv_iface Tryz.underlying98 rfl rfl) <| ag rfl <| ag rfl <| ag rfl <| SO.nil <| tt [(6, .int .i64 0), (7, .int .i64 0), (8, errV 98 (some 7))] rfl ?_
  obtain ⟨hq, rfl⟩ := VM.ret_some V.toVI h
  cases hq
  exact S.b1 <| S.b1 <| S.ret3 Tryz.func137 rfl rfl rfl rfl (hR · _ _ ⟨rfl, rfl⟩)
 replace h := VM.cond_f V.toVI b8 h
 refine S.condF rfl b8 <| S.skip <| S.seq <| S.region <| mv rfl <| mv rfl <| mv rfl <| vv (opv_add rfl rfl) <| vv (opv_conv Tryz.underlying3 Tryz.underlying55 rfl) ?_
 obtain ⟨s9, hv10, h⟩ := VM.wr_some V.toVI h
 refine SO.vwrite' V rfl rfl rfl rfl hv10 <| SO.nil <| tt [(0, V.val), (2, .int .i64 a2), (6, .int .i64 0), (7, .int .i64 0), (8, errV 98 none), (9, .int .i64 t3), (10, .int .i64 t4)] rfl <| S.seq <| S.region <| mv rfl <| mv rfl <| mv rfl <| vv (opv_add rfl rfl) <| vv (opv_conv Tryz.underlying3 Tryz.underlying55 rfl) ?_
 obtain ⟨s11, hv12, h⟩ := VM.wr_some V.toVI h
 refine SO.vwrite' V rfl rfl rfl rfl hv12 <| SO.nil <| tt [(6, .int .i64 0), (7, .int .i64 0), (8, errV 98 none), (9, .int .i64 t3), (10, .int .i64 t4)] rfl <| S.seq <| S.region <| mv rfl <| mv rfl <| ag rfl <| ag rfl <| ag rfl <| SO.nil ?_
 obtain ⟨hq, rfl⟩ := VM.ret_some V.toVI h
 cases hq
 exact S.b1 <| S.b1 <| S.ret3 Tryz.func137 rfl rfl rfl rfl (hR · _ _ ⟨rfl, rfl⟩)
def untyped_Cost.f (a0 : Int) (a1 : Int) : Option ((Int × Bool)) :=
  bif decide (a1 < 0) then (some (0, false)) else (bif (a0 == 1) && (decide (a1 ≤ 8)) then ((chk (decide (0 ≤ a1))).bind fun _ => some (w64 ((bshl .i64 1 a1) + 1), true)) else (bif (a0 == 2) && (decide (a1 ≤ 5)) then ((chk (decide (0 ≤ a1))).bind fun _ => some (bshl .i64 1 a1, true)) else (bif ((decide (3 ≤ a0)) && (decide (a0 ≤ 7))) && (a1 == 0) then (some (4, true)) else (some (0, false)))))
set_option maxHeartbeats 8000000 in
set_option maxRecDepth 100000 in
theorem untyped_Cost.ct (a0 : Int) (a1 : Int) (r0 : Int) (r1 : Bool) (h : untyped_Cost.f a0 a1 = some (r0, r1)) :
    Ct Tryz.prog 183 [.int .i64 a0, .int .i64 a1] (fun _ => True) [] (fun u H' => u = .tuple #[.int .i64 r0, .bool r1] ∧ H' = []) := by
 unfold untyped_Cost.f at h
 refine Ct.intro (n := 39) Tryz.func183 rfl rfl rfl ?_
 intro R w0 F hF hR
 refine S.seq <| S.region <| ag rfl <| ag rfl <| SO.nil <| S.seq <| S.block <| S.seq <| S.region <| mv rfl <| vv (opv_lss rfl rfl) <| ag rfl <| SO.nil ?_
 rcases bool_or (decide (a1 < 0)) with b1 | b1
 ·replace h := cond_t b1 h
  refine S.condT rfl b1 <| S.seq <| S.region <| ag rfl <| ag rfl <| SO.nil ?_
  cases h
  exact S.ret2 Tryz.func183 rfl rfl rfl (hR · _ _ ⟨rfl, rfl⟩)
 replace h := cond_f b1 h
 refine S.condF rfl b1 <| S.seq <| S.region <| mv rfl <| vv (opv_eql rfl rfl) <| mv rfl ?_
 refine SO.cut 3 15 (.bool ((a0 == 1) && (decide (a1 ≤ 8)))) [F] (fun l2 hk2 => ?_) ?_
 ·rcases bool_or (a0 == 1) with b2 | b2
  ·exact SO.takeT rfl rfl rfl b2 <| mv rfl <| SO.takeT rfl rfl rfl b2 <| vv (opv_leq rfl rfl) <| vv (opv_pick_t' b2 rfl rfl) <| hk2.fitc (m := 3) rfl (and_t b2) rfl
  exact pf rfl rfl rfl b2 <| pf rfl rfl rfl b2 <| vv (opv_pick_f' b2 rfl rfl) <| hk2.fitc (m := 3) rfl (and_f b2) rfl
 refine ag rfl <| SO.nil <| tt [(0, .int .i64 a0), (1, .int .i64 a1), (4, .int .i64 0), (5, .bool false), (9, .bool ((a0 == 1) && (decide (a1 ≤ 8))))] rfl ?_
 rcases bool_or ((a0 == 1) && (decide (a1 ≤ 8))) with b3 | b3
 ·replace h := cond_t b3 h
  refine S.condT rfl b3 <| S.seq <| S.region <| mv rfl ?_
  obtain ⟨_, hc4, h⟩ := opt_bind h
  refine vv (opv_shl rfl rfl (of_decide_eq_true (chk_some hc4))) <| vv (opv_add rfl rfl) <| ag rfl <| ag rfl <| SO.nil ?_
  cases h
  exact S.ret2 Tryz.func183 rfl rfl rfl (hR · _ _ ⟨rfl, rfl⟩)
 replace h := cond_f b3 h
 refine S.condF rfl b3 <| S.seq <| S.region <| mv rfl <| vv (opv_eql rfl rfl) <| mv rfl ?_
 refine SO.cut 3 25 (.bool ((a0 == 2) && (decide (a1 ≤ 5)))) [F] (fun l2 hk2 => ?_) ?_
 ·rcases bool_or (a0 == 2) with b5 | b5
  ·exact SO.takeT rfl rfl rfl b5 <| mv rfl <| SO.takeT rfl rfl rfl b5 <| vv (opv_leq rfl rfl) <| vv (opv_pick_t' b5 rfl rfl) <| hk2.fitc (m := 3) rfl (and_t b5) rfl
  exact pf rfl rfl rfl b5 <| pf rfl rfl rfl b5 <| vv (opv_pick_f' b5 rfl rfl) <| hk2.fitc (m := 3) rfl (and_f b5) rfl
 refine ag rfl <| SO.nil ?_
 rcases bool_or ((a0 == 2) && (decide (a1 ≤ 5))) with b6 | b6
 ·replace h := cond_t b6 h
  refine S.condT rfl b6 <| S.seq <| S.region <| mv rfl ?_
  obtain ⟨_, hc7, h⟩ := opt_bind h
  refine vv (opv_shl rfl rfl (of_decide_eq_true (chk_some hc7))) <| ag rfl <| ag rfl <| SO.nil <| tt [(4, .int .i64 (bshl .i64 1 a1)), (5, .bool true)] rfl ?_
  cases h
  exact S.ret2 Tryz.func183 rfl rfl rfl (hR · _ _ ⟨rfl, rfl⟩)
 replace h := cond_f b6 h
 refine S.condF rfl b6 <| S.seq <| S.region <| mv rfl <| vv (opv_geq rfl rfl) <| mv rfl ?_
 refine SO.cut 3 34 (.bool ((decide (3 ≤ a0)) && (decide (a0 ≤ 7)))) [F] (fun l2 hk2 => ?_) ?_
 ·rcases bool_or (decide (3 ≤ a0)) with b8 | b8
  ·exact SO.takeT rfl rfl rfl b8 <| mv rfl <| SO.takeT rfl rfl rfl b8 <| vv (opv_leq rfl rfl) <| vv (opv_pick_t' b8 rfl rfl) <| hk2.fitc (m := 3) rfl (and_t b8) rfl
  exact pf rfl rfl rfl b8 <| pf rfl rfl rfl b8 <| vv (opv_pick_f' b8 rfl rfl) <| hk2.fitc (m := 3) rfl (and_f b8) rfl
 refine mv rfl ?_
 refine SO.cut 3 38 (.bool (((decide (3 ≤ a0)) && (decide (a0 ≤ 7))) && (a1 == 0))) [F] (fun l2 hk2 => ?_) ?_
 ·rcases bool_or ((decide (3 ≤ a0)) && (decide (a0 ≤ 7))) with b9 | b9
  ·exact SO.takeT rfl rfl rfl b9 <| mv rfl <| SO.takeT rfl rfl rfl b9 <| vv (opv_eql rfl rfl) <| vv (opv_pick_t' b9 rfl rfl) <| hk2.fitc (m := 3) rfl (and_t b9) rfl
  exact pf rfl rfl rfl b9 <| pf rfl rfl rfl b9 <| vv (opv_pick_f' b9 rfl rfl) <| hk2.fitc (m := 3) rfl (and_f b9) rfl
 refine ag rfl <| SO.nil <| tt [(4, .int .i64 0), (5, .bool false), (28, .bool (((decide (3 ≤ a0)) && (decide (a0 ≤ 7))) && (a1 == 0)))] rfl ?_
 rcases bool_or (((decide (3 ≤ a0)) && (decide (a0 ≤ 7))) && (a1 == 0)) with b10 | b10
 ·replace h := cond_t b10 h
  refine S.condT rfl b10 <| S.seq <| S.region <| ag rfl <| ag rfl <| SO.nil ?_
  cases h
  exact S.ret2 Tryz.func183 rfl rfl rfl (hR · _ _ ⟨rfl, rfl⟩)
 replace h := cond_f b10 h
 refine S.condF rfl b10 <| S.skip <| S.inBlock <| S.seq <| S.region <| ag rfl <| ag rfl <| SO.nil ?_
 cases h
 exact S.ret2 Tryz.func183 rfl rfl rfl (hR · _ _ ⟨rfl, rfl⟩)
def untyped_Left.f (a1 : Int) : VM (Int) :=
  (lay_Is.f a1 1).bind fun t1 => bif !t1 then (VM.ret 0) else ((lay_Field.f a1 1).bind fun t5 => (lay_Field.f a1 2).bind fun t8 => VM.ret (if w64 (t5 - t8) < 0 then 0 else w64 (t5 - t8)))
set_option maxHeartbeats 8000000 in
set_option maxRecDepth 100000 in
theorem untyped_Left.ct (V : VW Tryz.prog) (a1 : Int) (r0 : Int) (s s' : V.S) (h : VM.run V.toVI (untyped_Left.f a1) s = some (r0, s')) :
    Ct Tryz.prog 184 [V.val, .int .i64 a1] (fun _ => True) [V.rep s] (fun u H' => u = .int .i64 r0 ∧ H' = [V.rep s']) := by
 unfold untyped_Left.f at h
 refine Ct.intro (n := 17) Tryz.func184 rfl rfl rfl ?_
 intro R w0 F hF hR
 refine S.seq <| S.region <| ag rfl <| SO.nil <| S.seq <| S.seq <| S.region <| mv rfl <| mv rfl ?_
 obtain ⟨t1, s3, ht2, h⟩ := VM.bind_some V.toVI h
 refine SO.call (pre := [V.rep _]) rfl Tryz.call29 rfl rfl rfl (lay_Is.ct V _ _ _ _ _ ht2) trivial ?_
 rintro _ _ ⟨rfl, rfl⟩
 refine vv (opv_not rfl) <| SO.nil ?_
 rcases bool_or (!t1) with b4 | b4
 ·replace h := VM.cond_t V.toVI b4 h
  refine S.condT rfl b4 <| S.seq <| S.region <| ag rfl <| SO.nil ?_
  obtain ⟨hq, rfl⟩ := VM.ret_some V.toVI h
  cases hq
  exact S.b1 <| S.b1 <| S.ret1 Tryz.func184 rfl rfl (hR · _ _ ⟨rfl, rfl⟩)
 replace h := VM.cond_f V.toVI b4 h
 refine S.condF rfl b4 <| S.skip <| S.seq <| S.region <| mv rfl <| mv rfl ?_
 obtain ⟨t5, s7, ht6, h⟩ := VM.bind_some V.toVI h
 refine SO.call (pre := [V.rep _]) rfl Tryz.call27 rfl rfl rfl (lay_Field.ct V _ _ _ _ _ ht6) trivial ?_
 rintro _ _ ⟨rfl, rfl⟩
 refine mv rfl <| mv rfl ?_
 obtain ⟨t8, s10, ht9, h⟩ := VM.bind_some V.toVI h
 refine SO.call (pre := [V.rep _]) rfl Tryz.call27 rfl rfl rfl (lay_Field.ct V _ _ _ _ _ ht9) trivial ?_
 rintro _ _ ⟨rfl, rfl⟩
 refine vv (opv_sub rfl rfl) <| vv (opv_max rfl rfl) <| ag rfl <| SO.nil <| tt [(4, .int .i64 (if w64 (t5 - t8) < 0 then 0 else w64 (t5 - t8)))] rfl ?_
 obtain ⟨hq, rfl⟩ := VM.ret_some V.toVI h
 cases hq
 exact S.b1 <| S.b1 <| S.ret1 Tryz.func184 rfl rfl (hR · _ _ ⟨rfl, rfl⟩)
def untyped_may.f (k : Nat) (a1 : Int) (a2 : Int) (a3 : Int) (a4 : Int) : VM ((Int × (Option Int))) :=
  (VM.opt (lay_Slot.f a1 0)).bind fun (t1, t2) => (VM.opt (lay_Slot.f a2 0)).bind fun (t4, t5) => (cspace_Cap.f k a1).bind fun t7 => (VM.opt (untyped_Cost.f a3 a4)).bind fun (t11, t12) => bif (!t2) || (!t5) then (VM.ret (0, (some 2))) else ((bif t7.Kind != 1 then (VM.ret true) else ((lay_Is.f t7.Obj 1).bind fun t19 => VM.ret (!t19))).bind fun c17 => bif c17 then (VM.ret (0, (some 5))) else ((VM.opt (rights_Has.f t7 2)).bind fun t24 => bif !t24 then (VM.ret (0, (some 6))) else ((cspace_Cap.f k a2).bind fun t27 => (bif t27.Kind != 0 then (VM.ret true) else ((cdt_Parent.f a2).bind fun t33 => VM.ret (decide (0 ≤ t33)))).bind fun c31 => bif c31 then (VM.ret (0, (some 8))) else (bif !t12 then (VM.ret (0, (some 1))) else ((untyped_Left.f t7.Obj).bind fun t39 => bif decide (t39 < t11) then (VM.ret (0, (some 14))) else (VM.ret (t11, none)))))))
set_option maxHeartbeats 8000000 in
set_option maxRecDepth 100000 in
theorem untyped_may.ct (V : VW Tryz.prog) (k : Nat) (a1 : Int) (a2 : Int) (a3 : Int) (a4 : Int) (r0 : Int) (r1 : Option Int) (s s' : V.S) (h : VM.run V.toVI (untyped_may.f k a1 a2 a3 a4) s = some ((r0, r1), s')) :
    Ct Tryz.prog 136 [V.val, .int .i64 a1, .int .i64 a2, .int .i64 a3, .int .i64 a4] (fun _ => True) [V.rep s] (fun u H' => u = .tuple #[.int .i64 r0, errV 98 r1] ∧ H' = [V.rep s']) := by
 unfold untyped_may.f at h
 refine Ct.intro (n := 89) Tryz.func136 rfl rfl rfl ?_
 intro R w0 F hF hR
 refine S.seq <| S.region <| ag rfl <| ag rfl <| SO.nil <| S.seq <| S.region <| mv rfl ?_
 obtain ⟨⟨t1, t2⟩, ht3, h⟩ := VM.opt_some V.toVI h
 refine SO.call (pre := []) rfl Tryz.call31 rfl rfl rfl (lay_Slot.ct _ _ _ _ ht3) trivial ?_
 rintro _ _ ⟨rfl, rfl⟩
 refine mv rfl <| vv (opv_extract rfl rfl) <| vv (opv_extract rfl rfl) <| ag rfl <| ag rfl <| SO.nil <| S.seq <| S.region <| mv rfl ?_
 obtain ⟨⟨t4, t5⟩, ht6, h⟩ := VM.opt_some V.toVI h
 refine SO.call (pre := []) rfl Tryz.call31 rfl rfl rfl (lay_Slot.ct _ _ _ _ ht6) trivial ?_
 rintro _ _ ⟨rfl, rfl⟩
 refine mv rfl <| vv (opv_extract rfl rfl) <| vv (opv_extract rfl rfl) <| ag rfl <| ag rfl <| SO.nil <| tt [(0, V.val), (1, .int .i64 a1), (2, .int .i64 a2), (3, .int .i64 a3), (4, .int .i64 a4), (10, .int .i64 0), (11, errV 98 none), (13, .bool t2), (15, .bool t5)] rfl <| S.seq <| S.region <| mv rfl <| mv rfl ?_
 obtain ⟨t7, s9, ht8, h⟩ := VM.bind_some V.toVI h
 refine SO.call (pre := [V.rep _]) rfl Tryz.call14 rfl rfl rfl (cspace_Cap.ct V _ _ _ _ _ ht8) trivial ?_
 rintro _ _ ⟨rfl, rfl⟩
 refine SO.alloc rfl Tryz.zeroValue45 rfl fun b10 => SO.storeN Tryz.sizeOf45 rfl rfl rfl rfl rfl rfl <| SO.nil <| S.seq <| S.region <| mv rfl <| mv rfl ?_
 obtain ⟨⟨t11, t12⟩, ht13, h⟩ := VM.opt_some V.toVI h
 refine SO.call (pre := []) rfl Tryz.call183 rfl rfl rfl (untyped_Cost.ct _ _ _ _ ht13) trivial ?_
 rintro _ _ ⟨rfl, rfl⟩
 refine mv rfl <| vv (opv_extract rfl rfl) <| vv (opv_extract rfl rfl) <| ag rfl <| ag rfl <| SO.nil <| tt [(0, V.val), (2, .int .i64 a2), (10, .int .i64 0), (11, errV 98 none), (13, .bool t2), (15, .bool t5), (16, bp b10 0), (17, .int .i64 t11), (18, .bool t12)] rfl <| S.seq <| S.block <| S.seq <| S.region <| mv rfl <| vv (opv_not rfl) <| mv rfl ?_
 refine SO.cut 3 44 (.bool ((!t2) || (!t5))) [Box b10 [.int .i64 t7.Kind, .int .i64 t7.Rights, .int .i64 t7.Obj, .int .i64 t7.Badge, .int .i64 t7.Guard, .int .i64 t7.Bits], V.rep s9, F] (fun l2 hk2 => ?_) ?_
 ·rcases bool_or (!t2) with b14 | b14
  ·exact pf rfl rfl rfl b14 <| pf rfl rfl rfl b14 <| vv (opv_pick_t' b14 rfl rfl) <| SO.b2 <| SO.b2 <| SO.b2 <| hk2.fitc (m := 3) rfl (or_t b14) rfl
  exact SO.takeT rfl rfl rfl b14 <| mv rfl <| SO.takeT rfl rfl rfl b14 <| vv (opv_not rfl) <| vv (opv_pick_f' b14 rfl rfl) <| SO.b2 <| SO.b2 <| SO.b2 <| hk2.fitc (m := 3) rfl (or_f b14) rfl
 refine ag rfl <| SO.nil ?_
 rcases bool_or ((!t2) || (!t5)) with b15 | b15
 ·replace h := VM.cond_t V.toVI b15 h
  refine S.condT rfl b15 <| S.seq <| S.region <| vv (opv_iface Tryz.underlying98 rfl rfl) <| ag rfl <| ag rfl <| SO.nil <| tt [(10, .int .i64 0), (11, errV 98 (some 2))] rfl ?_
  obtain ⟨hq, rfl⟩ := VM.ret_some V.toVI h
  cases hq
  exact S.drop <| S.b1 <| S.b1 <| S.ret2 Tryz.func136 rfl rfl rfl (hR · _ _ ⟨rfl, rfl⟩)
 replace h := VM.cond_f V.toVI b15 h
 refine S.condF rfl b15 <| S.seq <| S.region <| fa Tryz.underlying45 rfl Tryz.sizeOf3 rfl rfl <| ld Tryz.isAgg3 rfl rfl <| vv (opv_neq rfl rfl) <| mv rfl ?_
 obtain ⟨c17, s22, hc18, hgk⟩ := VM.bind_some V.toVI h
 refine SO.cut 6 56 (.bool c17) [Box b10 [.int .i64 t7.Kind, .int .i64 t7.Rights, .int .i64 t7.Obj, .int .i64 t7.Badge, .int .i64 t7.Guard, .int .i64 t7.Bits], V.rep s22, F] (fun l2 hk2 => ?_) ?_
 ·clear hgk
  replace h := hc18
  rcases bool_or (t7.Kind != 1) with b16 | b16
  ·replace h := VM.cond_t V.toVI b16 h
   refine pf rfl rfl rfl b16 <| pf rfl rfl rfl b16 <| pf rfl rfl rfl b16 <| pf rfl rfl rfl b16 <| pf rfl rfl rfl b16 ?_
   obtain ⟨hq, rfl⟩ := VM.ret_some V.toVI h
   cases hq
   exact vv (opv_pick_t' b16 rfl rfl) <| SO.b2 <| SO.b2 <| SO.b2 <| hk2.fitc (m := 6) rfl (rfl) rfl
  replace h := VM.cond_f V.toVI b16 h
  refine SO.takeT rfl rfl rfl b16 <| mv rfl <| SO.takeT rfl rfl rfl b16 <| fa Tryz.underlying45 rfl Tryz.sizeOf3 rfl rfl <| SO.takeT rfl rfl rfl b16 <| ld Tryz.isAgg3 rfl rfl <| SO.takeT rfl rfl rfl b16 ?_
  obtain ⟨t19, s21, ht20, h⟩ := VM.bind_some V.toVI h
  refine SO.b1 <| SO.call (pre := [V.rep _]) rfl Tryz.call29 rfl rfl rfl (lay_Is.ct V _ _ _ _ _ ht20) trivial ?_
  rintro _ _ ⟨rfl, rfl⟩
  refine SO.takeT rfl rfl rfl b16 <| vv (opv_not rfl) ?_
  obtain ⟨hq, rfl⟩ := VM.ret_some V.toVI h
  cases hq
  exact vv (opv_pick_f' b16 rfl rfl) <| SO.b2 <| SO.b1 <| SO.b2 <| hk2.fitc (m := 6) rfl (rfl) rfl
 clear hc18
 replace h := hgk
 refine ag rfl <| SO.nil <| tt [(0, V.val), (2, .int .i64 a2), (10, .int .i64 0), (11, errV 98 none), (16, bp b10 0), (17, .int .i64 t11), (18, .bool t12), (46, .bool c17)] rfl ?_
 rcases bool_or c17 with b23 | b23
 ·replace h := VM.cond_t V.toVI b23 h
  refine S.condT rfl b23 <| S.seq <| S.region <| vv (opv_iface Tryz.underlying98 rfl rfl) <| ag rfl <| ag rfl <| SO.nil <| tt [(10, .int .i64 0), (11, errV 98 (some 5))] rfl ?_
  obtain ⟨hq, rfl⟩ := VM.ret_some V.toVI h
  cases hq
  exact S.drop <| S.b1 <| S.b1 <| S.ret2 Tryz.func136 rfl rfl rfl (hR · _ _ ⟨rfl, rfl⟩)
 replace h := VM.cond_f V.toVI b23 h
 refine S.condF rfl b23 <| S.seq <| S.region <| SO.loadN rfl Tryz.isAgg45 Tryz.sizeOf45 rfl rfl rfl ?_
 obtain ⟨t24, ht25, h⟩ := VM.opt_some V.toVI h
 refine SO.call (pre := []) rfl Tryz.call118 rfl rfl rfl (rights_Has.ct _ _ _ ht25) trivial ?_
 rintro _ _ ⟨rfl, rfl⟩
 refine vv (opv_not rfl) <| ag rfl <| SO.nil ?_
 rcases bool_or (!t24) with b26 | b26
 ·replace h := VM.cond_t V.toVI b26 h
  refine S.condT rfl b26 <| S.seq <| S.region <| vv (opv_iface Tryz.underlying98 rfl rfl) <| ag rfl <| ag rfl <| SO.nil <| tt [(10, .int .i64 0), (11, errV 98 (some 6))] rfl ?_
  obtain ⟨hq, rfl⟩ := VM.ret_some V.toVI h
  cases hq
  exact S.drop <| S.b1 <| S.b1 <| S.ret2 Tryz.func136 rfl rfl rfl (hR · _ _ ⟨rfl, rfl⟩)
 replace h := VM.cond_f V.toVI b26 h
 refine S.condF rfl b26 <| S.seq <| S.region <| mv rfl <| mv rfl ?_
 obtain ⟨t27, s29, ht28, h⟩ := VM.bind_some V.toVI h
 refine SO.b1 <| SO.call (pre := [V.rep _]) rfl Tryz.call14 rfl rfl rfl (cspace_Cap.ct V _ _ _ _ _ ht28) trivial ?_
 rintro _ _ ⟨rfl, rfl⟩
 refine vv (opv_field Tryz.underlying45 rfl Tryz.isAgg3 rfl rfl) <| vv (opv_neq rfl rfl) <| mv rfl ?_
 obtain ⟨c31, s36, hc32, hgk⟩ := VM.bind_some V.toVI h
 refine SO.cut 5 74 (.bool c31) [V.rep s36, Box b10 [.int .i64 t7.Kind, .int .i64 t7.Rights, .int .i64 t7.Obj, .int .i64 t7.Badge, .int .i64 t7.Guard, .int .i64 t7.Bits], F] (fun l2 hk2 => ?_) ?_
 ·clear hgk
  replace h := hc32
  rcases bool_or (t27.Kind != 0) with b30 | b30
  ·replace h := VM.cond_t V.toVI b30 h
   refine pf rfl rfl rfl b30 <| pf rfl rfl rfl b30 <| pf rfl rfl rfl b30 <| pf rfl rfl rfl b30 ?_
   obtain ⟨hq, rfl⟩ := VM.ret_some V.toVI h
   cases hq
   exact vv (opv_pick_t' b30 rfl rfl) <| SO.b2 <| SO.b2 <| SO.b2 <| hk2.fitc (m := 5) rfl (rfl) rfl
  replace h := VM.cond_f V.toVI b30 h
  refine SO.takeT rfl rfl rfl b30 <| mv rfl <| SO.takeT rfl rfl rfl b30 <| mv rfl <| SO.takeT rfl rfl rfl b30 ?_
  obtain ⟨t33, s35, ht34, h⟩ := VM.bind_some V.toVI h
  refine SO.call (pre := [V.rep _]) rfl Tryz.call177 rfl rfl rfl (cdt_Parent.ct V _ _ _ _ ht34) trivial ?_
  rintro _ _ ⟨rfl, rfl⟩
  refine SO.takeT rfl rfl rfl b30 <| vv (opv_geq rfl rfl) ?_
  obtain ⟨hq, rfl⟩ := VM.ret_some V.toVI h
  cases hq
  exact vv (opv_pick_f' b30 rfl rfl) <| SO.b2 <| SO.b2 <| SO.b2 <| hk2.fitc (m := 5) rfl (rfl) rfl
 clear hc32
 replace h := hgk
 refine ag rfl <| SO.nil <| tt [(0, V.val), (10, .int .i64 0), (11, errV 98 none), (16, bp b10 0), (17, .int .i64 t11), (18, .bool t12), (63, .bool c31)] rfl ?_
 rcases bool_or c31 with b37 | b37
 ·replace h := VM.cond_t V.toVI b37 h
  refine S.condT rfl b37 <| S.seq <| S.region <| vv (opv_iface Tryz.underlying98 rfl rfl) <| ag rfl <| ag rfl <| SO.nil ?_
  obtain ⟨hq, rfl⟩ := VM.ret_some V.toVI h
  cases hq
  exact S.b1 <| S.drop <| S.b1 <| S.b1 <| S.ret2 Tryz.func136 rfl rfl rfl (hR · _ _ ⟨rfl, rfl⟩)
 replace h := VM.cond_f V.toVI b37 h
 refine S.condF rfl b37 <| S.seq <| S.region <| mv rfl <| vv (opv_not rfl) <| ag rfl <| SO.nil ?_
 rcases bool_or (!t12) with b38 | b38
 ·replace h := VM.cond_t V.toVI b38 h
  refine S.condT rfl b38 <| S.seq <| S.region <| vv (opv_iface Tryz.underlying98 rfl rfl) <| ag rfl <| ag rfl <| SO.nil <| tt [(10, .int .i64 0), (11, errV 98 (some 1))] rfl ?_
  obtain ⟨hq, rfl⟩ := VM.ret_some V.toVI h
  cases hq
  exact S.b1 <| S.drop <| S.b1 <| S.b1 <| S.ret2 Tryz.func136 rfl rfl rfl (hR · _ _ ⟨rfl, rfl⟩)
 replace h := VM.cond_f V.toVI b38 h
 refine S.condF rfl b38 <| S.seq <| S.region <| mv rfl <| mv rfl <| fa Tryz.underlying45 rfl Tryz.sizeOf3 rfl rfl <| SO.b1 <| ld Tryz.isAgg3 rfl rfl ?_
 obtain ⟨t39, s41, ht40, h⟩ := VM.bind_some V.toVI h
 refine SO.b1 <| SO.call (pre := [V.rep _]) rfl Tryz.call184 rfl rfl rfl (untyped_Left.ct V _ _ _ _ ht40) trivial ?_
 rintro _ _ ⟨rfl, rfl⟩
 refine vv (opv_gtr rfl rfl) <| ag rfl <| SO.nil <| tt [(10, .int .i64 0), (11, errV 98 none), (17, .int .i64 t11), (80, .bool (decide (t39 < t11)))] rfl ?_
 rcases bool_or (decide (t39 < t11)) with b42 | b42
 ·replace h := VM.cond_t V.toVI b42 h
  refine S.condT rfl b42 <| S.seq <| S.region <| vv (opv_iface Tryz.underlying98 rfl rfl) <| ag rfl <| ag rfl <| SO.nil ?_
  obtain ⟨hq, rfl⟩ := VM.ret_some V.toVI h
  cases hq
  exact S.b1 <| S.drop <| S.b1 <| S.b1 <| S.ret2 Tryz.func136 rfl rfl rfl (hR · _ _ ⟨rfl, rfl⟩)
 replace h := VM.cond_f V.toVI b42 h
 refine S.condF rfl b42 <| S.skip <| S.inBlock <| S.seq <| S.region <| mv rfl <| ag rfl <| ag rfl <| SO.nil ?_
 obtain ⟨hq, rfl⟩ := VM.ret_some V.toVI h
 cases hq
 exact S.b1 <| S.drop <| S.b1 <| S.b1 <| S.ret2 Tryz.func136 rfl rfl rfl (hR · _ _ ⟨rfl, rfl⟩)
def untyped_Retype.l2 (t9 : Int) : Nat → Int → VM (Unit)
  | 0, _ => VM.fail
  | k + 1, x18_2 => bif decide (x18_2 ≤ 7) then ((lay_Put.f t9 x18_2 0).bind fun _ => untyped_Retype.l2 t9 k (w64 (x18_2 + 1))) else (VM.ret ())
def untyped_Retype.f (k : Nat) (a1 : Int) (a2 : Int) (a3 : Int) (a4 : Int) : VM ((Int × (Option Int))) :=
  (untyped_may.f k a1 a2 a3 a4).bind fun (t1, t2) => bif t2.isSome then (VM.ret (0, t2)) else ((bif a3 == 2 then ((VM.opt (chk (decide (0 ≤ a4)))).bind fun _ => VM.ret (bshl .i64 1 a4)) else (VM.ret (0 : Int))).bind fun j14_1 => (lay_Take.f j14_1 1).bind fun (t8, t9, t10) => bif t10.isSome then (VM.ret (0, t10)) else ((cspace_Cap.f k a1).bind fun t14 => (lay_Field.f t14.Obj 2).bind fun t17 => (lay_Put.f t14.Obj 2 (w64 (t17 + t1))).bind fun _ => (untyped_Retype.l2 t9 k 0).bind fun _ => (lay_Put.f t9 0 a3).bind fun _ => (bif a3 == 1 then ((VM.opt (chk (decide (0 ≤ a4)))).bind fun _ => (lay_Put.f t9 1 (bshl .i64 1 a4)).bind fun _ => VM.ret ()) else (bif a3 == 2 then ((lay_Put.f t9 1 t8).bind fun _ => (lay_Put.f t9 2 a4).bind fun _ => VM.ret ()) else (VM.ret ()))).bind fun _ => (cdt_Link.f a2 a1).bind fun t36 => bif t36.isSome then (VM.ret (0, t36)) else ((cspace_Set.f k a2 (⟨a3, 7, t9, 0, 0, 0⟩ : api_Cap)).bind fun t40 => VM.ret (t9, t40))))
set_option maxHeartbeats 8000000 in
set_option maxRecDepth 100000 in
theorem untyped_Retype.ct (V : VW Tryz.prog) (k : Nat) (a1 : Int) (a2 : Int) (a3 : Int) (a4 : Int) (r0 : Int) (r1 : Option Int) (s s' : V.S) (h : VM.run V.toVI (untyped_Retype.f k a1 a2 a3 a4) s = some ((r0, r1), s')) :
    Ct Tryz.prog 72 [V.val, .int .i64 a1, .int .i64 a2, .int .i64 a3, .int .i64 a4] (fun _ => True) [V.rep s] (fun u H' => u = .tuple #[.int .i64 r0, errV 98 r1] ∧ H' = [V.rep s']) := by
 unfold untyped_Retype.f at h
 refine Ct.intro (n := 102) Tryz.func72 rfl rfl rfl ?_
 intro R w0 F hF hR
 refine S.seq <| S.region <| ag rfl <| ag rfl <| SO.nil <| S.seq <| S.region <| mv rfl <| mv rfl <| mv rfl <| mv rfl <| mv rfl ?_
 obtain ⟨⟨t1, t2⟩, s4, ht3, h⟩ := VM.bind_some V.toVI h
 refine SO.call (pre := [V.rep _]) rfl Tryz.call136 rfl rfl rfl (untyped_may.ct V _ _ _ _ _ _ _ _ _ ht3) trivial ?_
 rintro _ _ ⟨rfl, rfl⟩
 refine mv rfl <| vv (opv_extract rfl rfl) <| vv (opv_extract rfl rfl) <| ag rfl <| ag rfl <| SO.nil <| tt [(0, V.val), (1, .int .i64 a1), (2, .int .i64 a2), (3, .int .i64 a3), (4, .int .i64 a4), (10, .int .i64 0), (11, errV 98 none), (12, .int .i64 t1), (13, errV 98 t2)] rfl <| S.seq <| S.seq <| S.region <| mv rfl <| vv (opv_neqN (e := t2) Tryz.underlying74 rfl) <| SO.nil ?_
 rcases bool_or t2.isSome with b5 | b5
 ·replace h := VM.cond_t V.toVI b5 h
  refine S.condT rfl b5 <| S.seq <| S.region <| mv rfl <| ag rfl <| ag rfl <| SO.nil <| tt [(10, .int .i64 0), (11, errV 98 t2)] rfl ?_
  obtain ⟨hq, rfl⟩ := VM.ret_some V.toVI h
  cases hq
  exact S.b1 <| S.b1 <| S.ret2 Tryz.func72 rfl rfl rfl (hR · _ _ ⟨rfl, rfl⟩)
 replace h := VM.cond_f V.toVI b5 h
 refine S.condF rfl b5 <| S.skip <| S.seq <| S.region <| ag rfl <| SO.nil <| S.seq <| S.seq <| S.region <| mv rfl <| vv (opv_eql rfl rfl) <| SO.nil ?_
 obtain ⟨j14_1, s_1, hC1, hJ1⟩ := VM.bind_some V.toVI h
 clear h
 refine S.cutP (G := Unit) (fun _ => True) (fun _ => [(0, V.val), (1, .int .i64 a1), (2, .int .i64 a2), (3, .int .i64 a3), (4, .int .i64 a4), (10, .int .i64 0), (11, errV 98 none), (12, .int .i64 t1), (14, .int .i64 j14_1)]) (fun _ => [V.rep s_1, F]) (fun hk1 => ?_) ?_
 ·replace h := hC1
  rcases bool_or (a3 == 2) with b6 | b6
  ·replace h := VM.cond_t V.toVI b6 h
   refine S.condT rfl b6 <| S.region <| mv rfl ?_
   obtain ⟨_, hc7, h⟩ := VM.opt_some V.toVI h
   refine vv (opv_shl rfl rfl (of_decide_eq_true (chk_some hc7))) <| ag rfl <| SO.nil <| tt [(0, V.val), (1, .int .i64 a1), (2, .int .i64 a2), (3, .int .i64 a3), (4, .int .i64 a4), (10, .int .i64 0), (11, errV 98 none), (12, .int .i64 t1), (14, .int .i64 (bshl .i64 1 a4))] rfl ?_
   obtain ⟨hq, rfl⟩ := VM.ret_some V.toVI h
   cases hq
   refine S.b1 <| S.b1 ?_
   refine S.to ?_ (hk1 () trivial)
   exact ⟨rfl, rfl, rfl, rfl, rfl, rfl, rfl, rfl, rfl, trivial⟩
  replace h := VM.cond_f V.toVI b6 h
  refine S.condF rfl b6 <| S.skip ?_
  obtain ⟨hq, rfl⟩ := VM.ret_some V.toVI h
  cases hq
  refine S.b1 <| S.b1 ?_
  refine S.to ?_ (hk1 () trivial)
  exact ⟨rfl, rfl, rfl, rfl, rfl, rfl, rfl, rfl, rfl, trivial⟩
 rintro _ -
 replace h := hJ1
 refine S.seq <| S.region <| mv rfl <| mv rfl ?_
 obtain ⟨⟨t8, t9, t10⟩, s12, ht11, h⟩ := VM.bind_some V.toVI h
 refine SO.call (pre := [V.rep _]) rfl Tryz.call137 rfl rfl rfl (lay_Take.ct V _ _ _ _ _ _ _ ht11) trivial ?_
 rintro _ _ ⟨rfl, rfl⟩
 refine mv rfl <| vv (opv_extract rfl rfl) <| vv (opv_extract rfl rfl) <| vv (opv_extract rfl rfl) <| ag rfl <| ag rfl <| ag rfl <| SO.nil <| tt [(0, V.val), (1, .int .i64 a1), (2, .int .i64 a2), (3, .int .i64 a3), (4, .int .i64 a4), (10, .int .i64 0), (11, errV 98 none), (12, .int .i64 t1), (15, .int .i64 t8), (16, .int .i64 t9), (13, errV 98 t10)] rfl <| S.seq <| S.seq <| S.region <| mv rfl <| vv (opv_neqN (e := t10) Tryz.underlying74 rfl) <| SO.nil ?_
 rcases bool_or t10.isSome with b13 | b13
 ·replace h := VM.cond_t V.toVI b13 h
  refine S.condT rfl b13 <| S.seq <| S.region <| mv rfl <| ag rfl <| ag rfl <| SO.nil <| tt [(10, .int .i64 0), (11, errV 98 t10)] rfl ?_
  obtain ⟨hq, rfl⟩ := VM.ret_some V.toVI h
  cases hq
  exact S.b1 <| S.b1 <| S.ret2 Tryz.func72 rfl rfl rfl (hR · _ _ ⟨rfl, rfl⟩)
 replace h := VM.cond_f V.toVI b13 h
 refine S.condF rfl b13 <| S.skip <| S.seq <| S.region <| mv rfl <| mv rfl ?_
 obtain ⟨t14, s16, ht15, h⟩ := VM.bind_some V.toVI h
 refine SO.call (pre := [V.rep _]) rfl Tryz.call14 rfl rfl rfl (cspace_Cap.ct V _ _ _ _ _ ht15) trivial ?_
 rintro _ _ ⟨rfl, rfl⟩
 refine vv (opv_field Tryz.underlying45 rfl Tryz.isAgg3 rfl rfl) <| ag rfl <| SO.nil <| tt [(0, V.val), (1, .int .i64 a1), (2, .int .i64 a2), (3, .int .i64 a3), (4, .int .i64 a4), (10, .int .i64 0), (11, errV 98 none), (12, .int .i64 t1), (15, .int .i64 t8), (16, .int .i64 t9), (17, .int .i64 t14.Obj)] rfl <| S.seq <| S.region <| mv rfl <| mv rfl <| mv rfl <| mv rfl ?_
 obtain ⟨t17, s19, ht18, h⟩ := VM.bind_some V.toVI h
 refine SO.call (pre := [V.rep _]) rfl Tryz.call27 rfl rfl rfl (lay_Field.ct V _ _ _ _ _ ht18) trivial ?_
 rintro _ _ ⟨rfl, rfl⟩
 refine mv rfl <| vv (opv_add rfl rfl) ?_
 obtain ⟨_, s21, ht20, h⟩ := VM.bind_some V.toVI h
 refine SO.call (pre := [V.rep _]) rfl Tryz.call55 rfl rfl rfl (lay_Put.ct V _ _ _ _ _ ht20) trivial ?_
 rintro _ _ ⟨rfl, rfl⟩
 refine SO.nil <| tt [(0, V.val), (1, .int .i64 a1), (2, .int .i64 a2), (3, .int .i64 a3), (4, .int .i64 a4), (10, .int .i64 0), (11, errV 98 none), (15, .int .i64 t8), (16, .int .i64 t9)] rfl <| S.seq <| S.seq <| S.region <| ag rfl <| SO.nil ?_
 obtain ⟨_, so_2, hlp2, h⟩ := VM.bind_some V.toVI h
 refine S.b1 <| S.b1 <| tt [(18, .int .i64 0), (0, V.val), (1, .int .i64 a1), (2, .int .i64 a2), (3, .int .i64 a3), (4, .int .i64 a4), (10, .int .i64 0), (11, errV 98 none), (15, .int .i64 t8), (16, .int .i64 t9)] rfl ?_
 refine S.forloop (X := (Int × V.S) × Unit) (O := (Unit) × V.S) (fun m x => VM.run V.toVI (untyped_Retype.l2 t9 m x.1.1) x.1.2) (fun x => match x with | ((x18_2, sx_2), _) => [(18, .int .i64 x18_2), (0, V.val), (1, .int .i64 a1), (2, .int .i64 a2), (3, .int .i64 a3), (4, .int .i64 a4), (10, .int .i64 0), (11, errV 98 none), (15, .int .i64 t8), (16, .int .i64 t9)]) (fun x => match x with | ((x18_2, sx_2), _) => [V.rep sx_2, F]) (fun Sk oo => match oo with | (_, so_2) => ∀ _ : Unit, Sk [(0, V.val), (1, .int .i64 a1), (2, .int .i64 a2), (3, .int .i64 a3), (4, .int .i64 a4), (10, .int .i64 0), (11, errV 98 none), (15, .int .i64 t8), (16, .int .i64 t9)] [V.rep so_2, F]) (fun _ => rfl) ?_ (m := k) (x := ((0, s21), ())) hlp2 ?_
 ·clear h hlp2
  intro k x o_2 h hK2 ih2
  obtain ⟨⟨x18_2, sx_2⟩, _⟩ := x
  obtain ⟨o_2, so_2_⟩ := o_2
  replace h : VM.run V.toVI (untyped_Retype.l2 t9 (k + 1) x18_2) sx_2 = some (o_2, so_2_) := h
  first | rw [untyped_Retype.l2] at h | unfold untyped_Retype.l2 at h
  refine S.seq <| S.seq <| S.region <| mv rfl <| vv (opv_leq rfl rfl) <| SO.nil ?_
  rcases bool_or (decide (x18_2 ≤ 7)) with b22 | b22
  ·replace h := VM.cond_t V.toVI b22 h
   refine S.condT rfl b22 <| S.skip <| S.seq <| S.block <| S.region <| mv rfl <| mv rfl <| mv rfl ?_
   obtain ⟨_, s24, ht23, h⟩ := VM.bind_some V.toVI h
   refine SO.call (pre := [V.rep _]) rfl Tryz.call55 rfl rfl rfl (lay_Put.ct V _ _ _ _ _ ht23) trivial ?_
   rintro _ _ ⟨rfl, rfl⟩
   refine SO.nil <| S.inBlock <| S.region <| mv rfl <| vv (opv_add rfl rfl) <| ag rfl <| SO.nil <| tt [(18, .int .i64 (w64 (x18_2 + 1))), (0, V.val), (1, .int .i64 a1), (2, .int .i64 a2), (3, .int .i64 a3), (4, .int .i64 a4), (10, .int .i64 0), (11, errV 98 none), (15, .int .i64 t8), (16, .int .i64 t9)] rfl <| S.b1 <| S.b1 ?_
   refine S.to ?_ (ih2 ((w64 (x18_2 + 1), s24), ()) h)
   exact ⟨rfl, rfl, rfl, rfl, rfl, rfl, rfl, rfl, rfl, rfl, trivial⟩
  replace h := VM.cond_f V.toVI b22 h
  refine S.condF rfl b22 <| S.exit rfl ?_
  obtain ⟨hq, rfl⟩ := VM.ret_some V.toVI h
  cases hq
  refine S.b1 <| S.b1 ?_
  refine S.to ?_ (hK2 ())
  exact ⟨rfl, rfl, rfl, rfl, rfl, rfl, rfl, rfl, rfl, trivial⟩
 rintro _
 refine S.seq <| S.region <| mv rfl <| mv rfl <| mv rfl ?_
 obtain ⟨_, s26, ht25, h⟩ := VM.bind_some V.toVI h
 refine SO.call (pre := [V.rep _]) rfl Tryz.call55 rfl rfl rfl (lay_Put.ct V _ _ _ _ _ ht25) trivial ?_
 rintro _ _ ⟨rfl, rfl⟩
 refine SO.nil <| S.seq <| S.seq <| S.region <| mv rfl <| SO.nil ?_
 obtain ⟨_, s_3, hC3, hJ3⟩ := VM.bind_some V.toVI h
 clear h
 refine S.cutP (G := Unit) (fun _ => True) (fun _ => [(0, V.val), (1, .int .i64 a1), (2, .int .i64 a2), (3, .int .i64 a3), (10, .int .i64 0), (11, errV 98 none), (16, .int .i64 t9)]) (fun _ => [V.rep s_3, F]) (fun hk3 => ?_) ?_
 ·replace h := hC3
  refine S.block <| S.seq <| S.region <| vv (opv_eql rfl rfl) <| ag rfl <| SO.nil ?_
  rcases bool_or (a3 == 1) with b27 | b27
  ·replace h := VM.cond_t V.toVI b27 h
   refine S.condT rfl b27 <| S.region <| mv rfl <| mv rfl <| mv rfl ?_
   obtain ⟨_, hc28, h⟩ := VM.opt_some V.toVI h
   refine vv (opv_shl rfl rfl (of_decide_eq_true (chk_some hc28))) ?_
   obtain ⟨_, s30, ht29, h⟩ := VM.bind_some V.toVI h
   refine SO.call (pre := [V.rep _]) rfl Tryz.call55 rfl rfl rfl (lay_Put.ct V _ _ _ _ _ ht29) trivial ?_
   rintro _ _ ⟨rfl, rfl⟩
   refine SO.nil <| tt [(0, V.val), (1, .int .i64 a1), (2, .int .i64 a2), (3, .int .i64 a3), (10, .int .i64 0), (11, errV 98 none), (16, .int .i64 t9)] rfl <| S.inBlock ?_
   obtain ⟨hq, rfl⟩ := VM.ret_some V.toVI h
   cases hq
   refine S.b1 <| S.b1 ?_
   refine S.to ?_ (hk3 () trivial)
   exact ⟨rfl, rfl, rfl, rfl, rfl, rfl, rfl, trivial⟩
  replace h := VM.cond_f V.toVI b27 h
  refine S.condF rfl b27 <| S.seq <| S.region <| vv (opv_eql rfl rfl) <| ag rfl <| SO.nil <| tt [(0, V.val), (1, .int .i64 a1), (2, .int .i64 a2), (3, .int .i64 a3), (4, .int .i64 a4), (10, .int .i64 0), (11, errV 98 none), (15, .int .i64 t8), (16, .int .i64 t9), (78, .bool (a3 == 2))] rfl ?_
  rcases bool_or (a3 == 2) with b31 | b31
  ·replace h := VM.cond_t V.toVI b31 h
   refine S.condT rfl b31 <| S.seq <| S.region <| mv rfl <| mv rfl <| mv rfl ?_
   obtain ⟨_, s33, ht32, h⟩ := VM.bind_some V.toVI h
   refine SO.call (pre := [V.rep _]) rfl Tryz.call55 rfl rfl rfl (lay_Put.ct V _ _ _ _ _ ht32) trivial ?_
   rintro _ _ ⟨rfl, rfl⟩
   refine SO.nil <| S.region <| mv rfl <| mv rfl <| mv rfl ?_
   obtain ⟨_, s35, ht34, h⟩ := VM.bind_some V.toVI h
   refine SO.call (pre := [V.rep _]) rfl Tryz.call55 rfl rfl rfl (lay_Put.ct V _ _ _ _ _ ht34) trivial ?_
   rintro _ _ ⟨rfl, rfl⟩
   refine SO.nil <| tt [(0, V.val), (1, .int .i64 a1), (2, .int .i64 a2), (3, .int .i64 a3), (10, .int .i64 0), (11, errV 98 none), (16, .int .i64 t9)] rfl <| S.inBlock ?_
   obtain ⟨hq, rfl⟩ := VM.ret_some V.toVI h
   cases hq
   refine S.b1 <| S.b1 ?_
   refine S.to ?_ (hk3 () trivial)
   exact ⟨rfl, rfl, rfl, rfl, rfl, rfl, rfl, trivial⟩
  replace h := VM.cond_f V.toVI b31 h
  refine S.condF rfl b31 <| S.skip <| S.inBlock ?_
  obtain ⟨hq, rfl⟩ := VM.ret_some V.toVI h
  cases hq
  refine S.b1 <| S.b1 ?_
  refine S.to ?_ (hk3 () trivial)
  exact ⟨rfl, rfl, rfl, rfl, rfl, rfl, rfl, trivial⟩
 rintro _ -
 replace h := hJ3
 refine S.seq <| S.seq <| S.region <| mv rfl <| mv rfl <| mv rfl ?_
 obtain ⟨t36, s38, ht37, h⟩ := VM.bind_some V.toVI h
 refine SO.call (pre := [V.rep _]) rfl Tryz.call138 rfl rfl rfl (cdt_Link.ct V _ _ _ _ _ ht37) trivial ?_
 rintro _ _ ⟨rfl, rfl⟩
 refine ag rfl <| SO.nil <| S.seq <| S.region <| mv rfl <| vv (opv_neqN (e := t36) Tryz.underlying74 rfl) <| SO.nil ?_
 rcases bool_or t36.isSome with b39 | b39
 ·replace h := VM.cond_t V.toVI b39 h
  refine S.condT rfl b39 <| S.seq <| S.region <| mv rfl <| ag rfl <| ag rfl <| SO.nil <| tt [(10, .int .i64 0), (11, errV 98 t36)] rfl ?_
  obtain ⟨hq, rfl⟩ := VM.ret_some V.toVI h
  cases hq
  exact S.b1 <| S.b1 <| S.ret2 Tryz.func72 rfl rfl rfl (hR · _ _ ⟨rfl, rfl⟩)
 replace h := VM.cond_f V.toVI b39 h
 refine S.condF rfl b39 <| S.skip <| S.seq <| S.region <| mv rfl <| mv rfl <| mv rfl <| mv rfl <| mv rfl <| vv (opv_build (v := .agg #[.int .i64 a3, .int .i64 7, .int .i64 t9, .int .i64 0, .int .i64 0, .int .i64 0]) rfl (by intro w; kernel_rfl)) ?_
 obtain ⟨t40, s42, ht41, h⟩ := VM.bind_some V.toVI h
 have ct43 := cspace_Set.ct V _ _ _ _ _ _ ht41
 try dsimp only at ct43
 refine SO.call (pre := [V.rep _]) rfl Tryz.call128 rfl rfl rfl ct43 trivial ?_
 rintro _ _ ⟨rfl, rfl⟩
 refine ag rfl <| ag rfl <| SO.nil <| tt [(10, .int .i64 t9), (11, errV 98 t40)] rfl ?_
 obtain ⟨hq, rfl⟩ := VM.ret_some V.toVI h
 cases hq
 exact S.b1 <| S.b1 <| S.ret2 Tryz.func72 rfl rfl rfl (hR · _ _ ⟨rfl, rfl⟩)
end Go.Proofs

