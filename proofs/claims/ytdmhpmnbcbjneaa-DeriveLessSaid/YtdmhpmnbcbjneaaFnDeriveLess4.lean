/- What the functions that DeriveLess reaches come to, and that they do. On no condition. -/
import Derived.Test.YtdmhpmnbcbjneaaFnDeriveLess0
import Derived.Test.YtdmhpmnbcbjneaaFnDeriveLess3
set_option linter.all false
namespace Go.Proofs
open Go.Sl Go.RowKit
/-! 10 (*padstone/padstoneref10.State).Derive -/
def ref10_State_Derive.f (k : Nat) (a0 : ref10_State) (a1 : Int) (a2 : Int) (a3 : Int) (a4 : Int) (a5 : Bool) : Option ((Int × ref10_State)) :=
  (ref10_State_ends.f a0 a1 a2).bind fun (t9, t10) => bif t10 != 0 then (some (t10, a0)) else (bif a5 then ((ref01_Mint.f k t9 a3 a4).bind fun (t15, t16) => bif t16 != 0 then (some (t16, a0)) else ((ref10_State_below.f a0 a1 a2 t15).bind fun (t19, p20) => some (t19, p20))) else ((ref01_Derive.f k t9 a3).bind fun (t23, t24) => bif t24 != 0 then (some (t24, a0)) else ((ref10_State_below.f a0 a1 a2 t23).bind fun (t27, p28) => some (t27, p28))))
set_option maxHeartbeats 8000000 in
set_option maxRecDepth 100000 in
theorem ref10_State_Derive.ct (k : Nat) (bp0 : Nat) (v0_Slots : Value) (v0_Objs : Value) (a0 : ref10_State) (a1 : Int) (a2 : Int) (a3 : Int) (a4 : Int) (a5 : Bool) (r0 : Int) (rp0 : ref10_State) (h : ref10_State_Derive.f k a0 a1 a2 a3 a4 a5 = some (r0, rp0)) :
    Ct Try.prog 10 [bp bp0 0, .int .i64 a1, .int .i64 a2, .int .i64 a3, .int .i64 a4, .bool a5] (fun _ => True) [Box bp0 [v0_Slots, v0_Objs, .int .i64 a0.NS, .int .i64 a0.NO], OwnR 65 kr_ref10_Slot v0_Slots a0.Slots, OwnR 58 kr_ref10_Obj v0_Objs a0.Objs] (fun u H' => ∃ rw0_Slots rw0_Objs, u = .int .i64 r0 ∧ H' = [Box bp0 [rw0_Slots, rw0_Objs, .int .i64 rp0.NS, .int .i64 rp0.NO], OwnR 65 kr_ref10_Slot rw0_Slots rp0.Slots, OwnR 58 kr_ref10_Obj rw0_Objs rp0.Objs]) := by
  unfold ref10_State_Derive.f at h
  refine Ct.intro (n := 47) Try.func10 rfl rfl rfl ?_
  intro R w0 F hF hR
  refine S.seq ?_
  refine S.region ?_
  refine SO.v rfl (opv_assign rfl) ?_
  refine SO.nil ?_
  refine S.seq ?_
  refine S.region ?_
  refine SO.v rfl (opv_move rfl) ?_
  refine SO.v rfl (opv_move rfl) ?_
  refine SO.v rfl (opv_move rfl) ?_
  obtain ⟨⟨t9, t10⟩, ht11, h⟩ := opt_bind h
  refine SO.b1 ?_
  refine SO.openR fun raws1 A2 hrel3 hR4 => ?_
  refine SO.b2 ?_
  refine SO.openR fun raws5 A6 hrel7 hR8 => ?_
  refine SO.b1 ?_
  refine SO.b2 ?_
  refine SO.call (pre := [Box _ _, OwnO _ _ _ _ _ _, OwnO _ _ _ _ _ _]) rfl Try.call27 rfl rfl rfl (ref10_State_ends.ct bp0 v0_Slots v0_Objs raws1 A2 raws5 A6 _ _ _ _ _ ht11) trivial ?_
  rintro _ _ ⟨rfl, rfl⟩
  refine SO.v rfl (opv_move rfl) ?_
  refine SO.v rfl (opv_extract rfl rfl) ?_
  refine SO.v rfl (opv_extract rfl rfl) ?_
  refine SO.alloc rfl Try.zeroValue45 rfl (fun b12 => ?_)
  refine SO.storeN Try.sizeOf45 rfl rfl rfl rfl rfl rfl ?_
  refine SO.v rfl (opv_assign rfl) ?_
  refine SO.nil ?_
  refine S.to (ρ' := [(0, bp bp0 0), (1, .int .i64 a1), (2, .int .i64 a2), (3, .int .i64 a3), (4, .int .i64 a4), (5, .bool a5), (12, .int .i64 0), (13, bp b12 0), (14, .int .i64 t10)]) ⟨rfl, rfl, rfl, rfl, rfl, rfl, rfl, rfl, rfl, trivial⟩ ?_
  refine S.seq ?_
  refine S.seq ?_
  refine S.region ?_
  refine SO.v rfl (opv_move rfl) ?_
  refine SO.v rfl (opv_neq rfl rfl) ?_
  refine SO.nil ?_
  rcases bool_or (t10 != 0) with b13 | b13
  · replace h := cond_t b13 h
    refine S.condT rfl b13 ?_
    refine S.seq ?_
    refine S.region ?_
    refine SO.v rfl (opv_move rfl) ?_
    refine SO.v rfl (opv_assign rfl) ?_
    refine SO.nil ?_
    refine S.to (ρ' := [(12, .int .i64 t10)]) ⟨rfl, trivial⟩ ?_
    cases h
    refine S.b2 ?_
    refine S.closeR ?_
    refine S.b3 ?_
    refine S.closeR ?_
    refine S.b2 ?_
    refine S.drop ?_
    refine S.b3 ?_
    refine S.b1 ?_
    refine S.b2 ?_
    refine S.b3 ?_
    exact S.ret1 Try.func10 rfl rfl (fun w hs hk => hR w _ _ ⟨v0_Slots, v0_Objs, rfl, rfl⟩ hs hk)
  · replace h := cond_f b13 h
    refine S.condF rfl b13 ?_
    refine S.skip ?_
    refine S.seq ?_
    refine S.seq ?_
    refine S.region ?_
    refine SO.v rfl (opv_move rfl) ?_
    refine SO.nil ?_
    rcases bool_or a5 with b14 | b14
    · replace h := cond_t b14 h
      refine S.condT rfl b14 ?_
      refine S.region ?_
      refine SO.loadN rfl Try.isAgg45 Try.sizeOf45 rfl rfl rfl ?_
      refine SO.v rfl (opv_move rfl) ?_
      refine SO.v rfl (opv_move rfl) ?_
      obtain ⟨⟨t15, t16⟩, ht17, h⟩ := opt_bind h
      refine SO.call (pre := []) rfl Try.call28 rfl rfl rfl (ref01_Mint.ct _ _ _ _ _ _ ht17) trivial ?_
      rintro _ _ ⟨rfl, rfl⟩
      refine SO.v rfl (opv_move rfl) ?_
      refine SO.v rfl (opv_extract rfl rfl) ?_
      refine SO.v rfl (opv_extract rfl rfl) ?_
      refine SO.storeN Try.sizeOf45 rfl rfl rfl rfl rfl rfl ?_
      refine SO.v rfl (opv_assign rfl) ?_
      refine SO.nil ?_
      refine S.to (ρ' := [(0, bp bp0 0), (1, .int .i64 a1), (2, .int .i64 a2), (12, .int .i64 0), (13, bp b12 0), (14, .int .i64 t16)]) ⟨rfl, rfl, rfl, rfl, rfl, rfl, trivial⟩ ?_
      refine S.seq ?_
      refine S.seq ?_
      refine S.region ?_
      refine SO.v rfl (opv_move rfl) ?_
      refine SO.v rfl (opv_neq rfl rfl) ?_
      refine SO.nil ?_
      rcases bool_or (t16 != 0) with b18 | b18
      · replace h := cond_t b18 h
        refine S.condT rfl b18 ?_
        refine S.seq ?_
        refine S.region ?_
        refine SO.v rfl (opv_move rfl) ?_
        refine SO.v rfl (opv_assign rfl) ?_
        refine SO.nil ?_
        refine S.to (ρ' := [(12, .int .i64 t16)]) ⟨rfl, trivial⟩ ?_
        cases h
        refine S.b2 ?_
        refine S.closeR ?_
        refine S.b3 ?_
        refine S.closeR ?_
        refine S.b2 ?_
        refine S.drop ?_
        refine S.b3 ?_
        refine S.b1 ?_
        refine S.b2 ?_
        refine S.b3 ?_
        exact S.ret1 Try.func10 rfl rfl (fun w hs hk => hR w _ _ ⟨v0_Slots, v0_Objs, rfl, rfl⟩ hs hk)
      · replace h := cond_f b18 h
        refine S.condF rfl b18 ?_
        refine S.skip ?_
        refine S.seq ?_
        refine S.region ?_
        refine SO.v rfl (opv_move rfl) ?_
        refine SO.v rfl (opv_move rfl) ?_
        refine SO.v rfl (opv_move rfl) ?_
        refine SO.loadN rfl Try.isAgg45 Try.sizeOf45 rfl rfl rfl ?_
        obtain ⟨⟨t19, p20⟩, ht21, h⟩ := opt_bind h
        refine SO.b2 ?_
        refine SO.closeR ?_
        refine SO.b3 ?_
        refine SO.closeR ?_
        refine SO.b1 ?_
        refine SO.b3 ?_
        refine SO.call (pre := [Box _ _, OwnR _ _ _ _, OwnR _ _ _ _]) rfl Try.call30 rfl rfl rfl (ref10_State_below.ct bp0 v0_Slots v0_Objs _ _ _ _ _ _ ht21) trivial ?_
        rintro _ _ ⟨u22_Slots, u22_Objs, rfl, rfl⟩
        refine SO.v rfl (opv_assign rfl) ?_
        refine SO.nil ?_
        refine S.to (ρ' := [(12, .int .i64 t19)]) ⟨rfl, trivial⟩ ?_
        cases h
        refine S.b3 ?_
        refine S.drop ?_
        refine S.b3 ?_
        refine S.b3 ?_
        refine S.b3 ?_
        refine S.b3 ?_
        exact S.ret1 Try.func10 rfl rfl (fun w hs hk => hR w _ _ ⟨u22_Slots, u22_Objs, rfl, rfl⟩ hs hk)
    · replace h := cond_f b14 h
      refine S.condF rfl b14 ?_
      refine S.region ?_
      refine SO.loadN rfl Try.isAgg45 Try.sizeOf45 rfl rfl rfl ?_
      refine SO.v rfl (opv_move rfl) ?_
      obtain ⟨⟨t23, t24⟩, ht25, h⟩ := opt_bind h
      refine SO.call (pre := []) rfl Try.call29 rfl rfl rfl (ref01_Derive.ct _ _ _ _ _ ht25) trivial ?_
      rintro _ _ ⟨rfl, rfl⟩
      refine SO.v rfl (opv_move rfl) ?_
      refine SO.v rfl (opv_extract rfl rfl) ?_
      refine SO.v rfl (opv_extract rfl rfl) ?_
      refine SO.storeN Try.sizeOf45 rfl rfl rfl rfl rfl rfl ?_
      refine SO.v rfl (opv_assign rfl) ?_
      refine SO.nil ?_
      refine S.to (ρ' := [(0, bp bp0 0), (1, .int .i64 a1), (2, .int .i64 a2), (12, .int .i64 0), (13, bp b12 0), (14, .int .i64 t24)]) ⟨rfl, rfl, rfl, rfl, rfl, rfl, trivial⟩ ?_
      refine S.seq ?_
      refine S.seq ?_
      refine S.region ?_
      refine SO.v rfl (opv_move rfl) ?_
      refine SO.v rfl (opv_neq rfl rfl) ?_
      refine SO.nil ?_
      rcases bool_or (t24 != 0) with b26 | b26
      · replace h := cond_t b26 h
        refine S.condT rfl b26 ?_
        refine S.seq ?_
        refine S.region ?_
        refine SO.v rfl (opv_move rfl) ?_
        refine SO.v rfl (opv_assign rfl) ?_
        refine SO.nil ?_
        refine S.to (ρ' := [(12, .int .i64 t24)]) ⟨rfl, trivial⟩ ?_
        cases h
        refine S.b2 ?_
        refine S.closeR ?_
        refine S.b3 ?_
        refine S.closeR ?_
        refine S.b2 ?_
        refine S.drop ?_
        refine S.b3 ?_
        refine S.b1 ?_
        refine S.b2 ?_
        refine S.b3 ?_
        exact S.ret1 Try.func10 rfl rfl (fun w hs hk => hR w _ _ ⟨v0_Slots, v0_Objs, rfl, rfl⟩ hs hk)
      · replace h := cond_f b26 h
        refine S.condF rfl b26 ?_
        refine S.skip ?_
        refine S.seq ?_
        refine S.region ?_
        refine SO.v rfl (opv_move rfl) ?_
        refine SO.v rfl (opv_move rfl) ?_
        refine SO.v rfl (opv_move rfl) ?_
        refine SO.loadN rfl Try.isAgg45 Try.sizeOf45 rfl rfl rfl ?_
        obtain ⟨⟨t27, p28⟩, ht29, h⟩ := opt_bind h
        refine SO.b2 ?_
        refine SO.closeR ?_
        refine SO.b3 ?_
        refine SO.closeR ?_
        refine SO.b1 ?_
        refine SO.b3 ?_
        refine SO.call (pre := [Box _ _, OwnR _ _ _ _, OwnR _ _ _ _]) rfl Try.call30 rfl rfl rfl (ref10_State_below.ct bp0 v0_Slots v0_Objs _ _ _ _ _ _ ht29) trivial ?_
        rintro _ _ ⟨u30_Slots, u30_Objs, rfl, rfl⟩
        refine SO.v rfl (opv_assign rfl) ?_
        refine SO.nil ?_
        refine S.to (ρ' := [(12, .int .i64 t27)]) ⟨rfl, trivial⟩ ?_
        cases h
        refine S.b3 ?_
        refine S.drop ?_
        refine S.b3 ?_
        refine S.b3 ?_
        refine S.b3 ?_
        refine S.b3 ?_
        exact S.ret1 Try.func10 rfl rfl (fun w hs hk => hR w _ _ ⟨u30_Slots, u30_Objs, rfl, rfl⟩ hs hk)
end Go.Proofs
namespace Go.Proofs
open Go.Sl Go.RowKit
/-! 11 (*padstone/padstoneref10.State).Move -/
def ref10_State_Move.f (k : Nat) (a0 : ref10_State) (a1 : Int) (a2 : Int) (a3 : Int) (a4 : Int) (a5 : Bool) : Option ((Int × ref10_State)) :=
  (ref10_State_ends.f a0 a1 a2).bind fun (t9, t10) => bif t10 != 0 then (some (t10, a0)) else ((((bif a5 then ((ref01_Mutate.f k t9 a3 a4).bind fun (t15, t16) => bif t16 != 0 then (some (Brk.ret (t16, a0))) else (some (Brk.nx (t15.Kind, t15.Rights, t15.Obj, t15.Badge, t15.Guard, t15.Bits)))) else (some (Brk.nx (t9.Kind, t9.Rights, t9.Obj, t9.Badge, t9.Guard, t9.Bits)))) : Option (Brk (Int × ref10_State) (Int × Int × Int × Int × Int × Int)))).bind fun o1 => Brk.go o1 (fun r => some r) (fun (y12_0_1, y12_1_1, y12_2_1, y12_3_1, y12_4_1, y12_5_1) => (ref10_State_Replace.f k a0 a1 a2).bind fun (t19, p20) => bif t19 == 0 then ((at_ p20.Slots a2).bind fun x28 => (at_ (p20.Slots.set a2.toNat ({ x28 with Cap := (⟨y12_0_1, y12_1_1, y12_2_1, y12_3_1, y12_4_1, y12_5_1⟩ : api_Cap) } : ref10_Slot)) a1).bind fun x36 => some (t19, ({ p20 with Slots := (p20.Slots.set a2.toNat ({ x28 with Cap := (⟨y12_0_1, y12_1_1, y12_2_1, y12_3_1, y12_4_1, y12_5_1⟩ : api_Cap) } : ref10_Slot)).set a1.toNat ({ x36 with Cap := (⟨0, 0, 0, 0, 0, 0⟩ : api_Cap) } : ref10_Slot) } : ref10_State))) else (some (t19, p20))))
set_option maxHeartbeats 8000000 in
set_option maxRecDepth 100000 in
theorem ref10_State_Move.ct (k : Nat) (bp0 : Nat) (v0_Slots : Value) (v0_Objs : Value) (a0 : ref10_State) (a1 : Int) (a2 : Int) (a3 : Int) (a4 : Int) (a5 : Bool) (r0 : Int) (rp0 : ref10_State) (h : ref10_State_Move.f k a0 a1 a2 a3 a4 a5 = some (r0, rp0)) :
    Ct Try.prog 11 [bp bp0 0, .int .i64 a1, .int .i64 a2, .int .i64 a3, .int .i64 a4, .bool a5] (fun _ => True) [Box bp0 [v0_Slots, v0_Objs, .int .i64 a0.NS, .int .i64 a0.NO], OwnR 65 kr_ref10_Slot v0_Slots a0.Slots, OwnR 58 kr_ref10_Obj v0_Objs a0.Objs] (fun u H' => ∃ rw0_Slots rw0_Objs, u = .int .i64 r0 ∧ H' = [Box bp0 [rw0_Slots, rw0_Objs, .int .i64 rp0.NS, .int .i64 rp0.NO], OwnR 65 kr_ref10_Slot rw0_Slots rp0.Slots, OwnR 58 kr_ref10_Obj rw0_Objs rp0.Objs]) := by
  unfold ref10_State_Move.f at h
  refine Ct.intro (n := 59) Try.func11 rfl rfl rfl ?_
  intro R w0 F hF hR
  refine S.seq ?_
  refine S.region ?_
  refine SO.v rfl (opv_assign rfl) ?_
  refine SO.nil ?_
  refine S.seq ?_
  refine S.region ?_
  refine SO.v rfl (opv_move rfl) ?_
  refine SO.v rfl (opv_move rfl) ?_
  refine SO.v rfl (opv_move rfl) ?_
  obtain ⟨⟨t9, t10⟩, ht11, h⟩ := opt_bind h
  refine SO.b1 ?_
  refine SO.openR fun raws1 A2 hrel3 hR4 => ?_
  refine SO.b2 ?_
  refine SO.openR fun raws5 A6 hrel7 hR8 => ?_
  refine SO.b1 ?_
  refine SO.b2 ?_
  refine SO.call (pre := [Box _ _, OwnO _ _ _ _ _ _, OwnO _ _ _ _ _ _]) rfl Try.call27 rfl rfl rfl (ref10_State_ends.ct bp0 v0_Slots v0_Objs raws1 A2 raws5 A6 _ _ _ _ _ ht11) trivial ?_
  rintro _ _ ⟨rfl, rfl⟩
  refine SO.v rfl (opv_move rfl) ?_
  refine SO.v rfl (opv_extract rfl rfl) ?_
  refine SO.v rfl (opv_extract rfl rfl) ?_
  refine SO.alloc rfl Try.zeroValue45 rfl (fun b12 => ?_)
  refine SO.storeN Try.sizeOf45 rfl rfl rfl rfl rfl rfl ?_
  refine SO.v rfl (opv_assign rfl) ?_
  refine SO.nil ?_
  refine S.to (ρ' := [(0, bp bp0 0), (1, .int .i64 a1), (2, .int .i64 a2), (3, .int .i64 a3), (4, .int .i64 a4), (5, .bool a5), (12, .int .i64 0), (13, bp b12 0), (14, .int .i64 t10)]) ⟨rfl, rfl, rfl, rfl, rfl, rfl, rfl, rfl, rfl, trivial⟩ ?_
  refine S.seq ?_
  refine S.seq ?_
  refine S.region ?_
  refine SO.v rfl (opv_move rfl) ?_
  refine SO.v rfl (opv_neq rfl rfl) ?_
  refine SO.nil ?_
  rcases bool_or (t10 != 0) with b13 | b13
  · replace h := cond_t b13 h
    refine S.condT rfl b13 ?_
    refine S.seq ?_
    refine S.region ?_
    refine SO.v rfl (opv_move rfl) ?_
    refine SO.v rfl (opv_assign rfl) ?_
    refine SO.nil ?_
    refine S.to (ρ' := [(12, .int .i64 t10)]) ⟨rfl, trivial⟩ ?_
    cases h
    refine S.b2 ?_
    refine S.closeR ?_
    refine S.b3 ?_
    refine S.closeR ?_
    refine S.b2 ?_
    refine S.drop ?_
    refine S.b3 ?_
    refine S.b1 ?_
    refine S.b2 ?_
    refine S.b3 ?_
    exact S.ret1 Try.func11 rfl rfl (fun w hs hk => hR w _ _ ⟨v0_Slots, v0_Objs, rfl, rfl⟩ hs hk)
  · replace h := cond_f b13 h
    refine S.condF rfl b13 ?_
    refine S.skip ?_
    refine S.seq ?_
    refine S.seq ?_
    refine S.region ?_
    refine SO.v rfl (opv_move rfl) ?_
    refine SO.nil ?_
    obtain ⟨o1, hC1, hJ1⟩ := opt_bind h
    clear h
    refine S.cutP (G := (Int × Int × Int × Int × Int × Int) × Unit) (fun x => o1 = Brk.nx x.1) (fun x => match x with | ((y12_0_1, y12_1_1, y12_2_1, y12_3_1, y12_4_1, y12_5_1), _) => [(0, bp bp0 0), (1, .int .i64 a1), (2, .int .i64 a2), (12, .int .i64 0), (13, bp b12 0)]) (fun x => match x with | ((y12_0_1, y12_1_1, y12_2_1, y12_3_1, y12_4_1, y12_5_1), _) => [Box b12 [.int .i64 y12_0_1, .int .i64 y12_1_1, .int .i64 y12_2_1, .int .i64 y12_3_1, .int .i64 y12_4_1, .int .i64 y12_5_1], Box bp0 [v0_Slots, v0_Objs, .int .i64 a0.NS, .int .i64 a0.NO], OwnO 65 kr_ref10_Slot v0_Slots raws1 A2 a0.Slots, OwnO 58 kr_ref10_Obj v0_Objs raws5 A6 a0.Objs, F]) (fun hk1 => ?_) ?_
    · replace h := hC1
      rcases bool_or a5 with b14 | b14
      · replace h := cond_t b14 h
        refine S.condT rfl b14 ?_
        refine S.seq ?_
        refine S.region ?_
        refine SO.loadN rfl Try.isAgg45 Try.sizeOf45 rfl rfl rfl ?_
        refine SO.v rfl (opv_move rfl) ?_
        refine SO.v rfl (opv_move rfl) ?_
        obtain ⟨⟨t15, t16⟩, ht17, h⟩ := opt_bind h
        refine SO.call (pre := []) rfl Try.call31 rfl rfl rfl (ref01_Mutate.ct _ _ _ _ _ _ ht17) trivial ?_
        rintro _ _ ⟨rfl, rfl⟩
        refine SO.v rfl (opv_move rfl) ?_
        refine SO.v rfl (opv_extract rfl rfl) ?_
        refine SO.v rfl (opv_extract rfl rfl) ?_
        refine SO.storeN Try.sizeOf45 rfl rfl rfl rfl rfl rfl ?_
        refine SO.v rfl (opv_assign rfl) ?_
        refine SO.nil ?_
        refine S.to (ρ' := [(0, bp bp0 0), (1, .int .i64 a1), (2, .int .i64 a2), (12, .int .i64 0), (13, bp b12 0), (14, .int .i64 t16)]) ⟨rfl, rfl, rfl, rfl, rfl, rfl, trivial⟩ ?_
        refine S.seq ?_
        refine S.region ?_
        refine SO.v rfl (opv_move rfl) ?_
        refine SO.v rfl (opv_neq rfl rfl) ?_
        refine SO.nil ?_
        rcases bool_or (t16 != 0) with b18 | b18
        · replace h := cond_t b18 h
          refine S.condT rfl b18 ?_
          refine S.seq ?_
          refine S.region ?_
          refine SO.v rfl (opv_move rfl) ?_
          refine SO.v rfl (opv_assign rfl) ?_
          refine SO.nil ?_
          refine S.to (ρ' := [(12, .int .i64 t16)]) ⟨rfl, trivial⟩ ?_
          cases h
          replace h := Brk.of_ret hJ1
          cases h
          refine S.b2 ?_
          refine S.closeR ?_
          refine S.b3 ?_
          refine S.closeR ?_
          refine S.b2 ?_
          refine S.drop ?_
          refine S.b3 ?_
          refine S.b1 ?_
          refine S.b2 ?_
          refine S.b3 ?_
          exact S.ret1 Try.func11 rfl rfl (fun w hs hk => hR w _ _ ⟨v0_Slots, v0_Objs, rfl, rfl⟩ hs hk)
        · replace h := cond_f b18 h
          refine S.condF rfl b18 ?_
          refine S.skip ?_
          cases h
          refine S.b4 ?_
          refine S.b4 ?_
          refine S.b4 ?_
          refine S.b4 ?_
          refine S.b4 ?_
          refine S.to ?_ (hk1 ((t15.Kind, t15.Rights, t15.Obj, t15.Badge, t15.Guard, t15.Bits), ()) rfl)
          exact ⟨rfl, rfl, rfl, rfl, rfl, trivial⟩
      · replace h := cond_f b14 h
        refine S.condF rfl b14 ?_
        refine S.skip ?_
        cases h
        refine S.b4 ?_
        refine S.b4 ?_
        refine S.b4 ?_
        refine S.b4 ?_
        refine S.b4 ?_
        refine S.to ?_ (hk1 ((t9.Kind, t9.Rights, t9.Obj, t9.Badge, t9.Guard, t9.Bits), ()) rfl)
        exact ⟨rfl, rfl, rfl, rfl, rfl, trivial⟩
    rintro ⟨⟨y12_0_1, y12_1_1, y12_2_1, y12_3_1, y12_4_1, y12_5_1⟩, _⟩ hq
    subst hq
    replace h := Brk.of_nx hJ1
    refine S.seq ?_
    refine S.region ?_
    refine SO.v rfl (opv_move rfl) ?_
    refine SO.v rfl (opv_move rfl) ?_
    refine SO.v rfl (opv_move rfl) ?_
    obtain ⟨⟨t19, p20⟩, ht21, h⟩ := opt_bind h
    refine SO.b2 ?_
    refine SO.closeR ?_
    refine SO.b3 ?_
    refine SO.closeR ?_
    refine SO.b1 ?_
    refine SO.b3 ?_
    refine SO.call (pre := [Box _ _, OwnR _ _ _ _, OwnR _ _ _ _]) rfl Try.call32 rfl rfl rfl (ref10_State_Replace.ct _ bp0 v0_Slots v0_Objs _ _ _ _ _ ht21) trivial ?_
    rintro _ _ ⟨u22_Slots, u22_Objs, rfl, rfl⟩
    refine SO.v rfl (opv_assign rfl) ?_
    refine SO.nil ?_
    refine S.seq ?_
    refine S.seq ?_
    refine S.region ?_
    refine SO.v rfl (opv_move rfl) ?_
    refine SO.v rfl (opv_eql rfl rfl) ?_
    refine SO.nil ?_
    rcases bool_or (t19 == 0) with b23 | b23
    · replace h := cond_t b23 h
      refine S.condT rfl b23 ?_
      refine S.seq ?_
      refine S.b1 ?_
      refine S.openR fun raws24 A25 hrel26 hR27 => ?_
      obtain ⟨x28, hx29, h⟩ := opt_bind h
      obtain ⟨r30, hr31, hc32⟩ := relR.at hrel26 hx29
      refine S.draw' (Z := fun Q => ∀ (_ : Unit) (_ : Unit) (_ : Unit) (_ : Unit) (_ : Unit) (_ : Unit) (_ : Unit), Q [(0, bp bp0 0), (14, .int .i64 t19), (1, .int .i64 a1), (12, .int .i64 0)] [OwnR 65 kr_ref10_Slot u22_Slots (p20.Slots.set a2.toNat ({ x28 with Cap := (⟨y12_0_1, y12_1_1, y12_2_1, y12_3_1, y12_4_1, y12_5_1⟩ : api_Cap) } : ref10_Slot)), Box bp0 [u22_Slots, u22_Objs, .int .i64 p20.NS, .int .i64 p20.NO], OwnR 58 kr_ref10_Obj u22_Objs p20.Objs, Box b12 [.int .i64 y12_0_1, .int .i64 y12_1_1, .int .i64 y12_2_1, .int .i64 y12_3_1, .int .i64 y12_4_1, .int .i64 y12_5_1], F]) (T := [tS 0 (bp bp0 0), tS 2 (.int .i64 a2), tS 13 (bp b12 0), tE [(14, .int .i64 t19), (1, .int .i64 a1), (12, .int .i64 0)], tR (OwnO 65 kr_ref10_Slot u22_Slots raws24 A25 p20.Slots), tR (Box bp0 [u22_Slots, u22_Objs, .int .i64 p20.NS, .int .i64 p20.NO]), tR (OwnR 58 kr_ref10_Obj u22_Objs p20.Objs), tR (Box b12 [.int .i64 y12_0_1, .int .i64 y12_1_1, .int .i64 y12_2_1, .int .i64 y12_3_1, .int .i64 y12_4_1, .int .i64 y12_5_1]), tR (F), tS 42 (bp bp0 0), tS 43 (bp bp0 0), tS 44 (bp bp0 0), tS 45 (u22_Slots), tS 46 (.int .i64 a2), tS 47 (.agg #[.int .i64 y12_0_1, .int .i64 y12_1_1, .int .i64 y12_2_1, .int .i64 y12_3_1, .int .i64 y12_4_1, .int .i64 y12_5_1]), tS 48 (idxp u22_Slots (a2.toNat * kr_ref10_Slot.sz)), tS 49 (idxp u22_Slots (a2.toNat * kr_ref10_Slot.sz)), tR (OwnR 65 kr_ref10_Slot u22_Slots (p20.Slots.set a2.toNat ({ x28 with Cap := (⟨y12_0_1, y12_1_1, y12_2_1, y12_3_1, y12_4_1, y12_5_1⟩ : api_Cap) } : ref10_Slot)))]) (D := [⟨[0], [], [9]⟩, ⟨[9], [], [10]⟩, ⟨[10], [], [11]⟩, ⟨[11, 5], [], [12]⟩, ⟨[1], [], [13]⟩, ⟨[2, 7], [], [14]⟩, ⟨[12, 13, 4], [], [15]⟩, ⟨[15, 4], [], [16]⟩, ⟨[14, 16], [4], [17]⟩]) (ini := [0, 1, 2, 3, 4, 5, 6, 7, 8]) (fin := [0, 3, 17, 5, 6, 7, 8]) (bf := [[], [0], [0, 1], [0, 1, 2], [], [], [0, 1, 2, 3, 4, 5], [0, 1, 2, 3, 4, 5, 6], [0, 1, 2, 3, 4, 5, 6, 7]]) (by kernel_rfl) (by kernel_rfl) (fun x w h1 h2 => (.cons () (.cons () (.cons () (.cons () (.cons () (.cons () (.cons () (.cons () (.cons () (.nil ⟨EnvAll.of h1 ⟨rfl, rfl, rfl, rfl, rfl, rfl, trivial⟩, h2⟩))))))))))) (fun Q => by kernel_rfl) ⟨?_, ?_, ?_, ?_, ?_, ?_, ?_, ?_, ?_, trivial⟩ ?_
      · rintro Fr _
        refine SO.v rfl (opv_move rfl) ?_
        exact SO.nilZ fun a w h1 h2 h3 h4 h5 => PZ.of h1 h3 h5 (.cons () (.cons () (.nil ⟨EnvAll.of h2 ⟨rfl, rfl, trivial⟩, h4⟩)))
      · rintro Fr _
        refine SO.v rfl (opv_nilCheck rfl) ?_
        exact SO.nilZ fun a w h1 h2 h3 h4 h5 => PZ.of h1 h3 h5 (.cons () (.cons () (.nil ⟨EnvAll.of h2 ⟨rfl, rfl, trivial⟩, h4⟩)))
      · rintro Fr _
        refine SO.v rfl (opv_fieldAddr Try.underlying63 rfl Try.sizeOf60 rfl rfl) ?_
        exact SO.nilZ fun a w h1 h2 h3 h4 h5 => PZ.of h1 h3 h5 (.cons () (.cons () (.nil ⟨EnvAll.of h2 ⟨rfl, rfl, trivial⟩, h4⟩)))
      · rintro Fr _ _
        refine SO.load1 rfl Try.isAgg60 rfl rfl ?_
        exact SO.nilZ fun a w h1 h2 h3 h4 h5 => PZ.of h1 h3 h5 (.cons () (.cons () (.cons () (.nil ⟨EnvAll.of h2 ⟨rfl, rfl, trivial⟩, h4⟩))))
      · rintro Fr _
        refine SO.v rfl (opv_move rfl) ?_
        exact SO.nilZ fun a w h1 h2 h3 h4 h5 => PZ.of h1 h3 h5 (.cons () (.cons () (.nil ⟨EnvAll.of h2 ⟨rfl, rfl, trivial⟩, h4⟩)))
      · rintro Fr _ _
        refine SO.loadN rfl Try.isAgg45 Try.sizeOf45 rfl rfl rfl ?_
        exact SO.nilZ fun a w h1 h2 h3 h4 h5 => PZ.of h1 h3 h5 (.cons () (.cons () (.cons () (.nil ⟨EnvAll.of h2 ⟨rfl, rfl, trivial⟩, h4⟩))))
      · rintro Fr _ _ _
        refine SO.v rfl (opv_idx Try.underlying60 Try.sizeOf65 hR27 rfl rfl hr31) ?_
        exact SO.nilZ fun a w h1 h2 h3 h4 h5 => PZ.of h1 h3 h5 (.cons () (.cons () (.cons () (.cons () (.nil ⟨EnvAll.of h2 ⟨rfl, rfl, rfl, trivial⟩, h4⟩)))))
      · rintro Fr _ _
        refine SO.v rfl (opv_fieldIdx Try.underlying65 rfl Try.sizeOf45 hR27 hr31 rfl rfl) ?_
        exact SO.nilZ fun a w h1 h2 h3 h4 h5 => PZ.of h1 h3 h5 (.cons () (.cons () (.cons () (.nil ⟨EnvAll.of h2 ⟨rfl, rfl, trivial⟩, h4⟩))))
      · rintro Fr _ _ _
        refine SO.storeOP (j := 0) (us := [.int .i64 y12_0_1, .int .i64 y12_1_1, .int .i64 y12_2_1, .int .i64 y12_3_1, .int .i64 y12_4_1, .int .i64 y12_5_1]) (z' := ({ x28 with Cap := (⟨y12_0_1, y12_1_1, y12_2_1, y12_3_1, y12_4_1, y12_5_1⟩ : api_Cap) } : ref10_Slot)) Try.sizeOf45 hrel26 hx29 rfl rfl rfl rfl rfl rfl rfl (fun raws33 hrel34 hR35 => ?_)
        refine SO.closeR ?_
        exact SO.nilZ fun a w h1 h2 h3 h4 h5 => PZ.of h1 h3 h5 (.cons () (.cons () (.cons () (.nil ⟨EnvAll.of h2 ⟨rfl, rfl, trivial⟩, h4⟩))))
      rintro _ _ _ _ _ _ _
      refine S.to (ρ' := [(0, bp bp0 0), (14, .int .i64 t19), (1, .int .i64 a1), (12, .int .i64 0)]) ⟨rfl, rfl, rfl, rfl, trivial⟩ ?_
      refine S.region ?_
      refine SO.v rfl (opv_move rfl) ?_
      refine SO.v rfl (opv_nilCheck rfl) ?_
      refine SO.v rfl (opv_fieldAddr Try.underlying63 rfl Try.sizeOf60 rfl rfl) ?_
      refine SO.b1 ?_
      refine SO.load1 rfl Try.isAgg60 rfl rfl ?_
      refine SO.v rfl (opv_move rfl) ?_
      refine SO.v rfl (opv_build (v := .agg #[.int .i64 0, .int .i64 0, .int .i64 0, .int .i64 0, .int .i64 0, .int .i64 0]) rfl (by intro w; kernel_rfl)) ?_
      refine SO.b1 ?_
      refine SO.openR fun raws41 A42 hrel43 hR44 => ?_
      obtain ⟨x36, hx37, h⟩ := opt_bind h
      obtain ⟨r38, hr39, hc40⟩ := relR.at hrel43 hx37
      refine SO.v rfl (opv_idx Try.underlying60 Try.sizeOf65 hR44 rfl rfl hr39) ?_
      refine SO.v rfl (opv_fieldIdx Try.underlying65 rfl Try.sizeOf45 hR44 hr39 rfl rfl) ?_
      refine SO.storeOP (j := 0) (us := [.int .i64 0, .int .i64 0, .int .i64 0, .int .i64 0, .int .i64 0, .int .i64 0]) (z' := ({ x36 with Cap := (⟨0, 0, 0, 0, 0, 0⟩ : api_Cap) } : ref10_Slot)) Try.sizeOf45 hrel43 hx37 rfl rfl rfl rfl rfl rfl rfl (fun raws45 hrel46 hR47 => ?_)
      refine SO.nil ?_
      refine S.to (ρ' := [(14, .int .i64 t19), (12, .int .i64 0)]) ⟨rfl, rfl, trivial⟩ ?_
      refine S.seq ?_
      refine S.region ?_
      refine SO.v rfl (opv_move rfl) ?_
      refine SO.v rfl (opv_assign rfl) ?_
      refine SO.nil ?_
      cases h
      refine S.closeR ?_
      refine S.b3 ?_
      refine S.drop ?_
      refine S.b3 ?_
      refine S.b3 ?_
      refine S.b2 ?_
      refine S.b3 ?_
      exact S.ret1 Try.func11 rfl rfl (fun w hs hk => hR w _ _ ⟨u22_Slots, u22_Objs, rfl, rfl⟩ hs hk)
    · replace h := cond_f b23 h
      refine S.condF rfl b23 ?_
      refine S.skip ?_
      refine S.seq ?_
      refine S.region ?_
      refine SO.v rfl (opv_move rfl) ?_
      refine SO.v rfl (opv_assign rfl) ?_
      refine SO.nil ?_
      refine S.to (ρ' := [(12, .int .i64 t19)]) ⟨rfl, trivial⟩ ?_
      cases h
      refine S.b3 ?_
      refine S.drop ?_
      refine S.b3 ?_
      refine S.b3 ?_
      refine S.b3 ?_
      refine S.b3 ?_
      exact S.ret1 Try.func11 rfl rfl (fun w hs hk => hR w _ _ ⟨u22_Slots, u22_Objs, rfl, rfl⟩ hs hk)
end Go.Proofs
namespace Go.Proofs
open Go.Sl Go.RowKit
/-! 13 (*padstone/padstoneref10.State).One -/
def ref10_State_One.f (k : Nat) (a0 : ref10_State) (a1 : Int) : Option ((Bool × Int × ref10_State)) :=
  (ref10_State_Leaf.f k a0 a1).bind fun t9 => bif decide (t9 < 0) then (some (false, 2, a0)) else (bif t9 == a1 then (some (false, 0, a0)) else ((ref10_State_Delete.f k a0 t9).bind fun (t13, p14) => some (true, t13, p14)))
set_option maxHeartbeats 8000000 in
set_option maxRecDepth 100000 in
theorem ref10_State_One.ct (k : Nat) (bp0 : Nat) (v0_Slots : Value) (v0_Objs : Value) (a0 : ref10_State) (a1 : Int) (r0 : Bool) (r1 : Int) (rp0 : ref10_State) (h : ref10_State_One.f k a0 a1 = some (r0, r1, rp0)) :
    Ct Try.prog 13 [bp bp0 0, .int .i64 a1] (fun _ => True) [Box bp0 [v0_Slots, v0_Objs, .int .i64 a0.NS, .int .i64 a0.NO], OwnR 65 kr_ref10_Slot v0_Slots a0.Slots, OwnR 58 kr_ref10_Obj v0_Objs a0.Objs] (fun u H' => ∃ rw0_Slots rw0_Objs, u = .tuple #[.bool r0, .int .i64 r1] ∧ H' = [Box bp0 [rw0_Slots, rw0_Objs, .int .i64 rp0.NS, .int .i64 rp0.NO], OwnR 65 kr_ref10_Slot rw0_Slots rp0.Slots, OwnR 58 kr_ref10_Obj rw0_Objs rp0.Objs]) := by
  unfold ref10_State_One.f at h
  refine Ct.intro (n := 18) Try.func13 rfl rfl rfl ?_
  intro R w0 F hF hR
  refine S.seq ?_
  refine S.region ?_
  refine SO.v rfl (opv_assign rfl) ?_
  refine SO.v rfl (opv_assign rfl) ?_
  refine SO.nil ?_
  refine S.seq ?_
  refine S.region ?_
  refine SO.v rfl (opv_move rfl) ?_
  refine SO.v rfl (opv_move rfl) ?_
  obtain ⟨t9, ht10, h⟩ := opt_bind h
  refine SO.b1 ?_
  refine SO.openR fun raws1 A2 hrel3 hR4 => ?_
  refine SO.b2 ?_
  refine SO.openR fun raws5 A6 hrel7 hR8 => ?_
  refine SO.b1 ?_
  refine SO.b2 ?_
  refine SO.call (pre := [Box _ _, OwnO _ _ _ _ _ _, OwnO _ _ _ _ _ _]) rfl Try.call35 rfl rfl rfl (ref10_State_Leaf.ct _ bp0 v0_Slots v0_Objs raws1 A2 raws5 A6 _ _ _ ht10) trivial ?_
  rintro _ _ ⟨rfl, rfl⟩
  refine SO.v rfl (opv_assign rfl) ?_
  refine SO.nil ?_
  refine S.seq ?_
  refine S.seq ?_
  refine S.region ?_
  refine SO.v rfl (opv_move rfl) ?_
  refine SO.v rfl (opv_lss rfl rfl) ?_
  refine SO.nil ?_
  rcases bool_or (decide (t9 < 0)) with b11 | b11
  · replace h := cond_t b11 h
    refine S.condT rfl b11 ?_
    refine S.seq ?_
    refine S.region ?_
    refine SO.v rfl (opv_assign rfl) ?_
    refine SO.v rfl (opv_assign rfl) ?_
    refine SO.nil ?_
    refine S.to (ρ' := [(4, .bool false), (5, .int .i64 2)]) ⟨rfl, rfl, trivial⟩ ?_
    cases h
    refine S.b1 ?_
    refine S.closeR ?_
    refine S.b2 ?_
    refine S.closeR ?_
    refine S.b3 ?_
    refine S.b1 ?_
    refine S.b2 ?_
    refine S.b3 ?_
    exact S.ret2 Try.func13 rfl rfl rfl (fun w hs hk => hR w _ _ ⟨v0_Slots, v0_Objs, rfl, rfl⟩ hs hk)
  · replace h := cond_f b11 h
    refine S.condF rfl b11 ?_
    refine S.skip ?_
    refine S.seq ?_
    refine S.seq ?_
    refine S.region ?_
    refine SO.v rfl (opv_move rfl) ?_
    refine SO.v rfl (opv_move rfl) ?_
    refine SO.v rfl (opv_eql rfl rfl) ?_
    refine SO.nil ?_
    refine S.to (ρ' := [(0, bp bp0 0), (4, .bool false), (5, .int .i64 0), (6, .int .i64 t9), (14, .bool (t9 == a1))]) ⟨rfl, rfl, rfl, rfl, rfl, trivial⟩ ?_
    rcases bool_or (t9 == a1) with b12 | b12
    · replace h := cond_t b12 h
      refine S.condT rfl b12 ?_
      refine S.seq ?_
      refine S.region ?_
      refine SO.v rfl (opv_assign rfl) ?_
      refine SO.v rfl (opv_assign rfl) ?_
      refine SO.nil ?_
      cases h
      refine S.b1 ?_
      refine S.closeR ?_
      refine S.b2 ?_
      refine S.closeR ?_
      refine S.b3 ?_
      refine S.b1 ?_
      refine S.b2 ?_
      refine S.b3 ?_
      exact S.ret2 Try.func13 rfl rfl rfl (fun w hs hk => hR w _ _ ⟨v0_Slots, v0_Objs, rfl, rfl⟩ hs hk)
    · replace h := cond_f b12 h
      refine S.condF rfl b12 ?_
      refine S.skip ?_
      refine S.seq ?_
      refine S.region ?_
      refine SO.v rfl (opv_move rfl) ?_
      refine SO.v rfl (opv_move rfl) ?_
      obtain ⟨⟨t13, p14⟩, ht15, h⟩ := opt_bind h
      refine SO.b1 ?_
      refine SO.closeR ?_
      refine SO.b2 ?_
      refine SO.closeR ?_
      refine SO.b1 ?_
      refine SO.b2 ?_
      refine SO.call (pre := [Box _ _, OwnR _ _ _ _, OwnR _ _ _ _]) rfl Try.call12 rfl rfl rfl (ref10_State_Delete.ct _ bp0 v0_Slots v0_Objs _ _ _ _ ht15) trivial ?_
      rintro _ _ ⟨u16_Slots, u16_Objs, rfl, rfl⟩
      refine SO.v rfl (opv_assign rfl) ?_
      refine SO.v rfl (opv_assign rfl) ?_
      refine SO.nil ?_
      cases h
      refine S.b3 ?_
      refine S.b3 ?_
      refine S.b3 ?_
      refine S.b3 ?_
      exact S.ret2 Try.func13 rfl rfl rfl (fun w hs hk => hR w _ _ ⟨u16_Slots, u16_Objs, rfl, rfl⟩ hs hk)
end Go.Proofs
