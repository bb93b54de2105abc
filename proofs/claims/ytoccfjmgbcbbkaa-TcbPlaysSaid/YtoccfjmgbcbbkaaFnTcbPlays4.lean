/- What the functions that TcbPlays reaches come to, and that they do. On no condition. -/
import Derived.Test.YtoccfjmgbcbbkaaFnTcbPlays0
import Derived.Test.YtoccfjmgbcbbkaaFnTcbPlays2
import Derived.Test.YtoccfjmgbcbbkaaFnTcbPlays3
import Derived.Test.YtoccfjmgbcbbkaaFnTcbPlays1
set_option linter.all false
namespace Go.Proofs
open Go.Sl Go.RowKit
/-! 5 padstone/padstonelaw17.TcbPlays -/
def law17_TcbPlays.l1 (a0 : Int) (a1 : List law17_Deed) : Nat → (Int × (List ref10_Slot) × (List ref10_Obj) × Int × Int × (List Int)) → Option (Brk Bool ((List ref10_Slot) × (List ref10_Obj) × Int × Int × (List Int)))
  | 0, _ => none
  | k + 1, (x8_1, y8_0_1, y8_1_1, y8_2_1, y8_3_1, qv20_1) => bif decide (x8_1 < (a1.length : Int)) then ((at_ a1 x8_1).bind fun x24 => (law10_Pick.f x24.What 8).bind fun t27 => (law10_Pick.f x24.T a0).bind fun t29 => (((bif t27 == 0 then ((VM.run plainI (tcb_Suspend.f k x24.T) qv20_1).bind fun (t32, s34) => (ref10_State_Suspend.f k (⟨y8_0_1, y8_1_1, y8_2_1, y8_3_1⟩ : ref10_State) x24.T).bind fun (t36, p37) => some (Brk.nx (t36, t32, p37.Slots, p37.Objs, p37.NS, p37.NO, s34))) else ((bif t27 == 1 then (some (t27 == 1)) else (some (t27 == 2))).bind fun j114_3 => bif j114_3 then ((VM.run plainI (tcb_Resume.f x24.T) qv20_1).bind fun (t43, s45) => (ref10_State_Resume.f (⟨y8_0_1, y8_1_1, y8_2_1, y8_3_1⟩ : ref10_State) x24.T).bind fun (t47, p48) => some (Brk.nx (t47, t43, p48.Slots, p48.Objs, p48.NS, p48.NO, s45))) else (bif t27 == 3 then ((VM.run plainI (tcb_Prio.f x24.T x24.N) qv20_1).bind fun (t53, s55) => (ref10_State_Prio.f (⟨y8_0_1, y8_1_1, y8_2_1, y8_3_1⟩ : ref10_State) x24.T x24.N).bind fun (t57, p58) => some (Brk.nx (t57, t53, p58.Slots, p58.Objs, p58.NS, p58.NO, s55))) else (bif t27 == 4 then ((VM.run plainI (tcb_SetRoot.f k x24.T x24.C) qv20_1).bind fun (t63, s65) => (ref10_State_SetRoot.f k (⟨y8_0_1, y8_1_1, y8_2_1, y8_3_1⟩ : ref10_State) x24.T x24.C).bind fun (t67, p68) => some (Brk.nx (t67, t63, p68.Slots, p68.Objs, p68.NS, p68.NO, s65))) else ((ref10_State_Ready.f (⟨y8_0_1, y8_1_1, y8_2_1, y8_3_1⟩ : ref10_State) t29).bind fun t80 => bif !t80 then ((law17_TcbPlays.l1 a0 a1 k (w64 (x8_1 + 1), y8_0_1, y8_1_1, y8_2_1, y8_3_1, qv20_1)).bind fun z83 => some (Brk.ret z83)) else (bif t27 == 5 then ((law10_Pick.f x24.N 2).bind fun t85 => (VM.run plainI (endp_Send.f k (w64 (a0 + 3)) t29 1 2 (t85 == 1)) qv20_1).bind fun ((t87, t88), s90) => (law10_Pick.f x24.N 2).bind fun t92 => (ref10_State_Send.f (⟨y8_0_1, y8_1_1, y8_2_1, y8_3_1⟩ : ref10_State) (w64 (a0 + 3)) t29 1 2 (t92 == 1)).bind fun (t94, p95) => some (Brk.nx (0, none, p95.Slots, p95.Objs, p95.NS, p95.NO, s90))) else (bif t27 == 6 then ((VM.run plainI (endp_Recv.f k (w64 (a0 + 3)) t29) qv20_1).bind fun ((t100, t101, t102), s104) => (ref10_State_Recv.f (⟨y8_0_1, y8_1_1, y8_2_1, y8_3_1⟩ : ref10_State) (w64 (a0 + 3)) t29).bind fun (t106, t107, t108, p109) => some (Brk.nx (0, none, p109.Slots, p109.Objs, p109.NS, p109.NO, s104))) else ((VM.run plainI (ntfn_Wait.f (w64 (a0 + 4)) t29) qv20_1).bind fun ((t113, t114, t115), s117) => (ref10_State_Wait.f (⟨y8_0_1, y8_1_1, y8_2_1, y8_3_1⟩ : ref10_State) (w64 (a0 + 4)) t29).bind fun (t119, t120, p121) => some (Brk.nx (0, none, p121.Slots, p121.Objs, p121.NS, p121.NO, s117)))))))))) : Option (Brk _ (Int × (Option Int) × (List ref10_Slot) × (List ref10_Obj) × Int × Int × (List Int))))).bind fun o2 => Brk.go o2 (fun r => some r) (fun (j12_2, j13_2, y8_0_2, y8_1_2, y8_2_2, y8_3_2, qv20_2) => (VM.run plainI (tcb_Highest.f k ) qv20_2).bind fun ((t127, t128), s130) => (ref10_State_Highest.f k (⟨y8_0_2, y8_1_2, y8_2_2, y8_3_2⟩ : ref10_State)).bind fun t140 => ((law00_Code.f k j13_2).bind fun t142 => bif t142 != j12_2 then (some (true, s130)) else ((ref10_State_Words.f k (⟨y8_0_2, y8_1_2, y8_2_2, y8_3_2⟩ : ref10_State)).bind fun t145 => (ref10_Same.f k s130 t145).bind fun t151 => bif !t151 then (some (true, s130)) else (bif t128 != (decide (0 ≤ t140)) then (some (true, s130)) else (bif t128 then (bif t127 != t140 then (some (true, s130)) else ((VM.run plainI (tcb_Root.f k t29) s130).bind fun (t160, s162) => (at_ y8_1_2 t29).bind fun x164 => some (!decide (t160 = x164.Root), s162))) else ((VM.run plainI (tcb_Root.f k t29) s130).bind fun (t171, s173) => (at_ y8_1_2 t29).bind fun x175 => some (!decide (t171 = x175.Root), s173)))))).bind fun (j203_4, qv20_4) => bif j203_4 then (some (Brk.ret false)) else (law17_TcbPlays.l1 a0 a1 k (w64 (x8_1 + 1), y8_0_2, y8_1_2, y8_2_2, y8_3_2, qv20_4)))) else (some (Brk.nx (y8_0_1, y8_1_1, y8_2_1, y8_3_1, qv20_1)))
def law17_TcbPlays.f (k : Nat) (a0 : Int) (a1 : List law17_Deed) : Option (Bool) :=
  (law17_up.f k ).bind fun t1 => bif ((decide (a0 < 1)) || (decide (7 < a0))) || (decide (100 < (a1.length : Int))) then (some t1) else ((ref10_Boot.f k a0).bind fun t6 => (ref10_State_Words.f k t6).bind fun t18 => (law17_TcbPlays.l1 a0 a1 k (0, t6.Slots, t6.Objs, t6.NS, t6.NO, t18)).bind fun o1 => Brk.go o1 (fun r => some r) (fun (y8_0_e1, y8_1_e1, y8_2_e1, y8_3_e1, qv20_e1) => (bif t1 then ((VM.run plainI (tcb_Root.f k 32) qv20_e1).bind fun (t191, s193) => some (decide (t191 = (⟨0, 0, 0, 0, 0, 0⟩ : api_Cap)), s193)) else (some (false, qv20_e1))).bind fun (c187, w189) => some c187))
set_option maxHeartbeats 40000000 in
set_option maxRecDepth 100000 in
theorem law17_TcbPlays.ct (k : Nat) (v1 : Value) (a0 : Int) (a1 : List law17_Deed) (r0 : Bool) (h : law17_TcbPlays.f k a0 a1 = some r0) :
    Ct Try.prog 5 [.int .i64 a0, v1] (fun F => Rd ek_law17_Deed v1 a1 F) [] (fun u H' => u = .bool r0 ∧ H' = []) := by
  unfold law17_TcbPlays.f at h
  refine Ct.intro (n := 212) Try.func5 rfl rfl rfl ?_
  intro R w0 F hF hR
  have hF1 := hF
  refine S.seq ?_
  refine S.region ?_
  refine SO.v rfl (opv_assign rfl) ?_
  refine SO.nil ?_
  refine S.seq ?_
  refine S.region ?_
  obtain ⟨t1, ht2, h⟩ := opt_bind h
  refine SO.call (pre := []) rfl Try.call14 rfl rfl rfl (law17_up.ct _ _ ht2) trivial ?_
  rintro _ _ ⟨rfl, rfl⟩
  refine SO.v rfl (opv_assign rfl) ?_
  refine SO.nil ?_
  refine S.seq ?_
  refine S.seq ?_
  refine S.region ?_
  refine SO.v rfl (opv_move rfl) ?_
  refine SO.v rfl (opv_lss rfl rfl) ?_
  refine SO.v rfl (opv_move rfl) ?_
  refine SO.cut 3 24 (.bool ((decide (a0 < 1)) || (decide (7 < a0)))) [F] (fun l2 hk2 => ?_) ?_
  · rcases bool_or (decide (a0 < 1)) with b3 | b3
    · refine SO.passF rfl rfl rfl b3 rfl rfl ?_
      refine SO.passF rfl rfl rfl b3 rfl rfl ?_
      refine SO.v rfl (opv_pick_t' b3 rfl rfl) ?_
      exact hk2.fitc (m := 3) rfl (or_t b3) rfl
    · refine SO.takeT rfl rfl rfl b3 ?_
      refine SO.v rfl (opv_move rfl) ?_
      refine SO.takeT rfl rfl rfl b3 ?_
      refine SO.v rfl (opv_gtr rfl rfl) ?_
      refine SO.v rfl (opv_pick_f' b3 rfl rfl) ?_
      exact hk2.fitc (m := 3) rfl (or_f b3) rfl
  refine SO.v rfl (opv_move rfl) ?_
  refine SO.cut 4 29 (.bool (((decide (a0 < 1)) || (decide (7 < a0))) || (decide (100 < (a1.length : Int))))) [F] (fun l2 hk2 => ?_) ?_
  · rcases bool_or ((decide (a0 < 1)) || (decide (7 < a0))) with b4 | b4
    · refine SO.passF rfl rfl rfl b4 rfl rfl ?_
      refine SO.passF rfl rfl rfl b4 rfl rfl ?_
      refine SO.passF rfl rfl rfl b4 rfl rfl ?_
      refine SO.v rfl (opv_pick_t' b4 rfl rfl) ?_
      exact hk2.fitc (m := 4) rfl (or_t b4) rfl
    · refine SO.takeT rfl rfl rfl b4 ?_
      refine SO.v rfl (opv_move rfl) ?_
      refine SO.takeT rfl rfl rfl b4 ?_
      refine SO.v rfl (opv_lenR rfl Try.underlying47 hF1 rfl) ?_
      refine SO.takeT rfl rfl rfl b4 ?_
      refine SO.v rfl (opv_gtr rfl rfl) ?_
      refine SO.v rfl (opv_pick_f' b4 rfl rfl) ?_
      exact hk2.fitc (m := 4) rfl (or_f b4) rfl
  refine SO.nil ?_
  rcases bool_or (((decide (a0 < 1)) || (decide (7 < a0))) || (decide (100 < (a1.length : Int)))) with b5 | b5
  · replace h := cond_t b5 h
    refine S.condT rfl b5 ?_
    refine S.seq ?_
    refine S.region ?_
    refine SO.v rfl (opv_move rfl) ?_
    refine SO.v rfl (opv_assign rfl) ?_
    refine SO.nil ?_
    refine S.to (ρ' := [(4, .bool t1)]) ⟨rfl, trivial⟩ ?_
    cases h
    exact S.ret1 Try.func5 rfl rfl (fun w hs hk => hR w _ _ ⟨rfl, rfl⟩ hs hk)
  · replace h := cond_f b5 h
    refine S.condF rfl b5 ?_
    refine S.skip ?_
    refine S.seq ?_
    refine S.region ?_
    refine SO.v rfl (opv_move rfl) ?_
    obtain ⟨t6, ht7, h⟩ := opt_bind h
    refine SO.call (pre := []) rfl Try.call7 rfl rfl rfl (ref10_Boot.ct _ _ _ ht7) trivial ?_
    rintro _ _ ⟨b8, u9_Slots, u9_Objs, rfl, rfl⟩
    refine SO.v rfl (opv_assign rfl) ?_
    refine SO.nil ?_
    refine S.to (ρ' := [(0, .int .i64 a0), (1, v1), (4, .bool false), (5, .bool t1), (6, bp b8 0)]) ⟨rfl, rfl, rfl, rfl, rfl, trivial⟩ ?_
    refine S.seq ?_
    refine S.region ?_
    refine SO.v rfl (opv_move rfl) ?_
    obtain ⟨t18, ht19, h⟩ := opt_bind h
    refine SO.b1 ?_
    refine SO.openR fun raws10 A11 hrel12 hR13 => ?_
    refine SO.b2 ?_
    refine SO.openR fun raws14 A15 hrel16 hR17 => ?_
    refine SO.b1 ?_
    refine SO.b2 ?_
    refine SO.call (pre := [Box _ _, OwnO _ _ _ _ _ _, OwnO _ _ _ _ _ _]) rfl Try.call8 rfl rfl rfl (ref10_State_Words.ct _ b8 u9_Slots u9_Objs raws10 A11 raws14 A15 _ _ ht19) trivial ?_
    rintro v20 _ ⟨_, rfl, rfl⟩
    refine SO.rd fun hr21 => ?_
    refine SO.v rfl (opv_assign rfl) ?_
    refine SO.nil ?_
    refine S.seq ?_
    refine S.seq ?_
    refine S.region ?_
    refine SO.v rfl (opv_assign rfl) ?_
    refine SO.nil ?_
    obtain ⟨o1, hl1, h⟩ := opt_bind h
    refine S.b2 ?_
    refine S.closeR ?_
    refine S.b3 ?_
    refine S.closeR ?_
    refine S.b4 ?_
    refine S.b4 ?_
    refine S.b4 ?_
    refine S.b4 ?_
    refine S.b4 ?_
    refine S.to (ρ' := [(8, .int .i64 0), (7, v20), (0, .int .i64 a0), (1, v1), (4, .bool false), (5, .bool t1), (6, bp b8 0)]) ⟨rfl, rfl, rfl, rfl, rfl, rfl, rfl, trivial⟩ ?_
    refine S.forloop (X := (Int × (List ref10_Slot) × (List ref10_Obj) × Int × Int × (List Int)) × (Value × Value)) (O := Brk Bool ((List ref10_Slot) × (List ref10_Obj) × Int × Int × (List Int))) (fun m x => law17_TcbPlays.l1 a0 a1 m x.1) (fun x => match x with | ((x8_1, y8_0_1, y8_1_1, y8_2_1, y8_3_1, qv20_1), (vy8_0_1, vy8_1_1)) => [(8, .int .i64 x8_1), (7, v20), (0, .int .i64 a0), (1, v1), (4, .bool false), (5, .bool t1), (6, bp b8 0)]) (fun x => match x with | ((x8_1, y8_0_1, y8_1_1, y8_2_1, y8_3_1, qv20_1), (vy8_0_1, vy8_1_1)) => [OwnR 72 kr_ref10_Obj vy8_1_1 y8_1_1, OwnR 81 kr_ref10_Slot vy8_0_1 y8_0_1, Own 35 (ekI .u64) v20 qv20_1, Box b8 [vy8_0_1, vy8_1_1, .int .i64 y8_2_1, .int .i64 y8_3_1], F]) (fun Sk o' => (∀ r', o' = Brk.ret r' → some r' = some r0) ∧ ∀ j : ((List ref10_Slot) × (List ref10_Obj) × Int × Int × (List Int)), match j with | (y8_0_e1, y8_1_e1, y8_2_e1, y8_3_e1, qv20_e1) => ∀ g : (Value × Value), match g with | (vy8_0_e1, vy8_1_e1) => o' = Brk.nx (y8_0_e1, y8_1_e1, y8_2_e1, y8_3_e1, qv20_e1) → Sk [(4, .bool false), (5, .bool t1), (7, v20)] [OwnR 72 kr_ref10_Obj vy8_1_e1 y8_1_e1, OwnR 81 kr_ref10_Slot vy8_0_e1 y8_0_e1, Own 35 (ekI .u64) v20 qv20_e1, Box b8 [vy8_0_e1, vy8_1_e1, .int .i64 y8_2_e1, .int .i64 y8_3_e1], F]) (fun _ => rfl) ?_ (m := k) (x := ((0, t6.Slots, t6.Objs, t6.NS, t6.NO, t18), (u9_Slots, u9_Objs))) hl1 ?_
    · clear h hl1
      intro k x o_1 h hK1 ih1
      obtain ⟨⟨x8_1, y8_0_1, y8_1_1, y8_2_1, y8_3_1, qv20_1⟩, ⟨vy8_0_1, vy8_1_1⟩⟩ := x
      replace h : law17_TcbPlays.l1 a0 a1 (k + 1) (x8_1, y8_0_1, y8_1_1, y8_2_1, y8_3_1, qv20_1) = some o_1 := h
      first | rw [law17_TcbPlays.l1] at h | unfold law17_TcbPlays.l1 at h
      refine S.b2 ?_
      refine S.rd fun hr22 => ?_
      refine S.seq ?_
      refine S.seq ?_
      refine S.region ?_
      refine SO.v rfl (opv_move rfl) ?_
      refine SO.v rfl (opv_move rfl) ?_
      refine SO.v rfl (opv_lenR rfl Try.underlying47 hF1 rfl) ?_
      refine SO.v rfl (opv_lss rfl rfl) ?_
      refine SO.nil ?_
      rcases bool_or (decide (x8_1 < (a1.length : Int))) with b23 | b23
      · replace h := cond_t b23 h
        refine S.condT rfl b23 ?_
        refine S.skip ?_
        refine S.seq ?_
        refine S.block ?_
        refine S.seq ?_
        refine S.region ?_
        refine SO.v rfl (opv_move rfl) ?_
        refine SO.v rfl (opv_move rfl) ?_
        obtain ⟨x24, hx25, h⟩ := opt_bind h
        refine SO.v rfl (opv_idx Try.underlying47 Try.sizeOf51 hF1 rfl rfl hx25) ?_
        refine SO.loadIN rfl Try.isAgg51 Try.sizeOf51 (Rd.tail (Rd.tail (Rd.tail (Rd.tail (Rd.head hF1))))) hx25 rfl rfl rfl ?_
        refine SO.alloc rfl Try.zeroValue51 rfl (fun b26 => ?_)
        refine SO.storeN Try.sizeOf51 rfl rfl rfl rfl rfl rfl ?_
        refine SO.nil ?_
        refine S.to (ρ' := [(8, .int .i64 x8_1), (7, v20), (0, .int .i64 a0), (1, v1), (4, .bool false), (5, .bool t1), (6, bp b8 0), (9, bp b26 0)]) ⟨rfl, rfl, rfl, rfl, rfl, rfl, rfl, rfl, trivial⟩ ?_
        refine S.seq ?_
        refine S.region ?_
        refine SO.v rfl (opv_fieldAddr Try.underlying51 rfl Try.sizeOf3 rfl rfl) ?_
        refine SO.load1 rfl Try.isAgg3 rfl rfl ?_
        obtain ⟨t27, ht28, h⟩ := opt_bind h
        refine SO.call (pre := []) rfl Try.call9 rfl rfl rfl (law10_Pick.ct _ _ _ ht28) trivial ?_
        rintro _ _ ⟨rfl, rfl⟩
        refine SO.v rfl (opv_assign rfl) ?_
        refine SO.nil ?_
        refine S.seq ?_
        refine S.region ?_
        refine SO.v rfl (opv_fieldAddr Try.underlying51 rfl Try.sizeOf3 rfl rfl) ?_
        refine SO.load1 rfl Try.isAgg3 rfl rfl ?_
        refine SO.v rfl (opv_move rfl) ?_
        obtain ⟨t29, ht30, h⟩ := opt_bind h
        refine SO.call (pre := []) rfl Try.call9 rfl rfl rfl (law10_Pick.ct _ _ _ ht30) trivial ?_
        rintro _ _ ⟨rfl, rfl⟩
        refine SO.v rfl (opv_assign rfl) ?_
        refine SO.nil ?_
        refine S.to (ρ' := [(8, .int .i64 x8_1), (7, v20), (0, .int .i64 a0), (1, v1), (4, .bool false), (5, .bool t1), (6, bp b8 0), (9, bp b26 0), (10, .int .i64 t27), (11, .int .i64 t29)]) ⟨rfl, rfl, rfl, rfl, rfl, rfl, rfl, rfl, rfl, rfl, trivial⟩ ?_
        refine S.seq ?_
        refine S.region ?_
        refine SO.v rfl (opv_assign rfl) ?_
        refine SO.nil ?_
        refine S.seq ?_
        refine S.region ?_
        refine SO.v rfl (opv_assign rfl) ?_
        refine SO.nil ?_
        refine S.seq ?_
        refine S.seq ?_
        refine S.region ?_
        refine SO.v rfl (opv_move rfl) ?_
        refine SO.nil ?_
        obtain ⟨o2, hC2, hJ2⟩ := opt_bind h
        clear h
        refine S.cutP (G := (Int × (Option Int) × (List ref10_Slot) × (List ref10_Obj) × Int × Int × (List Int)) × (Value × Value)) (fun x => o2 = Brk.nx x.1) (fun x => match x with | ((j12_2, j13_2, y8_0_2, y8_1_2, y8_2_2, y8_3_2, qv20_2), (vy8_0_2, vy8_1_2)) => [(0, .int .i64 a0), (1, v1), (4, .bool false), (5, .bool t1), (6, bp b8 0), (7, v20), (8, .int .i64 x8_1), (11, .int .i64 t29), (12, .int .i64 j12_2), (13, errV 44 j13_2)]) (fun x => match x with | ((j12_2, j13_2, y8_0_2, y8_1_2, y8_2_2, y8_3_2, qv20_2), (vy8_0_2, vy8_1_2)) => [OwnR 72 kr_ref10_Obj vy8_1_2 y8_1_2, OwnR 81 kr_ref10_Slot vy8_0_2 y8_0_2, Box b26 [.int .i64 x24.What, .int .i64 x24.T, .int .i64 x24.N, .int .i64 x24.C.Kind, .int .i64 x24.C.Rights, .int .i64 x24.C.Obj, .int .i64 x24.C.Badge, .int .i64 x24.C.Guard, .int .i64 x24.C.Bits], Own 35 (ekI .u64) v20 qv20_2, Box b8 [vy8_0_2, vy8_1_2, .int .i64 y8_2_2, .int .i64 y8_3_2], F]) (fun hk2 => ?_) ?_
        · replace h := hC2
          refine S.block ?_
          refine S.seq ?_
          refine S.region ?_
          refine SO.v rfl (opv_eql rfl rfl) ?_
          refine SO.v rfl (opv_assign rfl) ?_
          refine SO.nil ?_
          rcases bool_or (t27 == 0) with b31 | b31
          · replace h := cond_t b31 h
            refine S.condT rfl b31 ?_
            refine S.seq ?_
            refine S.region ?_
            refine SO.v rfl (opv_move rfl) ?_
            refine SO.v rfl (opv_iface Try.underlying25 rfl rfl) ?_
            refine SO.v rfl (opv_fieldAddr Try.underlying51 rfl Try.sizeOf3 rfl rfl) ?_
            refine SO.load1 rfl Try.isAgg3 rfl rfl ?_
            obtain ⟨⟨t32, s34⟩, ht33, h⟩ := opt_bind h
            refine SO.b1 ?_
            refine SO.call (pre := [(plainV v20).rep _]) rfl Try.call16 rfl rfl rfl (tcb_Suspend.ct (plainV v20) _ _ _ _ _ ht33) trivial ?_
            rintro _ _ ⟨rfl, rfl⟩
            refine headEq (plainV_rep _ _) ?_
            refine SO.rd fun hr35 => ?_
            refine SO.v rfl (opv_assign rfl) ?_
            refine SO.nil ?_
            refine S.to (ρ' := [(8, .int .i64 x8_1), (7, v20), (0, .int .i64 a0), (1, v1), (4, .bool false), (5, .bool t1), (6, bp b8 0), (9, bp b26 0), (11, .int .i64 t29), (13, errV 44 t32)]) ⟨rfl, rfl, rfl, rfl, rfl, rfl, rfl, rfl, rfl, rfl, trivial⟩ ?_
            refine S.region ?_
            refine SO.v rfl (opv_move rfl) ?_
            refine SO.v rfl (opv_fieldAddr Try.underlying51 rfl Try.sizeOf3 rfl rfl) ?_
            refine SO.b1 ?_
            refine SO.load1 rfl Try.isAgg3 rfl rfl ?_
            obtain ⟨⟨t36, p37⟩, ht38, h⟩ := opt_bind h
            refine SO.b2 ?_
            refine SO.b3 ?_
            refine SO.b4 ?_
            have ct40 := ref10_State_Suspend.ct _ b8 vy8_0_1 vy8_1_1 _ _ _ _ ht38
            dsimp only at ct40
            refine SO.call (pre := [Box _ _, OwnR _ _ _ _, OwnR _ _ _ _]) rfl Try.call20 rfl rfl rfl ct40 trivial ?_
            rintro _ _ ⟨u39_Slots, u39_Objs, rfl, rfl⟩
            refine SO.v rfl (opv_assign rfl) ?_
            refine SO.nil ?_
            refine S.inBlock ?_
            cases h
            refine S.b5 ?_
            refine S.b1 ?_
            refine S.b5 ?_
            refine S.b5 ?_
            refine S.b4 ?_
            refine S.b5 ?_
            refine S.to ?_ (hk2 ((t36, t32, p37.Slots, p37.Objs, p37.NS, p37.NO, s34), (u39_Slots, u39_Objs)) rfl)
            exact ⟨rfl, rfl, rfl, rfl, rfl, rfl, rfl, rfl, rfl, rfl, trivial⟩
          · replace h := cond_f b31 h
            refine S.condF rfl b31 ?_
            refine S.seq ?_
            refine S.seq ?_
            refine S.region ?_
            refine SO.v rfl (opv_eql rfl rfl) ?_
            refine SO.v rfl (opv_assign rfl) ?_
            refine SO.nil ?_
            obtain ⟨j114_3, hC3, hJ3⟩ := opt_bind h
            clear h
            refine S.cutP (G := Unit) (fun _ => True) (fun _ => [(0, .int .i64 a0), (1, v1), (4, .bool false), (5, .bool t1), (6, bp b8 0), (7, v20), (8, .int .i64 x8_1), (9, bp b26 0), (10, .int .i64 t27), (11, .int .i64 t29), (12, .int .i64 0), (13, errV 44 none), (52, .int .i64 t27), (114, .bool j114_3)]) (fun _ => [Box b26 [.int .i64 x24.What, .int .i64 x24.T, .int .i64 x24.N, .int .i64 x24.C.Kind, .int .i64 x24.C.Rights, .int .i64 x24.C.Obj, .int .i64 x24.C.Badge, .int .i64 x24.C.Guard, .int .i64 x24.C.Bits], Own 35 (ekI .u64) v20 qv20_1, OwnR 72 kr_ref10_Obj vy8_1_1 y8_1_1, OwnR 81 kr_ref10_Slot vy8_0_1 y8_0_1, Box b8 [vy8_0_1, vy8_1_1, .int .i64 y8_2_1, .int .i64 y8_3_1], F]) (fun hk3 => ?_) ?_
            · replace h := hC3
              rcases bool_or (t27 == 1) with b41 | b41
              · replace h := cond_t b41 h
                refine S.condT rfl b41 ?_
                refine S.skip ?_
                cases h
                refine S.b5 ?_
                refine S.b5 ?_
                refine S.b5 ?_
                refine S.b5 ?_
                refine S.b5 ?_
                refine S.b5 ?_
                refine S.to ?_ (hk3 () trivial)
                exact ⟨rfl, rfl, rfl, rfl, rfl, rfl, rfl, rfl, rfl, rfl, rfl, rfl, rfl, rfl, trivial⟩
              · replace h := cond_f b41 h
                refine S.condF rfl b41 ?_
                refine S.region ?_
                refine SO.v rfl (opv_eql rfl rfl) ?_
                refine SO.v rfl (opv_assign rfl) ?_
                refine SO.nil ?_
                cases h
                refine S.b5 ?_
                refine S.b5 ?_
                refine S.b5 ?_
                refine S.b5 ?_
                refine S.b5 ?_
                refine S.b5 ?_
                refine S.to ?_ (hk3 () trivial)
                exact ⟨rfl, rfl, rfl, rfl, rfl, rfl, rfl, rfl, rfl, rfl, rfl, rfl, rfl, rfl, trivial⟩
            rintro _ -
            replace h := hJ3
            rcases bool_or j114_3 with b42 | b42
            · replace h := cond_t b42 h
              refine S.condT rfl b42 ?_
              refine S.seq ?_
              refine S.region ?_
              refine SO.v rfl (opv_move rfl) ?_
              refine SO.v rfl (opv_iface Try.underlying25 rfl rfl) ?_
              refine SO.v rfl (opv_fieldAddr Try.underlying51 rfl Try.sizeOf3 rfl rfl) ?_
              refine SO.load1 rfl Try.isAgg3 rfl rfl ?_
              obtain ⟨⟨t43, s45⟩, ht44, h⟩ := opt_bind h
              refine SO.b1 ?_
              refine SO.call (pre := [(plainV v20).rep _]) rfl Try.call18 rfl rfl rfl (tcb_Resume.ct (plainV v20) _ _ _ _ ht44) trivial ?_
              rintro _ _ ⟨rfl, rfl⟩
              refine headEq (plainV_rep _ _) ?_
              refine SO.rd fun hr46 => ?_
              refine SO.v rfl (opv_assign rfl) ?_
              refine SO.nil ?_
              refine S.to (ρ' := [(0, .int .i64 a0), (1, v1), (4, .bool false), (5, .bool t1), (6, bp b8 0), (7, v20), (8, .int .i64 x8_1), (9, bp b26 0), (11, .int .i64 t29), (13, errV 44 t43)]) ⟨rfl, rfl, rfl, rfl, rfl, rfl, rfl, rfl, rfl, rfl, trivial⟩ ?_
              refine S.region ?_
              refine SO.v rfl (opv_move rfl) ?_
              refine SO.v rfl (opv_fieldAddr Try.underlying51 rfl Try.sizeOf3 rfl rfl) ?_
              refine SO.b1 ?_
              refine SO.load1 rfl Try.isAgg3 rfl rfl ?_
              obtain ⟨⟨t47, p48⟩, ht49, h⟩ := opt_bind h
              refine SO.b2 ?_
              refine SO.b3 ?_
              refine SO.b4 ?_
              have ct51 := ref10_State_Resume.ct b8 vy8_0_1 vy8_1_1 _ _ _ _ ht49
              dsimp only at ct51
              refine SO.call (pre := [Box _ _, OwnR _ _ _ _, OwnR _ _ _ _]) rfl Try.call21 rfl rfl rfl ct51 trivial ?_
              rintro _ _ ⟨u50_Slots, u50_Objs, rfl, rfl⟩
              refine SO.v rfl (opv_assign rfl) ?_
              refine SO.nil ?_
              refine S.inBlock ?_
              cases h
              refine S.b5 ?_
              refine S.b1 ?_
              refine S.b5 ?_
              refine S.b5 ?_
              refine S.b4 ?_
              refine S.b5 ?_
              refine S.to ?_ (hk2 ((t47, t43, p48.Slots, p48.Objs, p48.NS, p48.NO, s45), (u50_Slots, u50_Objs)) rfl)
              exact ⟨rfl, rfl, rfl, rfl, rfl, rfl, rfl, rfl, rfl, rfl, trivial⟩
            · replace h := cond_f b42 h
              refine S.condF rfl b42 ?_
              refine S.seq ?_
              refine S.region ?_
              refine SO.v rfl (opv_eql rfl rfl) ?_
              refine SO.v rfl (opv_assign rfl) ?_
              refine SO.nil ?_
              rcases bool_or (t27 == 3) with b52 | b52
              · replace h := cond_t b52 h
                refine S.condT rfl b52 ?_
                refine S.seq ?_
                refine S.region ?_
                refine SO.v rfl (opv_move rfl) ?_
                refine SO.v rfl (opv_iface Try.underlying25 rfl rfl) ?_
                refine SO.v rfl (opv_fieldAddr Try.underlying51 rfl Try.sizeOf3 rfl rfl) ?_
                refine SO.load1 rfl Try.isAgg3 rfl rfl ?_
                refine SO.v rfl (opv_fieldAddr Try.underlying51 rfl Try.sizeOf3 rfl rfl) ?_
                refine SO.load1 rfl Try.isAgg3 rfl rfl ?_
                obtain ⟨⟨t53, s55⟩, ht54, h⟩ := opt_bind h
                refine SO.b1 ?_
                refine SO.call (pre := [(plainV v20).rep _]) rfl Try.call22 rfl rfl rfl (tcb_Prio.ct (plainV v20) _ _ _ _ _ ht54) trivial ?_
                rintro _ _ ⟨rfl, rfl⟩
                refine headEq (plainV_rep _ _) ?_
                refine SO.rd fun hr56 => ?_
                refine SO.v rfl (opv_assign rfl) ?_
                refine SO.nil ?_
                refine S.to (ρ' := [(0, .int .i64 a0), (1, v1), (4, .bool false), (5, .bool t1), (6, bp b8 0), (7, v20), (8, .int .i64 x8_1), (9, bp b26 0), (11, .int .i64 t29), (13, errV 44 t53)]) ⟨rfl, rfl, rfl, rfl, rfl, rfl, rfl, rfl, rfl, rfl, trivial⟩ ?_
                refine S.region ?_
                refine SO.v rfl (opv_move rfl) ?_
                refine SO.v rfl (opv_fieldAddr Try.underlying51 rfl Try.sizeOf3 rfl rfl) ?_
                refine SO.b1 ?_
                refine SO.load1 rfl Try.isAgg3 rfl rfl ?_
                refine SO.v rfl (opv_fieldAddr Try.underlying51 rfl Try.sizeOf3 rfl rfl) ?_
                refine SO.load1 rfl Try.isAgg3 rfl rfl ?_
                obtain ⟨⟨t57, p58⟩, ht59, h⟩ := opt_bind h
                refine SO.b2 ?_
                refine SO.b3 ?_
                refine SO.b4 ?_
                have ct61 := ref10_State_Prio.ct b8 vy8_0_1 vy8_1_1 _ _ _ _ _ ht59
                dsimp only at ct61
                refine SO.call (pre := [Box _ _, OwnR _ _ _ _, OwnR _ _ _ _]) rfl Try.call23 rfl rfl rfl ct61 trivial ?_
                rintro _ _ ⟨u60_Slots, u60_Objs, rfl, rfl⟩
                refine SO.v rfl (opv_assign rfl) ?_
                refine SO.nil ?_
                refine S.to (ρ' := [(0, .int .i64 a0), (1, v1), (4, .bool false), (5, .bool t1), (6, bp b8 0), (7, v20), (8, .int .i64 x8_1), (11, .int .i64 t29), (13, errV 44 t53), (12, .int .i64 t57)]) ⟨rfl, rfl, rfl, rfl, rfl, rfl, rfl, rfl, rfl, rfl, trivial⟩ ?_
                refine S.inBlock ?_
                cases h
                refine S.b5 ?_
                refine S.b1 ?_
                refine S.b5 ?_
                refine S.b5 ?_
                refine S.b4 ?_
                refine S.b5 ?_
                refine S.to ?_ (hk2 ((t57, t53, p58.Slots, p58.Objs, p58.NS, p58.NO, s55), (u60_Slots, u60_Objs)) rfl)
                exact ⟨rfl, rfl, rfl, rfl, rfl, rfl, rfl, rfl, rfl, rfl, trivial⟩
              · replace h := cond_f b52 h
                refine S.condF rfl b52 ?_
                refine S.seq ?_
                refine S.region ?_
                refine SO.v rfl (opv_eql rfl rfl) ?_
                refine SO.v rfl (opv_assign rfl) ?_
                refine SO.nil ?_
                rcases bool_or (t27 == 4) with b62 | b62
                · replace h := cond_t b62 h
                  refine S.condT rfl b62 ?_
                  refine S.seq ?_
                  refine S.region ?_
                  refine SO.v rfl (opv_move rfl) ?_
                  refine SO.v rfl (opv_iface Try.underlying25 rfl rfl) ?_
                  refine SO.v rfl (opv_fieldAddr Try.underlying51 rfl Try.sizeOf3 rfl rfl) ?_
                  refine SO.load1 rfl Try.isAgg3 rfl rfl ?_
                  refine SO.v rfl (opv_fieldAddr Try.underlying51 rfl Try.sizeOf49 rfl rfl) ?_
                  refine SO.loadN rfl Try.isAgg49 Try.sizeOf49 rfl rfl rfl ?_
                  obtain ⟨⟨t63, s65⟩, ht64, h⟩ := opt_bind h
                  refine SO.b1 ?_
                  refine SO.call (pre := [(plainV v20).rep _]) rfl Try.call24 rfl rfl rfl (tcb_SetRoot.ct (plainV v20) _ _ _ _ _ _ ht64) trivial ?_
                  rintro _ _ ⟨rfl, rfl⟩
                  refine headEq (plainV_rep _ _) ?_
                  refine SO.rd fun hr66 => ?_
                  refine SO.v rfl (opv_assign rfl) ?_
                  refine SO.nil ?_
                  refine S.to (ρ' := [(0, .int .i64 a0), (1, v1), (4, .bool false), (5, .bool t1), (6, bp b8 0), (7, v20), (8, .int .i64 x8_1), (9, bp b26 0), (11, .int .i64 t29), (13, errV 44 t63)]) ⟨rfl, rfl, rfl, rfl, rfl, rfl, rfl, rfl, rfl, rfl, trivial⟩ ?_
                  refine S.region ?_
                  refine SO.v rfl (opv_move rfl) ?_
                  refine SO.v rfl (opv_fieldAddr Try.underlying51 rfl Try.sizeOf3 rfl rfl) ?_
                  refine SO.b1 ?_
                  refine SO.load1 rfl Try.isAgg3 rfl rfl ?_
                  refine SO.v rfl (opv_fieldAddr Try.underlying51 rfl Try.sizeOf49 rfl rfl) ?_
                  refine SO.loadN rfl Try.isAgg49 Try.sizeOf49 rfl rfl rfl ?_
                  obtain ⟨⟨t67, p68⟩, ht69, h⟩ := opt_bind h
                  refine SO.b2 ?_
                  refine SO.b3 ?_
                  refine SO.b4 ?_
                  have ct71 := ref10_State_SetRoot.ct _ b8 vy8_0_1 vy8_1_1 _ _ _ _ _ ht69
                  dsimp only at ct71
                  refine SO.call (pre := [Box _ _, OwnR _ _ _ _, OwnR _ _ _ _]) rfl Try.call25 rfl rfl rfl ct71 trivial ?_
                  rintro _ _ ⟨u70_Slots, u70_Objs, rfl, rfl⟩
                  refine SO.v rfl (opv_assign rfl) ?_
                  refine SO.nil ?_
                  refine S.to (ρ' := [(0, .int .i64 a0), (1, v1), (4, .bool false), (5, .bool t1), (6, bp b8 0), (7, v20), (8, .int .i64 x8_1), (11, .int .i64 t29), (13, errV 44 t63), (12, .int .i64 t67)]) ⟨rfl, rfl, rfl, rfl, rfl, rfl, rfl, rfl, rfl, rfl, trivial⟩ ?_
                  refine S.inBlock ?_
                  cases h
                  refine S.b5 ?_
                  refine S.b1 ?_
                  refine S.b5 ?_
                  refine S.b5 ?_
                  refine S.b4 ?_
                  refine S.b5 ?_
                  refine S.to ?_ (hk2 ((t67, t63, p68.Slots, p68.Objs, p68.NS, p68.NO, s65), (u70_Slots, u70_Objs)) rfl)
                  exact ⟨rfl, rfl, rfl, rfl, rfl, rfl, rfl, rfl, rfl, rfl, trivial⟩
                · replace h := cond_f b62 h
                  refine S.condF rfl b62 ?_
                  refine S.seq ?_
                  refine S.region ?_
                  refine SO.v rfl (opv_move rfl) ?_
                  refine SO.v rfl (opv_move rfl) ?_
                  obtain ⟨t80, ht81, h⟩ := opt_bind h
                  refine SO.b3 ?_
                  refine SO.openR fun raws72 A73 hrel74 hR75 => ?_
                  refine SO.b3 ?_
                  refine SO.openR fun raws76 A77 hrel78 hR79 => ?_
                  refine SO.b1 ?_
                  refine SO.b4 ?_
                  have ct125 := ref10_State_Ready.ct b8 vy8_0_1 vy8_1_1 raws72 A73 raws76 A77 _ _ _ ht81
                  dsimp only at ct125
                  refine SO.call (pre := [Box _ _, OwnO _ _ _ _ _ _, OwnO _ _ _ _ _ _]) rfl Try.call26 rfl rfl rfl ct125 trivial ?_
                  rintro _ _ ⟨rfl, rfl⟩
                  refine SO.v rfl (opv_assign rfl) ?_
                  refine SO.nil ?_
                  refine S.to (ρ' := [(0, .int .i64 a0), (1, v1), (4, .bool false), (5, .bool t1), (6, bp b8 0), (7, v20), (8, .int .i64 x8_1), (9, bp b26 0), (10, .int .i64 t27), (11, .int .i64 t29), (12, .int .i64 0), (13, errV 44 none), (14, .bool t80)]) ⟨rfl, rfl, rfl, rfl, rfl, rfl, rfl, rfl, rfl, rfl, rfl, rfl, rfl, trivial⟩ ?_
                  refine S.seq ?_
                  refine S.seq ?_
                  refine S.region ?_
                  refine SO.v rfl (opv_move rfl) ?_
                  refine SO.v rfl (opv_not rfl) ?_
                  refine SO.nil ?_
                  rcases bool_or (!t80) with b82 | b82
                  · replace h := cond_t b82 h
                    refine S.condT rfl b82 ?_
                    obtain ⟨z83, hz83, h⟩ := opt_bind h
                    cases h
                    replace h := Brk.of_ret hJ2
                    replace h := hz83.trans h
                    refine S.exit rfl ?_
                    refine S.region ?_
                    refine SO.v rfl (opv_move rfl) ?_
                    refine SO.v rfl (opv_add rfl rfl) ?_
                    refine SO.v rfl (opv_assign rfl) ?_
                    refine SO.nil ?_
                    refine S.to (ρ' := [(0, .int .i64 a0), (1, v1), (4, .bool false), (5, .bool t1), (6, bp b8 0), (7, v20), (8, .int .i64 (w64 (x8_1 + 1)))]) ⟨rfl, rfl, rfl, rfl, rfl, rfl, rfl, trivial⟩ ?_
                    refine S.b1 ?_
                    refine S.closeR ?_
                    refine S.b2 ?_
                    refine S.closeR ?_
                    refine S.b3 ?_
                    refine S.drop ?_
                    refine S.b4 ?_
                    refine S.b3 ?_
                    refine S.b4 ?_
                    refine S.b4 ?_
                    refine S.b4 ?_
                    refine S.to ?_ (ih1 ((w64 (x8_1 + 1), y8_0_1, y8_1_1, y8_2_1, y8_3_1, qv20_1), (vy8_0_1, vy8_1_1)) h)
                    exact ⟨rfl, rfl, rfl, rfl, rfl, rfl, rfl, trivial⟩
                  · replace h := cond_f b82 h
                    refine S.condF rfl b82 ?_
                    refine S.skip ?_
                    refine S.seq ?_
                    refine S.region ?_
                    refine SO.v rfl (opv_move rfl) ?_
                    refine SO.v rfl (opv_eql rfl rfl) ?_
                    refine SO.nil ?_
                    rcases bool_or (t27 == 5) with b84 | b84
                    · replace h := cond_t b84 h
                      refine S.condT rfl b84 ?_
                      refine S.seq ?_
                      refine S.region ?_
                      refine SO.v rfl (opv_move rfl) ?_
                      refine SO.v rfl (opv_iface Try.underlying25 rfl rfl) ?_
                      refine SO.v rfl (opv_move rfl) ?_
                      refine SO.v rfl (opv_add rfl rfl) ?_
                      refine SO.v rfl (opv_move rfl) ?_
                      refine SO.v rfl (opv_fieldAddr Try.underlying51 rfl Try.sizeOf3 rfl rfl) ?_
                      refine SO.b3 ?_
                      refine SO.load1 rfl Try.isAgg3 rfl rfl ?_
                      obtain ⟨t85, ht86, h⟩ := opt_bind h
                      refine SO.call (pre := []) rfl Try.call9 rfl rfl rfl (law10_Pick.ct _ _ _ ht86) trivial ?_
                      rintro _ _ ⟨rfl, rfl⟩
                      refine SO.v rfl (opv_eql rfl rfl) ?_
                      obtain ⟨⟨⟨t87, t88⟩, s90⟩, ht89, h⟩ := opt_bind h
                      refine SO.b4 ?_
                      refine SO.call (pre := [(plainV v20).rep _]) rfl Try.call11 rfl rfl rfl (endp_Send.ct (plainV v20) _ _ _ _ _ _ _ _ _ _ ht89) trivial ?_
                      rintro _ _ ⟨rfl, rfl⟩
                      refine headEq (plainV_rep _ _) ?_
                      refine SO.rd fun hr91 => ?_
                      refine SO.nil ?_
                      refine S.to (ρ' := [(0, .int .i64 a0), (1, v1), (4, .bool false), (5, .bool t1), (6, bp b8 0), (7, v20), (8, .int .i64 x8_1), (9, bp b26 0), (11, .int .i64 t29), (12, .int .i64 0), (13, errV 44 none)]) ⟨rfl, rfl, rfl, rfl, rfl, rfl, rfl, rfl, rfl, rfl, rfl, trivial⟩ ?_
                      refine S.region ?_
                      refine SO.v rfl (opv_move rfl) ?_
                      refine SO.v rfl (opv_move rfl) ?_
                      refine SO.v rfl (opv_add rfl rfl) ?_
                      refine SO.v rfl (opv_move rfl) ?_
                      refine SO.v rfl (opv_fieldAddr Try.underlying51 rfl Try.sizeOf3 rfl rfl) ?_
                      refine SO.b1 ?_
                      refine SO.load1 rfl Try.isAgg3 rfl rfl ?_
                      obtain ⟨t92, ht93, h⟩ := opt_bind h
                      refine SO.call (pre := []) rfl Try.call9 rfl rfl rfl (law10_Pick.ct _ _ _ ht93) trivial ?_
                      rintro _ _ ⟨rfl, rfl⟩
                      refine SO.v rfl (opv_eql rfl rfl) ?_
                      obtain ⟨⟨t94, p95⟩, ht96, h⟩ := opt_bind h
                      refine SO.b3 ?_
                      refine SO.closeR ?_
                      refine SO.b4 ?_
                      refine SO.closeR ?_
                      refine SO.b1 ?_
                      refine SO.b4 ?_
                      have ct98 := ref10_State_Send.ct b8 vy8_0_1 vy8_1_1 _ _ _ _ _ _ _ _ ht96
                      dsimp only at ct98
                      refine SO.call (pre := [Box _ _, OwnR _ _ _ _, OwnR _ _ _ _]) rfl Try.call27 rfl rfl rfl ct98 trivial ?_
                      rintro _ _ ⟨u97_Slots, u97_Objs, rfl, rfl⟩
                      refine SO.nil ?_
                      refine S.to (ρ' := [(0, .int .i64 a0), (1, v1), (4, .bool false), (5, .bool t1), (6, bp b8 0), (7, v20), (8, .int .i64 x8_1), (11, .int .i64 t29), (12, .int .i64 0), (13, errV 44 none)]) ⟨rfl, rfl, rfl, rfl, rfl, rfl, rfl, rfl, rfl, rfl, trivial⟩ ?_
                      refine S.inBlock ?_
                      cases h
                      refine S.b5 ?_
                      refine S.b1 ?_
                      refine S.b5 ?_
                      refine S.b5 ?_
                      refine S.b4 ?_
                      refine S.b5 ?_
                      refine S.to ?_ (hk2 ((0, none, p95.Slots, p95.Objs, p95.NS, p95.NO, s90), (u97_Slots, u97_Objs)) rfl)
                      exact ⟨rfl, rfl, rfl, rfl, rfl, rfl, rfl, rfl, rfl, rfl, trivial⟩
                    · replace h := cond_f b84 h
                      refine S.condF rfl b84 ?_
                      refine S.seq ?_
                      refine S.region ?_
                      refine SO.v rfl (opv_move rfl) ?_
                      refine SO.v rfl (opv_eql rfl rfl) ?_
                      refine SO.nil ?_
                      refine S.to (ρ' := [(0, .int .i64 a0), (1, v1), (4, .bool false), (5, .bool t1), (6, bp b8 0), (7, v20), (8, .int .i64 x8_1), (11, .int .i64 t29), (12, .int .i64 0), (13, errV 44 none), (80, .bool (t27 == 6))]) ⟨rfl, rfl, rfl, rfl, rfl, rfl, rfl, rfl, rfl, rfl, rfl, trivial⟩ ?_
                      rcases bool_or (t27 == 6) with b99 | b99
                      · replace h := cond_t b99 h
                        refine S.condT rfl b99 ?_
                        refine S.seq ?_
                        refine S.region ?_
                        refine SO.v rfl (opv_move rfl) ?_
                        refine SO.v rfl (opv_iface Try.underlying25 rfl rfl) ?_
                        refine SO.v rfl (opv_move rfl) ?_
                        refine SO.v rfl (opv_add rfl rfl) ?_
                        refine SO.v rfl (opv_move rfl) ?_
                        obtain ⟨⟨⟨t100, t101, t102⟩, s104⟩, ht103, h⟩ := opt_bind h
                        refine SO.b4 ?_
                        refine SO.call (pre := [(plainV v20).rep _]) rfl Try.call12 rfl rfl rfl (endp_Recv.ct (plainV v20) _ _ _ _ _ _ _ _ ht103) trivial ?_
                        rintro _ _ ⟨rfl, rfl⟩
                        refine headEq (plainV_rep _ _) ?_
                        refine SO.rd fun hr105 => ?_
                        refine SO.nil ?_
                        refine S.to (ρ' := [(0, .int .i64 a0), (1, v1), (4, .bool false), (5, .bool t1), (6, bp b8 0), (7, v20), (8, .int .i64 x8_1), (11, .int .i64 t29), (12, .int .i64 0), (13, errV 44 none)]) ⟨rfl, rfl, rfl, rfl, rfl, rfl, rfl, rfl, rfl, rfl, trivial⟩ ?_
                        refine S.region ?_
                        refine SO.v rfl (opv_move rfl) ?_
                        refine SO.v rfl (opv_move rfl) ?_
                        refine SO.v rfl (opv_add rfl rfl) ?_
                        refine SO.v rfl (opv_move rfl) ?_
                        obtain ⟨⟨t106, t107, t108, p109⟩, ht110, h⟩ := opt_bind h
                        refine SO.b2 ?_
                        refine SO.closeR ?_
                        refine SO.b3 ?_
                        refine SO.closeR ?_
                        refine SO.b1 ?_
                        refine SO.b3 ?_
                        have ct112 := ref10_State_Recv.ct b8 vy8_0_1 vy8_1_1 _ _ _ _ _ _ _ ht110
                        dsimp only at ct112
                        refine SO.call (pre := [Box _ _, OwnR _ _ _ _, OwnR _ _ _ _]) rfl Try.call28 rfl rfl rfl ct112 trivial ?_
                        rintro _ _ ⟨u111_Slots, u111_Objs, rfl, rfl⟩
                        refine SO.nil ?_
                        refine S.inBlock ?_
                        cases h
                        refine S.b5 ?_
                        refine S.b1 ?_
                        refine S.b4 ?_
                        refine S.b5 ?_
                        refine S.b4 ?_
                        refine S.b5 ?_
                        refine S.to ?_ (hk2 ((0, none, p109.Slots, p109.Objs, p109.NS, p109.NO, s104), (u111_Slots, u111_Objs)) rfl)
                        exact ⟨rfl, rfl, rfl, rfl, rfl, rfl, rfl, rfl, rfl, rfl, trivial⟩
                      · replace h := cond_f b99 h
                        refine S.condF rfl b99 ?_
                        refine S.seq ?_
                        refine S.region ?_
                        refine SO.v rfl (opv_move rfl) ?_
                        refine SO.v rfl (opv_iface Try.underlying25 rfl rfl) ?_
                        refine SO.v rfl (opv_move rfl) ?_
                        refine SO.v rfl (opv_add rfl rfl) ?_
                        refine SO.v rfl (opv_move rfl) ?_
                        obtain ⟨⟨⟨t113, t114, t115⟩, s117⟩, ht116, h⟩ := opt_bind h
                        refine SO.b4 ?_
                        refine SO.call (pre := [(plainV v20).rep _]) rfl Try.call15 rfl rfl rfl (ntfn_Wait.ct (plainV v20) _ _ _ _ _ _ _ ht116) trivial ?_
                        rintro _ _ ⟨rfl, rfl⟩
                        refine headEq (plainV_rep _ _) ?_
                        refine SO.rd fun hr118 => ?_
                        refine SO.nil ?_
                        refine S.to (ρ' := [(0, .int .i64 a0), (1, v1), (4, .bool false), (5, .bool t1), (6, bp b8 0), (7, v20), (8, .int .i64 x8_1), (11, .int .i64 t29), (12, .int .i64 0), (13, errV 44 none)]) ⟨rfl, rfl, rfl, rfl, rfl, rfl, rfl, rfl, rfl, rfl, trivial⟩ ?_
                        refine S.region ?_
                        refine SO.v rfl (opv_move rfl) ?_
                        refine SO.v rfl (opv_move rfl) ?_
                        refine SO.v rfl (opv_add rfl rfl) ?_
                        refine SO.v rfl (opv_move rfl) ?_
                        obtain ⟨⟨t119, t120, p121⟩, ht122, h⟩ := opt_bind h
                        refine SO.b2 ?_
                        refine SO.closeR ?_
                        refine SO.b3 ?_
                        refine SO.closeR ?_
                        refine SO.b1 ?_
                        refine SO.b3 ?_
                        have ct124 := ref10_State_Wait.ct b8 vy8_0_1 vy8_1_1 _ _ _ _ _ _ ht122
                        dsimp only at ct124
                        refine SO.call (pre := [Box _ _, OwnR _ _ _ _, OwnR _ _ _ _]) rfl Try.call29 rfl rfl rfl ct124 trivial ?_
                        rintro _ _ ⟨u123_Slots, u123_Objs, rfl, rfl⟩
                        refine SO.nil ?_
                        refine S.inBlock ?_
                        cases h
                        refine S.b5 ?_
                        refine S.b1 ?_
                        refine S.b4 ?_
                        refine S.b5 ?_
                        refine S.b4 ?_
                        refine S.b5 ?_
                        refine S.to ?_ (hk2 ((0, none, p121.Slots, p121.Objs, p121.NS, p121.NO, s117), (u123_Slots, u123_Objs)) rfl)
                        exact ⟨rfl, rfl, rfl, rfl, rfl, rfl, rfl, rfl, rfl, rfl, trivial⟩
        rintro ⟨⟨j12_2, j13_2, y8_0_2, y8_1_2, y8_2_2, y8_3_2, qv20_2⟩, ⟨vy8_0_2, vy8_1_2⟩⟩ hq
        subst hq
        replace h := Brk.of_nx hJ2
        refine S.b3 ?_
        refine S.rd fun hr126 => ?_
        refine S.seq ?_
        refine S.region ?_
        refine SO.v rfl (opv_move rfl) ?_
        refine SO.v rfl (opv_iface Try.underlying25 rfl rfl) ?_
        obtain ⟨⟨⟨t127, t128⟩, s130⟩, ht129, h⟩ := opt_bind h
        refine SO.call (pre := [(plainV v20).rep _]) rfl Try.call30 rfl rfl rfl (tcb_Highest.ct (plainV v20) _ _ _ _ _ ht129) trivial ?_
        rintro _ _ ⟨rfl, rfl⟩
        refine headEq (plainV_rep _ _) ?_
        refine SO.rd fun hr131 => ?_
        refine SO.v rfl (opv_move rfl) ?_
        refine SO.v rfl (opv_extract rfl rfl) ?_
        refine SO.v rfl (opv_extract rfl rfl) ?_
        refine SO.v rfl (opv_assign rfl) ?_
        refine SO.v rfl (opv_assign rfl) ?_
        refine SO.nil ?_
        refine S.seq ?_
        refine S.region ?_
        refine SO.v rfl (opv_move rfl) ?_
        obtain ⟨t140, ht141, h⟩ := opt_bind h
        refine SO.b2 ?_
        refine SO.openR fun raws132 A133 hrel134 hR135 => ?_
        refine SO.b2 ?_
        refine SO.openR fun raws136 A137 hrel138 hR139 => ?_
        refine SO.b1 ?_
        refine SO.b4 ?_
        have ct184 := ref10_State_Highest.ct _ b8 vy8_0_2 vy8_1_2 raws132 A133 raws136 A137 _ _ ht141
        dsimp only at ct184
        refine SO.call (pre := [Box _ _, OwnO _ _ _ _ _ _, OwnO _ _ _ _ _ _]) rfl Try.call31 rfl rfl rfl ct184 trivial ?_
        rintro _ _ ⟨rfl, rfl⟩
        refine SO.v rfl (opv_assign rfl) ?_
        refine SO.nil ?_
        refine S.to (ρ' := [(0, .int .i64 a0), (1, v1), (4, .bool false), (5, .bool t1), (6, bp b8 0), (7, v20), (8, .int .i64 x8_1), (11, .int .i64 t29), (12, .int .i64 j12_2), (13, errV 44 j13_2), (15, .int .i64 t127), (16, .bool t128), (17, .int .i64 t140)]) ⟨rfl, rfl, rfl, rfl, rfl, rfl, rfl, rfl, rfl, rfl, rfl, rfl, rfl, trivial⟩ ?_
        refine S.seq ?_
        obtain ⟨⟨j203_4, qv20_4⟩, hC4, hJ4⟩ := opt_bind h
        clear h
        refine S.cutP (G := Unit) (fun _ => True) (fun _ => [(0, .int .i64 a0), (1, v1), (4, .bool false), (5, .bool t1), (6, bp b8 0), (7, v20), (8, .int .i64 x8_1), (203, .bool j203_4)]) (fun _ => [Box b8 [vy8_0_2, vy8_1_2, .int .i64 y8_2_2, .int .i64 y8_3_2], OwnO 81 kr_ref10_Slot vy8_0_2 raws132 A133 y8_0_2, OwnO 72 kr_ref10_Obj vy8_1_2 raws136 A137 y8_1_2, Own 35 (ekI .u64) v20 qv20_4, Box b26 [.int .i64 x24.What, .int .i64 x24.T, .int .i64 x24.N, .int .i64 x24.C.Kind, .int .i64 x24.C.Rights, .int .i64 x24.C.Obj, .int .i64 x24.C.Badge, .int .i64 x24.C.Guard, .int .i64 x24.C.Bits], F]) (fun hk4 => ?_) ?_
        · replace h := hC4
          obtain ⟨t142, ht143, h⟩ := opt_bind h
          rcases bool_or (t142 != j12_2) with b144 | b144
          · replace h := cond_t b144 h
            refine S.draw' (Z := fun Q => ∀ (_ : Unit) (_ : Unit) (_ : Unit) (_ : Unit) (_ : Unit) (_ : Unit) (_ : Unit) (_ : Unit) (_ : Unit) (_ : Unit), Q [(0, .int .i64 a0), (1, v1), (4, .bool false), (5, .bool t1), (8, .int .i64 x8_1), (6, bp b8 0), (7, v20), (203, .bool true)] [Box b8 [vy8_0_2, vy8_1_2, .int .i64 y8_2_2, .int .i64 y8_3_2], OwnO 81 kr_ref10_Slot vy8_0_2 raws132 A133 y8_0_2, OwnO 72 kr_ref10_Obj vy8_1_2 raws136 A137 y8_1_2, Own 35 (ekI .u64) v20 s130, Box b26 [.int .i64 x24.What, .int .i64 x24.T, .int .i64 x24.N, .int .i64 x24.C.Kind, .int .i64 x24.C.Rights, .int .i64 x24.C.Obj, .int .i64 x24.C.Badge, .int .i64 x24.C.Guard, .int .i64 x24.C.Bits], F]) (T := [tS 13 (errV 44 j13_2), tS 12 (.int .i64 j12_2), tS 7 (v20), tS 6 (bp b8 0), tS 16 (.bool t128), tS 17 (.int .i64 t140), tS 15 (.int .i64 t127), tS 11 (.int .i64 t29), tE [(0, .int .i64 a0), (1, v1), (4, .bool false), (5, .bool t1), (8, .int .i64 x8_1)], tR (Box b8 [vy8_0_2, vy8_1_2, .int .i64 y8_2_2, .int .i64 y8_3_2]), tR (OwnO 81 kr_ref10_Slot vy8_0_2 raws132 A133 y8_0_2), tR (OwnO 72 kr_ref10_Obj vy8_1_2 raws136 A137 y8_1_2), tR (Own 35 (ekI .u64) v20 s130), tR (Box b26 [.int .i64 x24.What, .int .i64 x24.T, .int .i64 x24.N, .int .i64 x24.C.Kind, .int .i64 x24.C.Rights, .int .i64 x24.C.Obj, .int .i64 x24.C.Badge, .int .i64 x24.C.Guard, .int .i64 x24.C.Bits]), tR (F), tS 164 (errV 44 j13_2), tS 165 (.int .i64 t142), tS 166 (.int .i64 j12_2), tS 167 (.bool (t142 != j12_2)), tS 168 (.bool (t142 != j12_2)), tS 169 (undef), tS 170 (undef), tS 171 (undef), tS 172 (undef), tS 173 (undef), tS 174 (.bool true), tS 175 (.bool true), tS 176 (undef), tS 177 (undef), tS 178 (undef), tS 179 (undef), tS 180 (.bool true), tS 181 (.bool true), tS 182 (undef), tS 183 (undef), tS 184 (undef), tS 185 (undef), tS 186 (undef), tS 187 (undef), tS 188 (.bool true), tS 189 (.bool true), tS 190 (undef), tS 191 (undef), tS 192 (undef), tS 193 (undef), tS 194 (undef), tS 195 (undef), tS 196 (undef), tS 197 (undef), tS 198 (undef), tS 199 (undef), tS 200 (undef), tS 201 (undef), tS 202 (undef), tS 203 (.bool true)]) (D := [⟨[0], [], [15]⟩, ⟨[15], [], [16]⟩, ⟨[1], [], [17]⟩, ⟨[16, 17], [], [18]⟩, ⟨[18], [], [19]⟩, ⟨[19], [], [20]⟩, ⟨[19], [], [21]⟩, ⟨[19], [], [22]⟩, ⟨[19], [], [23]⟩, ⟨[19], [], [24]⟩, ⟨[19, 24], [], [25]⟩, ⟨[25], [], [26]⟩, ⟨[26], [], [27]⟩, ⟨[26], [], [28]⟩, ⟨[26], [], [29]⟩, ⟨[26], [], [30]⟩, ⟨[26, 30], [], [31]⟩, ⟨[31], [], [32]⟩, ⟨[32], [], [33]⟩, ⟨[32], [], [34]⟩, ⟨[34], [], [35]⟩, ⟨[34], [], [36]⟩, ⟨[34], [], [37]⟩, ⟨[32], [], [38]⟩, ⟨[32, 38], [], [39]⟩, ⟨[39], [], [40]⟩, ⟨[40], [], [41]⟩, ⟨[40], [], [42]⟩, ⟨[40], [], [43]⟩, ⟨[40], [], [44]⟩, ⟨[40], [], [45]⟩, ⟨[40], [], [46]⟩, ⟨[40], [], [47]⟩, ⟨[40], [], [48]⟩, ⟨[40], [], [49]⟩, ⟨[40], [], [50]⟩, ⟨[40], [], [51]⟩, ⟨[40], [], [52]⟩, ⟨[40], [], [53]⟩, ⟨[40, 53], [], [54]⟩]) (ini := [0, 1, 2, 3, 4, 5, 6, 7, 8, 9, 10, 11, 12, 13, 14]) (fin := [8, 3, 2, 54, 9, 10, 11, 12, 13, 14]) (bf := [[], [0], [], [0, 1, 2], [0, 1, 2, 3], [0, 1, 2, 3, 4], [0, 1, 2, 3, 4], [0, 1, 2, 3, 4, 6], [0, 1, 2, 3, 4, 5, 6, 7], [0, 1, 2, 3, 4, 5, 6, 7, 8], [0, 1, 2, 3, 4, 5, 6, 7, 8, 9], [0, 1, 2, 3, 4, 5, 6, 7, 8, 9, 10], [0, 1, 2, 3, 4, 5, 6, 7, 8, 9, 10, 11], [0, 1, 2, 3, 4, 5, 6, 7, 8, 9, 10, 11], [0, 1, 2, 3, 4, 5, 6, 7, 8, 9, 10, 11, 13], [0, 1, 2, 3, 4, 5, 6, 7, 8, 9, 10, 11, 12, 13, 14], [0, 1, 2, 3, 4, 5, 6, 7, 8, 9, 10, 11, 12, 13, 14, 15], [0, 1, 2, 3, 4, 5, 6, 7, 8, 9, 10, 11, 12, 13, 14, 15, 16], [0, 1, 2, 3, 4, 5, 6, 7, 8, 9, 10, 11, 12, 13, 14, 15, 16, 17], [0, 1, 2, 3, 4, 5, 6, 7, 8, 9, 10, 11, 12, 13, 14, 15, 16, 17, 18], [0, 1, 2, 3, 4, 5, 6, 7, 8, 9, 10, 11, 12, 13, 14, 15, 16, 17, 18, 19], [0, 1, 2, 3, 4, 5, 6, 7, 8, 9, 10, 11, 12, 13, 14, 15, 16, 17, 18, 19], [0, 1, 2, 3, 4, 5, 6, 7, 8, 9, 10, 11, 12, 13, 14, 15, 16, 17, 18, 19, 20, 21], [0, 1, 2, 3, 4, 5, 6, 7, 8, 9, 10, 11, 12, 13, 14, 15, 16, 17, 18, 19, 20, 21, 22], [0, 1, 2, 3, 4, 5, 6, 7, 8, 9, 10, 11, 12, 13, 14, 15, 16, 17, 18, 19, 20, 21, 22, 23], [0, 1, 2, 3, 4, 5, 6, 7, 8, 9, 10, 11, 12, 13, 14, 15, 16, 17, 18, 19, 20, 21, 22, 23, 24], [0, 1, 2, 3, 4, 5, 6, 7, 8, 9, 10, 11, 12, 13, 14, 15, 16, 17, 18, 19, 20, 21, 22, 23, 24, 25], [0, 1, 2, 3, 4, 5, 6, 7, 8, 9, 10, 11, 12, 13, 14, 15, 16, 17, 18, 19, 20, 21, 22, 23, 24, 25, 26], [0, 1, 2, 3, 4, 5, 6, 7, 8, 9, 10, 11, 12, 13, 14, 15, 16, 17, 18, 19, 20, 21, 22, 23, 24, 25], [0, 1, 2, 3, 4, 5, 6, 7, 8, 9, 10, 11, 12, 13, 14, 15, 16, 17, 18, 19, 20, 21, 22, 23, 24, 25, 26, 27, 28], [0, 1, 2, 3, 4, 5, 6, 7, 8, 9, 10, 11, 12, 13, 14, 15, 16, 17, 18, 19, 20, 21, 22, 23, 24, 25], [0, 1, 2, 3, 4, 5, 6, 7, 8, 9, 10, 11, 12, 13, 14, 15, 16, 17, 18, 19, 20, 21, 22, 23, 24, 25, 30], [0, 1, 2, 3, 4, 5, 6, 7, 8, 9, 10, 11, 12, 13, 14, 15, 16, 17, 18, 19, 20, 21, 22, 23, 24, 25, 30, 31], [0, 1, 2, 3, 4, 5, 6, 7, 8, 9, 10, 11, 12, 13, 14, 15, 16, 17, 18, 19, 20, 21, 22, 23, 24, 25, 30, 31, 32], [0, 1, 2, 3, 4, 5, 6, 7, 8, 9, 10, 11, 12, 13, 14, 15, 16, 17, 18, 19, 20, 21, 22, 23, 24, 25], [0, 1, 2, 3, 4, 5, 6, 7, 8, 9, 10, 11, 12, 13, 14, 15, 16, 17, 18, 19, 20, 21, 22, 23, 24, 25, 30, 31, 32, 33, 34], [0, 1, 2, 3, 4, 5, 6, 7, 8, 9, 10, 11, 12, 13, 14, 15, 16, 17, 18, 19, 20, 21, 22, 23, 24, 25, 30, 31, 32, 33, 34, 35], [0, 1, 2, 3, 4, 5, 6, 7, 8, 9, 10, 11, 12, 13, 14, 15, 16, 17, 18, 19, 20, 21, 22, 23, 24, 25, 30, 31, 32, 33, 34, 35, 36], [0, 1, 2, 3, 4, 5, 6, 7, 8, 9, 10, 11, 12, 13, 14, 15, 16, 17, 18, 19, 20, 21, 22, 23, 24, 25, 26, 27, 28, 29, 30, 31, 32, 33, 34, 35, 36, 37], [0, 1, 2, 3, 4, 5, 6, 7, 8, 9, 10, 11, 12, 13, 14, 15, 16, 17, 18, 19, 20, 21, 22, 23, 24, 25, 26, 27, 28, 29, 30, 31, 32, 33, 34, 35, 36, 37, 38]]) (by kernel_rfl) (by kernel_rfl) (fun x w h1 h2 => (.cons () (.cons () (.cons () (.cons () (.cons () (.cons () (.cons () (.cons () (.cons () (.cons () (.cons () (.cons () (.cons () (.cons () (.cons () (.nil ⟨EnvAll.of h1 ⟨rfl, rfl, rfl, rfl, rfl, rfl, rfl, rfl, rfl, rfl, rfl, rfl, rfl, trivial⟩, h2⟩))))))))))))))))) (fun Q => by kernel_rfl) ⟨?_, ?_, ?_, ?_, ?_, ?_, ?_, ?_, ?_, ?_, ?_, ?_, ?_, ?_, ?_, ?_, ?_, ?_, ?_, ?_, ?_, ?_, ?_, ?_, ?_, ?_, ?_, ?_, ?_, ?_, ?_, ?_, ?_, ?_, ?_, ?_, ?_, ?_, ?_, ?_, trivial⟩ ?_
            · rintro Fr _
              refine SO.v rfl (opv_move rfl) ?_
              exact SO.nilZ fun a w h1 h2 h3 h4 h5 => PZ.of h1 h3 h5 (.cons () (.cons () (.nil ⟨EnvAll.of h2 ⟨rfl, rfl, trivial⟩, h4⟩)))
            · rintro Fr _
              refine SO.call (pre := []) rfl Try.call32 rfl rfl rfl (law00_Code.ct _ _ _ ht143) trivial ?_
              rintro _ _ ⟨rfl, rfl⟩
              exact SO.nilZ fun a w h1 h2 h3 h4 h5 => PZ.of h1 h3 h5 (.cons () (.cons () (.nil ⟨EnvAll.of h2 ⟨rfl, rfl, trivial⟩, h4⟩)))
            · rintro Fr _
              refine SO.v rfl (opv_move rfl) ?_
              exact SO.nilZ fun a w h1 h2 h3 h4 h5 => PZ.of h1 h3 h5 (.cons () (.cons () (.nil ⟨EnvAll.of h2 ⟨rfl, rfl, trivial⟩, h4⟩)))
            · rintro Fr _ _
              refine SO.v rfl (opv_neq rfl rfl) ?_
              exact SO.nilZ fun a w h1 h2 h3 h4 h5 => PZ.of h1 h3 h5 (.cons () (.cons () (.cons () (.nil ⟨EnvAll.of h2 ⟨rfl, rfl, rfl, trivial⟩, h4⟩))))
            · rintro Fr _
              refine SO.v rfl (opv_move rfl) ?_
              exact SO.nilZ fun a w h1 h2 h3 h4 h5 => PZ.of h1 h3 h5 (.cons () (.cons () (.nil ⟨EnvAll.of h2 ⟨rfl, rfl, trivial⟩, h4⟩)))
            · rintro Fr _
              refine SO.passF rfl rfl rfl b144 rfl rfl ?_
              exact SO.nilZ fun a w h1 h2 h3 h4 h5 => PZ.of h1 h3 h5 (.cons () (.cons () (.nil ⟨EnvAll.of h2 ⟨rfl, rfl, trivial⟩, h4⟩)))
            · rintro Fr _
              refine SO.passF rfl rfl rfl b144 rfl rfl ?_
              exact SO.nilZ fun a w h1 h2 h3 h4 h5 => PZ.of h1 h3 h5 (.cons () (.cons () (.nil ⟨EnvAll.of h2 ⟨rfl, rfl, trivial⟩, h4⟩)))
            · rintro Fr _
              refine SO.passF rfl rfl rfl b144 rfl rfl ?_
              exact SO.nilZ fun a w h1 h2 h3 h4 h5 => PZ.of h1 h3 h5 (.cons () (.cons () (.nil ⟨EnvAll.of h2 ⟨rfl, rfl, trivial⟩, h4⟩)))
            · rintro Fr _
              refine SO.passF rfl rfl rfl b144 rfl rfl ?_
              exact SO.nilZ fun a w h1 h2 h3 h4 h5 => PZ.of h1 h3 h5 (.cons () (.cons () (.nil ⟨EnvAll.of h2 ⟨rfl, rfl, trivial⟩, h4⟩)))
            · rintro Fr _
              refine SO.passF rfl rfl rfl b144 rfl rfl ?_
              exact SO.nilZ fun a w h1 h2 h3 h4 h5 => PZ.of h1 h3 h5 (.cons () (.cons () (.nil ⟨EnvAll.of h2 ⟨rfl, rfl, trivial⟩, h4⟩)))
            · rintro Fr _ _
              refine SO.v rfl (opv_pick_t' b144 rfl rfl) ?_
              exact SO.nilZ fun a w h1 h2 h3 h4 h5 => PZ.of h1 h3 h5 (.cons () (.cons () (.cons () (.nil ⟨EnvAll.of h2 ⟨rfl, rfl, rfl, trivial⟩, h4⟩))))
            · rintro Fr _
              refine SO.v rfl (opv_move rfl) ?_
              exact SO.nilZ fun a w h1 h2 h3 h4 h5 => PZ.of h1 h3 h5 (.cons () (.cons () (.nil ⟨EnvAll.of h2 ⟨rfl, rfl, trivial⟩, h4⟩)))
            · rintro Fr _
              refine SO.passF rfl rfl rfl rfl rfl rfl ?_
              exact SO.nilZ fun a w h1 h2 h3 h4 h5 => PZ.of h1 h3 h5 (.cons () (.cons () (.nil ⟨EnvAll.of h2 ⟨rfl, rfl, trivial⟩, h4⟩)))
            · rintro Fr _
              refine SO.passF rfl rfl rfl rfl rfl rfl ?_
              exact SO.nilZ fun a w h1 h2 h3 h4 h5 => PZ.of h1 h3 h5 (.cons () (.cons () (.nil ⟨EnvAll.of h2 ⟨rfl, rfl, trivial⟩, h4⟩)))
            · rintro Fr _
              refine SO.passF rfl rfl rfl rfl rfl rfl ?_
              exact SO.nilZ fun a w h1 h2 h3 h4 h5 => PZ.of h1 h3 h5 (.cons () (.cons () (.nil ⟨EnvAll.of h2 ⟨rfl, rfl, trivial⟩, h4⟩)))
            · rintro Fr _
              refine SO.passF rfl rfl rfl rfl rfl rfl ?_
              exact SO.nilZ fun a w h1 h2 h3 h4 h5 => PZ.of h1 h3 h5 (.cons () (.cons () (.nil ⟨EnvAll.of h2 ⟨rfl, rfl, trivial⟩, h4⟩)))
            · rintro Fr _ _
              refine SO.v rfl (opv_pick_tt rfl rfl) ?_
              exact SO.nilZ fun a w h1 h2 h3 h4 h5 => PZ.of h1 h3 h5 (.cons () (.cons () (.cons () (.nil ⟨EnvAll.of h2 ⟨rfl, rfl, rfl, trivial⟩, h4⟩))))
            · rintro Fr _
              refine SO.v rfl (opv_move rfl) ?_
              exact SO.nilZ fun a w h1 h2 h3 h4 h5 => PZ.of h1 h3 h5 (.cons () (.cons () (.nil ⟨EnvAll.of h2 ⟨rfl, rfl, trivial⟩, h4⟩)))
            · rintro Fr _
              refine SO.passF rfl rfl rfl rfl rfl rfl ?_
              exact SO.nilZ fun a w h1 h2 h3 h4 h5 => PZ.of h1 h3 h5 (.cons () (.cons () (.nil ⟨EnvAll.of h2 ⟨rfl, rfl, trivial⟩, h4⟩)))
            · rintro Fr _
              refine SO.passF rfl rfl rfl rfl rfl rfl ?_
              exact SO.nilZ fun a w h1 h2 h3 h4 h5 => PZ.of h1 h3 h5 (.cons () (.cons () (.nil ⟨EnvAll.of h2 ⟨rfl, rfl, trivial⟩, h4⟩)))
            · rintro Fr _
              refine SO.pass_undef rfl rfl rfl rfl ?_
              exact SO.nilZ fun a w h1 h2 h3 h4 h5 => PZ.of h1 h3 h5 (.cons () (.cons () (.nil ⟨EnvAll.of h2 ⟨rfl, rfl, trivial⟩, h4⟩)))
            · rintro Fr _
              refine SO.pass_undef rfl rfl rfl rfl ?_
              exact SO.nilZ fun a w h1 h2 h3 h4 h5 => PZ.of h1 h3 h5 (.cons () (.cons () (.nil ⟨EnvAll.of h2 ⟨rfl, rfl, trivial⟩, h4⟩)))
            · rintro Fr _
              refine SO.pass_undef rfl rfl rfl rfl ?_
              exact SO.nilZ fun a w h1 h2 h3 h4 h5 => PZ.of h1 h3 h5 (.cons () (.cons () (.nil ⟨EnvAll.of h2 ⟨rfl, rfl, trivial⟩, h4⟩)))
            · rintro Fr _
              refine SO.passF rfl rfl rfl rfl rfl rfl ?_
              exact SO.nilZ fun a w h1 h2 h3 h4 h5 => PZ.of h1 h3 h5 (.cons () (.cons () (.nil ⟨EnvAll.of h2 ⟨rfl, rfl, trivial⟩, h4⟩)))
            · rintro Fr _ _
              refine SO.v rfl (opv_pick_tt rfl rfl) ?_
              exact SO.nilZ fun a w h1 h2 h3 h4 h5 => PZ.of h1 h3 h5 (.cons () (.cons () (.cons () (.nil ⟨EnvAll.of h2 ⟨rfl, rfl, rfl, trivial⟩, h4⟩))))
            · rintro Fr _
              refine SO.v rfl (opv_move rfl) ?_
              exact SO.nilZ fun a w h1 h2 h3 h4 h5 => PZ.of h1 h3 h5 (.cons () (.cons () (.nil ⟨EnvAll.of h2 ⟨rfl, rfl, trivial⟩, h4⟩)))
            · rintro Fr _
              refine SO.passF rfl rfl rfl rfl rfl rfl ?_
              exact SO.nilZ fun a w h1 h2 h3 h4 h5 => PZ.of h1 h3 h5 (.cons () (.cons () (.nil ⟨EnvAll.of h2 ⟨rfl, rfl, trivial⟩, h4⟩)))
            · rintro Fr _
              refine SO.passF rfl rfl rfl rfl rfl rfl ?_
              exact SO.nilZ fun a w h1 h2 h3 h4 h5 => PZ.of h1 h3 h5 (.cons () (.cons () (.nil ⟨EnvAll.of h2 ⟨rfl, rfl, trivial⟩, h4⟩)))
            · rintro Fr _
              refine SO.passF rfl rfl rfl rfl rfl rfl ?_
              exact SO.nilZ fun a w h1 h2 h3 h4 h5 => PZ.of h1 h3 h5 (.cons () (.cons () (.nil ⟨EnvAll.of h2 ⟨rfl, rfl, trivial⟩, h4⟩)))
            · rintro Fr _
              refine SO.passF rfl rfl rfl rfl rfl rfl ?_
              exact SO.nilZ fun a w h1 h2 h3 h4 h5 => PZ.of h1 h3 h5 (.cons () (.cons () (.nil ⟨EnvAll.of h2 ⟨rfl, rfl, trivial⟩, h4⟩)))
            · rintro Fr _
              refine SO.passF rfl rfl rfl rfl rfl rfl ?_
              exact SO.nilZ fun a w h1 h2 h3 h4 h5 => PZ.of h1 h3 h5 (.cons () (.cons () (.nil ⟨EnvAll.of h2 ⟨rfl, rfl, trivial⟩, h4⟩)))
            · rintro Fr _
              refine SO.passF rfl rfl rfl rfl rfl rfl ?_
              exact SO.nilZ fun a w h1 h2 h3 h4 h5 => PZ.of h1 h3 h5 (.cons () (.cons () (.nil ⟨EnvAll.of h2 ⟨rfl, rfl, trivial⟩, h4⟩)))
            · rintro Fr _
              refine SO.passF rfl rfl rfl rfl rfl rfl ?_
              exact SO.nilZ fun a w h1 h2 h3 h4 h5 => PZ.of h1 h3 h5 (.cons () (.cons () (.nil ⟨EnvAll.of h2 ⟨rfl, rfl, trivial⟩, h4⟩)))
            · rintro Fr _
              refine SO.passF rfl rfl rfl rfl rfl rfl ?_
              exact SO.nilZ fun a w h1 h2 h3 h4 h5 => PZ.of h1 h3 h5 (.cons () (.cons () (.nil ⟨EnvAll.of h2 ⟨rfl, rfl, trivial⟩, h4⟩)))
            · rintro Fr _
              refine SO.passF rfl rfl rfl rfl rfl rfl ?_
              exact SO.nilZ fun a w h1 h2 h3 h4 h5 => PZ.of h1 h3 h5 (.cons () (.cons () (.nil ⟨EnvAll.of h2 ⟨rfl, rfl, trivial⟩, h4⟩)))
            · rintro Fr _
              refine SO.passF rfl rfl rfl rfl rfl rfl ?_
              exact SO.nilZ fun a w h1 h2 h3 h4 h5 => PZ.of h1 h3 h5 (.cons () (.cons () (.nil ⟨EnvAll.of h2 ⟨rfl, rfl, trivial⟩, h4⟩)))
            · rintro Fr _
              refine SO.passF rfl rfl rfl rfl rfl rfl ?_
              exact SO.nilZ fun a w h1 h2 h3 h4 h5 => PZ.of h1 h3 h5 (.cons () (.cons () (.nil ⟨EnvAll.of h2 ⟨rfl, rfl, trivial⟩, h4⟩)))
            · rintro Fr _
              refine SO.passF rfl rfl rfl rfl rfl rfl ?_
              exact SO.nilZ fun a w h1 h2 h3 h4 h5 => PZ.of h1 h3 h5 (.cons () (.cons () (.nil ⟨EnvAll.of h2 ⟨rfl, rfl, trivial⟩, h4⟩)))
            · rintro Fr _
              refine SO.passF rfl rfl rfl rfl rfl rfl ?_
              exact SO.nilZ fun a w h1 h2 h3 h4 h5 => PZ.of h1 h3 h5 (.cons () (.cons () (.nil ⟨EnvAll.of h2 ⟨rfl, rfl, trivial⟩, h4⟩)))
            · rintro Fr _ _
              refine SO.v rfl (opv_pick_tt rfl rfl) ?_
              exact SO.nilZ fun a w h1 h2 h3 h4 h5 => PZ.of h1 h3 h5 (.cons () (.cons () (.cons () (.nil ⟨EnvAll.of h2 ⟨rfl, rfl, rfl, trivial⟩, h4⟩))))
            rintro _ _ _ _ _ _ _ _ _ _
            refine S.to (ρ' := [(0, .int .i64 a0), (1, v1), (4, .bool false), (5, .bool t1), (8, .int .i64 x8_1), (6, bp b8 0), (7, v20), (203, .bool true)]) ⟨rfl, rfl, rfl, rfl, rfl, rfl, rfl, rfl, trivial⟩ ?_
            cases h
            refine S.b5 ?_
            refine S.b5 ?_
            refine S.b5 ?_
            refine S.b5 ?_
            refine S.b5 ?_
            refine S.b5 ?_
            refine S.to ?_ (hk4 () trivial)
            exact ⟨rfl, rfl, rfl, rfl, rfl, rfl, rfl, rfl, trivial⟩
          · replace h := cond_f b144 h
            obtain ⟨t145, ht146, h⟩ := opt_bind h
            obtain ⟨t151, ht152, h⟩ := opt_bind h
            rcases bool_or (!t151) with b153 | b153
            · replace h := cond_t b153 h
              refine S.draw' (Z := fun Q => ∀ (_ : Unit) (_ : Unit) (_ : Unit) (_ : Unit) (v147 : Value) (_ : Unit) (_ : Unit) (_ : Unit) (_ : Unit) (_ : Unit) (_ : Unit), Q [(0, .int .i64 a0), (1, v1), (4, .bool false), (5, .bool t1), (8, .int .i64 x8_1), (6, bp b8 0), (7, v20), (203, .bool true), (171, v147)] [Own 35 (ekI .u64) v147 t145, Box b8 [vy8_0_2, vy8_1_2, .int .i64 y8_2_2, .int .i64 y8_3_2], OwnO 81 kr_ref10_Slot vy8_0_2 raws132 A133 y8_0_2, OwnO 72 kr_ref10_Obj vy8_1_2 raws136 A137 y8_1_2, Own 35 (ekI .u64) v20 s130, Box b26 [.int .i64 x24.What, .int .i64 x24.T, .int .i64 x24.N, .int .i64 x24.C.Kind, .int .i64 x24.C.Rights, .int .i64 x24.C.Obj, .int .i64 x24.C.Badge, .int .i64 x24.C.Guard, .int .i64 x24.C.Bits], F]) (T := [tS 13 (errV 44 j13_2), tS 12 (.int .i64 j12_2), tS 7 (v20), tS 6 (bp b8 0), tS 16 (.bool t128), tS 17 (.int .i64 t140), tS 15 (.int .i64 t127), tS 11 (.int .i64 t29), tE [(0, .int .i64 a0), (1, v1), (4, .bool false), (5, .bool t1), (8, .int .i64 x8_1)], tR (Box b8 [vy8_0_2, vy8_1_2, .int .i64 y8_2_2, .int .i64 y8_3_2]), tR (OwnO 81 kr_ref10_Slot vy8_0_2 raws132 A133 y8_0_2), tR (OwnO 72 kr_ref10_Obj vy8_1_2 raws136 A137 y8_1_2), tR (Own 35 (ekI .u64) v20 s130), tR (Box b26 [.int .i64 x24.What, .int .i64 x24.T, .int .i64 x24.N, .int .i64 x24.C.Kind, .int .i64 x24.C.Rights, .int .i64 x24.C.Obj, .int .i64 x24.C.Badge, .int .i64 x24.C.Guard, .int .i64 x24.C.Bits]), tR (F), tS 164 (errV 44 j13_2), tS 165 (.int .i64 t142), tS 166 (.int .i64 j12_2), tS 167 (.bool (t142 != j12_2)), tS 168 (.bool (t142 != j12_2)), tS 169 (v20), tS 170 (bp b8 0), ⟨Value, [171], (fun v147 => [(171, v147)]), (fun v147 => [Own 35 (ekI .u64) v147 t145]), fun _ => rfl⟩, tS 172 (.bool t151), tS 173 (.bool (!t151)), tS 174 (.bool (!t151)), tS 175 (.bool (!t151)), tS 176 (undef), tS 177 (undef), tS 178 (undef), tS 179 (undef), tS 180 (.bool true), tS 181 (.bool true), tS 182 (undef), tS 183 (undef), tS 184 (undef), tS 185 (undef), tS 186 (undef), tS 187 (undef), tS 188 (.bool true), tS 189 (.bool true), tS 190 (undef), tS 191 (undef), tS 192 (undef), tS 193 (undef), tS 194 (undef), tS 195 (undef), tS 196 (undef), tS 197 (undef), tS 198 (undef), tS 199 (undef), tS 200 (undef), tS 201 (undef), tS 202 (undef), tS 203 (.bool true)]) (D := [⟨[0], [], [15]⟩, ⟨[15], [], [16]⟩, ⟨[1], [], [17]⟩, ⟨[16, 17], [], [18]⟩, ⟨[18], [], [19]⟩, ⟨[2, 19], [], [20]⟩, ⟨[3, 19], [], [21]⟩, ⟨[19, 21, 9, 10, 11], [], [22]⟩, ⟨[19, 20, 22, 12], [], [23]⟩, ⟨[19, 23], [], [24]⟩, ⟨[19, 24], [], [25]⟩, ⟨[25], [], [26]⟩, ⟨[26], [], [27]⟩, ⟨[26], [], [28]⟩, ⟨[26], [], [29]⟩, ⟨[26], [], [30]⟩, ⟨[26, 30], [], [31]⟩, ⟨[31], [], [32]⟩, ⟨[32], [], [33]⟩, ⟨[32], [], [34]⟩, ⟨[34], [], [35]⟩, ⟨[34], [], [36]⟩, ⟨[34], [], [37]⟩, ⟨[32], [], [38]⟩, ⟨[32, 38], [], [39]⟩, ⟨[39], [], [40]⟩, ⟨[40], [], [41]⟩, ⟨[40], [], [42]⟩, ⟨[40], [], [43]⟩, ⟨[40], [], [44]⟩, ⟨[40], [], [45]⟩, ⟨[40], [], [46]⟩, ⟨[40], [], [47]⟩, ⟨[40], [], [48]⟩, ⟨[40], [], [49]⟩, ⟨[40], [], [50]⟩, ⟨[40], [], [51]⟩, ⟨[40], [], [52]⟩, ⟨[40], [], [53]⟩, ⟨[40, 53], [], [54]⟩]) (ini := [0, 1, 2, 3, 4, 5, 6, 7, 8, 9, 10, 11, 12, 13, 14]) (fin := [8, 3, 2, 54, 22, 9, 10, 11, 12, 13, 14]) (bf := [[], [0], [], [0, 1, 2], [0, 1, 2, 3], [0, 1, 2, 3, 4], [0, 1, 2, 3, 4], [0, 1, 2, 3, 4, 6], [0, 1, 2, 3, 4, 5, 6, 7], [0, 1, 2, 3, 4, 5, 6, 7, 8], [0, 1, 2, 3, 4, 5, 6, 7, 8, 9], [0, 1, 2, 3, 4, 5, 6, 7, 8, 9, 10], [0, 1, 2, 3, 4, 5, 6, 7, 8, 9, 10, 11], [0, 1, 2, 3, 4, 5, 6, 7, 8, 9, 10, 11], [0, 1, 2, 3, 4, 5, 6, 7, 8, 9, 10, 11, 13], [0, 1, 2, 3, 4, 5, 6, 7, 8, 9, 10, 11, 12, 13, 14], [0, 1, 2, 3, 4, 5, 6, 7, 8, 9, 10, 11, 12, 13, 14, 15], [0, 1, 2, 3, 4, 5, 6, 7, 8, 9, 10, 11, 12, 13, 14, 15, 16], [0, 1, 2, 3, 4, 5, 6, 7, 8, 9, 10, 11, 12, 13, 14, 15, 16, 17], [0, 1, 2, 3, 4, 5, 6, 7, 8, 9, 10, 11, 12, 13, 14, 15, 16, 17, 18], [0, 1, 2, 3, 4, 5, 6, 7, 8, 9, 10, 11, 12, 13, 14, 15, 16, 17, 18, 19], [0, 1, 2, 3, 4, 5, 6, 7, 8, 9, 10, 11, 12, 13, 14, 15, 16, 17, 18, 19], [0, 1, 2, 3, 4, 5, 6, 7, 8, 9, 10, 11, 12, 13, 14, 15, 16, 17, 18, 19, 20, 21], [0, 1, 2, 3, 4, 5, 6, 7, 8, 9, 10, 11, 12, 13, 14, 15, 16, 17, 18, 19, 20, 21, 22], [0, 1, 2, 3, 4, 5, 6, 7, 8, 9, 10, 11, 12, 13, 14, 15, 16, 17, 18, 19, 20, 21, 22, 23], [0, 1, 2, 3, 4, 5, 6, 7, 8, 9, 10, 11, 12, 13, 14, 15, 16, 17, 18, 19, 20, 21, 22, 23, 24], [0, 1, 2, 3, 4, 5, 6, 7, 8, 9, 10, 11, 12, 13, 14, 15, 16, 17, 18, 19, 20, 21, 22, 23, 24, 25], [0, 1, 2, 3, 4, 5, 6, 7, 8, 9, 10, 11, 12, 13, 14, 15, 16, 17, 18, 19, 20, 21, 22, 23, 24, 25, 26], [0, 1, 2, 3, 4, 5, 6, 7, 8, 9, 10, 11, 12, 13, 14, 15, 16, 17, 18, 19, 20, 21, 22, 23, 24, 25], [0, 1, 2, 3, 4, 5, 6, 7, 8, 9, 10, 11, 12, 13, 14, 15, 16, 17, 18, 19, 20, 21, 22, 23, 24, 25, 26, 27, 28], [0, 1, 2, 3, 4, 5, 6, 7, 8, 9, 10, 11, 12, 13, 14, 15, 16, 17, 18, 19, 20, 21, 22, 23, 24, 25], [0, 1, 2, 3, 4, 5, 6, 7, 8, 9, 10, 11, 12, 13, 14, 15, 16, 17, 18, 19, 20, 21, 22, 23, 24, 25, 30], [0, 1, 2, 3, 4, 5, 6, 7, 8, 9, 10, 11, 12, 13, 14, 15, 16, 17, 18, 19, 20, 21, 22, 23, 24, 25, 30, 31], [0, 1, 2, 3, 4, 5, 6, 7, 8, 9, 10, 11, 12, 13, 14, 15, 16, 17, 18, 19, 20, 21, 22, 23, 24, 25, 30, 31, 32], [0, 1, 2, 3, 4, 5, 6, 7, 8, 9, 10, 11, 12, 13, 14, 15, 16, 17, 18, 19, 20, 21, 22, 23, 24, 25], [0, 1, 2, 3, 4, 5, 6, 7, 8, 9, 10, 11, 12, 13, 14, 15, 16, 17, 18, 19, 20, 21, 22, 23, 24, 25, 30, 31, 32, 33, 34], [0, 1, 2, 3, 4, 5, 6, 7, 8, 9, 10, 11, 12, 13, 14, 15, 16, 17, 18, 19, 20, 21, 22, 23, 24, 25, 30, 31, 32, 33, 34, 35], [0, 1, 2, 3, 4, 5, 6, 7, 8, 9, 10, 11, 12, 13, 14, 15, 16, 17, 18, 19, 20, 21, 22, 23, 24, 25, 30, 31, 32, 33, 34, 35, 36], [0, 1, 2, 3, 4, 5, 6, 7, 8, 9, 10, 11, 12, 13, 14, 15, 16, 17, 18, 19, 20, 21, 22, 23, 24, 25, 26, 27, 28, 29, 30, 31, 32, 33, 34, 35, 36, 37], [0, 1, 2, 3, 4, 5, 6, 7, 8, 9, 10, 11, 12, 13, 14, 15, 16, 17, 18, 19, 20, 21, 22, 23, 24, 25, 26, 27, 28, 29, 30, 31, 32, 33, 34, 35, 36, 37, 38]]) (by kernel_rfl) (by kernel_rfl) (fun x w h1 h2 => (.cons () (.cons () (.cons () (.cons () (.cons () (.cons () (.cons () (.cons () (.cons () (.cons () (.cons () (.cons () (.cons () (.cons () (.cons () (.nil ⟨EnvAll.of h1 ⟨rfl, rfl, rfl, rfl, rfl, rfl, rfl, rfl, rfl, rfl, rfl, rfl, rfl, trivial⟩, h2⟩))))))))))))))))) (fun Q => by kernel_rfl) ⟨?_, ?_, ?_, ?_, ?_, ?_, ?_, ?_, ?_, ?_, ?_, ?_, ?_, ?_, ?_, ?_, ?_, ?_, ?_, ?_, ?_, ?_, ?_, ?_, ?_, ?_, ?_, ?_, ?_, ?_, ?_, ?_, ?_, ?_, ?_, ?_, ?_, ?_, ?_, ?_, trivial⟩ ?_
              · rintro Fr _
                refine SO.v rfl (opv_move rfl) ?_
                exact SO.nilZ fun a w h1 h2 h3 h4 h5 => PZ.of h1 h3 h5 (.cons () (.cons () (.nil ⟨EnvAll.of h2 ⟨rfl, rfl, trivial⟩, h4⟩)))
              · rintro Fr _
                refine SO.call (pre := []) rfl Try.call32 rfl rfl rfl (law00_Code.ct _ _ _ ht143) trivial ?_
                rintro _ _ ⟨rfl, rfl⟩
                exact SO.nilZ fun a w h1 h2 h3 h4 h5 => PZ.of h1 h3 h5 (.cons () (.cons () (.nil ⟨EnvAll.of h2 ⟨rfl, rfl, trivial⟩, h4⟩)))
              · rintro Fr _
                refine SO.v rfl (opv_move rfl) ?_
                exact SO.nilZ fun a w h1 h2 h3 h4 h5 => PZ.of h1 h3 h5 (.cons () (.cons () (.nil ⟨EnvAll.of h2 ⟨rfl, rfl, trivial⟩, h4⟩)))
              · rintro Fr _ _
                refine SO.v rfl (opv_neq rfl rfl) ?_
                exact SO.nilZ fun a w h1 h2 h3 h4 h5 => PZ.of h1 h3 h5 (.cons () (.cons () (.cons () (.nil ⟨EnvAll.of h2 ⟨rfl, rfl, rfl, trivial⟩, h4⟩))))
              · rintro Fr _
                refine SO.v rfl (opv_move rfl) ?_
                exact SO.nilZ fun a w h1 h2 h3 h4 h5 => PZ.of h1 h3 h5 (.cons () (.cons () (.nil ⟨EnvAll.of h2 ⟨rfl, rfl, trivial⟩, h4⟩)))
              · rintro Fr _ _
                refine SO.takeT rfl rfl rfl b144 ?_
                refine SO.v rfl (opv_move rfl) ?_
                exact SO.nilZ fun a w h1 h2 h3 h4 h5 => PZ.of h1 h3 h5 (.cons () (.cons () (.cons () (.nil ⟨EnvAll.of h2 ⟨rfl, rfl, rfl, trivial⟩, h4⟩))))
              · rintro Fr _ _
                refine SO.takeT rfl rfl rfl b144 ?_
                refine SO.v rfl (opv_move rfl) ?_
                exact SO.nilZ fun a w h1 h2 h3 h4 h5 => PZ.of h1 h3 h5 (.cons () (.cons () (.cons () (.nil ⟨EnvAll.of h2 ⟨rfl, rfl, rfl, trivial⟩, h4⟩))))
              · rintro Fr _ _ _ _ _
                refine SO.takeT rfl rfl rfl b144 ?_
                refine SO.b2 ?_
                refine SO.b2 ?_
                refine SO.b2 ?_
                have ct149 := ref10_State_Words.ct _ b8 vy8_0_2 vy8_1_2 raws132 A133 raws136 A137 _ _ ht146
                dsimp only at ct149
                refine SO.call (pre := [Box _ _, OwnO _ _ _ _ _ _, OwnO _ _ _ _ _ _]) rfl Try.call8 rfl rfl rfl ct149 trivial ?_
                rintro v147 _ ⟨_, rfl, rfl⟩
                refine SO.rd fun hr148 => ?_
                refine SO.b3 ?_
                refine SO.b3 ?_
                refine SO.b3 ?_
                exact SO.nilZ fun a w h1 h2 h3 h4 h5 => PZ.of h1 h3 h5 (.cons () (.cons () (.cons () (.cons () (.cons () (.cons v147 (.nil ⟨EnvAll.of h2 ⟨rfl, rfl, rfl, trivial⟩, h4⟩)))))))
              · rintro Fr _ _ v147 _
                refine SO.rd fun hr150 => ?_
                refine SO.takeT rfl rfl rfl b144 ?_
                refine SO.call (pre := []) rfl Try.call33 rfl rfl rfl (ref10_Same.ct _ v20 v147 _ _ _ ht152) ⟨(Rd.tail (Rd.head hr131)), (Rd.head hr150)⟩ ?_
                rintro _ _ ⟨rfl, rfl⟩
                refine SO.b1 ?_
                refine SO.b1 ?_
                exact SO.nilZ fun a w h1 h2 h3 h4 h5 => PZ.of h1 h3 h5 (.cons () (.cons () (.cons v147 (.cons () (.cons () (.nil ⟨EnvAll.of h2 ⟨rfl, rfl, rfl, rfl, trivial⟩, h4⟩))))))
              · rintro Fr _ _
                refine SO.takeT rfl rfl rfl b144 ?_
                refine SO.v rfl (opv_not rfl) ?_
                exact SO.nilZ fun a w h1 h2 h3 h4 h5 => PZ.of h1 h3 h5 (.cons () (.cons () (.cons () (.nil ⟨EnvAll.of h2 ⟨rfl, rfl, rfl, trivial⟩, h4⟩))))
              · rintro Fr _ _
                refine SO.v rfl (opv_pick_f' b144 rfl rfl) ?_
                exact SO.nilZ fun a w h1 h2 h3 h4 h5 => PZ.of h1 h3 h5 (.cons () (.cons () (.cons () (.nil ⟨EnvAll.of h2 ⟨rfl, rfl, rfl, trivial⟩, h4⟩))))
              · rintro Fr _
                refine SO.v rfl (opv_move rfl) ?_
                exact SO.nilZ fun a w h1 h2 h3 h4 h5 => PZ.of h1 h3 h5 (.cons () (.cons () (.nil ⟨EnvAll.of h2 ⟨rfl, rfl, trivial⟩, h4⟩)))
              · rintro Fr _
                refine SO.passF rfl rfl rfl b153 rfl rfl ?_
                exact SO.nilZ fun a w h1 h2 h3 h4 h5 => PZ.of h1 h3 h5 (.cons () (.cons () (.nil ⟨EnvAll.of h2 ⟨rfl, rfl, trivial⟩, h4⟩)))
              · rintro Fr _
                refine SO.passF rfl rfl rfl b153 rfl rfl ?_
                exact SO.nilZ fun a w h1 h2 h3 h4 h5 => PZ.of h1 h3 h5 (.cons () (.cons () (.nil ⟨EnvAll.of h2 ⟨rfl, rfl, trivial⟩, h4⟩)))
              · rintro Fr _
                refine SO.passF rfl rfl rfl b153 rfl rfl ?_
                exact SO.nilZ fun a w h1 h2 h3 h4 h5 => PZ.of h1 h3 h5 (.cons () (.cons () (.nil ⟨EnvAll.of h2 ⟨rfl, rfl, trivial⟩, h4⟩)))
              · rintro Fr _
                refine SO.passF rfl rfl rfl b153 rfl rfl ?_
                exact SO.nilZ fun a w h1 h2 h3 h4 h5 => PZ.of h1 h3 h5 (.cons () (.cons () (.nil ⟨EnvAll.of h2 ⟨rfl, rfl, trivial⟩, h4⟩)))
              · rintro Fr _ _
                refine SO.v rfl (opv_pick_t' b153 rfl rfl) ?_
                exact SO.nilZ fun a w h1 h2 h3 h4 h5 => PZ.of h1 h3 h5 (.cons () (.cons () (.cons () (.nil ⟨EnvAll.of h2 ⟨rfl, rfl, rfl, trivial⟩, h4⟩))))
              · rintro Fr _
                refine SO.v rfl (opv_move rfl) ?_
                exact SO.nilZ fun a w h1 h2 h3 h4 h5 => PZ.of h1 h3 h5 (.cons () (.cons () (.nil ⟨EnvAll.of h2 ⟨rfl, rfl, trivial⟩, h4⟩)))
              · rintro Fr _
                refine SO.passF rfl rfl rfl rfl rfl rfl ?_
                exact SO.nilZ fun a w h1 h2 h3 h4 h5 => PZ.of h1 h3 h5 (.cons () (.cons () (.nil ⟨EnvAll.of h2 ⟨rfl, rfl, trivial⟩, h4⟩)))
              · rintro Fr _
                refine SO.passF rfl rfl rfl rfl rfl rfl ?_
                exact SO.nilZ fun a w h1 h2 h3 h4 h5 => PZ.of h1 h3 h5 (.cons () (.cons () (.nil ⟨EnvAll.of h2 ⟨rfl, rfl, trivial⟩, h4⟩)))
              · rintro Fr _
                refine SO.pass_undef rfl rfl rfl rfl ?_
                exact SO.nilZ fun a w h1 h2 h3 h4 h5 => PZ.of h1 h3 h5 (.cons () (.cons () (.nil ⟨EnvAll.of h2 ⟨rfl, rfl, trivial⟩, h4⟩)))
              · rintro Fr _
                refine SO.pass_undef rfl rfl rfl rfl ?_
                exact SO.nilZ fun a w h1 h2 h3 h4 h5 => PZ.of h1 h3 h5 (.cons () (.cons () (.nil ⟨EnvAll.of h2 ⟨rfl, rfl, trivial⟩, h4⟩)))
              · rintro Fr _
                refine SO.pass_undef rfl rfl rfl rfl ?_
                exact SO.nilZ fun a w h1 h2 h3 h4 h5 => PZ.of h1 h3 h5 (.cons () (.cons () (.nil ⟨EnvAll.of h2 ⟨rfl, rfl, trivial⟩, h4⟩)))
              · rintro Fr _
                refine SO.passF rfl rfl rfl rfl rfl rfl ?_
                exact SO.nilZ fun a w h1 h2 h3 h4 h5 => PZ.of h1 h3 h5 (.cons () (.cons () (.nil ⟨EnvAll.of h2 ⟨rfl, rfl, trivial⟩, h4⟩)))
              · rintro Fr _ _
                refine SO.v rfl (opv_pick_tt rfl rfl) ?_
                exact SO.nilZ fun a w h1 h2 h3 h4 h5 => PZ.of h1 h3 h5 (.cons () (.cons () (.cons () (.nil ⟨EnvAll.of h2 ⟨rfl, rfl, rfl, trivial⟩, h4⟩))))
              · rintro Fr _
                refine SO.v rfl (opv_move rfl) ?_
                exact SO.nilZ fun a w h1 h2 h3 h4 h5 => PZ.of h1 h3 h5 (.cons () (.cons () (.nil ⟨EnvAll.of h2 ⟨rfl, rfl, trivial⟩, h4⟩)))
              · rintro Fr _
                refine SO.passF rfl rfl rfl rfl rfl rfl ?_
                exact SO.nilZ fun a w h1 h2 h3 h4 h5 => PZ.of h1 h3 h5 (.cons () (.cons () (.nil ⟨EnvAll.of h2 ⟨rfl, rfl, trivial⟩, h4⟩)))
              · rintro Fr _
                refine SO.passF rfl rfl rfl rfl rfl rfl ?_
                exact SO.nilZ fun a w h1 h2 h3 h4 h5 => PZ.of h1 h3 h5 (.cons () (.cons () (.nil ⟨EnvAll.of h2 ⟨rfl, rfl, trivial⟩, h4⟩)))
              · rintro Fr _
                refine SO.passF rfl rfl rfl rfl rfl rfl ?_
                exact SO.nilZ fun a w h1 h2 h3 h4 h5 => PZ.of h1 h3 h5 (.cons () (.cons () (.nil ⟨EnvAll.of h2 ⟨rfl, rfl, trivial⟩, h4⟩)))
              · rintro Fr _
                refine SO.passF rfl rfl rfl rfl rfl rfl ?_
                exact SO.nilZ fun a w h1 h2 h3 h4 h5 => PZ.of h1 h3 h5 (.cons () (.cons () (.nil ⟨EnvAll.of h2 ⟨rfl, rfl, trivial⟩, h4⟩)))
              · rintro Fr _
                refine SO.passF rfl rfl rfl rfl rfl rfl ?_
                exact SO.nilZ fun a w h1 h2 h3 h4 h5 => PZ.of h1 h3 h5 (.cons () (.cons () (.nil ⟨EnvAll.of h2 ⟨rfl, rfl, trivial⟩, h4⟩)))
              · rintro Fr _
                refine SO.passF rfl rfl rfl rfl rfl rfl ?_
                exact SO.nilZ fun a w h1 h2 h3 h4 h5 => PZ.of h1 h3 h5 (.cons () (.cons () (.nil ⟨EnvAll.of h2 ⟨rfl, rfl, trivial⟩, h4⟩)))
              · rintro Fr _
                refine SO.passF rfl rfl rfl rfl rfl rfl ?_
                exact SO.nilZ fun a w h1 h2 h3 h4 h5 => PZ.of h1 h3 h5 (.cons () (.cons () (.nil ⟨EnvAll.of h2 ⟨rfl, rfl, trivial⟩, h4⟩)))
              · rintro Fr _
                refine SO.passF rfl rfl rfl rfl rfl rfl ?_
                exact SO.nilZ fun a w h1 h2 h3 h4 h5 => PZ.of h1 h3 h5 (.cons () (.cons () (.nil ⟨EnvAll.of h2 ⟨rfl, rfl, trivial⟩, h4⟩)))
              · rintro Fr _
                refine SO.passF rfl rfl rfl rfl rfl rfl ?_
                exact SO.nilZ fun a w h1 h2 h3 h4 h5 => PZ.of h1 h3 h5 (.cons () (.cons () (.nil ⟨EnvAll.of h2 ⟨rfl, rfl, trivial⟩, h4⟩)))
              · rintro Fr _
                refine SO.passF rfl rfl rfl rfl rfl rfl ?_
                exact SO.nilZ fun a w h1 h2 h3 h4 h5 => PZ.of h1 h3 h5 (.cons () (.cons () (.nil ⟨EnvAll.of h2 ⟨rfl, rfl, trivial⟩, h4⟩)))
              · rintro Fr _
                refine SO.passF rfl rfl rfl rfl rfl rfl ?_
                exact SO.nilZ fun a w h1 h2 h3 h4 h5 => PZ.of h1 h3 h5 (.cons () (.cons () (.nil ⟨EnvAll.of h2 ⟨rfl, rfl, trivial⟩, h4⟩)))
              · rintro Fr _
                refine SO.passF rfl rfl rfl rfl rfl rfl ?_
                exact SO.nilZ fun a w h1 h2 h3 h4 h5 => PZ.of h1 h3 h5 (.cons () (.cons () (.nil ⟨EnvAll.of h2 ⟨rfl, rfl, trivial⟩, h4⟩)))
              · rintro Fr _
                refine SO.passF rfl rfl rfl rfl rfl rfl ?_
                exact SO.nilZ fun a w h1 h2 h3 h4 h5 => PZ.of h1 h3 h5 (.cons () (.cons () (.nil ⟨EnvAll.of h2 ⟨rfl, rfl, trivial⟩, h4⟩)))
              · rintro Fr _ _
                refine SO.v rfl (opv_pick_tt rfl rfl) ?_
                exact SO.nilZ fun a w h1 h2 h3 h4 h5 => PZ.of h1 h3 h5 (.cons () (.cons () (.cons () (.nil ⟨EnvAll.of h2 ⟨rfl, rfl, rfl, trivial⟩, h4⟩))))
              rintro _ _ _ _ v147 _ _ _ _ _ _
              refine S.to (ρ' := [(0, .int .i64 a0), (1, v1), (4, .bool false), (5, .bool t1), (8, .int .i64 x8_1), (6, bp b8 0), (7, v20), (203, .bool true)]) ⟨rfl, rfl, rfl, rfl, rfl, rfl, rfl, rfl, trivial⟩ ?_
              refine S.rd fun hr154 => ?_
              cases h
              refine S.drop ?_
              refine S.b5 ?_
              refine S.b5 ?_
              refine S.b5 ?_
              refine S.b5 ?_
              refine S.b5 ?_
              refine S.b5 ?_
              refine S.to ?_ (hk4 () trivial)
              exact ⟨rfl, rfl, rfl, rfl, rfl, rfl, rfl, rfl, trivial⟩
            · replace h := cond_f b153 h
              rcases bool_or (t128 != (decide (0 ≤ t140))) with b155 | b155
              · replace h := cond_t b155 h
                refine S.draw' (Z := fun Q => ∀ (_ : Unit) (_ : Unit) (_ : Unit) (_ : Unit) (v147 : Value) (_ : Unit) (_ : Unit) (_ : Unit) (_ : Unit) (_ : Unit) (_ : Unit), Q [(0, .int .i64 a0), (1, v1), (4, .bool false), (5, .bool t1), (8, .int .i64 x8_1), (6, bp b8 0), (7, v20), (203, .bool true), (171, v147)] [Own 35 (ekI .u64) v147 t145, Box b8 [vy8_0_2, vy8_1_2, .int .i64 y8_2_2, .int .i64 y8_3_2], OwnO 81 kr_ref10_Slot vy8_0_2 raws132 A133 y8_0_2, OwnO 72 kr_ref10_Obj vy8_1_2 raws136 A137 y8_1_2, Own 35 (ekI .u64) v20 s130, Box b26 [.int .i64 x24.What, .int .i64 x24.T, .int .i64 x24.N, .int .i64 x24.C.Kind, .int .i64 x24.C.Rights, .int .i64 x24.C.Obj, .int .i64 x24.C.Badge, .int .i64 x24.C.Guard, .int .i64 x24.C.Bits], F]) (T := [tS 13 (errV 44 j13_2), tS 12 (.int .i64 j12_2), tS 7 (v20), tS 6 (bp b8 0), tS 16 (.bool t128), tS 17 (.int .i64 t140), tS 15 (.int .i64 t127), tS 11 (.int .i64 t29), tE [(0, .int .i64 a0), (1, v1), (4, .bool false), (5, .bool t1), (8, .int .i64 x8_1)], tR (Box b8 [vy8_0_2, vy8_1_2, .int .i64 y8_2_2, .int .i64 y8_3_2]), tR (OwnO 81 kr_ref10_Slot vy8_0_2 raws132 A133 y8_0_2), tR (OwnO 72 kr_ref10_Obj vy8_1_2 raws136 A137 y8_1_2), tR (Own 35 (ekI .u64) v20 s130), tR (Box b26 [.int .i64 x24.What, .int .i64 x24.T, .int .i64 x24.N, .int .i64 x24.C.Kind, .int .i64 x24.C.Rights, .int .i64 x24.C.Obj, .int .i64 x24.C.Badge, .int .i64 x24.C.Guard, .int .i64 x24.C.Bits]), tR (F), tS 164 (errV 44 j13_2), tS 165 (.int .i64 t142), tS 166 (.int .i64 j12_2), tS 167 (.bool (t142 != j12_2)), tS 168 (.bool (t142 != j12_2)), tS 169 (v20), tS 170 (bp b8 0), ⟨Value, [171], (fun v147 => [(171, v147)]), (fun v147 => [Own 35 (ekI .u64) v147 t145]), fun _ => rfl⟩, tS 172 (.bool t151), tS 173 (.bool (!t151)), tS 174 (.bool (!t151)), tS 175 (.bool (!t151)), tS 176 (.bool t128), tS 177 (.int .i64 t140), tS 178 (.bool (decide (0 ≤ t140))), tS 179 (.bool (t128 != (decide (0 ≤ t140)))), tS 180 (.bool (t128 != (decide (0 ≤ t140)))), tS 181 (.bool (t128 != (decide (0 ≤ t140)))), tS 182 (undef), tS 183 (undef), tS 184 (undef), tS 185 (undef), tS 186 (undef), tS 187 (undef), tS 188 (.bool true), tS 189 (.bool true), tS 190 (undef), tS 191 (undef), tS 192 (undef), tS 193 (undef), tS 194 (undef), tS 195 (undef), tS 196 (undef), tS 197 (undef), tS 198 (undef), tS 199 (undef), tS 200 (undef), tS 201 (undef), tS 202 (undef), tS 203 (.bool true)]) (D := [⟨[0], [], [15]⟩, ⟨[15], [], [16]⟩, ⟨[1], [], [17]⟩, ⟨[16, 17], [], [18]⟩, ⟨[18], [], [19]⟩, ⟨[2, 19], [], [20]⟩, ⟨[3, 19], [], [21]⟩, ⟨[19, 21, 9, 10, 11], [], [22]⟩, ⟨[19, 20, 22, 12], [], [23]⟩, ⟨[19, 23], [], [24]⟩, ⟨[19, 24], [], [25]⟩, ⟨[25], [], [26]⟩, ⟨[4, 26], [], [27]⟩, ⟨[5, 26], [], [28]⟩, ⟨[26, 28], [], [29]⟩, ⟨[26, 27, 29], [], [30]⟩, ⟨[26, 30], [], [31]⟩, ⟨[31], [], [32]⟩, ⟨[32], [], [33]⟩, ⟨[32], [], [34]⟩, ⟨[34], [], [35]⟩, ⟨[34], [], [36]⟩, ⟨[34], [], [37]⟩, ⟨[32], [], [38]⟩, ⟨[32, 38], [], [39]⟩, ⟨[39], [], [40]⟩, ⟨[40], [], [41]⟩, ⟨[40], [], [42]⟩, ⟨[40], [], [43]⟩, ⟨[40], [], [44]⟩, ⟨[40], [], [45]⟩, ⟨[40], [], [46]⟩, ⟨[40], [], [47]⟩, ⟨[40], [], [48]⟩, ⟨[40], [], [49]⟩, ⟨[40], [], [50]⟩, ⟨[40], [], [51]⟩, ⟨[40], [], [52]⟩, ⟨[40], [], [53]⟩, ⟨[40, 53], [], [54]⟩]) (ini := [0, 1, 2, 3, 4, 5, 6, 7, 8, 9, 10, 11, 12, 13, 14]) (fin := [8, 3, 2, 54, 22, 9, 10, 11, 12, 13, 14]) (bf := [[], [0], [], [0, 1, 2], [0, 1, 2, 3], [0, 1, 2, 3, 4], [0, 1, 2, 3, 4], [0, 1, 2, 3, 4, 6], [0, 1, 2, 3, 4, 5, 6, 7], [0, 1, 2, 3, 4, 5, 6, 7, 8], [0, 1, 2, 3, 4, 5, 6, 7, 8, 9], [0, 1, 2, 3, 4, 5, 6, 7, 8, 9, 10], [0, 1, 2, 3, 4, 5, 6, 7, 8, 9, 10, 11], [0, 1, 2, 3, 4, 5, 6, 7, 8, 9, 10, 11], [0, 1, 2, 3, 4, 5, 6, 7, 8, 9, 10, 11, 13], [0, 1, 2, 3, 4, 5, 6, 7, 8, 9, 10, 11, 12, 13, 14], [0, 1, 2, 3, 4, 5, 6, 7, 8, 9, 10, 11, 12, 13, 14, 15], [0, 1, 2, 3, 4, 5, 6, 7, 8, 9, 10, 11, 12, 13, 14, 15, 16], [0, 1, 2, 3, 4, 5, 6, 7, 8, 9, 10, 11, 12, 13, 14, 15, 16, 17], [0, 1, 2, 3, 4, 5, 6, 7, 8, 9, 10, 11, 12, 13, 14, 15, 16, 17, 18], [0, 1, 2, 3, 4, 5, 6, 7, 8, 9, 10, 11, 12, 13, 14, 15, 16, 17, 18, 19], [0, 1, 2, 3, 4, 5, 6, 7, 8, 9, 10, 11, 12, 13, 14, 15, 16, 17, 18, 19], [0, 1, 2, 3, 4, 5, 6, 7, 8, 9, 10, 11, 12, 13, 14, 15, 16, 17, 18, 19, 20, 21], [0, 1, 2, 3, 4, 5, 6, 7, 8, 9, 10, 11, 12, 13, 14, 15, 16, 17, 18, 19, 20, 21, 22], [0, 1, 2, 3, 4, 5, 6, 7, 8, 9, 10, 11, 12, 13, 14, 15, 16, 17, 18, 19, 20, 21, 22, 23], [0, 1, 2, 3, 4, 5, 6, 7, 8, 9, 10, 11, 12, 13, 14, 15, 16, 17, 18, 19, 20, 21, 22, 23, 24], [0, 1, 2, 3, 4, 5, 6, 7, 8, 9, 10, 11, 12, 13, 14, 15, 16, 17, 18, 19, 20, 21, 22, 23, 24, 25], [0, 1, 2, 3, 4, 5, 6, 7, 8, 9, 10, 11, 12, 13, 14, 15, 16, 17, 18, 19, 20, 21, 22, 23, 24, 25, 26], [0, 1, 2, 3, 4, 5, 6, 7, 8, 9, 10, 11, 12, 13, 14, 15, 16, 17, 18, 19, 20, 21, 22, 23, 24, 25], [0, 1, 2, 3, 4, 5, 6, 7, 8, 9, 10, 11, 12, 13, 14, 15, 16, 17, 18, 19, 20, 21, 22, 23, 24, 25, 26, 27, 28], [0, 1, 2, 3, 4, 5, 6, 7, 8, 9, 10, 11, 12, 13, 14, 15, 16, 17, 18, 19, 20, 21, 22, 23, 24, 25], [0, 1, 2, 3, 4, 5, 6, 7, 8, 9, 10, 11, 12, 13, 14, 15, 16, 17, 18, 19, 20, 21, 22, 23, 24, 25, 30], [0, 1, 2, 3, 4, 5, 6, 7, 8, 9, 10, 11, 12, 13, 14, 15, 16, 17, 18, 19, 20, 21, 22, 23, 24, 25, 30, 31], [0, 1, 2, 3, 4, 5, 6, 7, 8, 9, 10, 11, 12, 13, 14, 15, 16, 17, 18, 19, 20, 21, 22, 23, 24, 25, 30, 31, 32], [0, 1, 2, 3, 4, 5, 6, 7, 8, 9, 10, 11, 12, 13, 14, 15, 16, 17, 18, 19, 20, 21, 22, 23, 24, 25], [0, 1, 2, 3, 4, 5, 6, 7, 8, 9, 10, 11, 12, 13, 14, 15, 16, 17, 18, 19, 20, 21, 22, 23, 24, 25, 30, 31, 32, 33, 34], [0, 1, 2, 3, 4, 5, 6, 7, 8, 9, 10, 11, 12, 13, 14, 15, 16, 17, 18, 19, 20, 21, 22, 23, 24, 25, 30, 31, 32, 33, 34, 35], [0, 1, 2, 3, 4, 5, 6, 7, 8, 9, 10, 11, 12, 13, 14, 15, 16, 17, 18, 19, 20, 21, 22, 23, 24, 25, 30, 31, 32, 33, 34, 35, 36], [0, 1, 2, 3, 4, 5, 6, 7, 8, 9, 10, 11, 12, 13, 14, 15, 16, 17, 18, 19, 20, 21, 22, 23, 24, 25, 26, 27, 28, 29, 30, 31, 32, 33, 34, 35, 36, 37], [0, 1, 2, 3, 4, 5, 6, 7, 8, 9, 10, 11, 12, 13, 14, 15, 16, 17, 18, 19, 20, 21, 22, 23, 24, 25, 26, 27, 28, 29, 30, 31, 32, 33, 34, 35, 36, 37, 38]]) (by kernel_rfl) (by kernel_rfl) (fun x w h1 h2 => (.cons () (.cons () (.cons () (.cons () (.cons () (.cons () (.cons () (.cons () (.cons () (.cons () (.cons () (.cons () (.cons () (.cons () (.cons () (.nil ⟨EnvAll.of h1 ⟨rfl, rfl, rfl, rfl, rfl, rfl, rfl, rfl, rfl, rfl, rfl, rfl, rfl, trivial⟩, h2⟩))))))))))))))))) (fun Q => by kernel_rfl) ⟨?_, ?_, ?_, ?_, ?_, ?_, ?_, ?_, ?_, ?_, ?_, ?_, ?_, ?_, ?_, ?_, ?_, ?_, ?_, ?_, ?_, ?_, ?_, ?_, ?_, ?_, ?_, ?_, ?_, ?_, ?_, ?_, ?_, ?_, ?_, ?_, ?_, ?_, ?_, ?_, trivial⟩ ?_
                · rintro Fr _
                  refine SO.v rfl (opv_move rfl) ?_
                  exact SO.nilZ fun a w h1 h2 h3 h4 h5 => PZ.of h1 h3 h5 (.cons () (.cons () (.nil ⟨EnvAll.of h2 ⟨rfl, rfl, trivial⟩, h4⟩)))
                · rintro Fr _
                  refine SO.call (pre := []) rfl Try.call32 rfl rfl rfl (law00_Code.ct _ _ _ ht143) trivial ?_
                  rintro _ _ ⟨rfl, rfl⟩
                  exact SO.nilZ fun a w h1 h2 h3 h4 h5 => PZ.of h1 h3 h5 (.cons () (.cons () (.nil ⟨EnvAll.of h2 ⟨rfl, rfl, trivial⟩, h4⟩)))
                · rintro Fr _
                  refine SO.v rfl (opv_move rfl) ?_
                  exact SO.nilZ fun a w h1 h2 h3 h4 h5 => PZ.of h1 h3 h5 (.cons () (.cons () (.nil ⟨EnvAll.of h2 ⟨rfl, rfl, trivial⟩, h4⟩)))
                · rintro Fr _ _
                  refine SO.v rfl (opv_neq rfl rfl) ?_
                  exact SO.nilZ fun a w h1 h2 h3 h4 h5 => PZ.of h1 h3 h5 (.cons () (.cons () (.cons () (.nil ⟨EnvAll.of h2 ⟨rfl, rfl, rfl, trivial⟩, h4⟩))))
                · rintro Fr _
                  refine SO.v rfl (opv_move rfl) ?_
                  exact SO.nilZ fun a w h1 h2 h3 h4 h5 => PZ.of h1 h3 h5 (.cons () (.cons () (.nil ⟨EnvAll.of h2 ⟨rfl, rfl, trivial⟩, h4⟩)))
                · rintro Fr _ _
                  refine SO.takeT rfl rfl rfl b144 ?_
                  refine SO.v rfl (opv_move rfl) ?_
                  exact SO.nilZ fun a w h1 h2 h3 h4 h5 => PZ.of h1 h3 h5 (.cons () (.cons () (.cons () (.nil ⟨EnvAll.of h2 ⟨rfl, rfl, rfl, trivial⟩, h4⟩))))
                · rintro Fr _ _
                  refine SO.takeT rfl rfl rfl b144 ?_
                  refine SO.v rfl (opv_move rfl) ?_
                  exact SO.nilZ fun a w h1 h2 h3 h4 h5 => PZ.of h1 h3 h5 (.cons () (.cons () (.cons () (.nil ⟨EnvAll.of h2 ⟨rfl, rfl, rfl, trivial⟩, h4⟩))))
                · rintro Fr _ _ _ _ _
                  refine SO.takeT rfl rfl rfl b144 ?_
                  refine SO.b2 ?_
                  refine SO.b2 ?_
                  refine SO.b2 ?_
                  have ct149 := ref10_State_Words.ct _ b8 vy8_0_2 vy8_1_2 raws132 A133 raws136 A137 _ _ ht146
                  dsimp only at ct149
                  refine SO.call (pre := [Box _ _, OwnO _ _ _ _ _ _, OwnO _ _ _ _ _ _]) rfl Try.call8 rfl rfl rfl ct149 trivial ?_
                  rintro v147 _ ⟨_, rfl, rfl⟩
                  refine SO.rd fun hr148 => ?_
                  refine SO.b3 ?_
                  refine SO.b3 ?_
                  refine SO.b3 ?_
                  exact SO.nilZ fun a w h1 h2 h3 h4 h5 => PZ.of h1 h3 h5 (.cons () (.cons () (.cons () (.cons () (.cons () (.cons v147 (.nil ⟨EnvAll.of h2 ⟨rfl, rfl, rfl, trivial⟩, h4⟩)))))))
                · rintro Fr _ _ v147 _
                  refine SO.rd fun hr150 => ?_
                  refine SO.takeT rfl rfl rfl b144 ?_
                  refine SO.call (pre := []) rfl Try.call33 rfl rfl rfl (ref10_Same.ct _ v20 v147 _ _ _ ht152) ⟨(Rd.tail (Rd.head hr131)), (Rd.head hr150)⟩ ?_
                  rintro _ _ ⟨rfl, rfl⟩
                  refine SO.b1 ?_
                  refine SO.b1 ?_
                  exact SO.nilZ fun a w h1 h2 h3 h4 h5 => PZ.of h1 h3 h5 (.cons () (.cons () (.cons v147 (.cons () (.cons () (.nil ⟨EnvAll.of h2 ⟨rfl, rfl, rfl, rfl, trivial⟩, h4⟩))))))
                · rintro Fr _ _
                  refine SO.takeT rfl rfl rfl b144 ?_
                  refine SO.v rfl (opv_not rfl) ?_
                  exact SO.nilZ fun a w h1 h2 h3 h4 h5 => PZ.of h1 h3 h5 (.cons () (.cons () (.cons () (.nil ⟨EnvAll.of h2 ⟨rfl, rfl, rfl, trivial⟩, h4⟩))))
                · rintro Fr _ _
                  refine SO.v rfl (opv_pick_f' b144 rfl rfl) ?_
                  exact SO.nilZ fun a w h1 h2 h3 h4 h5 => PZ.of h1 h3 h5 (.cons () (.cons () (.cons () (.nil ⟨EnvAll.of h2 ⟨rfl, rfl, rfl, trivial⟩, h4⟩))))
                · rintro Fr _
                  refine SO.v rfl (opv_move rfl) ?_
                  exact SO.nilZ fun a w h1 h2 h3 h4 h5 => PZ.of h1 h3 h5 (.cons () (.cons () (.nil ⟨EnvAll.of h2 ⟨rfl, rfl, trivial⟩, h4⟩)))
                · rintro Fr _ _
                  refine SO.takeT rfl rfl rfl b153 ?_
                  refine SO.v rfl (opv_move rfl) ?_
                  exact SO.nilZ fun a w h1 h2 h3 h4 h5 => PZ.of h1 h3 h5 (.cons () (.cons () (.cons () (.nil ⟨EnvAll.of h2 ⟨rfl, rfl, rfl, trivial⟩, h4⟩))))
                · rintro Fr _ _
                  refine SO.takeT rfl rfl rfl b153 ?_
                  refine SO.v rfl (opv_move rfl) ?_
                  exact SO.nilZ fun a w h1 h2 h3 h4 h5 => PZ.of h1 h3 h5 (.cons () (.cons () (.cons () (.nil ⟨EnvAll.of h2 ⟨rfl, rfl, rfl, trivial⟩, h4⟩))))
                · rintro Fr _ _
                  refine SO.takeT rfl rfl rfl b153 ?_
                  refine SO.v rfl (opv_geq rfl rfl) ?_
                  exact SO.nilZ fun a w h1 h2 h3 h4 h5 => PZ.of h1 h3 h5 (.cons () (.cons () (.cons () (.nil ⟨EnvAll.of h2 ⟨rfl, rfl, rfl, trivial⟩, h4⟩))))
                · rintro Fr _ _ _
                  refine SO.takeT rfl rfl rfl b153 ?_
                  refine SO.v rfl (opv_neqB Try.underlying4 rfl rfl) ?_
                  exact SO.nilZ fun a w h1 h2 h3 h4 h5 => PZ.of h1 h3 h5 (.cons () (.cons () (.cons () (.cons () (.nil ⟨EnvAll.of h2 ⟨rfl, rfl, rfl, rfl, trivial⟩, h4⟩)))))
                · rintro Fr _ _
                  refine SO.v rfl (opv_pick_f' b153 rfl rfl) ?_
                  exact SO.nilZ fun a w h1 h2 h3 h4 h5 => PZ.of h1 h3 h5 (.cons () (.cons () (.cons () (.nil ⟨EnvAll.of h2 ⟨rfl, rfl, rfl, trivial⟩, h4⟩))))
                · rintro Fr _
                  refine SO.v rfl (opv_move rfl) ?_
                  exact SO.nilZ fun a w h1 h2 h3 h4 h5 => PZ.of h1 h3 h5 (.cons () (.cons () (.nil ⟨EnvAll.of h2 ⟨rfl, rfl, trivial⟩, h4⟩)))
                · rintro Fr _
                  refine SO.passF rfl rfl rfl b155 rfl rfl ?_
                  exact SO.nilZ fun a w h1 h2 h3 h4 h5 => PZ.of h1 h3 h5 (.cons () (.cons () (.nil ⟨EnvAll.of h2 ⟨rfl, rfl, trivial⟩, h4⟩)))
                · rintro Fr _
                  refine SO.passF rfl rfl rfl b155 rfl rfl ?_
                  exact SO.nilZ fun a w h1 h2 h3 h4 h5 => PZ.of h1 h3 h5 (.cons () (.cons () (.nil ⟨EnvAll.of h2 ⟨rfl, rfl, trivial⟩, h4⟩)))
                · rintro Fr _
                  refine SO.pass_undef rfl rfl rfl rfl ?_
                  exact SO.nilZ fun a w h1 h2 h3 h4 h5 => PZ.of h1 h3 h5 (.cons () (.cons () (.nil ⟨EnvAll.of h2 ⟨rfl, rfl, trivial⟩, h4⟩)))
                · rintro Fr _
                  refine SO.pass_undef rfl rfl rfl rfl ?_
                  exact SO.nilZ fun a w h1 h2 h3 h4 h5 => PZ.of h1 h3 h5 (.cons () (.cons () (.nil ⟨EnvAll.of h2 ⟨rfl, rfl, trivial⟩, h4⟩)))
                · rintro Fr _
                  refine SO.pass_undef rfl rfl rfl rfl ?_
                  exact SO.nilZ fun a w h1 h2 h3 h4 h5 => PZ.of h1 h3 h5 (.cons () (.cons () (.nil ⟨EnvAll.of h2 ⟨rfl, rfl, trivial⟩, h4⟩)))
                · rintro Fr _
                  refine SO.passF rfl rfl rfl b155 rfl rfl ?_
                  exact SO.nilZ fun a w h1 h2 h3 h4 h5 => PZ.of h1 h3 h5 (.cons () (.cons () (.nil ⟨EnvAll.of h2 ⟨rfl, rfl, trivial⟩, h4⟩)))
                · rintro Fr _ _
                  refine SO.v rfl (opv_pick_t' b155 rfl rfl) ?_
                  exact SO.nilZ fun a w h1 h2 h3 h4 h5 => PZ.of h1 h3 h5 (.cons () (.cons () (.cons () (.nil ⟨EnvAll.of h2 ⟨rfl, rfl, rfl, trivial⟩, h4⟩))))
                · rintro Fr _
                  refine SO.v rfl (opv_move rfl) ?_
                  exact SO.nilZ fun a w h1 h2 h3 h4 h5 => PZ.of h1 h3 h5 (.cons () (.cons () (.nil ⟨EnvAll.of h2 ⟨rfl, rfl, trivial⟩, h4⟩)))
                · rintro Fr _
                  refine SO.passF rfl rfl rfl rfl rfl rfl ?_
                  exact SO.nilZ fun a w h1 h2 h3 h4 h5 => PZ.of h1 h3 h5 (.cons () (.cons () (.nil ⟨EnvAll.of h2 ⟨rfl, rfl, trivial⟩, h4⟩)))
                · rintro Fr _
                  refine SO.passF rfl rfl rfl rfl rfl rfl ?_
                  exact SO.nilZ fun a w h1 h2 h3 h4 h5 => PZ.of h1 h3 h5 (.cons () (.cons () (.nil ⟨EnvAll.of h2 ⟨rfl, rfl, trivial⟩, h4⟩)))
                · rintro Fr _
                  refine SO.passF rfl rfl rfl rfl rfl rfl ?_
                  exact SO.nilZ fun a w h1 h2 h3 h4 h5 => PZ.of h1 h3 h5 (.cons () (.cons () (.nil ⟨EnvAll.of h2 ⟨rfl, rfl, trivial⟩, h4⟩)))
                · rintro Fr _
                  refine SO.passF rfl rfl rfl rfl rfl rfl ?_
                  exact SO.nilZ fun a w h1 h2 h3 h4 h5 => PZ.of h1 h3 h5 (.cons () (.cons () (.nil ⟨EnvAll.of h2 ⟨rfl, rfl, trivial⟩, h4⟩)))
                · rintro Fr _
                  refine SO.passF rfl rfl rfl rfl rfl rfl ?_
                  exact SO.nilZ fun a w h1 h2 h3 h4 h5 => PZ.of h1 h3 h5 (.cons () (.cons () (.nil ⟨EnvAll.of h2 ⟨rfl, rfl, trivial⟩, h4⟩)))
                · rintro Fr _
                  refine SO.passF rfl rfl rfl rfl rfl rfl ?_
                  exact SO.nilZ fun a w h1 h2 h3 h4 h5 => PZ.of h1 h3 h5 (.cons () (.cons () (.nil ⟨EnvAll.of h2 ⟨rfl, rfl, trivial⟩, h4⟩)))
                · rintro Fr _
                  refine SO.passF rfl rfl rfl rfl rfl rfl ?_
                  exact SO.nilZ fun a w h1 h2 h3 h4 h5 => PZ.of h1 h3 h5 (.cons () (.cons () (.nil ⟨EnvAll.of h2 ⟨rfl, rfl, trivial⟩, h4⟩)))
                · rintro Fr _
                  refine SO.passF rfl rfl rfl rfl rfl rfl ?_
                  exact SO.nilZ fun a w h1 h2 h3 h4 h5 => PZ.of h1 h3 h5 (.cons () (.cons () (.nil ⟨EnvAll.of h2 ⟨rfl, rfl, trivial⟩, h4⟩)))
                · rintro Fr _
                  refine SO.passF rfl rfl rfl rfl rfl rfl ?_
                  exact SO.nilZ fun a w h1 h2 h3 h4 h5 => PZ.of h1 h3 h5 (.cons () (.cons () (.nil ⟨EnvAll.of h2 ⟨rfl, rfl, trivial⟩, h4⟩)))
                · rintro Fr _
                  refine SO.passF rfl rfl rfl rfl rfl rfl ?_
                  exact SO.nilZ fun a w h1 h2 h3 h4 h5 => PZ.of h1 h3 h5 (.cons () (.cons () (.nil ⟨EnvAll.of h2 ⟨rfl, rfl, trivial⟩, h4⟩)))
                · rintro Fr _
                  refine SO.passF rfl rfl rfl rfl rfl rfl ?_
                  exact SO.nilZ fun a w h1 h2 h3 h4 h5 => PZ.of h1 h3 h5 (.cons () (.cons () (.nil ⟨EnvAll.of h2 ⟨rfl, rfl, trivial⟩, h4⟩)))
                · rintro Fr _
                  refine SO.passF rfl rfl rfl rfl rfl rfl ?_
                  exact SO.nilZ fun a w h1 h2 h3 h4 h5 => PZ.of h1 h3 h5 (.cons () (.cons () (.nil ⟨EnvAll.of h2 ⟨rfl, rfl, trivial⟩, h4⟩)))
                · rintro Fr _
                  refine SO.passF rfl rfl rfl rfl rfl rfl ?_
                  exact SO.nilZ fun a w h1 h2 h3 h4 h5 => PZ.of h1 h3 h5 (.cons () (.cons () (.nil ⟨EnvAll.of h2 ⟨rfl, rfl, trivial⟩, h4⟩)))
                · rintro Fr _ _
                  refine SO.v rfl (opv_pick_tt rfl rfl) ?_
                  exact SO.nilZ fun a w h1 h2 h3 h4 h5 => PZ.of h1 h3 h5 (.cons () (.cons () (.cons () (.nil ⟨EnvAll.of h2 ⟨rfl, rfl, rfl, trivial⟩, h4⟩))))
                rintro _ _ _ _ v147 _ _ _ _ _ _
                refine S.to (ρ' := [(0, .int .i64 a0), (1, v1), (4, .bool false), (5, .bool t1), (8, .int .i64 x8_1), (6, bp b8 0), (7, v20), (203, .bool true)]) ⟨rfl, rfl, rfl, rfl, rfl, rfl, rfl, rfl, trivial⟩ ?_
                refine S.rd fun hr156 => ?_
                cases h
                refine S.drop ?_
                refine S.b5 ?_
                refine S.b5 ?_
                refine S.b5 ?_
                refine S.b5 ?_
                refine S.b5 ?_
                refine S.b5 ?_
                refine S.to ?_ (hk4 () trivial)
                exact ⟨rfl, rfl, rfl, rfl, rfl, rfl, rfl, rfl, trivial⟩
              · replace h := cond_f b155 h
                rcases bool_or t128 with b157 | b157
                · replace h := cond_t b157 h
                  rcases bool_or (t127 != t140) with b158 | b158
                  · replace h := cond_t b158 h
                    refine S.draw' (Z := fun Q => ∀ (_ : Unit) (_ : Unit) (_ : Unit) (_ : Unit) (v147 : Value) (_ : Unit) (_ : Unit) (_ : Unit) (_ : Unit) (_ : Unit) (_ : Unit), Q [(0, .int .i64 a0), (1, v1), (4, .bool false), (5, .bool t1), (8, .int .i64 x8_1), (6, bp b8 0), (7, v20), (203, .bool true), (171, v147)] [Own 35 (ekI .u64) v147 t145, Box b8 [vy8_0_2, vy8_1_2, .int .i64 y8_2_2, .int .i64 y8_3_2], OwnO 81 kr_ref10_Slot vy8_0_2 raws132 A133 y8_0_2, OwnO 72 kr_ref10_Obj vy8_1_2 raws136 A137 y8_1_2, Own 35 (ekI .u64) v20 s130, Box b26 [.int .i64 x24.What, .int .i64 x24.T, .int .i64 x24.N, .int .i64 x24.C.Kind, .int .i64 x24.C.Rights, .int .i64 x24.C.Obj, .int .i64 x24.C.Badge, .int .i64 x24.C.Guard, .int .i64 x24.C.Bits], F]) (T := [tS 13 (errV 44 j13_2), tS 12 (.int .i64 j12_2), tS 7 (v20), tS 6 (bp b8 0), tS 16 (.bool t128), tS 17 (.int .i64 t140), tS 15 (.int .i64 t127), tS 11 (.int .i64 t29), tE [(0, .int .i64 a0), (1, v1), (4, .bool false), (5, .bool t1), (8, .int .i64 x8_1)], tR (Box b8 [vy8_0_2, vy8_1_2, .int .i64 y8_2_2, .int .i64 y8_3_2]), tR (OwnO 81 kr_ref10_Slot vy8_0_2 raws132 A133 y8_0_2), tR (OwnO 72 kr_ref10_Obj vy8_1_2 raws136 A137 y8_1_2), tR (Own 35 (ekI .u64) v20 s130), tR (Box b26 [.int .i64 x24.What, .int .i64 x24.T, .int .i64 x24.N, .int .i64 x24.C.Kind, .int .i64 x24.C.Rights, .int .i64 x24.C.Obj, .int .i64 x24.C.Badge, .int .i64 x24.C.Guard, .int .i64 x24.C.Bits]), tR (F), tS 164 (errV 44 j13_2), tS 165 (.int .i64 t142), tS 166 (.int .i64 j12_2), tS 167 (.bool (t142 != j12_2)), tS 168 (.bool (t142 != j12_2)), tS 169 (v20), tS 170 (bp b8 0), ⟨Value, [171], (fun v147 => [(171, v147)]), (fun v147 => [Own 35 (ekI .u64) v147 t145]), fun _ => rfl⟩, tS 172 (.bool t151), tS 173 (.bool (!t151)), tS 174 (.bool (!t151)), tS 175 (.bool (!t151)), tS 176 (.bool t128), tS 177 (.int .i64 t140), tS 178 (.bool (decide (0 ≤ t140))), tS 179 (.bool (t128 != (decide (0 ≤ t140)))), tS 180 (.bool (t128 != (decide (0 ≤ t140)))), tS 181 (.bool (t128 != (decide (0 ≤ t140)))), tS 182 (.bool t128), tS 183 (.bool t128), tS 184 (.int .i64 t127), tS 185 (.int .i64 t140), tS 186 (.bool (t127 != t140)), tS 187 (.bool (t127 != t140)), tS 188 (.bool (t127 != t140)), tS 189 (.bool (t127 != t140)), tS 190 (undef), tS 191 (undef), tS 192 (undef), tS 193 (undef), tS 194 (undef), tS 195 (undef), tS 196 (undef), tS 197 (undef), tS 198 (undef), tS 199 (undef), tS 200 (undef), tS 201 (undef), tS 202 (undef), tS 203 (.bool true)]) (D := [⟨[0], [], [15]⟩, ⟨[15], [], [16]⟩, ⟨[1], [], [17]⟩, ⟨[16, 17], [], [18]⟩, ⟨[18], [], [19]⟩, ⟨[2, 19], [], [20]⟩, ⟨[3, 19], [], [21]⟩, ⟨[19, 21, 9, 10, 11], [], [22]⟩, ⟨[19, 20, 22, 12], [], [23]⟩, ⟨[19, 23], [], [24]⟩, ⟨[19, 24], [], [25]⟩, ⟨[25], [], [26]⟩, ⟨[4, 26], [], [27]⟩, ⟨[5, 26], [], [28]⟩, ⟨[26, 28], [], [29]⟩, ⟨[26, 27, 29], [], [30]⟩, ⟨[26, 30], [], [31]⟩, ⟨[31], [], [32]⟩, ⟨[4, 32], [], [33]⟩, ⟨[32, 33], [], [34]⟩, ⟨[6, 34], [], [35]⟩, ⟨[5, 34], [], [36]⟩, ⟨[34, 35, 36], [], [37]⟩, ⟨[32, 34, 37], [], [38]⟩, ⟨[32, 38], [], [39]⟩, ⟨[39], [], [40]⟩, ⟨[40], [], [41]⟩, ⟨[40], [], [42]⟩, ⟨[40], [], [43]⟩, ⟨[40], [], [44]⟩, ⟨[40], [], [45]⟩, ⟨[40], [], [46]⟩, ⟨[40], [], [47]⟩, ⟨[40], [], [48]⟩, ⟨[40], [], [49]⟩, ⟨[40], [], [50]⟩, ⟨[40], [], [51]⟩, ⟨[40], [], [52]⟩, ⟨[40], [], [53]⟩, ⟨[40, 53], [], [54]⟩]) (ini := [0, 1, 2, 3, 4, 5, 6, 7, 8, 9, 10, 11, 12, 13, 14]) (fin := [8, 3, 2, 54, 22, 9, 10, 11, 12, 13, 14]) (bf := [[], [0], [], [0, 1, 2], [0, 1, 2, 3], [0, 1, 2, 3, 4], [0, 1, 2, 3, 4], [0, 1, 2, 3, 4, 6], [0, 1, 2, 3, 4, 5, 6, 7], [0, 1, 2, 3, 4, 5, 6, 7, 8], [0, 1, 2, 3, 4, 5, 6, 7, 8, 9], [0, 1, 2, 3, 4, 5, 6, 7, 8, 9, 10], [0, 1, 2, 3, 4, 5, 6, 7, 8, 9, 10, 11], [0, 1, 2, 3, 4, 5, 6, 7, 8, 9, 10, 11], [0, 1, 2, 3, 4, 5, 6, 7, 8, 9, 10, 11, 13], [0, 1, 2, 3, 4, 5, 6, 7, 8, 9, 10, 11, 12, 13, 14], [0, 1, 2, 3, 4, 5, 6, 7, 8, 9, 10, 11, 12, 13, 14, 15], [0, 1, 2, 3, 4, 5, 6, 7, 8, 9, 10, 11, 12, 13, 14, 15, 16], [0, 1, 2, 3, 4, 5, 6, 7, 8, 9, 10, 11, 12, 13, 14, 15, 16, 17], [0, 1, 2, 3, 4, 5, 6, 7, 8, 9, 10, 11, 12, 13, 14, 15, 16, 17, 18], [0, 1, 2, 3, 4, 5, 6, 7, 8, 9, 10, 11, 12, 13, 14, 15, 16, 17, 18, 19], [0, 1, 2, 3, 4, 5, 6, 7, 8, 9, 10, 11, 12, 13, 14, 15, 16, 17, 18, 19], [0, 1, 2, 3, 4, 5, 6, 7, 8, 9, 10, 11, 12, 13, 14, 15, 16, 17, 18, 19, 20, 21], [0, 1, 2, 3, 4, 5, 6, 7, 8, 9, 10, 11, 12, 13, 14, 15, 16, 17, 18, 19, 20, 21, 22], [0, 1, 2, 3, 4, 5, 6, 7, 8, 9, 10, 11, 12, 13, 14, 15, 16, 17, 18, 19, 20, 21, 22, 23], [0, 1, 2, 3, 4, 5, 6, 7, 8, 9, 10, 11, 12, 13, 14, 15, 16, 17, 18, 19, 20, 21, 22, 23, 24], [0, 1, 2, 3, 4, 5, 6, 7, 8, 9, 10, 11, 12, 13, 14, 15, 16, 17, 18, 19, 20, 21, 22, 23, 24, 25], [0, 1, 2, 3, 4, 5, 6, 7, 8, 9, 10, 11, 12, 13, 14, 15, 16, 17, 18, 19, 20, 21, 22, 23, 24, 25, 26], [0, 1, 2, 3, 4, 5, 6, 7, 8, 9, 10, 11, 12, 13, 14, 15, 16, 17, 18, 19, 20, 21, 22, 23, 24, 25], [0, 1, 2, 3, 4, 5, 6, 7, 8, 9, 10, 11, 12, 13, 14, 15, 16, 17, 18, 19, 20, 21, 22, 23, 24, 25, 26, 27, 28], [0, 1, 2, 3, 4, 5, 6, 7, 8, 9, 10, 11, 12, 13, 14, 15, 16, 17, 18, 19, 20, 21, 22, 23, 24, 25], [0, 1, 2, 3, 4, 5, 6, 7, 8, 9, 10, 11, 12, 13, 14, 15, 16, 17, 18, 19, 20, 21, 22, 23, 24, 25, 30], [0, 1, 2, 3, 4, 5, 6, 7, 8, 9, 10, 11, 12, 13, 14, 15, 16, 17, 18, 19, 20, 21, 22, 23, 24, 25, 30, 31], [0, 1, 2, 3, 4, 5, 6, 7, 8, 9, 10, 11, 12, 13, 14, 15, 16, 17, 18, 19, 20, 21, 22, 23, 24, 25, 30, 31, 32], [0, 1, 2, 3, 4, 5, 6, 7, 8, 9, 10, 11, 12, 13, 14, 15, 16, 17, 18, 19, 20, 21, 22, 23, 24, 25], [0, 1, 2, 3, 4, 5, 6, 7, 8, 9, 10, 11, 12, 13, 14, 15, 16, 17, 18, 19, 20, 21, 22, 23, 24, 25, 30, 31, 32, 33, 34], [0, 1, 2, 3, 4, 5, 6, 7, 8, 9, 10, 11, 12, 13, 14, 15, 16, 17, 18, 19, 20, 21, 22, 23, 24, 25, 30, 31, 32, 33, 34, 35], [0, 1, 2, 3, 4, 5, 6, 7, 8, 9, 10, 11, 12, 13, 14, 15, 16, 17, 18, 19, 20, 21, 22, 23, 24, 25, 30, 31, 32, 33, 34, 35, 36], [0, 1, 2, 3, 4, 5, 6, 7, 8, 9, 10, 11, 12, 13, 14, 15, 16, 17, 18, 19, 20, 21, 22, 23, 24, 25, 26, 27, 28, 29, 30, 31, 32, 33, 34, 35, 36, 37], [0, 1, 2, 3, 4, 5, 6, 7, 8, 9, 10, 11, 12, 13, 14, 15, 16, 17, 18, 19, 20, 21, 22, 23, 24, 25, 26, 27, 28, 29, 30, 31, 32, 33, 34, 35, 36, 37, 38]]) (by kernel_rfl) (by kernel_rfl) (fun x w h1 h2 => (.cons () (.cons () (.cons () (.cons () (.cons () (.cons () (.cons () (.cons () (.cons () (.cons () (.cons () (.cons () (.cons () (.cons () (.cons () (.nil ⟨EnvAll.of h1 ⟨rfl, rfl, rfl, rfl, rfl, rfl, rfl, rfl, rfl, rfl, rfl, rfl, rfl, trivial⟩, h2⟩))))))))))))))))) (fun Q => by kernel_rfl) ⟨?_, ?_, ?_, ?_, ?_, ?_, ?_, ?_, ?_, ?_, ?_, ?_, ?_, ?_, ?_, ?_, ?_, ?_, ?_, ?_, ?_, ?_, ?_, ?_, ?_, ?_, ?_, ?_, ?_, ?_, ?_, ?_, ?_, ?_, ?_, ?_, ?_, ?_, ?_, ?_, trivial⟩ ?_
                    · rintro Fr _
                      refine SO.v rfl (opv_move rfl) ?_
                      exact SO.nilZ fun a w h1 h2 h3 h4 h5 => PZ.of h1 h3 h5 (.cons () (.cons () (.nil ⟨EnvAll.of h2 ⟨rfl, rfl, trivial⟩, h4⟩)))
                    · rintro Fr _
                      refine SO.call (pre := []) rfl Try.call32 rfl rfl rfl (law00_Code.ct _ _ _ ht143) trivial ?_
                      rintro _ _ ⟨rfl, rfl⟩
                      exact SO.nilZ fun a w h1 h2 h3 h4 h5 => PZ.of h1 h3 h5 (.cons () (.cons () (.nil ⟨EnvAll.of h2 ⟨rfl, rfl, trivial⟩, h4⟩)))
                    · rintro Fr _
                      refine SO.v rfl (opv_move rfl) ?_
                      exact SO.nilZ fun a w h1 h2 h3 h4 h5 => PZ.of h1 h3 h5 (.cons () (.cons () (.nil ⟨EnvAll.of h2 ⟨rfl, rfl, trivial⟩, h4⟩)))
                    · rintro Fr _ _
                      refine SO.v rfl (opv_neq rfl rfl) ?_
                      exact SO.nilZ fun a w h1 h2 h3 h4 h5 => PZ.of h1 h3 h5 (.cons () (.cons () (.cons () (.nil ⟨EnvAll.of h2 ⟨rfl, rfl, rfl, trivial⟩, h4⟩))))
                    · rintro Fr _
                      refine SO.v rfl (opv_move rfl) ?_
                      exact SO.nilZ fun a w h1 h2 h3 h4 h5 => PZ.of h1 h3 h5 (.cons () (.cons () (.nil ⟨EnvAll.of h2 ⟨rfl, rfl, trivial⟩, h4⟩)))
                    · rintro Fr _ _
                      refine SO.takeT rfl rfl rfl b144 ?_
                      refine SO.v rfl (opv_move rfl) ?_
                      exact SO.nilZ fun a w h1 h2 h3 h4 h5 => PZ.of h1 h3 h5 (.cons () (.cons () (.cons () (.nil ⟨EnvAll.of h2 ⟨rfl, rfl, rfl, trivial⟩, h4⟩))))
                    · rintro Fr _ _
                      refine SO.takeT rfl rfl rfl b144 ?_
                      refine SO.v rfl (opv_move rfl) ?_
                      exact SO.nilZ fun a w h1 h2 h3 h4 h5 => PZ.of h1 h3 h5 (.cons () (.cons () (.cons () (.nil ⟨EnvAll.of h2 ⟨rfl, rfl, rfl, trivial⟩, h4⟩))))
                    · rintro Fr _ _ _ _ _
                      refine SO.takeT rfl rfl rfl b144 ?_
                      refine SO.b2 ?_
                      refine SO.b2 ?_
                      refine SO.b2 ?_
                      have ct149 := ref10_State_Words.ct _ b8 vy8_0_2 vy8_1_2 raws132 A133 raws136 A137 _ _ ht146
                      dsimp only at ct149
                      refine SO.call (pre := [Box _ _, OwnO _ _ _ _ _ _, OwnO _ _ _ _ _ _]) rfl Try.call8 rfl rfl rfl ct149 trivial ?_
                      rintro v147 _ ⟨_, rfl, rfl⟩
                      refine SO.rd fun hr148 => ?_
                      refine SO.b3 ?_
                      refine SO.b3 ?_
                      refine SO.b3 ?_
                      exact SO.nilZ fun a w h1 h2 h3 h4 h5 => PZ.of h1 h3 h5 (.cons () (.cons () (.cons () (.cons () (.cons () (.cons v147 (.nil ⟨EnvAll.of h2 ⟨rfl, rfl, rfl, trivial⟩, h4⟩)))))))
                    · rintro Fr _ _ v147 _
                      refine SO.rd fun hr150 => ?_
                      refine SO.takeT rfl rfl rfl b144 ?_
                      refine SO.call (pre := []) rfl Try.call33 rfl rfl rfl (ref10_Same.ct _ v20 v147 _ _ _ ht152) ⟨(Rd.tail (Rd.head hr131)), (Rd.head hr150)⟩ ?_
                      rintro _ _ ⟨rfl, rfl⟩
                      refine SO.b1 ?_
                      refine SO.b1 ?_
                      exact SO.nilZ fun a w h1 h2 h3 h4 h5 => PZ.of h1 h3 h5 (.cons () (.cons () (.cons v147 (.cons () (.cons () (.nil ⟨EnvAll.of h2 ⟨rfl, rfl, rfl, rfl, trivial⟩, h4⟩))))))
                    · rintro Fr _ _
                      refine SO.takeT rfl rfl rfl b144 ?_
                      refine SO.v rfl (opv_not rfl) ?_
                      exact SO.nilZ fun a w h1 h2 h3 h4 h5 => PZ.of h1 h3 h5 (.cons () (.cons () (.cons () (.nil ⟨EnvAll.of h2 ⟨rfl, rfl, rfl, trivial⟩, h4⟩))))
                    · rintro Fr _ _
                      refine SO.v rfl (opv_pick_f' b144 rfl rfl) ?_
                      exact SO.nilZ fun a w h1 h2 h3 h4 h5 => PZ.of h1 h3 h5 (.cons () (.cons () (.cons () (.nil ⟨EnvAll.of h2 ⟨rfl, rfl, rfl, trivial⟩, h4⟩))))
                    · rintro Fr _
                      refine SO.v rfl (opv_move rfl) ?_
                      exact SO.nilZ fun a w h1 h2 h3 h4 h5 => PZ.of h1 h3 h5 (.cons () (.cons () (.nil ⟨EnvAll.of h2 ⟨rfl, rfl, trivial⟩, h4⟩)))
                    · rintro Fr _ _
                      refine SO.takeT rfl rfl rfl b153 ?_
                      refine SO.v rfl (opv_move rfl) ?_
                      exact SO.nilZ fun a w h1 h2 h3 h4 h5 => PZ.of h1 h3 h5 (.cons () (.cons () (.cons () (.nil ⟨EnvAll.of h2 ⟨rfl, rfl, rfl, trivial⟩, h4⟩))))
                    · rintro Fr _ _
                      refine SO.takeT rfl rfl rfl b153 ?_
                      refine SO.v rfl (opv_move rfl) ?_
                      exact SO.nilZ fun a w h1 h2 h3 h4 h5 => PZ.of h1 h3 h5 (.cons () (.cons () (.cons () (.nil ⟨EnvAll.of h2 ⟨rfl, rfl, rfl, trivial⟩, h4⟩))))
                    · rintro Fr _ _
                      refine SO.takeT rfl rfl rfl b153 ?_
                      refine SO.v rfl (opv_geq rfl rfl) ?_
                      exact SO.nilZ fun a w h1 h2 h3 h4 h5 => PZ.of h1 h3 h5 (.cons () (.cons () (.cons () (.nil ⟨EnvAll.of h2 ⟨rfl, rfl, rfl, trivial⟩, h4⟩))))
                    · rintro Fr _ _ _
                      refine SO.takeT rfl rfl rfl b153 ?_
                      refine SO.v rfl (opv_neqB Try.underlying4 rfl rfl) ?_
                      exact SO.nilZ fun a w h1 h2 h3 h4 h5 => PZ.of h1 h3 h5 (.cons () (.cons () (.cons () (.cons () (.nil ⟨EnvAll.of h2 ⟨rfl, rfl, rfl, rfl, trivial⟩, h4⟩)))))
                    · rintro Fr _ _
                      refine SO.v rfl (opv_pick_f' b153 rfl rfl) ?_
                      exact SO.nilZ fun a w h1 h2 h3 h4 h5 => PZ.of h1 h3 h5 (.cons () (.cons () (.cons () (.nil ⟨EnvAll.of h2 ⟨rfl, rfl, rfl, trivial⟩, h4⟩))))
                    · rintro Fr _
                      refine SO.v rfl (opv_move rfl) ?_
                      exact SO.nilZ fun a w h1 h2 h3 h4 h5 => PZ.of h1 h3 h5 (.cons () (.cons () (.nil ⟨EnvAll.of h2 ⟨rfl, rfl, trivial⟩, h4⟩)))
                    · rintro Fr _ _
                      refine SO.takeT rfl rfl rfl b155 ?_
                      refine SO.v rfl (opv_move rfl) ?_
                      exact SO.nilZ fun a w h1 h2 h3 h4 h5 => PZ.of h1 h3 h5 (.cons () (.cons () (.cons () (.nil ⟨EnvAll.of h2 ⟨rfl, rfl, rfl, trivial⟩, h4⟩))))
                    · rintro Fr _ _
                      refine SO.takeT rfl rfl rfl b155 ?_
                      refine SO.v rfl (opv_move rfl) ?_
                      exact SO.nilZ fun a w h1 h2 h3 h4 h5 => PZ.of h1 h3 h5 (.cons () (.cons () (.cons () (.nil ⟨EnvAll.of h2 ⟨rfl, rfl, rfl, trivial⟩, h4⟩))))
                    · rintro Fr _ _
                      refine SO.takeT rfl rfl rfl b157 ?_
                      refine SO.v rfl (opv_move rfl) ?_
                      exact SO.nilZ fun a w h1 h2 h3 h4 h5 => PZ.of h1 h3 h5 (.cons () (.cons () (.cons () (.nil ⟨EnvAll.of h2 ⟨rfl, rfl, rfl, trivial⟩, h4⟩))))
                    · rintro Fr _ _
                      refine SO.takeT rfl rfl rfl b157 ?_
                      refine SO.v rfl (opv_move rfl) ?_
                      exact SO.nilZ fun a w h1 h2 h3 h4 h5 => PZ.of h1 h3 h5 (.cons () (.cons () (.cons () (.nil ⟨EnvAll.of h2 ⟨rfl, rfl, rfl, trivial⟩, h4⟩))))
                    · rintro Fr _ _ _
                      refine SO.takeT rfl rfl rfl b157 ?_
                      refine SO.v rfl (opv_neq rfl rfl) ?_
                      exact SO.nilZ fun a w h1 h2 h3 h4 h5 => PZ.of h1 h3 h5 (.cons () (.cons () (.cons () (.cons () (.nil ⟨EnvAll.of h2 ⟨rfl, rfl, rfl, rfl, trivial⟩, h4⟩)))))
                    · rintro Fr _ _ _
                      refine SO.takeT rfl rfl rfl b155 ?_
                      refine SO.v rfl (opv_pick_t' b157 rfl rfl) ?_
                      exact SO.nilZ fun a w h1 h2 h3 h4 h5 => PZ.of h1 h3 h5 (.cons () (.cons () (.cons () (.cons () (.nil ⟨EnvAll.of h2 ⟨rfl, rfl, rfl, rfl, trivial⟩, h4⟩)))))
                    · rintro Fr _ _
                      refine SO.v rfl (opv_pick_f' b155 rfl rfl) ?_
                      exact SO.nilZ fun a w h1 h2 h3 h4 h5 => PZ.of h1 h3 h5 (.cons () (.cons () (.cons () (.nil ⟨EnvAll.of h2 ⟨rfl, rfl, rfl, trivial⟩, h4⟩))))
                    · rintro Fr _
                      refine SO.v rfl (opv_move rfl) ?_
                      exact SO.nilZ fun a w h1 h2 h3 h4 h5 => PZ.of h1 h3 h5 (.cons () (.cons () (.nil ⟨EnvAll.of h2 ⟨rfl, rfl, trivial⟩, h4⟩)))
                    · rintro Fr _
                      refine SO.passF rfl rfl rfl b158 rfl rfl ?_
                      exact SO.nilZ fun a w h1 h2 h3 h4 h5 => PZ.of h1 h3 h5 (.cons () (.cons () (.nil ⟨EnvAll.of h2 ⟨rfl, rfl, trivial⟩, h4⟩)))
                    · rintro Fr _
                      refine SO.passF rfl rfl rfl b158 rfl rfl ?_
                      exact SO.nilZ fun a w h1 h2 h3 h4 h5 => PZ.of h1 h3 h5 (.cons () (.cons () (.nil ⟨EnvAll.of h2 ⟨rfl, rfl, trivial⟩, h4⟩)))
                    · rintro Fr _
                      refine SO.passF rfl rfl rfl b158 rfl rfl ?_
                      exact SO.nilZ fun a w h1 h2 h3 h4 h5 => PZ.of h1 h3 h5 (.cons () (.cons () (.nil ⟨EnvAll.of h2 ⟨rfl, rfl, trivial⟩, h4⟩)))
                    · rintro Fr _
                      refine SO.passF rfl rfl rfl b158 rfl rfl ?_
                      exact SO.nilZ fun a w h1 h2 h3 h4 h5 => PZ.of h1 h3 h5 (.cons () (.cons () (.nil ⟨EnvAll.of h2 ⟨rfl, rfl, trivial⟩, h4⟩)))
                    · rintro Fr _
                      refine SO.passF rfl rfl rfl b158 rfl rfl ?_
                      exact SO.nilZ fun a w h1 h2 h3 h4 h5 => PZ.of h1 h3 h5 (.cons () (.cons () (.nil ⟨EnvAll.of h2 ⟨rfl, rfl, trivial⟩, h4⟩)))
                    · rintro Fr _
                      refine SO.passF rfl rfl rfl b158 rfl rfl ?_
                      exact SO.nilZ fun a w h1 h2 h3 h4 h5 => PZ.of h1 h3 h5 (.cons () (.cons () (.nil ⟨EnvAll.of h2 ⟨rfl, rfl, trivial⟩, h4⟩)))
                    · rintro Fr _
                      refine SO.passF rfl rfl rfl b158 rfl rfl ?_
                      exact SO.nilZ fun a w h1 h2 h3 h4 h5 => PZ.of h1 h3 h5 (.cons () (.cons () (.nil ⟨EnvAll.of h2 ⟨rfl, rfl, trivial⟩, h4⟩)))
                    · rintro Fr _
                      refine SO.passF rfl rfl rfl b158 rfl rfl ?_
                      exact SO.nilZ fun a w h1 h2 h3 h4 h5 => PZ.of h1 h3 h5 (.cons () (.cons () (.nil ⟨EnvAll.of h2 ⟨rfl, rfl, trivial⟩, h4⟩)))
                    · rintro Fr _
                      refine SO.passF rfl rfl rfl b158 rfl rfl ?_
                      exact SO.nilZ fun a w h1 h2 h3 h4 h5 => PZ.of h1 h3 h5 (.cons () (.cons () (.nil ⟨EnvAll.of h2 ⟨rfl, rfl, trivial⟩, h4⟩)))
                    · rintro Fr _
                      refine SO.passF rfl rfl rfl b158 rfl rfl ?_
                      exact SO.nilZ fun a w h1 h2 h3 h4 h5 => PZ.of h1 h3 h5 (.cons () (.cons () (.nil ⟨EnvAll.of h2 ⟨rfl, rfl, trivial⟩, h4⟩)))
                    · rintro Fr _
                      refine SO.passF rfl rfl rfl b158 rfl rfl ?_
                      exact SO.nilZ fun a w h1 h2 h3 h4 h5 => PZ.of h1 h3 h5 (.cons () (.cons () (.nil ⟨EnvAll.of h2 ⟨rfl, rfl, trivial⟩, h4⟩)))
                    · rintro Fr _
                      refine SO.passF rfl rfl rfl b158 rfl rfl ?_
                      exact SO.nilZ fun a w h1 h2 h3 h4 h5 => PZ.of h1 h3 h5 (.cons () (.cons () (.nil ⟨EnvAll.of h2 ⟨rfl, rfl, trivial⟩, h4⟩)))
                    · rintro Fr _
                      refine SO.passF rfl rfl rfl b158 rfl rfl ?_
                      exact SO.nilZ fun a w h1 h2 h3 h4 h5 => PZ.of h1 h3 h5 (.cons () (.cons () (.nil ⟨EnvAll.of h2 ⟨rfl, rfl, trivial⟩, h4⟩)))
                    · rintro Fr _ _
                      refine SO.v rfl (opv_pick_t' b158 rfl rfl) ?_
                      exact SO.nilZ fun a w h1 h2 h3 h4 h5 => PZ.of h1 h3 h5 (.cons () (.cons () (.cons () (.nil ⟨EnvAll.of h2 ⟨rfl, rfl, rfl, trivial⟩, h4⟩))))
                    rintro _ _ _ _ v147 _ _ _ _ _ _
                    refine S.to (ρ' := [(0, .int .i64 a0), (1, v1), (4, .bool false), (5, .bool t1), (8, .int .i64 x8_1), (6, bp b8 0), (7, v20), (203, .bool true)]) ⟨rfl, rfl, rfl, rfl, rfl, rfl, rfl, rfl, trivial⟩ ?_
                    refine S.rd fun hr159 => ?_
                    cases h
                    refine S.drop ?_
                    refine S.b5 ?_
                    refine S.b5 ?_
                    refine S.b5 ?_
                    refine S.b5 ?_
                    refine S.b5 ?_
                    refine S.b5 ?_
                    refine S.to ?_ (hk4 () trivial)
                    exact ⟨rfl, rfl, rfl, rfl, rfl, rfl, rfl, rfl, trivial⟩
                  · replace h := cond_f b158 h
                    obtain ⟨⟨t160, s162⟩, ht161, h⟩ := opt_bind h
                    obtain ⟨x164, hx165, h⟩ := opt_bind h
                    obtain ⟨r166, hr167, hc168⟩ := relR.at hrel138 hx165
                    refine S.draw' (Z := fun Q => ∀ (_ : Unit) (_ : Unit) (_ : Unit) (_ : Unit) (v147 : Value) (_ : Unit) (_ : Unit) (_ : Unit) (_ : Unit) (_ : Unit) (_ : Unit), Q [(0, .int .i64 a0), (1, v1), (4, .bool false), (5, .bool t1), (8, .int .i64 x8_1), (6, bp b8 0), (7, v20), (203, .bool (!decide (t160 = x164.Root))), (171, v147)] [Own 35 (ekI .u64) v147 t145, Box b8 [vy8_0_2, vy8_1_2, .int .i64 y8_2_2, .int .i64 y8_3_2], OwnO 81 kr_ref10_Slot vy8_0_2 raws132 A133 y8_0_2, OwnO 72 kr_ref10_Obj vy8_1_2 raws136 A137 y8_1_2, Own 35 (ekI .u64) v20 s162, Box b26 [.int .i64 x24.What, .int .i64 x24.T, .int .i64 x24.N, .int .i64 x24.C.Kind, .int .i64 x24.C.Rights, .int .i64 x24.C.Obj, .int .i64 x24.C.Badge, .int .i64 x24.C.Guard, .int .i64 x24.C.Bits], F]) (T := [tS 13 (errV 44 j13_2), tS 12 (.int .i64 j12_2), tS 7 (v20), tS 6 (bp b8 0), tS 16 (.bool t128), tS 17 (.int .i64 t140), tS 15 (.int .i64 t127), tS 11 (.int .i64 t29), tE [(0, .int .i64 a0), (1, v1), (4, .bool false), (5, .bool t1), (8, .int .i64 x8_1)], tR (Box b8 [vy8_0_2, vy8_1_2, .int .i64 y8_2_2, .int .i64 y8_3_2]), tR (OwnO 81 kr_ref10_Slot vy8_0_2 raws132 A133 y8_0_2), tR (OwnO 72 kr_ref10_Obj vy8_1_2 raws136 A137 y8_1_2), tR (Own 35 (ekI .u64) v20 s130), tR (Box b26 [.int .i64 x24.What, .int .i64 x24.T, .int .i64 x24.N, .int .i64 x24.C.Kind, .int .i64 x24.C.Rights, .int .i64 x24.C.Obj, .int .i64 x24.C.Badge, .int .i64 x24.C.Guard, .int .i64 x24.C.Bits]), tR (F), tS 164 (errV 44 j13_2), tS 165 (.int .i64 t142), tS 166 (.int .i64 j12_2), tS 167 (.bool (t142 != j12_2)), tS 168 (.bool (t142 != j12_2)), tS 169 (v20), tS 170 (bp b8 0), ⟨Value, [171], (fun v147 => [(171, v147)]), (fun v147 => [Own 35 (ekI .u64) v147 t145]), fun _ => rfl⟩, tS 172 (.bool t151), tS 173 (.bool (!t151)), tS 174 (.bool (!t151)), tS 175 (.bool (!t151)), tS 176 (.bool t128), tS 177 (.int .i64 t140), tS 178 (.bool (decide (0 ≤ t140))), tS 179 (.bool (t128 != (decide (0 ≤ t140)))), tS 180 (.bool (t128 != (decide (0 ≤ t140)))), tS 181 (.bool (t128 != (decide (0 ≤ t140)))), tS 182 (.bool t128), tS 183 (.bool t128), tS 184 (.int .i64 t127), tS 185 (.int .i64 t140), tS 186 (.bool (t127 != t140)), tS 187 (.bool (t127 != t140)), tS 188 (.bool (t127 != t140)), tS 189 (.bool (t127 != t140)), tS 190 (v20), tS 191 ((plainV v20).val), tS 192 (.int .i64 t29), tR (Own 35 (ekI .u64) v20 s162), tS 193 (.agg #[.int .i64 t160.Kind, .int .i64 t160.Rights, .int .i64 t160.Obj, .int .i64 t160.Badge, .int .i64 t160.Guard, .int .i64 t160.Bits]), tS 194 (bp b8 0), tS 195 (bp b8 0), tS 196 (bp b8 1), tS 197 (vy8_1_2), tS 198 (.int .i64 t29), tS 199 (idxp vy8_1_2 (t29.toNat * kr_ref10_Obj.sz)), tS 200 (idxp vy8_1_2 (t29.toNat * kr_ref10_Obj.sz + 14)), tS 201 (.agg #[.int .i64 x164.Root.Kind, .int .i64 x164.Root.Rights, .int .i64 x164.Root.Obj, .int .i64 x164.Root.Badge, .int .i64 x164.Root.Guard, .int .i64 x164.Root.Bits]), tS 202 (.bool (!decide (t160 = x164.Root))), tS 203 (.bool (!decide (t160 = x164.Root)))]) (D := [⟨[0], [], [15]⟩, ⟨[15], [], [16]⟩, ⟨[1], [], [17]⟩, ⟨[16, 17], [], [18]⟩, ⟨[18], [], [19]⟩, ⟨[2, 19], [], [20]⟩, ⟨[3, 19], [], [21]⟩, ⟨[19, 21, 9, 10, 11], [], [22]⟩, ⟨[19, 20, 22, 12], [], [23]⟩, ⟨[19, 23], [], [24]⟩, ⟨[19, 24], [], [25]⟩, ⟨[25], [], [26]⟩, ⟨[4, 26], [], [27]⟩, ⟨[5, 26], [], [28]⟩, ⟨[26, 28], [], [29]⟩, ⟨[26, 27, 29], [], [30]⟩, ⟨[26, 30], [], [31]⟩, ⟨[31], [], [32]⟩, ⟨[4, 32], [], [33]⟩, ⟨[32, 33], [], [34]⟩, ⟨[6, 34], [], [35]⟩, ⟨[5, 34], [], [36]⟩, ⟨[34, 35, 36], [], [37]⟩, ⟨[32, 34, 37], [], [38]⟩, ⟨[32, 38], [], [39]⟩, ⟨[39], [], [40]⟩, ⟨[2, 40], [], [41]⟩, ⟨[40, 41], [], [42]⟩, ⟨[7, 40], [], [43]⟩, ⟨[40, 42, 43], [12], [44, 45]⟩, ⟨[3, 40], [], [46]⟩, ⟨[40, 46], [], [47]⟩, ⟨[40, 47], [], [48]⟩, ⟨[40, 48, 9], [], [49]⟩, ⟨[7, 40], [], [50]⟩, ⟨[40, 49, 50, 11], [], [51]⟩, ⟨[40, 51, 11], [], [52]⟩, ⟨[40, 52, 11], [], [53]⟩, ⟨[40, 45, 53], [], [54]⟩, ⟨[40, 54], [], [55]⟩]) (ini := [0, 1, 2, 3, 4, 5, 6, 7, 8, 9, 10, 11, 12, 13, 14]) (fin := [8, 3, 2, 55, 22, 9, 10, 11, 44, 13, 14]) (bf := [[], [0], [], [0, 1, 2], [0, 1, 2, 3], [0, 1, 2, 3, 4], [0, 1, 2, 3, 4], [0, 1, 2, 3, 4, 6], [0, 1, 2, 3, 4, 5, 6, 7], [0, 1, 2, 3, 4, 5, 6, 7, 8], [0, 1, 2, 3, 4, 5, 6, 7, 8, 9], [0, 1, 2, 3, 4, 5, 6, 7, 8, 9, 10], [0, 1, 2, 3, 4, 5, 6, 7, 8, 9, 10, 11], [0, 1, 2, 3, 4, 5, 6, 7, 8, 9, 10, 11], [0, 1, 2, 3, 4, 5, 6, 7, 8, 9, 10, 11, 13], [0, 1, 2, 3, 4, 5, 6, 7, 8, 9, 10, 11, 12, 13, 14], [0, 1, 2, 3, 4, 5, 6, 7, 8, 9, 10, 11, 12, 13, 14, 15], [0, 1, 2, 3, 4, 5, 6, 7, 8, 9, 10, 11, 12, 13, 14, 15, 16], [0, 1, 2, 3, 4, 5, 6, 7, 8, 9, 10, 11, 12, 13, 14, 15, 16, 17], [0, 1, 2, 3, 4, 5, 6, 7, 8, 9, 10, 11, 12, 13, 14, 15, 16, 17, 18], [0, 1, 2, 3, 4, 5, 6, 7, 8, 9, 10, 11, 12, 13, 14, 15, 16, 17, 18, 19], [0, 1, 2, 3, 4, 5, 6, 7, 8, 9, 10, 11, 12, 13, 14, 15, 16, 17, 18, 19], [0, 1, 2, 3, 4, 5, 6, 7, 8, 9, 10, 11, 12, 13, 14, 15, 16, 17, 18, 19, 20, 21], [0, 1, 2, 3, 4, 5, 6, 7, 8, 9, 10, 11, 12, 13, 14, 15, 16, 17, 18, 19, 20, 21, 22], [0, 1, 2, 3, 4, 5, 6, 7, 8, 9, 10, 11, 12, 13, 14, 15, 16, 17, 18, 19, 20, 21, 22, 23], [0, 1, 2, 3, 4, 5, 6, 7, 8, 9, 10, 11, 12, 13, 14, 15, 16, 17, 18, 19, 20, 21, 22, 23, 24], [0, 1, 2, 3, 4, 5, 6, 7, 8, 9, 10, 11, 12, 13, 14, 15, 16, 17, 18, 19, 20, 21, 22, 23, 24, 25], [0, 1, 2, 3, 4, 5, 6, 7, 8, 9, 10, 11, 12, 13, 14, 15, 16, 17, 18, 19, 20, 21, 22, 23, 24, 25, 26], [0, 1, 2, 3, 4, 5, 6, 7, 8, 9, 10, 11, 12, 13, 14, 15, 16, 17, 18, 19, 20, 21, 22, 23, 24, 25], [0, 1, 2, 3, 4, 5, 6, 7, 8, 9, 10, 11, 12, 13, 14, 15, 16, 17, 18, 19, 20, 21, 22, 23, 24, 25, 26, 27, 28], [0, 1, 2, 3, 4, 5, 6, 7, 8, 9, 10, 11, 12, 13, 14, 15, 16, 17, 18, 19, 20, 21, 22, 23, 24, 25], [0, 1, 2, 3, 4, 5, 6, 7, 8, 9, 10, 11, 12, 13, 14, 15, 16, 17, 18, 19, 20, 21, 22, 23, 24, 25, 30], [0, 1, 2, 3, 4, 5, 6, 7, 8, 9, 10, 11, 12, 13, 14, 15, 16, 17, 18, 19, 20, 21, 22, 23, 24, 25, 30, 31], [0, 1, 2, 3, 4, 5, 6, 7, 8, 9, 10, 11, 12, 13, 14, 15, 16, 17, 18, 19, 20, 21, 22, 23, 24, 25, 30, 31, 32], [0, 1, 2, 3, 4, 5, 6, 7, 8, 9, 10, 11, 12, 13, 14, 15, 16, 17, 18, 19, 20, 21, 22, 23, 24, 25], [0, 1, 2, 3, 4, 5, 6, 7, 8, 9, 10, 11, 12, 13, 14, 15, 16, 17, 18, 19, 20, 21, 22, 23, 24, 25, 30, 31, 32, 33, 34], [0, 1, 2, 3, 4, 5, 6, 7, 8, 9, 10, 11, 12, 13, 14, 15, 16, 17, 18, 19, 20, 21, 22, 23, 24, 25, 30, 31, 32, 33, 34, 35], [0, 1, 2, 3, 4, 5, 6, 7, 8, 9, 10, 11, 12, 13, 14, 15, 16, 17, 18, 19, 20, 21, 22, 23, 24, 25, 30, 31, 32, 33, 34, 35, 36], [0, 1, 2, 3, 4, 5, 6, 7, 8, 9, 10, 11, 12, 13, 14, 15, 16, 17, 18, 19, 20, 21, 22, 23, 24, 25, 26, 27, 28, 29, 30, 31, 32, 33, 34, 35, 36, 37], [0, 1, 2, 3, 4, 5, 6, 7, 8, 9, 10, 11, 12, 13, 14, 15, 16, 17, 18, 19, 20, 21, 22, 23, 24, 25, 26, 27, 28, 29, 30, 31, 32, 33, 34, 35, 36, 37, 38]]) (by kernel_rfl) (by kernel_rfl) (fun x w h1 h2 => (.cons () (.cons () (.cons () (.cons () (.cons () (.cons () (.cons () (.cons () (.cons () (.cons () (.cons () (.cons () (.cons () (.cons () (.cons () (.nil ⟨EnvAll.of h1 ⟨rfl, rfl, rfl, rfl, rfl, rfl, rfl, rfl, rfl, rfl, rfl, rfl, rfl, trivial⟩, h2⟩))))))))))))))))) (fun Q => by kernel_rfl) ⟨?_, ?_, ?_, ?_, ?_, ?_, ?_, ?_, ?_, ?_, ?_, ?_, ?_, ?_, ?_, ?_, ?_, ?_, ?_, ?_, ?_, ?_, ?_, ?_, ?_, ?_, ?_, ?_, ?_, ?_, ?_, ?_, ?_, ?_, ?_, ?_, ?_, ?_, ?_, ?_, trivial⟩ ?_
                    · rintro Fr _
                      refine SO.v rfl (opv_move rfl) ?_
                      exact SO.nilZ fun a w h1 h2 h3 h4 h5 => PZ.of h1 h3 h5 (.cons () (.cons () (.nil ⟨EnvAll.of h2 ⟨rfl, rfl, trivial⟩, h4⟩)))
                    · rintro Fr _
                      refine SO.call (pre := []) rfl Try.call32 rfl rfl rfl (law00_Code.ct _ _ _ ht143) trivial ?_
                      rintro _ _ ⟨rfl, rfl⟩
                      exact SO.nilZ fun a w h1 h2 h3 h4 h5 => PZ.of h1 h3 h5 (.cons () (.cons () (.nil ⟨EnvAll.of h2 ⟨rfl, rfl, trivial⟩, h4⟩)))
                    · rintro Fr _
                      refine SO.v rfl (opv_move rfl) ?_
                      exact SO.nilZ fun a w h1 h2 h3 h4 h5 => PZ.of h1 h3 h5 (.cons () (.cons () (.nil ⟨EnvAll.of h2 ⟨rfl, rfl, trivial⟩, h4⟩)))
                    · rintro Fr _ _
                      refine SO.v rfl (opv_neq rfl rfl) ?_
                      exact SO.nilZ fun a w h1 h2 h3 h4 h5 => PZ.of h1 h3 h5 (.cons () (.cons () (.cons () (.nil ⟨EnvAll.of h2 ⟨rfl, rfl, rfl, trivial⟩, h4⟩))))
                    · rintro Fr _
                      refine SO.v rfl (opv_move rfl) ?_
                      exact SO.nilZ fun a w h1 h2 h3 h4 h5 => PZ.of h1 h3 h5 (.cons () (.cons () (.nil ⟨EnvAll.of h2 ⟨rfl, rfl, trivial⟩, h4⟩)))
                    · rintro Fr _ _
                      refine SO.takeT rfl rfl rfl b144 ?_
                      refine SO.v rfl (opv_move rfl) ?_
                      exact SO.nilZ fun a w h1 h2 h3 h4 h5 => PZ.of h1 h3 h5 (.cons () (.cons () (.cons () (.nil ⟨EnvAll.of h2 ⟨rfl, rfl, rfl, trivial⟩, h4⟩))))
                    · rintro Fr _ _
                      refine SO.takeT rfl rfl rfl b144 ?_
                      refine SO.v rfl (opv_move rfl) ?_
                      exact SO.nilZ fun a w h1 h2 h3 h4 h5 => PZ.of h1 h3 h5 (.cons () (.cons () (.cons () (.nil ⟨EnvAll.of h2 ⟨rfl, rfl, rfl, trivial⟩, h4⟩))))
                    · rintro Fr _ _ _ _ _
                      refine SO.takeT rfl rfl rfl b144 ?_
                      refine SO.b2 ?_
                      refine SO.b2 ?_
                      refine SO.b2 ?_
                      have ct149 := ref10_State_Words.ct _ b8 vy8_0_2 vy8_1_2 raws132 A133 raws136 A137 _ _ ht146
                      dsimp only at ct149
                      refine SO.call (pre := [Box _ _, OwnO _ _ _ _ _ _, OwnO _ _ _ _ _ _]) rfl Try.call8 rfl rfl rfl ct149 trivial ?_
                      rintro v147 _ ⟨_, rfl, rfl⟩
                      refine SO.rd fun hr148 => ?_
                      refine SO.b3 ?_
                      refine SO.b3 ?_
                      refine SO.b3 ?_
                      exact SO.nilZ fun a w h1 h2 h3 h4 h5 => PZ.of h1 h3 h5 (.cons () (.cons () (.cons () (.cons () (.cons () (.cons v147 (.nil ⟨EnvAll.of h2 ⟨rfl, rfl, rfl, trivial⟩, h4⟩)))))))
                    · rintro Fr _ _ v147 _
                      refine SO.rd fun hr150 => ?_
                      refine SO.takeT rfl rfl rfl b144 ?_
                      refine SO.call (pre := []) rfl Try.call33 rfl rfl rfl (ref10_Same.ct _ v20 v147 _ _ _ ht152) ⟨(Rd.tail (Rd.head hr131)), (Rd.head hr150)⟩ ?_
                      rintro _ _ ⟨rfl, rfl⟩
                      refine SO.b1 ?_
                      refine SO.b1 ?_
                      exact SO.nilZ fun a w h1 h2 h3 h4 h5 => PZ.of h1 h3 h5 (.cons () (.cons () (.cons v147 (.cons () (.cons () (.nil ⟨EnvAll.of h2 ⟨rfl, rfl, rfl, rfl, trivial⟩, h4⟩))))))
                    · rintro Fr _ _
                      refine SO.takeT rfl rfl rfl b144 ?_
                      refine SO.v rfl (opv_not rfl) ?_
                      exact SO.nilZ fun a w h1 h2 h3 h4 h5 => PZ.of h1 h3 h5 (.cons () (.cons () (.cons () (.nil ⟨EnvAll.of h2 ⟨rfl, rfl, rfl, trivial⟩, h4⟩))))
                    · rintro Fr _ _
                      refine SO.v rfl (opv_pick_f' b144 rfl rfl) ?_
                      exact SO.nilZ fun a w h1 h2 h3 h4 h5 => PZ.of h1 h3 h5 (.cons () (.cons () (.cons () (.nil ⟨EnvAll.of h2 ⟨rfl, rfl, rfl, trivial⟩, h4⟩))))
                    · rintro Fr _
                      refine SO.v rfl (opv_move rfl) ?_
                      exact SO.nilZ fun a w h1 h2 h3 h4 h5 => PZ.of h1 h3 h5 (.cons () (.cons () (.nil ⟨EnvAll.of h2 ⟨rfl, rfl, trivial⟩, h4⟩)))
                    · rintro Fr _ _
                      refine SO.takeT rfl rfl rfl b153 ?_
                      refine SO.v rfl (opv_move rfl) ?_
                      exact SO.nilZ fun a w h1 h2 h3 h4 h5 => PZ.of h1 h3 h5 (.cons () (.cons () (.cons () (.nil ⟨EnvAll.of h2 ⟨rfl, rfl, rfl, trivial⟩, h4⟩))))
                    · rintro Fr _ _
                      refine SO.takeT rfl rfl rfl b153 ?_
                      refine SO.v rfl (opv_move rfl) ?_
                      exact SO.nilZ fun a w h1 h2 h3 h4 h5 => PZ.of h1 h3 h5 (.cons () (.cons () (.cons () (.nil ⟨EnvAll.of h2 ⟨rfl, rfl, rfl, trivial⟩, h4⟩))))
                    · rintro Fr _ _
                      refine SO.takeT rfl rfl rfl b153 ?_
                      refine SO.v rfl (opv_geq rfl rfl) ?_
                      exact SO.nilZ fun a w h1 h2 h3 h4 h5 => PZ.of h1 h3 h5 (.cons () (.cons () (.cons () (.nil ⟨EnvAll.of h2 ⟨rfl, rfl, rfl, trivial⟩, h4⟩))))
                    · rintro Fr _ _ _
                      refine SO.takeT rfl rfl rfl b153 ?_
                      refine SO.v rfl (opv_neqB Try.underlying4 rfl rfl) ?_
                      exact SO.nilZ fun a w h1 h2 h3 h4 h5 => PZ.of h1 h3 h5 (.cons () (.cons () (.cons () (.cons () (.nil ⟨EnvAll.of h2 ⟨rfl, rfl, rfl, rfl, trivial⟩, h4⟩)))))
                    · rintro Fr _ _
                      refine SO.v rfl (opv_pick_f' b153 rfl rfl) ?_
                      exact SO.nilZ fun a w h1 h2 h3 h4 h5 => PZ.of h1 h3 h5 (.cons () (.cons () (.cons () (.nil ⟨EnvAll.of h2 ⟨rfl, rfl, rfl, trivial⟩, h4⟩))))
                    · rintro Fr _
                      refine SO.v rfl (opv_move rfl) ?_
                      exact SO.nilZ fun a w h1 h2 h3 h4 h5 => PZ.of h1 h3 h5 (.cons () (.cons () (.nil ⟨EnvAll.of h2 ⟨rfl, rfl, trivial⟩, h4⟩)))
                    · rintro Fr _ _
                      refine SO.takeT rfl rfl rfl b155 ?_
                      refine SO.v rfl (opv_move rfl) ?_
                      exact SO.nilZ fun a w h1 h2 h3 h4 h5 => PZ.of h1 h3 h5 (.cons () (.cons () (.cons () (.nil ⟨EnvAll.of h2 ⟨rfl, rfl, rfl, trivial⟩, h4⟩))))
                    · rintro Fr _ _
                      refine SO.takeT rfl rfl rfl b155 ?_
                      refine SO.v rfl (opv_move rfl) ?_
                      exact SO.nilZ fun a w h1 h2 h3 h4 h5 => PZ.of h1 h3 h5 (.cons () (.cons () (.cons () (.nil ⟨EnvAll.of h2 ⟨rfl, rfl, rfl, trivial⟩, h4⟩))))
                    · rintro Fr _ _
                      refine SO.takeT rfl rfl rfl b157 ?_
                      refine SO.v rfl (opv_move rfl) ?_
                      exact SO.nilZ fun a w h1 h2 h3 h4 h5 => PZ.of h1 h3 h5 (.cons () (.cons () (.cons () (.nil ⟨EnvAll.of h2 ⟨rfl, rfl, rfl, trivial⟩, h4⟩))))
                    · rintro Fr _ _
                      refine SO.takeT rfl rfl rfl b157 ?_
                      refine SO.v rfl (opv_move rfl) ?_
                      exact SO.nilZ fun a w h1 h2 h3 h4 h5 => PZ.of h1 h3 h5 (.cons () (.cons () (.cons () (.nil ⟨EnvAll.of h2 ⟨rfl, rfl, rfl, trivial⟩, h4⟩))))
                    · rintro Fr _ _ _
                      refine SO.takeT rfl rfl rfl b157 ?_
                      refine SO.v rfl (opv_neq rfl rfl) ?_
                      exact SO.nilZ fun a w h1 h2 h3 h4 h5 => PZ.of h1 h3 h5 (.cons () (.cons () (.cons () (.cons () (.nil ⟨EnvAll.of h2 ⟨rfl, rfl, rfl, rfl, trivial⟩, h4⟩)))))
                    · rintro Fr _ _ _
                      refine SO.takeT rfl rfl rfl b155 ?_
                      refine SO.v rfl (opv_pick_t' b157 rfl rfl) ?_
                      exact SO.nilZ fun a w h1 h2 h3 h4 h5 => PZ.of h1 h3 h5 (.cons () (.cons () (.cons () (.cons () (.nil ⟨EnvAll.of h2 ⟨rfl, rfl, rfl, rfl, trivial⟩, h4⟩)))))
                    · rintro Fr _ _
                      refine SO.v rfl (opv_pick_f' b155 rfl rfl) ?_
                      exact SO.nilZ fun a w h1 h2 h3 h4 h5 => PZ.of h1 h3 h5 (.cons () (.cons () (.cons () (.nil ⟨EnvAll.of h2 ⟨rfl, rfl, rfl, trivial⟩, h4⟩))))
                    · rintro Fr _
                      refine SO.v rfl (opv_move rfl) ?_
                      exact SO.nilZ fun a w h1 h2 h3 h4 h5 => PZ.of h1 h3 h5 (.cons () (.cons () (.nil ⟨EnvAll.of h2 ⟨rfl, rfl, trivial⟩, h4⟩)))
                    · rintro Fr _ _
                      refine SO.takeT rfl rfl rfl b158 ?_
                      refine SO.v rfl (opv_move rfl) ?_
                      exact SO.nilZ fun a w h1 h2 h3 h4 h5 => PZ.of h1 h3 h5 (.cons () (.cons () (.cons () (.nil ⟨EnvAll.of h2 ⟨rfl, rfl, rfl, trivial⟩, h4⟩))))
                    · rintro Fr _ _
                      refine SO.takeT rfl rfl rfl b158 ?_
                      refine SO.v rfl (opv_iface Try.underlying25 rfl rfl) ?_
                      exact SO.nilZ fun a w h1 h2 h3 h4 h5 => PZ.of h1 h3 h5 (.cons () (.cons () (.cons () (.nil ⟨EnvAll.of h2 ⟨rfl, rfl, rfl, trivial⟩, h4⟩))))
                    · rintro Fr _ _
                      refine SO.takeT rfl rfl rfl b158 ?_
                      refine SO.v rfl (opv_move rfl) ?_
                      exact SO.nilZ fun a w h1 h2 h3 h4 h5 => PZ.of h1 h3 h5 (.cons () (.cons () (.cons () (.nil ⟨EnvAll.of h2 ⟨rfl, rfl, rfl, trivial⟩, h4⟩))))
                    · rintro Fr _ _ _ _
                      refine SO.takeT rfl rfl rfl b158 ?_
                      refine SO.call (pre := [(plainV v20).rep _]) rfl Try.call34 rfl rfl rfl (tcb_Root.ct (plainV v20) _ _ _ _ _ ht161) trivial ?_
                      rintro _ _ ⟨rfl, rfl⟩
                      refine headEq (plainV_rep _ _) ?_
                      refine SO.rd fun hr163 => ?_
                      exact SO.nilZ fun a w h1 h2 h3 h4 h5 => PZ.of h1 h3 h5 (.cons () (.cons () (.cons () (.cons () (.cons () (.nil ⟨EnvAll.of h2 ⟨rfl, rfl, rfl, rfl, trivial⟩, h4⟩))))))
                    · rintro Fr _ _
                      refine SO.takeT rfl rfl rfl b158 ?_
                      refine SO.v rfl (opv_move rfl) ?_
                      exact SO.nilZ fun a w h1 h2 h3 h4 h5 => PZ.of h1 h3 h5 (.cons () (.cons () (.cons () (.nil ⟨EnvAll.of h2 ⟨rfl, rfl, rfl, trivial⟩, h4⟩))))
                    · rintro Fr _ _
                      refine SO.takeT rfl rfl rfl b158 ?_
                      refine SO.v rfl (opv_nilCheck rfl) ?_
                      exact SO.nilZ fun a w h1 h2 h3 h4 h5 => PZ.of h1 h3 h5 (.cons () (.cons () (.cons () (.nil ⟨EnvAll.of h2 ⟨rfl, rfl, rfl, trivial⟩, h4⟩))))
                    · rintro Fr _ _
                      refine SO.takeT rfl rfl rfl b158 ?_
                      refine SO.v rfl (opv_fieldAddr Try.underlying76 rfl Try.sizeOf74 rfl rfl) ?_
                      exact SO.nilZ fun a w h1 h2 h3 h4 h5 => PZ.of h1 h3 h5 (.cons () (.cons () (.cons () (.nil ⟨EnvAll.of h2 ⟨rfl, rfl, rfl, trivial⟩, h4⟩))))
                    · rintro Fr _ _ _
                      refine SO.takeT rfl rfl rfl b158 ?_
                      refine SO.load1 rfl Try.isAgg74 rfl rfl ?_
                      exact SO.nilZ fun a w h1 h2 h3 h4 h5 => PZ.of h1 h3 h5 (.cons () (.cons () (.cons () (.cons () (.nil ⟨EnvAll.of h2 ⟨rfl, rfl, rfl, trivial⟩, h4⟩)))))
                    · rintro Fr _ _
                      refine SO.takeT rfl rfl rfl b158 ?_
                      refine SO.v rfl (opv_move rfl) ?_
                      exact SO.nilZ fun a w h1 h2 h3 h4 h5 => PZ.of h1 h3 h5 (.cons () (.cons () (.cons () (.nil ⟨EnvAll.of h2 ⟨rfl, rfl, rfl, trivial⟩, h4⟩))))
                    · rintro Fr _ _ _ _
                      refine SO.takeT rfl rfl rfl b158 ?_
                      refine SO.v rfl (opv_idx Try.underlying74 Try.sizeOf72 hR139 rfl rfl hr167) ?_
                      exact SO.nilZ fun a w h1 h2 h3 h4 h5 => PZ.of h1 h3 h5 (.cons () (.cons () (.cons () (.cons () (.cons () (.nil ⟨EnvAll.of h2 ⟨rfl, rfl, rfl, rfl, trivial⟩, h4⟩))))))
                    · rintro Fr _ _ _
                      refine SO.takeT rfl rfl rfl b158 ?_
                      refine SO.v rfl (opv_fieldIdx Try.underlying72 rfl Try.sizeOf49 hR139 hr167 rfl rfl) ?_
                      exact SO.nilZ fun a w h1 h2 h3 h4 h5 => PZ.of h1 h3 h5 (.cons () (.cons () (.cons () (.cons () (.nil ⟨EnvAll.of h2 ⟨rfl, rfl, rfl, trivial⟩, h4⟩)))))
                    · rintro Fr _ _ _
                      refine SO.takeT rfl rfl rfl b158 ?_
                      refine SO.loadIP (j := 14) rfl Try.isAgg49 Try.sizeOf49 (Rd.head hR139) hr167 rfl rfl rfl (hc168.part (vs := [.int .i64 x164.Root.Kind, .int .i64 x164.Root.Rights, .int .i64 x164.Root.Obj, .int .i64 x164.Root.Badge, .int .i64 x164.Root.Guard, .int .i64 x164.Root.Bits]) rfl) ?_
                      exact SO.nilZ fun a w h1 h2 h3 h4 h5 => PZ.of h1 h3 h5 (.cons () (.cons () (.cons () (.cons () (.nil ⟨EnvAll.of h2 ⟨rfl, rfl, rfl, trivial⟩, h4⟩)))))
                    · rintro Fr _ _ _
                      refine SO.takeT rfl rfl rfl b158 ?_
                      refine SO.v rfl (eq_neq_api_Cap (x := t160) (y := x164.Root) rfl rfl) ?_
                      exact SO.nilZ fun a w h1 h2 h3 h4 h5 => PZ.of h1 h3 h5 (.cons () (.cons () (.cons () (.cons () (.nil ⟨EnvAll.of h2 ⟨rfl, rfl, rfl, rfl, trivial⟩, h4⟩)))))
                    · rintro Fr _ _
                      refine SO.v rfl (opv_pick_f' b158 rfl rfl) ?_
                      exact SO.nilZ fun a w h1 h2 h3 h4 h5 => PZ.of h1 h3 h5 (.cons () (.cons () (.cons () (.nil ⟨EnvAll.of h2 ⟨rfl, rfl, rfl, trivial⟩, h4⟩))))
                    rintro _ _ _ _ v147 _ _ _ _ _ _
                    refine S.to (ρ' := [(0, .int .i64 a0), (1, v1), (4, .bool false), (5, .bool t1), (8, .int .i64 x8_1), (6, bp b8 0), (7, v20), (203, .bool (!decide (t160 = x164.Root)))]) ⟨rfl, rfl, rfl, rfl, rfl, rfl, rfl, rfl, trivial⟩ ?_
                    refine S.rd fun hr169 => ?_
                    refine S.b4 ?_
                    refine S.rd fun hr170 => ?_
                    cases h
                    refine S.b1 ?_
                    refine S.drop ?_
                    refine S.b5 ?_
                    refine S.b5 ?_
                    refine S.b2 ?_
                    refine S.b5 ?_
                    refine S.b5 ?_
                    refine S.b5 ?_
                    refine S.to ?_ (hk4 () trivial)
                    exact ⟨rfl, rfl, rfl, rfl, rfl, rfl, rfl, rfl, trivial⟩
                · replace h := cond_f b157 h
                  obtain ⟨⟨t171, s173⟩, ht172, h⟩ := opt_bind h
                  obtain ⟨x175, hx176, h⟩ := opt_bind h
                  obtain ⟨r177, hr178, hc179⟩ := relR.at hrel138 hx176
                  refine S.draw' (Z := fun Q => ∀ (_ : Unit) (_ : Unit) (_ : Unit) (_ : Unit) (v147 : Value) (_ : Unit) (_ : Unit) (_ : Unit) (_ : Unit) (_ : Unit) (_ : Unit), Q [(0, .int .i64 a0), (1, v1), (4, .bool false), (5, .bool t1), (8, .int .i64 x8_1), (6, bp b8 0), (7, v20), (203, .bool (!decide (t171 = x175.Root))), (171, v147)] [Own 35 (ekI .u64) v147 t145, Box b8 [vy8_0_2, vy8_1_2, .int .i64 y8_2_2, .int .i64 y8_3_2], OwnO 81 kr_ref10_Slot vy8_0_2 raws132 A133 y8_0_2, OwnO 72 kr_ref10_Obj vy8_1_2 raws136 A137 y8_1_2, Own 35 (ekI .u64) v20 s173, Box b26 [.int .i64 x24.What, .int .i64 x24.T, .int .i64 x24.N, .int .i64 x24.C.Kind, .int .i64 x24.C.Rights, .int .i64 x24.C.Obj, .int .i64 x24.C.Badge, .int .i64 x24.C.Guard, .int .i64 x24.C.Bits], F]) (T := [tS 13 (errV 44 j13_2), tS 12 (.int .i64 j12_2), tS 7 (v20), tS 6 (bp b8 0), tS 16 (.bool t128), tS 17 (.int .i64 t140), tS 15 (.int .i64 t127), tS 11 (.int .i64 t29), tE [(0, .int .i64 a0), (1, v1), (4, .bool false), (5, .bool t1), (8, .int .i64 x8_1)], tR (Box b8 [vy8_0_2, vy8_1_2, .int .i64 y8_2_2, .int .i64 y8_3_2]), tR (OwnO 81 kr_ref10_Slot vy8_0_2 raws132 A133 y8_0_2), tR (OwnO 72 kr_ref10_Obj vy8_1_2 raws136 A137 y8_1_2), tR (Own 35 (ekI .u64) v20 s130), tR (Box b26 [.int .i64 x24.What, .int .i64 x24.T, .int .i64 x24.N, .int .i64 x24.C.Kind, .int .i64 x24.C.Rights, .int .i64 x24.C.Obj, .int .i64 x24.C.Badge, .int .i64 x24.C.Guard, .int .i64 x24.C.Bits]), tR (F), tS 164 (errV 44 j13_2), tS 165 (.int .i64 t142), tS 166 (.int .i64 j12_2), tS 167 (.bool (t142 != j12_2)), tS 168 (.bool (t142 != j12_2)), tS 169 (v20), tS 170 (bp b8 0), ⟨Value, [171], (fun v147 => [(171, v147)]), (fun v147 => [Own 35 (ekI .u64) v147 t145]), fun _ => rfl⟩, tS 172 (.bool t151), tS 173 (.bool (!t151)), tS 174 (.bool (!t151)), tS 175 (.bool (!t151)), tS 176 (.bool t128), tS 177 (.int .i64 t140), tS 178 (.bool (decide (0 ≤ t140))), tS 179 (.bool (t128 != (decide (0 ≤ t140)))), tS 180 (.bool (t128 != (decide (0 ≤ t140)))), tS 181 (.bool (t128 != (decide (0 ≤ t140)))), tS 182 (.bool t128), tS 183 (.bool t128), tS 184 (undef), tS 185 (undef), tS 186 (undef), tS 187 (.bool false), tS 188 (.bool false), tS 189 (.bool false), tS 190 (v20), tS 191 ((plainV v20).val), tS 192 (.int .i64 t29), tR (Own 35 (ekI .u64) v20 s173), tS 193 (.agg #[.int .i64 t171.Kind, .int .i64 t171.Rights, .int .i64 t171.Obj, .int .i64 t171.Badge, .int .i64 t171.Guard, .int .i64 t171.Bits]), tS 194 (bp b8 0), tS 195 (bp b8 0), tS 196 (bp b8 1), tS 197 (vy8_1_2), tS 198 (.int .i64 t29), tS 199 (idxp vy8_1_2 (t29.toNat * kr_ref10_Obj.sz)), tS 200 (idxp vy8_1_2 (t29.toNat * kr_ref10_Obj.sz + 14)), tS 201 (.agg #[.int .i64 x175.Root.Kind, .int .i64 x175.Root.Rights, .int .i64 x175.Root.Obj, .int .i64 x175.Root.Badge, .int .i64 x175.Root.Guard, .int .i64 x175.Root.Bits]), tS 202 (.bool (!decide (t171 = x175.Root))), tS 203 (.bool (!decide (t171 = x175.Root)))]) (D := [⟨[0], [], [15]⟩, ⟨[15], [], [16]⟩, ⟨[1], [], [17]⟩, ⟨[16, 17], [], [18]⟩, ⟨[18], [], [19]⟩, ⟨[2, 19], [], [20]⟩, ⟨[3, 19], [], [21]⟩, ⟨[19, 21, 9, 10, 11], [], [22]⟩, ⟨[19, 20, 22, 12], [], [23]⟩, ⟨[19, 23], [], [24]⟩, ⟨[19, 24], [], [25]⟩, ⟨[25], [], [26]⟩, ⟨[4, 26], [], [27]⟩, ⟨[5, 26], [], [28]⟩, ⟨[26, 28], [], [29]⟩, ⟨[26, 27, 29], [], [30]⟩, ⟨[26, 30], [], [31]⟩, ⟨[31], [], [32]⟩, ⟨[4, 32], [], [33]⟩, ⟨[32, 33], [], [34]⟩, ⟨[34], [], [35]⟩, ⟨[34], [], [36]⟩, ⟨[34], [], [37]⟩, ⟨[32, 34, 37], [], [38]⟩, ⟨[32, 38], [], [39]⟩, ⟨[39], [], [40]⟩, ⟨[2, 40], [], [41]⟩, ⟨[40, 41], [], [42]⟩, ⟨[7, 40], [], [43]⟩, ⟨[40, 42, 43], [12], [44, 45]⟩, ⟨[3, 40], [], [46]⟩, ⟨[40, 46], [], [47]⟩, ⟨[40, 47], [], [48]⟩, ⟨[40, 48, 9], [], [49]⟩, ⟨[7, 40], [], [50]⟩, ⟨[40, 49, 50, 11], [], [51]⟩, ⟨[40, 51, 11], [], [52]⟩, ⟨[40, 52, 11], [], [53]⟩, ⟨[40, 45, 53], [], [54]⟩, ⟨[40, 54], [], [55]⟩]) (ini := [0, 1, 2, 3, 4, 5, 6, 7, 8, 9, 10, 11, 12, 13, 14]) (fin := [8, 3, 2, 55, 22, 9, 10, 11, 44, 13, 14]) (bf := [[], [0], [], [0, 1, 2], [0, 1, 2, 3], [0, 1, 2, 3, 4], [0, 1, 2, 3, 4], [0, 1, 2, 3, 4, 6], [0, 1, 2, 3, 4, 5, 6, 7], [0, 1, 2, 3, 4, 5, 6, 7, 8], [0, 1, 2, 3, 4, 5, 6, 7, 8, 9], [0, 1, 2, 3, 4, 5, 6, 7, 8, 9, 10], [0, 1, 2, 3, 4, 5, 6, 7, 8, 9, 10, 11], [0, 1, 2, 3, 4, 5, 6, 7, 8, 9, 10, 11], [0, 1, 2, 3, 4, 5, 6, 7, 8, 9, 10, 11, 13], [0, 1, 2, 3, 4, 5, 6, 7, 8, 9, 10, 11, 12, 13, 14], [0, 1, 2, 3, 4, 5, 6, 7, 8, 9, 10, 11, 12, 13, 14, 15], [0, 1, 2, 3, 4, 5, 6, 7, 8, 9, 10, 11, 12, 13, 14, 15, 16], [0, 1, 2, 3, 4, 5, 6, 7, 8, 9, 10, 11, 12, 13, 14, 15, 16, 17], [0, 1, 2, 3, 4, 5, 6, 7, 8, 9, 10, 11, 12, 13, 14, 15, 16, 17, 18], [0, 1, 2, 3, 4, 5, 6, 7, 8, 9, 10, 11, 12, 13, 14, 15, 16, 17, 18, 19], [0, 1, 2, 3, 4, 5, 6, 7, 8, 9, 10, 11, 12, 13, 14, 15, 16, 17, 18, 19], [0, 1, 2, 3, 4, 5, 6, 7, 8, 9, 10, 11, 12, 13, 14, 15, 16, 17, 18, 19, 20, 21], [0, 1, 2, 3, 4, 5, 6, 7, 8, 9, 10, 11, 12, 13, 14, 15, 16, 17, 18, 19, 20, 21, 22], [0, 1, 2, 3, 4, 5, 6, 7, 8, 9, 10, 11, 12, 13, 14, 15, 16, 17, 18, 19, 20, 21, 22, 23], [0, 1, 2, 3, 4, 5, 6, 7, 8, 9, 10, 11, 12, 13, 14, 15, 16, 17, 18, 19, 20, 21, 22, 23, 24], [0, 1, 2, 3, 4, 5, 6, 7, 8, 9, 10, 11, 12, 13, 14, 15, 16, 17, 18, 19, 20, 21, 22, 23, 24, 25], [0, 1, 2, 3, 4, 5, 6, 7, 8, 9, 10, 11, 12, 13, 14, 15, 16, 17, 18, 19, 20, 21, 22, 23, 24, 25, 26], [0, 1, 2, 3, 4, 5, 6, 7, 8, 9, 10, 11, 12, 13, 14, 15, 16, 17, 18, 19, 20, 21, 22, 23, 24, 25], [0, 1, 2, 3, 4, 5, 6, 7, 8, 9, 10, 11, 12, 13, 14, 15, 16, 17, 18, 19, 20, 21, 22, 23, 24, 25, 26, 27, 28], [0, 1, 2, 3, 4, 5, 6, 7, 8, 9, 10, 11, 12, 13, 14, 15, 16, 17, 18, 19, 20, 21, 22, 23, 24, 25], [0, 1, 2, 3, 4, 5, 6, 7, 8, 9, 10, 11, 12, 13, 14, 15, 16, 17, 18, 19, 20, 21, 22, 23, 24, 25, 30], [0, 1, 2, 3, 4, 5, 6, 7, 8, 9, 10, 11, 12, 13, 14, 15, 16, 17, 18, 19, 20, 21, 22, 23, 24, 25, 30, 31], [0, 1, 2, 3, 4, 5, 6, 7, 8, 9, 10, 11, 12, 13, 14, 15, 16, 17, 18, 19, 20, 21, 22, 23, 24, 25, 30, 31, 32], [0, 1, 2, 3, 4, 5, 6, 7, 8, 9, 10, 11, 12, 13, 14, 15, 16, 17, 18, 19, 20, 21, 22, 23, 24, 25], [0, 1, 2, 3, 4, 5, 6, 7, 8, 9, 10, 11, 12, 13, 14, 15, 16, 17, 18, 19, 20, 21, 22, 23, 24, 25, 30, 31, 32, 33, 34], [0, 1, 2, 3, 4, 5, 6, 7, 8, 9, 10, 11, 12, 13, 14, 15, 16, 17, 18, 19, 20, 21, 22, 23, 24, 25, 30, 31, 32, 33, 34, 35], [0, 1, 2, 3, 4, 5, 6, 7, 8, 9, 10, 11, 12, 13, 14, 15, 16, 17, 18, 19, 20, 21, 22, 23, 24, 25, 30, 31, 32, 33, 34, 35, 36], [0, 1, 2, 3, 4, 5, 6, 7, 8, 9, 10, 11, 12, 13, 14, 15, 16, 17, 18, 19, 20, 21, 22, 23, 24, 25, 26, 27, 28, 29, 30, 31, 32, 33, 34, 35, 36, 37], [0, 1, 2, 3, 4, 5, 6, 7, 8, 9, 10, 11, 12, 13, 14, 15, 16, 17, 18, 19, 20, 21, 22, 23, 24, 25, 26, 27, 28, 29, 30, 31, 32, 33, 34, 35, 36, 37, 38]]) (by kernel_rfl) (by kernel_rfl) (fun x w h1 h2 => (.cons () (.cons () (.cons () (.cons () (.cons () (.cons () (.cons () (.cons () (.cons () (.cons () (.cons () (.cons () (.cons () (.cons () (.cons () (.nil ⟨EnvAll.of h1 ⟨rfl, rfl, rfl, rfl, rfl, rfl, rfl, rfl, rfl, rfl, rfl, rfl, rfl, trivial⟩, h2⟩))))))))))))))))) (fun Q => by kernel_rfl) ⟨?_, ?_, ?_, ?_, ?_, ?_, ?_, ?_, ?_, ?_, ?_, ?_, ?_, ?_, ?_, ?_, ?_, ?_, ?_, ?_, ?_, ?_, ?_, ?_, ?_, ?_, ?_, ?_, ?_, ?_, ?_, ?_, ?_, ?_, ?_, ?_, ?_, ?_, ?_, ?_, trivial⟩ ?_
                  · rintro Fr _
                    refine SO.v rfl (opv_move rfl) ?_
                    exact SO.nilZ fun a w h1 h2 h3 h4 h5 => PZ.of h1 h3 h5 (.cons () (.cons () (.nil ⟨EnvAll.of h2 ⟨rfl, rfl, trivial⟩, h4⟩)))
                  · rintro Fr _
                    refine SO.call (pre := []) rfl Try.call32 rfl rfl rfl (law00_Code.ct _ _ _ ht143) trivial ?_
                    rintro _ _ ⟨rfl, rfl⟩
                    exact SO.nilZ fun a w h1 h2 h3 h4 h5 => PZ.of h1 h3 h5 (.cons () (.cons () (.nil ⟨EnvAll.of h2 ⟨rfl, rfl, trivial⟩, h4⟩)))
                  · rintro Fr _
                    refine SO.v rfl (opv_move rfl) ?_
                    exact SO.nilZ fun a w h1 h2 h3 h4 h5 => PZ.of h1 h3 h5 (.cons () (.cons () (.nil ⟨EnvAll.of h2 ⟨rfl, rfl, trivial⟩, h4⟩)))
                  · rintro Fr _ _
                    refine SO.v rfl (opv_neq rfl rfl) ?_
                    exact SO.nilZ fun a w h1 h2 h3 h4 h5 => PZ.of h1 h3 h5 (.cons () (.cons () (.cons () (.nil ⟨EnvAll.of h2 ⟨rfl, rfl, rfl, trivial⟩, h4⟩))))
                  · rintro Fr _
                    refine SO.v rfl (opv_move rfl) ?_
                    exact SO.nilZ fun a w h1 h2 h3 h4 h5 => PZ.of h1 h3 h5 (.cons () (.cons () (.nil ⟨EnvAll.of h2 ⟨rfl, rfl, trivial⟩, h4⟩)))
                  · rintro Fr _ _
                    refine SO.takeT rfl rfl rfl b144 ?_
                    refine SO.v rfl (opv_move rfl) ?_
                    exact SO.nilZ fun a w h1 h2 h3 h4 h5 => PZ.of h1 h3 h5 (.cons () (.cons () (.cons () (.nil ⟨EnvAll.of h2 ⟨rfl, rfl, rfl, trivial⟩, h4⟩))))
                  · rintro Fr _ _
                    refine SO.takeT rfl rfl rfl b144 ?_
                    refine SO.v rfl (opv_move rfl) ?_
                    exact SO.nilZ fun a w h1 h2 h3 h4 h5 => PZ.of h1 h3 h5 (.cons () (.cons () (.cons () (.nil ⟨EnvAll.of h2 ⟨rfl, rfl, rfl, trivial⟩, h4⟩))))
                  · rintro Fr _ _ _ _ _
                    refine SO.takeT rfl rfl rfl b144 ?_
                    refine SO.b2 ?_
                    refine SO.b2 ?_
                    refine SO.b2 ?_
                    have ct149 := ref10_State_Words.ct _ b8 vy8_0_2 vy8_1_2 raws132 A133 raws136 A137 _ _ ht146
                    dsimp only at ct149
                    refine SO.call (pre := [Box _ _, OwnO _ _ _ _ _ _, OwnO _ _ _ _ _ _]) rfl Try.call8 rfl rfl rfl ct149 trivial ?_
                    rintro v147 _ ⟨_, rfl, rfl⟩
                    refine SO.rd fun hr148 => ?_
                    refine SO.b3 ?_
                    refine SO.b3 ?_
                    refine SO.b3 ?_
                    exact SO.nilZ fun a w h1 h2 h3 h4 h5 => PZ.of h1 h3 h5 (.cons () (.cons () (.cons () (.cons () (.cons () (.cons v147 (.nil ⟨EnvAll.of h2 ⟨rfl, rfl, rfl, trivial⟩, h4⟩)))))))
                  · rintro Fr _ _ v147 _
                    refine SO.rd fun hr150 => ?_
                    refine SO.takeT rfl rfl rfl b144 ?_
                    refine SO.call (pre := []) rfl Try.call33 rfl rfl rfl (ref10_Same.ct _ v20 v147 _ _ _ ht152) ⟨(Rd.tail (Rd.head hr131)), (Rd.head hr150)⟩ ?_
                    rintro _ _ ⟨rfl, rfl⟩
                    refine SO.b1 ?_
                    refine SO.b1 ?_
                    exact SO.nilZ fun a w h1 h2 h3 h4 h5 => PZ.of h1 h3 h5 (.cons () (.cons () (.cons v147 (.cons () (.cons () (.nil ⟨EnvAll.of h2 ⟨rfl, rfl, rfl, rfl, trivial⟩, h4⟩))))))
                  · rintro Fr _ _
                    refine SO.takeT rfl rfl rfl b144 ?_
                    refine SO.v rfl (opv_not rfl) ?_
                    exact SO.nilZ fun a w h1 h2 h3 h4 h5 => PZ.of h1 h3 h5 (.cons () (.cons () (.cons () (.nil ⟨EnvAll.of h2 ⟨rfl, rfl, rfl, trivial⟩, h4⟩))))
                  · rintro Fr _ _
                    refine SO.v rfl (opv_pick_f' b144 rfl rfl) ?_
                    exact SO.nilZ fun a w h1 h2 h3 h4 h5 => PZ.of h1 h3 h5 (.cons () (.cons () (.cons () (.nil ⟨EnvAll.of h2 ⟨rfl, rfl, rfl, trivial⟩, h4⟩))))
                  · rintro Fr _
                    refine SO.v rfl (opv_move rfl) ?_
                    exact SO.nilZ fun a w h1 h2 h3 h4 h5 => PZ.of h1 h3 h5 (.cons () (.cons () (.nil ⟨EnvAll.of h2 ⟨rfl, rfl, trivial⟩, h4⟩)))
                  · rintro Fr _ _
                    refine SO.takeT rfl rfl rfl b153 ?_
                    refine SO.v rfl (opv_move rfl) ?_
                    exact SO.nilZ fun a w h1 h2 h3 h4 h5 => PZ.of h1 h3 h5 (.cons () (.cons () (.cons () (.nil ⟨EnvAll.of h2 ⟨rfl, rfl, rfl, trivial⟩, h4⟩))))
                  · rintro Fr _ _
                    refine SO.takeT rfl rfl rfl b153 ?_
                    refine SO.v rfl (opv_move rfl) ?_
                    exact SO.nilZ fun a w h1 h2 h3 h4 h5 => PZ.of h1 h3 h5 (.cons () (.cons () (.cons () (.nil ⟨EnvAll.of h2 ⟨rfl, rfl, rfl, trivial⟩, h4⟩))))
                  · rintro Fr _ _
                    refine SO.takeT rfl rfl rfl b153 ?_
                    refine SO.v rfl (opv_geq rfl rfl) ?_
                    exact SO.nilZ fun a w h1 h2 h3 h4 h5 => PZ.of h1 h3 h5 (.cons () (.cons () (.cons () (.nil ⟨EnvAll.of h2 ⟨rfl, rfl, rfl, trivial⟩, h4⟩))))
                  · rintro Fr _ _ _
                    refine SO.takeT rfl rfl rfl b153 ?_
                    refine SO.v rfl (opv_neqB Try.underlying4 rfl rfl) ?_
                    exact SO.nilZ fun a w h1 h2 h3 h4 h5 => PZ.of h1 h3 h5 (.cons () (.cons () (.cons () (.cons () (.nil ⟨EnvAll.of h2 ⟨rfl, rfl, rfl, rfl, trivial⟩, h4⟩)))))
                  · rintro Fr _ _
                    refine SO.v rfl (opv_pick_f' b153 rfl rfl) ?_
                    exact SO.nilZ fun a w h1 h2 h3 h4 h5 => PZ.of h1 h3 h5 (.cons () (.cons () (.cons () (.nil ⟨EnvAll.of h2 ⟨rfl, rfl, rfl, trivial⟩, h4⟩))))
                  · rintro Fr _
                    refine SO.v rfl (opv_move rfl) ?_
                    exact SO.nilZ fun a w h1 h2 h3 h4 h5 => PZ.of h1 h3 h5 (.cons () (.cons () (.nil ⟨EnvAll.of h2 ⟨rfl, rfl, trivial⟩, h4⟩)))
                  · rintro Fr _ _
                    refine SO.takeT rfl rfl rfl b155 ?_
                    refine SO.v rfl (opv_move rfl) ?_
                    exact SO.nilZ fun a w h1 h2 h3 h4 h5 => PZ.of h1 h3 h5 (.cons () (.cons () (.cons () (.nil ⟨EnvAll.of h2 ⟨rfl, rfl, rfl, trivial⟩, h4⟩))))
                  · rintro Fr _ _
                    refine SO.takeT rfl rfl rfl b155 ?_
                    refine SO.v rfl (opv_move rfl) ?_
                    exact SO.nilZ fun a w h1 h2 h3 h4 h5 => PZ.of h1 h3 h5 (.cons () (.cons () (.cons () (.nil ⟨EnvAll.of h2 ⟨rfl, rfl, rfl, trivial⟩, h4⟩))))
                  · rintro Fr _
                    refine SO.passF rfl rfl rfl b157 rfl rfl ?_
                    exact SO.nilZ fun a w h1 h2 h3 h4 h5 => PZ.of h1 h3 h5 (.cons () (.cons () (.nil ⟨EnvAll.of h2 ⟨rfl, rfl, trivial⟩, h4⟩)))
                  · rintro Fr _
                    refine SO.passF rfl rfl rfl b157 rfl rfl ?_
                    exact SO.nilZ fun a w h1 h2 h3 h4 h5 => PZ.of h1 h3 h5 (.cons () (.cons () (.nil ⟨EnvAll.of h2 ⟨rfl, rfl, trivial⟩, h4⟩)))
                  · rintro Fr _
                    refine SO.passF rfl rfl rfl b157 rfl rfl ?_
                    exact SO.nilZ fun a w h1 h2 h3 h4 h5 => PZ.of h1 h3 h5 (.cons () (.cons () (.nil ⟨EnvAll.of h2 ⟨rfl, rfl, trivial⟩, h4⟩)))
                  · rintro Fr _ _ _
                    refine SO.takeT rfl rfl rfl b155 ?_
                    refine SO.v rfl (opv_pick_f' b157 rfl rfl) ?_
                    exact SO.nilZ fun a w h1 h2 h3 h4 h5 => PZ.of h1 h3 h5 (.cons () (.cons () (.cons () (.cons () (.nil ⟨EnvAll.of h2 ⟨rfl, rfl, rfl, rfl, trivial⟩, h4⟩)))))
                  · rintro Fr _ _
                    refine SO.v rfl (opv_pick_f' b155 rfl rfl) ?_
                    exact SO.nilZ fun a w h1 h2 h3 h4 h5 => PZ.of h1 h3 h5 (.cons () (.cons () (.cons () (.nil ⟨EnvAll.of h2 ⟨rfl, rfl, rfl, trivial⟩, h4⟩))))
                  · rintro Fr _
                    refine SO.v rfl (opv_move rfl) ?_
                    exact SO.nilZ fun a w h1 h2 h3 h4 h5 => PZ.of h1 h3 h5 (.cons () (.cons () (.nil ⟨EnvAll.of h2 ⟨rfl, rfl, trivial⟩, h4⟩)))
                  · rintro Fr _ _
                    refine SO.takeT rfl rfl rfl rfl ?_
                    refine SO.v rfl (opv_move rfl) ?_
                    exact SO.nilZ fun a w h1 h2 h3 h4 h5 => PZ.of h1 h3 h5 (.cons () (.cons () (.cons () (.nil ⟨EnvAll.of h2 ⟨rfl, rfl, rfl, trivial⟩, h4⟩))))
                  · rintro Fr _ _
                    refine SO.takeT rfl rfl rfl rfl ?_
                    refine SO.v rfl (opv_iface Try.underlying25 rfl rfl) ?_
                    exact SO.nilZ fun a w h1 h2 h3 h4 h5 => PZ.of h1 h3 h5 (.cons () (.cons () (.cons () (.nil ⟨EnvAll.of h2 ⟨rfl, rfl, rfl, trivial⟩, h4⟩))))
                  · rintro Fr _ _
                    refine SO.takeT rfl rfl rfl rfl ?_
                    refine SO.v rfl (opv_move rfl) ?_
                    exact SO.nilZ fun a w h1 h2 h3 h4 h5 => PZ.of h1 h3 h5 (.cons () (.cons () (.cons () (.nil ⟨EnvAll.of h2 ⟨rfl, rfl, rfl, trivial⟩, h4⟩))))
                  · rintro Fr _ _ _ _
                    refine SO.takeT rfl rfl rfl rfl ?_
                    refine SO.call (pre := [(plainV v20).rep _]) rfl Try.call34 rfl rfl rfl (tcb_Root.ct (plainV v20) _ _ _ _ _ ht172) trivial ?_
                    rintro _ _ ⟨rfl, rfl⟩
                    refine headEq (plainV_rep _ _) ?_
                    refine SO.rd fun hr174 => ?_
                    exact SO.nilZ fun a w h1 h2 h3 h4 h5 => PZ.of h1 h3 h5 (.cons () (.cons () (.cons () (.cons () (.cons () (.nil ⟨EnvAll.of h2 ⟨rfl, rfl, rfl, rfl, trivial⟩, h4⟩))))))
                  · rintro Fr _ _
                    refine SO.takeT rfl rfl rfl rfl ?_
                    refine SO.v rfl (opv_move rfl) ?_
                    exact SO.nilZ fun a w h1 h2 h3 h4 h5 => PZ.of h1 h3 h5 (.cons () (.cons () (.cons () (.nil ⟨EnvAll.of h2 ⟨rfl, rfl, rfl, trivial⟩, h4⟩))))
                  · rintro Fr _ _
                    refine SO.takeT rfl rfl rfl rfl ?_
                    refine SO.v rfl (opv_nilCheck rfl) ?_
                    exact SO.nilZ fun a w h1 h2 h3 h4 h5 => PZ.of h1 h3 h5 (.cons () (.cons () (.cons () (.nil ⟨EnvAll.of h2 ⟨rfl, rfl, rfl, trivial⟩, h4⟩))))
                  · rintro Fr _ _
                    refine SO.takeT rfl rfl rfl rfl ?_
                    refine SO.v rfl (opv_fieldAddr Try.underlying76 rfl Try.sizeOf74 rfl rfl) ?_
                    exact SO.nilZ fun a w h1 h2 h3 h4 h5 => PZ.of h1 h3 h5 (.cons () (.cons () (.cons () (.nil ⟨EnvAll.of h2 ⟨rfl, rfl, rfl, trivial⟩, h4⟩))))
                  · rintro Fr _ _ _
                    refine SO.takeT rfl rfl rfl rfl ?_
                    refine SO.load1 rfl Try.isAgg74 rfl rfl ?_
                    exact SO.nilZ fun a w h1 h2 h3 h4 h5 => PZ.of h1 h3 h5 (.cons () (.cons () (.cons () (.cons () (.nil ⟨EnvAll.of h2 ⟨rfl, rfl, rfl, trivial⟩, h4⟩)))))
                  · rintro Fr _ _
                    refine SO.takeT rfl rfl rfl rfl ?_
                    refine SO.v rfl (opv_move rfl) ?_
                    exact SO.nilZ fun a w h1 h2 h3 h4 h5 => PZ.of h1 h3 h5 (.cons () (.cons () (.cons () (.nil ⟨EnvAll.of h2 ⟨rfl, rfl, rfl, trivial⟩, h4⟩))))
                  · rintro Fr _ _ _ _
                    refine SO.takeT rfl rfl rfl rfl ?_
                    refine SO.v rfl (opv_idx Try.underlying74 Try.sizeOf72 hR139 rfl rfl hr178) ?_
                    exact SO.nilZ fun a w h1 h2 h3 h4 h5 => PZ.of h1 h3 h5 (.cons () (.cons () (.cons () (.cons () (.cons () (.nil ⟨EnvAll.of h2 ⟨rfl, rfl, rfl, rfl, trivial⟩, h4⟩))))))
                  · rintro Fr _ _ _
                    refine SO.takeT rfl rfl rfl rfl ?_
                    refine SO.v rfl (opv_fieldIdx Try.underlying72 rfl Try.sizeOf49 hR139 hr178 rfl rfl) ?_
                    exact SO.nilZ fun a w h1 h2 h3 h4 h5 => PZ.of h1 h3 h5 (.cons () (.cons () (.cons () (.cons () (.nil ⟨EnvAll.of h2 ⟨rfl, rfl, rfl, trivial⟩, h4⟩)))))
                  · rintro Fr _ _ _
                    refine SO.takeT rfl rfl rfl rfl ?_
                    refine SO.loadIP (j := 14) rfl Try.isAgg49 Try.sizeOf49 (Rd.head hR139) hr178 rfl rfl rfl (hc179.part (vs := [.int .i64 x175.Root.Kind, .int .i64 x175.Root.Rights, .int .i64 x175.Root.Obj, .int .i64 x175.Root.Badge, .int .i64 x175.Root.Guard, .int .i64 x175.Root.Bits]) rfl) ?_
                    exact SO.nilZ fun a w h1 h2 h3 h4 h5 => PZ.of h1 h3 h5 (.cons () (.cons () (.cons () (.cons () (.nil ⟨EnvAll.of h2 ⟨rfl, rfl, rfl, trivial⟩, h4⟩)))))
                  · rintro Fr _ _ _
                    refine SO.takeT rfl rfl rfl rfl ?_
                    refine SO.v rfl (eq_neq_api_Cap (x := t171) (y := x175.Root) rfl rfl) ?_
                    exact SO.nilZ fun a w h1 h2 h3 h4 h5 => PZ.of h1 h3 h5 (.cons () (.cons () (.cons () (.cons () (.nil ⟨EnvAll.of h2 ⟨rfl, rfl, rfl, rfl, trivial⟩, h4⟩)))))
                  · rintro Fr _ _
                    refine SO.v rfl (opv_pick_ff rfl rfl) ?_
                    exact SO.nilZ fun a w h1 h2 h3 h4 h5 => PZ.of h1 h3 h5 (.cons () (.cons () (.cons () (.nil ⟨EnvAll.of h2 ⟨rfl, rfl, rfl, trivial⟩, h4⟩))))
                  rintro _ _ _ _ v147 _ _ _ _ _ _
                  refine S.to (ρ' := [(0, .int .i64 a0), (1, v1), (4, .bool false), (5, .bool t1), (8, .int .i64 x8_1), (6, bp b8 0), (7, v20), (203, .bool (!decide (t171 = x175.Root)))]) ⟨rfl, rfl, rfl, rfl, rfl, rfl, rfl, rfl, trivial⟩ ?_
                  refine S.rd fun hr180 => ?_
                  refine S.b4 ?_
                  refine S.rd fun hr181 => ?_
                  cases h
                  refine S.b1 ?_
                  refine S.drop ?_
                  refine S.b5 ?_
                  refine S.b5 ?_
                  refine S.b2 ?_
                  refine S.b5 ?_
                  refine S.b5 ?_
                  refine S.b5 ?_
                  refine S.to ?_ (hk4 () trivial)
                  exact ⟨rfl, rfl, rfl, rfl, rfl, rfl, rfl, rfl, trivial⟩
        rintro _ -
        replace h := hJ4
        refine S.b3 ?_
        refine S.rd fun hr182 => ?_
        rcases bool_or j203_4 with b183 | b183
        · replace h := cond_t b183 h
          refine S.condT rfl b183 ?_
          refine S.seq ?_
          refine S.region ?_
          refine SO.v rfl (opv_assign rfl) ?_
          refine SO.nil ?_
          refine S.to (ρ' := [(4, .bool false)]) ⟨rfl, trivial⟩ ?_
          cases h
          replace h := hK1.1 _ rfl
          cases h
          refine S.b2 ?_
          refine S.closeR ?_
          refine S.b3 ?_
          refine S.closeR ?_
          refine S.drop ?_
          refine S.drop ?_
          refine S.drop ?_
          refine S.drop ?_
          refine S.drop ?_
          exact S.ret1 Try.func5 rfl rfl (fun w hs hk => hR w _ _ ⟨rfl, rfl⟩ hs hk)
        · replace h := cond_f b183 h
          refine S.condF rfl b183 ?_
          refine S.skip ?_
          refine S.inBlock ?_
          refine S.region ?_
          refine SO.v rfl (opv_move rfl) ?_
          refine SO.v rfl (opv_add rfl rfl) ?_
          refine SO.v rfl (opv_assign rfl) ?_
          refine SO.nil ?_
          refine S.b2 ?_
          refine S.closeR ?_
          refine S.b3 ?_
          refine S.closeR ?_
          refine S.b4 ?_
          refine S.drop ?_
          refine S.b4 ?_
          refine S.b4 ?_
          refine S.b4 ?_
          refine S.b4 ?_
          refine S.b4 ?_
          refine S.to ?_ (ih1 ((w64 (x8_1 + 1), y8_0_2, y8_1_2, y8_2_2, y8_3_2, qv20_4), (vy8_0_2, vy8_1_2)) h)
          exact ⟨rfl, rfl, rfl, rfl, rfl, rfl, rfl, trivial⟩
      · replace h := cond_f b23 h
        refine S.condF rfl b23 ?_
        refine S.exit rfl ?_
        cases h
        refine S.b4 ?_
        refine S.b4 ?_
        refine S.b2 ?_
        refine S.b4 ?_
        refine S.b4 ?_
        refine S.to ?_ (hK1.2 (y8_0_1, y8_1_1, y8_2_1, y8_3_1, qv20_1) (vy8_0_1, vy8_1_1) rfl)
        exact ⟨rfl, rfl, rfl, trivial⟩
    refine ⟨fun r' e' => ?_, ?_⟩
    · subst e'
      have h9 := Brk.of_ret h
      exact h9
    rintro ⟨y8_0_e1, y8_1_e1, y8_2_e1, y8_3_e1, qv20_e1⟩ ⟨vy8_0_e1, vy8_1_e1⟩ e'
    subst e'
    replace h := Brk.of_nx h
    refine S.b2 ?_
    refine S.rd fun hr185 => ?_
    refine S.seq ?_
    refine S.region ?_
    refine SO.v rfl (opv_move rfl) ?_
    refine SO.v rfl (opv_move rfl) ?_
    obtain ⟨⟨c187, w189⟩, hc188, hgk⟩ := opt_bind h
    refine SO.cut 6 211 (.bool c187) [Own 35 (ekI .u64) v20 w189, OwnR 72 kr_ref10_Obj vy8_1_e1 y8_1_e1, OwnR 81 kr_ref10_Slot vy8_0_e1 y8_0_e1, Box b8 [vy8_0_e1, vy8_1_e1, .int .i64 y8_2_e1, .int .i64 y8_3_e1], F] (fun l2 hk2 => ?_) ?_
    · clear hgk
      replace h := hc188
      rcases bool_or t1 with b186 | b186
      · replace h := cond_t b186 h
        refine SO.takeT rfl rfl rfl b186 ?_
        refine SO.v rfl (opv_move rfl) ?_
        refine SO.takeT rfl rfl rfl b186 ?_
        refine SO.v rfl (opv_iface Try.underlying25 rfl rfl) ?_
        refine SO.takeT rfl rfl rfl b186 ?_
        obtain ⟨⟨t191, s193⟩, ht192, h⟩ := opt_bind h
        refine SO.call (pre := [(plainV v20).rep _]) rfl Try.call34 rfl rfl rfl (tcb_Root.ct (plainV v20) _ _ _ _ _ ht192) trivial ?_
        rintro _ _ ⟨rfl, rfl⟩
        refine headEq (plainV_rep _ _) ?_
        refine SO.rd fun hr194 => ?_
        refine SO.takeT rfl rfl rfl b186 ?_
        refine SO.v rfl (opv_build (v := .agg #[.int .i64 0, .int .i64 0, .int .i64 0, .int .i64 0, .int .i64 0, .int .i64 0]) rfl (by intro w; kernel_rfl)) ?_
        refine SO.takeT rfl rfl rfl b186 ?_
        refine SO.v rfl (eq_eql_api_Cap (x := t191) (y := (⟨0, 0, 0, 0, 0, 0⟩ : api_Cap)) rfl rfl) ?_
        cases h
        refine SO.v rfl (opv_pick_t' b186 rfl rfl) ?_
        refine SO.b4 ?_
        refine SO.b4 ?_
        refine SO.b4 ?_
        refine SO.b4 ?_
        refine SO.b4 ?_
        exact hk2.fitc (m := 6) rfl (rfl) rfl
      · replace h := cond_f b186 h
        refine SO.passF rfl rfl rfl b186 rfl rfl ?_
        refine SO.passF rfl rfl rfl b186 rfl rfl ?_
        refine SO.passF rfl rfl rfl b186 rfl rfl ?_
        refine SO.passF rfl rfl rfl b186 rfl rfl ?_
        refine SO.passF rfl rfl rfl b186 rfl rfl ?_
        cases h
        refine SO.v rfl (opv_pick_f' b186 rfl rfl) ?_
        refine SO.b4 ?_
        refine SO.b4 ?_
        refine SO.b4 ?_
        refine SO.b4 ?_
        refine SO.b4 ?_
        exact hk2.fitc (m := 6) rfl (rfl) rfl
    clear hc188
    replace h := hgk
    refine SO.rd fun hr190 => ?_
    refine SO.v rfl (opv_assign rfl) ?_
    refine SO.nil ?_
    cases h
    refine S.drop ?_
    refine S.drop ?_
    refine S.drop ?_
    refine S.drop ?_
    exact S.ret1 Try.func5 rfl rfl (fun w hs hk => hR w _ _ ⟨rfl, rfl⟩ hs hk)
end Go.Proofs
namespace Go.Proofs
open Go.Sl Go.RowKit
/-! 13 padstone/endp.Answer -/
def endp_Answer.f (a1 : Int) (a2 : Int) : VM ((Option Int)) :=
  (VM.opt (endp_there.f a1)).bind fun t1 => bif !t1 then (VM.ret (some 2)) else ((lay_Ref.f a1 6).bind fun (t4, t5) => bif !t5 then (VM.ret (some 10)) else ((lay_Put.f a1 6 0).bind fun _ => (lay_Put.f t4 2 0).bind fun _ => (endp_Wake.f t4 a2 0).bind fun _ => VM.ret none))
set_option maxHeartbeats 8000000 in
set_option maxRecDepth 100000 in
theorem endp_Answer.ct (V : VW Try.prog) (a1 : Int) (a2 : Int) (r0 : Option Int) (s s' : V.S) (h : VM.run V.toVI (endp_Answer.f a1 a2) s = some (r0, s')) :
    Ct Try.prog 13 [V.val, .int .i64 a1, .int .i64 a2] (fun _ => True) [V.rep s] (fun u H' => u = errV 44 r0 ∧ H' = [V.rep s']) := by
  unfold endp_Answer.f at h
  refine Ct.intro (n := 32) Try.func13 rfl rfl rfl ?_
  intro R w0 F hF hR
  refine S.seq ?_
  refine S.region ?_
  refine SO.v rfl (opv_assign rfl) ?_
  refine SO.nil ?_
  refine S.seq ?_
  refine S.seq ?_
  refine S.region ?_
  refine SO.v rfl (opv_move rfl) ?_
  obtain ⟨t1, ht2, h⟩ := VM.opt_some V.toVI h
  refine SO.call (pre := []) rfl Try.call39 rfl rfl rfl (endp_there.ct _ _ ht2) trivial ?_
  rintro _ _ ⟨rfl, rfl⟩
  refine SO.v rfl (opv_not rfl) ?_
  refine SO.nil ?_
  rcases bool_or (!t1) with b3 | b3
  · replace h := VM.cond_t V.toVI b3 h
    refine S.condT rfl b3 ?_
    refine S.seq ?_
    refine S.region ?_
    refine SO.v rfl (opv_iface Try.underlying44 rfl rfl) ?_
    refine SO.v rfl (opv_assign rfl) ?_
    refine SO.nil ?_
    refine S.to (ρ' := [(6, errV 44 (some 2))]) ⟨rfl, trivial⟩ ?_
    obtain ⟨hq, rfl⟩ := VM.ret_some V.toVI h
    cases hq
    refine S.b1 ?_
    refine S.b1 ?_
    exact S.ret1 Try.func13 rfl rfl (fun w hs hk => hR w _ _ ⟨rfl, rfl⟩ hs hk)
  · replace h := VM.cond_f V.toVI b3 h
    refine S.condF rfl b3 ?_
    refine S.skip ?_
    refine S.seq ?_
    refine S.region ?_
    refine SO.v rfl (opv_move rfl) ?_
    refine SO.v rfl (opv_move rfl) ?_
    obtain ⟨⟨t4, t5⟩, s7, ht6, h⟩ := VM.bind_some V.toVI h
    refine SO.call (pre := [V.rep _]) rfl Try.call46 rfl rfl rfl (lay_Ref.ct V _ _ _ _ _ _ ht6) trivial ?_
    rintro _ _ ⟨rfl, rfl⟩
    refine SO.v rfl (opv_move rfl) ?_
    refine SO.v rfl (opv_extract rfl rfl) ?_
    refine SO.v rfl (opv_extract rfl rfl) ?_
    refine SO.v rfl (opv_assign rfl) ?_
    refine SO.v rfl (opv_assign rfl) ?_
    refine SO.nil ?_
    refine S.to (ρ' := [(0, V.val), (1, .int .i64 a1), (2, .int .i64 a2), (6, errV 44 none), (7, .int .i64 t4), (8, .bool t5)]) ⟨rfl, rfl, rfl, rfl, rfl, rfl, trivial⟩ ?_
    refine S.seq ?_
    refine S.seq ?_
    refine S.region ?_
    refine SO.v rfl (opv_move rfl) ?_
    refine SO.v rfl (opv_not rfl) ?_
    refine SO.nil ?_
    rcases bool_or (!t5) with b8 | b8
    · replace h := VM.cond_t V.toVI b8 h
      refine S.condT rfl b8 ?_
      refine S.seq ?_
      refine S.region ?_
      refine SO.v rfl (opv_iface Try.underlying44 rfl rfl) ?_
      refine SO.v rfl (opv_assign rfl) ?_
      refine SO.nil ?_
      refine S.to (ρ' := [(6, errV 44 (some 10))]) ⟨rfl, trivial⟩ ?_
      obtain ⟨hq, rfl⟩ := VM.ret_some V.toVI h
      cases hq
      refine S.b1 ?_
      refine S.b1 ?_
      exact S.ret1 Try.func13 rfl rfl (fun w hs hk => hR w _ _ ⟨rfl, rfl⟩ hs hk)
    · replace h := VM.cond_f V.toVI b8 h
      refine S.condF rfl b8 ?_
      refine S.skip ?_
      refine S.seq ?_
      refine S.region ?_
      refine SO.v rfl (opv_move rfl) ?_
      refine SO.v rfl (opv_move rfl) ?_
      obtain ⟨_, s10, ht9, h⟩ := VM.bind_some V.toVI h
      refine SO.call (pre := [V.rep _]) rfl Try.call45 rfl rfl rfl (lay_Put.ct V _ _ _ _ _ ht9) trivial ?_
      rintro _ _ ⟨rfl, rfl⟩
      refine SO.nil ?_
      refine S.to (ρ' := [(0, V.val), (2, .int .i64 a2), (6, errV 44 none), (7, .int .i64 t4)]) ⟨rfl, rfl, rfl, rfl, trivial⟩ ?_
      refine S.seq ?_
      refine S.region ?_
      refine SO.v rfl (opv_move rfl) ?_
      refine SO.v rfl (opv_move rfl) ?_
      obtain ⟨_, s12, ht11, h⟩ := VM.bind_some V.toVI h
      refine SO.call (pre := [V.rep _]) rfl Try.call45 rfl rfl rfl (lay_Put.ct V _ _ _ _ _ ht11) trivial ?_
      rintro _ _ ⟨rfl, rfl⟩
      refine SO.nil ?_
      refine S.seq ?_
      refine S.region ?_
      refine SO.v rfl (opv_move rfl) ?_
      refine SO.v rfl (opv_move rfl) ?_
      refine SO.v rfl (opv_move rfl) ?_
      obtain ⟨_, s14, ht13, h⟩ := VM.bind_some V.toVI h
      refine SO.call (pre := [V.rep _]) rfl Try.call41 rfl rfl rfl (endp_Wake.ct V _ _ _ _ _ ht13) trivial ?_
      rintro _ _ ⟨rfl, rfl⟩
      refine SO.nil ?_
      refine S.to (ρ' := [(6, errV 44 none)]) ⟨rfl, trivial⟩ ?_
      refine S.seq ?_
      refine S.region ?_
      refine SO.v rfl (opv_assign rfl) ?_
      refine SO.nil ?_
      obtain ⟨hq, rfl⟩ := VM.ret_some V.toVI h
      cases hq
      refine S.b1 ?_
      refine S.b1 ?_
      exact S.ret1 Try.func13 rfl rfl (fun w hs hk => hR w _ _ ⟨rfl, rfl⟩ hs hk)
end Go.Proofs
