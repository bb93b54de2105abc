/- What the functions that EndpOnce reaches come to, and that they do. On no condition. -/
import Derived.Test.YtoccfjmgbcbbkaaFnEndpOnce0
import Derived.Test.YtoccfjmgbcbbkaaFnEndpOnce1
set_option linter.all false
namespace Go.Proofs
open Go.Sl Go.RowKit
/-! 3 padstone/padstonelaw15.EndpOnce -/
def law15_EndpOnce.l1 (a0 : Int) : Nat → (Int × (List Int)) → Option ((List Int))
  | 0, _ => none
  | k + 1, (x12_1, qv26_1) => bif decide (x12_1 < a0) then ((at_ qv26_1 x12_1).bind fun x32 => law15_EndpOnce.l1 a0 k (w64 (x12_1 + 1), qv26_1.set x12_1.toNat (-1))) else (some qv26_1)
def law15_EndpOnce.l4 (a0 : Int) : Nat → (Int × Bool × (List Int)) → Option ((Bool × (List Int)))
  | 0, _ => none
  | k + 1, (x18_4, x17_4, qv20_4) => bif decide (x18_4 < a0) then ((bif x17_4 then (some (true, qv20_4)) else ((VM.run plainI (endp_State.f x18_4) qv20_4).bind fun (t77, s79) => some (t77 == 3, s79))).bind fun (c73, w75) => law15_EndpOnce.l4 a0 k (w64 (x18_4 + 1), c73, w75)) else (some (x17_4, qv20_4))
def law15_EndpOnce.l5 (a0 : Int) : Nat → (Int × Int × (List Int)) → Option ((Int × (List Int)))
  | 0, _ => none
  | k + 1, (x25_5, x24_5, qv20_5) => bif decide (x25_5 < a0) then ((VM.run plainI (endp_State.f x25_5) qv20_5).bind fun (t118, s120) => bif t118 == 4 then (law15_EndpOnce.l5 a0 k (w64 (x25_5 + 1), w64 (x24_5 + 1), s120)) else (law15_EndpOnce.l5 a0 k (w64 (x25_5 + 1), x24_5, s120))) else (some (x24_5, qv20_5))
def law15_EndpOnce.l6 (a0 : Int) : Nat → (Int × Int × (List Int)) → Option ((Int × (List Int)))
  | 0, _ => none
  | k + 1, (x28_6, x27_6, qv20_6) => bif decide (x28_6 < a0) then ((VM.run plainI (endp_State.f x28_6) qv20_6).bind fun (t130, s132) => bif t130 == 4 then (law15_EndpOnce.l6 a0 k (w64 (x28_6 + 1), w64 (x27_6 + 1), s132)) else (law15_EndpOnce.l6 a0 k (w64 (x28_6 + 1), x27_6, s132))) else (some (x27_6, qv20_6))
def law15_EndpOnce.l2 (a0 : Int) (a1 : List law15_Deed) : Nat → (Int × (List Int) × (List Int) × (List Int) × (List Bool)) → Option (Brk Bool ((List Int) × (List Int) × (List Bool) × (List Int)))
  | 0, _ => none
  | k + 1, (x13_2, x8_2, x9_2, qv20_2, qv22_2) => bif decide (x13_2 < (a1.length : Int)) then ((at_ a1 x13_2).bind fun x41 => (law10_Pick.f x41.T a0).bind fun t44 => (VM.run plainI (endp_State.f t44) qv20_2).bind fun (t46, s48) => bif t46 != 1 then (law15_EndpOnce.l2 a0 a1 k (w64 (x13_2 + 1), x8_2, x9_2, s48, qv22_2)) else ((at_ qv22_2 t44).bind fun x51 => (bif x51 then ((at_ qv22_2 t44).bind fun x54 => (at_ s48 (w64 ((w64 (480 + (w64 (8 * t44)))) + 3))).bind fun x57 => (app x9_2 ([w64 x57])).bind fun zs61 => some (zs61, qv22_2.set t44.toNat false)) else (some (x9_2, qv22_2))).bind fun (j9_3, qv22_3) => (law10_Pick.f x41.What 4).bind fun t67 => bif decide (t67 < 2) then ((law15_EndpOnce.l4 a0 k (0, false, s48)).bind fun (j17_e4, qv20_e4) => (VM.run plainI (endp_Send.f k (w64 (a0 + 3)) t44 0 (w64 (x13_2 + 1)) (t67 == 1)) qv20_e4).bind fun ((t82, t83), s85) => bif t83.isSome || (t82 != ((!j17_e4) || (t67 == 1))) then (some (Brk.ret false)) else ((app x8_2 ([w64 (x13_2 + 1)])).bind fun zs92 => law15_EndpOnce.l2 a0 a1 k (w64 (x13_2 + 1), zs92, j9_3, s85, qv22_3))) else (bif t67 == 2 then ((VM.run plainI (endp_Recv.f k (w64 (a0 + 3)) t44) s48).bind fun ((t97, t98, t99), s101) => bif t99.isSome then (bif t99 != some 10 then (some (Brk.ret false)) else (law15_EndpOnce.l2 a0 a1 k (w64 (x13_2 + 1), x8_2, j9_3, s101, qv22_3))) else (bif t98 then ((app j9_3 ([t97.Word])).bind fun zs109 => law15_EndpOnce.l2 a0 a1 k (w64 (x13_2 + 1), x8_2, zs109, s101, qv22_3)) else ((at_ qv22_3 t44).bind fun x113 => law15_EndpOnce.l2 a0 a1 k (w64 (x13_2 + 1), x8_2, j9_3, s101, qv22_3.set t44.toNat true)))) else ((law15_EndpOnce.l5 a0 k (0, 0, s48)).bind fun (j24_e5, qv20_e5) => (VM.run plainI (endp_Answer.f t44 0) qv20_e5).bind fun (t124, s126) => (law15_EndpOnce.l6 a0 k (0, 0, s126)).bind fun (j27_e6, qv20_e6) => bif (t124.isNone != (j27_e6 == (w64 (j24_e5 - 1)))) || (t124.isSome && (t124 != some 10)) then (some (Brk.ret false)) else (law15_EndpOnce.l2 a0 a1 k (w64 (x13_2 + 1), x8_2, j9_3, qv20_e6, qv22_3)))))) else (some (Brk.nx (x8_2, x9_2, qv22_2, qv20_2)))
def law15_EndpOnce.l7 (a0 : Int) (qv22_e2 : List Bool) : Nat → (Int × (List Int) × (List Int)) → Option (((List Int) × (List Int)))
  | 0, _ => none
  | k + 1, (x29_7, x9_7, qv20_7) => bif decide (x29_7 < a0) then ((at_ qv22_e2 x29_7).bind fun x146 => (bif x146 then ((VM.run plainI (endp_State.f x29_7) qv20_7).bind fun (t153, s155) => some (t153 == 1, s155)) else (some (false, qv20_7))).bind fun (c149, w151) => bif c149 then ((at_ w151 (w64 ((w64 (480 + (w64 (8 * x29_7)))) + 3))).bind fun x158 => (app x9_7 ([w64 x158])).bind fun zs162 => law15_EndpOnce.l7 a0 qv22_e2 k (w64 (x29_7 + 1), zs162, w151)) else (law15_EndpOnce.l7 a0 qv22_e2 k (w64 (x29_7 + 1), x9_7, w151))) else (some (x9_7, qv20_7))
def law15_EndpOnce.l8 (a0 : Int) : Nat → (Int × Int × (List Int)) → Option ((Int × (List Int)))
  | 0, _ => none
  | k + 1, (x31_8, x30_8, qv20_8) => bif decide (x31_8 < a0) then ((VM.run plainI (endp_State.f x31_8) qv20_8).bind fun (t170, s172) => (bif t170 == 2 then (some (true, s172)) else ((VM.run plainI (endp_State.f x31_8) s172).bind fun (t179, s181) => some (t179 == 6, s181))).bind fun (c175, w177) => bif c175 then (law15_EndpOnce.l8 a0 k (w64 (x31_8 + 1), w64 (x30_8 + 1), w177)) else (law15_EndpOnce.l8 a0 k (w64 (x31_8 + 1), x30_8, w177))) else (some (x30_8, qv20_8))
def law15_EndpOnce.l10 (j8_e2 : List Int) (j9_e7 : List Int) (x32_9 : Int) : Nat → (Int × Int) → Option (Int)
  | 0, _ => none
  | k + 1, (x34_10, x33_10) => bif decide (x34_10 < (j8_e2.length : Int)) then ((at_ j8_e2 x34_10).bind fun x188 => (at_ j9_e7 x32_9).bind fun x190 => bif x188 == x190 then (law15_EndpOnce.l10 j8_e2 j9_e7 x32_9 k (w64 (x34_10 + 1), w64 (x33_10 + 1))) else (law15_EndpOnce.l10 j8_e2 j9_e7 x32_9 k (w64 (x34_10 + 1), x33_10))) else (some x33_10)
def law15_EndpOnce.l11 (j9_e7 : List Int) (x32_9 : Int) : Nat → Int → Option (Brk Bool Unit)
  | 0, _ => none
  | k + 1, x35_11 => bif decide (x35_11 < x32_9) then ((at_ j9_e7 x35_11).bind fun x194 => (at_ j9_e7 x32_9).bind fun x196 => bif x194 == x196 then (some (Brk.ret false)) else (law15_EndpOnce.l11 j9_e7 x32_9 k (w64 (x35_11 + 1)))) else (some (Brk.nx ()))
def law15_EndpOnce.l9 (j8_e2 : List Int) (j9_e7 : List Int) : Nat → Int → Option (Brk Bool Unit)
  | 0, _ => none
  | k + 1, x32_9 => bif decide (x32_9 < (j9_e7.length : Int)) then ((law15_EndpOnce.l10 j8_e2 j9_e7 x32_9 k (0, 0)).bind fun j33_e10 => (law15_EndpOnce.l11 j9_e7 x32_9 k 0).bind fun o11 => Brk.go o11 (fun r => some (Brk.ret r)) (fun _ => bif j33_e10 != 1 then (some (Brk.ret false)) else (law15_EndpOnce.l9 j8_e2 j9_e7 k (w64 (x32_9 + 1))))) else (some (Brk.nx ()))
def law15_EndpOnce.f (k : Nat) (a0 : Int) (a1 : List law15_Deed) : Option (Bool) :=
  (law15_up.f k ).bind fun t1 => bif ((decide (a0 < 2)) || (decide (7 < a0))) || (decide (120 < (a1.length : Int))) then (some t1) else ((ref10_Boot.f k a0).bind fun t6 => (ref10_State_Words.f k t6).bind fun t18 => (mk_ false a0).bind fun xs24 => (mk_ 0 a0).bind fun xs28 => (law15_EndpOnce.l1 a0 k (0, xs28)).bind fun qv26_e1 => (law15_EndpOnce.l2 a0 a1 k (0, [], [], t18, xs24)).bind fun o2 => Brk.go o2 (fun r => some r) (fun (j8_e2, j9_e2, qv22_e2, qv20_e2) => (law15_EndpOnce.l7 a0 qv22_e2 k (0, j9_e2, qv20_e2)).bind fun (j9_e7, qv20_e7) => (law15_EndpOnce.l8 a0 k (0, 0, qv20_e7)).bind fun (j30_e8, qv20_e8) => bif (w64 ((j9_e7.length : Int) + j30_e8)) != (j8_e2.length : Int) then (some false) else ((law15_EndpOnce.l9 j8_e2 j9_e7 k 0).bind fun o9 => Brk.go o9 (fun r => some r) (fun _ => some t1))))
set_option maxHeartbeats 8000000 in
set_option maxRecDepth 100000 in
theorem law15_EndpOnce.ct (k : Nat) (v1 : Value) (a0 : Int) (a1 : List law15_Deed) (r0 : Bool) (h : law15_EndpOnce.f k a0 a1 = some r0) :
    Ct Try.prog 3 [.int .i64 a0, v1] (fun F => Rd ek_law15_Deed v1 a1 F) [] (fun u H' => u = .bool r0 ∧ H' = []) := by
  unfold law15_EndpOnce.f at h
  refine Ct.intro (n := 312) Try.func3 rfl rfl rfl ?_
  intro R w0 F hF hR
  have hF1 := hF
  refine S.seq ?_
  refine S.region ?_
  refine SO.v rfl (opv_assign rfl) ?_
  refine SO.nil ?_
  refine S.seq ?_
  refine S.region ?_
  obtain ⟨t1, ht2, h⟩ := opt_bind h
  refine SO.call (pre := []) rfl Try.call6 rfl rfl rfl (law15_up.ct _ _ ht2) trivial ?_
  rintro _ _ ⟨rfl, rfl⟩
  refine SO.v rfl (opv_assign rfl) ?_
  refine SO.nil ?_
  refine S.seq ?_
  refine S.seq ?_
  refine S.region ?_
  refine SO.v rfl (opv_move rfl) ?_
  refine SO.v rfl (opv_lss rfl rfl) ?_
  refine SO.v rfl (opv_move rfl) ?_
  refine SO.cut 3 42 (.bool ((decide (a0 < 2)) || (decide (7 < a0)))) [F] (fun l2 hk2 => ?_) ?_
  · rcases bool_or (decide (a0 < 2)) with b3 | b3
    · refine SO.passF rfl rfl rfl b3 rfl rfl ?_
      refine SO.passF rfl rfl rfl b3 rfl rfl ?_
      refine SO.v rfl (opv_pick_t' b3 rfl rfl) ?_
      exact hk2.fitc (m := 3) rfl (or_t b3) rfl
    · refine SO.takeT rfl rfl rfl b3 ?_
      refine SO.v rfl (opv_move rfl) ?_
      refine SO.takeT rfl rfl rfl b3 ?_
      refine SO.v rfl (opv_gtr rfl rfl) ?_
      refine SO.v rfl (opv_pick_f' b3 rfl rfl) ?_
      exact hk2.fitc (m := 3) rfl (or_f b3) rfl
  refine SO.v rfl (opv_move rfl) ?_
  refine SO.cut 4 47 (.bool (((decide (a0 < 2)) || (decide (7 < a0))) || (decide (120 < (a1.length : Int))))) [F] (fun l2 hk2 => ?_) ?_
  · rcases bool_or ((decide (a0 < 2)) || (decide (7 < a0))) with b4 | b4
    · refine SO.passF rfl rfl rfl b4 rfl rfl ?_
      refine SO.passF rfl rfl rfl b4 rfl rfl ?_
      refine SO.passF rfl rfl rfl b4 rfl rfl ?_
      refine SO.v rfl (opv_pick_t' b4 rfl rfl) ?_
      exact hk2.fitc (m := 4) rfl (or_t b4) rfl
    · refine SO.takeT rfl rfl rfl b4 ?_
      refine SO.v rfl (opv_move rfl) ?_
      refine SO.takeT rfl rfl rfl b4 ?_
      refine SO.v rfl (opv_lenR rfl Try.underlying22 hF1 rfl) ?_
      refine SO.takeT rfl rfl rfl b4 ?_
      refine SO.v rfl (opv_gtr rfl rfl) ?_
      refine SO.v rfl (opv_pick_f' b4 rfl rfl) ?_
      exact hk2.fitc (m := 4) rfl (or_f b4) rfl
  refine SO.nil ?_
  rcases bool_or (((decide (a0 < 2)) || (decide (7 < a0))) || (decide (120 < (a1.length : Int)))) with b5 | b5
  · replace h := cond_t b5 h
    refine S.condT rfl b5 ?_
    refine S.seq ?_
    refine S.region ?_
    refine SO.v rfl (opv_move rfl) ?_
    refine SO.v rfl (opv_assign rfl) ?_
    refine SO.nil ?_
    refine S.to (ρ' := [(4, .bool t1)]) ⟨rfl, trivial⟩ ?_
    cases h
    exact S.ret1 Try.func3 rfl rfl (fun w hs hk => hR w _ _ ⟨rfl, rfl⟩ hs hk)
  · replace h := cond_f b5 h
    refine S.condF rfl b5 ?_
    refine S.skip ?_
    refine S.seq ?_
    refine S.region ?_
    refine SO.v rfl (opv_move rfl) ?_
    obtain ⟨t6, ht7, h⟩ := opt_bind h
    refine SO.call (pre := []) rfl Try.call7 rfl rfl rfl (ref10_Boot.ct _ _ _ ht7) trivial ?_
    rintro _ _ ⟨b8, u9_Slots, u9_Objs, rfl, rfl⟩
    obtain ⟨t18, ht19, h⟩ := opt_bind h
    refine SO.b1 ?_
    refine SO.openR fun raws10 A11 hrel12 hR13 => ?_
    refine SO.b2 ?_
    refine SO.openR fun raws14 A15 hrel16 hR17 => ?_
    refine SO.b1 ?_
    refine SO.b2 ?_
    refine SO.call (pre := [Box _ _, OwnO _ _ _ _ _ _, OwnO _ _ _ _ _ _]) rfl Try.call8 rfl rfl rfl (ref10_State_Words.ct _ b8 u9_Slots u9_Objs raws10 A11 raws14 A15 _ _ ht19) trivial ?_
    rintro v20 _ ⟨_, rfl, rfl⟩
    refine SO.rd fun hr21 => ?_
    refine SO.v rfl (opv_assign rfl) ?_
    refine SO.nil ?_
    refine S.to (ρ' := [(0, .int .i64 a0), (1, v1), (4, .bool false), (5, .bool t1), (6, v20)]) ⟨rfl, rfl, rfl, rfl, rfl, trivial⟩ ?_
    refine S.seq ?_
    refine S.region ?_
    refine SO.v rfl (opv_move rfl) ?_
    refine SO.v rfl (opv_add rfl rfl) ?_
    refine SO.v rfl (opv_assign rfl) ?_
    refine SO.nil ?_
    refine S.seq ?_
    refine S.region ?_
    refine SO.v rfl (opv_assign rfl) ?_
    refine SO.nil ?_
    refine S.seq ?_
    refine S.region ?_
    refine SO.v rfl (opv_assign rfl) ?_
    refine SO.nil ?_
    refine S.seq ?_
    refine S.region ?_
    refine SO.v rfl (opv_move rfl) ?_
    obtain ⟨xs24, hx25, h⟩ := opt_bind h
    refine SO.makeSlice (K := ekB) rfl Try.underlying30 inf4 rfl rfl rfl (by decide) rfl rfl rfl hx25 (fun v22 hr23 => ?_)
    refine SO.v rfl (opv_assign rfl) ?_
    refine SO.nil ?_
    refine S.seq ?_
    refine S.region ?_
    refine SO.v rfl (opv_move rfl) ?_
    obtain ⟨xs28, hx29, h⟩ := opt_bind h
    refine SO.makeSlice (K := ekI .i64) rfl Try.underlying29 inf3 rfl rfl rfl (by decide) rfl rfl rfl hx29 (fun v26 hr27 => ?_)
    refine SO.v rfl (opv_assign rfl) ?_
    refine SO.nil ?_
    refine S.seq ?_
    refine S.seq ?_
    refine S.region ?_
    refine SO.v rfl (opv_assign rfl) ?_
    refine SO.nil ?_
    obtain ⟨qv26_e1, hl1, h⟩ := opt_bind h
    refine S.b6 ?_
    refine S.b6 ?_
    refine S.b6 ?_
    refine S.b6 ?_
    refine S.b6 ?_
    refine S.b6 ?_
    refine S.b6 ?_
    refine S.to (ρ' := [(12, .int .i64 0), (11, v26), (10, v22), (9, .slice none 0 0), (8, .slice none 0 0), (7, .int .i64 (w64 (a0 + 3))), (0, .int .i64 a0), (1, v1), (4, .bool false), (5, .bool t1), (6, v20)]) ⟨rfl, rfl, rfl, rfl, rfl, rfl, rfl, rfl, rfl, rfl, rfl, trivial⟩ ?_
    refine S.forloop (X := (Int × (List Int)) × Unit) (O := (List Int)) (fun m x => law15_EndpOnce.l1 a0 m x.1) (fun x => match x with | ((x12_1, qv26_1), _) => [(12, .int .i64 x12_1), (11, v26), (10, v22), (9, .slice none 0 0), (8, .slice none 0 0), (7, .int .i64 (w64 (a0 + 3))), (0, .int .i64 a0), (1, v1), (4, .bool false), (5, .bool t1), (6, v20)]) (fun x => match x with | ((x12_1, qv26_1), _) => [Own 3 (ekI .i64) v26 qv26_1, Own 4 ekB v22 xs24, Own 35 (ekI .u64) v20 t18, Box b8 [u9_Slots, u9_Objs, .int .i64 t6.NS, .int .i64 t6.NO], OwnO 81 kr_ref10_Slot u9_Slots raws10 A11 t6.Slots, OwnO 72 kr_ref10_Obj u9_Objs raws14 A15 t6.Objs, F]) (fun Sk => (fun qv26_e1 => ∀ _ : Unit, Sk [(0, .int .i64 a0), (1, v1), (4, .bool false), (5, .bool t1), (6, v20), (7, .int .i64 (w64 (a0 + 3))), (8, .slice none 0 0), (9, .slice none 0 0), (10, v22)] [Own 3 (ekI .i64) v26 qv26_e1, Own 4 ekB v22 xs24, Own 35 (ekI .u64) v20 t18, Box b8 [u9_Slots, u9_Objs, .int .i64 t6.NS, .int .i64 t6.NO], OwnO 81 kr_ref10_Slot u9_Slots raws10 A11 t6.Slots, OwnO 72 kr_ref10_Obj u9_Objs raws14 A15 t6.Objs, F])) (fun _ => rfl) ?_ (m := k) (x := ((0, xs28), ())) hl1 ?_
    · clear h hl1
      intro k x o_1 h hK1 ih1
      obtain ⟨⟨x12_1, qv26_1⟩, _⟩ := x
      replace h : law15_EndpOnce.l1 a0 (k + 1) (x12_1, qv26_1) = some o_1 := h
      first | rw [law15_EndpOnce.l1] at h | unfold law15_EndpOnce.l1 at h
      refine S.rd fun hr30 => ?_
      refine S.seq ?_
      refine S.seq ?_
      refine S.region ?_
      refine SO.v rfl (opv_move rfl) ?_
      refine SO.v rfl (opv_move rfl) ?_
      refine SO.v rfl (opv_lss rfl rfl) ?_
      refine SO.nil ?_
      rcases bool_or (decide (x12_1 < a0)) with b31 | b31
      · replace h := cond_t b31 h
        refine S.condT rfl b31 ?_
        refine S.skip ?_
        refine S.seq ?_
        refine S.block ?_
        refine S.region ?_
        refine SO.v rfl (opv_move rfl) ?_
        refine SO.v rfl (opv_move rfl) ?_
        obtain ⟨x32, hx33, h⟩ := opt_bind h
        refine SO.v rfl (opv_idx Try.underlying29 Try.sizeOf3 hr30 rfl rfl hx33) ?_
        refine SO.storeI1 (j := 0) (z' := -1) Try.sizeOf3 hx33 rfl rfl rfl rfl rfl rfl ?_
        refine SO.rd fun hr34 => ?_
        refine SO.nil ?_
        refine S.inBlock ?_
        refine S.region ?_
        refine SO.v rfl (opv_move rfl) ?_
        refine SO.v rfl (opv_add rfl rfl) ?_
        refine SO.v rfl (opv_assign rfl) ?_
        refine SO.nil ?_
        refine S.to (ρ' := [(12, .int .i64 (w64 (x12_1 + 1))), (11, v26), (10, v22), (9, .slice none 0 0), (8, .slice none 0 0), (7, .int .i64 (w64 (a0 + 3))), (0, .int .i64 a0), (1, v1), (4, .bool false), (5, .bool t1), (6, v20)]) ⟨rfl, rfl, rfl, rfl, rfl, rfl, rfl, rfl, rfl, rfl, rfl, trivial⟩ ?_
        refine S.b6 ?_
        refine S.b6 ?_
        refine S.b6 ?_
        refine S.b6 ?_
        refine S.b6 ?_
        refine S.b6 ?_
        refine S.b6 ?_
        refine S.to ?_ (ih1 ((w64 (x12_1 + 1), qv26_1.set x12_1.toNat (-1)), ()) h)
        exact ⟨rfl, rfl, rfl, rfl, rfl, rfl, rfl, rfl, rfl, rfl, rfl, trivial⟩
      · replace h := cond_f b31 h
        refine S.condF rfl b31 ?_
        refine S.exit rfl ?_
        cases h
        refine S.b6 ?_
        refine S.b6 ?_
        refine S.b6 ?_
        refine S.b6 ?_
        refine S.b6 ?_
        refine S.b6 ?_
        refine S.b6 ?_
        refine S.to ?_ (hK1 ())
        exact ⟨rfl, rfl, rfl, rfl, rfl, rfl, rfl, rfl, rfl, trivial⟩
    rintro _
    refine S.rd fun hr35 => ?_
    refine S.seq ?_
    refine S.seq ?_
    refine S.region ?_
    refine SO.v rfl (opv_assign rfl) ?_
    refine SO.nil ?_
    obtain ⟨o2, hl2, h⟩ := opt_bind h
    refine S.newOwn 3 (ekI .i64) ?_
    refine S.newOwn 3 (ekI .i64) ?_
    refine S.b8 ?_
    refine S.b8 ?_
    refine S.b8 ?_
    refine S.b8 ?_
    refine S.b8 ?_
    refine S.b8 ?_
    refine S.b8 ?_
    refine S.b7 ?_
    refine S.b8 ?_
    refine S.to (ρ' := [(13, .int .i64 0), (0, .int .i64 a0), (1, v1), (4, .bool false), (5, .bool t1), (6, v20), (7, .int .i64 (w64 (a0 + 3))), (8, .slice none 0 0), (9, .slice none 0 0), (10, v22)]) ⟨rfl, rfl, rfl, rfl, rfl, rfl, rfl, rfl, rfl, rfl, trivial⟩ ?_
    refine S.forloop (X := (Int × (List Int) × (List Int) × (List Int) × (List Bool)) × (Value × Value)) (O := Brk Bool ((List Int) × (List Int) × (List Bool) × (List Int))) (fun m x => law15_EndpOnce.l2 a0 a1 m x.1) (fun x => match x with | ((x13_2, x8_2, x9_2, qv20_2, qv22_2), (v8_2, v9_2)) => [(13, .int .i64 x13_2), (0, .int .i64 a0), (1, v1), (4, .bool false), (5, .bool t1), (6, v20), (7, .int .i64 (w64 (a0 + 3))), (8, v8_2), (9, v9_2), (10, v22)]) (fun x => match x with | ((x13_2, x8_2, x9_2, qv20_2, qv22_2), (v8_2, v9_2)) => [Own 3 (ekI .i64) v9_2 x9_2, Own 3 (ekI .i64) v8_2 x8_2, Own 3 (ekI .i64) v26 qv26_e1, Own 4 ekB v22 qv22_2, Own 35 (ekI .u64) v20 qv20_2, Box b8 [u9_Slots, u9_Objs, .int .i64 t6.NS, .int .i64 t6.NO], OwnO 81 kr_ref10_Slot u9_Slots raws10 A11 t6.Slots, OwnO 72 kr_ref10_Obj u9_Objs raws14 A15 t6.Objs, F]) (fun Sk o' => (∀ r', o' = Brk.ret r' → some r' = some r0) ∧ ∀ j : ((List Int) × (List Int) × (List Bool) × (List Int)), match j with | (j8_e2, j9_e2, qv22_e2, qv20_e2) => ∀ g : (Value × Value), match g with | (v8_e2, v9_e2) => o' = Brk.nx (j8_e2, j9_e2, qv22_e2, qv20_e2) → Sk [(0, .int .i64 a0), (4, .bool false), (5, .bool t1), (6, v20), (8, v8_e2), (9, v9_e2), (10, v22)] [Own 3 (ekI .i64) v9_e2 j9_e2, Own 3 (ekI .i64) v8_e2 j8_e2, Own 3 (ekI .i64) v26 qv26_e1, Own 4 ekB v22 qv22_e2, Own 35 (ekI .u64) v20 qv20_e2, Box b8 [u9_Slots, u9_Objs, .int .i64 t6.NS, .int .i64 t6.NO], OwnO 81 kr_ref10_Slot u9_Slots raws10 A11 t6.Slots, OwnO 72 kr_ref10_Obj u9_Objs raws14 A15 t6.Objs, F]) (fun _ => rfl) ?_ (m := k) (x := ((0, [], [], t18, xs24), (.slice none 0 0, .slice none 0 0))) hl2 ?_
    · clear h hl2
      intro k x o_2 h hK2 ih2
      obtain ⟨⟨x13_2, x8_2, x9_2, qv20_2, qv22_2⟩, ⟨v8_2, v9_2⟩⟩ := x
      replace h : law15_EndpOnce.l2 a0 a1 (k + 1) (x13_2, x8_2, x9_2, qv20_2, qv22_2) = some o_2 := h
      first | rw [law15_EndpOnce.l2] at h | unfold law15_EndpOnce.l2 at h
      refine S.rd fun hr36 => ?_
      refine S.b1 ?_
      refine S.rd fun hr37 => ?_
      refine S.b3 ?_
      refine S.rd fun hr38 => ?_
      refine S.b4 ?_
      refine S.rd fun hr39 => ?_
      refine S.seq ?_
      refine S.seq ?_
      refine S.region ?_
      refine SO.v rfl (opv_move rfl) ?_
      refine SO.v rfl (opv_move rfl) ?_
      refine SO.v rfl (opv_lenR rfl Try.underlying22 hF1 rfl) ?_
      refine SO.v rfl (opv_lss rfl rfl) ?_
      refine SO.nil ?_
      rcases bool_or (decide (x13_2 < (a1.length : Int))) with b40 | b40
      · replace h := cond_t b40 h
        refine S.condT rfl b40 ?_
        refine S.skip ?_
        refine S.seq ?_
        refine S.block ?_
        refine S.seq ?_
        refine S.region ?_
        refine SO.v rfl (opv_move rfl) ?_
        refine SO.v rfl (opv_move rfl) ?_
        obtain ⟨x41, hx42, h⟩ := opt_bind h
        refine SO.v rfl (opv_idx Try.underlying22 Try.sizeOf32 hF1 rfl rfl hx42) ?_
        refine SO.loadIN rfl Try.isAgg32 Try.sizeOf32 (Rd.tail (Rd.tail (Rd.tail (Rd.tail (Rd.tail (Rd.tail (Rd.tail (Rd.tail (Rd.head hF1))))))))) hx42 rfl rfl rfl ?_
        refine SO.alloc rfl Try.zeroValue32 rfl (fun b43 => ?_)
        refine SO.storeN Try.sizeOf32 rfl rfl rfl rfl rfl rfl ?_
        refine SO.nil ?_
        refine S.to (ρ' := [(13, .int .i64 x13_2), (0, .int .i64 a0), (1, v1), (4, .bool false), (5, .bool t1), (6, v20), (7, .int .i64 (w64 (a0 + 3))), (8, v8_2), (9, v9_2), (10, v22), (14, bp b43 0)]) ⟨rfl, rfl, rfl, rfl, rfl, rfl, rfl, rfl, rfl, rfl, rfl, trivial⟩ ?_
        refine S.seq ?_
        refine S.region ?_
        refine SO.v rfl (opv_fieldAddr Try.underlying32 rfl Try.sizeOf3 rfl rfl) ?_
        refine SO.load1 rfl Try.isAgg3 rfl rfl ?_
        refine SO.v rfl (opv_move rfl) ?_
        obtain ⟨t44, ht45, h⟩ := opt_bind h
        refine SO.call (pre := []) rfl Try.call9 rfl rfl rfl (law10_Pick.ct _ _ _ ht45) trivial ?_
        rintro _ _ ⟨rfl, rfl⟩
        refine SO.v rfl (opv_assign rfl) ?_
        refine SO.nil ?_
        refine S.seq ?_
        refine S.seq ?_
        refine S.region ?_
        refine SO.v rfl (opv_move rfl) ?_
        refine SO.v rfl (opv_iface Try.underlying25 rfl rfl) ?_
        refine SO.v rfl (opv_move rfl) ?_
        obtain ⟨⟨t46, s48⟩, ht47, h⟩ := opt_bind h
        refine SO.b1 ?_
        refine SO.call (pre := [(plainV v20).rep _]) rfl Try.call10 rfl rfl rfl (endp_State.ct (plainV v20) _ _ _ _ ht47) trivial ?_
        rintro _ _ ⟨rfl, rfl⟩
        refine headEq (plainV_rep _ _) ?_
        refine SO.rd fun hr49 => ?_
        refine SO.v rfl (opv_neq rfl rfl) ?_
        refine SO.nil ?_
        refine S.to (ρ' := [(13, .int .i64 x13_2), (0, .int .i64 a0), (1, v1), (4, .bool false), (5, .bool t1), (6, v20), (7, .int .i64 (w64 (a0 + 3))), (8, v8_2), (9, v9_2), (10, v22), (14, bp b43 0), (15, .int .i64 t44), (84, .bool (t46 != 1))]) ⟨rfl, rfl, rfl, rfl, rfl, rfl, rfl, rfl, rfl, rfl, rfl, rfl, rfl, trivial⟩ ?_
        rcases bool_or (t46 != 1) with b50 | b50
        · replace h := cond_t b50 h
          refine S.condT rfl b50 ?_
          refine S.exit rfl ?_
          refine S.region ?_
          refine SO.v rfl (opv_move rfl) ?_
          refine SO.v rfl (opv_add rfl rfl) ?_
          refine SO.v rfl (opv_assign rfl) ?_
          refine SO.nil ?_
          refine S.b1 ?_
          refine S.drop ?_
          refine S.b8 ?_
          refine S.b8 ?_
          refine S.b8 ?_
          refine S.b8 ?_
          refine S.b4 ?_
          refine S.b5 ?_
          refine S.b8 ?_
          refine S.b7 ?_
          refine S.b8 ?_
          refine S.to ?_ (ih2 ((w64 (x13_2 + 1), x8_2, x9_2, s48, qv22_2), (v8_2, v9_2)) h)
          exact ⟨rfl, rfl, rfl, rfl, rfl, rfl, rfl, rfl, rfl, rfl, trivial⟩
        · replace h := cond_f b50 h
          refine S.condF rfl b50 ?_
          refine S.skip ?_
          refine S.seq ?_
          refine S.seq ?_
          refine S.region ?_
          refine SO.v rfl (opv_move rfl) ?_
          refine SO.v rfl (opv_move rfl) ?_
          obtain ⟨x51, hx52, h⟩ := opt_bind h
          refine SO.v rfl (opv_idx Try.underlying30 Try.sizeOf4 hr38 rfl rfl hx52) ?_
          refine SO.loadI1 (j := 0) rfl Try.isAgg4 (Rd.tail (Rd.tail (Rd.head hr38))) hx52 rfl rfl rfl rfl ?_
          refine SO.nil ?_
          obtain ⟨⟨j9_3, qv22_3⟩, hC3, hJ3⟩ := opt_bind h
          clear h
          refine S.cutP (G := Value) (fun _ => True) (fun v9_3 => [(0, .int .i64 a0), (1, v1), (4, .bool false), (5, .bool t1), (6, v20), (7, .int .i64 (w64 (a0 + 3))), (8, v8_2), (9, v9_3), (10, v22), (13, .int .i64 x13_2), (14, bp b43 0), (15, .int .i64 t44)]) (fun v9_3 => [Own 3 (ekI .i64) v9_3 j9_3, Own 35 (ekI .u64) v20 s48, Box b43 [.int .i64 x41.What, .int .i64 x41.T, .int .i64 x41.N, .int .i64 x41.B], Own 4 ekB v22 qv22_3, Own 3 (ekI .i64) v8_2 x8_2, Own 3 (ekI .i64) v26 qv26_e1, Box b8 [u9_Slots, u9_Objs, .int .i64 t6.NS, .int .i64 t6.NO], OwnO 81 kr_ref10_Slot u9_Slots raws10 A11 t6.Slots, OwnO 72 kr_ref10_Obj u9_Objs raws14 A15 t6.Objs, F]) (fun hk3 => ?_) ?_
          · replace h := hC3
            rcases bool_or x51 with b53 | b53
            · replace h := cond_t b53 h
              refine S.condT rfl b53 ?_
              refine S.seq ?_
              refine S.region ?_
              refine SO.v rfl (opv_move rfl) ?_
              refine SO.v rfl (opv_move rfl) ?_
              obtain ⟨x54, hx55, h⟩ := opt_bind h
              refine SO.v rfl (opv_idx Try.underlying30 Try.sizeOf4 hr38 rfl rfl hx55) ?_
              refine SO.b2 ?_
              refine SO.storeI1 (j := 0) (z' := false) Try.sizeOf4 hx55 rfl rfl rfl rfl rfl rfl ?_
              refine SO.rd fun hr56 => ?_
              refine SO.nil ?_
              refine S.to (ρ' := [(13, .int .i64 x13_2), (0, .int .i64 a0), (1, v1), (4, .bool false), (5, .bool t1), (6, v20), (7, .int .i64 (w64 (a0 + 3))), (8, v8_2), (9, v9_2), (10, v22), (14, bp b43 0), (15, .int .i64 t44)]) ⟨rfl, rfl, rfl, rfl, rfl, rfl, rfl, rfl, rfl, rfl, rfl, rfl, trivial⟩ ?_
              refine S.region ?_
              refine SO.v rfl (opv_move rfl) ?_
              refine SO.v rfl (opv_move rfl) ?_
              refine SO.v rfl (opv_move rfl) ?_
              refine SO.v rfl (opv_mul rfl rfl) ?_
              refine SO.v rfl (opv_add rfl rfl) ?_
              refine SO.v rfl (opv_add rfl rfl) ?_
              obtain ⟨x57, hx58, h⟩ := opt_bind h
              refine SO.v rfl (opv_idx Try.underlying25 Try.sizeOf35 hr49 rfl rfl hx58) ?_
              refine SO.loadI1 (j := 0) rfl Try.isAgg35 (Rd.tail (Rd.head hr49)) hx58 rfl rfl rfl rfl ?_
              refine SO.v rfl (opv_conv Try.underlying35 Try.underlying3 rfl) ?_
              refine SO.buildSlice (K := ekI .i64) (xs := [w64 x57]) (cs := [.int .i64 (w64 x57)]) rfl Try.underlying29 Try.sizeOf3 Try.zeroValue3 rfl rfl rfl (by kernel_rfl) rfl rfl rfl (fun v59 hr60 => ?_)
              obtain ⟨zs61, hz62, h⟩ := opt_bind h
              refine SO.b5 ?_
              refine SO.append rfl Try.underlying29 Try.underlying29 inf3 rfl rfl rfl (by decide) rfl rfl rfl (Rd.head hr60) hz62 (fun v63 => ?_)
              refine SO.rd fun hr64 => ?_
              refine SO.v rfl (opv_assign rfl) ?_
              refine SO.nil ?_
              refine S.to (ρ' := [(13, .int .i64 x13_2), (0, .int .i64 a0), (1, v1), (4, .bool false), (5, .bool t1), (6, v20), (7, .int .i64 (w64 (a0 + 3))), (8, v8_2), (9, v63), (10, v22), (14, bp b43 0), (15, .int .i64 t44)]) ⟨rfl, rfl, rfl, rfl, rfl, rfl, rfl, rfl, rfl, rfl, rfl, rfl, trivial⟩ ?_
              cases h
              refine S.b1 ?_
              refine S.drop ?_
              refine S.b9 ?_
              refine S.b9 ?_
              refine S.b9 ?_
              refine S.b9 ?_
              refine S.b9 ?_
              refine S.b9 ?_
              refine S.b7 ?_
              refine S.b9 ?_
              refine S.b9 ?_
              refine S.b9 ?_
              refine S.to ?_ (hk3 v63 trivial)
              exact ⟨rfl, rfl, rfl, rfl, rfl, rfl, rfl, rfl, rfl, rfl, rfl, rfl, trivial⟩
            · replace h := cond_f b53 h
              refine S.condF rfl b53 ?_
              refine S.skip ?_
              cases h
              refine S.b9 ?_
              refine S.b9 ?_
              refine S.b9 ?_
              refine S.b9 ?_
              refine S.b9 ?_
              refine S.b8 ?_
              refine S.b8 ?_
              refine S.b8 ?_
              refine S.b8 ?_
              refine S.b9 ?_
              refine S.to ?_ (hk3 v9_2 trivial)
              exact ⟨rfl, rfl, rfl, rfl, rfl, rfl, rfl, rfl, rfl, rfl, rfl, rfl, trivial⟩
          rintro v9_3 -
          replace h := hJ3
          refine S.rd fun hr65 => ?_
          refine S.b3 ?_
          refine S.rd fun hr66 => ?_
          refine S.seq ?_
          refine S.region ?_
          refine SO.v rfl (opv_fieldAddr Try.underlying32 rfl Try.sizeOf3 rfl rfl) ?_
          refine SO.b3 ?_
          refine SO.load1 rfl Try.isAgg3 rfl rfl ?_
          obtain ⟨t67, ht68, h⟩ := opt_bind h
          refine SO.call (pre := []) rfl Try.call9 rfl rfl rfl (law10_Pick.ct _ _ _ ht68) trivial ?_
          rintro _ _ ⟨rfl, rfl⟩
          refine SO.v rfl (opv_assign rfl) ?_
          refine SO.nil ?_
          refine S.seq ?_
          refine S.region ?_
          refine SO.v rfl (opv_move rfl) ?_
          refine SO.v rfl (opv_lss rfl rfl) ?_
          refine SO.nil ?_
          rcases bool_or (decide (t67 < 2)) with b69 | b69
          · replace h := cond_t b69 h
            refine S.condT rfl b69 ?_
            refine S.seq ?_
            refine S.region ?_
            refine SO.v rfl (opv_assign rfl) ?_
            refine SO.nil ?_
            refine S.seq ?_
            refine S.seq ?_
            refine S.region ?_
            refine SO.v rfl (opv_assign rfl) ?_
            refine SO.nil ?_
            obtain ⟨⟨j17_e4, qv20_e4⟩, hl4, h⟩ := opt_bind h
            refine S.b9 ?_
            refine S.b9 ?_
            refine S.b9 ?_
            refine S.b9 ?_
            refine S.b9 ?_
            refine S.b9 ?_
            refine S.b9 ?_
            refine S.b9 ?_
            refine S.b9 ?_
            refine S.b9 ?_
            refine S.to (ρ' := [(18, .int .i64 0), (17, .bool false), (16, .int .i64 t67), (0, .int .i64 a0), (1, v1), (4, .bool false), (5, .bool t1), (6, v20), (7, .int .i64 (w64 (a0 + 3))), (8, v8_2), (9, v9_3), (10, v22), (13, .int .i64 x13_2), (15, .int .i64 t44)]) ⟨rfl, rfl, rfl, rfl, rfl, rfl, rfl, rfl, rfl, rfl, rfl, rfl, rfl, rfl, trivial⟩ ?_
            refine S.forloop (X := (Int × Bool × (List Int)) × Unit) (O := (Bool × (List Int))) (fun m x => law15_EndpOnce.l4 a0 m x.1) (fun x => match x with | ((x18_4, x17_4, qv20_4), _) => [(18, .int .i64 x18_4), (17, .bool x17_4), (16, .int .i64 t67), (0, .int .i64 a0), (1, v1), (4, .bool false), (5, .bool t1), (6, v20), (7, .int .i64 (w64 (a0 + 3))), (8, v8_2), (9, v9_3), (10, v22), (13, .int .i64 x13_2), (15, .int .i64 t44)]) (fun x => match x with | ((x18_4, x17_4, qv20_4), _) => [Box b43 [.int .i64 x41.What, .int .i64 x41.T, .int .i64 x41.N, .int .i64 x41.B], Own 4 ekB v22 qv22_3, Own 3 (ekI .i64) v9_3 j9_3, Own 35 (ekI .u64) v20 qv20_4, Own 3 (ekI .i64) v8_2 x8_2, Own 3 (ekI .i64) v26 qv26_e1, Box b8 [u9_Slots, u9_Objs, .int .i64 t6.NS, .int .i64 t6.NO], OwnO 81 kr_ref10_Slot u9_Slots raws10 A11 t6.Slots, OwnO 72 kr_ref10_Obj u9_Objs raws14 A15 t6.Objs, F]) (fun Sk => (fun x => match x with | (j17_e4, qv20_e4) => ∀ _ : Unit, Sk [(0, .int .i64 a0), (1, v1), (4, .bool false), (5, .bool t1), (6, v20), (7, .int .i64 (w64 (a0 + 3))), (8, v8_2), (9, v9_3), (10, v22), (13, .int .i64 x13_2), (15, .int .i64 t44), (16, .int .i64 t67), (17, .bool j17_e4)] [Box b43 [.int .i64 x41.What, .int .i64 x41.T, .int .i64 x41.N, .int .i64 x41.B], Own 4 ekB v22 qv22_3, Own 3 (ekI .i64) v9_3 j9_3, Own 35 (ekI .u64) v20 qv20_e4, Own 3 (ekI .i64) v8_2 x8_2, Own 3 (ekI .i64) v26 qv26_e1, Box b8 [u9_Slots, u9_Objs, .int .i64 t6.NS, .int .i64 t6.NO], OwnO 81 kr_ref10_Slot u9_Slots raws10 A11 t6.Slots, OwnO 72 kr_ref10_Obj u9_Objs raws14 A15 t6.Objs, F])) (fun _ => rfl) ?_ (m := k) (x := ((0, false, s48), ())) hl4 ?_
            · clear h hl4
              intro k x o_4 h hK4 ih4
              obtain ⟨⟨x18_4, x17_4, qv20_4⟩, _⟩ := x
              replace h : law15_EndpOnce.l4 a0 (k + 1) (x18_4, x17_4, qv20_4) = some o_4 := h
              first | rw [law15_EndpOnce.l4] at h | unfold law15_EndpOnce.l4 at h
              refine S.b3 ?_
              refine S.rd fun hr70 => ?_
              refine S.seq ?_
              refine S.seq ?_
              refine S.region ?_
              refine SO.v rfl (opv_move rfl) ?_
              refine SO.v rfl (opv_move rfl) ?_
              refine SO.v rfl (opv_lss rfl rfl) ?_
              refine SO.nil ?_
              rcases bool_or (decide (x18_4 < a0)) with b71 | b71
              · replace h := cond_t b71 h
                refine S.condT rfl b71 ?_
                refine S.skip ?_
                refine S.seq ?_
                refine S.block ?_
                refine S.region ?_
                refine SO.v rfl (opv_move rfl) ?_
                refine SO.v rfl (opv_move rfl) ?_
                obtain ⟨⟨c73, w75⟩, hc74, hgk⟩ := opt_bind h
                refine SO.cut 6 120 (.bool c73) [Own 35 (ekI .u64) v20 w75, Box b43 [.int .i64 x41.What, .int .i64 x41.T, .int .i64 x41.N, .int .i64 x41.B], Own 4 ekB v22 qv22_3, Own 3 (ekI .i64) v9_3 j9_3, Own 3 (ekI .i64) v8_2 x8_2, Own 3 (ekI .i64) v26 qv26_e1, Box b8 [u9_Slots, u9_Objs, .int .i64 t6.NS, .int .i64 t6.NO], OwnO 81 kr_ref10_Slot u9_Slots raws10 A11 t6.Slots, OwnO 72 kr_ref10_Obj u9_Objs raws14 A15 t6.Objs, F] (fun l2 hk2 => ?_) ?_
                · clear hgk
                  replace h := hc74
                  rcases bool_or x17_4 with b72 | b72
                  · replace h := cond_t b72 h
                    refine SO.passF rfl rfl rfl b72 rfl rfl ?_
                    refine SO.passF rfl rfl rfl b72 rfl rfl ?_
                    refine SO.passF rfl rfl rfl b72 rfl rfl ?_
                    refine SO.passF rfl rfl rfl b72 rfl rfl ?_
                    refine SO.passF rfl rfl rfl b72 rfl rfl ?_
                    cases h
                    refine SO.v rfl (opv_pick_t' b72 rfl rfl) ?_
                    refine SO.b9 ?_
                    refine SO.b9 ?_
                    refine SO.b9 ?_
                    refine SO.b9 ?_
                    refine SO.b9 ?_
                    refine SO.b9 ?_
                    refine SO.b9 ?_
                    refine SO.b9 ?_
                    refine SO.b9 ?_
                    refine SO.b9 ?_
                    exact hk2.fitc (m := 6) rfl (rfl) rfl
                  · replace h := cond_f b72 h
                    refine SO.takeT rfl rfl rfl b72 ?_
                    refine SO.v rfl (opv_move rfl) ?_
                    refine SO.takeT rfl rfl rfl b72 ?_
                    refine SO.v rfl (opv_iface Try.underlying25 rfl rfl) ?_
                    refine SO.takeT rfl rfl rfl b72 ?_
                    refine SO.v rfl (opv_move rfl) ?_
                    refine SO.takeT rfl rfl rfl b72 ?_
                    obtain ⟨⟨t77, s79⟩, ht78, h⟩ := opt_bind h
                    refine SO.call (pre := [(plainV v20).rep _]) rfl Try.call10 rfl rfl rfl (endp_State.ct (plainV v20) _ _ _ _ ht78) trivial ?_
                    rintro _ _ ⟨rfl, rfl⟩
                    refine headEq (plainV_rep _ _) ?_
                    refine SO.rd fun hr80 => ?_
                    refine SO.takeT rfl rfl rfl b72 ?_
                    refine SO.v rfl (opv_eql rfl rfl) ?_
                    cases h
                    refine SO.v rfl (opv_pick_f' b72 rfl rfl) ?_
                    refine SO.b9 ?_
                    refine SO.b9 ?_
                    refine SO.b9 ?_
                    refine SO.b9 ?_
                    refine SO.b9 ?_
                    refine SO.b9 ?_
                    refine SO.b9 ?_
                    refine SO.b9 ?_
                    refine SO.b9 ?_
                    refine SO.b9 ?_
                    exact hk2.fitc (m := 6) rfl (rfl) rfl
                clear hc74
                replace h := hgk
                refine SO.rd fun hr76 => ?_
                refine SO.v rfl (opv_assign rfl) ?_
                refine SO.nil ?_
                refine S.inBlock ?_
                refine S.region ?_
                refine SO.v rfl (opv_move rfl) ?_
                refine SO.v rfl (opv_add rfl rfl) ?_
                refine SO.v rfl (opv_assign rfl) ?_
                refine SO.nil ?_
                refine S.to (ρ' := [(18, .int .i64 (w64 (x18_4 + 1))), (17, .bool c73), (16, .int .i64 t67), (0, .int .i64 a0), (1, v1), (4, .bool false), (5, .bool t1), (6, v20), (7, .int .i64 (w64 (a0 + 3))), (8, v8_2), (9, v9_3), (10, v22), (13, .int .i64 x13_2), (15, .int .i64 t44)]) ⟨rfl, rfl, rfl, rfl, rfl, rfl, rfl, rfl, rfl, rfl, rfl, rfl, rfl, rfl, trivial⟩ ?_
                refine S.b9 ?_
                refine S.b9 ?_
                refine S.b9 ?_
                refine S.b9 ?_
                refine S.b9 ?_
                refine S.b9 ?_
                refine S.b6 ?_
                refine S.b9 ?_
                refine S.b9 ?_
                refine S.b9 ?_
                refine S.to ?_ (ih4 ((w64 (x18_4 + 1), c73, w75), ()) h)
                exact ⟨rfl, rfl, rfl, rfl, rfl, rfl, rfl, rfl, rfl, rfl, rfl, rfl, rfl, rfl, trivial⟩
              · replace h := cond_f b71 h
                refine S.condF rfl b71 ?_
                refine S.exit rfl ?_
                cases h
                refine S.b9 ?_
                refine S.b9 ?_
                refine S.b9 ?_
                refine S.b9 ?_
                refine S.b9 ?_
                refine S.b9 ?_
                refine S.b6 ?_
                refine S.b9 ?_
                refine S.b9 ?_
                refine S.b9 ?_
                refine S.to ?_ (hK4 ())
                exact ⟨rfl, rfl, rfl, rfl, rfl, rfl, rfl, rfl, rfl, rfl, rfl, rfl, rfl, trivial⟩
            rintro _
            refine S.b3 ?_
            refine S.rd fun hr81 => ?_
            refine S.seq ?_
            refine S.region ?_
            refine SO.v rfl (opv_move rfl) ?_
            refine SO.v rfl (opv_iface Try.underlying25 rfl rfl) ?_
            refine SO.v rfl (opv_move rfl) ?_
            refine SO.v rfl (opv_move rfl) ?_
            refine SO.v rfl (opv_move rfl) ?_
            refine SO.v rfl (opv_add rfl rfl) ?_
            refine SO.v rfl (opv_move rfl) ?_
            refine SO.v rfl (opv_eql rfl rfl) ?_
            obtain ⟨⟨⟨t82, t83⟩, s85⟩, ht84, h⟩ := opt_bind h
            refine SO.call (pre := [(plainV v20).rep _]) rfl Try.call11 rfl rfl rfl (endp_Send.ct (plainV v20) _ _ _ _ _ _ _ _ _ _ ht84) trivial ?_
            rintro _ _ ⟨rfl, rfl⟩
            refine headEq (plainV_rep _ _) ?_
            refine SO.rd fun hr86 => ?_
            refine SO.v rfl (opv_move rfl) ?_
            refine SO.v rfl (opv_extract rfl rfl) ?_
            refine SO.v rfl (opv_extract rfl rfl) ?_
            refine SO.v rfl (opv_assign rfl) ?_
            refine SO.v rfl (opv_assign rfl) ?_
            refine SO.nil ?_
            refine S.to (ρ' := [(0, .int .i64 a0), (1, v1), (4, .bool false), (5, .bool t1), (6, v20), (7, .int .i64 (w64 (a0 + 3))), (8, v8_2), (9, v9_3), (10, v22), (13, .int .i64 x13_2), (16, .int .i64 t67), (17, .bool j17_e4), (19, .bool t82), (20, errV 44 t83)]) ⟨rfl, rfl, rfl, rfl, rfl, rfl, rfl, rfl, rfl, rfl, rfl, rfl, rfl, rfl, trivial⟩ ?_
            refine S.seq ?_
            refine S.seq ?_
            refine S.region ?_
            refine SO.v rfl (opv_move rfl) ?_
            refine SO.v rfl (opv_neqN (e := t83) Try.underlying37 rfl) ?_
            refine SO.v rfl (opv_move rfl) ?_
            refine SO.cut 9 144 (.bool (t83.isSome || (t82 != ((!j17_e4) || (t67 == 1))))) [Own 35 (ekI .u64) v20 s85, Box b43 [.int .i64 x41.What, .int .i64 x41.T, .int .i64 x41.N, .int .i64 x41.B], Own 4 ekB v22 qv22_3, Own 3 (ekI .i64) v9_3 j9_3, Own 3 (ekI .i64) v8_2 x8_2, Own 3 (ekI .i64) v26 qv26_e1, Box b8 [u9_Slots, u9_Objs, .int .i64 t6.NS, .int .i64 t6.NO], OwnO 81 kr_ref10_Slot u9_Slots raws10 A11 t6.Slots, OwnO 72 kr_ref10_Obj u9_Objs raws14 A15 t6.Objs, F] (fun l2 hk2 => ?_) ?_
            · rcases bool_or t83.isSome with b87 | b87
              · refine SO.passF rfl rfl rfl b87 rfl rfl ?_
                refine SO.passF rfl rfl rfl b87 rfl rfl ?_
                refine SO.passF rfl rfl rfl b87 rfl rfl ?_
                refine SO.passF rfl rfl rfl b87 rfl rfl ?_
                refine SO.pass_undef rfl rfl rfl rfl ?_
                refine SO.pass_undef rfl rfl rfl rfl ?_
                refine SO.passF rfl rfl rfl b87 rfl rfl ?_
                refine SO.passF rfl rfl rfl b87 rfl rfl ?_
                refine SO.v rfl (opv_pick_t' b87 rfl rfl) ?_
                refine SO.b9 ?_
                refine SO.b9 ?_
                refine SO.b9 ?_
                refine SO.b9 ?_
                refine SO.b9 ?_
                refine SO.b9 ?_
                refine SO.b9 ?_
                refine SO.b9 ?_
                refine SO.b9 ?_
                refine SO.b9 ?_
                exact hk2.fitc (m := 9) rfl (or_t b87) rfl
              · refine SO.takeT rfl rfl rfl b87 ?_
                refine SO.v rfl (opv_move rfl) ?_
                refine SO.takeT rfl rfl rfl b87 ?_
                refine SO.v rfl (opv_move rfl) ?_
                refine SO.takeT rfl rfl rfl b87 ?_
                refine SO.v rfl (opv_not rfl) ?_
                refine SO.takeT rfl rfl rfl b87 ?_
                refine SO.v rfl (opv_move rfl) ?_
                refine SO.cut 3 142 (.bool ((!j17_e4) || (t67 == 1))) [Own 35 (ekI .u64) v20 s85, Box b43 [.int .i64 x41.What, .int .i64 x41.T, .int .i64 x41.N, .int .i64 x41.B], Own 4 ekB v22 qv22_3, Own 3 (ekI .i64) v9_3 j9_3, Own 3 (ekI .i64) v8_2 x8_2, Own 3 (ekI .i64) v26 qv26_e1, Box b8 [u9_Slots, u9_Objs, .int .i64 t6.NS, .int .i64 t6.NO], OwnO 81 kr_ref10_Slot u9_Slots raws10 A11 t6.Slots, OwnO 72 kr_ref10_Obj u9_Objs raws14 A15 t6.Objs, F] (fun l2 hk2 => ?_) ?_
                · rcases bool_or (!j17_e4) with b88 | b88
                  · refine SO.passF rfl rfl rfl b88 rfl rfl ?_
                    refine SO.passF rfl rfl rfl b88 rfl rfl ?_
                    refine SO.takeT rfl rfl rfl b87 ?_
                    refine SO.v rfl (opv_pick_t' b88 rfl rfl) ?_
                    refine SO.b9 ?_
                    refine SO.b9 ?_
                    refine SO.b9 ?_
                    refine SO.b9 ?_
                    refine SO.b9 ?_
                    refine SO.b9 ?_
                    refine SO.b9 ?_
                    refine SO.b9 ?_
                    refine SO.b9 ?_
                    refine SO.b9 ?_
                    exact hk2.fitc (m := 3) rfl (or_t b88) rfl
                  · refine SO.takeT rfl rfl rfl b88 ?_
                    refine SO.v rfl (opv_move rfl) ?_
                    refine SO.takeT rfl rfl rfl b88 ?_
                    refine SO.v rfl (opv_eql rfl rfl) ?_
                    refine SO.takeT rfl rfl rfl b87 ?_
                    refine SO.v rfl (opv_pick_f' b88 rfl rfl) ?_
                    refine SO.b9 ?_
                    refine SO.b9 ?_
                    refine SO.b9 ?_
                    refine SO.b9 ?_
                    refine SO.b9 ?_
                    refine SO.b9 ?_
                    refine SO.b9 ?_
                    refine SO.b9 ?_
                    refine SO.b9 ?_
                    refine SO.b9 ?_
                    exact hk2.fitc (m := 3) rfl (or_f b88) rfl
                refine SO.takeT rfl rfl rfl b87 ?_
                refine SO.v rfl (opv_neqB Try.underlying4 rfl rfl) ?_
                refine SO.v rfl (opv_pick_f' b87 rfl rfl) ?_
                refine SO.b9 ?_
                refine SO.b9 ?_
                refine SO.b9 ?_
                refine SO.b9 ?_
                refine SO.b9 ?_
                refine SO.b9 ?_
                refine SO.b9 ?_
                refine SO.b9 ?_
                refine SO.b9 ?_
                refine SO.b9 ?_
                exact hk2.fitc (m := 7) rfl (or_f b87) rfl
            refine SO.nil ?_
            refine S.to (ρ' := [(0, .int .i64 a0), (1, v1), (4, .bool false), (5, .bool t1), (6, v20), (7, .int .i64 (w64 (a0 + 3))), (8, v8_2), (9, v9_3), (10, v22), (13, .int .i64 x13_2), (144, .bool (t83.isSome || (t82 != ((!j17_e4) || (t67 == 1)))))]) ⟨rfl, rfl, rfl, rfl, rfl, rfl, rfl, rfl, rfl, rfl, rfl, trivial⟩ ?_
            rcases bool_or (t83.isSome || (t82 != ((!j17_e4) || (t67 == 1)))) with b89 | b89
            · replace h := cond_t b89 h
              refine S.condT rfl b89 ?_
              refine S.seq ?_
              refine S.region ?_
              refine SO.v rfl (opv_assign rfl) ?_
              refine SO.nil ?_
              refine S.to (ρ' := [(4, .bool false)]) ⟨rfl, trivial⟩ ?_
              cases h
              replace h := hK2.1 _ rfl
              cases h
              refine S.b7 ?_
              refine S.closeR ?_
              refine S.b8 ?_
              refine S.closeR ?_
              refine S.drop ?_
              refine S.drop ?_
              refine S.drop ?_
              refine S.drop ?_
              refine S.drop ?_
              refine S.drop ?_
              refine S.drop ?_
              refine S.drop ?_
              refine S.drop ?_
              exact S.ret1 Try.func3 rfl rfl (fun w hs hk => hR w _ _ ⟨rfl, rfl⟩ hs hk)
            · replace h := cond_f b89 h
              refine S.condF rfl b89 ?_
              refine S.skip ?_
              refine S.region ?_
              refine SO.v rfl (opv_move rfl) ?_
              refine SO.v rfl (opv_move rfl) ?_
              refine SO.v rfl (opv_add rfl rfl) ?_
              refine SO.buildSlice (K := ekI .i64) (xs := [w64 (x13_2 + 1)]) (cs := [.int .i64 (w64 (x13_2 + 1))]) rfl Try.underlying29 Try.sizeOf3 Try.zeroValue3 rfl rfl rfl (by kernel_rfl) rfl rfl rfl (fun v90 hr91 => ?_)
              obtain ⟨zs92, hz93, h⟩ := opt_bind h
              refine SO.b5 ?_
              refine SO.append rfl Try.underlying29 Try.underlying29 inf3 rfl rfl rfl (by decide) rfl rfl rfl (Rd.head hr91) hz93 (fun v94 => ?_)
              refine SO.rd fun hr95 => ?_
              refine SO.v rfl (opv_assign rfl) ?_
              refine SO.nil ?_
              refine S.inBlock ?_
              refine S.region ?_
              refine SO.v rfl (opv_move rfl) ?_
              refine SO.v rfl (opv_add rfl rfl) ?_
              refine SO.v rfl (opv_assign rfl) ?_
              refine SO.nil ?_
              refine S.to (ρ' := [(0, .int .i64 a0), (1, v1), (4, .bool false), (5, .bool t1), (6, v20), (7, .int .i64 (w64 (a0 + 3))), (8, v94), (9, v9_3), (10, v22), (13, .int .i64 (w64 (x13_2 + 1)))]) ⟨rfl, rfl, rfl, rfl, rfl, rfl, rfl, rfl, rfl, rfl, trivial⟩ ?_
              refine S.b1 ?_
              refine S.drop ?_
              refine S.b2 ?_
              refine S.drop ?_
              refine S.b8 ?_
              refine S.b8 ?_
              refine S.b8 ?_
              refine S.b8 ?_
              refine S.b5 ?_
              refine S.b6 ?_
              refine S.b8 ?_
              refine S.b7 ?_
              refine S.b8 ?_
              refine S.to ?_ (ih2 ((w64 (x13_2 + 1), zs92, j9_3, s85, qv22_3), (v94, v9_3)) h)
              exact ⟨rfl, rfl, rfl, rfl, rfl, rfl, rfl, rfl, rfl, rfl, trivial⟩
          · replace h := cond_f b69 h
            refine S.condF rfl b69 ?_
            refine S.seq ?_
            refine S.region ?_
            refine SO.v rfl (opv_move rfl) ?_
            refine SO.v rfl (opv_eql rfl rfl) ?_
            refine SO.nil ?_
            refine S.to (ρ' := [(0, .int .i64 a0), (1, v1), (4, .bool false), (5, .bool t1), (6, v20), (7, .int .i64 (w64 (a0 + 3))), (8, v8_2), (9, v9_3), (10, v22), (13, .int .i64 x13_2), (15, .int .i64 t44), (151, .bool (t67 == 2))]) ⟨rfl, rfl, rfl, rfl, rfl, rfl, rfl, rfl, rfl, rfl, rfl, rfl, trivial⟩ ?_
            rcases bool_or (t67 == 2) with b96 | b96
            · replace h := cond_t b96 h
              refine S.condT rfl b96 ?_
              refine S.seq ?_
              refine S.region ?_
              refine SO.v rfl (opv_move rfl) ?_
              refine SO.v rfl (opv_iface Try.underlying25 rfl rfl) ?_
              refine SO.v rfl (opv_move rfl) ?_
              refine SO.v rfl (opv_move rfl) ?_
              obtain ⟨⟨⟨t97, t98, t99⟩, s101⟩, ht100, h⟩ := opt_bind h
              refine SO.b3 ?_
              refine SO.call (pre := [(plainV v20).rep _]) rfl Try.call12 rfl rfl rfl (endp_Recv.ct (plainV v20) _ _ _ _ _ _ _ _ ht100) trivial ?_
              rintro _ _ ⟨rfl, rfl⟩
              refine headEq (plainV_rep _ _) ?_
              refine SO.rd fun hr102 => ?_
              refine SO.v rfl (opv_move rfl) ?_
              refine SO.v rfl (opv_extract rfl rfl) ?_
              refine SO.v rfl (opv_extract rfl rfl) ?_
              refine SO.v rfl (opv_extract rfl rfl) ?_
              refine SO.alloc rfl Try.zeroValue41 rfl (fun b103 => ?_)
              refine SO.storeN Try.sizeOf41 rfl rfl rfl rfl rfl rfl ?_
              refine SO.v rfl (opv_assign rfl) ?_
              refine SO.v rfl (opv_assign rfl) ?_
              refine SO.nil ?_
              refine S.to (ρ' := [(0, .int .i64 a0), (1, v1), (4, .bool false), (5, .bool t1), (6, v20), (7, .int .i64 (w64 (a0 + 3))), (8, v8_2), (9, v9_3), (10, v22), (13, .int .i64 x13_2), (15, .int .i64 t44), (21, bp b103 0), (22, .bool t98), (23, errV 44 t99)]) ⟨rfl, rfl, rfl, rfl, rfl, rfl, rfl, rfl, rfl, rfl, rfl, rfl, rfl, rfl, trivial⟩ ?_
              refine S.seq ?_
              refine S.seq ?_
              refine S.region ?_
              refine SO.v rfl (opv_move rfl) ?_
              refine SO.v rfl (opv_neqN (e := t99) Try.underlying37 rfl) ?_
              refine SO.nil ?_
              rcases bool_or t99.isSome with b104 | b104
              · replace h := cond_t b104 h
                refine S.condT rfl b104 ?_
                refine S.seq ?_
                refine S.seq ?_
                refine S.region ?_
                refine SO.v rfl (opv_move rfl) ?_
                refine SO.v rfl (opv_iface Try.underlying44 rfl rfl) ?_
                refine SO.v rfl (opv_neqE (e := t99) (c := 10) Try.underlying37 Try.underlying44 inf44 rfl rfl rfl) ?_
                refine SO.nil ?_
                refine S.to (ρ' := [(0, .int .i64 a0), (1, v1), (4, .bool false), (5, .bool t1), (6, v20), (7, .int .i64 (w64 (a0 + 3))), (8, v8_2), (9, v9_3), (10, v22), (13, .int .i64 x13_2), (165, .bool (t99 != some 10))]) ⟨rfl, rfl, rfl, rfl, rfl, rfl, rfl, rfl, rfl, rfl, rfl, trivial⟩ ?_
                rcases bool_or (t99 != some 10) with b105 | b105
                · replace h := cond_t b105 h
                  refine S.condT rfl b105 ?_
                  refine S.seq ?_
                  refine S.region ?_
                  refine SO.v rfl (opv_assign rfl) ?_
                  refine SO.nil ?_
                  refine S.to (ρ' := [(4, .bool false)]) ⟨rfl, trivial⟩ ?_
                  cases h
                  replace h := hK2.1 _ rfl
                  cases h
                  refine S.b8 ?_
                  refine S.closeR ?_
                  refine S.b9 ?_
                  refine S.closeR ?_
                  refine S.drop ?_
                  refine S.drop ?_
                  refine S.drop ?_
                  refine S.drop ?_
                  refine S.drop ?_
                  refine S.drop ?_
                  refine S.drop ?_
                  refine S.drop ?_
                  refine S.drop ?_
                  refine S.drop ?_
                  exact S.ret1 Try.func3 rfl rfl (fun w hs hk => hR w _ _ ⟨rfl, rfl⟩ hs hk)
                · replace h := cond_f b105 h
                  refine S.condF rfl b105 ?_
                  refine S.skip ?_
                  refine S.exit rfl ?_
                  refine S.region ?_
                  refine SO.v rfl (opv_move rfl) ?_
                  refine SO.v rfl (opv_add rfl rfl) ?_
                  refine SO.v rfl (opv_assign rfl) ?_
                  refine SO.nil ?_
                  refine S.drop ?_
                  refine S.b1 ?_
                  refine S.drop ?_
                  refine S.b8 ?_
                  refine S.b8 ?_
                  refine S.b8 ?_
                  refine S.b8 ?_
                  refine S.b4 ?_
                  refine S.b5 ?_
                  refine S.b8 ?_
                  refine S.b8 ?_
                  refine S.b8 ?_
                  refine S.to ?_ (ih2 ((w64 (x13_2 + 1), x8_2, j9_3, s101, qv22_3), (v8_2, v9_3)) h)
                  exact ⟨rfl, rfl, rfl, rfl, rfl, rfl, rfl, rfl, rfl, rfl, trivial⟩
              · replace h := cond_f b104 h
                refine S.condF rfl b104 ?_
                refine S.skip ?_
                refine S.seq ?_
                refine S.region ?_
                refine SO.v rfl (opv_move rfl) ?_
                refine SO.nil ?_
                rcases bool_or t98 with b106 | b106
                · replace h := cond_t b106 h
                  refine S.condT rfl b106 ?_
                  refine S.region ?_
                  refine SO.v rfl (opv_move rfl) ?_
                  refine SO.v rfl (opv_fieldAddr Try.underlying41 rfl Try.sizeOf3 rfl rfl) ?_
                  refine SO.load1 rfl Try.isAgg3 rfl rfl ?_
                  refine SO.buildSlice (K := ekI .i64) (xs := [t97.Word]) (cs := [.int .i64 t97.Word]) rfl Try.underlying29 Try.sizeOf3 Try.zeroValue3 rfl rfl rfl (by kernel_rfl) rfl rfl rfl (fun v107 hr108 => ?_)
                  obtain ⟨zs109, hz110, h⟩ := opt_bind h
                  refine SO.b5 ?_
                  refine SO.append rfl Try.underlying29 Try.underlying29 inf3 rfl rfl rfl (by decide) rfl rfl rfl (Rd.head hr108) hz110 (fun v111 => ?_)
                  refine SO.rd fun hr112 => ?_
                  refine SO.v rfl (opv_assign rfl) ?_
                  refine SO.nil ?_
                  refine S.to (ρ' := [(0, .int .i64 a0), (1, v1), (4, .bool false), (5, .bool t1), (6, v20), (7, .int .i64 (w64 (a0 + 3))), (8, v8_2), (9, v111), (10, v22), (13, .int .i64 x13_2)]) ⟨rfl, rfl, rfl, rfl, rfl, rfl, rfl, rfl, rfl, rfl, trivial⟩ ?_
                  refine S.inBlock ?_
                  refine S.region ?_
                  refine SO.v rfl (opv_move rfl) ?_
                  refine SO.v rfl (opv_add rfl rfl) ?_
                  refine SO.v rfl (opv_assign rfl) ?_
                  refine SO.nil ?_
                  refine S.b1 ?_
                  refine S.drop ?_
                  refine S.b1 ?_
                  refine S.drop ?_
                  refine S.b2 ?_
                  refine S.drop ?_
                  refine S.b8 ?_
                  refine S.b8 ?_
                  refine S.b8 ?_
                  refine S.b8 ?_
                  refine S.b5 ?_
                  refine S.b6 ?_
                  refine S.b8 ?_
                  refine S.b8 ?_
                  refine S.b8 ?_
                  refine S.to ?_ (ih2 ((w64 (x13_2 + 1), x8_2, zs109, s101, qv22_3), (v8_2, v111)) h)
                  exact ⟨rfl, rfl, rfl, rfl, rfl, rfl, rfl, rfl, rfl, rfl, trivial⟩
                · replace h := cond_f b106 h
                  refine S.condF rfl b106 ?_
                  refine S.region ?_
                  refine SO.v rfl (opv_move rfl) ?_
                  refine SO.v rfl (opv_move rfl) ?_
                  obtain ⟨x113, hx114, h⟩ := opt_bind h
                  refine SO.v rfl (opv_idx Try.underlying30 Try.sizeOf4 hr66 rfl rfl hx114) ?_
                  refine SO.b3 ?_
                  refine SO.storeI1 (j := 0) (z' := true) Try.sizeOf4 hx114 rfl rfl rfl rfl rfl rfl ?_
                  refine SO.rd fun hr115 => ?_
                  refine SO.nil ?_
                  refine S.to (ρ' := [(0, .int .i64 a0), (1, v1), (4, .bool false), (5, .bool t1), (6, v20), (7, .int .i64 (w64 (a0 + 3))), (8, v8_2), (9, v9_3), (10, v22), (13, .int .i64 x13_2)]) ⟨rfl, rfl, rfl, rfl, rfl, rfl, rfl, rfl, rfl, rfl, trivial⟩ ?_
                  refine S.inBlock ?_
                  refine S.region ?_
                  refine SO.v rfl (opv_move rfl) ?_
                  refine SO.v rfl (opv_add rfl rfl) ?_
                  refine SO.v rfl (opv_assign rfl) ?_
                  refine SO.nil ?_
                  refine S.b1 ?_
                  refine S.drop ?_
                  refine S.b2 ?_
                  refine S.drop ?_
                  refine S.b8 ?_
                  refine S.b8 ?_
                  refine S.b8 ?_
                  refine S.b8 ?_
                  refine S.b5 ?_
                  refine S.b5 ?_
                  refine S.b8 ?_
                  refine S.b8 ?_
                  refine S.b8 ?_
                  refine S.to ?_ (ih2 ((w64 (x13_2 + 1), x8_2, j9_3, s101, qv22_3.set t44.toNat true), (v8_2, v9_3)) h)
                  exact ⟨rfl, rfl, rfl, rfl, rfl, rfl, rfl, rfl, rfl, rfl, trivial⟩
            · replace h := cond_f b96 h
              refine S.condF rfl b96 ?_
              refine S.seq ?_
              refine S.region ?_
              refine SO.v rfl (opv_assign rfl) ?_
              refine SO.nil ?_
              refine S.seq ?_
              refine S.seq ?_
              refine S.region ?_
              refine SO.v rfl (opv_assign rfl) ?_
              refine SO.nil ?_
              obtain ⟨⟨j24_e5, qv20_e5⟩, hl5, h⟩ := opt_bind h
              refine S.b9 ?_
              refine S.b9 ?_
              refine S.b9 ?_
              refine S.b9 ?_
              refine S.b9 ?_
              refine S.b9 ?_
              refine S.b9 ?_
              refine S.b9 ?_
              refine S.b9 ?_
              refine S.b9 ?_
              refine S.to (ρ' := [(25, .int .i64 0), (24, .int .i64 0), (0, .int .i64 a0), (1, v1), (4, .bool false), (5, .bool t1), (6, v20), (7, .int .i64 (w64 (a0 + 3))), (8, v8_2), (9, v9_3), (10, v22), (13, .int .i64 x13_2), (15, .int .i64 t44)]) ⟨rfl, rfl, rfl, rfl, rfl, rfl, rfl, rfl, rfl, rfl, rfl, rfl, rfl, trivial⟩ ?_
              refine S.forloop (X := (Int × Int × (List Int)) × Unit) (O := (Int × (List Int))) (fun m x => law15_EndpOnce.l5 a0 m x.1) (fun x => match x with | ((x25_5, x24_5, qv20_5), _) => [(25, .int .i64 x25_5), (24, .int .i64 x24_5), (0, .int .i64 a0), (1, v1), (4, .bool false), (5, .bool t1), (6, v20), (7, .int .i64 (w64 (a0 + 3))), (8, v8_2), (9, v9_3), (10, v22), (13, .int .i64 x13_2), (15, .int .i64 t44)]) (fun x => match x with | ((x25_5, x24_5, qv20_5), _) => [Box b43 [.int .i64 x41.What, .int .i64 x41.T, .int .i64 x41.N, .int .i64 x41.B], Own 4 ekB v22 qv22_3, Own 3 (ekI .i64) v9_3 j9_3, Own 35 (ekI .u64) v20 qv20_5, Own 3 (ekI .i64) v8_2 x8_2, Own 3 (ekI .i64) v26 qv26_e1, Box b8 [u9_Slots, u9_Objs, .int .i64 t6.NS, .int .i64 t6.NO], OwnO 81 kr_ref10_Slot u9_Slots raws10 A11 t6.Slots, OwnO 72 kr_ref10_Obj u9_Objs raws14 A15 t6.Objs, F]) (fun Sk => (fun x => match x with | (j24_e5, qv20_e5) => ∀ _ : Unit, Sk [(0, .int .i64 a0), (1, v1), (4, .bool false), (5, .bool t1), (6, v20), (7, .int .i64 (w64 (a0 + 3))), (8, v8_2), (9, v9_3), (10, v22), (13, .int .i64 x13_2), (15, .int .i64 t44), (24, .int .i64 j24_e5)] [Box b43 [.int .i64 x41.What, .int .i64 x41.T, .int .i64 x41.N, .int .i64 x41.B], Own 4 ekB v22 qv22_3, Own 3 (ekI .i64) v9_3 j9_3, Own 35 (ekI .u64) v20 qv20_e5, Own 3 (ekI .i64) v8_2 x8_2, Own 3 (ekI .i64) v26 qv26_e1, Box b8 [u9_Slots, u9_Objs, .int .i64 t6.NS, .int .i64 t6.NO], OwnO 81 kr_ref10_Slot u9_Slots raws10 A11 t6.Slots, OwnO 72 kr_ref10_Obj u9_Objs raws14 A15 t6.Objs, F])) (fun _ => rfl) ?_ (m := k) (x := ((0, 0, s48), ())) hl5 ?_
              · clear h hl5
                intro k x o_5 h hK5 ih5
                obtain ⟨⟨x25_5, x24_5, qv20_5⟩, _⟩ := x
                replace h : law15_EndpOnce.l5 a0 (k + 1) (x25_5, x24_5, qv20_5) = some o_5 := h
                first | rw [law15_EndpOnce.l5] at h | unfold law15_EndpOnce.l5 at h
                refine S.b3 ?_
                refine S.rd fun hr116 => ?_
                refine S.seq ?_
                refine S.seq ?_
                refine S.region ?_
                refine SO.v rfl (opv_move rfl) ?_
                refine SO.v rfl (opv_move rfl) ?_
                refine SO.v rfl (opv_lss rfl rfl) ?_
                refine SO.nil ?_
                rcases bool_or (decide (x25_5 < a0)) with b117 | b117
                · replace h := cond_t b117 h
                  refine S.condT rfl b117 ?_
                  refine S.skip ?_
                  refine S.seq ?_
                  refine S.block ?_
                  refine S.seq ?_
                  refine S.region ?_
                  refine SO.v rfl (opv_move rfl) ?_
                  refine SO.v rfl (opv_iface Try.underlying25 rfl rfl) ?_
                  refine SO.v rfl (opv_move rfl) ?_
                  obtain ⟨⟨t118, s120⟩, ht119, h⟩ := opt_bind h
                  refine SO.call (pre := [(plainV v20).rep _]) rfl Try.call10 rfl rfl rfl (endp_State.ct (plainV v20) _ _ _ _ ht119) trivial ?_
                  rintro _ _ ⟨rfl, rfl⟩
                  refine headEq (plainV_rep _ _) ?_
                  refine SO.rd fun hr121 => ?_
                  refine SO.v rfl (opv_eql rfl rfl) ?_
                  refine SO.nil ?_
                  refine S.to (ρ' := [(25, .int .i64 x25_5), (24, .int .i64 x24_5), (0, .int .i64 a0), (1, v1), (4, .bool false), (5, .bool t1), (6, v20), (7, .int .i64 (w64 (a0 + 3))), (8, v8_2), (9, v9_3), (10, v22), (13, .int .i64 x13_2), (15, .int .i64 t44), (184, .bool (t118 == 4))]) ⟨rfl, rfl, rfl, rfl, rfl, rfl, rfl, rfl, rfl, rfl, rfl, rfl, rfl, rfl, trivial⟩ ?_
                  rcases bool_or (t118 == 4) with b122 | b122
                  · replace h := cond_t b122 h
                    refine S.condT rfl b122 ?_
                    refine S.region ?_
                    refine SO.v rfl (opv_move rfl) ?_
                    refine SO.v rfl (opv_add rfl rfl) ?_
                    refine SO.v rfl (opv_assign rfl) ?_
                    refine SO.nil ?_
                    refine S.inBlock ?_
                    refine S.region ?_
                    refine SO.v rfl (opv_move rfl) ?_
                    refine SO.v rfl (opv_add rfl rfl) ?_
                    refine SO.v rfl (opv_assign rfl) ?_
                    refine SO.nil ?_
                    refine S.b9 ?_
                    refine S.b9 ?_
                    refine S.b9 ?_
                    refine S.b9 ?_
                    refine S.b9 ?_
                    refine S.b9 ?_
                    refine S.b6 ?_
                    refine S.b9 ?_
                    refine S.b9 ?_
                    refine S.b9 ?_
                    refine S.to ?_ (ih5 ((w64 (x25_5 + 1), w64 (x24_5 + 1), s120), ()) h)
                    exact ⟨rfl, rfl, rfl, rfl, rfl, rfl, rfl, rfl, rfl, rfl, rfl, rfl, rfl, trivial⟩
                  · replace h := cond_f b122 h
                    refine S.condF rfl b122 ?_
                    refine S.skip ?_
                    refine S.inBlock ?_
                    refine S.region ?_
                    refine SO.v rfl (opv_move rfl) ?_
                    refine SO.v rfl (opv_add rfl rfl) ?_
                    refine SO.v rfl (opv_assign rfl) ?_
                    refine SO.nil ?_
                    refine S.b9 ?_
                    refine S.b9 ?_
                    refine S.b9 ?_
                    refine S.b9 ?_
                    refine S.b9 ?_
                    refine S.b9 ?_
                    refine S.b6 ?_
                    refine S.b9 ?_
                    refine S.b9 ?_
                    refine S.b9 ?_
                    refine S.to ?_ (ih5 ((w64 (x25_5 + 1), x24_5, s120), ()) h)
                    exact ⟨rfl, rfl, rfl, rfl, rfl, rfl, rfl, rfl, rfl, rfl, rfl, rfl, rfl, trivial⟩
                · replace h := cond_f b117 h
                  refine S.condF rfl b117 ?_
                  refine S.exit rfl ?_
                  cases h
                  refine S.b9 ?_
                  refine S.b9 ?_
                  refine S.b9 ?_
                  refine S.b9 ?_
                  refine S.b9 ?_
                  refine S.b9 ?_
                  refine S.b6 ?_
                  refine S.b9 ?_
                  refine S.b9 ?_
                  refine S.b9 ?_
                  refine S.to ?_ (hK5 ())
                  exact ⟨rfl, rfl, rfl, rfl, rfl, rfl, rfl, rfl, rfl, rfl, rfl, rfl, trivial⟩
              rintro _
              refine S.b3 ?_
              refine S.rd fun hr123 => ?_
              refine S.seq ?_
              refine S.region ?_
              refine SO.v rfl (opv_move rfl) ?_
              refine SO.v rfl (opv_iface Try.underlying25 rfl rfl) ?_
              refine SO.v rfl (opv_move rfl) ?_
              obtain ⟨⟨t124, s126⟩, ht125, h⟩ := opt_bind h
              refine SO.call (pre := [(plainV v20).rep _]) rfl Try.call13 rfl rfl rfl (endp_Answer.ct (plainV v20) _ _ _ _ _ ht125) trivial ?_
              rintro _ _ ⟨rfl, rfl⟩
              refine headEq (plainV_rep _ _) ?_
              refine SO.rd fun hr127 => ?_
              refine SO.v rfl (opv_assign rfl) ?_
              refine SO.nil ?_
              refine S.seq ?_
              refine S.region ?_
              refine SO.v rfl (opv_assign rfl) ?_
              refine SO.nil ?_
              refine S.seq ?_
              refine S.seq ?_
              refine S.region ?_
              refine SO.v rfl (opv_assign rfl) ?_
              refine SO.nil ?_
              obtain ⟨⟨j27_e6, qv20_e6⟩, hl6, h⟩ := opt_bind h
              refine S.b9 ?_
              refine S.b9 ?_
              refine S.b9 ?_
              refine S.b9 ?_
              refine S.b9 ?_
              refine S.b9 ?_
              refine S.b9 ?_
              refine S.b9 ?_
              refine S.b9 ?_
              refine S.b9 ?_
              refine S.to (ρ' := [(28, .int .i64 0), (27, .int .i64 0), (26, errV 44 t124), (0, .int .i64 a0), (1, v1), (4, .bool false), (5, .bool t1), (6, v20), (7, .int .i64 (w64 (a0 + 3))), (8, v8_2), (9, v9_3), (10, v22), (13, .int .i64 x13_2), (24, .int .i64 j24_e5)]) ⟨rfl, rfl, rfl, rfl, rfl, rfl, rfl, rfl, rfl, rfl, rfl, rfl, rfl, rfl, trivial⟩ ?_
              refine S.forloop (X := (Int × Int × (List Int)) × Unit) (O := (Int × (List Int))) (fun m x => law15_EndpOnce.l6 a0 m x.1) (fun x => match x with | ((x28_6, x27_6, qv20_6), _) => [(28, .int .i64 x28_6), (27, .int .i64 x27_6), (26, errV 44 t124), (0, .int .i64 a0), (1, v1), (4, .bool false), (5, .bool t1), (6, v20), (7, .int .i64 (w64 (a0 + 3))), (8, v8_2), (9, v9_3), (10, v22), (13, .int .i64 x13_2), (24, .int .i64 j24_e5)]) (fun x => match x with | ((x28_6, x27_6, qv20_6), _) => [Own 35 (ekI .u64) v20 qv20_6, Box b43 [.int .i64 x41.What, .int .i64 x41.T, .int .i64 x41.N, .int .i64 x41.B], Own 4 ekB v22 qv22_3, Own 3 (ekI .i64) v9_3 j9_3, Own 3 (ekI .i64) v8_2 x8_2, Own 3 (ekI .i64) v26 qv26_e1, Box b8 [u9_Slots, u9_Objs, .int .i64 t6.NS, .int .i64 t6.NO], OwnO 81 kr_ref10_Slot u9_Slots raws10 A11 t6.Slots, OwnO 72 kr_ref10_Obj u9_Objs raws14 A15 t6.Objs, F]) (fun Sk => (fun x => match x with | (j27_e6, qv20_e6) => ∀ _ : Unit, Sk [(0, .int .i64 a0), (1, v1), (4, .bool false), (5, .bool t1), (6, v20), (7, .int .i64 (w64 (a0 + 3))), (8, v8_2), (9, v9_3), (10, v22), (13, .int .i64 x13_2), (24, .int .i64 j24_e5), (26, errV 44 t124), (27, .int .i64 j27_e6)] [Own 35 (ekI .u64) v20 qv20_e6, Box b43 [.int .i64 x41.What, .int .i64 x41.T, .int .i64 x41.N, .int .i64 x41.B], Own 4 ekB v22 qv22_3, Own 3 (ekI .i64) v9_3 j9_3, Own 3 (ekI .i64) v8_2 x8_2, Own 3 (ekI .i64) v26 qv26_e1, Box b8 [u9_Slots, u9_Objs, .int .i64 t6.NS, .int .i64 t6.NO], OwnO 81 kr_ref10_Slot u9_Slots raws10 A11 t6.Slots, OwnO 72 kr_ref10_Obj u9_Objs raws14 A15 t6.Objs, F])) (fun _ => rfl) ?_ (m := k) (x := ((0, 0, s126), ())) hl6 ?_
              · clear h hl6
                intro k x o_6 h hK6 ih6
                obtain ⟨⟨x28_6, x27_6, qv20_6⟩, _⟩ := x
                replace h : law15_EndpOnce.l6 a0 (k + 1) (x28_6, x27_6, qv20_6) = some o_6 := h
                first | rw [law15_EndpOnce.l6] at h | unfold law15_EndpOnce.l6 at h
                refine S.rd fun hr128 => ?_
                refine S.seq ?_
                refine S.seq ?_
                refine S.region ?_
                refine SO.v rfl (opv_move rfl) ?_
                refine SO.v rfl (opv_move rfl) ?_
                refine SO.v rfl (opv_lss rfl rfl) ?_
                refine SO.nil ?_
                rcases bool_or (decide (x28_6 < a0)) with b129 | b129
                · replace h := cond_t b129 h
                  refine S.condT rfl b129 ?_
                  refine S.skip ?_
                  refine S.seq ?_
                  refine S.block ?_
                  refine S.seq ?_
                  refine S.region ?_
                  refine SO.v rfl (opv_move rfl) ?_
                  refine SO.v rfl (opv_iface Try.underlying25 rfl rfl) ?_
                  refine SO.v rfl (opv_move rfl) ?_
                  obtain ⟨⟨t130, s132⟩, ht131, h⟩ := opt_bind h
                  refine SO.call (pre := [(plainV v20).rep _]) rfl Try.call10 rfl rfl rfl (endp_State.ct (plainV v20) _ _ _ _ ht131) trivial ?_
                  rintro _ _ ⟨rfl, rfl⟩
                  refine headEq (plainV_rep _ _) ?_
                  refine SO.rd fun hr133 => ?_
                  refine SO.v rfl (opv_eql rfl rfl) ?_
                  refine SO.nil ?_
                  refine S.to (ρ' := [(28, .int .i64 x28_6), (27, .int .i64 x27_6), (26, errV 44 t124), (0, .int .i64 a0), (1, v1), (4, .bool false), (5, .bool t1), (6, v20), (7, .int .i64 (w64 (a0 + 3))), (8, v8_2), (9, v9_3), (10, v22), (13, .int .i64 x13_2), (24, .int .i64 j24_e5), (200, .bool (t130 == 4))]) ⟨rfl, rfl, rfl, rfl, rfl, rfl, rfl, rfl, rfl, rfl, rfl, rfl, rfl, rfl, rfl, trivial⟩ ?_
                  rcases bool_or (t130 == 4) with b134 | b134
                  · replace h := cond_t b134 h
                    refine S.condT rfl b134 ?_
                    refine S.region ?_
                    refine SO.v rfl (opv_move rfl) ?_
                    refine SO.v rfl (opv_add rfl rfl) ?_
                    refine SO.v rfl (opv_assign rfl) ?_
                    refine SO.nil ?_
                    refine S.inBlock ?_
                    refine S.region ?_
                    refine SO.v rfl (opv_move rfl) ?_
                    refine SO.v rfl (opv_add rfl rfl) ?_
                    refine SO.v rfl (opv_assign rfl) ?_
                    refine SO.nil ?_
                    refine S.b9 ?_
                    refine S.b9 ?_
                    refine S.b9 ?_
                    refine S.b9 ?_
                    refine S.b9 ?_
                    refine S.b9 ?_
                    refine S.b9 ?_
                    refine S.b9 ?_
                    refine S.b9 ?_
                    refine S.b9 ?_
                    refine S.to ?_ (ih6 ((w64 (x28_6 + 1), w64 (x27_6 + 1), s132), ()) h)
                    exact ⟨rfl, rfl, rfl, rfl, rfl, rfl, rfl, rfl, rfl, rfl, rfl, rfl, rfl, rfl, trivial⟩
                  · replace h := cond_f b134 h
                    refine S.condF rfl b134 ?_
                    refine S.skip ?_
                    refine S.inBlock ?_
                    refine S.region ?_
                    refine SO.v rfl (opv_move rfl) ?_
                    refine SO.v rfl (opv_add rfl rfl) ?_
                    refine SO.v rfl (opv_assign rfl) ?_
                    refine SO.nil ?_
                    refine S.b9 ?_
                    refine S.b9 ?_
                    refine S.b9 ?_
                    refine S.b9 ?_
                    refine S.b9 ?_
                    refine S.b9 ?_
                    refine S.b9 ?_
                    refine S.b9 ?_
                    refine S.b9 ?_
                    refine S.b9 ?_
                    refine S.to ?_ (ih6 ((w64 (x28_6 + 1), x27_6, s132), ()) h)
                    exact ⟨rfl, rfl, rfl, rfl, rfl, rfl, rfl, rfl, rfl, rfl, rfl, rfl, rfl, rfl, trivial⟩
                · replace h := cond_f b129 h
                  refine S.condF rfl b129 ?_
                  refine S.exit rfl ?_
                  cases h
                  refine S.b9 ?_
                  refine S.b9 ?_
                  refine S.b9 ?_
                  refine S.b9 ?_
                  refine S.b9 ?_
                  refine S.b9 ?_
                  refine S.b9 ?_
                  refine S.b9 ?_
                  refine S.b9 ?_
                  refine S.b9 ?_
                  refine S.to ?_ (hK6 ())
                  exact ⟨rfl, rfl, rfl, rfl, rfl, rfl, rfl, rfl, rfl, rfl, rfl, rfl, rfl, trivial⟩
              rintro _
              refine S.rd fun hr135 => ?_
              refine S.seq ?_
              refine S.region ?_
              refine SO.v rfl (opv_move rfl) ?_
              refine SO.v rfl (opv_eqlN (e := t124) Try.underlying37 rfl) ?_
              refine SO.v rfl (opv_move rfl) ?_
              refine SO.v rfl (opv_move rfl) ?_
              refine SO.v rfl (opv_sub rfl rfl) ?_
              refine SO.v rfl (opv_eql rfl rfl) ?_
              refine SO.v rfl (opv_neqB Try.underlying4 rfl rfl) ?_
              refine SO.v rfl (opv_move rfl) ?_
              refine SO.cut 8 218 (.bool ((t124.isNone != (j27_e6 == (w64 (j24_e5 - 1)))) || (t124.isSome && (t124 != some 10)))) [Own 35 (ekI .u64) v20 qv20_e6, Box b43 [.int .i64 x41.What, .int .i64 x41.T, .int .i64 x41.N, .int .i64 x41.B], Own 4 ekB v22 qv22_3, Own 3 (ekI .i64) v9_3 j9_3, Own 3 (ekI .i64) v8_2 x8_2, Own 3 (ekI .i64) v26 qv26_e1, Box b8 [u9_Slots, u9_Objs, .int .i64 t6.NS, .int .i64 t6.NO], OwnO 81 kr_ref10_Slot u9_Slots raws10 A11 t6.Slots, OwnO 72 kr_ref10_Obj u9_Objs raws14 A15 t6.Objs, F] (fun l2 hk2 => ?_) ?_
              · rcases bool_or (t124.isNone != (j27_e6 == (w64 (j24_e5 - 1)))) with b136 | b136
                · refine SO.passF rfl rfl rfl b136 rfl rfl ?_
                  refine SO.passF rfl rfl rfl b136 rfl rfl ?_
                  refine SO.passF rfl rfl rfl b136 rfl rfl ?_
                  refine SO.pass_undef rfl rfl rfl rfl ?_
                  refine SO.pass_undef rfl rfl rfl rfl ?_
                  refine SO.pass_undef rfl rfl rfl rfl ?_
                  refine SO.passF rfl rfl rfl b136 rfl rfl ?_
                  refine SO.v rfl (opv_pick_t' b136 rfl rfl) ?_
                  refine SO.b9 ?_
                  refine SO.b9 ?_
                  refine SO.b9 ?_
                  refine SO.b9 ?_
                  refine SO.b9 ?_
                  refine SO.b9 ?_
                  refine SO.b9 ?_
                  refine SO.b9 ?_
                  refine SO.b9 ?_
                  refine SO.b9 ?_
                  exact hk2.fitc (m := 8) rfl (or_t b136) rfl
                · refine SO.takeT rfl rfl rfl b136 ?_
                  refine SO.v rfl (opv_move rfl) ?_
                  refine SO.takeT rfl rfl rfl b136 ?_
                  refine SO.v rfl (opv_neqN (e := t124) Try.underlying37 rfl) ?_
                  refine SO.takeT rfl rfl rfl b136 ?_
                  refine SO.v rfl (opv_move rfl) ?_
                  refine SO.cut 4 217 (.bool (t124.isSome && (t124 != some 10))) [Own 35 (ekI .u64) v20 qv20_e6, Box b43 [.int .i64 x41.What, .int .i64 x41.T, .int .i64 x41.N, .int .i64 x41.B], Own 4 ekB v22 qv22_3, Own 3 (ekI .i64) v9_3 j9_3, Own 3 (ekI .i64) v8_2 x8_2, Own 3 (ekI .i64) v26 qv26_e1, Box b8 [u9_Slots, u9_Objs, .int .i64 t6.NS, .int .i64 t6.NO], OwnO 81 kr_ref10_Slot u9_Slots raws10 A11 t6.Slots, OwnO 72 kr_ref10_Obj u9_Objs raws14 A15 t6.Objs, F] (fun l2 hk2 => ?_) ?_
                  · rcases bool_or t124.isSome with b137 | b137
                    · refine SO.takeT rfl rfl rfl b137 ?_
                      refine SO.v rfl (opv_move rfl) ?_
                      refine SO.takeT rfl rfl rfl b137 ?_
                      refine SO.v rfl (opv_iface Try.underlying44 rfl rfl) ?_
                      refine SO.takeT rfl rfl rfl b137 ?_
                      refine SO.v rfl (opv_neqE (e := t124) (c := 10) Try.underlying37 Try.underlying44 inf44 rfl rfl rfl) ?_
                      refine SO.takeT rfl rfl rfl b136 ?_
                      refine SO.v rfl (opv_pick_t' b137 rfl rfl) ?_
                      refine SO.b9 ?_
                      refine SO.b9 ?_
                      refine SO.b9 ?_
                      refine SO.b9 ?_
                      refine SO.b9 ?_
                      refine SO.b9 ?_
                      refine SO.b9 ?_
                      refine SO.b9 ?_
                      refine SO.b9 ?_
                      refine SO.b9 ?_
                      exact hk2.fitc (m := 4) rfl (and_t b137) rfl
                    · refine SO.passF rfl rfl rfl b137 rfl rfl ?_
                      refine SO.passF rfl rfl rfl b137 rfl rfl ?_
                      refine SO.passF rfl rfl rfl b137 rfl rfl ?_
                      refine SO.takeT rfl rfl rfl b136 ?_
                      refine SO.v rfl (opv_pick_f' b137 rfl rfl) ?_
                      refine SO.b9 ?_
                      refine SO.b9 ?_
                      refine SO.b9 ?_
                      refine SO.b9 ?_
                      refine SO.b9 ?_
                      refine SO.b9 ?_
                      refine SO.b9 ?_
                      refine SO.b9 ?_
                      refine SO.b9 ?_
                      refine SO.b9 ?_
                      exact hk2.fitc (m := 4) rfl (and_f b137) rfl
                  refine SO.v rfl (opv_pick_f' b136 rfl rfl) ?_
                  refine SO.b9 ?_
                  refine SO.b9 ?_
                  refine SO.b9 ?_
                  refine SO.b9 ?_
                  refine SO.b9 ?_
                  refine SO.b9 ?_
                  refine SO.b9 ?_
                  refine SO.b9 ?_
                  refine SO.b9 ?_
                  refine SO.b9 ?_
                  exact hk2.fitc (m := 5) rfl (or_f b136) rfl
              refine SO.nil ?_
              refine S.to (ρ' := [(0, .int .i64 a0), (1, v1), (4, .bool false), (5, .bool t1), (6, v20), (7, .int .i64 (w64 (a0 + 3))), (8, v8_2), (9, v9_3), (10, v22), (13, .int .i64 x13_2), (218, .bool ((t124.isNone != (j27_e6 == (w64 (j24_e5 - 1)))) || (t124.isSome && (t124 != some 10))))]) ⟨rfl, rfl, rfl, rfl, rfl, rfl, rfl, rfl, rfl, rfl, rfl, trivial⟩ ?_
              rcases bool_or ((t124.isNone != (j27_e6 == (w64 (j24_e5 - 1)))) || (t124.isSome && (t124 != some 10))) with b138 | b138
              · replace h := cond_t b138 h
                refine S.condT rfl b138 ?_
                refine S.seq ?_
                refine S.region ?_
                refine SO.v rfl (opv_assign rfl) ?_
                refine SO.nil ?_
                refine S.to (ρ' := [(4, .bool false)]) ⟨rfl, trivial⟩ ?_
                cases h
                replace h := hK2.1 _ rfl
                cases h
                refine S.b7 ?_
                refine S.closeR ?_
                refine S.b8 ?_
                refine S.closeR ?_
                refine S.drop ?_
                refine S.drop ?_
                refine S.drop ?_
                refine S.drop ?_
                refine S.drop ?_
                refine S.drop ?_
                refine S.drop ?_
                refine S.drop ?_
                refine S.drop ?_
                exact S.ret1 Try.func3 rfl rfl (fun w hs hk => hR w _ _ ⟨rfl, rfl⟩ hs hk)
              · replace h := cond_f b138 h
                refine S.condF rfl b138 ?_
                refine S.skip ?_
                refine S.inBlock ?_
                refine S.region ?_
                refine SO.v rfl (opv_move rfl) ?_
                refine SO.v rfl (opv_add rfl rfl) ?_
                refine SO.v rfl (opv_assign rfl) ?_
                refine SO.nil ?_
                refine S.b1 ?_
                refine S.drop ?_
                refine S.b8 ?_
                refine S.b8 ?_
                refine S.b8 ?_
                refine S.b8 ?_
                refine S.b4 ?_
                refine S.b5 ?_
                refine S.b8 ?_
                refine S.b8 ?_
                refine S.b8 ?_
                refine S.to ?_ (ih2 ((w64 (x13_2 + 1), x8_2, j9_3, qv20_e6, qv22_3), (v8_2, v9_3)) h)
                exact ⟨rfl, rfl, rfl, rfl, rfl, rfl, rfl, rfl, rfl, rfl, trivial⟩
      · replace h := cond_f b40 h
        refine S.condF rfl b40 ?_
        refine S.exit rfl ?_
        cases h
        refine S.b8 ?_
        refine S.b8 ?_
        refine S.b8 ?_
        refine S.b8 ?_
        refine S.b4 ?_
        refine S.b5 ?_
        refine S.b8 ?_
        refine S.b7 ?_
        refine S.b8 ?_
        refine S.to ?_ (hK2.2 (x8_2, x9_2, qv22_2, qv20_2) (v8_2, v9_2) rfl)
        exact ⟨rfl, rfl, rfl, rfl, rfl, rfl, rfl, trivial⟩
    refine ⟨fun r' e' => ?_, ?_⟩
    · subst e'
      have h9 := Brk.of_ret h
      exact h9
    rintro ⟨j8_e2, j9_e2, qv22_e2, qv20_e2⟩ ⟨v8_e2, v9_e2⟩ e'
    subst e'
    replace h := Brk.of_nx h
    refine S.rd fun hr139 => ?_
    refine S.b1 ?_
    refine S.rd fun hr140 => ?_
    refine S.b3 ?_
    refine S.rd fun hr141 => ?_
    refine S.b4 ?_
    refine S.rd fun hr142 => ?_
    refine S.seq ?_
    refine S.seq ?_
    refine S.region ?_
    refine SO.v rfl (opv_assign rfl) ?_
    refine SO.nil ?_
    obtain ⟨⟨j9_e7, qv20_e7⟩, hl7, h⟩ := opt_bind h
    refine S.b8 ?_
    refine S.b8 ?_
    refine S.b8 ?_
    refine S.b8 ?_
    refine S.b8 ?_
    refine S.b7 ?_
    refine S.b7 ?_
    refine S.b7 ?_
    refine S.b8 ?_
    refine S.to (ρ' := [(29, .int .i64 0), (0, .int .i64 a0), (4, .bool false), (5, .bool t1), (6, v20), (8, v8_e2), (9, v9_e2), (10, v22)]) ⟨rfl, rfl, rfl, rfl, rfl, rfl, rfl, rfl, trivial⟩ ?_
    refine S.forloop (X := (Int × (List Int) × (List Int)) × Value) (O := ((List Int) × (List Int))) (fun m x => law15_EndpOnce.l7 a0 qv22_e2 m x.1) (fun x => match x with | ((x29_7, x9_7, qv20_7), v9_7) => [(29, .int .i64 x29_7), (0, .int .i64 a0), (4, .bool false), (5, .bool t1), (6, v20), (8, v8_e2), (9, v9_7), (10, v22)]) (fun x => match x with | ((x29_7, x9_7, qv20_7), v9_7) => [Own 3 (ekI .i64) v9_7 x9_7, Own 35 (ekI .u64) v20 qv20_7, Own 4 ekB v22 qv22_e2, Own 3 (ekI .i64) v8_e2 j8_e2, Own 3 (ekI .i64) v26 qv26_e1, Box b8 [u9_Slots, u9_Objs, .int .i64 t6.NS, .int .i64 t6.NO], OwnO 81 kr_ref10_Slot u9_Slots raws10 A11 t6.Slots, OwnO 72 kr_ref10_Obj u9_Objs raws14 A15 t6.Objs, F]) (fun Sk => (fun x => match x with | (j9_e7, qv20_e7) => ∀ v9_e7 : Value, Sk [(0, .int .i64 a0), (4, .bool false), (5, .bool t1), (6, v20), (8, v8_e2), (9, v9_e7)] [Own 3 (ekI .i64) v9_e7 j9_e7, Own 35 (ekI .u64) v20 qv20_e7, Own 4 ekB v22 qv22_e2, Own 3 (ekI .i64) v8_e2 j8_e2, Own 3 (ekI .i64) v26 qv26_e1, Box b8 [u9_Slots, u9_Objs, .int .i64 t6.NS, .int .i64 t6.NO], OwnO 81 kr_ref10_Slot u9_Slots raws10 A11 t6.Slots, OwnO 72 kr_ref10_Obj u9_Objs raws14 A15 t6.Objs, F])) (fun _ => rfl) ?_ (m := k) (x := ((0, j9_e2, qv20_e2), v9_e2)) hl7 ?_
    · clear h hl7
      intro k x o_7 h hK7 ih7
      obtain ⟨⟨x29_7, x9_7, qv20_7⟩, v9_7⟩ := x
      replace h : law15_EndpOnce.l7 a0 qv22_e2 (k + 1) (x29_7, x9_7, qv20_7) = some o_7 := h
      first | rw [law15_EndpOnce.l7] at h | unfold law15_EndpOnce.l7 at h
      refine S.rd fun hr143 => ?_
      refine S.b1 ?_
      refine S.rd fun hr144 => ?_
      refine S.seq ?_
      refine S.seq ?_
      refine S.region ?_
      refine SO.v rfl (opv_move rfl) ?_
      refine SO.v rfl (opv_move rfl) ?_
      refine SO.v rfl (opv_lss rfl rfl) ?_
      refine SO.nil ?_
      rcases bool_or (decide (x29_7 < a0)) with b145 | b145
      · replace h := cond_t b145 h
        refine S.condT rfl b145 ?_
        refine S.skip ?_
        refine S.seq ?_
        refine S.block ?_
        refine S.seq ?_
        refine S.region ?_
        refine SO.v rfl (opv_move rfl) ?_
        refine SO.v rfl (opv_move rfl) ?_
        obtain ⟨x146, hx147, h⟩ := opt_bind h
        refine SO.v rfl (opv_idx Try.underlying30 Try.sizeOf4 hr141 rfl rfl hx147) ?_
        refine SO.loadI1 (j := 0) rfl Try.isAgg4 (Rd.tail (Rd.tail (Rd.head hr141))) hx147 rfl rfl rfl rfl ?_
        refine SO.v rfl (opv_move rfl) ?_
        obtain ⟨⟨c149, w151⟩, hc150, hgk⟩ := opt_bind h
        refine SO.cut 6 234 (.bool c149) [Own 35 (ekI .u64) v20 w151, Own 3 (ekI .i64) v9_7 x9_7, Own 4 ekB v22 qv22_e2, Own 3 (ekI .i64) v8_e2 j8_e2, Own 3 (ekI .i64) v26 qv26_e1, Box b8 [u9_Slots, u9_Objs, .int .i64 t6.NS, .int .i64 t6.NO], OwnO 81 kr_ref10_Slot u9_Slots raws10 A11 t6.Slots, OwnO 72 kr_ref10_Obj u9_Objs raws14 A15 t6.Objs, F] (fun l2 hk2 => ?_) ?_
        · clear hgk
          replace h := hc150
          rcases bool_or x146 with b148 | b148
          · replace h := cond_t b148 h
            refine SO.takeT rfl rfl rfl b148 ?_
            refine SO.v rfl (opv_move rfl) ?_
            refine SO.takeT rfl rfl rfl b148 ?_
            refine SO.v rfl (opv_iface Try.underlying25 rfl rfl) ?_
            refine SO.takeT rfl rfl rfl b148 ?_
            refine SO.v rfl (opv_move rfl) ?_
            refine SO.takeT rfl rfl rfl b148 ?_
            obtain ⟨⟨t153, s155⟩, ht154, h⟩ := opt_bind h
            refine SO.call (pre := [(plainV v20).rep _]) rfl Try.call10 rfl rfl rfl (endp_State.ct (plainV v20) _ _ _ _ ht154) trivial ?_
            rintro _ _ ⟨rfl, rfl⟩
            refine headEq (plainV_rep _ _) ?_
            refine SO.rd fun hr156 => ?_
            refine SO.takeT rfl rfl rfl b148 ?_
            refine SO.v rfl (opv_eql rfl rfl) ?_
            cases h
            refine SO.v rfl (opv_pick_t' b148 rfl rfl) ?_
            refine SO.b8 ?_
            refine SO.b8 ?_
            refine SO.b8 ?_
            refine SO.b8 ?_
            refine SO.b8 ?_
            refine SO.b8 ?_
            refine SO.b8 ?_
            refine SO.b8 ?_
            refine SO.b8 ?_
            exact hk2.fitc (m := 6) rfl (rfl) rfl
          · replace h := cond_f b148 h
            refine SO.passF rfl rfl rfl b148 rfl rfl ?_
            refine SO.passF rfl rfl rfl b148 rfl rfl ?_
            refine SO.passF rfl rfl rfl b148 rfl rfl ?_
            refine SO.passF rfl rfl rfl b148 rfl rfl ?_
            refine SO.passF rfl rfl rfl b148 rfl rfl ?_
            cases h
            refine SO.v rfl (opv_pick_f' b148 rfl rfl) ?_
            refine SO.b8 ?_
            refine SO.b8 ?_
            refine SO.b8 ?_
            refine SO.b8 ?_
            refine SO.b8 ?_
            refine SO.b8 ?_
            refine SO.b8 ?_
            refine SO.b8 ?_
            refine SO.b8 ?_
            exact hk2.fitc (m := 6) rfl (rfl) rfl
        clear hc150
        replace h := hgk
        refine SO.rd fun hr152 => ?_
        refine SO.nil ?_
        refine S.to (ρ' := [(29, .int .i64 x29_7), (0, .int .i64 a0), (4, .bool false), (5, .bool t1), (6, v20), (8, v8_e2), (9, v9_7), (10, v22), (234, .bool c149)]) ⟨rfl, rfl, rfl, rfl, rfl, rfl, rfl, rfl, rfl, trivial⟩ ?_
        rcases bool_or c149 with b157 | b157
        · replace h := cond_t b157 h
          refine S.condT rfl b157 ?_
          refine S.region ?_
          refine SO.v rfl (opv_move rfl) ?_
          refine SO.v rfl (opv_move rfl) ?_
          refine SO.v rfl (opv_move rfl) ?_
          refine SO.v rfl (opv_mul rfl rfl) ?_
          refine SO.v rfl (opv_add rfl rfl) ?_
          refine SO.v rfl (opv_add rfl rfl) ?_
          obtain ⟨x158, hx159, h⟩ := opt_bind h
          refine SO.v rfl (opv_idx Try.underlying25 Try.sizeOf35 hr152 rfl rfl hx159) ?_
          refine SO.loadI1 (j := 0) rfl Try.isAgg35 (Rd.head hr152) hx159 rfl rfl rfl rfl ?_
          refine SO.v rfl (opv_conv Try.underlying35 Try.underlying3 rfl) ?_
          refine SO.buildSlice (K := ekI .i64) (xs := [w64 x158]) (cs := [.int .i64 (w64 x158)]) rfl Try.underlying29 Try.sizeOf3 Try.zeroValue3 rfl rfl rfl (by kernel_rfl) rfl rfl rfl (fun v160 hr161 => ?_)
          obtain ⟨zs162, hz163, h⟩ := opt_bind h
          refine SO.b2 ?_
          refine SO.append rfl Try.underlying29 Try.underlying29 inf3 rfl rfl rfl (by decide) rfl rfl rfl (Rd.head hr161) hz163 (fun v164 => ?_)
          refine SO.rd fun hr165 => ?_
          refine SO.v rfl (opv_assign rfl) ?_
          refine SO.nil ?_
          refine S.to (ρ' := [(29, .int .i64 x29_7), (0, .int .i64 a0), (4, .bool false), (5, .bool t1), (6, v20), (8, v8_e2), (9, v164), (10, v22)]) ⟨rfl, rfl, rfl, rfl, rfl, rfl, rfl, rfl, trivial⟩ ?_
          refine S.inBlock ?_
          refine S.region ?_
          refine SO.v rfl (opv_move rfl) ?_
          refine SO.v rfl (opv_add rfl rfl) ?_
          refine SO.v rfl (opv_assign rfl) ?_
          refine SO.nil ?_
          refine S.b1 ?_
          refine S.drop ?_
          refine S.b8 ?_
          refine S.b8 ?_
          refine S.b8 ?_
          refine S.b8 ?_
          refine S.b8 ?_
          refine S.b8 ?_
          refine S.b8 ?_
          refine S.b8 ?_
          refine S.b8 ?_
          refine S.to ?_ (ih7 ((w64 (x29_7 + 1), zs162, w151), v164) h)
          exact ⟨rfl, rfl, rfl, rfl, rfl, rfl, rfl, rfl, trivial⟩
        · replace h := cond_f b157 h
          refine S.condF rfl b157 ?_
          refine S.skip ?_
          refine S.inBlock ?_
          refine S.region ?_
          refine SO.v rfl (opv_move rfl) ?_
          refine SO.v rfl (opv_add rfl rfl) ?_
          refine SO.v rfl (opv_assign rfl) ?_
          refine SO.nil ?_
          refine S.b8 ?_
          refine S.b8 ?_
          refine S.b8 ?_
          refine S.b8 ?_
          refine S.b8 ?_
          refine S.b8 ?_
          refine S.b8 ?_
          refine S.b7 ?_
          refine S.b8 ?_
          refine S.to ?_ (ih7 ((w64 (x29_7 + 1), x9_7, w151), v9_7) h)
          exact ⟨rfl, rfl, rfl, rfl, rfl, rfl, rfl, rfl, trivial⟩
      · replace h := cond_f b145 h
        refine S.condF rfl b145 ?_
        refine S.exit rfl ?_
        cases h
        refine S.b8 ?_
        refine S.b8 ?_
        refine S.b8 ?_
        refine S.b8 ?_
        refine S.b8 ?_
        refine S.b8 ?_
        refine S.b8 ?_
        refine S.b7 ?_
        refine S.b8 ?_
        refine S.to ?_ (hK7 v9_7)
        exact ⟨rfl, rfl, rfl, rfl, rfl, rfl, trivial⟩
    rintro v9_e7
    refine S.rd fun hr166 => ?_
    refine S.b1 ?_
    refine S.rd fun hr167 => ?_
    refine S.seq ?_
    refine S.region ?_
    refine SO.v rfl (opv_assign rfl) ?_
    refine SO.nil ?_
    refine S.seq ?_
    refine S.seq ?_
    refine S.region ?_
    refine SO.v rfl (opv_assign rfl) ?_
    refine SO.nil ?_
    obtain ⟨⟨j30_e8, qv20_e8⟩, hl8, h⟩ := opt_bind h
    refine S.b8 ?_
    refine S.b8 ?_
    refine S.b8 ?_
    refine S.b8 ?_
    refine S.b8 ?_
    refine S.b8 ?_
    refine S.b8 ?_
    refine S.b8 ?_
    refine S.b8 ?_
    refine S.to (ρ' := [(31, .int .i64 0), (30, .int .i64 0), (0, .int .i64 a0), (4, .bool false), (5, .bool t1), (6, v20), (8, v8_e2), (9, v9_e7)]) ⟨rfl, rfl, rfl, rfl, rfl, rfl, rfl, rfl, trivial⟩ ?_
    refine S.forloop (X := (Int × Int × (List Int)) × Unit) (O := (Int × (List Int))) (fun m x => law15_EndpOnce.l8 a0 m x.1) (fun x => match x with | ((x31_8, x30_8, qv20_8), _) => [(31, .int .i64 x31_8), (30, .int .i64 x30_8), (0, .int .i64 a0), (4, .bool false), (5, .bool t1), (6, v20), (8, v8_e2), (9, v9_e7)]) (fun x => match x with | ((x31_8, x30_8, qv20_8), _) => [Own 35 (ekI .u64) v20 qv20_8, Own 3 (ekI .i64) v9_e7 j9_e7, Own 4 ekB v22 qv22_e2, Own 3 (ekI .i64) v8_e2 j8_e2, Own 3 (ekI .i64) v26 qv26_e1, Box b8 [u9_Slots, u9_Objs, .int .i64 t6.NS, .int .i64 t6.NO], OwnO 81 kr_ref10_Slot u9_Slots raws10 A11 t6.Slots, OwnO 72 kr_ref10_Obj u9_Objs raws14 A15 t6.Objs, F]) (fun Sk => (fun x => match x with | (j30_e8, qv20_e8) => ∀ _ : Unit, Sk [(4, .bool false), (5, .bool t1), (8, v8_e2), (9, v9_e7), (30, .int .i64 j30_e8)] [Own 35 (ekI .u64) v20 qv20_e8, Own 3 (ekI .i64) v9_e7 j9_e7, Own 4 ekB v22 qv22_e2, Own 3 (ekI .i64) v8_e2 j8_e2, Own 3 (ekI .i64) v26 qv26_e1, Box b8 [u9_Slots, u9_Objs, .int .i64 t6.NS, .int .i64 t6.NO], OwnO 81 kr_ref10_Slot u9_Slots raws10 A11 t6.Slots, OwnO 72 kr_ref10_Obj u9_Objs raws14 A15 t6.Objs, F])) (fun _ => rfl) ?_ (m := k) (x := ((0, 0, qv20_e7), ())) hl8 ?_
    · clear h hl8
      intro k x o_8 h hK8 ih8
      obtain ⟨⟨x31_8, x30_8, qv20_8⟩, _⟩ := x
      replace h : law15_EndpOnce.l8 a0 (k + 1) (x31_8, x30_8, qv20_8) = some o_8 := h
      first | rw [law15_EndpOnce.l8] at h | unfold law15_EndpOnce.l8 at h
      refine S.rd fun hr168 => ?_
      refine S.seq ?_
      refine S.seq ?_
      refine S.region ?_
      refine SO.v rfl (opv_move rfl) ?_
      refine SO.v rfl (opv_move rfl) ?_
      refine SO.v rfl (opv_lss rfl rfl) ?_
      refine SO.nil ?_
      rcases bool_or (decide (x31_8 < a0)) with b169 | b169
      · replace h := cond_t b169 h
        refine S.condT rfl b169 ?_
        refine S.skip ?_
        refine S.seq ?_
        refine S.block ?_
        refine S.seq ?_
        refine S.region ?_
        refine SO.v rfl (opv_move rfl) ?_
        refine SO.v rfl (opv_iface Try.underlying25 rfl rfl) ?_
        refine SO.v rfl (opv_move rfl) ?_
        obtain ⟨⟨t170, s172⟩, ht171, h⟩ := opt_bind h
        refine SO.call (pre := [(plainV v20).rep _]) rfl Try.call10 rfl rfl rfl (endp_State.ct (plainV v20) _ _ _ _ ht171) trivial ?_
        rintro _ _ ⟨rfl, rfl⟩
        refine headEq (plainV_rep _ _) ?_
        refine SO.rd fun hr173 => ?_
        refine SO.v rfl (opv_eql rfl rfl) ?_
        refine SO.v rfl (opv_move rfl) ?_
        obtain ⟨⟨c175, w177⟩, hc176, hgk⟩ := opt_bind h
        refine SO.cut 6 262 (.bool c175) [Own 35 (ekI .u64) v20 w177, Own 3 (ekI .i64) v9_e7 j9_e7, Own 4 ekB v22 qv22_e2, Own 3 (ekI .i64) v8_e2 j8_e2, Own 3 (ekI .i64) v26 qv26_e1, Box b8 [u9_Slots, u9_Objs, .int .i64 t6.NS, .int .i64 t6.NO], OwnO 81 kr_ref10_Slot u9_Slots raws10 A11 t6.Slots, OwnO 72 kr_ref10_Obj u9_Objs raws14 A15 t6.Objs, F] (fun l2 hk2 => ?_) ?_
        · clear hgk
          replace h := hc176
          rcases bool_or (t170 == 2) with b174 | b174
          · replace h := cond_t b174 h
            refine SO.passF rfl rfl rfl b174 rfl rfl ?_
            refine SO.passF rfl rfl rfl b174 rfl rfl ?_
            refine SO.passF rfl rfl rfl b174 rfl rfl ?_
            refine SO.passF rfl rfl rfl b174 rfl rfl ?_
            refine SO.passF rfl rfl rfl b174 rfl rfl ?_
            cases h
            refine SO.v rfl (opv_pick_t' b174 rfl rfl) ?_
            refine SO.b8 ?_
            refine SO.b8 ?_
            refine SO.b8 ?_
            refine SO.b8 ?_
            refine SO.b8 ?_
            refine SO.b8 ?_
            refine SO.b8 ?_
            refine SO.b8 ?_
            refine SO.b8 ?_
            exact hk2.fitc (m := 6) rfl (rfl) rfl
          · replace h := cond_f b174 h
            refine SO.takeT rfl rfl rfl b174 ?_
            refine SO.v rfl (opv_move rfl) ?_
            refine SO.takeT rfl rfl rfl b174 ?_
            refine SO.v rfl (opv_iface Try.underlying25 rfl rfl) ?_
            refine SO.takeT rfl rfl rfl b174 ?_
            refine SO.v rfl (opv_move rfl) ?_
            refine SO.takeT rfl rfl rfl b174 ?_
            obtain ⟨⟨t179, s181⟩, ht180, h⟩ := opt_bind h
            refine SO.call (pre := [(plainV v20).rep _]) rfl Try.call10 rfl rfl rfl (endp_State.ct (plainV v20) _ _ _ _ ht180) trivial ?_
            rintro _ _ ⟨rfl, rfl⟩
            refine headEq (plainV_rep _ _) ?_
            refine SO.rd fun hr182 => ?_
            refine SO.takeT rfl rfl rfl b174 ?_
            refine SO.v rfl (opv_eql rfl rfl) ?_
            cases h
            refine SO.v rfl (opv_pick_f' b174 rfl rfl) ?_
            refine SO.b8 ?_
            refine SO.b8 ?_
            refine SO.b8 ?_
            refine SO.b8 ?_
            refine SO.b8 ?_
            refine SO.b8 ?_
            refine SO.b8 ?_
            refine SO.b8 ?_
            refine SO.b8 ?_
            exact hk2.fitc (m := 6) rfl (rfl) rfl
        clear hc176
        replace h := hgk
        refine SO.rd fun hr178 => ?_
        refine SO.nil ?_
        refine S.to (ρ' := [(31, .int .i64 x31_8), (30, .int .i64 x30_8), (0, .int .i64 a0), (4, .bool false), (5, .bool t1), (6, v20), (8, v8_e2), (9, v9_e7), (262, .bool c175)]) ⟨rfl, rfl, rfl, rfl, rfl, rfl, rfl, rfl, rfl, trivial⟩ ?_
        rcases bool_or c175 with b183 | b183
        · replace h := cond_t b183 h
          refine S.condT rfl b183 ?_
          refine S.region ?_
          refine SO.v rfl (opv_move rfl) ?_
          refine SO.v rfl (opv_add rfl rfl) ?_
          refine SO.v rfl (opv_assign rfl) ?_
          refine SO.nil ?_
          refine S.inBlock ?_
          refine S.region ?_
          refine SO.v rfl (opv_move rfl) ?_
          refine SO.v rfl (opv_add rfl rfl) ?_
          refine SO.v rfl (opv_assign rfl) ?_
          refine SO.nil ?_
          refine S.b8 ?_
          refine S.b8 ?_
          refine S.b8 ?_
          refine S.b8 ?_
          refine S.b8 ?_
          refine S.b8 ?_
          refine S.b8 ?_
          refine S.b8 ?_
          refine S.b8 ?_
          refine S.to ?_ (ih8 ((w64 (x31_8 + 1), w64 (x30_8 + 1), w177), ()) h)
          exact ⟨rfl, rfl, rfl, rfl, rfl, rfl, rfl, rfl, trivial⟩
        · replace h := cond_f b183 h
          refine S.condF rfl b183 ?_
          refine S.skip ?_
          refine S.inBlock ?_
          refine S.region ?_
          refine SO.v rfl (opv_move rfl) ?_
          refine SO.v rfl (opv_add rfl rfl) ?_
          refine SO.v rfl (opv_assign rfl) ?_
          refine SO.nil ?_
          refine S.b8 ?_
          refine S.b8 ?_
          refine S.b8 ?_
          refine S.b8 ?_
          refine S.b8 ?_
          refine S.b8 ?_
          refine S.b8 ?_
          refine S.b8 ?_
          refine S.b8 ?_
          refine S.to ?_ (ih8 ((w64 (x31_8 + 1), x30_8, w177), ()) h)
          exact ⟨rfl, rfl, rfl, rfl, rfl, rfl, rfl, rfl, trivial⟩
      · replace h := cond_f b169 h
        refine S.condF rfl b169 ?_
        refine S.exit rfl ?_
        cases h
        refine S.b8 ?_
        refine S.b8 ?_
        refine S.b8 ?_
        refine S.b8 ?_
        refine S.b8 ?_
        refine S.b8 ?_
        refine S.b8 ?_
        refine S.b8 ?_
        refine S.b8 ?_
        refine S.to ?_ (hK8 ())
        exact ⟨rfl, rfl, rfl, rfl, rfl, trivial⟩
    rintro _
    refine S.rd fun hr184 => ?_
    refine S.seq ?_
    refine S.seq ?_
    refine S.region ?_
    refine SO.v rfl (opv_move rfl) ?_
    refine SO.v rfl (opv_lenR rfl Try.underlying29 hr166 rfl) ?_
    refine SO.v rfl (opv_move rfl) ?_
    refine SO.v rfl (opv_add rfl rfl) ?_
    refine SO.v rfl (opv_move rfl) ?_
    refine SO.v rfl (opv_lenR rfl Try.underlying29 hr140 rfl) ?_
    refine SO.v rfl (opv_neq rfl rfl) ?_
    refine SO.nil ?_
    refine S.to (ρ' := [(4, .bool false), (5, .bool t1), (8, v8_e2), (9, v9_e7), (271, .bool ((w64 ((j9_e7.length : Int) + j30_e8)) != (j8_e2.length : Int)))]) ⟨rfl, rfl, rfl, rfl, rfl, trivial⟩ ?_
    rcases bool_or ((w64 ((j9_e7.length : Int) + j30_e8)) != (j8_e2.length : Int)) with b185 | b185
    · replace h := cond_t b185 h
      refine S.condT rfl b185 ?_
      refine S.seq ?_
      refine S.region ?_
      refine SO.v rfl (opv_assign rfl) ?_
      refine SO.nil ?_
      cases h
      refine S.b6 ?_
      refine S.closeR ?_
      refine S.b7 ?_
      refine S.closeR ?_
      refine S.drop ?_
      refine S.drop ?_
      refine S.drop ?_
      refine S.drop ?_
      refine S.drop ?_
      refine S.drop ?_
      refine S.drop ?_
      refine S.drop ?_
      exact S.ret1 Try.func3 rfl rfl (fun w hs hk => hR w _ _ ⟨rfl, rfl⟩ hs hk)
    · replace h := cond_f b185 h
      refine S.condF rfl b185 ?_
      refine S.skip ?_
      refine S.seq ?_
      refine S.seq ?_
      refine S.region ?_
      refine SO.v rfl (opv_assign rfl) ?_
      refine SO.nil ?_
      obtain ⟨o9, hl9, h⟩ := opt_bind h
      refine S.b8 ?_
      refine S.b8 ?_
      refine S.b8 ?_
      refine S.b8 ?_
      refine S.b8 ?_
      refine S.b8 ?_
      refine S.b8 ?_
      refine S.b8 ?_
      refine S.b8 ?_
      refine S.to (ρ' := [(32, .int .i64 0), (4, .bool false), (5, .bool t1), (8, v8_e2), (9, v9_e7)]) ⟨rfl, rfl, rfl, rfl, rfl, trivial⟩ ?_
      refine S.forloop (X := Int × Unit) (O := Brk Bool Unit) (fun m x => law15_EndpOnce.l9 j8_e2 j9_e7 m x.1) (fun x => match x with | (x32_9, _) => [(32, .int .i64 x32_9), (4, .bool false), (5, .bool t1), (8, v8_e2), (9, v9_e7)]) (fun x => match x with | (x32_9, _) => [Own 35 (ekI .u64) v20 qv20_e8, Own 3 (ekI .i64) v9_e7 j9_e7, Own 4 ekB v22 qv22_e2, Own 3 (ekI .i64) v8_e2 j8_e2, Own 3 (ekI .i64) v26 qv26_e1, Box b8 [u9_Slots, u9_Objs, .int .i64 t6.NS, .int .i64 t6.NO], OwnO 81 kr_ref10_Slot u9_Slots raws10 A11 t6.Slots, OwnO 72 kr_ref10_Obj u9_Objs raws14 A15 t6.Objs, F]) (fun Sk o' => (∀ r', o' = Brk.ret r' → some r' = some r0) ∧ ∀ _ : Unit, ∀ _ : Unit, o' = Brk.nx () → Sk [(4, .bool false), (5, .bool t1)] [Own 35 (ekI .u64) v20 qv20_e8, Own 3 (ekI .i64) v9_e7 j9_e7, Own 4 ekB v22 qv22_e2, Own 3 (ekI .i64) v8_e2 j8_e2, Own 3 (ekI .i64) v26 qv26_e1, Box b8 [u9_Slots, u9_Objs, .int .i64 t6.NS, .int .i64 t6.NO], OwnO 81 kr_ref10_Slot u9_Slots raws10 A11 t6.Slots, OwnO 72 kr_ref10_Obj u9_Objs raws14 A15 t6.Objs, F]) (fun _ => rfl) ?_ (m := k) (x := (0, ())) hl9 ?_
      · clear h hl9
        intro k x o_9 h hK9 ih9
        obtain ⟨x32_9, _⟩ := x
        replace h : law15_EndpOnce.l9 j8_e2 j9_e7 (k + 1) x32_9 = some o_9 := h
        first | rw [law15_EndpOnce.l9] at h | unfold law15_EndpOnce.l9 at h
        refine S.seq ?_
        refine S.seq ?_
        refine S.region ?_
        refine SO.v rfl (opv_move rfl) ?_
        refine SO.v rfl (opv_move rfl) ?_
        refine SO.v rfl (opv_lenR rfl Try.underlying29 hr166 rfl) ?_
        refine SO.v rfl (opv_lss rfl rfl) ?_
        refine SO.nil ?_
        rcases bool_or (decide (x32_9 < (j9_e7.length : Int))) with b186 | b186
        · replace h := cond_t b186 h
          refine S.condT rfl b186 ?_
          refine S.skip ?_
          refine S.seq ?_
          refine S.block ?_
          refine S.seq ?_
          refine S.region ?_
          refine SO.v rfl (opv_assign rfl) ?_
          refine SO.nil ?_
          refine S.seq ?_
          refine S.seq ?_
          refine S.region ?_
          refine SO.v rfl (opv_assign rfl) ?_
          refine SO.nil ?_
          obtain ⟨j33_e10, hl10, h⟩ := opt_bind h
          refine S.b8 ?_
          refine S.b8 ?_
          refine S.b8 ?_
          refine S.b8 ?_
          refine S.b8 ?_
          refine S.b8 ?_
          refine S.b8 ?_
          refine S.b8 ?_
          refine S.b8 ?_
          refine S.to (ρ' := [(34, .int .i64 0), (33, .int .i64 0), (32, .int .i64 x32_9), (4, .bool false), (5, .bool t1), (8, v8_e2), (9, v9_e7)]) ⟨rfl, rfl, rfl, rfl, rfl, rfl, rfl, trivial⟩ ?_
          refine S.forloop (X := (Int × Int) × Unit) (O := Int) (fun m x => law15_EndpOnce.l10 j8_e2 j9_e7 x32_9 m x.1) (fun x => match x with | ((x34_10, x33_10), _) => [(34, .int .i64 x34_10), (33, .int .i64 x33_10), (32, .int .i64 x32_9), (4, .bool false), (5, .bool t1), (8, v8_e2), (9, v9_e7)]) (fun x => match x with | ((x34_10, x33_10), _) => [Own 35 (ekI .u64) v20 qv20_e8, Own 3 (ekI .i64) v9_e7 j9_e7, Own 4 ekB v22 qv22_e2, Own 3 (ekI .i64) v8_e2 j8_e2, Own 3 (ekI .i64) v26 qv26_e1, Box b8 [u9_Slots, u9_Objs, .int .i64 t6.NS, .int .i64 t6.NO], OwnO 81 kr_ref10_Slot u9_Slots raws10 A11 t6.Slots, OwnO 72 kr_ref10_Obj u9_Objs raws14 A15 t6.Objs, F]) (fun Sk => (fun j33_e10 => ∀ _ : Unit, Sk [(4, .bool false), (5, .bool t1), (8, v8_e2), (9, v9_e7), (32, .int .i64 x32_9), (33, .int .i64 j33_e10)] [Own 35 (ekI .u64) v20 qv20_e8, Own 3 (ekI .i64) v9_e7 j9_e7, Own 4 ekB v22 qv22_e2, Own 3 (ekI .i64) v8_e2 j8_e2, Own 3 (ekI .i64) v26 qv26_e1, Box b8 [u9_Slots, u9_Objs, .int .i64 t6.NS, .int .i64 t6.NO], OwnO 81 kr_ref10_Slot u9_Slots raws10 A11 t6.Slots, OwnO 72 kr_ref10_Obj u9_Objs raws14 A15 t6.Objs, F])) (fun _ => rfl) ?_ (m := k) (x := ((0, 0), ())) hl10 ?_
          · clear h hl10
            intro k x o_10 h hK10 ih10
            obtain ⟨⟨x34_10, x33_10⟩, _⟩ := x
            replace h : law15_EndpOnce.l10 j8_e2 j9_e7 x32_9 (k + 1) (x34_10, x33_10) = some o_10 := h
            first | rw [law15_EndpOnce.l10] at h | unfold law15_EndpOnce.l10 at h
            refine S.seq ?_
            refine S.seq ?_
            refine S.region ?_
            refine SO.v rfl (opv_move rfl) ?_
            refine SO.v rfl (opv_move rfl) ?_
            refine SO.v rfl (opv_lenR rfl Try.underlying29 hr140 rfl) ?_
            refine SO.v rfl (opv_lss rfl rfl) ?_
            refine SO.nil ?_
            rcases bool_or (decide (x34_10 < (j8_e2.length : Int))) with b187 | b187
            · replace h := cond_t b187 h
              refine S.condT rfl b187 ?_
              refine S.skip ?_
              refine S.seq ?_
              refine S.block ?_
              refine S.seq ?_
              obtain ⟨x188, hx189, h⟩ := opt_bind h
              obtain ⟨x190, hx191, h⟩ := opt_bind h
              refine S.draw' (Z := fun Q => ∀ (_ : Unit) (_ : Unit) (_ : Unit) (_ : Unit) (_ : Unit) (_ : Unit) (_ : Unit) (_ : Unit) (_ : Unit) (_ : Unit) (_ : Unit) (_ : Unit) (_ : Unit) (_ : Unit) (_ : Unit), Q [(34, .int .i64 x34_10), (33, .int .i64 x33_10), (4, .bool false), (5, .bool t1), (32, .int .i64 x32_9), (8, v8_e2), (9, v9_e7), (292, .bool (x188 == x190))] [Own 35 (ekI .u64) v20 qv20_e8, Own 3 (ekI .i64) v9_e7 j9_e7, Own 4 ekB v22 qv22_e2, Own 3 (ekI .i64) v8_e2 j8_e2, Own 3 (ekI .i64) v26 qv26_e1, Box b8 [u9_Slots, u9_Objs, .int .i64 t6.NS, .int .i64 t6.NO], OwnO 81 kr_ref10_Slot u9_Slots raws10 A11 t6.Slots, OwnO 72 kr_ref10_Obj u9_Objs raws14 A15 t6.Objs, F]) (T := [tS 8 (v8_e2), tS 34 (.int .i64 x34_10), tS 9 (v9_e7), tS 32 (.int .i64 x32_9), tE [(33, .int .i64 x33_10), (4, .bool false), (5, .bool t1)], tR (Own 35 (ekI .u64) v20 qv20_e8), tR (Own 3 (ekI .i64) v9_e7 j9_e7), tR (Own 4 ekB v22 qv22_e2), tR (Own 3 (ekI .i64) v8_e2 j8_e2), tR (Own 3 (ekI .i64) v26 qv26_e1), tR (Box b8 [u9_Slots, u9_Objs, .int .i64 t6.NS, .int .i64 t6.NO]), tR (OwnO 81 kr_ref10_Slot u9_Slots raws10 A11 t6.Slots), tR (OwnO 72 kr_ref10_Obj u9_Objs raws14 A15 t6.Objs), tR (F), tS 284 (v8_e2), tS 285 (.int .i64 x34_10), tS 286 (idxp v8_e2 (x34_10.toNat * (ekI .i64).sz)), tS 287 (.int .i64 x188), tS 288 (v9_e7), tS 289 (.int .i64 x32_9), tS 290 (idxp v9_e7 (x32_9.toNat * (ekI .i64).sz)), tS 291 (.int .i64 x190), tS 292 (.bool (x188 == x190))]) (D := [⟨[0], [], [14]⟩, ⟨[1], [], [15]⟩, ⟨[14, 15, 8], [], [16]⟩, ⟨[16, 8], [], [17]⟩, ⟨[2], [], [18]⟩, ⟨[3], [], [19]⟩, ⟨[18, 19, 6], [], [20]⟩, ⟨[20, 6], [], [21]⟩, ⟨[17, 21], [], [22]⟩]) (ini := [0, 1, 2, 3, 4, 5, 6, 7, 8, 9, 10, 11, 12, 13]) (fin := [1, 4, 3, 0, 2, 22, 5, 6, 7, 8, 9, 10, 11, 12, 13]) (bf := [[], [], [0, 1], [0, 1, 2], [], [], [4, 5], [4, 5, 6], [0, 1, 2, 3, 4, 5, 6, 7]]) (by kernel_rfl) (by kernel_rfl) (fun x w h1 h2 => (.cons () (.cons () (.cons () (.cons () (.cons () (.cons () (.cons () (.cons () (.cons () (.cons () (.cons () (.cons () (.cons () (.cons () (.nil ⟨EnvAll.of h1 ⟨rfl, rfl, rfl, rfl, rfl, rfl, rfl, trivial⟩, h2⟩)))))))))))))))) (fun Q => by kernel_rfl) ⟨?_, ?_, ?_, ?_, ?_, ?_, ?_, ?_, ?_, trivial⟩ ?_
              · rintro Fr _
                refine SO.v rfl (opv_move rfl) ?_
                exact SO.nilZ fun a w h1 h2 h3 h4 h5 => PZ.of h1 h3 h5 (.cons () (.cons () (.nil ⟨EnvAll.of h2 ⟨rfl, rfl, trivial⟩, h4⟩)))
              · rintro Fr _
                refine SO.v rfl (opv_move rfl) ?_
                exact SO.nilZ fun a w h1 h2 h3 h4 h5 => PZ.of h1 h3 h5 (.cons () (.cons () (.nil ⟨EnvAll.of h2 ⟨rfl, rfl, trivial⟩, h4⟩)))
              · rintro Fr _ _ _
                refine SO.v rfl (opv_idx Try.underlying29 Try.sizeOf3 hr140 rfl rfl hx189) ?_
                exact SO.nilZ fun a w h1 h2 h3 h4 h5 => PZ.of h1 h3 h5 (.cons () (.cons () (.cons () (.cons () (.nil ⟨EnvAll.of h2 ⟨rfl, rfl, rfl, trivial⟩, h4⟩)))))
              · rintro Fr _ _
                refine SO.loadI1 (j := 0) rfl Try.isAgg3 (Rd.head hr140) hx189 rfl rfl rfl rfl ?_
                exact SO.nilZ fun a w h1 h2 h3 h4 h5 => PZ.of h1 h3 h5 (.cons () (.cons () (.cons () (.nil ⟨EnvAll.of h2 ⟨rfl, rfl, trivial⟩, h4⟩))))
              · rintro Fr _
                refine SO.v rfl (opv_move rfl) ?_
                exact SO.nilZ fun a w h1 h2 h3 h4 h5 => PZ.of h1 h3 h5 (.cons () (.cons () (.nil ⟨EnvAll.of h2 ⟨rfl, rfl, trivial⟩, h4⟩)))
              · rintro Fr _
                refine SO.v rfl (opv_move rfl) ?_
                exact SO.nilZ fun a w h1 h2 h3 h4 h5 => PZ.of h1 h3 h5 (.cons () (.cons () (.nil ⟨EnvAll.of h2 ⟨rfl, rfl, trivial⟩, h4⟩)))
              · rintro Fr _ _ _
                refine SO.v rfl (opv_idx Try.underlying29 Try.sizeOf3 hr166 rfl rfl hx191) ?_
                exact SO.nilZ fun a w h1 h2 h3 h4 h5 => PZ.of h1 h3 h5 (.cons () (.cons () (.cons () (.cons () (.nil ⟨EnvAll.of h2 ⟨rfl, rfl, rfl, trivial⟩, h4⟩)))))
              · rintro Fr _ _
                refine SO.loadI1 (j := 0) rfl Try.isAgg3 (Rd.head hr166) hx191 rfl rfl rfl rfl ?_
                exact SO.nilZ fun a w h1 h2 h3 h4 h5 => PZ.of h1 h3 h5 (.cons () (.cons () (.cons () (.nil ⟨EnvAll.of h2 ⟨rfl, rfl, trivial⟩, h4⟩))))
              · rintro Fr _ _
                refine SO.v rfl (opv_eql rfl rfl) ?_
                exact SO.nilZ fun a w h1 h2 h3 h4 h5 => PZ.of h1 h3 h5 (.cons () (.cons () (.cons () (.nil ⟨EnvAll.of h2 ⟨rfl, rfl, rfl, trivial⟩, h4⟩))))
              rintro _ _ _ _ _ _ _ _ _ _ _ _ _ _ _
              refine S.to (ρ' := [(34, .int .i64 x34_10), (33, .int .i64 x33_10), (4, .bool false), (5, .bool t1), (32, .int .i64 x32_9), (8, v8_e2), (9, v9_e7), (292, .bool (x188 == x190))]) ⟨rfl, rfl, rfl, rfl, rfl, rfl, rfl, rfl, trivial⟩ ?_
              rcases bool_or (x188 == x190) with b192 | b192
              · replace h := cond_t b192 h
                refine S.condT rfl b192 ?_
                refine S.region ?_
                refine SO.v rfl (opv_move rfl) ?_
                refine SO.v rfl (opv_add rfl rfl) ?_
                refine SO.v rfl (opv_assign rfl) ?_
                refine SO.nil ?_
                refine S.inBlock ?_
                refine S.region ?_
                refine SO.v rfl (opv_move rfl) ?_
                refine SO.v rfl (opv_add rfl rfl) ?_
                refine SO.v rfl (opv_assign rfl) ?_
                refine SO.nil ?_
                refine S.b8 ?_
                refine S.b8 ?_
                refine S.b8 ?_
                refine S.b8 ?_
                refine S.b8 ?_
                refine S.b8 ?_
                refine S.b8 ?_
                refine S.b8 ?_
                refine S.b8 ?_
                refine S.to ?_ (ih10 ((w64 (x34_10 + 1), w64 (x33_10 + 1)), ()) h)
                exact ⟨rfl, rfl, rfl, rfl, rfl, rfl, rfl, trivial⟩
              · replace h := cond_f b192 h
                refine S.condF rfl b192 ?_
                refine S.skip ?_
                refine S.inBlock ?_
                refine S.region ?_
                refine SO.v rfl (opv_move rfl) ?_
                refine SO.v rfl (opv_add rfl rfl) ?_
                refine SO.v rfl (opv_assign rfl) ?_
                refine SO.nil ?_
                refine S.b8 ?_
                refine S.b8 ?_
                refine S.b8 ?_
                refine S.b8 ?_
                refine S.b8 ?_
                refine S.b8 ?_
                refine S.b8 ?_
                refine S.b8 ?_
                refine S.b8 ?_
                refine S.to ?_ (ih10 ((w64 (x34_10 + 1), x33_10), ()) h)
                exact ⟨rfl, rfl, rfl, rfl, rfl, rfl, rfl, trivial⟩
            · replace h := cond_f b187 h
              refine S.condF rfl b187 ?_
              refine S.exit rfl ?_
              cases h
              refine S.b8 ?_
              refine S.b8 ?_
              refine S.b8 ?_
              refine S.b8 ?_
              refine S.b8 ?_
              refine S.b8 ?_
              refine S.b8 ?_
              refine S.b8 ?_
              refine S.b8 ?_
              refine S.to ?_ (hK10 ())
              exact ⟨rfl, rfl, rfl, rfl, rfl, rfl, trivial⟩
          rintro _
          refine S.seq ?_
          refine S.seq ?_
          refine S.region ?_
          refine SO.v rfl (opv_assign rfl) ?_
          refine SO.nil ?_
          obtain ⟨o11, hl11, h⟩ := opt_bind h
          refine S.b8 ?_
          refine S.b8 ?_
          refine S.b8 ?_
          refine S.b8 ?_
          refine S.b8 ?_
          refine S.b8 ?_
          refine S.b8 ?_
          refine S.b8 ?_
          refine S.b8 ?_
          refine S.to (ρ' := [(35, .int .i64 0), (4, .bool false), (5, .bool t1), (8, v8_e2), (9, v9_e7), (32, .int .i64 x32_9), (33, .int .i64 j33_e10)]) ⟨rfl, rfl, rfl, rfl, rfl, rfl, rfl, trivial⟩ ?_
          refine S.forloop (X := Int × Unit) (O := Brk Bool Unit) (fun m x => law15_EndpOnce.l11 j9_e7 x32_9 m x.1) (fun x => match x with | (x35_11, _) => [(35, .int .i64 x35_11), (4, .bool false), (5, .bool t1), (8, v8_e2), (9, v9_e7), (32, .int .i64 x32_9), (33, .int .i64 j33_e10)]) (fun x => match x with | (x35_11, _) => [Own 35 (ekI .u64) v20 qv20_e8, Own 3 (ekI .i64) v9_e7 j9_e7, Own 4 ekB v22 qv22_e2, Own 3 (ekI .i64) v8_e2 j8_e2, Own 3 (ekI .i64) v26 qv26_e1, Box b8 [u9_Slots, u9_Objs, .int .i64 t6.NS, .int .i64 t6.NO], OwnO 81 kr_ref10_Slot u9_Slots raws10 A11 t6.Slots, OwnO 72 kr_ref10_Obj u9_Objs raws14 A15 t6.Objs, F]) (fun Sk o' => (∀ r', o' = Brk.ret r' → some (Brk.ret r') = some o_9) ∧ ∀ _ : Unit, ∀ _ : Unit, o' = Brk.nx () → Sk [(4, .bool false), (5, .bool t1), (8, v8_e2), (9, v9_e7), (32, .int .i64 x32_9), (33, .int .i64 j33_e10)] [Own 35 (ekI .u64) v20 qv20_e8, Own 3 (ekI .i64) v9_e7 j9_e7, Own 4 ekB v22 qv22_e2, Own 3 (ekI .i64) v8_e2 j8_e2, Own 3 (ekI .i64) v26 qv26_e1, Box b8 [u9_Slots, u9_Objs, .int .i64 t6.NS, .int .i64 t6.NO], OwnO 81 kr_ref10_Slot u9_Slots raws10 A11 t6.Slots, OwnO 72 kr_ref10_Obj u9_Objs raws14 A15 t6.Objs, F]) (fun _ => rfl) ?_ (m := k) (x := (0, ())) hl11 ?_
          · clear h hl11
            intro k x o_11 h hK11 ih11
            obtain ⟨x35_11, _⟩ := x
            replace h : law15_EndpOnce.l11 j9_e7 x32_9 (k + 1) x35_11 = some o_11 := h
            first | rw [law15_EndpOnce.l11] at h | unfold law15_EndpOnce.l11 at h
            refine S.seq ?_
            refine S.seq ?_
            refine S.region ?_
            refine SO.v rfl (opv_move rfl) ?_
            refine SO.v rfl (opv_move rfl) ?_
            refine SO.v rfl (opv_lss rfl rfl) ?_
            refine SO.nil ?_
            rcases bool_or (decide (x35_11 < x32_9)) with b193 | b193
            · replace h := cond_t b193 h
              refine S.condT rfl b193 ?_
              refine S.skip ?_
              refine S.seq ?_
              refine S.block ?_
              refine S.seq ?_
              obtain ⟨x194, hx195, h⟩ := opt_bind h
              obtain ⟨x196, hx197, h⟩ := opt_bind h
              refine S.draw' (Z := fun Q => ∀ (_ : Unit) (_ : Unit) (_ : Unit) (_ : Unit) (_ : Unit) (_ : Unit) (_ : Unit) (_ : Unit) (_ : Unit) (_ : Unit) (_ : Unit) (_ : Unit) (_ : Unit) (_ : Unit), Q [(35, .int .i64 x35_11), (4, .bool false), (5, .bool t1), (8, v8_e2), (33, .int .i64 j33_e10), (9, v9_e7), (32, .int .i64 x32_9), (308, .bool (x194 == x196))] [Own 35 (ekI .u64) v20 qv20_e8, Own 3 (ekI .i64) v9_e7 j9_e7, Own 4 ekB v22 qv22_e2, Own 3 (ekI .i64) v8_e2 j8_e2, Own 3 (ekI .i64) v26 qv26_e1, Box b8 [u9_Slots, u9_Objs, .int .i64 t6.NS, .int .i64 t6.NO], OwnO 81 kr_ref10_Slot u9_Slots raws10 A11 t6.Slots, OwnO 72 kr_ref10_Obj u9_Objs raws14 A15 t6.Objs, F]) (T := [tS 9 (v9_e7), tS 35 (.int .i64 x35_11), tS 32 (.int .i64 x32_9), tE [(4, .bool false), (5, .bool t1), (8, v8_e2), (33, .int .i64 j33_e10)], tR (Own 35 (ekI .u64) v20 qv20_e8), tR (Own 3 (ekI .i64) v9_e7 j9_e7), tR (Own 4 ekB v22 qv22_e2), tR (Own 3 (ekI .i64) v8_e2 j8_e2), tR (Own 3 (ekI .i64) v26 qv26_e1), tR (Box b8 [u9_Slots, u9_Objs, .int .i64 t6.NS, .int .i64 t6.NO]), tR (OwnO 81 kr_ref10_Slot u9_Slots raws10 A11 t6.Slots), tR (OwnO 72 kr_ref10_Obj u9_Objs raws14 A15 t6.Objs), tR (F), tS 300 (v9_e7), tS 301 (.int .i64 x35_11), tS 302 (idxp v9_e7 (x35_11.toNat * (ekI .i64).sz)), tS 303 (.int .i64 x194), tS 304 (v9_e7), tS 305 (.int .i64 x32_9), tS 306 (idxp v9_e7 (x32_9.toNat * (ekI .i64).sz)), tS 307 (.int .i64 x196), tS 308 (.bool (x194 == x196))]) (D := [⟨[0], [], [13]⟩, ⟨[1], [], [14]⟩, ⟨[13, 14, 5], [], [15]⟩, ⟨[15, 5], [], [16]⟩, ⟨[0], [], [17]⟩, ⟨[2], [], [18]⟩, ⟨[17, 18, 5], [], [19]⟩, ⟨[19, 5], [], [20]⟩, ⟨[16, 20], [], [21]⟩]) (ini := [0, 1, 2, 3, 4, 5, 6, 7, 8, 9, 10, 11, 12]) (fin := [1, 3, 0, 2, 21, 4, 5, 6, 7, 8, 9, 10, 11, 12]) (bf := [[], [], [0, 1], [0, 1, 2], [], [], [4, 5], [4, 5, 6], [0, 1, 2, 3, 4, 5, 6, 7]]) (by kernel_rfl) (by kernel_rfl) (fun x w h1 h2 => (.cons () (.cons () (.cons () (.cons () (.cons () (.cons () (.cons () (.cons () (.cons () (.cons () (.cons () (.cons () (.cons () (.nil ⟨EnvAll.of h1 ⟨rfl, rfl, rfl, rfl, rfl, rfl, rfl, trivial⟩, h2⟩))))))))))))))) (fun Q => by kernel_rfl) ⟨?_, ?_, ?_, ?_, ?_, ?_, ?_, ?_, ?_, trivial⟩ ?_
              · rintro Fr _
                refine SO.v rfl (opv_move rfl) ?_
                exact SO.nilZ fun a w h1 h2 h3 h4 h5 => PZ.of h1 h3 h5 (.cons () (.cons () (.nil ⟨EnvAll.of h2 ⟨rfl, rfl, trivial⟩, h4⟩)))
              · rintro Fr _
                refine SO.v rfl (opv_move rfl) ?_
                exact SO.nilZ fun a w h1 h2 h3 h4 h5 => PZ.of h1 h3 h5 (.cons () (.cons () (.nil ⟨EnvAll.of h2 ⟨rfl, rfl, trivial⟩, h4⟩)))
              · rintro Fr _ _ _
                refine SO.v rfl (opv_idx Try.underlying29 Try.sizeOf3 hr166 rfl rfl hx195) ?_
                exact SO.nilZ fun a w h1 h2 h3 h4 h5 => PZ.of h1 h3 h5 (.cons () (.cons () (.cons () (.cons () (.nil ⟨EnvAll.of h2 ⟨rfl, rfl, rfl, trivial⟩, h4⟩)))))
              · rintro Fr _ _
                refine SO.loadI1 (j := 0) rfl Try.isAgg3 (Rd.head hr166) hx195 rfl rfl rfl rfl ?_
                exact SO.nilZ fun a w h1 h2 h3 h4 h5 => PZ.of h1 h3 h5 (.cons () (.cons () (.cons () (.nil ⟨EnvAll.of h2 ⟨rfl, rfl, trivial⟩, h4⟩))))
              · rintro Fr _
                refine SO.v rfl (opv_move rfl) ?_
                exact SO.nilZ fun a w h1 h2 h3 h4 h5 => PZ.of h1 h3 h5 (.cons () (.cons () (.nil ⟨EnvAll.of h2 ⟨rfl, rfl, trivial⟩, h4⟩)))
              · rintro Fr _
                refine SO.v rfl (opv_move rfl) ?_
                exact SO.nilZ fun a w h1 h2 h3 h4 h5 => PZ.of h1 h3 h5 (.cons () (.cons () (.nil ⟨EnvAll.of h2 ⟨rfl, rfl, trivial⟩, h4⟩)))
              · rintro Fr _ _ _
                refine SO.v rfl (opv_idx Try.underlying29 Try.sizeOf3 hr166 rfl rfl hx197) ?_
                exact SO.nilZ fun a w h1 h2 h3 h4 h5 => PZ.of h1 h3 h5 (.cons () (.cons () (.cons () (.cons () (.nil ⟨EnvAll.of h2 ⟨rfl, rfl, rfl, trivial⟩, h4⟩)))))
              · rintro Fr _ _
                refine SO.loadI1 (j := 0) rfl Try.isAgg3 (Rd.head hr166) hx197 rfl rfl rfl rfl ?_
                exact SO.nilZ fun a w h1 h2 h3 h4 h5 => PZ.of h1 h3 h5 (.cons () (.cons () (.cons () (.nil ⟨EnvAll.of h2 ⟨rfl, rfl, trivial⟩, h4⟩))))
              · rintro Fr _ _
                refine SO.v rfl (opv_eql rfl rfl) ?_
                exact SO.nilZ fun a w h1 h2 h3 h4 h5 => PZ.of h1 h3 h5 (.cons () (.cons () (.cons () (.nil ⟨EnvAll.of h2 ⟨rfl, rfl, rfl, trivial⟩, h4⟩))))
              rintro _ _ _ _ _ _ _ _ _ _ _ _ _ _
              refine S.to (ρ' := [(35, .int .i64 x35_11), (4, .bool false), (5, .bool t1), (8, v8_e2), (33, .int .i64 j33_e10), (9, v9_e7), (32, .int .i64 x32_9), (308, .bool (x194 == x196))]) ⟨rfl, rfl, rfl, rfl, rfl, rfl, rfl, rfl, trivial⟩ ?_
              rcases bool_or (x194 == x196) with b198 | b198
              · replace h := cond_t b198 h
                refine S.condT rfl b198 ?_
                refine S.seq ?_
                refine S.region ?_
                refine SO.v rfl (opv_assign rfl) ?_
                refine SO.nil ?_
                refine S.to (ρ' := [(4, .bool false)]) ⟨rfl, trivial⟩ ?_
                cases h
                replace h := hK11.1 _ rfl
                cases h
                replace h := hK9.1 _ rfl
                cases h
                refine S.b6 ?_
                refine S.closeR ?_
                refine S.b7 ?_
                refine S.closeR ?_
                refine S.drop ?_
                refine S.drop ?_
                refine S.drop ?_
                refine S.drop ?_
                refine S.drop ?_
                refine S.drop ?_
                refine S.drop ?_
                refine S.drop ?_
                exact S.ret1 Try.func3 rfl rfl (fun w hs hk => hR w _ _ ⟨rfl, rfl⟩ hs hk)
              · replace h := cond_f b198 h
                refine S.condF rfl b198 ?_
                refine S.skip ?_
                refine S.inBlock ?_
                refine S.region ?_
                refine SO.v rfl (opv_move rfl) ?_
                refine SO.v rfl (opv_add rfl rfl) ?_
                refine SO.v rfl (opv_assign rfl) ?_
                refine SO.nil ?_
                refine S.b8 ?_
                refine S.b8 ?_
                refine S.b8 ?_
                refine S.b8 ?_
                refine S.b8 ?_
                refine S.b8 ?_
                refine S.b8 ?_
                refine S.b8 ?_
                refine S.b8 ?_
                refine S.to ?_ (ih11 (w64 (x35_11 + 1), ()) h)
                exact ⟨rfl, rfl, rfl, rfl, rfl, rfl, rfl, trivial⟩
            · replace h := cond_f b193 h
              refine S.condF rfl b193 ?_
              refine S.exit rfl ?_
              cases h
              refine S.b8 ?_
              refine S.b8 ?_
              refine S.b8 ?_
              refine S.b8 ?_
              refine S.b8 ?_
              refine S.b8 ?_
              refine S.b8 ?_
              refine S.b8 ?_
              refine S.b8 ?_
              refine S.to ?_ (hK11.2 () () rfl)
              exact ⟨rfl, rfl, rfl, rfl, rfl, rfl, trivial⟩
          refine ⟨fun r' e' => ?_, ?_⟩
          · subst e'
            have h9 := Brk.of_ret h
            exact h9
          rintro _ _ e'
          subst e'
          replace h := Brk.of_nx h
          refine S.seq ?_
          refine S.region ?_
          refine SO.v rfl (opv_move rfl) ?_
          refine SO.v rfl (opv_neq rfl rfl) ?_
          refine SO.nil ?_
          rcases bool_or (j33_e10 != 1) with b199 | b199
          · replace h := cond_t b199 h
            refine S.condT rfl b199 ?_
            refine S.seq ?_
            refine S.region ?_
            refine SO.v rfl (opv_assign rfl) ?_
            refine SO.nil ?_
            refine S.to (ρ' := [(4, .bool false)]) ⟨rfl, trivial⟩ ?_
            cases h
            replace h := hK9.1 _ rfl
            cases h
            refine S.b6 ?_
            refine S.closeR ?_
            refine S.b7 ?_
            refine S.closeR ?_
            refine S.drop ?_
            refine S.drop ?_
            refine S.drop ?_
            refine S.drop ?_
            refine S.drop ?_
            refine S.drop ?_
            refine S.drop ?_
            refine S.drop ?_
            exact S.ret1 Try.func3 rfl rfl (fun w hs hk => hR w _ _ ⟨rfl, rfl⟩ hs hk)
          · replace h := cond_f b199 h
            refine S.condF rfl b199 ?_
            refine S.skip ?_
            refine S.inBlock ?_
            refine S.region ?_
            refine SO.v rfl (opv_move rfl) ?_
            refine SO.v rfl (opv_add rfl rfl) ?_
            refine SO.v rfl (opv_assign rfl) ?_
            refine SO.nil ?_
            refine S.b8 ?_
            refine S.b8 ?_
            refine S.b8 ?_
            refine S.b8 ?_
            refine S.b8 ?_
            refine S.b8 ?_
            refine S.b8 ?_
            refine S.b8 ?_
            refine S.b8 ?_
            refine S.to ?_ (ih9 (w64 (x32_9 + 1), ()) h)
            exact ⟨rfl, rfl, rfl, rfl, rfl, trivial⟩
        · replace h := cond_f b186 h
          refine S.condF rfl b186 ?_
          refine S.exit rfl ?_
          cases h
          refine S.b8 ?_
          refine S.b8 ?_
          refine S.b8 ?_
          refine S.b8 ?_
          refine S.b8 ?_
          refine S.b8 ?_
          refine S.b8 ?_
          refine S.b8 ?_
          refine S.b8 ?_
          refine S.to ?_ (hK9.2 () () rfl)
          exact ⟨rfl, rfl, trivial⟩
      refine ⟨fun r' e' => ?_, ?_⟩
      · subst e'
        have h9 := Brk.of_ret h
        exact h9
      rintro _ _ e'
      subst e'
      replace h := Brk.of_nx h
      refine S.seq ?_
      refine S.region ?_
      refine SO.v rfl (opv_move rfl) ?_
      refine SO.v rfl (opv_assign rfl) ?_
      refine SO.nil ?_
      cases h
      refine S.b6 ?_
      refine S.closeR ?_
      refine S.b7 ?_
      refine S.closeR ?_
      refine S.drop ?_
      refine S.drop ?_
      refine S.drop ?_
      refine S.drop ?_
      refine S.drop ?_
      refine S.drop ?_
      refine S.drop ?_
      refine S.drop ?_
      exact S.ret1 Try.func3 rfl rfl (fun w hs hk => hR w _ _ ⟨rfl, rfl⟩ hs hk)
end Go.Proofs
namespace Go.Proofs
open Go.Sl Go.RowKit
/-! 33 padstone/padstoneref10.Same -/
def ref10_Same.l1 (a0 : List Int) (a1 : List Int) : Nat → Int → Option (Brk Bool Unit)
  | 0, _ => none
  | k + 1, x5_1 => bif decide (x5_1 < (a0.length : Int)) then ((at_ a0 x5_1).bind fun x3 => (at_ a1 x5_1).bind fun x5 => bif x3 != x5 then (some (Brk.ret false)) else (ref10_Same.l1 a0 a1 k (w64 (x5_1 + 1)))) else (some (Brk.nx ()))
def ref10_Same.f (k : Nat) (a0 : List Int) (a1 : List Int) : Option (Bool) :=
  bif (a0.length : Int) != (a1.length : Int) then (some false) else ((ref10_Same.l1 a0 a1 k 0).bind fun o1 => Brk.go o1 (fun r => some r) (fun _ => some true))
set_option maxHeartbeats 8000000 in
set_option maxRecDepth 100000 in
theorem ref10_Same.ct (k : Nat) (v0 : Value) (v1 : Value) (a0 : List Int) (a1 : List Int) (r0 : Bool) (h : ref10_Same.f k a0 a1 = some r0) :
    Ct Try.prog 33 [v0, v1] (fun F => Rd (ekI .u64) v0 a0 F ∧ Rd (ekI .u64) v1 a1 F) [] (fun u H' => u = .bool r0 ∧ H' = []) := by
  unfold ref10_Same.f at h
  refine Ct.intro (n := 26) Try.func33 rfl rfl rfl ?_
  intro R w0 F hF hR
  obtain ⟨hF0, hF1⟩ := hF
  refine S.seq ?_
  refine S.region ?_
  refine SO.v rfl (opv_assign rfl) ?_
  refine SO.nil ?_
  refine S.seq ?_
  refine S.seq ?_
  refine S.region ?_
  refine SO.v rfl (opv_move rfl) ?_
  refine SO.v rfl (opv_lenR rfl Try.underlying24 hF0 rfl) ?_
  refine SO.v rfl (opv_move rfl) ?_
  refine SO.v rfl (opv_lenR rfl Try.underlying24 hF1 rfl) ?_
  refine SO.v rfl (opv_neq rfl rfl) ?_
  refine SO.nil ?_
  rcases bool_or ((a0.length : Int) != (a1.length : Int)) with b1 | b1
  · replace h := cond_t b1 h
    refine S.condT rfl b1 ?_
    refine S.seq ?_
    refine S.region ?_
    refine SO.v rfl (opv_assign rfl) ?_
    refine SO.nil ?_
    refine S.to (ρ' := [(4, .bool false)]) ⟨rfl, trivial⟩ ?_
    cases h
    exact S.ret1 Try.func33 rfl rfl (fun w hs hk => hR w _ _ ⟨rfl, rfl⟩ hs hk)
  · replace h := cond_f b1 h
    refine S.condF rfl b1 ?_
    refine S.skip ?_
    refine S.seq ?_
    refine S.seq ?_
    refine S.region ?_
    refine SO.v rfl (opv_assign rfl) ?_
    refine SO.nil ?_
    obtain ⟨o1, hl1, h⟩ := opt_bind h
    refine S.to (ρ' := [(5, .int .i64 0), (4, .bool false), (0, v0), (1, v1)]) ⟨rfl, rfl, rfl, rfl, trivial⟩ ?_
    refine S.forloop (X := Int × Unit) (O := Brk Bool Unit) (fun m x => ref10_Same.l1 a0 a1 m x.1) (fun x => match x with | (x5_1, _) => [(5, .int .i64 x5_1), (4, .bool false), (0, v0), (1, v1)]) (fun x => match x with | (x5_1, _) => [F]) (fun Sk o' => (∀ r', o' = Brk.ret r' → some r' = some r0) ∧ ∀ _ : Unit, ∀ _ : Unit, o' = Brk.nx () → Sk [(4, .bool false)] [F]) (fun _ => rfl) ?_ (m := k) (x := (0, ())) hl1 ?_
    · clear h hl1
      intro k x o_1 h hK1 ih1
      obtain ⟨x5_1, _⟩ := x
      replace h : ref10_Same.l1 a0 a1 (k + 1) x5_1 = some o_1 := h
      first | rw [ref10_Same.l1] at h | unfold ref10_Same.l1 at h
      refine S.seq ?_
      refine S.seq ?_
      refine S.region ?_
      refine SO.v rfl (opv_move rfl) ?_
      refine SO.v rfl (opv_move rfl) ?_
      refine SO.v rfl (opv_lenR rfl Try.underlying24 hF0 rfl) ?_
      refine SO.v rfl (opv_lss rfl rfl) ?_
      refine SO.nil ?_
      rcases bool_or (decide (x5_1 < (a0.length : Int))) with b2 | b2
      · replace h := cond_t b2 h
        refine S.condT rfl b2 ?_
        refine S.skip ?_
        refine S.seq ?_
        refine S.block ?_
        refine S.seq ?_
        obtain ⟨x3, hx4, h⟩ := opt_bind h
        obtain ⟨x5, hx6, h⟩ := opt_bind h
        refine S.draw' (Z := fun Q => ∀ (_ : Unit) (_ : Unit) (_ : Unit) (_ : Unit) (_ : Unit) (_ : Unit), Q [(5, .int .i64 x5_1), (4, .bool false), (0, v0), (1, v1), (25, .bool (x3 != x5))] [F]) (T := [tS 0 (v0), tS 5 (.int .i64 x5_1), tS 1 (v1), tS 4 (.bool false), tR (F), tS 17 (v0), tS 18 (.int .i64 x5_1), tS 19 (idxp v0 (x5_1.toNat * (ekI .u64).sz)), tS 20 (.int .u64 x3), tS 21 (v1), tS 22 (.int .i64 x5_1), tS 23 (idxp v1 (x5_1.toNat * (ekI .u64).sz)), tS 24 (.int .u64 x5), tS 25 (.bool (x3 != x5))]) (D := [⟨[0], [], [5]⟩, ⟨[1], [], [6]⟩, ⟨[5, 6, 4], [], [7]⟩, ⟨[7, 4], [], [8]⟩, ⟨[2], [], [9]⟩, ⟨[1], [], [10]⟩, ⟨[9, 10, 4], [], [11]⟩, ⟨[11, 4], [], [12]⟩, ⟨[8, 12], [], [13]⟩]) (ini := [0, 1, 2, 3, 4]) (fin := [1, 3, 0, 2, 13, 4]) (bf := [[], [], [0, 1], [0, 1, 2], [], [], [4, 5], [4, 5, 6], [0, 1, 2, 3, 4, 5, 6, 7]]) (by kernel_rfl) (by kernel_rfl) (fun x w h1 h2 => (.cons () (.cons () (.cons () (.cons () (.cons () (.nil ⟨EnvAll.of h1 ⟨rfl, rfl, rfl, rfl, trivial⟩, h2⟩))))))) (fun Q => by kernel_rfl) ⟨?_, ?_, ?_, ?_, ?_, ?_, ?_, ?_, ?_, trivial⟩ ?_
        · rintro Fr _
          refine SO.v rfl (opv_move rfl) ?_
          exact SO.nilZ fun a w h1 h2 h3 h4 h5 => PZ.of h1 h3 h5 (.cons () (.cons () (.nil ⟨EnvAll.of h2 ⟨rfl, rfl, trivial⟩, h4⟩)))
        · rintro Fr _
          refine SO.v rfl (opv_move rfl) ?_
          exact SO.nilZ fun a w h1 h2 h3 h4 h5 => PZ.of h1 h3 h5 (.cons () (.cons () (.nil ⟨EnvAll.of h2 ⟨rfl, rfl, trivial⟩, h4⟩)))
        · rintro Fr _ _ _
          refine SO.v rfl (opv_idx Try.underlying24 Try.sizeOf35 hF0 rfl rfl hx4) ?_
          exact SO.nilZ fun a w h1 h2 h3 h4 h5 => PZ.of h1 h3 h5 (.cons () (.cons () (.cons () (.cons () (.nil ⟨EnvAll.of h2 ⟨rfl, rfl, rfl, trivial⟩, h4⟩)))))
        · rintro Fr _ _
          refine SO.loadI1 (j := 0) rfl Try.isAgg35 (Rd.head hF0) hx4 rfl rfl rfl rfl ?_
          exact SO.nilZ fun a w h1 h2 h3 h4 h5 => PZ.of h1 h3 h5 (.cons () (.cons () (.cons () (.nil ⟨EnvAll.of h2 ⟨rfl, rfl, trivial⟩, h4⟩))))
        · rintro Fr _
          refine SO.v rfl (opv_move rfl) ?_
          exact SO.nilZ fun a w h1 h2 h3 h4 h5 => PZ.of h1 h3 h5 (.cons () (.cons () (.nil ⟨EnvAll.of h2 ⟨rfl, rfl, trivial⟩, h4⟩)))
        · rintro Fr _
          refine SO.v rfl (opv_move rfl) ?_
          exact SO.nilZ fun a w h1 h2 h3 h4 h5 => PZ.of h1 h3 h5 (.cons () (.cons () (.nil ⟨EnvAll.of h2 ⟨rfl, rfl, trivial⟩, h4⟩)))
        · rintro Fr _ _ _
          refine SO.v rfl (opv_idx Try.underlying24 Try.sizeOf35 hF1 rfl rfl hx6) ?_
          exact SO.nilZ fun a w h1 h2 h3 h4 h5 => PZ.of h1 h3 h5 (.cons () (.cons () (.cons () (.cons () (.nil ⟨EnvAll.of h2 ⟨rfl, rfl, rfl, trivial⟩, h4⟩)))))
        · rintro Fr _ _
          refine SO.loadI1 (j := 0) rfl Try.isAgg35 (Rd.head hF1) hx6 rfl rfl rfl rfl ?_
          exact SO.nilZ fun a w h1 h2 h3 h4 h5 => PZ.of h1 h3 h5 (.cons () (.cons () (.cons () (.nil ⟨EnvAll.of h2 ⟨rfl, rfl, trivial⟩, h4⟩))))
        · rintro Fr _ _
          refine SO.v rfl (opv_neq rfl rfl) ?_
          exact SO.nilZ fun a w h1 h2 h3 h4 h5 => PZ.of h1 h3 h5 (.cons () (.cons () (.cons () (.nil ⟨EnvAll.of h2 ⟨rfl, rfl, rfl, trivial⟩, h4⟩))))
        rintro _ _ _ _ _ _
        refine S.to (ρ' := [(5, .int .i64 x5_1), (4, .bool false), (0, v0), (1, v1), (25, .bool (x3 != x5))]) ⟨rfl, rfl, rfl, rfl, rfl, trivial⟩ ?_
        rcases bool_or (x3 != x5) with b7 | b7
        · replace h := cond_t b7 h
          refine S.condT rfl b7 ?_
          refine S.seq ?_
          refine S.region ?_
          refine SO.v rfl (opv_assign rfl) ?_
          refine SO.nil ?_
          cases h
          replace h := hK1.1 _ rfl
          cases h
          exact S.ret1 Try.func33 rfl rfl (fun w hs hk => hR w _ _ ⟨rfl, rfl⟩ hs hk)
        · replace h := cond_f b7 h
          refine S.condF rfl b7 ?_
          refine S.skip ?_
          refine S.inBlock ?_
          refine S.region ?_
          refine SO.v rfl (opv_move rfl) ?_
          refine SO.v rfl (opv_add rfl rfl) ?_
          refine SO.v rfl (opv_assign rfl) ?_
          refine SO.nil ?_
          refine S.to ?_ (ih1 (w64 (x5_1 + 1), ()) h)
          exact ⟨rfl, rfl, rfl, rfl, trivial⟩
      · replace h := cond_f b2 h
        refine S.condF rfl b2 ?_
        refine S.exit rfl ?_
        cases h
        refine S.to ?_ (hK1.2 () () rfl)
        exact ⟨rfl, trivial⟩
    refine ⟨fun r' e' => ?_, ?_⟩
    · subst e'
      have h9 := Brk.of_ret h
      exact h9
    rintro _ _ e'
    subst e'
    replace h := Brk.of_nx h
    refine S.seq ?_
    refine S.region ?_
    refine SO.v rfl (opv_assign rfl) ?_
    refine SO.nil ?_
    cases h
    exact S.ret1 Try.func33 rfl rfl (fun w hs hk => hR w _ _ ⟨rfl, rfl⟩ hs hk)
end Go.Proofs
namespace Go.Proofs
open Go.Sl Go.RowKit
/-! 52 (*padstone/padstoneref10.State).is -/
def ref10_State_is.f (a0 : ref10_State) (a1 : Int) (a2 : Int) : Option (Bool) :=
  bif (decide (a1 < 0)) || (decide (31 < a1)) then (some false) else ((at_ a0.Objs a1).bind fun x7 => some (x7.Kind == a2))
set_option maxHeartbeats 8000000 in
set_option maxRecDepth 100000 in
theorem ref10_State_is.ct (bp0 : Nat) (v0_Slots : Value) (v0_Objs : Value) (raws_v0_Slots : List (Raw (kr_ref10_Slot).sz)) (A_v0_Slots : HProp) (raws_v0_Objs : List (Raw (kr_ref10_Obj).sz)) (A_v0_Objs : HProp) (a0 : ref10_State) (a1 : Int) (a2 : Int) (r0 : Bool) (h : ref10_State_is.f a0 a1 a2 = some r0) :
    Ct Try.prog 52 [bp bp0 0, .int .i64 a1, .int .i64 a2] (fun _ => True) [Box bp0 [v0_Slots, v0_Objs, .int .i64 a0.NS, .int .i64 a0.NO], OwnO 81 kr_ref10_Slot v0_Slots raws_v0_Slots A_v0_Slots a0.Slots, OwnO 72 kr_ref10_Obj v0_Objs raws_v0_Objs A_v0_Objs a0.Objs] (fun u H' => u = .bool r0 ∧ H' = [Box bp0 [v0_Slots, v0_Objs, .int .i64 a0.NS, .int .i64 a0.NO], OwnO 81 kr_ref10_Slot v0_Slots raws_v0_Slots A_v0_Slots a0.Slots, OwnO 72 kr_ref10_Obj v0_Objs raws_v0_Objs A_v0_Objs a0.Objs]) := by
  unfold ref10_State_is.f at h
  refine Ct.intro (n := 23) Try.func52 rfl rfl rfl ?_
  intro R w0 F hF hR
  refine S.b1 ?_
  refine S.rdO fun hrel1 hR2 => ?_
  refine S.b2 ?_
  refine S.rdO fun hrel3 hR4 => ?_
  refine S.seq ?_
  refine S.region ?_
  refine SO.v rfl (opv_assign rfl) ?_
  refine SO.nil ?_
  refine S.seq ?_
  refine S.seq ?_
  refine S.region ?_
  refine SO.v rfl (opv_move rfl) ?_
  refine SO.v rfl (opv_lss rfl rfl) ?_
  refine SO.v rfl (opv_move rfl) ?_
  refine SO.cut 3 12 (.bool ((decide (a1 < 0)) || (decide (31 < a1)))) [OwnO 72 kr_ref10_Obj v0_Objs raws_v0_Objs A_v0_Objs a0.Objs, OwnO 81 kr_ref10_Slot v0_Slots raws_v0_Slots A_v0_Slots a0.Slots, Box bp0 [v0_Slots, v0_Objs, .int .i64 a0.NS, .int .i64 a0.NO], F] (fun l2 hk2 => ?_) ?_
  · rcases bool_or (decide (a1 < 0)) with b5 | b5
    · refine SO.passF rfl rfl rfl b5 rfl rfl ?_
      refine SO.passF rfl rfl rfl b5 rfl rfl ?_
      refine SO.v rfl (opv_pick_t' b5 rfl rfl) ?_
      refine SO.b3 ?_
      refine SO.b3 ?_
      refine SO.b3 ?_
      refine SO.b3 ?_
      exact hk2.fitc (m := 3) rfl (or_t b5) rfl
    · refine SO.takeT rfl rfl rfl b5 ?_
      refine SO.v rfl (opv_move rfl) ?_
      refine SO.takeT rfl rfl rfl b5 ?_
      refine SO.v rfl (opv_gtr rfl rfl) ?_
      refine SO.v rfl (opv_pick_f' b5 rfl rfl) ?_
      refine SO.b3 ?_
      refine SO.b3 ?_
      refine SO.b3 ?_
      refine SO.b3 ?_
      exact hk2.fitc (m := 3) rfl (or_f b5) rfl
  refine SO.nil ?_
  rcases bool_or ((decide (a1 < 0)) || (decide (31 < a1))) with b6 | b6
  · replace h := cond_t b6 h
    refine S.condT rfl b6 ?_
    refine S.seq ?_
    refine S.region ?_
    refine SO.v rfl (opv_assign rfl) ?_
    refine SO.nil ?_
    refine S.to (ρ' := [(6, .bool false)]) ⟨rfl, trivial⟩ ?_
    cases h
    refine S.b3 ?_
    refine S.b1 ?_
    refine S.b2 ?_
    refine S.b3 ?_
    exact S.ret1 Try.func52 rfl rfl (fun w hs hk => hR w _ _ ⟨rfl, rfl⟩ hs hk)
  · replace h := cond_f b6 h
    refine S.condF rfl b6 ?_
    refine S.skip ?_
    refine S.seq ?_
    refine S.region ?_
    refine SO.v rfl (opv_move rfl) ?_
    refine SO.v rfl (opv_nilCheck rfl) ?_
    refine SO.v rfl (opv_fieldAddr Try.underlying76 rfl Try.sizeOf74 rfl rfl) ?_
    refine SO.b2 ?_
    refine SO.load1 rfl Try.isAgg74 rfl rfl ?_
    refine SO.v rfl (opv_move rfl) ?_
    obtain ⟨x7, hx8, h⟩ := opt_bind h
    obtain ⟨r9, hr10, hc11⟩ := relR.at hrel3 hx8
    refine SO.v rfl (opv_idx Try.underlying74 Try.sizeOf72 hR4 rfl rfl hr10) ?_
    refine SO.v rfl (opv_fieldIdx Try.underlying72 rfl Try.sizeOf3 hR4 hr10 rfl rfl) ?_
    refine SO.loadI1 (j := 0) rfl Try.isAgg3 (Rd.tail (Rd.head hR4)) hr10 rfl rfl rfl (hc11.val rfl) ?_
    refine SO.v rfl (opv_move rfl) ?_
    refine SO.v rfl (opv_eql rfl rfl) ?_
    refine SO.v rfl (opv_assign rfl) ?_
    refine SO.nil ?_
    refine S.to (ρ' := [(6, .bool (x7.Kind == a2))]) ⟨rfl, trivial⟩ ?_
    cases h
    refine S.b3 ?_
    refine S.b2 ?_
    refine S.b3 ?_
    refine S.b3 ?_
    exact S.ret1 Try.func52 rfl rfl (fun w hs hk => hR w _ _ ⟨rfl, rfl⟩ hs hk)
end Go.Proofs
namespace Go.Proofs
open Go.Sl Go.RowKit
/-! 59 (*padstone/padstoneref10.State).pop -/
def ref10_State_pop.f (a0 : ref10_State) (a1 : Int) : Option ((Int × ref10_State)) :=
  (at_ a0.Objs a1).bind fun x1 => bif (x1.Queue.length : Int) == 0 then (some (-1, a0)) else ((at_ a0.Objs a1).bind fun x14 => (at_ x14.Queue 0).bind fun x22 => (at_ a0.Objs a1).bind fun x30 => (slcF x30.Queue 1).bind fun zs38 => (app ([]) zs38).bind fun zs42 => (at_ a0.Objs a1).bind fun x46 => some (x22, ({ a0 with Objs := a0.Objs.set a1.toNat ({ x46 with Queue := zs42 } : ref10_Obj) } : ref10_State)))
set_option maxHeartbeats 8000000 in
set_option maxRecDepth 100000 in
theorem ref10_State_pop.ct (bp0 : Nat) (v0_Slots : Value) (v0_Objs : Value) (a0 : ref10_State) (a1 : Int) (r0 : Int) (rp0 : ref10_State) (h : ref10_State_pop.f a0 a1 = some (r0, rp0)) :
    Ct Try.prog 59 [bp bp0 0, .int .i64 a1] (fun _ => True) [Box bp0 [v0_Slots, v0_Objs, .int .i64 a0.NS, .int .i64 a0.NO], OwnR 81 kr_ref10_Slot v0_Slots a0.Slots, OwnR 72 kr_ref10_Obj v0_Objs a0.Objs] (fun u H' => ∃ rw0_Slots rw0_Objs, u = .int .i64 r0 ∧ H' = [Box bp0 [rw0_Slots, rw0_Objs, .int .i64 rp0.NS, .int .i64 rp0.NO], OwnR 81 kr_ref10_Slot rw0_Slots rp0.Slots, OwnR 72 kr_ref10_Obj rw0_Objs rp0.Objs]) := by
  unfold ref10_State_pop.f at h
  refine Ct.intro (n := 45) Try.func59 rfl rfl rfl ?_
  intro R w0 F hF hR
  refine S.seq ?_
  refine S.region ?_
  refine SO.v rfl (opv_assign rfl) ?_
  refine SO.nil ?_
  refine S.seq ?_
  refine S.seq ?_
  refine S.region ?_
  refine SO.v rfl (opv_move rfl) ?_
  refine SO.v rfl (opv_nilCheck rfl) ?_
  refine SO.v rfl (opv_fieldAddr Try.underlying76 rfl Try.sizeOf74 rfl rfl) ?_
  refine SO.load1 rfl Try.isAgg74 rfl rfl ?_
  refine SO.v rfl (opv_move rfl) ?_
  refine SO.b2 ?_
  refine SO.openR fun raws6 A7 hrel8 hR9 => ?_
  obtain ⟨x1, hx2, h⟩ := opt_bind h
  obtain ⟨r3, hr4, hc5⟩ := relR.at hrel8 hx2
  refine SO.v rfl (opv_idx Try.underlying74 Try.sizeOf72 hR9 rfl rfl hr4) ?_
  refine SO.v rfl (opv_fieldIdx Try.underlying72 rfl Try.sizeOf29 hR9 hr4 rfl rfl) ?_
  obtain ⟨u10, hu11, hru12⟩ := hc5.sl 6 rfl
  refine SO.loadI1 (j := 6) rfl Try.isAgg29 (Rd.head hR9) hr4 rfl rfl rfl hu11 ?_
  refine SO.v rfl (opv_lenR rfl Try.underlying29 hru12 rfl) ?_
  refine SO.v rfl (opv_eql rfl rfl) ?_
  refine SO.nil ?_
  refine S.to (ρ' := [(0, bp bp0 0), (1, .int .i64 a1), (4, .int .i64 0), (15, .bool ((x1.Queue.length : Int) == 0))]) ⟨rfl, rfl, rfl, rfl, trivial⟩ ?_
  rcases bool_or ((x1.Queue.length : Int) == 0) with b13 | b13
  · replace h := cond_t b13 h
    refine S.condT rfl b13 ?_
    refine S.seq ?_
    refine S.region ?_
    refine SO.v rfl (opv_assign rfl) ?_
    refine SO.nil ?_
    cases h
    refine S.closeR ?_
    refine S.b3 ?_
    refine S.b1 ?_
    refine S.b3 ?_
    refine S.b3 ?_
    exact S.ret1 Try.func59 rfl rfl (fun w hs hk => hR w _ _ ⟨v0_Slots, v0_Objs, rfl, rfl⟩ hs hk)
  · replace h := cond_f b13 h
    refine S.condF rfl b13 ?_
    refine S.skip ?_
    refine S.seq ?_
    refine S.region ?_
    refine SO.v rfl (opv_move rfl) ?_
    refine SO.v rfl (opv_nilCheck rfl) ?_
    refine SO.v rfl (opv_fieldAddr Try.underlying76 rfl Try.sizeOf74 rfl rfl) ?_
    refine SO.b1 ?_
    refine SO.load1 rfl Try.isAgg74 rfl rfl ?_
    refine SO.v rfl (opv_move rfl) ?_
    obtain ⟨x14, hx15, h⟩ := opt_bind h
    obtain ⟨r16, hr17, hc18⟩ := relR.at hrel8 hx15
    refine SO.v rfl (opv_idx Try.underlying74 Try.sizeOf72 hR9 rfl rfl hr17) ?_
    refine SO.v rfl (opv_fieldIdx Try.underlying72 rfl Try.sizeOf29 hR9 hr17 rfl rfl) ?_
    obtain ⟨u19, hu20, hru21⟩ := hc18.sl 6 rfl
    refine SO.loadI1 (j := 6) rfl Try.isAgg29 (Rd.tail (Rd.head hR9)) hr17 rfl rfl rfl hu20 ?_
    obtain ⟨x22, hx23, h⟩ := opt_bind h
    refine SO.v rfl (opv_idx Try.underlying29 Try.sizeOf3 hru21 rfl rfl hx23) ?_
    refine SO.loadI1 (j := 0) rfl Try.isAgg3 (Rd.tail (Rd.head (Rd.pool hru21))) hx23 rfl rfl rfl rfl ?_
    refine SO.v rfl (opv_assign rfl) ?_
    refine SO.nil ?_
    refine S.to (ρ' := [(0, bp bp0 0), (1, .int .i64 a1), (4, .int .i64 0), (5, .int .i64 x22)]) ⟨rfl, rfl, rfl, rfl, trivial⟩ ?_
    refine S.seq ?_
    refine S.b2 ?_
    refine S.openR fun raws24 A25 hrel26 hR27 => ?_
    obtain ⟨x30, hx31, h⟩ := opt_bind h
    obtain ⟨r32, hr33, hc34⟩ := relR.at hrel8 hx31
    obtain ⟨u35, hu36, hru37⟩ := hc34.sl 6 rfl
    obtain ⟨zs38, hz39, h⟩ := opt_bind h
    have hru40 := Rd.slc hru37 hz39
    obtain ⟨zs42, hz43, h⟩ := opt_bind h
    obtain ⟨x46, hx47, h⟩ := opt_bind h
    obtain ⟨r48, hr49, hc50⟩ := relR.at hrel8 hx47
    refine S.draw' (Z := fun Q => ∀ (_ : Unit) (_ : Unit) (_ : Unit) (_ : Unit) (_ : Unit), Q [(4, .int .i64 0), (5, .int .i64 x22)] [OwnO 81 kr_ref10_Slot v0_Slots raws24 A25 a0.Slots, Box bp0 [v0_Slots, v0_Objs, .int .i64 a0.NS, .int .i64 a0.NO], OwnR 72 kr_ref10_Obj v0_Objs (a0.Objs.set a1.toNat ({ x46 with Queue := zs42 } : ref10_Obj)), F]) (T := [tS 0 (bp bp0 0), tS 1 (.int .i64 a1), tE [(4, .int .i64 0), (5, .int .i64 x22)], tR (OwnO 81 kr_ref10_Slot v0_Slots raws24 A25 a0.Slots), tR (Box bp0 [v0_Slots, v0_Objs, .int .i64 a0.NS, .int .i64 a0.NO]), tR (OwnO 72 kr_ref10_Obj v0_Objs raws6 A7 a0.Objs), tR (F), tS 26 (bp bp0 0), tS 27 (bp bp0 0), tS 28 (bp bp0 1), tS 29 (v0_Objs), tS 30 (.int .i64 a1), ⟨Value, [31], (fun v28 => [(31, v28)]), (fun v28 => [Own 3 (ekI .i64) v28 ([])]), fun _ => rfl⟩, tS 32 (bp bp0 0), tS 33 (bp bp0 0), tS 34 (bp bp0 1), tS 35 (v0_Objs), tS 36 (.int .i64 a1), tS 37 (idxp v0_Objs (a1.toNat * kr_ref10_Obj.sz)), tS 38 (idxp v0_Objs (a1.toNat * kr_ref10_Obj.sz + 6)), tS 39 (u35), tS 40 ((slcV u35 (1 : Int).toNat (ekI .i64).sz)), ⟨Value, [41], (fun v44 => [(41, v44)]), (fun v44 => [Own 3 (ekI .i64) v44 zs42]), fun _ => rfl⟩, tS 42 (idxp v0_Objs (a1.toNat * kr_ref10_Obj.sz)), tS 43 (idxp v0_Objs (a1.toNat * kr_ref10_Obj.sz + 6)), tR (OwnR 72 kr_ref10_Obj v0_Objs (a0.Objs.set a1.toNat ({ x46 with Queue := zs42 } : ref10_Obj)))]) (D := [⟨[0], [], [7]⟩, ⟨[7], [], [8]⟩, ⟨[8], [], [9]⟩, ⟨[9, 4], [], [10]⟩, ⟨[1], [], [11]⟩, ⟨[], [], [12]⟩, ⟨[0], [], [13]⟩, ⟨[13], [], [14]⟩, ⟨[14], [], [15]⟩, ⟨[15, 4], [], [16]⟩, ⟨[1], [], [17]⟩, ⟨[16, 17, 5], [], [18]⟩, ⟨[18, 5], [], [19]⟩, ⟨[19, 5], [], [20]⟩, ⟨[20, 5], [], [21]⟩, ⟨[21, 5], [12], [22]⟩, ⟨[10, 11, 5], [], [23]⟩, ⟨[23, 5], [], [24]⟩, ⟨[24], [22, 5], [25]⟩]) (ini := [0, 1, 2, 3, 4, 5, 6]) (fin := [2, 3, 4, 25, 6]) (bf := [[], [0], [0, 1], [0, 1, 2], [], [], [], [6], [6, 7], [6, 7, 8], [], [6, 7, 8, 9, 10], [6, 7, 8, 9, 10, 11], [6, 7, 8, 9, 10, 11, 12], [6, 7, 8, 9, 10, 11, 12, 13], [5, 6, 7, 8, 9, 10, 11, 12, 13, 14], [0, 1, 2, 3, 4, 5, 6, 7, 8, 9, 10, 11, 12, 13, 14, 15], [0, 1, 2, 3, 4, 5, 6, 7, 8, 9, 10, 11, 12, 13, 14, 15, 16], [0, 1, 2, 3, 4, 5, 6, 7, 8, 9, 10, 11, 12, 13, 14, 15, 16, 17]]) (by kernel_rfl) (by kernel_rfl) (fun x w h1 h2 => (.cons () (.cons () (.cons () (.cons () (.cons () (.cons () (.cons () (.nil ⟨EnvAll.of h1 ⟨rfl, rfl, rfl, rfl, trivial⟩, h2⟩))))))))) (fun Q => by kernel_rfl) ⟨?_, ?_, ?_, ?_, ?_, ?_, ?_, ?_, ?_, ?_, ?_, ?_, ?_, ?_, ?_, ?_, ?_, ?_, ?_, trivial⟩ ?_
    · rintro Fr _
      refine SO.v rfl (opv_move rfl) ?_
      exact SO.nilZ fun a w h1 h2 h3 h4 h5 => PZ.of h1 h3 h5 (.cons () (.cons () (.nil ⟨EnvAll.of h2 ⟨rfl, rfl, trivial⟩, h4⟩)))
    · rintro Fr _
      refine SO.v rfl (opv_nilCheck rfl) ?_
      exact SO.nilZ fun a w h1 h2 h3 h4 h5 => PZ.of h1 h3 h5 (.cons () (.cons () (.nil ⟨EnvAll.of h2 ⟨rfl, rfl, trivial⟩, h4⟩)))
    · rintro Fr _
      refine SO.v rfl (opv_fieldAddr Try.underlying76 rfl Try.sizeOf74 rfl rfl) ?_
      exact SO.nilZ fun a w h1 h2 h3 h4 h5 => PZ.of h1 h3 h5 (.cons () (.cons () (.nil ⟨EnvAll.of h2 ⟨rfl, rfl, trivial⟩, h4⟩)))
    · rintro Fr _ _
      refine SO.load1 rfl Try.isAgg74 rfl rfl ?_
      exact SO.nilZ fun a w h1 h2 h3 h4 h5 => PZ.of h1 h3 h5 (.cons () (.cons () (.cons () (.nil ⟨EnvAll.of h2 ⟨rfl, rfl, trivial⟩, h4⟩))))
    · rintro Fr _
      refine SO.v rfl (opv_move rfl) ?_
      exact SO.nilZ fun a w h1 h2 h3 h4 h5 => PZ.of h1 h3 h5 (.cons () (.cons () (.nil ⟨EnvAll.of h2 ⟨rfl, rfl, trivial⟩, h4⟩)))
    · rintro Fr 
      refine SO.buildSlice0 (ekI .i64) rfl Try.underlying29 Try.sizeOf3 (fun v28 hr29 => ?_)
      exact SO.nilZ fun a w h1 h2 h3 h4 h5 => PZ.of h1 h3 h5 (.cons v28 (.nil ⟨EnvAll.of h2 ⟨rfl, trivial⟩, h4⟩))
    · rintro Fr _
      refine SO.v rfl (opv_move rfl) ?_
      exact SO.nilZ fun a w h1 h2 h3 h4 h5 => PZ.of h1 h3 h5 (.cons () (.cons () (.nil ⟨EnvAll.of h2 ⟨rfl, rfl, trivial⟩, h4⟩)))
    · rintro Fr _
      refine SO.v rfl (opv_nilCheck rfl) ?_
      exact SO.nilZ fun a w h1 h2 h3 h4 h5 => PZ.of h1 h3 h5 (.cons () (.cons () (.nil ⟨EnvAll.of h2 ⟨rfl, rfl, trivial⟩, h4⟩)))
    · rintro Fr _
      refine SO.v rfl (opv_fieldAddr Try.underlying76 rfl Try.sizeOf74 rfl rfl) ?_
      exact SO.nilZ fun a w h1 h2 h3 h4 h5 => PZ.of h1 h3 h5 (.cons () (.cons () (.nil ⟨EnvAll.of h2 ⟨rfl, rfl, trivial⟩, h4⟩)))
    · rintro Fr _ _
      refine SO.load1 rfl Try.isAgg74 rfl rfl ?_
      exact SO.nilZ fun a w h1 h2 h3 h4 h5 => PZ.of h1 h3 h5 (.cons () (.cons () (.cons () (.nil ⟨EnvAll.of h2 ⟨rfl, rfl, trivial⟩, h4⟩))))
    · rintro Fr _
      refine SO.v rfl (opv_move rfl) ?_
      exact SO.nilZ fun a w h1 h2 h3 h4 h5 => PZ.of h1 h3 h5 (.cons () (.cons () (.nil ⟨EnvAll.of h2 ⟨rfl, rfl, trivial⟩, h4⟩)))
    · rintro Fr _ _ _
      refine SO.v rfl (opv_idx Try.underlying74 Try.sizeOf72 hR9 rfl rfl hr33) ?_
      exact SO.nilZ fun a w h1 h2 h3 h4 h5 => PZ.of h1 h3 h5 (.cons () (.cons () (.cons () (.cons () (.nil ⟨EnvAll.of h2 ⟨rfl, rfl, rfl, trivial⟩, h4⟩)))))
    · rintro Fr _ _
      refine SO.v rfl (opv_fieldIdx Try.underlying72 rfl Try.sizeOf29 hR9 hr33 rfl rfl) ?_
      exact SO.nilZ fun a w h1 h2 h3 h4 h5 => PZ.of h1 h3 h5 (.cons () (.cons () (.cons () (.nil ⟨EnvAll.of h2 ⟨rfl, rfl, trivial⟩, h4⟩))))
    · rintro Fr _ _
      refine SO.loadI1 (j := 6) rfl Try.isAgg29 (Rd.head hR9) hr33 rfl rfl rfl hu36 ?_
      exact SO.nilZ fun a w h1 h2 h3 h4 h5 => PZ.of h1 h3 h5 (.cons () (.cons () (.cons () (.nil ⟨EnvAll.of h2 ⟨rfl, rfl, trivial⟩, h4⟩))))
    · rintro Fr _ _
      refine SO.v rfl (opv_slcLo Try.underlying29 Try.sizeOf3 hru37 hz39 rfl rfl) ?_
      exact SO.nilZ fun a w h1 h2 h3 h4 h5 => PZ.of h1 h3 h5 (.cons () (.cons () (.cons () (.nil ⟨EnvAll.of h2 ⟨rfl, rfl, trivial⟩, h4⟩))))
    · rintro Fr _ _ v28
      refine SO.b1 ?_
      refine SO.rd fun hr41 => ?_
      refine SO.append rfl Try.underlying29 Try.underlying29 inf3 rfl rfl rfl (by decide) rfl rfl rfl (Rd.head (Rd.pool hru40)) hz43 (fun v44 => ?_)
      refine SO.rd fun hr45 => ?_
      refine SO.b1 ?_
      exact SO.nilZ fun a w h1 h2 h3 h4 h5 => PZ.of h1 h3 h5 (.cons () (.cons () (.cons v44 (.nil ⟨EnvAll.of h2 ⟨rfl, rfl, trivial⟩, h4⟩))))
    · rintro Fr _ _ _
      refine SO.v rfl (opv_idx Try.underlying74 Try.sizeOf72 hR9 rfl rfl hr49) ?_
      exact SO.nilZ fun a w h1 h2 h3 h4 h5 => PZ.of h1 h3 h5 (.cons () (.cons () (.cons () (.cons () (.nil ⟨EnvAll.of h2 ⟨rfl, rfl, rfl, trivial⟩, h4⟩)))))
    · rintro Fr _ _
      refine SO.v rfl (opv_fieldIdx Try.underlying72 rfl Try.sizeOf29 hR9 hr49 rfl rfl) ?_
      exact SO.nilZ fun a w h1 h2 h3 h4 h5 => PZ.of h1 h3 h5 (.cons () (.cons () (.cons () (.nil ⟨EnvAll.of h2 ⟨rfl, rfl, trivial⟩, h4⟩))))
    · rintro Fr _ v44 _
      refine SO.rd fun hr51 => ?_
      refine SO.b1 ?_
      refine SO.b1 ?_
      refine SO.freeze hrel8 fun A52 hcov53 hru54 hrel55 hR56 => ?_
      refine SO.storeO1 (j := 6) (q := .sl (ekI .i64) zs42) (z' := ({ x46 with Queue := zs42 } : ref10_Obj)) Try.sizeOf29 hrel55 hx47 rfl rfl (Rd.one hru54) rfl rfl rfl hru54 (fun raws57 hrel58 hR59 => ?_)
      refine SO.closeR ?_
      exact SO.nilZ fun a w h1 h2 h3 h4 h5 => PZ.of h1 h3 h5 (.cons () (.cons () (.nil ⟨EnvAll.of h2 ⟨rfl, trivial⟩, h4⟩)))
    rintro _ _ _ _ _
    refine S.to (ρ' := [(4, .int .i64 0), (5, .int .i64 x22)]) ⟨rfl, rfl, trivial⟩ ?_
    refine S.seq ?_
    refine S.region ?_
    refine SO.v rfl (opv_move rfl) ?_
    refine SO.v rfl (opv_assign rfl) ?_
    refine SO.nil ?_
    cases h
    refine S.closeR ?_
    refine S.b3 ?_
    refine S.b3 ?_
    refine S.b2 ?_
    refine S.b3 ?_
    exact S.ret1 Try.func59 rfl rfl (fun w hs hk => hR w _ _ ⟨v0_Slots, v0_Objs, rfl, rfl⟩ hs hk)
end Go.Proofs
namespace Go.Proofs
open Go.Sl Go.RowKit
/-! 54 (*padstone/padstoneref10.State).Wake -/
def ref10_State_Wake.f (a0 : ref10_State) (a1 : Int) (a2 : Int) (a3 : Int) : Option (ref10_State) :=
  (at_ a0.Objs a1).bind fun x1 => (at_ (a0.Objs.set a1.toNat ({ x1 with State := 1 } : ref10_Obj)) a1).bind fun x13 => (at_ ((a0.Objs.set a1.toNat ({ x1 with State := 1 } : ref10_Obj)).set a1.toNat ({ x13 with Word := a2 } : ref10_Obj)) a1).bind fun x21 => (at_ (((a0.Objs.set a1.toNat ({ x1 with State := 1 } : ref10_Obj)).set a1.toNat ({ x13 with Word := a2 } : ref10_Obj)).set a1.toNat ({ x21 with Badge := a3 } : ref10_Obj)) a1).bind fun x29 => some ({ a0 with Objs := (((a0.Objs.set a1.toNat ({ x1 with State := 1 } : ref10_Obj)).set a1.toNat ({ x13 with Word := a2 } : ref10_Obj)).set a1.toNat ({ x21 with Badge := a3 } : ref10_Obj)).set a1.toNat ({ x29 with On := -1 } : ref10_Obj) } : ref10_State)
set_option maxHeartbeats 8000000 in
set_option maxRecDepth 100000 in
theorem ref10_State_Wake.ct (bp0 : Nat) (v0_Slots : Value) (v0_Objs : Value) (a0 : ref10_State) (a1 : Int) (a2 : Int) (a3 : Int) (rp0 : ref10_State) (h : ref10_State_Wake.f a0 a1 a2 a3 = some rp0) :
    Ct Try.prog 54 [bp bp0 0, .int .i64 a1, .int .i64 a2, .int .i64 a3] (fun _ => True) [Box bp0 [v0_Slots, v0_Objs, .int .i64 a0.NS, .int .i64 a0.NO], OwnR 81 kr_ref10_Slot v0_Slots a0.Slots, OwnR 72 kr_ref10_Obj v0_Objs a0.Objs] (fun u H' => ∃ rw0_Slots rw0_Objs, u = .tuple #[] ∧ H' = [Box bp0 [rw0_Slots, rw0_Objs, .int .i64 rp0.NS, .int .i64 rp0.NO], OwnR 81 kr_ref10_Slot rw0_Slots rp0.Slots, OwnR 72 kr_ref10_Obj rw0_Objs rp0.Objs]) := by
  unfold ref10_State_Wake.f at h
  refine Ct.intro (n := 38) Try.func54 rfl rfl rfl ?_
  intro R w0 F hF hR
  refine S.seq ?_
  refine S.region ?_
  refine SO.v rfl (opv_move rfl) ?_
  refine SO.v rfl (opv_nilCheck rfl) ?_
  refine SO.v rfl (opv_fieldAddr Try.underlying76 rfl Try.sizeOf74 rfl rfl) ?_
  refine SO.load1 rfl Try.isAgg74 rfl rfl ?_
  refine SO.v rfl (opv_move rfl) ?_
  refine SO.b2 ?_
  refine SO.openR fun raws6 A7 hrel8 hR9 => ?_
  obtain ⟨x1, hx2, h⟩ := opt_bind h
  obtain ⟨r3, hr4, hc5⟩ := relR.at hrel8 hx2
  refine SO.v rfl (opv_idx Try.underlying74 Try.sizeOf72 hR9 rfl rfl hr4) ?_
  refine SO.v rfl (opv_fieldIdx Try.underlying72 rfl Try.sizeOf3 hR9 hr4 rfl rfl) ?_
  refine SO.storeO1 (j := 8) (q := .val (.int .i64 1)) (z' := ({ x1 with State := 1 } : ref10_Obj)) Try.sizeOf3 hrel8 hx2 rfl rfl rfl rfl rfl rfl rfl (fun raws10 hrel11 hR12 => ?_)
  refine SO.nil ?_
  refine S.to (ρ' := [(0, bp bp0 0), (1, .int .i64 a1), (2, .int .i64 a2), (3, .int .i64 a3)]) ⟨rfl, rfl, rfl, rfl, trivial⟩ ?_
  refine S.seq ?_
  refine S.region ?_
  refine SO.v rfl (opv_move rfl) ?_
  refine SO.v rfl (opv_nilCheck rfl) ?_
  refine SO.v rfl (opv_fieldAddr Try.underlying76 rfl Try.sizeOf74 rfl rfl) ?_
  refine SO.b1 ?_
  refine SO.load1 rfl Try.isAgg74 rfl rfl ?_
  refine SO.v rfl (opv_move rfl) ?_
  refine SO.v rfl (opv_move rfl) ?_
  obtain ⟨x13, hx14, h⟩ := opt_bind h
  obtain ⟨r15, hr16, hc17⟩ := relR.at hrel11 hx14
  refine SO.v rfl (opv_idx Try.underlying74 Try.sizeOf72 hR12 rfl rfl hr16) ?_
  refine SO.v rfl (opv_fieldIdx Try.underlying72 rfl Try.sizeOf3 hR12 hr16 rfl rfl) ?_
  refine SO.b1 ?_
  refine SO.storeO1 (j := 7) (q := .val (.int .i64 a2)) (z' := ({ x13 with Word := a2 } : ref10_Obj)) Try.sizeOf3 hrel11 hx14 rfl rfl rfl rfl rfl rfl rfl (fun raws18 hrel19 hR20 => ?_)
  refine SO.nil ?_
  refine S.to (ρ' := [(0, bp bp0 0), (1, .int .i64 a1), (3, .int .i64 a3)]) ⟨rfl, rfl, rfl, trivial⟩ ?_
  refine S.seq ?_
  refine S.region ?_
  refine SO.v rfl (opv_move rfl) ?_
  refine SO.v rfl (opv_nilCheck rfl) ?_
  refine SO.v rfl (opv_fieldAddr Try.underlying76 rfl Try.sizeOf74 rfl rfl) ?_
  refine SO.b1 ?_
  refine SO.load1 rfl Try.isAgg74 rfl rfl ?_
  refine SO.v rfl (opv_move rfl) ?_
  refine SO.v rfl (opv_move rfl) ?_
  obtain ⟨x21, hx22, h⟩ := opt_bind h
  obtain ⟨r23, hr24, hc25⟩ := relR.at hrel19 hx22
  refine SO.v rfl (opv_idx Try.underlying74 Try.sizeOf72 hR20 rfl rfl hr24) ?_
  refine SO.v rfl (opv_fieldIdx Try.underlying72 rfl Try.sizeOf3 hR20 hr24 rfl rfl) ?_
  refine SO.b1 ?_
  refine SO.storeO1 (j := 10) (q := .val (.int .i64 a3)) (z' := ({ x21 with Badge := a3 } : ref10_Obj)) Try.sizeOf3 hrel19 hx22 rfl rfl rfl rfl rfl rfl rfl (fun raws26 hrel27 hR28 => ?_)
  refine SO.nil ?_
  refine S.to (ρ' := [(0, bp bp0 0), (1, .int .i64 a1)]) ⟨rfl, rfl, trivial⟩ ?_
  refine S.region ?_
  refine SO.v rfl (opv_move rfl) ?_
  refine SO.v rfl (opv_nilCheck rfl) ?_
  refine SO.v rfl (opv_fieldAddr Try.underlying76 rfl Try.sizeOf74 rfl rfl) ?_
  refine SO.b1 ?_
  refine SO.load1 rfl Try.isAgg74 rfl rfl ?_
  refine SO.v rfl (opv_move rfl) ?_
  obtain ⟨x29, hx30, h⟩ := opt_bind h
  obtain ⟨r31, hr32, hc33⟩ := relR.at hrel27 hx30
  refine SO.v rfl (opv_idx Try.underlying74 Try.sizeOf72 hR28 rfl rfl hr32) ?_
  refine SO.v rfl (opv_fieldIdx Try.underlying72 rfl Try.sizeOf3 hR28 hr32 rfl rfl) ?_
  refine SO.b1 ?_
  refine SO.storeO1 (j := 12) (q := .val (.int .i64 (-1))) (z' := ({ x29 with On := -1 } : ref10_Obj)) Try.sizeOf3 hrel27 hx30 rfl rfl rfl rfl rfl rfl rfl (fun raws34 hrel35 hR36 => ?_)
  refine SO.nil ?_
  refine S.to (ρ' := []) trivial ?_
  cases h
  refine S.closeR ?_
  refine S.b3 ?_
  refine S.b1 ?_
  refine S.b3 ?_
  refine S.b3 ?_
  exact S.fin0 Try.func54 rfl (fun w hs hk => hR w _ _ ⟨v0_Slots, v0_Objs, rfl, rfl⟩ hs hk)
end Go.Proofs
namespace Go.Proofs
open Go.Sl Go.RowKit
/-! 62 (*padstone/padstoneref10.State).Block -/
def ref10_State_Block.f (a0 : ref10_State) (a1 : Int) (a2 : Int) (a3 : Int) : Option (ref10_State) :=
  (at_ a0.Objs a1).bind fun x11 => (app ([]) x11.Queue).bind fun zs20 => (app zs20 ([a2])).bind fun zs28 => (at_ a0.Objs a1).bind fun x32 => (at_ (a0.Objs.set a1.toNat ({ x32 with Queue := zs28 } : ref10_Obj)) a2).bind fun x47 => (at_ ((a0.Objs.set a1.toNat ({ x32 with Queue := zs28 } : ref10_Obj)).set a2.toNat ({ x47 with State := a3 } : ref10_Obj)) a2).bind fun x59 => some ({ a0 with Objs := ((a0.Objs.set a1.toNat ({ x32 with Queue := zs28 } : ref10_Obj)).set a2.toNat ({ x47 with State := a3 } : ref10_Obj)).set a2.toNat ({ x59 with On := a1 } : ref10_Obj) } : ref10_State)
set_option maxHeartbeats 8000000 in
set_option maxRecDepth 100000 in
theorem ref10_State_Block.ct (bp0 : Nat) (v0_Slots : Value) (v0_Objs : Value) (a0 : ref10_State) (a1 : Int) (a2 : Int) (a3 : Int) (rp0 : ref10_State) (h : ref10_State_Block.f a0 a1 a2 a3 = some rp0) :
    Ct Try.prog 62 [bp bp0 0, .int .i64 a1, .int .i64 a2, .int .i64 a3] (fun _ => True) [Box bp0 [v0_Slots, v0_Objs, .int .i64 a0.NS, .int .i64 a0.NO], OwnR 81 kr_ref10_Slot v0_Slots a0.Slots, OwnR 72 kr_ref10_Obj v0_Objs a0.Objs] (fun u H' => ∃ rw0_Slots rw0_Objs, u = .tuple #[] ∧ H' = [Box bp0 [rw0_Slots, rw0_Objs, .int .i64 rp0.NS, .int .i64 rp0.NO], OwnR 81 kr_ref10_Slot rw0_Slots rp0.Slots, OwnR 72 kr_ref10_Obj rw0_Objs rp0.Objs]) := by
  unfold ref10_State_Block.f at h
  refine Ct.intro (n := 44) Try.func62 rfl rfl rfl ?_
  intro R w0 F hF hR
  refine S.seq ?_
  refine S.b1 ?_
  refine S.openR fun raws1 A2 hrel3 hR4 => ?_
  refine S.b2 ?_
  refine S.openR fun raws5 A6 hrel7 hR8 => ?_
  obtain ⟨x11, hx12, h⟩ := opt_bind h
  obtain ⟨r13, hr14, hc15⟩ := relR.at hrel7 hx12
  obtain ⟨u16, hu17, hru18⟩ := hc15.sl 6 rfl
  obtain ⟨zs20, hz21, h⟩ := opt_bind h
  obtain ⟨zs28, hz29, h⟩ := opt_bind h
  obtain ⟨x32, hx33, h⟩ := opt_bind h
  obtain ⟨r34, hr35, hc36⟩ := relR.at hrel7 hx33
  refine S.draw' (Z := fun Q => ∀ (_ : Unit) (_ : Unit) (_ : Unit) (_ : Unit) (v24 : Value) (_ : Unit) (_ : Unit) (_ : Unit) (_ : Unit), Q [(0, bp bp0 0), (1, .int .i64 a1), (2, .int .i64 a2), (3, .int .i64 a3), (24, v24)] [Own 3 (ekI .i64) v24 ([a2]), OwnR 72 kr_ref10_Obj v0_Objs (a0.Objs.set a1.toNat ({ x32 with Queue := zs28 } : ref10_Obj)), OwnO 81 kr_ref10_Slot v0_Slots raws1 A2 a0.Slots, Box bp0 [v0_Slots, v0_Objs, .int .i64 a0.NS, .int .i64 a0.NO], F]) (T := [tS 0 (bp bp0 0), tS 1 (.int .i64 a1), tS 2 (.int .i64 a2), tS 3 (.int .i64 a3), tR (OwnO 72 kr_ref10_Obj v0_Objs raws5 A6 a0.Objs), tR (OwnO 81 kr_ref10_Slot v0_Slots raws1 A2 a0.Slots), tR (Box bp0 [v0_Slots, v0_Objs, .int .i64 a0.NS, .int .i64 a0.NO]), tR (F), tS 8 (bp bp0 0), tS 9 (bp bp0 0), tS 10 (bp bp0 1), tS 11 (v0_Objs), tS 12 (.int .i64 a1), ⟨Value, [13], (fun v9 => [(13, v9)]), (fun v9 => [Own 3 (ekI .i64) v9 ([])]), fun _ => rfl⟩, tS 14 (bp bp0 0), tS 15 (bp bp0 0), tS 16 (bp bp0 1), tS 17 (v0_Objs), tS 18 (.int .i64 a1), tS 19 (idxp v0_Objs (a1.toNat * kr_ref10_Obj.sz)), tS 20 (idxp v0_Objs (a1.toNat * kr_ref10_Obj.sz + 6)), tS 21 (u16), ⟨Value, [22], (fun v22 => [(22, v22)]), (fun v22 => [Own 3 (ekI .i64) v22 zs20]), fun _ => rfl⟩, tS 23 (.int .i64 a2), ⟨Value, [24], (fun v24 => [(24, v24)]), (fun v24 => [Own 3 (ekI .i64) v24 ([a2])]), fun _ => rfl⟩, ⟨Value, [25], (fun v30 => [(25, v30)]), (fun v30 => [Own 3 (ekI .i64) v30 zs28]), fun _ => rfl⟩, tS 26 (idxp v0_Objs (a1.toNat * kr_ref10_Obj.sz)), tS 27 (idxp v0_Objs (a1.toNat * kr_ref10_Obj.sz + 6)), tR (OwnR 72 kr_ref10_Obj v0_Objs (a0.Objs.set a1.toNat ({ x32 with Queue := zs28 } : ref10_Obj)))]) (D := [⟨[0], [], [8]⟩, ⟨[8], [], [9]⟩, ⟨[9], [], [10]⟩, ⟨[10, 6], [], [11]⟩, ⟨[1], [], [12]⟩, ⟨[], [], [13]⟩, ⟨[0], [], [14]⟩, ⟨[14], [], [15]⟩, ⟨[15], [], [16]⟩, ⟨[16, 6], [], [17]⟩, ⟨[1], [], [18]⟩, ⟨[17, 18, 4], [], [19]⟩, ⟨[19, 4], [], [20]⟩, ⟨[20, 4], [], [21]⟩, ⟨[21, 4], [13], [22]⟩, ⟨[2], [], [23]⟩, ⟨[23], [], [24]⟩, ⟨[24], [22], [25]⟩, ⟨[11, 12, 4], [], [26]⟩, ⟨[26, 4], [], [27]⟩, ⟨[27], [25, 4], [28]⟩]) (ini := [0, 1, 2, 3, 4, 5, 6, 7]) (fin := [0, 1, 2, 3, 24, 28, 5, 6, 7]) (bf := [[], [0], [0, 1], [0, 1, 2], [], [], [], [6], [6, 7], [6, 7, 8], [], [6, 7, 8, 9, 10], [6, 7, 8, 9, 10, 11], [6, 7, 8, 9, 10, 11, 12], [5, 6, 7, 8, 9, 10, 11, 12, 13], [], [15], [5, 6, 7, 8, 9, 10, 11, 12, 13, 14, 15, 16], [0, 1, 2, 3, 4, 5, 6, 7, 8, 9, 10, 11, 12, 13, 14, 15, 16, 17], [0, 1, 2, 3, 4, 5, 6, 7, 8, 9, 10, 11, 12, 13, 14, 15, 16, 17, 18], [0, 1, 2, 3, 4, 5, 6, 7, 8, 9, 10, 11, 12, 13, 14, 15, 16, 17, 18, 19]]) (by kernel_rfl) (by kernel_rfl) (fun x w h1 h2 => (.cons () (.cons () (.cons () (.cons () (.cons () (.cons () (.cons () (.cons () (.nil ⟨EnvAll.of h1 ⟨rfl, rfl, rfl, rfl, trivial⟩, h2⟩)))))))))) (fun Q => by kernel_rfl) ⟨?_, ?_, ?_, ?_, ?_, ?_, ?_, ?_, ?_, ?_, ?_, ?_, ?_, ?_, ?_, ?_, ?_, ?_, ?_, ?_, ?_, trivial⟩ ?_
  · rintro Fr _
    refine SO.v rfl (opv_move rfl) ?_
    exact SO.nilZ fun a w h1 h2 h3 h4 h5 => PZ.of h1 h3 h5 (.cons () (.cons () (.nil ⟨EnvAll.of h2 ⟨rfl, rfl, trivial⟩, h4⟩)))
  · rintro Fr _
    refine SO.v rfl (opv_nilCheck rfl) ?_
    exact SO.nilZ fun a w h1 h2 h3 h4 h5 => PZ.of h1 h3 h5 (.cons () (.cons () (.nil ⟨EnvAll.of h2 ⟨rfl, rfl, trivial⟩, h4⟩)))
  · rintro Fr _
    refine SO.v rfl (opv_fieldAddr Try.underlying76 rfl Try.sizeOf74 rfl rfl) ?_
    exact SO.nilZ fun a w h1 h2 h3 h4 h5 => PZ.of h1 h3 h5 (.cons () (.cons () (.nil ⟨EnvAll.of h2 ⟨rfl, rfl, trivial⟩, h4⟩)))
  · rintro Fr _ _
    refine SO.load1 rfl Try.isAgg74 rfl rfl ?_
    exact SO.nilZ fun a w h1 h2 h3 h4 h5 => PZ.of h1 h3 h5 (.cons () (.cons () (.cons () (.nil ⟨EnvAll.of h2 ⟨rfl, rfl, trivial⟩, h4⟩))))
  · rintro Fr _
    refine SO.v rfl (opv_move rfl) ?_
    exact SO.nilZ fun a w h1 h2 h3 h4 h5 => PZ.of h1 h3 h5 (.cons () (.cons () (.nil ⟨EnvAll.of h2 ⟨rfl, rfl, trivial⟩, h4⟩)))
  · rintro Fr 
    refine SO.buildSlice0 (ekI .i64) rfl Try.underlying29 Try.sizeOf3 (fun v9 hr10 => ?_)
    exact SO.nilZ fun a w h1 h2 h3 h4 h5 => PZ.of h1 h3 h5 (.cons v9 (.nil ⟨EnvAll.of h2 ⟨rfl, trivial⟩, h4⟩))
  · rintro Fr _
    refine SO.v rfl (opv_move rfl) ?_
    exact SO.nilZ fun a w h1 h2 h3 h4 h5 => PZ.of h1 h3 h5 (.cons () (.cons () (.nil ⟨EnvAll.of h2 ⟨rfl, rfl, trivial⟩, h4⟩)))
  · rintro Fr _
    refine SO.v rfl (opv_nilCheck rfl) ?_
    exact SO.nilZ fun a w h1 h2 h3 h4 h5 => PZ.of h1 h3 h5 (.cons () (.cons () (.nil ⟨EnvAll.of h2 ⟨rfl, rfl, trivial⟩, h4⟩)))
  · rintro Fr _
    refine SO.v rfl (opv_fieldAddr Try.underlying76 rfl Try.sizeOf74 rfl rfl) ?_
    exact SO.nilZ fun a w h1 h2 h3 h4 h5 => PZ.of h1 h3 h5 (.cons () (.cons () (.nil ⟨EnvAll.of h2 ⟨rfl, rfl, trivial⟩, h4⟩)))
  · rintro Fr _ _
    refine SO.load1 rfl Try.isAgg74 rfl rfl ?_
    exact SO.nilZ fun a w h1 h2 h3 h4 h5 => PZ.of h1 h3 h5 (.cons () (.cons () (.cons () (.nil ⟨EnvAll.of h2 ⟨rfl, rfl, trivial⟩, h4⟩))))
  · rintro Fr _
    refine SO.v rfl (opv_move rfl) ?_
    exact SO.nilZ fun a w h1 h2 h3 h4 h5 => PZ.of h1 h3 h5 (.cons () (.cons () (.nil ⟨EnvAll.of h2 ⟨rfl, rfl, trivial⟩, h4⟩)))
  · rintro Fr _ _ _
    refine SO.v rfl (opv_idx Try.underlying74 Try.sizeOf72 hR8 rfl rfl hr14) ?_
    exact SO.nilZ fun a w h1 h2 h3 h4 h5 => PZ.of h1 h3 h5 (.cons () (.cons () (.cons () (.cons () (.nil ⟨EnvAll.of h2 ⟨rfl, rfl, rfl, trivial⟩, h4⟩)))))
  · rintro Fr _ _
    refine SO.v rfl (opv_fieldIdx Try.underlying72 rfl Try.sizeOf29 hR8 hr14 rfl rfl) ?_
    exact SO.nilZ fun a w h1 h2 h3 h4 h5 => PZ.of h1 h3 h5 (.cons () (.cons () (.cons () (.nil ⟨EnvAll.of h2 ⟨rfl, rfl, trivial⟩, h4⟩))))
  · rintro Fr _ _
    refine SO.loadI1 (j := 6) rfl Try.isAgg29 (Rd.head hR8) hr14 rfl rfl rfl hu17 ?_
    exact SO.nilZ fun a w h1 h2 h3 h4 h5 => PZ.of h1 h3 h5 (.cons () (.cons () (.cons () (.nil ⟨EnvAll.of h2 ⟨rfl, rfl, trivial⟩, h4⟩))))
  · rintro Fr _ _ v9
    refine SO.b1 ?_
    refine SO.rd fun hr19 => ?_
    refine SO.append rfl Try.underlying29 Try.underlying29 inf3 rfl rfl rfl (by decide) rfl rfl rfl (Rd.head (Rd.pool hru18)) hz21 (fun v22 => ?_)
    refine SO.rd fun hr23 => ?_
    refine SO.b1 ?_
    exact SO.nilZ fun a w h1 h2 h3 h4 h5 => PZ.of h1 h3 h5 (.cons () (.cons () (.cons v22 (.nil ⟨EnvAll.of h2 ⟨rfl, rfl, trivial⟩, h4⟩))))
  · rintro Fr _
    refine SO.v rfl (opv_move rfl) ?_
    exact SO.nilZ fun a w h1 h2 h3 h4 h5 => PZ.of h1 h3 h5 (.cons () (.cons () (.nil ⟨EnvAll.of h2 ⟨rfl, rfl, trivial⟩, h4⟩)))
  · rintro Fr _
    refine SO.buildSlice (K := ekI .i64) (xs := [a2]) (cs := [.int .i64 a2]) rfl Try.underlying29 Try.sizeOf3 Try.zeroValue3 rfl rfl rfl (by kernel_rfl) rfl rfl rfl (fun v24 hr25 => ?_)
    exact SO.nilZ fun a w h1 h2 h3 h4 h5 => PZ.of h1 h3 h5 (.cons () (.cons v24 (.nil ⟨EnvAll.of h2 ⟨rfl, rfl, trivial⟩, h4⟩)))
  · rintro Fr v24 v22
    refine SO.rd fun hr26 => ?_
    refine SO.b1 ?_
    refine SO.rd fun hr27 => ?_
    refine SO.append rfl Try.underlying29 Try.underlying29 inf3 rfl rfl rfl (by decide) rfl rfl rfl (Rd.head hr26) hz29 (fun v30 => ?_)
    refine SO.rd fun hr31 => ?_
    refine SO.b1 ?_
    exact SO.nilZ fun a w h1 h2 h3 h4 h5 => PZ.of h1 h3 h5 (.cons v24 (.cons v30 (.nil ⟨EnvAll.of h2 ⟨rfl, rfl, trivial⟩, h4⟩)))
  · rintro Fr _ _ _
    refine SO.v rfl (opv_idx Try.underlying74 Try.sizeOf72 hR8 rfl rfl hr35) ?_
    exact SO.nilZ fun a w h1 h2 h3 h4 h5 => PZ.of h1 h3 h5 (.cons () (.cons () (.cons () (.cons () (.nil ⟨EnvAll.of h2 ⟨rfl, rfl, rfl, trivial⟩, h4⟩)))))
  · rintro Fr _ _
    refine SO.v rfl (opv_fieldIdx Try.underlying72 rfl Try.sizeOf29 hR8 hr35 rfl rfl) ?_
    exact SO.nilZ fun a w h1 h2 h3 h4 h5 => PZ.of h1 h3 h5 (.cons () (.cons () (.cons () (.nil ⟨EnvAll.of h2 ⟨rfl, rfl, trivial⟩, h4⟩))))
  · rintro Fr _ v30 _
    refine SO.rd fun hr37 => ?_
    refine SO.b1 ?_
    refine SO.b1 ?_
    refine SO.freeze hrel7 fun A38 hcov39 hru40 hrel41 hR42 => ?_
    refine SO.storeO1 (j := 6) (q := .sl (ekI .i64) zs28) (z' := ({ x32 with Queue := zs28 } : ref10_Obj)) Try.sizeOf29 hrel41 hx33 rfl rfl (Rd.one hru40) rfl rfl rfl hru40 (fun raws43 hrel44 hR45 => ?_)
    refine SO.closeR ?_
    exact SO.nilZ fun a w h1 h2 h3 h4 h5 => PZ.of h1 h3 h5 (.cons () (.cons () (.nil ⟨EnvAll.of h2 ⟨rfl, trivial⟩, h4⟩)))
  rintro _ _ _ _ v24 _ _ _ _
  refine S.to (ρ' := [(0, bp bp0 0), (1, .int .i64 a1), (2, .int .i64 a2), (3, .int .i64 a3)]) ⟨rfl, rfl, rfl, rfl, trivial⟩ ?_
  refine S.rd fun hr46 => ?_
  refine S.seq ?_
  refine S.region ?_
  refine SO.v rfl (opv_move rfl) ?_
  refine SO.v rfl (opv_nilCheck rfl) ?_
  refine SO.v rfl (opv_fieldAddr Try.underlying76 rfl Try.sizeOf74 rfl rfl) ?_
  refine SO.b3 ?_
  refine SO.load1 rfl Try.isAgg74 rfl rfl ?_
  refine SO.v rfl (opv_move rfl) ?_
  refine SO.v rfl (opv_move rfl) ?_
  refine SO.b2 ?_
  refine SO.openR fun raws52 A53 hrel54 hR55 => ?_
  obtain ⟨x47, hx48, h⟩ := opt_bind h
  obtain ⟨r49, hr50, hc51⟩ := relR.at hrel54 hx48
  refine SO.v rfl (opv_idx Try.underlying74 Try.sizeOf72 hR55 rfl rfl hr50) ?_
  refine SO.v rfl (opv_fieldIdx Try.underlying72 rfl Try.sizeOf3 hR55 hr50 rfl rfl) ?_
  refine SO.storeO1 (j := 8) (q := .val (.int .i64 a3)) (z' := ({ x47 with State := a3 } : ref10_Obj)) Try.sizeOf3 hrel54 hx48 rfl rfl rfl rfl rfl rfl rfl (fun raws56 hrel57 hR58 => ?_)
  refine SO.nil ?_
  refine S.to (ρ' := [(0, bp bp0 0), (1, .int .i64 a1), (2, .int .i64 a2)]) ⟨rfl, rfl, rfl, trivial⟩ ?_
  refine S.region ?_
  refine SO.v rfl (opv_move rfl) ?_
  refine SO.v rfl (opv_nilCheck rfl) ?_
  refine SO.v rfl (opv_fieldAddr Try.underlying76 rfl Try.sizeOf74 rfl rfl) ?_
  refine SO.b1 ?_
  refine SO.load1 rfl Try.isAgg74 rfl rfl ?_
  refine SO.v rfl (opv_move rfl) ?_
  refine SO.v rfl (opv_move rfl) ?_
  obtain ⟨x59, hx60, h⟩ := opt_bind h
  obtain ⟨r61, hr62, hc63⟩ := relR.at hrel57 hx60
  refine SO.v rfl (opv_idx Try.underlying74 Try.sizeOf72 hR58 rfl rfl hr62) ?_
  refine SO.v rfl (opv_fieldIdx Try.underlying72 rfl Try.sizeOf3 hR58 hr62 rfl rfl) ?_
  refine SO.b1 ?_
  refine SO.storeO1 (j := 12) (q := .val (.int .i64 a1)) (z' := ({ x59 with On := a1 } : ref10_Obj)) Try.sizeOf3 hrel57 hx60 rfl rfl rfl rfl rfl rfl rfl (fun raws64 hrel65 hR66 => ?_)
  refine SO.nil ?_
  refine S.to (ρ' := []) trivial ?_
  cases h
  refine S.closeR ?_
  refine S.b3 ?_
  refine S.closeR ?_
  refine S.b3 ?_
  refine S.drop ?_
  refine S.b3 ?_
  refine S.b2 ?_
  refine S.b2 ?_
  refine S.b3 ?_
  exact S.fin0 Try.func62 rfl (fun w hs hk => hR w _ _ ⟨v0_Slots, v0_Objs, rfl, rfl⟩ hs hk)
end Go.Proofs
namespace Go.Proofs
open Go.Sl Go.RowKit
/-! 77 padstone/queue.put -/
def queue_put.l1 (a2 : List Int) : Nat → Int → VM (Unit)
  | 0, _ => VM.fail
  | k + 1, x13_1 => bif decide (x13_1 < (a2.length : Int)) then ((VM.opt (at_ a2 x13_1)).bind fun x2 => bif decide ((w64 (x13_1 + 1)) < (a2.length : Int)) then ((VM.opt (at_ a2 (w64 (x13_1 + 1)))).bind fun x5 => (lay_Put.f x2 2 (w64 (x5 + 1))).bind fun _ => queue_put.l1 a2 k (w64 (x13_1 + 1))) else ((lay_Put.f x2 2 0).bind fun _ => queue_put.l1 a2 k (w64 (x13_1 + 1)))) else (VM.ret ())
def queue_put.f (k : Nat) (a1 : Int) (a2 : List Int) : VM (Unit) :=
  (queue_put.l1 a2 k 0).bind fun _ => bif decide (0 < (a2.length : Int)) then ((VM.opt (at_ a2 0)).bind fun x12 => (VM.opt (at_ a2 (w64 ((a2.length : Int) - 1)))).bind fun x14 => (lay_Put.f a1 2 (w64 (x12 + 1))).bind fun _ => (lay_Put.f a1 3 (w64 (x14 + 1))).bind fun _ => VM.ret ()) else ((lay_Put.f a1 2 0).bind fun _ => (lay_Put.f a1 3 0).bind fun _ => VM.ret ())
set_option maxHeartbeats 8000000 in
set_option maxRecDepth 100000 in
theorem queue_put.ct (V : VW Try.prog) (k : Nat) (v2 : Value) (a1 : Int) (a2 : List Int) (s s' : V.S) (h : VM.run V.toVI (queue_put.f k a1 a2) s = some ((), s')) :
    Ct Try.prog 77 [V.val, .int .i64 a1, v2] (fun F => Rd (ekI .i64) v2 a2 F) [V.rep s] (fun u H' => u = .tuple #[] ∧ H' = [V.rep s']) := by
  unfold queue_put.f at h
  refine Ct.intro (n := 56) Try.func77 rfl rfl rfl ?_
  intro R w0 F hF hR
  have hF2 := hF
  refine S.seq ?_
  refine S.region ?_
  refine SO.v rfl (opv_assign rfl) ?_
  refine SO.v rfl (opv_assign rfl) ?_
  refine SO.nil ?_
  refine S.seq ?_
  refine S.seq ?_
  refine S.region ?_
  refine SO.v rfl (opv_move rfl) ?_
  refine SO.v rfl (opv_lenR rfl Try.underlying29 hF2 rfl) ?_
  refine SO.v rfl (opv_move rfl) ?_
  refine SO.nil ?_
  obtain ⟨_, so_1, hl1, h⟩ := VM.bind_some V.toVI h
  refine S.b1 ?_
  refine S.b1 ?_
  refine S.to (ρ' := [(13, .int .i64 0), (12, .int .i64 (a2.length : Int)), (11, v2), (7, .int .i64 0), (6, .int .i64 0), (0, V.val), (1, .int .i64 a1), (2, v2)]) ⟨rfl, rfl, rfl, rfl, rfl, rfl, rfl, rfl, trivial⟩ ?_
  refine S.forloop (X := (Int × V.S) × Unit) (O := (Unit) × V.S) (fun m x => VM.run V.toVI (queue_put.l1 a2 m x.1.1) x.1.2) (fun x => match x with | ((x13_1, sx_1), _) => [(13, .int .i64 x13_1), (12, .int .i64 (a2.length : Int)), (11, v2), (7, .int .i64 0), (6, .int .i64 0), (0, V.val), (1, .int .i64 a1), (2, v2)]) (fun x => match x with | ((x13_1, sx_1), _) => [V.rep sx_1, F]) (fun Sk oo => match oo with | (_, so_1) => ∀ _ : Unit, Sk [(0, V.val), (1, .int .i64 a1), (2, v2), (6, .int .i64 0), (7, .int .i64 0)] [V.rep so_1, F]) (fun _ => rfl) ?_ (m := k) (x := ((0, s), ())) hl1 ?_
  · clear h hl1
    intro k x o_1 h hK1 ih1
    obtain ⟨⟨x13_1, sx_1⟩, _⟩ := x
    obtain ⟨o_1, so_1_⟩ := o_1
    replace h : VM.run V.toVI (queue_put.l1 a2 (k + 1) x13_1) sx_1 = some (o_1, so_1_) := h
    first | rw [queue_put.l1] at h | unfold queue_put.l1 at h
    refine S.seq ?_
    refine S.region ?_
    refine SO.v rfl (opv_lss rfl rfl) ?_
    refine SO.nil ?_
    refine S.seq ?_
    rcases bool_or (decide (x13_1 < (a2.length : Int))) with b1 | b1
    · replace h := VM.cond_t V.toVI b1 h
      refine S.condT rfl b1 ?_
      refine S.skip ?_
      refine S.seq ?_
      refine S.block ?_
      refine S.seq ?_
      refine S.region ?_
      refine SO.v rfl (opv_move rfl) ?_
      obtain ⟨x2, hx3, h⟩ := VM.opt_some V.toVI h
      refine SO.v rfl (opv_idx Try.underlying29 Try.sizeOf3 hF2 rfl rfl hx3) ?_
      refine SO.loadI1 (j := 0) rfl Try.isAgg3 (Rd.tail (Rd.head hF2)) hx3 rfl rfl rfl rfl ?_
      refine SO.v rfl (opv_assign rfl) ?_
      refine SO.v rfl (opv_assign rfl) ?_
      refine SO.nil ?_
      refine S.seq ?_
      refine S.region ?_
      refine SO.v rfl (opv_assign rfl) ?_
      refine SO.nil ?_
      refine S.seq ?_
      refine S.seq ?_
      refine S.region ?_
      refine SO.v rfl (opv_move rfl) ?_
      refine SO.v rfl (opv_add rfl rfl) ?_
      refine SO.v rfl (opv_move rfl) ?_
      refine SO.v rfl (opv_lenR rfl Try.underlying29 hF2 rfl) ?_
      refine SO.v rfl (opv_lss rfl rfl) ?_
      refine SO.nil ?_
      refine S.to (ρ' := [(13, .int .i64 x13_1), (12, .int .i64 (a2.length : Int)), (11, v2), (7, .int .i64 0), (6, .int .i64 0), (0, V.val), (1, .int .i64 a1), (2, v2), (8, .int .i64 x13_1), (9, .int .i64 x2), (10, .int .i64 0), (22, .bool (decide ((w64 (x13_1 + 1)) < (a2.length : Int))))]) ⟨rfl, rfl, rfl, rfl, rfl, rfl, rfl, rfl, rfl, rfl, rfl, rfl, trivial⟩ ?_
      rcases bool_or (decide ((w64 (x13_1 + 1)) < (a2.length : Int))) with b4 | b4
      · replace h := VM.cond_t V.toVI b4 h
        refine S.condT rfl b4 ?_
        refine S.region ?_
        refine SO.v rfl (opv_move rfl) ?_
        refine SO.v rfl (opv_move rfl) ?_
        refine SO.v rfl (opv_add rfl rfl) ?_
        obtain ⟨x5, hx6, h⟩ := VM.opt_some V.toVI h
        refine SO.v rfl (opv_idx Try.underlying29 Try.sizeOf3 hF2 rfl rfl hx6) ?_
        refine SO.loadI1 (j := 0) rfl Try.isAgg3 (Rd.tail (Rd.head hF2)) hx6 rfl rfl rfl rfl ?_
        refine SO.v rfl (opv_add rfl rfl) ?_
        refine SO.v rfl (opv_assign rfl) ?_
        refine SO.nil ?_
        refine S.to (ρ' := [(13, .int .i64 x13_1), (12, .int .i64 (a2.length : Int)), (11, v2), (7, .int .i64 0), (6, .int .i64 0), (0, V.val), (1, .int .i64 a1), (2, v2), (9, .int .i64 x2), (10, .int .i64 (w64 (x5 + 1)))]) ⟨rfl, rfl, rfl, rfl, rfl, rfl, rfl, rfl, rfl, rfl, trivial⟩ ?_
        refine S.region ?_
        refine SO.v rfl (opv_move rfl) ?_
        refine SO.v rfl (opv_move rfl) ?_
        refine SO.v rfl (opv_move rfl) ?_
        obtain ⟨_, s8, ht7, h⟩ := VM.bind_some V.toVI h
        refine SO.call (pre := [V.rep _]) rfl Try.call45 rfl rfl rfl (lay_Put.ct V _ _ _ _ _ ht7) trivial ?_
        rintro _ _ ⟨rfl, rfl⟩
        refine SO.nil ?_
        refine S.inBlock ?_
        refine S.region ?_
        refine SO.v rfl (opv_add rfl rfl) ?_
        refine SO.v rfl (opv_move rfl) ?_
        refine SO.nil ?_
        refine S.to (ρ' := [(13, .int .i64 (w64 (x13_1 + 1))), (12, .int .i64 (a2.length : Int)), (11, v2), (7, .int .i64 0), (6, .int .i64 0), (0, V.val), (1, .int .i64 a1), (2, v2)]) ⟨rfl, rfl, rfl, rfl, rfl, rfl, rfl, rfl, trivial⟩ ?_
        refine S.b1 ?_
        refine S.b1 ?_
        refine S.to ?_ (ih1 ((w64 (x13_1 + 1), s8), ()) h)
        exact ⟨rfl, rfl, rfl, rfl, rfl, rfl, rfl, rfl, trivial⟩
      · replace h := VM.cond_f V.toVI b4 h
        refine S.condF rfl b4 ?_
        refine S.skip ?_
        refine S.region ?_
        refine SO.v rfl (opv_move rfl) ?_
        refine SO.v rfl (opv_move rfl) ?_
        refine SO.v rfl (opv_move rfl) ?_
        obtain ⟨_, s10, ht9, h⟩ := VM.bind_some V.toVI h
        refine SO.call (pre := [V.rep _]) rfl Try.call45 rfl rfl rfl (lay_Put.ct V _ _ _ _ _ ht9) trivial ?_
        rintro _ _ ⟨rfl, rfl⟩
        refine SO.nil ?_
        refine S.to (ρ' := [(13, .int .i64 x13_1), (12, .int .i64 (a2.length : Int)), (11, v2), (7, .int .i64 0), (6, .int .i64 0), (0, V.val), (1, .int .i64 a1), (2, v2)]) ⟨rfl, rfl, rfl, rfl, rfl, rfl, rfl, rfl, trivial⟩ ?_
        refine S.inBlock ?_
        refine S.region ?_
        refine SO.v rfl (opv_add rfl rfl) ?_
        refine SO.v rfl (opv_move rfl) ?_
        refine SO.nil ?_
        refine S.b1 ?_
        refine S.b1 ?_
        refine S.to ?_ (ih1 ((w64 (x13_1 + 1), s10), ()) h)
        exact ⟨rfl, rfl, rfl, rfl, rfl, rfl, rfl, rfl, trivial⟩
    · replace h := VM.cond_f V.toVI b1 h
      refine S.condF rfl b1 ?_
      refine S.exit rfl ?_
      obtain ⟨hq, rfl⟩ := VM.ret_some V.toVI h
      cases hq
      refine S.b1 ?_
      refine S.b1 ?_
      refine S.to ?_ (hK1 ())
      exact ⟨rfl, rfl, rfl, rfl, rfl, trivial⟩
  rintro _
  refine S.seq ?_
  refine S.seq ?_
  refine S.region ?_
  refine SO.v rfl (opv_move rfl) ?_
  refine SO.v rfl (opv_lenR rfl Try.underlying29 hF2 rfl) ?_
  refine SO.v rfl (opv_gtr rfl rfl) ?_
  refine SO.nil ?_
  rcases bool_or (decide (0 < (a2.length : Int))) with b11 | b11
  · replace h := VM.cond_t V.toVI b11 h
    refine S.condT rfl b11 ?_
    obtain ⟨x12, hx13, h⟩ := VM.opt_some V.toVI h
    obtain ⟨x14, hx15, h⟩ := VM.opt_some V.toVI h
    refine S.draw' (Z := fun Q => ∀ (_ : Unit) (_ : Unit) (_ : Unit) (_ : Unit) (_ : Unit), Q [(0, V.val), (1, .int .i64 a1), (6, .int .i64 (w64 (x12 + 1))), (7, .int .i64 (w64 (x14 + 1)))] [V.rep so_1, F]) (T := [tS 2 (v2), tE [(0, V.val), (1, .int .i64 a1)], tR (V.rep so_1), tR (F), tS 37 (v2), tS 38 (idxp v2 ((0 : Int).toNat * (ekI .i64).sz)), tS 39 (.int .i64 x12), tS 40 (.int .i64 (w64 (x12 + 1))), tS 41 (v2), tS 42 (v2), tS 43 (.int .i64 (a2.length : Int)), tS 44 (.int .i64 (w64 ((a2.length : Int) - 1))), tS 45 (idxp v2 ((w64 ((a2.length : Int) - 1)).toNat * (ekI .i64).sz)), tS 46 (.int .i64 x14), tS 47 (.int .i64 (w64 (x14 + 1))), tS 6 (.int .i64 (w64 (x12 + 1))), tS 7 (.int .i64 (w64 (x14 + 1)))]) (D := [⟨[0], [], [4]⟩, ⟨[4, 3], [], [5]⟩, ⟨[5, 3], [], [6]⟩, ⟨[6], [], [7]⟩, ⟨[0], [], [8]⟩, ⟨[0], [], [9]⟩, ⟨[9, 3], [], [10]⟩, ⟨[10], [], [11]⟩, ⟨[8, 11, 3], [], [12]⟩, ⟨[12, 3], [], [13]⟩, ⟨[13], [], [14]⟩, ⟨[7], [], [15]⟩, ⟨[14], [], [16]⟩]) (ini := [0, 1, 2, 3]) (fin := [1, 15, 16, 2, 3]) (bf := [[], [0], [0, 1], [0, 1, 2], [], [], [5], [5, 6], [4, 5, 6, 7], [4, 5, 6, 7, 8], [4, 5, 6, 7, 8, 9], [0, 1, 2, 3], [0, 1, 2, 3, 4, 5, 6, 7, 8, 9, 10, 11]]) (by kernel_rfl) (by kernel_rfl) (fun x w h1 h2 => (.cons () (.cons () (.cons () (.cons () (.nil ⟨EnvAll.of h1 ⟨rfl, rfl, rfl, trivial⟩, h2⟩)))))) (fun Q => by kernel_rfl) ⟨?_, ?_, ?_, ?_, ?_, ?_, ?_, ?_, ?_, ?_, ?_, ?_, ?_, trivial⟩ ?_
    · rintro Fr _
      refine SO.v rfl (opv_move rfl) ?_
      exact SO.nilZ fun a w h1 h2 h3 h4 h5 => PZ.of h1 h3 h5 (.cons () (.cons () (.nil ⟨EnvAll.of h2 ⟨rfl, rfl, trivial⟩, h4⟩)))
    · rintro Fr _ _
      refine SO.v rfl (opv_idx Try.underlying29 Try.sizeOf3 hF2 rfl rfl hx13) ?_
      exact SO.nilZ fun a w h1 h2 h3 h4 h5 => PZ.of h1 h3 h5 (.cons () (.cons () (.cons () (.nil ⟨EnvAll.of h2 ⟨rfl, rfl, trivial⟩, h4⟩))))
    · rintro Fr _ _
      refine SO.loadI1 (j := 0) rfl Try.isAgg3 (Rd.head hF2) hx13 rfl rfl rfl rfl ?_
      exact SO.nilZ fun a w h1 h2 h3 h4 h5 => PZ.of h1 h3 h5 (.cons () (.cons () (.cons () (.nil ⟨EnvAll.of h2 ⟨rfl, rfl, trivial⟩, h4⟩))))
    · rintro Fr _
      refine SO.v rfl (opv_add rfl rfl) ?_
      exact SO.nilZ fun a w h1 h2 h3 h4 h5 => PZ.of h1 h3 h5 (.cons () (.cons () (.nil ⟨EnvAll.of h2 ⟨rfl, rfl, trivial⟩, h4⟩)))
    · rintro Fr _
      refine SO.v rfl (opv_move rfl) ?_
      exact SO.nilZ fun a w h1 h2 h3 h4 h5 => PZ.of h1 h3 h5 (.cons () (.cons () (.nil ⟨EnvAll.of h2 ⟨rfl, rfl, trivial⟩, h4⟩)))
    · rintro Fr _
      refine SO.v rfl (opv_move rfl) ?_
      exact SO.nilZ fun a w h1 h2 h3 h4 h5 => PZ.of h1 h3 h5 (.cons () (.cons () (.nil ⟨EnvAll.of h2 ⟨rfl, rfl, trivial⟩, h4⟩)))
    · rintro Fr _ _
      refine SO.v rfl (opv_lenR rfl Try.underlying29 hF2 rfl) ?_
      exact SO.nilZ fun a w h1 h2 h3 h4 h5 => PZ.of h1 h3 h5 (.cons () (.cons () (.cons () (.nil ⟨EnvAll.of h2 ⟨rfl, rfl, trivial⟩, h4⟩))))
    · rintro Fr _
      refine SO.v rfl (opv_sub rfl rfl) ?_
      exact SO.nilZ fun a w h1 h2 h3 h4 h5 => PZ.of h1 h3 h5 (.cons () (.cons () (.nil ⟨EnvAll.of h2 ⟨rfl, rfl, trivial⟩, h4⟩)))
    · rintro Fr _ _ _
      refine SO.v rfl (opv_idx Try.underlying29 Try.sizeOf3 hF2 rfl rfl hx15) ?_
      exact SO.nilZ fun a w h1 h2 h3 h4 h5 => PZ.of h1 h3 h5 (.cons () (.cons () (.cons () (.cons () (.nil ⟨EnvAll.of h2 ⟨rfl, rfl, rfl, trivial⟩, h4⟩)))))
    · rintro Fr _ _
      refine SO.loadI1 (j := 0) rfl Try.isAgg3 (Rd.head hF2) hx15 rfl rfl rfl rfl ?_
      exact SO.nilZ fun a w h1 h2 h3 h4 h5 => PZ.of h1 h3 h5 (.cons () (.cons () (.cons () (.nil ⟨EnvAll.of h2 ⟨rfl, rfl, trivial⟩, h4⟩))))
    · rintro Fr _
      refine SO.v rfl (opv_add rfl rfl) ?_
      exact SO.nilZ fun a w h1 h2 h3 h4 h5 => PZ.of h1 h3 h5 (.cons () (.cons () (.nil ⟨EnvAll.of h2 ⟨rfl, rfl, trivial⟩, h4⟩)))
    · rintro Fr _
      refine SO.v rfl (opv_assign rfl) ?_
      exact SO.nilZ fun a w h1 h2 h3 h4 h5 => PZ.of h1 h3 h5 (.cons () (.cons () (.nil ⟨EnvAll.of h2 ⟨rfl, rfl, trivial⟩, h4⟩)))
    · rintro Fr _
      refine SO.v rfl (opv_assign rfl) ?_
      exact SO.nilZ fun a w h1 h2 h3 h4 h5 => PZ.of h1 h3 h5 (.cons () (.cons () (.nil ⟨EnvAll.of h2 ⟨rfl, rfl, trivial⟩, h4⟩)))
    rintro _ _ _ _ _
    refine S.to (ρ' := [(0, V.val), (1, .int .i64 a1), (6, .int .i64 (w64 (x12 + 1))), (7, .int .i64 (w64 (x14 + 1)))]) ⟨rfl, rfl, rfl, rfl, trivial⟩ ?_
    refine S.seq ?_
    refine S.region ?_
    refine SO.v rfl (opv_move rfl) ?_
    refine SO.v rfl (opv_move rfl) ?_
    refine SO.v rfl (opv_move rfl) ?_
    obtain ⟨_, s17, ht16, h⟩ := VM.bind_some V.toVI h
    refine SO.call (pre := [V.rep _]) rfl Try.call45 rfl rfl rfl (lay_Put.ct V _ _ _ _ _ ht16) trivial ?_
    rintro _ _ ⟨rfl, rfl⟩
    refine SO.nil ?_
    refine S.region ?_
    refine SO.v rfl (opv_move rfl) ?_
    refine SO.v rfl (opv_move rfl) ?_
    refine SO.v rfl (opv_move rfl) ?_
    obtain ⟨_, s19, ht18, h⟩ := VM.bind_some V.toVI h
    refine SO.call (pre := [V.rep _]) rfl Try.call45 rfl rfl rfl (lay_Put.ct V _ _ _ _ _ ht18) trivial ?_
    rintro _ _ ⟨rfl, rfl⟩
    refine SO.nil ?_
    refine S.to (ρ' := []) trivial ?_
    obtain ⟨hq, rfl⟩ := VM.ret_some V.toVI h
    cases hq
    refine S.b1 ?_
    refine S.b1 ?_
    exact S.fin0 Try.func77 rfl (fun w hs hk => hR w _ _ ⟨rfl, rfl⟩ hs hk)
  · replace h := VM.cond_f V.toVI b11 h
    refine S.condF rfl b11 ?_
    refine S.skip ?_
    refine S.seq ?_
    refine S.region ?_
    refine SO.v rfl (opv_move rfl) ?_
    refine SO.v rfl (opv_move rfl) ?_
    refine SO.v rfl (opv_move rfl) ?_
    obtain ⟨_, s21, ht20, h⟩ := VM.bind_some V.toVI h
    refine SO.call (pre := [V.rep _]) rfl Try.call45 rfl rfl rfl (lay_Put.ct V _ _ _ _ _ ht20) trivial ?_
    rintro _ _ ⟨rfl, rfl⟩
    refine SO.nil ?_
    refine S.to (ρ' := [(0, V.val), (1, .int .i64 a1), (7, .int .i64 0)]) ⟨rfl, rfl, rfl, trivial⟩ ?_
    refine S.region ?_
    refine SO.v rfl (opv_move rfl) ?_
    refine SO.v rfl (opv_move rfl) ?_
    refine SO.v rfl (opv_move rfl) ?_
    obtain ⟨_, s23, ht22, h⟩ := VM.bind_some V.toVI h
    refine SO.call (pre := [V.rep _]) rfl Try.call45 rfl rfl rfl (lay_Put.ct V _ _ _ _ _ ht22) trivial ?_
    rintro _ _ ⟨rfl, rfl⟩
    refine SO.nil ?_
    refine S.to (ρ' := []) trivial ?_
    obtain ⟨hq, rfl⟩ := VM.ret_some V.toVI h
    cases hq
    refine S.b1 ?_
    refine S.b1 ?_
    exact S.fin0 Try.func77 rfl (fun w hs hk => hR w _ _ ⟨rfl, rfl⟩ hs hk)
end Go.Proofs
namespace Go.Proofs
open Go.Sl Go.RowKit
/-! 78 slices.Delete[[]int,int] -/
def slices_Delete_int_int.f (a0 : List Int) (a1 : Int) (a2 : Int) : Option ((List Int)) :=
  (chk (delOk a0 a1 a2)).bind fun _ => bif a1 == a2 then (some a0) else (some (((delz a0 a1 a2).take (delN a0 a1 a2) ++ List.replicate ((delz a0 a1 a2).length - (delN a0 a1 a2)) 0).take (delN a0 a1 a2)))
set_option maxHeartbeats 8000000 in
set_option maxRecDepth 100000 in
theorem slices_Delete_int_int.ct (v0 : Value) (a0 : List Int) (a1 : Int) (a2 : Int) (r0 : List Int) (h : slices_Delete_int_int.f a0 a1 a2 = some r0) :
    Ct Try.prog 78 [v0, .int .i64 a1, .int .i64 a2] (fun _ => True) [Own 3 (ekI .i64) v0 a0] (fun u H' => ∃ v_r0, u = v_r0 ∧ H' = [Own 3 (ekI .i64) v_r0 r0]) := by
  unfold slices_Delete_int_int.f at h
  refine Ct.intro (n := 33) Try.func78 rfl rfl rfl ?_
  intro R w0 F hF hR
  refine S.rd fun hr1 => ?_
  refine S.seq ?_
  refine S.region ?_
  refine SO.v rfl (opv_assign rfl) ?_
  refine SO.nil ?_
  refine S.seq ?_
  refine S.region ?_
  refine SO.v rfl (opv_move rfl) ?_
  refine SO.v rfl (opv_move rfl) ?_
  refine SO.v rfl (opv_move rfl) ?_
  refine SO.v rfl (opv_move rfl) ?_
  refine SO.v rfl (opv_lenR rfl Try.underlying29 hr1 rfl) ?_
  obtain ⟨_, hc2, h⟩ := opt_bind h
  refine SO.v rfl (opv_slc3 Try.underlying29 Try.sizeOf3 hr1 (chk_some hc2) rfl rfl rfl rfl) ?_
  refine SO.nil ?_
  refine S.seq ?_
  refine S.seq ?_
  refine S.region ?_
  refine SO.v rfl (opv_move rfl) ?_
  refine SO.v rfl (opv_move rfl) ?_
  refine SO.v rfl (opv_eql rfl rfl) ?_
  refine SO.nil ?_
  refine S.to (ρ' := [(0, v0), (1, .int .i64 a1), (2, .int .i64 a2), (6, .slice none 0 0), (16, .bool (a1 == a2))]) ⟨rfl, rfl, rfl, rfl, rfl, trivial⟩ ?_
  rcases bool_or (a1 == a2) with b3 | b3
  · replace h := cond_t b3 h
    refine S.condT rfl b3 ?_
    refine S.seq ?_
    refine S.region ?_
    refine SO.v rfl (opv_move rfl) ?_
    refine SO.v rfl (opv_assign rfl) ?_
    refine SO.nil ?_
    cases h
    refine S.b1 ?_
    refine S.b1 ?_
    exact S.ret1 Try.func78 rfl rfl (fun w hs hk => hR w _ _ ⟨v0, rfl, rfl⟩ hs hk)
  · replace h := cond_f b3 h
    refine S.condF rfl b3 ?_
    refine S.skip ?_
    refine S.seq ?_
    refine S.region ?_
    refine SO.v rfl (opv_move rfl) ?_
    refine SO.v rfl (opv_lenR rfl Try.underlying29 hr1 rfl) ?_
    refine SO.v rfl (opv_assign rfl) ?_
    refine SO.nil ?_
    refine S.seq ?_
    refine S.draw' (Z := fun Q => ∀ (_ : Unit) (_ : Unit) (_ : Unit) (_ : Unit), Q [(0, slcHi v0 (delN a0 a1 a2)), (7, .int .i64 (a0.length : Int)), (6, .slice none 0 0)] [Own 3 (ekI .i64) v0 (delz a0 a1 a2), F]) (T := [tS 0 (v0), tS 1 (.int .i64 a1), tS 2 (.int .i64 a2), tE [(7, .int .i64 (a0.length : Int)), (6, .slice none 0 0)], tR (Own 3 (ekI .i64) v0 a0), tR (F), tS 20 (v0), tS 21 (.int .i64 a1), tS 22 (slcHi v0 a1.toNat), tS 23 (v0), tS 24 (.int .i64 a2), tS 25 (slcV v0 a2.toNat (ekI .i64).sz), tR (Own 3 (ekI .i64) v0 (delz a0 a1 a2)), tS 26 (slcHi v0 (delN a0 a1 a2)), tS 0 (slcHi v0 (delN a0 a1 a2))]) (D := [⟨[0], [], [6]⟩, ⟨[1], [], [7]⟩, ⟨[6, 7, 4], [], [8]⟩, ⟨[0], [], [9]⟩, ⟨[2], [], [10]⟩, ⟨[9, 10, 4], [], [11]⟩, ⟨[8, 11], [4], [12, 13]⟩, ⟨[13], [0], [14]⟩]) (ini := [0, 1, 2, 3, 4, 5]) (fin := [14, 3, 12, 5]) (bf := [[], [], [0, 1], [], [], [3, 4], [0, 1, 2, 3, 4, 5], [0, 1, 2, 3, 4, 5, 6]]) (by kernel_rfl) (by kernel_rfl) (fun x w h1 h2 => (.cons () (.cons () (.cons () (.cons () (.cons () (.cons () (.nil ⟨EnvAll.of h1 ⟨rfl, rfl, rfl, rfl, rfl, trivial⟩, h2⟩)))))))) (fun Q => by kernel_rfl) ⟨?_, ?_, ?_, ?_, ?_, ?_, ?_, ?_, trivial⟩ ?_
    · rintro Fr _
      refine SO.v rfl (opv_move rfl) ?_
      exact SO.nilZ fun a w h1 h2 h3 h4 h5 => PZ.of h1 h3 h5 (.cons () (.cons () (.nil ⟨EnvAll.of h2 ⟨rfl, rfl, trivial⟩, h4⟩)))
    · rintro Fr _
      refine SO.v rfl (opv_move rfl) ?_
      exact SO.nilZ fun a w h1 h2 h3 h4 h5 => PZ.of h1 h3 h5 (.cons () (.cons () (.nil ⟨EnvAll.of h2 ⟨rfl, rfl, trivial⟩, h4⟩)))
    · rintro Fr _ _ _
      refine SO.v rfl (opv_slcHi Try.underlying29 Try.sizeOf3 hr1 (chk_some hc2) rfl rfl) ?_
      exact SO.nilZ fun a w h1 h2 h3 h4 h5 => PZ.of h1 h3 h5 (.cons () (.cons () (.cons () (.cons () (.nil ⟨EnvAll.of h2 ⟨rfl, rfl, rfl, trivial⟩, h4⟩)))))
    · rintro Fr _
      refine SO.v rfl (opv_move rfl) ?_
      exact SO.nilZ fun a w h1 h2 h3 h4 h5 => PZ.of h1 h3 h5 (.cons () (.cons () (.nil ⟨EnvAll.of h2 ⟨rfl, rfl, trivial⟩, h4⟩)))
    · rintro Fr _
      refine SO.v rfl (opv_move rfl) ?_
      exact SO.nilZ fun a w h1 h2 h3 h4 h5 => PZ.of h1 h3 h5 (.cons () (.cons () (.nil ⟨EnvAll.of h2 ⟨rfl, rfl, trivial⟩, h4⟩)))
    · rintro Fr _ _ _
      refine SO.v rfl (opv_slcLo Try.underlying29 Try.sizeOf3 hr1 (slcF_of (chk_some hc2)) rfl rfl) ?_
      exact SO.nilZ fun a w h1 h2 h3 h4 h5 => PZ.of h1 h3 h5 (.cons () (.cons () (.cons () (.cons () (.nil ⟨EnvAll.of h2 ⟨rfl, rfl, rfl, trivial⟩, h4⟩)))))
    · rintro Fr _ _ _
      refine SO.appendDel rfl Try.underlying29 inf3 rfl (chk_some hc2) (lt_of_del (chk_some hc2) (by assumption)) rfl rfl ?_
      refine SO.rd fun hr4 => ?_
      exact SO.nilZ fun a w h1 h2 h3 h4 h5 => PZ.of h1 h3 h5 (.cons () (.cons () (.cons () (.cons () (.nil ⟨EnvAll.of h2 ⟨rfl, rfl, rfl, trivial⟩, h4⟩)))))
    · rintro Fr _ _
      refine SO.v rfl (opv_assign rfl) ?_
      exact SO.nilZ fun a w h1 h2 h3 h4 h5 => PZ.of h1 h3 h5 (.cons () (.cons () (.nil ⟨EnvAll.of h2 ⟨rfl, rfl, trivial⟩, h4⟩)))
    rintro _ _ _ _
    refine S.to (ρ' := [(0, slcHi v0 (delN a0 a1 a2)), (7, .int .i64 (a0.length : Int)), (6, .slice none 0 0)]) ⟨rfl, rfl, rfl, trivial⟩ ?_
    refine S.rd fun hr5 => ?_
    refine S.seq ?_
    refine S.region ?_
    refine SO.v rfl (opv_move rfl) ?_
    refine SO.v rfl (opv_move rfl) ?_
    refine SO.v rfl (opv_lenHi rfl Try.underlying29 hr5 rfl) ?_
    refine SO.v rfl (opv_move rfl) ?_
    refine SO.v rfl (opv_slcT (L := a0.length) Try.underlying29 Try.sizeOf3 hr5 (len_delz (chk_some hc2)) (by simp [len_delz (chk_some hc2), delN]) rfl rfl rfl) ?_
    refine SO.clearT (zx := 0) Try.underlying29 Try.zeroValue3 rfl (by rw [len_delz (chk_some hc2)]; exact delN_lt (chk_some hc2) (lt_of_del (chk_some hc2) (by assumption))) rfl ?_
    refine SO.rd fun hr6 => ?_
    refine SO.nil ?_
    refine S.seq ?_
    refine S.region ?_
    refine SO.v rfl (opv_move rfl) ?_
    refine SO.v rfl (opv_assign rfl) ?_
    refine SO.nil ?_
    refine S.to (ρ' := [(6, slcHi v0 (delN a0 a1 a2))]) ⟨rfl, trivial⟩ ?_
    cases h
    refine S.shrink (m := (delN a0 a1 a2)) (by simp [len_delz (chk_some hc2), delN]) ?_
    refine S.b1 ?_
    refine S.b1 ?_
    exact S.ret1 Try.func78 rfl rfl (fun w hs hk => hR w _ _ ⟨(slcHi v0 (delN a0 a1 a2)), rfl, rfl⟩ hs hk)
end Go.Proofs
namespace Go.Proofs
open Go.Sl Go.RowKit
/-! 76 slices.Index[[]int,int] -/
def slices_Index_int_int.l1 (a0 : List Int) (a1 : Int) : Nat → Int → Option (Brk Int Unit)
  | 0, _ => none
  | k + 1, x8_1 => bif decide (x8_1 < (a0.length : Int)) then ((at_ a0 x8_1).bind fun x2 => bif a1 == x2 then (some (Brk.ret x8_1)) else (slices_Index_int_int.l1 a0 a1 k (w64 (x8_1 + 1)))) else (some (Brk.nx ()))
def slices_Index_int_int.f (k : Nat) (a0 : List Int) (a1 : Int) : Option (Int) :=
  (slices_Index_int_int.l1 a0 a1 k 0).bind fun o1 => Brk.go o1 (fun r => some r) (fun _ => some (-1))
set_option maxHeartbeats 8000000 in
set_option maxRecDepth 100000 in
theorem slices_Index_int_int.ct (k : Nat) (v0 : Value) (a0 : List Int) (a1 : Int) (r0 : Int) (h : slices_Index_int_int.f k a0 a1 = some r0) :
    Ct Try.prog 76 [v0, .int .i64 a1] (fun F => Rd (ekI .i64) v0 a0 F) [] (fun u H' => u = .int .i64 r0 ∧ H' = []) := by
  unfold slices_Index_int_int.f at h
  refine Ct.intro (n := 19) Try.func76 rfl rfl rfl ?_
  intro R w0 F hF hR
  have hF0 := hF
  refine S.seq ?_
  refine S.region ?_
  refine SO.v rfl (opv_assign rfl) ?_
  refine SO.nil ?_
  refine S.seq ?_
  refine S.seq ?_
  refine S.region ?_
  refine SO.v rfl (opv_move rfl) ?_
  refine SO.v rfl (opv_lenR rfl Try.underlying29 hF0 rfl) ?_
  refine SO.v rfl (opv_move rfl) ?_
  refine SO.nil ?_
  obtain ⟨o1, hl1, h⟩ := opt_bind h
  refine S.to (ρ' := [(8, .int .i64 0), (7, .int .i64 (a0.length : Int)), (4, .int .i64 0), (0, v0), (1, .int .i64 a1)]) ⟨rfl, rfl, rfl, rfl, rfl, trivial⟩ ?_
  refine S.forloop (X := Int × Unit) (O := Brk Int Unit) (fun m x => slices_Index_int_int.l1 a0 a1 m x.1) (fun x => match x with | (x8_1, _) => [(8, .int .i64 x8_1), (7, .int .i64 (a0.length : Int)), (4, .int .i64 0), (0, v0), (1, .int .i64 a1)]) (fun x => match x with | (x8_1, _) => [F]) (fun Sk o' => (∀ r', o' = Brk.ret r' → some r' = some r0) ∧ ∀ _ : Unit, ∀ _ : Unit, o' = Brk.nx () → Sk [(4, .int .i64 0)] [F]) (fun _ => rfl) ?_ (m := k) (x := (0, ())) hl1 ?_
  · clear h hl1
    intro k x o_1 h hK1 ih1
    obtain ⟨x8_1, _⟩ := x
    replace h : slices_Index_int_int.l1 a0 a1 (k + 1) x8_1 = some o_1 := h
    first | rw [slices_Index_int_int.l1] at h | unfold slices_Index_int_int.l1 at h
    refine S.seq ?_
    refine S.region ?_
    refine SO.v rfl (opv_lss rfl rfl) ?_
    refine SO.nil ?_
    refine S.seq ?_
    rcases bool_or (decide (x8_1 < (a0.length : Int))) with b1 | b1
    · replace h := cond_t b1 h
      refine S.condT rfl b1 ?_
      refine S.skip ?_
      refine S.seq ?_
      refine S.block ?_
      refine S.seq ?_
      refine S.region ?_
      refine SO.v rfl (opv_move rfl) ?_
      refine SO.v rfl (opv_assign rfl) ?_
      refine SO.nil ?_
      refine S.seq ?_
      refine S.region ?_
      refine SO.v rfl (opv_move rfl) ?_
      refine SO.v rfl (opv_move rfl) ?_
      refine SO.v rfl (opv_move rfl) ?_
      obtain ⟨x2, hx3, h⟩ := opt_bind h
      refine SO.v rfl (opv_idx Try.underlying29 Try.sizeOf3 hF0 rfl rfl hx3) ?_
      refine SO.loadI1 (j := 0) rfl Try.isAgg3 (Rd.head hF0) hx3 rfl rfl rfl rfl ?_
      refine SO.v rfl (opv_eql rfl rfl) ?_
      refine SO.nil ?_
      refine S.to (ρ' := [(8, .int .i64 x8_1), (7, .int .i64 (a0.length : Int)), (4, .int .i64 0), (0, v0), (1, .int .i64 a1), (5, .int .i64 x8_1), (16, .bool (a1 == x2))]) ⟨rfl, rfl, rfl, rfl, rfl, rfl, rfl, trivial⟩ ?_
      rcases bool_or (a1 == x2) with b4 | b4
      · replace h := cond_t b4 h
        refine S.condT rfl b4 ?_
        refine S.seq ?_
        refine S.region ?_
        refine SO.v rfl (opv_move rfl) ?_
        refine SO.v rfl (opv_assign rfl) ?_
        refine SO.nil ?_
        refine S.to (ρ' := [(4, .int .i64 x8_1)]) ⟨rfl, trivial⟩ ?_
        cases h
        replace h := hK1.1 _ rfl
        cases h
        exact S.ret1 Try.func76 rfl rfl (fun w hs hk => hR w _ _ ⟨rfl, rfl⟩ hs hk)
      · replace h := cond_f b4 h
        refine S.condF rfl b4 ?_
        refine S.skip ?_
        refine S.inBlock ?_
        refine S.region ?_
        refine SO.v rfl (opv_add rfl rfl) ?_
        refine SO.v rfl (opv_move rfl) ?_
        refine SO.nil ?_
        refine S.to ?_ (ih1 (w64 (x8_1 + 1), ()) h)
        exact ⟨rfl, rfl, rfl, rfl, rfl, trivial⟩
    · replace h := cond_f b1 h
      refine S.condF rfl b1 ?_
      refine S.exit rfl ?_
      cases h
      refine S.to ?_ (hK1.2 () () rfl)
      exact ⟨rfl, trivial⟩
  refine ⟨fun r' e' => ?_, ?_⟩
  · subst e'
    have h9 := Brk.of_ret h
    exact h9
  rintro _ _ e'
  subst e'
  replace h := Brk.of_nx h
  refine S.seq ?_
  refine S.region ?_
  refine SO.v rfl (opv_assign rfl) ?_
  refine SO.nil ?_
  cases h
  exact S.ret1 Try.func76 rfl rfl (fun w hs hk => hR w _ _ ⟨rfl, rfl⟩ hs hk)
end Go.Proofs
namespace Go.Proofs
open Go.Sl Go.RowKit
/-! 68 padstone/queue.Remove -/
def queue_Remove.f (k : Nat) (a1 : Int) (a2 : Int) : VM (Bool) :=
  (queue_List.f k a1).bind fun t1 => (VM.opt (slices_Index_int_int.f k t1 a2)).bind fun t6 => bif decide (t6 < 0) then (VM.ret false) else ((VM.opt (slices_Delete_int_int.f t1 t6 (w64 (t6 + 1)))).bind fun t9 => (queue_put.f k a1 t9).bind fun _ => (lay_Put.f a2 2 0).bind fun _ => VM.ret true)
set_option maxHeartbeats 8000000 in
set_option maxRecDepth 100000 in
theorem queue_Remove.ct (V : VW Try.prog) (k : Nat) (a1 : Int) (a2 : Int) (r0 : Bool) (s s' : V.S) (h : VM.run V.toVI (queue_Remove.f k a1 a2) s = some (r0, s')) :
    Ct Try.prog 68 [V.val, .int .i64 a1, .int .i64 a2] (fun _ => True) [V.rep s] (fun u H' => u = .bool r0 ∧ H' = [V.rep s']) := by
  unfold queue_Remove.f at h
  refine Ct.intro (n := 28) Try.func68 rfl rfl rfl ?_
  intro R w0 F hF hR
  refine S.seq ?_
  refine S.region ?_
  refine SO.v rfl (opv_assign rfl) ?_
  refine SO.nil ?_
  refine S.seq ?_
  refine S.region ?_
  refine SO.v rfl (opv_move rfl) ?_
  refine SO.v rfl (opv_move rfl) ?_
  obtain ⟨t1, s3, ht2, h⟩ := VM.bind_some V.toVI h
  refine SO.call (pre := [V.rep _]) rfl Try.call17 rfl rfl rfl (queue_List.ct V _ _ _ _ _ ht2) trivial ?_
  rintro v4 _ ⟨_, rfl, rfl⟩
  refine SO.rd fun hr5 => ?_
  refine SO.v rfl (opv_assign rfl) ?_
  refine SO.nil ?_
  refine S.seq ?_
  refine S.region ?_
  refine SO.v rfl (opv_move rfl) ?_
  refine SO.v rfl (opv_move rfl) ?_
  obtain ⟨t6, ht7, h⟩ := VM.opt_some V.toVI h
  refine SO.call (pre := []) rfl Try.call76 rfl rfl rfl (slices_Index_int_int.ct _ v4 _ _ _ ht7) (Rd.head hr5) ?_
  rintro _ _ ⟨rfl, rfl⟩
  refine SO.v rfl (opv_assign rfl) ?_
  refine SO.nil ?_
  refine S.seq ?_
  refine S.seq ?_
  refine S.region ?_
  refine SO.v rfl (opv_move rfl) ?_
  refine SO.v rfl (opv_lss rfl rfl) ?_
  refine SO.nil ?_
  refine S.to (ρ' := [(0, V.val), (1, .int .i64 a1), (2, .int .i64 a2), (6, .bool false), (7, v4), (8, .int .i64 t6), (16, .bool (decide (t6 < 0)))]) ⟨rfl, rfl, rfl, rfl, rfl, rfl, rfl, trivial⟩ ?_
  rcases bool_or (decide (t6 < 0)) with b8 | b8
  · replace h := VM.cond_t V.toVI b8 h
    refine S.condT rfl b8 ?_
    refine S.seq ?_
    refine S.region ?_
    refine SO.v rfl (opv_assign rfl) ?_
    refine SO.nil ?_
    obtain ⟨hq, rfl⟩ := VM.ret_some V.toVI h
    cases hq
    refine S.drop ?_
    refine S.b1 ?_
    refine S.b1 ?_
    exact S.ret1 Try.func68 rfl rfl (fun w hs hk => hR w _ _ ⟨rfl, rfl⟩ hs hk)
  · replace h := VM.cond_f V.toVI b8 h
    refine S.condF rfl b8 ?_
    refine S.skip ?_
    refine S.seq ?_
    refine S.region ?_
    refine SO.v rfl (opv_move rfl) ?_
    refine SO.v rfl (opv_move rfl) ?_
    refine SO.v rfl (opv_move rfl) ?_
    refine SO.v rfl (opv_move rfl) ?_
    refine SO.v rfl (opv_move rfl) ?_
    refine SO.v rfl (opv_add rfl rfl) ?_
    obtain ⟨t9, ht10, h⟩ := VM.opt_some V.toVI h
    refine SO.call (pre := [Own _ _ _ _]) rfl Try.call78 rfl rfl rfl (slices_Delete_int_int.ct v4 _ _ _ _ ht10) trivial ?_
    rintro v11 _ ⟨_, rfl, rfl⟩
    refine SO.rd fun hr12 => ?_
    obtain ⟨_, s14, ht13, h⟩ := VM.bind_some V.toVI h
    refine SO.b1 ?_
    refine SO.call (pre := [V.rep _]) rfl Try.call77 rfl rfl rfl (queue_put.ct V _ v11 _ _ _ _ ht13) (Rd.head hr12) ?_
    rintro _ _ ⟨rfl, rfl⟩
    refine SO.nil ?_
    refine S.to (ρ' := [(0, V.val), (2, .int .i64 a2), (6, .bool false)]) ⟨rfl, rfl, rfl, trivial⟩ ?_
    refine S.seq ?_
    refine S.region ?_
    refine SO.v rfl (opv_move rfl) ?_
    refine SO.v rfl (opv_move rfl) ?_
    obtain ⟨_, s16, ht15, h⟩ := VM.bind_some V.toVI h
    refine SO.call (pre := [V.rep _]) rfl Try.call45 rfl rfl rfl (lay_Put.ct V _ _ _ _ _ ht15) trivial ?_
    rintro _ _ ⟨rfl, rfl⟩
    refine SO.nil ?_
    refine S.seq ?_
    refine S.region ?_
    refine SO.v rfl (opv_assign rfl) ?_
    refine SO.nil ?_
    obtain ⟨hq, rfl⟩ := VM.ret_some V.toVI h
    cases hq
    refine S.b1 ?_
    refine S.drop ?_
    refine S.b1 ?_
    refine S.b1 ?_
    exact S.ret1 Try.func68 rfl rfl (fun w hs hk => hR w _ _ ⟨rfl, rfl⟩ hs hk)
end Go.Proofs
