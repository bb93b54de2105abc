/- What the functions that NtfnKeeps reaches come to, and that they do. On no condition. -/
import Derived.Test.YtehlmdihimmanaaFnNtfnKeeps0
import Derived.Test.YtehlmdihimmanaaFnNtfnKeeps1
set_option linter.all false
namespace Go.Proofs
open Go.Sl Go.RowKit
/-! 6 padstone/padstonelaw16.NtfnKeeps -/
def law16_NtfnKeeps.l2 (a0 : Int) : Nat → (Int × (List Int) × (List Bool)) → Option ((Int × Int × Bool × (List Bool) × (List Int)))
  | 0, _ => none
  | k + 1, (x16_2, qv20_2, qv34_2) => bif decide (x16_2 < a0) then ((VM.run plainI (endp_State.f x16_2) qv20_2).bind fun (t41, s43) => (at_ qv34_2 x16_2).bind fun x45 => law16_NtfnKeeps.l2 a0 k (w64 (x16_2 + 1), s43, qv34_2.set x16_2.toNat (t41 == 5))) else (some (x16_2, x16_2, decide (x16_2 < a0), qv34_2, qv20_2))
def law16_NtfnKeeps.l3 (a0 : Int) (qv34_e2 : List Bool) : Nat → (Int × Int × (List Int)) → Option ((Int × Int × Int × Bool × (List Int)))
  | 0, _ => none
  | k + 1, (x17_3, x9_3, qv20_3) => bif decide (x17_3 < a0) then ((at_ qv34_e2 x17_3).bind fun x57 => (bif x57 then ((VM.run plainI (endp_State.f x17_3) qv20_3).bind fun (t64, s66) => some (t64 == 1, s66)) else (some (false, qv20_3))).bind fun (c60, w62) => bif c60 then ((at_ w62 (w64 ((w64 (480 + (w64 (8 * x17_3)))) + 3))).bind fun x69 => law16_NtfnKeeps.l3 a0 qv34_e2 k (w64 (x17_3 + 1), bor .i64 x9_3 (w64 x69), w62)) else (law16_NtfnKeeps.l3 a0 qv34_e2 k (w64 (x17_3 + 1), x9_3, w62))) else (some (x9_3, x17_3, x17_3, decide (x17_3 < a0), qv20_3))
def law16_NtfnKeeps.l1 (a0 : Int) (a1 : List law16_Deed) : Nat → (Int × Int × Int × (List Int)) → Option (Brk Bool (Int × Int × (List Int)))
  | 0, _ => none
  | k + 1, (x10_1, x9_1, x8_1, qv20_1) => bif decide (x10_1 < (a1.length : Int)) then ((at_ a1 x10_1).bind fun x24 => (law10_Pick.f x24.B 65536).bind fun t27 => (law10_Pick.f x24.T a0).bind fun t29 => (law10_Pick.f x24.What 4).bind fun t31 => bif decide (t31 < 2) then ((mk_ false a0).bind fun xs36 => (law16_NtfnKeeps.l2 a0 k (0, qv20_1, xs36)).bind fun (j16_e2, j67_e2, j69_e2, qv34_e2, qv20_e2) => (VM.run plainI (ntfn_Signal.f (w64 (a0 + 4)) t27) qv20_e2).bind fun (t50, s52) => bif t50.isSome then (some (Brk.ret false)) else ((law16_NtfnKeeps.l3 a0 qv34_e2 k (0, x9_1, s52)).bind fun (j9_e3, j17_e3, j89_e3, j91_e3, qv20_e3) => law16_NtfnKeeps.l1 a0 a1 k (w64 (x10_1 + 1), j9_e3, bor .i64 x8_1 t27, qv20_e3))) else ((bif t31 == 2 then ((VM.run plainI (endp_State.f t29) qv20_1).bind fun (t77, s79) => some (t77 == 1, s79)) else (some (false, qv20_1))).bind fun (c73, w75) => bif c73 then ((VM.run plainI (ntfn_Wait.f (w64 (a0 + 4)) t29) w75).bind fun ((t82, t83, t84), s86) => (bif t84.isSome || (t83 && (t82.Word == 0)) then (some (true, s86)) else ((VM.run plainI (endp_State.f t29) s86).bind fun (t96, s98) => some (t83 != (t96 == 1), s98))).bind fun (c92, w94) => bif c92 then (some (Brk.ret false)) else (law16_NtfnKeeps.l1 a0 a1 k (w64 (x10_1 + 1), bor .i64 x9_1 t82.Word, x8_1, w94))) else (bif t31 == 3 then ((VM.run plainI (ntfn_Poll.f (w64 (a0 + 4))) w75).bind fun ((t102, t103), s105) => law16_NtfnKeeps.l1 a0 a1 k (w64 (x10_1 + 1), bor .i64 x9_1 t102.Word, x8_1, s105)) else (law16_NtfnKeeps.l1 a0 a1 k (w64 (x10_1 + 1), x9_1, x8_1, w75))))) else (some (Brk.nx (x8_1, x9_1, qv20_1)))
def law16_NtfnKeeps.f (k : Nat) (a0 : Int) (a1 : List law16_Deed) : Option (Bool) :=
  (law16_up.f k ).bind fun t1 => bif ((decide (a0 < 1)) || (decide (7 < a0))) || (decide (120 < (a1.length : Int))) then (some t1) else ((ref10_Boot.f k a0).bind fun t6 => (ref10_State_Words.f k t6).bind fun t18 => (law16_NtfnKeeps.l1 a0 a1 k (0, 0, 0, t18)).bind fun o1 => Brk.go o1 (fun r => some r) (fun (j8_e1, j9_e1, qv20_e1) => (VM.run plainI (ntfn_Poll.f (w64 (a0 + 4))) qv20_e1).bind fun ((t109, t110), s112) => some ((t1 && t110.isNone) && (j8_e1 == (bor .i64 j9_e1 t109.Word)))))
set_option maxHeartbeats 8000000 in
set_option maxRecDepth 100000 in
theorem law16_NtfnKeeps.ct (k : Nat) (v1 : Value) (a0 : Int) (a1 : List law16_Deed) (r0 : Bool) (h : law16_NtfnKeeps.f k a0 a1 = some r0) :
    Ct Try.prog 6 [.int .i64 a0, v1] (fun F => Rd ek_law16_Deed v1 a1 F) [] (fun u H' => u = .bool r0 ∧ H' = []) := by
  unfold law16_NtfnKeeps.f at h
  refine Ct.intro (n := 190) Try.func6 rfl rfl rfl ?_
  intro R w0 F hF hR
  have hF1 := hF
  refine S.seq ?_
  refine S.region ?_
  refine SO.v rfl (opv_assign rfl) ?_
  refine SO.nil ?_
  refine S.seq ?_
  refine S.region ?_
  obtain ⟨t1, ht2, h⟩ := opt_bind h
  refine SO.call (pre := []) rfl Try.call22 rfl rfl rfl (law16_up.ct _ _ ht2) trivial ?_
  rintro _ _ ⟨rfl, rfl⟩
  refine SO.v rfl (opv_assign rfl) ?_
  refine SO.nil ?_
  refine S.seq ?_
  refine S.seq ?_
  refine S.region ?_
  refine SO.v rfl (opv_move rfl) ?_
  refine SO.v rfl (opv_lss rfl rfl) ?_
  refine SO.v rfl (opv_move rfl) ?_
  refine SO.cut 3 31 (.bool ((decide (a0 < 1)) || (decide (7 < a0)))) [F] (fun l2 hk2 => ?_) ?_
  · rcases bool_or (decide (a0 < 1)) with b3 | b3
    · refine SO.passF rfl rfl rfl b3 rfl rfl ?_
      refine SO.passF rfl rfl rfl b3 rfl rfl ?_
      refine SO.v rfl (opv_pick_t' b3 rfl rfl) ?_
      exact hk2.fitc (m := 3) rfl (or_t b3) rfl
    · refine SO.takeT rfl rfl rfl b3 ?_
      refine SO.v rfl (opv_move rfl) ?_
      refine SO.takeT rfl rfl rfl b3 ?_
      refine SO.v rfl (opv_gtr rfl rfl) ?_
      refine SO.v rfl (opv_pick_f' b3 rfl rfl) ?_
      exact hk2.fitc (m := 3) rfl (or_f b3) rfl
  refine SO.v rfl (opv_move rfl) ?_
  refine SO.cut 4 36 (.bool (((decide (a0 < 1)) || (decide (7 < a0))) || (decide (120 < (a1.length : Int))))) [F] (fun l2 hk2 => ?_) ?_
  · rcases bool_or ((decide (a0 < 1)) || (decide (7 < a0))) with b4 | b4
    · refine SO.passF rfl rfl rfl b4 rfl rfl ?_
      refine SO.passF rfl rfl rfl b4 rfl rfl ?_
      refine SO.passF rfl rfl rfl b4 rfl rfl ?_
      refine SO.v rfl (opv_pick_t' b4 rfl rfl) ?_
      exact hk2.fitc (m := 4) rfl (or_t b4) rfl
    · refine SO.takeT rfl rfl rfl b4 ?_
      refine SO.v rfl (opv_move rfl) ?_
      refine SO.takeT rfl rfl rfl b4 ?_
      refine SO.v rfl (opv_lenR rfl Try.underlying52 hF1 rfl) ?_
      refine SO.takeT rfl rfl rfl b4 ?_
      refine SO.v rfl (opv_gtr rfl rfl) ?_
      refine SO.v rfl (opv_pick_f' b4 rfl rfl) ?_
      exact hk2.fitc (m := 4) rfl (or_f b4) rfl
  refine SO.nil ?_
  rcases bool_or (((decide (a0 < 1)) || (decide (7 < a0))) || (decide (120 < (a1.length : Int)))) with b5 | b5
  · replace h := cond_t b5 h
    refine S.condT rfl b5 ?_
    refine S.seq ?_
    refine S.region ?_
    refine SO.v rfl (opv_move rfl) ?_
    refine SO.v rfl (opv_assign rfl) ?_
    refine SO.nil ?_
    refine S.to (ρ' := [(0, .int .i64 a0), (1, v1), (4, .bool t1), (5, .bool t1)]) ⟨rfl, rfl, rfl, rfl, trivial⟩ ?_
    cases h
    exact S.ret1 Try.func6 rfl rfl (fun w hs hk => hR w _ _ ⟨rfl, rfl⟩ hs hk)
  · replace h := cond_f b5 h
    refine S.condF rfl b5 ?_
    refine S.skip ?_
    refine S.seq ?_
    refine S.region ?_
    refine SO.v rfl (opv_move rfl) ?_
    obtain ⟨t6, ht7, h⟩ := opt_bind h
    refine SO.call (pre := []) rfl Try.call8 rfl rfl rfl (ref10_Boot.ct _ _ _ ht7) trivial ?_
    rintro _ _ ⟨b8, u9_Slots, u9_Objs, rfl, rfl⟩
    obtain ⟨t18, ht19, h⟩ := opt_bind h
    refine SO.b1 ?_
    refine SO.openR fun raws10 A11 hrel12 hR13 => ?_
    refine SO.b2 ?_
    refine SO.openR fun raws14 A15 hrel16 hR17 => ?_
    refine SO.b1 ?_
    refine SO.b2 ?_
    refine SO.call (pre := [Box _ _, OwnO _ _ _ _ _ _, OwnO _ _ _ _ _ _]) rfl Try.call9 rfl rfl rfl (ref10_State_Words.ct _ b8 u9_Slots u9_Objs raws10 A11 raws14 A15 _ _ ht19) trivial ?_
    rintro v20 _ ⟨_, rfl, rfl⟩
    refine SO.rd fun hr21 => ?_
    refine SO.v rfl (opv_assign rfl) ?_
    refine SO.nil ?_
    refine S.to (ρ' := [(0, .int .i64 a0), (1, v1), (4, .bool false), (5, .bool t1), (6, v20)]) ⟨rfl, rfl, rfl, rfl, rfl, trivial⟩ ?_
    refine S.seq ?_
    refine S.region ?_
    refine SO.v rfl (opv_move rfl) ?_
    refine SO.v rfl (opv_add rfl rfl) ?_
    refine SO.v rfl (opv_assign rfl) ?_
    refine SO.nil ?_
    refine S.seq ?_
    refine S.region ?_
    refine SO.v rfl (opv_assign rfl) ?_
    refine SO.nil ?_
    refine S.seq ?_
    refine S.region ?_
    refine SO.v rfl (opv_assign rfl) ?_
    refine SO.nil ?_
    refine S.seq ?_
    refine S.seq ?_
    refine S.region ?_
    refine SO.v rfl (opv_assign rfl) ?_
    refine SO.nil ?_
    obtain ⟨o1, hl1, h⟩ := opt_bind h
    refine S.b4 ?_
    refine S.b4 ?_
    refine S.b4 ?_
    refine S.b4 ?_
    refine S.b4 ?_
    refine S.to (ρ' := [(10, .int .i64 0), (9, .int .i64 0), (8, .int .i64 0), (7, .int .i64 (w64 (a0 + 4))), (0, .int .i64 a0), (1, v1), (4, .bool false), (5, .bool t1), (6, v20)]) ⟨rfl, rfl, rfl, rfl, rfl, rfl, rfl, rfl, rfl, trivial⟩ ?_
    refine S.forloop (X := (Int × Int × Int × (List Int)) × Unit) (O := Brk Bool (Int × Int × (List Int))) (fun m x => law16_NtfnKeeps.l1 a0 a1 m x.1) (fun x => match x with | ((x10_1, x9_1, x8_1, qv20_1), _) => [(10, .int .i64 x10_1), (9, .int .i64 x9_1), (8, .int .i64 x8_1), (7, .int .i64 (w64 (a0 + 4))), (0, .int .i64 a0), (1, v1), (4, .bool false), (5, .bool t1), (6, v20)]) (fun x => match x with | ((x10_1, x9_1, x8_1, qv20_1), _) => [Own 63 (ekI .u64) v20 qv20_1, Box b8 [u9_Slots, u9_Objs, .int .i64 t6.NS, .int .i64 t6.NO], OwnO 77 kr_ref10_Slot u9_Slots raws10 A11 t6.Slots, OwnO 70 kr_ref10_Obj u9_Objs raws14 A15 t6.Objs, F]) (fun Sk o' => (∀ r', o' = Brk.ret r' → some r' = some r0) ∧ ∀ j : (Int × Int × (List Int)), match j with | (j8_e1, j9_e1, qv20_e1) => ∀ _ : Unit, o' = Brk.nx (j8_e1, j9_e1, qv20_e1) → Sk [(4, .bool false), (5, .bool t1), (6, v20), (7, .int .i64 (w64 (a0 + 4))), (8, .int .i64 j8_e1), (9, .int .i64 j9_e1)] [Own 63 (ekI .u64) v20 qv20_e1, Box b8 [u9_Slots, u9_Objs, .int .i64 t6.NS, .int .i64 t6.NO], OwnO 77 kr_ref10_Slot u9_Slots raws10 A11 t6.Slots, OwnO 70 kr_ref10_Obj u9_Objs raws14 A15 t6.Objs, F]) (fun _ => rfl) ?_ (m := k) (x := ((0, 0, 0, t18), ())) hl1 ?_
    · clear h hl1
      intro k x o_1 h hK1 ih1
      obtain ⟨⟨x10_1, x9_1, x8_1, qv20_1⟩, _⟩ := x
      replace h : law16_NtfnKeeps.l1 a0 a1 (k + 1) (x10_1, x9_1, x8_1, qv20_1) = some o_1 := h
      first | rw [law16_NtfnKeeps.l1] at h | unfold law16_NtfnKeeps.l1 at h
      refine S.rd fun hr22 => ?_
      refine S.seq ?_
      refine S.seq ?_
      refine S.region ?_
      refine SO.v rfl (opv_move rfl) ?_
      refine SO.v rfl (opv_move rfl) ?_
      refine SO.v rfl (opv_lenR rfl Try.underlying52 hF1 rfl) ?_
      refine SO.v rfl (opv_lss rfl rfl) ?_
      refine SO.nil ?_
      rcases bool_or (decide (x10_1 < (a1.length : Int))) with b23 | b23
      · replace h := cond_t b23 h
        refine S.condT rfl b23 ?_
        refine S.skip ?_
        refine S.seq ?_
        refine S.block ?_
        refine S.seq ?_
        refine S.region ?_
        refine SO.v rfl (opv_move rfl) ?_
        refine SO.v rfl (opv_move rfl) ?_
        obtain ⟨x24, hx25, h⟩ := opt_bind h
        refine SO.v rfl (opv_idx Try.underlying52 Try.sizeOf54 hF1 rfl rfl hx25) ?_
        refine SO.loadIN rfl Try.isAgg54 Try.sizeOf54 (Rd.tail (Rd.tail (Rd.tail (Rd.tail (Rd.head hF1))))) hx25 rfl rfl rfl ?_
        refine SO.alloc rfl Try.zeroValue54 rfl (fun b26 => ?_)
        refine SO.storeN Try.sizeOf54 rfl rfl rfl rfl rfl rfl ?_
        refine SO.nil ?_
        refine S.seq ?_
        refine S.region ?_
        refine SO.v rfl (opv_fieldAddr Try.underlying54 rfl Try.sizeOf3 rfl rfl) ?_
        refine SO.load1 rfl Try.isAgg3 rfl rfl ?_
        obtain ⟨t27, ht28, h⟩ := opt_bind h
        refine SO.call (pre := []) rfl Try.call10 rfl rfl rfl (law10_Pick.ct _ _ _ ht28) trivial ?_
        rintro _ _ ⟨rfl, rfl⟩
        refine SO.v rfl (opv_assign rfl) ?_
        refine SO.nil ?_
        refine S.seq ?_
        refine S.region ?_
        refine SO.v rfl (opv_fieldAddr Try.underlying54 rfl Try.sizeOf3 rfl rfl) ?_
        refine SO.load1 rfl Try.isAgg3 rfl rfl ?_
        refine SO.v rfl (opv_move rfl) ?_
        obtain ⟨t29, ht30, h⟩ := opt_bind h
        refine SO.call (pre := []) rfl Try.call10 rfl rfl rfl (law10_Pick.ct _ _ _ ht30) trivial ?_
        rintro _ _ ⟨rfl, rfl⟩
        refine SO.v rfl (opv_assign rfl) ?_
        refine SO.nil ?_
        refine S.seq ?_
        refine S.region ?_
        refine SO.v rfl (opv_fieldAddr Try.underlying54 rfl Try.sizeOf3 rfl rfl) ?_
        refine SO.load1 rfl Try.isAgg3 rfl rfl ?_
        obtain ⟨t31, ht32, h⟩ := opt_bind h
        refine SO.call (pre := []) rfl Try.call10 rfl rfl rfl (law10_Pick.ct _ _ _ ht32) trivial ?_
        rintro _ _ ⟨rfl, rfl⟩
        refine SO.v rfl (opv_assign rfl) ?_
        refine SO.nil ?_
        refine S.seq ?_
        refine S.region ?_
        refine SO.v rfl (opv_move rfl) ?_
        refine SO.v rfl (opv_lss rfl rfl) ?_
        refine SO.nil ?_
        rcases bool_or (decide (t31 < 2)) with b33 | b33
        · replace h := cond_t b33 h
          refine S.condT rfl b33 ?_
          refine S.seq ?_
          refine S.region ?_
          refine SO.v rfl (opv_move rfl) ?_
          obtain ⟨xs36, hx37, h⟩ := opt_bind h
          refine SO.makeSlice (K := ekB) rfl Try.underlying61 inf4 rfl rfl rfl (by decide) rfl rfl rfl hx37 (fun v34 hr35 => ?_)
          refine SO.v rfl (opv_assign rfl) ?_
          refine SO.nil ?_
          refine S.seq ?_
          refine S.seq ?_
          refine S.region ?_
          refine SO.v rfl (opv_assign rfl) ?_
          refine SO.nil ?_
          obtain ⟨⟨j16_e2, j67_e2, j69_e2, qv34_e2, qv20_e2⟩, hl2, h⟩ := opt_bind h
          refine S.b6 ?_
          refine S.b6 ?_
          refine S.b6 ?_
          refine S.b6 ?_
          refine S.b6 ?_
          refine S.b6 ?_
          refine S.b6 ?_
          refine S.to (ρ' := [(16, .int .i64 0), (15, v34), (66, v34), (65, .int .i64 a0), (64, .bool (decide (t31 < 2))), (63, .int .i64 t31), (14, .int .i64 t31), (62, .int .i64 t31), (61, .int .i64 x24.What), (60, bp b26 0), (13, .int .i64 t29), (59, .int .i64 t29), (58, .int .i64 a0), (57, .int .i64 x24.T), (56, bp b26 1), (12, .int .i64 t27), (55, .int .i64 t27), (54, .int .i64 x24.B), (53, bp b26 2), (11, bp b26 0), (52, .agg #[.int .i64 x24.What, .int .i64 x24.T, .int .i64 x24.B]), (51, idxp v1 (x10_1.toNat * ek_law16_Deed.sz)), (50, .int .i64 x10_1), (49, v1), (46, .bool (decide (x10_1 < (a1.length : Int)))), (45, .int .i64 (a1.length : Int)), (44, v1), (43, .int .i64 x10_1), (10, .int .i64 x10_1), (9, .int .i64 x9_1), (8, .int .i64 x8_1), (7, .int .i64 (w64 (a0 + 4))), (0, .int .i64 a0), (1, v1), (4, .bool false), (5, .bool t1), (6, v20)]) ⟨rfl, rfl, rfl, rfl, rfl, rfl, rfl, rfl, rfl, rfl, rfl, rfl, rfl, rfl, rfl, rfl, rfl, rfl, rfl, rfl, rfl, rfl, rfl, rfl, rfl, rfl, rfl, rfl, rfl, rfl, rfl, rfl, rfl, rfl, rfl, rfl, rfl, trivial⟩ ?_
          refine S.forloop (X := (Int × (List Int) × (List Bool)) × Unit) (O := (Int × Int × Bool × (List Bool) × (List Int))) (fun m x => law16_NtfnKeeps.l2 a0 m x.1) (fun x => match x with | ((x16_2, qv20_2, qv34_2), _) => [(16, .int .i64 x16_2), (15, v34), (66, v34), (65, .int .i64 a0), (64, .bool (decide (t31 < 2))), (63, .int .i64 t31), (14, .int .i64 t31), (62, .int .i64 t31), (61, .int .i64 x24.What), (60, bp b26 0), (13, .int .i64 t29), (59, .int .i64 t29), (58, .int .i64 a0), (57, .int .i64 x24.T), (56, bp b26 1), (12, .int .i64 t27), (55, .int .i64 t27), (54, .int .i64 x24.B), (53, bp b26 2), (11, bp b26 0), (52, .agg #[.int .i64 x24.What, .int .i64 x24.T, .int .i64 x24.B]), (51, idxp v1 (x10_1.toNat * ek_law16_Deed.sz)), (50, .int .i64 x10_1), (49, v1), (46, .bool (decide (x10_1 < (a1.length : Int)))), (45, .int .i64 (a1.length : Int)), (44, v1), (43, .int .i64 x10_1), (10, .int .i64 x10_1), (9, .int .i64 x9_1), (8, .int .i64 x8_1), (7, .int .i64 (w64 (a0 + 4))), (0, .int .i64 a0), (1, v1), (4, .bool false), (5, .bool t1), (6, v20)]) (fun x => match x with | ((x16_2, qv20_2, qv34_2), _) => [Own 4 ekB v34 qv34_2, Box b26 [.int .i64 x24.What, .int .i64 x24.T, .int .i64 x24.B], Own 63 (ekI .u64) v20 qv20_2, Box b8 [u9_Slots, u9_Objs, .int .i64 t6.NS, .int .i64 t6.NO], OwnO 77 kr_ref10_Slot u9_Slots raws10 A11 t6.Slots, OwnO 70 kr_ref10_Obj u9_Objs raws14 A15 t6.Objs, F]) (fun Sk => (fun x => match x with | (j16_e2, j67_e2, j69_e2, qv34_e2, qv20_e2) => ∀ _ : Unit, Sk [(0, .int .i64 a0), (1, v1), (4, .bool false), (5, .bool t1), (6, v20), (7, .int .i64 (w64 (a0 + 4))), (8, .int .i64 x8_1), (9, .int .i64 x9_1), (10, .int .i64 x10_1), (11, bp b26 0), (12, .int .i64 t27), (13, .int .i64 t29), (14, .int .i64 t31), (15, v34), (16, .int .i64 j16_e2), (43, .int .i64 x10_1), (44, v1), (45, .int .i64 (a1.length : Int)), (46, .bool (decide (x10_1 < (a1.length : Int)))), (49, v1), (50, .int .i64 x10_1), (51, idxp v1 (x10_1.toNat * ek_law16_Deed.sz)), (52, .agg #[.int .i64 x24.What, .int .i64 x24.T, .int .i64 x24.B]), (53, bp b26 2), (54, .int .i64 x24.B), (55, .int .i64 t27), (56, bp b26 1), (57, .int .i64 x24.T), (58, .int .i64 a0), (59, .int .i64 t29), (60, bp b26 0), (61, .int .i64 x24.What), (62, .int .i64 t31), (63, .int .i64 t31), (64, .bool (decide (t31 < 2))), (65, .int .i64 a0), (66, v34), (67, .int .i64 j67_e2), (68, .int .i64 a0), (69, .bool j69_e2)] [Own 4 ekB v34 qv34_e2, Box b26 [.int .i64 x24.What, .int .i64 x24.T, .int .i64 x24.B], Own 63 (ekI .u64) v20 qv20_e2, Box b8 [u9_Slots, u9_Objs, .int .i64 t6.NS, .int .i64 t6.NO], OwnO 77 kr_ref10_Slot u9_Slots raws10 A11 t6.Slots, OwnO 70 kr_ref10_Obj u9_Objs raws14 A15 t6.Objs, F])) (fun _ => rfl) ?_ (m := k) (x := ((0, qv20_1, xs36), ())) hl2 ?_
          · clear h hl2
            intro k x o_2 h hK2 ih2
            obtain ⟨⟨x16_2, qv20_2, qv34_2⟩, _⟩ := x
            replace h : law16_NtfnKeeps.l2 a0 (k + 1) (x16_2, qv20_2, qv34_2) = some o_2 := h
            first | rw [law16_NtfnKeeps.l2] at h | unfold law16_NtfnKeeps.l2 at h
            refine S.rd fun hr38 => ?_
            refine S.b2 ?_
            refine S.rd fun hr39 => ?_
            refine S.seq ?_
            refine S.seq ?_
            refine S.region ?_
            refine SO.v rfl (opv_move rfl) ?_
            refine SO.v rfl (opv_move rfl) ?_
            refine SO.v rfl (opv_lss rfl rfl) ?_
            refine SO.nil ?_
            rcases bool_or (decide (x16_2 < a0)) with b40 | b40
            · replace h := cond_t b40 h
              refine S.condT rfl b40 ?_
              refine S.skip ?_
              refine S.seq ?_
              refine S.block ?_
              refine S.region ?_
              refine SO.v rfl (opv_move rfl) ?_
              refine SO.v rfl (opv_move rfl) ?_
              refine SO.v rfl (opv_move rfl) ?_
              refine SO.v rfl (opv_iface Try.underlying25 rfl rfl) ?_
              refine SO.v rfl (opv_move rfl) ?_
              obtain ⟨⟨t41, s43⟩, ht42, h⟩ := opt_bind h
              refine SO.call (pre := [(plainV v20).rep _]) rfl Try.call27 rfl rfl rfl (endp_State.ct (plainV v20) _ _ _ _ ht42) trivial ?_
              rintro _ _ ⟨rfl, rfl⟩
              refine headEq (plainV_rep _ _) ?_
              refine SO.rd fun hr44 => ?_
              refine SO.v rfl (opv_eql rfl rfl) ?_
              obtain ⟨x45, hx46, h⟩ := opt_bind h
              refine SO.v rfl (opv_idx Try.underlying61 Try.sizeOf4 hr38 rfl rfl hx46) ?_
              refine SO.b1 ?_
              refine SO.storeI1 (j := 0) (z' := t41 == 5) Try.sizeOf4 hx46 rfl rfl rfl rfl rfl rfl ?_
              refine SO.rd fun hr47 => ?_
              refine SO.nil ?_
              refine S.inBlock ?_
              refine S.region ?_
              refine SO.v rfl (opv_move rfl) ?_
              refine SO.v rfl (opv_add rfl rfl) ?_
              refine SO.v rfl (opv_assign rfl) ?_
              refine SO.nil ?_
              refine S.b6 ?_
              refine S.b6 ?_
              refine S.b6 ?_
              refine S.b6 ?_
              refine S.b5 ?_
              refine S.b6 ?_
              refine S.b6 ?_
              refine S.to ?_ (ih2 ((w64 (x16_2 + 1), s43, qv34_2.set x16_2.toNat (t41 == 5)), ()) h)
              exact ⟨rfl, rfl, rfl, rfl, rfl, rfl, rfl, rfl, rfl, rfl, rfl, rfl, rfl, rfl, rfl, rfl, rfl, rfl, rfl, rfl, rfl, rfl, rfl, rfl, rfl, rfl, rfl, rfl, rfl, rfl, rfl, rfl, rfl, rfl, rfl, rfl, rfl, trivial⟩
            · replace h := cond_f b40 h
              refine S.condF rfl b40 ?_
              refine S.exit rfl ?_
              cases h
              refine S.b6 ?_
              refine S.b6 ?_
              refine S.b6 ?_
              refine S.b6 ?_
              refine S.b4 ?_
              refine S.b6 ?_
              refine S.b6 ?_
              refine S.to ?_ (hK2 ())
              exact ⟨rfl, rfl, rfl, rfl, rfl, rfl, rfl, rfl, rfl, rfl, rfl, rfl, rfl, rfl, rfl, rfl, rfl, rfl, rfl, rfl, rfl, rfl, rfl, rfl, rfl, rfl, rfl, rfl, rfl, rfl, rfl, rfl, rfl, rfl, rfl, rfl, rfl, rfl, rfl, rfl, trivial⟩
          rintro _
          refine S.rd fun hr48 => ?_
          refine S.b2 ?_
          refine S.rd fun hr49 => ?_
          refine S.seq ?_
          refine S.region ?_
          refine SO.v rfl (opv_move rfl) ?_
          refine SO.v rfl (opv_move rfl) ?_
          refine SO.v rfl (opv_or rfl rfl) ?_
          refine SO.v rfl (opv_assign rfl) ?_
          refine SO.nil ?_
          refine S.seq ?_
          refine S.seq ?_
          refine S.region ?_
          refine SO.v rfl (opv_move rfl) ?_
          refine SO.v rfl (opv_iface Try.underlying25 rfl rfl) ?_
          refine SO.v rfl (opv_move rfl) ?_
          refine SO.v rfl (opv_move rfl) ?_
          obtain ⟨⟨t50, s52⟩, ht51, h⟩ := opt_bind h
          refine SO.call (pre := [(plainV v20).rep _]) rfl Try.call23 rfl rfl rfl (ntfn_Signal.ct (plainV v20) _ _ _ _ _ ht51) trivial ?_
          rintro _ _ ⟨rfl, rfl⟩
          refine headEq (plainV_rep _ _) ?_
          refine SO.rd fun hr53 => ?_
          refine SO.v rfl (opv_neqN (e := t50) Try.underlying33 rfl) ?_
          refine SO.nil ?_
          rcases bool_or t50.isSome with b54 | b54
          · replace h := cond_t b54 h
            refine S.condT rfl b54 ?_
            refine S.seq ?_
            refine S.region ?_
            refine SO.v rfl (opv_assign rfl) ?_
            refine SO.nil ?_
            cases h
            replace h := hK1.1 _ rfl
            cases h
            refine S.b4 ?_
            refine S.closeR ?_
            refine S.b5 ?_
            refine S.closeR ?_
            refine S.drop ?_
            refine S.drop ?_
            refine S.drop ?_
            refine S.drop ?_
            refine S.drop ?_
            refine S.drop ?_
            exact S.ret1 Try.func6 rfl rfl (fun w hs hk => hR w _ _ ⟨rfl, rfl⟩ hs hk)
          · replace h := cond_f b54 h
            refine S.condF rfl b54 ?_
            refine S.skip ?_
            refine S.seq ?_
            refine S.region ?_
            refine SO.v rfl (opv_assign rfl) ?_
            refine SO.nil ?_
            obtain ⟨⟨j9_e3, j17_e3, j89_e3, j91_e3, qv20_e3⟩, hl3, h⟩ := opt_bind h
            refine S.b6 ?_
            refine S.b6 ?_
            refine S.b6 ?_
            refine S.b6 ?_
            refine S.b6 ?_
            refine S.b6 ?_
            refine S.b6 ?_
            refine S.to (ρ' := [(17, .int .i64 0), (88, .bool t50.isSome), (87, errV 59 t50), (86, .int .i64 t27), (85, .int .i64 (w64 (a0 + 4))), (84, (plainV v20).val), (83, v20), (8, .int .i64 (bor .i64 x8_1 t27)), (82, .int .i64 (bor .i64 x8_1 t27)), (81, .int .i64 t27), (80, .int .i64 x8_1), (0, .int .i64 a0), (1, v1), (4, .bool false), (5, .bool t1), (6, v20), (7, .int .i64 (w64 (a0 + 4))), (9, .int .i64 x9_1), (10, .int .i64 x10_1), (11, bp b26 0), (12, .int .i64 t27), (13, .int .i64 t29), (14, .int .i64 t31), (15, v34), (16, .int .i64 j16_e2), (43, .int .i64 x10_1), (44, v1), (45, .int .i64 (a1.length : Int)), (46, .bool (decide (x10_1 < (a1.length : Int)))), (49, v1), (50, .int .i64 x10_1), (51, idxp v1 (x10_1.toNat * ek_law16_Deed.sz)), (52, .agg #[.int .i64 x24.What, .int .i64 x24.T, .int .i64 x24.B]), (53, bp b26 2), (54, .int .i64 x24.B), (55, .int .i64 t27), (56, bp b26 1), (57, .int .i64 x24.T), (58, .int .i64 a0), (59, .int .i64 t29), (60, bp b26 0), (61, .int .i64 x24.What), (62, .int .i64 t31), (63, .int .i64 t31), (64, .bool (decide (t31 < 2))), (65, .int .i64 a0), (66, v34), (67, .int .i64 j67_e2), (68, .int .i64 a0), (69, .bool j69_e2)]) ⟨rfl, rfl, rfl, rfl, rfl, rfl, rfl, rfl, rfl, rfl, rfl, rfl, rfl, rfl, rfl, rfl, rfl, rfl, rfl, rfl, rfl, rfl, rfl, rfl, rfl, rfl, rfl, rfl, rfl, rfl, rfl, rfl, rfl, rfl, rfl, rfl, rfl, rfl, rfl, rfl, rfl, rfl, rfl, rfl, rfl, rfl, rfl, rfl, rfl, rfl, trivial⟩ ?_
            refine S.forloop (X := (Int × Int × (List Int)) × Unit) (O := (Int × Int × Int × Bool × (List Int))) (fun m x => law16_NtfnKeeps.l3 a0 qv34_e2 m x.1) (fun x => match x with | ((x17_3, x9_3, qv20_3), _) => [(17, .int .i64 x17_3), (88, .bool t50.isSome), (87, errV 59 t50), (86, .int .i64 t27), (85, .int .i64 (w64 (a0 + 4))), (84, (plainV v20).val), (83, v20), (8, .int .i64 (bor .i64 x8_1 t27)), (82, .int .i64 (bor .i64 x8_1 t27)), (81, .int .i64 t27), (80, .int .i64 x8_1), (0, .int .i64 a0), (1, v1), (4, .bool false), (5, .bool t1), (6, v20), (7, .int .i64 (w64 (a0 + 4))), (9, .int .i64 x9_3), (10, .int .i64 x10_1), (11, bp b26 0), (12, .int .i64 t27), (13, .int .i64 t29), (14, .int .i64 t31), (15, v34), (16, .int .i64 j16_e2), (43, .int .i64 x10_1), (44, v1), (45, .int .i64 (a1.length : Int)), (46, .bool (decide (x10_1 < (a1.length : Int)))), (49, v1), (50, .int .i64 x10_1), (51, idxp v1 (x10_1.toNat * ek_law16_Deed.sz)), (52, .agg #[.int .i64 x24.What, .int .i64 x24.T, .int .i64 x24.B]), (53, bp b26 2), (54, .int .i64 x24.B), (55, .int .i64 t27), (56, bp b26 1), (57, .int .i64 x24.T), (58, .int .i64 a0), (59, .int .i64 t29), (60, bp b26 0), (61, .int .i64 x24.What), (62, .int .i64 t31), (63, .int .i64 t31), (64, .bool (decide (t31 < 2))), (65, .int .i64 a0), (66, v34), (67, .int .i64 j67_e2), (68, .int .i64 a0), (69, .bool j69_e2)]) (fun x => match x with | ((x17_3, x9_3, qv20_3), _) => [Own 63 (ekI .u64) v20 qv20_3, Own 4 ekB v34 qv34_e2, Box b26 [.int .i64 x24.What, .int .i64 x24.T, .int .i64 x24.B], Box b8 [u9_Slots, u9_Objs, .int .i64 t6.NS, .int .i64 t6.NO], OwnO 77 kr_ref10_Slot u9_Slots raws10 A11 t6.Slots, OwnO 70 kr_ref10_Obj u9_Objs raws14 A15 t6.Objs, F]) (fun Sk => (fun x => match x with | (j9_e3, j17_e3, j89_e3, j91_e3, qv20_e3) => ∀ _ : Unit, Sk [(0, .int .i64 a0), (1, v1), (4, .bool false), (5, .bool t1), (6, v20), (7, .int .i64 (w64 (a0 + 4))), (8, .int .i64 (bor .i64 x8_1 t27)), (9, .int .i64 j9_e3), (10, .int .i64 x10_1), (11, bp b26 0), (12, .int .i64 t27), (13, .int .i64 t29), (14, .int .i64 t31), (15, v34), (16, .int .i64 j16_e2), (17, .int .i64 j17_e3), (43, .int .i64 x10_1), (44, v1), (45, .int .i64 (a1.length : Int)), (46, .bool (decide (x10_1 < (a1.length : Int)))), (49, v1), (50, .int .i64 x10_1), (51, idxp v1 (x10_1.toNat * ek_law16_Deed.sz)), (52, .agg #[.int .i64 x24.What, .int .i64 x24.T, .int .i64 x24.B]), (53, bp b26 2), (54, .int .i64 x24.B), (55, .int .i64 t27), (56, bp b26 1), (57, .int .i64 x24.T), (58, .int .i64 a0), (59, .int .i64 t29), (60, bp b26 0), (61, .int .i64 x24.What), (62, .int .i64 t31), (63, .int .i64 t31), (64, .bool (decide (t31 < 2))), (65, .int .i64 a0), (66, v34), (67, .int .i64 j67_e2), (68, .int .i64 a0), (69, .bool j69_e2), (80, .int .i64 x8_1), (81, .int .i64 t27), (82, .int .i64 (bor .i64 x8_1 t27)), (83, v20), (84, (plainV v20).val), (85, .int .i64 (w64 (a0 + 4))), (86, .int .i64 t27), (87, errV 59 t50), (88, .bool t50.isSome), (89, .int .i64 j89_e3), (90, .int .i64 a0), (91, .bool j91_e3)] [Own 63 (ekI .u64) v20 qv20_e3, Own 4 ekB v34 qv34_e2, Box b26 [.int .i64 x24.What, .int .i64 x24.T, .int .i64 x24.B], Box b8 [u9_Slots, u9_Objs, .int .i64 t6.NS, .int .i64 t6.NO], OwnO 77 kr_ref10_Slot u9_Slots raws10 A11 t6.Slots, OwnO 70 kr_ref10_Obj u9_Objs raws14 A15 t6.Objs, F])) (fun _ => rfl) ?_ (m := k) (x := ((0, x9_1, s52), ())) hl3 ?_
            · clear h hl3
              intro k x o_3 h hK3 ih3
              obtain ⟨⟨x17_3, x9_3, qv20_3⟩, _⟩ := x
              replace h : law16_NtfnKeeps.l3 a0 qv34_e2 (k + 1) (x17_3, x9_3, qv20_3) = some o_3 := h
              first | rw [law16_NtfnKeeps.l3] at h | unfold law16_NtfnKeeps.l3 at h
              refine S.rd fun hr55 => ?_
              refine S.seq ?_
              refine S.seq ?_
              refine S.region ?_
              refine SO.v rfl (opv_move rfl) ?_
              refine SO.v rfl (opv_move rfl) ?_
              refine SO.v rfl (opv_lss rfl rfl) ?_
              refine SO.nil ?_
              rcases bool_or (decide (x17_3 < a0)) with b56 | b56
              · replace h := cond_t b56 h
                refine S.condT rfl b56 ?_
                refine S.skip ?_
                refine S.seq ?_
                refine S.block ?_
                refine S.seq ?_
                refine S.region ?_
                refine SO.v rfl (opv_move rfl) ?_
                refine SO.v rfl (opv_move rfl) ?_
                obtain ⟨x57, hx58, h⟩ := opt_bind h
                refine SO.v rfl (opv_idx Try.underlying61 Try.sizeOf4 hr48 rfl rfl hx58) ?_
                refine SO.loadI1 (j := 0) rfl Try.isAgg4 (Rd.tail (Rd.head hr48)) hx58 rfl rfl rfl rfl ?_
                refine SO.v rfl (opv_move rfl) ?_
                obtain ⟨⟨c60, w62⟩, hc61, hgk⟩ := opt_bind h
                refine SO.cut 6 104 (.bool c60) [Own 63 (ekI .u64) v20 w62, Own 4 ekB v34 qv34_e2, Box b26 [.int .i64 x24.What, .int .i64 x24.T, .int .i64 x24.B], Box b8 [u9_Slots, u9_Objs, .int .i64 t6.NS, .int .i64 t6.NO], OwnO 77 kr_ref10_Slot u9_Slots raws10 A11 t6.Slots, OwnO 70 kr_ref10_Obj u9_Objs raws14 A15 t6.Objs, F] (fun l2 hk2 => ?_) ?_
                · clear hgk
                  replace h := hc61
                  rcases bool_or x57 with b59 | b59
                  · replace h := cond_t b59 h
                    refine SO.takeT rfl rfl rfl b59 ?_
                    refine SO.v rfl (opv_move rfl) ?_
                    refine SO.takeT rfl rfl rfl b59 ?_
                    refine SO.v rfl (opv_iface Try.underlying25 rfl rfl) ?_
                    refine SO.takeT rfl rfl rfl b59 ?_
                    refine SO.v rfl (opv_move rfl) ?_
                    refine SO.takeT rfl rfl rfl b59 ?_
                    obtain ⟨⟨t64, s66⟩, ht65, h⟩ := opt_bind h
                    refine SO.call (pre := [(plainV v20).rep _]) rfl Try.call27 rfl rfl rfl (endp_State.ct (plainV v20) _ _ _ _ ht65) trivial ?_
                    rintro _ _ ⟨rfl, rfl⟩
                    refine headEq (plainV_rep _ _) ?_
                    refine SO.rd fun hr67 => ?_
                    refine SO.takeT rfl rfl rfl b59 ?_
                    refine SO.v rfl (opv_eql rfl rfl) ?_
                    cases h
                    refine SO.v rfl (opv_pick_t' b59 rfl rfl) ?_
                    refine SO.b6 ?_
                    refine SO.b6 ?_
                    refine SO.b6 ?_
                    refine SO.b6 ?_
                    refine SO.b6 ?_
                    refine SO.b6 ?_
                    refine SO.b6 ?_
                    exact hk2.fitc (m := 6) rfl (rfl) rfl
                  · replace h := cond_f b59 h
                    refine SO.passF rfl rfl rfl b59 rfl rfl ?_
                    refine SO.passF rfl rfl rfl b59 rfl rfl ?_
                    refine SO.passF rfl rfl rfl b59 rfl rfl ?_
                    refine SO.passF rfl rfl rfl b59 rfl rfl ?_
                    refine SO.passF rfl rfl rfl b59 rfl rfl ?_
                    cases h
                    refine SO.v rfl (opv_pick_f' b59 rfl rfl) ?_
                    refine SO.b6 ?_
                    refine SO.b6 ?_
                    refine SO.b6 ?_
                    refine SO.b6 ?_
                    refine SO.b6 ?_
                    refine SO.b6 ?_
                    refine SO.b6 ?_
                    exact hk2.fitc (m := 6) rfl (rfl) rfl
                clear hc61
                replace h := hgk
                refine SO.rd fun hr63 => ?_
                refine SO.nil ?_
                rcases bool_or c60 with b68 | b68
                · replace h := cond_t b68 h
                  refine S.condT rfl b68 ?_
                  refine S.region ?_
                  refine SO.v rfl (opv_move rfl) ?_
                  refine SO.v rfl (opv_move rfl) ?_
                  refine SO.v rfl (opv_move rfl) ?_
                  refine SO.v rfl (opv_mul rfl rfl) ?_
                  refine SO.v rfl (opv_add rfl rfl) ?_
                  refine SO.v rfl (opv_add rfl rfl) ?_
                  obtain ⟨x69, hx70, h⟩ := opt_bind h
                  refine SO.v rfl (opv_idx Try.underlying25 Try.sizeOf63 hr63 rfl rfl hx70) ?_
                  refine SO.loadI1 (j := 0) rfl Try.isAgg63 (Rd.head hr63) hx70 rfl rfl rfl rfl ?_
                  refine SO.v rfl (opv_conv Try.underlying63 Try.underlying3 rfl) ?_
                  refine SO.v rfl (opv_or rfl rfl) ?_
                  refine SO.v rfl (opv_assign rfl) ?_
                  refine SO.nil ?_
                  refine S.inBlock ?_
                  refine S.region ?_
                  refine SO.v rfl (opv_move rfl) ?_
                  refine SO.v rfl (opv_add rfl rfl) ?_
                  refine SO.v rfl (opv_assign rfl) ?_
                  refine SO.nil ?_
                  refine S.b6 ?_
                  refine S.b6 ?_
                  refine S.b6 ?_
                  refine S.b6 ?_
                  refine S.b6 ?_
                  refine S.b6 ?_
                  refine S.b6 ?_
                  refine S.to ?_ (ih3 ((w64 (x17_3 + 1), bor .i64 x9_3 (w64 x69), w62), ()) h)
                  exact ⟨rfl, rfl, rfl, rfl, rfl, rfl, rfl, rfl, rfl, rfl, rfl, rfl, rfl, rfl, rfl, rfl, rfl, rfl, rfl, rfl, rfl, rfl, rfl, rfl, rfl, rfl, rfl, rfl, rfl, rfl, rfl, rfl, rfl, rfl, rfl, rfl, rfl, rfl, rfl, rfl, rfl, rfl, rfl, rfl, rfl, rfl, rfl, rfl, rfl, rfl, trivial⟩
                · replace h := cond_f b68 h
                  refine S.condF rfl b68 ?_
                  refine S.skip ?_
                  refine S.inBlock ?_
                  refine S.region ?_
                  refine SO.v rfl (opv_move rfl) ?_
                  refine SO.v rfl (opv_add rfl rfl) ?_
                  refine SO.v rfl (opv_assign rfl) ?_
                  refine SO.nil ?_
                  refine S.b6 ?_
                  refine S.b6 ?_
                  refine S.b6 ?_
                  refine S.b6 ?_
                  refine S.b6 ?_
                  refine S.b6 ?_
                  refine S.b6 ?_
                  refine S.to ?_ (ih3 ((w64 (x17_3 + 1), x9_3, w62), ()) h)
                  exact ⟨rfl, rfl, rfl, rfl, rfl, rfl, rfl, rfl, rfl, rfl, rfl, rfl, rfl, rfl, rfl, rfl, rfl, rfl, rfl, rfl, rfl, rfl, rfl, rfl, rfl, rfl, rfl, rfl, rfl, rfl, rfl, rfl, rfl, rfl, rfl, rfl, rfl, rfl, rfl, rfl, rfl, rfl, rfl, rfl, rfl, rfl, rfl, rfl, rfl, rfl, trivial⟩
              · replace h := cond_f b56 h
                refine S.condF rfl b56 ?_
                refine S.exit rfl ?_
                cases h
                refine S.b6 ?_
                refine S.b6 ?_
                refine S.b6 ?_
                refine S.b6 ?_
                refine S.b6 ?_
                refine S.b6 ?_
                refine S.b6 ?_
                refine S.to ?_ (hK3 ())
                exact ⟨rfl, rfl, rfl, rfl, rfl, rfl, rfl, rfl, rfl, rfl, rfl, rfl, rfl, rfl, rfl, rfl, rfl, rfl, rfl, rfl, rfl, rfl, rfl, rfl, rfl, rfl, rfl, rfl, rfl, rfl, rfl, rfl, rfl, rfl, rfl, rfl, rfl, rfl, rfl, rfl, rfl, rfl, rfl, rfl, rfl, rfl, rfl, rfl, rfl, rfl, rfl, rfl, rfl, trivial⟩
            rintro _
            refine S.rd fun hr71 => ?_
            refine S.inBlock ?_
            refine S.region ?_
            refine SO.v rfl (opv_move rfl) ?_
            refine SO.v rfl (opv_add rfl rfl) ?_
            refine SO.v rfl (opv_assign rfl) ?_
            refine SO.nil ?_
            refine S.b1 ?_
            refine S.drop ?_
            refine S.b1 ?_
            refine S.drop ?_
            refine S.b4 ?_
            refine S.b4 ?_
            refine S.b4 ?_
            refine S.b4 ?_
            refine S.b4 ?_
            refine S.to ?_ (ih1 ((w64 (x10_1 + 1), j9_e3, bor .i64 x8_1 t27, qv20_e3), ()) h)
            exact ⟨rfl, rfl, rfl, rfl, rfl, rfl, rfl, rfl, rfl, trivial⟩
        · replace h := cond_f b33 h
          refine S.condF rfl b33 ?_
          refine S.seq ?_
          refine S.region ?_
          refine SO.v rfl (opv_move rfl) ?_
          refine SO.v rfl (opv_eql rfl rfl) ?_
          refine SO.v rfl (opv_move rfl) ?_
          obtain ⟨⟨c73, w75⟩, hc74, hgk⟩ := opt_bind h
          refine SO.cut 6 123 (.bool c73) [Box b26 [.int .i64 x24.What, .int .i64 x24.T, .int .i64 x24.B], Own 63 (ekI .u64) v20 w75, Box b8 [u9_Slots, u9_Objs, .int .i64 t6.NS, .int .i64 t6.NO], OwnO 77 kr_ref10_Slot u9_Slots raws10 A11 t6.Slots, OwnO 70 kr_ref10_Obj u9_Objs raws14 A15 t6.Objs, F] (fun l2 hk2 => ?_) ?_
          · clear hgk
            replace h := hc74
            rcases bool_or (t31 == 2) with b72 | b72
            · replace h := cond_t b72 h
              refine SO.takeT rfl rfl rfl b72 ?_
              refine SO.v rfl (opv_move rfl) ?_
              refine SO.takeT rfl rfl rfl b72 ?_
              refine SO.v rfl (opv_iface Try.underlying25 rfl rfl) ?_
              refine SO.takeT rfl rfl rfl b72 ?_
              refine SO.v rfl (opv_move rfl) ?_
              refine SO.takeT rfl rfl rfl b72 ?_
              obtain ⟨⟨t77, s79⟩, ht78, h⟩ := opt_bind h
              refine SO.b1 ?_
              refine SO.call (pre := [(plainV v20).rep _]) rfl Try.call27 rfl rfl rfl (endp_State.ct (plainV v20) _ _ _ _ ht78) trivial ?_
              rintro _ _ ⟨rfl, rfl⟩
              refine headEq (plainV_rep _ _) ?_
              refine SO.rd fun hr80 => ?_
              refine SO.takeT rfl rfl rfl b72 ?_
              refine SO.v rfl (opv_eql rfl rfl) ?_
              cases h
              refine SO.v rfl (opv_pick_t' b72 rfl rfl) ?_
              refine SO.b5 ?_
              refine SO.b5 ?_
              refine SO.b5 ?_
              refine SO.b5 ?_
              refine SO.b4 ?_
              refine SO.b5 ?_
              exact hk2.fitc (m := 6) rfl (rfl) rfl
            · replace h := cond_f b72 h
              refine SO.passF rfl rfl rfl b72 rfl rfl ?_
              refine SO.passF rfl rfl rfl b72 rfl rfl ?_
              refine SO.passF rfl rfl rfl b72 rfl rfl ?_
              refine SO.passF rfl rfl rfl b72 rfl rfl ?_
              refine SO.passF rfl rfl rfl b72 rfl rfl ?_
              cases h
              refine SO.v rfl (opv_pick_f' b72 rfl rfl) ?_
              refine SO.b5 ?_
              refine SO.b5 ?_
              refine SO.b5 ?_
              refine SO.b5 ?_
              refine SO.b5 ?_
              refine SO.b5 ?_
              exact hk2.fitc (m := 6) rfl (rfl) rfl
          clear hc74
          replace h := hgk
          refine SO.b1 ?_
          refine SO.rd fun hr76 => ?_
          refine SO.nil ?_
          rcases bool_or c73 with b81 | b81
          · replace h := cond_t b81 h
            refine S.condT rfl b81 ?_
            refine S.seq ?_
            refine S.region ?_
            refine SO.v rfl (opv_move rfl) ?_
            refine SO.v rfl (opv_iface Try.underlying25 rfl rfl) ?_
            refine SO.v rfl (opv_move rfl) ?_
            refine SO.v rfl (opv_move rfl) ?_
            obtain ⟨⟨⟨t82, t83, t84⟩, s86⟩, ht85, h⟩ := opt_bind h
            refine SO.call (pre := [(plainV v20).rep _]) rfl Try.call18 rfl rfl rfl (ntfn_Wait.ct (plainV v20) _ _ _ _ _ _ _ ht85) trivial ?_
            rintro _ _ ⟨rfl, rfl⟩
            refine headEq (plainV_rep _ _) ?_
            refine SO.rd fun hr87 => ?_
            refine SO.v rfl (opv_move rfl) ?_
            refine SO.v rfl (opv_extract rfl rfl) ?_
            refine SO.v rfl (opv_extract rfl rfl) ?_
            refine SO.v rfl (opv_extract rfl rfl) ?_
            refine SO.alloc rfl Try.zeroValue45 rfl (fun b88 => ?_)
            refine SO.storeN Try.sizeOf45 rfl rfl rfl rfl rfl rfl ?_
            refine SO.v rfl (opv_assign rfl) ?_
            refine SO.v rfl (opv_assign rfl) ?_
            refine SO.nil ?_
            refine S.seq ?_
            refine S.seq ?_
            refine S.region ?_
            refine SO.v rfl (opv_move rfl) ?_
            refine SO.v rfl (opv_neqN (e := t84) Try.underlying33 rfl) ?_
            refine SO.v rfl (opv_move rfl) ?_
            refine SO.cut 7 142 (.bool (t84.isSome || (t83 && (t82.Word == 0)))) [Box b88 [.int .i64 t82.Code, .int .i64 t82.Word, .int .i64 t82.Badge], Own 63 (ekI .u64) v20 s86, Box b26 [.int .i64 x24.What, .int .i64 x24.T, .int .i64 x24.B], Box b8 [u9_Slots, u9_Objs, .int .i64 t6.NS, .int .i64 t6.NO], OwnO 77 kr_ref10_Slot u9_Slots raws10 A11 t6.Slots, OwnO 70 kr_ref10_Obj u9_Objs raws14 A15 t6.Objs, F] (fun l2 hk2 => ?_) ?_
            · rcases bool_or t84.isSome with b89 | b89
              · refine SO.passF rfl rfl rfl b89 rfl rfl ?_
                refine SO.passF rfl rfl rfl b89 rfl rfl ?_
                refine SO.pass_undef rfl rfl rfl rfl ?_
                refine SO.pass_undef rfl rfl rfl rfl ?_
                refine SO.pass_undef rfl rfl rfl rfl ?_
                refine SO.passF rfl rfl rfl b89 rfl rfl ?_
                refine SO.v rfl (opv_pick_t' b89 rfl rfl) ?_
                refine SO.b6 ?_
                refine SO.b6 ?_
                refine SO.b6 ?_
                refine SO.b6 ?_
                refine SO.b6 ?_
                refine SO.b6 ?_
                refine SO.b6 ?_
                exact hk2.fitc (m := 7) rfl (or_t b89) rfl
              · refine SO.takeT rfl rfl rfl b89 ?_
                refine SO.v rfl (opv_move rfl) ?_
                refine SO.takeT rfl rfl rfl b89 ?_
                refine SO.v rfl (opv_move rfl) ?_
                refine SO.cut 4 141 (.bool (t83 && (t82.Word == 0))) [Box b88 [.int .i64 t82.Code, .int .i64 t82.Word, .int .i64 t82.Badge], Own 63 (ekI .u64) v20 s86, Box b26 [.int .i64 x24.What, .int .i64 x24.T, .int .i64 x24.B], Box b8 [u9_Slots, u9_Objs, .int .i64 t6.NS, .int .i64 t6.NO], OwnO 77 kr_ref10_Slot u9_Slots raws10 A11 t6.Slots, OwnO 70 kr_ref10_Obj u9_Objs raws14 A15 t6.Objs, F] (fun l2 hk2 => ?_) ?_
                · rcases bool_or t83 with b90 | b90
                  · refine SO.takeT rfl rfl rfl b90 ?_
                    refine SO.v rfl (opv_fieldAddr Try.underlying45 rfl Try.sizeOf3 rfl rfl) ?_
                    refine SO.takeT rfl rfl rfl b90 ?_
                    refine SO.load1 rfl Try.isAgg3 rfl rfl ?_
                    refine SO.takeT rfl rfl rfl b90 ?_
                    refine SO.v rfl (opv_eql rfl rfl) ?_
                    refine SO.takeT rfl rfl rfl b89 ?_
                    refine SO.v rfl (opv_pick_t' b90 rfl rfl) ?_
                    refine SO.b6 ?_
                    refine SO.b6 ?_
                    refine SO.b6 ?_
                    refine SO.b6 ?_
                    refine SO.b6 ?_
                    refine SO.b6 ?_
                    refine SO.b6 ?_
                    exact hk2.fitc (m := 4) rfl (and_t b90) rfl
                  · refine SO.passF rfl rfl rfl b90 rfl rfl ?_
                    refine SO.passF rfl rfl rfl b90 rfl rfl ?_
                    refine SO.passF rfl rfl rfl b90 rfl rfl ?_
                    refine SO.takeT rfl rfl rfl b89 ?_
                    refine SO.v rfl (opv_pick_f' b90 rfl rfl) ?_
                    refine SO.b6 ?_
                    refine SO.b6 ?_
                    refine SO.b6 ?_
                    refine SO.b6 ?_
                    refine SO.b6 ?_
                    refine SO.b6 ?_
                    refine SO.b6 ?_
                    exact hk2.fitc (m := 4) rfl (and_f b90) rfl
                refine SO.v rfl (opv_pick_f' b89 rfl rfl) ?_
                refine SO.b6 ?_
                refine SO.b6 ?_
                refine SO.b6 ?_
                refine SO.b6 ?_
                refine SO.b6 ?_
                refine SO.b6 ?_
                refine SO.b6 ?_
                exact hk2.fitc (m := 4) rfl (or_f b89) rfl
            refine SO.v rfl (opv_move rfl) ?_
            obtain ⟨⟨c92, w94⟩, hc93, hgk⟩ := opt_bind h
            refine SO.cut 8 151 (.bool c92) [Box b88 [.int .i64 t82.Code, .int .i64 t82.Word, .int .i64 t82.Badge], Own 63 (ekI .u64) v20 w94, Box b26 [.int .i64 x24.What, .int .i64 x24.T, .int .i64 x24.B], Box b8 [u9_Slots, u9_Objs, .int .i64 t6.NS, .int .i64 t6.NO], OwnO 77 kr_ref10_Slot u9_Slots raws10 A11 t6.Slots, OwnO 70 kr_ref10_Obj u9_Objs raws14 A15 t6.Objs, F] (fun l2 hk2 => ?_) ?_
            · clear hgk
              replace h := hc93
              rcases bool_or (t84.isSome || (t83 && (t82.Word == 0))) with b91 | b91
              · replace h := cond_t b91 h
                refine SO.passF rfl rfl rfl b91 rfl rfl ?_
                refine SO.passF rfl rfl rfl b91 rfl rfl ?_
                refine SO.passF rfl rfl rfl b91 rfl rfl ?_
                refine SO.passF rfl rfl rfl b91 rfl rfl ?_
                refine SO.passF rfl rfl rfl b91 rfl rfl ?_
                refine SO.passF rfl rfl rfl b91 rfl rfl ?_
                refine SO.passF rfl rfl rfl b91 rfl rfl ?_
                cases h
                refine SO.v rfl (opv_pick_t' b91 rfl rfl) ?_
                refine SO.b6 ?_
                refine SO.b6 ?_
                refine SO.b6 ?_
                refine SO.b6 ?_
                refine SO.b6 ?_
                refine SO.b6 ?_
                refine SO.b6 ?_
                exact hk2.fitc (m := 8) rfl (rfl) rfl
              · replace h := cond_f b91 h
                refine SO.takeT rfl rfl rfl b91 ?_
                refine SO.v rfl (opv_move rfl) ?_
                refine SO.takeT rfl rfl rfl b91 ?_
                refine SO.v rfl (opv_move rfl) ?_
                refine SO.takeT rfl rfl rfl b91 ?_
                refine SO.v rfl (opv_iface Try.underlying25 rfl rfl) ?_
                refine SO.takeT rfl rfl rfl b91 ?_
                refine SO.v rfl (opv_move rfl) ?_
                refine SO.takeT rfl rfl rfl b91 ?_
                obtain ⟨⟨t96, s98⟩, ht97, h⟩ := opt_bind h
                refine SO.b1 ?_
                refine SO.call (pre := [(plainV v20).rep _]) rfl Try.call27 rfl rfl rfl (endp_State.ct (plainV v20) _ _ _ _ ht97) trivial ?_
                rintro _ _ ⟨rfl, rfl⟩
                refine headEq (plainV_rep _ _) ?_
                refine SO.rd fun hr99 => ?_
                refine SO.takeT rfl rfl rfl b91 ?_
                refine SO.v rfl (opv_eql rfl rfl) ?_
                refine SO.takeT rfl rfl rfl b91 ?_
                refine SO.v rfl (opv_neqB Try.underlying4 rfl rfl) ?_
                cases h
                refine SO.v rfl (opv_pick_f' b91 rfl rfl) ?_
                refine SO.b6 ?_
                refine SO.b6 ?_
                refine SO.b6 ?_
                refine SO.b6 ?_
                refine SO.b6 ?_
                refine SO.b5 ?_
                refine SO.b6 ?_
                exact hk2.fitc (m := 8) rfl (rfl) rfl
            clear hc93
            replace h := hgk
            refine SO.b1 ?_
            refine SO.rd fun hr95 => ?_
            refine SO.nil ?_
            rcases bool_or c92 with b100 | b100
            · replace h := cond_t b100 h
              refine S.condT rfl b100 ?_
              refine S.seq ?_
              refine S.region ?_
              refine SO.v rfl (opv_assign rfl) ?_
              refine SO.nil ?_
              cases h
              replace h := hK1.1 _ rfl
              cases h
              refine S.b4 ?_
              refine S.closeR ?_
              refine S.b5 ?_
              refine S.closeR ?_
              refine S.drop ?_
              refine S.drop ?_
              refine S.drop ?_
              refine S.drop ?_
              refine S.drop ?_
              refine S.drop ?_
              exact S.ret1 Try.func6 rfl rfl (fun w hs hk => hR w _ _ ⟨rfl, rfl⟩ hs hk)
            · replace h := cond_f b100 h
              refine S.condF rfl b100 ?_
              refine S.skip ?_
              refine S.region ?_
              refine SO.v rfl (opv_move rfl) ?_
              refine SO.v rfl (opv_fieldAddr Try.underlying45 rfl Try.sizeOf3 rfl rfl) ?_
              refine SO.b1 ?_
              refine SO.load1 rfl Try.isAgg3 rfl rfl ?_
              refine SO.v rfl (opv_or rfl rfl) ?_
              refine SO.v rfl (opv_assign rfl) ?_
              refine SO.nil ?_
              refine S.inBlock ?_
              refine S.region ?_
              refine SO.v rfl (opv_move rfl) ?_
              refine SO.v rfl (opv_add rfl rfl) ?_
              refine SO.v rfl (opv_assign rfl) ?_
              refine SO.nil ?_
              refine S.drop ?_
              refine S.b1 ?_
              refine S.drop ?_
              refine S.b4 ?_
              refine S.b4 ?_
              refine S.b4 ?_
              refine S.b4 ?_
              refine S.b4 ?_
              refine S.to ?_ (ih1 ((w64 (x10_1 + 1), bor .i64 x9_1 t82.Word, x8_1, w94), ()) h)
              exact ⟨rfl, rfl, rfl, rfl, rfl, rfl, rfl, rfl, rfl, trivial⟩
          · replace h := cond_f b81 h
            refine S.condF rfl b81 ?_
            refine S.seq ?_
            refine S.region ?_
            refine SO.v rfl (opv_move rfl) ?_
            refine SO.v rfl (opv_eql rfl rfl) ?_
            refine SO.nil ?_
            rcases bool_or (t31 == 3) with b101 | b101
            · replace h := cond_t b101 h
              refine S.condT rfl b101 ?_
              refine S.seq ?_
              refine S.region ?_
              refine SO.v rfl (opv_move rfl) ?_
              refine SO.v rfl (opv_iface Try.underlying25 rfl rfl) ?_
              refine SO.v rfl (opv_move rfl) ?_
              obtain ⟨⟨⟨t102, t103⟩, s105⟩, ht104, h⟩ := opt_bind h
              refine SO.call (pre := [(plainV v20).rep _]) rfl Try.call25 rfl rfl rfl (ntfn_Poll.ct (plainV v20) _ _ _ _ _ ht104) trivial ?_
              rintro _ _ ⟨rfl, rfl⟩
              refine headEq (plainV_rep _ _) ?_
              refine SO.rd fun hr106 => ?_
              refine SO.v rfl (opv_move rfl) ?_
              refine SO.v rfl (opv_extract rfl rfl) ?_
              refine SO.v rfl (opv_extract rfl rfl) ?_
              refine SO.alloc rfl Try.zeroValue45 rfl (fun b107 => ?_)
              refine SO.storeN Try.sizeOf45 rfl rfl rfl rfl rfl rfl ?_
              refine SO.v rfl (opv_assign rfl) ?_
              refine SO.nil ?_
              refine S.region ?_
              refine SO.v rfl (opv_move rfl) ?_
              refine SO.v rfl (opv_fieldAddr Try.underlying45 rfl Try.sizeOf3 rfl rfl) ?_
              refine SO.load1 rfl Try.isAgg3 rfl rfl ?_
              refine SO.v rfl (opv_or rfl rfl) ?_
              refine SO.v rfl (opv_assign rfl) ?_
              refine SO.nil ?_
              refine S.inBlock ?_
              refine S.region ?_
              refine SO.v rfl (opv_move rfl) ?_
              refine SO.v rfl (opv_add rfl rfl) ?_
              refine SO.v rfl (opv_assign rfl) ?_
              refine SO.nil ?_
              refine S.drop ?_
              refine S.b1 ?_
              refine S.drop ?_
              refine S.b4 ?_
              refine S.b4 ?_
              refine S.b4 ?_
              refine S.b4 ?_
              refine S.b4 ?_
              refine S.to ?_ (ih1 ((w64 (x10_1 + 1), bor .i64 x9_1 t102.Word, x8_1, s105), ()) h)
              exact ⟨rfl, rfl, rfl, rfl, rfl, rfl, rfl, rfl, rfl, trivial⟩
            · replace h := cond_f b101 h
              refine S.condF rfl b101 ?_
              refine S.skip ?_
              refine S.inBlock ?_
              refine S.region ?_
              refine SO.v rfl (opv_move rfl) ?_
              refine SO.v rfl (opv_add rfl rfl) ?_
              refine SO.v rfl (opv_assign rfl) ?_
              refine SO.nil ?_
              refine S.b1 ?_
              refine S.drop ?_
              refine S.b4 ?_
              refine S.b4 ?_
              refine S.b4 ?_
              refine S.b4 ?_
              refine S.b4 ?_
              refine S.to ?_ (ih1 ((w64 (x10_1 + 1), x9_1, x8_1, w75), ()) h)
              exact ⟨rfl, rfl, rfl, rfl, rfl, rfl, rfl, rfl, rfl, trivial⟩
      · replace h := cond_f b23 h
        refine S.condF rfl b23 ?_
        refine S.exit rfl ?_
        cases h
        refine S.b4 ?_
        refine S.b4 ?_
        refine S.b4 ?_
        refine S.b4 ?_
        refine S.b4 ?_
        refine S.to ?_ (hK1.2 (x8_1, x9_1, qv20_1) () rfl)
        exact ⟨rfl, rfl, rfl, rfl, rfl, rfl, trivial⟩
    refine ⟨fun r' e' => ?_, ?_⟩
    · subst e'
      have h9 := Brk.of_ret h
      exact h9
    rintro ⟨j8_e1, j9_e1, qv20_e1⟩ _ e'
    subst e'
    replace h := Brk.of_nx h
    refine S.rd fun hr108 => ?_
    refine S.seq ?_
    refine S.region ?_
    refine SO.v rfl (opv_move rfl) ?_
    refine SO.v rfl (opv_iface Try.underlying25 rfl rfl) ?_
    refine SO.v rfl (opv_move rfl) ?_
    obtain ⟨⟨⟨t109, t110⟩, s112⟩, ht111, h⟩ := opt_bind h
    refine SO.call (pre := [(plainV v20).rep _]) rfl Try.call25 rfl rfl rfl (ntfn_Poll.ct (plainV v20) _ _ _ _ _ ht111) trivial ?_
    rintro _ _ ⟨rfl, rfl⟩
    refine headEq (plainV_rep _ _) ?_
    refine SO.rd fun hr113 => ?_
    refine SO.v rfl (opv_move rfl) ?_
    refine SO.v rfl (opv_extract rfl rfl) ?_
    refine SO.v rfl (opv_extract rfl rfl) ?_
    refine SO.alloc rfl Try.zeroValue45 rfl (fun b114 => ?_)
    refine SO.storeN Try.sizeOf45 rfl rfl rfl rfl rfl rfl ?_
    refine SO.v rfl (opv_assign rfl) ?_
    refine SO.nil ?_
    refine S.to (ρ' := [(4, .bool false), (5, .bool t1), (8, .int .i64 j8_e1), (9, .int .i64 j9_e1), (23, bp b114 0), (24, errV 59 t110)]) ⟨rfl, rfl, rfl, rfl, rfl, rfl, trivial⟩ ?_
    refine S.seq ?_
    refine S.region ?_
    refine SO.v rfl (opv_move rfl) ?_
    refine SO.v rfl (opv_fieldAddr Try.underlying45 rfl Try.sizeOf3 rfl rfl) ?_
    refine SO.load1 rfl Try.isAgg3 rfl rfl ?_
    refine SO.v rfl (opv_or rfl rfl) ?_
    refine SO.v rfl (opv_assign rfl) ?_
    refine SO.nil ?_
    refine S.seq ?_
    refine S.region ?_
    refine SO.v rfl (opv_move rfl) ?_
    refine SO.v rfl (opv_move rfl) ?_
    refine SO.cut 3 184 (.bool (t1 && t110.isNone)) [Box b114 [.int .i64 t109.Code, .int .i64 t109.Word, .int .i64 t109.Badge], Own 63 (ekI .u64) v20 s112, Box b8 [u9_Slots, u9_Objs, .int .i64 t6.NS, .int .i64 t6.NO], OwnO 77 kr_ref10_Slot u9_Slots raws10 A11 t6.Slots, OwnO 70 kr_ref10_Obj u9_Objs raws14 A15 t6.Objs, F] (fun l2 hk2 => ?_) ?_
    · rcases bool_or t1 with b115 | b115
      · refine SO.takeT rfl rfl rfl b115 ?_
        refine SO.v rfl (opv_move rfl) ?_
        refine SO.takeT rfl rfl rfl b115 ?_
        refine SO.v rfl (opv_eqlN (e := t110) Try.underlying33 rfl) ?_
        refine SO.v rfl (opv_pick_t' b115 rfl rfl) ?_
        refine SO.b5 ?_
        refine SO.b5 ?_
        refine SO.b5 ?_
        refine SO.b5 ?_
        refine SO.b5 ?_
        refine SO.b5 ?_
        exact hk2.fitc (m := 3) rfl (and_t b115) rfl
      · refine SO.passF rfl rfl rfl b115 rfl rfl ?_
        refine SO.passF rfl rfl rfl b115 rfl rfl ?_
        refine SO.v rfl (opv_pick_f' b115 rfl rfl) ?_
        refine SO.b5 ?_
        refine SO.b5 ?_
        refine SO.b5 ?_
        refine SO.b5 ?_
        refine SO.b5 ?_
        refine SO.b5 ?_
        exact hk2.fitc (m := 3) rfl (and_f b115) rfl
    refine SO.v rfl (opv_move rfl) ?_
    refine SO.cut 4 189 (.bool ((t1 && t110.isNone) && (j8_e1 == (bor .i64 j9_e1 t109.Word)))) [Box b114 [.int .i64 t109.Code, .int .i64 t109.Word, .int .i64 t109.Badge], Own 63 (ekI .u64) v20 s112, Box b8 [u9_Slots, u9_Objs, .int .i64 t6.NS, .int .i64 t6.NO], OwnO 77 kr_ref10_Slot u9_Slots raws10 A11 t6.Slots, OwnO 70 kr_ref10_Obj u9_Objs raws14 A15 t6.Objs, F] (fun l2 hk2 => ?_) ?_
    · rcases bool_or (t1 && t110.isNone) with b116 | b116
      · refine SO.takeT rfl rfl rfl b116 ?_
        refine SO.v rfl (opv_move rfl) ?_
        refine SO.takeT rfl rfl rfl b116 ?_
        refine SO.v rfl (opv_move rfl) ?_
        refine SO.takeT rfl rfl rfl b116 ?_
        refine SO.v rfl (opv_eql rfl rfl) ?_
        refine SO.v rfl (opv_pick_t' b116 rfl rfl) ?_
        refine SO.b5 ?_
        refine SO.b5 ?_
        refine SO.b5 ?_
        refine SO.b5 ?_
        refine SO.b5 ?_
        refine SO.b5 ?_
        exact hk2.fitc (m := 4) rfl (and_t b116) rfl
      · refine SO.passF rfl rfl rfl b116 rfl rfl ?_
        refine SO.passF rfl rfl rfl b116 rfl rfl ?_
        refine SO.passF rfl rfl rfl b116 rfl rfl ?_
        refine SO.v rfl (opv_pick_f' b116 rfl rfl) ?_
        refine SO.b5 ?_
        refine SO.b5 ?_
        refine SO.b5 ?_
        refine SO.b5 ?_
        refine SO.b5 ?_
        refine SO.b5 ?_
        exact hk2.fitc (m := 4) rfl (and_f b116) rfl
    refine SO.v rfl (opv_assign rfl) ?_
    refine SO.nil ?_
    refine S.to (ρ' := [(4, .bool ((t1 && t110.isNone) && (j8_e1 == (bor .i64 j9_e1 t109.Word))))]) ⟨rfl, trivial⟩ ?_
    cases h
    refine S.b3 ?_
    refine S.closeR ?_
    refine S.b4 ?_
    refine S.closeR ?_
    refine S.drop ?_
    refine S.drop ?_
    refine S.drop ?_
    refine S.drop ?_
    refine S.drop ?_
    exact S.ret1 Try.func6 rfl rfl (fun w hs hk => hR w _ _ ⟨rfl, rfl⟩ hs hk)
end Go.Proofs
