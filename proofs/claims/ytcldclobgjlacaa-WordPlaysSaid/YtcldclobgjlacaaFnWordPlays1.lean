/- What the functions that WordPlays reaches come to, and that they do. On no condition. -/
import Derived.Test.YtcldclobgjlacaaFnWordPlays0
set_option linter.all false
namespace Go.Proofs
open Go.Sl Go.RowKit
/-! 4 padstone/padstonelaw01.WordPlays -/
def law01_WordPlays.l1 (a0 : Int) (a2 : List law01_Deed) : Nat → (Int × (List api_Cell) × Int × (List api_Cell) × Int) → Option (Brk Bool ((List api_Cell) × Int × (List api_Cell) × Int))
  | 0, _ => none
  | k + 1, (x11_1, y22_0_1, y22_1_1, y6_0_1, y6_1_1) => bif decide (x11_1 < (a2.length : Int)) then ((at_ a2 x11_1).bind fun x26 => (bif (x26.Now && (decide (0 ≤ x26.I))) && (decide (x26.I < a0)) then ((at_ y22_0_1 x26.I).bind fun x32 => (at_ y22_0_1 x26.I).bind fun x34 => bif x34.Mark != 0 then ((at_ y22_0_1 x26.I).bind fun x37 => some (x32.Version, x37.Mark)) else (some (x32.Version, x26.Mark))) else (some (x26.Version, x26.Mark))).bind fun (y28_2_2, y28_3_2) => (law01_pick.f x26.What 5).bind fun t39 => (bif t39 == 0 then ((word_Store_Read.f (⟨y6_0_1, y6_1_1⟩ : word_Store) x26.I).bind fun (t42, t43) => bif (decide (x26.I < 0)) || (decide (a0 ≤ x26.I)) then (some ((2, t43, y22_0_1, y22_1_1, y6_0_1, y6_1_1) : (Int × (Option Int) × (List api_Cell) × Int × (List api_Cell) × Int))) else (some ((0, t43, y22_0_1, y22_1_1, y6_0_1, y6_1_1) : (Int × (Option Int) × (List api_Cell) × Int × (List api_Cell) × Int)))) else (bif t39 == 1 then ((word_Store_Reserve.f (⟨y6_0_1, y6_1_1⟩ : word_Store) x26.I y28_2_2 y28_3_2).bind fun (t49, p50) => (ref01_Store_Reserve.f (⟨y22_0_1, y22_1_1⟩ : ref01_Store) x26.I y28_2_2 y28_3_2).bind fun (t54, p55) => some (t54, t49, p55.L, p55.Limit, p50.l, p50.limit)) else (bif t39 == 2 then ((word_Store_Release.f (⟨y6_0_1, y6_1_1⟩ : word_Store) x26.I y28_3_2).bind fun (t62, p63) => (ref01_Store_Release.f (⟨y22_0_1, y22_1_1⟩ : ref01_Store) x26.I y28_3_2).bind fun (t67, p68) => some (t67, t62, p68.L, p68.Limit, p63.l, p63.limit)) else (bif t39 == 3 then ((word_Store_Put.f (⟨y6_0_1, y6_1_1⟩ : word_Store) x26.I y28_3_2 x26.Value).bind fun (t75, p76) => (ref01_Store_Put.f (⟨y22_0_1, y22_1_1⟩ : ref01_Store) x26.I y28_3_2 x26.Value).bind fun (t80, p81) => some (t80, t75, p81.L, p81.Limit, p76.l, p76.limit)) else ((word_Store_Set.f (⟨y6_0_1, y6_1_1⟩ : word_Store) x26.I x26.Value).bind fun (t87, p88) => (ref01_Store_Set.f (⟨y22_0_1, y22_1_1⟩ : ref01_Store) x26.I x26.Value).bind fun (t92, p93) => some (t92, t87, p93.L, p93.Limit, p88.l, p88.limit)))))).bind fun (j13_3, j14_3, y22_0_3, y22_1_3, y6_0_3, y6_1_3) => (law00_Code.f k j14_3).bind fun t101 => bif t101 != j13_3 then (some (Brk.ret false)) else (bif (decide (0 ≤ x26.I)) && (decide (x26.I < a0)) then ((word_Store_Read.f (⟨y6_0_3, y6_1_3⟩ : word_Store) x26.I).bind fun (t106, t107) => (bif t107.isSome then (some true) else ((at_ y22_0_3 x26.I).bind fun x111 => some (!decide (t106 = x111)))).bind fun j240_4 => bif j240_4 then (some (Brk.ret false)) else (law01_WordPlays.l1 a0 a2 k (w64 (x11_1 + 1), y22_0_3, y22_1_3, y6_0_3, y6_1_3))) else (law01_WordPlays.l1 a0 a2 k (w64 (x11_1 + 1), y22_0_3, y22_1_3, y6_0_3, y6_1_3)))) else (some (Brk.nx (y22_0_1, y22_1_1, y6_0_1, y6_1_1)))
def law01_WordPlays.l5 (a0 : Int) (y22_0_e1 : List api_Cell) (t117 : List Int) : Nat → Int → Option (Brk Bool Unit)
  | 0, _ => none
  | k + 1, x18_5 => bif decide (x18_5 < a0) then ((at_ t117 x18_5).bind fun x135 => (at_ y22_0_e1 x18_5).bind fun x137 => bif x135 != x137.Value then (some (Brk.ret false)) else (law01_WordPlays.l5 a0 y22_0_e1 t117 k (w64 (x18_5 + 1)))) else (some (Brk.nx ()))
def law01_WordPlays.f (k : Nat) (a0 : Int) (a1 : Int) (a2 : List law01_Deed) : Option (Bool) :=
  (law01_up.f ).bind fun t1 => (word_New.f a0 a1).bind fun (t3, t4) => oE t3 (bif ((decide (a0 < 1)) || (decide (1024 < a0))) || (a1 == 0) then (some ((t1 && true) && (t4 == some 1))) else (some ((t1 && false) && t4.isNone))) (fun t3p => bif ((decide (a0 < 1)) || (decide (1024 < a0))) || (a1 == 0) then (some ((t1 && false) && (t4 == some 1))) else (bif t4.isSome || (decide (120 < (a2.length : Int))) then (some ((t1 && true) && t4.isNone)) else ((mk_ (⟨0, 0, 0⟩ : api_Cell) a0).bind fun xs20 => (law01_WordPlays.l1 a0 a2 k (0, xs20, a1, t3p.l, t3p.limit)).bind fun o1 => Brk.go o1 (fun r => some r) (fun (y22_0_e1, y22_1_e1, y6_0_e1, y6_1_e1) => (word_Store_Values.f k (⟨y6_0_e1, y6_1_e1⟩ : word_Store)).bind fun t117 => (bif (t117.length : Int) != a0 then (some true) else ((word_Store_Len.f (⟨y6_0_e1, y6_1_e1⟩ : word_Store)).bind fun t124 => some (t124 != a0))).bind fun c122 => (bif c122 then (some true) else ((word_Store_Limit.f (⟨y6_0_e1, y6_1_e1⟩ : word_Store)).bind fun t130 => some (t130 != a1))).bind fun c128 => bif c128 then (some false) else ((law01_WordPlays.l5 a0 y22_0_e1 t117 k 0).bind fun o5 => Brk.go o5 (fun r => some r) (fun _ => some t1))))))
set_option maxHeartbeats 8000000 in
set_option maxRecDepth 100000 in
theorem law01_WordPlays.ct (k : Nat) (v2 : Value) (a0 : Int) (a1 : Int) (a2 : List law01_Deed) (r0 : Bool) (h : law01_WordPlays.f k a0 a1 a2 = some r0) :
    Ct Try.prog 4 [.int .i64 a0, .int .u32 a1, v2] (fun F => Rd ek_law01_Deed v2 a2 F) [] (fun u H' => u = .bool r0 ∧ H' = []) := by
  unfold law01_WordPlays.f at h
  refine Ct.intro (n := 278) Try.func4 rfl rfl rfl ?_
  intro R w0 F hF hR
  have hF2 := hF
  refine S.seq ?_
  refine S.region ?_
  refine SO.v rfl (opv_assign rfl) ?_
  refine SO.nil ?_
  refine S.seq ?_
  refine S.region ?_
  obtain ⟨t1, ht2, h⟩ := opt_bind h
  refine SO.call (pre := []) rfl Try.call5 rfl rfl rfl (law01_up.ct _ ht2) trivial ?_
  rintro _ _ ⟨rfl, rfl⟩
  refine SO.v rfl (opv_assign rfl) ?_
  refine SO.nil ?_
  refine S.seq ?_
  refine S.region ?_
  refine SO.v rfl (opv_move rfl) ?_
  refine SO.v rfl (opv_move rfl) ?_
  obtain ⟨⟨t3, t4⟩, ht5, h⟩ := opt_bind h
  rcases t3 with _ | t3p
  · replace h := oE_n h
    refine SO.call (pre := []) rfl Try.call6 rfl rfl rfl (word_New.ct _ _ _ _ ht5) trivial ?_
    rintro _ _ ⟨rfl, rfl⟩
    refine SO.v rfl (opv_move rfl) ?_
    refine SO.v rfl (opv_extract rfl rfl) ?_
    refine SO.v rfl (opv_extract rfl rfl) ?_
    refine SO.v rfl (opv_assign rfl) ?_
    refine SO.v rfl (opv_assign rfl) ?_
    refine SO.nil ?_
    refine S.to (ρ' := [(0, .int .i64 a0), (1, .int .u32 a1), (2, v2), (6, .bool false), (7, .bool t1), (8, .pointer none), (9, errV 43 t4)]) ⟨rfl, rfl, rfl, rfl, rfl, rfl, rfl, trivial⟩ ?_
    refine S.seq ?_
    refine S.seq ?_
    refine S.region ?_
    refine SO.v rfl (opv_move rfl) ?_
    refine SO.v rfl (opv_lss rfl rfl) ?_
    refine SO.v rfl (opv_move rfl) ?_
    refine SO.cut 3 31 (.bool ((decide (a0 < 1)) || (decide (1024 < a0)))) [F] (fun l2 hk2 => ?_) ?_
    · rcases bool_or (decide (a0 < 1)) with b6 | b6
      · refine SO.passF rfl rfl rfl b6 rfl rfl ?_
        refine SO.passF rfl rfl rfl b6 rfl rfl ?_
        refine SO.v rfl (opv_pick_t' b6 rfl rfl) ?_
        exact hk2.fitc (m := 3) rfl (or_t b6) rfl
      · refine SO.takeT rfl rfl rfl b6 ?_
        refine SO.v rfl (opv_move rfl) ?_
        refine SO.takeT rfl rfl rfl b6 ?_
        refine SO.v rfl (opv_gtr rfl rfl) ?_
        refine SO.v rfl (opv_pick_f' b6 rfl rfl) ?_
        exact hk2.fitc (m := 3) rfl (or_f b6) rfl
    refine SO.v rfl (opv_move rfl) ?_
    refine SO.cut 3 35 (.bool (((decide (a0 < 1)) || (decide (1024 < a0))) || (a1 == 0))) [F] (fun l2 hk2 => ?_) ?_
    · rcases bool_or ((decide (a0 < 1)) || (decide (1024 < a0))) with b7 | b7
      · refine SO.passF rfl rfl rfl b7 rfl rfl ?_
        refine SO.passF rfl rfl rfl b7 rfl rfl ?_
        refine SO.v rfl (opv_pick_t' b7 rfl rfl) ?_
        exact hk2.fitc (m := 3) rfl (or_t b7) rfl
      · refine SO.takeT rfl rfl rfl b7 ?_
        refine SO.v rfl (opv_move rfl) ?_
        refine SO.takeT rfl rfl rfl b7 ?_
        refine SO.v rfl (opv_eql rfl rfl) ?_
        refine SO.v rfl (opv_pick_f' b7 rfl rfl) ?_
        exact hk2.fitc (m := 3) rfl (or_f b7) rfl
    refine SO.nil ?_
    rcases bool_or (((decide (a0 < 1)) || (decide (1024 < a0))) || (a1 == 0)) with b8 | b8
    · replace h := cond_t b8 h
      refine S.condT rfl b8 ?_
      refine S.seq ?_
      refine S.region ?_
      refine SO.v rfl (opv_move rfl) ?_
      refine SO.v rfl (opv_move rfl) ?_
      refine SO.cut 3 40 (.bool (t1 && true)) [F] (fun l2 hk2 => ?_) ?_
      · rcases bool_or t1 with b9 | b9
        · refine SO.takeT rfl rfl rfl b9 ?_
          refine SO.v rfl (opv_move rfl) ?_
          refine SO.takeT rfl rfl rfl b9 ?_
          refine SO.v rfl (opv_eqlPN Try.underlying25 rfl) ?_
          refine SO.v rfl (opv_pick_t' b9 rfl rfl) ?_
          exact hk2.fitc (m := 3) rfl (and_t b9) rfl
        · refine SO.passF rfl rfl rfl b9 rfl rfl ?_
          refine SO.passF rfl rfl rfl b9 rfl rfl ?_
          refine SO.v rfl (opv_pick_f' b9 rfl rfl) ?_
          exact hk2.fitc (m := 3) rfl (and_f b9) rfl
      refine SO.v rfl (opv_move rfl) ?_
      refine SO.cut 4 45 (.bool ((t1 && true) && (t4 == some 1))) [F] (fun l2 hk2 => ?_) ?_
      · rcases bool_or (t1 && true) with b10 | b10
        · refine SO.takeT rfl rfl rfl b10 ?_
          refine SO.v rfl (opv_move rfl) ?_
          refine SO.takeT rfl rfl rfl b10 ?_
          refine SO.v rfl (opv_iface Try.underlying43 rfl rfl) ?_
          refine SO.takeT rfl rfl rfl b10 ?_
          refine SO.v rfl (opv_eqlE (e := t4) (c := 1) Try.underlying27 Try.underlying43 inf43 rfl rfl rfl) ?_
          refine SO.v rfl (opv_pick_t' b10 rfl rfl) ?_
          exact hk2.fitc (m := 4) rfl (and_t b10) rfl
        · refine SO.passF rfl rfl rfl b10 rfl rfl ?_
          refine SO.passF rfl rfl rfl b10 rfl rfl ?_
          refine SO.passF rfl rfl rfl b10 rfl rfl ?_
          refine SO.v rfl (opv_pick_f' b10 rfl rfl) ?_
          exact hk2.fitc (m := 4) rfl (and_f b10) rfl
      refine SO.v rfl (opv_assign rfl) ?_
      refine SO.nil ?_
      refine S.to (ρ' := [(6, .bool ((t1 && true) && (t4 == some 1)))]) ⟨rfl, trivial⟩ ?_
      cases h
      exact S.ret1 Try.func4 rfl rfl (fun w hs hk => hR w _ _ ⟨rfl, rfl⟩ hs hk)
    · replace h := cond_f b8 h
      refine S.condF rfl b8 ?_
      refine S.skip ?_
      refine S.seq ?_
      refine S.seq ?_
      refine S.region ?_
      refine SO.v rfl (opv_move rfl) ?_
      refine SO.v rfl (opv_eqlPN Try.underlying25 rfl) ?_
      refine SO.v rfl (opv_move rfl) ?_
      refine SO.passF rfl rfl rfl rfl rfl rfl ?_
      refine SO.passF rfl rfl rfl rfl rfl rfl ?_
      refine SO.v rfl (opv_pick_tt rfl rfl) ?_
      refine SO.v rfl (opv_move rfl) ?_
      refine SO.passF rfl rfl rfl rfl rfl rfl ?_
      refine SO.passF rfl rfl rfl rfl rfl rfl ?_
      refine SO.passF rfl rfl rfl rfl rfl rfl ?_
      refine SO.v rfl (opv_pick_tt rfl rfl) ?_
      refine SO.nil ?_
      refine S.to (ρ' := [(0, .int .i64 a0), (1, .int .u32 a1), (2, v2), (6, .bool false), (7, .bool t1), (8, .pointer none), (9, errV 43 t4), (56, .bool true)]) ⟨rfl, rfl, rfl, rfl, rfl, rfl, rfl, rfl, trivial⟩ ?_
      refine S.cond_true rfl ?_
      refine S.seq ?_
      refine S.region ?_
      refine SO.v rfl (opv_move rfl) ?_
      refine SO.v rfl (opv_move rfl) ?_
      refine SO.cut 3 61 (.bool (t1 && false)) [F] (fun l2 hk2 => ?_) ?_
      · rcases bool_or t1 with b11 | b11
        · refine SO.takeT rfl rfl rfl b11 ?_
          refine SO.v rfl (opv_move rfl) ?_
          refine SO.takeT rfl rfl rfl b11 ?_
          refine SO.v rfl (opv_neqPN Try.underlying25 rfl) ?_
          refine SO.v rfl (opv_pick_t' b11 rfl rfl) ?_
          exact hk2.fitc (m := 3) rfl (and_t b11) rfl
        · refine SO.passF rfl rfl rfl b11 rfl rfl ?_
          refine SO.passF rfl rfl rfl b11 rfl rfl ?_
          refine SO.v rfl (opv_pick_f' b11 rfl rfl) ?_
          exact hk2.fitc (m := 3) rfl (and_f b11) rfl
      refine SO.v rfl (opv_move rfl) ?_
      refine SO.cut 3 65 (.bool ((t1 && false) && t4.isNone)) [F] (fun l2 hk2 => ?_) ?_
      · rcases bool_or (t1 && false) with b12 | b12
        · refine SO.takeT rfl rfl rfl b12 ?_
          refine SO.v rfl (opv_move rfl) ?_
          refine SO.takeT rfl rfl rfl b12 ?_
          refine SO.v rfl (opv_eqlN (e := t4) Try.underlying27 rfl) ?_
          refine SO.v rfl (opv_pick_t' b12 rfl rfl) ?_
          exact hk2.fitc (m := 3) rfl (and_t b12) rfl
        · refine SO.passF rfl rfl rfl b12 rfl rfl ?_
          refine SO.passF rfl rfl rfl b12 rfl rfl ?_
          refine SO.v rfl (opv_pick_f' b12 rfl rfl) ?_
          exact hk2.fitc (m := 3) rfl (and_f b12) rfl
      refine SO.v rfl (opv_assign rfl) ?_
      refine SO.nil ?_
      refine S.to (ρ' := [(6, .bool ((t1 && false) && t4.isNone))]) ⟨rfl, trivial⟩ ?_
      cases h
      exact S.ret1 Try.func4 rfl rfl (fun w hs hk => hR w _ _ ⟨rfl, rfl⟩ hs hk)
  · replace h := oE_s h
    refine SO.call (pre := []) rfl Try.call6 rfl rfl rfl (word_New.ct _ _ _ _ ht5) trivial ?_
    rintro _ _ ⟨b6, u7_l, rfl, rfl⟩
    refine SO.b1 ?_
    refine SO.rd fun hr8 => ?_
    refine SO.v rfl (opv_move rfl) ?_
    refine SO.v rfl (opv_extract rfl rfl) ?_
    refine SO.v rfl (opv_extract rfl rfl) ?_
    refine SO.v rfl (opv_assign rfl) ?_
    refine SO.v rfl (opv_assign rfl) ?_
    refine SO.nil ?_
    refine S.to (ρ' := [(0, .int .i64 a0), (1, .int .u32 a1), (2, v2), (6, .bool false), (7, .bool t1), (8, bp b6 0), (9, errV 43 t4)]) ⟨rfl, rfl, rfl, rfl, rfl, rfl, rfl, trivial⟩ ?_
    refine S.seq ?_
    refine S.seq ?_
    refine S.region ?_
    refine SO.v rfl (opv_move rfl) ?_
    refine SO.v rfl (opv_lss rfl rfl) ?_
    refine SO.v rfl (opv_move rfl) ?_
    refine SO.cut 3 31 (.bool ((decide (a0 < 1)) || (decide (1024 < a0)))) [Own 34 ek_api_Cell u7_l t3p.l, Box b6 [u7_l, .int .u32 t3p.limit], F] (fun l2 hk2 => ?_) ?_
    · rcases bool_or (decide (a0 < 1)) with b9 | b9
      · refine SO.passF rfl rfl rfl b9 rfl rfl ?_
        refine SO.passF rfl rfl rfl b9 rfl rfl ?_
        refine SO.v rfl (opv_pick_t' b9 rfl rfl) ?_
        refine SO.b2 ?_
        refine SO.b2 ?_
        refine SO.b2 ?_
        exact hk2.fitc (m := 3) rfl (or_t b9) rfl
      · refine SO.takeT rfl rfl rfl b9 ?_
        refine SO.v rfl (opv_move rfl) ?_
        refine SO.takeT rfl rfl rfl b9 ?_
        refine SO.v rfl (opv_gtr rfl rfl) ?_
        refine SO.v rfl (opv_pick_f' b9 rfl rfl) ?_
        refine SO.b2 ?_
        refine SO.b2 ?_
        refine SO.b2 ?_
        exact hk2.fitc (m := 3) rfl (or_f b9) rfl
    refine SO.v rfl (opv_move rfl) ?_
    refine SO.cut 3 35 (.bool (((decide (a0 < 1)) || (decide (1024 < a0))) || (a1 == 0))) [Own 34 ek_api_Cell u7_l t3p.l, Box b6 [u7_l, .int .u32 t3p.limit], F] (fun l2 hk2 => ?_) ?_
    · rcases bool_or ((decide (a0 < 1)) || (decide (1024 < a0))) with b10 | b10
      · refine SO.passF rfl rfl rfl b10 rfl rfl ?_
        refine SO.passF rfl rfl rfl b10 rfl rfl ?_
        refine SO.v rfl (opv_pick_t' b10 rfl rfl) ?_
        refine SO.b2 ?_
        refine SO.b2 ?_
        refine SO.b2 ?_
        exact hk2.fitc (m := 3) rfl (or_t b10) rfl
      · refine SO.takeT rfl rfl rfl b10 ?_
        refine SO.v rfl (opv_move rfl) ?_
        refine SO.takeT rfl rfl rfl b10 ?_
        refine SO.v rfl (opv_eql rfl rfl) ?_
        refine SO.v rfl (opv_pick_f' b10 rfl rfl) ?_
        refine SO.b2 ?_
        refine SO.b2 ?_
        refine SO.b2 ?_
        exact hk2.fitc (m := 3) rfl (or_f b10) rfl
    refine SO.nil ?_
    rcases bool_or (((decide (a0 < 1)) || (decide (1024 < a0))) || (a1 == 0)) with b11 | b11
    · replace h := cond_t b11 h
      refine S.condT rfl b11 ?_
      refine S.seq ?_
      refine S.region ?_
      refine SO.v rfl (opv_move rfl) ?_
      refine SO.v rfl (opv_move rfl) ?_
      refine SO.cut 3 40 (.bool (t1 && false)) [Own 34 ek_api_Cell u7_l t3p.l, Box b6 [u7_l, .int .u32 t3p.limit], F] (fun l2 hk2 => ?_) ?_
      · rcases bool_or t1 with b12 | b12
        · refine SO.takeT rfl rfl rfl b12 ?_
          refine SO.v rfl (opv_move rfl) ?_
          refine SO.takeT rfl rfl rfl b12 ?_
          refine SO.v rfl (opv_eqlP Try.underlying25 rfl) ?_
          refine SO.v rfl (opv_pick_t' b12 rfl rfl) ?_
          refine SO.b2 ?_
          refine SO.b2 ?_
          refine SO.b2 ?_
          exact hk2.fitc (m := 3) rfl (and_t b12) rfl
        · refine SO.passF rfl rfl rfl b12 rfl rfl ?_
          refine SO.passF rfl rfl rfl b12 rfl rfl ?_
          refine SO.v rfl (opv_pick_f' b12 rfl rfl) ?_
          refine SO.b2 ?_
          refine SO.b2 ?_
          refine SO.b2 ?_
          exact hk2.fitc (m := 3) rfl (and_f b12) rfl
      refine SO.v rfl (opv_move rfl) ?_
      refine SO.cut 4 45 (.bool ((t1 && false) && (t4 == some 1))) [Own 34 ek_api_Cell u7_l t3p.l, Box b6 [u7_l, .int .u32 t3p.limit], F] (fun l2 hk2 => ?_) ?_
      · rcases bool_or (t1 && false) with b13 | b13
        · refine SO.takeT rfl rfl rfl b13 ?_
          refine SO.v rfl (opv_move rfl) ?_
          refine SO.takeT rfl rfl rfl b13 ?_
          refine SO.v rfl (opv_iface Try.underlying43 rfl rfl) ?_
          refine SO.takeT rfl rfl rfl b13 ?_
          refine SO.v rfl (opv_eqlE (e := t4) (c := 1) Try.underlying27 Try.underlying43 inf43 rfl rfl rfl) ?_
          refine SO.v rfl (opv_pick_t' b13 rfl rfl) ?_
          refine SO.b2 ?_
          refine SO.b2 ?_
          refine SO.b2 ?_
          exact hk2.fitc (m := 4) rfl (and_t b13) rfl
        · refine SO.passF rfl rfl rfl b13 rfl rfl ?_
          refine SO.passF rfl rfl rfl b13 rfl rfl ?_
          refine SO.passF rfl rfl rfl b13 rfl rfl ?_
          refine SO.v rfl (opv_pick_f' b13 rfl rfl) ?_
          refine SO.b2 ?_
          refine SO.b2 ?_
          refine SO.b2 ?_
          exact hk2.fitc (m := 4) rfl (and_f b13) rfl
      refine SO.v rfl (opv_assign rfl) ?_
      refine SO.nil ?_
      refine S.to (ρ' := [(6, .bool ((t1 && false) && (t4 == some 1)))]) ⟨rfl, trivial⟩ ?_
      cases h
      refine S.drop ?_
      refine S.drop ?_
      exact S.ret1 Try.func4 rfl rfl (fun w hs hk => hR w _ _ ⟨rfl, rfl⟩ hs hk)
    · replace h := cond_f b11 h
      refine S.condF rfl b11 ?_
      refine S.skip ?_
      refine S.seq ?_
      refine S.seq ?_
      refine S.region ?_
      refine SO.v rfl (opv_move rfl) ?_
      refine SO.v rfl (opv_eqlP Try.underlying25 rfl) ?_
      refine SO.v rfl (opv_move rfl) ?_
      refine SO.takeT rfl rfl rfl rfl ?_
      refine SO.v rfl (opv_move rfl) ?_
      refine SO.takeT rfl rfl rfl rfl ?_
      refine SO.v rfl (opv_neqN (e := t4) Try.underlying27 rfl) ?_
      refine SO.v rfl (opv_pick_ff rfl rfl) ?_
      refine SO.v rfl (opv_move rfl) ?_
      refine SO.cut 4 56 (.bool (t4.isSome || (decide (120 < (a2.length : Int))))) [Own 34 ek_api_Cell u7_l t3p.l, Box b6 [u7_l, .int .u32 t3p.limit], F] (fun l2 hk2 => ?_) ?_
      · rcases bool_or t4.isSome with b14 | b14
        · refine SO.passF rfl rfl rfl b14 rfl rfl ?_
          refine SO.passF rfl rfl rfl b14 rfl rfl ?_
          refine SO.passF rfl rfl rfl b14 rfl rfl ?_
          refine SO.v rfl (opv_pick_t' b14 rfl rfl) ?_
          refine SO.b2 ?_
          refine SO.b2 ?_
          refine SO.b2 ?_
          exact hk2.fitc (m := 4) rfl (or_t b14) rfl
        · refine SO.takeT rfl rfl rfl b14 ?_
          refine SO.v rfl (opv_move rfl) ?_
          refine SO.takeT rfl rfl rfl b14 ?_
          refine SO.v rfl (opv_lenR rfl Try.underlying23 hF2 rfl) ?_
          refine SO.takeT rfl rfl rfl b14 ?_
          refine SO.v rfl (opv_gtr rfl rfl) ?_
          refine SO.v rfl (opv_pick_f' b14 rfl rfl) ?_
          refine SO.b2 ?_
          refine SO.b2 ?_
          refine SO.b2 ?_
          exact hk2.fitc (m := 4) rfl (or_f b14) rfl
      refine SO.nil ?_
      refine S.to (ρ' := [(0, .int .i64 a0), (1, .int .u32 a1), (2, v2), (6, .bool false), (7, .bool t1), (8, bp b6 0), (9, errV 43 t4), (56, .bool (t4.isSome || (decide (120 < (a2.length : Int)))))]) ⟨rfl, rfl, rfl, rfl, rfl, rfl, rfl, rfl, trivial⟩ ?_
      rcases bool_or (t4.isSome || (decide (120 < (a2.length : Int)))) with b15 | b15
      · replace h := cond_t b15 h
        refine S.condT rfl b15 ?_
        refine S.seq ?_
        refine S.region ?_
        refine SO.v rfl (opv_move rfl) ?_
        refine SO.v rfl (opv_move rfl) ?_
        refine SO.cut 3 61 (.bool (t1 && true)) [Own 34 ek_api_Cell u7_l t3p.l, Box b6 [u7_l, .int .u32 t3p.limit], F] (fun l2 hk2 => ?_) ?_
        · rcases bool_or t1 with b16 | b16
          · refine SO.takeT rfl rfl rfl b16 ?_
            refine SO.v rfl (opv_move rfl) ?_
            refine SO.takeT rfl rfl rfl b16 ?_
            refine SO.v rfl (opv_neqP Try.underlying25 rfl) ?_
            refine SO.v rfl (opv_pick_t' b16 rfl rfl) ?_
            refine SO.b2 ?_
            refine SO.b2 ?_
            refine SO.b2 ?_
            exact hk2.fitc (m := 3) rfl (and_t b16) rfl
          · refine SO.passF rfl rfl rfl b16 rfl rfl ?_
            refine SO.passF rfl rfl rfl b16 rfl rfl ?_
            refine SO.v rfl (opv_pick_f' b16 rfl rfl) ?_
            refine SO.b2 ?_
            refine SO.b2 ?_
            refine SO.b2 ?_
            exact hk2.fitc (m := 3) rfl (and_f b16) rfl
        refine SO.v rfl (opv_move rfl) ?_
        refine SO.cut 3 65 (.bool ((t1 && true) && t4.isNone)) [Own 34 ek_api_Cell u7_l t3p.l, Box b6 [u7_l, .int .u32 t3p.limit], F] (fun l2 hk2 => ?_) ?_
        · rcases bool_or (t1 && true) with b17 | b17
          · refine SO.takeT rfl rfl rfl b17 ?_
            refine SO.v rfl (opv_move rfl) ?_
            refine SO.takeT rfl rfl rfl b17 ?_
            refine SO.v rfl (opv_eqlN (e := t4) Try.underlying27 rfl) ?_
            refine SO.v rfl (opv_pick_t' b17 rfl rfl) ?_
            refine SO.b2 ?_
            refine SO.b2 ?_
            refine SO.b2 ?_
            exact hk2.fitc (m := 3) rfl (and_t b17) rfl
          · refine SO.passF rfl rfl rfl b17 rfl rfl ?_
            refine SO.passF rfl rfl rfl b17 rfl rfl ?_
            refine SO.v rfl (opv_pick_f' b17 rfl rfl) ?_
            refine SO.b2 ?_
            refine SO.b2 ?_
            refine SO.b2 ?_
            exact hk2.fitc (m := 3) rfl (and_f b17) rfl
        refine SO.v rfl (opv_assign rfl) ?_
        refine SO.nil ?_
        refine S.to (ρ' := [(6, .bool ((t1 && true) && t4.isNone))]) ⟨rfl, trivial⟩ ?_
        cases h
        refine S.drop ?_
        refine S.drop ?_
        exact S.ret1 Try.func4 rfl rfl (fun w hs hk => hR w _ _ ⟨rfl, rfl⟩ hs hk)
      · replace h := cond_f b15 h
        refine S.condF rfl b15 ?_
        refine S.skip ?_
        refine S.seq ?_
        refine S.region ?_
        refine SO.v rfl (opv_move rfl) ?_
        obtain ⟨xs20, hx21, h⟩ := opt_bind h
        refine SO.makeSlice (K := ek_api_Cell) rfl Try.underlying45 inf34 rfl rfl rfl (by decide) rfl rfl rfl hx21 (fun v18 hr19 => ?_)
        refine SO.v rfl (opv_move rfl) ?_
        have hB_ : ∀ (w : World) (u0_ : Value), u0_.oneCell' = true → (Instr.build 47 #[(0, u0_), (1, .int .u32 a1)]).run Try.prog w = .ok (.agg #[u0_, .int .u32 a1]) w := (by intro w u0_ hu0_; cases u0_ <;> first | (simp [Value.oneCell'] at hu0_; done) | kernel_rfl)
        refine SO.v rfl (opv_build (v := .agg #[v18, .int .u32 a1]) rfl (fun w => hB_ w v18 (Rd.one hr19))) ?_
        clear hB_
        refine SO.box rfl rfl rfl (fun b22 => ?_)
        refine SO.v rfl (opv_assign rfl) ?_
        refine SO.nil ?_
        refine S.to (ρ' := [(0, .int .i64 a0), (1, .int .u32 a1), (2, v2), (6, .bool false), (7, .bool t1), (8, bp b6 0), (10, bp b22 0)]) ⟨rfl, rfl, rfl, rfl, rfl, rfl, rfl, trivial⟩ ?_
        refine S.seq ?_
        refine S.seq ?_
        refine S.region ?_
        refine SO.v rfl (opv_assign rfl) ?_
        refine SO.nil ?_
        obtain ⟨o1, hl1, h⟩ := opt_bind h
        refine S.b4 ?_
        refine S.b4 ?_
        refine S.b2 ?_
        refine S.b3 ?_
        refine S.b4 ?_
        refine S.to (ρ' := [(11, .int .i64 0), (0, .int .i64 a0), (1, .int .u32 a1), (2, v2), (6, .bool false), (7, .bool t1), (8, bp b6 0), (10, bp b22 0)]) ⟨rfl, rfl, rfl, rfl, rfl, rfl, rfl, rfl, trivial⟩ ?_
        refine S.forloop (X := (Int × (List api_Cell) × Int × (List api_Cell) × Int) × (Value × Value)) (O := Brk Bool ((List api_Cell) × Int × (List api_Cell) × Int)) (fun m x => law01_WordPlays.l1 a0 a2 m x.1) (fun x => match x with | ((x11_1, y22_0_1, y22_1_1, y6_0_1, y6_1_1), (vy22_0_1, vy6_0_1)) => [(11, .int .i64 x11_1), (0, .int .i64 a0), (1, .int .u32 a1), (2, v2), (6, .bool false), (7, .bool t1), (8, bp b6 0), (10, bp b22 0)]) (fun x => match x with | ((x11_1, y22_0_1, y22_1_1, y6_0_1, y6_1_1), (vy22_0_1, vy6_0_1)) => [Own 34 ek_api_Cell vy6_0_1 y6_0_1, Own 34 ek_api_Cell vy22_0_1 y22_0_1, Box b22 [vy22_0_1, .int .u32 y22_1_1], Box b6 [vy6_0_1, .int .u32 y6_1_1], F]) (fun Sk o' => (∀ r', o' = Brk.ret r' → some r' = some r0) ∧ ∀ j : ((List api_Cell) × Int × (List api_Cell) × Int), match j with | (y22_0_e1, y22_1_e1, y6_0_e1, y6_1_e1) => ∀ g : (Value × Value), match g with | (vy22_0_e1, vy6_0_e1) => o' = Brk.nx (y22_0_e1, y22_1_e1, y6_0_e1, y6_1_e1) → Sk [(0, .int .i64 a0), (1, .int .u32 a1), (6, .bool false), (7, .bool t1), (8, bp b6 0), (10, bp b22 0)] [Own 34 ek_api_Cell vy6_0_e1 y6_0_e1, Own 34 ek_api_Cell vy22_0_e1 y22_0_e1, Box b22 [vy22_0_e1, .int .u32 y22_1_e1], Box b6 [vy6_0_e1, .int .u32 y6_1_e1], F]) (fun _ => rfl) ?_ (m := k) (x := ((0, xs20, a1, t3p.l, t3p.limit), (v18, u7_l))) hl1 ?_
        · clear h hl1
          intro k x o_1 h hK1 ih1
          obtain ⟨⟨x11_1, y22_0_1, y22_1_1, y6_0_1, y6_1_1⟩, ⟨vy22_0_1, vy6_0_1⟩⟩ := x
          replace h : law01_WordPlays.l1 a0 a2 (k + 1) (x11_1, y22_0_1, y22_1_1, y6_0_1, y6_1_1) = some o_1 := h
          first | rw [law01_WordPlays.l1] at h | unfold law01_WordPlays.l1 at h
          refine S.rd fun hr23 => ?_
          refine S.b1 ?_
          refine S.rd fun hr24 => ?_
          refine S.seq ?_
          refine S.seq ?_
          refine S.region ?_
          refine SO.v rfl (opv_move rfl) ?_
          refine SO.v rfl (opv_move rfl) ?_
          refine SO.v rfl (opv_lenR rfl Try.underlying23 hF2 rfl) ?_
          refine SO.v rfl (opv_lss rfl rfl) ?_
          refine SO.nil ?_
          rcases bool_or (decide (x11_1 < (a2.length : Int))) with b25 | b25
          · replace h := cond_t b25 h
            refine S.condT rfl b25 ?_
            refine S.skip ?_
            refine S.seq ?_
            refine S.block ?_
            refine S.seq ?_
            refine S.region ?_
            refine SO.v rfl (opv_move rfl) ?_
            refine SO.v rfl (opv_move rfl) ?_
            obtain ⟨x26, hx27, h⟩ := opt_bind h
            refine SO.v rfl (opv_idx Try.underlying23 Try.sizeOf32 hF2 rfl rfl hx27) ?_
            refine SO.loadIN rfl Try.isAgg32 Try.sizeOf32 (Rd.tail (Rd.tail (Rd.tail (Rd.tail (Rd.head hF2))))) hx27 rfl rfl rfl ?_
            refine SO.alloc rfl Try.zeroValue32 rfl (fun b28 => ?_)
            refine SO.storeN Try.sizeOf32 rfl rfl rfl rfl rfl rfl ?_
            refine SO.nil ?_
            refine S.to (ρ' := [(11, .int .i64 x11_1), (0, .int .i64 a0), (1, .int .u32 a1), (2, v2), (6, .bool false), (7, .bool t1), (8, bp b6 0), (10, bp b22 0), (12, bp b28 0)]) ⟨rfl, rfl, rfl, rfl, rfl, rfl, rfl, rfl, rfl, trivial⟩ ?_
            refine S.seq ?_
            refine S.seq ?_
            refine S.region ?_
            refine SO.v rfl (opv_fieldAddr Try.underlying32 rfl Try.sizeOf4 rfl rfl) ?_
            refine SO.load1 rfl Try.isAgg4 rfl rfl ?_
            refine SO.v rfl (opv_move rfl) ?_
            refine SO.cut 4 87 (.bool (x26.Now && (decide (0 ≤ x26.I)))) [Box b28 [.int .i64 x26.What, .int .i64 x26.I, .int .u32 x26.Version, .int .i64 x26.Mark, .int .u64 x26.Value, .bool x26.Now], Own 34 ek_api_Cell vy22_0_1 y22_0_1, Own 34 ek_api_Cell vy6_0_1 y6_0_1, Box b22 [vy22_0_1, .int .u32 y22_1_1], Box b6 [vy6_0_1, .int .u32 y6_1_1], F] (fun l2 hk2 => ?_) ?_
            · rcases bool_or x26.Now with b29 | b29
              · refine SO.takeT rfl rfl rfl b29 ?_
                refine SO.v rfl (opv_fieldAddr Try.underlying32 rfl Try.sizeOf3 rfl rfl) ?_
                refine SO.takeT rfl rfl rfl b29 ?_
                refine SO.load1 rfl Try.isAgg3 rfl rfl ?_
                refine SO.takeT rfl rfl rfl b29 ?_
                refine SO.v rfl (opv_geq rfl rfl) ?_
                refine SO.v rfl (opv_pick_t' b29 rfl rfl) ?_
                refine SO.b5 ?_
                refine SO.b5 ?_
                refine SO.b5 ?_
                refine SO.b5 ?_
                refine SO.b5 ?_
                refine SO.b5 ?_
                exact hk2.fitc (m := 4) rfl (and_t b29) rfl
              · refine SO.passF rfl rfl rfl b29 rfl rfl ?_
                refine SO.passF rfl rfl rfl b29 rfl rfl ?_
                refine SO.passF rfl rfl rfl b29 rfl rfl ?_
                refine SO.v rfl (opv_pick_f' b29 rfl rfl) ?_
                refine SO.b5 ?_
                refine SO.b5 ?_
                refine SO.b5 ?_
                refine SO.b5 ?_
                refine SO.b5 ?_
                refine SO.b5 ?_
                exact hk2.fitc (m := 4) rfl (and_f b29) rfl
            refine SO.v rfl (opv_move rfl) ?_
            refine SO.cut 5 93 (.bool ((x26.Now && (decide (0 ≤ x26.I))) && (decide (x26.I < a0)))) [Box b28 [.int .i64 x26.What, .int .i64 x26.I, .int .u32 x26.Version, .int .i64 x26.Mark, .int .u64 x26.Value, .bool x26.Now], Own 34 ek_api_Cell vy22_0_1 y22_0_1, Own 34 ek_api_Cell vy6_0_1 y6_0_1, Box b22 [vy22_0_1, .int .u32 y22_1_1], Box b6 [vy6_0_1, .int .u32 y6_1_1], F] (fun l2 hk2 => ?_) ?_
            · rcases bool_or (x26.Now && (decide (0 ≤ x26.I))) with b30 | b30
              · refine SO.takeT rfl rfl rfl b30 ?_
                refine SO.v rfl (opv_fieldAddr Try.underlying32 rfl Try.sizeOf3 rfl rfl) ?_
                refine SO.takeT rfl rfl rfl b30 ?_
                refine SO.load1 rfl Try.isAgg3 rfl rfl ?_
                refine SO.takeT rfl rfl rfl b30 ?_
                refine SO.v rfl (opv_move rfl) ?_
                refine SO.takeT rfl rfl rfl b30 ?_
                refine SO.v rfl (opv_lss rfl rfl) ?_
                refine SO.v rfl (opv_pick_t' b30 rfl rfl) ?_
                refine SO.b5 ?_
                refine SO.b5 ?_
                refine SO.b5 ?_
                refine SO.b5 ?_
                refine SO.b5 ?_
                refine SO.b5 ?_
                exact hk2.fitc (m := 5) rfl (and_t b30) rfl
              · refine SO.passF rfl rfl rfl b30 rfl rfl ?_
                refine SO.passF rfl rfl rfl b30 rfl rfl ?_
                refine SO.passF rfl rfl rfl b30 rfl rfl ?_
                refine SO.passF rfl rfl rfl b30 rfl rfl ?_
                refine SO.v rfl (opv_pick_f' b30 rfl rfl) ?_
                refine SO.b5 ?_
                refine SO.b5 ?_
                refine SO.b5 ?_
                refine SO.b5 ?_
                refine SO.b5 ?_
                refine SO.b5 ?_
                exact hk2.fitc (m := 5) rfl (and_f b30) rfl
            refine SO.nil ?_
            obtain ⟨⟨y28_2_2, y28_3_2⟩, hC2, hJ2⟩ := opt_bind h
            clear h
            refine S.cutP (G := Unit) (fun _ => True) (fun _ => [(0, .int .i64 a0), (1, .int .u32 a1), (2, v2), (6, .bool false), (7, .bool t1), (8, bp b6 0), (10, bp b22 0), (11, .int .i64 x11_1), (12, bp b28 0)]) (fun _ => [Box b28 [.int .i64 x26.What, .int .i64 x26.I, .int .u32 y28_2_2, .int .i64 y28_3_2, .int .u64 x26.Value, .bool x26.Now], Own 34 ek_api_Cell vy22_0_1 y22_0_1, Own 34 ek_api_Cell vy6_0_1 y6_0_1, Box b22 [vy22_0_1, .int .u32 y22_1_1], Box b6 [vy6_0_1, .int .u32 y6_1_1], F]) (fun hk2 => ?_) ?_
            · replace h := hC2
              rcases bool_or ((x26.Now && (decide (0 ≤ x26.I))) && (decide (x26.I < a0))) with b31 | b31
              · replace h := cond_t b31 h
                refine S.condT rfl b31 ?_
                refine S.seq ?_
                obtain ⟨x32, hx33, h⟩ := opt_bind h
                refine S.draw' (Z := fun Q => ∀ (_ : Unit) (_ : Unit) (_ : Unit) (_ : Unit) (_ : Unit) (_ : Unit) (_ : Unit) (_ : Unit) (_ : Unit), Q [(11, .int .i64 x11_1), (0, .int .i64 a0), (1, .int .u32 a1), (2, v2), (6, .bool false), (7, .bool t1), (8, bp b6 0), (10, bp b22 0), (12, bp b28 0)] [Box b28 [.int .i64 x26.What, .int .i64 x26.I, .int .u32 x32.Version, .int .i64 x26.Mark, .int .u64 x26.Value, .bool x26.Now], Own 34 ek_api_Cell vy22_0_1 y22_0_1, Own 34 ek_api_Cell vy6_0_1 y6_0_1, Box b22 [vy22_0_1, .int .u32 y22_1_1], Box b6 [vy6_0_1, .int .u32 y6_1_1], F]) (T := [tS 10 (bp b22 0), tS 12 (bp b28 0), tE [(11, .int .i64 x11_1), (0, .int .i64 a0), (1, .int .u32 a1), (2, v2), (6, .bool false), (7, .bool t1), (8, bp b6 0)], tR (Box b28 [.int .i64 x26.What, .int .i64 x26.I, .int .u32 x26.Version, .int .i64 x26.Mark, .int .u64 x26.Value, .bool x26.Now]), tR (Own 34 ek_api_Cell vy22_0_1 y22_0_1), tR (Own 34 ek_api_Cell vy6_0_1 y6_0_1), tR (Box b22 [vy22_0_1, .int .u32 y22_1_1]), tR (Box b6 [vy6_0_1, .int .u32 y6_1_1]), tR (F), tS 94 (bp b22 0), tS 95 (bp b22 0), tS 96 (bp b22 0), tS 97 (vy22_0_1), tS 98 (bp b28 1), tS 99 (.int .i64 x26.I), tS 100 (idxp vy22_0_1 (x26.I.toNat * ek_api_Cell.sz)), tS 101 (idxp vy22_0_1 (x26.I.toNat * ek_api_Cell.sz + 1)), tS 102 (.int .u32 x32.Version), tS 103 (bp b28 2), tR (Box b28 [.int .i64 x26.What, .int .i64 x26.I, .int .u32 x32.Version, .int .i64 x26.Mark, .int .u64 x26.Value, .bool x26.Now])]) (D := [⟨[0], [], [9]⟩, ⟨[9], [], [10]⟩, ⟨[10], [], [11]⟩, ⟨[11, 6], [], [12]⟩, ⟨[1], [], [13]⟩, ⟨[13, 3], [], [14]⟩, ⟨[12, 14, 4], [], [15]⟩, ⟨[15, 4], [], [16]⟩, ⟨[16, 4], [], [17]⟩, ⟨[1], [], [18]⟩, ⟨[17, 18], [3], [19]⟩]) (ini := [0, 1, 2, 3, 4, 5, 6, 7, 8]) (fin := [2, 0, 1, 19, 4, 5, 6, 7, 8]) (bf := [[], [0], [0, 1], [0, 1, 2], [], [4], [0, 1, 2, 3, 4, 5], [0, 1, 2, 3, 4, 5, 6], [0, 1, 2, 3, 4, 5, 6, 7], [0, 1, 2, 3, 4, 5, 6, 7, 8], [0, 1, 2, 3, 4, 5, 6, 7, 8, 9]]) (by kernel_rfl) (by kernel_rfl) (fun x w h1 h2 => (.cons () (.cons () (.cons () (.cons () (.cons () (.cons () (.cons () (.cons () (.cons () (.nil ⟨EnvAll.of h1 ⟨rfl, rfl, rfl, rfl, rfl, rfl, rfl, rfl, rfl, trivial⟩, h2⟩))))))))))) (fun Q => by kernel_rfl) ⟨?_, ?_, ?_, ?_, ?_, ?_, ?_, ?_, ?_, ?_, ?_, trivial⟩ ?_
                · rintro Fr _
                  refine SO.v rfl (opv_move rfl) ?_
                  exact SO.nilZ fun a w h1 h2 h3 h4 h5 => PZ.of h1 h3 h5 (.cons () (.cons () (.nil ⟨EnvAll.of h2 ⟨rfl, rfl, trivial⟩, h4⟩)))
                · rintro Fr _
                  refine SO.v rfl (opv_nilCheck rfl) ?_
                  exact SO.nilZ fun a w h1 h2 h3 h4 h5 => PZ.of h1 h3 h5 (.cons () (.cons () (.nil ⟨EnvAll.of h2 ⟨rfl, rfl, trivial⟩, h4⟩)))
                · rintro Fr _
                  refine SO.v rfl (opv_fieldAddr Try.underlying47 rfl Try.sizeOf45 rfl rfl) ?_
                  exact SO.nilZ fun a w h1 h2 h3 h4 h5 => PZ.of h1 h3 h5 (.cons () (.cons () (.nil ⟨EnvAll.of h2 ⟨rfl, rfl, trivial⟩, h4⟩)))
                · rintro Fr _ _
                  refine SO.load1 rfl Try.isAgg45 rfl rfl ?_
                  exact SO.nilZ fun a w h1 h2 h3 h4 h5 => PZ.of h1 h3 h5 (.cons () (.cons () (.cons () (.nil ⟨EnvAll.of h2 ⟨rfl, rfl, trivial⟩, h4⟩))))
                · rintro Fr _
                  refine SO.v rfl (opv_fieldAddr Try.underlying32 rfl Try.sizeOf3 rfl rfl) ?_
                  exact SO.nilZ fun a w h1 h2 h3 h4 h5 => PZ.of h1 h3 h5 (.cons () (.cons () (.nil ⟨EnvAll.of h2 ⟨rfl, rfl, trivial⟩, h4⟩)))
                · rintro Fr _ _
                  refine SO.load1 rfl Try.isAgg3 rfl rfl ?_
                  exact SO.nilZ fun a w h1 h2 h3 h4 h5 => PZ.of h1 h3 h5 (.cons () (.cons () (.cons () (.nil ⟨EnvAll.of h2 ⟨rfl, rfl, trivial⟩, h4⟩))))
                · rintro Fr _ _ _
                  refine SO.v rfl (opv_idx Try.underlying45 Try.sizeOf34 hr24 rfl rfl hx33) ?_
                  exact SO.nilZ fun a w h1 h2 h3 h4 h5 => PZ.of h1 h3 h5 (.cons () (.cons () (.cons () (.cons () (.nil ⟨EnvAll.of h2 ⟨rfl, rfl, rfl, trivial⟩, h4⟩)))))
                · rintro Fr _ _
                  refine SO.v rfl (opv_fieldIdx Try.underlying34 rfl Try.sizeOf22 hr24 hx33 rfl rfl) ?_
                  exact SO.nilZ fun a w h1 h2 h3 h4 h5 => PZ.of h1 h3 h5 (.cons () (.cons () (.cons () (.nil ⟨EnvAll.of h2 ⟨rfl, rfl, trivial⟩, h4⟩))))
                · rintro Fr _ _
                  refine SO.loadI1 (j := 1) rfl Try.isAgg22 (Rd.head hr24) hx33 rfl rfl rfl rfl ?_
                  exact SO.nilZ fun a w h1 h2 h3 h4 h5 => PZ.of h1 h3 h5 (.cons () (.cons () (.cons () (.nil ⟨EnvAll.of h2 ⟨rfl, rfl, trivial⟩, h4⟩))))
                · rintro Fr _
                  refine SO.v rfl (opv_fieldAddr Try.underlying32 rfl Try.sizeOf22 rfl rfl) ?_
                  exact SO.nilZ fun a w h1 h2 h3 h4 h5 => PZ.of h1 h3 h5 (.cons () (.cons () (.nil ⟨EnvAll.of h2 ⟨rfl, rfl, trivial⟩, h4⟩)))
                · rintro Fr _ _ _
                  refine SO.store1 Try.sizeOf22 rfl rfl rfl rfl ?_
                  exact SO.nilZ fun a w h1 h2 h3 h4 h5 => PZ.of h1 h3 h5 (.cons () (.cons () (.cons () (.nil ⟨EnvAll.of h2 ⟨rfl, rfl, trivial⟩, h4⟩))))
                rintro _ _ _ _ _ _ _ _ _
                refine S.to (ρ' := [(11, .int .i64 x11_1), (0, .int .i64 a0), (1, .int .u32 a1), (2, v2), (6, .bool false), (7, .bool t1), (8, bp b6 0), (10, bp b22 0), (12, bp b28 0)]) ⟨rfl, rfl, rfl, rfl, rfl, rfl, rfl, rfl, rfl, trivial⟩ ?_
                refine S.seq ?_
                obtain ⟨x34, hx35, h⟩ := opt_bind h
                refine S.draw' (Z := fun Q => ∀ (_ : Unit) (_ : Unit) (_ : Unit) (_ : Unit) (_ : Unit) (_ : Unit) (_ : Unit) (_ : Unit) (_ : Unit) (_ : Unit), Q [(11, .int .i64 x11_1), (0, .int .i64 a0), (1, .int .u32 a1), (2, v2), (6, .bool false), (7, .bool t1), (8, bp b6 0), (10, bp b22 0), (12, bp b28 0), (113, .bool (x34.Mark != 0))] [Box b28 [.int .i64 x26.What, .int .i64 x26.I, .int .u32 x32.Version, .int .i64 x26.Mark, .int .u64 x26.Value, .bool x26.Now], Own 34 ek_api_Cell vy22_0_1 y22_0_1, Own 34 ek_api_Cell vy6_0_1 y6_0_1, Box b22 [vy22_0_1, .int .u32 y22_1_1], Box b6 [vy6_0_1, .int .u32 y6_1_1], F]) (T := [tS 10 (bp b22 0), tS 12 (bp b28 0), tE [(11, .int .i64 x11_1), (0, .int .i64 a0), (1, .int .u32 a1), (2, v2), (6, .bool false), (7, .bool t1), (8, bp b6 0)], tR (Box b28 [.int .i64 x26.What, .int .i64 x26.I, .int .u32 x32.Version, .int .i64 x26.Mark, .int .u64 x26.Value, .bool x26.Now]), tR (Own 34 ek_api_Cell vy22_0_1 y22_0_1), tR (Own 34 ek_api_Cell vy6_0_1 y6_0_1), tR (Box b22 [vy22_0_1, .int .u32 y22_1_1]), tR (Box b6 [vy6_0_1, .int .u32 y6_1_1]), tR (F), tS 104 (bp b22 0), tS 105 (bp b22 0), tS 106 (bp b22 0), tS 107 (vy22_0_1), tS 108 (bp b28 1), tS 109 (.int .i64 x26.I), tS 110 (idxp vy22_0_1 (x26.I.toNat * ek_api_Cell.sz)), tS 111 (idxp vy22_0_1 (x26.I.toNat * ek_api_Cell.sz + 2)), tS 112 (.int .i64 x34.Mark), tS 113 (.bool (x34.Mark != 0))]) (D := [⟨[0], [], [9]⟩, ⟨[9], [], [10]⟩, ⟨[10], [], [11]⟩, ⟨[11, 6], [], [12]⟩, ⟨[1], [], [13]⟩, ⟨[13, 3], [], [14]⟩, ⟨[12, 14, 4], [], [15]⟩, ⟨[15, 4], [], [16]⟩, ⟨[16, 4], [], [17]⟩, ⟨[17], [], [18]⟩]) (ini := [0, 1, 2, 3, 4, 5, 6, 7, 8]) (fin := [2, 0, 1, 18, 3, 4, 5, 6, 7, 8]) (bf := [[], [0], [0, 1], [0, 1, 2], [], [4], [0, 1, 2, 3, 4, 5], [0, 1, 2, 3, 4, 5, 6], [0, 1, 2, 3, 4, 5, 6, 7], [0, 1, 2, 3, 4, 5, 6, 7, 8]]) (by kernel_rfl) (by kernel_rfl) (fun x w h1 h2 => (.cons () (.cons () (.cons () (.cons () (.cons () (.cons () (.cons () (.cons () (.cons () (.nil ⟨EnvAll.of h1 ⟨rfl, rfl, rfl, rfl, rfl, rfl, rfl, rfl, rfl, trivial⟩, h2⟩))))))))))) (fun Q => by kernel_rfl) ⟨?_, ?_, ?_, ?_, ?_, ?_, ?_, ?_, ?_, ?_, trivial⟩ ?_
                · rintro Fr _
                  refine SO.v rfl (opv_move rfl) ?_
                  exact SO.nilZ fun a w h1 h2 h3 h4 h5 => PZ.of h1 h3 h5 (.cons () (.cons () (.nil ⟨EnvAll.of h2 ⟨rfl, rfl, trivial⟩, h4⟩)))
                · rintro Fr _
                  refine SO.v rfl (opv_nilCheck rfl) ?_
                  exact SO.nilZ fun a w h1 h2 h3 h4 h5 => PZ.of h1 h3 h5 (.cons () (.cons () (.nil ⟨EnvAll.of h2 ⟨rfl, rfl, trivial⟩, h4⟩)))
                · rintro Fr _
                  refine SO.v rfl (opv_fieldAddr Try.underlying47 rfl Try.sizeOf45 rfl rfl) ?_
                  exact SO.nilZ fun a w h1 h2 h3 h4 h5 => PZ.of h1 h3 h5 (.cons () (.cons () (.nil ⟨EnvAll.of h2 ⟨rfl, rfl, trivial⟩, h4⟩)))
                · rintro Fr _ _
                  refine SO.load1 rfl Try.isAgg45 rfl rfl ?_
                  exact SO.nilZ fun a w h1 h2 h3 h4 h5 => PZ.of h1 h3 h5 (.cons () (.cons () (.cons () (.nil ⟨EnvAll.of h2 ⟨rfl, rfl, trivial⟩, h4⟩))))
                · rintro Fr _
                  refine SO.v rfl (opv_fieldAddr Try.underlying32 rfl Try.sizeOf3 rfl rfl) ?_
                  exact SO.nilZ fun a w h1 h2 h3 h4 h5 => PZ.of h1 h3 h5 (.cons () (.cons () (.nil ⟨EnvAll.of h2 ⟨rfl, rfl, trivial⟩, h4⟩)))
                · rintro Fr _ _
                  refine SO.load1 rfl Try.isAgg3 rfl rfl ?_
                  exact SO.nilZ fun a w h1 h2 h3 h4 h5 => PZ.of h1 h3 h5 (.cons () (.cons () (.cons () (.nil ⟨EnvAll.of h2 ⟨rfl, rfl, trivial⟩, h4⟩))))
                · rintro Fr _ _ _
                  refine SO.v rfl (opv_idx Try.underlying45 Try.sizeOf34 hr24 rfl rfl hx35) ?_
                  exact SO.nilZ fun a w h1 h2 h3 h4 h5 => PZ.of h1 h3 h5 (.cons () (.cons () (.cons () (.cons () (.nil ⟨EnvAll.of h2 ⟨rfl, rfl, rfl, trivial⟩, h4⟩)))))
                · rintro Fr _ _
                  refine SO.v rfl (opv_fieldIdx Try.underlying34 rfl Try.sizeOf3 hr24 hx35 rfl rfl) ?_
                  exact SO.nilZ fun a w h1 h2 h3 h4 h5 => PZ.of h1 h3 h5 (.cons () (.cons () (.cons () (.nil ⟨EnvAll.of h2 ⟨rfl, rfl, trivial⟩, h4⟩))))
                · rintro Fr _ _
                  refine SO.loadI1 (j := 2) rfl Try.isAgg3 (Rd.head hr24) hx35 rfl rfl rfl rfl ?_
                  exact SO.nilZ fun a w h1 h2 h3 h4 h5 => PZ.of h1 h3 h5 (.cons () (.cons () (.cons () (.nil ⟨EnvAll.of h2 ⟨rfl, rfl, trivial⟩, h4⟩))))
                · rintro Fr _
                  refine SO.v rfl (opv_neq rfl rfl) ?_
                  exact SO.nilZ fun a w h1 h2 h3 h4 h5 => PZ.of h1 h3 h5 (.cons () (.cons () (.nil ⟨EnvAll.of h2 ⟨rfl, rfl, trivial⟩, h4⟩)))
                rintro _ _ _ _ _ _ _ _ _ _
                refine S.to (ρ' := [(11, .int .i64 x11_1), (0, .int .i64 a0), (1, .int .u32 a1), (2, v2), (6, .bool false), (7, .bool t1), (8, bp b6 0), (10, bp b22 0), (12, bp b28 0), (113, .bool (x34.Mark != 0))]) ⟨rfl, rfl, rfl, rfl, rfl, rfl, rfl, rfl, rfl, rfl, trivial⟩ ?_
                rcases bool_or (x34.Mark != 0) with b36 | b36
                · replace h := cond_t b36 h
                  refine S.condT rfl b36 ?_
                  obtain ⟨x37, hx38, h⟩ := opt_bind h
                  refine S.draw' (Z := fun Q => ∀ (_ : Unit) (_ : Unit) (_ : Unit) (_ : Unit) (_ : Unit) (_ : Unit) (_ : Unit) (_ : Unit) (_ : Unit), Q [(11, .int .i64 x11_1), (0, .int .i64 a0), (1, .int .u32 a1), (2, v2), (6, .bool false), (7, .bool t1), (8, bp b6 0), (10, bp b22 0), (12, bp b28 0)] [Box b28 [.int .i64 x26.What, .int .i64 x26.I, .int .u32 x32.Version, .int .i64 x37.Mark, .int .u64 x26.Value, .bool x26.Now], Own 34 ek_api_Cell vy22_0_1 y22_0_1, Own 34 ek_api_Cell vy6_0_1 y6_0_1, Box b22 [vy22_0_1, .int .u32 y22_1_1], Box b6 [vy6_0_1, .int .u32 y6_1_1], F]) (T := [tS 10 (bp b22 0), tS 12 (bp b28 0), tE [(11, .int .i64 x11_1), (0, .int .i64 a0), (1, .int .u32 a1), (2, v2), (6, .bool false), (7, .bool t1), (8, bp b6 0)], tR (Box b28 [.int .i64 x26.What, .int .i64 x26.I, .int .u32 x32.Version, .int .i64 x26.Mark, .int .u64 x26.Value, .bool x26.Now]), tR (Own 34 ek_api_Cell vy22_0_1 y22_0_1), tR (Own 34 ek_api_Cell vy6_0_1 y6_0_1), tR (Box b22 [vy22_0_1, .int .u32 y22_1_1]), tR (Box b6 [vy6_0_1, .int .u32 y6_1_1]), tR (F), tS 114 (bp b22 0), tS 115 (bp b22 0), tS 116 (bp b22 0), tS 117 (vy22_0_1), tS 118 (bp b28 1), tS 119 (.int .i64 x26.I), tS 120 (idxp vy22_0_1 (x26.I.toNat * ek_api_Cell.sz)), tS 121 (idxp vy22_0_1 (x26.I.toNat * ek_api_Cell.sz + 2)), tS 122 (.int .i64 x37.Mark), tS 123 (bp b28 3), tR (Box b28 [.int .i64 x26.What, .int .i64 x26.I, .int .u32 x32.Version, .int .i64 x37.Mark, .int .u64 x26.Value, .bool x26.Now])]) (D := [⟨[0], [], [9]⟩, ⟨[9], [], [10]⟩, ⟨[10], [], [11]⟩, ⟨[11, 6], [], [12]⟩, ⟨[1], [], [13]⟩, ⟨[13, 3], [], [14]⟩, ⟨[12, 14, 4], [], [15]⟩, ⟨[15, 4], [], [16]⟩, ⟨[16, 4], [], [17]⟩, ⟨[1], [], [18]⟩, ⟨[17, 18], [3], [19]⟩]) (ini := [0, 1, 2, 3, 4, 5, 6, 7, 8]) (fin := [2, 0, 1, 19, 4, 5, 6, 7, 8]) (bf := [[], [0], [0, 1], [0, 1, 2], [], [4], [0, 1, 2, 3, 4, 5], [0, 1, 2, 3, 4, 5, 6], [0, 1, 2, 3, 4, 5, 6, 7], [0, 1, 2, 3, 4, 5, 6, 7, 8], [0, 1, 2, 3, 4, 5, 6, 7, 8, 9]]) (by kernel_rfl) (by kernel_rfl) (fun x w h1 h2 => (.cons () (.cons () (.cons () (.cons () (.cons () (.cons () (.cons () (.cons () (.cons () (.nil ⟨EnvAll.of h1 ⟨rfl, rfl, rfl, rfl, rfl, rfl, rfl, rfl, rfl, trivial⟩, h2⟩))))))))))) (fun Q => by kernel_rfl) ⟨?_, ?_, ?_, ?_, ?_, ?_, ?_, ?_, ?_, ?_, ?_, trivial⟩ ?_
                  · rintro Fr _
                    refine SO.v rfl (opv_move rfl) ?_
                    exact SO.nilZ fun a w h1 h2 h3 h4 h5 => PZ.of h1 h3 h5 (.cons () (.cons () (.nil ⟨EnvAll.of h2 ⟨rfl, rfl, trivial⟩, h4⟩)))
                  · rintro Fr _
                    refine SO.v rfl (opv_nilCheck rfl) ?_
                    exact SO.nilZ fun a w h1 h2 h3 h4 h5 => PZ.of h1 h3 h5 (.cons () (.cons () (.nil ⟨EnvAll.of h2 ⟨rfl, rfl, trivial⟩, h4⟩)))
                  · rintro Fr _
                    refine SO.v rfl (opv_fieldAddr Try.underlying47 rfl Try.sizeOf45 rfl rfl) ?_
                    exact SO.nilZ fun a w h1 h2 h3 h4 h5 => PZ.of h1 h3 h5 (.cons () (.cons () (.nil ⟨EnvAll.of h2 ⟨rfl, rfl, trivial⟩, h4⟩)))
                  · rintro Fr _ _
                    refine SO.load1 rfl Try.isAgg45 rfl rfl ?_
                    exact SO.nilZ fun a w h1 h2 h3 h4 h5 => PZ.of h1 h3 h5 (.cons () (.cons () (.cons () (.nil ⟨EnvAll.of h2 ⟨rfl, rfl, trivial⟩, h4⟩))))
                  · rintro Fr _
                    refine SO.v rfl (opv_fieldAddr Try.underlying32 rfl Try.sizeOf3 rfl rfl) ?_
                    exact SO.nilZ fun a w h1 h2 h3 h4 h5 => PZ.of h1 h3 h5 (.cons () (.cons () (.nil ⟨EnvAll.of h2 ⟨rfl, rfl, trivial⟩, h4⟩)))
                  · rintro Fr _ _
                    refine SO.load1 rfl Try.isAgg3 rfl rfl ?_
                    exact SO.nilZ fun a w h1 h2 h3 h4 h5 => PZ.of h1 h3 h5 (.cons () (.cons () (.cons () (.nil ⟨EnvAll.of h2 ⟨rfl, rfl, trivial⟩, h4⟩))))
                  · rintro Fr _ _ _
                    refine SO.v rfl (opv_idx Try.underlying45 Try.sizeOf34 hr24 rfl rfl hx38) ?_
                    exact SO.nilZ fun a w h1 h2 h3 h4 h5 => PZ.of h1 h3 h5 (.cons () (.cons () (.cons () (.cons () (.nil ⟨EnvAll.of h2 ⟨rfl, rfl, rfl, trivial⟩, h4⟩)))))
                  · rintro Fr _ _
                    refine SO.v rfl (opv_fieldIdx Try.underlying34 rfl Try.sizeOf3 hr24 hx38 rfl rfl) ?_
                    exact SO.nilZ fun a w h1 h2 h3 h4 h5 => PZ.of h1 h3 h5 (.cons () (.cons () (.cons () (.nil ⟨EnvAll.of h2 ⟨rfl, rfl, trivial⟩, h4⟩))))
                  · rintro Fr _ _
                    refine SO.loadI1 (j := 2) rfl Try.isAgg3 (Rd.head hr24) hx38 rfl rfl rfl rfl ?_
                    exact SO.nilZ fun a w h1 h2 h3 h4 h5 => PZ.of h1 h3 h5 (.cons () (.cons () (.cons () (.nil ⟨EnvAll.of h2 ⟨rfl, rfl, trivial⟩, h4⟩))))
                  · rintro Fr _
                    refine SO.v rfl (opv_fieldAddr Try.underlying32 rfl Try.sizeOf3 rfl rfl) ?_
                    exact SO.nilZ fun a w h1 h2 h3 h4 h5 => PZ.of h1 h3 h5 (.cons () (.cons () (.nil ⟨EnvAll.of h2 ⟨rfl, rfl, trivial⟩, h4⟩)))
                  · rintro Fr _ _ _
                    refine SO.store1 Try.sizeOf3 rfl rfl rfl rfl ?_
                    exact SO.nilZ fun a w h1 h2 h3 h4 h5 => PZ.of h1 h3 h5 (.cons () (.cons () (.cons () (.nil ⟨EnvAll.of h2 ⟨rfl, rfl, trivial⟩, h4⟩))))
                  rintro _ _ _ _ _ _ _ _ _
                  refine S.to (ρ' := [(11, .int .i64 x11_1), (0, .int .i64 a0), (1, .int .u32 a1), (2, v2), (6, .bool false), (7, .bool t1), (8, bp b6 0), (10, bp b22 0), (12, bp b28 0)]) ⟨rfl, rfl, rfl, rfl, rfl, rfl, rfl, rfl, rfl, trivial⟩ ?_
                  cases h
                  refine S.b5 ?_
                  refine S.b5 ?_
                  refine S.b5 ?_
                  refine S.b5 ?_
                  refine S.b5 ?_
                  refine S.b5 ?_
                  refine S.to ?_ (hk2 () trivial)
                  exact ⟨rfl, rfl, rfl, rfl, rfl, rfl, rfl, rfl, rfl, trivial⟩
                · replace h := cond_f b36 h
                  refine S.condF rfl b36 ?_
                  refine S.skip ?_
                  cases h
                  refine S.b5 ?_
                  refine S.b5 ?_
                  refine S.b5 ?_
                  refine S.b5 ?_
                  refine S.b5 ?_
                  refine S.b5 ?_
                  refine S.to ?_ (hk2 () trivial)
                  exact ⟨rfl, rfl, rfl, rfl, rfl, rfl, rfl, rfl, rfl, trivial⟩
              · replace h := cond_f b31 h
                refine S.condF rfl b31 ?_
                refine S.skip ?_
                cases h
                refine S.b5 ?_
                refine S.b5 ?_
                refine S.b5 ?_
                refine S.b5 ?_
                refine S.b5 ?_
                refine S.b5 ?_
                refine S.to ?_ (hk2 () trivial)
                exact ⟨rfl, rfl, rfl, rfl, rfl, rfl, rfl, rfl, rfl, trivial⟩
            rintro _ -
            replace h := hJ2
            refine S.seq ?_
            refine S.region ?_
            refine SO.v rfl (opv_assign rfl) ?_
            refine SO.nil ?_
            refine S.seq ?_
            refine S.region ?_
            refine SO.v rfl (opv_assign rfl) ?_
            refine SO.nil ?_
            refine S.seq ?_
            refine S.seq ?_
            refine S.region ?_
            refine SO.v rfl (opv_fieldAddr Try.underlying32 rfl Try.sizeOf3 rfl rfl) ?_
            refine SO.load1 rfl Try.isAgg3 rfl rfl ?_
            obtain ⟨t39, ht40, h⟩ := opt_bind h
            refine SO.call (pre := []) rfl Try.call8 rfl rfl rfl (law01_pick.ct _ _ _ ht40) trivial ?_
            rintro _ _ ⟨rfl, rfl⟩
            refine SO.nil ?_
            obtain ⟨⟨j13_3, j14_3, y22_0_3, y22_1_3, y6_0_3, y6_1_3⟩, hC3, hJ3⟩ := opt_bind h
            clear h
            refine S.cutP (G := (Value × Value)) (fun _ => True) (fun x => match x with | (vy22_0_3, vy6_0_3) => [(0, .int .i64 a0), (1, .int .u32 a1), (2, v2), (6, .bool false), (7, .bool t1), (8, bp b6 0), (10, bp b22 0), (11, .int .i64 x11_1), (12, bp b28 0), (13, .int .i64 j13_3), (14, errV 43 j14_3)]) (fun x => match x with | (vy22_0_3, vy6_0_3) => [Own 34 ek_api_Cell vy6_0_3 y6_0_3, Own 34 ek_api_Cell vy22_0_3 y22_0_3, Box b28 [.int .i64 x26.What, .int .i64 x26.I, .int .u32 y28_2_2, .int .i64 y28_3_2, .int .u64 x26.Value, .bool x26.Now], Box b22 [vy22_0_3, .int .u32 y22_1_3], Box b6 [vy6_0_3, .int .u32 y6_1_3], F]) (fun hk3 => ?_) ?_
            · replace h := hC3
              refine S.block ?_
              refine S.seq ?_
              refine S.region ?_
              refine SO.v rfl (opv_eql rfl rfl) ?_
              refine SO.v rfl (opv_assign rfl) ?_
              refine SO.nil ?_
              rcases bool_or (t39 == 0) with b41 | b41
              · replace h := cond_t b41 h
                refine S.condT rfl b41 ?_
                refine S.seq ?_
                refine S.region ?_
                refine SO.v rfl (opv_move rfl) ?_
                refine SO.v rfl (opv_fieldAddr Try.underlying32 rfl Try.sizeOf3 rfl rfl) ?_
                refine SO.load1 rfl Try.isAgg3 rfl rfl ?_
                obtain ⟨⟨t42, t43⟩, ht44, h⟩ := opt_bind h
                refine SO.b2 ?_
                refine SO.b4 ?_
                have ct47 := word_Store_Read.ct b6 vy6_0_1 _ _ _ _ ht44
                dsimp only at ct47
                refine SO.call (pre := [Box _ _, Own _ _ _ _]) rfl Try.call7 rfl rfl rfl ct47 trivial ?_
                rintro _ _ ⟨rfl, rfl⟩
                refine SO.v rfl (opv_move rfl) ?_
                refine SO.v rfl (opv_extract rfl rfl) ?_
                refine SO.v rfl (opv_extract rfl rfl) ?_
                refine SO.v rfl (opv_assign rfl) ?_
                refine SO.nil ?_
                refine S.to (ρ' := [(0, .int .i64 a0), (1, .int .u32 a1), (2, v2), (6, .bool false), (7, .bool t1), (8, bp b6 0), (10, bp b22 0), (11, .int .i64 x11_1), (12, bp b28 0), (13, .int .i64 0), (14, errV 43 t43)]) ⟨rfl, rfl, rfl, rfl, rfl, rfl, rfl, rfl, rfl, rfl, rfl, trivial⟩ ?_
                refine S.seq ?_
                refine S.region ?_
                refine SO.v rfl (opv_fieldAddr Try.underlying32 rfl Try.sizeOf3 rfl rfl) ?_
                refine SO.b2 ?_
                refine SO.load1 rfl Try.isAgg3 rfl rfl ?_
                refine SO.v rfl (opv_lss rfl rfl) ?_
                refine SO.v rfl (opv_move rfl) ?_
                refine SO.cut 5 156 (.bool ((decide (x26.I < 0)) || (decide (a0 ≤ x26.I)))) [Box b28 [.int .i64 x26.What, .int .i64 x26.I, .int .u32 y28_2_2, .int .i64 y28_3_2, .int .u64 x26.Value, .bool x26.Now], Box b6 [vy6_0_1, .int .u32 y6_1_1], Own 34 ek_api_Cell vy6_0_1 y6_0_1, Own 34 ek_api_Cell vy22_0_1 y22_0_1, Box b22 [vy22_0_1, .int .u32 y22_1_1], F] (fun l2 hk2 => ?_) ?_
                · rcases bool_or (decide (x26.I < 0)) with b45 | b45
                  · refine SO.passF rfl rfl rfl b45 rfl rfl ?_
                    refine SO.passF rfl rfl rfl b45 rfl rfl ?_
                    refine SO.passF rfl rfl rfl b45 rfl rfl ?_
                    refine SO.passF rfl rfl rfl b45 rfl rfl ?_
                    refine SO.v rfl (opv_pick_t' b45 rfl rfl) ?_
                    refine SO.b5 ?_
                    refine SO.b5 ?_
                    refine SO.b5 ?_
                    refine SO.b5 ?_
                    refine SO.b5 ?_
                    refine SO.b5 ?_
                    exact hk2.fitc (m := 5) rfl (or_t b45) rfl
                  · refine SO.takeT rfl rfl rfl b45 ?_
                    refine SO.v rfl (opv_fieldAddr Try.underlying32 rfl Try.sizeOf3 rfl rfl) ?_
                    refine SO.takeT rfl rfl rfl b45 ?_
                    refine SO.load1 rfl Try.isAgg3 rfl rfl ?_
                    refine SO.takeT rfl rfl rfl b45 ?_
                    refine SO.v rfl (opv_move rfl) ?_
                    refine SO.takeT rfl rfl rfl b45 ?_
                    refine SO.v rfl (opv_geq rfl rfl) ?_
                    refine SO.v rfl (opv_pick_f' b45 rfl rfl) ?_
                    refine SO.b5 ?_
                    refine SO.b5 ?_
                    refine SO.b5 ?_
                    refine SO.b5 ?_
                    refine SO.b5 ?_
                    refine SO.b5 ?_
                    exact hk2.fitc (m := 5) rfl (or_f b45) rfl
                refine SO.nil ?_
                rcases bool_or ((decide (x26.I < 0)) || (decide (a0 ≤ x26.I))) with b46 | b46
                · replace h := cond_t b46 h
                  refine S.condT rfl b46 ?_
                  refine S.region ?_
                  refine SO.v rfl (opv_assign rfl) ?_
                  refine SO.nil ?_
                  refine S.inBlock ?_
                  cases h
                  refine S.b5 ?_
                  refine S.b2 ?_
                  refine S.b5 ?_
                  refine S.b3 ?_
                  refine S.b5 ?_
                  refine S.b5 ?_
                  refine S.to ?_ (hk3 (vy22_0_1, vy6_0_1) trivial)
                  exact ⟨rfl, rfl, rfl, rfl, rfl, rfl, rfl, rfl, rfl, rfl, rfl, trivial⟩
                · replace h := cond_f b46 h
                  refine S.condF rfl b46 ?_
                  refine S.skip ?_
                  refine S.inBlock ?_
                  cases h
                  refine S.b5 ?_
                  refine S.b2 ?_
                  refine S.b5 ?_
                  refine S.b3 ?_
                  refine S.b5 ?_
                  refine S.b5 ?_
                  refine S.to ?_ (hk3 (vy22_0_1, vy6_0_1) trivial)
                  exact ⟨rfl, rfl, rfl, rfl, rfl, rfl, rfl, rfl, rfl, rfl, rfl, trivial⟩
              · replace h := cond_f b41 h
                refine S.condF rfl b41 ?_
                refine S.seq ?_
                refine S.region ?_
                refine SO.v rfl (opv_eql rfl rfl) ?_
                refine SO.v rfl (opv_assign rfl) ?_
                refine SO.nil ?_
                refine S.to (ρ' := [(0, .int .i64 a0), (1, .int .u32 a1), (2, v2), (6, .bool false), (7, .bool t1), (8, bp b6 0), (10, bp b22 0), (11, .int .i64 x11_1), (12, bp b28 0), (126, .int .i64 t39), (157, .bool (t39 == 1))]) ⟨rfl, rfl, rfl, rfl, rfl, rfl, rfl, rfl, rfl, rfl, rfl, trivial⟩ ?_
                rcases bool_or (t39 == 1) with b48 | b48
                · replace h := cond_t b48 h
                  refine S.condT rfl b48 ?_
                  refine S.seq ?_
                  refine S.region ?_
                  refine SO.v rfl (opv_move rfl) ?_
                  refine SO.v rfl (opv_fieldAddr Try.underlying32 rfl Try.sizeOf3 rfl rfl) ?_
                  refine SO.load1 rfl Try.isAgg3 rfl rfl ?_
                  refine SO.v rfl (opv_fieldAddr Try.underlying32 rfl Try.sizeOf22 rfl rfl) ?_
                  refine SO.load1 rfl Try.isAgg22 rfl rfl ?_
                  refine SO.v rfl (opv_fieldAddr Try.underlying32 rfl Try.sizeOf3 rfl rfl) ?_
                  refine SO.load1 rfl Try.isAgg3 rfl rfl ?_
                  obtain ⟨⟨t49, p50⟩, ht51, h⟩ := opt_bind h
                  refine SO.b2 ?_
                  refine SO.b4 ?_
                  have ct60 := word_Store_Reserve.ct b6 vy6_0_1 _ _ _ _ _ _ ht51
                  dsimp only at ct60
                  refine SO.call (pre := [Box _ _, Own _ _ _ _]) rfl Try.call9 rfl rfl rfl ct60 trivial ?_
                  rintro _ _ ⟨u52_l, rfl, rfl⟩
                  refine SO.b1 ?_
                  refine SO.rd fun hr53 => ?_
                  refine SO.v rfl (opv_assign rfl) ?_
                  refine SO.nil ?_
                  refine S.to (ρ' := [(0, .int .i64 a0), (1, .int .u32 a1), (2, v2), (6, .bool false), (7, .bool t1), (8, bp b6 0), (10, bp b22 0), (11, .int .i64 x11_1), (12, bp b28 0), (14, errV 43 t49)]) ⟨rfl, rfl, rfl, rfl, rfl, rfl, rfl, rfl, rfl, rfl, trivial⟩ ?_
                  refine S.region ?_
                  refine SO.v rfl (opv_move rfl) ?_
                  refine SO.v rfl (opv_fieldAddr Try.underlying32 rfl Try.sizeOf3 rfl rfl) ?_
                  refine SO.b2 ?_
                  refine SO.load1 rfl Try.isAgg3 rfl rfl ?_
                  refine SO.v rfl (opv_fieldAddr Try.underlying32 rfl Try.sizeOf22 rfl rfl) ?_
                  refine SO.load1 rfl Try.isAgg22 rfl rfl ?_
                  refine SO.v rfl (opv_fieldAddr Try.underlying32 rfl Try.sizeOf3 rfl rfl) ?_
                  refine SO.load1 rfl Try.isAgg3 rfl rfl ?_
                  obtain ⟨⟨t54, p55⟩, ht56, h⟩ := opt_bind h
                  refine SO.b3 ?_
                  refine SO.b4 ?_
                  have ct59 := ref01_Store_Reserve.ct b22 vy22_0_1 _ _ _ _ _ _ ht56
                  dsimp only at ct59
                  refine SO.call (pre := [Box _ _, Own _ _ _ _]) rfl Try.call13 rfl rfl rfl ct59 trivial ?_
                  rintro _ _ ⟨u57_L, rfl, rfl⟩
                  refine SO.b1 ?_
                  refine SO.rd fun hr58 => ?_
                  refine SO.v rfl (opv_assign rfl) ?_
                  refine SO.nil ?_
                  refine S.to (ρ' := [(0, .int .i64 a0), (1, .int .u32 a1), (2, v2), (6, .bool false), (7, .bool t1), (8, bp b6 0), (10, bp b22 0), (11, .int .i64 x11_1), (12, bp b28 0), (14, errV 43 t49), (13, .int .i64 t54)]) ⟨rfl, rfl, rfl, rfl, rfl, rfl, rfl, rfl, rfl, rfl, rfl, trivial⟩ ?_
                  refine S.inBlock ?_
                  cases h
                  refine S.b5 ?_
                  refine S.b5 ?_
                  refine S.b3 ?_
                  refine S.b4 ?_
                  refine S.b4 ?_
                  refine S.b5 ?_
                  refine S.to ?_ (hk3 (u57_L, u52_l) trivial)
                  exact ⟨rfl, rfl, rfl, rfl, rfl, rfl, rfl, rfl, rfl, rfl, rfl, trivial⟩
                · replace h := cond_f b48 h
                  refine S.condF rfl b48 ?_
                  refine S.seq ?_
                  refine S.region ?_
                  refine SO.v rfl (opv_eql rfl rfl) ?_
                  refine SO.v rfl (opv_assign rfl) ?_
                  refine SO.nil ?_
                  rcases bool_or (t39 == 2) with b61 | b61
                  · replace h := cond_t b61 h
                    refine S.condT rfl b61 ?_
                    refine S.seq ?_
                    refine S.region ?_
                    refine SO.v rfl (opv_move rfl) ?_
                    refine SO.v rfl (opv_fieldAddr Try.underlying32 rfl Try.sizeOf3 rfl rfl) ?_
                    refine SO.load1 rfl Try.isAgg3 rfl rfl ?_
                    refine SO.v rfl (opv_fieldAddr Try.underlying32 rfl Try.sizeOf3 rfl rfl) ?_
                    refine SO.load1 rfl Try.isAgg3 rfl rfl ?_
                    obtain ⟨⟨t62, p63⟩, ht64, h⟩ := opt_bind h
                    refine SO.b2 ?_
                    refine SO.b4 ?_
                    have ct73 := word_Store_Release.ct b6 vy6_0_1 _ _ _ _ _ ht64
                    dsimp only at ct73
                    refine SO.call (pre := [Box _ _, Own _ _ _ _]) rfl Try.call10 rfl rfl rfl ct73 trivial ?_
                    rintro _ _ ⟨u65_l, rfl, rfl⟩
                    refine SO.b1 ?_
                    refine SO.rd fun hr66 => ?_
                    refine SO.v rfl (opv_assign rfl) ?_
                    refine SO.nil ?_
                    refine S.to (ρ' := [(0, .int .i64 a0), (1, .int .u32 a1), (2, v2), (6, .bool false), (7, .bool t1), (8, bp b6 0), (10, bp b22 0), (11, .int .i64 x11_1), (12, bp b28 0), (14, errV 43 t62)]) ⟨rfl, rfl, rfl, rfl, rfl, rfl, rfl, rfl, rfl, rfl, trivial⟩ ?_
                    refine S.region ?_
                    refine SO.v rfl (opv_move rfl) ?_
                    refine SO.v rfl (opv_fieldAddr Try.underlying32 rfl Try.sizeOf3 rfl rfl) ?_
                    refine SO.b2 ?_
                    refine SO.load1 rfl Try.isAgg3 rfl rfl ?_
                    refine SO.v rfl (opv_fieldAddr Try.underlying32 rfl Try.sizeOf3 rfl rfl) ?_
                    refine SO.load1 rfl Try.isAgg3 rfl rfl ?_
                    obtain ⟨⟨t67, p68⟩, ht69, h⟩ := opt_bind h
                    refine SO.b3 ?_
                    refine SO.b4 ?_
                    have ct72 := ref01_Store_Release.ct b22 vy22_0_1 _ _ _ _ _ ht69
                    dsimp only at ct72
                    refine SO.call (pre := [Box _ _, Own _ _ _ _]) rfl Try.call14 rfl rfl rfl ct72 trivial ?_
                    rintro _ _ ⟨u70_L, rfl, rfl⟩
                    refine SO.b1 ?_
                    refine SO.rd fun hr71 => ?_
                    refine SO.v rfl (opv_assign rfl) ?_
                    refine SO.nil ?_
                    refine S.inBlock ?_
                    cases h
                    refine S.b5 ?_
                    refine S.b5 ?_
                    refine S.b3 ?_
                    refine S.b4 ?_
                    refine S.b4 ?_
                    refine S.b5 ?_
                    refine S.to ?_ (hk3 (u70_L, u65_l) trivial)
                    exact ⟨rfl, rfl, rfl, rfl, rfl, rfl, rfl, rfl, rfl, rfl, rfl, trivial⟩
                  · replace h := cond_f b61 h
                    refine S.condF rfl b61 ?_
                    refine S.seq ?_
                    refine S.region ?_
                    refine SO.v rfl (opv_eql rfl rfl) ?_
                    refine SO.v rfl (opv_assign rfl) ?_
                    refine SO.nil ?_
                    rcases bool_or (t39 == 3) with b74 | b74
                    · replace h := cond_t b74 h
                      refine S.condT rfl b74 ?_
                      refine S.seq ?_
                      refine S.region ?_
                      refine SO.v rfl (opv_move rfl) ?_
                      refine SO.v rfl (opv_fieldAddr Try.underlying32 rfl Try.sizeOf3 rfl rfl) ?_
                      refine SO.load1 rfl Try.isAgg3 rfl rfl ?_
                      refine SO.v rfl (opv_fieldAddr Try.underlying32 rfl Try.sizeOf3 rfl rfl) ?_
                      refine SO.load1 rfl Try.isAgg3 rfl rfl ?_
                      refine SO.v rfl (opv_fieldAddr Try.underlying32 rfl Try.sizeOf30 rfl rfl) ?_
                      refine SO.load1 rfl Try.isAgg30 rfl rfl ?_
                      obtain ⟨⟨t75, p76⟩, ht77, h⟩ := opt_bind h
                      refine SO.b2 ?_
                      refine SO.b4 ?_
                      have ct86 := word_Store_Put.ct b6 vy6_0_1 _ _ _ _ _ _ ht77
                      dsimp only at ct86
                      refine SO.call (pre := [Box _ _, Own _ _ _ _]) rfl Try.call11 rfl rfl rfl ct86 trivial ?_
                      rintro _ _ ⟨u78_l, rfl, rfl⟩
                      refine SO.b1 ?_
                      refine SO.rd fun hr79 => ?_
                      refine SO.v rfl (opv_assign rfl) ?_
                      refine SO.nil ?_
                      refine S.to (ρ' := [(0, .int .i64 a0), (1, .int .u32 a1), (2, v2), (6, .bool false), (7, .bool t1), (8, bp b6 0), (10, bp b22 0), (11, .int .i64 x11_1), (12, bp b28 0), (14, errV 43 t75)]) ⟨rfl, rfl, rfl, rfl, rfl, rfl, rfl, rfl, rfl, rfl, trivial⟩ ?_
                      refine S.region ?_
                      refine SO.v rfl (opv_move rfl) ?_
                      refine SO.v rfl (opv_fieldAddr Try.underlying32 rfl Try.sizeOf3 rfl rfl) ?_
                      refine SO.b2 ?_
                      refine SO.load1 rfl Try.isAgg3 rfl rfl ?_
                      refine SO.v rfl (opv_fieldAddr Try.underlying32 rfl Try.sizeOf3 rfl rfl) ?_
                      refine SO.load1 rfl Try.isAgg3 rfl rfl ?_
                      refine SO.v rfl (opv_fieldAddr Try.underlying32 rfl Try.sizeOf30 rfl rfl) ?_
                      refine SO.load1 rfl Try.isAgg30 rfl rfl ?_
                      obtain ⟨⟨t80, p81⟩, ht82, h⟩ := opt_bind h
                      refine SO.b3 ?_
                      refine SO.b4 ?_
                      have ct85 := ref01_Store_Put.ct b22 vy22_0_1 _ _ _ _ _ _ ht82
                      dsimp only at ct85
                      refine SO.call (pre := [Box _ _, Own _ _ _ _]) rfl Try.call15 rfl rfl rfl ct85 trivial ?_
                      rintro _ _ ⟨u83_L, rfl, rfl⟩
                      refine SO.b1 ?_
                      refine SO.rd fun hr84 => ?_
                      refine SO.v rfl (opv_assign rfl) ?_
                      refine SO.nil ?_
                      refine S.to (ρ' := [(0, .int .i64 a0), (1, .int .u32 a1), (2, v2), (6, .bool false), (7, .bool t1), (8, bp b6 0), (10, bp b22 0), (11, .int .i64 x11_1), (12, bp b28 0), (14, errV 43 t75), (13, .int .i64 t80)]) ⟨rfl, rfl, rfl, rfl, rfl, rfl, rfl, rfl, rfl, rfl, rfl, trivial⟩ ?_
                      refine S.inBlock ?_
                      cases h
                      refine S.b5 ?_
                      refine S.b5 ?_
                      refine S.b3 ?_
                      refine S.b4 ?_
                      refine S.b4 ?_
                      refine S.b5 ?_
                      refine S.to ?_ (hk3 (u83_L, u78_l) trivial)
                      exact ⟨rfl, rfl, rfl, rfl, rfl, rfl, rfl, rfl, rfl, rfl, rfl, trivial⟩
                    · replace h := cond_f b74 h
                      refine S.condF rfl b74 ?_
                      refine S.seq ?_
                      refine S.region ?_
                      refine SO.v rfl (opv_move rfl) ?_
                      refine SO.v rfl (opv_fieldAddr Try.underlying32 rfl Try.sizeOf3 rfl rfl) ?_
                      refine SO.load1 rfl Try.isAgg3 rfl rfl ?_
                      refine SO.v rfl (opv_fieldAddr Try.underlying32 rfl Try.sizeOf30 rfl rfl) ?_
                      refine SO.load1 rfl Try.isAgg30 rfl rfl ?_
                      obtain ⟨⟨t87, p88⟩, ht89, h⟩ := opt_bind h
                      refine SO.b2 ?_
                      refine SO.b4 ?_
                      have ct98 := word_Store_Set.ct b6 vy6_0_1 _ _ _ _ _ ht89
                      dsimp only at ct98
                      refine SO.call (pre := [Box _ _, Own _ _ _ _]) rfl Try.call12 rfl rfl rfl ct98 trivial ?_
                      rintro _ _ ⟨u90_l, rfl, rfl⟩
                      refine SO.b1 ?_
                      refine SO.rd fun hr91 => ?_
                      refine SO.v rfl (opv_assign rfl) ?_
                      refine SO.nil ?_
                      refine S.to (ρ' := [(0, .int .i64 a0), (1, .int .u32 a1), (2, v2), (6, .bool false), (7, .bool t1), (8, bp b6 0), (10, bp b22 0), (11, .int .i64 x11_1), (12, bp b28 0), (14, errV 43 t87)]) ⟨rfl, rfl, rfl, rfl, rfl, rfl, rfl, rfl, rfl, rfl, trivial⟩ ?_
                      refine S.region ?_
                      refine SO.v rfl (opv_move rfl) ?_
                      refine SO.v rfl (opv_fieldAddr Try.underlying32 rfl Try.sizeOf3 rfl rfl) ?_
                      refine SO.b2 ?_
                      refine SO.load1 rfl Try.isAgg3 rfl rfl ?_
                      refine SO.v rfl (opv_fieldAddr Try.underlying32 rfl Try.sizeOf30 rfl rfl) ?_
                      refine SO.load1 rfl Try.isAgg30 rfl rfl ?_
                      obtain ⟨⟨t92, p93⟩, ht94, h⟩ := opt_bind h
                      refine SO.b3 ?_
                      refine SO.b4 ?_
                      have ct97 := ref01_Store_Set.ct b22 vy22_0_1 _ _ _ _ _ ht94
                      dsimp only at ct97
                      refine SO.call (pre := [Box _ _, Own _ _ _ _]) rfl Try.call16 rfl rfl rfl ct97 trivial ?_
                      rintro _ _ ⟨u95_L, rfl, rfl⟩
                      refine SO.b1 ?_
                      refine SO.rd fun hr96 => ?_
                      refine SO.v rfl (opv_assign rfl) ?_
                      refine SO.nil ?_
                      refine S.inBlock ?_
                      cases h
                      refine S.b5 ?_
                      refine S.b5 ?_
                      refine S.b3 ?_
                      refine S.b4 ?_
                      refine S.b4 ?_
                      refine S.b5 ?_
                      refine S.to ?_ (hk3 (u95_L, u90_l) trivial)
                      exact ⟨rfl, rfl, rfl, rfl, rfl, rfl, rfl, rfl, rfl, rfl, rfl, trivial⟩
            rintro ⟨vy22_0_3, vy6_0_3⟩ -
            replace h := hJ3
            refine S.rd fun hr99 => ?_
            refine S.b1 ?_
            refine S.rd fun hr100 => ?_
            refine S.seq ?_
            refine S.seq ?_
            refine S.region ?_
            refine SO.v rfl (opv_move rfl) ?_
            obtain ⟨t101, ht102, h⟩ := opt_bind h
            refine SO.call (pre := []) rfl Try.call17 rfl rfl rfl (law00_Code.ct _ _ _ ht102) trivial ?_
            rintro _ _ ⟨rfl, rfl⟩
            refine SO.v rfl (opv_move rfl) ?_
            refine SO.v rfl (opv_neq rfl rfl) ?_
            refine SO.nil ?_
            rcases bool_or (t101 != j13_3) with b103 | b103
            · replace h := cond_t b103 h
              refine S.condT rfl b103 ?_
              refine S.seq ?_
              refine S.region ?_
              refine SO.v rfl (opv_assign rfl) ?_
              refine SO.nil ?_
              refine S.to (ρ' := [(6, .bool false)]) ⟨rfl, trivial⟩ ?_
              cases h
              replace h := hK1.1 _ rfl
              cases h
              refine S.drop ?_
              refine S.drop ?_
              refine S.drop ?_
              refine S.drop ?_
              refine S.drop ?_
              exact S.ret1 Try.func4 rfl rfl (fun w hs hk => hR w _ _ ⟨rfl, rfl⟩ hs hk)
            · replace h := cond_f b103 h
              refine S.condF rfl b103 ?_
              refine S.skip ?_
              refine S.seq ?_
              refine S.region ?_
              refine SO.v rfl (opv_fieldAddr Try.underlying32 rfl Try.sizeOf3 rfl rfl) ?_
              refine SO.b2 ?_
              refine SO.load1 rfl Try.isAgg3 rfl rfl ?_
              refine SO.v rfl (opv_geq rfl rfl) ?_
              refine SO.v rfl (opv_move rfl) ?_
              refine SO.cut 5 219 (.bool ((decide (0 ≤ x26.I)) && (decide (x26.I < a0)))) [Box b28 [.int .i64 x26.What, .int .i64 x26.I, .int .u32 y28_2_2, .int .i64 y28_3_2, .int .u64 x26.Value, .bool x26.Now], Own 34 ek_api_Cell vy22_0_3 y22_0_3, Own 34 ek_api_Cell vy6_0_3 y6_0_3, Box b22 [vy22_0_3, .int .u32 y22_1_3], Box b6 [vy6_0_3, .int .u32 y6_1_3], F] (fun l2 hk2 => ?_) ?_
              · rcases bool_or (decide (0 ≤ x26.I)) with b104 | b104
                · refine SO.takeT rfl rfl rfl b104 ?_
                  refine SO.v rfl (opv_fieldAddr Try.underlying32 rfl Try.sizeOf3 rfl rfl) ?_
                  refine SO.takeT rfl rfl rfl b104 ?_
                  refine SO.load1 rfl Try.isAgg3 rfl rfl ?_
                  refine SO.takeT rfl rfl rfl b104 ?_
                  refine SO.v rfl (opv_move rfl) ?_
                  refine SO.takeT rfl rfl rfl b104 ?_
                  refine SO.v rfl (opv_lss rfl rfl) ?_
                  refine SO.v rfl (opv_pick_t' b104 rfl rfl) ?_
                  refine SO.b5 ?_
                  refine SO.b5 ?_
                  refine SO.b5 ?_
                  refine SO.b5 ?_
                  refine SO.b5 ?_
                  refine SO.b5 ?_
                  exact hk2.fitc (m := 5) rfl (and_t b104) rfl
                · refine SO.passF rfl rfl rfl b104 rfl rfl ?_
                  refine SO.passF rfl rfl rfl b104 rfl rfl ?_
                  refine SO.passF rfl rfl rfl b104 rfl rfl ?_
                  refine SO.passF rfl rfl rfl b104 rfl rfl ?_
                  refine SO.v rfl (opv_pick_f' b104 rfl rfl) ?_
                  refine SO.b5 ?_
                  refine SO.b5 ?_
                  refine SO.b5 ?_
                  refine SO.b5 ?_
                  refine SO.b5 ?_
                  refine SO.b5 ?_
                  exact hk2.fitc (m := 5) rfl (and_f b104) rfl
              refine SO.nil ?_
              refine S.to (ρ' := [(0, .int .i64 a0), (1, .int .u32 a1), (2, v2), (6, .bool false), (7, .bool t1), (8, bp b6 0), (10, bp b22 0), (11, .int .i64 x11_1), (12, bp b28 0), (219, .bool ((decide (0 ≤ x26.I)) && (decide (x26.I < a0))))]) ⟨rfl, rfl, rfl, rfl, rfl, rfl, rfl, rfl, rfl, rfl, trivial⟩ ?_
              rcases bool_or ((decide (0 ≤ x26.I)) && (decide (x26.I < a0))) with b105 | b105
              · replace h := cond_t b105 h
                refine S.condT rfl b105 ?_
                refine S.seq ?_
                refine S.region ?_
                refine SO.v rfl (opv_move rfl) ?_
                refine SO.v rfl (opv_fieldAddr Try.underlying32 rfl Try.sizeOf3 rfl rfl) ?_
                refine SO.load1 rfl Try.isAgg3 rfl rfl ?_
                obtain ⟨⟨t106, t107⟩, ht108, h⟩ := opt_bind h
                refine SO.b2 ?_
                refine SO.b4 ?_
                have ct114 := word_Store_Read.ct b6 vy6_0_3 _ _ _ _ ht108
                dsimp only at ct114
                refine SO.call (pre := [Box _ _, Own _ _ _ _]) rfl Try.call7 rfl rfl rfl ct114 trivial ?_
                rintro _ _ ⟨rfl, rfl⟩
                refine SO.v rfl (opv_move rfl) ?_
                refine SO.v rfl (opv_extract rfl rfl) ?_
                refine SO.v rfl (opv_extract rfl rfl) ?_
                refine SO.alloc rfl Try.zeroValue34 rfl (fun b109 => ?_)
                refine SO.storeN Try.sizeOf34 rfl rfl rfl rfl rfl rfl ?_
                refine SO.v rfl (opv_assign rfl) ?_
                refine SO.nil ?_
                refine S.to (ρ' := [(0, .int .i64 a0), (1, .int .u32 a1), (2, v2), (6, .bool false), (7, .bool t1), (8, bp b6 0), (10, bp b22 0), (11, .int .i64 x11_1), (12, bp b28 0), (15, bp b109 0), (16, errV 43 t107)]) ⟨rfl, rfl, rfl, rfl, rfl, rfl, rfl, rfl, rfl, rfl, rfl, trivial⟩ ?_
                refine S.seq ?_
                obtain ⟨j240_4, hC4, hJ4⟩ := opt_bind h
                clear h
                refine S.cutP (G := Unit) (fun _ => True) (fun _ => [(0, .int .i64 a0), (1, .int .u32 a1), (2, v2), (6, .bool false), (7, .bool t1), (8, bp b6 0), (10, bp b22 0), (11, .int .i64 x11_1), (240, .bool j240_4)]) (fun _ => [Box b109 [.int .u64 t106.Value, .int .u32 t106.Version, .int .i64 t106.Mark], Box b6 [vy6_0_3, .int .u32 y6_1_3], Own 34 ek_api_Cell vy6_0_3 y6_0_3, Box b28 [.int .i64 x26.What, .int .i64 x26.I, .int .u32 y28_2_2, .int .i64 y28_3_2, .int .u64 x26.Value, .bool x26.Now], Own 34 ek_api_Cell vy22_0_3 y22_0_3, Box b22 [vy22_0_3, .int .u32 y22_1_3], F]) (fun hk4 => ?_) ?_
                · replace h := hC4
                  rcases bool_or t107.isSome with b110 | b110
                  · replace h := cond_t b110 h
                    refine S.draw' (Z := fun Q => ∀ (_ : Unit) (_ : Unit) (_ : Unit) (_ : Unit) (_ : Unit) (_ : Unit) (_ : Unit) (_ : Unit) (_ : Unit) (_ : Unit), Q [(0, .int .i64 a0), (1, .int .u32 a1), (2, v2), (6, .bool false), (7, .bool t1), (8, bp b6 0), (11, .int .i64 x11_1), (10, bp b22 0), (240, .bool true)] [Box b109 [.int .u64 t106.Value, .int .u32 t106.Version, .int .i64 t106.Mark], Box b6 [vy6_0_3, .int .u32 y6_1_3], Own 34 ek_api_Cell vy6_0_3 y6_0_3, Box b28 [.int .i64 x26.What, .int .i64 x26.I, .int .u32 y28_2_2, .int .i64 y28_3_2, .int .u64 x26.Value, .bool x26.Now], Own 34 ek_api_Cell vy22_0_3 y22_0_3, Box b22 [vy22_0_3, .int .u32 y22_1_3], F]) (T := [tS 16 (errV 43 t107), tS 15 (bp b109 0), tS 10 (bp b22 0), tS 12 (bp b28 0), tE [(0, .int .i64 a0), (1, .int .u32 a1), (2, v2), (6, .bool false), (7, .bool t1), (8, bp b6 0), (11, .int .i64 x11_1)], tR (Box b109 [.int .u64 t106.Value, .int .u32 t106.Version, .int .i64 t106.Mark]), tR (Box b6 [vy6_0_3, .int .u32 y6_1_3]), tR (Own 34 ek_api_Cell vy6_0_3 y6_0_3), tR (Box b28 [.int .i64 x26.What, .int .i64 x26.I, .int .u32 y28_2_2, .int .i64 y28_3_2, .int .u64 x26.Value, .bool x26.Now]), tR (Own 34 ek_api_Cell vy22_0_3 y22_0_3), tR (Box b22 [vy22_0_3, .int .u32 y22_1_3]), tR (F), tS 227 (errV 43 t107), tS 228 (.bool t107.isSome), tS 229 (.bool t107.isSome), tS 230 (undef), tS 231 (undef), tS 232 (undef), tS 233 (undef), tS 234 (undef), tS 235 (undef), tS 236 (undef), tS 237 (undef), tS 238 (undef), tS 239 (undef), tS 240 (.bool true)]) (D := [⟨[0], [], [12]⟩, ⟨[12], [], [13]⟩, ⟨[13], [], [14]⟩, ⟨[14], [], [15]⟩, ⟨[14], [], [16]⟩, ⟨[14], [], [17]⟩, ⟨[14], [], [18]⟩, ⟨[14], [], [19]⟩, ⟨[14], [], [20]⟩, ⟨[14], [], [21]⟩, ⟨[14], [], [22]⟩, ⟨[14], [], [23]⟩, ⟨[14], [], [24]⟩, ⟨[14, 24], [], [25]⟩]) (ini := [0, 1, 2, 3, 4, 5, 6, 7, 8, 9, 10, 11]) (fin := [4, 2, 25, 5, 6, 7, 8, 9, 10, 11]) (bf := [[], [0], [0, 1], [0, 1, 2], [0, 1, 2], [0, 1, 2, 4], [0, 1, 2, 4, 5], [0, 1, 2, 4, 5, 6], [0, 1, 2], [0, 1, 2, 8], [0, 1, 2, 4, 5, 6, 7, 8, 9], [0, 1, 2, 4, 5, 6, 7, 8, 9, 10], [0, 1, 2, 3, 4, 5, 6, 7, 8, 9, 10, 11], [0, 1, 2, 3, 4, 5, 6, 7, 8, 9, 10, 11, 12]]) (by kernel_rfl) (by kernel_rfl) (fun x w h1 h2 => (.cons () (.cons () (.cons () (.cons () (.cons () (.cons () (.cons () (.cons () (.cons () (.cons () (.cons () (.cons () (.nil ⟨EnvAll.of h1 ⟨rfl, rfl, rfl, rfl, rfl, rfl, rfl, rfl, rfl, rfl, rfl, trivial⟩, h2⟩)))))))))))))) (fun Q => by kernel_rfl) ⟨?_, ?_, ?_, ?_, ?_, ?_, ?_, ?_, ?_, ?_, ?_, ?_, ?_, ?_, trivial⟩ ?_
                    · rintro Fr _
                      refine SO.v rfl (opv_move rfl) ?_
                      exact SO.nilZ fun a w h1 h2 h3 h4 h5 => PZ.of h1 h3 h5 (.cons () (.cons () (.nil ⟨EnvAll.of h2 ⟨rfl, rfl, trivial⟩, h4⟩)))
                    · rintro Fr _
                      refine SO.v rfl (opv_neqN (e := t107) Try.underlying27 rfl) ?_
                      exact SO.nilZ fun a w h1 h2 h3 h4 h5 => PZ.of h1 h3 h5 (.cons () (.cons () (.nil ⟨EnvAll.of h2 ⟨rfl, rfl, trivial⟩, h4⟩)))
                    · rintro Fr _
                      refine SO.v rfl (opv_move rfl) ?_
                      exact SO.nilZ fun a w h1 h2 h3 h4 h5 => PZ.of h1 h3 h5 (.cons () (.cons () (.nil ⟨EnvAll.of h2 ⟨rfl, rfl, trivial⟩, h4⟩)))
                    · rintro Fr _
                      refine SO.passF rfl rfl rfl b110 rfl rfl ?_
                      exact SO.nilZ fun a w h1 h2 h3 h4 h5 => PZ.of h1 h3 h5 (.cons () (.cons () (.nil ⟨EnvAll.of h2 ⟨rfl, rfl, trivial⟩, h4⟩)))
                    · rintro Fr _
                      refine SO.passF rfl rfl rfl b110 rfl rfl ?_
                      exact SO.nilZ fun a w h1 h2 h3 h4 h5 => PZ.of h1 h3 h5 (.cons () (.cons () (.nil ⟨EnvAll.of h2 ⟨rfl, rfl, trivial⟩, h4⟩)))
                    · rintro Fr _
                      refine SO.passF rfl rfl rfl b110 rfl rfl ?_
                      exact SO.nilZ fun a w h1 h2 h3 h4 h5 => PZ.of h1 h3 h5 (.cons () (.cons () (.nil ⟨EnvAll.of h2 ⟨rfl, rfl, trivial⟩, h4⟩)))
                    · rintro Fr _
                      refine SO.passF rfl rfl rfl b110 rfl rfl ?_
                      exact SO.nilZ fun a w h1 h2 h3 h4 h5 => PZ.of h1 h3 h5 (.cons () (.cons () (.nil ⟨EnvAll.of h2 ⟨rfl, rfl, trivial⟩, h4⟩)))
                    · rintro Fr _
                      refine SO.passF rfl rfl rfl b110 rfl rfl ?_
                      exact SO.nilZ fun a w h1 h2 h3 h4 h5 => PZ.of h1 h3 h5 (.cons () (.cons () (.nil ⟨EnvAll.of h2 ⟨rfl, rfl, trivial⟩, h4⟩)))
                    · rintro Fr _
                      refine SO.passF rfl rfl rfl b110 rfl rfl ?_
                      exact SO.nilZ fun a w h1 h2 h3 h4 h5 => PZ.of h1 h3 h5 (.cons () (.cons () (.nil ⟨EnvAll.of h2 ⟨rfl, rfl, trivial⟩, h4⟩)))
                    · rintro Fr _
                      refine SO.passF rfl rfl rfl b110 rfl rfl ?_
                      exact SO.nilZ fun a w h1 h2 h3 h4 h5 => PZ.of h1 h3 h5 (.cons () (.cons () (.nil ⟨EnvAll.of h2 ⟨rfl, rfl, trivial⟩, h4⟩)))
                    · rintro Fr _
                      refine SO.passF rfl rfl rfl b110 rfl rfl ?_
                      exact SO.nilZ fun a w h1 h2 h3 h4 h5 => PZ.of h1 h3 h5 (.cons () (.cons () (.nil ⟨EnvAll.of h2 ⟨rfl, rfl, trivial⟩, h4⟩)))
                    · rintro Fr _
                      refine SO.passF rfl rfl rfl b110 rfl rfl ?_
                      exact SO.nilZ fun a w h1 h2 h3 h4 h5 => PZ.of h1 h3 h5 (.cons () (.cons () (.nil ⟨EnvAll.of h2 ⟨rfl, rfl, trivial⟩, h4⟩)))
                    · rintro Fr _
                      refine SO.passF rfl rfl rfl b110 rfl rfl ?_
                      exact SO.nilZ fun a w h1 h2 h3 h4 h5 => PZ.of h1 h3 h5 (.cons () (.cons () (.nil ⟨EnvAll.of h2 ⟨rfl, rfl, trivial⟩, h4⟩)))
                    · rintro Fr _ _
                      refine SO.v rfl (opv_pick_t' b110 rfl rfl) ?_
                      exact SO.nilZ fun a w h1 h2 h3 h4 h5 => PZ.of h1 h3 h5 (.cons () (.cons () (.cons () (.nil ⟨EnvAll.of h2 ⟨rfl, rfl, rfl, trivial⟩, h4⟩))))
                    rintro _ _ _ _ _ _ _ _ _ _
                    refine S.to (ρ' := [(0, .int .i64 a0), (1, .int .u32 a1), (2, v2), (6, .bool false), (7, .bool t1), (8, bp b6 0), (11, .int .i64 x11_1), (10, bp b22 0), (240, .bool true)]) ⟨rfl, rfl, rfl, rfl, rfl, rfl, rfl, rfl, rfl, trivial⟩ ?_
                    cases h
                    refine S.b6 ?_
                    refine S.b6 ?_
                    refine S.b6 ?_
                    refine S.b6 ?_
                    refine S.b6 ?_
                    refine S.b6 ?_
                    refine S.b6 ?_
                    refine S.to ?_ (hk4 () trivial)
                    exact ⟨rfl, rfl, rfl, rfl, rfl, rfl, rfl, rfl, rfl, trivial⟩
                  · replace h := cond_f b110 h
                    obtain ⟨x111, hx112, h⟩ := opt_bind h
                    refine S.draw' (Z := fun Q => ∀ (_ : Unit) (_ : Unit) (_ : Unit) (_ : Unit) (_ : Unit) (_ : Unit) (_ : Unit) (_ : Unit) (_ : Unit) (_ : Unit), Q [(0, .int .i64 a0), (1, .int .u32 a1), (2, v2), (6, .bool false), (7, .bool t1), (8, bp b6 0), (11, .int .i64 x11_1), (10, bp b22 0), (240, .bool (!decide (t106 = x111)))] [Box b109 [.int .u64 t106.Value, .int .u32 t106.Version, .int .i64 t106.Mark], Box b6 [vy6_0_3, .int .u32 y6_1_3], Own 34 ek_api_Cell vy6_0_3 y6_0_3, Box b28 [.int .i64 x26.What, .int .i64 x26.I, .int .u32 y28_2_2, .int .i64 y28_3_2, .int .u64 x26.Value, .bool x26.Now], Own 34 ek_api_Cell vy22_0_3 y22_0_3, Box b22 [vy22_0_3, .int .u32 y22_1_3], F]) (T := [tS 16 (errV 43 t107), tS 15 (bp b109 0), tS 10 (bp b22 0), tS 12 (bp b28 0), tE [(0, .int .i64 a0), (1, .int .u32 a1), (2, v2), (6, .bool false), (7, .bool t1), (8, bp b6 0), (11, .int .i64 x11_1)], tR (Box b109 [.int .u64 t106.Value, .int .u32 t106.Version, .int .i64 t106.Mark]), tR (Box b6 [vy6_0_3, .int .u32 y6_1_3]), tR (Own 34 ek_api_Cell vy6_0_3 y6_0_3), tR (Box b28 [.int .i64 x26.What, .int .i64 x26.I, .int .u32 y28_2_2, .int .i64 y28_3_2, .int .u64 x26.Value, .bool x26.Now]), tR (Own 34 ek_api_Cell vy22_0_3 y22_0_3), tR (Box b22 [vy22_0_3, .int .u32 y22_1_3]), tR (F), tS 227 (errV 43 t107), tS 228 (.bool t107.isSome), tS 229 (.bool t107.isSome), tS 230 (.agg #[.int .u64 t106.Value, .int .u32 t106.Version, .int .i64 t106.Mark]), tS 231 (bp b22 0), tS 232 (bp b22 0), tS 233 (bp b22 0), tS 234 (vy22_0_3), tS 235 (bp b28 1), tS 236 (.int .i64 x26.I), tS 237 (idxp vy22_0_3 (x26.I.toNat * ek_api_Cell.sz)), tS 238 (.agg #[.int .u64 x111.Value, .int .u32 x111.Version, .int .i64 x111.Mark]), tS 239 (.bool (!decide (t106 = x111))), tS 240 (.bool (!decide (t106 = x111)))]) (D := [⟨[0], [], [12]⟩, ⟨[12], [], [13]⟩, ⟨[13], [], [14]⟩, ⟨[1, 14, 5], [], [15]⟩, ⟨[2, 14], [], [16]⟩, ⟨[14, 16], [], [17]⟩, ⟨[14, 17], [], [18]⟩, ⟨[14, 18, 10], [], [19]⟩, ⟨[3, 14], [], [20]⟩, ⟨[14, 20, 8], [], [21]⟩, ⟨[14, 19, 21, 9], [], [22]⟩, ⟨[14, 22, 9], [], [23]⟩, ⟨[14, 15, 23], [], [24]⟩, ⟨[14, 24], [], [25]⟩]) (ini := [0, 1, 2, 3, 4, 5, 6, 7, 8, 9, 10, 11]) (fin := [4, 2, 25, 5, 6, 7, 8, 9, 10, 11]) (bf := [[], [0], [0, 1], [0, 1, 2], [0, 1, 2], [0, 1, 2, 4], [0, 1, 2, 4, 5], [0, 1, 2, 4, 5, 6], [0, 1, 2], [0, 1, 2, 8], [0, 1, 2, 4, 5, 6, 7, 8, 9], [0, 1, 2, 4, 5, 6, 7, 8, 9, 10], [0, 1, 2, 3, 4, 5, 6, 7, 8, 9, 10, 11], [0, 1, 2, 3, 4, 5, 6, 7, 8, 9, 10, 11, 12]]) (by kernel_rfl) (by kernel_rfl) (fun x w h1 h2 => (.cons () (.cons () (.cons () (.cons () (.cons () (.cons () (.cons () (.cons () (.cons () (.cons () (.cons () (.cons () (.nil ⟨EnvAll.of h1 ⟨rfl, rfl, rfl, rfl, rfl, rfl, rfl, rfl, rfl, rfl, rfl, trivial⟩, h2⟩)))))))))))))) (fun Q => by kernel_rfl) ⟨?_, ?_, ?_, ?_, ?_, ?_, ?_, ?_, ?_, ?_, ?_, ?_, ?_, ?_, trivial⟩ ?_
                    · rintro Fr _
                      refine SO.v rfl (opv_move rfl) ?_
                      exact SO.nilZ fun a w h1 h2 h3 h4 h5 => PZ.of h1 h3 h5 (.cons () (.cons () (.nil ⟨EnvAll.of h2 ⟨rfl, rfl, trivial⟩, h4⟩)))
                    · rintro Fr _
                      refine SO.v rfl (opv_neqN (e := t107) Try.underlying27 rfl) ?_
                      exact SO.nilZ fun a w h1 h2 h3 h4 h5 => PZ.of h1 h3 h5 (.cons () (.cons () (.nil ⟨EnvAll.of h2 ⟨rfl, rfl, trivial⟩, h4⟩)))
                    · rintro Fr _
                      refine SO.v rfl (opv_move rfl) ?_
                      exact SO.nilZ fun a w h1 h2 h3 h4 h5 => PZ.of h1 h3 h5 (.cons () (.cons () (.nil ⟨EnvAll.of h2 ⟨rfl, rfl, trivial⟩, h4⟩)))
                    · rintro Fr _ _ _
                      refine SO.takeT rfl rfl rfl b110 ?_
                      refine SO.loadN rfl Try.isAgg34 Try.sizeOf34 rfl rfl rfl ?_
                      exact SO.nilZ fun a w h1 h2 h3 h4 h5 => PZ.of h1 h3 h5 (.cons () (.cons () (.cons () (.cons () (.nil ⟨EnvAll.of h2 ⟨rfl, rfl, rfl, trivial⟩, h4⟩)))))
                    · rintro Fr _ _
                      refine SO.takeT rfl rfl rfl b110 ?_
                      refine SO.v rfl (opv_move rfl) ?_
                      exact SO.nilZ fun a w h1 h2 h3 h4 h5 => PZ.of h1 h3 h5 (.cons () (.cons () (.cons () (.nil ⟨EnvAll.of h2 ⟨rfl, rfl, rfl, trivial⟩, h4⟩))))
                    · rintro Fr _ _
                      refine SO.takeT rfl rfl rfl b110 ?_
                      refine SO.v rfl (opv_nilCheck rfl) ?_
                      exact SO.nilZ fun a w h1 h2 h3 h4 h5 => PZ.of h1 h3 h5 (.cons () (.cons () (.cons () (.nil ⟨EnvAll.of h2 ⟨rfl, rfl, rfl, trivial⟩, h4⟩))))
                    · rintro Fr _ _
                      refine SO.takeT rfl rfl rfl b110 ?_
                      refine SO.v rfl (opv_fieldAddr Try.underlying47 rfl Try.sizeOf45 rfl rfl) ?_
                      exact SO.nilZ fun a w h1 h2 h3 h4 h5 => PZ.of h1 h3 h5 (.cons () (.cons () (.cons () (.nil ⟨EnvAll.of h2 ⟨rfl, rfl, rfl, trivial⟩, h4⟩))))
                    · rintro Fr _ _ _
                      refine SO.takeT rfl rfl rfl b110 ?_
                      refine SO.load1 rfl Try.isAgg45 rfl rfl ?_
                      exact SO.nilZ fun a w h1 h2 h3 h4 h5 => PZ.of h1 h3 h5 (.cons () (.cons () (.cons () (.cons () (.nil ⟨EnvAll.of h2 ⟨rfl, rfl, rfl, trivial⟩, h4⟩)))))
                    · rintro Fr _ _
                      refine SO.takeT rfl rfl rfl b110 ?_
                      refine SO.v rfl (opv_fieldAddr Try.underlying32 rfl Try.sizeOf3 rfl rfl) ?_
                      exact SO.nilZ fun a w h1 h2 h3 h4 h5 => PZ.of h1 h3 h5 (.cons () (.cons () (.cons () (.nil ⟨EnvAll.of h2 ⟨rfl, rfl, rfl, trivial⟩, h4⟩))))
                    · rintro Fr _ _ _
                      refine SO.takeT rfl rfl rfl b110 ?_
                      refine SO.load1 rfl Try.isAgg3 rfl rfl ?_
                      exact SO.nilZ fun a w h1 h2 h3 h4 h5 => PZ.of h1 h3 h5 (.cons () (.cons () (.cons () (.cons () (.nil ⟨EnvAll.of h2 ⟨rfl, rfl, rfl, trivial⟩, h4⟩)))))
                    · rintro Fr _ _ _ _
                      refine SO.takeT rfl rfl rfl b110 ?_
                      refine SO.v rfl (opv_idx Try.underlying45 Try.sizeOf34 hr100 rfl rfl hx112) ?_
                      exact SO.nilZ fun a w h1 h2 h3 h4 h5 => PZ.of h1 h3 h5 (.cons () (.cons () (.cons () (.cons () (.cons () (.nil ⟨EnvAll.of h2 ⟨rfl, rfl, rfl, rfl, trivial⟩, h4⟩))))))
                    · rintro Fr _ _ _
                      refine SO.takeT rfl rfl rfl b110 ?_
                      refine SO.loadIN rfl Try.isAgg34 Try.sizeOf34 (Rd.head hr100) hx112 rfl rfl rfl ?_
                      exact SO.nilZ fun a w h1 h2 h3 h4 h5 => PZ.of h1 h3 h5 (.cons () (.cons () (.cons () (.cons () (.nil ⟨EnvAll.of h2 ⟨rfl, rfl, rfl, trivial⟩, h4⟩)))))
                    · rintro Fr _ _ _
                      refine SO.takeT rfl rfl rfl b110 ?_
                      refine SO.v rfl (eq_neq_api_Cell (x := t106) (y := x111) rfl rfl) ?_
                      exact SO.nilZ fun a w h1 h2 h3 h4 h5 => PZ.of h1 h3 h5 (.cons () (.cons () (.cons () (.cons () (.nil ⟨EnvAll.of h2 ⟨rfl, rfl, rfl, rfl, trivial⟩, h4⟩)))))
                    · rintro Fr _ _
                      refine SO.v rfl (opv_pick_f' b110 rfl rfl) ?_
                      exact SO.nilZ fun a w h1 h2 h3 h4 h5 => PZ.of h1 h3 h5 (.cons () (.cons () (.cons () (.nil ⟨EnvAll.of h2 ⟨rfl, rfl, rfl, trivial⟩, h4⟩))))
                    rintro _ _ _ _ _ _ _ _ _ _
                    refine S.to (ρ' := [(0, .int .i64 a0), (1, .int .u32 a1), (2, v2), (6, .bool false), (7, .bool t1), (8, bp b6 0), (11, .int .i64 x11_1), (10, bp b22 0), (240, .bool (!decide (t106 = x111)))]) ⟨rfl, rfl, rfl, rfl, rfl, rfl, rfl, rfl, rfl, trivial⟩ ?_
                    cases h
                    refine S.b6 ?_
                    refine S.b6 ?_
                    refine S.b6 ?_
                    refine S.b6 ?_
                    refine S.b6 ?_
                    refine S.b6 ?_
                    refine S.b6 ?_
                    refine S.to ?_ (hk4 () trivial)
                    exact ⟨rfl, rfl, rfl, rfl, rfl, rfl, rfl, rfl, rfl, trivial⟩
                rintro _ -
                replace h := hJ4
                rcases bool_or j240_4 with b113 | b113
                · replace h := cond_t b113 h
                  refine S.condT rfl b113 ?_
                  refine S.seq ?_
                  refine S.region ?_
                  refine SO.v rfl (opv_assign rfl) ?_
                  refine SO.nil ?_
                  refine S.to (ρ' := [(6, .bool false)]) ⟨rfl, trivial⟩ ?_
                  cases h
                  replace h := hK1.1 _ rfl
                  cases h
                  refine S.drop ?_
                  refine S.drop ?_
                  refine S.drop ?_
                  refine S.drop ?_
                  refine S.drop ?_
                  refine S.drop ?_
                  exact S.ret1 Try.func4 rfl rfl (fun w hs hk => hR w _ _ ⟨rfl, rfl⟩ hs hk)
                · replace h := cond_f b113 h
                  refine S.condF rfl b113 ?_
                  refine S.skip ?_
                  refine S.inBlock ?_
                  refine S.region ?_
                  refine SO.v rfl (opv_move rfl) ?_
                  refine SO.v rfl (opv_add rfl rfl) ?_
                  refine SO.v rfl (opv_assign rfl) ?_
                  refine SO.nil ?_
                  refine S.drop ?_
                  refine S.b2 ?_
                  refine S.drop ?_
                  refine S.b4 ?_
                  refine S.b1 ?_
                  refine S.b4 ?_
                  refine S.b4 ?_
                  refine S.b4 ?_
                  refine S.to ?_ (ih1 ((w64 (x11_1 + 1), y22_0_3, y22_1_3, y6_0_3, y6_1_3), (vy22_0_3, vy6_0_3)) h)
                  exact ⟨rfl, rfl, rfl, rfl, rfl, rfl, rfl, rfl, trivial⟩
              · replace h := cond_f b105 h
                refine S.condF rfl b105 ?_
                refine S.skip ?_
                refine S.inBlock ?_
                refine S.region ?_
                refine SO.v rfl (opv_move rfl) ?_
                refine SO.v rfl (opv_add rfl rfl) ?_
                refine SO.v rfl (opv_assign rfl) ?_
                refine SO.nil ?_
                refine S.drop ?_
                refine S.b4 ?_
                refine S.b4 ?_
                refine S.b4 ?_
                refine S.b3 ?_
                refine S.b4 ?_
                refine S.to ?_ (ih1 ((w64 (x11_1 + 1), y22_0_3, y22_1_3, y6_0_3, y6_1_3), (vy22_0_3, vy6_0_3)) h)
                exact ⟨rfl, rfl, rfl, rfl, rfl, rfl, rfl, rfl, trivial⟩
          · replace h := cond_f b25 h
            refine S.condF rfl b25 ?_
            refine S.exit rfl ?_
            cases h
            refine S.b4 ?_
            refine S.b4 ?_
            refine S.b4 ?_
            refine S.b3 ?_
            refine S.b4 ?_
            refine S.to ?_ (hK1.2 (y22_0_1, y22_1_1, y6_0_1, y6_1_1) (vy22_0_1, vy6_0_1) rfl)
            exact ⟨rfl, rfl, rfl, rfl, rfl, rfl, trivial⟩
        refine ⟨fun r' e' => ?_, ?_⟩
        · subst e'
          have h9 := Brk.of_ret h
          exact h9
        rintro ⟨y22_0_e1, y22_1_e1, y6_0_e1, y6_1_e1⟩ ⟨vy22_0_e1, vy6_0_e1⟩ e'
        subst e'
        replace h := Brk.of_nx h
        refine S.rd fun hr115 => ?_
        refine S.b1 ?_
        refine S.rd fun hr116 => ?_
        refine S.seq ?_
        refine S.region ?_
        refine SO.v rfl (opv_move rfl) ?_
        obtain ⟨t117, ht118, h⟩ := opt_bind h
        refine SO.b1 ?_
        refine SO.b3 ?_
        have ct140 := word_Store_Values.ct _ b6 vy6_0_e1 _ _ ht118
        dsimp only at ct140
        refine SO.call (pre := [Box _ _, Own _ _ _ _]) rfl Try.call18 rfl rfl rfl ct140 trivial ?_
        rintro v119 _ ⟨_, rfl, rfl⟩
        refine SO.rd fun hr120 => ?_
        refine SO.v rfl (opv_assign rfl) ?_
        refine SO.nil ?_
        refine S.seq ?_
        refine S.seq ?_
        refine S.region ?_
        refine SO.v rfl (opv_move rfl) ?_
        refine SO.v rfl (opv_lenR rfl Try.underlying52 hr120 rfl) ?_
        refine SO.v rfl (opv_move rfl) ?_
        refine SO.v rfl (opv_neq rfl rfl) ?_
        refine SO.v rfl (opv_move rfl) ?_
        obtain ⟨c122, hc123, hgk⟩ := opt_bind h
        refine SO.cut 5 252 (.bool c122) [Own 30 (ekI .u64) v119 t117, Box b6 [vy6_0_e1, .int .u32 y6_1_e1], Own 34 ek_api_Cell vy6_0_e1 y6_0_e1, Own 34 ek_api_Cell vy22_0_e1 y22_0_e1, Box b22 [vy22_0_e1, .int .u32 y22_1_e1], F] (fun l2 hk2 => ?_) ?_
        · clear hgk
          replace h := hc123
          rcases bool_or ((t117.length : Int) != a0) with b121 | b121
          · replace h := cond_t b121 h
            refine SO.passF rfl rfl rfl b121 rfl rfl ?_
            refine SO.passF rfl rfl rfl b121 rfl rfl ?_
            refine SO.passF rfl rfl rfl b121 rfl rfl ?_
            refine SO.passF rfl rfl rfl b121 rfl rfl ?_
            cases h
            refine SO.v rfl (opv_pick_t' b121 rfl rfl) ?_
            refine SO.b5 ?_
            refine SO.b5 ?_
            refine SO.b5 ?_
            refine SO.b5 ?_
            refine SO.b5 ?_
            refine SO.b5 ?_
            exact hk2.fitc (m := 5) rfl (rfl) rfl
          · replace h := cond_f b121 h
            refine SO.takeT rfl rfl rfl b121 ?_
            refine SO.v rfl (opv_move rfl) ?_
            refine SO.takeT rfl rfl rfl b121 ?_
            obtain ⟨t124, ht125, h⟩ := opt_bind h
            refine SO.b2 ?_
            refine SO.b2 ?_
            have ct126 := word_Store_Len.ct b6 vy6_0_e1 _ _ ht125
            dsimp only at ct126
            refine SO.call (pre := [Box _ _, Own _ _ _ _]) rfl Try.call19 rfl rfl rfl ct126 trivial ?_
            rintro _ _ ⟨rfl, rfl⟩
            refine SO.takeT rfl rfl rfl b121 ?_
            refine SO.v rfl (opv_move rfl) ?_
            refine SO.takeT rfl rfl rfl b121 ?_
            refine SO.v rfl (opv_neq rfl rfl) ?_
            cases h
            refine SO.v rfl (opv_pick_f' b121 rfl rfl) ?_
            refine SO.b5 ?_
            refine SO.b5 ?_
            refine SO.b5 ?_
            refine SO.b4 ?_
            refine SO.b4 ?_
            refine SO.b5 ?_
            exact hk2.fitc (m := 5) rfl (rfl) rfl
        clear hc123
        replace h := hgk
        refine SO.v rfl (opv_move rfl) ?_
        obtain ⟨c128, hc129, hgk⟩ := opt_bind h
        refine SO.cut 5 258 (.bool c128) [Own 30 (ekI .u64) v119 t117, Box b6 [vy6_0_e1, .int .u32 y6_1_e1], Own 34 ek_api_Cell vy6_0_e1 y6_0_e1, Own 34 ek_api_Cell vy22_0_e1 y22_0_e1, Box b22 [vy22_0_e1, .int .u32 y22_1_e1], F] (fun l2 hk2 => ?_) ?_
        · clear hgk
          replace h := hc129
          rcases bool_or c122 with b127 | b127
          · replace h := cond_t b127 h
            refine SO.passF rfl rfl rfl b127 rfl rfl ?_
            refine SO.passF rfl rfl rfl b127 rfl rfl ?_
            refine SO.passF rfl rfl rfl b127 rfl rfl ?_
            refine SO.passF rfl rfl rfl b127 rfl rfl ?_
            cases h
            refine SO.v rfl (opv_pick_t' b127 rfl rfl) ?_
            refine SO.b5 ?_
            refine SO.b5 ?_
            refine SO.b5 ?_
            refine SO.b5 ?_
            refine SO.b5 ?_
            refine SO.b5 ?_
            exact hk2.fitc (m := 5) rfl (rfl) rfl
          · replace h := cond_f b127 h
            refine SO.takeT rfl rfl rfl b127 ?_
            refine SO.v rfl (opv_move rfl) ?_
            refine SO.takeT rfl rfl rfl b127 ?_
            obtain ⟨t130, ht131, h⟩ := opt_bind h
            refine SO.b2 ?_
            refine SO.b2 ?_
            have ct132 := word_Store_Limit.ct b6 vy6_0_e1 _ _ ht131
            dsimp only at ct132
            refine SO.call (pre := [Box _ _, Own _ _ _ _]) rfl Try.call20 rfl rfl rfl ct132 trivial ?_
            rintro _ _ ⟨rfl, rfl⟩
            refine SO.takeT rfl rfl rfl b127 ?_
            refine SO.v rfl (opv_move rfl) ?_
            refine SO.takeT rfl rfl rfl b127 ?_
            refine SO.v rfl (opv_neq rfl rfl) ?_
            cases h
            refine SO.v rfl (opv_pick_f' b127 rfl rfl) ?_
            refine SO.b5 ?_
            refine SO.b5 ?_
            refine SO.b5 ?_
            refine SO.b4 ?_
            refine SO.b4 ?_
            refine SO.b5 ?_
            exact hk2.fitc (m := 5) rfl (rfl) rfl
        clear hc129
        replace h := hgk
        refine SO.nil ?_
        refine S.to (ρ' := [(0, .int .i64 a0), (6, .bool false), (7, .bool t1), (10, bp b22 0), (17, v119), (258, .bool c128)]) ⟨rfl, rfl, rfl, rfl, rfl, rfl, trivial⟩ ?_
        rcases bool_or c128 with b133 | b133
        · replace h := cond_t b133 h
          refine S.condT rfl b133 ?_
          refine S.seq ?_
          refine S.region ?_
          refine SO.v rfl (opv_assign rfl) ?_
          refine SO.nil ?_
          cases h
          refine S.drop ?_
          refine S.drop ?_
          refine S.drop ?_
          refine S.drop ?_
          refine S.drop ?_
          exact S.ret1 Try.func4 rfl rfl (fun w hs hk => hR w _ _ ⟨rfl, rfl⟩ hs hk)
        · replace h := cond_f b133 h
          refine S.condF rfl b133 ?_
          refine S.skip ?_
          refine S.seq ?_
          refine S.seq ?_
          refine S.region ?_
          refine SO.v rfl (opv_assign rfl) ?_
          refine SO.nil ?_
          obtain ⟨o5, hl5, h⟩ := opt_bind h
          refine S.b5 ?_
          refine S.b5 ?_
          refine S.b5 ?_
          refine S.b5 ?_
          refine S.b5 ?_
          refine S.b5 ?_
          refine S.to (ρ' := [(18, .int .i64 0), (0, .int .i64 a0), (6, .bool false), (7, .bool t1), (10, bp b22 0), (17, v119)]) ⟨rfl, rfl, rfl, rfl, rfl, rfl, trivial⟩ ?_
          refine S.forloop (X := Int × Unit) (O := Brk Bool Unit) (fun m x => law01_WordPlays.l5 a0 y22_0_e1 t117 m x.1) (fun x => match x with | (x18_5, _) => [(18, .int .i64 x18_5), (0, .int .i64 a0), (6, .bool false), (7, .bool t1), (10, bp b22 0), (17, v119)]) (fun x => match x with | (x18_5, _) => [Own 30 (ekI .u64) v119 t117, Box b6 [vy6_0_e1, .int .u32 y6_1_e1], Own 34 ek_api_Cell vy6_0_e1 y6_0_e1, Own 34 ek_api_Cell vy22_0_e1 y22_0_e1, Box b22 [vy22_0_e1, .int .u32 y22_1_e1], F]) (fun Sk o' => (∀ r', o' = Brk.ret r' → some r' = some r0) ∧ ∀ _ : Unit, ∀ _ : Unit, o' = Brk.nx () → Sk [(6, .bool false), (7, .bool t1)] [Own 30 (ekI .u64) v119 t117, Box b6 [vy6_0_e1, .int .u32 y6_1_e1], Own 34 ek_api_Cell vy6_0_e1 y6_0_e1, Own 34 ek_api_Cell vy22_0_e1 y22_0_e1, Box b22 [vy22_0_e1, .int .u32 y22_1_e1], F]) (fun _ => rfl) ?_ (m := k) (x := (0, ())) hl5 ?_
          · clear h hl5
            intro k x o_5 h hK5 ih5
            obtain ⟨x18_5, _⟩ := x
            replace h : law01_WordPlays.l5 a0 y22_0_e1 t117 (k + 1) x18_5 = some o_5 := h
            first | rw [law01_WordPlays.l5] at h | unfold law01_WordPlays.l5 at h
            refine S.seq ?_
            refine S.seq ?_
            refine S.region ?_
            refine SO.v rfl (opv_move rfl) ?_
            refine SO.v rfl (opv_move rfl) ?_
            refine SO.v rfl (opv_lss rfl rfl) ?_
            refine SO.nil ?_
            rcases bool_or (decide (x18_5 < a0)) with b134 | b134
            · replace h := cond_t b134 h
              refine S.condT rfl b134 ?_
              refine S.skip ?_
              refine S.seq ?_
              refine S.block ?_
              refine S.seq ?_
              obtain ⟨x135, hx136, h⟩ := opt_bind h
              obtain ⟨x137, hx138, h⟩ := opt_bind h
              refine S.draw' (Z := fun Q => ∀ (_ : Unit) (_ : Unit) (_ : Unit) (_ : Unit) (_ : Unit) (_ : Unit) (_ : Unit) (_ : Unit) (_ : Unit) (_ : Unit) (_ : Unit), Q [(18, .int .i64 x18_5), (0, .int .i64 a0), (6, .bool false), (7, .bool t1), (10, bp b22 0), (17, v119), (276, .bool (x135 != x137.Value))] [Own 30 (ekI .u64) v119 t117, Box b6 [vy6_0_e1, .int .u32 y6_1_e1], Own 34 ek_api_Cell vy6_0_e1 y6_0_e1, Own 34 ek_api_Cell vy22_0_e1 y22_0_e1, Box b22 [vy22_0_e1, .int .u32 y22_1_e1], F]) (T := [tS 17 (v119), tS 18 (.int .i64 x18_5), tS 10 (bp b22 0), tE [(0, .int .i64 a0), (6, .bool false), (7, .bool t1)], tR (Own 30 (ekI .u64) v119 t117), tR (Box b6 [vy6_0_e1, .int .u32 y6_1_e1]), tR (Own 34 ek_api_Cell vy6_0_e1 y6_0_e1), tR (Own 34 ek_api_Cell vy22_0_e1 y22_0_e1), tR (Box b22 [vy22_0_e1, .int .u32 y22_1_e1]), tR (F), tS 264 (v119), tS 265 (.int .i64 x18_5), tS 266 (idxp v119 (x18_5.toNat * (ekI .u64).sz)), tS 267 (.int .u64 x135), tS 268 (bp b22 0), tS 269 (bp b22 0), tS 270 (bp b22 0), tS 271 (vy22_0_e1), tS 272 (.int .i64 x18_5), tS 273 (idxp vy22_0_e1 (x18_5.toNat * ek_api_Cell.sz)), tS 274 (idxp vy22_0_e1 (x18_5.toNat * ek_api_Cell.sz)), tS 275 (.int .u64 x137.Value), tS 276 (.bool (x135 != x137.Value))]) (D := [⟨[0], [], [10]⟩, ⟨[1], [], [11]⟩, ⟨[10, 11, 4], [], [12]⟩, ⟨[12, 4], [], [13]⟩, ⟨[2], [], [14]⟩, ⟨[14], [], [15]⟩, ⟨[15], [], [16]⟩, ⟨[16, 8], [], [17]⟩, ⟨[1], [], [18]⟩, ⟨[17, 18, 7], [], [19]⟩, ⟨[19, 7], [], [20]⟩, ⟨[20, 7], [], [21]⟩, ⟨[13, 21], [], [22]⟩]) (ini := [0, 1, 2, 3, 4, 5, 6, 7, 8, 9]) (fin := [1, 3, 2, 0, 22, 4, 5, 6, 7, 8, 9]) (bf := [[], [], [0, 1], [0, 1, 2], [], [4], [4, 5], [4, 5, 6], [], [4, 5, 6, 7, 8], [4, 5, 6, 7, 8, 9], [4, 5, 6, 7, 8, 9, 10], [0, 1, 2, 3, 4, 5, 6, 7, 8, 9, 10, 11]]) (by kernel_rfl) (by kernel_rfl) (fun x w h1 h2 => (.cons () (.cons () (.cons () (.cons () (.cons () (.cons () (.cons () (.cons () (.cons () (.cons () (.nil ⟨EnvAll.of h1 ⟨rfl, rfl, rfl, rfl, rfl, rfl, trivial⟩, h2⟩)))))))))))) (fun Q => by kernel_rfl) ⟨?_, ?_, ?_, ?_, ?_, ?_, ?_, ?_, ?_, ?_, ?_, ?_, ?_, trivial⟩ ?_
              · rintro Fr _
                refine SO.v rfl (opv_move rfl) ?_
                exact SO.nilZ fun a w h1 h2 h3 h4 h5 => PZ.of h1 h3 h5 (.cons () (.cons () (.nil ⟨EnvAll.of h2 ⟨rfl, rfl, trivial⟩, h4⟩)))
              · rintro Fr _
                refine SO.v rfl (opv_move rfl) ?_
                exact SO.nilZ fun a w h1 h2 h3 h4 h5 => PZ.of h1 h3 h5 (.cons () (.cons () (.nil ⟨EnvAll.of h2 ⟨rfl, rfl, trivial⟩, h4⟩)))
              · rintro Fr _ _ _
                refine SO.v rfl (opv_idx Try.underlying52 Try.sizeOf30 hr120 rfl rfl hx136) ?_
                exact SO.nilZ fun a w h1 h2 h3 h4 h5 => PZ.of h1 h3 h5 (.cons () (.cons () (.cons () (.cons () (.nil ⟨EnvAll.of h2 ⟨rfl, rfl, rfl, trivial⟩, h4⟩)))))
              · rintro Fr _ _
                refine SO.loadI1 (j := 0) rfl Try.isAgg30 (Rd.head hr120) hx136 rfl rfl rfl rfl ?_
                exact SO.nilZ fun a w h1 h2 h3 h4 h5 => PZ.of h1 h3 h5 (.cons () (.cons () (.cons () (.nil ⟨EnvAll.of h2 ⟨rfl, rfl, trivial⟩, h4⟩))))
              · rintro Fr _
                refine SO.v rfl (opv_move rfl) ?_
                exact SO.nilZ fun a w h1 h2 h3 h4 h5 => PZ.of h1 h3 h5 (.cons () (.cons () (.nil ⟨EnvAll.of h2 ⟨rfl, rfl, trivial⟩, h4⟩)))
              · rintro Fr _
                refine SO.v rfl (opv_nilCheck rfl) ?_
                exact SO.nilZ fun a w h1 h2 h3 h4 h5 => PZ.of h1 h3 h5 (.cons () (.cons () (.nil ⟨EnvAll.of h2 ⟨rfl, rfl, trivial⟩, h4⟩)))
              · rintro Fr _
                refine SO.v rfl (opv_fieldAddr Try.underlying47 rfl Try.sizeOf45 rfl rfl) ?_
                exact SO.nilZ fun a w h1 h2 h3 h4 h5 => PZ.of h1 h3 h5 (.cons () (.cons () (.nil ⟨EnvAll.of h2 ⟨rfl, rfl, trivial⟩, h4⟩)))
              · rintro Fr _ _
                refine SO.load1 rfl Try.isAgg45 rfl rfl ?_
                exact SO.nilZ fun a w h1 h2 h3 h4 h5 => PZ.of h1 h3 h5 (.cons () (.cons () (.cons () (.nil ⟨EnvAll.of h2 ⟨rfl, rfl, trivial⟩, h4⟩))))
              · rintro Fr _
                refine SO.v rfl (opv_move rfl) ?_
                exact SO.nilZ fun a w h1 h2 h3 h4 h5 => PZ.of h1 h3 h5 (.cons () (.cons () (.nil ⟨EnvAll.of h2 ⟨rfl, rfl, trivial⟩, h4⟩)))
              · rintro Fr _ _ _
                refine SO.v rfl (opv_idx Try.underlying45 Try.sizeOf34 hr116 rfl rfl hx138) ?_
                exact SO.nilZ fun a w h1 h2 h3 h4 h5 => PZ.of h1 h3 h5 (.cons () (.cons () (.cons () (.cons () (.nil ⟨EnvAll.of h2 ⟨rfl, rfl, rfl, trivial⟩, h4⟩)))))
              · rintro Fr _ _
                refine SO.v rfl (opv_fieldIdx Try.underlying34 rfl Try.sizeOf30 hr116 hx138 rfl rfl) ?_
                exact SO.nilZ fun a w h1 h2 h3 h4 h5 => PZ.of h1 h3 h5 (.cons () (.cons () (.cons () (.nil ⟨EnvAll.of h2 ⟨rfl, rfl, trivial⟩, h4⟩))))
              · rintro Fr _ _
                refine SO.loadI1 (j := 0) rfl Try.isAgg30 (Rd.head hr116) hx138 rfl rfl rfl rfl ?_
                exact SO.nilZ fun a w h1 h2 h3 h4 h5 => PZ.of h1 h3 h5 (.cons () (.cons () (.cons () (.nil ⟨EnvAll.of h2 ⟨rfl, rfl, trivial⟩, h4⟩))))
              · rintro Fr _ _
                refine SO.v rfl (opv_neq rfl rfl) ?_
                exact SO.nilZ fun a w h1 h2 h3 h4 h5 => PZ.of h1 h3 h5 (.cons () (.cons () (.cons () (.nil ⟨EnvAll.of h2 ⟨rfl, rfl, rfl, trivial⟩, h4⟩))))
              rintro _ _ _ _ _ _ _ _ _ _ _
              refine S.to (ρ' := [(18, .int .i64 x18_5), (0, .int .i64 a0), (6, .bool false), (7, .bool t1), (10, bp b22 0), (17, v119), (276, .bool (x135 != x137.Value))]) ⟨rfl, rfl, rfl, rfl, rfl, rfl, rfl, trivial⟩ ?_
              rcases bool_or (x135 != x137.Value) with b139 | b139
              · replace h := cond_t b139 h
                refine S.condT rfl b139 ?_
                refine S.seq ?_
                refine S.region ?_
                refine SO.v rfl (opv_assign rfl) ?_
                refine SO.nil ?_
                cases h
                replace h := hK5.1 _ rfl
                cases h
                refine S.drop ?_
                refine S.drop ?_
                refine S.drop ?_
                refine S.drop ?_
                refine S.drop ?_
                exact S.ret1 Try.func4 rfl rfl (fun w hs hk => hR w _ _ ⟨rfl, rfl⟩ hs hk)
              · replace h := cond_f b139 h
                refine S.condF rfl b139 ?_
                refine S.skip ?_
                refine S.inBlock ?_
                refine S.region ?_
                refine SO.v rfl (opv_move rfl) ?_
                refine SO.v rfl (opv_add rfl rfl) ?_
                refine SO.v rfl (opv_assign rfl) ?_
                refine SO.nil ?_
                refine S.b5 ?_
                refine S.b5 ?_
                refine S.b5 ?_
                refine S.b5 ?_
                refine S.b5 ?_
                refine S.b5 ?_
                refine S.to ?_ (ih5 (w64 (x18_5 + 1), ()) h)
                exact ⟨rfl, rfl, rfl, rfl, rfl, rfl, trivial⟩
            · replace h := cond_f b134 h
              refine S.condF rfl b134 ?_
              refine S.exit rfl ?_
              cases h
              refine S.b5 ?_
              refine S.b5 ?_
              refine S.b5 ?_
              refine S.b5 ?_
              refine S.b5 ?_
              refine S.b5 ?_
              refine S.to ?_ (hK5.2 () () rfl)
              exact ⟨rfl, rfl, trivial⟩
          refine ⟨fun r' e' => ?_, ?_⟩
          · subst e'
            have h9 := Brk.of_ret h
            exact h9
          rintro _ _ e'
          subst e'
          replace h := Brk.of_nx h
          refine S.seq ?_
          refine S.region ?_
          refine SO.v rfl (opv_move rfl) ?_
          refine SO.v rfl (opv_assign rfl) ?_
          refine SO.nil ?_
          cases h
          refine S.drop ?_
          refine S.drop ?_
          refine S.drop ?_
          refine S.drop ?_
          refine S.drop ?_
          exact S.ret1 Try.func4 rfl rfl (fun w hs hk => hR w _ _ ⟨rfl, rfl⟩ hs hk)
end Go.Proofs
