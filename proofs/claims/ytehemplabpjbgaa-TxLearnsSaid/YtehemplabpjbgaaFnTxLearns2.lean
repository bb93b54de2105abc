/- What the functions that TxLearns reaches come to, and that they do. On no condition. -/
import Derived.Test.YtehemplabpjbgaaFnTxLearns0
import Derived.Test.YtehemplabpjbgaaFnTxLearns1
set_option linter.all false
namespace Go.Proofs
open Go.Sl Go.RowKit
/-! 5 padstone/padstonelaw06.TxLearns -/
def law06_TxLearns.l1 (a0 : List Int) : Nat → (Int × (List api_Cell) × Int) → Option (((List api_Cell) × Int))
  | 0, _ => none
  | k + 1, (x10_1, y10_0_1, y10_1_1) => bif decide (x10_1 < (a0.length : Int)) then ((at_ a0 x10_1).bind fun x21 => (word_Store_Set.f (⟨y10_0_1, y10_1_1⟩ : word_Store) x10_1 x21).bind fun (t23, p24) => law06_TxLearns.l1 a0 k (w64 (x10_1 + 1), p24.l, p24.limit)) else (some (y10_0_1, y10_1_1))
def law06_TxLearns.l2 (a0 : List Int) (a1 : List law06_Op) (y10_0_e1 : List api_Cell) (y10_1_e1 : Int) : Nat → (Int × Int × Int × (Option (List (Int × api_Cell))) × (Option (List (Int × Int))) × Int × Bool × (List Bool)) → Option (Brk Bool (Int × Int × Int × (Option (List (Int × api_Cell))) × (Option (List (Int × Int))) × Int × Bool × (List Bool)))
  | 0, _ => none
  | k + 1, (x12_2, y34_0_2, y15_0_2, y15_1_2, y15_2_2, y15_3_2, y15_4_2, qv30_2) => (tx_Tx_Run.f (law06_TxLearns_1.f k a1 y34_0_2) (⟨y15_0_2, y15_1_2, y15_2_2, y15_3_2, y15_4_2⟩ : tx_Tx)).bind fun (t37, t38, q36, p39) => bif t38 then (some (Brk.nx (x12_2, q36, p39.cells, p39.l, p39.out, p39.lack, p39.fine, qv30_2))) else ((bif (decide (t37 < 0)) || (decide ((a0.length : Int) ≤ t37)) then (some (true, p39.cells, p39.l, p39.out, p39.lack, p39.fine)) else ((tx_Tx_Entries.f k p39).bind fun (t54, p55) => some ((t54.length : Int) != 0, p55.cells, p55.l, p55.out, p55.lack, p55.fine))).bind fun (c45, w47, w48, w50, w52, w53) => bif c45 then (some (Brk.ret false)) else ((at_ qv30_2 t37).bind fun x61 => bif x61 then (some (Brk.ret false)) else ((at_ qv30_2 t37).bind fun x64 => (word_Store_Read.f (⟨y10_0_e1, y10_1_e1⟩ : word_Store) t37).bind fun (t67, t68) => (bif t68.isSome then (some true) else ((tx_Tx_Reads.f (⟨w47, w48, w50, w52, w53⟩ : tx_Tx)).bind fun t74 => some (t74 != (w64 ((w64 (x12_2 + 1)) - 1))))).bind fun c72 => bif c72 then (some (Brk.ret false)) else ((tx_Tx_Learn.f (⟨w47, w48, w50, w52, w53⟩ : tx_Tx) t37 t67).bind fun p78 => law06_TxLearns.l2 a0 a1 y10_0_e1 y10_1_e1 k (w64 (x12_2 + 1), q36, p78.cells, p78.l, p78.out, p78.lack, p78.fine, qv30_2.set t37.toNat true)))))
def law06_TxLearns.l3 (a0 : List Int) (qv30_e2 : List Bool) (t97 : List tx_Entry) : Nat → (Int × (List Int)) → Option (Brk Bool (List Int))
  | 0, _ => none
  | k + 1, (x21_3, qv113_3) => bif decide (x21_3 < (t97.length : Int)) then ((at_ t97 x21_3).bind fun x117 => (bif decide (x117.Cell < 0) then (some true) else (bif decide ((a0.length : Int) ≤ x117.Cell) then (some true) else (bif decide (0 < x21_3) then ((at_ t97 (w64 (x21_3 - 1))).bind fun x123 => bif decide (x117.Cell ≤ x123.Cell) then (some true) else ((at_ a0 x117.Cell).bind fun x126 => bif x117.Old != x126 then (some true) else (bif x117.Version != 0 then (some true) else (some (x117.Write != (x117.Old != x117.New)))))) else ((at_ a0 x117.Cell).bind fun x130 => bif x117.Old != x130 then (some true) else (bif x117.Version != 0 then (some true) else (some (x117.Write != (x117.Old != x117.New)))))))).bind fun j200_4 => bif j200_4 then (some (Brk.ret false)) else ((at_ qv30_e2 x117.Cell).bind fun x135 => bif !x135 then (some (Brk.ret false)) else ((at_ qv113_3 x117.Cell).bind fun x138 => law06_TxLearns.l3 a0 qv30_e2 t97 k (w64 (x21_3 + 1), qv113_3.set x117.Cell.toNat x117.New)))) else (some (Brk.nx qv113_3))
def law06_TxLearns.l5 (a0 : List Int) (s93 : List Int) (qv113_e3 : List Int) : Nat → Int → Option (Brk Bool Unit)
  | 0, _ => none
  | k + 1, x23_5 => bif decide (x23_5 < (a0.length : Int)) then ((at_ qv113_e3 x23_5).bind fun x143 => (view_Plain_Read.f s93 x23_5).bind fun t145 => bif x143 != t145 then (some (Brk.ret false)) else (law06_TxLearns.l5 a0 s93 qv113_e3 k (w64 (x23_5 + 1)))) else (some (Brk.nx ()))
def law06_TxLearns.f (k : Nat) (a0 : List Int) (a1 : List law06_Op) : Option (Bool) :=
  (law06_up.f k ).bind fun t2 => bif ((decide ((a0.length : Int) < 1)) || (decide (60 < (a0.length : Int)))) || (decide (40 < (a1.length : Int))) then (some t2) else ((word_New.f (a0.length : Int) 9).bind fun (t7, t8) => oE t7 ((tx_New.f (a0.length : Int)).bind fun t10 => some false) (fun t7p => (tx_New.f (a0.length : Int)).bind fun t13 => bif t8.isSome || false then (some false) else ((law06_TxLearns.l1 a0 k (0, t7p.l, t7p.limit)).bind fun (y10_0_e1, y10_1_e1) => (mk_ false (a0.length : Int)).bind fun xs32 => (law06_TxLearns.l2 a0 a1 y10_0_e1 y10_1_e1 k (0, 0, t13.cells, t13.l, t13.out, t13.lack, t13.fine, xs32)).bind fun o2 => Brk.go o2 (fun r => some r) (fun (j12_e2, y34_0_e2, y15_0_e2, y15_1_e2, y15_2_e2, y15_3_e2, y15_4_e2, qv30_e2) => (app ([]) a0).bind fun zs87 => (VM.run plainI (law06_Do.f k a1) zs87).bind fun (t91, s93) => bif t91 != y34_0_e2 then (some false) else ((tx_Tx_Entries.f k (⟨y15_0_e2, y15_1_e2, y15_2_e2, y15_3_e2, y15_4_e2⟩ : tx_Tx)).bind fun (t97, p98) => (bif (t97.length : Int) != j12_e2 then (some true) else ((tx_Tx_Reads.f p98).bind fun t106 => some (t106 != j12_e2))).bind fun c104 => bif c104 then (some false) else ((app ([]) a0).bind fun zs111 => (law06_TxLearns.l3 a0 qv30_e2 t97 k (0, zs111)).bind fun o3 => Brk.go o3 (fun r => some r) (fun qv113_e3 => (law06_TxLearns.l5 a0 s93 qv113_e3 k 0).bind fun o5 => Brk.go o5 (fun r => some r) (fun _ => some t2))))))))
set_option maxHeartbeats 100000000 in
set_option maxRecDepth 100000 in
theorem law06_TxLearns.ct (k : Nat) (v0 : Value) (v1 : Value) (a0 : List Int) (a1 : List law06_Op) (r0 : Bool) (h : law06_TxLearns.f k a0 a1 = some r0) :
    Ct Try.prog 5 [v0, v1] (fun F => Rd (ekI .u64) v0 a0 F ∧ Rd ek_law06_Op v1 a1 F) [] (fun u H' => u = .bool r0 ∧ H' = []) := by
  unfold law06_TxLearns.f at h
  refine Ct.intro (n := 227) Try.func5 rfl rfl rfl ?_
  intro R w0 F hF hR
  obtain ⟨hF0, hF1⟩ := hF
  refine S.seq ?_
  refine S.region ?_
  refine SO.box rfl rfl (cells1 (Rd.one hF1)) (fun b1 => ?_)
  refine SO.v rfl (opv_assign rfl) ?_
  refine SO.nil ?_
  refine S.seq ?_
  refine S.region ?_
  obtain ⟨t2, ht3, h⟩ := opt_bind h
  refine SO.call (pre := []) rfl Try.call8 rfl rfl rfl (law06_up.ct _ _ ht3) trivial ?_
  rintro _ _ ⟨rfl, rfl⟩
  refine SO.v rfl (opv_assign rfl) ?_
  refine SO.nil ?_
  refine S.seq ?_
  refine S.region ?_
  refine SO.v rfl (opv_move rfl) ?_
  refine SO.v rfl (opv_lenR rfl Try.underlying48 hF0 rfl) ?_
  refine SO.v rfl (opv_assign rfl) ?_
  refine SO.nil ?_
  refine S.seq ?_
  refine S.seq ?_
  refine S.region ?_
  refine SO.v rfl (opv_move rfl) ?_
  refine SO.v rfl (opv_lss rfl rfl) ?_
  refine SO.v rfl (opv_move rfl) ?_
  refine SO.cut 3 32 (.bool ((decide ((a0.length : Int) < 1)) || (decide (60 < (a0.length : Int))))) [Box b1 [v1], F] (fun l2 hk2 => ?_) ?_
  · rcases bool_or (decide ((a0.length : Int) < 1)) with b4 | b4
    · refine SO.passF rfl rfl rfl b4 rfl rfl ?_
      refine SO.passF rfl rfl rfl b4 rfl rfl ?_
      refine SO.v rfl (opv_pick_t' b4 rfl rfl) ?_
      refine SO.b1 ?_
      refine SO.b1 ?_
      exact hk2.fitc (m := 3) rfl (or_t b4) rfl
    refine SO.takeT rfl rfl rfl b4 ?_
    refine SO.v rfl (opv_move rfl) ?_
    refine SO.takeT rfl rfl rfl b4 ?_
    refine SO.v rfl (opv_gtr rfl rfl) ?_
    refine SO.v rfl (opv_pick_f' b4 rfl rfl) ?_
    refine SO.b1 ?_
    refine SO.b1 ?_
    exact hk2.fitc (m := 3) rfl (or_f b4) rfl
  refine SO.v rfl (opv_move rfl) ?_
  refine SO.cut 4 37 (.bool (((decide ((a0.length : Int) < 1)) || (decide (60 < (a0.length : Int)))) || (decide (40 < (a1.length : Int))))) [Box b1 [v1], F] (fun l2 hk2 => ?_) ?_
  · rcases bool_or ((decide ((a0.length : Int) < 1)) || (decide (60 < (a0.length : Int)))) with b5 | b5
    · refine SO.passF rfl rfl rfl b5 rfl rfl ?_
      refine SO.passF rfl rfl rfl b5 rfl rfl ?_
      refine SO.passF rfl rfl rfl b5 rfl rfl ?_
      refine SO.v rfl (opv_pick_t' b5 rfl rfl) ?_
      refine SO.b1 ?_
      refine SO.b1 ?_
      exact hk2.fitc (m := 4) rfl (or_t b5) rfl
    refine SO.takeT rfl rfl rfl b5 ?_
    refine SO.load1 rfl Try.isAgg49 rfl rfl ?_
    refine SO.takeT rfl rfl rfl b5 ?_
    refine SO.v rfl (opv_lenR rfl Try.underlying49 hF1 rfl) ?_
    refine SO.takeT rfl rfl rfl b5 ?_
    refine SO.v rfl (opv_gtr rfl rfl) ?_
    refine SO.v rfl (opv_pick_f' b5 rfl rfl) ?_
    refine SO.b1 ?_
    refine SO.b1 ?_
    exact hk2.fitc (m := 4) rfl (or_f b5) rfl
  refine SO.nil ?_
  refine S.to (ρ' := [(0, v0), (3, bp b1 0), (4, .bool false), (5, .bool t2), (6, .int .i64 (a0.length : Int)), (37, .bool (((decide ((a0.length : Int) < 1)) || (decide (60 < (a0.length : Int)))) || (decide (40 < (a1.length : Int)))))]) ⟨rfl, rfl, rfl, rfl, rfl, rfl, trivial⟩ ?_
  rcases bool_or (((decide ((a0.length : Int) < 1)) || (decide (60 < (a0.length : Int)))) || (decide (40 < (a1.length : Int)))) with b6 | b6
  · replace h := cond_t b6 h
    refine S.condT rfl b6 ?_
    refine S.seq ?_
    refine S.region ?_
    refine SO.v rfl (opv_move rfl) ?_
    refine SO.v rfl (opv_assign rfl) ?_
    refine SO.nil ?_
    cases h
    refine S.drop ?_
    exact S.ret1 Try.func5 rfl rfl (fun w hs hk => hR w _ _ ⟨rfl, rfl⟩ hs hk)
  replace h := cond_f b6 h
  refine S.condF rfl b6 ?_
  refine S.skip ?_
  refine S.seq ?_
  refine S.region ?_
  refine SO.v rfl (opv_move rfl) ?_
  obtain ⟨⟨t7, t8⟩, ht9, h⟩ := opt_bind h
  rcases t7 with _ | t7p
  · replace h := oE_n h
    refine SO.call (pre := []) rfl Try.call14 rfl rfl rfl (word_New.ct _ _ _ _ ht9) trivial ?_
    rintro _ _ ⟨rfl, rfl⟩
    refine SO.v rfl (opv_move rfl) ?_
    refine SO.v rfl (opv_extract rfl rfl) ?_
    refine SO.v rfl (opv_extract rfl rfl) ?_
    refine SO.v rfl (opv_assign rfl) ?_
    refine SO.v rfl (opv_assign rfl) ?_
    refine SO.nil ?_
    refine S.seq ?_
    refine S.region ?_
    refine SO.v rfl (opv_move rfl) ?_
    obtain ⟨t10, ht11, h⟩ := opt_bind h
    refine SO.call (pre := []) rfl Try.call9 rfl rfl rfl (tx_New.ct _ _ ht11) trivial ?_
    rintro _ _ ⟨b12, u13_l, u13_out, rfl, rfl⟩
    refine SO.v rfl (opv_assign rfl) ?_
    refine SO.nil ?_
    refine S.to (ρ' := [(0, v0), (3, bp b1 0), (4, .bool false), (5, .bool t2), (6, .int .i64 (a0.length : Int)), (7, .pointer none), (8, errV 84 t8), (9, bp b12 0)]) ⟨rfl, rfl, rfl, rfl, rfl, rfl, rfl, rfl, trivial⟩ ?_
    refine S.seq ?_
    refine S.seq ?_
    refine S.region ?_
    refine SO.v rfl (opv_move rfl) ?_
    refine SO.v rfl (opv_eqlPN Try.underlying50 rfl) ?_
    refine SO.v rfl (opv_move rfl) ?_
    refine SO.passF rfl rfl rfl rfl rfl rfl ?_
    refine SO.passF rfl rfl rfl rfl rfl rfl ?_
    refine SO.v rfl (opv_pick_tt rfl rfl) ?_
    refine SO.v rfl (opv_move rfl) ?_
    refine SO.passF rfl rfl rfl rfl rfl rfl ?_
    refine SO.passF rfl rfl rfl rfl rfl rfl ?_
    refine SO.v rfl (opv_pick_tt rfl rfl) ?_
    refine SO.nil ?_
    refine S.to (ρ' := [(0, v0), (3, bp b1 0), (4, .bool false), (5, .bool t2), (6, .int .i64 (a0.length : Int)), (7, .pointer none), (9, bp b12 0), (55, .bool true)]) ⟨rfl, rfl, rfl, rfl, rfl, rfl, rfl, rfl, trivial⟩ ?_
    refine S.cond_true rfl ?_
    refine S.seq ?_
    refine S.region ?_
    refine SO.v rfl (opv_assign rfl) ?_
    refine SO.nil ?_
    refine S.to (ρ' := [(4, .bool false)]) ⟨rfl, trivial⟩ ?_
    cases h
    refine S.drop ?_
    refine S.drop ?_
    refine S.drop ?_
    refine S.drop ?_
    exact S.ret1 Try.func5 rfl rfl (fun w hs hk => hR w _ _ ⟨rfl, rfl⟩ hs hk)
  replace h := oE_s h
  refine SO.call (pre := []) rfl Try.call14 rfl rfl rfl (word_New.ct _ _ _ _ ht9) trivial ?_
  rintro _ _ ⟨b10, u11_l, rfl, rfl⟩
  refine SO.b1 ?_
  refine SO.rd fun hr12 => ?_
  refine SO.v rfl (opv_move rfl) ?_
  refine SO.v rfl (opv_extract rfl rfl) ?_
  refine SO.v rfl (opv_extract rfl rfl) ?_
  refine SO.v rfl (opv_assign rfl) ?_
  refine SO.v rfl (opv_assign rfl) ?_
  refine SO.nil ?_
  refine S.seq ?_
  refine S.region ?_
  refine SO.v rfl (opv_move rfl) ?_
  obtain ⟨t13, ht14, h⟩ := opt_bind h
  refine SO.call (pre := []) rfl Try.call9 rfl rfl rfl (tx_New.ct _ _ ht14) trivial ?_
  rintro _ _ ⟨b15, u16_l, u16_out, rfl, rfl⟩
  refine SO.v rfl (opv_assign rfl) ?_
  refine SO.nil ?_
  refine S.to (ρ' := [(0, v0), (3, bp b1 0), (4, .bool false), (5, .bool t2), (6, .int .i64 (a0.length : Int)), (7, bp b10 0), (8, errV 84 t8), (9, bp b15 0)]) ⟨rfl, rfl, rfl, rfl, rfl, rfl, rfl, rfl, trivial⟩ ?_
  refine S.seq ?_
  refine S.seq ?_
  refine S.region ?_
  refine SO.v rfl (opv_move rfl) ?_
  refine SO.v rfl (opv_eqlP Try.underlying50 rfl) ?_
  refine SO.v rfl (opv_move rfl) ?_
  refine SO.takeT rfl rfl rfl rfl ?_
  refine SO.v rfl (opv_move rfl) ?_
  refine SO.takeT rfl rfl rfl rfl ?_
  refine SO.v rfl (opv_neqN (e := t8) Try.underlying52 rfl) ?_
  refine SO.v rfl (opv_pick_ff rfl rfl) ?_
  refine SO.v rfl (opv_move rfl) ?_
  refine SO.cut 3 55 (.bool (t8.isSome || false)) [Box b15 [.int .i64 t13.cells, u16_l, u16_out, .int .i64 t13.lack, .bool t13.fine], MapO (aggE ek_api_Cell) u16_l t13.l, MapO (Value.int .u64) u16_out t13.out, Own 38 ek_api_Cell u11_l t7p.l, Box b10 [u11_l, .int .u32 t7p.limit], Box b1 [v1], F] (fun l2 hk2 => ?_) ?_
  · rcases bool_or t8.isSome with b17 | b17
    · refine SO.passF rfl rfl rfl b17 rfl rfl ?_
      refine SO.passF rfl rfl rfl b17 rfl rfl ?_
      refine SO.v rfl (opv_pick_t' b17 rfl rfl) ?_
      refine SO.b6 ?_
      refine SO.b6 ?_
      refine SO.b6 ?_
      refine SO.b6 ?_
      refine SO.b6 ?_
      refine SO.b6 ?_
      refine SO.b6 ?_
      exact hk2.fitc (m := 3) rfl (or_t b17) rfl
    refine SO.takeT rfl rfl rfl b17 ?_
    refine SO.v rfl (opv_move rfl) ?_
    refine SO.takeT rfl rfl rfl b17 ?_
    refine SO.v rfl (opv_eqlP Try.underlying31 rfl) ?_
    refine SO.v rfl (opv_pick_f' b17 rfl rfl) ?_
    refine SO.b6 ?_
    refine SO.b6 ?_
    refine SO.b6 ?_
    refine SO.b6 ?_
    refine SO.b6 ?_
    refine SO.b6 ?_
    refine SO.b6 ?_
    exact hk2.fitc (m := 3) rfl (or_f b17) rfl
  refine SO.nil ?_
  refine S.to (ρ' := [(0, v0), (3, bp b1 0), (4, .bool false), (5, .bool t2), (6, .int .i64 (a0.length : Int)), (7, bp b10 0), (9, bp b15 0), (55, .bool (t8.isSome || false))]) ⟨rfl, rfl, rfl, rfl, rfl, rfl, rfl, rfl, trivial⟩ ?_
  rcases bool_or (t8.isSome || false) with b18 | b18
  · replace h := cond_t b18 h
    refine S.condT rfl b18 ?_
    refine S.seq ?_
    refine S.region ?_
    refine SO.v rfl (opv_assign rfl) ?_
    refine SO.nil ?_
    refine S.to (ρ' := [(4, .bool false)]) ⟨rfl, trivial⟩ ?_
    cases h
    refine S.drop ?_
    refine S.drop ?_
    refine S.drop ?_
    refine S.drop ?_
    refine S.drop ?_
    refine S.drop ?_
    exact S.ret1 Try.func5 rfl rfl (fun w hs hk => hR w _ _ ⟨rfl, rfl⟩ hs hk)
  replace h := cond_f b18 h
  refine S.condF rfl b18 ?_
  refine S.skip ?_
  refine S.seq ?_
  refine S.seq ?_
  refine S.region ?_
  refine SO.v rfl (opv_assign rfl) ?_
  refine SO.nil ?_
  obtain ⟨⟨y10_0_e1, y10_1_e1⟩, hlp1, h⟩ := opt_bind h
  refine S.b6 ?_
  refine S.b6 ?_
  refine S.b6 ?_
  refine S.b5 ?_
  refine S.b5 ?_
  refine S.b5 ?_
  refine S.b6 ?_
  refine S.to (ρ' := [(10, .int .i64 0), (0, v0), (3, bp b1 0), (4, .bool false), (5, .bool t2), (6, .int .i64 (a0.length : Int)), (7, bp b10 0), (9, bp b15 0)]) ⟨rfl, rfl, rfl, rfl, rfl, rfl, rfl, rfl, trivial⟩ ?_
  refine S.forloop (X := (Int × (List api_Cell) × Int) × Value) (O := ((List api_Cell) × Int)) (fun m x => law06_TxLearns.l1 a0 m x.1) (fun x => match x with | ((x10_1, y10_0_1, y10_1_1), vy10_0_1) => [(10, .int .i64 x10_1), (0, v0), (3, bp b1 0), (4, .bool false), (5, .bool t2), (6, .int .i64 (a0.length : Int)), (7, bp b10 0), (9, bp b15 0)]) (fun x => match x with | ((x10_1, y10_0_1, y10_1_1), vy10_0_1) => [Own 38 ek_api_Cell vy10_0_1 y10_0_1, Box b15 [.int .i64 t13.cells, u16_l, u16_out, .int .i64 t13.lack, .bool t13.fine], MapO (aggE ek_api_Cell) u16_l t13.l, MapO (Value.int .u64) u16_out t13.out, Box b10 [vy10_0_1, .int .u32 y10_1_1], Box b1 [v1], F]) (fun Sk => (fun x => match x with | (y10_0_e1, y10_1_e1) => ∀ vy10_0_e1 : Value, Sk [(0, v0), (3, bp b1 0), (4, .bool false), (5, .bool t2), (6, .int .i64 (a0.length : Int)), (7, bp b10 0), (9, bp b15 0)] [Own 38 ek_api_Cell vy10_0_e1 y10_0_e1, Box b15 [.int .i64 t13.cells, u16_l, u16_out, .int .i64 t13.lack, .bool t13.fine], MapO (aggE ek_api_Cell) u16_l t13.l, MapO (Value.int .u64) u16_out t13.out, Box b10 [vy10_0_e1, .int .u32 y10_1_e1], Box b1 [v1], F])) (fun _ => rfl) ?_ (m := k) (x := ((0, t7p.l, t7p.limit), u11_l)) hlp1 ?_
  · clear h hlp1
    intro k x o_1 h hK1 ih1
    obtain ⟨⟨x10_1, y10_0_1, y10_1_1⟩, vy10_0_1⟩ := x
    replace h : law06_TxLearns.l1 a0 (k + 1) (x10_1, y10_0_1, y10_1_1) = some o_1 := h
    first | rw [law06_TxLearns.l1] at h | unfold law06_TxLearns.l1 at h
    refine S.rd fun hr19 => ?_
    refine S.seq ?_
    refine S.seq ?_
    refine S.region ?_
    refine SO.v rfl (opv_move rfl) ?_
    refine SO.v rfl (opv_move rfl) ?_
    refine SO.v rfl (opv_lss rfl rfl) ?_
    refine SO.nil ?_
    rcases bool_or (decide (x10_1 < (a0.length : Int))) with b20 | b20
    · replace h := cond_t b20 h
      refine S.condT rfl b20 ?_
      refine S.skip ?_
      refine S.seq ?_
      refine S.block ?_
      refine S.region ?_
      refine SO.v rfl (opv_move rfl) ?_
      refine SO.v rfl (opv_move rfl) ?_
      refine SO.v rfl (opv_move rfl) ?_
      refine SO.v rfl (opv_move rfl) ?_
      obtain ⟨x21, hx22, h⟩ := opt_bind h
      refine SO.v rfl (opv_idx Try.underlying48 Try.sizeOf35 hF0 rfl rfl hx22) ?_
      refine SO.loadI1 (j := 0) rfl Try.isAgg35 (Rd.tail (Rd.tail (Rd.tail (Rd.tail (Rd.tail (Rd.tail (Rd.head hF0))))))) hx22 rfl rfl rfl rfl ?_
      obtain ⟨⟨t23, p24⟩, ht25, h⟩ := opt_bind h
      refine SO.b4 ?_
      have ct28 := word_Store_Set.ct b10 vy10_0_1 _ _ _ _ _ ht25
      try dsimp only at ct28
      refine SO.call (pre := [Box _ _, Own _ _ _ _]) rfl Try.call15 rfl rfl rfl ct28 trivial ?_
      rintro _ _ ⟨u26_l, rfl, rfl⟩
      refine SO.b1 ?_
      refine SO.rd fun hr27 => ?_
      refine SO.nil ?_
      refine S.to (ρ' := [(10, .int .i64 x10_1), (0, v0), (3, bp b1 0), (4, .bool false), (5, .bool t2), (6, .int .i64 (a0.length : Int)), (7, bp b10 0), (9, bp b15 0)]) ⟨rfl, rfl, rfl, rfl, rfl, rfl, rfl, rfl, trivial⟩ ?_
      refine S.inBlock ?_
      refine S.region ?_
      refine SO.v rfl (opv_move rfl) ?_
      refine SO.v rfl (opv_add rfl rfl) ?_
      refine SO.v rfl (opv_assign rfl) ?_
      refine SO.nil ?_
      refine S.b6 ?_
      refine S.b6 ?_
      refine S.b3 ?_
      refine S.b6 ?_
      refine S.b6 ?_
      refine S.b6 ?_
      refine S.b6 ?_
      refine S.to ?_ (ih1 ((w64 (x10_1 + 1), p24.l, p24.limit), u26_l) h)
      exact ⟨rfl, rfl, rfl, rfl, rfl, rfl, rfl, rfl, trivial⟩
    replace h := cond_f b20 h
    refine S.condF rfl b20 ?_
    refine S.exit rfl ?_
    cases h
    refine S.b6 ?_
    refine S.b6 ?_
    refine S.b6 ?_
    refine S.b6 ?_
    refine S.b6 ?_
    refine S.b6 ?_
    refine S.b6 ?_
    refine S.to ?_ (hK1 vy10_0_1)
    exact ⟨rfl, rfl, rfl, rfl, rfl, rfl, rfl, trivial⟩
  rintro vy10_0_e1
  refine S.rd fun hr29 => ?_
  refine S.seq ?_
  refine S.region ?_
  refine SO.v rfl (opv_move rfl) ?_
  obtain ⟨xs32, hx33, h⟩ := opt_bind h
  refine SO.makeSlice (K := ekB) rfl Try.underlying56 inf4 rfl rfl rfl (by decide) rfl rfl rfl hx33 (fun v30 hr31 => ?_)
  refine SO.v rfl (opv_assign rfl) ?_
  refine SO.nil ?_
  refine S.seq ?_
  refine S.region ?_
  refine SO.v rfl (opv_assign rfl) ?_
  refine SO.nil ?_
  refine S.seq ?_
  refine S.region ?_
  refine SO.alloc rfl Try.zeroValue35 rfl (fun b34 => ?_)
  refine SO.store1 Try.sizeOf35 rfl rfl rfl rfl ?_
  refine SO.nil ?_
  refine S.seq ?_
  obtain ⟨o2, hlp2, h⟩ := opt_bind h
  refine S.b8 ?_
  refine S.b8 ?_
  refine S.b8 ?_
  refine S.b6 ?_
  refine S.b6 ?_
  refine S.b6 ?_
  refine S.b6 ?_
  refine S.b7 ?_
  refine S.b8 ?_
  refine S.to (ρ' := [(13, bp b34 0), (12, .int .i64 0), (11, v30), (0, v0), (3, bp b1 0), (4, .bool false), (5, .bool t2), (6, .int .i64 (a0.length : Int)), (7, bp b10 0), (9, bp b15 0)]) ⟨rfl, rfl, rfl, rfl, rfl, rfl, rfl, rfl, rfl, rfl, trivial⟩ ?_
  refine S.forloop (X := (Int × Int × Int × (Option (List (Int × api_Cell))) × (Option (List (Int × Int))) × Int × Bool × (List Bool)) × (Value × Value)) (O := Brk Bool (Int × Int × Int × (Option (List (Int × api_Cell))) × (Option (List (Int × Int))) × Int × Bool × (List Bool))) (fun m x => law06_TxLearns.l2 a0 a1 y10_0_e1 y10_1_e1 m x.1) (fun x => match x with | ((x12_2, y34_0_2, y15_0_2, y15_1_2, y15_2_2, y15_3_2, y15_4_2, qv30_2), (vy15_1_2, vy15_2_2)) => [(13, bp b34 0), (12, .int .i64 x12_2), (11, v30), (0, v0), (3, bp b1 0), (4, .bool false), (5, .bool t2), (6, .int .i64 (a0.length : Int)), (7, bp b10 0), (9, bp b15 0)]) (fun x => match x with | ((x12_2, y34_0_2, y15_0_2, y15_1_2, y15_2_2, y15_3_2, y15_4_2, qv30_2), (vy15_1_2, vy15_2_2)) => [MapO (Value.int .u64) vy15_2_2 y15_2_2, MapO (aggE ek_api_Cell) vy15_1_2 y15_1_2, Box b34 [.int .u64 y34_0_2], Own 4 ekB v30 qv30_2, Own 38 ek_api_Cell vy10_0_e1 y10_0_e1, Box b15 [.int .i64 y15_0_2, vy15_1_2, vy15_2_2, .int .i64 y15_3_2, .bool y15_4_2], Box b10 [vy10_0_e1, .int .u32 y10_1_e1], Box b1 [v1], F]) (fun Sk o' => (∀ r', o' = Brk.ret r' → some r' = some r0) ∧ ∀ j : (Int × Int × Int × (Option (List (Int × api_Cell))) × (Option (List (Int × Int))) × Int × Bool × (List Bool)), match j with | (j12_e2, y34_0_e2, y15_0_e2, y15_1_e2, y15_2_e2, y15_3_e2, y15_4_e2, qv30_e2) => ∀ g : (Value × Value), match g with | (vy15_1_e2, vy15_2_e2) => o' = Brk.nx (j12_e2, y34_0_e2, y15_0_e2, y15_1_e2, y15_2_e2, y15_3_e2, y15_4_e2, qv30_e2) → Sk [(0, v0), (3, bp b1 0), (4, .bool false), (5, .bool t2), (6, .int .i64 (a0.length : Int)), (9, bp b15 0), (11, v30), (12, .int .i64 j12_e2), (13, bp b34 0)] [MapO (Value.int .u64) vy15_2_e2 y15_2_e2, MapO (aggE ek_api_Cell) vy15_1_e2 y15_1_e2, Box b34 [.int .u64 y34_0_e2], Own 4 ekB v30 qv30_e2, Own 38 ek_api_Cell vy10_0_e1 y10_0_e1, Box b15 [.int .i64 y15_0_e2, vy15_1_e2, vy15_2_e2, .int .i64 y15_3_e2, .bool y15_4_e2], Box b10 [vy10_0_e1, .int .u32 y10_1_e1], Box b1 [v1], F]) (fun _ => rfl) ?_ (m := k) (x := ((0, 0, t13.cells, t13.l, t13.out, t13.lack, t13.fine, xs32), (u16_l, u16_out))) hlp2 ?_
  · clear h hlp2
    intro k x o_2 h hK2 ih2
    obtain ⟨⟨x12_2, y34_0_2, y15_0_2, y15_1_2, y15_2_2, y15_3_2, y15_4_2, qv30_2⟩, ⟨vy15_1_2, vy15_2_2⟩⟩ := x
    replace h : law06_TxLearns.l2 a0 a1 y10_0_e1 y10_1_e1 (k + 1) (x12_2, y34_0_2, y15_0_2, y15_1_2, y15_2_2, y15_3_2, y15_4_2, qv30_2) = some o_2 := h
    first | rw [law06_TxLearns.l2] at h | unfold law06_TxLearns.l2 at h
    refine S.b3 ?_
    refine S.rd fun hr35 => ?_
    refine S.block ?_
    refine S.seq ?_
    refine S.region ?_
    refine SO.v rfl (opv_move rfl) ?_
    refine SO.v rfl (opv_makeFunc rfl rfl) ?_
    obtain ⟨⟨t37, t38, q36, p39⟩, ht40, h⟩ := opt_bind h
    refine SO.b3 ?_
    refine SO.b7 ?_
    refine SO.b3 ?_
    refine SO.b4 ?_
    refine SO.b6 ?_
    have ct83 := tx_Tx_Run.ct (law06_TxLearns_1.f k a1 y34_0_2) 16 [bp b1 0, bp b34 0] (fun F => Rd ek_law06_Op v1 a1 F) [Box b1 [v1], Box b34 [.int .u64 y34_0_2]] [Box b1 [v1], Box b34 [.int .u64 q36]] b15 vy15_1_2 vy15_2_2 (⟨y15_0_2, y15_1_2, y15_2_2, y15_3_2, y15_4_2⟩ : tx_Tx) t37 t38 q36 p39 ht40 Try.call16 (fun l F h => Rd.last h l) (fun s s' hrun => law06_TxLearns_1.ct (seenV b15) k _ _ _ _ _ _ _ _ hrun)
    try dsimp only at ct83
    refine SO.call (pre := [Box _ _, MapO _ _ _, MapO _ _ _, Box _ _, Box _ _]) rfl Try.call11 rfl rfl rfl ct83 (Rd.tail (Rd.tail (Rd.tail (Rd.head hF1)))) ?_
    rintro _ _ ⟨u41_l, u41_out, rfl, rfl⟩
    refine SO.v rfl (opv_move rfl) ?_
    refine SO.v rfl (opv_extract rfl rfl) ?_
    refine SO.v rfl (opv_extract rfl rfl) ?_
    refine SO.v rfl (opv_assign rfl) ?_
    refine SO.v rfl (opv_assign rfl) ?_
    refine SO.nil ?_
    refine S.seq ?_
    refine S.seq ?_
    refine S.region ?_
    refine SO.v rfl (opv_move rfl) ?_
    refine SO.nil ?_
    refine S.to (ρ' := [(13, bp b34 0), (12, .int .i64 x12_2), (11, v30), (0, v0), (3, bp b1 0), (4, .bool false), (5, .bool t2), (6, .int .i64 (a0.length : Int)), (7, bp b10 0), (9, bp b15 0), (14, .int .i64 t37), (76, .bool t38)]) ⟨rfl, rfl, rfl, rfl, rfl, rfl, rfl, rfl, rfl, rfl, rfl, rfl, trivial⟩ ?_
    rcases bool_or t38 with b42 | b42
    · replace h := cond_t b42 h
      refine S.condT rfl b42 ?_
      refine S.exit rfl ?_
      cases h
      refine S.b8 ?_
      refine S.b4 ?_
      refine S.b8 ?_
      refine S.b3 ?_
      refine S.b8 ?_
      refine S.b8 ?_
      refine S.b8 ?_
      refine S.b7 ?_
      refine S.b8 ?_
      refine S.to ?_ (hK2.2 (x12_2, q36, p39.cells, p39.l, p39.out, p39.lack, p39.fine, qv30_2) (u41_l, u41_out) rfl)
      exact ⟨rfl, rfl, rfl, rfl, rfl, rfl, rfl, rfl, rfl, trivial⟩
    replace h := cond_f b42 h
    refine S.condF rfl b42 ?_
    refine S.skip ?_
    refine S.seq ?_
    refine S.seq ?_
    refine S.region ?_
    refine SO.v rfl (opv_move rfl) ?_
    refine SO.v rfl (opv_lss rfl rfl) ?_
    refine SO.v rfl (opv_move rfl) ?_
    refine SO.cut 4 83 (.bool ((decide (t37 < 0)) || (decide ((a0.length : Int) ≤ t37)))) [Box b15 [.int .i64 p39.cells, u41_l, u41_out, .int .i64 p39.lack, .bool p39.fine], MapO (aggE ek_api_Cell) u41_l p39.l, MapO (Value.int .u64) u41_out p39.out, Box b1 [v1], Box b34 [.int .u64 q36], Own 4 ekB v30 qv30_2, Own 38 ek_api_Cell vy10_0_e1 y10_0_e1, Box b10 [vy10_0_e1, .int .u32 y10_1_e1], F] (fun l2 hk2 => ?_) ?_
    · rcases bool_or (decide (t37 < 0)) with b43 | b43
      · refine SO.passF rfl rfl rfl b43 rfl rfl ?_
        refine SO.passF rfl rfl rfl b43 rfl rfl ?_
        refine SO.passF rfl rfl rfl b43 rfl rfl ?_
        refine SO.v rfl (opv_pick_t' b43 rfl rfl) ?_
        refine SO.b8 ?_
        refine SO.b8 ?_
        refine SO.b8 ?_
        refine SO.b8 ?_
        refine SO.b8 ?_
        refine SO.b8 ?_
        refine SO.b8 ?_
        refine SO.b8 ?_
        refine SO.b8 ?_
        exact hk2.fitc (m := 4) rfl (or_t b43) rfl
      refine SO.takeT rfl rfl rfl b43 ?_
      refine SO.v rfl (opv_move rfl) ?_
      refine SO.takeT rfl rfl rfl b43 ?_
      refine SO.v rfl (opv_move rfl) ?_
      refine SO.takeT rfl rfl rfl b43 ?_
      refine SO.v rfl (opv_geq rfl rfl) ?_
      refine SO.v rfl (opv_pick_f' b43 rfl rfl) ?_
      refine SO.b8 ?_
      refine SO.b8 ?_
      refine SO.b8 ?_
      refine SO.b8 ?_
      refine SO.b8 ?_
      refine SO.b8 ?_
      refine SO.b8 ?_
      refine SO.b8 ?_
      refine SO.b8 ?_
      exact hk2.fitc (m := 4) rfl (or_f b43) rfl
    refine SO.v rfl (opv_move rfl) ?_
    obtain ⟨⟨c45, w47, w48, w50, w52, w53⟩, hc46, hgk⟩ := opt_bind h
    refine SO.cutG 5 89 (.bool c45) (fun (gg : Value × Value) => match gg with | (v49, v51) => [MapO (Value.int .u64) v51 w50, MapO (aggE ek_api_Cell) v49 w48, Box b15 [.int .i64 w47, v49, v51, .int .i64 w52, .bool w53], Box b1 [v1], Box b34 [.int .u64 q36], Own 4 ekB v30 qv30_2, Own 38 ek_api_Cell vy10_0_e1 y10_0_e1, Box b10 [vy10_0_e1, .int .u32 y10_1_e1], F]) (fun l2 hk2 => ?_) (fun ⟨v49, v51⟩ => ?_)
    · clear hgk
      replace h := hc46
      rcases bool_or ((decide (t37 < 0)) || (decide ((a0.length : Int) ≤ t37))) with b44 | b44
      · replace h := cond_t b44 h
        refine SO.passF rfl rfl rfl b44 rfl rfl ?_
        refine SO.passF rfl rfl rfl b44 rfl rfl ?_
        refine SO.passF rfl rfl rfl b44 rfl rfl ?_
        refine SO.passF rfl rfl rfl b44 rfl rfl ?_
        cases h
        refine SO.v rfl (opv_pick_t' b44 rfl rfl) ?_
        refine SO.b8 ?_
        refine SO.b8 ?_
        refine SO.b8 ?_
        refine SO.b8 ?_
        refine SO.b8 ?_
        refine SO.b8 ?_
        refine SO.b6 ?_
        refine SO.b7 ?_
        refine SO.b8 ?_
        exact (hk2 (u41_l, u41_out)).fitc (m := 5) rfl (rfl) rfl
      replace h := cond_f b44 h
      refine SO.takeT rfl rfl rfl b44 ?_
      refine SO.v rfl (opv_move rfl) ?_
      refine SO.takeT rfl rfl rfl b44 ?_
      obtain ⟨⟨t54, p55⟩, ht56, h⟩ := opt_bind h
      refine SO.b2 ?_
      refine SO.b2 ?_
      refine SO.b2 ?_
      refine SO.call (pre := [Box _ _, MapO _ _ _, MapO _ _ _]) rfl Try.call13 rfl rfl rfl (tx_Tx_Entries.ct _ b15 u41_l u41_out _ _ _ ht56) trivial ?_
      rintro v57 _ ⟨_, u59_l, u59_out, rfl, rfl⟩
      refine SO.rd fun hr58 => ?_
      refine SO.takeT rfl rfl rfl b44 ?_
      refine SO.v rfl (opv_lenR rfl Try.underlying45 hr58 rfl) ?_
      refine SO.takeT rfl rfl rfl b44 ?_
      refine SO.v rfl (opv_neq rfl rfl) ?_
      cases h
      refine SO.v rfl (opv_pick_f' b44 rfl rfl) ?_
      refine SO.drop ?_
      refine SO.b8 ?_
      refine SO.b8 ?_
      refine SO.b8 ?_
      refine SO.b8 ?_
      refine SO.b8 ?_
      refine SO.b8 ?_
      refine SO.b6 ?_
      refine SO.b7 ?_
      refine SO.b8 ?_
      exact (hk2 (u59_l, u59_out)).fitc (m := 5) rfl (rfl) rfl
    clear hc46
    replace h := hgk
    refine SO.nil ?_
    rcases bool_or c45 with b60 | b60
    · replace h := cond_t b60 h
      refine S.condT rfl b60 ?_
      refine S.seq ?_
      refine S.region ?_
      refine SO.v rfl (opv_assign rfl) ?_
      refine SO.nil ?_
      refine S.to (ρ' := [(4, .bool false)]) ⟨rfl, trivial⟩ ?_
      cases h
      replace h := hK2.1 _ rfl
      cases h
      refine S.drop ?_
      refine S.drop ?_
      refine S.drop ?_
      refine S.drop ?_
      refine S.drop ?_
      refine S.drop ?_
      refine S.drop ?_
      refine S.drop ?_
      exact S.ret1 Try.func5 rfl rfl (fun w hs hk => hR w _ _ ⟨rfl, rfl⟩ hs hk)
    replace h := cond_f b60 h
    refine S.condF rfl b60 ?_
    refine S.skip ?_
    refine S.seq ?_
    refine S.seq ?_
    refine S.region ?_
    refine SO.v rfl (opv_move rfl) ?_
    refine SO.v rfl (opv_move rfl) ?_
    obtain ⟨x61, hx62, h⟩ := opt_bind h
    refine SO.v rfl (opv_idx Try.underlying56 Try.sizeOf4 hr35 rfl rfl hx62) ?_
    refine SO.loadI1 (j := 0) rfl Try.isAgg4 (Rd.tail (Rd.tail (Rd.tail (Rd.tail (Rd.tail (Rd.head hr35)))))) hx62 rfl rfl rfl rfl ?_
    refine SO.nil ?_
    refine S.to (ρ' := [(13, bp b34 0), (12, .int .i64 x12_2), (11, v30), (0, v0), (3, bp b1 0), (4, .bool false), (5, .bool t2), (6, .int .i64 (a0.length : Int)), (7, bp b10 0), (9, bp b15 0), (14, .int .i64 t37), (93, .bool x61)]) ⟨rfl, rfl, rfl, rfl, rfl, rfl, rfl, rfl, rfl, rfl, rfl, rfl, trivial⟩ ?_
    rcases bool_or x61 with b63 | b63
    · replace h := cond_t b63 h
      refine S.condT rfl b63 ?_
      refine S.seq ?_
      refine S.region ?_
      refine SO.v rfl (opv_assign rfl) ?_
      refine SO.nil ?_
      refine S.to (ρ' := [(4, .bool false)]) ⟨rfl, trivial⟩ ?_
      cases h
      replace h := hK2.1 _ rfl
      cases h
      refine S.drop ?_
      refine S.drop ?_
      refine S.drop ?_
      refine S.drop ?_
      refine S.drop ?_
      refine S.drop ?_
      refine S.drop ?_
      refine S.drop ?_
      exact S.ret1 Try.func5 rfl rfl (fun w hs hk => hR w _ _ ⟨rfl, rfl⟩ hs hk)
    replace h := cond_f b63 h
    refine S.condF rfl b63 ?_
    refine S.skip ?_
    refine S.seq ?_
    refine S.region ?_
    refine SO.v rfl (opv_move rfl) ?_
    refine SO.v rfl (opv_move rfl) ?_
    obtain ⟨x64, hx65, h⟩ := opt_bind h
    refine SO.v rfl (opv_idx Try.underlying56 Try.sizeOf4 hr35 rfl rfl hx65) ?_
    refine SO.b5 ?_
    refine SO.storeI1 (j := 0) (z' := true) Try.sizeOf4 hx65 rfl rfl rfl rfl rfl rfl ?_
    refine SO.rd fun hr66 => ?_
    refine SO.nil ?_
    refine S.seq ?_
    refine S.region ?_
    refine SO.v rfl (opv_move rfl) ?_
    refine SO.v rfl (opv_add rfl rfl) ?_
    refine SO.v rfl (opv_assign rfl) ?_
    refine SO.nil ?_
    refine S.seq ?_
    refine S.region ?_
    refine SO.v rfl (opv_move rfl) ?_
    refine SO.v rfl (opv_move rfl) ?_
    obtain ⟨⟨t67, t68⟩, ht69, h⟩ := opt_bind h
    refine SO.b6 ?_
    refine SO.b7 ?_
    have ct82 := word_Store_Read.ct b10 vy10_0_e1 _ _ _ _ ht69
    try dsimp only at ct82
    refine SO.call (pre := [Box _ _, Own _ _ _ _]) rfl Try.call18 rfl rfl rfl ct82 trivial ?_
    rintro _ _ ⟨rfl, rfl⟩
    refine SO.v rfl (opv_move rfl) ?_
    refine SO.v rfl (opv_extract rfl rfl) ?_
    refine SO.v rfl (opv_extract rfl rfl) ?_
    refine SO.alloc rfl Try.zeroValue38 rfl (fun b70 => ?_)
    refine SO.storeN Try.sizeOf38 rfl rfl rfl rfl rfl rfl ?_
    refine SO.v rfl (opv_assign rfl) ?_
    refine SO.nil ?_
    refine S.to (ρ' := [(13, bp b34 0), (12, .int .i64 (w64 (x12_2 + 1))), (11, v30), (0, v0), (3, bp b1 0), (4, .bool false), (5, .bool t2), (6, .int .i64 (a0.length : Int)), (7, bp b10 0), (9, bp b15 0), (14, .int .i64 t37), (16, bp b70 0), (17, errV 84 t68)]) ⟨rfl, rfl, rfl, rfl, rfl, rfl, rfl, rfl, rfl, rfl, rfl, rfl, rfl, trivial⟩ ?_
    refine S.seq ?_
    refine S.seq ?_
    refine S.region ?_
    refine SO.v rfl (opv_move rfl) ?_
    refine SO.v rfl (opv_neqN (e := t68) Try.underlying52 rfl) ?_
    refine SO.v rfl (opv_move rfl) ?_
    obtain ⟨c72, hc73, hgk⟩ := opt_bind h
    refine SO.cut 6 113 (.bool c72) [Box b70 [.int .u64 t67.Value, .int .u32 t67.Version, .int .i64 t67.Mark], Box b10 [vy10_0_e1, .int .u32 y10_1_e1], Own 38 ek_api_Cell vy10_0_e1 y10_0_e1, Own 4 ekB v30 (qv30_2.set t37.toNat true), MapO (Value.int .u64) v51 w50, MapO (aggE ek_api_Cell) v49 w48, Box b15 [.int .i64 w47, v49, v51, .int .i64 w52, .bool w53], Box b1 [v1], Box b34 [.int .u64 q36], F] (fun l2 hk2 => ?_) ?_
    · clear hgk
      replace h := hc73
      rcases bool_or t68.isSome with b71 | b71
      · replace h := cond_t b71 h
        refine SO.passF rfl rfl rfl b71 rfl rfl ?_
        refine SO.passF rfl rfl rfl b71 rfl rfl ?_
        refine SO.passF rfl rfl rfl b71 rfl rfl ?_
        refine SO.passF rfl rfl rfl b71 rfl rfl ?_
        refine SO.passF rfl rfl rfl b71 rfl rfl ?_
        cases h
        refine SO.v rfl (opv_pick_t' b71 rfl rfl) ?_
        refine SO.b9 ?_
        refine SO.b9 ?_
        refine SO.b9 ?_
        refine SO.b9 ?_
        refine SO.b9 ?_
        refine SO.b9 ?_
        refine SO.b9 ?_
        refine SO.b9 ?_
        refine SO.b9 ?_
        refine SO.b9 ?_
        exact hk2.fitc (m := 6) rfl (rfl) rfl
      replace h := cond_f b71 h
      refine SO.takeT rfl rfl rfl b71 ?_
      refine SO.v rfl (opv_move rfl) ?_
      refine SO.takeT rfl rfl rfl b71 ?_
      obtain ⟨t74, ht75, h⟩ := opt_bind h
      refine SO.b4 ?_
      refine SO.b5 ?_
      refine SO.b6 ?_
      have ct76 := tx_Tx_Reads.ct b15 v49 v51 _ _ ht75
      try dsimp only at ct76
      refine SO.call (pre := [Box _ _, MapO _ _ _, MapO _ _ _]) rfl Try.call19 rfl rfl rfl ct76 trivial ?_
      rintro _ _ ⟨rfl, rfl⟩
      refine SO.takeT rfl rfl rfl b71 ?_
      refine SO.v rfl (opv_move rfl) ?_
      refine SO.takeT rfl rfl rfl b71 ?_
      refine SO.v rfl (opv_sub rfl rfl) ?_
      refine SO.takeT rfl rfl rfl b71 ?_
      refine SO.v rfl (opv_neq rfl rfl) ?_
      cases h
      refine SO.v rfl (opv_pick_f' b71 rfl rfl) ?_
      refine SO.b9 ?_
      refine SO.b9 ?_
      refine SO.b9 ?_
      refine SO.b3 ?_
      refine SO.b4 ?_
      refine SO.b5 ?_
      refine SO.b9 ?_
      refine SO.b9 ?_
      refine SO.b9 ?_
      refine SO.b9 ?_
      exact hk2.fitc (m := 6) rfl (rfl) rfl
    clear hc73
    replace h := hgk
    refine SO.nil ?_
    rcases bool_or c72 with b77 | b77
    · replace h := cond_t b77 h
      refine S.condT rfl b77 ?_
      refine S.seq ?_
      refine S.region ?_
      refine SO.v rfl (opv_assign rfl) ?_
      refine SO.nil ?_
      refine S.to (ρ' := [(4, .bool false)]) ⟨rfl, trivial⟩ ?_
      cases h
      replace h := hK2.1 _ rfl
      cases h
      refine S.drop ?_
      refine S.drop ?_
      refine S.drop ?_
      refine S.drop ?_
      refine S.drop ?_
      refine S.drop ?_
      refine S.drop ?_
      refine S.drop ?_
      refine S.drop ?_
      exact S.ret1 Try.func5 rfl rfl (fun w hs hk => hR w _ _ ⟨rfl, rfl⟩ hs hk)
    replace h := cond_f b77 h
    refine S.condF rfl b77 ?_
    refine S.skip ?_
    refine S.region ?_
    refine SO.v rfl (opv_move rfl) ?_
    refine SO.v rfl (opv_move rfl) ?_
    refine SO.loadN rfl Try.isAgg38 Try.sizeOf38 rfl rfl rfl ?_
    obtain ⟨p78, ht79, h⟩ := opt_bind h
    refine SO.b4 ?_
    refine SO.b5 ?_
    refine SO.b6 ?_
    have ct81 := tx_Tx_Learn.ct b15 v49 v51 _ _ _ _ ht79
    try dsimp only at ct81
    refine SO.call (pre := [Box _ _, MapO _ _ _, MapO _ _ _]) rfl Try.call10 rfl rfl rfl ct81 trivial ?_
    rintro _ _ ⟨u80_l, u80_out, rfl, rfl⟩
    refine SO.nil ?_
    refine S.to (ρ' := [(13, bp b34 0), (12, .int .i64 (w64 (x12_2 + 1))), (11, v30), (0, v0), (3, bp b1 0), (4, .bool false), (5, .bool t2), (6, .int .i64 (a0.length : Int)), (7, bp b10 0), (9, bp b15 0)]) ⟨rfl, rfl, rfl, rfl, rfl, rfl, rfl, rfl, rfl, rfl, trivial⟩ ?_
    refine S.inBlock ?_
    refine S.b3 ?_
    refine S.drop ?_
    refine S.b8 ?_
    refine S.b7 ?_
    refine S.b5 ?_
    refine S.b3 ?_
    refine S.b6 ?_
    refine S.b7 ?_
    refine S.b8 ?_
    refine S.b7 ?_
    refine S.b8 ?_
    refine S.to ?_ (ih2 ((w64 (x12_2 + 1), q36, p78.cells, p78.l, p78.out, p78.lack, p78.fine, qv30_2.set t37.toNat true), (u80_l, u80_out)) h)
    exact ⟨rfl, rfl, rfl, rfl, rfl, rfl, rfl, rfl, rfl, rfl, trivial⟩
  refine ⟨fun r' e' => ?_, ?_⟩
  · subst e'
    have h9 := Brk.of_ret h
    exact h9
  rintro ⟨j12_e2, y34_0_e2, y15_0_e2, y15_1_e2, y15_2_e2, y15_3_e2, y15_4_e2, qv30_e2⟩ ⟨vy15_1_e2, vy15_2_e2⟩ e'
  subst e'
  replace h := Brk.of_nx h
  refine S.b3 ?_
  refine S.rd fun hr84 => ?_
  refine S.seq ?_
  refine S.region ?_
  refine SO.buildSlice0 (ekI .u64) rfl Try.underlying48 Try.sizeOf35 (fun v85 hr86 => ?_)
  refine SO.v rfl (opv_move rfl) ?_
  obtain ⟨zs87, hz88, h⟩ := opt_bind h
  refine SO.append rfl Try.underlying48 Try.underlying48 inf35 rfl rfl rfl (by decide) rfl rfl rfl (Rd.tail (Rd.tail (Rd.tail (Rd.tail (Rd.tail (Rd.tail (Rd.tail (Rd.tail (Rd.head hF0))))))))) hz88 (fun v89 => ?_)
  refine SO.rd fun hr90 => ?_
  refine SO.v rfl (opv_assign rfl) ?_
  refine SO.nil ?_
  refine S.seq ?_
  refine S.seq ?_
  obtain ⟨⟨t91, s93⟩, ht92, h⟩ := opt_bind h
  refine S.draw2 (Y := fun Q => ∃ (_ _ _ _ _ _ _ _ _ _ _ _ _ _ : Unit), Q [(18, v89), (3, bp b1 0), (13, bp b34 0), (0, v0), (4, .bool false), (5, .bool t2), (6, .int .i64 (a0.length : Int)), (9, bp b15 0), (11, v30), (12, .int .i64 j12_e2)] [Own 35 (ekI .u64) v89 zs87, Own 4 ekB v30 qv30_e2, MapO (Value.int .u64) vy15_2_e2 y15_2_e2, MapO (aggE ek_api_Cell) vy15_1_e2 y15_1_e2, Box b34 [.int .u64 y34_0_e2], Own 38 ek_api_Cell vy10_0_e1 y10_0_e1, Box b15 [.int .i64 y15_0_e2, vy15_1_e2, vy15_2_e2, .int .i64 y15_3_e2, .bool y15_4_e2], Box b10 [vy10_0_e1, .int .u32 y10_1_e1], Box b1 [v1], F]) (Z := fun Q => ∀ (_ _ _ _ _ _ _ _ _ _ _ _ _ : Unit), Q [(0, v0), (4, .bool false), (5, .bool t2), (6, .int .i64 (a0.length : Int)), (9, bp b15 0), (11, v30), (12, .int .i64 j12_e2), (18, v89), (126, .bool (t91 != y34_0_e2))] [Own 35 (ekI .u64) v89 s93, Own 4 ekB v30 qv30_e2, MapO (Value.int .u64) vy15_2_e2 y15_2_e2, MapO (aggE ek_api_Cell) vy15_1_e2 y15_1_e2, Box b34 [.int .u64 y34_0_e2], Own 38 ek_api_Cell vy10_0_e1 y10_0_e1, Box b15 [.int .i64 y15_0_e2, vy15_1_e2, vy15_2_e2, .int .i64 y15_3_e2, .bool y15_4_e2], Box b10 [vy10_0_e1, .int .u32 y10_1_e1], Box b1 [v1], F]) (T := [tS 18 (v89), tS 3 (bp b1 0), tS 13 (bp b34 0), tE [(0, v0), (4, .bool false), (5, .bool t2), (6, .int .i64 (a0.length : Int)), (9, bp b15 0), (11, v30), (12, .int .i64 j12_e2)], tR (Own 35 (ekI .u64) v89 zs87), tR (Own 4 ekB v30 qv30_e2), tR (MapO (Value.int .u64) vy15_2_e2 y15_2_e2), tR (MapO (aggE ek_api_Cell) vy15_1_e2 y15_1_e2), tR (Box b34 [.int .u64 y34_0_e2]), tR (Own 38 ek_api_Cell vy10_0_e1 y10_0_e1), tR (Box b15 [.int .i64 y15_0_e2, vy15_1_e2, vy15_2_e2, .int .i64 y15_3_e2, .bool y15_4_e2]), tR (Box b10 [vy10_0_e1, .int .u32 y10_1_e1]), tR (Box b1 [v1]), tR (F), tS 121 (v89), tS 122 ((plainV v89).val), tS 123 (v1), tR (Own 35 (ekI .u64) v89 s93), tS 124 (.int .u64 t91), tS 125 (.int .u64 y34_0_e2), tS 126 (.bool (t91 != y34_0_e2))]) (D := [⟨[0], [], [14]⟩, ⟨[14], [], [15]⟩, ⟨[1, 12], [], [16]⟩, ⟨[15, 16, 13], [4], [17, 18]⟩, ⟨[2, 8], [], [19]⟩, ⟨[18, 19], [], [20]⟩]) (ini := [0, 1, 2, 3, 4, 5, 6, 7, 8, 9, 10, 11, 12, 13]) (fin := [3, 0, 20, 17, 5, 6, 7, 8, 9, 10, 11, 12, 13]) (bf := [[], [0], [], [0, 1, 2], [], [0, 1, 2, 3, 4]]) (by kernel_rfl) (by kernel_rfl) (fun Q => by kernel_rfl) (fun x w h1 h2 => ⟨(), (), (), (), (), (), (), (), (), (), (), (), (), (), EnvAll.of h1 ⟨rfl, rfl, rfl, rfl, rfl, rfl, rfl, rfl, rfl, rfl, trivial⟩, h2⟩) (fun Q => by kernel_rfl) ⟨?_, ?_, ?_, ?_, ?_, ?_, trivial⟩ ?_
  · rintro Fr _
    refine SO.v rfl (opv_move rfl) ?_
    exact SO.nilZ fun a w h1 h2 h3 h4 h5 => PZ.of h1 h3 h5 (.cons () (.cons () (.nil ⟨EnvAll.of h2 ⟨rfl, rfl, trivial⟩, h4⟩)))
  · rintro Fr _
    refine SO.v rfl (opv_iface Try.underlying61 rfl rfl) ?_
    exact SO.nilZ fun a w h1 h2 h3 h4 h5 => PZ.of h1 h3 h5 (.cons () (.cons () (.nil ⟨EnvAll.of h2 ⟨rfl, rfl, trivial⟩, h4⟩)))
  · rintro Fr _ _
    refine SO.load1 rfl Try.isAgg49 rfl rfl ?_
    exact SO.nilZ fun a w h1 h2 h3 h4 h5 => PZ.of h1 h3 h5 (.cons () (.cons () (.cons () (.nil ⟨EnvAll.of h2 ⟨rfl, rfl, trivial⟩, h4⟩))))
  · rintro Fr _ _ _ _
    refine SO.b1 ?_
    refine SO.call (pre := [(plainV v89).rep _]) rfl Try.call17 rfl rfl rfl (law06_Do.ct (plainV v89) _ v1 _ _ _ _ ht92) (Rd.head hF1) ?_
    rintro _ _ ⟨rfl, rfl⟩
    refine headEq (plainV_rep _ _) ?_
    refine SO.rd fun hr94 => ?_
    refine SO.b1 ?_
    exact SO.nilZ fun a w h1 h2 h3 h4 h5 => PZ.of2 (Y := fun Q => ∃ (_ _ _ _ _ : Unit), Q [(122, (plainV v89).val), (123, v1), (124, .int .u64 t91)] [F, Own 35 (ekI .u64) v89 s93]) (fun Q => by kernel_rfl) h1 h3 h5 ⟨(), (), (), (), (), EnvAll.of h2 ⟨rfl, rfl, rfl, trivial⟩, h4⟩
  · rintro Fr _ _
    refine SO.load1 rfl Try.isAgg35 rfl rfl ?_
    exact SO.nilZ fun a w h1 h2 h3 h4 h5 => PZ.of h1 h3 h5 (.cons () (.cons () (.cons () (.nil ⟨EnvAll.of h2 ⟨rfl, rfl, trivial⟩, h4⟩))))
  · rintro Fr _ _
    refine SO.v rfl (opv_neq rfl rfl) ?_
    exact SO.nilZ fun a w h1 h2 h3 h4 h5 => PZ.of h1 h3 h5 (.cons () (.cons () (.cons () (.nil ⟨EnvAll.of h2 ⟨rfl, rfl, rfl, trivial⟩, h4⟩))))
  rintro _ _ _ _ _ _ _ _ _ _ _ _ _
  refine S.to (ρ' := [(0, v0), (4, .bool false), (5, .bool t2), (6, .int .i64 (a0.length : Int)), (9, bp b15 0), (11, v30), (12, .int .i64 j12_e2), (18, v89), (126, .bool (t91 != y34_0_e2))]) ⟨rfl, rfl, rfl, rfl, rfl, rfl, rfl, rfl, rfl, trivial⟩ ?_
  refine S.rd fun hr95 => ?_
  rcases bool_or (t91 != y34_0_e2) with b96 | b96
  · replace h := cond_t b96 h
    refine S.condT rfl b96 ?_
    refine S.seq ?_
    refine S.region ?_
    refine SO.v rfl (opv_assign rfl) ?_
    refine SO.nil ?_
    refine S.to (ρ' := [(4, .bool false)]) ⟨rfl, trivial⟩ ?_
    cases h
    refine S.drop ?_
    refine S.drop ?_
    refine S.drop ?_
    refine S.drop ?_
    refine S.drop ?_
    refine S.drop ?_
    refine S.drop ?_
    refine S.drop ?_
    refine S.drop ?_
    exact S.ret1 Try.func5 rfl rfl (fun w hs hk => hR w _ _ ⟨rfl, rfl⟩ hs hk)
  replace h := cond_f b96 h
  refine S.condF rfl b96 ?_
  refine S.skip ?_
  refine S.seq ?_
  refine S.region ?_
  refine SO.v rfl (opv_move rfl) ?_
  obtain ⟨⟨t97, p98⟩, ht99, h⟩ := opt_bind h
  refine SO.b2 ?_
  refine SO.b3 ?_
  refine SO.b6 ?_
  have ct148 := tx_Tx_Entries.ct _ b15 vy15_1_e2 vy15_2_e2 _ _ _ ht99
  try dsimp only at ct148
  refine SO.call (pre := [Box _ _, MapO _ _ _, MapO _ _ _]) rfl Try.call13 rfl rfl rfl ct148 trivial ?_
  rintro v100 _ ⟨_, u102_l, u102_out, rfl, rfl⟩
  refine SO.rd fun hr101 => ?_
  refine SO.v rfl (opv_assign rfl) ?_
  refine SO.nil ?_
  refine S.seq ?_
  refine S.seq ?_
  refine S.region ?_
  refine SO.v rfl (opv_move rfl) ?_
  refine SO.v rfl (opv_lenR rfl Try.underlying45 hr101 rfl) ?_
  refine SO.v rfl (opv_move rfl) ?_
  refine SO.v rfl (opv_neq rfl rfl) ?_
  refine SO.v rfl (opv_move rfl) ?_
  obtain ⟨c104, hc105, hgk⟩ := opt_bind h
  refine SO.cut 5 138 (.bool c104) [Own 63 ek_tx_Entry v100 t97, Box b15 [.int .i64 p98.cells, u102_l, u102_out, .int .i64 p98.lack, .bool p98.fine], MapO (aggE ek_api_Cell) u102_l p98.l, MapO (Value.int .u64) u102_out p98.out, Own 35 (ekI .u64) v89 s93, Own 4 ekB v30 qv30_e2, Box b34 [.int .u64 y34_0_e2], Own 38 ek_api_Cell vy10_0_e1 y10_0_e1, Box b10 [vy10_0_e1, .int .u32 y10_1_e1], Box b1 [v1], F] (fun l2 hk2 => ?_) ?_
  · clear hgk
    replace h := hc105
    rcases bool_or ((t97.length : Int) != j12_e2) with b103 | b103
    · replace h := cond_t b103 h
      refine SO.passF rfl rfl rfl b103 rfl rfl ?_
      refine SO.passF rfl rfl rfl b103 rfl rfl ?_
      refine SO.passF rfl rfl rfl b103 rfl rfl ?_
      refine SO.passF rfl rfl rfl b103 rfl rfl ?_
      cases h
      refine SO.v rfl (opv_pick_t' b103 rfl rfl) ?_
      refine SO.b10 ?_
      refine SO.b10 ?_
      refine SO.b10 ?_
      refine SO.b10 ?_
      refine SO.b10 ?_
      refine SO.b10 ?_
      refine SO.b10 ?_
      refine SO.b10 ?_
      refine SO.b10 ?_
      refine SO.b10 ?_
      refine SO.b10 ?_
      exact hk2.fitc (m := 5) rfl (rfl) rfl
    replace h := cond_f b103 h
    refine SO.takeT rfl rfl rfl b103 ?_
    refine SO.v rfl (opv_move rfl) ?_
    refine SO.takeT rfl rfl rfl b103 ?_
    obtain ⟨t106, ht107, h⟩ := opt_bind h
    refine SO.b3 ?_
    refine SO.b3 ?_
    refine SO.b3 ?_
    refine SO.call (pre := [Box _ _, MapO _ _ _, MapO _ _ _]) rfl Try.call19 rfl rfl rfl (tx_Tx_Reads.ct b15 u102_l u102_out _ _ ht107) trivial ?_
    rintro _ _ ⟨rfl, rfl⟩
    refine SO.takeT rfl rfl rfl b103 ?_
    refine SO.v rfl (opv_move rfl) ?_
    refine SO.takeT rfl rfl rfl b103 ?_
    refine SO.v rfl (opv_neq rfl rfl) ?_
    cases h
    refine SO.v rfl (opv_pick_f' b103 rfl rfl) ?_
    refine SO.b10 ?_
    refine SO.b10 ?_
    refine SO.b10 ?_
    refine SO.b10 ?_
    refine SO.b10 ?_
    refine SO.b10 ?_
    refine SO.b10 ?_
    refine SO.b9 ?_
    refine SO.b9 ?_
    refine SO.b9 ?_
    refine SO.b10 ?_
    exact hk2.fitc (m := 5) rfl (rfl) rfl
  clear hc105
  replace h := hgk
  refine SO.nil ?_
  refine S.to (ρ' := [(0, v0), (4, .bool false), (5, .bool t2), (6, .int .i64 (a0.length : Int)), (11, v30), (18, v89), (19, v100), (138, .bool c104)]) ⟨rfl, rfl, rfl, rfl, rfl, rfl, rfl, rfl, trivial⟩ ?_
  rcases bool_or c104 with b108 | b108
  · replace h := cond_t b108 h
    refine S.condT rfl b108 ?_
    refine S.seq ?_
    refine S.region ?_
    refine SO.v rfl (opv_assign rfl) ?_
    refine SO.nil ?_
    refine S.to (ρ' := [(4, .bool false)]) ⟨rfl, trivial⟩ ?_
    cases h
    refine S.drop ?_
    refine S.drop ?_
    refine S.drop ?_
    refine S.drop ?_
    refine S.drop ?_
    refine S.drop ?_
    refine S.drop ?_
    refine S.drop ?_
    refine S.drop ?_
    refine S.drop ?_
    exact S.ret1 Try.func5 rfl rfl (fun w hs hk => hR w _ _ ⟨rfl, rfl⟩ hs hk)
  replace h := cond_f b108 h
  refine S.condF rfl b108 ?_
  refine S.skip ?_
  refine S.seq ?_
  refine S.region ?_
  refine SO.buildSlice0 (ekI .u64) rfl Try.underlying48 Try.sizeOf35 (fun v109 hr110 => ?_)
  refine SO.v rfl (opv_move rfl) ?_
  obtain ⟨zs111, hz112, h⟩ := opt_bind h
  refine SO.append rfl Try.underlying48 Try.underlying48 inf35 rfl rfl rfl (by decide) rfl rfl rfl (Rd.tail (Rd.tail (Rd.tail (Rd.tail (Rd.tail (Rd.tail (Rd.tail (Rd.tail (Rd.tail (Rd.tail (Rd.head hF0))))))))))) hz112 (fun v113 => ?_)
  refine SO.rd fun hr114 => ?_
  refine SO.v rfl (opv_assign rfl) ?_
  refine SO.nil ?_
  refine S.seq ?_
  refine S.seq ?_
  refine S.region ?_
  refine SO.v rfl (opv_assign rfl) ?_
  refine SO.nil ?_
  obtain ⟨o3, hlp3, h⟩ := opt_bind h
  refine S.b11 ?_
  refine S.b11 ?_
  refine S.b11 ?_
  refine S.b11 ?_
  refine S.b11 ?_
  refine S.b11 ?_
  refine S.b11 ?_
  refine S.b11 ?_
  refine S.b11 ?_
  refine S.b11 ?_
  refine S.b11 ?_
  refine S.b11 ?_
  refine S.to (ρ' := [(21, .int .i64 0), (20, v113), (0, v0), (4, .bool false), (5, .bool t2), (6, .int .i64 (a0.length : Int)), (11, v30), (18, v89), (19, v100)]) ⟨rfl, rfl, rfl, rfl, rfl, rfl, rfl, rfl, rfl, trivial⟩ ?_
  refine S.forloop (X := (Int × (List Int)) × Unit) (O := Brk Bool (List Int)) (fun m x => law06_TxLearns.l3 a0 qv30_e2 t97 m x.1) (fun x => match x with | ((x21_3, qv113_3), _) => [(21, .int .i64 x21_3), (20, v113), (0, v0), (4, .bool false), (5, .bool t2), (6, .int .i64 (a0.length : Int)), (11, v30), (18, v89), (19, v100)]) (fun x => match x with | ((x21_3, qv113_3), _) => [Own 35 (ekI .u64) v113 qv113_3, Own 63 ek_tx_Entry v100 t97, Box b15 [.int .i64 p98.cells, u102_l, u102_out, .int .i64 p98.lack, .bool p98.fine], MapO (aggE ek_api_Cell) u102_l p98.l, MapO (Value.int .u64) u102_out p98.out, Own 35 (ekI .u64) v89 s93, Own 4 ekB v30 qv30_e2, Box b34 [.int .u64 y34_0_e2], Own 38 ek_api_Cell vy10_0_e1 y10_0_e1, Box b10 [vy10_0_e1, .int .u32 y10_1_e1], Box b1 [v1], F]) (fun Sk o' => (∀ r', o' = Brk.ret r' → some r' = some r0) ∧ ∀ qv113_e3 : (List Int), ∀ _ : Unit, o' = Brk.nx qv113_e3 → Sk [(4, .bool false), (5, .bool t2), (6, .int .i64 (a0.length : Int)), (18, v89), (20, v113)] [Own 35 (ekI .u64) v113 qv113_e3, Own 63 ek_tx_Entry v100 t97, Box b15 [.int .i64 p98.cells, u102_l, u102_out, .int .i64 p98.lack, .bool p98.fine], MapO (aggE ek_api_Cell) u102_l p98.l, MapO (Value.int .u64) u102_out p98.out, Own 35 (ekI .u64) v89 s93, Own 4 ekB v30 qv30_e2, Box b34 [.int .u64 y34_0_e2], Own 38 ek_api_Cell vy10_0_e1 y10_0_e1, Box b10 [vy10_0_e1, .int .u32 y10_1_e1], Box b1 [v1], F]) (fun _ => rfl) ?_ (m := k) (x := ((0, zs111), ())) hlp3 ?_
  · clear h hlp3
    intro k x o_3 h hK3 ih3
    obtain ⟨⟨x21_3, qv113_3⟩, _⟩ := x
    replace h : law06_TxLearns.l3 a0 qv30_e2 t97 (k + 1) (x21_3, qv113_3) = some o_3 := h
    first | rw [law06_TxLearns.l3] at h | unfold law06_TxLearns.l3 at h
    refine S.rd fun hr115 => ?_
    refine S.seq ?_
    refine S.seq ?_
    refine S.region ?_
    refine SO.v rfl (opv_move rfl) ?_
    refine SO.v rfl (opv_move rfl) ?_
    refine SO.v rfl (opv_lenR rfl Try.underlying45 hr101 rfl) ?_
    refine SO.v rfl (opv_lss rfl rfl) ?_
    refine SO.nil ?_
    rcases bool_or (decide (x21_3 < (t97.length : Int))) with b116 | b116
    · replace h := cond_t b116 h
      refine S.condT rfl b116 ?_
      refine S.skip ?_
      refine S.seq ?_
      refine S.block ?_
      refine S.seq ?_
      refine S.region ?_
      refine SO.v rfl (opv_move rfl) ?_
      refine SO.v rfl (opv_move rfl) ?_
      obtain ⟨x117, hx118, h⟩ := opt_bind h
      refine SO.v rfl (opv_idx Try.underlying45 Try.sizeOf63 hr101 rfl rfl hx118) ?_
      refine SO.loadIN rfl Try.isAgg63 Try.sizeOf63 (Rd.tail (Rd.head hr101)) hx118 rfl rfl rfl ?_
      refine SO.alloc rfl Try.zeroValue63 rfl (fun b119 => ?_)
      refine SO.storeN Try.sizeOf63 rfl rfl rfl rfl rfl rfl ?_
      refine SO.nil ?_
      refine S.to (ρ' := [(21, .int .i64 x21_3), (20, v113), (0, v0), (4, .bool false), (5, .bool t2), (6, .int .i64 (a0.length : Int)), (11, v30), (18, v89), (19, v100), (22, bp b119 0)]) ⟨rfl, rfl, rfl, rfl, rfl, rfl, rfl, rfl, rfl, rfl, trivial⟩ ?_
      refine S.seq ?_
      refine S.seq ?_
      obtain ⟨j200_4, hC4, hJ4⟩ := opt_bind h
      clear h
      refine S.cutP (G := Unit) (fun _ => True) (fun _ => [(0, v0), (4, .bool false), (5, .bool t2), (6, .int .i64 (a0.length : Int)), (11, v30), (18, v89), (19, v100), (20, v113), (21, .int .i64 x21_3), (22, bp b119 0), (200, .bool j200_4)]) (fun _ => [Box b119 [.int .i64 x117.Cell, .int .u32 x117.Version, .int .u64 x117.Old, .int .u64 x117.New, .bool x117.Write], Own 35 (ekI .u64) v113 qv113_3, Own 63 ek_tx_Entry v100 t97, Box b15 [.int .i64 p98.cells, u102_l, u102_out, .int .i64 p98.lack, .bool p98.fine], MapO (aggE ek_api_Cell) u102_l p98.l, MapO (Value.int .u64) u102_out p98.out, Own 35 (ekI .u64) v89 s93, Own 4 ekB v30 qv30_e2, Box b34 [.int .u64 y34_0_e2], Own 38 ek_api_Cell vy10_0_e1 y10_0_e1, Box b10 [vy10_0_e1, .int .u32 y10_1_e1], Box b1 [v1], F]) (fun hk4 => ?_) ?_
      · replace h := hC4
        rcases bool_or (decide (x117.Cell < 0)) with b120 | b120
        · replace h := cond_t b120 h
          refine S.draw2 (Y := fun Q => ∃ (_ _ _ _ _ _ _ _ _ _ _ _ _ _ _ _ _ _ _ : Unit), Q [(22, bp b119 0), (6, .int .i64 (a0.length : Int)), (21, .int .i64 x21_3), (19, v100), (0, v0), (20, v113), (4, .bool false), (5, .bool t2), (11, v30), (18, v89)] [Box b119 [.int .i64 x117.Cell, .int .u32 x117.Version, .int .u64 x117.Old, .int .u64 x117.New, .bool x117.Write], Own 35 (ekI .u64) v113 qv113_3, Own 63 ek_tx_Entry v100 t97, Box b15 [.int .i64 p98.cells, u102_l, u102_out, .int .i64 p98.lack, .bool p98.fine], MapO (aggE ek_api_Cell) u102_l p98.l, MapO (Value.int .u64) u102_out p98.out, Own 35 (ekI .u64) v89 s93, Own 4 ekB v30 qv30_e2, Box b34 [.int .u64 y34_0_e2], Own 38 ek_api_Cell vy10_0_e1 y10_0_e1, Box b10 [vy10_0_e1, .int .u32 y10_1_e1], Box b1 [v1], F]) (Z := fun Q => ∀ (_ _ _ _ _ _ _ _ _ _ _ _ _ _ _ _ _ _ _ _ : Unit), Q [(21, .int .i64 x21_3), (20, v113), (4, .bool false), (5, .bool t2), (11, v30), (18, v89), (0, v0), (6, .int .i64 (a0.length : Int)), (19, v100), (22, bp b119 0), (200, .bool true)] [Box b119 [.int .i64 x117.Cell, .int .u32 x117.Version, .int .u64 x117.Old, .int .u64 x117.New, .bool x117.Write], Own 35 (ekI .u64) v113 qv113_3, Own 63 ek_tx_Entry v100 t97, Box b15 [.int .i64 p98.cells, u102_l, u102_out, .int .i64 p98.lack, .bool p98.fine], MapO (aggE ek_api_Cell) u102_l p98.l, MapO (Value.int .u64) u102_out p98.out, Own 35 (ekI .u64) v89 s93, Own 4 ekB v30 qv30_e2, Box b34 [.int .u64 y34_0_e2], Own 38 ek_api_Cell vy10_0_e1 y10_0_e1, Box b10 [vy10_0_e1, .int .u32 y10_1_e1], Box b1 [v1], F]) (T := [tS 22 (bp b119 0), tS 6 (.int .i64 (a0.length : Int)), tS 21 (.int .i64 x21_3), tS 19 (v100), tS 0 (v0), tE [(20, v113), (4, .bool false), (5, .bool t2), (11, v30), (18, v89)], tR (Box b119 [.int .i64 x117.Cell, .int .u32 x117.Version, .int .u64 x117.Old, .int .u64 x117.New, .bool x117.Write]), tR (Own 35 (ekI .u64) v113 qv113_3), tR (Own 63 ek_tx_Entry v100 t97), tR (Box b15 [.int .i64 p98.cells, u102_l, u102_out, .int .i64 p98.lack, .bool p98.fine]), tR (MapO (aggE ek_api_Cell) u102_l p98.l), tR (MapO (Value.int .u64) u102_out p98.out), tR (Own 35 (ekI .u64) v89 s93), tR (Own 4 ekB v30 qv30_e2), tR (Box b34 [.int .u64 y34_0_e2]), tR (Own 38 ek_api_Cell vy10_0_e1 y10_0_e1), tR (Box b10 [vy10_0_e1, .int .u32 y10_1_e1]), tR (Box b1 [v1]), tR (F), tS 152 (bp b119 0), tS 153 (.int .i64 x117.Cell), tS 154 (.bool (decide (x117.Cell < 0))), tS 155 (.bool (decide (x117.Cell < 0))), tS 156 (undef), tS 157 (undef), tS 158 (undef), tS 159 (undef), tS 160 (.bool true), tS 161 (.bool true), tS 162 (undef), tS 163 (undef), tS 164 (undef), tS 165 (undef), tS 166 (undef), tS 167 (undef), tS 168 (undef), tS 169 (undef), tS 170 (undef), tS 171 (undef), tS 172 (undef), tS 173 (undef), tS 174 (undef), tS 175 (.bool true), tS 176 (.bool true), tS 177 (undef), tS 178 (undef), tS 179 (undef), tS 180 (undef), tS 181 (undef), tS 182 (undef), tS 183 (undef), tS 184 (undef), tS 185 (.bool true), tS 186 (.bool true), tS 187 (undef), tS 188 (undef), tS 189 (undef), tS 190 (.bool true), tS 191 (.bool true), tS 192 (undef), tS 193 (undef), tS 194 (undef), tS 195 (undef), tS 196 (undef), tS 197 (undef), tS 198 (undef), tS 199 (undef), tS 200 (.bool true)]) (D := [⟨[0], [], [19]⟩, ⟨[19, 6], [], [20]⟩, ⟨[20], [], [21]⟩, ⟨[21], [], [22]⟩, ⟨[22], [], [23]⟩, ⟨[22], [], [24]⟩, ⟨[22], [], [25]⟩, ⟨[22], [], [26]⟩, ⟨[22, 26], [], [27]⟩, ⟨[27], [], [28]⟩, ⟨[28], [], [29]⟩, ⟨[28], [], [30]⟩, ⟨[28], [], [31]⟩, ⟨[31], [], [32]⟩, ⟨[31], [], [33]⟩, ⟨[31], [], [34]⟩, ⟨[31], [], [35]⟩, ⟨[31], [], [36]⟩, ⟨[31], [], [37]⟩, ⟨[31], [], [38]⟩, ⟨[31], [], [39]⟩, ⟨[31], [], [40]⟩, ⟨[28], [], [41]⟩, ⟨[28, 41], [], [42]⟩, ⟨[42], [], [43]⟩, ⟨[43], [], [44]⟩, ⟨[43], [], [45]⟩, ⟨[43], [], [46]⟩, ⟨[43], [], [47]⟩, ⟨[43], [], [48]⟩, ⟨[43], [], [49]⟩, ⟨[43], [], [50]⟩, ⟨[43], [], [51]⟩, ⟨[43, 51], [], [52]⟩, ⟨[52], [], [53]⟩, ⟨[53], [], [54]⟩, ⟨[53], [], [55]⟩, ⟨[53], [], [56]⟩, ⟨[53, 56], [], [57]⟩, ⟨[57], [], [58]⟩, ⟨[58], [], [59]⟩, ⟨[58], [], [60]⟩, ⟨[58], [], [61]⟩, ⟨[58], [], [62]⟩, ⟨[58], [], [63]⟩, ⟨[58], [], [64]⟩, ⟨[58], [], [65]⟩, ⟨[58], [], [66]⟩, ⟨[58, 66], [], [67]⟩]) (ini := [0, 1, 2, 3, 4, 5, 6, 7, 8, 9, 10, 11, 12, 13, 14, 15, 16, 17, 18]) (fin := [2, 5, 4, 1, 3, 0, 67, 6, 7, 8, 9, 10, 11, 12, 13, 14, 15, 16, 17, 18]) (bf := [[], [0], [0, 1], [0, 1, 2], [0, 1, 2, 3], [0, 1, 2, 3, 4], [0, 1, 2, 3], [0, 1, 2, 3, 4, 5, 6], [0, 1, 2, 3, 4, 5, 6, 7], [0, 1, 2, 3, 4, 5, 6, 7, 8], [0, 1, 2, 3, 4, 5, 6, 7, 8, 9], [0, 1, 2, 3, 4, 5, 6, 7, 8, 9, 10], [0, 1, 2, 3, 4, 5, 6, 7, 8, 9, 10, 11], [0, 1, 2, 3, 4, 5, 6, 7, 8, 9, 10, 11, 12], [0, 1, 2, 3, 4, 5, 6, 7, 8, 9, 10, 11, 12, 13], [0, 1, 2, 3, 4, 5, 6, 7, 8, 9, 10, 11, 12], [0, 1, 2, 3, 4, 5, 6, 7, 8, 9, 10, 11, 12], [0, 1, 2, 3, 4, 5, 6, 7, 8, 9, 10, 11, 12, 16], [0, 1, 2, 3, 4, 5, 6, 7, 8, 9, 10, 11, 12, 15, 16, 17], [0, 1, 2, 3, 4, 5, 6, 7, 8, 9, 10, 11, 12, 15, 16, 17, 18], [0, 1, 2, 3, 4, 5, 6, 7, 8, 9, 10, 11, 12, 15, 16, 17, 18, 19], [0, 1, 2, 3, 4, 5, 6, 7, 8, 9, 10, 11, 12, 13, 14, 15, 16, 17, 18, 19, 20], [0, 1, 2, 3, 4, 5, 6, 7, 8, 9, 10, 11, 12, 13, 14, 15, 16, 17, 18, 19, 20, 21], [0, 1, 2, 3, 4, 5, 6, 7, 8, 9, 10, 11, 12, 13, 14, 15, 16, 17, 18, 19, 20, 21, 22], [0, 1, 2, 3, 4, 5, 6, 7, 8, 9, 10, 11, 12, 13, 14, 15, 16, 17, 18, 19, 20, 21, 22, 23], [0, 1, 2, 3, 4, 5, 6, 7, 8, 9, 10, 11, 12, 13, 14, 15, 16, 17, 18, 19, 20, 21, 22, 23, 24], [0, 1, 2, 3, 4, 5, 6, 7, 8, 9, 10, 11, 12, 13, 14, 15, 16, 17, 18, 19, 20, 21, 22, 23, 24, 25], [0, 1, 2, 3, 4, 5, 6, 7, 8, 9, 10, 11, 12, 13, 14, 15, 16, 17, 18, 19, 20, 21, 22, 23, 24], [0, 1, 2, 3, 4, 5, 6, 7, 8, 9, 10, 11, 12, 13, 14, 15, 16, 17, 18, 19, 20, 21, 22, 23, 24], [0, 1, 2, 3, 4, 5, 6, 7, 8, 9, 10, 11, 12, 13, 14, 15, 16, 17, 18, 19, 20, 21, 22, 23, 24, 28], [0, 1, 2, 3, 4, 5, 6, 7, 8, 9, 10, 11, 12, 13, 14, 15, 16, 17, 18, 19, 20, 21, 22, 23, 24, 27, 28, 29], [0, 1, 2, 3, 4, 5, 6, 7, 8, 9, 10, 11, 12, 13, 14, 15, 16, 17, 18, 19, 20, 21, 22, 23, 24, 27, 28, 29, 30], [0, 1, 2, 3, 4, 5, 6, 7, 8, 9, 10, 11, 12, 13, 14, 15, 16, 17, 18, 19, 20, 21, 22, 23, 24, 25, 26, 27, 28, 29, 30, 31], [0, 1, 2, 3, 4, 5, 6, 7, 8, 9, 10, 11, 12, 13, 14, 15, 16, 17, 18, 19, 20, 21, 22, 23, 24, 25, 26, 27, 28, 29, 30, 31, 32], [0, 1, 2, 3, 4, 5, 6, 7, 8, 9, 10, 11, 12, 13, 14, 15, 16, 17, 18, 19, 20, 21, 22, 23, 24, 25, 26, 27, 28, 29, 30, 31, 32, 33], [0, 1, 2, 3, 4, 5, 6, 7, 8, 9, 10, 11, 12, 13, 14, 15, 16, 17, 18, 19, 20, 21, 22, 23, 24, 25, 26, 27, 28, 29, 30, 31, 32, 33, 34], [0, 1, 2, 3, 4, 5, 6, 7, 8, 9, 10, 11, 12, 13, 14, 15, 16, 17, 18, 19, 20, 21, 22, 23, 24, 25, 26, 27, 28, 29, 30, 31, 32, 33, 34, 35], [0, 1, 2, 3, 4, 5, 6, 7, 8, 9, 10, 11, 12, 13, 14, 15, 16, 17, 18, 19, 20, 21, 22, 23, 24, 25, 26, 27, 28, 29, 30, 31, 32, 33, 34, 35, 36], [0, 1, 2, 3, 4, 5, 6, 7, 8, 9, 10, 11, 12, 13, 14, 15, 16, 17, 18, 19, 20, 21, 22, 23, 24, 25, 26, 27, 28, 29, 30, 31, 32, 33, 34, 35, 36, 37], [0, 1, 2, 3, 4, 5, 6, 7, 8, 9, 10, 11, 12, 13, 14, 15, 16, 17, 18, 19, 20, 21, 22, 23, 24, 25, 26, 27, 28, 29, 30, 31, 32, 33, 34, 35, 36, 37, 38], [0, 1, 2, 3, 4, 5, 6, 7, 8, 9, 10, 11, 12, 13, 14, 15, 16, 17, 18, 19, 20, 21, 22, 23, 24, 25, 26, 27, 28, 29, 30, 31, 32, 33, 34, 35, 36, 37, 38, 39], [0, 1, 2, 3, 4, 5, 6, 7, 8, 9, 10, 11, 12, 13, 14, 15, 16, 17, 18, 19, 20, 21, 22, 23, 24, 25, 26, 27, 28, 29, 30, 31, 32, 33, 34, 35, 36, 37, 38, 39, 40], [0, 1, 2, 3, 4, 5, 6, 7, 8, 9, 10, 11, 12, 13, 14, 15, 16, 17, 18, 19, 20, 21, 22, 23, 24, 25, 26, 27, 28, 29, 30, 31, 32, 33, 34, 35, 36, 37, 38, 39], [0, 1, 2, 3, 4, 5, 6, 7, 8, 9, 10, 11, 12, 13, 14, 15, 16, 17, 18, 19, 20, 21, 22, 23, 24, 25, 26, 27, 28, 29, 30, 31, 32, 33, 34, 35, 36, 37, 38, 39, 42], [0, 1, 2, 3, 4, 5, 6, 7, 8, 9, 10, 11, 12, 13, 14, 15, 16, 17, 18, 19, 20, 21, 22, 23, 24, 25, 26, 27, 28, 29, 30, 31, 32, 33, 34, 35, 36, 37, 38, 39], [0, 1, 2, 3, 4, 5, 6, 7, 8, 9, 10, 11, 12, 13, 14, 15, 16, 17, 18, 19, 20, 21, 22, 23, 24, 25, 26, 27, 28, 29, 30, 31, 32, 33, 34, 35, 36, 37, 38, 39, 44], [0, 1, 2, 3, 4, 5, 6, 7, 8, 9, 10, 11, 12, 13, 14, 15, 16, 17, 18, 19, 20, 21, 22, 23, 24, 25, 26, 27, 28, 29, 30, 31, 32, 33, 34, 35, 36, 37, 38, 39, 42, 43, 44, 45], [0, 1, 2, 3, 4, 5, 6, 7, 8, 9, 10, 11, 12, 13, 14, 15, 16, 17, 18, 19, 20, 21, 22, 23, 24, 25, 26, 27, 28, 29, 30, 31, 32, 33, 34, 35, 36, 37, 38, 39, 40, 41, 42, 43, 44, 45, 46], [0, 1, 2, 3, 4, 5, 6, 7, 8, 9, 10, 11, 12, 13, 14, 15, 16, 17, 18, 19, 20, 21, 22, 23, 24, 25, 26, 27, 28, 29, 30, 31, 32, 33, 34, 35, 36, 37, 38, 39, 40, 41, 42, 43, 44, 45, 46, 47]]) (by kernel_rfl) (by kernel_rfl) (fun Q => by kernel_rfl) (fun x w h1 h2 => ⟨(), (), (), (), (), (), (), (), (), (), (), (), (), (), (), (), (), (), (), EnvAll.of h1 ⟨rfl, rfl, rfl, rfl, rfl, rfl, rfl, rfl, rfl, rfl, trivial⟩, h2⟩) (fun Q => by kernel_rfl) ⟨?_, ?_, ?_, ?_, ?_, ?_, ?_, ?_, ?_, ?_, ?_, ?_, ?_, ?_, ?_, ?_, ?_, ?_, ?_, ?_, ?_, ?_, ?_, ?_, ?_, ?_, ?_, ?_, ?_, ?_, ?_, ?_, ?_, ?_, ?_, ?_, ?_, ?_, ?_, ?_, ?_, ?_, ?_, ?_, ?_, ?_, ?_, ?_, ?_, trivial⟩ ?_
          · rintro Fr _
            refine SO.v rfl (opv_fieldAddr Try.underlying63 rfl Try.sizeOf3 rfl rfl) ?_
            exact SO.nilZ fun a w h1 h2 h3 h4 h5 => PZ.of h1 h3 h5 (.cons () (.cons () (.nil ⟨EnvAll.of h2 ⟨rfl, rfl, trivial⟩, h4⟩)))
          · rintro Fr _ _
            refine SO.load1 rfl Try.isAgg3 rfl rfl ?_
            exact SO.nilZ fun a w h1 h2 h3 h4 h5 => PZ.of h1 h3 h5 (.cons () (.cons () (.cons () (.nil ⟨EnvAll.of h2 ⟨rfl, rfl, trivial⟩, h4⟩))))
          · rintro Fr _
            refine SO.v rfl (opv_lss rfl rfl) ?_
            exact SO.nilZ fun a w h1 h2 h3 h4 h5 => PZ.of h1 h3 h5 (.cons () (.cons () (.nil ⟨EnvAll.of h2 ⟨rfl, rfl, trivial⟩, h4⟩)))
          · rintro Fr _
            refine SO.v rfl (opv_move rfl) ?_
            exact SO.nilZ fun a w h1 h2 h3 h4 h5 => PZ.of h1 h3 h5 (.cons () (.cons () (.nil ⟨EnvAll.of h2 ⟨rfl, rfl, trivial⟩, h4⟩)))
          · rintro Fr _
            refine SO.passF rfl rfl rfl b120 rfl rfl ?_
            exact SO.nilZ fun a w h1 h2 h3 h4 h5 => PZ.of h1 h3 h5 (.cons () (.cons () (.nil ⟨EnvAll.of h2 ⟨rfl, rfl, trivial⟩, h4⟩)))
          · rintro Fr _
            refine SO.passF rfl rfl rfl b120 rfl rfl ?_
            exact SO.nilZ fun a w h1 h2 h3 h4 h5 => PZ.of h1 h3 h5 (.cons () (.cons () (.nil ⟨EnvAll.of h2 ⟨rfl, rfl, trivial⟩, h4⟩)))
          · rintro Fr _
            refine SO.passF rfl rfl rfl b120 rfl rfl ?_
            exact SO.nilZ fun a w h1 h2 h3 h4 h5 => PZ.of h1 h3 h5 (.cons () (.cons () (.nil ⟨EnvAll.of h2 ⟨rfl, rfl, trivial⟩, h4⟩)))
          · rintro Fr _
            refine SO.passF rfl rfl rfl b120 rfl rfl ?_
            exact SO.nilZ fun a w h1 h2 h3 h4 h5 => PZ.of h1 h3 h5 (.cons () (.cons () (.nil ⟨EnvAll.of h2 ⟨rfl, rfl, trivial⟩, h4⟩)))
          · rintro Fr _ _
            refine SO.v rfl (opv_pick_t' b120 rfl rfl) ?_
            exact SO.nilZ fun a w h1 h2 h3 h4 h5 => PZ.of h1 h3 h5 (.cons () (.cons () (.cons () (.nil ⟨EnvAll.of h2 ⟨rfl, rfl, rfl, trivial⟩, h4⟩))))
          · rintro Fr _
            refine SO.v rfl (opv_move rfl) ?_
            exact SO.nilZ fun a w h1 h2 h3 h4 h5 => PZ.of h1 h3 h5 (.cons () (.cons () (.nil ⟨EnvAll.of h2 ⟨rfl, rfl, trivial⟩, h4⟩)))
          · rintro Fr _
            refine SO.passF rfl rfl rfl rfl rfl rfl ?_
            exact SO.nilZ fun a w h1 h2 h3 h4 h5 => PZ.of h1 h3 h5 (.cons () (.cons () (.nil ⟨EnvAll.of h2 ⟨rfl, rfl, trivial⟩, h4⟩)))
          · rintro Fr _
            refine SO.passF rfl rfl rfl rfl rfl rfl ?_
            exact SO.nilZ fun a w h1 h2 h3 h4 h5 => PZ.of h1 h3 h5 (.cons () (.cons () (.nil ⟨EnvAll.of h2 ⟨rfl, rfl, trivial⟩, h4⟩)))
          · rintro Fr _
            refine SO.passF rfl rfl rfl rfl rfl rfl ?_
            exact SO.nilZ fun a w h1 h2 h3 h4 h5 => PZ.of h1 h3 h5 (.cons () (.cons () (.nil ⟨EnvAll.of h2 ⟨rfl, rfl, trivial⟩, h4⟩)))
          · rintro Fr _
            refine SO.pass_undef rfl rfl rfl rfl ?_
            exact SO.nilZ fun a w h1 h2 h3 h4 h5 => PZ.of h1 h3 h5 (.cons () (.cons () (.nil ⟨EnvAll.of h2 ⟨rfl, rfl, trivial⟩, h4⟩)))
          · rintro Fr _
            refine SO.pass_undef rfl rfl rfl rfl ?_
            exact SO.nilZ fun a w h1 h2 h3 h4 h5 => PZ.of h1 h3 h5 (.cons () (.cons () (.nil ⟨EnvAll.of h2 ⟨rfl, rfl, trivial⟩, h4⟩)))
          · rintro Fr _
            refine SO.pass_undef rfl rfl rfl rfl ?_
            exact SO.nilZ fun a w h1 h2 h3 h4 h5 => PZ.of h1 h3 h5 (.cons () (.cons () (.nil ⟨EnvAll.of h2 ⟨rfl, rfl, trivial⟩, h4⟩)))
          · rintro Fr _
            refine SO.pass_undef rfl rfl rfl rfl ?_
            exact SO.nilZ fun a w h1 h2 h3 h4 h5 => PZ.of h1 h3 h5 (.cons () (.cons () (.nil ⟨EnvAll.of h2 ⟨rfl, rfl, trivial⟩, h4⟩)))
          · rintro Fr _
            refine SO.pass_undef rfl rfl rfl rfl ?_
            exact SO.nilZ fun a w h1 h2 h3 h4 h5 => PZ.of h1 h3 h5 (.cons () (.cons () (.nil ⟨EnvAll.of h2 ⟨rfl, rfl, trivial⟩, h4⟩)))
          · rintro Fr _
            refine SO.pass_undef rfl rfl rfl rfl ?_
            exact SO.nilZ fun a w h1 h2 h3 h4 h5 => PZ.of h1 h3 h5 (.cons () (.cons () (.nil ⟨EnvAll.of h2 ⟨rfl, rfl, trivial⟩, h4⟩)))
          · rintro Fr _
            refine SO.pass_undef rfl rfl rfl rfl ?_
            exact SO.nilZ fun a w h1 h2 h3 h4 h5 => PZ.of h1 h3 h5 (.cons () (.cons () (.nil ⟨EnvAll.of h2 ⟨rfl, rfl, trivial⟩, h4⟩)))
          · rintro Fr _
            refine SO.pass_undef rfl rfl rfl rfl ?_
            exact SO.nilZ fun a w h1 h2 h3 h4 h5 => PZ.of h1 h3 h5 (.cons () (.cons () (.nil ⟨EnvAll.of h2 ⟨rfl, rfl, trivial⟩, h4⟩)))
          · rintro Fr _
            refine SO.pass_undef rfl rfl rfl rfl ?_
            exact SO.nilZ fun a w h1 h2 h3 h4 h5 => PZ.of h1 h3 h5 (.cons () (.cons () (.nil ⟨EnvAll.of h2 ⟨rfl, rfl, trivial⟩, h4⟩)))
          · rintro Fr _
            refine SO.passF rfl rfl rfl rfl rfl rfl ?_
            exact SO.nilZ fun a w h1 h2 h3 h4 h5 => PZ.of h1 h3 h5 (.cons () (.cons () (.nil ⟨EnvAll.of h2 ⟨rfl, rfl, trivial⟩, h4⟩)))
          · rintro Fr _ _
            refine SO.v rfl (opv_pick_tt rfl rfl) ?_
            exact SO.nilZ fun a w h1 h2 h3 h4 h5 => PZ.of h1 h3 h5 (.cons () (.cons () (.cons () (.nil ⟨EnvAll.of h2 ⟨rfl, rfl, rfl, trivial⟩, h4⟩))))
          · rintro Fr _
            refine SO.v rfl (opv_move rfl) ?_
            exact SO.nilZ fun a w h1 h2 h3 h4 h5 => PZ.of h1 h3 h5 (.cons () (.cons () (.nil ⟨EnvAll.of h2 ⟨rfl, rfl, trivial⟩, h4⟩)))
          · rintro Fr _
            refine SO.passF rfl rfl rfl rfl rfl rfl ?_
            exact SO.nilZ fun a w h1 h2 h3 h4 h5 => PZ.of h1 h3 h5 (.cons () (.cons () (.nil ⟨EnvAll.of h2 ⟨rfl, rfl, trivial⟩, h4⟩)))
          · rintro Fr _
            refine SO.passF rfl rfl rfl rfl rfl rfl ?_
            exact SO.nilZ fun a w h1 h2 h3 h4 h5 => PZ.of h1 h3 h5 (.cons () (.cons () (.nil ⟨EnvAll.of h2 ⟨rfl, rfl, trivial⟩, h4⟩)))
          · rintro Fr _
            refine SO.passF rfl rfl rfl rfl rfl rfl ?_
            exact SO.nilZ fun a w h1 h2 h3 h4 h5 => PZ.of h1 h3 h5 (.cons () (.cons () (.nil ⟨EnvAll.of h2 ⟨rfl, rfl, trivial⟩, h4⟩)))
          · rintro Fr _
            refine SO.passF rfl rfl rfl rfl rfl rfl ?_
            exact SO.nilZ fun a w h1 h2 h3 h4 h5 => PZ.of h1 h3 h5 (.cons () (.cons () (.nil ⟨EnvAll.of h2 ⟨rfl, rfl, trivial⟩, h4⟩)))
          · rintro Fr _
            refine SO.passF rfl rfl rfl rfl rfl rfl ?_
            exact SO.nilZ fun a w h1 h2 h3 h4 h5 => PZ.of h1 h3 h5 (.cons () (.cons () (.nil ⟨EnvAll.of h2 ⟨rfl, rfl, trivial⟩, h4⟩)))
          · rintro Fr _
            refine SO.passF rfl rfl rfl rfl rfl rfl ?_
            exact SO.nilZ fun a w h1 h2 h3 h4 h5 => PZ.of h1 h3 h5 (.cons () (.cons () (.nil ⟨EnvAll.of h2 ⟨rfl, rfl, trivial⟩, h4⟩)))
          · rintro Fr _
            refine SO.passF rfl rfl rfl rfl rfl rfl ?_
            exact SO.nilZ fun a w h1 h2 h3 h4 h5 => PZ.of h1 h3 h5 (.cons () (.cons () (.nil ⟨EnvAll.of h2 ⟨rfl, rfl, trivial⟩, h4⟩)))
          · rintro Fr _
            refine SO.passF rfl rfl rfl rfl rfl rfl ?_
            exact SO.nilZ fun a w h1 h2 h3 h4 h5 => PZ.of h1 h3 h5 (.cons () (.cons () (.nil ⟨EnvAll.of h2 ⟨rfl, rfl, trivial⟩, h4⟩)))
          · rintro Fr _ _
            refine SO.v rfl (opv_pick_tt rfl rfl) ?_
            exact SO.nilZ fun a w h1 h2 h3 h4 h5 => PZ.of h1 h3 h5 (.cons () (.cons () (.cons () (.nil ⟨EnvAll.of h2 ⟨rfl, rfl, rfl, trivial⟩, h4⟩))))
          · rintro Fr _
            refine SO.v rfl (opv_move rfl) ?_
            exact SO.nilZ fun a w h1 h2 h3 h4 h5 => PZ.of h1 h3 h5 (.cons () (.cons () (.nil ⟨EnvAll.of h2 ⟨rfl, rfl, trivial⟩, h4⟩)))
          · rintro Fr _
            refine SO.passF rfl rfl rfl rfl rfl rfl ?_
            exact SO.nilZ fun a w h1 h2 h3 h4 h5 => PZ.of h1 h3 h5 (.cons () (.cons () (.nil ⟨EnvAll.of h2 ⟨rfl, rfl, trivial⟩, h4⟩)))
          · rintro Fr _
            refine SO.passF rfl rfl rfl rfl rfl rfl ?_
            exact SO.nilZ fun a w h1 h2 h3 h4 h5 => PZ.of h1 h3 h5 (.cons () (.cons () (.nil ⟨EnvAll.of h2 ⟨rfl, rfl, trivial⟩, h4⟩)))
          · rintro Fr _
            refine SO.passF rfl rfl rfl rfl rfl rfl ?_
            exact SO.nilZ fun a w h1 h2 h3 h4 h5 => PZ.of h1 h3 h5 (.cons () (.cons () (.nil ⟨EnvAll.of h2 ⟨rfl, rfl, trivial⟩, h4⟩)))
          · rintro Fr _ _
            refine SO.v rfl (opv_pick_tt rfl rfl) ?_
            exact SO.nilZ fun a w h1 h2 h3 h4 h5 => PZ.of h1 h3 h5 (.cons () (.cons () (.cons () (.nil ⟨EnvAll.of h2 ⟨rfl, rfl, rfl, trivial⟩, h4⟩))))
          · rintro Fr _
            refine SO.v rfl (opv_move rfl) ?_
            exact SO.nilZ fun a w h1 h2 h3 h4 h5 => PZ.of h1 h3 h5 (.cons () (.cons () (.nil ⟨EnvAll.of h2 ⟨rfl, rfl, trivial⟩, h4⟩)))
          · rintro Fr _
            refine SO.passF rfl rfl rfl rfl rfl rfl ?_
            exact SO.nilZ fun a w h1 h2 h3 h4 h5 => PZ.of h1 h3 h5 (.cons () (.cons () (.nil ⟨EnvAll.of h2 ⟨rfl, rfl, trivial⟩, h4⟩)))
          · rintro Fr _
            refine SO.passF rfl rfl rfl rfl rfl rfl ?_
            exact SO.nilZ fun a w h1 h2 h3 h4 h5 => PZ.of h1 h3 h5 (.cons () (.cons () (.nil ⟨EnvAll.of h2 ⟨rfl, rfl, trivial⟩, h4⟩)))
          · rintro Fr _
            refine SO.passF rfl rfl rfl rfl rfl rfl ?_
            exact SO.nilZ fun a w h1 h2 h3 h4 h5 => PZ.of h1 h3 h5 (.cons () (.cons () (.nil ⟨EnvAll.of h2 ⟨rfl, rfl, trivial⟩, h4⟩)))
          · rintro Fr _
            refine SO.passF rfl rfl rfl rfl rfl rfl ?_
            exact SO.nilZ fun a w h1 h2 h3 h4 h5 => PZ.of h1 h3 h5 (.cons () (.cons () (.nil ⟨EnvAll.of h2 ⟨rfl, rfl, trivial⟩, h4⟩)))
          · rintro Fr _
            refine SO.passF rfl rfl rfl rfl rfl rfl ?_
            exact SO.nilZ fun a w h1 h2 h3 h4 h5 => PZ.of h1 h3 h5 (.cons () (.cons () (.nil ⟨EnvAll.of h2 ⟨rfl, rfl, trivial⟩, h4⟩)))
          · rintro Fr _
            refine SO.passF rfl rfl rfl rfl rfl rfl ?_
            exact SO.nilZ fun a w h1 h2 h3 h4 h5 => PZ.of h1 h3 h5 (.cons () (.cons () (.nil ⟨EnvAll.of h2 ⟨rfl, rfl, trivial⟩, h4⟩)))
          · rintro Fr _
            refine SO.passF rfl rfl rfl rfl rfl rfl ?_
            exact SO.nilZ fun a w h1 h2 h3 h4 h5 => PZ.of h1 h3 h5 (.cons () (.cons () (.nil ⟨EnvAll.of h2 ⟨rfl, rfl, trivial⟩, h4⟩)))
          · rintro Fr _
            refine SO.passF rfl rfl rfl rfl rfl rfl ?_
            exact SO.nilZ fun a w h1 h2 h3 h4 h5 => PZ.of h1 h3 h5 (.cons () (.cons () (.nil ⟨EnvAll.of h2 ⟨rfl, rfl, trivial⟩, h4⟩)))
          · rintro Fr _ _
            refine SO.v rfl (opv_pick_tt rfl rfl) ?_
            exact SO.nilZ fun a w h1 h2 h3 h4 h5 => PZ.of h1 h3 h5 (.cons () (.cons () (.cons () (.nil ⟨EnvAll.of h2 ⟨rfl, rfl, rfl, trivial⟩, h4⟩))))
          rintro _ _ _ _ _ _ _ _ _ _ _ _ _ _ _ _ _ _ _ _
          refine S.to (ρ' := [(21, .int .i64 x21_3), (20, v113), (4, .bool false), (5, .bool t2), (11, v30), (18, v89), (0, v0), (6, .int .i64 (a0.length : Int)), (19, v100), (22, bp b119 0), (200, .bool true)]) ⟨rfl, rfl, rfl, rfl, rfl, rfl, rfl, rfl, rfl, rfl, rfl, trivial⟩ ?_
          cases h
          refine S.b12 ?_
          refine S.b12 ?_
          refine S.b12 ?_
          refine S.b12 ?_
          refine S.b12 ?_
          refine S.b12 ?_
          refine S.b12 ?_
          refine S.b12 ?_
          refine S.b12 ?_
          refine S.b12 ?_
          refine S.b12 ?_
          refine S.b12 ?_
          refine S.b12 ?_
          refine S.to ?_ (hk4 () trivial)
          exact ⟨rfl, rfl, rfl, rfl, rfl, rfl, rfl, rfl, rfl, rfl, rfl, trivial⟩
        replace h := cond_f b120 h
        rcases bool_or (decide ((a0.length : Int) ≤ x117.Cell)) with b121 | b121
        · replace h := cond_t b121 h
          refine S.draw2 (Y := fun Q => ∃ (_ _ _ _ _ _ _ _ _ _ _ _ _ _ _ _ _ _ _ : Unit), Q [(22, bp b119 0), (6, .int .i64 (a0.length : Int)), (21, .int .i64 x21_3), (19, v100), (0, v0), (20, v113), (4, .bool false), (5, .bool t2), (11, v30), (18, v89)] [Box b119 [.int .i64 x117.Cell, .int .u32 x117.Version, .int .u64 x117.Old, .int .u64 x117.New, .bool x117.Write], Own 35 (ekI .u64) v113 qv113_3, Own 63 ek_tx_Entry v100 t97, Box b15 [.int .i64 p98.cells, u102_l, u102_out, .int .i64 p98.lack, .bool p98.fine], MapO (aggE ek_api_Cell) u102_l p98.l, MapO (Value.int .u64) u102_out p98.out, Own 35 (ekI .u64) v89 s93, Own 4 ekB v30 qv30_e2, Box b34 [.int .u64 y34_0_e2], Own 38 ek_api_Cell vy10_0_e1 y10_0_e1, Box b10 [vy10_0_e1, .int .u32 y10_1_e1], Box b1 [v1], F]) (Z := fun Q => ∀ (_ _ _ _ _ _ _ _ _ _ _ _ _ _ _ _ _ _ _ _ : Unit), Q [(21, .int .i64 x21_3), (20, v113), (4, .bool false), (5, .bool t2), (11, v30), (18, v89), (0, v0), (6, .int .i64 (a0.length : Int)), (19, v100), (22, bp b119 0), (200, .bool true)] [Box b119 [.int .i64 x117.Cell, .int .u32 x117.Version, .int .u64 x117.Old, .int .u64 x117.New, .bool x117.Write], Own 35 (ekI .u64) v113 qv113_3, Own 63 ek_tx_Entry v100 t97, Box b15 [.int .i64 p98.cells, u102_l, u102_out, .int .i64 p98.lack, .bool p98.fine], MapO (aggE ek_api_Cell) u102_l p98.l, MapO (Value.int .u64) u102_out p98.out, Own 35 (ekI .u64) v89 s93, Own 4 ekB v30 qv30_e2, Box b34 [.int .u64 y34_0_e2], Own 38 ek_api_Cell vy10_0_e1 y10_0_e1, Box b10 [vy10_0_e1, .int .u32 y10_1_e1], Box b1 [v1], F]) (T := [tS 22 (bp b119 0), tS 6 (.int .i64 (a0.length : Int)), tS 21 (.int .i64 x21_3), tS 19 (v100), tS 0 (v0), tE [(20, v113), (4, .bool false), (5, .bool t2), (11, v30), (18, v89)], tR (Box b119 [.int .i64 x117.Cell, .int .u32 x117.Version, .int .u64 x117.Old, .int .u64 x117.New, .bool x117.Write]), tR (Own 35 (ekI .u64) v113 qv113_3), tR (Own 63 ek_tx_Entry v100 t97), tR (Box b15 [.int .i64 p98.cells, u102_l, u102_out, .int .i64 p98.lack, .bool p98.fine]), tR (MapO (aggE ek_api_Cell) u102_l p98.l), tR (MapO (Value.int .u64) u102_out p98.out), tR (Own 35 (ekI .u64) v89 s93), tR (Own 4 ekB v30 qv30_e2), tR (Box b34 [.int .u64 y34_0_e2]), tR (Own 38 ek_api_Cell vy10_0_e1 y10_0_e1), tR (Box b10 [vy10_0_e1, .int .u32 y10_1_e1]), tR (Box b1 [v1]), tR (F), tS 152 (bp b119 0), tS 153 (.int .i64 x117.Cell), tS 154 (.bool (decide (x117.Cell < 0))), tS 155 (.bool (decide (x117.Cell < 0))), tS 156 (bp b119 0), tS 157 (.int .i64 x117.Cell), tS 158 (.int .i64 (a0.length : Int)), tS 159 (.bool (decide ((a0.length : Int) ≤ x117.Cell))), tS 160 (.bool (decide ((a0.length : Int) ≤ x117.Cell))), tS 161 (.bool (decide ((a0.length : Int) ≤ x117.Cell))), tS 162 (undef), tS 163 (undef), tS 164 (undef), tS 165 (undef), tS 166 (undef), tS 167 (undef), tS 168 (undef), tS 169 (undef), tS 170 (undef), tS 171 (undef), tS 172 (undef), tS 173 (undef), tS 174 (undef), tS 175 (.bool true), tS 176 (.bool true), tS 177 (undef), tS 178 (undef), tS 179 (undef), tS 180 (undef), tS 181 (undef), tS 182 (undef), tS 183 (undef), tS 184 (undef), tS 185 (.bool true), tS 186 (.bool true), tS 187 (undef), tS 188 (undef), tS 189 (undef), tS 190 (.bool true), tS 191 (.bool true), tS 192 (undef), tS 193 (undef), tS 194 (undef), tS 195 (undef), tS 196 (undef), tS 197 (undef), tS 198 (undef), tS 199 (undef), tS 200 (.bool true)]) (D := [⟨[0], [], [19]⟩, ⟨[19, 6], [], [20]⟩, ⟨[20], [], [21]⟩, ⟨[21], [], [22]⟩, ⟨[0, 22], [], [23]⟩, ⟨[22, 23, 6], [], [24]⟩, ⟨[1, 22], [], [25]⟩, ⟨[22, 24, 25], [], [26]⟩, ⟨[22, 26], [], [27]⟩, ⟨[27], [], [28]⟩, ⟨[28], [], [29]⟩, ⟨[28], [], [30]⟩, ⟨[28], [], [31]⟩, ⟨[31], [], [32]⟩, ⟨[31], [], [33]⟩, ⟨[31], [], [34]⟩, ⟨[31], [], [35]⟩, ⟨[31], [], [36]⟩, ⟨[31], [], [37]⟩, ⟨[31], [], [38]⟩, ⟨[31], [], [39]⟩, ⟨[31], [], [40]⟩, ⟨[28], [], [41]⟩, ⟨[28, 41], [], [42]⟩, ⟨[42], [], [43]⟩, ⟨[43], [], [44]⟩, ⟨[43], [], [45]⟩, ⟨[43], [], [46]⟩, ⟨[43], [], [47]⟩, ⟨[43], [], [48]⟩, ⟨[43], [], [49]⟩, ⟨[43], [], [50]⟩, ⟨[43], [], [51]⟩, ⟨[43, 51], [], [52]⟩, ⟨[52], [], [53]⟩, ⟨[53], [], [54]⟩, ⟨[53], [], [55]⟩, ⟨[53], [], [56]⟩, ⟨[53, 56], [], [57]⟩, ⟨[57], [], [58]⟩, ⟨[58], [], [59]⟩, ⟨[58], [], [60]⟩, ⟨[58], [], [61]⟩, ⟨[58], [], [62]⟩, ⟨[58], [], [63]⟩, ⟨[58], [], [64]⟩, ⟨[58], [], [65]⟩, ⟨[58], [], [66]⟩, ⟨[58, 66], [], [67]⟩]) (ini := [0, 1, 2, 3, 4, 5, 6, 7, 8, 9, 10, 11, 12, 13, 14, 15, 16, 17, 18]) (fin := [2, 5, 4, 1, 3, 0, 67, 6, 7, 8, 9, 10, 11, 12, 13, 14, 15, 16, 17, 18]) (bf := [[], [0], [0, 1], [0, 1, 2], [0, 1, 2, 3], [0, 1, 2, 3, 4], [0, 1, 2, 3], [0, 1, 2, 3, 4, 5, 6], [0, 1, 2, 3, 4, 5, 6, 7], [0, 1, 2, 3, 4, 5, 6, 7, 8], [0, 1, 2, 3, 4, 5, 6, 7, 8, 9], [0, 1, 2, 3, 4, 5, 6, 7, 8, 9, 10], [0, 1, 2, 3, 4, 5, 6, 7, 8, 9, 10, 11], [0, 1, 2, 3, 4, 5, 6, 7, 8, 9, 10, 11, 12], [0, 1, 2, 3, 4, 5, 6, 7, 8, 9, 10, 11, 12, 13], [0, 1, 2, 3, 4, 5, 6, 7, 8, 9, 10, 11, 12], [0, 1, 2, 3, 4, 5, 6, 7, 8, 9, 10, 11, 12], [0, 1, 2, 3, 4, 5, 6, 7, 8, 9, 10, 11, 12, 16], [0, 1, 2, 3, 4, 5, 6, 7, 8, 9, 10, 11, 12, 15, 16, 17], [0, 1, 2, 3, 4, 5, 6, 7, 8, 9, 10, 11, 12, 15, 16, 17, 18], [0, 1, 2, 3, 4, 5, 6, 7, 8, 9, 10, 11, 12, 15, 16, 17, 18, 19], [0, 1, 2, 3, 4, 5, 6, 7, 8, 9, 10, 11, 12, 13, 14, 15, 16, 17, 18, 19, 20], [0, 1, 2, 3, 4, 5, 6, 7, 8, 9, 10, 11, 12, 13, 14, 15, 16, 17, 18, 19, 20, 21], [0, 1, 2, 3, 4, 5, 6, 7, 8, 9, 10, 11, 12, 13, 14, 15, 16, 17, 18, 19, 20, 21, 22], [0, 1, 2, 3, 4, 5, 6, 7, 8, 9, 10, 11, 12, 13, 14, 15, 16, 17, 18, 19, 20, 21, 22, 23], [0, 1, 2, 3, 4, 5, 6, 7, 8, 9, 10, 11, 12, 13, 14, 15, 16, 17, 18, 19, 20, 21, 22, 23, 24], [0, 1, 2, 3, 4, 5, 6, 7, 8, 9, 10, 11, 12, 13, 14, 15, 16, 17, 18, 19, 20, 21, 22, 23, 24, 25], [0, 1, 2, 3, 4, 5, 6, 7, 8, 9, 10, 11, 12, 13, 14, 15, 16, 17, 18, 19, 20, 21, 22, 23, 24], [0, 1, 2, 3, 4, 5, 6, 7, 8, 9, 10, 11, 12, 13, 14, 15, 16, 17, 18, 19, 20, 21, 22, 23, 24], [0, 1, 2, 3, 4, 5, 6, 7, 8, 9, 10, 11, 12, 13, 14, 15, 16, 17, 18, 19, 20, 21, 22, 23, 24, 28], [0, 1, 2, 3, 4, 5, 6, 7, 8, 9, 10, 11, 12, 13, 14, 15, 16, 17, 18, 19, 20, 21, 22, 23, 24, 27, 28, 29], [0, 1, 2, 3, 4, 5, 6, 7, 8, 9, 10, 11, 12, 13, 14, 15, 16, 17, 18, 19, 20, 21, 22, 23, 24, 27, 28, 29, 30], [0, 1, 2, 3, 4, 5, 6, 7, 8, 9, 10, 11, 12, 13, 14, 15, 16, 17, 18, 19, 20, 21, 22, 23, 24, 25, 26, 27, 28, 29, 30, 31], [0, 1, 2, 3, 4, 5, 6, 7, 8, 9, 10, 11, 12, 13, 14, 15, 16, 17, 18, 19, 20, 21, 22, 23, 24, 25, 26, 27, 28, 29, 30, 31, 32], [0, 1, 2, 3, 4, 5, 6, 7, 8, 9, 10, 11, 12, 13, 14, 15, 16, 17, 18, 19, 20, 21, 22, 23, 24, 25, 26, 27, 28, 29, 30, 31, 32, 33], [0, 1, 2, 3, 4, 5, 6, 7, 8, 9, 10, 11, 12, 13, 14, 15, 16, 17, 18, 19, 20, 21, 22, 23, 24, 25, 26, 27, 28, 29, 30, 31, 32, 33, 34], [0, 1, 2, 3, 4, 5, 6, 7, 8, 9, 10, 11, 12, 13, 14, 15, 16, 17, 18, 19, 20, 21, 22, 23, 24, 25, 26, 27, 28, 29, 30, 31, 32, 33, 34, 35], [0, 1, 2, 3, 4, 5, 6, 7, 8, 9, 10, 11, 12, 13, 14, 15, 16, 17, 18, 19, 20, 21, 22, 23, 24, 25, 26, 27, 28, 29, 30, 31, 32, 33, 34, 35, 36], [0, 1, 2, 3, 4, 5, 6, 7, 8, 9, 10, 11, 12, 13, 14, 15, 16, 17, 18, 19, 20, 21, 22, 23, 24, 25, 26, 27, 28, 29, 30, 31, 32, 33, 34, 35, 36, 37], [0, 1, 2, 3, 4, 5, 6, 7, 8, 9, 10, 11, 12, 13, 14, 15, 16, 17, 18, 19, 20, 21, 22, 23, 24, 25, 26, 27, 28, 29, 30, 31, 32, 33, 34, 35, 36, 37, 38], [0, 1, 2, 3, 4, 5, 6, 7, 8, 9, 10, 11, 12, 13, 14, 15, 16, 17, 18, 19, 20, 21, 22, 23, 24, 25, 26, 27, 28, 29, 30, 31, 32, 33, 34, 35, 36, 37, 38, 39], [0, 1, 2, 3, 4, 5, 6, 7, 8, 9, 10, 11, 12, 13, 14, 15, 16, 17, 18, 19, 20, 21, 22, 23, 24, 25, 26, 27, 28, 29, 30, 31, 32, 33, 34, 35, 36, 37, 38, 39, 40], [0, 1, 2, 3, 4, 5, 6, 7, 8, 9, 10, 11, 12, 13, 14, 15, 16, 17, 18, 19, 20, 21, 22, 23, 24, 25, 26, 27, 28, 29, 30, 31, 32, 33, 34, 35, 36, 37, 38, 39], [0, 1, 2, 3, 4, 5, 6, 7, 8, 9, 10, 11, 12, 13, 14, 15, 16, 17, 18, 19, 20, 21, 22, 23, 24, 25, 26, 27, 28, 29, 30, 31, 32, 33, 34, 35, 36, 37, 38, 39, 42], [0, 1, 2, 3, 4, 5, 6, 7, 8, 9, 10, 11, 12, 13, 14, 15, 16, 17, 18, 19, 20, 21, 22, 23, 24, 25, 26, 27, 28, 29, 30, 31, 32, 33, 34, 35, 36, 37, 38, 39], [0, 1, 2, 3, 4, 5, 6, 7, 8, 9, 10, 11, 12, 13, 14, 15, 16, 17, 18, 19, 20, 21, 22, 23, 24, 25, 26, 27, 28, 29, 30, 31, 32, 33, 34, 35, 36, 37, 38, 39, 44], [0, 1, 2, 3, 4, 5, 6, 7, 8, 9, 10, 11, 12, 13, 14, 15, 16, 17, 18, 19, 20, 21, 22, 23, 24, 25, 26, 27, 28, 29, 30, 31, 32, 33, 34, 35, 36, 37, 38, 39, 42, 43, 44, 45], [0, 1, 2, 3, 4, 5, 6, 7, 8, 9, 10, 11, 12, 13, 14, 15, 16, 17, 18, 19, 20, 21, 22, 23, 24, 25, 26, 27, 28, 29, 30, 31, 32, 33, 34, 35, 36, 37, 38, 39, 40, 41, 42, 43, 44, 45, 46], [0, 1, 2, 3, 4, 5, 6, 7, 8, 9, 10, 11, 12, 13, 14, 15, 16, 17, 18, 19, 20, 21, 22, 23, 24, 25, 26, 27, 28, 29, 30, 31, 32, 33, 34, 35, 36, 37, 38, 39, 40, 41, 42, 43, 44, 45, 46, 47]]) (by kernel_rfl) (by kernel_rfl) (fun Q => by kernel_rfl) (fun x w h1 h2 => ⟨(), (), (), (), (), (), (), (), (), (), (), (), (), (), (), (), (), (), (), EnvAll.of h1 ⟨rfl, rfl, rfl, rfl, rfl, rfl, rfl, rfl, rfl, rfl, trivial⟩, h2⟩) (fun Q => by kernel_rfl) ⟨?_, ?_, ?_, ?_, ?_, ?_, ?_, ?_, ?_, ?_, ?_, ?_, ?_, ?_, ?_, ?_, ?_, ?_, ?_, ?_, ?_, ?_, ?_, ?_, ?_, ?_, ?_, ?_, ?_, ?_, ?_, ?_, ?_, ?_, ?_, ?_, ?_, ?_, ?_, ?_, ?_, ?_, ?_, ?_, ?_, ?_, ?_, ?_, ?_, trivial⟩ ?_
          · rintro Fr _
            refine SO.v rfl (opv_fieldAddr Try.underlying63 rfl Try.sizeOf3 rfl rfl) ?_
            exact SO.nilZ fun a w h1 h2 h3 h4 h5 => PZ.of h1 h3 h5 (.cons () (.cons () (.nil ⟨EnvAll.of h2 ⟨rfl, rfl, trivial⟩, h4⟩)))
          · rintro Fr _ _
            refine SO.load1 rfl Try.isAgg3 rfl rfl ?_
            exact SO.nilZ fun a w h1 h2 h3 h4 h5 => PZ.of h1 h3 h5 (.cons () (.cons () (.cons () (.nil ⟨EnvAll.of h2 ⟨rfl, rfl, trivial⟩, h4⟩))))
          · rintro Fr _
            refine SO.v rfl (opv_lss rfl rfl) ?_
            exact SO.nilZ fun a w h1 h2 h3 h4 h5 => PZ.of h1 h3 h5 (.cons () (.cons () (.nil ⟨EnvAll.of h2 ⟨rfl, rfl, trivial⟩, h4⟩)))
          · rintro Fr _
            refine SO.v rfl (opv_move rfl) ?_
            exact SO.nilZ fun a w h1 h2 h3 h4 h5 => PZ.of h1 h3 h5 (.cons () (.cons () (.nil ⟨EnvAll.of h2 ⟨rfl, rfl, trivial⟩, h4⟩)))
          · rintro Fr _ _
            refine SO.takeT rfl rfl rfl b120 ?_
            refine SO.v rfl (opv_fieldAddr Try.underlying63 rfl Try.sizeOf3 rfl rfl) ?_
            exact SO.nilZ fun a w h1 h2 h3 h4 h5 => PZ.of h1 h3 h5 (.cons () (.cons () (.cons () (.nil ⟨EnvAll.of h2 ⟨rfl, rfl, rfl, trivial⟩, h4⟩))))
          · rintro Fr _ _ _
            refine SO.takeT rfl rfl rfl b120 ?_
            refine SO.load1 rfl Try.isAgg3 rfl rfl ?_
            exact SO.nilZ fun a w h1 h2 h3 h4 h5 => PZ.of h1 h3 h5 (.cons () (.cons () (.cons () (.cons () (.nil ⟨EnvAll.of h2 ⟨rfl, rfl, rfl, trivial⟩, h4⟩)))))
          · rintro Fr _ _
            refine SO.takeT rfl rfl rfl b120 ?_
            refine SO.v rfl (opv_move rfl) ?_
            exact SO.nilZ fun a w h1 h2 h3 h4 h5 => PZ.of h1 h3 h5 (.cons () (.cons () (.cons () (.nil ⟨EnvAll.of h2 ⟨rfl, rfl, rfl, trivial⟩, h4⟩))))
          · rintro Fr _ _ _
            refine SO.takeT rfl rfl rfl b120 ?_
            refine SO.v rfl (opv_geq rfl rfl) ?_
            exact SO.nilZ fun a w h1 h2 h3 h4 h5 => PZ.of h1 h3 h5 (.cons () (.cons () (.cons () (.cons () (.nil ⟨EnvAll.of h2 ⟨rfl, rfl, rfl, rfl, trivial⟩, h4⟩)))))
          · rintro Fr _ _
            refine SO.v rfl (opv_pick_f' b120 rfl rfl) ?_
            exact SO.nilZ fun a w h1 h2 h3 h4 h5 => PZ.of h1 h3 h5 (.cons () (.cons () (.cons () (.nil ⟨EnvAll.of h2 ⟨rfl, rfl, rfl, trivial⟩, h4⟩))))
          · rintro Fr _
            refine SO.v rfl (opv_move rfl) ?_
            exact SO.nilZ fun a w h1 h2 h3 h4 h5 => PZ.of h1 h3 h5 (.cons () (.cons () (.nil ⟨EnvAll.of h2 ⟨rfl, rfl, trivial⟩, h4⟩)))
          · rintro Fr _
            refine SO.passF rfl rfl rfl b121 rfl rfl ?_
            exact SO.nilZ fun a w h1 h2 h3 h4 h5 => PZ.of h1 h3 h5 (.cons () (.cons () (.nil ⟨EnvAll.of h2 ⟨rfl, rfl, trivial⟩, h4⟩)))
          · rintro Fr _
            refine SO.passF rfl rfl rfl b121 rfl rfl ?_
            exact SO.nilZ fun a w h1 h2 h3 h4 h5 => PZ.of h1 h3 h5 (.cons () (.cons () (.nil ⟨EnvAll.of h2 ⟨rfl, rfl, trivial⟩, h4⟩)))
          · rintro Fr _
            refine SO.passF rfl rfl rfl b121 rfl rfl ?_
            exact SO.nilZ fun a w h1 h2 h3 h4 h5 => PZ.of h1 h3 h5 (.cons () (.cons () (.nil ⟨EnvAll.of h2 ⟨rfl, rfl, trivial⟩, h4⟩)))
          · rintro Fr _
            refine SO.pass_undef rfl rfl rfl rfl ?_
            exact SO.nilZ fun a w h1 h2 h3 h4 h5 => PZ.of h1 h3 h5 (.cons () (.cons () (.nil ⟨EnvAll.of h2 ⟨rfl, rfl, trivial⟩, h4⟩)))
          · rintro Fr _
            refine SO.pass_undef rfl rfl rfl rfl ?_
            exact SO.nilZ fun a w h1 h2 h3 h4 h5 => PZ.of h1 h3 h5 (.cons () (.cons () (.nil ⟨EnvAll.of h2 ⟨rfl, rfl, trivial⟩, h4⟩)))
          · rintro Fr _
            refine SO.pass_undef rfl rfl rfl rfl ?_
            exact SO.nilZ fun a w h1 h2 h3 h4 h5 => PZ.of h1 h3 h5 (.cons () (.cons () (.nil ⟨EnvAll.of h2 ⟨rfl, rfl, trivial⟩, h4⟩)))
          · rintro Fr _
            refine SO.pass_undef rfl rfl rfl rfl ?_
            exact SO.nilZ fun a w h1 h2 h3 h4 h5 => PZ.of h1 h3 h5 (.cons () (.cons () (.nil ⟨EnvAll.of h2 ⟨rfl, rfl, trivial⟩, h4⟩)))
          · rintro Fr _
            refine SO.pass_undef rfl rfl rfl rfl ?_
            exact SO.nilZ fun a w h1 h2 h3 h4 h5 => PZ.of h1 h3 h5 (.cons () (.cons () (.nil ⟨EnvAll.of h2 ⟨rfl, rfl, trivial⟩, h4⟩)))
          · rintro Fr _
            refine SO.pass_undef rfl rfl rfl rfl ?_
            exact SO.nilZ fun a w h1 h2 h3 h4 h5 => PZ.of h1 h3 h5 (.cons () (.cons () (.nil ⟨EnvAll.of h2 ⟨rfl, rfl, trivial⟩, h4⟩)))
          · rintro Fr _
            refine SO.pass_undef rfl rfl rfl rfl ?_
            exact SO.nilZ fun a w h1 h2 h3 h4 h5 => PZ.of h1 h3 h5 (.cons () (.cons () (.nil ⟨EnvAll.of h2 ⟨rfl, rfl, trivial⟩, h4⟩)))
          · rintro Fr _
            refine SO.pass_undef rfl rfl rfl rfl ?_
            exact SO.nilZ fun a w h1 h2 h3 h4 h5 => PZ.of h1 h3 h5 (.cons () (.cons () (.nil ⟨EnvAll.of h2 ⟨rfl, rfl, trivial⟩, h4⟩)))
          · rintro Fr _
            refine SO.pass_undef rfl rfl rfl rfl ?_
            exact SO.nilZ fun a w h1 h2 h3 h4 h5 => PZ.of h1 h3 h5 (.cons () (.cons () (.nil ⟨EnvAll.of h2 ⟨rfl, rfl, trivial⟩, h4⟩)))
          · rintro Fr _
            refine SO.passF rfl rfl rfl b121 rfl rfl ?_
            exact SO.nilZ fun a w h1 h2 h3 h4 h5 => PZ.of h1 h3 h5 (.cons () (.cons () (.nil ⟨EnvAll.of h2 ⟨rfl, rfl, trivial⟩, h4⟩)))
          · rintro Fr _ _
            refine SO.v rfl (opv_pick_t' b121 rfl rfl) ?_
            exact SO.nilZ fun a w h1 h2 h3 h4 h5 => PZ.of h1 h3 h5 (.cons () (.cons () (.cons () (.nil ⟨EnvAll.of h2 ⟨rfl, rfl, rfl, trivial⟩, h4⟩))))
          · rintro Fr _
            refine SO.v rfl (opv_move rfl) ?_
            exact SO.nilZ fun a w h1 h2 h3 h4 h5 => PZ.of h1 h3 h5 (.cons () (.cons () (.nil ⟨EnvAll.of h2 ⟨rfl, rfl, trivial⟩, h4⟩)))
          · rintro Fr _
            refine SO.passF rfl rfl rfl rfl rfl rfl ?_
            exact SO.nilZ fun a w h1 h2 h3 h4 h5 => PZ.of h1 h3 h5 (.cons () (.cons () (.nil ⟨EnvAll.of h2 ⟨rfl, rfl, trivial⟩, h4⟩)))
          · rintro Fr _
            refine SO.passF rfl rfl rfl rfl rfl rfl ?_
            exact SO.nilZ fun a w h1 h2 h3 h4 h5 => PZ.of h1 h3 h5 (.cons () (.cons () (.nil ⟨EnvAll.of h2 ⟨rfl, rfl, trivial⟩, h4⟩)))
          · rintro Fr _
            refine SO.passF rfl rfl rfl rfl rfl rfl ?_
            exact SO.nilZ fun a w h1 h2 h3 h4 h5 => PZ.of h1 h3 h5 (.cons () (.cons () (.nil ⟨EnvAll.of h2 ⟨rfl, rfl, trivial⟩, h4⟩)))
          · rintro Fr _
            refine SO.passF rfl rfl rfl rfl rfl rfl ?_
            exact SO.nilZ fun a w h1 h2 h3 h4 h5 => PZ.of h1 h3 h5 (.cons () (.cons () (.nil ⟨EnvAll.of h2 ⟨rfl, rfl, trivial⟩, h4⟩)))
          · rintro Fr _
            refine SO.passF rfl rfl rfl rfl rfl rfl ?_
            exact SO.nilZ fun a w h1 h2 h3 h4 h5 => PZ.of h1 h3 h5 (.cons () (.cons () (.nil ⟨EnvAll.of h2 ⟨rfl, rfl, trivial⟩, h4⟩)))
          · rintro Fr _
            refine SO.passF rfl rfl rfl rfl rfl rfl ?_
            exact SO.nilZ fun a w h1 h2 h3 h4 h5 => PZ.of h1 h3 h5 (.cons () (.cons () (.nil ⟨EnvAll.of h2 ⟨rfl, rfl, trivial⟩, h4⟩)))
          · rintro Fr _
            refine SO.passF rfl rfl rfl rfl rfl rfl ?_
            exact SO.nilZ fun a w h1 h2 h3 h4 h5 => PZ.of h1 h3 h5 (.cons () (.cons () (.nil ⟨EnvAll.of h2 ⟨rfl, rfl, trivial⟩, h4⟩)))
          · rintro Fr _
            refine SO.passF rfl rfl rfl rfl rfl rfl ?_
            exact SO.nilZ fun a w h1 h2 h3 h4 h5 => PZ.of h1 h3 h5 (.cons () (.cons () (.nil ⟨EnvAll.of h2 ⟨rfl, rfl, trivial⟩, h4⟩)))
          · rintro Fr _ _
            refine SO.v rfl (opv_pick_tt rfl rfl) ?_
            exact SO.nilZ fun a w h1 h2 h3 h4 h5 => PZ.of h1 h3 h5 (.cons () (.cons () (.cons () (.nil ⟨EnvAll.of h2 ⟨rfl, rfl, rfl, trivial⟩, h4⟩))))
          · rintro Fr _
            refine SO.v rfl (opv_move rfl) ?_
            exact SO.nilZ fun a w h1 h2 h3 h4 h5 => PZ.of h1 h3 h5 (.cons () (.cons () (.nil ⟨EnvAll.of h2 ⟨rfl, rfl, trivial⟩, h4⟩)))
          · rintro Fr _
            refine SO.passF rfl rfl rfl rfl rfl rfl ?_
            exact SO.nilZ fun a w h1 h2 h3 h4 h5 => PZ.of h1 h3 h5 (.cons () (.cons () (.nil ⟨EnvAll.of h2 ⟨rfl, rfl, trivial⟩, h4⟩)))
          · rintro Fr _
            refine SO.passF rfl rfl rfl rfl rfl rfl ?_
            exact SO.nilZ fun a w h1 h2 h3 h4 h5 => PZ.of h1 h3 h5 (.cons () (.cons () (.nil ⟨EnvAll.of h2 ⟨rfl, rfl, trivial⟩, h4⟩)))
          · rintro Fr _
            refine SO.passF rfl rfl rfl rfl rfl rfl ?_
            exact SO.nilZ fun a w h1 h2 h3 h4 h5 => PZ.of h1 h3 h5 (.cons () (.cons () (.nil ⟨EnvAll.of h2 ⟨rfl, rfl, trivial⟩, h4⟩)))
          · rintro Fr _ _
            refine SO.v rfl (opv_pick_tt rfl rfl) ?_
            exact SO.nilZ fun a w h1 h2 h3 h4 h5 => PZ.of h1 h3 h5 (.cons () (.cons () (.cons () (.nil ⟨EnvAll.of h2 ⟨rfl, rfl, rfl, trivial⟩, h4⟩))))
          · rintro Fr _
            refine SO.v rfl (opv_move rfl) ?_
            exact SO.nilZ fun a w h1 h2 h3 h4 h5 => PZ.of h1 h3 h5 (.cons () (.cons () (.nil ⟨EnvAll.of h2 ⟨rfl, rfl, trivial⟩, h4⟩)))
          · rintro Fr _
            refine SO.passF rfl rfl rfl rfl rfl rfl ?_
            exact SO.nilZ fun a w h1 h2 h3 h4 h5 => PZ.of h1 h3 h5 (.cons () (.cons () (.nil ⟨EnvAll.of h2 ⟨rfl, rfl, trivial⟩, h4⟩)))
          · rintro Fr _
            refine SO.passF rfl rfl rfl rfl rfl rfl ?_
            exact SO.nilZ fun a w h1 h2 h3 h4 h5 => PZ.of h1 h3 h5 (.cons () (.cons () (.nil ⟨EnvAll.of h2 ⟨rfl, rfl, trivial⟩, h4⟩)))
          · rintro Fr _
            refine SO.passF rfl rfl rfl rfl rfl rfl ?_
            exact SO.nilZ fun a w h1 h2 h3 h4 h5 => PZ.of h1 h3 h5 (.cons () (.cons () (.nil ⟨EnvAll.of h2 ⟨rfl, rfl, trivial⟩, h4⟩)))
          · rintro Fr _
            refine SO.passF rfl rfl rfl rfl rfl rfl ?_
            exact SO.nilZ fun a w h1 h2 h3 h4 h5 => PZ.of h1 h3 h5 (.cons () (.cons () (.nil ⟨EnvAll.of h2 ⟨rfl, rfl, trivial⟩, h4⟩)))
          · rintro Fr _
            refine SO.passF rfl rfl rfl rfl rfl rfl ?_
            exact SO.nilZ fun a w h1 h2 h3 h4 h5 => PZ.of h1 h3 h5 (.cons () (.cons () (.nil ⟨EnvAll.of h2 ⟨rfl, rfl, trivial⟩, h4⟩)))
          · rintro Fr _
            refine SO.passF rfl rfl rfl rfl rfl rfl ?_
            exact SO.nilZ fun a w h1 h2 h3 h4 h5 => PZ.of h1 h3 h5 (.cons () (.cons () (.nil ⟨EnvAll.of h2 ⟨rfl, rfl, trivial⟩, h4⟩)))
          · rintro Fr _
            refine SO.passF rfl rfl rfl rfl rfl rfl ?_
            exact SO.nilZ fun a w h1 h2 h3 h4 h5 => PZ.of h1 h3 h5 (.cons () (.cons () (.nil ⟨EnvAll.of h2 ⟨rfl, rfl, trivial⟩, h4⟩)))
          · rintro Fr _
            refine SO.passF rfl rfl rfl rfl rfl rfl ?_
            exact SO.nilZ fun a w h1 h2 h3 h4 h5 => PZ.of h1 h3 h5 (.cons () (.cons () (.nil ⟨EnvAll.of h2 ⟨rfl, rfl, trivial⟩, h4⟩)))
          · rintro Fr _ _
            refine SO.v rfl (opv_pick_tt rfl rfl) ?_
            exact SO.nilZ fun a w h1 h2 h3 h4 h5 => PZ.of h1 h3 h5 (.cons () (.cons () (.cons () (.nil ⟨EnvAll.of h2 ⟨rfl, rfl, rfl, trivial⟩, h4⟩))))
          rintro _ _ _ _ _ _ _ _ _ _ _ _ _ _ _ _ _ _ _ _
          refine S.to (ρ' := [(21, .int .i64 x21_3), (20, v113), (4, .bool false), (5, .bool t2), (11, v30), (18, v89), (0, v0), (6, .int .i64 (a0.length : Int)), (19, v100), (22, bp b119 0), (200, .bool true)]) ⟨rfl, rfl, rfl, rfl, rfl, rfl, rfl, rfl, rfl, rfl, rfl, trivial⟩ ?_
          cases h
          refine S.b12 ?_
          refine S.b12 ?_
          refine S.b12 ?_
          refine S.b12 ?_
          refine S.b12 ?_
          refine S.b12 ?_
          refine S.b12 ?_
          refine S.b12 ?_
          refine S.b12 ?_
          refine S.b12 ?_
          refine S.b12 ?_
          refine S.b12 ?_
          refine S.b12 ?_
          refine S.to ?_ (hk4 () trivial)
          exact ⟨rfl, rfl, rfl, rfl, rfl, rfl, rfl, rfl, rfl, rfl, rfl, trivial⟩
        replace h := cond_f b121 h
        rcases bool_or (decide (0 < x21_3)) with b122 | b122
        · replace h := cond_t b122 h
          obtain ⟨x123, hx124, h⟩ := opt_bind h
          rcases bool_or (decide (x117.Cell ≤ x123.Cell)) with b125 | b125
          · replace h := cond_t b125 h
            refine S.draw2 (Y := fun Q => ∃ (_ _ _ _ _ _ _ _ _ _ _ _ _ _ _ _ _ _ _ : Unit), Q [(22, bp b119 0), (6, .int .i64 (a0.length : Int)), (21, .int .i64 x21_3), (19, v100), (0, v0), (20, v113), (4, .bool false), (5, .bool t2), (11, v30), (18, v89)] [Box b119 [.int .i64 x117.Cell, .int .u32 x117.Version, .int .u64 x117.Old, .int .u64 x117.New, .bool x117.Write], Own 35 (ekI .u64) v113 qv113_3, Own 63 ek_tx_Entry v100 t97, Box b15 [.int .i64 p98.cells, u102_l, u102_out, .int .i64 p98.lack, .bool p98.fine], MapO (aggE ek_api_Cell) u102_l p98.l, MapO (Value.int .u64) u102_out p98.out, Own 35 (ekI .u64) v89 s93, Own 4 ekB v30 qv30_e2, Box b34 [.int .u64 y34_0_e2], Own 38 ek_api_Cell vy10_0_e1 y10_0_e1, Box b10 [vy10_0_e1, .int .u32 y10_1_e1], Box b1 [v1], F]) (Z := fun Q => ∀ (_ _ _ _ _ _ _ _ _ _ _ _ _ _ _ _ _ _ _ _ : Unit), Q [(21, .int .i64 x21_3), (20, v113), (4, .bool false), (5, .bool t2), (11, v30), (18, v89), (0, v0), (6, .int .i64 (a0.length : Int)), (19, v100), (22, bp b119 0), (200, .bool true)] [Box b119 [.int .i64 x117.Cell, .int .u32 x117.Version, .int .u64 x117.Old, .int .u64 x117.New, .bool x117.Write], Own 35 (ekI .u64) v113 qv113_3, Own 63 ek_tx_Entry v100 t97, Box b15 [.int .i64 p98.cells, u102_l, u102_out, .int .i64 p98.lack, .bool p98.fine], MapO (aggE ek_api_Cell) u102_l p98.l, MapO (Value.int .u64) u102_out p98.out, Own 35 (ekI .u64) v89 s93, Own 4 ekB v30 qv30_e2, Box b34 [.int .u64 y34_0_e2], Own 38 ek_api_Cell vy10_0_e1 y10_0_e1, Box b10 [vy10_0_e1, .int .u32 y10_1_e1], Box b1 [v1], F]) (T := [tS 22 (bp b119 0), tS 6 (.int .i64 (a0.length : Int)), tS 21 (.int .i64 x21_3), tS 19 (v100), tS 0 (v0), tE [(20, v113), (4, .bool false), (5, .bool t2), (11, v30), (18, v89)], tR (Box b119 [.int .i64 x117.Cell, .int .u32 x117.Version, .int .u64 x117.Old, .int .u64 x117.New, .bool x117.Write]), tR (Own 35 (ekI .u64) v113 qv113_3), tR (Own 63 ek_tx_Entry v100 t97), tR (Box b15 [.int .i64 p98.cells, u102_l, u102_out, .int .i64 p98.lack, .bool p98.fine]), tR (MapO (aggE ek_api_Cell) u102_l p98.l), tR (MapO (Value.int .u64) u102_out p98.out), tR (Own 35 (ekI .u64) v89 s93), tR (Own 4 ekB v30 qv30_e2), tR (Box b34 [.int .u64 y34_0_e2]), tR (Own 38 ek_api_Cell vy10_0_e1 y10_0_e1), tR (Box b10 [vy10_0_e1, .int .u32 y10_1_e1]), tR (Box b1 [v1]), tR (F), tS 152 (bp b119 0), tS 153 (.int .i64 x117.Cell), tS 154 (.bool (decide (x117.Cell < 0))), tS 155 (.bool (decide (x117.Cell < 0))), tS 156 (bp b119 0), tS 157 (.int .i64 x117.Cell), tS 158 (.int .i64 (a0.length : Int)), tS 159 (.bool (decide ((a0.length : Int) ≤ x117.Cell))), tS 160 (.bool (decide ((a0.length : Int) ≤ x117.Cell))), tS 161 (.bool (decide ((a0.length : Int) ≤ x117.Cell))), tS 162 (.int .i64 x21_3), tS 163 (.bool (decide (0 < x21_3))), tS 164 (.bool (decide (0 < x21_3))), tS 165 (bp b119 0), tS 166 (.int .i64 x117.Cell), tS 167 (v100), tS 168 (.int .i64 x21_3), tS 169 (.int .i64 (w64 (x21_3 - 1))), tS 170 (idxp v100 ((w64 (x21_3 - 1)).toNat * ek_tx_Entry.sz)), tS 171 (idxp v100 ((w64 (x21_3 - 1)).toNat * ek_tx_Entry.sz)), tS 172 (.int .i64 x123.Cell), tS 173 (.bool (decide (x117.Cell ≤ x123.Cell))), tS 174 (.bool (decide (x117.Cell ≤ x123.Cell))), tS 175 (.bool (decide (x117.Cell ≤ x123.Cell))), tS 176 (.bool (decide (x117.Cell ≤ x123.Cell))), tS 177 (undef), tS 178 (undef), tS 179 (undef), tS 180 (undef), tS 181 (undef), tS 182 (undef), tS 183 (undef), tS 184 (undef), tS 185 (.bool true), tS 186 (.bool true), tS 187 (undef), tS 188 (undef), tS 189 (undef), tS 190 (.bool true), tS 191 (.bool true), tS 192 (undef), tS 193 (undef), tS 194 (undef), tS 195 (undef), tS 196 (undef), tS 197 (undef), tS 198 (undef), tS 199 (undef), tS 200 (.bool true)]) (D := [⟨[0], [], [19]⟩, ⟨[19, 6], [], [20]⟩, ⟨[20], [], [21]⟩, ⟨[21], [], [22]⟩, ⟨[0, 22], [], [23]⟩, ⟨[22, 23, 6], [], [24]⟩, ⟨[1, 22], [], [25]⟩, ⟨[22, 24, 25], [], [26]⟩, ⟨[22, 26], [], [27]⟩, ⟨[27], [], [28]⟩, ⟨[2, 28], [], [29]⟩, ⟨[28, 29], [], [30]⟩, ⟨[28, 30], [], [31]⟩, ⟨[0, 31], [], [32]⟩, ⟨[31, 32, 6], [], [33]⟩, ⟨[3, 31], [], [34]⟩, ⟨[2, 31], [], [35]⟩, ⟨[31, 35], [], [36]⟩, ⟨[31, 34, 36, 8], [], [37]⟩, ⟨[31, 37, 8], [], [38]⟩, ⟨[31, 38, 8], [], [39]⟩, ⟨[31, 33, 39], [], [40]⟩, ⟨[28, 31, 40], [], [41]⟩, ⟨[28, 41], [], [42]⟩, ⟨[42], [], [43]⟩, ⟨[43], [], [44]⟩, ⟨[43], [], [45]⟩, ⟨[43], [], [46]⟩, ⟨[43], [], [47]⟩, ⟨[43], [], [48]⟩, ⟨[43], [], [49]⟩, ⟨[43], [], [50]⟩, ⟨[43], [], [51]⟩, ⟨[43, 51], [], [52]⟩, ⟨[52], [], [53]⟩, ⟨[53], [], [54]⟩, ⟨[53], [], [55]⟩, ⟨[53], [], [56]⟩, ⟨[53, 56], [], [57]⟩, ⟨[57], [], [58]⟩, ⟨[58], [], [59]⟩, ⟨[58], [], [60]⟩, ⟨[58], [], [61]⟩, ⟨[58], [], [62]⟩, ⟨[58], [], [63]⟩, ⟨[58], [], [64]⟩, ⟨[58], [], [65]⟩, ⟨[58], [], [66]⟩, ⟨[58, 66], [], [67]⟩]) (ini := [0, 1, 2, 3, 4, 5, 6, 7, 8, 9, 10, 11, 12, 13, 14, 15, 16, 17, 18]) (fin := [2, 5, 4, 1, 3, 0, 67, 6, 7, 8, 9, 10, 11, 12, 13, 14, 15, 16, 17, 18]) (bf := [[], [0], [0, 1], [0, 1, 2], [0, 1, 2, 3], [0, 1, 2, 3, 4], [0, 1, 2, 3], [0, 1, 2, 3, 4, 5, 6], [0, 1, 2, 3, 4, 5, 6, 7], [0, 1, 2, 3, 4, 5, 6, 7, 8], [0, 1, 2, 3, 4, 5, 6, 7, 8, 9], [0, 1, 2, 3, 4, 5, 6, 7, 8, 9, 10], [0, 1, 2, 3, 4, 5, 6, 7, 8, 9, 10, 11], [0, 1, 2, 3, 4, 5, 6, 7, 8, 9, 10, 11, 12], [0, 1, 2, 3, 4, 5, 6, 7, 8, 9, 10, 11, 12, 13], [0, 1, 2, 3, 4, 5, 6, 7, 8, 9, 10, 11, 12], [0, 1, 2, 3, 4, 5, 6, 7, 8, 9, 10, 11, 12], [0, 1, 2, 3, 4, 5, 6, 7, 8, 9, 10, 11, 12, 16], [0, 1, 2, 3, 4, 5, 6, 7, 8, 9, 10, 11, 12, 15, 16, 17], [0, 1, 2, 3, 4, 5, 6, 7, 8, 9, 10, 11, 12, 15, 16, 17, 18], [0, 1, 2, 3, 4, 5, 6, 7, 8, 9, 10, 11, 12, 15, 16, 17, 18, 19], [0, 1, 2, 3, 4, 5, 6, 7, 8, 9, 10, 11, 12, 13, 14, 15, 16, 17, 18, 19, 20], [0, 1, 2, 3, 4, 5, 6, 7, 8, 9, 10, 11, 12, 13, 14, 15, 16, 17, 18, 19, 20, 21], [0, 1, 2, 3, 4, 5, 6, 7, 8, 9, 10, 11, 12, 13, 14, 15, 16, 17, 18, 19, 20, 21, 22], [0, 1, 2, 3, 4, 5, 6, 7, 8, 9, 10, 11, 12, 13, 14, 15, 16, 17, 18, 19, 20, 21, 22, 23], [0, 1, 2, 3, 4, 5, 6, 7, 8, 9, 10, 11, 12, 13, 14, 15, 16, 17, 18, 19, 20, 21, 22, 23, 24], [0, 1, 2, 3, 4, 5, 6, 7, 8, 9, 10, 11, 12, 13, 14, 15, 16, 17, 18, 19, 20, 21, 22, 23, 24, 25], [0, 1, 2, 3, 4, 5, 6, 7, 8, 9, 10, 11, 12, 13, 14, 15, 16, 17, 18, 19, 20, 21, 22, 23, 24], [0, 1, 2, 3, 4, 5, 6, 7, 8, 9, 10, 11, 12, 13, 14, 15, 16, 17, 18, 19, 20, 21, 22, 23, 24], [0, 1, 2, 3, 4, 5, 6, 7, 8, 9, 10, 11, 12, 13, 14, 15, 16, 17, 18, 19, 20, 21, 22, 23, 24, 28], [0, 1, 2, 3, 4, 5, 6, 7, 8, 9, 10, 11, 12, 13, 14, 15, 16, 17, 18, 19, 20, 21, 22, 23, 24, 27, 28, 29], [0, 1, 2, 3, 4, 5, 6, 7, 8, 9, 10, 11, 12, 13, 14, 15, 16, 17, 18, 19, 20, 21, 22, 23, 24, 27, 28, 29, 30], [0, 1, 2, 3, 4, 5, 6, 7, 8, 9, 10, 11, 12, 13, 14, 15, 16, 17, 18, 19, 20, 21, 22, 23, 24, 25, 26, 27, 28, 29, 30, 31], [0, 1, 2, 3, 4, 5, 6, 7, 8, 9, 10, 11, 12, 13, 14, 15, 16, 17, 18, 19, 20, 21, 22, 23, 24, 25, 26, 27, 28, 29, 30, 31, 32], [0, 1, 2, 3, 4, 5, 6, 7, 8, 9, 10, 11, 12, 13, 14, 15, 16, 17, 18, 19, 20, 21, 22, 23, 24, 25, 26, 27, 28, 29, 30, 31, 32, 33], [0, 1, 2, 3, 4, 5, 6, 7, 8, 9, 10, 11, 12, 13, 14, 15, 16, 17, 18, 19, 20, 21, 22, 23, 24, 25, 26, 27, 28, 29, 30, 31, 32, 33, 34], [0, 1, 2, 3, 4, 5, 6, 7, 8, 9, 10, 11, 12, 13, 14, 15, 16, 17, 18, 19, 20, 21, 22, 23, 24, 25, 26, 27, 28, 29, 30, 31, 32, 33, 34, 35], [0, 1, 2, 3, 4, 5, 6, 7, 8, 9, 10, 11, 12, 13, 14, 15, 16, 17, 18, 19, 20, 21, 22, 23, 24, 25, 26, 27, 28, 29, 30, 31, 32, 33, 34, 35, 36], [0, 1, 2, 3, 4, 5, 6, 7, 8, 9, 10, 11, 12, 13, 14, 15, 16, 17, 18, 19, 20, 21, 22, 23, 24, 25, 26, 27, 28, 29, 30, 31, 32, 33, 34, 35, 36, 37], [0, 1, 2, 3, 4, 5, 6, 7, 8, 9, 10, 11, 12, 13, 14, 15, 16, 17, 18, 19, 20, 21, 22, 23, 24, 25, 26, 27, 28, 29, 30, 31, 32, 33, 34, 35, 36, 37, 38], [0, 1, 2, 3, 4, 5, 6, 7, 8, 9, 10, 11, 12, 13, 14, 15, 16, 17, 18, 19, 20, 21, 22, 23, 24, 25, 26, 27, 28, 29, 30, 31, 32, 33, 34, 35, 36, 37, 38, 39], [0, 1, 2, 3, 4, 5, 6, 7, 8, 9, 10, 11, 12, 13, 14, 15, 16, 17, 18, 19, 20, 21, 22, 23, 24, 25, 26, 27, 28, 29, 30, 31, 32, 33, 34, 35, 36, 37, 38, 39, 40], [0, 1, 2, 3, 4, 5, 6, 7, 8, 9, 10, 11, 12, 13, 14, 15, 16, 17, 18, 19, 20, 21, 22, 23, 24, 25, 26, 27, 28, 29, 30, 31, 32, 33, 34, 35, 36, 37, 38, 39], [0, 1, 2, 3, 4, 5, 6, 7, 8, 9, 10, 11, 12, 13, 14, 15, 16, 17, 18, 19, 20, 21, 22, 23, 24, 25, 26, 27, 28, 29, 30, 31, 32, 33, 34, 35, 36, 37, 38, 39, 42], [0, 1, 2, 3, 4, 5, 6, 7, 8, 9, 10, 11, 12, 13, 14, 15, 16, 17, 18, 19, 20, 21, 22, 23, 24, 25, 26, 27, 28, 29, 30, 31, 32, 33, 34, 35, 36, 37, 38, 39], [0, 1, 2, 3, 4, 5, 6, 7, 8, 9, 10, 11, 12, 13, 14, 15, 16, 17, 18, 19, 20, 21, 22, 23, 24, 25, 26, 27, 28, 29, 30, 31, 32, 33, 34, 35, 36, 37, 38, 39, 44], [0, 1, 2, 3, 4, 5, 6, 7, 8, 9, 10, 11, 12, 13, 14, 15, 16, 17, 18, 19, 20, 21, 22, 23, 24, 25, 26, 27, 28, 29, 30, 31, 32, 33, 34, 35, 36, 37, 38, 39, 42, 43, 44, 45], [0, 1, 2, 3, 4, 5, 6, 7, 8, 9, 10, 11, 12, 13, 14, 15, 16, 17, 18, 19, 20, 21, 22, 23, 24, 25, 26, 27, 28, 29, 30, 31, 32, 33, 34, 35, 36, 37, 38, 39, 40, 41, 42, 43, 44, 45, 46], [0, 1, 2, 3, 4, 5, 6, 7, 8, 9, 10, 11, 12, 13, 14, 15, 16, 17, 18, 19, 20, 21, 22, 23, 24, 25, 26, 27, 28, 29, 30, 31, 32, 33, 34, 35, 36, 37, 38, 39, 40, 41, 42, 43, 44, 45, 46, 47]]) (by kernel_rfl) (by kernel_rfl) (fun Q => by kernel_rfl) (fun x w h1 h2 => ⟨(), (), (), (), (), (), (), (), (), (), (), (), (), (), (), (), (), (), (), EnvAll.of h1 ⟨rfl, rfl, rfl, rfl, rfl, rfl, rfl, rfl, rfl, rfl, trivial⟩, h2⟩) (fun Q => by kernel_rfl) ⟨?_, ?_, ?_, ?_, ?_, ?_, ?_, ?_, ?_, ?_, ?_, ?_, ?_, ?_, ?_, ?_, ?_, ?_, ?_, ?_, ?_, ?_, ?_, ?_, ?_, ?_, ?_, ?_, ?_, ?_, ?_, ?_, ?_, ?_, ?_, ?_, ?_, ?_, ?_, ?_, ?_, ?_, ?_, ?_, ?_, ?_, ?_, ?_, ?_, trivial⟩ ?_
            · rintro Fr _
              refine SO.v rfl (opv_fieldAddr Try.underlying63 rfl Try.sizeOf3 rfl rfl) ?_
              exact SO.nilZ fun a w h1 h2 h3 h4 h5 => PZ.of h1 h3 h5 (.cons () (.cons () (.nil ⟨EnvAll.of h2 ⟨rfl, rfl, trivial⟩, h4⟩)))
            · rintro Fr _ _
              refine SO.load1 rfl Try.isAgg3 rfl rfl ?_
              exact SO.nilZ fun a w h1 h2 h3 h4 h5 => PZ.of h1 h3 h5 (.cons () (.cons () (.cons () (.nil ⟨EnvAll.of h2 ⟨rfl, rfl, trivial⟩, h4⟩))))
            · rintro Fr _
              refine SO.v rfl (opv_lss rfl rfl) ?_
              exact SO.nilZ fun a w h1 h2 h3 h4 h5 => PZ.of h1 h3 h5 (.cons () (.cons () (.nil ⟨EnvAll.of h2 ⟨rfl, rfl, trivial⟩, h4⟩)))
            · rintro Fr _
              refine SO.v rfl (opv_move rfl) ?_
              exact SO.nilZ fun a w h1 h2 h3 h4 h5 => PZ.of h1 h3 h5 (.cons () (.cons () (.nil ⟨EnvAll.of h2 ⟨rfl, rfl, trivial⟩, h4⟩)))
            · rintro Fr _ _
              refine SO.takeT rfl rfl rfl b120 ?_
              refine SO.v rfl (opv_fieldAddr Try.underlying63 rfl Try.sizeOf3 rfl rfl) ?_
              exact SO.nilZ fun a w h1 h2 h3 h4 h5 => PZ.of h1 h3 h5 (.cons () (.cons () (.cons () (.nil ⟨EnvAll.of h2 ⟨rfl, rfl, rfl, trivial⟩, h4⟩))))
            · rintro Fr _ _ _
              refine SO.takeT rfl rfl rfl b120 ?_
              refine SO.load1 rfl Try.isAgg3 rfl rfl ?_
              exact SO.nilZ fun a w h1 h2 h3 h4 h5 => PZ.of h1 h3 h5 (.cons () (.cons () (.cons () (.cons () (.nil ⟨EnvAll.of h2 ⟨rfl, rfl, rfl, trivial⟩, h4⟩)))))
            · rintro Fr _ _
              refine SO.takeT rfl rfl rfl b120 ?_
              refine SO.v rfl (opv_move rfl) ?_
              exact SO.nilZ fun a w h1 h2 h3 h4 h5 => PZ.of h1 h3 h5 (.cons () (.cons () (.cons () (.nil ⟨EnvAll.of h2 ⟨rfl, rfl, rfl, trivial⟩, h4⟩))))
            · rintro Fr _ _ _
              refine SO.takeT rfl rfl rfl b120 ?_
              refine SO.v rfl (opv_geq rfl rfl) ?_
              exact SO.nilZ fun a w h1 h2 h3 h4 h5 => PZ.of h1 h3 h5 (.cons () (.cons () (.cons () (.cons () (.nil ⟨EnvAll.of h2 ⟨rfl, rfl, rfl, rfl, trivial⟩, h4⟩)))))
            · rintro Fr _ _
              refine SO.v rfl (opv_pick_f' b120 rfl rfl) ?_
              exact SO.nilZ fun a w h1 h2 h3 h4 h5 => PZ.of h1 h3 h5 (.cons () (.cons () (.cons () (.nil ⟨EnvAll.of h2 ⟨rfl, rfl, rfl, trivial⟩, h4⟩))))
            · rintro Fr _
              refine SO.v rfl (opv_move rfl) ?_
              exact SO.nilZ fun a w h1 h2 h3 h4 h5 => PZ.of h1 h3 h5 (.cons () (.cons () (.nil ⟨EnvAll.of h2 ⟨rfl, rfl, trivial⟩, h4⟩)))
            · rintro Fr _ _
              refine SO.takeT rfl rfl rfl b121 ?_
              refine SO.v rfl (opv_move rfl) ?_
              exact SO.nilZ fun a w h1 h2 h3 h4 h5 => PZ.of h1 h3 h5 (.cons () (.cons () (.cons () (.nil ⟨EnvAll.of h2 ⟨rfl, rfl, rfl, trivial⟩, h4⟩))))
            · rintro Fr _ _
              refine SO.takeT rfl rfl rfl b121 ?_
              refine SO.v rfl (opv_gtr rfl rfl) ?_
              exact SO.nilZ fun a w h1 h2 h3 h4 h5 => PZ.of h1 h3 h5 (.cons () (.cons () (.cons () (.nil ⟨EnvAll.of h2 ⟨rfl, rfl, rfl, trivial⟩, h4⟩))))
            · rintro Fr _ _
              refine SO.takeT rfl rfl rfl b121 ?_
              refine SO.v rfl (opv_move rfl) ?_
              exact SO.nilZ fun a w h1 h2 h3 h4 h5 => PZ.of h1 h3 h5 (.cons () (.cons () (.cons () (.nil ⟨EnvAll.of h2 ⟨rfl, rfl, rfl, trivial⟩, h4⟩))))
            · rintro Fr _ _
              refine SO.takeT rfl rfl rfl b122 ?_
              refine SO.v rfl (opv_fieldAddr Try.underlying63 rfl Try.sizeOf3 rfl rfl) ?_
              exact SO.nilZ fun a w h1 h2 h3 h4 h5 => PZ.of h1 h3 h5 (.cons () (.cons () (.cons () (.nil ⟨EnvAll.of h2 ⟨rfl, rfl, rfl, trivial⟩, h4⟩))))
            · rintro Fr _ _ _
              refine SO.takeT rfl rfl rfl b122 ?_
              refine SO.load1 rfl Try.isAgg3 rfl rfl ?_
              exact SO.nilZ fun a w h1 h2 h3 h4 h5 => PZ.of h1 h3 h5 (.cons () (.cons () (.cons () (.cons () (.nil ⟨EnvAll.of h2 ⟨rfl, rfl, rfl, trivial⟩, h4⟩)))))
            · rintro Fr _ _
              refine SO.takeT rfl rfl rfl b122 ?_
              refine SO.v rfl (opv_move rfl) ?_
              exact SO.nilZ fun a w h1 h2 h3 h4 h5 => PZ.of h1 h3 h5 (.cons () (.cons () (.cons () (.nil ⟨EnvAll.of h2 ⟨rfl, rfl, rfl, trivial⟩, h4⟩))))
            · rintro Fr _ _
              refine SO.takeT rfl rfl rfl b122 ?_
              refine SO.v rfl (opv_move rfl) ?_
              exact SO.nilZ fun a w h1 h2 h3 h4 h5 => PZ.of h1 h3 h5 (.cons () (.cons () (.cons () (.nil ⟨EnvAll.of h2 ⟨rfl, rfl, rfl, trivial⟩, h4⟩))))
            · rintro Fr _ _
              refine SO.takeT rfl rfl rfl b122 ?_
              refine SO.v rfl (opv_sub rfl rfl) ?_
              exact SO.nilZ fun a w h1 h2 h3 h4 h5 => PZ.of h1 h3 h5 (.cons () (.cons () (.cons () (.nil ⟨EnvAll.of h2 ⟨rfl, rfl, rfl, trivial⟩, h4⟩))))
            · rintro Fr _ _ _ _
              refine SO.takeT rfl rfl rfl b122 ?_
              refine SO.v rfl (opv_idx Try.underlying45 Try.sizeOf63 hr101 rfl rfl hx124) ?_
              exact SO.nilZ fun a w h1 h2 h3 h4 h5 => PZ.of2 (Y := fun Q => ∃ (_ _ _ _ _ : Unit), Q [(164, .bool (decide (0 < x21_3))), (167, v100), (169, .int .i64 (w64 (x21_3 - 1))), (170, idxp v100 ((w64 (x21_3 - 1)).toNat * ek_tx_Entry.sz))] [Own 63 ek_tx_Entry v100 t97]) (fun Q => by kernel_rfl) h1 h3 h5 ⟨(), (), (), (), (), EnvAll.of h2 ⟨rfl, rfl, rfl, rfl, trivial⟩, h4⟩
            · rintro Fr _ _ _
              refine SO.takeT rfl rfl rfl b122 ?_
              refine SO.v rfl (opv_fieldIdx Try.underlying63 rfl Try.sizeOf3 hr101 hx124 rfl rfl) ?_
              exact SO.nilZ fun a w h1 h2 h3 h4 h5 => PZ.of h1 h3 h5 (.cons () (.cons () (.cons () (.cons () (.nil ⟨EnvAll.of h2 ⟨rfl, rfl, rfl, trivial⟩, h4⟩)))))
            · rintro Fr _ _ _
              refine SO.takeT rfl rfl rfl b122 ?_
              refine SO.loadI1 (j := 0) rfl Try.isAgg3 (Rd.head hr101) hx124 rfl rfl rfl rfl ?_
              exact SO.nilZ fun a w h1 h2 h3 h4 h5 => PZ.of h1 h3 h5 (.cons () (.cons () (.cons () (.cons () (.nil ⟨EnvAll.of h2 ⟨rfl, rfl, rfl, trivial⟩, h4⟩)))))
            · rintro Fr _ _ _
              refine SO.takeT rfl rfl rfl b122 ?_
              refine SO.v rfl (opv_leq rfl rfl) ?_
              exact SO.nilZ fun a w h1 h2 h3 h4 h5 => PZ.of h1 h3 h5 (.cons () (.cons () (.cons () (.cons () (.nil ⟨EnvAll.of h2 ⟨rfl, rfl, rfl, rfl, trivial⟩, h4⟩)))))
            · rintro Fr _ _ _
              refine SO.takeT rfl rfl rfl b121 ?_
              refine SO.v rfl (opv_pick_t' b122 rfl rfl) ?_
              exact SO.nilZ fun a w h1 h2 h3 h4 h5 => PZ.of h1 h3 h5 (.cons () (.cons () (.cons () (.cons () (.nil ⟨EnvAll.of h2 ⟨rfl, rfl, rfl, rfl, trivial⟩, h4⟩)))))
            · rintro Fr _ _
              refine SO.v rfl (opv_pick_f' b121 rfl rfl) ?_
              exact SO.nilZ fun a w h1 h2 h3 h4 h5 => PZ.of h1 h3 h5 (.cons () (.cons () (.cons () (.nil ⟨EnvAll.of h2 ⟨rfl, rfl, rfl, trivial⟩, h4⟩))))
            · rintro Fr _
              refine SO.v rfl (opv_move rfl) ?_
              exact SO.nilZ fun a w h1 h2 h3 h4 h5 => PZ.of h1 h3 h5 (.cons () (.cons () (.nil ⟨EnvAll.of h2 ⟨rfl, rfl, trivial⟩, h4⟩)))
            · rintro Fr _
              refine SO.passF rfl rfl rfl b125 rfl rfl ?_
              exact SO.nilZ fun a w h1 h2 h3 h4 h5 => PZ.of h1 h3 h5 (.cons () (.cons () (.nil ⟨EnvAll.of h2 ⟨rfl, rfl, trivial⟩, h4⟩)))
            · rintro Fr _
              refine SO.passF rfl rfl rfl b125 rfl rfl ?_
              exact SO.nilZ fun a w h1 h2 h3 h4 h5 => PZ.of h1 h3 h5 (.cons () (.cons () (.nil ⟨EnvAll.of h2 ⟨rfl, rfl, trivial⟩, h4⟩)))
            · rintro Fr _
              refine SO.passF rfl rfl rfl b125 rfl rfl ?_
              exact SO.nilZ fun a w h1 h2 h3 h4 h5 => PZ.of h1 h3 h5 (.cons () (.cons () (.nil ⟨EnvAll.of h2 ⟨rfl, rfl, trivial⟩, h4⟩)))
            · rintro Fr _
              refine SO.passF rfl rfl rfl b125 rfl rfl ?_
              exact SO.nilZ fun a w h1 h2 h3 h4 h5 => PZ.of h1 h3 h5 (.cons () (.cons () (.nil ⟨EnvAll.of h2 ⟨rfl, rfl, trivial⟩, h4⟩)))
            · rintro Fr _
              refine SO.passF rfl rfl rfl b125 rfl rfl ?_
              exact SO.nilZ fun a w h1 h2 h3 h4 h5 => PZ.of h1 h3 h5 (.cons () (.cons () (.nil ⟨EnvAll.of h2 ⟨rfl, rfl, trivial⟩, h4⟩)))
            · rintro Fr _
              refine SO.passF rfl rfl rfl b125 rfl rfl ?_
              exact SO.nilZ fun a w h1 h2 h3 h4 h5 => PZ.of h1 h3 h5 (.cons () (.cons () (.nil ⟨EnvAll.of h2 ⟨rfl, rfl, trivial⟩, h4⟩)))
            · rintro Fr _
              refine SO.passF rfl rfl rfl b125 rfl rfl ?_
              exact SO.nilZ fun a w h1 h2 h3 h4 h5 => PZ.of h1 h3 h5 (.cons () (.cons () (.nil ⟨EnvAll.of h2 ⟨rfl, rfl, trivial⟩, h4⟩)))
            · rintro Fr _
              refine SO.passF rfl rfl rfl b125 rfl rfl ?_
              exact SO.nilZ fun a w h1 h2 h3 h4 h5 => PZ.of h1 h3 h5 (.cons () (.cons () (.nil ⟨EnvAll.of h2 ⟨rfl, rfl, trivial⟩, h4⟩)))
            · rintro Fr _ _
              refine SO.v rfl (opv_pick_t' b125 rfl rfl) ?_
              exact SO.nilZ fun a w h1 h2 h3 h4 h5 => PZ.of h1 h3 h5 (.cons () (.cons () (.cons () (.nil ⟨EnvAll.of h2 ⟨rfl, rfl, rfl, trivial⟩, h4⟩))))
            · rintro Fr _
              refine SO.v rfl (opv_move rfl) ?_
              exact SO.nilZ fun a w h1 h2 h3 h4 h5 => PZ.of h1 h3 h5 (.cons () (.cons () (.nil ⟨EnvAll.of h2 ⟨rfl, rfl, trivial⟩, h4⟩)))
            · rintro Fr _
              refine SO.passF rfl rfl rfl rfl rfl rfl ?_
              exact SO.nilZ fun a w h1 h2 h3 h4 h5 => PZ.of h1 h3 h5 (.cons () (.cons () (.nil ⟨EnvAll.of h2 ⟨rfl, rfl, trivial⟩, h4⟩)))
            · rintro Fr _
              refine SO.passF rfl rfl rfl rfl rfl rfl ?_
              exact SO.nilZ fun a w h1 h2 h3 h4 h5 => PZ.of h1 h3 h5 (.cons () (.cons () (.nil ⟨EnvAll.of h2 ⟨rfl, rfl, trivial⟩, h4⟩)))
            · rintro Fr _
              refine SO.passF rfl rfl rfl rfl rfl rfl ?_
              exact SO.nilZ fun a w h1 h2 h3 h4 h5 => PZ.of h1 h3 h5 (.cons () (.cons () (.nil ⟨EnvAll.of h2 ⟨rfl, rfl, trivial⟩, h4⟩)))
            · rintro Fr _ _
              refine SO.v rfl (opv_pick_tt rfl rfl) ?_
              exact SO.nilZ fun a w h1 h2 h3 h4 h5 => PZ.of h1 h3 h5 (.cons () (.cons () (.cons () (.nil ⟨EnvAll.of h2 ⟨rfl, rfl, rfl, trivial⟩, h4⟩))))
            · rintro Fr _
              refine SO.v rfl (opv_move rfl) ?_
              exact SO.nilZ fun a w h1 h2 h3 h4 h5 => PZ.of h1 h3 h5 (.cons () (.cons () (.nil ⟨EnvAll.of h2 ⟨rfl, rfl, trivial⟩, h4⟩)))
            · rintro Fr _
              refine SO.passF rfl rfl rfl rfl rfl rfl ?_
              exact SO.nilZ fun a w h1 h2 h3 h4 h5 => PZ.of h1 h3 h5 (.cons () (.cons () (.nil ⟨EnvAll.of h2 ⟨rfl, rfl, trivial⟩, h4⟩)))
            · rintro Fr _
              refine SO.passF rfl rfl rfl rfl rfl rfl ?_
              exact SO.nilZ fun a w h1 h2 h3 h4 h5 => PZ.of h1 h3 h5 (.cons () (.cons () (.nil ⟨EnvAll.of h2 ⟨rfl, rfl, trivial⟩, h4⟩)))
            · rintro Fr _
              refine SO.passF rfl rfl rfl rfl rfl rfl ?_
              exact SO.nilZ fun a w h1 h2 h3 h4 h5 => PZ.of h1 h3 h5 (.cons () (.cons () (.nil ⟨EnvAll.of h2 ⟨rfl, rfl, trivial⟩, h4⟩)))
            · rintro Fr _
              refine SO.passF rfl rfl rfl rfl rfl rfl ?_
              exact SO.nilZ fun a w h1 h2 h3 h4 h5 => PZ.of h1 h3 h5 (.cons () (.cons () (.nil ⟨EnvAll.of h2 ⟨rfl, rfl, trivial⟩, h4⟩)))
            · rintro Fr _
              refine SO.passF rfl rfl rfl rfl rfl rfl ?_
              exact SO.nilZ fun a w h1 h2 h3 h4 h5 => PZ.of h1 h3 h5 (.cons () (.cons () (.nil ⟨EnvAll.of h2 ⟨rfl, rfl, trivial⟩, h4⟩)))
            · rintro Fr _
              refine SO.passF rfl rfl rfl rfl rfl rfl ?_
              exact SO.nilZ fun a w h1 h2 h3 h4 h5 => PZ.of h1 h3 h5 (.cons () (.cons () (.nil ⟨EnvAll.of h2 ⟨rfl, rfl, trivial⟩, h4⟩)))
            · rintro Fr _
              refine SO.passF rfl rfl rfl rfl rfl rfl ?_
              exact SO.nilZ fun a w h1 h2 h3 h4 h5 => PZ.of h1 h3 h5 (.cons () (.cons () (.nil ⟨EnvAll.of h2 ⟨rfl, rfl, trivial⟩, h4⟩)))
            · rintro Fr _
              refine SO.passF rfl rfl rfl rfl rfl rfl ?_
              exact SO.nilZ fun a w h1 h2 h3 h4 h5 => PZ.of h1 h3 h5 (.cons () (.cons () (.nil ⟨EnvAll.of h2 ⟨rfl, rfl, trivial⟩, h4⟩)))
            · rintro Fr _ _
              refine SO.v rfl (opv_pick_tt rfl rfl) ?_
              exact SO.nilZ fun a w h1 h2 h3 h4 h5 => PZ.of h1 h3 h5 (.cons () (.cons () (.cons () (.nil ⟨EnvAll.of h2 ⟨rfl, rfl, rfl, trivial⟩, h4⟩))))
            rintro _ _ _ _ _ _ _ _ _ _ _ _ _ _ _ _ _ _ _ _
            refine S.to (ρ' := [(21, .int .i64 x21_3), (20, v113), (4, .bool false), (5, .bool t2), (11, v30), (18, v89), (0, v0), (6, .int .i64 (a0.length : Int)), (19, v100), (22, bp b119 0), (200, .bool true)]) ⟨rfl, rfl, rfl, rfl, rfl, rfl, rfl, rfl, rfl, rfl, rfl, trivial⟩ ?_
            cases h
            refine S.b12 ?_
            refine S.b12 ?_
            refine S.b12 ?_
            refine S.b12 ?_
            refine S.b12 ?_
            refine S.b12 ?_
            refine S.b12 ?_
            refine S.b12 ?_
            refine S.b12 ?_
            refine S.b12 ?_
            refine S.b12 ?_
            refine S.b12 ?_
            refine S.b12 ?_
            refine S.to ?_ (hk4 () trivial)
            exact ⟨rfl, rfl, rfl, rfl, rfl, rfl, rfl, rfl, rfl, rfl, rfl, trivial⟩
          replace h := cond_f b125 h
          obtain ⟨x126, hx127, h⟩ := opt_bind h
          rcases bool_or (x117.Old != x126) with b128 | b128
          · replace h := cond_t b128 h
            refine S.draw2 (Y := fun Q => ∃ (_ _ _ _ _ _ _ _ _ _ _ _ _ _ _ _ _ _ _ : Unit), Q [(22, bp b119 0), (6, .int .i64 (a0.length : Int)), (21, .int .i64 x21_3), (19, v100), (0, v0), (20, v113), (4, .bool false), (5, .bool t2), (11, v30), (18, v89)] [Box b119 [.int .i64 x117.Cell, .int .u32 x117.Version, .int .u64 x117.Old, .int .u64 x117.New, .bool x117.Write], Own 35 (ekI .u64) v113 qv113_3, Own 63 ek_tx_Entry v100 t97, Box b15 [.int .i64 p98.cells, u102_l, u102_out, .int .i64 p98.lack, .bool p98.fine], MapO (aggE ek_api_Cell) u102_l p98.l, MapO (Value.int .u64) u102_out p98.out, Own 35 (ekI .u64) v89 s93, Own 4 ekB v30 qv30_e2, Box b34 [.int .u64 y34_0_e2], Own 38 ek_api_Cell vy10_0_e1 y10_0_e1, Box b10 [vy10_0_e1, .int .u32 y10_1_e1], Box b1 [v1], F]) (Z := fun Q => ∀ (_ _ _ _ _ _ _ _ _ _ _ _ _ _ _ _ _ _ _ _ : Unit), Q [(21, .int .i64 x21_3), (20, v113), (4, .bool false), (5, .bool t2), (11, v30), (18, v89), (0, v0), (6, .int .i64 (a0.length : Int)), (19, v100), (22, bp b119 0), (200, .bool true)] [Box b119 [.int .i64 x117.Cell, .int .u32 x117.Version, .int .u64 x117.Old, .int .u64 x117.New, .bool x117.Write], Own 35 (ekI .u64) v113 qv113_3, Own 63 ek_tx_Entry v100 t97, Box b15 [.int .i64 p98.cells, u102_l, u102_out, .int .i64 p98.lack, .bool p98.fine], MapO (aggE ek_api_Cell) u102_l p98.l, MapO (Value.int .u64) u102_out p98.out, Own 35 (ekI .u64) v89 s93, Own 4 ekB v30 qv30_e2, Box b34 [.int .u64 y34_0_e2], Own 38 ek_api_Cell vy10_0_e1 y10_0_e1, Box b10 [vy10_0_e1, .int .u32 y10_1_e1], Box b1 [v1], F]) (T := [tS 22 (bp b119 0), tS 6 (.int .i64 (a0.length : Int)), tS 21 (.int .i64 x21_3), tS 19 (v100), tS 0 (v0), tE [(20, v113), (4, .bool false), (5, .bool t2), (11, v30), (18, v89)], tR (Box b119 [.int .i64 x117.Cell, .int .u32 x117.Version, .int .u64 x117.Old, .int .u64 x117.New, .bool x117.Write]), tR (Own 35 (ekI .u64) v113 qv113_3), tR (Own 63 ek_tx_Entry v100 t97), tR (Box b15 [.int .i64 p98.cells, u102_l, u102_out, .int .i64 p98.lack, .bool p98.fine]), tR (MapO (aggE ek_api_Cell) u102_l p98.l), tR (MapO (Value.int .u64) u102_out p98.out), tR (Own 35 (ekI .u64) v89 s93), tR (Own 4 ekB v30 qv30_e2), tR (Box b34 [.int .u64 y34_0_e2]), tR (Own 38 ek_api_Cell vy10_0_e1 y10_0_e1), tR (Box b10 [vy10_0_e1, .int .u32 y10_1_e1]), tR (Box b1 [v1]), tR (F), tS 152 (bp b119 0), tS 153 (.int .i64 x117.Cell), tS 154 (.bool (decide (x117.Cell < 0))), tS 155 (.bool (decide (x117.Cell < 0))), tS 156 (bp b119 0), tS 157 (.int .i64 x117.Cell), tS 158 (.int .i64 (a0.length : Int)), tS 159 (.bool (decide ((a0.length : Int) ≤ x117.Cell))), tS 160 (.bool (decide ((a0.length : Int) ≤ x117.Cell))), tS 161 (.bool (decide ((a0.length : Int) ≤ x117.Cell))), tS 162 (.int .i64 x21_3), tS 163 (.bool (decide (0 < x21_3))), tS 164 (.bool (decide (0 < x21_3))), tS 165 (bp b119 0), tS 166 (.int .i64 x117.Cell), tS 167 (v100), tS 168 (.int .i64 x21_3), tS 169 (.int .i64 (w64 (x21_3 - 1))), tS 170 (idxp v100 ((w64 (x21_3 - 1)).toNat * ek_tx_Entry.sz)), tS 171 (idxp v100 ((w64 (x21_3 - 1)).toNat * ek_tx_Entry.sz)), tS 172 (.int .i64 x123.Cell), tS 173 (.bool (decide (x117.Cell ≤ x123.Cell))), tS 174 (.bool (decide (x117.Cell ≤ x123.Cell))), tS 175 (.bool (decide (x117.Cell ≤ x123.Cell))), tS 176 (.bool (decide (x117.Cell ≤ x123.Cell))), tS 177 (bp b119 2), tS 178 (.int .u64 x117.Old), tS 179 (v0), tS 180 (bp b119 0), tS 181 (.int .i64 x117.Cell), tS 182 (idxp v0 (x117.Cell.toNat * (ekI .u64).sz)), tS 183 (.int .u64 x126), tS 184 (.bool (x117.Old != x126)), tS 185 (.bool (x117.Old != x126)), tS 186 (.bool (x117.Old != x126)), tS 187 (undef), tS 188 (undef), tS 189 (undef), tS 190 (.bool true), tS 191 (.bool true), tS 192 (undef), tS 193 (undef), tS 194 (undef), tS 195 (undef), tS 196 (undef), tS 197 (undef), tS 198 (undef), tS 199 (undef), tS 200 (.bool true)]) (D := [⟨[0], [], [19]⟩, ⟨[19, 6], [], [20]⟩, ⟨[20], [], [21]⟩, ⟨[21], [], [22]⟩, ⟨[0, 22], [], [23]⟩, ⟨[22, 23, 6], [], [24]⟩, ⟨[1, 22], [], [25]⟩, ⟨[22, 24, 25], [], [26]⟩, ⟨[22, 26], [], [27]⟩, ⟨[27], [], [28]⟩, ⟨[2, 28], [], [29]⟩, ⟨[28, 29], [], [30]⟩, ⟨[28, 30], [], [31]⟩, ⟨[0, 31], [], [32]⟩, ⟨[31, 32, 6], [], [33]⟩, ⟨[3, 31], [], [34]⟩, ⟨[2, 31], [], [35]⟩, ⟨[31, 35], [], [36]⟩, ⟨[31, 34, 36, 8], [], [37]⟩, ⟨[31, 37, 8], [], [38]⟩, ⟨[31, 38, 8], [], [39]⟩, ⟨[31, 33, 39], [], [40]⟩, ⟨[28, 31, 40], [], [41]⟩, ⟨[28, 41], [], [42]⟩, ⟨[42], [], [43]⟩, ⟨[0, 43], [], [44]⟩, ⟨[43, 44, 6], [], [45]⟩, ⟨[4, 43], [], [46]⟩, ⟨[0, 43], [], [47]⟩, ⟨[43, 47, 6], [], [48]⟩, ⟨[43, 46, 48, 18], [], [49]⟩, ⟨[43, 49, 18], [], [50]⟩, ⟨[43, 45, 50], [], [51]⟩, ⟨[43, 51], [], [52]⟩, ⟨[52], [], [53]⟩, ⟨[53], [], [54]⟩, ⟨[53], [], [55]⟩, ⟨[53], [], [56]⟩, ⟨[53, 56], [], [57]⟩, ⟨[57], [], [58]⟩, ⟨[58], [], [59]⟩, ⟨[58], [], [60]⟩, ⟨[58], [], [61]⟩, ⟨[58], [], [62]⟩, ⟨[58], [], [63]⟩, ⟨[58], [], [64]⟩, ⟨[58], [], [65]⟩, ⟨[58], [], [66]⟩, ⟨[58, 66], [], [67]⟩]) (ini := [0, 1, 2, 3, 4, 5, 6, 7, 8, 9, 10, 11, 12, 13, 14, 15, 16, 17, 18]) (fin := [2, 5, 4, 1, 3, 0, 67, 6, 7, 8, 9, 10, 11, 12, 13, 14, 15, 16, 17, 18]) (bf := [[], [0], [0, 1], [0, 1, 2], [0, 1, 2, 3], [0, 1, 2, 3, 4], [0, 1, 2, 3], [0, 1, 2, 3, 4, 5, 6], [0, 1, 2, 3, 4, 5, 6, 7], [0, 1, 2, 3, 4, 5, 6, 7, 8], [0, 1, 2, 3, 4, 5, 6, 7, 8, 9], [0, 1, 2, 3, 4, 5, 6, 7, 8, 9, 10], [0, 1, 2, 3, 4, 5, 6, 7, 8, 9, 10, 11], [0, 1, 2, 3, 4, 5, 6, 7, 8, 9, 10, 11, 12], [0, 1, 2, 3, 4, 5, 6, 7, 8, 9, 10, 11, 12, 13], [0, 1, 2, 3, 4, 5, 6, 7, 8, 9, 10, 11, 12], [0, 1, 2, 3, 4, 5, 6, 7, 8, 9, 10, 11, 12], [0, 1, 2, 3, 4, 5, 6, 7, 8, 9, 10, 11, 12, 16], [0, 1, 2, 3, 4, 5, 6, 7, 8, 9, 10, 11, 12, 15, 16, 17], [0, 1, 2, 3, 4, 5, 6, 7, 8, 9, 10, 11, 12, 15, 16, 17, 18], [0, 1, 2, 3, 4, 5, 6, 7, 8, 9, 10, 11, 12, 15, 16, 17, 18, 19], [0, 1, 2, 3, 4, 5, 6, 7, 8, 9, 10, 11, 12, 13, 14, 15, 16, 17, 18, 19, 20], [0, 1, 2, 3, 4, 5, 6, 7, 8, 9, 10, 11, 12, 13, 14, 15, 16, 17, 18, 19, 20, 21], [0, 1, 2, 3, 4, 5, 6, 7, 8, 9, 10, 11, 12, 13, 14, 15, 16, 17, 18, 19, 20, 21, 22], [0, 1, 2, 3, 4, 5, 6, 7, 8, 9, 10, 11, 12, 13, 14, 15, 16, 17, 18, 19, 20, 21, 22, 23], [0, 1, 2, 3, 4, 5, 6, 7, 8, 9, 10, 11, 12, 13, 14, 15, 16, 17, 18, 19, 20, 21, 22, 23, 24], [0, 1, 2, 3, 4, 5, 6, 7, 8, 9, 10, 11, 12, 13, 14, 15, 16, 17, 18, 19, 20, 21, 22, 23, 24, 25], [0, 1, 2, 3, 4, 5, 6, 7, 8, 9, 10, 11, 12, 13, 14, 15, 16, 17, 18, 19, 20, 21, 22, 23, 24], [0, 1, 2, 3, 4, 5, 6, 7, 8, 9, 10, 11, 12, 13, 14, 15, 16, 17, 18, 19, 20, 21, 22, 23, 24], [0, 1, 2, 3, 4, 5, 6, 7, 8, 9, 10, 11, 12, 13, 14, 15, 16, 17, 18, 19, 20, 21, 22, 23, 24, 28], [0, 1, 2, 3, 4, 5, 6, 7, 8, 9, 10, 11, 12, 13, 14, 15, 16, 17, 18, 19, 20, 21, 22, 23, 24, 27, 28, 29], [0, 1, 2, 3, 4, 5, 6, 7, 8, 9, 10, 11, 12, 13, 14, 15, 16, 17, 18, 19, 20, 21, 22, 23, 24, 27, 28, 29, 30], [0, 1, 2, 3, 4, 5, 6, 7, 8, 9, 10, 11, 12, 13, 14, 15, 16, 17, 18, 19, 20, 21, 22, 23, 24, 25, 26, 27, 28, 29, 30, 31], [0, 1, 2, 3, 4, 5, 6, 7, 8, 9, 10, 11, 12, 13, 14, 15, 16, 17, 18, 19, 20, 21, 22, 23, 24, 25, 26, 27, 28, 29, 30, 31, 32], [0, 1, 2, 3, 4, 5, 6, 7, 8, 9, 10, 11, 12, 13, 14, 15, 16, 17, 18, 19, 20, 21, 22, 23, 24, 25, 26, 27, 28, 29, 30, 31, 32, 33], [0, 1, 2, 3, 4, 5, 6, 7, 8, 9, 10, 11, 12, 13, 14, 15, 16, 17, 18, 19, 20, 21, 22, 23, 24, 25, 26, 27, 28, 29, 30, 31, 32, 33, 34], [0, 1, 2, 3, 4, 5, 6, 7, 8, 9, 10, 11, 12, 13, 14, 15, 16, 17, 18, 19, 20, 21, 22, 23, 24, 25, 26, 27, 28, 29, 30, 31, 32, 33, 34, 35], [0, 1, 2, 3, 4, 5, 6, 7, 8, 9, 10, 11, 12, 13, 14, 15, 16, 17, 18, 19, 20, 21, 22, 23, 24, 25, 26, 27, 28, 29, 30, 31, 32, 33, 34, 35, 36], [0, 1, 2, 3, 4, 5, 6, 7, 8, 9, 10, 11, 12, 13, 14, 15, 16, 17, 18, 19, 20, 21, 22, 23, 24, 25, 26, 27, 28, 29, 30, 31, 32, 33, 34, 35, 36, 37], [0, 1, 2, 3, 4, 5, 6, 7, 8, 9, 10, 11, 12, 13, 14, 15, 16, 17, 18, 19, 20, 21, 22, 23, 24, 25, 26, 27, 28, 29, 30, 31, 32, 33, 34, 35, 36, 37, 38], [0, 1, 2, 3, 4, 5, 6, 7, 8, 9, 10, 11, 12, 13, 14, 15, 16, 17, 18, 19, 20, 21, 22, 23, 24, 25, 26, 27, 28, 29, 30, 31, 32, 33, 34, 35, 36, 37, 38, 39], [0, 1, 2, 3, 4, 5, 6, 7, 8, 9, 10, 11, 12, 13, 14, 15, 16, 17, 18, 19, 20, 21, 22, 23, 24, 25, 26, 27, 28, 29, 30, 31, 32, 33, 34, 35, 36, 37, 38, 39, 40], [0, 1, 2, 3, 4, 5, 6, 7, 8, 9, 10, 11, 12, 13, 14, 15, 16, 17, 18, 19, 20, 21, 22, 23, 24, 25, 26, 27, 28, 29, 30, 31, 32, 33, 34, 35, 36, 37, 38, 39], [0, 1, 2, 3, 4, 5, 6, 7, 8, 9, 10, 11, 12, 13, 14, 15, 16, 17, 18, 19, 20, 21, 22, 23, 24, 25, 26, 27, 28, 29, 30, 31, 32, 33, 34, 35, 36, 37, 38, 39, 42], [0, 1, 2, 3, 4, 5, 6, 7, 8, 9, 10, 11, 12, 13, 14, 15, 16, 17, 18, 19, 20, 21, 22, 23, 24, 25, 26, 27, 28, 29, 30, 31, 32, 33, 34, 35, 36, 37, 38, 39], [0, 1, 2, 3, 4, 5, 6, 7, 8, 9, 10, 11, 12, 13, 14, 15, 16, 17, 18, 19, 20, 21, 22, 23, 24, 25, 26, 27, 28, 29, 30, 31, 32, 33, 34, 35, 36, 37, 38, 39, 44], [0, 1, 2, 3, 4, 5, 6, 7, 8, 9, 10, 11, 12, 13, 14, 15, 16, 17, 18, 19, 20, 21, 22, 23, 24, 25, 26, 27, 28, 29, 30, 31, 32, 33, 34, 35, 36, 37, 38, 39, 42, 43, 44, 45], [0, 1, 2, 3, 4, 5, 6, 7, 8, 9, 10, 11, 12, 13, 14, 15, 16, 17, 18, 19, 20, 21, 22, 23, 24, 25, 26, 27, 28, 29, 30, 31, 32, 33, 34, 35, 36, 37, 38, 39, 40, 41, 42, 43, 44, 45, 46], [0, 1, 2, 3, 4, 5, 6, 7, 8, 9, 10, 11, 12, 13, 14, 15, 16, 17, 18, 19, 20, 21, 22, 23, 24, 25, 26, 27, 28, 29, 30, 31, 32, 33, 34, 35, 36, 37, 38, 39, 40, 41, 42, 43, 44, 45, 46, 47]]) (by kernel_rfl) (by kernel_rfl) (fun Q => by kernel_rfl) (fun x w h1 h2 => ⟨(), (), (), (), (), (), (), (), (), (), (), (), (), (), (), (), (), (), (), EnvAll.of h1 ⟨rfl, rfl, rfl, rfl, rfl, rfl, rfl, rfl, rfl, rfl, trivial⟩, h2⟩) (fun Q => by kernel_rfl) ⟨?_, ?_, ?_, ?_, ?_, ?_, ?_, ?_, ?_, ?_, ?_, ?_, ?_, ?_, ?_, ?_, ?_, ?_, ?_, ?_, ?_, ?_, ?_, ?_, ?_, ?_, ?_, ?_, ?_, ?_, ?_, ?_, ?_, ?_, ?_, ?_, ?_, ?_, ?_, ?_, ?_, ?_, ?_, ?_, ?_, ?_, ?_, ?_, ?_, trivial⟩ ?_
            · rintro Fr _
              refine SO.v rfl (opv_fieldAddr Try.underlying63 rfl Try.sizeOf3 rfl rfl) ?_
              exact SO.nilZ fun a w h1 h2 h3 h4 h5 => PZ.of h1 h3 h5 (.cons () (.cons () (.nil ⟨EnvAll.of h2 ⟨rfl, rfl, trivial⟩, h4⟩)))
            · rintro Fr _ _
              refine SO.load1 rfl Try.isAgg3 rfl rfl ?_
              exact SO.nilZ fun a w h1 h2 h3 h4 h5 => PZ.of h1 h3 h5 (.cons () (.cons () (.cons () (.nil ⟨EnvAll.of h2 ⟨rfl, rfl, trivial⟩, h4⟩))))
            · rintro Fr _
              refine SO.v rfl (opv_lss rfl rfl) ?_
              exact SO.nilZ fun a w h1 h2 h3 h4 h5 => PZ.of h1 h3 h5 (.cons () (.cons () (.nil ⟨EnvAll.of h2 ⟨rfl, rfl, trivial⟩, h4⟩)))
            · rintro Fr _
              refine SO.v rfl (opv_move rfl) ?_
              exact SO.nilZ fun a w h1 h2 h3 h4 h5 => PZ.of h1 h3 h5 (.cons () (.cons () (.nil ⟨EnvAll.of h2 ⟨rfl, rfl, trivial⟩, h4⟩)))
            · rintro Fr _ _
              refine SO.takeT rfl rfl rfl b120 ?_
              refine SO.v rfl (opv_fieldAddr Try.underlying63 rfl Try.sizeOf3 rfl rfl) ?_
              exact SO.nilZ fun a w h1 h2 h3 h4 h5 => PZ.of h1 h3 h5 (.cons () (.cons () (.cons () (.nil ⟨EnvAll.of h2 ⟨rfl, rfl, rfl, trivial⟩, h4⟩))))
            · rintro Fr _ _ _
              refine SO.takeT rfl rfl rfl b120 ?_
              refine SO.load1 rfl Try.isAgg3 rfl rfl ?_
              exact SO.nilZ fun a w h1 h2 h3 h4 h5 => PZ.of h1 h3 h5 (.cons () (.cons () (.cons () (.cons () (.nil ⟨EnvAll.of h2 ⟨rfl, rfl, rfl, trivial⟩, h4⟩)))))
            · rintro Fr _ _
              refine SO.takeT rfl rfl rfl b120 ?_
              refine SO.v rfl (opv_move rfl) ?_
              exact SO.nilZ fun a w h1 h2 h3 h4 h5 => PZ.of h1 h3 h5 (.cons () (.cons () (.cons () (.nil ⟨EnvAll.of h2 ⟨rfl, rfl, rfl, trivial⟩, h4⟩))))
            · rintro Fr _ _ _
              refine SO.takeT rfl rfl rfl b120 ?_
              refine SO.v rfl (opv_geq rfl rfl) ?_
              exact SO.nilZ fun a w h1 h2 h3 h4 h5 => PZ.of h1 h3 h5 (.cons () (.cons () (.cons () (.cons () (.nil ⟨EnvAll.of h2 ⟨rfl, rfl, rfl, rfl, trivial⟩, h4⟩)))))
            · rintro Fr _ _
              refine SO.v rfl (opv_pick_f' b120 rfl rfl) ?_
              exact SO.nilZ fun a w h1 h2 h3 h4 h5 => PZ.of h1 h3 h5 (.cons () (.cons () (.cons () (.nil ⟨EnvAll.of h2 ⟨rfl, rfl, rfl, trivial⟩, h4⟩))))
            · rintro Fr _
              refine SO.v rfl (opv_move rfl) ?_
              exact SO.nilZ fun a w h1 h2 h3 h4 h5 => PZ.of h1 h3 h5 (.cons () (.cons () (.nil ⟨EnvAll.of h2 ⟨rfl, rfl, trivial⟩, h4⟩)))
            · rintro Fr _ _
              refine SO.takeT rfl rfl rfl b121 ?_
              refine SO.v rfl (opv_move rfl) ?_
              exact SO.nilZ fun a w h1 h2 h3 h4 h5 => PZ.of h1 h3 h5 (.cons () (.cons () (.cons () (.nil ⟨EnvAll.of h2 ⟨rfl, rfl, rfl, trivial⟩, h4⟩))))
            · rintro Fr _ _
              refine SO.takeT rfl rfl rfl b121 ?_
              refine SO.v rfl (opv_gtr rfl rfl) ?_
              exact SO.nilZ fun a w h1 h2 h3 h4 h5 => PZ.of h1 h3 h5 (.cons () (.cons () (.cons () (.nil ⟨EnvAll.of h2 ⟨rfl, rfl, rfl, trivial⟩, h4⟩))))
            · rintro Fr _ _
              refine SO.takeT rfl rfl rfl b121 ?_
              refine SO.v rfl (opv_move rfl) ?_
              exact SO.nilZ fun a w h1 h2 h3 h4 h5 => PZ.of h1 h3 h5 (.cons () (.cons () (.cons () (.nil ⟨EnvAll.of h2 ⟨rfl, rfl, rfl, trivial⟩, h4⟩))))
            · rintro Fr _ _
              refine SO.takeT rfl rfl rfl b122 ?_
              refine SO.v rfl (opv_fieldAddr Try.underlying63 rfl Try.sizeOf3 rfl rfl) ?_
              exact SO.nilZ fun a w h1 h2 h3 h4 h5 => PZ.of h1 h3 h5 (.cons () (.cons () (.cons () (.nil ⟨EnvAll.of h2 ⟨rfl, rfl, rfl, trivial⟩, h4⟩))))
            · rintro Fr _ _ _
              refine SO.takeT rfl rfl rfl b122 ?_
              refine SO.load1 rfl Try.isAgg3 rfl rfl ?_
              exact SO.nilZ fun a w h1 h2 h3 h4 h5 => PZ.of h1 h3 h5 (.cons () (.cons () (.cons () (.cons () (.nil ⟨EnvAll.of h2 ⟨rfl, rfl, rfl, trivial⟩, h4⟩)))))
            · rintro Fr _ _
              refine SO.takeT rfl rfl rfl b122 ?_
              refine SO.v rfl (opv_move rfl) ?_
              exact SO.nilZ fun a w h1 h2 h3 h4 h5 => PZ.of h1 h3 h5 (.cons () (.cons () (.cons () (.nil ⟨EnvAll.of h2 ⟨rfl, rfl, rfl, trivial⟩, h4⟩))))
            · rintro Fr _ _
              refine SO.takeT rfl rfl rfl b122 ?_
              refine SO.v rfl (opv_move rfl) ?_
              exact SO.nilZ fun a w h1 h2 h3 h4 h5 => PZ.of h1 h3 h5 (.cons () (.cons () (.cons () (.nil ⟨EnvAll.of h2 ⟨rfl, rfl, rfl, trivial⟩, h4⟩))))
            · rintro Fr _ _
              refine SO.takeT rfl rfl rfl b122 ?_
              refine SO.v rfl (opv_sub rfl rfl) ?_
              exact SO.nilZ fun a w h1 h2 h3 h4 h5 => PZ.of h1 h3 h5 (.cons () (.cons () (.cons () (.nil ⟨EnvAll.of h2 ⟨rfl, rfl, rfl, trivial⟩, h4⟩))))
            · rintro Fr _ _ _ _
              refine SO.takeT rfl rfl rfl b122 ?_
              refine SO.v rfl (opv_idx Try.underlying45 Try.sizeOf63 hr101 rfl rfl hx124) ?_
              exact SO.nilZ fun a w h1 h2 h3 h4 h5 => PZ.of2 (Y := fun Q => ∃ (_ _ _ _ _ : Unit), Q [(164, .bool (decide (0 < x21_3))), (167, v100), (169, .int .i64 (w64 (x21_3 - 1))), (170, idxp v100 ((w64 (x21_3 - 1)).toNat * ek_tx_Entry.sz))] [Own 63 ek_tx_Entry v100 t97]) (fun Q => by kernel_rfl) h1 h3 h5 ⟨(), (), (), (), (), EnvAll.of h2 ⟨rfl, rfl, rfl, rfl, trivial⟩, h4⟩
            · rintro Fr _ _ _
              refine SO.takeT rfl rfl rfl b122 ?_
              refine SO.v rfl (opv_fieldIdx Try.underlying63 rfl Try.sizeOf3 hr101 hx124 rfl rfl) ?_
              exact SO.nilZ fun a w h1 h2 h3 h4 h5 => PZ.of h1 h3 h5 (.cons () (.cons () (.cons () (.cons () (.nil ⟨EnvAll.of h2 ⟨rfl, rfl, rfl, trivial⟩, h4⟩)))))
            · rintro Fr _ _ _
              refine SO.takeT rfl rfl rfl b122 ?_
              refine SO.loadI1 (j := 0) rfl Try.isAgg3 (Rd.head hr101) hx124 rfl rfl rfl rfl ?_
              exact SO.nilZ fun a w h1 h2 h3 h4 h5 => PZ.of h1 h3 h5 (.cons () (.cons () (.cons () (.cons () (.nil ⟨EnvAll.of h2 ⟨rfl, rfl, rfl, trivial⟩, h4⟩)))))
            · rintro Fr _ _ _
              refine SO.takeT rfl rfl rfl b122 ?_
              refine SO.v rfl (opv_leq rfl rfl) ?_
              exact SO.nilZ fun a w h1 h2 h3 h4 h5 => PZ.of h1 h3 h5 (.cons () (.cons () (.cons () (.cons () (.nil ⟨EnvAll.of h2 ⟨rfl, rfl, rfl, rfl, trivial⟩, h4⟩)))))
            · rintro Fr _ _ _
              refine SO.takeT rfl rfl rfl b121 ?_
              refine SO.v rfl (opv_pick_t' b122 rfl rfl) ?_
              exact SO.nilZ fun a w h1 h2 h3 h4 h5 => PZ.of h1 h3 h5 (.cons () (.cons () (.cons () (.cons () (.nil ⟨EnvAll.of h2 ⟨rfl, rfl, rfl, rfl, trivial⟩, h4⟩)))))
            · rintro Fr _ _
              refine SO.v rfl (opv_pick_f' b121 rfl rfl) ?_
              exact SO.nilZ fun a w h1 h2 h3 h4 h5 => PZ.of h1 h3 h5 (.cons () (.cons () (.cons () (.nil ⟨EnvAll.of h2 ⟨rfl, rfl, rfl, trivial⟩, h4⟩))))
            · rintro Fr _
              refine SO.v rfl (opv_move rfl) ?_
              exact SO.nilZ fun a w h1 h2 h3 h4 h5 => PZ.of h1 h3 h5 (.cons () (.cons () (.nil ⟨EnvAll.of h2 ⟨rfl, rfl, trivial⟩, h4⟩)))
            · rintro Fr _ _
              refine SO.takeT rfl rfl rfl b125 ?_
              refine SO.v rfl (opv_fieldAddr Try.underlying63 rfl Try.sizeOf35 rfl rfl) ?_
              exact SO.nilZ fun a w h1 h2 h3 h4 h5 => PZ.of h1 h3 h5 (.cons () (.cons () (.cons () (.nil ⟨EnvAll.of h2 ⟨rfl, rfl, rfl, trivial⟩, h4⟩))))
            · rintro Fr _ _ _
              refine SO.takeT rfl rfl rfl b125 ?_
              refine SO.load1 rfl Try.isAgg35 rfl rfl ?_
              exact SO.nilZ fun a w h1 h2 h3 h4 h5 => PZ.of h1 h3 h5 (.cons () (.cons () (.cons () (.cons () (.nil ⟨EnvAll.of h2 ⟨rfl, rfl, rfl, trivial⟩, h4⟩)))))
            · rintro Fr _ _
              refine SO.takeT rfl rfl rfl b125 ?_
              refine SO.v rfl (opv_move rfl) ?_
              exact SO.nilZ fun a w h1 h2 h3 h4 h5 => PZ.of h1 h3 h5 (.cons () (.cons () (.cons () (.nil ⟨EnvAll.of h2 ⟨rfl, rfl, rfl, trivial⟩, h4⟩))))
            · rintro Fr _ _
              refine SO.takeT rfl rfl rfl b125 ?_
              refine SO.v rfl (opv_fieldAddr Try.underlying63 rfl Try.sizeOf3 rfl rfl) ?_
              exact SO.nilZ fun a w h1 h2 h3 h4 h5 => PZ.of h1 h3 h5 (.cons () (.cons () (.cons () (.nil ⟨EnvAll.of h2 ⟨rfl, rfl, rfl, trivial⟩, h4⟩))))
            · rintro Fr _ _ _
              refine SO.takeT rfl rfl rfl b125 ?_
              refine SO.load1 rfl Try.isAgg3 rfl rfl ?_
              exact SO.nilZ fun a w h1 h2 h3 h4 h5 => PZ.of h1 h3 h5 (.cons () (.cons () (.cons () (.cons () (.nil ⟨EnvAll.of h2 ⟨rfl, rfl, rfl, trivial⟩, h4⟩)))))
            · rintro Fr _ _ _ _
              refine SO.takeT rfl rfl rfl b125 ?_
              refine SO.v rfl (opv_idx Try.underlying48 Try.sizeOf35 hF0 rfl rfl hx127) ?_
              exact SO.nilZ fun a w h1 h2 h3 h4 h5 => PZ.of2 (Y := fun Q => ∃ (_ _ _ _ _ : Unit), Q [(176, .bool (decide (x117.Cell ≤ x123.Cell))), (179, v0), (181, .int .i64 x117.Cell), (182, idxp v0 (x117.Cell.toNat * (ekI .u64).sz))] [F]) (fun Q => by kernel_rfl) h1 h3 h5 ⟨(), (), (), (), (), EnvAll.of h2 ⟨rfl, rfl, rfl, rfl, trivial⟩, h4⟩
            · rintro Fr _ _ _
              refine SO.takeT rfl rfl rfl b125 ?_
              refine SO.loadI1 (j := 0) rfl Try.isAgg35 (Rd.head hF0) hx127 rfl rfl rfl rfl ?_
              exact SO.nilZ fun a w h1 h2 h3 h4 h5 => PZ.of h1 h3 h5 (.cons () (.cons () (.cons () (.cons () (.nil ⟨EnvAll.of h2 ⟨rfl, rfl, rfl, trivial⟩, h4⟩)))))
            · rintro Fr _ _ _
              refine SO.takeT rfl rfl rfl b125 ?_
              refine SO.v rfl (opv_neq rfl rfl) ?_
              exact SO.nilZ fun a w h1 h2 h3 h4 h5 => PZ.of h1 h3 h5 (.cons () (.cons () (.cons () (.cons () (.nil ⟨EnvAll.of h2 ⟨rfl, rfl, rfl, rfl, trivial⟩, h4⟩)))))
            · rintro Fr _ _
              refine SO.v rfl (opv_pick_f' b125 rfl rfl) ?_
              exact SO.nilZ fun a w h1 h2 h3 h4 h5 => PZ.of h1 h3 h5 (.cons () (.cons () (.cons () (.nil ⟨EnvAll.of h2 ⟨rfl, rfl, rfl, trivial⟩, h4⟩))))
            · rintro Fr _
              refine SO.v rfl (opv_move rfl) ?_
              exact SO.nilZ fun a w h1 h2 h3 h4 h5 => PZ.of h1 h3 h5 (.cons () (.cons () (.nil ⟨EnvAll.of h2 ⟨rfl, rfl, trivial⟩, h4⟩)))
            · rintro Fr _
              refine SO.passF rfl rfl rfl b128 rfl rfl ?_
              exact SO.nilZ fun a w h1 h2 h3 h4 h5 => PZ.of h1 h3 h5 (.cons () (.cons () (.nil ⟨EnvAll.of h2 ⟨rfl, rfl, trivial⟩, h4⟩)))
            · rintro Fr _
              refine SO.passF rfl rfl rfl b128 rfl rfl ?_
              exact SO.nilZ fun a w h1 h2 h3 h4 h5 => PZ.of h1 h3 h5 (.cons () (.cons () (.nil ⟨EnvAll.of h2 ⟨rfl, rfl, trivial⟩, h4⟩)))
            · rintro Fr _
              refine SO.passF rfl rfl rfl b128 rfl rfl ?_
              exact SO.nilZ fun a w h1 h2 h3 h4 h5 => PZ.of h1 h3 h5 (.cons () (.cons () (.nil ⟨EnvAll.of h2 ⟨rfl, rfl, trivial⟩, h4⟩)))
            · rintro Fr _ _
              refine SO.v rfl (opv_pick_t' b128 rfl rfl) ?_
              exact SO.nilZ fun a w h1 h2 h3 h4 h5 => PZ.of h1 h3 h5 (.cons () (.cons () (.cons () (.nil ⟨EnvAll.of h2 ⟨rfl, rfl, rfl, trivial⟩, h4⟩))))
            · rintro Fr _
              refine SO.v rfl (opv_move rfl) ?_
              exact SO.nilZ fun a w h1 h2 h3 h4 h5 => PZ.of h1 h3 h5 (.cons () (.cons () (.nil ⟨EnvAll.of h2 ⟨rfl, rfl, trivial⟩, h4⟩)))
            · rintro Fr _
              refine SO.passF rfl rfl rfl rfl rfl rfl ?_
              exact SO.nilZ fun a w h1 h2 h3 h4 h5 => PZ.of h1 h3 h5 (.cons () (.cons () (.nil ⟨EnvAll.of h2 ⟨rfl, rfl, trivial⟩, h4⟩)))
            · rintro Fr _
              refine SO.passF rfl rfl rfl rfl rfl rfl ?_
              exact SO.nilZ fun a w h1 h2 h3 h4 h5 => PZ.of h1 h3 h5 (.cons () (.cons () (.nil ⟨EnvAll.of h2 ⟨rfl, rfl, trivial⟩, h4⟩)))
            · rintro Fr _
              refine SO.passF rfl rfl rfl rfl rfl rfl ?_
              exact SO.nilZ fun a w h1 h2 h3 h4 h5 => PZ.of h1 h3 h5 (.cons () (.cons () (.nil ⟨EnvAll.of h2 ⟨rfl, rfl, trivial⟩, h4⟩)))
            · rintro Fr _
              refine SO.passF rfl rfl rfl rfl rfl rfl ?_
              exact SO.nilZ fun a w h1 h2 h3 h4 h5 => PZ.of h1 h3 h5 (.cons () (.cons () (.nil ⟨EnvAll.of h2 ⟨rfl, rfl, trivial⟩, h4⟩)))
            · rintro Fr _
              refine SO.passF rfl rfl rfl rfl rfl rfl ?_
              exact SO.nilZ fun a w h1 h2 h3 h4 h5 => PZ.of h1 h3 h5 (.cons () (.cons () (.nil ⟨EnvAll.of h2 ⟨rfl, rfl, trivial⟩, h4⟩)))
            · rintro Fr _
              refine SO.passF rfl rfl rfl rfl rfl rfl ?_
              exact SO.nilZ fun a w h1 h2 h3 h4 h5 => PZ.of h1 h3 h5 (.cons () (.cons () (.nil ⟨EnvAll.of h2 ⟨rfl, rfl, trivial⟩, h4⟩)))
            · rintro Fr _
              refine SO.passF rfl rfl rfl rfl rfl rfl ?_
              exact SO.nilZ fun a w h1 h2 h3 h4 h5 => PZ.of h1 h3 h5 (.cons () (.cons () (.nil ⟨EnvAll.of h2 ⟨rfl, rfl, trivial⟩, h4⟩)))
            · rintro Fr _
              refine SO.passF rfl rfl rfl rfl rfl rfl ?_
              exact SO.nilZ fun a w h1 h2 h3 h4 h5 => PZ.of h1 h3 h5 (.cons () (.cons () (.nil ⟨EnvAll.of h2 ⟨rfl, rfl, trivial⟩, h4⟩)))
            · rintro Fr _ _
              refine SO.v rfl (opv_pick_tt rfl rfl) ?_
              exact SO.nilZ fun a w h1 h2 h3 h4 h5 => PZ.of h1 h3 h5 (.cons () (.cons () (.cons () (.nil ⟨EnvAll.of h2 ⟨rfl, rfl, rfl, trivial⟩, h4⟩))))
            rintro _ _ _ _ _ _ _ _ _ _ _ _ _ _ _ _ _ _ _ _
            refine S.to (ρ' := [(21, .int .i64 x21_3), (20, v113), (4, .bool false), (5, .bool t2), (11, v30), (18, v89), (0, v0), (6, .int .i64 (a0.length : Int)), (19, v100), (22, bp b119 0), (200, .bool true)]) ⟨rfl, rfl, rfl, rfl, rfl, rfl, rfl, rfl, rfl, rfl, rfl, trivial⟩ ?_
            cases h
            refine S.b12 ?_
            refine S.b12 ?_
            refine S.b12 ?_
            refine S.b12 ?_
            refine S.b12 ?_
            refine S.b12 ?_
            refine S.b12 ?_
            refine S.b12 ?_
            refine S.b12 ?_
            refine S.b12 ?_
            refine S.b12 ?_
            refine S.b12 ?_
            refine S.b12 ?_
            refine S.to ?_ (hk4 () trivial)
            exact ⟨rfl, rfl, rfl, rfl, rfl, rfl, rfl, rfl, rfl, rfl, rfl, trivial⟩
          replace h := cond_f b128 h
          rcases bool_or (x117.Version != 0) with b129 | b129
          · replace h := cond_t b129 h
            refine S.draw2 (Y := fun Q => ∃ (_ _ _ _ _ _ _ _ _ _ _ _ _ _ _ _ _ _ _ : Unit), Q [(22, bp b119 0), (6, .int .i64 (a0.length : Int)), (21, .int .i64 x21_3), (19, v100), (0, v0), (20, v113), (4, .bool false), (5, .bool t2), (11, v30), (18, v89)] [Box b119 [.int .i64 x117.Cell, .int .u32 x117.Version, .int .u64 x117.Old, .int .u64 x117.New, .bool x117.Write], Own 35 (ekI .u64) v113 qv113_3, Own 63 ek_tx_Entry v100 t97, Box b15 [.int .i64 p98.cells, u102_l, u102_out, .int .i64 p98.lack, .bool p98.fine], MapO (aggE ek_api_Cell) u102_l p98.l, MapO (Value.int .u64) u102_out p98.out, Own 35 (ekI .u64) v89 s93, Own 4 ekB v30 qv30_e2, Box b34 [.int .u64 y34_0_e2], Own 38 ek_api_Cell vy10_0_e1 y10_0_e1, Box b10 [vy10_0_e1, .int .u32 y10_1_e1], Box b1 [v1], F]) (Z := fun Q => ∀ (_ _ _ _ _ _ _ _ _ _ _ _ _ _ _ _ _ _ _ _ : Unit), Q [(21, .int .i64 x21_3), (20, v113), (4, .bool false), (5, .bool t2), (11, v30), (18, v89), (0, v0), (6, .int .i64 (a0.length : Int)), (19, v100), (22, bp b119 0), (200, .bool true)] [Box b119 [.int .i64 x117.Cell, .int .u32 x117.Version, .int .u64 x117.Old, .int .u64 x117.New, .bool x117.Write], Own 35 (ekI .u64) v113 qv113_3, Own 63 ek_tx_Entry v100 t97, Box b15 [.int .i64 p98.cells, u102_l, u102_out, .int .i64 p98.lack, .bool p98.fine], MapO (aggE ek_api_Cell) u102_l p98.l, MapO (Value.int .u64) u102_out p98.out, Own 35 (ekI .u64) v89 s93, Own 4 ekB v30 qv30_e2, Box b34 [.int .u64 y34_0_e2], Own 38 ek_api_Cell vy10_0_e1 y10_0_e1, Box b10 [vy10_0_e1, .int .u32 y10_1_e1], Box b1 [v1], F]) (T := [tS 22 (bp b119 0), tS 6 (.int .i64 (a0.length : Int)), tS 21 (.int .i64 x21_3), tS 19 (v100), tS 0 (v0), tE [(20, v113), (4, .bool false), (5, .bool t2), (11, v30), (18, v89)], tR (Box b119 [.int .i64 x117.Cell, .int .u32 x117.Version, .int .u64 x117.Old, .int .u64 x117.New, .bool x117.Write]), tR (Own 35 (ekI .u64) v113 qv113_3), tR (Own 63 ek_tx_Entry v100 t97), tR (Box b15 [.int .i64 p98.cells, u102_l, u102_out, .int .i64 p98.lack, .bool p98.fine]), tR (MapO (aggE ek_api_Cell) u102_l p98.l), tR (MapO (Value.int .u64) u102_out p98.out), tR (Own 35 (ekI .u64) v89 s93), tR (Own 4 ekB v30 qv30_e2), tR (Box b34 [.int .u64 y34_0_e2]), tR (Own 38 ek_api_Cell vy10_0_e1 y10_0_e1), tR (Box b10 [vy10_0_e1, .int .u32 y10_1_e1]), tR (Box b1 [v1]), tR (F), tS 152 (bp b119 0), tS 153 (.int .i64 x117.Cell), tS 154 (.bool (decide (x117.Cell < 0))), tS 155 (.bool (decide (x117.Cell < 0))), tS 156 (bp b119 0), tS 157 (.int .i64 x117.Cell), tS 158 (.int .i64 (a0.length : Int)), tS 159 (.bool (decide ((a0.length : Int) ≤ x117.Cell))), tS 160 (.bool (decide ((a0.length : Int) ≤ x117.Cell))), tS 161 (.bool (decide ((a0.length : Int) ≤ x117.Cell))), tS 162 (.int .i64 x21_3), tS 163 (.bool (decide (0 < x21_3))), tS 164 (.bool (decide (0 < x21_3))), tS 165 (bp b119 0), tS 166 (.int .i64 x117.Cell), tS 167 (v100), tS 168 (.int .i64 x21_3), tS 169 (.int .i64 (w64 (x21_3 - 1))), tS 170 (idxp v100 ((w64 (x21_3 - 1)).toNat * ek_tx_Entry.sz)), tS 171 (idxp v100 ((w64 (x21_3 - 1)).toNat * ek_tx_Entry.sz)), tS 172 (.int .i64 x123.Cell), tS 173 (.bool (decide (x117.Cell ≤ x123.Cell))), tS 174 (.bool (decide (x117.Cell ≤ x123.Cell))), tS 175 (.bool (decide (x117.Cell ≤ x123.Cell))), tS 176 (.bool (decide (x117.Cell ≤ x123.Cell))), tS 177 (bp b119 2), tS 178 (.int .u64 x117.Old), tS 179 (v0), tS 180 (bp b119 0), tS 181 (.int .i64 x117.Cell), tS 182 (idxp v0 (x117.Cell.toNat * (ekI .u64).sz)), tS 183 (.int .u64 x126), tS 184 (.bool (x117.Old != x126)), tS 185 (.bool (x117.Old != x126)), tS 186 (.bool (x117.Old != x126)), tS 187 (bp b119 1), tS 188 (.int .u32 x117.Version), tS 189 (.bool (x117.Version != 0)), tS 190 (.bool (x117.Version != 0)), tS 191 (.bool (x117.Version != 0)), tS 192 (undef), tS 193 (undef), tS 194 (undef), tS 195 (undef), tS 196 (undef), tS 197 (undef), tS 198 (undef), tS 199 (undef), tS 200 (.bool true)]) (D := [⟨[0], [], [19]⟩, ⟨[19, 6], [], [20]⟩, ⟨[20], [], [21]⟩, ⟨[21], [], [22]⟩, ⟨[0, 22], [], [23]⟩, ⟨[22, 23, 6], [], [24]⟩, ⟨[1, 22], [], [25]⟩, ⟨[22, 24, 25], [], [26]⟩, ⟨[22, 26], [], [27]⟩, ⟨[27], [], [28]⟩, ⟨[2, 28], [], [29]⟩, ⟨[28, 29], [], [30]⟩, ⟨[28, 30], [], [31]⟩, ⟨[0, 31], [], [32]⟩, ⟨[31, 32, 6], [], [33]⟩, ⟨[3, 31], [], [34]⟩, ⟨[2, 31], [], [35]⟩, ⟨[31, 35], [], [36]⟩, ⟨[31, 34, 36, 8], [], [37]⟩, ⟨[31, 37, 8], [], [38]⟩, ⟨[31, 38, 8], [], [39]⟩, ⟨[31, 33, 39], [], [40]⟩, ⟨[28, 31, 40], [], [41]⟩, ⟨[28, 41], [], [42]⟩, ⟨[42], [], [43]⟩, ⟨[0, 43], [], [44]⟩, ⟨[43, 44, 6], [], [45]⟩, ⟨[4, 43], [], [46]⟩, ⟨[0, 43], [], [47]⟩, ⟨[43, 47, 6], [], [48]⟩, ⟨[43, 46, 48, 18], [], [49]⟩, ⟨[43, 49, 18], [], [50]⟩, ⟨[43, 45, 50], [], [51]⟩, ⟨[43, 51], [], [52]⟩, ⟨[52], [], [53]⟩, ⟨[0, 53], [], [54]⟩, ⟨[53, 54, 6], [], [55]⟩, ⟨[53, 55], [], [56]⟩, ⟨[53, 56], [], [57]⟩, ⟨[57], [], [58]⟩, ⟨[58], [], [59]⟩, ⟨[58], [], [60]⟩, ⟨[58], [], [61]⟩, ⟨[58], [], [62]⟩, ⟨[58], [], [63]⟩, ⟨[58], [], [64]⟩, ⟨[58], [], [65]⟩, ⟨[58], [], [66]⟩, ⟨[58, 66], [], [67]⟩]) (ini := [0, 1, 2, 3, 4, 5, 6, 7, 8, 9, 10, 11, 12, 13, 14, 15, 16, 17, 18]) (fin := [2, 5, 4, 1, 3, 0, 67, 6, 7, 8, 9, 10, 11, 12, 13, 14, 15, 16, 17, 18]) (bf := [[], [0], [0, 1], [0, 1, 2], [0, 1, 2, 3], [0, 1, 2, 3, 4], [0, 1, 2, 3], [0, 1, 2, 3, 4, 5, 6], [0, 1, 2, 3, 4, 5, 6, 7], [0, 1, 2, 3, 4, 5, 6, 7, 8], [0, 1, 2, 3, 4, 5, 6, 7, 8, 9], [0, 1, 2, 3, 4, 5, 6, 7, 8, 9, 10], [0, 1, 2, 3, 4, 5, 6, 7, 8, 9, 10, 11], [0, 1, 2, 3, 4, 5, 6, 7, 8, 9, 10, 11, 12], [0, 1, 2, 3, 4, 5, 6, 7, 8, 9, 10, 11, 12, 13], [0, 1, 2, 3, 4, 5, 6, 7, 8, 9, 10, 11, 12], [0, 1, 2, 3, 4, 5, 6, 7, 8, 9, 10, 11, 12], [0, 1, 2, 3, 4, 5, 6, 7, 8, 9, 10, 11, 12, 16], [0, 1, 2, 3, 4, 5, 6, 7, 8, 9, 10, 11, 12, 15, 16, 17], [0, 1, 2, 3, 4, 5, 6, 7, 8, 9, 10, 11, 12, 15, 16, 17, 18], [0, 1, 2, 3, 4, 5, 6, 7, 8, 9, 10, 11, 12, 15, 16, 17, 18, 19], [0, 1, 2, 3, 4, 5, 6, 7, 8, 9, 10, 11, 12, 13, 14, 15, 16, 17, 18, 19, 20], [0, 1, 2, 3, 4, 5, 6, 7, 8, 9, 10, 11, 12, 13, 14, 15, 16, 17, 18, 19, 20, 21], [0, 1, 2, 3, 4, 5, 6, 7, 8, 9, 10, 11, 12, 13, 14, 15, 16, 17, 18, 19, 20, 21, 22], [0, 1, 2, 3, 4, 5, 6, 7, 8, 9, 10, 11, 12, 13, 14, 15, 16, 17, 18, 19, 20, 21, 22, 23], [0, 1, 2, 3, 4, 5, 6, 7, 8, 9, 10, 11, 12, 13, 14, 15, 16, 17, 18, 19, 20, 21, 22, 23, 24], [0, 1, 2, 3, 4, 5, 6, 7, 8, 9, 10, 11, 12, 13, 14, 15, 16, 17, 18, 19, 20, 21, 22, 23, 24, 25], [0, 1, 2, 3, 4, 5, 6, 7, 8, 9, 10, 11, 12, 13, 14, 15, 16, 17, 18, 19, 20, 21, 22, 23, 24], [0, 1, 2, 3, 4, 5, 6, 7, 8, 9, 10, 11, 12, 13, 14, 15, 16, 17, 18, 19, 20, 21, 22, 23, 24], [0, 1, 2, 3, 4, 5, 6, 7, 8, 9, 10, 11, 12, 13, 14, 15, 16, 17, 18, 19, 20, 21, 22, 23, 24, 28], [0, 1, 2, 3, 4, 5, 6, 7, 8, 9, 10, 11, 12, 13, 14, 15, 16, 17, 18, 19, 20, 21, 22, 23, 24, 27, 28, 29], [0, 1, 2, 3, 4, 5, 6, 7, 8, 9, 10, 11, 12, 13, 14, 15, 16, 17, 18, 19, 20, 21, 22, 23, 24, 27, 28, 29, 30], [0, 1, 2, 3, 4, 5, 6, 7, 8, 9, 10, 11, 12, 13, 14, 15, 16, 17, 18, 19, 20, 21, 22, 23, 24, 25, 26, 27, 28, 29, 30, 31], [0, 1, 2, 3, 4, 5, 6, 7, 8, 9, 10, 11, 12, 13, 14, 15, 16, 17, 18, 19, 20, 21, 22, 23, 24, 25, 26, 27, 28, 29, 30, 31, 32], [0, 1, 2, 3, 4, 5, 6, 7, 8, 9, 10, 11, 12, 13, 14, 15, 16, 17, 18, 19, 20, 21, 22, 23, 24, 25, 26, 27, 28, 29, 30, 31, 32, 33], [0, 1, 2, 3, 4, 5, 6, 7, 8, 9, 10, 11, 12, 13, 14, 15, 16, 17, 18, 19, 20, 21, 22, 23, 24, 25, 26, 27, 28, 29, 30, 31, 32, 33, 34], [0, 1, 2, 3, 4, 5, 6, 7, 8, 9, 10, 11, 12, 13, 14, 15, 16, 17, 18, 19, 20, 21, 22, 23, 24, 25, 26, 27, 28, 29, 30, 31, 32, 33, 34, 35], [0, 1, 2, 3, 4, 5, 6, 7, 8, 9, 10, 11, 12, 13, 14, 15, 16, 17, 18, 19, 20, 21, 22, 23, 24, 25, 26, 27, 28, 29, 30, 31, 32, 33, 34, 35, 36], [0, 1, 2, 3, 4, 5, 6, 7, 8, 9, 10, 11, 12, 13, 14, 15, 16, 17, 18, 19, 20, 21, 22, 23, 24, 25, 26, 27, 28, 29, 30, 31, 32, 33, 34, 35, 36, 37], [0, 1, 2, 3, 4, 5, 6, 7, 8, 9, 10, 11, 12, 13, 14, 15, 16, 17, 18, 19, 20, 21, 22, 23, 24, 25, 26, 27, 28, 29, 30, 31, 32, 33, 34, 35, 36, 37, 38], [0, 1, 2, 3, 4, 5, 6, 7, 8, 9, 10, 11, 12, 13, 14, 15, 16, 17, 18, 19, 20, 21, 22, 23, 24, 25, 26, 27, 28, 29, 30, 31, 32, 33, 34, 35, 36, 37, 38, 39], [0, 1, 2, 3, 4, 5, 6, 7, 8, 9, 10, 11, 12, 13, 14, 15, 16, 17, 18, 19, 20, 21, 22, 23, 24, 25, 26, 27, 28, 29, 30, 31, 32, 33, 34, 35, 36, 37, 38, 39, 40], [0, 1, 2, 3, 4, 5, 6, 7, 8, 9, 10, 11, 12, 13, 14, 15, 16, 17, 18, 19, 20, 21, 22, 23, 24, 25, 26, 27, 28, 29, 30, 31, 32, 33, 34, 35, 36, 37, 38, 39], [0, 1, 2, 3, 4, 5, 6, 7, 8, 9, 10, 11, 12, 13, 14, 15, 16, 17, 18, 19, 20, 21, 22, 23, 24, 25, 26, 27, 28, 29, 30, 31, 32, 33, 34, 35, 36, 37, 38, 39, 42], [0, 1, 2, 3, 4, 5, 6, 7, 8, 9, 10, 11, 12, 13, 14, 15, 16, 17, 18, 19, 20, 21, 22, 23, 24, 25, 26, 27, 28, 29, 30, 31, 32, 33, 34, 35, 36, 37, 38, 39], [0, 1, 2, 3, 4, 5, 6, 7, 8, 9, 10, 11, 12, 13, 14, 15, 16, 17, 18, 19, 20, 21, 22, 23, 24, 25, 26, 27, 28, 29, 30, 31, 32, 33, 34, 35, 36, 37, 38, 39, 44], [0, 1, 2, 3, 4, 5, 6, 7, 8, 9, 10, 11, 12, 13, 14, 15, 16, 17, 18, 19, 20, 21, 22, 23, 24, 25, 26, 27, 28, 29, 30, 31, 32, 33, 34, 35, 36, 37, 38, 39, 42, 43, 44, 45], [0, 1, 2, 3, 4, 5, 6, 7, 8, 9, 10, 11, 12, 13, 14, 15, 16, 17, 18, 19, 20, 21, 22, 23, 24, 25, 26, 27, 28, 29, 30, 31, 32, 33, 34, 35, 36, 37, 38, 39, 40, 41, 42, 43, 44, 45, 46], [0, 1, 2, 3, 4, 5, 6, 7, 8, 9, 10, 11, 12, 13, 14, 15, 16, 17, 18, 19, 20, 21, 22, 23, 24, 25, 26, 27, 28, 29, 30, 31, 32, 33, 34, 35, 36, 37, 38, 39, 40, 41, 42, 43, 44, 45, 46, 47]]) (by kernel_rfl) (by kernel_rfl) (fun Q => by kernel_rfl) (fun x w h1 h2 => ⟨(), (), (), (), (), (), (), (), (), (), (), (), (), (), (), (), (), (), (), EnvAll.of h1 ⟨rfl, rfl, rfl, rfl, rfl, rfl, rfl, rfl, rfl, rfl, trivial⟩, h2⟩) (fun Q => by kernel_rfl) ⟨?_, ?_, ?_, ?_, ?_, ?_, ?_, ?_, ?_, ?_, ?_, ?_, ?_, ?_, ?_, ?_, ?_, ?_, ?_, ?_, ?_, ?_, ?_, ?_, ?_, ?_, ?_, ?_, ?_, ?_, ?_, ?_, ?_, ?_, ?_, ?_, ?_, ?_, ?_, ?_, ?_, ?_, ?_, ?_, ?_, ?_, ?_, ?_, ?_, trivial⟩ ?_
            · rintro Fr _
              refine SO.v rfl (opv_fieldAddr Try.underlying63 rfl Try.sizeOf3 rfl rfl) ?_
              exact SO.nilZ fun a w h1 h2 h3 h4 h5 => PZ.of h1 h3 h5 (.cons () (.cons () (.nil ⟨EnvAll.of h2 ⟨rfl, rfl, trivial⟩, h4⟩)))
            · rintro Fr _ _
              refine SO.load1 rfl Try.isAgg3 rfl rfl ?_
              exact SO.nilZ fun a w h1 h2 h3 h4 h5 => PZ.of h1 h3 h5 (.cons () (.cons () (.cons () (.nil ⟨EnvAll.of h2 ⟨rfl, rfl, trivial⟩, h4⟩))))
            · rintro Fr _
              refine SO.v rfl (opv_lss rfl rfl) ?_
              exact SO.nilZ fun a w h1 h2 h3 h4 h5 => PZ.of h1 h3 h5 (.cons () (.cons () (.nil ⟨EnvAll.of h2 ⟨rfl, rfl, trivial⟩, h4⟩)))
            · rintro Fr _
              refine SO.v rfl (opv_move rfl) ?_
              exact SO.nilZ fun a w h1 h2 h3 h4 h5 => PZ.of h1 h3 h5 (.cons () (.cons () (.nil ⟨EnvAll.of h2 ⟨rfl, rfl, trivial⟩, h4⟩)))
            · rintro Fr _ _
              refine SO.takeT rfl rfl rfl b120 ?_
              refine SO.v rfl (opv_fieldAddr Try.underlying63 rfl Try.sizeOf3 rfl rfl) ?_
              exact SO.nilZ fun a w h1 h2 h3 h4 h5 => PZ.of h1 h3 h5 (.cons () (.cons () (.cons () (.nil ⟨EnvAll.of h2 ⟨rfl, rfl, rfl, trivial⟩, h4⟩))))
            · rintro Fr _ _ _
              refine SO.takeT rfl rfl rfl b120 ?_
              refine SO.load1 rfl Try.isAgg3 rfl rfl ?_
              exact SO.nilZ fun a w h1 h2 h3 h4 h5 => PZ.of h1 h3 h5 (.cons () (.cons () (.cons () (.cons () (.nil ⟨EnvAll.of h2 ⟨rfl, rfl, rfl, trivial⟩, h4⟩)))))
            · rintro Fr _ _
              refine SO.takeT rfl rfl rfl b120 ?_
              refine SO.v rfl (opv_move rfl) ?_
              exact SO.nilZ fun a w h1 h2 h3 h4 h5 => PZ.of h1 h3 h5 (.cons () (.cons () (.cons () (.nil ⟨EnvAll.of h2 ⟨rfl, rfl, rfl, trivial⟩, h4⟩))))
            · rintro Fr _ _ _
              refine SO.takeT rfl rfl rfl b120 ?_
              refine SO.v rfl (opv_geq rfl rfl) ?_
              exact SO.nilZ fun a w h1 h2 h3 h4 h5 => PZ.of h1 h3 h5 (.cons () (.cons () (.cons () (.cons () (.nil ⟨EnvAll.of h2 ⟨rfl, rfl, rfl, rfl, trivial⟩, h4⟩)))))
            · rintro Fr _ _
              refine SO.v rfl (opv_pick_f' b120 rfl rfl) ?_
              exact SO.nilZ fun a w h1 h2 h3 h4 h5 => PZ.of h1 h3 h5 (.cons () (.cons () (.cons () (.nil ⟨EnvAll.of h2 ⟨rfl, rfl, rfl, trivial⟩, h4⟩))))
            · rintro Fr _
              refine SO.v rfl (opv_move rfl) ?_
              exact SO.nilZ fun a w h1 h2 h3 h4 h5 => PZ.of h1 h3 h5 (.cons () (.cons () (.nil ⟨EnvAll.of h2 ⟨rfl, rfl, trivial⟩, h4⟩)))
            · rintro Fr _ _
              refine SO.takeT rfl rfl rfl b121 ?_
              refine SO.v rfl (opv_move rfl) ?_
              exact SO.nilZ fun a w h1 h2 h3 h4 h5 => PZ.of h1 h3 h5 (.cons () (.cons () (.cons () (.nil ⟨EnvAll.of h2 ⟨rfl, rfl, rfl, trivial⟩, h4⟩))))
            · rintro Fr _ _
              refine SO.takeT rfl rfl rfl b121 ?_
              refine SO.v rfl (opv_gtr rfl rfl) ?_
              exact SO.nilZ fun a w h1 h2 h3 h4 h5 => PZ.of h1 h3 h5 (.cons () (.cons () (.cons () (.nil ⟨EnvAll.of h2 ⟨rfl, rfl, rfl, trivial⟩, h4⟩))))
            · rintro Fr _ _
              refine SO.takeT rfl rfl rfl b121 ?_
              refine SO.v rfl (opv_move rfl) ?_
              exact SO.nilZ fun a w h1 h2 h3 h4 h5 => PZ.of h1 h3 h5 (.cons () (.cons () (.cons () (.nil ⟨EnvAll.of h2 ⟨rfl, rfl, rfl, trivial⟩, h4⟩))))
            · rintro Fr _ _
              refine SO.takeT rfl rfl rfl b122 ?_
              refine SO.v rfl (opv_fieldAddr Try.underlying63 rfl Try.sizeOf3 rfl rfl) ?_
              exact SO.nilZ fun a w h1 h2 h3 h4 h5 => PZ.of h1 h3 h5 (.cons () (.cons () (.cons () (.nil ⟨EnvAll.of h2 ⟨rfl, rfl, rfl, trivial⟩, h4⟩))))
            · rintro Fr _ _ _
              refine SO.takeT rfl rfl rfl b122 ?_
              refine SO.load1 rfl Try.isAgg3 rfl rfl ?_
              exact SO.nilZ fun a w h1 h2 h3 h4 h5 => PZ.of h1 h3 h5 (.cons () (.cons () (.cons () (.cons () (.nil ⟨EnvAll.of h2 ⟨rfl, rfl, rfl, trivial⟩, h4⟩)))))
            · rintro Fr _ _
              refine SO.takeT rfl rfl rfl b122 ?_
              refine SO.v rfl (opv_move rfl) ?_
              exact SO.nilZ fun a w h1 h2 h3 h4 h5 => PZ.of h1 h3 h5 (.cons () (.cons () (.cons () (.nil ⟨EnvAll.of h2 ⟨rfl, rfl, rfl, trivial⟩, h4⟩))))
            · rintro Fr _ _
              refine SO.takeT rfl rfl rfl b122 ?_
              refine SO.v rfl (opv_move rfl) ?_
              exact SO.nilZ fun a w h1 h2 h3 h4 h5 => PZ.of h1 h3 h5 (.cons () (.cons () (.cons () (.nil ⟨EnvAll.of h2 ⟨rfl, rfl, rfl, trivial⟩, h4⟩))))
            · rintro Fr _ _
              refine SO.takeT rfl rfl rfl b122 ?_
              refine SO.v rfl (opv_sub rfl rfl) ?_
              exact SO.nilZ fun a w h1 h2 h3 h4 h5 => PZ.of h1 h3 h5 (.cons () (.cons () (.cons () (.nil ⟨EnvAll.of h2 ⟨rfl, rfl, rfl, trivial⟩, h4⟩))))
            · rintro Fr _ _ _ _
              refine SO.takeT rfl rfl rfl b122 ?_
              refine SO.v rfl (opv_idx Try.underlying45 Try.sizeOf63 hr101 rfl rfl hx124) ?_
              exact SO.nilZ fun a w h1 h2 h3 h4 h5 => PZ.of2 (Y := fun Q => ∃ (_ _ _ _ _ : Unit), Q [(164, .bool (decide (0 < x21_3))), (167, v100), (169, .int .i64 (w64 (x21_3 - 1))), (170, idxp v100 ((w64 (x21_3 - 1)).toNat * ek_tx_Entry.sz))] [Own 63 ek_tx_Entry v100 t97]) (fun Q => by kernel_rfl) h1 h3 h5 ⟨(), (), (), (), (), EnvAll.of h2 ⟨rfl, rfl, rfl, rfl, trivial⟩, h4⟩
            · rintro Fr _ _ _
              refine SO.takeT rfl rfl rfl b122 ?_
              refine SO.v rfl (opv_fieldIdx Try.underlying63 rfl Try.sizeOf3 hr101 hx124 rfl rfl) ?_
              exact SO.nilZ fun a w h1 h2 h3 h4 h5 => PZ.of h1 h3 h5 (.cons () (.cons () (.cons () (.cons () (.nil ⟨EnvAll.of h2 ⟨rfl, rfl, rfl, trivial⟩, h4⟩)))))
            · rintro Fr _ _ _
              refine SO.takeT rfl rfl rfl b122 ?_
              refine SO.loadI1 (j := 0) rfl Try.isAgg3 (Rd.head hr101) hx124 rfl rfl rfl rfl ?_
              exact SO.nilZ fun a w h1 h2 h3 h4 h5 => PZ.of h1 h3 h5 (.cons () (.cons () (.cons () (.cons () (.nil ⟨EnvAll.of h2 ⟨rfl, rfl, rfl, trivial⟩, h4⟩)))))
            · rintro Fr _ _ _
              refine SO.takeT rfl rfl rfl b122 ?_
              refine SO.v rfl (opv_leq rfl rfl) ?_
              exact SO.nilZ fun a w h1 h2 h3 h4 h5 => PZ.of h1 h3 h5 (.cons () (.cons () (.cons () (.cons () (.nil ⟨EnvAll.of h2 ⟨rfl, rfl, rfl, rfl, trivial⟩, h4⟩)))))
            · rintro Fr _ _ _
              refine SO.takeT rfl rfl rfl b121 ?_
              refine SO.v rfl (opv_pick_t' b122 rfl rfl) ?_
              exact SO.nilZ fun a w h1 h2 h3 h4 h5 => PZ.of h1 h3 h5 (.cons () (.cons () (.cons () (.cons () (.nil ⟨EnvAll.of h2 ⟨rfl, rfl, rfl, rfl, trivial⟩, h4⟩)))))
            · rintro Fr _ _
              refine SO.v rfl (opv_pick_f' b121 rfl rfl) ?_
              exact SO.nilZ fun a w h1 h2 h3 h4 h5 => PZ.of h1 h3 h5 (.cons () (.cons () (.cons () (.nil ⟨EnvAll.of h2 ⟨rfl, rfl, rfl, trivial⟩, h4⟩))))
            · rintro Fr _
              refine SO.v rfl (opv_move rfl) ?_
              exact SO.nilZ fun a w h1 h2 h3 h4 h5 => PZ.of h1 h3 h5 (.cons () (.cons () (.nil ⟨EnvAll.of h2 ⟨rfl, rfl, trivial⟩, h4⟩)))
            · rintro Fr _ _
              refine SO.takeT rfl rfl rfl b125 ?_
              refine SO.v rfl (opv_fieldAddr Try.underlying63 rfl Try.sizeOf35 rfl rfl) ?_
              exact SO.nilZ fun a w h1 h2 h3 h4 h5 => PZ.of h1 h3 h5 (.cons () (.cons () (.cons () (.nil ⟨EnvAll.of h2 ⟨rfl, rfl, rfl, trivial⟩, h4⟩))))
            · rintro Fr _ _ _
              refine SO.takeT rfl rfl rfl b125 ?_
              refine SO.load1 rfl Try.isAgg35 rfl rfl ?_
              exact SO.nilZ fun a w h1 h2 h3 h4 h5 => PZ.of h1 h3 h5 (.cons () (.cons () (.cons () (.cons () (.nil ⟨EnvAll.of h2 ⟨rfl, rfl, rfl, trivial⟩, h4⟩)))))
            · rintro Fr _ _
              refine SO.takeT rfl rfl rfl b125 ?_
              refine SO.v rfl (opv_move rfl) ?_
              exact SO.nilZ fun a w h1 h2 h3 h4 h5 => PZ.of h1 h3 h5 (.cons () (.cons () (.cons () (.nil ⟨EnvAll.of h2 ⟨rfl, rfl, rfl, trivial⟩, h4⟩))))
            · rintro Fr _ _
              refine SO.takeT rfl rfl rfl b125 ?_
              refine SO.v rfl (opv_fieldAddr Try.underlying63 rfl Try.sizeOf3 rfl rfl) ?_
              exact SO.nilZ fun a w h1 h2 h3 h4 h5 => PZ.of h1 h3 h5 (.cons () (.cons () (.cons () (.nil ⟨EnvAll.of h2 ⟨rfl, rfl, rfl, trivial⟩, h4⟩))))
            · rintro Fr _ _ _
              refine SO.takeT rfl rfl rfl b125 ?_
              refine SO.load1 rfl Try.isAgg3 rfl rfl ?_
              exact SO.nilZ fun a w h1 h2 h3 h4 h5 => PZ.of h1 h3 h5 (.cons () (.cons () (.cons () (.cons () (.nil ⟨EnvAll.of h2 ⟨rfl, rfl, rfl, trivial⟩, h4⟩)))))
            · rintro Fr _ _ _ _
              refine SO.takeT rfl rfl rfl b125 ?_
              refine SO.v rfl (opv_idx Try.underlying48 Try.sizeOf35 hF0 rfl rfl hx127) ?_
              exact SO.nilZ fun a w h1 h2 h3 h4 h5 => PZ.of2 (Y := fun Q => ∃ (_ _ _ _ _ : Unit), Q [(176, .bool (decide (x117.Cell ≤ x123.Cell))), (179, v0), (181, .int .i64 x117.Cell), (182, idxp v0 (x117.Cell.toNat * (ekI .u64).sz))] [F]) (fun Q => by kernel_rfl) h1 h3 h5 ⟨(), (), (), (), (), EnvAll.of h2 ⟨rfl, rfl, rfl, rfl, trivial⟩, h4⟩
            · rintro Fr _ _ _
              refine SO.takeT rfl rfl rfl b125 ?_
              refine SO.loadI1 (j := 0) rfl Try.isAgg35 (Rd.head hF0) hx127 rfl rfl rfl rfl ?_
              exact SO.nilZ fun a w h1 h2 h3 h4 h5 => PZ.of h1 h3 h5 (.cons () (.cons () (.cons () (.cons () (.nil ⟨EnvAll.of h2 ⟨rfl, rfl, rfl, trivial⟩, h4⟩)))))
            · rintro Fr _ _ _
              refine SO.takeT rfl rfl rfl b125 ?_
              refine SO.v rfl (opv_neq rfl rfl) ?_
              exact SO.nilZ fun a w h1 h2 h3 h4 h5 => PZ.of h1 h3 h5 (.cons () (.cons () (.cons () (.cons () (.nil ⟨EnvAll.of h2 ⟨rfl, rfl, rfl, rfl, trivial⟩, h4⟩)))))
            · rintro Fr _ _
              refine SO.v rfl (opv_pick_f' b125 rfl rfl) ?_
              exact SO.nilZ fun a w h1 h2 h3 h4 h5 => PZ.of h1 h3 h5 (.cons () (.cons () (.cons () (.nil ⟨EnvAll.of h2 ⟨rfl, rfl, rfl, trivial⟩, h4⟩))))
            · rintro Fr _
              refine SO.v rfl (opv_move rfl) ?_
              exact SO.nilZ fun a w h1 h2 h3 h4 h5 => PZ.of h1 h3 h5 (.cons () (.cons () (.nil ⟨EnvAll.of h2 ⟨rfl, rfl, trivial⟩, h4⟩)))
            · rintro Fr _ _
              refine SO.takeT rfl rfl rfl b128 ?_
              refine SO.v rfl (opv_fieldAddr Try.underlying63 rfl Try.sizeOf36 rfl rfl) ?_
              exact SO.nilZ fun a w h1 h2 h3 h4 h5 => PZ.of h1 h3 h5 (.cons () (.cons () (.cons () (.nil ⟨EnvAll.of h2 ⟨rfl, rfl, rfl, trivial⟩, h4⟩))))
            · rintro Fr _ _ _
              refine SO.takeT rfl rfl rfl b128 ?_
              refine SO.load1 rfl Try.isAgg36 rfl rfl ?_
              exact SO.nilZ fun a w h1 h2 h3 h4 h5 => PZ.of h1 h3 h5 (.cons () (.cons () (.cons () (.cons () (.nil ⟨EnvAll.of h2 ⟨rfl, rfl, rfl, trivial⟩, h4⟩)))))
            · rintro Fr _ _
              refine SO.takeT rfl rfl rfl b128 ?_
              refine SO.v rfl (opv_neq rfl rfl) ?_
              exact SO.nilZ fun a w h1 h2 h3 h4 h5 => PZ.of h1 h3 h5 (.cons () (.cons () (.cons () (.nil ⟨EnvAll.of h2 ⟨rfl, rfl, rfl, trivial⟩, h4⟩))))
            · rintro Fr _ _
              refine SO.v rfl (opv_pick_f' b128 rfl rfl) ?_
              exact SO.nilZ fun a w h1 h2 h3 h4 h5 => PZ.of h1 h3 h5 (.cons () (.cons () (.cons () (.nil ⟨EnvAll.of h2 ⟨rfl, rfl, rfl, trivial⟩, h4⟩))))
            · rintro Fr _
              refine SO.v rfl (opv_move rfl) ?_
              exact SO.nilZ fun a w h1 h2 h3 h4 h5 => PZ.of h1 h3 h5 (.cons () (.cons () (.nil ⟨EnvAll.of h2 ⟨rfl, rfl, trivial⟩, h4⟩)))
            · rintro Fr _
              refine SO.passF rfl rfl rfl b129 rfl rfl ?_
              exact SO.nilZ fun a w h1 h2 h3 h4 h5 => PZ.of h1 h3 h5 (.cons () (.cons () (.nil ⟨EnvAll.of h2 ⟨rfl, rfl, trivial⟩, h4⟩)))
            · rintro Fr _
              refine SO.passF rfl rfl rfl b129 rfl rfl ?_
              exact SO.nilZ fun a w h1 h2 h3 h4 h5 => PZ.of h1 h3 h5 (.cons () (.cons () (.nil ⟨EnvAll.of h2 ⟨rfl, rfl, trivial⟩, h4⟩)))
            · rintro Fr _
              refine SO.passF rfl rfl rfl b129 rfl rfl ?_
              exact SO.nilZ fun a w h1 h2 h3 h4 h5 => PZ.of h1 h3 h5 (.cons () (.cons () (.nil ⟨EnvAll.of h2 ⟨rfl, rfl, trivial⟩, h4⟩)))
            · rintro Fr _
              refine SO.passF rfl rfl rfl b129 rfl rfl ?_
              exact SO.nilZ fun a w h1 h2 h3 h4 h5 => PZ.of h1 h3 h5 (.cons () (.cons () (.nil ⟨EnvAll.of h2 ⟨rfl, rfl, trivial⟩, h4⟩)))
            · rintro Fr _
              refine SO.passF rfl rfl rfl b129 rfl rfl ?_
              exact SO.nilZ fun a w h1 h2 h3 h4 h5 => PZ.of h1 h3 h5 (.cons () (.cons () (.nil ⟨EnvAll.of h2 ⟨rfl, rfl, trivial⟩, h4⟩)))
            · rintro Fr _
              refine SO.passF rfl rfl rfl b129 rfl rfl ?_
              exact SO.nilZ fun a w h1 h2 h3 h4 h5 => PZ.of h1 h3 h5 (.cons () (.cons () (.nil ⟨EnvAll.of h2 ⟨rfl, rfl, trivial⟩, h4⟩)))
            · rintro Fr _
              refine SO.passF rfl rfl rfl b129 rfl rfl ?_
              exact SO.nilZ fun a w h1 h2 h3 h4 h5 => PZ.of h1 h3 h5 (.cons () (.cons () (.nil ⟨EnvAll.of h2 ⟨rfl, rfl, trivial⟩, h4⟩)))
            · rintro Fr _
              refine SO.passF rfl rfl rfl b129 rfl rfl ?_
              exact SO.nilZ fun a w h1 h2 h3 h4 h5 => PZ.of h1 h3 h5 (.cons () (.cons () (.nil ⟨EnvAll.of h2 ⟨rfl, rfl, trivial⟩, h4⟩)))
            · rintro Fr _ _
              refine SO.v rfl (opv_pick_t' b129 rfl rfl) ?_
              exact SO.nilZ fun a w h1 h2 h3 h4 h5 => PZ.of h1 h3 h5 (.cons () (.cons () (.cons () (.nil ⟨EnvAll.of h2 ⟨rfl, rfl, rfl, trivial⟩, h4⟩))))
            rintro _ _ _ _ _ _ _ _ _ _ _ _ _ _ _ _ _ _ _ _
            refine S.to (ρ' := [(21, .int .i64 x21_3), (20, v113), (4, .bool false), (5, .bool t2), (11, v30), (18, v89), (0, v0), (6, .int .i64 (a0.length : Int)), (19, v100), (22, bp b119 0), (200, .bool true)]) ⟨rfl, rfl, rfl, rfl, rfl, rfl, rfl, rfl, rfl, rfl, rfl, trivial⟩ ?_
            cases h
            refine S.b12 ?_
            refine S.b12 ?_
            refine S.b12 ?_
            refine S.b12 ?_
            refine S.b12 ?_
            refine S.b12 ?_
            refine S.b12 ?_
            refine S.b12 ?_
            refine S.b12 ?_
            refine S.b12 ?_
            refine S.b12 ?_
            refine S.b12 ?_
            refine S.b12 ?_
            refine S.to ?_ (hk4 () trivial)
            exact ⟨rfl, rfl, rfl, rfl, rfl, rfl, rfl, rfl, rfl, rfl, rfl, trivial⟩
          replace h := cond_f b129 h
          refine S.draw2 (Y := fun Q => ∃ (_ _ _ _ _ _ _ _ _ _ _ _ _ _ _ _ _ _ _ : Unit), Q [(22, bp b119 0), (6, .int .i64 (a0.length : Int)), (21, .int .i64 x21_3), (19, v100), (0, v0), (20, v113), (4, .bool false), (5, .bool t2), (11, v30), (18, v89)] [Box b119 [.int .i64 x117.Cell, .int .u32 x117.Version, .int .u64 x117.Old, .int .u64 x117.New, .bool x117.Write], Own 35 (ekI .u64) v113 qv113_3, Own 63 ek_tx_Entry v100 t97, Box b15 [.int .i64 p98.cells, u102_l, u102_out, .int .i64 p98.lack, .bool p98.fine], MapO (aggE ek_api_Cell) u102_l p98.l, MapO (Value.int .u64) u102_out p98.out, Own 35 (ekI .u64) v89 s93, Own 4 ekB v30 qv30_e2, Box b34 [.int .u64 y34_0_e2], Own 38 ek_api_Cell vy10_0_e1 y10_0_e1, Box b10 [vy10_0_e1, .int .u32 y10_1_e1], Box b1 [v1], F]) (Z := fun Q => ∀ (_ _ _ _ _ _ _ _ _ _ _ _ _ _ _ _ _ _ _ _ : Unit), Q [(21, .int .i64 x21_3), (20, v113), (4, .bool false), (5, .bool t2), (11, v30), (18, v89), (0, v0), (6, .int .i64 (a0.length : Int)), (19, v100), (22, bp b119 0), (200, .bool (x117.Write != (x117.Old != x117.New)))] [Box b119 [.int .i64 x117.Cell, .int .u32 x117.Version, .int .u64 x117.Old, .int .u64 x117.New, .bool x117.Write], Own 35 (ekI .u64) v113 qv113_3, Own 63 ek_tx_Entry v100 t97, Box b15 [.int .i64 p98.cells, u102_l, u102_out, .int .i64 p98.lack, .bool p98.fine], MapO (aggE ek_api_Cell) u102_l p98.l, MapO (Value.int .u64) u102_out p98.out, Own 35 (ekI .u64) v89 s93, Own 4 ekB v30 qv30_e2, Box b34 [.int .u64 y34_0_e2], Own 38 ek_api_Cell vy10_0_e1 y10_0_e1, Box b10 [vy10_0_e1, .int .u32 y10_1_e1], Box b1 [v1], F]) (T := [tS 22 (bp b119 0), tS 6 (.int .i64 (a0.length : Int)), tS 21 (.int .i64 x21_3), tS 19 (v100), tS 0 (v0), tE [(20, v113), (4, .bool false), (5, .bool t2), (11, v30), (18, v89)], tR (Box b119 [.int .i64 x117.Cell, .int .u32 x117.Version, .int .u64 x117.Old, .int .u64 x117.New, .bool x117.Write]), tR (Own 35 (ekI .u64) v113 qv113_3), tR (Own 63 ek_tx_Entry v100 t97), tR (Box b15 [.int .i64 p98.cells, u102_l, u102_out, .int .i64 p98.lack, .bool p98.fine]), tR (MapO (aggE ek_api_Cell) u102_l p98.l), tR (MapO (Value.int .u64) u102_out p98.out), tR (Own 35 (ekI .u64) v89 s93), tR (Own 4 ekB v30 qv30_e2), tR (Box b34 [.int .u64 y34_0_e2]), tR (Own 38 ek_api_Cell vy10_0_e1 y10_0_e1), tR (Box b10 [vy10_0_e1, .int .u32 y10_1_e1]), tR (Box b1 [v1]), tR (F), tS 152 (bp b119 0), tS 153 (.int .i64 x117.Cell), tS 154 (.bool (decide (x117.Cell < 0))), tS 155 (.bool (decide (x117.Cell < 0))), tS 156 (bp b119 0), tS 157 (.int .i64 x117.Cell), tS 158 (.int .i64 (a0.length : Int)), tS 159 (.bool (decide ((a0.length : Int) ≤ x117.Cell))), tS 160 (.bool (decide ((a0.length : Int) ≤ x117.Cell))), tS 161 (.bool (decide ((a0.length : Int) ≤ x117.Cell))), tS 162 (.int .i64 x21_3), tS 163 (.bool (decide (0 < x21_3))), tS 164 (.bool (decide (0 < x21_3))), tS 165 (bp b119 0), tS 166 (.int .i64 x117.Cell), tS 167 (v100), tS 168 (.int .i64 x21_3), tS 169 (.int .i64 (w64 (x21_3 - 1))), tS 170 (idxp v100 ((w64 (x21_3 - 1)).toNat * ek_tx_Entry.sz)), tS 171 (idxp v100 ((w64 (x21_3 - 1)).toNat * ek_tx_Entry.sz)), tS 172 (.int .i64 x123.Cell), tS 173 (.bool (decide (x117.Cell ≤ x123.Cell))), tS 174 (.bool (decide (x117.Cell ≤ x123.Cell))), tS 175 (.bool (decide (x117.Cell ≤ x123.Cell))), tS 176 (.bool (decide (x117.Cell ≤ x123.Cell))), tS 177 (bp b119 2), tS 178 (.int .u64 x117.Old), tS 179 (v0), tS 180 (bp b119 0), tS 181 (.int .i64 x117.Cell), tS 182 (idxp v0 (x117.Cell.toNat * (ekI .u64).sz)), tS 183 (.int .u64 x126), tS 184 (.bool (x117.Old != x126)), tS 185 (.bool (x117.Old != x126)), tS 186 (.bool (x117.Old != x126)), tS 187 (bp b119 1), tS 188 (.int .u32 x117.Version), tS 189 (.bool (x117.Version != 0)), tS 190 (.bool (x117.Version != 0)), tS 191 (.bool (x117.Version != 0)), tS 192 (bp b119 4), tS 193 (.bool x117.Write), tS 194 (bp b119 2), tS 195 (.int .u64 x117.Old), tS 196 (bp b119 3), tS 197 (.int .u64 x117.New), tS 198 (.bool (x117.Old != x117.New)), tS 199 (.bool (x117.Write != (x117.Old != x117.New))), tS 200 (.bool (x117.Write != (x117.Old != x117.New)))]) (D := [⟨[0], [], [19]⟩, ⟨[19, 6], [], [20]⟩, ⟨[20], [], [21]⟩, ⟨[21], [], [22]⟩, ⟨[0, 22], [], [23]⟩, ⟨[22, 23, 6], [], [24]⟩, ⟨[1, 22], [], [25]⟩, ⟨[22, 24, 25], [], [26]⟩, ⟨[22, 26], [], [27]⟩, ⟨[27], [], [28]⟩, ⟨[2, 28], [], [29]⟩, ⟨[28, 29], [], [30]⟩, ⟨[28, 30], [], [31]⟩, ⟨[0, 31], [], [32]⟩, ⟨[31, 32, 6], [], [33]⟩, ⟨[3, 31], [], [34]⟩, ⟨[2, 31], [], [35]⟩, ⟨[31, 35], [], [36]⟩, ⟨[31, 34, 36, 8], [], [37]⟩, ⟨[31, 37, 8], [], [38]⟩, ⟨[31, 38, 8], [], [39]⟩, ⟨[31, 33, 39], [], [40]⟩, ⟨[28, 31, 40], [], [41]⟩, ⟨[28, 41], [], [42]⟩, ⟨[42], [], [43]⟩, ⟨[0, 43], [], [44]⟩, ⟨[43, 44, 6], [], [45]⟩, ⟨[4, 43], [], [46]⟩, ⟨[0, 43], [], [47]⟩, ⟨[43, 47, 6], [], [48]⟩, ⟨[43, 46, 48, 18], [], [49]⟩, ⟨[43, 49, 18], [], [50]⟩, ⟨[43, 45, 50], [], [51]⟩, ⟨[43, 51], [], [52]⟩, ⟨[52], [], [53]⟩, ⟨[0, 53], [], [54]⟩, ⟨[53, 54, 6], [], [55]⟩, ⟨[53, 55], [], [56]⟩, ⟨[53, 56], [], [57]⟩, ⟨[57], [], [58]⟩, ⟨[0, 58], [], [59]⟩, ⟨[58, 59, 6], [], [60]⟩, ⟨[0, 58], [], [61]⟩, ⟨[58, 61, 6], [], [62]⟩, ⟨[0, 58], [], [63]⟩, ⟨[58, 63, 6], [], [64]⟩, ⟨[58, 62, 64], [], [65]⟩, ⟨[58, 60, 65], [], [66]⟩, ⟨[58, 66], [], [67]⟩]) (ini := [0, 1, 2, 3, 4, 5, 6, 7, 8, 9, 10, 11, 12, 13, 14, 15, 16, 17, 18]) (fin := [2, 5, 4, 1, 3, 0, 67, 6, 7, 8, 9, 10, 11, 12, 13, 14, 15, 16, 17, 18]) (bf := [[], [0], [0, 1], [0, 1, 2], [0, 1, 2, 3], [0, 1, 2, 3, 4], [0, 1, 2, 3], [0, 1, 2, 3, 4, 5, 6], [0, 1, 2, 3, 4, 5, 6, 7], [0, 1, 2, 3, 4, 5, 6, 7, 8], [0, 1, 2, 3, 4, 5, 6, 7, 8, 9], [0, 1, 2, 3, 4, 5, 6, 7, 8, 9, 10], [0, 1, 2, 3, 4, 5, 6, 7, 8, 9, 10, 11], [0, 1, 2, 3, 4, 5, 6, 7, 8, 9, 10, 11, 12], [0, 1, 2, 3, 4, 5, 6, 7, 8, 9, 10, 11, 12, 13], [0, 1, 2, 3, 4, 5, 6, 7, 8, 9, 10, 11, 12], [0, 1, 2, 3, 4, 5, 6, 7, 8, 9, 10, 11, 12], [0, 1, 2, 3, 4, 5, 6, 7, 8, 9, 10, 11, 12, 16], [0, 1, 2, 3, 4, 5, 6, 7, 8, 9, 10, 11, 12, 15, 16, 17], [0, 1, 2, 3, 4, 5, 6, 7, 8, 9, 10, 11, 12, 15, 16, 17, 18], [0, 1, 2, 3, 4, 5, 6, 7, 8, 9, 10, 11, 12, 15, 16, 17, 18, 19], [0, 1, 2, 3, 4, 5, 6, 7, 8, 9, 10, 11, 12, 13, 14, 15, 16, 17, 18, 19, 20], [0, 1, 2, 3, 4, 5, 6, 7, 8, 9, 10, 11, 12, 13, 14, 15, 16, 17, 18, 19, 20, 21], [0, 1, 2, 3, 4, 5, 6, 7, 8, 9, 10, 11, 12, 13, 14, 15, 16, 17, 18, 19, 20, 21, 22], [0, 1, 2, 3, 4, 5, 6, 7, 8, 9, 10, 11, 12, 13, 14, 15, 16, 17, 18, 19, 20, 21, 22, 23], [0, 1, 2, 3, 4, 5, 6, 7, 8, 9, 10, 11, 12, 13, 14, 15, 16, 17, 18, 19, 20, 21, 22, 23, 24], [0, 1, 2, 3, 4, 5, 6, 7, 8, 9, 10, 11, 12, 13, 14, 15, 16, 17, 18, 19, 20, 21, 22, 23, 24, 25], [0, 1, 2, 3, 4, 5, 6, 7, 8, 9, 10, 11, 12, 13, 14, 15, 16, 17, 18, 19, 20, 21, 22, 23, 24], [0, 1, 2, 3, 4, 5, 6, 7, 8, 9, 10, 11, 12, 13, 14, 15, 16, 17, 18, 19, 20, 21, 22, 23, 24], [0, 1, 2, 3, 4, 5, 6, 7, 8, 9, 10, 11, 12, 13, 14, 15, 16, 17, 18, 19, 20, 21, 22, 23, 24, 28], [0, 1, 2, 3, 4, 5, 6, 7, 8, 9, 10, 11, 12, 13, 14, 15, 16, 17, 18, 19, 20, 21, 22, 23, 24, 27, 28, 29], [0, 1, 2, 3, 4, 5, 6, 7, 8, 9, 10, 11, 12, 13, 14, 15, 16, 17, 18, 19, 20, 21, 22, 23, 24, 27, 28, 29, 30], [0, 1, 2, 3, 4, 5, 6, 7, 8, 9, 10, 11, 12, 13, 14, 15, 16, 17, 18, 19, 20, 21, 22, 23, 24, 25, 26, 27, 28, 29, 30, 31], [0, 1, 2, 3, 4, 5, 6, 7, 8, 9, 10, 11, 12, 13, 14, 15, 16, 17, 18, 19, 20, 21, 22, 23, 24, 25, 26, 27, 28, 29, 30, 31, 32], [0, 1, 2, 3, 4, 5, 6, 7, 8, 9, 10, 11, 12, 13, 14, 15, 16, 17, 18, 19, 20, 21, 22, 23, 24, 25, 26, 27, 28, 29, 30, 31, 32, 33], [0, 1, 2, 3, 4, 5, 6, 7, 8, 9, 10, 11, 12, 13, 14, 15, 16, 17, 18, 19, 20, 21, 22, 23, 24, 25, 26, 27, 28, 29, 30, 31, 32, 33, 34], [0, 1, 2, 3, 4, 5, 6, 7, 8, 9, 10, 11, 12, 13, 14, 15, 16, 17, 18, 19, 20, 21, 22, 23, 24, 25, 26, 27, 28, 29, 30, 31, 32, 33, 34, 35], [0, 1, 2, 3, 4, 5, 6, 7, 8, 9, 10, 11, 12, 13, 14, 15, 16, 17, 18, 19, 20, 21, 22, 23, 24, 25, 26, 27, 28, 29, 30, 31, 32, 33, 34, 35, 36], [0, 1, 2, 3, 4, 5, 6, 7, 8, 9, 10, 11, 12, 13, 14, 15, 16, 17, 18, 19, 20, 21, 22, 23, 24, 25, 26, 27, 28, 29, 30, 31, 32, 33, 34, 35, 36, 37], [0, 1, 2, 3, 4, 5, 6, 7, 8, 9, 10, 11, 12, 13, 14, 15, 16, 17, 18, 19, 20, 21, 22, 23, 24, 25, 26, 27, 28, 29, 30, 31, 32, 33, 34, 35, 36, 37, 38], [0, 1, 2, 3, 4, 5, 6, 7, 8, 9, 10, 11, 12, 13, 14, 15, 16, 17, 18, 19, 20, 21, 22, 23, 24, 25, 26, 27, 28, 29, 30, 31, 32, 33, 34, 35, 36, 37, 38, 39], [0, 1, 2, 3, 4, 5, 6, 7, 8, 9, 10, 11, 12, 13, 14, 15, 16, 17, 18, 19, 20, 21, 22, 23, 24, 25, 26, 27, 28, 29, 30, 31, 32, 33, 34, 35, 36, 37, 38, 39, 40], [0, 1, 2, 3, 4, 5, 6, 7, 8, 9, 10, 11, 12, 13, 14, 15, 16, 17, 18, 19, 20, 21, 22, 23, 24, 25, 26, 27, 28, 29, 30, 31, 32, 33, 34, 35, 36, 37, 38, 39], [0, 1, 2, 3, 4, 5, 6, 7, 8, 9, 10, 11, 12, 13, 14, 15, 16, 17, 18, 19, 20, 21, 22, 23, 24, 25, 26, 27, 28, 29, 30, 31, 32, 33, 34, 35, 36, 37, 38, 39, 42], [0, 1, 2, 3, 4, 5, 6, 7, 8, 9, 10, 11, 12, 13, 14, 15, 16, 17, 18, 19, 20, 21, 22, 23, 24, 25, 26, 27, 28, 29, 30, 31, 32, 33, 34, 35, 36, 37, 38, 39], [0, 1, 2, 3, 4, 5, 6, 7, 8, 9, 10, 11, 12, 13, 14, 15, 16, 17, 18, 19, 20, 21, 22, 23, 24, 25, 26, 27, 28, 29, 30, 31, 32, 33, 34, 35, 36, 37, 38, 39, 44], [0, 1, 2, 3, 4, 5, 6, 7, 8, 9, 10, 11, 12, 13, 14, 15, 16, 17, 18, 19, 20, 21, 22, 23, 24, 25, 26, 27, 28, 29, 30, 31, 32, 33, 34, 35, 36, 37, 38, 39, 42, 43, 44, 45], [0, 1, 2, 3, 4, 5, 6, 7, 8, 9, 10, 11, 12, 13, 14, 15, 16, 17, 18, 19, 20, 21, 22, 23, 24, 25, 26, 27, 28, 29, 30, 31, 32, 33, 34, 35, 36, 37, 38, 39, 40, 41, 42, 43, 44, 45, 46], [0, 1, 2, 3, 4, 5, 6, 7, 8, 9, 10, 11, 12, 13, 14, 15, 16, 17, 18, 19, 20, 21, 22, 23, 24, 25, 26, 27, 28, 29, 30, 31, 32, 33, 34, 35, 36, 37, 38, 39, 40, 41, 42, 43, 44, 45, 46, 47]]) (by kernel_rfl) (by kernel_rfl) (fun Q => by kernel_rfl) (fun x w h1 h2 => ⟨(), (), (), (), (), (), (), (), (), (), (), (), (), (), (), (), (), (), (), EnvAll.of h1 ⟨rfl, rfl, rfl, rfl, rfl, rfl, rfl, rfl, rfl, rfl, trivial⟩, h2⟩) (fun Q => by kernel_rfl) ⟨?_, ?_, ?_, ?_, ?_, ?_, ?_, ?_, ?_, ?_, ?_, ?_, ?_, ?_, ?_, ?_, ?_, ?_, ?_, ?_, ?_, ?_, ?_, ?_, ?_, ?_, ?_, ?_, ?_, ?_, ?_, ?_, ?_, ?_, ?_, ?_, ?_, ?_, ?_, ?_, ?_, ?_, ?_, ?_, ?_, ?_, ?_, ?_, ?_, trivial⟩ ?_
          · rintro Fr _
            refine SO.v rfl (opv_fieldAddr Try.underlying63 rfl Try.sizeOf3 rfl rfl) ?_
            exact SO.nilZ fun a w h1 h2 h3 h4 h5 => PZ.of h1 h3 h5 (.cons () (.cons () (.nil ⟨EnvAll.of h2 ⟨rfl, rfl, trivial⟩, h4⟩)))
          · rintro Fr _ _
            refine SO.load1 rfl Try.isAgg3 rfl rfl ?_
            exact SO.nilZ fun a w h1 h2 h3 h4 h5 => PZ.of h1 h3 h5 (.cons () (.cons () (.cons () (.nil ⟨EnvAll.of h2 ⟨rfl, rfl, trivial⟩, h4⟩))))
          · rintro Fr _
            refine SO.v rfl (opv_lss rfl rfl) ?_
            exact SO.nilZ fun a w h1 h2 h3 h4 h5 => PZ.of h1 h3 h5 (.cons () (.cons () (.nil ⟨EnvAll.of h2 ⟨rfl, rfl, trivial⟩, h4⟩)))
          · rintro Fr _
            refine SO.v rfl (opv_move rfl) ?_
            exact SO.nilZ fun a w h1 h2 h3 h4 h5 => PZ.of h1 h3 h5 (.cons () (.cons () (.nil ⟨EnvAll.of h2 ⟨rfl, rfl, trivial⟩, h4⟩)))
          · rintro Fr _ _
            refine SO.takeT rfl rfl rfl b120 ?_
            refine SO.v rfl (opv_fieldAddr Try.underlying63 rfl Try.sizeOf3 rfl rfl) ?_
            exact SO.nilZ fun a w h1 h2 h3 h4 h5 => PZ.of h1 h3 h5 (.cons () (.cons () (.cons () (.nil ⟨EnvAll.of h2 ⟨rfl, rfl, rfl, trivial⟩, h4⟩))))
          · rintro Fr _ _ _
            refine SO.takeT rfl rfl rfl b120 ?_
            refine SO.load1 rfl Try.isAgg3 rfl rfl ?_
            exact SO.nilZ fun a w h1 h2 h3 h4 h5 => PZ.of h1 h3 h5 (.cons () (.cons () (.cons () (.cons () (.nil ⟨EnvAll.of h2 ⟨rfl, rfl, rfl, trivial⟩, h4⟩)))))
          · rintro Fr _ _
            refine SO.takeT rfl rfl rfl b120 ?_
            refine SO.v rfl (opv_move rfl) ?_
            exact SO.nilZ fun a w h1 h2 h3 h4 h5 => PZ.of h1 h3 h5 (.cons () (.cons () (.cons () (.nil ⟨EnvAll.of h2 ⟨rfl, rfl, rfl, trivial⟩, h4⟩))))
          · rintro Fr _ _ _
            refine SO.takeT rfl rfl rfl b120 ?_
            refine SO.v rfl (opv_geq rfl rfl) ?_
            exact SO.nilZ fun a w h1 h2 h3 h4 h5 => PZ.of h1 h3 h5 (.cons () (.cons () (.cons () (.cons () (.nil ⟨EnvAll.of h2 ⟨rfl, rfl, rfl, rfl, trivial⟩, h4⟩)))))
          · rintro Fr _ _
            refine SO.v rfl (opv_pick_f' b120 rfl rfl) ?_
            exact SO.nilZ fun a w h1 h2 h3 h4 h5 => PZ.of h1 h3 h5 (.cons () (.cons () (.cons () (.nil ⟨EnvAll.of h2 ⟨rfl, rfl, rfl, trivial⟩, h4⟩))))
          · rintro Fr _
            refine SO.v rfl (opv_move rfl) ?_
            exact SO.nilZ fun a w h1 h2 h3 h4 h5 => PZ.of h1 h3 h5 (.cons () (.cons () (.nil ⟨EnvAll.of h2 ⟨rfl, rfl, trivial⟩, h4⟩)))
          · rintro Fr _ _
            refine SO.takeT rfl rfl rfl b121 ?_
            refine SO.v rfl (opv_move rfl) ?_
            exact SO.nilZ fun a w h1 h2 h3 h4 h5 => PZ.of h1 h3 h5 (.cons () (.cons () (.cons () (.nil ⟨EnvAll.of h2 ⟨rfl, rfl, rfl, trivial⟩, h4⟩))))
          · rintro Fr _ _
            refine SO.takeT rfl rfl rfl b121 ?_
            refine SO.v rfl (opv_gtr rfl rfl) ?_
            exact SO.nilZ fun a w h1 h2 h3 h4 h5 => PZ.of h1 h3 h5 (.cons () (.cons () (.cons () (.nil ⟨EnvAll.of h2 ⟨rfl, rfl, rfl, trivial⟩, h4⟩))))
          · rintro Fr _ _
            refine SO.takeT rfl rfl rfl b121 ?_
            refine SO.v rfl (opv_move rfl) ?_
            exact SO.nilZ fun a w h1 h2 h3 h4 h5 => PZ.of h1 h3 h5 (.cons () (.cons () (.cons () (.nil ⟨EnvAll.of h2 ⟨rfl, rfl, rfl, trivial⟩, h4⟩))))
          · rintro Fr _ _
            refine SO.takeT rfl rfl rfl b122 ?_
            refine SO.v rfl (opv_fieldAddr Try.underlying63 rfl Try.sizeOf3 rfl rfl) ?_
            exact SO.nilZ fun a w h1 h2 h3 h4 h5 => PZ.of h1 h3 h5 (.cons () (.cons () (.cons () (.nil ⟨EnvAll.of h2 ⟨rfl, rfl, rfl, trivial⟩, h4⟩))))
          · rintro Fr _ _ _
            refine SO.takeT rfl rfl rfl b122 ?_
            refine SO.load1 rfl Try.isAgg3 rfl rfl ?_
            exact SO.nilZ fun a w h1 h2 h3 h4 h5 => PZ.of h1 h3 h5 (.cons () (.cons () (.cons () (.cons () (.nil ⟨EnvAll.of h2 ⟨rfl, rfl, rfl, trivial⟩, h4⟩)))))
          · rintro Fr _ _
            refine SO.takeT rfl rfl rfl b122 ?_
            refine SO.v rfl (opv_move rfl) ?_
            exact SO.nilZ fun a w h1 h2 h3 h4 h5 => PZ.of h1 h3 h5 (.cons () (.cons () (.cons () (.nil ⟨EnvAll.of h2 ⟨rfl, rfl, rfl, trivial⟩, h4⟩))))
          · rintro Fr _ _
            refine SO.takeT rfl rfl rfl b122 ?_
            refine SO.v rfl (opv_move rfl) ?_
            exact SO.nilZ fun a w h1 h2 h3 h4 h5 => PZ.of h1 h3 h5 (.cons () (.cons () (.cons () (.nil ⟨EnvAll.of h2 ⟨rfl, rfl, rfl, trivial⟩, h4⟩))))
          · rintro Fr _ _
            refine SO.takeT rfl rfl rfl b122 ?_
            refine SO.v rfl (opv_sub rfl rfl) ?_
            exact SO.nilZ fun a w h1 h2 h3 h4 h5 => PZ.of h1 h3 h5 (.cons () (.cons () (.cons () (.nil ⟨EnvAll.of h2 ⟨rfl, rfl, rfl, trivial⟩, h4⟩))))
          · rintro Fr _ _ _ _
            refine SO.takeT rfl rfl rfl b122 ?_
            refine SO.v rfl (opv_idx Try.underlying45 Try.sizeOf63 hr101 rfl rfl hx124) ?_
            exact SO.nilZ fun a w h1 h2 h3 h4 h5 => PZ.of2 (Y := fun Q => ∃ (_ _ _ _ _ : Unit), Q [(164, .bool (decide (0 < x21_3))), (167, v100), (169, .int .i64 (w64 (x21_3 - 1))), (170, idxp v100 ((w64 (x21_3 - 1)).toNat * ek_tx_Entry.sz))] [Own 63 ek_tx_Entry v100 t97]) (fun Q => by kernel_rfl) h1 h3 h5 ⟨(), (), (), (), (), EnvAll.of h2 ⟨rfl, rfl, rfl, rfl, trivial⟩, h4⟩
          · rintro Fr _ _ _
            refine SO.takeT rfl rfl rfl b122 ?_
            refine SO.v rfl (opv_fieldIdx Try.underlying63 rfl Try.sizeOf3 hr101 hx124 rfl rfl) ?_
            exact SO.nilZ fun a w h1 h2 h3 h4 h5 => PZ.of h1 h3 h5 (.cons () (.cons () (.cons () (.cons () (.nil ⟨EnvAll.of h2 ⟨rfl, rfl, rfl, trivial⟩, h4⟩)))))
          · rintro Fr _ _ _
            refine SO.takeT rfl rfl rfl b122 ?_
            refine SO.loadI1 (j := 0) rfl Try.isAgg3 (Rd.head hr101) hx124 rfl rfl rfl rfl ?_
            exact SO.nilZ fun a w h1 h2 h3 h4 h5 => PZ.of h1 h3 h5 (.cons () (.cons () (.cons () (.cons () (.nil ⟨EnvAll.of h2 ⟨rfl, rfl, rfl, trivial⟩, h4⟩)))))
          · rintro Fr _ _ _
            refine SO.takeT rfl rfl rfl b122 ?_
            refine SO.v rfl (opv_leq rfl rfl) ?_
            exact SO.nilZ fun a w h1 h2 h3 h4 h5 => PZ.of h1 h3 h5 (.cons () (.cons () (.cons () (.cons () (.nil ⟨EnvAll.of h2 ⟨rfl, rfl, rfl, rfl, trivial⟩, h4⟩)))))
          · rintro Fr _ _ _
            refine SO.takeT rfl rfl rfl b121 ?_
            refine SO.v rfl (opv_pick_t' b122 rfl rfl) ?_
            exact SO.nilZ fun a w h1 h2 h3 h4 h5 => PZ.of h1 h3 h5 (.cons () (.cons () (.cons () (.cons () (.nil ⟨EnvAll.of h2 ⟨rfl, rfl, rfl, rfl, trivial⟩, h4⟩)))))
          · rintro Fr _ _
            refine SO.v rfl (opv_pick_f' b121 rfl rfl) ?_
            exact SO.nilZ fun a w h1 h2 h3 h4 h5 => PZ.of h1 h3 h5 (.cons () (.cons () (.cons () (.nil ⟨EnvAll.of h2 ⟨rfl, rfl, rfl, trivial⟩, h4⟩))))
          · rintro Fr _
            refine SO.v rfl (opv_move rfl) ?_
            exact SO.nilZ fun a w h1 h2 h3 h4 h5 => PZ.of h1 h3 h5 (.cons () (.cons () (.nil ⟨EnvAll.of h2 ⟨rfl, rfl, trivial⟩, h4⟩)))
          · rintro Fr _ _
            refine SO.takeT rfl rfl rfl b125 ?_
            refine SO.v rfl (opv_fieldAddr Try.underlying63 rfl Try.sizeOf35 rfl rfl) ?_
            exact SO.nilZ fun a w h1 h2 h3 h4 h5 => PZ.of h1 h3 h5 (.cons () (.cons () (.cons () (.nil ⟨EnvAll.of h2 ⟨rfl, rfl, rfl, trivial⟩, h4⟩))))
          · rintro Fr _ _ _
            refine SO.takeT rfl rfl rfl b125 ?_
            refine SO.load1 rfl Try.isAgg35 rfl rfl ?_
            exact SO.nilZ fun a w h1 h2 h3 h4 h5 => PZ.of h1 h3 h5 (.cons () (.cons () (.cons () (.cons () (.nil ⟨EnvAll.of h2 ⟨rfl, rfl, rfl, trivial⟩, h4⟩)))))
          · rintro Fr _ _
            refine SO.takeT rfl rfl rfl b125 ?_
            refine SO.v rfl (opv_move rfl) ?_
            exact SO.nilZ fun a w h1 h2 h3 h4 h5 => PZ.of h1 h3 h5 (.cons () (.cons () (.cons () (.nil ⟨EnvAll.of h2 ⟨rfl, rfl, rfl, trivial⟩, h4⟩))))
          · rintro Fr _ _
            refine SO.takeT rfl rfl rfl b125 ?_
            refine SO.v rfl (opv_fieldAddr Try.underlying63 rfl Try.sizeOf3 rfl rfl) ?_
            exact SO.nilZ fun a w h1 h2 h3 h4 h5 => PZ.of h1 h3 h5 (.cons () (.cons () (.cons () (.nil ⟨EnvAll.of h2 ⟨rfl, rfl, rfl, trivial⟩, h4⟩))))
          · rintro Fr _ _ _
            refine SO.takeT rfl rfl rfl b125 ?_
            refine SO.load1 rfl Try.isAgg3 rfl rfl ?_
            exact SO.nilZ fun a w h1 h2 h3 h4 h5 => PZ.of h1 h3 h5 (.cons () (.cons () (.cons () (.cons () (.nil ⟨EnvAll.of h2 ⟨rfl, rfl, rfl, trivial⟩, h4⟩)))))
          · rintro Fr _ _ _ _
            refine SO.takeT rfl rfl rfl b125 ?_
            refine SO.v rfl (opv_idx Try.underlying48 Try.sizeOf35 hF0 rfl rfl hx127) ?_
            exact SO.nilZ fun a w h1 h2 h3 h4 h5 => PZ.of2 (Y := fun Q => ∃ (_ _ _ _ _ : Unit), Q [(176, .bool (decide (x117.Cell ≤ x123.Cell))), (179, v0), (181, .int .i64 x117.Cell), (182, idxp v0 (x117.Cell.toNat * (ekI .u64).sz))] [F]) (fun Q => by kernel_rfl) h1 h3 h5 ⟨(), (), (), (), (), EnvAll.of h2 ⟨rfl, rfl, rfl, rfl, trivial⟩, h4⟩
          · rintro Fr _ _ _
            refine SO.takeT rfl rfl rfl b125 ?_
            refine SO.loadI1 (j := 0) rfl Try.isAgg35 (Rd.head hF0) hx127 rfl rfl rfl rfl ?_
            exact SO.nilZ fun a w h1 h2 h3 h4 h5 => PZ.of h1 h3 h5 (.cons () (.cons () (.cons () (.cons () (.nil ⟨EnvAll.of h2 ⟨rfl, rfl, rfl, trivial⟩, h4⟩)))))
          · rintro Fr _ _ _
            refine SO.takeT rfl rfl rfl b125 ?_
            refine SO.v rfl (opv_neq rfl rfl) ?_
            exact SO.nilZ fun a w h1 h2 h3 h4 h5 => PZ.of h1 h3 h5 (.cons () (.cons () (.cons () (.cons () (.nil ⟨EnvAll.of h2 ⟨rfl, rfl, rfl, rfl, trivial⟩, h4⟩)))))
          · rintro Fr _ _
            refine SO.v rfl (opv_pick_f' b125 rfl rfl) ?_
            exact SO.nilZ fun a w h1 h2 h3 h4 h5 => PZ.of h1 h3 h5 (.cons () (.cons () (.cons () (.nil ⟨EnvAll.of h2 ⟨rfl, rfl, rfl, trivial⟩, h4⟩))))
          · rintro Fr _
            refine SO.v rfl (opv_move rfl) ?_
            exact SO.nilZ fun a w h1 h2 h3 h4 h5 => PZ.of h1 h3 h5 (.cons () (.cons () (.nil ⟨EnvAll.of h2 ⟨rfl, rfl, trivial⟩, h4⟩)))
          · rintro Fr _ _
            refine SO.takeT rfl rfl rfl b128 ?_
            refine SO.v rfl (opv_fieldAddr Try.underlying63 rfl Try.sizeOf36 rfl rfl) ?_
            exact SO.nilZ fun a w h1 h2 h3 h4 h5 => PZ.of h1 h3 h5 (.cons () (.cons () (.cons () (.nil ⟨EnvAll.of h2 ⟨rfl, rfl, rfl, trivial⟩, h4⟩))))
          · rintro Fr _ _ _
            refine SO.takeT rfl rfl rfl b128 ?_
            refine SO.load1 rfl Try.isAgg36 rfl rfl ?_
            exact SO.nilZ fun a w h1 h2 h3 h4 h5 => PZ.of h1 h3 h5 (.cons () (.cons () (.cons () (.cons () (.nil ⟨EnvAll.of h2 ⟨rfl, rfl, rfl, trivial⟩, h4⟩)))))
          · rintro Fr _ _
            refine SO.takeT rfl rfl rfl b128 ?_
            refine SO.v rfl (opv_neq rfl rfl) ?_
            exact SO.nilZ fun a w h1 h2 h3 h4 h5 => PZ.of h1 h3 h5 (.cons () (.cons () (.cons () (.nil ⟨EnvAll.of h2 ⟨rfl, rfl, rfl, trivial⟩, h4⟩))))
          · rintro Fr _ _
            refine SO.v rfl (opv_pick_f' b128 rfl rfl) ?_
            exact SO.nilZ fun a w h1 h2 h3 h4 h5 => PZ.of h1 h3 h5 (.cons () (.cons () (.cons () (.nil ⟨EnvAll.of h2 ⟨rfl, rfl, rfl, trivial⟩, h4⟩))))
          · rintro Fr _
            refine SO.v rfl (opv_move rfl) ?_
            exact SO.nilZ fun a w h1 h2 h3 h4 h5 => PZ.of h1 h3 h5 (.cons () (.cons () (.nil ⟨EnvAll.of h2 ⟨rfl, rfl, trivial⟩, h4⟩)))
          · rintro Fr _ _
            refine SO.takeT rfl rfl rfl b129 ?_
            refine SO.v rfl (opv_fieldAddr Try.underlying63 rfl Try.sizeOf4 rfl rfl) ?_
            exact SO.nilZ fun a w h1 h2 h3 h4 h5 => PZ.of h1 h3 h5 (.cons () (.cons () (.cons () (.nil ⟨EnvAll.of h2 ⟨rfl, rfl, rfl, trivial⟩, h4⟩))))
          · rintro Fr _ _ _
            refine SO.takeT rfl rfl rfl b129 ?_
            refine SO.load1 rfl Try.isAgg4 rfl rfl ?_
            exact SO.nilZ fun a w h1 h2 h3 h4 h5 => PZ.of h1 h3 h5 (.cons () (.cons () (.cons () (.cons () (.nil ⟨EnvAll.of h2 ⟨rfl, rfl, rfl, trivial⟩, h4⟩)))))
          · rintro Fr _ _
            refine SO.takeT rfl rfl rfl b129 ?_
            refine SO.v rfl (opv_fieldAddr Try.underlying63 rfl Try.sizeOf35 rfl rfl) ?_
            exact SO.nilZ fun a w h1 h2 h3 h4 h5 => PZ.of h1 h3 h5 (.cons () (.cons () (.cons () (.nil ⟨EnvAll.of h2 ⟨rfl, rfl, rfl, trivial⟩, h4⟩))))
          · rintro Fr _ _ _
            refine SO.takeT rfl rfl rfl b129 ?_
            refine SO.load1 rfl Try.isAgg35 rfl rfl ?_
            exact SO.nilZ fun a w h1 h2 h3 h4 h5 => PZ.of h1 h3 h5 (.cons () (.cons () (.cons () (.cons () (.nil ⟨EnvAll.of h2 ⟨rfl, rfl, rfl, trivial⟩, h4⟩)))))
          · rintro Fr _ _
            refine SO.takeT rfl rfl rfl b129 ?_
            refine SO.v rfl (opv_fieldAddr Try.underlying63 rfl Try.sizeOf35 rfl rfl) ?_
            exact SO.nilZ fun a w h1 h2 h3 h4 h5 => PZ.of h1 h3 h5 (.cons () (.cons () (.cons () (.nil ⟨EnvAll.of h2 ⟨rfl, rfl, rfl, trivial⟩, h4⟩))))
          · rintro Fr _ _ _
            refine SO.takeT rfl rfl rfl b129 ?_
            refine SO.load1 rfl Try.isAgg35 rfl rfl ?_
            exact SO.nilZ fun a w h1 h2 h3 h4 h5 => PZ.of h1 h3 h5 (.cons () (.cons () (.cons () (.cons () (.nil ⟨EnvAll.of h2 ⟨rfl, rfl, rfl, trivial⟩, h4⟩)))))
          · rintro Fr _ _ _
            refine SO.takeT rfl rfl rfl b129 ?_
            refine SO.v rfl (opv_neq rfl rfl) ?_
            exact SO.nilZ fun a w h1 h2 h3 h4 h5 => PZ.of h1 h3 h5 (.cons () (.cons () (.cons () (.cons () (.nil ⟨EnvAll.of h2 ⟨rfl, rfl, rfl, rfl, trivial⟩, h4⟩)))))
          · rintro Fr _ _ _
            refine SO.takeT rfl rfl rfl b129 ?_
            refine SO.v rfl (opv_neqB Try.underlying4 rfl rfl) ?_
            exact SO.nilZ fun a w h1 h2 h3 h4 h5 => PZ.of h1 h3 h5 (.cons () (.cons () (.cons () (.cons () (.nil ⟨EnvAll.of h2 ⟨rfl, rfl, rfl, rfl, trivial⟩, h4⟩)))))
          · rintro Fr _ _
            refine SO.v rfl (opv_pick_f' b129 rfl rfl) ?_
            exact SO.nilZ fun a w h1 h2 h3 h4 h5 => PZ.of h1 h3 h5 (.cons () (.cons () (.cons () (.nil ⟨EnvAll.of h2 ⟨rfl, rfl, rfl, trivial⟩, h4⟩))))
          rintro _ _ _ _ _ _ _ _ _ _ _ _ _ _ _ _ _ _ _ _
          refine S.to (ρ' := [(21, .int .i64 x21_3), (20, v113), (4, .bool false), (5, .bool t2), (11, v30), (18, v89), (0, v0), (6, .int .i64 (a0.length : Int)), (19, v100), (22, bp b119 0), (200, .bool (x117.Write != (x117.Old != x117.New)))]) ⟨rfl, rfl, rfl, rfl, rfl, rfl, rfl, rfl, rfl, rfl, rfl, trivial⟩ ?_
          cases h
          refine S.b12 ?_
          refine S.b12 ?_
          refine S.b12 ?_
          refine S.b12 ?_
          refine S.b12 ?_
          refine S.b12 ?_
          refine S.b12 ?_
          refine S.b12 ?_
          refine S.b12 ?_
          refine S.b12 ?_
          refine S.b12 ?_
          refine S.b12 ?_
          refine S.b12 ?_
          refine S.to ?_ (hk4 () trivial)
          exact ⟨rfl, rfl, rfl, rfl, rfl, rfl, rfl, rfl, rfl, rfl, rfl, trivial⟩
        replace h := cond_f b122 h
        obtain ⟨x130, hx131, h⟩ := opt_bind h
        rcases bool_or (x117.Old != x130) with b132 | b132
        · replace h := cond_t b132 h
          refine S.draw2 (Y := fun Q => ∃ (_ _ _ _ _ _ _ _ _ _ _ _ _ _ _ _ _ _ _ : Unit), Q [(22, bp b119 0), (6, .int .i64 (a0.length : Int)), (21, .int .i64 x21_3), (19, v100), (0, v0), (20, v113), (4, .bool false), (5, .bool t2), (11, v30), (18, v89)] [Box b119 [.int .i64 x117.Cell, .int .u32 x117.Version, .int .u64 x117.Old, .int .u64 x117.New, .bool x117.Write], Own 35 (ekI .u64) v113 qv113_3, Own 63 ek_tx_Entry v100 t97, Box b15 [.int .i64 p98.cells, u102_l, u102_out, .int .i64 p98.lack, .bool p98.fine], MapO (aggE ek_api_Cell) u102_l p98.l, MapO (Value.int .u64) u102_out p98.out, Own 35 (ekI .u64) v89 s93, Own 4 ekB v30 qv30_e2, Box b34 [.int .u64 y34_0_e2], Own 38 ek_api_Cell vy10_0_e1 y10_0_e1, Box b10 [vy10_0_e1, .int .u32 y10_1_e1], Box b1 [v1], F]) (Z := fun Q => ∀ (_ _ _ _ _ _ _ _ _ _ _ _ _ _ _ _ _ _ _ _ : Unit), Q [(21, .int .i64 x21_3), (20, v113), (4, .bool false), (5, .bool t2), (11, v30), (18, v89), (0, v0), (6, .int .i64 (a0.length : Int)), (19, v100), (22, bp b119 0), (200, .bool true)] [Box b119 [.int .i64 x117.Cell, .int .u32 x117.Version, .int .u64 x117.Old, .int .u64 x117.New, .bool x117.Write], Own 35 (ekI .u64) v113 qv113_3, Own 63 ek_tx_Entry v100 t97, Box b15 [.int .i64 p98.cells, u102_l, u102_out, .int .i64 p98.lack, .bool p98.fine], MapO (aggE ek_api_Cell) u102_l p98.l, MapO (Value.int .u64) u102_out p98.out, Own 35 (ekI .u64) v89 s93, Own 4 ekB v30 qv30_e2, Box b34 [.int .u64 y34_0_e2], Own 38 ek_api_Cell vy10_0_e1 y10_0_e1, Box b10 [vy10_0_e1, .int .u32 y10_1_e1], Box b1 [v1], F]) (T := [tS 22 (bp b119 0), tS 6 (.int .i64 (a0.length : Int)), tS 21 (.int .i64 x21_3), tS 19 (v100), tS 0 (v0), tE [(20, v113), (4, .bool false), (5, .bool t2), (11, v30), (18, v89)], tR (Box b119 [.int .i64 x117.Cell, .int .u32 x117.Version, .int .u64 x117.Old, .int .u64 x117.New, .bool x117.Write]), tR (Own 35 (ekI .u64) v113 qv113_3), tR (Own 63 ek_tx_Entry v100 t97), tR (Box b15 [.int .i64 p98.cells, u102_l, u102_out, .int .i64 p98.lack, .bool p98.fine]), tR (MapO (aggE ek_api_Cell) u102_l p98.l), tR (MapO (Value.int .u64) u102_out p98.out), tR (Own 35 (ekI .u64) v89 s93), tR (Own 4 ekB v30 qv30_e2), tR (Box b34 [.int .u64 y34_0_e2]), tR (Own 38 ek_api_Cell vy10_0_e1 y10_0_e1), tR (Box b10 [vy10_0_e1, .int .u32 y10_1_e1]), tR (Box b1 [v1]), tR (F), tS 152 (bp b119 0), tS 153 (.int .i64 x117.Cell), tS 154 (.bool (decide (x117.Cell < 0))), tS 155 (.bool (decide (x117.Cell < 0))), tS 156 (bp b119 0), tS 157 (.int .i64 x117.Cell), tS 158 (.int .i64 (a0.length : Int)), tS 159 (.bool (decide ((a0.length : Int) ≤ x117.Cell))), tS 160 (.bool (decide ((a0.length : Int) ≤ x117.Cell))), tS 161 (.bool (decide ((a0.length : Int) ≤ x117.Cell))), tS 162 (.int .i64 x21_3), tS 163 (.bool (decide (0 < x21_3))), tS 164 (.bool (decide (0 < x21_3))), tS 165 (undef), tS 166 (undef), tS 167 (undef), tS 168 (undef), tS 169 (undef), tS 170 (undef), tS 171 (undef), tS 172 (undef), tS 173 (undef), tS 174 (.bool false), tS 175 (.bool false), tS 176 (.bool false), tS 177 (bp b119 2), tS 178 (.int .u64 x117.Old), tS 179 (v0), tS 180 (bp b119 0), tS 181 (.int .i64 x117.Cell), tS 182 (idxp v0 (x117.Cell.toNat * (ekI .u64).sz)), tS 183 (.int .u64 x130), tS 184 (.bool (x117.Old != x130)), tS 185 (.bool (x117.Old != x130)), tS 186 (.bool (x117.Old != x130)), tS 187 (undef), tS 188 (undef), tS 189 (undef), tS 190 (.bool true), tS 191 (.bool true), tS 192 (undef), tS 193 (undef), tS 194 (undef), tS 195 (undef), tS 196 (undef), tS 197 (undef), tS 198 (undef), tS 199 (undef), tS 200 (.bool true)]) (D := [⟨[0], [], [19]⟩, ⟨[19, 6], [], [20]⟩, ⟨[20], [], [21]⟩, ⟨[21], [], [22]⟩, ⟨[0, 22], [], [23]⟩, ⟨[22, 23, 6], [], [24]⟩, ⟨[1, 22], [], [25]⟩, ⟨[22, 24, 25], [], [26]⟩, ⟨[22, 26], [], [27]⟩, ⟨[27], [], [28]⟩, ⟨[2, 28], [], [29]⟩, ⟨[28, 29], [], [30]⟩, ⟨[28, 30], [], [31]⟩, ⟨[31], [], [32]⟩, ⟨[31], [], [33]⟩, ⟨[31], [], [34]⟩, ⟨[31], [], [35]⟩, ⟨[31], [], [36]⟩, ⟨[31], [], [37]⟩, ⟨[31], [], [38]⟩, ⟨[31], [], [39]⟩, ⟨[31], [], [40]⟩, ⟨[28, 31, 40], [], [41]⟩, ⟨[28, 41], [], [42]⟩, ⟨[42], [], [43]⟩, ⟨[0, 43], [], [44]⟩, ⟨[43, 44, 6], [], [45]⟩, ⟨[4, 43], [], [46]⟩, ⟨[0, 43], [], [47]⟩, ⟨[43, 47, 6], [], [48]⟩, ⟨[43, 46, 48, 18], [], [49]⟩, ⟨[43, 49, 18], [], [50]⟩, ⟨[43, 45, 50], [], [51]⟩, ⟨[43, 51], [], [52]⟩, ⟨[52], [], [53]⟩, ⟨[53], [], [54]⟩, ⟨[53], [], [55]⟩, ⟨[53], [], [56]⟩, ⟨[53, 56], [], [57]⟩, ⟨[57], [], [58]⟩, ⟨[58], [], [59]⟩, ⟨[58], [], [60]⟩, ⟨[58], [], [61]⟩, ⟨[58], [], [62]⟩, ⟨[58], [], [63]⟩, ⟨[58], [], [64]⟩, ⟨[58], [], [65]⟩, ⟨[58], [], [66]⟩, ⟨[58, 66], [], [67]⟩]) (ini := [0, 1, 2, 3, 4, 5, 6, 7, 8, 9, 10, 11, 12, 13, 14, 15, 16, 17, 18]) (fin := [2, 5, 4, 1, 3, 0, 67, 6, 7, 8, 9, 10, 11, 12, 13, 14, 15, 16, 17, 18]) (bf := [[], [0], [0, 1], [0, 1, 2], [0, 1, 2, 3], [0, 1, 2, 3, 4], [0, 1, 2, 3], [0, 1, 2, 3, 4, 5, 6], [0, 1, 2, 3, 4, 5, 6, 7], [0, 1, 2, 3, 4, 5, 6, 7, 8], [0, 1, 2, 3, 4, 5, 6, 7, 8, 9], [0, 1, 2, 3, 4, 5, 6, 7, 8, 9, 10], [0, 1, 2, 3, 4, 5, 6, 7, 8, 9, 10, 11], [0, 1, 2, 3, 4, 5, 6, 7, 8, 9, 10, 11, 12], [0, 1, 2, 3, 4, 5, 6, 7, 8, 9, 10, 11, 12, 13], [0, 1, 2, 3, 4, 5, 6, 7, 8, 9, 10, 11, 12], [0, 1, 2, 3, 4, 5, 6, 7, 8, 9, 10, 11, 12], [0, 1, 2, 3, 4, 5, 6, 7, 8, 9, 10, 11, 12, 16], [0, 1, 2, 3, 4, 5, 6, 7, 8, 9, 10, 11, 12, 15, 16, 17], [0, 1, 2, 3, 4, 5, 6, 7, 8, 9, 10, 11, 12, 15, 16, 17, 18], [0, 1, 2, 3, 4, 5, 6, 7, 8, 9, 10, 11, 12, 15, 16, 17, 18, 19], [0, 1, 2, 3, 4, 5, 6, 7, 8, 9, 10, 11, 12, 13, 14, 15, 16, 17, 18, 19, 20], [0, 1, 2, 3, 4, 5, 6, 7, 8, 9, 10, 11, 12, 13, 14, 15, 16, 17, 18, 19, 20, 21], [0, 1, 2, 3, 4, 5, 6, 7, 8, 9, 10, 11, 12, 13, 14, 15, 16, 17, 18, 19, 20, 21, 22], [0, 1, 2, 3, 4, 5, 6, 7, 8, 9, 10, 11, 12, 13, 14, 15, 16, 17, 18, 19, 20, 21, 22, 23], [0, 1, 2, 3, 4, 5, 6, 7, 8, 9, 10, 11, 12, 13, 14, 15, 16, 17, 18, 19, 20, 21, 22, 23, 24], [0, 1, 2, 3, 4, 5, 6, 7, 8, 9, 10, 11, 12, 13, 14, 15, 16, 17, 18, 19, 20, 21, 22, 23, 24, 25], [0, 1, 2, 3, 4, 5, 6, 7, 8, 9, 10, 11, 12, 13, 14, 15, 16, 17, 18, 19, 20, 21, 22, 23, 24], [0, 1, 2, 3, 4, 5, 6, 7, 8, 9, 10, 11, 12, 13, 14, 15, 16, 17, 18, 19, 20, 21, 22, 23, 24], [0, 1, 2, 3, 4, 5, 6, 7, 8, 9, 10, 11, 12, 13, 14, 15, 16, 17, 18, 19, 20, 21, 22, 23, 24, 28], [0, 1, 2, 3, 4, 5, 6, 7, 8, 9, 10, 11, 12, 13, 14, 15, 16, 17, 18, 19, 20, 21, 22, 23, 24, 27, 28, 29], [0, 1, 2, 3, 4, 5, 6, 7, 8, 9, 10, 11, 12, 13, 14, 15, 16, 17, 18, 19, 20, 21, 22, 23, 24, 27, 28, 29, 30], [0, 1, 2, 3, 4, 5, 6, 7, 8, 9, 10, 11, 12, 13, 14, 15, 16, 17, 18, 19, 20, 21, 22, 23, 24, 25, 26, 27, 28, 29, 30, 31], [0, 1, 2, 3, 4, 5, 6, 7, 8, 9, 10, 11, 12, 13, 14, 15, 16, 17, 18, 19, 20, 21, 22, 23, 24, 25, 26, 27, 28, 29, 30, 31, 32], [0, 1, 2, 3, 4, 5, 6, 7, 8, 9, 10, 11, 12, 13, 14, 15, 16, 17, 18, 19, 20, 21, 22, 23, 24, 25, 26, 27, 28, 29, 30, 31, 32, 33], [0, 1, 2, 3, 4, 5, 6, 7, 8, 9, 10, 11, 12, 13, 14, 15, 16, 17, 18, 19, 20, 21, 22, 23, 24, 25, 26, 27, 28, 29, 30, 31, 32, 33, 34], [0, 1, 2, 3, 4, 5, 6, 7, 8, 9, 10, 11, 12, 13, 14, 15, 16, 17, 18, 19, 20, 21, 22, 23, 24, 25, 26, 27, 28, 29, 30, 31, 32, 33, 34, 35], [0, 1, 2, 3, 4, 5, 6, 7, 8, 9, 10, 11, 12, 13, 14, 15, 16, 17, 18, 19, 20, 21, 22, 23, 24, 25, 26, 27, 28, 29, 30, 31, 32, 33, 34, 35, 36], [0, 1, 2, 3, 4, 5, 6, 7, 8, 9, 10, 11, 12, 13, 14, 15, 16, 17, 18, 19, 20, 21, 22, 23, 24, 25, 26, 27, 28, 29, 30, 31, 32, 33, 34, 35, 36, 37], [0, 1, 2, 3, 4, 5, 6, 7, 8, 9, 10, 11, 12, 13, 14, 15, 16, 17, 18, 19, 20, 21, 22, 23, 24, 25, 26, 27, 28, 29, 30, 31, 32, 33, 34, 35, 36, 37, 38], [0, 1, 2, 3, 4, 5, 6, 7, 8, 9, 10, 11, 12, 13, 14, 15, 16, 17, 18, 19, 20, 21, 22, 23, 24, 25, 26, 27, 28, 29, 30, 31, 32, 33, 34, 35, 36, 37, 38, 39], [0, 1, 2, 3, 4, 5, 6, 7, 8, 9, 10, 11, 12, 13, 14, 15, 16, 17, 18, 19, 20, 21, 22, 23, 24, 25, 26, 27, 28, 29, 30, 31, 32, 33, 34, 35, 36, 37, 38, 39, 40], [0, 1, 2, 3, 4, 5, 6, 7, 8, 9, 10, 11, 12, 13, 14, 15, 16, 17, 18, 19, 20, 21, 22, 23, 24, 25, 26, 27, 28, 29, 30, 31, 32, 33, 34, 35, 36, 37, 38, 39], [0, 1, 2, 3, 4, 5, 6, 7, 8, 9, 10, 11, 12, 13, 14, 15, 16, 17, 18, 19, 20, 21, 22, 23, 24, 25, 26, 27, 28, 29, 30, 31, 32, 33, 34, 35, 36, 37, 38, 39, 42], [0, 1, 2, 3, 4, 5, 6, 7, 8, 9, 10, 11, 12, 13, 14, 15, 16, 17, 18, 19, 20, 21, 22, 23, 24, 25, 26, 27, 28, 29, 30, 31, 32, 33, 34, 35, 36, 37, 38, 39], [0, 1, 2, 3, 4, 5, 6, 7, 8, 9, 10, 11, 12, 13, 14, 15, 16, 17, 18, 19, 20, 21, 22, 23, 24, 25, 26, 27, 28, 29, 30, 31, 32, 33, 34, 35, 36, 37, 38, 39, 44], [0, 1, 2, 3, 4, 5, 6, 7, 8, 9, 10, 11, 12, 13, 14, 15, 16, 17, 18, 19, 20, 21, 22, 23, 24, 25, 26, 27, 28, 29, 30, 31, 32, 33, 34, 35, 36, 37, 38, 39, 42, 43, 44, 45], [0, 1, 2, 3, 4, 5, 6, 7, 8, 9, 10, 11, 12, 13, 14, 15, 16, 17, 18, 19, 20, 21, 22, 23, 24, 25, 26, 27, 28, 29, 30, 31, 32, 33, 34, 35, 36, 37, 38, 39, 40, 41, 42, 43, 44, 45, 46], [0, 1, 2, 3, 4, 5, 6, 7, 8, 9, 10, 11, 12, 13, 14, 15, 16, 17, 18, 19, 20, 21, 22, 23, 24, 25, 26, 27, 28, 29, 30, 31, 32, 33, 34, 35, 36, 37, 38, 39, 40, 41, 42, 43, 44, 45, 46, 47]]) (by kernel_rfl) (by kernel_rfl) (fun Q => by kernel_rfl) (fun x w h1 h2 => ⟨(), (), (), (), (), (), (), (), (), (), (), (), (), (), (), (), (), (), (), EnvAll.of h1 ⟨rfl, rfl, rfl, rfl, rfl, rfl, rfl, rfl, rfl, rfl, trivial⟩, h2⟩) (fun Q => by kernel_rfl) ⟨?_, ?_, ?_, ?_, ?_, ?_, ?_, ?_, ?_, ?_, ?_, ?_, ?_, ?_, ?_, ?_, ?_, ?_, ?_, ?_, ?_, ?_, ?_, ?_, ?_, ?_, ?_, ?_, ?_, ?_, ?_, ?_, ?_, ?_, ?_, ?_, ?_, ?_, ?_, ?_, ?_, ?_, ?_, ?_, ?_, ?_, ?_, ?_, ?_, trivial⟩ ?_
          · rintro Fr _
            refine SO.v rfl (opv_fieldAddr Try.underlying63 rfl Try.sizeOf3 rfl rfl) ?_
            exact SO.nilZ fun a w h1 h2 h3 h4 h5 => PZ.of h1 h3 h5 (.cons () (.cons () (.nil ⟨EnvAll.of h2 ⟨rfl, rfl, trivial⟩, h4⟩)))
          · rintro Fr _ _
            refine SO.load1 rfl Try.isAgg3 rfl rfl ?_
            exact SO.nilZ fun a w h1 h2 h3 h4 h5 => PZ.of h1 h3 h5 (.cons () (.cons () (.cons () (.nil ⟨EnvAll.of h2 ⟨rfl, rfl, trivial⟩, h4⟩))))
          · rintro Fr _
            refine SO.v rfl (opv_lss rfl rfl) ?_
            exact SO.nilZ fun a w h1 h2 h3 h4 h5 => PZ.of h1 h3 h5 (.cons () (.cons () (.nil ⟨EnvAll.of h2 ⟨rfl, rfl, trivial⟩, h4⟩)))
          · rintro Fr _
            refine SO.v rfl (opv_move rfl) ?_
            exact SO.nilZ fun a w h1 h2 h3 h4 h5 => PZ.of h1 h3 h5 (.cons () (.cons () (.nil ⟨EnvAll.of h2 ⟨rfl, rfl, trivial⟩, h4⟩)))
          · rintro Fr _ _
            refine SO.takeT rfl rfl rfl b120 ?_
            refine SO.v rfl (opv_fieldAddr Try.underlying63 rfl Try.sizeOf3 rfl rfl) ?_
            exact SO.nilZ fun a w h1 h2 h3 h4 h5 => PZ.of h1 h3 h5 (.cons () (.cons () (.cons () (.nil ⟨EnvAll.of h2 ⟨rfl, rfl, rfl, trivial⟩, h4⟩))))
          · rintro Fr _ _ _
            refine SO.takeT rfl rfl rfl b120 ?_
            refine SO.load1 rfl Try.isAgg3 rfl rfl ?_
            exact SO.nilZ fun a w h1 h2 h3 h4 h5 => PZ.of h1 h3 h5 (.cons () (.cons () (.cons () (.cons () (.nil ⟨EnvAll.of h2 ⟨rfl, rfl, rfl, trivial⟩, h4⟩)))))
          · rintro Fr _ _
            refine SO.takeT rfl rfl rfl b120 ?_
            refine SO.v rfl (opv_move rfl) ?_
            exact SO.nilZ fun a w h1 h2 h3 h4 h5 => PZ.of h1 h3 h5 (.cons () (.cons () (.cons () (.nil ⟨EnvAll.of h2 ⟨rfl, rfl, rfl, trivial⟩, h4⟩))))
          · rintro Fr _ _ _
            refine SO.takeT rfl rfl rfl b120 ?_
            refine SO.v rfl (opv_geq rfl rfl) ?_
            exact SO.nilZ fun a w h1 h2 h3 h4 h5 => PZ.of h1 h3 h5 (.cons () (.cons () (.cons () (.cons () (.nil ⟨EnvAll.of h2 ⟨rfl, rfl, rfl, rfl, trivial⟩, h4⟩)))))
          · rintro Fr _ _
            refine SO.v rfl (opv_pick_f' b120 rfl rfl) ?_
            exact SO.nilZ fun a w h1 h2 h3 h4 h5 => PZ.of h1 h3 h5 (.cons () (.cons () (.cons () (.nil ⟨EnvAll.of h2 ⟨rfl, rfl, rfl, trivial⟩, h4⟩))))
          · rintro Fr _
            refine SO.v rfl (opv_move rfl) ?_
            exact SO.nilZ fun a w h1 h2 h3 h4 h5 => PZ.of h1 h3 h5 (.cons () (.cons () (.nil ⟨EnvAll.of h2 ⟨rfl, rfl, trivial⟩, h4⟩)))
          · rintro Fr _ _
            refine SO.takeT rfl rfl rfl b121 ?_
            refine SO.v rfl (opv_move rfl) ?_
            exact SO.nilZ fun a w h1 h2 h3 h4 h5 => PZ.of h1 h3 h5 (.cons () (.cons () (.cons () (.nil ⟨EnvAll.of h2 ⟨rfl, rfl, rfl, trivial⟩, h4⟩))))
          · rintro Fr _ _
            refine SO.takeT rfl rfl rfl b121 ?_
            refine SO.v rfl (opv_gtr rfl rfl) ?_
            exact SO.nilZ fun a w h1 h2 h3 h4 h5 => PZ.of h1 h3 h5 (.cons () (.cons () (.cons () (.nil ⟨EnvAll.of h2 ⟨rfl, rfl, rfl, trivial⟩, h4⟩))))
          · rintro Fr _ _
            refine SO.takeT rfl rfl rfl b121 ?_
            refine SO.v rfl (opv_move rfl) ?_
            exact SO.nilZ fun a w h1 h2 h3 h4 h5 => PZ.of h1 h3 h5 (.cons () (.cons () (.cons () (.nil ⟨EnvAll.of h2 ⟨rfl, rfl, rfl, trivial⟩, h4⟩))))
          · rintro Fr _
            refine SO.passF rfl rfl rfl b122 rfl rfl ?_
            exact SO.nilZ fun a w h1 h2 h3 h4 h5 => PZ.of h1 h3 h5 (.cons () (.cons () (.nil ⟨EnvAll.of h2 ⟨rfl, rfl, trivial⟩, h4⟩)))
          · rintro Fr _
            refine SO.passF rfl rfl rfl b122 rfl rfl ?_
            exact SO.nilZ fun a w h1 h2 h3 h4 h5 => PZ.of h1 h3 h5 (.cons () (.cons () (.nil ⟨EnvAll.of h2 ⟨rfl, rfl, trivial⟩, h4⟩)))
          · rintro Fr _
            refine SO.passF rfl rfl rfl b122 rfl rfl ?_
            exact SO.nilZ fun a w h1 h2 h3 h4 h5 => PZ.of h1 h3 h5 (.cons () (.cons () (.nil ⟨EnvAll.of h2 ⟨rfl, rfl, trivial⟩, h4⟩)))
          · rintro Fr _
            refine SO.passF rfl rfl rfl b122 rfl rfl ?_
            exact SO.nilZ fun a w h1 h2 h3 h4 h5 => PZ.of h1 h3 h5 (.cons () (.cons () (.nil ⟨EnvAll.of h2 ⟨rfl, rfl, trivial⟩, h4⟩)))
          · rintro Fr _
            refine SO.passF rfl rfl rfl b122 rfl rfl ?_
            exact SO.nilZ fun a w h1 h2 h3 h4 h5 => PZ.of h1 h3 h5 (.cons () (.cons () (.nil ⟨EnvAll.of h2 ⟨rfl, rfl, trivial⟩, h4⟩)))
          · rintro Fr _
            refine SO.passF rfl rfl rfl b122 rfl rfl ?_
            exact SO.nilZ fun a w h1 h2 h3 h4 h5 => PZ.of h1 h3 h5 (.cons () (.cons () (.nil ⟨EnvAll.of h2 ⟨rfl, rfl, trivial⟩, h4⟩)))
          · rintro Fr _
            refine SO.passF rfl rfl rfl b122 rfl rfl ?_
            exact SO.nilZ fun a w h1 h2 h3 h4 h5 => PZ.of h1 h3 h5 (.cons () (.cons () (.nil ⟨EnvAll.of h2 ⟨rfl, rfl, trivial⟩, h4⟩)))
          · rintro Fr _
            refine SO.passF rfl rfl rfl b122 rfl rfl ?_
            exact SO.nilZ fun a w h1 h2 h3 h4 h5 => PZ.of h1 h3 h5 (.cons () (.cons () (.nil ⟨EnvAll.of h2 ⟨rfl, rfl, trivial⟩, h4⟩)))
          · rintro Fr _
            refine SO.passF rfl rfl rfl b122 rfl rfl ?_
            exact SO.nilZ fun a w h1 h2 h3 h4 h5 => PZ.of h1 h3 h5 (.cons () (.cons () (.nil ⟨EnvAll.of h2 ⟨rfl, rfl, trivial⟩, h4⟩)))
          · rintro Fr _ _ _
            refine SO.takeT rfl rfl rfl b121 ?_
            refine SO.v rfl (opv_pick_f' b122 rfl rfl) ?_
            exact SO.nilZ fun a w h1 h2 h3 h4 h5 => PZ.of h1 h3 h5 (.cons () (.cons () (.cons () (.cons () (.nil ⟨EnvAll.of h2 ⟨rfl, rfl, rfl, rfl, trivial⟩, h4⟩)))))
          · rintro Fr _ _
            refine SO.v rfl (opv_pick_f' b121 rfl rfl) ?_
            exact SO.nilZ fun a w h1 h2 h3 h4 h5 => PZ.of h1 h3 h5 (.cons () (.cons () (.cons () (.nil ⟨EnvAll.of h2 ⟨rfl, rfl, rfl, trivial⟩, h4⟩))))
          · rintro Fr _
            refine SO.v rfl (opv_move rfl) ?_
            exact SO.nilZ fun a w h1 h2 h3 h4 h5 => PZ.of h1 h3 h5 (.cons () (.cons () (.nil ⟨EnvAll.of h2 ⟨rfl, rfl, trivial⟩, h4⟩)))
          · rintro Fr _ _
            refine SO.takeT rfl rfl rfl rfl ?_
            refine SO.v rfl (opv_fieldAddr Try.underlying63 rfl Try.sizeOf35 rfl rfl) ?_
            exact SO.nilZ fun a w h1 h2 h3 h4 h5 => PZ.of h1 h3 h5 (.cons () (.cons () (.cons () (.nil ⟨EnvAll.of h2 ⟨rfl, rfl, rfl, trivial⟩, h4⟩))))
          · rintro Fr _ _ _
            refine SO.takeT rfl rfl rfl rfl ?_
            refine SO.load1 rfl Try.isAgg35 rfl rfl ?_
            exact SO.nilZ fun a w h1 h2 h3 h4 h5 => PZ.of h1 h3 h5 (.cons () (.cons () (.cons () (.cons () (.nil ⟨EnvAll.of h2 ⟨rfl, rfl, rfl, trivial⟩, h4⟩)))))
          · rintro Fr _ _
            refine SO.takeT rfl rfl rfl rfl ?_
            refine SO.v rfl (opv_move rfl) ?_
            exact SO.nilZ fun a w h1 h2 h3 h4 h5 => PZ.of h1 h3 h5 (.cons () (.cons () (.cons () (.nil ⟨EnvAll.of h2 ⟨rfl, rfl, rfl, trivial⟩, h4⟩))))
          · rintro Fr _ _
            refine SO.takeT rfl rfl rfl rfl ?_
            refine SO.v rfl (opv_fieldAddr Try.underlying63 rfl Try.sizeOf3 rfl rfl) ?_
            exact SO.nilZ fun a w h1 h2 h3 h4 h5 => PZ.of h1 h3 h5 (.cons () (.cons () (.cons () (.nil ⟨EnvAll.of h2 ⟨rfl, rfl, rfl, trivial⟩, h4⟩))))
          · rintro Fr _ _ _
            refine SO.takeT rfl rfl rfl rfl ?_
            refine SO.load1 rfl Try.isAgg3 rfl rfl ?_
            exact SO.nilZ fun a w h1 h2 h3 h4 h5 => PZ.of h1 h3 h5 (.cons () (.cons () (.cons () (.cons () (.nil ⟨EnvAll.of h2 ⟨rfl, rfl, rfl, trivial⟩, h4⟩)))))
          · rintro Fr _ _ _ _
            refine SO.takeT rfl rfl rfl rfl ?_
            refine SO.v rfl (opv_idx Try.underlying48 Try.sizeOf35 hF0 rfl rfl hx131) ?_
            exact SO.nilZ fun a w h1 h2 h3 h4 h5 => PZ.of2 (Y := fun Q => ∃ (_ _ _ _ _ : Unit), Q [(176, .bool false), (179, v0), (181, .int .i64 x117.Cell), (182, idxp v0 (x117.Cell.toNat * (ekI .u64).sz))] [F]) (fun Q => by kernel_rfl) h1 h3 h5 ⟨(), (), (), (), (), EnvAll.of h2 ⟨rfl, rfl, rfl, rfl, trivial⟩, h4⟩
          · rintro Fr _ _ _
            refine SO.takeT rfl rfl rfl rfl ?_
            refine SO.loadI1 (j := 0) rfl Try.isAgg35 (Rd.head hF0) hx131 rfl rfl rfl rfl ?_
            exact SO.nilZ fun a w h1 h2 h3 h4 h5 => PZ.of h1 h3 h5 (.cons () (.cons () (.cons () (.cons () (.nil ⟨EnvAll.of h2 ⟨rfl, rfl, rfl, trivial⟩, h4⟩)))))
          · rintro Fr _ _ _
            refine SO.takeT rfl rfl rfl rfl ?_
            refine SO.v rfl (opv_neq rfl rfl) ?_
            exact SO.nilZ fun a w h1 h2 h3 h4 h5 => PZ.of h1 h3 h5 (.cons () (.cons () (.cons () (.cons () (.nil ⟨EnvAll.of h2 ⟨rfl, rfl, rfl, rfl, trivial⟩, h4⟩)))))
          · rintro Fr _ _
            refine SO.v rfl (opv_pick_ff rfl rfl) ?_
            exact SO.nilZ fun a w h1 h2 h3 h4 h5 => PZ.of h1 h3 h5 (.cons () (.cons () (.cons () (.nil ⟨EnvAll.of h2 ⟨rfl, rfl, rfl, trivial⟩, h4⟩))))
          · rintro Fr _
            refine SO.v rfl (opv_move rfl) ?_
            exact SO.nilZ fun a w h1 h2 h3 h4 h5 => PZ.of h1 h3 h5 (.cons () (.cons () (.nil ⟨EnvAll.of h2 ⟨rfl, rfl, trivial⟩, h4⟩)))
          · rintro Fr _
            refine SO.passF rfl rfl rfl b132 rfl rfl ?_
            exact SO.nilZ fun a w h1 h2 h3 h4 h5 => PZ.of h1 h3 h5 (.cons () (.cons () (.nil ⟨EnvAll.of h2 ⟨rfl, rfl, trivial⟩, h4⟩)))
          · rintro Fr _
            refine SO.passF rfl rfl rfl b132 rfl rfl ?_
            exact SO.nilZ fun a w h1 h2 h3 h4 h5 => PZ.of h1 h3 h5 (.cons () (.cons () (.nil ⟨EnvAll.of h2 ⟨rfl, rfl, trivial⟩, h4⟩)))
          · rintro Fr _
            refine SO.passF rfl rfl rfl b132 rfl rfl ?_
            exact SO.nilZ fun a w h1 h2 h3 h4 h5 => PZ.of h1 h3 h5 (.cons () (.cons () (.nil ⟨EnvAll.of h2 ⟨rfl, rfl, trivial⟩, h4⟩)))
          · rintro Fr _ _
            refine SO.v rfl (opv_pick_t' b132 rfl rfl) ?_
            exact SO.nilZ fun a w h1 h2 h3 h4 h5 => PZ.of h1 h3 h5 (.cons () (.cons () (.cons () (.nil ⟨EnvAll.of h2 ⟨rfl, rfl, rfl, trivial⟩, h4⟩))))
          · rintro Fr _
            refine SO.v rfl (opv_move rfl) ?_
            exact SO.nilZ fun a w h1 h2 h3 h4 h5 => PZ.of h1 h3 h5 (.cons () (.cons () (.nil ⟨EnvAll.of h2 ⟨rfl, rfl, trivial⟩, h4⟩)))
          · rintro Fr _
            refine SO.passF rfl rfl rfl rfl rfl rfl ?_
            exact SO.nilZ fun a w h1 h2 h3 h4 h5 => PZ.of h1 h3 h5 (.cons () (.cons () (.nil ⟨EnvAll.of h2 ⟨rfl, rfl, trivial⟩, h4⟩)))
          · rintro Fr _
            refine SO.passF rfl rfl rfl rfl rfl rfl ?_
            exact SO.nilZ fun a w h1 h2 h3 h4 h5 => PZ.of h1 h3 h5 (.cons () (.cons () (.nil ⟨EnvAll.of h2 ⟨rfl, rfl, trivial⟩, h4⟩)))
          · rintro Fr _
            refine SO.passF rfl rfl rfl rfl rfl rfl ?_
            exact SO.nilZ fun a w h1 h2 h3 h4 h5 => PZ.of h1 h3 h5 (.cons () (.cons () (.nil ⟨EnvAll.of h2 ⟨rfl, rfl, trivial⟩, h4⟩)))
          · rintro Fr _
            refine SO.passF rfl rfl rfl rfl rfl rfl ?_
            exact SO.nilZ fun a w h1 h2 h3 h4 h5 => PZ.of h1 h3 h5 (.cons () (.cons () (.nil ⟨EnvAll.of h2 ⟨rfl, rfl, trivial⟩, h4⟩)))
          · rintro Fr _
            refine SO.passF rfl rfl rfl rfl rfl rfl ?_
            exact SO.nilZ fun a w h1 h2 h3 h4 h5 => PZ.of h1 h3 h5 (.cons () (.cons () (.nil ⟨EnvAll.of h2 ⟨rfl, rfl, trivial⟩, h4⟩)))
          · rintro Fr _
            refine SO.passF rfl rfl rfl rfl rfl rfl ?_
            exact SO.nilZ fun a w h1 h2 h3 h4 h5 => PZ.of h1 h3 h5 (.cons () (.cons () (.nil ⟨EnvAll.of h2 ⟨rfl, rfl, trivial⟩, h4⟩)))
          · rintro Fr _
            refine SO.passF rfl rfl rfl rfl rfl rfl ?_
            exact SO.nilZ fun a w h1 h2 h3 h4 h5 => PZ.of h1 h3 h5 (.cons () (.cons () (.nil ⟨EnvAll.of h2 ⟨rfl, rfl, trivial⟩, h4⟩)))
          · rintro Fr _
            refine SO.passF rfl rfl rfl rfl rfl rfl ?_
            exact SO.nilZ fun a w h1 h2 h3 h4 h5 => PZ.of h1 h3 h5 (.cons () (.cons () (.nil ⟨EnvAll.of h2 ⟨rfl, rfl, trivial⟩, h4⟩)))
          · rintro Fr _ _
            refine SO.v rfl (opv_pick_tt rfl rfl) ?_
            exact SO.nilZ fun a w h1 h2 h3 h4 h5 => PZ.of h1 h3 h5 (.cons () (.cons () (.cons () (.nil ⟨EnvAll.of h2 ⟨rfl, rfl, rfl, trivial⟩, h4⟩))))
          rintro _ _ _ _ _ _ _ _ _ _ _ _ _ _ _ _ _ _ _ _
          refine S.to (ρ' := [(21, .int .i64 x21_3), (20, v113), (4, .bool false), (5, .bool t2), (11, v30), (18, v89), (0, v0), (6, .int .i64 (a0.length : Int)), (19, v100), (22, bp b119 0), (200, .bool true)]) ⟨rfl, rfl, rfl, rfl, rfl, rfl, rfl, rfl, rfl, rfl, rfl, trivial⟩ ?_
          cases h
          refine S.b12 ?_
          refine S.b12 ?_
          refine S.b12 ?_
          refine S.b12 ?_
          refine S.b12 ?_
          refine S.b12 ?_
          refine S.b12 ?_
          refine S.b12 ?_
          refine S.b12 ?_
          refine S.b12 ?_
          refine S.b12 ?_
          refine S.b12 ?_
          refine S.b12 ?_
          refine S.to ?_ (hk4 () trivial)
          exact ⟨rfl, rfl, rfl, rfl, rfl, rfl, rfl, rfl, rfl, rfl, rfl, trivial⟩
        replace h := cond_f b132 h
        rcases bool_or (x117.Version != 0) with b133 | b133
        · replace h := cond_t b133 h
          refine S.draw2 (Y := fun Q => ∃ (_ _ _ _ _ _ _ _ _ _ _ _ _ _ _ _ _ _ _ : Unit), Q [(22, bp b119 0), (6, .int .i64 (a0.length : Int)), (21, .int .i64 x21_3), (19, v100), (0, v0), (20, v113), (4, .bool false), (5, .bool t2), (11, v30), (18, v89)] [Box b119 [.int .i64 x117.Cell, .int .u32 x117.Version, .int .u64 x117.Old, .int .u64 x117.New, .bool x117.Write], Own 35 (ekI .u64) v113 qv113_3, Own 63 ek_tx_Entry v100 t97, Box b15 [.int .i64 p98.cells, u102_l, u102_out, .int .i64 p98.lack, .bool p98.fine], MapO (aggE ek_api_Cell) u102_l p98.l, MapO (Value.int .u64) u102_out p98.out, Own 35 (ekI .u64) v89 s93, Own 4 ekB v30 qv30_e2, Box b34 [.int .u64 y34_0_e2], Own 38 ek_api_Cell vy10_0_e1 y10_0_e1, Box b10 [vy10_0_e1, .int .u32 y10_1_e1], Box b1 [v1], F]) (Z := fun Q => ∀ (_ _ _ _ _ _ _ _ _ _ _ _ _ _ _ _ _ _ _ _ : Unit), Q [(21, .int .i64 x21_3), (20, v113), (4, .bool false), (5, .bool t2), (11, v30), (18, v89), (0, v0), (6, .int .i64 (a0.length : Int)), (19, v100), (22, bp b119 0), (200, .bool true)] [Box b119 [.int .i64 x117.Cell, .int .u32 x117.Version, .int .u64 x117.Old, .int .u64 x117.New, .bool x117.Write], Own 35 (ekI .u64) v113 qv113_3, Own 63 ek_tx_Entry v100 t97, Box b15 [.int .i64 p98.cells, u102_l, u102_out, .int .i64 p98.lack, .bool p98.fine], MapO (aggE ek_api_Cell) u102_l p98.l, MapO (Value.int .u64) u102_out p98.out, Own 35 (ekI .u64) v89 s93, Own 4 ekB v30 qv30_e2, Box b34 [.int .u64 y34_0_e2], Own 38 ek_api_Cell vy10_0_e1 y10_0_e1, Box b10 [vy10_0_e1, .int .u32 y10_1_e1], Box b1 [v1], F]) (T := [tS 22 (bp b119 0), tS 6 (.int .i64 (a0.length : Int)), tS 21 (.int .i64 x21_3), tS 19 (v100), tS 0 (v0), tE [(20, v113), (4, .bool false), (5, .bool t2), (11, v30), (18, v89)], tR (Box b119 [.int .i64 x117.Cell, .int .u32 x117.Version, .int .u64 x117.Old, .int .u64 x117.New, .bool x117.Write]), tR (Own 35 (ekI .u64) v113 qv113_3), tR (Own 63 ek_tx_Entry v100 t97), tR (Box b15 [.int .i64 p98.cells, u102_l, u102_out, .int .i64 p98.lack, .bool p98.fine]), tR (MapO (aggE ek_api_Cell) u102_l p98.l), tR (MapO (Value.int .u64) u102_out p98.out), tR (Own 35 (ekI .u64) v89 s93), tR (Own 4 ekB v30 qv30_e2), tR (Box b34 [.int .u64 y34_0_e2]), tR (Own 38 ek_api_Cell vy10_0_e1 y10_0_e1), tR (Box b10 [vy10_0_e1, .int .u32 y10_1_e1]), tR (Box b1 [v1]), tR (F), tS 152 (bp b119 0), tS 153 (.int .i64 x117.Cell), tS 154 (.bool (decide (x117.Cell < 0))), tS 155 (.bool (decide (x117.Cell < 0))), tS 156 (bp b119 0), tS 157 (.int .i64 x117.Cell), tS 158 (.int .i64 (a0.length : Int)), tS 159 (.bool (decide ((a0.length : Int) ≤ x117.Cell))), tS 160 (.bool (decide ((a0.length : Int) ≤ x117.Cell))), tS 161 (.bool (decide ((a0.length : Int) ≤ x117.Cell))), tS 162 (.int .i64 x21_3), tS 163 (.bool (decide (0 < x21_3))), tS 164 (.bool (decide (0 < x21_3))), tS 165 (undef), tS 166 (undef), tS 167 (undef), tS 168 (undef), tS 169 (undef), tS 170 (undef), tS 171 (undef), tS 172 (undef), tS 173 (undef), tS 174 (.bool false), tS 175 (.bool false), tS 176 (.bool false), tS 177 (bp b119 2), tS 178 (.int .u64 x117.Old), tS 179 (v0), tS 180 (bp b119 0), tS 181 (.int .i64 x117.Cell), tS 182 (idxp v0 (x117.Cell.toNat * (ekI .u64).sz)), tS 183 (.int .u64 x130), tS 184 (.bool (x117.Old != x130)), tS 185 (.bool (x117.Old != x130)), tS 186 (.bool (x117.Old != x130)), tS 187 (bp b119 1), tS 188 (.int .u32 x117.Version), tS 189 (.bool (x117.Version != 0)), tS 190 (.bool (x117.Version != 0)), tS 191 (.bool (x117.Version != 0)), tS 192 (undef), tS 193 (undef), tS 194 (undef), tS 195 (undef), tS 196 (undef), tS 197 (undef), tS 198 (undef), tS 199 (undef), tS 200 (.bool true)]) (D := [⟨[0], [], [19]⟩, ⟨[19, 6], [], [20]⟩, ⟨[20], [], [21]⟩, ⟨[21], [], [22]⟩, ⟨[0, 22], [], [23]⟩, ⟨[22, 23, 6], [], [24]⟩, ⟨[1, 22], [], [25]⟩, ⟨[22, 24, 25], [], [26]⟩, ⟨[22, 26], [], [27]⟩, ⟨[27], [], [28]⟩, ⟨[2, 28], [], [29]⟩, ⟨[28, 29], [], [30]⟩, ⟨[28, 30], [], [31]⟩, ⟨[31], [], [32]⟩, ⟨[31], [], [33]⟩, ⟨[31], [], [34]⟩, ⟨[31], [], [35]⟩, ⟨[31], [], [36]⟩, ⟨[31], [], [37]⟩, ⟨[31], [], [38]⟩, ⟨[31], [], [39]⟩, ⟨[31], [], [40]⟩, ⟨[28, 31, 40], [], [41]⟩, ⟨[28, 41], [], [42]⟩, ⟨[42], [], [43]⟩, ⟨[0, 43], [], [44]⟩, ⟨[43, 44, 6], [], [45]⟩, ⟨[4, 43], [], [46]⟩, ⟨[0, 43], [], [47]⟩, ⟨[43, 47, 6], [], [48]⟩, ⟨[43, 46, 48, 18], [], [49]⟩, ⟨[43, 49, 18], [], [50]⟩, ⟨[43, 45, 50], [], [51]⟩, ⟨[43, 51], [], [52]⟩, ⟨[52], [], [53]⟩, ⟨[0, 53], [], [54]⟩, ⟨[53, 54, 6], [], [55]⟩, ⟨[53, 55], [], [56]⟩, ⟨[53, 56], [], [57]⟩, ⟨[57], [], [58]⟩, ⟨[58], [], [59]⟩, ⟨[58], [], [60]⟩, ⟨[58], [], [61]⟩, ⟨[58], [], [62]⟩, ⟨[58], [], [63]⟩, ⟨[58], [], [64]⟩, ⟨[58], [], [65]⟩, ⟨[58], [], [66]⟩, ⟨[58, 66], [], [67]⟩]) (ini := [0, 1, 2, 3, 4, 5, 6, 7, 8, 9, 10, 11, 12, 13, 14, 15, 16, 17, 18]) (fin := [2, 5, 4, 1, 3, 0, 67, 6, 7, 8, 9, 10, 11, 12, 13, 14, 15, 16, 17, 18]) (bf := [[], [0], [0, 1], [0, 1, 2], [0, 1, 2, 3], [0, 1, 2, 3, 4], [0, 1, 2, 3], [0, 1, 2, 3, 4, 5, 6], [0, 1, 2, 3, 4, 5, 6, 7], [0, 1, 2, 3, 4, 5, 6, 7, 8], [0, 1, 2, 3, 4, 5, 6, 7, 8, 9], [0, 1, 2, 3, 4, 5, 6, 7, 8, 9, 10], [0, 1, 2, 3, 4, 5, 6, 7, 8, 9, 10, 11], [0, 1, 2, 3, 4, 5, 6, 7, 8, 9, 10, 11, 12], [0, 1, 2, 3, 4, 5, 6, 7, 8, 9, 10, 11, 12, 13], [0, 1, 2, 3, 4, 5, 6, 7, 8, 9, 10, 11, 12], [0, 1, 2, 3, 4, 5, 6, 7, 8, 9, 10, 11, 12], [0, 1, 2, 3, 4, 5, 6, 7, 8, 9, 10, 11, 12, 16], [0, 1, 2, 3, 4, 5, 6, 7, 8, 9, 10, 11, 12, 15, 16, 17], [0, 1, 2, 3, 4, 5, 6, 7, 8, 9, 10, 11, 12, 15, 16, 17, 18], [0, 1, 2, 3, 4, 5, 6, 7, 8, 9, 10, 11, 12, 15, 16, 17, 18, 19], [0, 1, 2, 3, 4, 5, 6, 7, 8, 9, 10, 11, 12, 13, 14, 15, 16, 17, 18, 19, 20], [0, 1, 2, 3, 4, 5, 6, 7, 8, 9, 10, 11, 12, 13, 14, 15, 16, 17, 18, 19, 20, 21], [0, 1, 2, 3, 4, 5, 6, 7, 8, 9, 10, 11, 12, 13, 14, 15, 16, 17, 18, 19, 20, 21, 22], [0, 1, 2, 3, 4, 5, 6, 7, 8, 9, 10, 11, 12, 13, 14, 15, 16, 17, 18, 19, 20, 21, 22, 23], [0, 1, 2, 3, 4, 5, 6, 7, 8, 9, 10, 11, 12, 13, 14, 15, 16, 17, 18, 19, 20, 21, 22, 23, 24], [0, 1, 2, 3, 4, 5, 6, 7, 8, 9, 10, 11, 12, 13, 14, 15, 16, 17, 18, 19, 20, 21, 22, 23, 24, 25], [0, 1, 2, 3, 4, 5, 6, 7, 8, 9, 10, 11, 12, 13, 14, 15, 16, 17, 18, 19, 20, 21, 22, 23, 24], [0, 1, 2, 3, 4, 5, 6, 7, 8, 9, 10, 11, 12, 13, 14, 15, 16, 17, 18, 19, 20, 21, 22, 23, 24], [0, 1, 2, 3, 4, 5, 6, 7, 8, 9, 10, 11, 12, 13, 14, 15, 16, 17, 18, 19, 20, 21, 22, 23, 24, 28], [0, 1, 2, 3, 4, 5, 6, 7, 8, 9, 10, 11, 12, 13, 14, 15, 16, 17, 18, 19, 20, 21, 22, 23, 24, 27, 28, 29], [0, 1, 2, 3, 4, 5, 6, 7, 8, 9, 10, 11, 12, 13, 14, 15, 16, 17, 18, 19, 20, 21, 22, 23, 24, 27, 28, 29, 30], [0, 1, 2, 3, 4, 5, 6, 7, 8, 9, 10, 11, 12, 13, 14, 15, 16, 17, 18, 19, 20, 21, 22, 23, 24, 25, 26, 27, 28, 29, 30, 31], [0, 1, 2, 3, 4, 5, 6, 7, 8, 9, 10, 11, 12, 13, 14, 15, 16, 17, 18, 19, 20, 21, 22, 23, 24, 25, 26, 27, 28, 29, 30, 31, 32], [0, 1, 2, 3, 4, 5, 6, 7, 8, 9, 10, 11, 12, 13, 14, 15, 16, 17, 18, 19, 20, 21, 22, 23, 24, 25, 26, 27, 28, 29, 30, 31, 32, 33], [0, 1, 2, 3, 4, 5, 6, 7, 8, 9, 10, 11, 12, 13, 14, 15, 16, 17, 18, 19, 20, 21, 22, 23, 24, 25, 26, 27, 28, 29, 30, 31, 32, 33, 34], [0, 1, 2, 3, 4, 5, 6, 7, 8, 9, 10, 11, 12, 13, 14, 15, 16, 17, 18, 19, 20, 21, 22, 23, 24, 25, 26, 27, 28, 29, 30, 31, 32, 33, 34, 35], [0, 1, 2, 3, 4, 5, 6, 7, 8, 9, 10, 11, 12, 13, 14, 15, 16, 17, 18, 19, 20, 21, 22, 23, 24, 25, 26, 27, 28, 29, 30, 31, 32, 33, 34, 35, 36], [0, 1, 2, 3, 4, 5, 6, 7, 8, 9, 10, 11, 12, 13, 14, 15, 16, 17, 18, 19, 20, 21, 22, 23, 24, 25, 26, 27, 28, 29, 30, 31, 32, 33, 34, 35, 36, 37], [0, 1, 2, 3, 4, 5, 6, 7, 8, 9, 10, 11, 12, 13, 14, 15, 16, 17, 18, 19, 20, 21, 22, 23, 24, 25, 26, 27, 28, 29, 30, 31, 32, 33, 34, 35, 36, 37, 38], [0, 1, 2, 3, 4, 5, 6, 7, 8, 9, 10, 11, 12, 13, 14, 15, 16, 17, 18, 19, 20, 21, 22, 23, 24, 25, 26, 27, 28, 29, 30, 31, 32, 33, 34, 35, 36, 37, 38, 39], [0, 1, 2, 3, 4, 5, 6, 7, 8, 9, 10, 11, 12, 13, 14, 15, 16, 17, 18, 19, 20, 21, 22, 23, 24, 25, 26, 27, 28, 29, 30, 31, 32, 33, 34, 35, 36, 37, 38, 39, 40], [0, 1, 2, 3, 4, 5, 6, 7, 8, 9, 10, 11, 12, 13, 14, 15, 16, 17, 18, 19, 20, 21, 22, 23, 24, 25, 26, 27, 28, 29, 30, 31, 32, 33, 34, 35, 36, 37, 38, 39], [0, 1, 2, 3, 4, 5, 6, 7, 8, 9, 10, 11, 12, 13, 14, 15, 16, 17, 18, 19, 20, 21, 22, 23, 24, 25, 26, 27, 28, 29, 30, 31, 32, 33, 34, 35, 36, 37, 38, 39, 42], [0, 1, 2, 3, 4, 5, 6, 7, 8, 9, 10, 11, 12, 13, 14, 15, 16, 17, 18, 19, 20, 21, 22, 23, 24, 25, 26, 27, 28, 29, 30, 31, 32, 33, 34, 35, 36, 37, 38, 39], [0, 1, 2, 3, 4, 5, 6, 7, 8, 9, 10, 11, 12, 13, 14, 15, 16, 17, 18, 19, 20, 21, 22, 23, 24, 25, 26, 27, 28, 29, 30, 31, 32, 33, 34, 35, 36, 37, 38, 39, 44], [0, 1, 2, 3, 4, 5, 6, 7, 8, 9, 10, 11, 12, 13, 14, 15, 16, 17, 18, 19, 20, 21, 22, 23, 24, 25, 26, 27, 28, 29, 30, 31, 32, 33, 34, 35, 36, 37, 38, 39, 42, 43, 44, 45], [0, 1, 2, 3, 4, 5, 6, 7, 8, 9, 10, 11, 12, 13, 14, 15, 16, 17, 18, 19, 20, 21, 22, 23, 24, 25, 26, 27, 28, 29, 30, 31, 32, 33, 34, 35, 36, 37, 38, 39, 40, 41, 42, 43, 44, 45, 46], [0, 1, 2, 3, 4, 5, 6, 7, 8, 9, 10, 11, 12, 13, 14, 15, 16, 17, 18, 19, 20, 21, 22, 23, 24, 25, 26, 27, 28, 29, 30, 31, 32, 33, 34, 35, 36, 37, 38, 39, 40, 41, 42, 43, 44, 45, 46, 47]]) (by kernel_rfl) (by kernel_rfl) (fun Q => by kernel_rfl) (fun x w h1 h2 => ⟨(), (), (), (), (), (), (), (), (), (), (), (), (), (), (), (), (), (), (), EnvAll.of h1 ⟨rfl, rfl, rfl, rfl, rfl, rfl, rfl, rfl, rfl, rfl, trivial⟩, h2⟩) (fun Q => by kernel_rfl) ⟨?_, ?_, ?_, ?_, ?_, ?_, ?_, ?_, ?_, ?_, ?_, ?_, ?_, ?_, ?_, ?_, ?_, ?_, ?_, ?_, ?_, ?_, ?_, ?_, ?_, ?_, ?_, ?_, ?_, ?_, ?_, ?_, ?_, ?_, ?_, ?_, ?_, ?_, ?_, ?_, ?_, ?_, ?_, ?_, ?_, ?_, ?_, ?_, ?_, trivial⟩ ?_
          · rintro Fr _
            refine SO.v rfl (opv_fieldAddr Try.underlying63 rfl Try.sizeOf3 rfl rfl) ?_
            exact SO.nilZ fun a w h1 h2 h3 h4 h5 => PZ.of h1 h3 h5 (.cons () (.cons () (.nil ⟨EnvAll.of h2 ⟨rfl, rfl, trivial⟩, h4⟩)))
          · rintro Fr _ _
            refine SO.load1 rfl Try.isAgg3 rfl rfl ?_
            exact SO.nilZ fun a w h1 h2 h3 h4 h5 => PZ.of h1 h3 h5 (.cons () (.cons () (.cons () (.nil ⟨EnvAll.of h2 ⟨rfl, rfl, trivial⟩, h4⟩))))
          · rintro Fr _
            refine SO.v rfl (opv_lss rfl rfl) ?_
            exact SO.nilZ fun a w h1 h2 h3 h4 h5 => PZ.of h1 h3 h5 (.cons () (.cons () (.nil ⟨EnvAll.of h2 ⟨rfl, rfl, trivial⟩, h4⟩)))
          · rintro Fr _
            refine SO.v rfl (opv_move rfl) ?_
            exact SO.nilZ fun a w h1 h2 h3 h4 h5 => PZ.of h1 h3 h5 (.cons () (.cons () (.nil ⟨EnvAll.of h2 ⟨rfl, rfl, trivial⟩, h4⟩)))
          · rintro Fr _ _
            refine SO.takeT rfl rfl rfl b120 ?_
            refine SO.v rfl (opv_fieldAddr Try.underlying63 rfl Try.sizeOf3 rfl rfl) ?_
            exact SO.nilZ fun a w h1 h2 h3 h4 h5 => PZ.of h1 h3 h5 (.cons () (.cons () (.cons () (.nil ⟨EnvAll.of h2 ⟨rfl, rfl, rfl, trivial⟩, h4⟩))))
          · rintro Fr _ _ _
            refine SO.takeT rfl rfl rfl b120 ?_
            refine SO.load1 rfl Try.isAgg3 rfl rfl ?_
            exact SO.nilZ fun a w h1 h2 h3 h4 h5 => PZ.of h1 h3 h5 (.cons () (.cons () (.cons () (.cons () (.nil ⟨EnvAll.of h2 ⟨rfl, rfl, rfl, trivial⟩, h4⟩)))))
          · rintro Fr _ _
            refine SO.takeT rfl rfl rfl b120 ?_
            refine SO.v rfl (opv_move rfl) ?_
            exact SO.nilZ fun a w h1 h2 h3 h4 h5 => PZ.of h1 h3 h5 (.cons () (.cons () (.cons () (.nil ⟨EnvAll.of h2 ⟨rfl, rfl, rfl, trivial⟩, h4⟩))))
          · rintro Fr _ _ _
            refine SO.takeT rfl rfl rfl b120 ?_
            refine SO.v rfl (opv_geq rfl rfl) ?_
            exact SO.nilZ fun a w h1 h2 h3 h4 h5 => PZ.of h1 h3 h5 (.cons () (.cons () (.cons () (.cons () (.nil ⟨EnvAll.of h2 ⟨rfl, rfl, rfl, rfl, trivial⟩, h4⟩)))))
          · rintro Fr _ _
            refine SO.v rfl (opv_pick_f' b120 rfl rfl) ?_
            exact SO.nilZ fun a w h1 h2 h3 h4 h5 => PZ.of h1 h3 h5 (.cons () (.cons () (.cons () (.nil ⟨EnvAll.of h2 ⟨rfl, rfl, rfl, trivial⟩, h4⟩))))
          · rintro Fr _
            refine SO.v rfl (opv_move rfl) ?_
            exact SO.nilZ fun a w h1 h2 h3 h4 h5 => PZ.of h1 h3 h5 (.cons () (.cons () (.nil ⟨EnvAll.of h2 ⟨rfl, rfl, trivial⟩, h4⟩)))
          · rintro Fr _ _
            refine SO.takeT rfl rfl rfl b121 ?_
            refine SO.v rfl (opv_move rfl) ?_
            exact SO.nilZ fun a w h1 h2 h3 h4 h5 => PZ.of h1 h3 h5 (.cons () (.cons () (.cons () (.nil ⟨EnvAll.of h2 ⟨rfl, rfl, rfl, trivial⟩, h4⟩))))
          · rintro Fr _ _
            refine SO.takeT rfl rfl rfl b121 ?_
            refine SO.v rfl (opv_gtr rfl rfl) ?_
            exact SO.nilZ fun a w h1 h2 h3 h4 h5 => PZ.of h1 h3 h5 (.cons () (.cons () (.cons () (.nil ⟨EnvAll.of h2 ⟨rfl, rfl, rfl, trivial⟩, h4⟩))))
          · rintro Fr _ _
            refine SO.takeT rfl rfl rfl b121 ?_
            refine SO.v rfl (opv_move rfl) ?_
            exact SO.nilZ fun a w h1 h2 h3 h4 h5 => PZ.of h1 h3 h5 (.cons () (.cons () (.cons () (.nil ⟨EnvAll.of h2 ⟨rfl, rfl, rfl, trivial⟩, h4⟩))))
          · rintro Fr _
            refine SO.passF rfl rfl rfl b122 rfl rfl ?_
            exact SO.nilZ fun a w h1 h2 h3 h4 h5 => PZ.of h1 h3 h5 (.cons () (.cons () (.nil ⟨EnvAll.of h2 ⟨rfl, rfl, trivial⟩, h4⟩)))
          · rintro Fr _
            refine SO.passF rfl rfl rfl b122 rfl rfl ?_
            exact SO.nilZ fun a w h1 h2 h3 h4 h5 => PZ.of h1 h3 h5 (.cons () (.cons () (.nil ⟨EnvAll.of h2 ⟨rfl, rfl, trivial⟩, h4⟩)))
          · rintro Fr _
            refine SO.passF rfl rfl rfl b122 rfl rfl ?_
            exact SO.nilZ fun a w h1 h2 h3 h4 h5 => PZ.of h1 h3 h5 (.cons () (.cons () (.nil ⟨EnvAll.of h2 ⟨rfl, rfl, trivial⟩, h4⟩)))
          · rintro Fr _
            refine SO.passF rfl rfl rfl b122 rfl rfl ?_
            exact SO.nilZ fun a w h1 h2 h3 h4 h5 => PZ.of h1 h3 h5 (.cons () (.cons () (.nil ⟨EnvAll.of h2 ⟨rfl, rfl, trivial⟩, h4⟩)))
          · rintro Fr _
            refine SO.passF rfl rfl rfl b122 rfl rfl ?_
            exact SO.nilZ fun a w h1 h2 h3 h4 h5 => PZ.of h1 h3 h5 (.cons () (.cons () (.nil ⟨EnvAll.of h2 ⟨rfl, rfl, trivial⟩, h4⟩)))
          · rintro Fr _
            refine SO.passF rfl rfl rfl b122 rfl rfl ?_
            exact SO.nilZ fun a w h1 h2 h3 h4 h5 => PZ.of h1 h3 h5 (.cons () (.cons () (.nil ⟨EnvAll.of h2 ⟨rfl, rfl, trivial⟩, h4⟩)))
          · rintro Fr _
            refine SO.passF rfl rfl rfl b122 rfl rfl ?_
            exact SO.nilZ fun a w h1 h2 h3 h4 h5 => PZ.of h1 h3 h5 (.cons () (.cons () (.nil ⟨EnvAll.of h2 ⟨rfl, rfl, trivial⟩, h4⟩)))
          · rintro Fr _
            refine SO.passF rfl rfl rfl b122 rfl rfl ?_
            exact SO.nilZ fun a w h1 h2 h3 h4 h5 => PZ.of h1 h3 h5 (.cons () (.cons () (.nil ⟨EnvAll.of h2 ⟨rfl, rfl, trivial⟩, h4⟩)))
          · rintro Fr _
            refine SO.passF rfl rfl rfl b122 rfl rfl ?_
            exact SO.nilZ fun a w h1 h2 h3 h4 h5 => PZ.of h1 h3 h5 (.cons () (.cons () (.nil ⟨EnvAll.of h2 ⟨rfl, rfl, trivial⟩, h4⟩)))
          · rintro Fr _ _ _
            refine SO.takeT rfl rfl rfl b121 ?_
            refine SO.v rfl (opv_pick_f' b122 rfl rfl) ?_
            exact SO.nilZ fun a w h1 h2 h3 h4 h5 => PZ.of h1 h3 h5 (.cons () (.cons () (.cons () (.cons () (.nil ⟨EnvAll.of h2 ⟨rfl, rfl, rfl, rfl, trivial⟩, h4⟩)))))
          · rintro Fr _ _
            refine SO.v rfl (opv_pick_f' b121 rfl rfl) ?_
            exact SO.nilZ fun a w h1 h2 h3 h4 h5 => PZ.of h1 h3 h5 (.cons () (.cons () (.cons () (.nil ⟨EnvAll.of h2 ⟨rfl, rfl, rfl, trivial⟩, h4⟩))))
          · rintro Fr _
            refine SO.v rfl (opv_move rfl) ?_
            exact SO.nilZ fun a w h1 h2 h3 h4 h5 => PZ.of h1 h3 h5 (.cons () (.cons () (.nil ⟨EnvAll.of h2 ⟨rfl, rfl, trivial⟩, h4⟩)))
          · rintro Fr _ _
            refine SO.takeT rfl rfl rfl rfl ?_
            refine SO.v rfl (opv_fieldAddr Try.underlying63 rfl Try.sizeOf35 rfl rfl) ?_
            exact SO.nilZ fun a w h1 h2 h3 h4 h5 => PZ.of h1 h3 h5 (.cons () (.cons () (.cons () (.nil ⟨EnvAll.of h2 ⟨rfl, rfl, rfl, trivial⟩, h4⟩))))
          · rintro Fr _ _ _
            refine SO.takeT rfl rfl rfl rfl ?_
            refine SO.load1 rfl Try.isAgg35 rfl rfl ?_
            exact SO.nilZ fun a w h1 h2 h3 h4 h5 => PZ.of h1 h3 h5 (.cons () (.cons () (.cons () (.cons () (.nil ⟨EnvAll.of h2 ⟨rfl, rfl, rfl, trivial⟩, h4⟩)))))
          · rintro Fr _ _
            refine SO.takeT rfl rfl rfl rfl ?_
            refine SO.v rfl (opv_move rfl) ?_
            exact SO.nilZ fun a w h1 h2 h3 h4 h5 => PZ.of h1 h3 h5 (.cons () (.cons () (.cons () (.nil ⟨EnvAll.of h2 ⟨rfl, rfl, rfl, trivial⟩, h4⟩))))
          · rintro Fr _ _
            refine SO.takeT rfl rfl rfl rfl ?_
            refine SO.v rfl (opv_fieldAddr Try.underlying63 rfl Try.sizeOf3 rfl rfl) ?_
            exact SO.nilZ fun a w h1 h2 h3 h4 h5 => PZ.of h1 h3 h5 (.cons () (.cons () (.cons () (.nil ⟨EnvAll.of h2 ⟨rfl, rfl, rfl, trivial⟩, h4⟩))))
          · rintro Fr _ _ _
            refine SO.takeT rfl rfl rfl rfl ?_
            refine SO.load1 rfl Try.isAgg3 rfl rfl ?_
            exact SO.nilZ fun a w h1 h2 h3 h4 h5 => PZ.of h1 h3 h5 (.cons () (.cons () (.cons () (.cons () (.nil ⟨EnvAll.of h2 ⟨rfl, rfl, rfl, trivial⟩, h4⟩)))))
          · rintro Fr _ _ _ _
            refine SO.takeT rfl rfl rfl rfl ?_
            refine SO.v rfl (opv_idx Try.underlying48 Try.sizeOf35 hF0 rfl rfl hx131) ?_
            exact SO.nilZ fun a w h1 h2 h3 h4 h5 => PZ.of2 (Y := fun Q => ∃ (_ _ _ _ _ : Unit), Q [(176, .bool false), (179, v0), (181, .int .i64 x117.Cell), (182, idxp v0 (x117.Cell.toNat * (ekI .u64).sz))] [F]) (fun Q => by kernel_rfl) h1 h3 h5 ⟨(), (), (), (), (), EnvAll.of h2 ⟨rfl, rfl, rfl, rfl, trivial⟩, h4⟩
          · rintro Fr _ _ _
            refine SO.takeT rfl rfl rfl rfl ?_
            refine SO.loadI1 (j := 0) rfl Try.isAgg35 (Rd.head hF0) hx131 rfl rfl rfl rfl ?_
            exact SO.nilZ fun a w h1 h2 h3 h4 h5 => PZ.of h1 h3 h5 (.cons () (.cons () (.cons () (.cons () (.nil ⟨EnvAll.of h2 ⟨rfl, rfl, rfl, trivial⟩, h4⟩)))))
          · rintro Fr _ _ _
            refine SO.takeT rfl rfl rfl rfl ?_
            refine SO.v rfl (opv_neq rfl rfl) ?_
            exact SO.nilZ fun a w h1 h2 h3 h4 h5 => PZ.of h1 h3 h5 (.cons () (.cons () (.cons () (.cons () (.nil ⟨EnvAll.of h2 ⟨rfl, rfl, rfl, rfl, trivial⟩, h4⟩)))))
          · rintro Fr _ _
            refine SO.v rfl (opv_pick_ff rfl rfl) ?_
            exact SO.nilZ fun a w h1 h2 h3 h4 h5 => PZ.of h1 h3 h5 (.cons () (.cons () (.cons () (.nil ⟨EnvAll.of h2 ⟨rfl, rfl, rfl, trivial⟩, h4⟩))))
          · rintro Fr _
            refine SO.v rfl (opv_move rfl) ?_
            exact SO.nilZ fun a w h1 h2 h3 h4 h5 => PZ.of h1 h3 h5 (.cons () (.cons () (.nil ⟨EnvAll.of h2 ⟨rfl, rfl, trivial⟩, h4⟩)))
          · rintro Fr _ _
            refine SO.takeT rfl rfl rfl b132 ?_
            refine SO.v rfl (opv_fieldAddr Try.underlying63 rfl Try.sizeOf36 rfl rfl) ?_
            exact SO.nilZ fun a w h1 h2 h3 h4 h5 => PZ.of h1 h3 h5 (.cons () (.cons () (.cons () (.nil ⟨EnvAll.of h2 ⟨rfl, rfl, rfl, trivial⟩, h4⟩))))
          · rintro Fr _ _ _
            refine SO.takeT rfl rfl rfl b132 ?_
            refine SO.load1 rfl Try.isAgg36 rfl rfl ?_
            exact SO.nilZ fun a w h1 h2 h3 h4 h5 => PZ.of h1 h3 h5 (.cons () (.cons () (.cons () (.cons () (.nil ⟨EnvAll.of h2 ⟨rfl, rfl, rfl, trivial⟩, h4⟩)))))
          · rintro Fr _ _
            refine SO.takeT rfl rfl rfl b132 ?_
            refine SO.v rfl (opv_neq rfl rfl) ?_
            exact SO.nilZ fun a w h1 h2 h3 h4 h5 => PZ.of h1 h3 h5 (.cons () (.cons () (.cons () (.nil ⟨EnvAll.of h2 ⟨rfl, rfl, rfl, trivial⟩, h4⟩))))
          · rintro Fr _ _
            refine SO.v rfl (opv_pick_f' b132 rfl rfl) ?_
            exact SO.nilZ fun a w h1 h2 h3 h4 h5 => PZ.of h1 h3 h5 (.cons () (.cons () (.cons () (.nil ⟨EnvAll.of h2 ⟨rfl, rfl, rfl, trivial⟩, h4⟩))))
          · rintro Fr _
            refine SO.v rfl (opv_move rfl) ?_
            exact SO.nilZ fun a w h1 h2 h3 h4 h5 => PZ.of h1 h3 h5 (.cons () (.cons () (.nil ⟨EnvAll.of h2 ⟨rfl, rfl, trivial⟩, h4⟩)))
          · rintro Fr _
            refine SO.passF rfl rfl rfl b133 rfl rfl ?_
            exact SO.nilZ fun a w h1 h2 h3 h4 h5 => PZ.of h1 h3 h5 (.cons () (.cons () (.nil ⟨EnvAll.of h2 ⟨rfl, rfl, trivial⟩, h4⟩)))
          · rintro Fr _
            refine SO.passF rfl rfl rfl b133 rfl rfl ?_
            exact SO.nilZ fun a w h1 h2 h3 h4 h5 => PZ.of h1 h3 h5 (.cons () (.cons () (.nil ⟨EnvAll.of h2 ⟨rfl, rfl, trivial⟩, h4⟩)))
          · rintro Fr _
            refine SO.passF rfl rfl rfl b133 rfl rfl ?_
            exact SO.nilZ fun a w h1 h2 h3 h4 h5 => PZ.of h1 h3 h5 (.cons () (.cons () (.nil ⟨EnvAll.of h2 ⟨rfl, rfl, trivial⟩, h4⟩)))
          · rintro Fr _
            refine SO.passF rfl rfl rfl b133 rfl rfl ?_
            exact SO.nilZ fun a w h1 h2 h3 h4 h5 => PZ.of h1 h3 h5 (.cons () (.cons () (.nil ⟨EnvAll.of h2 ⟨rfl, rfl, trivial⟩, h4⟩)))
          · rintro Fr _
            refine SO.passF rfl rfl rfl b133 rfl rfl ?_
            exact SO.nilZ fun a w h1 h2 h3 h4 h5 => PZ.of h1 h3 h5 (.cons () (.cons () (.nil ⟨EnvAll.of h2 ⟨rfl, rfl, trivial⟩, h4⟩)))
          · rintro Fr _
            refine SO.passF rfl rfl rfl b133 rfl rfl ?_
            exact SO.nilZ fun a w h1 h2 h3 h4 h5 => PZ.of h1 h3 h5 (.cons () (.cons () (.nil ⟨EnvAll.of h2 ⟨rfl, rfl, trivial⟩, h4⟩)))
          · rintro Fr _
            refine SO.passF rfl rfl rfl b133 rfl rfl ?_
            exact SO.nilZ fun a w h1 h2 h3 h4 h5 => PZ.of h1 h3 h5 (.cons () (.cons () (.nil ⟨EnvAll.of h2 ⟨rfl, rfl, trivial⟩, h4⟩)))
          · rintro Fr _
            refine SO.passF rfl rfl rfl b133 rfl rfl ?_
            exact SO.nilZ fun a w h1 h2 h3 h4 h5 => PZ.of h1 h3 h5 (.cons () (.cons () (.nil ⟨EnvAll.of h2 ⟨rfl, rfl, trivial⟩, h4⟩)))
          · rintro Fr _ _
            refine SO.v rfl (opv_pick_t' b133 rfl rfl) ?_
            exact SO.nilZ fun a w h1 h2 h3 h4 h5 => PZ.of h1 h3 h5 (.cons () (.cons () (.cons () (.nil ⟨EnvAll.of h2 ⟨rfl, rfl, rfl, trivial⟩, h4⟩))))
          rintro _ _ _ _ _ _ _ _ _ _ _ _ _ _ _ _ _ _ _ _
          refine S.to (ρ' := [(21, .int .i64 x21_3), (20, v113), (4, .bool false), (5, .bool t2), (11, v30), (18, v89), (0, v0), (6, .int .i64 (a0.length : Int)), (19, v100), (22, bp b119 0), (200, .bool true)]) ⟨rfl, rfl, rfl, rfl, rfl, rfl, rfl, rfl, rfl, rfl, rfl, trivial⟩ ?_
          cases h
          refine S.b12 ?_
          refine S.b12 ?_
          refine S.b12 ?_
          refine S.b12 ?_
          refine S.b12 ?_
          refine S.b12 ?_
          refine S.b12 ?_
          refine S.b12 ?_
          refine S.b12 ?_
          refine S.b12 ?_
          refine S.b12 ?_
          refine S.b12 ?_
          refine S.b12 ?_
          refine S.to ?_ (hk4 () trivial)
          exact ⟨rfl, rfl, rfl, rfl, rfl, rfl, rfl, rfl, rfl, rfl, rfl, trivial⟩
        replace h := cond_f b133 h
        refine S.draw2 (Y := fun Q => ∃ (_ _ _ _ _ _ _ _ _ _ _ _ _ _ _ _ _ _ _ : Unit), Q [(22, bp b119 0), (6, .int .i64 (a0.length : Int)), (21, .int .i64 x21_3), (19, v100), (0, v0), (20, v113), (4, .bool false), (5, .bool t2), (11, v30), (18, v89)] [Box b119 [.int .i64 x117.Cell, .int .u32 x117.Version, .int .u64 x117.Old, .int .u64 x117.New, .bool x117.Write], Own 35 (ekI .u64) v113 qv113_3, Own 63 ek_tx_Entry v100 t97, Box b15 [.int .i64 p98.cells, u102_l, u102_out, .int .i64 p98.lack, .bool p98.fine], MapO (aggE ek_api_Cell) u102_l p98.l, MapO (Value.int .u64) u102_out p98.out, Own 35 (ekI .u64) v89 s93, Own 4 ekB v30 qv30_e2, Box b34 [.int .u64 y34_0_e2], Own 38 ek_api_Cell vy10_0_e1 y10_0_e1, Box b10 [vy10_0_e1, .int .u32 y10_1_e1], Box b1 [v1], F]) (Z := fun Q => ∀ (_ _ _ _ _ _ _ _ _ _ _ _ _ _ _ _ _ _ _ _ : Unit), Q [(21, .int .i64 x21_3), (20, v113), (4, .bool false), (5, .bool t2), (11, v30), (18, v89), (0, v0), (6, .int .i64 (a0.length : Int)), (19, v100), (22, bp b119 0), (200, .bool (x117.Write != (x117.Old != x117.New)))] [Box b119 [.int .i64 x117.Cell, .int .u32 x117.Version, .int .u64 x117.Old, .int .u64 x117.New, .bool x117.Write], Own 35 (ekI .u64) v113 qv113_3, Own 63 ek_tx_Entry v100 t97, Box b15 [.int .i64 p98.cells, u102_l, u102_out, .int .i64 p98.lack, .bool p98.fine], MapO (aggE ek_api_Cell) u102_l p98.l, MapO (Value.int .u64) u102_out p98.out, Own 35 (ekI .u64) v89 s93, Own 4 ekB v30 qv30_e2, Box b34 [.int .u64 y34_0_e2], Own 38 ek_api_Cell vy10_0_e1 y10_0_e1, Box b10 [vy10_0_e1, .int .u32 y10_1_e1], Box b1 [v1], F]) (T := [tS 22 (bp b119 0), tS 6 (.int .i64 (a0.length : Int)), tS 21 (.int .i64 x21_3), tS 19 (v100), tS 0 (v0), tE [(20, v113), (4, .bool false), (5, .bool t2), (11, v30), (18, v89)], tR (Box b119 [.int .i64 x117.Cell, .int .u32 x117.Version, .int .u64 x117.Old, .int .u64 x117.New, .bool x117.Write]), tR (Own 35 (ekI .u64) v113 qv113_3), tR (Own 63 ek_tx_Entry v100 t97), tR (Box b15 [.int .i64 p98.cells, u102_l, u102_out, .int .i64 p98.lack, .bool p98.fine]), tR (MapO (aggE ek_api_Cell) u102_l p98.l), tR (MapO (Value.int .u64) u102_out p98.out), tR (Own 35 (ekI .u64) v89 s93), tR (Own 4 ekB v30 qv30_e2), tR (Box b34 [.int .u64 y34_0_e2]), tR (Own 38 ek_api_Cell vy10_0_e1 y10_0_e1), tR (Box b10 [vy10_0_e1, .int .u32 y10_1_e1]), tR (Box b1 [v1]), tR (F), tS 152 (bp b119 0), tS 153 (.int .i64 x117.Cell), tS 154 (.bool (decide (x117.Cell < 0))), tS 155 (.bool (decide (x117.Cell < 0))), tS 156 (bp b119 0), tS 157 (.int .i64 x117.Cell), tS 158 (.int .i64 (a0.length : Int)), tS 159 (.bool (decide ((a0.length : Int) ≤ x117.Cell))), tS 160 (.bool (decide ((a0.length : Int) ≤ x117.Cell))), tS 161 (.bool (decide ((a0.length : Int) ≤ x117.Cell))), tS 162 (.int .i64 x21_3), tS 163 (.bool (decide (0 < x21_3))), tS 164 (.bool (decide (0 < x21_3))), tS 165 (undef), tS 166 (undef), tS 167 (undef), tS 168 (undef), tS 169 (undef), tS 170 (undef), tS 171 (undef), tS 172 (undef), tS 173 (undef), tS 174 (.bool false), tS 175 (.bool false), tS 176 (.bool false), tS 177 (bp b119 2), tS 178 (.int .u64 x117.Old), tS 179 (v0), tS 180 (bp b119 0), tS 181 (.int .i64 x117.Cell), tS 182 (idxp v0 (x117.Cell.toNat * (ekI .u64).sz)), tS 183 (.int .u64 x130), tS 184 (.bool (x117.Old != x130)), tS 185 (.bool (x117.Old != x130)), tS 186 (.bool (x117.Old != x130)), tS 187 (bp b119 1), tS 188 (.int .u32 x117.Version), tS 189 (.bool (x117.Version != 0)), tS 190 (.bool (x117.Version != 0)), tS 191 (.bool (x117.Version != 0)), tS 192 (bp b119 4), tS 193 (.bool x117.Write), tS 194 (bp b119 2), tS 195 (.int .u64 x117.Old), tS 196 (bp b119 3), tS 197 (.int .u64 x117.New), tS 198 (.bool (x117.Old != x117.New)), tS 199 (.bool (x117.Write != (x117.Old != x117.New))), tS 200 (.bool (x117.Write != (x117.Old != x117.New)))]) (D := [⟨[0], [], [19]⟩, ⟨[19, 6], [], [20]⟩, ⟨[20], [], [21]⟩, ⟨[21], [], [22]⟩, ⟨[0, 22], [], [23]⟩, ⟨[22, 23, 6], [], [24]⟩, ⟨[1, 22], [], [25]⟩, ⟨[22, 24, 25], [], [26]⟩, ⟨[22, 26], [], [27]⟩, ⟨[27], [], [28]⟩, ⟨[2, 28], [], [29]⟩, ⟨[28, 29], [], [30]⟩, ⟨[28, 30], [], [31]⟩, ⟨[31], [], [32]⟩, ⟨[31], [], [33]⟩, ⟨[31], [], [34]⟩, ⟨[31], [], [35]⟩, ⟨[31], [], [36]⟩, ⟨[31], [], [37]⟩, ⟨[31], [], [38]⟩, ⟨[31], [], [39]⟩, ⟨[31], [], [40]⟩, ⟨[28, 31, 40], [], [41]⟩, ⟨[28, 41], [], [42]⟩, ⟨[42], [], [43]⟩, ⟨[0, 43], [], [44]⟩, ⟨[43, 44, 6], [], [45]⟩, ⟨[4, 43], [], [46]⟩, ⟨[0, 43], [], [47]⟩, ⟨[43, 47, 6], [], [48]⟩, ⟨[43, 46, 48, 18], [], [49]⟩, ⟨[43, 49, 18], [], [50]⟩, ⟨[43, 45, 50], [], [51]⟩, ⟨[43, 51], [], [52]⟩, ⟨[52], [], [53]⟩, ⟨[0, 53], [], [54]⟩, ⟨[53, 54, 6], [], [55]⟩, ⟨[53, 55], [], [56]⟩, ⟨[53, 56], [], [57]⟩, ⟨[57], [], [58]⟩, ⟨[0, 58], [], [59]⟩, ⟨[58, 59, 6], [], [60]⟩, ⟨[0, 58], [], [61]⟩, ⟨[58, 61, 6], [], [62]⟩, ⟨[0, 58], [], [63]⟩, ⟨[58, 63, 6], [], [64]⟩, ⟨[58, 62, 64], [], [65]⟩, ⟨[58, 60, 65], [], [66]⟩, ⟨[58, 66], [], [67]⟩]) (ini := [0, 1, 2, 3, 4, 5, 6, 7, 8, 9, 10, 11, 12, 13, 14, 15, 16, 17, 18]) (fin := [2, 5, 4, 1, 3, 0, 67, 6, 7, 8, 9, 10, 11, 12, 13, 14, 15, 16, 17, 18]) (bf := [[], [0], [0, 1], [0, 1, 2], [0, 1, 2, 3], [0, 1, 2, 3, 4], [0, 1, 2, 3], [0, 1, 2, 3, 4, 5, 6], [0, 1, 2, 3, 4, 5, 6, 7], [0, 1, 2, 3, 4, 5, 6, 7, 8], [0, 1, 2, 3, 4, 5, 6, 7, 8, 9], [0, 1, 2, 3, 4, 5, 6, 7, 8, 9, 10], [0, 1, 2, 3, 4, 5, 6, 7, 8, 9, 10, 11], [0, 1, 2, 3, 4, 5, 6, 7, 8, 9, 10, 11, 12], [0, 1, 2, 3, 4, 5, 6, 7, 8, 9, 10, 11, 12, 13], [0, 1, 2, 3, 4, 5, 6, 7, 8, 9, 10, 11, 12], [0, 1, 2, 3, 4, 5, 6, 7, 8, 9, 10, 11, 12], [0, 1, 2, 3, 4, 5, 6, 7, 8, 9, 10, 11, 12, 16], [0, 1, 2, 3, 4, 5, 6, 7, 8, 9, 10, 11, 12, 15, 16, 17], [0, 1, 2, 3, 4, 5, 6, 7, 8, 9, 10, 11, 12, 15, 16, 17, 18], [0, 1, 2, 3, 4, 5, 6, 7, 8, 9, 10, 11, 12, 15, 16, 17, 18, 19], [0, 1, 2, 3, 4, 5, 6, 7, 8, 9, 10, 11, 12, 13, 14, 15, 16, 17, 18, 19, 20], [0, 1, 2, 3, 4, 5, 6, 7, 8, 9, 10, 11, 12, 13, 14, 15, 16, 17, 18, 19, 20, 21], [0, 1, 2, 3, 4, 5, 6, 7, 8, 9, 10, 11, 12, 13, 14, 15, 16, 17, 18, 19, 20, 21, 22], [0, 1, 2, 3, 4, 5, 6, 7, 8, 9, 10, 11, 12, 13, 14, 15, 16, 17, 18, 19, 20, 21, 22, 23], [0, 1, 2, 3, 4, 5, 6, 7, 8, 9, 10, 11, 12, 13, 14, 15, 16, 17, 18, 19, 20, 21, 22, 23, 24], [0, 1, 2, 3, 4, 5, 6, 7, 8, 9, 10, 11, 12, 13, 14, 15, 16, 17, 18, 19, 20, 21, 22, 23, 24, 25], [0, 1, 2, 3, 4, 5, 6, 7, 8, 9, 10, 11, 12, 13, 14, 15, 16, 17, 18, 19, 20, 21, 22, 23, 24], [0, 1, 2, 3, 4, 5, 6, 7, 8, 9, 10, 11, 12, 13, 14, 15, 16, 17, 18, 19, 20, 21, 22, 23, 24], [0, 1, 2, 3, 4, 5, 6, 7, 8, 9, 10, 11, 12, 13, 14, 15, 16, 17, 18, 19, 20, 21, 22, 23, 24, 28], [0, 1, 2, 3, 4, 5, 6, 7, 8, 9, 10, 11, 12, 13, 14, 15, 16, 17, 18, 19, 20, 21, 22, 23, 24, 27, 28, 29], [0, 1, 2, 3, 4, 5, 6, 7, 8, 9, 10, 11, 12, 13, 14, 15, 16, 17, 18, 19, 20, 21, 22, 23, 24, 27, 28, 29, 30], [0, 1, 2, 3, 4, 5, 6, 7, 8, 9, 10, 11, 12, 13, 14, 15, 16, 17, 18, 19, 20, 21, 22, 23, 24, 25, 26, 27, 28, 29, 30, 31], [0, 1, 2, 3, 4, 5, 6, 7, 8, 9, 10, 11, 12, 13, 14, 15, 16, 17, 18, 19, 20, 21, 22, 23, 24, 25, 26, 27, 28, 29, 30, 31, 32], [0, 1, 2, 3, 4, 5, 6, 7, 8, 9, 10, 11, 12, 13, 14, 15, 16, 17, 18, 19, 20, 21, 22, 23, 24, 25, 26, 27, 28, 29, 30, 31, 32, 33], [0, 1, 2, 3, 4, 5, 6, 7, 8, 9, 10, 11, 12, 13, 14, 15, 16, 17, 18, 19, 20, 21, 22, 23, 24, 25, 26, 27, 28, 29, 30, 31, 32, 33, 34], [0, 1, 2, 3, 4, 5, 6, 7, 8, 9, 10, 11, 12, 13, 14, 15, 16, 17, 18, 19, 20, 21, 22, 23, 24, 25, 26, 27, 28, 29, 30, 31, 32, 33, 34, 35], [0, 1, 2, 3, 4, 5, 6, 7, 8, 9, 10, 11, 12, 13, 14, 15, 16, 17, 18, 19, 20, 21, 22, 23, 24, 25, 26, 27, 28, 29, 30, 31, 32, 33, 34, 35, 36], [0, 1, 2, 3, 4, 5, 6, 7, 8, 9, 10, 11, 12, 13, 14, 15, 16, 17, 18, 19, 20, 21, 22, 23, 24, 25, 26, 27, 28, 29, 30, 31, 32, 33, 34, 35, 36, 37], [0, 1, 2, 3, 4, 5, 6, 7, 8, 9, 10, 11, 12, 13, 14, 15, 16, 17, 18, 19, 20, 21, 22, 23, 24, 25, 26, 27, 28, 29, 30, 31, 32, 33, 34, 35, 36, 37, 38], [0, 1, 2, 3, 4, 5, 6, 7, 8, 9, 10, 11, 12, 13, 14, 15, 16, 17, 18, 19, 20, 21, 22, 23, 24, 25, 26, 27, 28, 29, 30, 31, 32, 33, 34, 35, 36, 37, 38, 39], [0, 1, 2, 3, 4, 5, 6, 7, 8, 9, 10, 11, 12, 13, 14, 15, 16, 17, 18, 19, 20, 21, 22, 23, 24, 25, 26, 27, 28, 29, 30, 31, 32, 33, 34, 35, 36, 37, 38, 39, 40], [0, 1, 2, 3, 4, 5, 6, 7, 8, 9, 10, 11, 12, 13, 14, 15, 16, 17, 18, 19, 20, 21, 22, 23, 24, 25, 26, 27, 28, 29, 30, 31, 32, 33, 34, 35, 36, 37, 38, 39], [0, 1, 2, 3, 4, 5, 6, 7, 8, 9, 10, 11, 12, 13, 14, 15, 16, 17, 18, 19, 20, 21, 22, 23, 24, 25, 26, 27, 28, 29, 30, 31, 32, 33, 34, 35, 36, 37, 38, 39, 42], [0, 1, 2, 3, 4, 5, 6, 7, 8, 9, 10, 11, 12, 13, 14, 15, 16, 17, 18, 19, 20, 21, 22, 23, 24, 25, 26, 27, 28, 29, 30, 31, 32, 33, 34, 35, 36, 37, 38, 39], [0, 1, 2, 3, 4, 5, 6, 7, 8, 9, 10, 11, 12, 13, 14, 15, 16, 17, 18, 19, 20, 21, 22, 23, 24, 25, 26, 27, 28, 29, 30, 31, 32, 33, 34, 35, 36, 37, 38, 39, 44], [0, 1, 2, 3, 4, 5, 6, 7, 8, 9, 10, 11, 12, 13, 14, 15, 16, 17, 18, 19, 20, 21, 22, 23, 24, 25, 26, 27, 28, 29, 30, 31, 32, 33, 34, 35, 36, 37, 38, 39, 42, 43, 44, 45], [0, 1, 2, 3, 4, 5, 6, 7, 8, 9, 10, 11, 12, 13, 14, 15, 16, 17, 18, 19, 20, 21, 22, 23, 24, 25, 26, 27, 28, 29, 30, 31, 32, 33, 34, 35, 36, 37, 38, 39, 40, 41, 42, 43, 44, 45, 46], [0, 1, 2, 3, 4, 5, 6, 7, 8, 9, 10, 11, 12, 13, 14, 15, 16, 17, 18, 19, 20, 21, 22, 23, 24, 25, 26, 27, 28, 29, 30, 31, 32, 33, 34, 35, 36, 37, 38, 39, 40, 41, 42, 43, 44, 45, 46, 47]]) (by kernel_rfl) (by kernel_rfl) (fun Q => by kernel_rfl) (fun x w h1 h2 => ⟨(), (), (), (), (), (), (), (), (), (), (), (), (), (), (), (), (), (), (), EnvAll.of h1 ⟨rfl, rfl, rfl, rfl, rfl, rfl, rfl, rfl, rfl, rfl, trivial⟩, h2⟩) (fun Q => by kernel_rfl) ⟨?_, ?_, ?_, ?_, ?_, ?_, ?_, ?_, ?_, ?_, ?_, ?_, ?_, ?_, ?_, ?_, ?_, ?_, ?_, ?_, ?_, ?_, ?_, ?_, ?_, ?_, ?_, ?_, ?_, ?_, ?_, ?_, ?_, ?_, ?_, ?_, ?_, ?_, ?_, ?_, ?_, ?_, ?_, ?_, ?_, ?_, ?_, ?_, ?_, trivial⟩ ?_
        · rintro Fr _
          refine SO.v rfl (opv_fieldAddr Try.underlying63 rfl Try.sizeOf3 rfl rfl) ?_
          exact SO.nilZ fun a w h1 h2 h3 h4 h5 => PZ.of h1 h3 h5 (.cons () (.cons () (.nil ⟨EnvAll.of h2 ⟨rfl, rfl, trivial⟩, h4⟩)))
        · rintro Fr _ _
          refine SO.load1 rfl Try.isAgg3 rfl rfl ?_
          exact SO.nilZ fun a w h1 h2 h3 h4 h5 => PZ.of h1 h3 h5 (.cons () (.cons () (.cons () (.nil ⟨EnvAll.of h2 ⟨rfl, rfl, trivial⟩, h4⟩))))
        · rintro Fr _
          refine SO.v rfl (opv_lss rfl rfl) ?_
          exact SO.nilZ fun a w h1 h2 h3 h4 h5 => PZ.of h1 h3 h5 (.cons () (.cons () (.nil ⟨EnvAll.of h2 ⟨rfl, rfl, trivial⟩, h4⟩)))
        · rintro Fr _
          refine SO.v rfl (opv_move rfl) ?_
          exact SO.nilZ fun a w h1 h2 h3 h4 h5 => PZ.of h1 h3 h5 (.cons () (.cons () (.nil ⟨EnvAll.of h2 ⟨rfl, rfl, trivial⟩, h4⟩)))
        · rintro Fr _ _
          refine SO.takeT rfl rfl rfl b120 ?_
          refine SO.v rfl (opv_fieldAddr Try.underlying63 rfl Try.sizeOf3 rfl rfl) ?_
          exact SO.nilZ fun a w h1 h2 h3 h4 h5 => PZ.of h1 h3 h5 (.cons () (.cons () (.cons () (.nil ⟨EnvAll.of h2 ⟨rfl, rfl, rfl, trivial⟩, h4⟩))))
        · rintro Fr _ _ _
          refine SO.takeT rfl rfl rfl b120 ?_
          refine SO.load1 rfl Try.isAgg3 rfl rfl ?_
          exact SO.nilZ fun a w h1 h2 h3 h4 h5 => PZ.of h1 h3 h5 (.cons () (.cons () (.cons () (.cons () (.nil ⟨EnvAll.of h2 ⟨rfl, rfl, rfl, trivial⟩, h4⟩)))))
        · rintro Fr _ _
          refine SO.takeT rfl rfl rfl b120 ?_
          refine SO.v rfl (opv_move rfl) ?_
          exact SO.nilZ fun a w h1 h2 h3 h4 h5 => PZ.of h1 h3 h5 (.cons () (.cons () (.cons () (.nil ⟨EnvAll.of h2 ⟨rfl, rfl, rfl, trivial⟩, h4⟩))))
        · rintro Fr _ _ _
          refine SO.takeT rfl rfl rfl b120 ?_
          refine SO.v rfl (opv_geq rfl rfl) ?_
          exact SO.nilZ fun a w h1 h2 h3 h4 h5 => PZ.of h1 h3 h5 (.cons () (.cons () (.cons () (.cons () (.nil ⟨EnvAll.of h2 ⟨rfl, rfl, rfl, rfl, trivial⟩, h4⟩)))))
        · rintro Fr _ _
          refine SO.v rfl (opv_pick_f' b120 rfl rfl) ?_
          exact SO.nilZ fun a w h1 h2 h3 h4 h5 => PZ.of h1 h3 h5 (.cons () (.cons () (.cons () (.nil ⟨EnvAll.of h2 ⟨rfl, rfl, rfl, trivial⟩, h4⟩))))
        · rintro Fr _
          refine SO.v rfl (opv_move rfl) ?_
          exact SO.nilZ fun a w h1 h2 h3 h4 h5 => PZ.of h1 h3 h5 (.cons () (.cons () (.nil ⟨EnvAll.of h2 ⟨rfl, rfl, trivial⟩, h4⟩)))
        · rintro Fr _ _
          refine SO.takeT rfl rfl rfl b121 ?_
          refine SO.v rfl (opv_move rfl) ?_
          exact SO.nilZ fun a w h1 h2 h3 h4 h5 => PZ.of h1 h3 h5 (.cons () (.cons () (.cons () (.nil ⟨EnvAll.of h2 ⟨rfl, rfl, rfl, trivial⟩, h4⟩))))
        · rintro Fr _ _
          refine SO.takeT rfl rfl rfl b121 ?_
          refine SO.v rfl (opv_gtr rfl rfl) ?_
          exact SO.nilZ fun a w h1 h2 h3 h4 h5 => PZ.of h1 h3 h5 (.cons () (.cons () (.cons () (.nil ⟨EnvAll.of h2 ⟨rfl, rfl, rfl, trivial⟩, h4⟩))))
        · rintro Fr _ _
          refine SO.takeT rfl rfl rfl b121 ?_
          refine SO.v rfl (opv_move rfl) ?_
          exact SO.nilZ fun a w h1 h2 h3 h4 h5 => PZ.of h1 h3 h5 (.cons () (.cons () (.cons () (.nil ⟨EnvAll.of h2 ⟨rfl, rfl, rfl, trivial⟩, h4⟩))))
        · rintro Fr _
          refine SO.passF rfl rfl rfl b122 rfl rfl ?_
          exact SO.nilZ fun a w h1 h2 h3 h4 h5 => PZ.of h1 h3 h5 (.cons () (.cons () (.nil ⟨EnvAll.of h2 ⟨rfl, rfl, trivial⟩, h4⟩)))
        · rintro Fr _
          refine SO.passF rfl rfl rfl b122 rfl rfl ?_
          exact SO.nilZ fun a w h1 h2 h3 h4 h5 => PZ.of h1 h3 h5 (.cons () (.cons () (.nil ⟨EnvAll.of h2 ⟨rfl, rfl, trivial⟩, h4⟩)))
        · rintro Fr _
          refine SO.passF rfl rfl rfl b122 rfl rfl ?_
          exact SO.nilZ fun a w h1 h2 h3 h4 h5 => PZ.of h1 h3 h5 (.cons () (.cons () (.nil ⟨EnvAll.of h2 ⟨rfl, rfl, trivial⟩, h4⟩)))
        · rintro Fr _
          refine SO.passF rfl rfl rfl b122 rfl rfl ?_
          exact SO.nilZ fun a w h1 h2 h3 h4 h5 => PZ.of h1 h3 h5 (.cons () (.cons () (.nil ⟨EnvAll.of h2 ⟨rfl, rfl, trivial⟩, h4⟩)))
        · rintro Fr _
          refine SO.passF rfl rfl rfl b122 rfl rfl ?_
          exact SO.nilZ fun a w h1 h2 h3 h4 h5 => PZ.of h1 h3 h5 (.cons () (.cons () (.nil ⟨EnvAll.of h2 ⟨rfl, rfl, trivial⟩, h4⟩)))
        · rintro Fr _
          refine SO.passF rfl rfl rfl b122 rfl rfl ?_
          exact SO.nilZ fun a w h1 h2 h3 h4 h5 => PZ.of h1 h3 h5 (.cons () (.cons () (.nil ⟨EnvAll.of h2 ⟨rfl, rfl, trivial⟩, h4⟩)))
        · rintro Fr _
          refine SO.passF rfl rfl rfl b122 rfl rfl ?_
          exact SO.nilZ fun a w h1 h2 h3 h4 h5 => PZ.of h1 h3 h5 (.cons () (.cons () (.nil ⟨EnvAll.of h2 ⟨rfl, rfl, trivial⟩, h4⟩)))
        · rintro Fr _
          refine SO.passF rfl rfl rfl b122 rfl rfl ?_
          exact SO.nilZ fun a w h1 h2 h3 h4 h5 => PZ.of h1 h3 h5 (.cons () (.cons () (.nil ⟨EnvAll.of h2 ⟨rfl, rfl, trivial⟩, h4⟩)))
        · rintro Fr _
          refine SO.passF rfl rfl rfl b122 rfl rfl ?_
          exact SO.nilZ fun a w h1 h2 h3 h4 h5 => PZ.of h1 h3 h5 (.cons () (.cons () (.nil ⟨EnvAll.of h2 ⟨rfl, rfl, trivial⟩, h4⟩)))
        · rintro Fr _ _ _
          refine SO.takeT rfl rfl rfl b121 ?_
          refine SO.v rfl (opv_pick_f' b122 rfl rfl) ?_
          exact SO.nilZ fun a w h1 h2 h3 h4 h5 => PZ.of h1 h3 h5 (.cons () (.cons () (.cons () (.cons () (.nil ⟨EnvAll.of h2 ⟨rfl, rfl, rfl, rfl, trivial⟩, h4⟩)))))
        · rintro Fr _ _
          refine SO.v rfl (opv_pick_f' b121 rfl rfl) ?_
          exact SO.nilZ fun a w h1 h2 h3 h4 h5 => PZ.of h1 h3 h5 (.cons () (.cons () (.cons () (.nil ⟨EnvAll.of h2 ⟨rfl, rfl, rfl, trivial⟩, h4⟩))))
        · rintro Fr _
          refine SO.v rfl (opv_move rfl) ?_
          exact SO.nilZ fun a w h1 h2 h3 h4 h5 => PZ.of h1 h3 h5 (.cons () (.cons () (.nil ⟨EnvAll.of h2 ⟨rfl, rfl, trivial⟩, h4⟩)))
        · rintro Fr _ _
          refine SO.takeT rfl rfl rfl rfl ?_
          refine SO.v rfl (opv_fieldAddr Try.underlying63 rfl Try.sizeOf35 rfl rfl) ?_
          exact SO.nilZ fun a w h1 h2 h3 h4 h5 => PZ.of h1 h3 h5 (.cons () (.cons () (.cons () (.nil ⟨EnvAll.of h2 ⟨rfl, rfl, rfl, trivial⟩, h4⟩))))
        · rintro Fr _ _ _
          refine SO.takeT rfl rfl rfl rfl ?_
          refine SO.load1 rfl Try.isAgg35 rfl rfl ?_
          exact SO.nilZ fun a w h1 h2 h3 h4 h5 => PZ.of h1 h3 h5 (.cons () (.cons () (.cons () (.cons () (.nil ⟨EnvAll.of h2 ⟨rfl, rfl, rfl, trivial⟩, h4⟩)))))
        · rintro Fr _ _
          refine SO.takeT rfl rfl rfl rfl ?_
          refine SO.v rfl (opv_move rfl) ?_
          exact SO.nilZ fun a w h1 h2 h3 h4 h5 => PZ.of h1 h3 h5 (.cons () (.cons () (.cons () (.nil ⟨EnvAll.of h2 ⟨rfl, rfl, rfl, trivial⟩, h4⟩))))
        · rintro Fr _ _
          refine SO.takeT rfl rfl rfl rfl ?_
          refine SO.v rfl (opv_fieldAddr Try.underlying63 rfl Try.sizeOf3 rfl rfl) ?_
          exact SO.nilZ fun a w h1 h2 h3 h4 h5 => PZ.of h1 h3 h5 (.cons () (.cons () (.cons () (.nil ⟨EnvAll.of h2 ⟨rfl, rfl, rfl, trivial⟩, h4⟩))))
        · rintro Fr _ _ _
          refine SO.takeT rfl rfl rfl rfl ?_
          refine SO.load1 rfl Try.isAgg3 rfl rfl ?_
          exact SO.nilZ fun a w h1 h2 h3 h4 h5 => PZ.of h1 h3 h5 (.cons () (.cons () (.cons () (.cons () (.nil ⟨EnvAll.of h2 ⟨rfl, rfl, rfl, trivial⟩, h4⟩)))))
        · rintro Fr _ _ _ _
          refine SO.takeT rfl rfl rfl rfl ?_
          refine SO.v rfl (opv_idx Try.underlying48 Try.sizeOf35 hF0 rfl rfl hx131) ?_
          exact SO.nilZ fun a w h1 h2 h3 h4 h5 => PZ.of2 (Y := fun Q => ∃ (_ _ _ _ _ : Unit), Q [(176, .bool false), (179, v0), (181, .int .i64 x117.Cell), (182, idxp v0 (x117.Cell.toNat * (ekI .u64).sz))] [F]) (fun Q => by kernel_rfl) h1 h3 h5 ⟨(), (), (), (), (), EnvAll.of h2 ⟨rfl, rfl, rfl, rfl, trivial⟩, h4⟩
        · rintro Fr _ _ _
          refine SO.takeT rfl rfl rfl rfl ?_
          refine SO.loadI1 (j := 0) rfl Try.isAgg35 (Rd.head hF0) hx131 rfl rfl rfl rfl ?_
          exact SO.nilZ fun a w h1 h2 h3 h4 h5 => PZ.of h1 h3 h5 (.cons () (.cons () (.cons () (.cons () (.nil ⟨EnvAll.of h2 ⟨rfl, rfl, rfl, trivial⟩, h4⟩)))))
        · rintro Fr _ _ _
          refine SO.takeT rfl rfl rfl rfl ?_
          refine SO.v rfl (opv_neq rfl rfl) ?_
          exact SO.nilZ fun a w h1 h2 h3 h4 h5 => PZ.of h1 h3 h5 (.cons () (.cons () (.cons () (.cons () (.nil ⟨EnvAll.of h2 ⟨rfl, rfl, rfl, rfl, trivial⟩, h4⟩)))))
        · rintro Fr _ _
          refine SO.v rfl (opv_pick_ff rfl rfl) ?_
          exact SO.nilZ fun a w h1 h2 h3 h4 h5 => PZ.of h1 h3 h5 (.cons () (.cons () (.cons () (.nil ⟨EnvAll.of h2 ⟨rfl, rfl, rfl, trivial⟩, h4⟩))))
        · rintro Fr _
          refine SO.v rfl (opv_move rfl) ?_
          exact SO.nilZ fun a w h1 h2 h3 h4 h5 => PZ.of h1 h3 h5 (.cons () (.cons () (.nil ⟨EnvAll.of h2 ⟨rfl, rfl, trivial⟩, h4⟩)))
        · rintro Fr _ _
          refine SO.takeT rfl rfl rfl b132 ?_
          refine SO.v rfl (opv_fieldAddr Try.underlying63 rfl Try.sizeOf36 rfl rfl) ?_
          exact SO.nilZ fun a w h1 h2 h3 h4 h5 => PZ.of h1 h3 h5 (.cons () (.cons () (.cons () (.nil ⟨EnvAll.of h2 ⟨rfl, rfl, rfl, trivial⟩, h4⟩))))
        · rintro Fr _ _ _
          refine SO.takeT rfl rfl rfl b132 ?_
          refine SO.load1 rfl Try.isAgg36 rfl rfl ?_
          exact SO.nilZ fun a w h1 h2 h3 h4 h5 => PZ.of h1 h3 h5 (.cons () (.cons () (.cons () (.cons () (.nil ⟨EnvAll.of h2 ⟨rfl, rfl, rfl, trivial⟩, h4⟩)))))
        · rintro Fr _ _
          refine SO.takeT rfl rfl rfl b132 ?_
          refine SO.v rfl (opv_neq rfl rfl) ?_
          exact SO.nilZ fun a w h1 h2 h3 h4 h5 => PZ.of h1 h3 h5 (.cons () (.cons () (.cons () (.nil ⟨EnvAll.of h2 ⟨rfl, rfl, rfl, trivial⟩, h4⟩))))
        · rintro Fr _ _
          refine SO.v rfl (opv_pick_f' b132 rfl rfl) ?_
          exact SO.nilZ fun a w h1 h2 h3 h4 h5 => PZ.of h1 h3 h5 (.cons () (.cons () (.cons () (.nil ⟨EnvAll.of h2 ⟨rfl, rfl, rfl, trivial⟩, h4⟩))))
        · rintro Fr _
          refine SO.v rfl (opv_move rfl) ?_
          exact SO.nilZ fun a w h1 h2 h3 h4 h5 => PZ.of h1 h3 h5 (.cons () (.cons () (.nil ⟨EnvAll.of h2 ⟨rfl, rfl, trivial⟩, h4⟩)))
        · rintro Fr _ _
          refine SO.takeT rfl rfl rfl b133 ?_
          refine SO.v rfl (opv_fieldAddr Try.underlying63 rfl Try.sizeOf4 rfl rfl) ?_
          exact SO.nilZ fun a w h1 h2 h3 h4 h5 => PZ.of h1 h3 h5 (.cons () (.cons () (.cons () (.nil ⟨EnvAll.of h2 ⟨rfl, rfl, rfl, trivial⟩, h4⟩))))
        · rintro Fr _ _ _
          refine SO.takeT rfl rfl rfl b133 ?_
          refine SO.load1 rfl Try.isAgg4 rfl rfl ?_
          exact SO.nilZ fun a w h1 h2 h3 h4 h5 => PZ.of h1 h3 h5 (.cons () (.cons () (.cons () (.cons () (.nil ⟨EnvAll.of h2 ⟨rfl, rfl, rfl, trivial⟩, h4⟩)))))
        · rintro Fr _ _
          refine SO.takeT rfl rfl rfl b133 ?_
          refine SO.v rfl (opv_fieldAddr Try.underlying63 rfl Try.sizeOf35 rfl rfl) ?_
          exact SO.nilZ fun a w h1 h2 h3 h4 h5 => PZ.of h1 h3 h5 (.cons () (.cons () (.cons () (.nil ⟨EnvAll.of h2 ⟨rfl, rfl, rfl, trivial⟩, h4⟩))))
        · rintro Fr _ _ _
          refine SO.takeT rfl rfl rfl b133 ?_
          refine SO.load1 rfl Try.isAgg35 rfl rfl ?_
          exact SO.nilZ fun a w h1 h2 h3 h4 h5 => PZ.of h1 h3 h5 (.cons () (.cons () (.cons () (.cons () (.nil ⟨EnvAll.of h2 ⟨rfl, rfl, rfl, trivial⟩, h4⟩)))))
        · rintro Fr _ _
          refine SO.takeT rfl rfl rfl b133 ?_
          refine SO.v rfl (opv_fieldAddr Try.underlying63 rfl Try.sizeOf35 rfl rfl) ?_
          exact SO.nilZ fun a w h1 h2 h3 h4 h5 => PZ.of h1 h3 h5 (.cons () (.cons () (.cons () (.nil ⟨EnvAll.of h2 ⟨rfl, rfl, rfl, trivial⟩, h4⟩))))
        · rintro Fr _ _ _
          refine SO.takeT rfl rfl rfl b133 ?_
          refine SO.load1 rfl Try.isAgg35 rfl rfl ?_
          exact SO.nilZ fun a w h1 h2 h3 h4 h5 => PZ.of h1 h3 h5 (.cons () (.cons () (.cons () (.cons () (.nil ⟨EnvAll.of h2 ⟨rfl, rfl, rfl, trivial⟩, h4⟩)))))
        · rintro Fr _ _ _
          refine SO.takeT rfl rfl rfl b133 ?_
          refine SO.v rfl (opv_neq rfl rfl) ?_
          exact SO.nilZ fun a w h1 h2 h3 h4 h5 => PZ.of h1 h3 h5 (.cons () (.cons () (.cons () (.cons () (.nil ⟨EnvAll.of h2 ⟨rfl, rfl, rfl, rfl, trivial⟩, h4⟩)))))
        · rintro Fr _ _ _
          refine SO.takeT rfl rfl rfl b133 ?_
          refine SO.v rfl (opv_neqB Try.underlying4 rfl rfl) ?_
          exact SO.nilZ fun a w h1 h2 h3 h4 h5 => PZ.of h1 h3 h5 (.cons () (.cons () (.cons () (.cons () (.nil ⟨EnvAll.of h2 ⟨rfl, rfl, rfl, rfl, trivial⟩, h4⟩)))))
        · rintro Fr _ _
          refine SO.v rfl (opv_pick_f' b133 rfl rfl) ?_
          exact SO.nilZ fun a w h1 h2 h3 h4 h5 => PZ.of h1 h3 h5 (.cons () (.cons () (.cons () (.nil ⟨EnvAll.of h2 ⟨rfl, rfl, rfl, trivial⟩, h4⟩))))
        rintro _ _ _ _ _ _ _ _ _ _ _ _ _ _ _ _ _ _ _ _
        refine S.to (ρ' := [(21, .int .i64 x21_3), (20, v113), (4, .bool false), (5, .bool t2), (11, v30), (18, v89), (0, v0), (6, .int .i64 (a0.length : Int)), (19, v100), (22, bp b119 0), (200, .bool (x117.Write != (x117.Old != x117.New)))]) ⟨rfl, rfl, rfl, rfl, rfl, rfl, rfl, rfl, rfl, rfl, rfl, trivial⟩ ?_
        cases h
        refine S.b12 ?_
        refine S.b12 ?_
        refine S.b12 ?_
        refine S.b12 ?_
        refine S.b12 ?_
        refine S.b12 ?_
        refine S.b12 ?_
        refine S.b12 ?_
        refine S.b12 ?_
        refine S.b12 ?_
        refine S.b12 ?_
        refine S.b12 ?_
        refine S.b12 ?_
        refine S.to ?_ (hk4 () trivial)
        exact ⟨rfl, rfl, rfl, rfl, rfl, rfl, rfl, rfl, rfl, rfl, rfl, trivial⟩
      rintro _ -
      replace h := hJ4
      rcases bool_or j200_4 with b134 | b134
      · replace h := cond_t b134 h
        refine S.condT rfl b134 ?_
        refine S.seq ?_
        refine S.region ?_
        refine SO.v rfl (opv_assign rfl) ?_
        refine SO.nil ?_
        refine S.to (ρ' := [(4, .bool false)]) ⟨rfl, trivial⟩ ?_
        cases h
        replace h := hK3.1 _ rfl
        cases h
        refine S.drop ?_
        refine S.drop ?_
        refine S.drop ?_
        refine S.drop ?_
        refine S.drop ?_
        refine S.drop ?_
        refine S.drop ?_
        refine S.drop ?_
        refine S.drop ?_
        refine S.drop ?_
        refine S.drop ?_
        refine S.drop ?_
        exact S.ret1 Try.func5 rfl rfl (fun w hs hk => hR w _ _ ⟨rfl, rfl⟩ hs hk)
      replace h := cond_f b134 h
      refine S.condF rfl b134 ?_
      refine S.skip ?_
      refine S.seq ?_
      refine S.seq ?_
      refine S.region ?_
      refine SO.v rfl (opv_move rfl) ?_
      refine SO.v rfl (opv_fieldAddr Try.underlying63 rfl Try.sizeOf3 rfl rfl) ?_
      refine SO.load1 rfl Try.isAgg3 rfl rfl ?_
      obtain ⟨x135, hx136, h⟩ := opt_bind h
      refine SO.v rfl (opv_idx Try.underlying56 Try.sizeOf4 hr84 rfl rfl hx136) ?_
      refine SO.loadI1 (j := 0) rfl Try.isAgg4 (Rd.tail (Rd.tail (Rd.tail (Rd.tail (Rd.tail (Rd.tail (Rd.tail (Rd.head hr84)))))))) hx136 rfl rfl rfl rfl ?_
      refine SO.v rfl (opv_not rfl) ?_
      refine SO.nil ?_
      rcases bool_or (!x135) with b137 | b137
      · replace h := cond_t b137 h
        refine S.condT rfl b137 ?_
        refine S.seq ?_
        refine S.region ?_
        refine SO.v rfl (opv_assign rfl) ?_
        refine SO.nil ?_
        refine S.to (ρ' := [(4, .bool false)]) ⟨rfl, trivial⟩ ?_
        cases h
        replace h := hK3.1 _ rfl
        cases h
        refine S.drop ?_
        refine S.drop ?_
        refine S.drop ?_
        refine S.drop ?_
        refine S.drop ?_
        refine S.drop ?_
        refine S.drop ?_
        refine S.drop ?_
        refine S.drop ?_
        refine S.drop ?_
        refine S.drop ?_
        refine S.drop ?_
        exact S.ret1 Try.func5 rfl rfl (fun w hs hk => hR w _ _ ⟨rfl, rfl⟩ hs hk)
      replace h := cond_f b137 h
      refine S.condF rfl b137 ?_
      refine S.skip ?_
      refine S.region ?_
      refine SO.v rfl (opv_move rfl) ?_
      refine SO.v rfl (opv_fieldAddr Try.underlying63 rfl Try.sizeOf3 rfl rfl) ?_
      refine SO.load1 rfl Try.isAgg3 rfl rfl ?_
      refine SO.v rfl (opv_fieldAddr Try.underlying63 rfl Try.sizeOf35 rfl rfl) ?_
      refine SO.load1 rfl Try.isAgg35 rfl rfl ?_
      obtain ⟨x138, hx139, h⟩ := opt_bind h
      refine SO.v rfl (opv_idx Try.underlying48 Try.sizeOf35 hr115 rfl rfl hx139) ?_
      refine SO.b1 ?_
      refine SO.storeI1 (j := 0) (z' := x117.New) Try.sizeOf35 hx139 rfl rfl rfl rfl rfl rfl ?_
      refine SO.rd fun hr140 => ?_
      refine SO.nil ?_
      refine S.to (ρ' := [(0, v0), (4, .bool false), (5, .bool t2), (6, .int .i64 (a0.length : Int)), (11, v30), (18, v89), (19, v100), (20, v113), (21, .int .i64 x21_3)]) ⟨rfl, rfl, rfl, rfl, rfl, rfl, rfl, rfl, rfl, trivial⟩ ?_
      refine S.inBlock ?_
      refine S.region ?_
      refine SO.v rfl (opv_move rfl) ?_
      refine SO.v rfl (opv_add rfl rfl) ?_
      refine SO.v rfl (opv_assign rfl) ?_
      refine SO.nil ?_
      refine S.b1 ?_
      refine S.drop ?_
      refine S.b11 ?_
      refine S.b11 ?_
      refine S.b11 ?_
      refine S.b11 ?_
      refine S.b11 ?_
      refine S.b11 ?_
      refine S.b11 ?_
      refine S.b11 ?_
      refine S.b11 ?_
      refine S.b11 ?_
      refine S.b11 ?_
      refine S.b11 ?_
      refine S.to ?_ (ih3 ((w64 (x21_3 + 1), qv113_3.set x117.Cell.toNat x117.New), ()) h)
      exact ⟨rfl, rfl, rfl, rfl, rfl, rfl, rfl, rfl, rfl, trivial⟩
    replace h := cond_f b116 h
    refine S.condF rfl b116 ?_
    refine S.exit rfl ?_
    cases h
    refine S.b11 ?_
    refine S.b11 ?_
    refine S.b11 ?_
    refine S.b11 ?_
    refine S.b11 ?_
    refine S.b11 ?_
    refine S.b11 ?_
    refine S.b11 ?_
    refine S.b11 ?_
    refine S.b11 ?_
    refine S.b11 ?_
    refine S.b11 ?_
    refine S.to ?_ (hK3.2 qv113_3 () rfl)
    exact ⟨rfl, rfl, rfl, rfl, rfl, trivial⟩
  refine ⟨fun r' e' => ?_, ?_⟩
  · subst e'
    have h9 := Brk.of_ret h
    exact h9
  rintro qv113_e3 _ e'
  subst e'
  replace h := Brk.of_nx h
  refine S.rd fun hr141 => ?_
  refine S.seq ?_
  refine S.seq ?_
  refine S.region ?_
  refine SO.v rfl (opv_assign rfl) ?_
  refine SO.nil ?_
  obtain ⟨o5, hlp5, h⟩ := opt_bind h
  refine S.b11 ?_
  refine S.b11 ?_
  refine S.b11 ?_
  refine S.b11 ?_
  refine S.b11 ?_
  refine S.b11 ?_
  refine S.b11 ?_
  refine S.b11 ?_
  refine S.b11 ?_
  refine S.b11 ?_
  refine S.b11 ?_
  refine S.b11 ?_
  refine S.to (ρ' := [(23, .int .i64 0), (4, .bool false), (5, .bool t2), (6, .int .i64 (a0.length : Int)), (18, v89), (20, v113)]) ⟨rfl, rfl, rfl, rfl, rfl, rfl, trivial⟩ ?_
  refine S.forloop (X := Int × Unit) (O := Brk Bool Unit) (fun m x => law06_TxLearns.l5 a0 s93 qv113_e3 m x.1) (fun x => match x with | (x23_5, _) => [(23, .int .i64 x23_5), (4, .bool false), (5, .bool t2), (6, .int .i64 (a0.length : Int)), (18, v89), (20, v113)]) (fun x => match x with | (x23_5, _) => [Own 35 (ekI .u64) v113 qv113_e3, Own 63 ek_tx_Entry v100 t97, Box b15 [.int .i64 p98.cells, u102_l, u102_out, .int .i64 p98.lack, .bool p98.fine], MapO (aggE ek_api_Cell) u102_l p98.l, MapO (Value.int .u64) u102_out p98.out, Own 35 (ekI .u64) v89 s93, Own 4 ekB v30 qv30_e2, Box b34 [.int .u64 y34_0_e2], Own 38 ek_api_Cell vy10_0_e1 y10_0_e1, Box b10 [vy10_0_e1, .int .u32 y10_1_e1], Box b1 [v1], F]) (fun Sk o' => (∀ r', o' = Brk.ret r' → some r' = some r0) ∧ ∀ _ : Unit, ∀ _ : Unit, o' = Brk.nx () → Sk [(4, .bool false), (5, .bool t2)] [Own 35 (ekI .u64) v113 qv113_e3, Own 63 ek_tx_Entry v100 t97, Box b15 [.int .i64 p98.cells, u102_l, u102_out, .int .i64 p98.lack, .bool p98.fine], MapO (aggE ek_api_Cell) u102_l p98.l, MapO (Value.int .u64) u102_out p98.out, Own 35 (ekI .u64) v89 s93, Own 4 ekB v30 qv30_e2, Box b34 [.int .u64 y34_0_e2], Own 38 ek_api_Cell vy10_0_e1 y10_0_e1, Box b10 [vy10_0_e1, .int .u32 y10_1_e1], Box b1 [v1], F]) (fun _ => rfl) ?_ (m := k) (x := (0, ())) hlp5 ?_
  · clear h hlp5
    intro k x o_5 h hK5 ih5
    obtain ⟨x23_5, _⟩ := x
    replace h : law06_TxLearns.l5 a0 s93 qv113_e3 (k + 1) x23_5 = some o_5 := h
    first | rw [law06_TxLearns.l5] at h | unfold law06_TxLearns.l5 at h
    refine S.seq ?_
    refine S.seq ?_
    refine S.region ?_
    refine SO.v rfl (opv_move rfl) ?_
    refine SO.v rfl (opv_move rfl) ?_
    refine SO.v rfl (opv_lss rfl rfl) ?_
    refine SO.nil ?_
    rcases bool_or (decide (x23_5 < (a0.length : Int))) with b142 | b142
    · replace h := cond_t b142 h
      refine S.condT rfl b142 ?_
      refine S.skip ?_
      refine S.seq ?_
      refine S.block ?_
      refine S.seq ?_
      obtain ⟨x143, hx144, h⟩ := opt_bind h
      obtain ⟨t145, ht146, h⟩ := opt_bind h
      refine S.draw2 (Y := fun Q => ∃ (_ _ _ _ _ _ _ _ _ _ _ _ _ _ _ _ : Unit), Q [(20, v113), (23, .int .i64 x23_5), (18, v89), (4, .bool false), (5, .bool t2), (6, .int .i64 (a0.length : Int))] [Own 35 (ekI .u64) v113 qv113_e3, Own 63 ek_tx_Entry v100 t97, Box b15 [.int .i64 p98.cells, u102_l, u102_out, .int .i64 p98.lack, .bool p98.fine], MapO (aggE ek_api_Cell) u102_l p98.l, MapO (Value.int .u64) u102_out p98.out, Own 35 (ekI .u64) v89 s93, Own 4 ekB v30 qv30_e2, Box b34 [.int .u64 y34_0_e2], Own 38 ek_api_Cell vy10_0_e1 y10_0_e1, Box b10 [vy10_0_e1, .int .u32 y10_1_e1], Box b1 [v1], F]) (Z := fun Q => ∀ (_ _ _ _ _ _ _ _ _ _ _ _ _ _ _ _ _ : Unit), Q [(23, .int .i64 x23_5), (4, .bool false), (5, .bool t2), (6, .int .i64 (a0.length : Int)), (18, v89), (20, v113), (225, .bool (x143 != t145))] [Own 35 (ekI .u64) v113 qv113_e3, Own 63 ek_tx_Entry v100 t97, Box b15 [.int .i64 p98.cells, u102_l, u102_out, .int .i64 p98.lack, .bool p98.fine], MapO (aggE ek_api_Cell) u102_l p98.l, MapO (Value.int .u64) u102_out p98.out, Own 35 (ekI .u64) v89 s93, Own 4 ekB v30 qv30_e2, Box b34 [.int .u64 y34_0_e2], Own 38 ek_api_Cell vy10_0_e1 y10_0_e1, Box b10 [vy10_0_e1, .int .u32 y10_1_e1], Box b1 [v1], F]) (T := [tS 20 (v113), tS 23 (.int .i64 x23_5), tS 18 (v89), tE [(4, .bool false), (5, .bool t2), (6, .int .i64 (a0.length : Int))], tR (Own 35 (ekI .u64) v113 qv113_e3), tR (Own 63 ek_tx_Entry v100 t97), tR (Box b15 [.int .i64 p98.cells, u102_l, u102_out, .int .i64 p98.lack, .bool p98.fine]), tR (MapO (aggE ek_api_Cell) u102_l p98.l), tR (MapO (Value.int .u64) u102_out p98.out), tR (Own 35 (ekI .u64) v89 s93), tR (Own 4 ekB v30 qv30_e2), tR (Box b34 [.int .u64 y34_0_e2]), tR (Own 38 ek_api_Cell vy10_0_e1 y10_0_e1), tR (Box b10 [vy10_0_e1, .int .u32 y10_1_e1]), tR (Box b1 [v1]), tR (F), tS 218 (v113), tS 219 (.int .i64 x23_5), tS 220 (idxp v113 (x23_5.toNat * (ekI .u64).sz)), tS 221 (.int .u64 x143), tS 222 (v89), tS 223 (.int .i64 x23_5), tS 224 (.int .u64 t145), tS 225 (.bool (x143 != t145))]) (D := [⟨[0], [], [16]⟩, ⟨[1], [], [17]⟩, ⟨[16, 17, 4], [], [18]⟩, ⟨[18, 4], [], [19]⟩, ⟨[2], [], [20]⟩, ⟨[1], [], [21]⟩, ⟨[20, 21, 9], [], [22]⟩, ⟨[19, 22], [], [23]⟩]) (ini := [0, 1, 2, 3, 4, 5, 6, 7, 8, 9, 10, 11, 12, 13, 14, 15]) (fin := [1, 3, 2, 0, 23, 4, 5, 6, 7, 8, 9, 10, 11, 12, 13, 14, 15]) (bf := [[], [], [0, 1], [0, 1, 2], [], [], [4, 5], [0, 1, 2, 3, 4, 5, 6]]) (by kernel_rfl) (by kernel_rfl) (fun Q => by kernel_rfl) (fun x w h1 h2 => ⟨(), (), (), (), (), (), (), (), (), (), (), (), (), (), (), (), EnvAll.of h1 ⟨rfl, rfl, rfl, rfl, rfl, rfl, trivial⟩, h2⟩) (fun Q => by kernel_rfl) ⟨?_, ?_, ?_, ?_, ?_, ?_, ?_, ?_, trivial⟩ ?_
      · rintro Fr _
        refine SO.v rfl (opv_move rfl) ?_
        exact SO.nilZ fun a w h1 h2 h3 h4 h5 => PZ.of h1 h3 h5 (.cons () (.cons () (.nil ⟨EnvAll.of h2 ⟨rfl, rfl, trivial⟩, h4⟩)))
      · rintro Fr _
        refine SO.v rfl (opv_move rfl) ?_
        exact SO.nilZ fun a w h1 h2 h3 h4 h5 => PZ.of h1 h3 h5 (.cons () (.cons () (.nil ⟨EnvAll.of h2 ⟨rfl, rfl, trivial⟩, h4⟩)))
      · rintro Fr _ _ _
        refine SO.v rfl (opv_idx Try.underlying48 Try.sizeOf35 hr141 rfl rfl hx144) ?_
        exact SO.nilZ fun a w h1 h2 h3 h4 h5 => PZ.of h1 h3 h5 (.cons () (.cons () (.cons () (.cons () (.nil ⟨EnvAll.of h2 ⟨rfl, rfl, rfl, trivial⟩, h4⟩)))))
      · rintro Fr _ _
        refine SO.loadI1 (j := 0) rfl Try.isAgg35 (Rd.head hr141) hx144 rfl rfl rfl rfl ?_
        exact SO.nilZ fun a w h1 h2 h3 h4 h5 => PZ.of h1 h3 h5 (.cons () (.cons () (.cons () (.nil ⟨EnvAll.of h2 ⟨rfl, rfl, trivial⟩, h4⟩))))
      · rintro Fr _
        refine SO.v rfl (opv_move rfl) ?_
        exact SO.nilZ fun a w h1 h2 h3 h4 h5 => PZ.of h1 h3 h5 (.cons () (.cons () (.nil ⟨EnvAll.of h2 ⟨rfl, rfl, trivial⟩, h4⟩)))
      · rintro Fr _
        refine SO.v rfl (opv_move rfl) ?_
        exact SO.nilZ fun a w h1 h2 h3 h4 h5 => PZ.of h1 h3 h5 (.cons () (.cons () (.nil ⟨EnvAll.of h2 ⟨rfl, rfl, trivial⟩, h4⟩)))
      · rintro Fr _ _ _
        refine SO.call (pre := []) rfl Try.call20 rfl rfl rfl (view_Plain_Read.ct v89 _ _ _ ht146) (Rd.head hr95) ?_
        rintro _ _ ⟨rfl, rfl⟩
        exact SO.nilZ fun a w h1 h2 h3 h4 h5 => PZ.of h1 h3 h5 (.cons () (.cons () (.cons () (.cons () (.nil ⟨EnvAll.of h2 ⟨rfl, rfl, rfl, trivial⟩, h4⟩)))))
      · rintro Fr _ _
        refine SO.v rfl (opv_neq rfl rfl) ?_
        exact SO.nilZ fun a w h1 h2 h3 h4 h5 => PZ.of h1 h3 h5 (.cons () (.cons () (.cons () (.nil ⟨EnvAll.of h2 ⟨rfl, rfl, rfl, trivial⟩, h4⟩))))
      rintro _ _ _ _ _ _ _ _ _ _ _ _ _ _ _ _ _
      refine S.to (ρ' := [(23, .int .i64 x23_5), (4, .bool false), (5, .bool t2), (6, .int .i64 (a0.length : Int)), (18, v89), (20, v113), (225, .bool (x143 != t145))]) ⟨rfl, rfl, rfl, rfl, rfl, rfl, rfl, trivial⟩ ?_
      rcases bool_or (x143 != t145) with b147 | b147
      · replace h := cond_t b147 h
        refine S.condT rfl b147 ?_
        refine S.seq ?_
        refine S.region ?_
        refine SO.v rfl (opv_assign rfl) ?_
        refine SO.nil ?_
        cases h
        replace h := hK5.1 _ rfl
        cases h
        refine S.drop ?_
        refine S.drop ?_
        refine S.drop ?_
        refine S.drop ?_
        refine S.drop ?_
        refine S.drop ?_
        refine S.drop ?_
        refine S.drop ?_
        refine S.drop ?_
        refine S.drop ?_
        refine S.drop ?_
        exact S.ret1 Try.func5 rfl rfl (fun w hs hk => hR w _ _ ⟨rfl, rfl⟩ hs hk)
      replace h := cond_f b147 h
      refine S.condF rfl b147 ?_
      refine S.skip ?_
      refine S.inBlock ?_
      refine S.region ?_
      refine SO.v rfl (opv_move rfl) ?_
      refine SO.v rfl (opv_add rfl rfl) ?_
      refine SO.v rfl (opv_assign rfl) ?_
      refine SO.nil ?_
      refine S.b11 ?_
      refine S.b11 ?_
      refine S.b11 ?_
      refine S.b11 ?_
      refine S.b11 ?_
      refine S.b11 ?_
      refine S.b11 ?_
      refine S.b11 ?_
      refine S.b11 ?_
      refine S.b11 ?_
      refine S.b11 ?_
      refine S.b11 ?_
      refine S.to ?_ (ih5 (w64 (x23_5 + 1), ()) h)
      exact ⟨rfl, rfl, rfl, rfl, rfl, rfl, trivial⟩
    replace h := cond_f b142 h
    refine S.condF rfl b142 ?_
    refine S.exit rfl ?_
    cases h
    refine S.b11 ?_
    refine S.b11 ?_
    refine S.b11 ?_
    refine S.b11 ?_
    refine S.b11 ?_
    refine S.b11 ?_
    refine S.b11 ?_
    refine S.b11 ?_
    refine S.b11 ?_
    refine S.b11 ?_
    refine S.b11 ?_
    refine S.b11 ?_
    refine S.to ?_ (hK5.2 () () rfl)
    exact ⟨rfl, rfl, trivial⟩
  refine ⟨fun r' e' => ?_, ?_⟩
  · subst e'
    have h9 := Brk.of_ret h
    exact h9
  rintro _ _ e'
  subst e'
  replace h := Brk.of_nx h
  refine S.seq ?_
  refine S.region ?_
  refine SO.v rfl (opv_move rfl) ?_
  refine SO.v rfl (opv_assign rfl) ?_
  refine SO.nil ?_
  cases h
  refine S.drop ?_
  refine S.drop ?_
  refine S.drop ?_
  refine S.drop ?_
  refine S.drop ?_
  refine S.drop ?_
  refine S.drop ?_
  refine S.drop ?_
  refine S.drop ?_
  refine S.drop ?_
  refine S.drop ?_
  exact S.ret1 Try.func5 rfl rfl (fun w hs hk => hR w _ _ ⟨rfl, rfl⟩ hs hk)
end Go.Proofs
