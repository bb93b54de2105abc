/- What the functions that StmSerial reaches come to, and that they do. On no condition. -/
import Derived.Test.YtmodeilahcbidaaFnStmSerial0
import Derived.Test.YtmodeilahcbidaaFr1
set_option linter.all false
namespace Go.Proofs
open Go.Sl Go.RowKit
/-! 53 (*padstone/desc.Desc).reserve -/
def desc_Desc_reserve.f (a0 : desc_Desc) (a1 : word_Store) : Option ((Int × desc_Desc × word_Store)) :=
  (at_ a0.l a0.at_).bind fun x3 => (word_Store_Read.f a1 x3.Cell).bind fun (t6, t7) => (bif t7.isNone then (bif t6.Mark != 0 then (some (t6.Mark != a0.mark)) else (some false)) else (some false)).bind fun j47_1 => bif j47_1 then (some (t6.Mark, a0, a1)) else ((bif t7.isSome then (some true) else (some (t6.Version != x3.Version))).bind fun c14 => bif c14 then ((desc_Desc_turn.f a0 2).bind fun p17 => some (0, p17, a1)) else ((bif x3.Write then ((word_Store_Limit.f a1).bind fun t22 => some (t6.Version == t22)) else (some false)).bind fun j78_2 => bif j78_2 then ((desc_Desc_turn.f a0 3).bind fun p25 => some (0, p25, a1)) else ((word_Store_Reserve.f a1 x3.Cell x3.Version a0.mark).bind fun (t29, p30) => bif t29.isSome then ((desc_Desc_turn.f a0 2).bind fun p37 => some (0, p37, p30)) else (some (0, ({ a0 with at_ := w64 (a0.at_ + 1) } : desc_Desc), p30)))))
set_option maxHeartbeats 8000000 in
set_option maxRecDepth 100000 in
theorem desc_Desc_reserve.ct (bp0 : Nat) (v0_l : Value) (bp1 : Nat) (v1_l : Value) (a0 : desc_Desc) (a1 : word_Store) (r0 : Int) (rp0 : desc_Desc) (rp1 : word_Store) (h : desc_Desc_reserve.f a0 a1 = some (r0, rp0, rp1)) :
    Ct Try.prog 53 [bp bp0 0, bp bp1 0] (fun _ => True) [Box bp0 [.int .i64 a0.mark, v0_l, .int .i64 a0.status, .int .i64 a0.at_], Own 114 ek_tx_Entry v0_l a0.l, Box bp1 [v1_l, .int .u32 a1.limit], Own 88 ek_api_Cell v1_l a1.l] (fun u H' => ∃ rw0_l rw1_l, u = .int .i64 r0 ∧ H' = [Box bp0 [.int .i64 rp0.mark, rw0_l, .int .i64 rp0.status, .int .i64 rp0.at_], Own 114 ek_tx_Entry rw0_l rp0.l, Box bp1 [rw1_l, .int .u32 rp1.limit], Own 88 ek_api_Cell rw1_l rp1.l]) := by
  unfold desc_Desc_reserve.f at h
  refine Ct.intro (n := 90) Try.func53 rfl rfl rfl ?_
  intro R w0 F hF hR
  refine S.b1 ?_
  refine S.rd fun hr1 => ?_
  refine S.b3 ?_
  refine S.rd fun hr2 => ?_
  refine S.seq ?_
  refine S.region ?_
  refine SO.v rfl (opv_assign rfl) ?_
  refine SO.nil ?_
  refine S.seq ?_
  obtain ⟨x3, hx4, h⟩ := opt_bind h
  refine S.draw2 (Y := fun Q => ∃ (_ _ _ _ _ _ _ : Unit), Q [(0, bp bp0 0), (4, .int .i64 0), (1, bp bp1 0)] [Own 88 ek_api_Cell v1_l a1.l, Own 114 ek_tx_Entry v0_l a0.l, Box bp0 [.int .i64 a0.mark, v0_l, .int .i64 a0.status, .int .i64 a0.at_], Box bp1 [v1_l, .int .u32 a1.limit], F]) (Z := fun Q => ∀ (_ _ : Unit) (b5 : Nat) (_ _ _ _ _ : Unit), Q [(0, bp bp0 0), (4, .int .i64 0), (1, bp bp1 0), (5, bp b5 0)] [Box b5 [.int .i64 x3.Cell, .int .u32 x3.Version, .int .u64 x3.Old, .int .u64 x3.New, .bool x3.Write], Own 88 ek_api_Cell v1_l a1.l, Own 114 ek_tx_Entry v0_l a0.l, Box bp0 [.int .i64 a0.mark, v0_l, .int .i64 a0.status, .int .i64 a0.at_], Box bp1 [v1_l, .int .u32 a1.limit], F]) (T := [tS 0 (bp bp0 0), tE [(4, .int .i64 0), (1, bp bp1 0)], tR (Own 88 ek_api_Cell v1_l a1.l), tR (Own 114 ek_tx_Entry v0_l a0.l), tR (Box bp0 [.int .i64 a0.mark, v0_l, .int .i64 a0.status, .int .i64 a0.at_]), tR (Box bp1 [v1_l, .int .u32 a1.limit]), tR (F), tS 9 (bp bp0 0), tS 10 (bp bp0 0), tS 11 (bp bp0 1), tS 12 (v0_l), tS 13 (bp bp0 0), tS 14 (bp bp0 0), tS 15 (bp bp0 3), tS 16 (.int .i64 a0.at_), tS 17 (idxp v0_l (a0.at_.toNat * ek_tx_Entry.sz)), tS 18 (.agg #[.int .i64 x3.Cell, .int .u32 x3.Version, .int .u64 x3.Old, .int .u64 x3.New, .bool x3.Write]), ⟨Nat, [5], (fun b5 => [(5, bp b5 0)]), (fun b5 => [Box b5 [.int .i64 0, .int .u32 0, .int .u64 0, .int .u64 0, .bool false]]), fun _ => rfl⟩, ⟨Nat, [5], (fun b5 => [(5, bp b5 0)]), (fun b5 => [Box b5 [.int .i64 x3.Cell, .int .u32 x3.Version, .int .u64 x3.Old, .int .u64 x3.New, .bool x3.Write]]), fun _ => rfl⟩]) (D := [⟨[0], [], [7]⟩, ⟨[7], [], [8]⟩, ⟨[8], [], [9]⟩, ⟨[9, 4], [], [10]⟩, ⟨[0], [], [11]⟩, ⟨[11], [], [12]⟩, ⟨[12], [], [13]⟩, ⟨[13, 4], [], [14]⟩, ⟨[10, 14, 3], [], [15]⟩, ⟨[15, 3], [], [16]⟩, ⟨[], [], [17]⟩, ⟨[16], [17], [18]⟩]) (ini := [0, 1, 2, 3, 4, 5, 6]) (fin := [0, 1, 18, 2, 3, 4, 5, 6]) (bf := [[], [0], [0, 1], [0, 1, 2], [], [4], [4, 5], [4, 5, 6], [0, 1, 2, 3, 4, 5, 6, 7], [0, 1, 2, 3, 4, 5, 6, 7, 8], [], [0, 1, 2, 3, 4, 5, 6, 7, 8, 9, 10]]) (by kernel_rfl) (by kernel_rfl) (fun Q => by kernel_rfl) (fun x w h1 h2 => ⟨(), (), (), (), (), (), (), EnvAll.of h1 ⟨rfl, rfl, rfl, trivial⟩, h2⟩) (fun Q => by kernel_rfl) ⟨?_, ?_, ?_, ?_, ?_, ?_, ?_, ?_, ?_, ?_, ?_, ?_, trivial⟩ ?_
  · rintro Fr _
    refine SO.v rfl (opv_move rfl) ?_
    exact SO.nilZ fun a w h1 h2 h3 h4 h5 => PZ.of h1 h3 h5 (.cons () (.cons () (.nil ⟨EnvAll.of h2 ⟨rfl, rfl, trivial⟩, h4⟩)))
  · rintro Fr _
    refine SO.v rfl (opv_nilCheck rfl) ?_
    exact SO.nilZ fun a w h1 h2 h3 h4 h5 => PZ.of h1 h3 h5 (.cons () (.cons () (.nil ⟨EnvAll.of h2 ⟨rfl, rfl, trivial⟩, h4⟩)))
  · rintro Fr _
    refine SO.v rfl (opv_fieldAddr Try.underlying108 rfl Try.sizeOf102 rfl rfl) ?_
    exact SO.nilZ fun a w h1 h2 h3 h4 h5 => PZ.of h1 h3 h5 (.cons () (.cons () (.nil ⟨EnvAll.of h2 ⟨rfl, rfl, trivial⟩, h4⟩)))
  · rintro Fr _ _
    refine SO.load1 rfl Try.isAgg102 rfl rfl ?_
    exact SO.nilZ fun a w h1 h2 h3 h4 h5 => PZ.of h1 h3 h5 (.cons () (.cons () (.cons () (.nil ⟨EnvAll.of h2 ⟨rfl, rfl, trivial⟩, h4⟩))))
  · rintro Fr _
    refine SO.v rfl (opv_move rfl) ?_
    exact SO.nilZ fun a w h1 h2 h3 h4 h5 => PZ.of h1 h3 h5 (.cons () (.cons () (.nil ⟨EnvAll.of h2 ⟨rfl, rfl, trivial⟩, h4⟩)))
  · rintro Fr _
    refine SO.v rfl (opv_nilCheck rfl) ?_
    exact SO.nilZ fun a w h1 h2 h3 h4 h5 => PZ.of h1 h3 h5 (.cons () (.cons () (.nil ⟨EnvAll.of h2 ⟨rfl, rfl, trivial⟩, h4⟩)))
  · rintro Fr _
    refine SO.v rfl (opv_fieldAddr Try.underlying108 rfl Try.sizeOf3 rfl rfl) ?_
    exact SO.nilZ fun a w h1 h2 h3 h4 h5 => PZ.of h1 h3 h5 (.cons () (.cons () (.nil ⟨EnvAll.of h2 ⟨rfl, rfl, trivial⟩, h4⟩)))
  · rintro Fr _ _
    refine SO.load1 rfl Try.isAgg3 rfl rfl ?_
    exact SO.nilZ fun a w h1 h2 h3 h4 h5 => PZ.of h1 h3 h5 (.cons () (.cons () (.cons () (.nil ⟨EnvAll.of h2 ⟨rfl, rfl, trivial⟩, h4⟩))))
  · rintro Fr _ _ _
    refine SO.v rfl (opv_idx Try.underlying102 Try.sizeOf114 hr1 rfl rfl hx4) ?_
    exact SO.nilZ fun a w h1 h2 h3 h4 h5 => PZ.of h1 h3 h5 (.cons () (.cons () (.cons () (.cons () (.nil ⟨EnvAll.of h2 ⟨rfl, rfl, rfl, trivial⟩, h4⟩)))))
  · rintro Fr _ _
    refine SO.loadIN rfl Try.isAgg114 Try.sizeOf114 (Rd.head hr1) hx4 rfl rfl rfl ?_
    exact SO.nilZ fun a w h1 h2 h3 h4 h5 => PZ.of h1 h3 h5 (.cons () (.cons () (.cons () (.nil ⟨EnvAll.of h2 ⟨rfl, rfl, trivial⟩, h4⟩))))
  · rintro Fr 
    refine SO.alloc rfl Try.zeroValue114 rfl (fun b5 => ?_)
    exact SO.nilZ fun a w h1 h2 h3 h4 h5 => PZ.of h1 h3 h5 (.cons b5 (.nil ⟨EnvAll.of h2 ⟨rfl, trivial⟩, h4⟩))
  · rintro Fr _ b5
    refine SO.storeN Try.sizeOf114 rfl rfl rfl rfl rfl rfl ?_
    exact SO.nilZ fun a w h1 h2 h3 h4 h5 => PZ.of h1 h3 h5 (.cons () (.cons b5 (.nil ⟨EnvAll.of h2 ⟨rfl, rfl, trivial⟩, h4⟩)))
  rintro _ _ b5 _ _ _ _ _
  refine S.to (ρ' := [(0, bp bp0 0), (4, .int .i64 0), (1, bp bp1 0), (5, bp b5 0)]) ⟨rfl, rfl, rfl, rfl, trivial⟩ ?_
  refine S.seq ?_
  refine S.region ?_
  refine SO.v rfl (opv_move rfl) ?_
  refine SO.v rfl (opv_fieldAddr Try.underlying114 rfl Try.sizeOf3 rfl rfl) ?_
  refine SO.load1 rfl Try.isAgg3 rfl rfl ?_
  obtain ⟨⟨t6, t7⟩, ht8, h⟩ := opt_bind h
  refine SO.b1 ?_
  refine SO.b4 ?_
  refine SO.call (pre := [Box _ _, Own _ _ _ _]) rfl Try.call35 rfl rfl rfl (word_Store_Read.ct bp1 v1_l _ _ _ _ ht8) trivial ?_
  rintro _ _ ⟨rfl, rfl⟩
  refine SO.v rfl (opv_move rfl) ?_
  refine SO.v rfl (opv_extract rfl rfl) ?_
  refine SO.v rfl (opv_extract rfl rfl) ?_
  refine SO.alloc rfl Try.zeroValue88 rfl (fun b9 => ?_)
  refine SO.storeN Try.sizeOf88 rfl rfl rfl rfl rfl rfl ?_
  refine SO.v rfl (opv_assign rfl) ?_
  refine SO.nil ?_
  refine S.to (ρ' := [(0, bp bp0 0), (4, .int .i64 0), (1, bp bp1 0), (5, bp b5 0), (6, bp b9 0), (7, errV 60 t7)]) ⟨rfl, rfl, rfl, rfl, rfl, rfl, trivial⟩ ?_
  refine S.seq ?_
  refine S.block ?_
  refine S.seq ?_
  obtain ⟨j47_1, hC1, hJ1⟩ := opt_bind h
  clear h
  refine S.cutP (G := Unit) (fun _ => True) (fun _ => [(0, bp bp0 0), (1, bp bp1 0), (4, .int .i64 0), (5, bp b5 0), (6, bp b9 0), (7, errV 60 t7), (47, .bool j47_1)]) (fun _ => [Box b9 [.int .u64 t6.Value, .int .u32 t6.Version, .int .i64 t6.Mark], Box bp1 [v1_l, .int .u32 a1.limit], Own 88 ek_api_Cell v1_l a1.l, Box b5 [.int .i64 x3.Cell, .int .u32 x3.Version, .int .u64 x3.Old, .int .u64 x3.New, .bool x3.Write], Own 114 ek_tx_Entry v0_l a0.l, Box bp0 [.int .i64 a0.mark, v0_l, .int .i64 a0.status, .int .i64 a0.at_], F]) (fun hk1 => ?_) ?_
  · replace h := hC1
    rcases bool_or t7.isNone with b10 | b10
    · replace h := cond_t b10 h
      rcases bool_or (t6.Mark != 0) with b11 | b11
      · replace h := cond_t b11 h
        refine S.draw2 (Y := fun Q => ∃ (_ _ _ _ _ _ _ _ _ _ _ : Unit), Q [(7, errV 60 t7), (6, bp b9 0), (0, bp bp0 0), (4, .int .i64 0), (1, bp bp1 0), (5, bp b5 0)] [Box b9 [.int .u64 t6.Value, .int .u32 t6.Version, .int .i64 t6.Mark], Box bp1 [v1_l, .int .u32 a1.limit], Own 88 ek_api_Cell v1_l a1.l, Box b5 [.int .i64 x3.Cell, .int .u32 x3.Version, .int .u64 x3.Old, .int .u64 x3.New, .bool x3.Write], Own 114 ek_tx_Entry v0_l a0.l, Box bp0 [.int .i64 a0.mark, v0_l, .int .i64 a0.status, .int .i64 a0.at_], F]) (Z := fun Q => ∀ (_ _ _ _ _ _ _ _ _ _ _ _ : Unit), Q [(0, bp bp0 0), (4, .int .i64 0), (1, bp bp1 0), (5, bp b5 0), (6, bp b9 0), (7, errV 60 t7), (47, .bool (t6.Mark != a0.mark))] [Box b9 [.int .u64 t6.Value, .int .u32 t6.Version, .int .i64 t6.Mark], Box bp1 [v1_l, .int .u32 a1.limit], Own 88 ek_api_Cell v1_l a1.l, Box b5 [.int .i64 x3.Cell, .int .u32 x3.Version, .int .u64 x3.Old, .int .u64 x3.New, .bool x3.Write], Own 114 ek_tx_Entry v0_l a0.l, Box bp0 [.int .i64 a0.mark, v0_l, .int .i64 a0.status, .int .i64 a0.at_], F]) (T := [tS 7 (errV 60 t7), tS 6 (bp b9 0), tS 0 (bp bp0 0), tE [(4, .int .i64 0), (1, bp bp1 0), (5, bp b5 0)], tR (Box b9 [.int .u64 t6.Value, .int .u32 t6.Version, .int .i64 t6.Mark]), tR (Box bp1 [v1_l, .int .u32 a1.limit]), tR (Own 88 ek_api_Cell v1_l a1.l), tR (Box b5 [.int .i64 x3.Cell, .int .u32 x3.Version, .int .u64 x3.Old, .int .u64 x3.New, .bool x3.Write]), tR (Own 114 ek_tx_Entry v0_l a0.l), tR (Box bp0 [.int .i64 a0.mark, v0_l, .int .i64 a0.status, .int .i64 a0.at_]), tR (F), tS 48 (errV 60 t7), tS 49 (.bool t7.isNone), tS 50 (.bool t7.isNone), tS 51 (bp b9 2), tS 52 (.int .i64 t6.Mark), tS 53 (.bool (t6.Mark != 0)), tS 54 (.bool (t6.Mark != 0)), tS 55 (.bool (t6.Mark != 0)), tS 56 (bp b9 2), tS 57 (.int .i64 t6.Mark), tS 58 (bp bp0 0), tS 59 (bp bp0 0), tS 60 (bp bp0 0), tS 61 (.int .i64 a0.mark), tS 62 (.bool (t6.Mark != a0.mark)), tS 63 (.bool (t6.Mark != a0.mark)), tS 47 (.bool (t6.Mark != a0.mark))]) (D := [⟨[0], [], [11]⟩, ⟨[11], [], [12]⟩, ⟨[12], [], [13]⟩, ⟨[1, 13], [], [14]⟩, ⟨[13, 14, 4], [], [15]⟩, ⟨[13, 15], [], [16]⟩, ⟨[13, 16], [], [17]⟩, ⟨[17], [], [18]⟩, ⟨[1, 18], [], [19]⟩, ⟨[18, 19, 4], [], [20]⟩, ⟨[2, 18], [], [21]⟩, ⟨[18, 21], [], [22]⟩, ⟨[18, 22], [], [23]⟩, ⟨[18, 23, 9], [], [24]⟩, ⟨[18, 20, 24], [], [25]⟩, ⟨[18, 25], [], [26]⟩, ⟨[26], [], [27]⟩]) (ini := [0, 1, 2, 3, 4, 5, 6, 7, 8, 9, 10]) (fin := [2, 3, 1, 0, 27, 4, 5, 6, 7, 8, 9, 10]) (bf := [[], [0], [0, 1], [0, 1, 2], [0, 1, 2, 3], [0, 1, 2, 3, 4], [0, 1, 2, 3, 4, 5], [0, 1, 2, 3, 4, 5, 6], [0, 1, 2, 3, 4, 5, 6, 7], [0, 1, 2, 3, 4, 5, 6, 7, 8], [0, 1, 2, 3, 4, 5, 6, 7], [0, 1, 2, 3, 4, 5, 6, 7, 10], [0, 1, 2, 3, 4, 5, 6, 7, 10, 11], [0, 1, 2, 3, 4, 5, 6, 7, 10, 11, 12], [0, 1, 2, 3, 4, 5, 6, 7, 8, 9, 10, 11, 12, 13], [0, 1, 2, 3, 4, 5, 6, 7, 8, 9, 10, 11, 12, 13, 14], [0, 1, 2, 3, 4, 5, 6, 7, 8, 9, 10, 11, 12, 13, 14, 15]]) (by kernel_rfl) (by kernel_rfl) (fun Q => by kernel_rfl) (fun x w h1 h2 => ⟨(), (), (), (), (), (), (), (), (), (), (), EnvAll.of h1 ⟨rfl, rfl, rfl, rfl, rfl, rfl, trivial⟩, h2⟩) (fun Q => by kernel_rfl) ⟨?_, ?_, ?_, ?_, ?_, ?_, ?_, ?_, ?_, ?_, ?_, ?_, ?_, ?_, ?_, ?_, ?_, trivial⟩ ?_
        · rintro Fr _
          refine SO.v rfl (opv_move rfl) ?_
          exact SO.nilZ fun a w h1 h2 h3 h4 h5 => PZ.of h1 h3 h5 (.cons () (.cons () (.nil ⟨EnvAll.of h2 ⟨rfl, rfl, trivial⟩, h4⟩)))
        · rintro Fr _
          refine SO.v rfl (opv_eqlN (e := t7) Try.underlying29 rfl) ?_
          exact SO.nilZ fun a w h1 h2 h3 h4 h5 => PZ.of h1 h3 h5 (.cons () (.cons () (.nil ⟨EnvAll.of h2 ⟨rfl, rfl, trivial⟩, h4⟩)))
        · rintro Fr _
          refine SO.v rfl (opv_move rfl) ?_
          exact SO.nilZ fun a w h1 h2 h3 h4 h5 => PZ.of h1 h3 h5 (.cons () (.cons () (.nil ⟨EnvAll.of h2 ⟨rfl, rfl, trivial⟩, h4⟩)))
        · rintro Fr _ _
          refine SO.takeT rfl rfl rfl b10 ?_
          refine SO.v rfl (opv_fieldAddr Try.underlying88 rfl Try.sizeOf3 rfl rfl) ?_
          exact SO.nilZ fun a w h1 h2 h3 h4 h5 => PZ.of h1 h3 h5 (.cons () (.cons () (.cons () (.nil ⟨EnvAll.of h2 ⟨rfl, rfl, rfl, trivial⟩, h4⟩))))
        · rintro Fr _ _ _
          refine SO.takeT rfl rfl rfl b10 ?_
          refine SO.load1 rfl Try.isAgg3 rfl rfl ?_
          exact SO.nilZ fun a w h1 h2 h3 h4 h5 => PZ.of h1 h3 h5 (.cons () (.cons () (.cons () (.cons () (.nil ⟨EnvAll.of h2 ⟨rfl, rfl, rfl, trivial⟩, h4⟩)))))
        · rintro Fr _ _
          refine SO.takeT rfl rfl rfl b10 ?_
          refine SO.v rfl (opv_neq rfl rfl) ?_
          exact SO.nilZ fun a w h1 h2 h3 h4 h5 => PZ.of h1 h3 h5 (.cons () (.cons () (.cons () (.nil ⟨EnvAll.of h2 ⟨rfl, rfl, rfl, trivial⟩, h4⟩))))
        · rintro Fr _ _
          refine SO.v rfl (opv_pick_t' b10 rfl rfl) ?_
          exact SO.nilZ fun a w h1 h2 h3 h4 h5 => PZ.of h1 h3 h5 (.cons () (.cons () (.cons () (.nil ⟨EnvAll.of h2 ⟨rfl, rfl, rfl, trivial⟩, h4⟩))))
        · rintro Fr _
          refine SO.v rfl (opv_move rfl) ?_
          exact SO.nilZ fun a w h1 h2 h3 h4 h5 => PZ.of h1 h3 h5 (.cons () (.cons () (.nil ⟨EnvAll.of h2 ⟨rfl, rfl, trivial⟩, h4⟩)))
        · rintro Fr _ _
          refine SO.takeT rfl rfl rfl b11 ?_
          refine SO.v rfl (opv_fieldAddr Try.underlying88 rfl Try.sizeOf3 rfl rfl) ?_
          exact SO.nilZ fun a w h1 h2 h3 h4 h5 => PZ.of h1 h3 h5 (.cons () (.cons () (.cons () (.nil ⟨EnvAll.of h2 ⟨rfl, rfl, rfl, trivial⟩, h4⟩))))
        · rintro Fr _ _ _
          refine SO.takeT rfl rfl rfl b11 ?_
          refine SO.load1 rfl Try.isAgg3 rfl rfl ?_
          exact SO.nilZ fun a w h1 h2 h3 h4 h5 => PZ.of h1 h3 h5 (.cons () (.cons () (.cons () (.cons () (.nil ⟨EnvAll.of h2 ⟨rfl, rfl, rfl, trivial⟩, h4⟩)))))
        · rintro Fr _ _
          refine SO.takeT rfl rfl rfl b11 ?_
          refine SO.v rfl (opv_move rfl) ?_
          exact SO.nilZ fun a w h1 h2 h3 h4 h5 => PZ.of h1 h3 h5 (.cons () (.cons () (.cons () (.nil ⟨EnvAll.of h2 ⟨rfl, rfl, rfl, trivial⟩, h4⟩))))
        · rintro Fr _ _
          refine SO.takeT rfl rfl rfl b11 ?_
          refine SO.v rfl (opv_nilCheck rfl) ?_
          exact SO.nilZ fun a w h1 h2 h3 h4 h5 => PZ.of h1 h3 h5 (.cons () (.cons () (.cons () (.nil ⟨EnvAll.of h2 ⟨rfl, rfl, rfl, trivial⟩, h4⟩))))
        · rintro Fr _ _
          refine SO.takeT rfl rfl rfl b11 ?_
          refine SO.v rfl (opv_fieldAddr Try.underlying108 rfl Try.sizeOf3 rfl rfl) ?_
          exact SO.nilZ fun a w h1 h2 h3 h4 h5 => PZ.of h1 h3 h5 (.cons () (.cons () (.cons () (.nil ⟨EnvAll.of h2 ⟨rfl, rfl, rfl, trivial⟩, h4⟩))))
        · rintro Fr _ _ _
          refine SO.takeT rfl rfl rfl b11 ?_
          refine SO.load1 rfl Try.isAgg3 rfl rfl ?_
          exact SO.nilZ fun a w h1 h2 h3 h4 h5 => PZ.of h1 h3 h5 (.cons () (.cons () (.cons () (.cons () (.nil ⟨EnvAll.of h2 ⟨rfl, rfl, rfl, trivial⟩, h4⟩)))))
        · rintro Fr _ _ _
          refine SO.takeT rfl rfl rfl b11 ?_
          refine SO.v rfl (opv_neq rfl rfl) ?_
          exact SO.nilZ fun a w h1 h2 h3 h4 h5 => PZ.of h1 h3 h5 (.cons () (.cons () (.cons () (.cons () (.nil ⟨EnvAll.of h2 ⟨rfl, rfl, rfl, rfl, trivial⟩, h4⟩)))))
        · rintro Fr _ _
          refine SO.v rfl (opv_pick_t' b11 rfl rfl) ?_
          exact SO.nilZ fun a w h1 h2 h3 h4 h5 => PZ.of h1 h3 h5 (.cons () (.cons () (.cons () (.nil ⟨EnvAll.of h2 ⟨rfl, rfl, rfl, trivial⟩, h4⟩))))
        · rintro Fr _
          refine SO.v rfl (opv_assign rfl) ?_
          exact SO.nilZ fun a w h1 h2 h3 h4 h5 => PZ.of h1 h3 h5 (.cons () (.cons () (.nil ⟨EnvAll.of h2 ⟨rfl, rfl, trivial⟩, h4⟩)))
        rintro _ _ _ _ _ _ _ _ _ _ _ _
        refine S.to (ρ' := [(0, bp bp0 0), (4, .int .i64 0), (1, bp bp1 0), (5, bp b5 0), (6, bp b9 0), (7, errV 60 t7), (47, .bool (t6.Mark != a0.mark))]) ⟨rfl, rfl, rfl, rfl, rfl, rfl, rfl, trivial⟩ ?_
        cases h
        refine S.b6 ?_
        refine S.b6 ?_
        refine S.b6 ?_
        refine S.b6 ?_
        refine S.b6 ?_
        refine S.b6 ?_
        refine S.b6 ?_
        refine S.to ?_ (hk1 () trivial)
        exact ⟨rfl, rfl, rfl, rfl, rfl, rfl, rfl, trivial⟩
      replace h := cond_f b11 h
      refine S.draw2 (Y := fun Q => ∃ (_ _ _ _ _ _ _ _ _ _ _ : Unit), Q [(7, errV 60 t7), (6, bp b9 0), (0, bp bp0 0), (4, .int .i64 0), (1, bp bp1 0), (5, bp b5 0)] [Box b9 [.int .u64 t6.Value, .int .u32 t6.Version, .int .i64 t6.Mark], Box bp1 [v1_l, .int .u32 a1.limit], Own 88 ek_api_Cell v1_l a1.l, Box b5 [.int .i64 x3.Cell, .int .u32 x3.Version, .int .u64 x3.Old, .int .u64 x3.New, .bool x3.Write], Own 114 ek_tx_Entry v0_l a0.l, Box bp0 [.int .i64 a0.mark, v0_l, .int .i64 a0.status, .int .i64 a0.at_], F]) (Z := fun Q => ∀ (_ _ _ _ _ _ _ _ _ _ _ _ : Unit), Q [(0, bp bp0 0), (4, .int .i64 0), (1, bp bp1 0), (5, bp b5 0), (6, bp b9 0), (7, errV 60 t7), (47, .bool false)] [Box b9 [.int .u64 t6.Value, .int .u32 t6.Version, .int .i64 t6.Mark], Box bp1 [v1_l, .int .u32 a1.limit], Own 88 ek_api_Cell v1_l a1.l, Box b5 [.int .i64 x3.Cell, .int .u32 x3.Version, .int .u64 x3.Old, .int .u64 x3.New, .bool x3.Write], Own 114 ek_tx_Entry v0_l a0.l, Box bp0 [.int .i64 a0.mark, v0_l, .int .i64 a0.status, .int .i64 a0.at_], F]) (T := [tS 7 (errV 60 t7), tS 6 (bp b9 0), tS 0 (bp bp0 0), tE [(4, .int .i64 0), (1, bp bp1 0), (5, bp b5 0)], tR (Box b9 [.int .u64 t6.Value, .int .u32 t6.Version, .int .i64 t6.Mark]), tR (Box bp1 [v1_l, .int .u32 a1.limit]), tR (Own 88 ek_api_Cell v1_l a1.l), tR (Box b5 [.int .i64 x3.Cell, .int .u32 x3.Version, .int .u64 x3.Old, .int .u64 x3.New, .bool x3.Write]), tR (Own 114 ek_tx_Entry v0_l a0.l), tR (Box bp0 [.int .i64 a0.mark, v0_l, .int .i64 a0.status, .int .i64 a0.at_]), tR (F), tS 48 (errV 60 t7), tS 49 (.bool t7.isNone), tS 50 (.bool t7.isNone), tS 51 (bp b9 2), tS 52 (.int .i64 t6.Mark), tS 53 (.bool (t6.Mark != 0)), tS 54 (.bool (t6.Mark != 0)), tS 55 (.bool (t6.Mark != 0)), tS 56 (undef), tS 57 (undef), tS 58 (undef), tS 59 (undef), tS 60 (undef), tS 61 (undef), tS 62 (undef), tS 63 (.bool false), tS 47 (.bool false)]) (D := [⟨[0], [], [11]⟩, ⟨[11], [], [12]⟩, ⟨[12], [], [13]⟩, ⟨[1, 13], [], [14]⟩, ⟨[13, 14, 4], [], [15]⟩, ⟨[13, 15], [], [16]⟩, ⟨[13, 16], [], [17]⟩, ⟨[17], [], [18]⟩, ⟨[18], [], [19]⟩, ⟨[18], [], [20]⟩, ⟨[18], [], [21]⟩, ⟨[18], [], [22]⟩, ⟨[18], [], [23]⟩, ⟨[18], [], [24]⟩, ⟨[18], [], [25]⟩, ⟨[18, 25], [], [26]⟩, ⟨[26], [], [27]⟩]) (ini := [0, 1, 2, 3, 4, 5, 6, 7, 8, 9, 10]) (fin := [2, 3, 1, 0, 27, 4, 5, 6, 7, 8, 9, 10]) (bf := [[], [0], [0, 1], [0, 1, 2], [0, 1, 2, 3], [0, 1, 2, 3, 4], [0, 1, 2, 3, 4, 5], [0, 1, 2, 3, 4, 5, 6], [0, 1, 2, 3, 4, 5, 6, 7], [0, 1, 2, 3, 4, 5, 6, 7, 8], [0, 1, 2, 3, 4, 5, 6, 7], [0, 1, 2, 3, 4, 5, 6, 7, 10], [0, 1, 2, 3, 4, 5, 6, 7, 10, 11], [0, 1, 2, 3, 4, 5, 6, 7, 10, 11, 12], [0, 1, 2, 3, 4, 5, 6, 7, 8, 9, 10, 11, 12, 13], [0, 1, 2, 3, 4, 5, 6, 7, 8, 9, 10, 11, 12, 13, 14], [0, 1, 2, 3, 4, 5, 6, 7, 8, 9, 10, 11, 12, 13, 14, 15]]) (by kernel_rfl) (by kernel_rfl) (fun Q => by kernel_rfl) (fun x w h1 h2 => ⟨(), (), (), (), (), (), (), (), (), (), (), EnvAll.of h1 ⟨rfl, rfl, rfl, rfl, rfl, rfl, trivial⟩, h2⟩) (fun Q => by kernel_rfl) ⟨?_, ?_, ?_, ?_, ?_, ?_, ?_, ?_, ?_, ?_, ?_, ?_, ?_, ?_, ?_, ?_, ?_, trivial⟩ ?_
      · rintro Fr _
        refine SO.v rfl (opv_move rfl) ?_
        exact SO.nilZ fun a w h1 h2 h3 h4 h5 => PZ.of h1 h3 h5 (.cons () (.cons () (.nil ⟨EnvAll.of h2 ⟨rfl, rfl, trivial⟩, h4⟩)))
      · rintro Fr _
        refine SO.v rfl (opv_eqlN (e := t7) Try.underlying29 rfl) ?_
        exact SO.nilZ fun a w h1 h2 h3 h4 h5 => PZ.of h1 h3 h5 (.cons () (.cons () (.nil ⟨EnvAll.of h2 ⟨rfl, rfl, trivial⟩, h4⟩)))
      · rintro Fr _
        refine SO.v rfl (opv_move rfl) ?_
        exact SO.nilZ fun a w h1 h2 h3 h4 h5 => PZ.of h1 h3 h5 (.cons () (.cons () (.nil ⟨EnvAll.of h2 ⟨rfl, rfl, trivial⟩, h4⟩)))
      · rintro Fr _ _
        refine SO.takeT rfl rfl rfl b10 ?_
        refine SO.v rfl (opv_fieldAddr Try.underlying88 rfl Try.sizeOf3 rfl rfl) ?_
        exact SO.nilZ fun a w h1 h2 h3 h4 h5 => PZ.of h1 h3 h5 (.cons () (.cons () (.cons () (.nil ⟨EnvAll.of h2 ⟨rfl, rfl, rfl, trivial⟩, h4⟩))))
      · rintro Fr _ _ _
        refine SO.takeT rfl rfl rfl b10 ?_
        refine SO.load1 rfl Try.isAgg3 rfl rfl ?_
        exact SO.nilZ fun a w h1 h2 h3 h4 h5 => PZ.of h1 h3 h5 (.cons () (.cons () (.cons () (.cons () (.nil ⟨EnvAll.of h2 ⟨rfl, rfl, rfl, trivial⟩, h4⟩)))))
      · rintro Fr _ _
        refine SO.takeT rfl rfl rfl b10 ?_
        refine SO.v rfl (opv_neq rfl rfl) ?_
        exact SO.nilZ fun a w h1 h2 h3 h4 h5 => PZ.of h1 h3 h5 (.cons () (.cons () (.cons () (.nil ⟨EnvAll.of h2 ⟨rfl, rfl, rfl, trivial⟩, h4⟩))))
      · rintro Fr _ _
        refine SO.v rfl (opv_pick_t' b10 rfl rfl) ?_
        exact SO.nilZ fun a w h1 h2 h3 h4 h5 => PZ.of h1 h3 h5 (.cons () (.cons () (.cons () (.nil ⟨EnvAll.of h2 ⟨rfl, rfl, rfl, trivial⟩, h4⟩))))
      · rintro Fr _
        refine SO.v rfl (opv_move rfl) ?_
        exact SO.nilZ fun a w h1 h2 h3 h4 h5 => PZ.of h1 h3 h5 (.cons () (.cons () (.nil ⟨EnvAll.of h2 ⟨rfl, rfl, trivial⟩, h4⟩)))
      · rintro Fr _
        refine SO.passF rfl rfl rfl b11 rfl rfl ?_
        exact SO.nilZ fun a w h1 h2 h3 h4 h5 => PZ.of h1 h3 h5 (.cons () (.cons () (.nil ⟨EnvAll.of h2 ⟨rfl, rfl, trivial⟩, h4⟩)))
      · rintro Fr _
        refine SO.passF rfl rfl rfl b11 rfl rfl ?_
        exact SO.nilZ fun a w h1 h2 h3 h4 h5 => PZ.of h1 h3 h5 (.cons () (.cons () (.nil ⟨EnvAll.of h2 ⟨rfl, rfl, trivial⟩, h4⟩)))
      · rintro Fr _
        refine SO.passF rfl rfl rfl b11 rfl rfl ?_
        exact SO.nilZ fun a w h1 h2 h3 h4 h5 => PZ.of h1 h3 h5 (.cons () (.cons () (.nil ⟨EnvAll.of h2 ⟨rfl, rfl, trivial⟩, h4⟩)))
      · rintro Fr _
        refine SO.passF rfl rfl rfl b11 rfl rfl ?_
        exact SO.nilZ fun a w h1 h2 h3 h4 h5 => PZ.of h1 h3 h5 (.cons () (.cons () (.nil ⟨EnvAll.of h2 ⟨rfl, rfl, trivial⟩, h4⟩)))
      · rintro Fr _
        refine SO.passF rfl rfl rfl b11 rfl rfl ?_
        exact SO.nilZ fun a w h1 h2 h3 h4 h5 => PZ.of h1 h3 h5 (.cons () (.cons () (.nil ⟨EnvAll.of h2 ⟨rfl, rfl, trivial⟩, h4⟩)))
      · rintro Fr _
        refine SO.passF rfl rfl rfl b11 rfl rfl ?_
        exact SO.nilZ fun a w h1 h2 h3 h4 h5 => PZ.of h1 h3 h5 (.cons () (.cons () (.nil ⟨EnvAll.of h2 ⟨rfl, rfl, trivial⟩, h4⟩)))
      · rintro Fr _
        refine SO.passF rfl rfl rfl b11 rfl rfl ?_
        exact SO.nilZ fun a w h1 h2 h3 h4 h5 => PZ.of h1 h3 h5 (.cons () (.cons () (.nil ⟨EnvAll.of h2 ⟨rfl, rfl, trivial⟩, h4⟩)))
      · rintro Fr _ _
        refine SO.v rfl (opv_pick_f' b11 rfl rfl) ?_
        exact SO.nilZ fun a w h1 h2 h3 h4 h5 => PZ.of h1 h3 h5 (.cons () (.cons () (.cons () (.nil ⟨EnvAll.of h2 ⟨rfl, rfl, rfl, trivial⟩, h4⟩))))
      · rintro Fr _
        refine SO.v rfl (opv_assign rfl) ?_
        exact SO.nilZ fun a w h1 h2 h3 h4 h5 => PZ.of h1 h3 h5 (.cons () (.cons () (.nil ⟨EnvAll.of h2 ⟨rfl, rfl, trivial⟩, h4⟩)))
      rintro _ _ _ _ _ _ _ _ _ _ _ _
      refine S.to (ρ' := [(0, bp bp0 0), (4, .int .i64 0), (1, bp bp1 0), (5, bp b5 0), (6, bp b9 0), (7, errV 60 t7), (47, .bool false)]) ⟨rfl, rfl, rfl, rfl, rfl, rfl, rfl, trivial⟩ ?_
      cases h
      refine S.b6 ?_
      refine S.b6 ?_
      refine S.b6 ?_
      refine S.b6 ?_
      refine S.b6 ?_
      refine S.b6 ?_
      refine S.b6 ?_
      refine S.to ?_ (hk1 () trivial)
      exact ⟨rfl, rfl, rfl, rfl, rfl, rfl, rfl, trivial⟩
    replace h := cond_f b10 h
    refine S.draw2 (Y := fun Q => ∃ (_ _ _ _ _ _ _ _ _ _ _ : Unit), Q [(7, errV 60 t7), (6, bp b9 0), (0, bp bp0 0), (4, .int .i64 0), (1, bp bp1 0), (5, bp b5 0)] [Box b9 [.int .u64 t6.Value, .int .u32 t6.Version, .int .i64 t6.Mark], Box bp1 [v1_l, .int .u32 a1.limit], Own 88 ek_api_Cell v1_l a1.l, Box b5 [.int .i64 x3.Cell, .int .u32 x3.Version, .int .u64 x3.Old, .int .u64 x3.New, .bool x3.Write], Own 114 ek_tx_Entry v0_l a0.l, Box bp0 [.int .i64 a0.mark, v0_l, .int .i64 a0.status, .int .i64 a0.at_], F]) (Z := fun Q => ∀ (_ _ _ _ _ _ _ _ _ _ _ _ : Unit), Q [(0, bp bp0 0), (4, .int .i64 0), (1, bp bp1 0), (5, bp b5 0), (6, bp b9 0), (7, errV 60 t7), (47, .bool false)] [Box b9 [.int .u64 t6.Value, .int .u32 t6.Version, .int .i64 t6.Mark], Box bp1 [v1_l, .int .u32 a1.limit], Own 88 ek_api_Cell v1_l a1.l, Box b5 [.int .i64 x3.Cell, .int .u32 x3.Version, .int .u64 x3.Old, .int .u64 x3.New, .bool x3.Write], Own 114 ek_tx_Entry v0_l a0.l, Box bp0 [.int .i64 a0.mark, v0_l, .int .i64 a0.status, .int .i64 a0.at_], F]) (T := [tS 7 (errV 60 t7), tS 6 (bp b9 0), tS 0 (bp bp0 0), tE [(4, .int .i64 0), (1, bp bp1 0), (5, bp b5 0)], tR (Box b9 [.int .u64 t6.Value, .int .u32 t6.Version, .int .i64 t6.Mark]), tR (Box bp1 [v1_l, .int .u32 a1.limit]), tR (Own 88 ek_api_Cell v1_l a1.l), tR (Box b5 [.int .i64 x3.Cell, .int .u32 x3.Version, .int .u64 x3.Old, .int .u64 x3.New, .bool x3.Write]), tR (Own 114 ek_tx_Entry v0_l a0.l), tR (Box bp0 [.int .i64 a0.mark, v0_l, .int .i64 a0.status, .int .i64 a0.at_]), tR (F), tS 48 (errV 60 t7), tS 49 (.bool t7.isNone), tS 50 (.bool t7.isNone), tS 51 (undef), tS 52 (undef), tS 53 (undef), tS 54 (.bool false), tS 55 (.bool false), tS 56 (undef), tS 57 (undef), tS 58 (undef), tS 59 (undef), tS 60 (undef), tS 61 (undef), tS 62 (undef), tS 63 (.bool false), tS 47 (.bool false)]) (D := [⟨[0], [], [11]⟩, ⟨[11], [], [12]⟩, ⟨[12], [], [13]⟩, ⟨[13], [], [14]⟩, ⟨[13], [], [15]⟩, ⟨[13], [], [16]⟩, ⟨[13, 16], [], [17]⟩, ⟨[17], [], [18]⟩, ⟨[18], [], [19]⟩, ⟨[18], [], [20]⟩, ⟨[18], [], [21]⟩, ⟨[18], [], [22]⟩, ⟨[18], [], [23]⟩, ⟨[18], [], [24]⟩, ⟨[18], [], [25]⟩, ⟨[18, 25], [], [26]⟩, ⟨[26], [], [27]⟩]) (ini := [0, 1, 2, 3, 4, 5, 6, 7, 8, 9, 10]) (fin := [2, 3, 1, 0, 27, 4, 5, 6, 7, 8, 9, 10]) (bf := [[], [0], [0, 1], [0, 1, 2], [0, 1, 2, 3], [0, 1, 2, 3, 4], [0, 1, 2, 3, 4, 5], [0, 1, 2, 3, 4, 5, 6], [0, 1, 2, 3, 4, 5, 6, 7], [0, 1, 2, 3, 4, 5, 6, 7, 8], [0, 1, 2, 3, 4, 5, 6, 7], [0, 1, 2, 3, 4, 5, 6, 7, 10], [0, 1, 2, 3, 4, 5, 6, 7, 10, 11], [0, 1, 2, 3, 4, 5, 6, 7, 10, 11, 12], [0, 1, 2, 3, 4, 5, 6, 7, 8, 9, 10, 11, 12, 13], [0, 1, 2, 3, 4, 5, 6, 7, 8, 9, 10, 11, 12, 13, 14], [0, 1, 2, 3, 4, 5, 6, 7, 8, 9, 10, 11, 12, 13, 14, 15]]) (by kernel_rfl) (by kernel_rfl) (fun Q => by kernel_rfl) (fun x w h1 h2 => ⟨(), (), (), (), (), (), (), (), (), (), (), EnvAll.of h1 ⟨rfl, rfl, rfl, rfl, rfl, rfl, trivial⟩, h2⟩) (fun Q => by kernel_rfl) ⟨?_, ?_, ?_, ?_, ?_, ?_, ?_, ?_, ?_, ?_, ?_, ?_, ?_, ?_, ?_, ?_, ?_, trivial⟩ ?_
    · rintro Fr _
      refine SO.v rfl (opv_move rfl) ?_
      exact SO.nilZ fun a w h1 h2 h3 h4 h5 => PZ.of h1 h3 h5 (.cons () (.cons () (.nil ⟨EnvAll.of h2 ⟨rfl, rfl, trivial⟩, h4⟩)))
    · rintro Fr _
      refine SO.v rfl (opv_eqlN (e := t7) Try.underlying29 rfl) ?_
      exact SO.nilZ fun a w h1 h2 h3 h4 h5 => PZ.of h1 h3 h5 (.cons () (.cons () (.nil ⟨EnvAll.of h2 ⟨rfl, rfl, trivial⟩, h4⟩)))
    · rintro Fr _
      refine SO.v rfl (opv_move rfl) ?_
      exact SO.nilZ fun a w h1 h2 h3 h4 h5 => PZ.of h1 h3 h5 (.cons () (.cons () (.nil ⟨EnvAll.of h2 ⟨rfl, rfl, trivial⟩, h4⟩)))
    · rintro Fr _
      refine SO.passF rfl rfl rfl b10 rfl rfl ?_
      exact SO.nilZ fun a w h1 h2 h3 h4 h5 => PZ.of h1 h3 h5 (.cons () (.cons () (.nil ⟨EnvAll.of h2 ⟨rfl, rfl, trivial⟩, h4⟩)))
    · rintro Fr _
      refine SO.passF rfl rfl rfl b10 rfl rfl ?_
      exact SO.nilZ fun a w h1 h2 h3 h4 h5 => PZ.of h1 h3 h5 (.cons () (.cons () (.nil ⟨EnvAll.of h2 ⟨rfl, rfl, trivial⟩, h4⟩)))
    · rintro Fr _
      refine SO.passF rfl rfl rfl b10 rfl rfl ?_
      exact SO.nilZ fun a w h1 h2 h3 h4 h5 => PZ.of h1 h3 h5 (.cons () (.cons () (.nil ⟨EnvAll.of h2 ⟨rfl, rfl, trivial⟩, h4⟩)))
    · rintro Fr _ _
      refine SO.v rfl (opv_pick_f' b10 rfl rfl) ?_
      exact SO.nilZ fun a w h1 h2 h3 h4 h5 => PZ.of h1 h3 h5 (.cons () (.cons () (.cons () (.nil ⟨EnvAll.of h2 ⟨rfl, rfl, rfl, trivial⟩, h4⟩))))
    · rintro Fr _
      refine SO.v rfl (opv_move rfl) ?_
      exact SO.nilZ fun a w h1 h2 h3 h4 h5 => PZ.of h1 h3 h5 (.cons () (.cons () (.nil ⟨EnvAll.of h2 ⟨rfl, rfl, trivial⟩, h4⟩)))
    · rintro Fr _
      refine SO.passF rfl rfl rfl rfl rfl rfl ?_
      exact SO.nilZ fun a w h1 h2 h3 h4 h5 => PZ.of h1 h3 h5 (.cons () (.cons () (.nil ⟨EnvAll.of h2 ⟨rfl, rfl, trivial⟩, h4⟩)))
    · rintro Fr _
      refine SO.passF rfl rfl rfl rfl rfl rfl ?_
      exact SO.nilZ fun a w h1 h2 h3 h4 h5 => PZ.of h1 h3 h5 (.cons () (.cons () (.nil ⟨EnvAll.of h2 ⟨rfl, rfl, trivial⟩, h4⟩)))
    · rintro Fr _
      refine SO.passF rfl rfl rfl rfl rfl rfl ?_
      exact SO.nilZ fun a w h1 h2 h3 h4 h5 => PZ.of h1 h3 h5 (.cons () (.cons () (.nil ⟨EnvAll.of h2 ⟨rfl, rfl, trivial⟩, h4⟩)))
    · rintro Fr _
      refine SO.passF rfl rfl rfl rfl rfl rfl ?_
      exact SO.nilZ fun a w h1 h2 h3 h4 h5 => PZ.of h1 h3 h5 (.cons () (.cons () (.nil ⟨EnvAll.of h2 ⟨rfl, rfl, trivial⟩, h4⟩)))
    · rintro Fr _
      refine SO.passF rfl rfl rfl rfl rfl rfl ?_
      exact SO.nilZ fun a w h1 h2 h3 h4 h5 => PZ.of h1 h3 h5 (.cons () (.cons () (.nil ⟨EnvAll.of h2 ⟨rfl, rfl, trivial⟩, h4⟩)))
    · rintro Fr _
      refine SO.passF rfl rfl rfl rfl rfl rfl ?_
      exact SO.nilZ fun a w h1 h2 h3 h4 h5 => PZ.of h1 h3 h5 (.cons () (.cons () (.nil ⟨EnvAll.of h2 ⟨rfl, rfl, trivial⟩, h4⟩)))
    · rintro Fr _
      refine SO.passF rfl rfl rfl rfl rfl rfl ?_
      exact SO.nilZ fun a w h1 h2 h3 h4 h5 => PZ.of h1 h3 h5 (.cons () (.cons () (.nil ⟨EnvAll.of h2 ⟨rfl, rfl, trivial⟩, h4⟩)))
    · rintro Fr _ _
      refine SO.v rfl (opv_pick_ff rfl rfl) ?_
      exact SO.nilZ fun a w h1 h2 h3 h4 h5 => PZ.of h1 h3 h5 (.cons () (.cons () (.cons () (.nil ⟨EnvAll.of h2 ⟨rfl, rfl, rfl, trivial⟩, h4⟩))))
    · rintro Fr _
      refine SO.v rfl (opv_assign rfl) ?_
      exact SO.nilZ fun a w h1 h2 h3 h4 h5 => PZ.of h1 h3 h5 (.cons () (.cons () (.nil ⟨EnvAll.of h2 ⟨rfl, rfl, trivial⟩, h4⟩)))
    rintro _ _ _ _ _ _ _ _ _ _ _ _
    refine S.to (ρ' := [(0, bp bp0 0), (4, .int .i64 0), (1, bp bp1 0), (5, bp b5 0), (6, bp b9 0), (7, errV 60 t7), (47, .bool false)]) ⟨rfl, rfl, rfl, rfl, rfl, rfl, rfl, trivial⟩ ?_
    cases h
    refine S.b6 ?_
    refine S.b6 ?_
    refine S.b6 ?_
    refine S.b6 ?_
    refine S.b6 ?_
    refine S.b6 ?_
    refine S.b6 ?_
    refine S.to ?_ (hk1 () trivial)
    exact ⟨rfl, rfl, rfl, rfl, rfl, rfl, rfl, trivial⟩
  rintro _ -
  replace h := hJ1
  rcases bool_or j47_1 with b12 | b12
  · replace h := cond_t b12 h
    refine S.condT rfl b12 ?_
    refine S.seq ?_
    refine S.region ?_
    refine SO.v rfl (opv_fieldAddr Try.underlying88 rfl Try.sizeOf3 rfl rfl) ?_
    refine SO.load1 rfl Try.isAgg3 rfl rfl ?_
    refine SO.v rfl (opv_assign rfl) ?_
    refine SO.nil ?_
    refine S.to (ρ' := [(4, .int .i64 t6.Mark)]) ⟨rfl, trivial⟩ ?_
    cases h
    refine S.drop ?_
    refine S.b2 ?_
    refine S.drop ?_
    refine S.b4 ?_
    refine S.b2 ?_
    refine S.b2 ?_
    refine S.b3 ?_
    refine S.b4 ?_
    exact S.ret1 Try.func53 rfl rfl (fun w hs hk => hR w _ _ ⟨v0_l, v1_l, rfl, rfl⟩ hs hk)
  replace h := cond_f b12 h
  refine S.condF rfl b12 ?_
  refine S.seq ?_
  refine S.region ?_
  refine SO.v rfl (opv_move rfl) ?_
  refine SO.v rfl (opv_neqN (e := t7) Try.underlying29 rfl) ?_
  refine SO.v rfl (opv_move rfl) ?_
  obtain ⟨c14, hc15, hgk⟩ := opt_bind h
  refine SO.cut 6 75 (.bool c14) [Box b9 [.int .u64 t6.Value, .int .u32 t6.Version, .int .i64 t6.Mark], Box bp1 [v1_l, .int .u32 a1.limit], Own 88 ek_api_Cell v1_l a1.l, Box b5 [.int .i64 x3.Cell, .int .u32 x3.Version, .int .u64 x3.Old, .int .u64 x3.New, .bool x3.Write], Own 114 ek_tx_Entry v0_l a0.l, Box bp0 [.int .i64 a0.mark, v0_l, .int .i64 a0.status, .int .i64 a0.at_], F] (fun l2 hk2 => ?_) ?_
  · clear hgk
    replace h := hc15
    rcases bool_or t7.isSome with b13 | b13
    · replace h := cond_t b13 h
      refine SO.passF rfl rfl rfl b13 rfl rfl ?_
      refine SO.passF rfl rfl rfl b13 rfl rfl ?_
      refine SO.passF rfl rfl rfl b13 rfl rfl ?_
      refine SO.passF rfl rfl rfl b13 rfl rfl ?_
      refine SO.passF rfl rfl rfl b13 rfl rfl ?_
      cases h
      refine SO.v rfl (opv_pick_t' b13 rfl rfl) ?_
      refine SO.b6 ?_
      refine SO.b6 ?_
      refine SO.b6 ?_
      refine SO.b6 ?_
      refine SO.b6 ?_
      refine SO.b6 ?_
      refine SO.b6 ?_
      exact hk2.fitc (m := 6) rfl (rfl) rfl
    replace h := cond_f b13 h
    refine SO.takeT rfl rfl rfl b13 ?_
    refine SO.v rfl (opv_fieldAddr Try.underlying88 rfl Try.sizeOf22 rfl rfl) ?_
    refine SO.takeT rfl rfl rfl b13 ?_
    refine SO.load1 rfl Try.isAgg22 rfl rfl ?_
    refine SO.takeT rfl rfl rfl b13 ?_
    refine SO.v rfl (opv_fieldAddr Try.underlying114 rfl Try.sizeOf22 rfl rfl) ?_
    refine SO.takeT rfl rfl rfl b13 ?_
    refine SO.b3 ?_
    refine SO.load1 rfl Try.isAgg22 rfl rfl ?_
    refine SO.takeT rfl rfl rfl b13 ?_
    refine SO.v rfl (opv_neq rfl rfl) ?_
    cases h
    refine SO.v rfl (opv_pick_f' b13 rfl rfl) ?_
    refine SO.b6 ?_
    refine SO.b6 ?_
    refine SO.b6 ?_
    refine SO.b3 ?_
    refine SO.b6 ?_
    refine SO.b6 ?_
    refine SO.b6 ?_
    exact hk2.fitc (m := 6) rfl (rfl) rfl
  clear hc15
  replace h := hgk
  refine SO.v rfl (opv_assign rfl) ?_
  refine SO.nil ?_
  rcases bool_or c14 with b16 | b16
  · replace h := cond_t b16 h
    refine S.condT rfl b16 ?_
    refine S.region ?_
    refine SO.v rfl (opv_move rfl) ?_
    obtain ⟨p17, ht18, h⟩ := opt_bind h
    refine SO.b4 ?_
    refine SO.b5 ?_
    refine SO.call (pre := [Box _ _, Own _ _ _ _]) rfl Try.call52 rfl rfl rfl (desc_Desc_turn.ct bp0 v0_l _ _ _ ht18) trivial ?_
    rintro _ _ ⟨u19_l, rfl, rfl⟩
    refine SO.b1 ?_
    refine SO.rd fun hr20 => ?_
    refine SO.nil ?_
    refine S.to (ρ' := [(4, .int .i64 0)]) ⟨rfl, trivial⟩ ?_
    refine S.inBlock ?_
    refine S.seq ?_
    refine S.region ?_
    refine SO.v rfl (opv_assign rfl) ?_
    refine SO.nil ?_
    cases h
    refine S.b2 ?_
    refine S.drop ?_
    refine S.b4 ?_
    refine S.drop ?_
    refine S.b4 ?_
    refine S.b4 ?_
    refine S.b4 ?_
    refine S.b3 ?_
    refine S.b4 ?_
    exact S.ret1 Try.func53 rfl rfl (fun w hs hk => hR w _ _ ⟨u19_l, v1_l, rfl, rfl⟩ hs hk)
  replace h := cond_f b16 h
  refine S.condF rfl b16 ?_
  refine S.seq ?_
  obtain ⟨j78_2, hC2, hJ2⟩ := opt_bind h
  clear h
  refine S.cutP (G := Unit) (fun _ => True) (fun _ => [(0, bp bp0 0), (1, bp bp1 0), (4, .int .i64 0), (5, bp b5 0), (78, .bool j78_2)]) (fun _ => [Box b9 [.int .u64 t6.Value, .int .u32 t6.Version, .int .i64 t6.Mark], Box bp1 [v1_l, .int .u32 a1.limit], Own 88 ek_api_Cell v1_l a1.l, Box b5 [.int .i64 x3.Cell, .int .u32 x3.Version, .int .u64 x3.Old, .int .u64 x3.New, .bool x3.Write], Own 114 ek_tx_Entry v0_l a0.l, Box bp0 [.int .i64 a0.mark, v0_l, .int .i64 a0.status, .int .i64 a0.at_], F]) (fun hk2 => ?_) ?_
  · replace h := hC2
    rcases bool_or x3.Write with b21 | b21
    · replace h := cond_t b21 h
      obtain ⟨t22, ht23, h⟩ := opt_bind h
      refine S.draw2 (Y := fun Q => ∃ (_ _ _ _ _ _ _ _ _ _ _ : Unit), Q [(5, bp b5 0), (6, bp b9 0), (1, bp bp1 0), (0, bp bp0 0), (4, .int .i64 0)] [Box b9 [.int .u64 t6.Value, .int .u32 t6.Version, .int .i64 t6.Mark], Box bp1 [v1_l, .int .u32 a1.limit], Own 88 ek_api_Cell v1_l a1.l, Box b5 [.int .i64 x3.Cell, .int .u32 x3.Version, .int .u64 x3.Old, .int .u64 x3.New, .bool x3.Write], Own 114 ek_tx_Entry v0_l a0.l, Box bp0 [.int .i64 a0.mark, v0_l, .int .i64 a0.status, .int .i64 a0.at_], F]) (Z := fun Q => ∀ (_ _ _ _ _ _ _ _ _ _ _ : Unit), Q [(0, bp bp0 0), (4, .int .i64 0), (1, bp bp1 0), (5, bp b5 0), (78, .bool (t6.Version == t22))] [Box b9 [.int .u64 t6.Value, .int .u32 t6.Version, .int .i64 t6.Mark], Box bp1 [v1_l, .int .u32 a1.limit], Own 88 ek_api_Cell v1_l a1.l, Box b5 [.int .i64 x3.Cell, .int .u32 x3.Version, .int .u64 x3.Old, .int .u64 x3.New, .bool x3.Write], Own 114 ek_tx_Entry v0_l a0.l, Box bp0 [.int .i64 a0.mark, v0_l, .int .i64 a0.status, .int .i64 a0.at_], F]) (T := [tS 5 (bp b5 0), tS 6 (bp b9 0), tS 1 (bp bp1 0), tE [(0, bp bp0 0), (4, .int .i64 0)], tR (Box b9 [.int .u64 t6.Value, .int .u32 t6.Version, .int .i64 t6.Mark]), tR (Box bp1 [v1_l, .int .u32 a1.limit]), tR (Own 88 ek_api_Cell v1_l a1.l), tR (Box b5 [.int .i64 x3.Cell, .int .u32 x3.Version, .int .u64 x3.Old, .int .u64 x3.New, .bool x3.Write]), tR (Own 114 ek_tx_Entry v0_l a0.l), tR (Box bp0 [.int .i64 a0.mark, v0_l, .int .i64 a0.status, .int .i64 a0.at_]), tR (F), tS 79 (bp b5 4), tS 80 (.bool x3.Write), tS 81 (.bool x3.Write), tS 82 (bp b9 1), tS 83 (.int .u32 t6.Version), tS 84 (bp bp1 0), tS 85 (.int .u32 t22), tS 86 (.bool (t6.Version == t22)), tS 87 (.bool (t6.Version == t22)), tS 78 (.bool (t6.Version == t22))]) (D := [⟨[0], [], [11]⟩, ⟨[11, 7], [], [12]⟩, ⟨[12], [], [13]⟩, ⟨[1, 13], [], [14]⟩, ⟨[13, 14, 4], [], [15]⟩, ⟨[2, 13], [], [16]⟩, ⟨[13, 16, 5, 6], [], [17]⟩, ⟨[13, 15, 17], [], [18]⟩, ⟨[13, 18], [], [19]⟩, ⟨[19], [], [20]⟩]) (ini := [0, 1, 2, 3, 4, 5, 6, 7, 8, 9, 10]) (fin := [3, 2, 0, 20, 4, 5, 6, 7, 8, 9, 10]) (bf := [[], [0], [0, 1], [0, 1, 2], [0, 1, 2, 3], [0, 1, 2], [0, 1, 2, 5], [0, 1, 2, 3, 4, 5, 6], [0, 1, 2, 3, 4, 5, 6, 7], [0, 1, 2, 3, 4, 5, 6, 7, 8]]) (by kernel_rfl) (by kernel_rfl) (fun Q => by kernel_rfl) (fun x w h1 h2 => ⟨(), (), (), (), (), (), (), (), (), (), (), EnvAll.of h1 ⟨rfl, rfl, rfl, rfl, rfl, trivial⟩, h2⟩) (fun Q => by kernel_rfl) ⟨?_, ?_, ?_, ?_, ?_, ?_, ?_, ?_, ?_, ?_, trivial⟩ ?_
      · rintro Fr _
        refine SO.v rfl (opv_fieldAddr Try.underlying114 rfl Try.sizeOf4 rfl rfl) ?_
        exact SO.nilZ fun a w h1 h2 h3 h4 h5 => PZ.of h1 h3 h5 (.cons () (.cons () (.nil ⟨EnvAll.of h2 ⟨rfl, rfl, trivial⟩, h4⟩)))
      · rintro Fr _ _
        refine SO.load1 rfl Try.isAgg4 rfl rfl ?_
        exact SO.nilZ fun a w h1 h2 h3 h4 h5 => PZ.of h1 h3 h5 (.cons () (.cons () (.cons () (.nil ⟨EnvAll.of h2 ⟨rfl, rfl, trivial⟩, h4⟩))))
      · rintro Fr _
        refine SO.v rfl (opv_move rfl) ?_
        exact SO.nilZ fun a w h1 h2 h3 h4 h5 => PZ.of h1 h3 h5 (.cons () (.cons () (.nil ⟨EnvAll.of h2 ⟨rfl, rfl, trivial⟩, h4⟩)))
      · rintro Fr _ _
        refine SO.takeT rfl rfl rfl b21 ?_
        refine SO.v rfl (opv_fieldAddr Try.underlying88 rfl Try.sizeOf22 rfl rfl) ?_
        exact SO.nilZ fun a w h1 h2 h3 h4 h5 => PZ.of h1 h3 h5 (.cons () (.cons () (.cons () (.nil ⟨EnvAll.of h2 ⟨rfl, rfl, rfl, trivial⟩, h4⟩))))
      · rintro Fr _ _ _
        refine SO.takeT rfl rfl rfl b21 ?_
        refine SO.load1 rfl Try.isAgg22 rfl rfl ?_
        exact SO.nilZ fun a w h1 h2 h3 h4 h5 => PZ.of h1 h3 h5 (.cons () (.cons () (.cons () (.cons () (.nil ⟨EnvAll.of h2 ⟨rfl, rfl, rfl, trivial⟩, h4⟩)))))
      · rintro Fr _ _
        refine SO.takeT rfl rfl rfl b21 ?_
        refine SO.v rfl (opv_move rfl) ?_
        exact SO.nilZ fun a w h1 h2 h3 h4 h5 => PZ.of h1 h3 h5 (.cons () (.cons () (.cons () (.nil ⟨EnvAll.of h2 ⟨rfl, rfl, rfl, trivial⟩, h4⟩))))
      · rintro Fr _ _ _ _
        refine SO.takeT rfl rfl rfl b21 ?_
        refine SO.b1 ?_
        refine SO.b1 ?_
        refine SO.call (pre := [Box _ _, Own _ _ _ _]) rfl Try.call60 rfl rfl rfl (word_Store_Limit.ct bp1 v1_l _ _ ht23) trivial ?_
        rintro _ _ ⟨rfl, rfl⟩
        refine SO.b1 ?_
        refine SO.b1 ?_
        exact SO.nilZ fun a w h1 h2 h3 h4 h5 => PZ.of2 (Y := fun Q => ∃ (_ _ _ _ _ : Unit), Q [(81, .bool x3.Write), (84, bp bp1 0), (85, .int .u32 t22)] [Box bp1 [v1_l, .int .u32 a1.limit], Own 88 ek_api_Cell v1_l a1.l]) (fun Q => by kernel_rfl) h1 h3 h5 ⟨(), (), (), (), (), EnvAll.of h2 ⟨rfl, rfl, rfl, trivial⟩, h4⟩
      · rintro Fr _ _ _
        refine SO.takeT rfl rfl rfl b21 ?_
        refine SO.v rfl (opv_eql rfl rfl) ?_
        exact SO.nilZ fun a w h1 h2 h3 h4 h5 => PZ.of h1 h3 h5 (.cons () (.cons () (.cons () (.cons () (.nil ⟨EnvAll.of h2 ⟨rfl, rfl, rfl, rfl, trivial⟩, h4⟩)))))
      · rintro Fr _ _
        refine SO.v rfl (opv_pick_t' b21 rfl rfl) ?_
        exact SO.nilZ fun a w h1 h2 h3 h4 h5 => PZ.of h1 h3 h5 (.cons () (.cons () (.cons () (.nil ⟨EnvAll.of h2 ⟨rfl, rfl, rfl, trivial⟩, h4⟩))))
      · rintro Fr _
        refine SO.v rfl (opv_assign rfl) ?_
        exact SO.nilZ fun a w h1 h2 h3 h4 h5 => PZ.of h1 h3 h5 (.cons () (.cons () (.nil ⟨EnvAll.of h2 ⟨rfl, rfl, trivial⟩, h4⟩)))
      rintro _ _ _ _ _ _ _ _ _ _ _
      refine S.to (ρ' := [(0, bp bp0 0), (4, .int .i64 0), (1, bp bp1 0), (5, bp b5 0), (78, .bool (t6.Version == t22))]) ⟨rfl, rfl, rfl, rfl, rfl, trivial⟩ ?_
      cases h
      refine S.b6 ?_
      refine S.b6 ?_
      refine S.b6 ?_
      refine S.b6 ?_
      refine S.b6 ?_
      refine S.b6 ?_
      refine S.b6 ?_
      refine S.to ?_ (hk2 () trivial)
      exact ⟨rfl, rfl, rfl, rfl, rfl, trivial⟩
    replace h := cond_f b21 h
    refine S.draw2 (Y := fun Q => ∃ (_ _ _ _ _ _ _ _ _ _ _ : Unit), Q [(5, bp b5 0), (6, bp b9 0), (1, bp bp1 0), (0, bp bp0 0), (4, .int .i64 0)] [Box b9 [.int .u64 t6.Value, .int .u32 t6.Version, .int .i64 t6.Mark], Box bp1 [v1_l, .int .u32 a1.limit], Own 88 ek_api_Cell v1_l a1.l, Box b5 [.int .i64 x3.Cell, .int .u32 x3.Version, .int .u64 x3.Old, .int .u64 x3.New, .bool x3.Write], Own 114 ek_tx_Entry v0_l a0.l, Box bp0 [.int .i64 a0.mark, v0_l, .int .i64 a0.status, .int .i64 a0.at_], F]) (Z := fun Q => ∀ (_ _ _ _ _ _ _ _ _ _ _ : Unit), Q [(0, bp bp0 0), (4, .int .i64 0), (1, bp bp1 0), (5, bp b5 0), (78, .bool false)] [Box b9 [.int .u64 t6.Value, .int .u32 t6.Version, .int .i64 t6.Mark], Box bp1 [v1_l, .int .u32 a1.limit], Own 88 ek_api_Cell v1_l a1.l, Box b5 [.int .i64 x3.Cell, .int .u32 x3.Version, .int .u64 x3.Old, .int .u64 x3.New, .bool x3.Write], Own 114 ek_tx_Entry v0_l a0.l, Box bp0 [.int .i64 a0.mark, v0_l, .int .i64 a0.status, .int .i64 a0.at_], F]) (T := [tS 5 (bp b5 0), tS 6 (bp b9 0), tS 1 (bp bp1 0), tE [(0, bp bp0 0), (4, .int .i64 0)], tR (Box b9 [.int .u64 t6.Value, .int .u32 t6.Version, .int .i64 t6.Mark]), tR (Box bp1 [v1_l, .int .u32 a1.limit]), tR (Own 88 ek_api_Cell v1_l a1.l), tR (Box b5 [.int .i64 x3.Cell, .int .u32 x3.Version, .int .u64 x3.Old, .int .u64 x3.New, .bool x3.Write]), tR (Own 114 ek_tx_Entry v0_l a0.l), tR (Box bp0 [.int .i64 a0.mark, v0_l, .int .i64 a0.status, .int .i64 a0.at_]), tR (F), tS 79 (bp b5 4), tS 80 (.bool x3.Write), tS 81 (.bool x3.Write), tS 82 (undef), tS 83 (undef), tS 84 (undef), tS 85 (undef), tS 86 (undef), tS 87 (.bool false), tS 78 (.bool false)]) (D := [⟨[0], [], [11]⟩, ⟨[11, 7], [], [12]⟩, ⟨[12], [], [13]⟩, ⟨[13], [], [14]⟩, ⟨[13], [], [15]⟩, ⟨[13], [], [16]⟩, ⟨[13], [], [17]⟩, ⟨[13], [], [18]⟩, ⟨[13, 18], [], [19]⟩, ⟨[19], [], [20]⟩]) (ini := [0, 1, 2, 3, 4, 5, 6, 7, 8, 9, 10]) (fin := [3, 2, 0, 20, 4, 5, 6, 7, 8, 9, 10]) (bf := [[], [0], [0, 1], [0, 1, 2], [0, 1, 2, 3], [0, 1, 2], [0, 1, 2, 5], [0, 1, 2, 3, 4, 5, 6], [0, 1, 2, 3, 4, 5, 6, 7], [0, 1, 2, 3, 4, 5, 6, 7, 8]]) (by kernel_rfl) (by kernel_rfl) (fun Q => by kernel_rfl) (fun x w h1 h2 => ⟨(), (), (), (), (), (), (), (), (), (), (), EnvAll.of h1 ⟨rfl, rfl, rfl, rfl, rfl, trivial⟩, h2⟩) (fun Q => by kernel_rfl) ⟨?_, ?_, ?_, ?_, ?_, ?_, ?_, ?_, ?_, ?_, trivial⟩ ?_
    · rintro Fr _
      refine SO.v rfl (opv_fieldAddr Try.underlying114 rfl Try.sizeOf4 rfl rfl) ?_
      exact SO.nilZ fun a w h1 h2 h3 h4 h5 => PZ.of h1 h3 h5 (.cons () (.cons () (.nil ⟨EnvAll.of h2 ⟨rfl, rfl, trivial⟩, h4⟩)))
    · rintro Fr _ _
      refine SO.load1 rfl Try.isAgg4 rfl rfl ?_
      exact SO.nilZ fun a w h1 h2 h3 h4 h5 => PZ.of h1 h3 h5 (.cons () (.cons () (.cons () (.nil ⟨EnvAll.of h2 ⟨rfl, rfl, trivial⟩, h4⟩))))
    · rintro Fr _
      refine SO.v rfl (opv_move rfl) ?_
      exact SO.nilZ fun a w h1 h2 h3 h4 h5 => PZ.of h1 h3 h5 (.cons () (.cons () (.nil ⟨EnvAll.of h2 ⟨rfl, rfl, trivial⟩, h4⟩)))
    · rintro Fr _
      refine SO.passF rfl rfl rfl b21 rfl rfl ?_
      exact SO.nilZ fun a w h1 h2 h3 h4 h5 => PZ.of h1 h3 h5 (.cons () (.cons () (.nil ⟨EnvAll.of h2 ⟨rfl, rfl, trivial⟩, h4⟩)))
    · rintro Fr _
      refine SO.passF rfl rfl rfl b21 rfl rfl ?_
      exact SO.nilZ fun a w h1 h2 h3 h4 h5 => PZ.of h1 h3 h5 (.cons () (.cons () (.nil ⟨EnvAll.of h2 ⟨rfl, rfl, trivial⟩, h4⟩)))
    · rintro Fr _
      refine SO.passF rfl rfl rfl b21 rfl rfl ?_
      exact SO.nilZ fun a w h1 h2 h3 h4 h5 => PZ.of h1 h3 h5 (.cons () (.cons () (.nil ⟨EnvAll.of h2 ⟨rfl, rfl, trivial⟩, h4⟩)))
    · rintro Fr _
      refine SO.passF rfl rfl rfl b21 rfl rfl ?_
      exact SO.nilZ fun a w h1 h2 h3 h4 h5 => PZ.of h1 h3 h5 (.cons () (.cons () (.nil ⟨EnvAll.of h2 ⟨rfl, rfl, trivial⟩, h4⟩)))
    · rintro Fr _
      refine SO.passF rfl rfl rfl b21 rfl rfl ?_
      exact SO.nilZ fun a w h1 h2 h3 h4 h5 => PZ.of h1 h3 h5 (.cons () (.cons () (.nil ⟨EnvAll.of h2 ⟨rfl, rfl, trivial⟩, h4⟩)))
    · rintro Fr _ _
      refine SO.v rfl (opv_pick_f' b21 rfl rfl) ?_
      exact SO.nilZ fun a w h1 h2 h3 h4 h5 => PZ.of h1 h3 h5 (.cons () (.cons () (.cons () (.nil ⟨EnvAll.of h2 ⟨rfl, rfl, rfl, trivial⟩, h4⟩))))
    · rintro Fr _
      refine SO.v rfl (opv_assign rfl) ?_
      exact SO.nilZ fun a w h1 h2 h3 h4 h5 => PZ.of h1 h3 h5 (.cons () (.cons () (.nil ⟨EnvAll.of h2 ⟨rfl, rfl, trivial⟩, h4⟩)))
    rintro _ _ _ _ _ _ _ _ _ _ _
    refine S.to (ρ' := [(0, bp bp0 0), (4, .int .i64 0), (1, bp bp1 0), (5, bp b5 0), (78, .bool false)]) ⟨rfl, rfl, rfl, rfl, rfl, trivial⟩ ?_
    cases h
    refine S.b6 ?_
    refine S.b6 ?_
    refine S.b6 ?_
    refine S.b6 ?_
    refine S.b6 ?_
    refine S.b6 ?_
    refine S.b6 ?_
    refine S.to ?_ (hk2 () trivial)
    exact ⟨rfl, rfl, rfl, rfl, rfl, trivial⟩
  rintro _ -
  replace h := hJ2
  rcases bool_or j78_2 with b24 | b24
  · replace h := cond_t b24 h
    refine S.condT rfl b24 ?_
    refine S.region ?_
    refine SO.v rfl (opv_move rfl) ?_
    obtain ⟨p25, ht26, h⟩ := opt_bind h
    refine SO.b4 ?_
    refine SO.b5 ?_
    refine SO.call (pre := [Box _ _, Own _ _ _ _]) rfl Try.call52 rfl rfl rfl (desc_Desc_turn.ct bp0 v0_l _ _ _ ht26) trivial ?_
    rintro _ _ ⟨u27_l, rfl, rfl⟩
    refine SO.b1 ?_
    refine SO.rd fun hr28 => ?_
    refine SO.nil ?_
    refine S.inBlock ?_
    refine S.seq ?_
    refine S.region ?_
    refine SO.v rfl (opv_assign rfl) ?_
    refine SO.nil ?_
    cases h
    refine S.b2 ?_
    refine S.drop ?_
    refine S.b4 ?_
    refine S.drop ?_
    refine S.b4 ?_
    refine S.b4 ?_
    refine S.b4 ?_
    refine S.b3 ?_
    refine S.b4 ?_
    exact S.ret1 Try.func53 rfl rfl (fun w hs hk => hR w _ _ ⟨u27_l, v1_l, rfl, rfl⟩ hs hk)
  replace h := cond_f b24 h
  refine S.condF rfl b24 ?_
  refine S.seq ?_
  refine S.seq ?_
  obtain ⟨⟨t29, p30⟩, ht31, h⟩ := opt_bind h
  refine S.draw2 (Y := fun Q => ∃ (_ _ _ _ _ _ _ _ _ _ _ : Unit), Q [(1, bp bp1 0), (5, bp b5 0), (0, bp bp0 0), (4, .int .i64 0)] [Box b9 [.int .u64 t6.Value, .int .u32 t6.Version, .int .i64 t6.Mark], Box bp1 [v1_l, .int .u32 a1.limit], Own 88 ek_api_Cell v1_l a1.l, Box b5 [.int .i64 x3.Cell, .int .u32 x3.Version, .int .u64 x3.Old, .int .u64 x3.New, .bool x3.Write], Own 114 ek_tx_Entry v0_l a0.l, Box bp0 [.int .i64 a0.mark, v0_l, .int .i64 a0.status, .int .i64 a0.at_], F]) (Z := fun Q => ∀ (_ _ _ : Unit) (u32_l : Value) (_ _ _ _ _ : Unit), Q [(0, bp bp0 0), (4, .int .i64 0), (8, errV 60 t29), (35, errV 60 t29)] [Own 88 ek_api_Cell u32_l p30.l, Box bp1 [u32_l, .int .u32 p30.limit], Box b9 [.int .u64 t6.Value, .int .u32 t6.Version, .int .i64 t6.Mark], Box b5 [.int .i64 x3.Cell, .int .u32 x3.Version, .int .u64 x3.Old, .int .u64 x3.New, .bool x3.Write], Own 114 ek_tx_Entry v0_l a0.l, Box bp0 [.int .i64 a0.mark, v0_l, .int .i64 a0.status, .int .i64 a0.at_], F]) (T := [tS 1 (bp bp1 0), tS 5 (bp b5 0), tS 0 (bp bp0 0), tS 4 (.int .i64 0), tR (Box b9 [.int .u64 t6.Value, .int .u32 t6.Version, .int .i64 t6.Mark]), tR (Box bp1 [v1_l, .int .u32 a1.limit]), tR (Own 88 ek_api_Cell v1_l a1.l), tR (Box b5 [.int .i64 x3.Cell, .int .u32 x3.Version, .int .u64 x3.Old, .int .u64 x3.New, .bool x3.Write]), tR (Own 114 ek_tx_Entry v0_l a0.l), tR (Box bp0 [.int .i64 a0.mark, v0_l, .int .i64 a0.status, .int .i64 a0.at_]), tR (F), tS 26 (bp bp1 0), tS 27 (bp b5 0), tS 28 (.int .i64 x3.Cell), tS 29 (bp b5 1), tS 30 (.int .u32 x3.Version), tS 31 (bp bp0 0), tS 32 (bp bp0 0), tS 33 (bp bp0 0), tS 34 (.int .i64 a0.mark), ⟨Value, [35], (fun u32_l => [(35, errV 60 t29)]), (fun u32_l => [Own 88 ek_api_Cell u32_l p30.l, Box bp1 [u32_l, .int .u32 p30.limit]]), fun _ => rfl⟩, tS 8 (errV 60 t29)]) (D := [⟨[0], [], [11]⟩, ⟨[1], [], [12]⟩, ⟨[12, 7], [], [13]⟩, ⟨[1], [], [14]⟩, ⟨[14, 7], [], [15]⟩, ⟨[2], [], [16]⟩, ⟨[16], [], [17]⟩, ⟨[17], [], [18]⟩, ⟨[18, 9], [], [19]⟩, ⟨[11, 13, 15, 19], [5, 6], [20]⟩, ⟨[20], [], [21]⟩]) (ini := [0, 1, 2, 3, 4, 5, 6, 7, 8, 9, 10]) (fin := [2, 3, 21, 20, 4, 7, 8, 9, 10]) (bf := [[], [], [1], [], [3], [], [5], [5, 6], [5, 6, 7], [0, 1, 2, 3, 4, 5, 6, 7, 8], [0, 1, 2, 3, 4, 5, 6, 7, 8, 9]]) (by kernel_rfl) (by kernel_rfl) (fun Q => by kernel_rfl) (fun x w h1 h2 => ⟨(), (), (), (), (), (), (), (), (), (), (), EnvAll.of h1 ⟨rfl, rfl, rfl, rfl, trivial⟩, h2⟩) (fun Q => by kernel_rfl) ⟨?_, ?_, ?_, ?_, ?_, ?_, ?_, ?_, ?_, ?_, ?_, trivial⟩ ?_
  · rintro Fr _
    refine SO.v rfl (opv_move rfl) ?_
    exact SO.nilZ fun a w h1 h2 h3 h4 h5 => PZ.of h1 h3 h5 (.cons () (.cons () (.nil ⟨EnvAll.of h2 ⟨rfl, rfl, trivial⟩, h4⟩)))
  · rintro Fr _
    refine SO.v rfl (opv_fieldAddr Try.underlying114 rfl Try.sizeOf3 rfl rfl) ?_
    exact SO.nilZ fun a w h1 h2 h3 h4 h5 => PZ.of h1 h3 h5 (.cons () (.cons () (.nil ⟨EnvAll.of h2 ⟨rfl, rfl, trivial⟩, h4⟩)))
  · rintro Fr _ _
    refine SO.load1 rfl Try.isAgg3 rfl rfl ?_
    exact SO.nilZ fun a w h1 h2 h3 h4 h5 => PZ.of h1 h3 h5 (.cons () (.cons () (.cons () (.nil ⟨EnvAll.of h2 ⟨rfl, rfl, trivial⟩, h4⟩))))
  · rintro Fr _
    refine SO.v rfl (opv_fieldAddr Try.underlying114 rfl Try.sizeOf22 rfl rfl) ?_
    exact SO.nilZ fun a w h1 h2 h3 h4 h5 => PZ.of h1 h3 h5 (.cons () (.cons () (.nil ⟨EnvAll.of h2 ⟨rfl, rfl, trivial⟩, h4⟩)))
  · rintro Fr _ _
    refine SO.load1 rfl Try.isAgg22 rfl rfl ?_
    exact SO.nilZ fun a w h1 h2 h3 h4 h5 => PZ.of h1 h3 h5 (.cons () (.cons () (.cons () (.nil ⟨EnvAll.of h2 ⟨rfl, rfl, trivial⟩, h4⟩))))
  · rintro Fr _
    refine SO.v rfl (opv_move rfl) ?_
    exact SO.nilZ fun a w h1 h2 h3 h4 h5 => PZ.of h1 h3 h5 (.cons () (.cons () (.nil ⟨EnvAll.of h2 ⟨rfl, rfl, trivial⟩, h4⟩)))
  · rintro Fr _
    refine SO.v rfl (opv_nilCheck rfl) ?_
    exact SO.nilZ fun a w h1 h2 h3 h4 h5 => PZ.of h1 h3 h5 (.cons () (.cons () (.nil ⟨EnvAll.of h2 ⟨rfl, rfl, trivial⟩, h4⟩)))
  · rintro Fr _
    refine SO.v rfl (opv_fieldAddr Try.underlying108 rfl Try.sizeOf3 rfl rfl) ?_
    exact SO.nilZ fun a w h1 h2 h3 h4 h5 => PZ.of h1 h3 h5 (.cons () (.cons () (.nil ⟨EnvAll.of h2 ⟨rfl, rfl, trivial⟩, h4⟩)))
  · rintro Fr _ _
    refine SO.load1 rfl Try.isAgg3 rfl rfl ?_
    exact SO.nilZ fun a w h1 h2 h3 h4 h5 => PZ.of h1 h3 h5 (.cons () (.cons () (.cons () (.nil ⟨EnvAll.of h2 ⟨rfl, rfl, trivial⟩, h4⟩))))
  · refine spec2 (X := fun Q => ∀ (_ _ _ _ _ _ : Unit), Q [(26, bp bp1 0), (28, .int .i64 x3.Cell), (30, .int .u32 x3.Version), (34, .int .i64 a0.mark)] [Box bp1 [v1_l, .int .u32 a1.limit], Own 88 ek_api_Cell v1_l a1.l]) (fun Q => by kernel_rfl) ?_
    rintro Fr _ _ _ _ _ _
    refine SO.b1 ?_
    refine SO.b1 ?_
    refine SO.call (pre := [Box _ _, Own _ _ _ _]) rfl Try.call61 rfl rfl rfl (word_Store_Reserve.ct bp1 v1_l _ _ _ _ _ _ ht31) trivial ?_
    rintro _ _ ⟨u32_l, rfl, rfl⟩
    refine SO.b1 ?_
    refine SO.rd fun hr33 => ?_
    refine SO.b1 ?_
    refine SO.b1 ?_
    exact SO.nilZ fun a w h1 h2 h3 h4 h5 => PZ.of2 (Y := fun Q => ∃ (_ _ _ _ : Unit) (u32_l : Value), Q [(26, bp bp1 0), (28, .int .i64 x3.Cell), (30, .int .u32 x3.Version), (34, .int .i64 a0.mark), (35, errV 60 t29)] [Own 88 ek_api_Cell u32_l p30.l, Box bp1 [u32_l, .int .u32 p30.limit]]) (fun Q => by kernel_rfl) h1 h3 h5 ⟨(), (), (), (), u32_l, EnvAll.of h2 ⟨rfl, rfl, rfl, rfl, rfl, trivial⟩, h4⟩
  · rintro Fr u32_l
    refine SO.rd fun hr34 => ?_
    refine SO.v rfl (opv_assign rfl) ?_
    refine SO.b1 ?_
    refine SO.b1 ?_
    exact SO.nilZ fun a w h1 h2 h3 h4 h5 => PZ.of h1 h3 h5 (.cons u32_l (.cons () (.nil ⟨EnvAll.of h2 ⟨rfl, rfl, trivial⟩, h4⟩)))
  rintro _ _ _ u32_l _ _ _ _ _
  refine S.to (ρ' := [(0, bp bp0 0), (4, .int .i64 0), (8, errV 60 t29)]) ⟨rfl, rfl, rfl, trivial⟩ ?_
  refine S.rd fun hr35 => ?_
  refine S.seq ?_
  refine S.region ?_
  refine SO.v rfl (opv_move rfl) ?_
  refine SO.v rfl (opv_neqN (e := t29) Try.underlying29 rfl) ?_
  refine SO.nil ?_
  rcases bool_or t29.isSome with b36 | b36
  · replace h := cond_t b36 h
    refine S.condT rfl b36 ?_
    refine S.seq ?_
    refine S.region ?_
    refine SO.v rfl (opv_move rfl) ?_
    obtain ⟨p37, ht38, h⟩ := opt_bind h
    refine SO.b4 ?_
    refine SO.b5 ?_
    refine SO.call (pre := [Box _ _, Own _ _ _ _]) rfl Try.call52 rfl rfl rfl (desc_Desc_turn.ct bp0 v0_l _ _ _ ht38) trivial ?_
    rintro _ _ ⟨u39_l, rfl, rfl⟩
    refine SO.b1 ?_
    refine SO.rd fun hr40 => ?_
    refine SO.nil ?_
    refine S.seq ?_
    refine S.region ?_
    refine SO.v rfl (opv_assign rfl) ?_
    refine SO.nil ?_
    cases h
    refine S.b4 ?_
    refine S.drop ?_
    refine S.b4 ?_
    refine S.drop ?_
    refine S.b4 ?_
    refine S.b3 ?_
    refine S.b4 ?_
    refine S.b3 ?_
    refine S.b4 ?_
    exact S.ret1 Try.func53 rfl rfl (fun w hs hk => hR w _ _ ⟨u39_l, u32_l, rfl, rfl⟩ hs hk)
  replace h := cond_f b36 h
  refine S.condF rfl b36 ?_
  refine S.skip ?_
  refine S.region ?_
  refine SO.v rfl (opv_move rfl) ?_
  refine SO.v rfl (opv_nilCheck rfl) ?_
  refine SO.v rfl (opv_fieldAddr Try.underlying108 rfl Try.sizeOf3 rfl rfl) ?_
  refine SO.b5 ?_
  refine SO.load1 rfl Try.isAgg3 rfl rfl ?_
  refine SO.v rfl (opv_add rfl rfl) ?_
  refine SO.v rfl (opv_nilCheck rfl) ?_
  refine SO.v rfl (opv_fieldAddr Try.underlying108 rfl Try.sizeOf3 rfl rfl) ?_
  refine SO.store1 Try.sizeOf3 rfl rfl rfl rfl ?_
  refine SO.nil ?_
  refine S.to (ρ' := [(4, .int .i64 0)]) ⟨rfl, trivial⟩ ?_
  refine S.inBlock ?_
  refine S.seq ?_
  refine S.region ?_
  refine SO.v rfl (opv_assign rfl) ?_
  refine SO.nil ?_
  cases h
  refine S.b3 ?_
  refine S.drop ?_
  refine S.b3 ?_
  refine S.drop ?_
  refine S.b4 ?_
  refine S.b2 ?_
  refine S.b3 ?_
  refine S.b4 ?_
  refine S.b4 ?_
  exact S.ret1 Try.func53 rfl rfl (fun w hs hk => hR w _ _ ⟨v0_l, u32_l, rfl, rfl⟩ hs hk)
end Go.Proofs
namespace Go.Proofs
open Go.Sl Go.RowKit
/-! 46 (*padstone/desc.Desc).Step -/
def desc_Desc_Step.f (a0 : desc_Desc) (a1 : word_Store) : Option ((Int × desc_Desc × word_Store)) :=
  (desc_Desc_Over.f a0).bind fun t3 => bif t3 then (some (0, a0, a1)) else (bif a0.status != 0 then ((desc_Desc_release.f a0 a1).bind fun (p7, p8) => some (0, p7, p8)) else (bif a0.at_ == (a0.l.length : Int) then ((desc_Desc_turn.f a0 1).bind fun p15 => some (0, p15, a1)) else ((desc_Desc_reserve.f a0 a1).bind fun (t19, p20, p21) => some (t19, p20, p21))))
set_option maxHeartbeats 8000000 in
set_option maxRecDepth 100000 in
theorem desc_Desc_Step.ct (bp0 : Nat) (v0_l : Value) (bp1 : Nat) (v1_l : Value) (a0 : desc_Desc) (a1 : word_Store) (r0 : Int) (rp0 : desc_Desc) (rp1 : word_Store) (h : desc_Desc_Step.f a0 a1 = some (r0, rp0, rp1)) :
    Ct Try.prog 46 [bp bp0 0, bp bp1 0] (fun _ => True) [Box bp0 [.int .i64 a0.mark, v0_l, .int .i64 a0.status, .int .i64 a0.at_], Own 114 ek_tx_Entry v0_l a0.l, Box bp1 [v1_l, .int .u32 a1.limit], Own 88 ek_api_Cell v1_l a1.l] (fun u H' => ∃ rw0_l rw1_l, u = .int .i64 r0 ∧ H' = [Box bp0 [.int .i64 rp0.mark, rw0_l, .int .i64 rp0.status, .int .i64 rp0.at_], Own 114 ek_tx_Entry rw0_l rp0.l, Box bp1 [rw1_l, .int .u32 rp1.limit], Own 88 ek_api_Cell rw1_l rp1.l]) := by
  unfold desc_Desc_Step.f at h
  refine Ct.intro (n := 37) Try.func46 rfl rfl rfl ?_
  intro R w0 F hF hR
  refine S.b1 ?_
  refine S.rd fun hr1 => ?_
  refine S.b3 ?_
  refine S.rd fun hr2 => ?_
  refine S.seq ?_
  refine S.region ?_
  refine SO.v rfl (opv_assign rfl) ?_
  refine SO.nil ?_
  refine S.seq ?_
  refine S.block ?_
  refine S.seq ?_
  refine S.region ?_
  refine SO.v rfl (opv_move rfl) ?_
  refine SO.v rfl (opv_eqlP Try.underlying27 rfl) ?_
  refine SO.v rfl (opv_move rfl) ?_
  refine SO.takeT rfl rfl rfl rfl ?_
  refine SO.v rfl (opv_move rfl) ?_
  refine SO.takeT rfl rfl rfl rfl ?_
  obtain ⟨t3, ht4, h⟩ := opt_bind h
  refine SO.b1 ?_
  refine SO.b2 ?_
  refine SO.call (pre := [Box _ _, Own _ _ _ _]) rfl Try.call28 rfl rfl rfl (desc_Desc_Over.ct bp0 v0_l _ _ ht4) trivial ?_
  rintro _ _ ⟨rfl, rfl⟩
  refine SO.v rfl (opv_pick_ff rfl rfl) ?_
  refine SO.v rfl (opv_assign rfl) ?_
  refine SO.nil ?_
  rcases bool_or t3 with b5 | b5
  · replace h := cond_t b5 h
    refine S.condT rfl b5 ?_
    refine S.seq ?_
    refine S.region ?_
    refine SO.v rfl (opv_assign rfl) ?_
    refine SO.nil ?_
    refine S.to (ρ' := [(4, .int .i64 0)]) ⟨rfl, trivial⟩ ?_
    cases h
    refine S.b4 ?_
    refine S.b3 ?_
    refine S.b4 ?_
    refine S.b4 ?_
    refine S.b4 ?_
    exact S.ret1 Try.func46 rfl rfl (fun w hs hk => hR w _ _ ⟨v0_l, v1_l, rfl, rfl⟩ hs hk)
  replace h := cond_f b5 h
  refine S.condF rfl b5 ?_
  refine S.seq ?_
  refine S.region ?_
  refine SO.v rfl (opv_move rfl) ?_
  refine SO.v rfl (opv_nilCheck rfl) ?_
  refine SO.v rfl (opv_fieldAddr Try.underlying108 rfl Try.sizeOf3 rfl rfl) ?_
  refine SO.load1 rfl Try.isAgg3 rfl rfl ?_
  refine SO.v rfl (opv_neq rfl rfl) ?_
  refine SO.v rfl (opv_assign rfl) ?_
  refine SO.nil ?_
  refine S.to (ρ' := [(0, bp bp0 0), (1, bp bp1 0), (4, .int .i64 0), (12, .bool (a0.status != 0))]) ⟨rfl, rfl, rfl, rfl, trivial⟩ ?_
  rcases bool_or (a0.status != 0) with b6 | b6
  · replace h := cond_t b6 h
    refine S.condT rfl b6 ?_
    refine S.seq ?_
    refine S.region ?_
    refine SO.v rfl (opv_move rfl) ?_
    refine SO.v rfl (opv_move rfl) ?_
    obtain ⟨⟨p7, p8⟩, ht9, h⟩ := opt_bind h
    refine SO.b2 ?_
    refine SO.b3 ?_
    refine SO.b3 ?_
    refine SO.b3 ?_
    refine SO.call (pre := [Box _ _, Own _ _ _ _, Box _ _, Own _ _ _ _]) rfl Try.call51 rfl rfl rfl (desc_Desc_release.ct bp0 v0_l bp1 v1_l _ _ _ _ ht9) trivial ?_
    rintro _ _ ⟨u10_l, u12_l, rfl, rfl⟩
    refine SO.b1 ?_
    refine SO.rd fun hr11 => ?_
    refine SO.b3 ?_
    refine SO.rd fun hr13 => ?_
    refine SO.nil ?_
    refine S.seq ?_
    refine S.region ?_
    refine SO.v rfl (opv_assign rfl) ?_
    refine SO.nil ?_
    cases h
    refine S.b4 ?_
    refine S.b1 ?_
    refine S.b4 ?_
    refine S.b3 ?_
    refine S.b4 ?_
    exact S.ret1 Try.func46 rfl rfl (fun w hs hk => hR w _ _ ⟨u10_l, u12_l, rfl, rfl⟩ hs hk)
  replace h := cond_f b6 h
  refine S.condF rfl b6 ?_
  refine S.seq ?_
  refine S.draw2 (Y := fun Q => ∃ (_ _ _ _ _ _ _ : Unit), Q [(0, bp bp0 0), (1, bp bp1 0), (4, .int .i64 0)] [Box bp0 [.int .i64 a0.mark, v0_l, .int .i64 a0.status, .int .i64 a0.at_], Own 114 ek_tx_Entry v0_l a0.l, Own 88 ek_api_Cell v1_l a1.l, Box bp1 [v1_l, .int .u32 a1.limit], F]) (Z := fun Q => ∀ (_ _ _ _ _ _ _ _ : Unit), Q [(0, bp bp0 0), (1, bp bp1 0), (4, .int .i64 0), (21, .bool (a0.at_ == (a0.l.length : Int)))] [Box bp0 [.int .i64 a0.mark, v0_l, .int .i64 a0.status, .int .i64 a0.at_], Own 114 ek_tx_Entry v0_l a0.l, Own 88 ek_api_Cell v1_l a1.l, Box bp1 [v1_l, .int .u32 a1.limit], F]) (T := [tS 0 (bp bp0 0), tE [(1, bp bp1 0), (4, .int .i64 0)], tR (Box bp0 [.int .i64 a0.mark, v0_l, .int .i64 a0.status, .int .i64 a0.at_]), tR (Own 114 ek_tx_Entry v0_l a0.l), tR (Own 88 ek_api_Cell v1_l a1.l), tR (Box bp1 [v1_l, .int .u32 a1.limit]), tR (F), tS 22 (bp bp0 0), tS 23 (bp bp0 0), tS 24 (bp bp0 3), tS 25 (.int .i64 a0.at_), tS 26 (bp bp0 0), tS 27 (bp bp0 0), tS 28 (bp bp0 1), tS 29 (v0_l), tS 30 (.int .i64 (a0.l.length : Int)), tS 31 (.bool (a0.at_ == (a0.l.length : Int))), tS 21 (.bool (a0.at_ == (a0.l.length : Int)))]) (D := [⟨[0], [], [7]⟩, ⟨[7], [], [8]⟩, ⟨[8], [], [9]⟩, ⟨[9, 2], [], [10]⟩, ⟨[0], [], [11]⟩, ⟨[11], [], [12]⟩, ⟨[12], [], [13]⟩, ⟨[13, 2], [], [14]⟩, ⟨[14, 3], [], [15]⟩, ⟨[10, 15], [], [16]⟩, ⟨[16], [], [17]⟩]) (ini := [0, 1, 2, 3, 4, 5, 6]) (fin := [0, 1, 17, 2, 3, 4, 5, 6]) (bf := [[], [0], [0, 1], [0, 1, 2], [], [4], [4, 5], [4, 5, 6], [4, 5, 6, 7], [0, 1, 2, 3, 4, 5, 6, 7, 8], [0, 1, 2, 3, 4, 5, 6, 7, 8, 9]]) (by kernel_rfl) (by kernel_rfl) (fun Q => by kernel_rfl) (fun x w h1 h2 => ⟨(), (), (), (), (), (), (), EnvAll.of h1 ⟨rfl, rfl, rfl, trivial⟩, h2⟩) (fun Q => by kernel_rfl) ⟨?_, ?_, ?_, ?_, ?_, ?_, ?_, ?_, ?_, ?_, ?_, trivial⟩ ?_
  · rintro Fr _
    refine SO.v rfl (opv_move rfl) ?_
    exact SO.nilZ fun a w h1 h2 h3 h4 h5 => PZ.of h1 h3 h5 (.cons () (.cons () (.nil ⟨EnvAll.of h2 ⟨rfl, rfl, trivial⟩, h4⟩)))
  · rintro Fr _
    refine SO.v rfl (opv_nilCheck rfl) ?_
    exact SO.nilZ fun a w h1 h2 h3 h4 h5 => PZ.of h1 h3 h5 (.cons () (.cons () (.nil ⟨EnvAll.of h2 ⟨rfl, rfl, trivial⟩, h4⟩)))
  · rintro Fr _
    refine SO.v rfl (opv_fieldAddr Try.underlying108 rfl Try.sizeOf3 rfl rfl) ?_
    exact SO.nilZ fun a w h1 h2 h3 h4 h5 => PZ.of h1 h3 h5 (.cons () (.cons () (.nil ⟨EnvAll.of h2 ⟨rfl, rfl, trivial⟩, h4⟩)))
  · rintro Fr _ _
    refine SO.load1 rfl Try.isAgg3 rfl rfl ?_
    exact SO.nilZ fun a w h1 h2 h3 h4 h5 => PZ.of h1 h3 h5 (.cons () (.cons () (.cons () (.nil ⟨EnvAll.of h2 ⟨rfl, rfl, trivial⟩, h4⟩))))
  · rintro Fr _
    refine SO.v rfl (opv_move rfl) ?_
    exact SO.nilZ fun a w h1 h2 h3 h4 h5 => PZ.of h1 h3 h5 (.cons () (.cons () (.nil ⟨EnvAll.of h2 ⟨rfl, rfl, trivial⟩, h4⟩)))
  · rintro Fr _
    refine SO.v rfl (opv_nilCheck rfl) ?_
    exact SO.nilZ fun a w h1 h2 h3 h4 h5 => PZ.of h1 h3 h5 (.cons () (.cons () (.nil ⟨EnvAll.of h2 ⟨rfl, rfl, trivial⟩, h4⟩)))
  · rintro Fr _
    refine SO.v rfl (opv_fieldAddr Try.underlying108 rfl Try.sizeOf102 rfl rfl) ?_
    exact SO.nilZ fun a w h1 h2 h3 h4 h5 => PZ.of h1 h3 h5 (.cons () (.cons () (.nil ⟨EnvAll.of h2 ⟨rfl, rfl, trivial⟩, h4⟩)))
  · rintro Fr _ _
    refine SO.load1 rfl Try.isAgg102 rfl rfl ?_
    exact SO.nilZ fun a w h1 h2 h3 h4 h5 => PZ.of h1 h3 h5 (.cons () (.cons () (.cons () (.nil ⟨EnvAll.of h2 ⟨rfl, rfl, trivial⟩, h4⟩))))
  · rintro Fr _ _
    refine SO.v rfl (opv_lenR rfl Try.underlying102 hr1 rfl) ?_
    exact SO.nilZ fun a w h1 h2 h3 h4 h5 => PZ.of h1 h3 h5 (.cons () (.cons () (.cons () (.nil ⟨EnvAll.of h2 ⟨rfl, rfl, trivial⟩, h4⟩))))
  · rintro Fr _ _
    refine SO.v rfl (opv_eql rfl rfl) ?_
    exact SO.nilZ fun a w h1 h2 h3 h4 h5 => PZ.of h1 h3 h5 (.cons () (.cons () (.cons () (.nil ⟨EnvAll.of h2 ⟨rfl, rfl, rfl, trivial⟩, h4⟩))))
  · rintro Fr _
    refine SO.v rfl (opv_assign rfl) ?_
    exact SO.nilZ fun a w h1 h2 h3 h4 h5 => PZ.of h1 h3 h5 (.cons () (.cons () (.nil ⟨EnvAll.of h2 ⟨rfl, rfl, trivial⟩, h4⟩)))
  rintro _ _ _ _ _ _ _ _
  refine S.to (ρ' := [(0, bp bp0 0), (1, bp bp1 0), (4, .int .i64 0), (21, .bool (a0.at_ == (a0.l.length : Int)))]) ⟨rfl, rfl, rfl, rfl, trivial⟩ ?_
  rcases bool_or (a0.at_ == (a0.l.length : Int)) with b14 | b14
  · replace h := cond_t b14 h
    refine S.condT rfl b14 ?_
    refine S.seq ?_
    refine S.region ?_
    refine SO.v rfl (opv_move rfl) ?_
    obtain ⟨p15, ht16, h⟩ := opt_bind h
    refine SO.b1 ?_
    refine SO.b1 ?_
    refine SO.call (pre := [Box _ _, Own _ _ _ _]) rfl Try.call52 rfl rfl rfl (desc_Desc_turn.ct bp0 v0_l _ _ _ ht16) trivial ?_
    rintro _ _ ⟨u17_l, rfl, rfl⟩
    refine SO.b1 ?_
    refine SO.rd fun hr18 => ?_
    refine SO.nil ?_
    refine S.seq ?_
    refine S.region ?_
    refine SO.v rfl (opv_assign rfl) ?_
    refine SO.nil ?_
    cases h
    refine S.b4 ?_
    refine S.b3 ?_
    refine S.b4 ?_
    refine S.b3 ?_
    refine S.b4 ?_
    exact S.ret1 Try.func46 rfl rfl (fun w hs hk => hR w _ _ ⟨u17_l, v1_l, rfl, rfl⟩ hs hk)
  replace h := cond_f b14 h
  refine S.condF rfl b14 ?_
  refine S.skip ?_
  refine S.inBlock ?_
  refine S.seq ?_
  refine S.region ?_
  refine SO.v rfl (opv_move rfl) ?_
  refine SO.v rfl (opv_move rfl) ?_
  obtain ⟨⟨t19, p20, p21⟩, ht22, h⟩ := opt_bind h
  refine SO.b2 ?_
  refine SO.b3 ?_
  refine SO.b3 ?_
  refine SO.b3 ?_
  refine SO.call (pre := [Box _ _, Own _ _ _ _, Box _ _, Own _ _ _ _]) rfl Try.call53 rfl rfl rfl (desc_Desc_reserve.ct bp0 v0_l bp1 v1_l _ _ _ _ _ ht22) trivial ?_
  rintro _ _ ⟨u23_l, u25_l, rfl, rfl⟩
  refine SO.b1 ?_
  refine SO.rd fun hr24 => ?_
  refine SO.b3 ?_
  refine SO.rd fun hr26 => ?_
  refine SO.v rfl (opv_assign rfl) ?_
  refine SO.nil ?_
  cases h
  refine S.b4 ?_
  refine S.b1 ?_
  refine S.b4 ?_
  refine S.b3 ?_
  refine S.b4 ?_
  exact S.ret1 Try.func46 rfl rfl (fun w hs hk => hR w _ _ ⟨u23_l, u25_l, rfl, rfl⟩ hs hk)
end Go.Proofs
set_option linter.unusedVariables false
namespace Go.Proofs
open Go.Sl Go.RowKit
theorem inf44_stm_Machine_advance : Try.prog.info? 44 = some Try.t44 := by kernel_rfl
/-! 30 (*padstone/stm.Machine).advance -/
def stm_Machine_advance.l1 (el : List stm_Entry) : Nat → (Int × (List api_Cell) × Int × (List stm_Entry) × (List desc_Desc)) → Option (((List stm_Entry) × (List api_Cell) × Int × (List desc_Desc)))
  | 0, _ => none
  | k + 1, (x1_1, yps_0_1, yps_1_1, ypm_3_1, qDz_1) => (bif decide (0 < x1_1) then (some (decide (x1_1 ≤ (el.length : Int)))) else (some false)).bind fun c7 => bif c7 then ((at_ el (w64 (x1_1 - 1))).bind fun x10 => (at_ qDz_1 (w64 (x1_1 - 1))).bind fun x15 => (desc_Desc_Status.f x15).bind fun t19 => (desc_Desc_Step.f x15 (⟨yps_0_1, yps_1_1⟩ : word_Store)).bind fun (t21, p22, p23) => (desc_Desc_Status.f p22).bind fun t34 => bif (t19 != 0) || ((t34 != 1) && (t34 != 3)) then (stm_Machine_advance.l1 el k (t21, p23.l, p23.limit, ypm_3_1, qDz_1.set (w64 (x1_1 - 1)).toNat p22)) else (bif t34 == 3 then ((app ypm_3_1 ([({ x10 with Told := -1, Spent := true } : stm_Entry)])).bind fun zs43 => stm_Machine_advance.l1 el k (t21, p23.l, p23.limit, zs43, qDz_1.set (w64 (x1_1 - 1)).toNat p22)) else ((app ypm_3_1 ([x10])).bind fun zs53 => stm_Machine_advance.l1 el k (t21, p23.l, p23.limit, zs53, qDz_1.set (w64 (x1_1 - 1)).toNat p22)))) else (some (ypm_3_1, yps_0_1, yps_1_1, qDz_1))
def stm_Machine_advance.f (k : Nat) (sa : word_Store) (dl : List desc_Desc) (el : List stm_Entry) (gl : List stm_Entry) (mark : Int) : Option (word_Store × (List desc_Desc) × (List stm_Entry)) :=
  (stm_Machine_advance.l1 el k (mark, sa.l, sa.limit, gl, dl)).bind fun (ypm_3_e1, yps_0_e1, yps_1_e1, qDz_e1) => some ((⟨yps_0_e1, yps_1_e1⟩ : word_Store), qDz_e1, ypm_3_e1)
set_option maxHeartbeats 8000000 in
set_option maxRecDepth 100000 in
theorem stm_Machine_advance.ct (k : Nat) (zb : List Nat) (bpm bps : Nat) (vl va vg vs : Value) (sa : word_Store) (dl : List desc_Desc) (el gl : List stm_Entry) (hle : zb.length = el.length) (mark : Int) (rs : word_Store) (rd : List desc_Desc) (rg : List stm_Entry) (h : stm_Machine_advance.f k sa dl el gl mark = some (rs, rd, rg)) :
    Ct Try.prog 30 [bp bpm 0, .int .i64 mark] (fun _ => True) [Box bpm [bp bps 0, vl, va, vg], Own 105 ekMd va (zb.zip el), ZipR rep_desc_Desc zb dl, Own 44 ek_stm_Entry vg gl, Box bps [vs, .int .u32 sa.limit], Own 88 ek_api_Cell vs sa.l] (fun u H' => ∃ wg ws, u = .tuple #[] ∧ H' = [Box bpm [bp bps 0, vl, va, wg], Own 105 ekMd va (zb.zip el), ZipR rep_desc_Desc zb rd, Own 44 ek_stm_Entry wg rg, Box bps [ws, .int .u32 rs.limit], Own 88 ek_api_Cell ws rs.l]) := by
  unfold stm_Machine_advance.f at h
  refine Ct.intro (n := 66) Try.func30 rfl rfl rfl ?_
  intro R w0 F hF hR
  refine S.b1 ?_
  refine S.rd fun hr1 => ?_
  refine S.b3 ?_
  refine S.rd fun hr2 => ?_
  refine S.b5 ?_
  refine S.rd fun hr3 => ?_
  obtain ⟨⟨ypm_3_e1, yps_0_e1, yps_1_e1, qDz_e1⟩, hlp1, h⟩ := opt_bind h
  refine S.b6 ?_
  refine S.b6 ?_
  refine S.b6 ?_
  refine S.b6 ?_
  refine S.b6 ?_
  refine S.b5 ?_
  refine S.b6 ?_
  refine S.to (ρ' := [(0, bp bpm 0), (1, .int .i64 mark)]) ⟨rfl, rfl, trivial⟩ ?_
  refine S.forloop (X := (Int × (List api_Cell) × Int × (List stm_Entry) × (List desc_Desc)) × (Value × Value)) (O := ((List stm_Entry) × (List api_Cell) × Int × (List desc_Desc))) (fun m x => stm_Machine_advance.l1 el m x.1) (fun x => match x with | ((x1_1, yps_0_1, yps_1_1, ypm_3_1, qDz_1), (vyps_0_1, vypm_3_1)) => [(0, bp bpm 0), (1, .int .i64 x1_1)]) (fun x => match x with | ((x1_1, yps_0_1, yps_1_1, ypm_3_1, qDz_1), (vyps_0_1, vypm_3_1)) => [Own 44 ek_stm_Entry vypm_3_1 ypm_3_1, Own 88 ek_api_Cell vyps_0_1 yps_0_1, Own 105 ekMd va (zb.zip el), Box bpm [bp bps 0, vl, va, vypm_3_1], ZipR rep_desc_Desc zb qDz_1, Box bps [vyps_0_1, .int .u32 yps_1_1], F]) (fun Sk => (fun x => match x with | (ypm_3_e1, yps_0_e1, yps_1_e1, qDz_e1) => ∀ g : (Value × Value), match g with | (vypm_3_e1, vyps_0_e1) => Sk [] [Own 88 ek_api_Cell vyps_0_e1 yps_0_e1, Own 44 ek_stm_Entry vypm_3_e1 ypm_3_e1, Own 105 ekMd va (zb.zip el), Box bpm [bp bps 0, vl, va, vypm_3_e1], ZipR rep_desc_Desc zb qDz_e1, Box bps [vyps_0_e1, .int .u32 yps_1_e1], F])) (fun _ => rfl) ?_ (m := k) (x := ((mark, sa.l, sa.limit, gl, dl), (vs, vg))) hlp1 ?_
  · clear h hlp1
    intro k x o_1 h hK1 ih1
    obtain ⟨⟨x1_1, yps_0_1, yps_1_1, ypm_3_1, qDz_1⟩, ⟨vyps_0_1, vypm_3_1⟩⟩ := x
    replace h : stm_Machine_advance.l1 el (k + 1) (x1_1, yps_0_1, yps_1_1, ypm_3_1, qDz_1) = some o_1 := h
    first | rw [stm_Machine_advance.l1] at h | unfold stm_Machine_advance.l1 at h
    refine S.rd fun hr4 => ?_
    refine S.b1 ?_
    refine S.rd fun hr5 => ?_
    refine S.seq ?_
    refine S.seq ?_
    refine S.region ?_
    refine SO.v rfl (opv_move rfl) ?_
    refine SO.v rfl (opv_gtr rfl rfl) ?_
    refine SO.v rfl (opv_move rfl) ?_
    obtain ⟨c7, hc8, hgk⟩ := opt_bind h
    refine SO.cut 8 17 (.bool c7) [Own 88 ek_api_Cell vyps_0_1 yps_0_1, Own 44 ek_stm_Entry vypm_3_1 ypm_3_1, Own 105 ekMd va (zb.zip el), Box bpm [bp bps 0, vl, va, vypm_3_1], ZipR rep_desc_Desc zb qDz_1, Box bps [vyps_0_1, .int .u32 yps_1_1], F] (fun l2 hk2 => ?_) ?_
    · clear hgk
      replace h := hc8
      rcases bool_or (decide (0 < x1_1)) with b6 | b6
      · replace h := cond_t b6 h
        refine SO.takeT rfl rfl rfl b6 ?_
        refine SO.v rfl (opv_move rfl) ?_
        refine SO.takeT rfl rfl rfl b6 ?_
        refine SO.v rfl (opv_move rfl) ?_
        refine SO.takeT rfl rfl rfl b6 ?_
        refine SO.v rfl (opv_nilCheck rfl) ?_
        refine SO.takeT rfl rfl rfl b6 ?_
        refine SO.v rfl (opv_fieldAddr Try.underlying67 rfl Try.sizeOf65 rfl rfl) ?_
        refine SO.takeT rfl rfl rfl b6 ?_
        refine SO.b3 ?_
        refine SO.load1 rfl Try.isAgg65 rfl rfl ?_
        refine SO.takeT rfl rfl rfl b6 ?_
        refine SO.v rfl (opv_lenZ hle rfl Try.underlying65 hr1 rfl) ?_
        refine SO.takeT rfl rfl rfl b6 ?_
        refine SO.v rfl (opv_leq rfl rfl) ?_
        cases h
        refine SO.v rfl (opv_pick_t' b6 rfl rfl) ?_
        refine SO.b6 ?_
        refine SO.b6 ?_
        refine SO.b6 ?_
        refine SO.b3 ?_
        refine SO.b6 ?_
        refine SO.b6 ?_
        refine SO.b6 ?_
        exact hk2.fitc (m := 8) rfl (rfl) rfl
      replace h := cond_f b6 h
      refine SO.passF rfl rfl rfl b6 rfl rfl ?_
      refine SO.passF rfl rfl rfl b6 rfl rfl ?_
      refine SO.passF rfl rfl rfl b6 rfl rfl ?_
      refine SO.passF rfl rfl rfl b6 rfl rfl ?_
      refine SO.passF rfl rfl rfl b6 rfl rfl ?_
      refine SO.passF rfl rfl rfl b6 rfl rfl ?_
      refine SO.passF rfl rfl rfl b6 rfl rfl ?_
      cases h
      refine SO.v rfl (opv_pick_f' b6 rfl rfl) ?_
      refine SO.b6 ?_
      refine SO.b6 ?_
      refine SO.b6 ?_
      refine SO.b6 ?_
      refine SO.b6 ?_
      refine SO.b6 ?_
      refine SO.b6 ?_
      exact hk2.fitc (m := 8) rfl (rfl) rfl
    clear hc8
    replace h := hgk
    refine SO.nil ?_
    rcases bool_or c7 with b9 | b9
    · replace h := cond_t b9 h
      refine S.condT rfl b9 ?_
      refine S.skip ?_
      refine S.block ?_
      refine S.seq ?_
      refine S.region ?_
      refine SO.v rfl (opv_move rfl) ?_
      refine SO.v rfl (opv_nilCheck rfl) ?_
      refine SO.v rfl (opv_fieldAddr Try.underlying67 rfl Try.sizeOf65 rfl rfl) ?_
      refine SO.b3 ?_
      refine SO.load1 rfl Try.isAgg65 rfl rfl ?_
      refine SO.v rfl (opv_move rfl) ?_
      refine SO.v rfl (opv_sub rfl rfl) ?_
      obtain ⟨x10, hx11, h⟩ := opt_bind h
      obtain ⟨b12, hb13⟩ := at_len hle hx11
      refine SO.v rfl (opv_idx Try.underlying65 Try.sizeOf105 hr1 rfl rfl (at_zip hb13 hx11)) ?_
      refine SO.loadIN rfl Try.isAgg105 Try.sizeOf105 (Rd.tail (Rd.tail (Rd.tail (Rd.head hr1)))) (at_zip hb13 hx11) rfl rfl rfl ?_
      refine SO.alloc rfl Try.zeroValue105 rfl (fun b14 => ?_)
      refine SO.storeN Try.sizeOf105 rfl rfl rfl rfl rfl rfl ?_
      refine SO.nil ?_
      refine S.to (ρ' := [(0, bp bpm 0), (4, bp b14 0)]) ⟨rfl, rfl, trivial⟩ ?_
      refine S.seq ?_
      refine S.region ?_
      refine SO.v rfl (opv_fieldAddr Try.underlying105 rfl Try.sizeOf71 rfl rfl) ?_
      refine SO.load1 rfl Try.isAgg71 rfl rfl ?_
      obtain ⟨x15, hx16, h⟩ := opt_bind h
      refine SO.b5 ?_
      refine SO.focusZ hb13 hx16 ?_
      refine so_open_desc_Desc (fun g17_l => ?_)
      refine SO.b1 ?_
      refine SO.rd fun hr18 => ?_
      obtain ⟨t19, ht20, h⟩ := opt_bind h
      refine SO.b1 ?_
      refine SO.call (pre := [Box _ _, Own _ _ _ _]) rfl Try.call45 rfl rfl rfl (desc_Desc_Status.ct b12 g17_l _ _ ht20) trivial ?_
      rintro _ _ ⟨rfl, rfl⟩
      refine SO.v rfl (opv_assign rfl) ?_
      refine SO.nil ?_
      refine S.seq ?_
      obtain ⟨⟨t21, p22, p23⟩, ht24, h⟩ := opt_bind h
      refine S.draw2 (Y := fun Q => ∃ (_ _ _ _ _ _ _ _ _ _ _ _ _ : Unit), Q [(4, bp b14 0), (0, bp bpm 0), (5, .int .i64 t19)] [Box b12 [.int .i64 x15.mark, g17_l, .int .i64 x15.status, .int .i64 x15.at_], Own 114 ek_tx_Entry g17_l x15.l, ZipH rep_desc_Desc zb qDz_1 (w64 (x1_1 - 1)).toNat, Box b14 [bp b12 0, .int .i64 x10.Worker, .int .i64 x10.Job, .int .i64 x10.Told, .bool x10.Spent], Box bpm [bp bps 0, vl, va, vypm_3_1], Own 88 ek_api_Cell vyps_0_1 yps_0_1, Own 44 ek_stm_Entry vypm_3_1 ypm_3_1, Own 105 ekMd va (zb.zip el), Box bps [vyps_0_1, .int .u32 yps_1_1], F]) (Z := fun Q => ∀ (_ _ _ _ : Unit) (g_4 : (Value × Value)) (_ _ _ _ _ _ : Unit), Q [(0, bp bpm 0), (4, bp b14 0), (5, .int .i64 t19), (1, .int .i64 t21), (35, .int .i64 t21)] [Own 88 ek_api_Cell g_4.1 p23.l, Own 114 ek_tx_Entry g_4.2 p22.l, Box b12 [.int .i64 p22.mark, g_4.2, .int .i64 p22.status, .int .i64 p22.at_], Box bps [g_4.1, .int .u32 p23.limit], ZipH rep_desc_Desc zb qDz_1 (w64 (x1_1 - 1)).toNat, Box b14 [bp b12 0, .int .i64 x10.Worker, .int .i64 x10.Job, .int .i64 x10.Told, .bool x10.Spent], Box bpm [bp bps 0, vl, va, vypm_3_1], Own 44 ek_stm_Entry vypm_3_1 ypm_3_1, Own 105 ekMd va (zb.zip el), F]) (T := [tS 4 (bp b14 0), tS 0 (bp bpm 0), tS 5 (.int .i64 t19), tR (Box b12 [.int .i64 x15.mark, g17_l, .int .i64 x15.status, .int .i64 x15.at_]), tR (Own 114 ek_tx_Entry g17_l x15.l), tR (ZipH rep_desc_Desc zb qDz_1 (w64 (x1_1 - 1)).toNat), tR (Box b14 [bp b12 0, .int .i64 x10.Worker, .int .i64 x10.Job, .int .i64 x10.Told, .bool x10.Spent]), tR (Box bpm [bp bps 0, vl, va, vypm_3_1]), tR (Own 88 ek_api_Cell vyps_0_1 yps_0_1), tR (Own 44 ek_stm_Entry vypm_3_1 ypm_3_1), tR (Own 105 ekMd va (zb.zip el)), tR (Box bps [vyps_0_1, .int .u32 yps_1_1]), tR (F), tS 29 (bp b14 0), tS 30 (bp b12 0), tS 31 (bp bpm 0), tS 32 (bp bpm 0), tS 33 (bp bpm 0), tS 34 (bp bps 0), ⟨(Value × Value), [35], (fun x => match x with | (u27_l, u25_l) => [(35, .int .i64 t21)]), (fun x => match x with | (u27_l, u25_l) => [Own 88 ek_api_Cell u27_l p23.l, Own 114 ek_tx_Entry u25_l p22.l, Box b12 [.int .i64 p22.mark, u25_l, .int .i64 p22.status, .int .i64 p22.at_], Box bps [u27_l, .int .u32 p23.limit]]), fun _ => rfl⟩, tS 1 (.int .i64 t21)]) (D := [⟨[0], [], [13]⟩, ⟨[13, 6], [], [14]⟩, ⟨[1], [], [15]⟩, ⟨[15], [], [16]⟩, ⟨[16], [], [17]⟩, ⟨[17, 7], [], [18]⟩, ⟨[14, 18], [3, 4, 11, 8], [19]⟩, ⟨[19], [], [20]⟩]) (ini := [0, 1, 2, 3, 4, 5, 6, 7, 8, 9, 10, 11, 12]) (fin := [1, 0, 2, 20, 19, 5, 6, 7, 9, 10, 12]) (bf := [[], [0], [], [2], [2, 3], [2, 3, 4], [0, 1, 2, 3, 4, 5], [0, 1, 2, 3, 4, 5, 6]]) (by kernel_rfl) (by kernel_rfl) (fun Q => by kernel_rfl) (fun x w h1 h2 => ⟨(), (), (), (), (), (), (), (), (), (), (), (), (), EnvAll.of h1 ⟨rfl, rfl, rfl, trivial⟩, h2⟩) (fun Q => by kernel_rfl) ⟨?_, ?_, ?_, ?_, ?_, ?_, ?_, ?_, trivial⟩ ?_
      · rintro Fr _
        refine SO.v rfl (opv_fieldAddr Try.underlying105 rfl Try.sizeOf71 rfl rfl) ?_
        exact SO.nilZ fun a w h1 h2 h3 h4 h5 => PZ.of h1 h3 h5 (.cons () (.cons () (.nil ⟨EnvAll.of h2 ⟨rfl, rfl, trivial⟩, h4⟩)))
      · rintro Fr _ _
        refine SO.load1 rfl Try.isAgg71 rfl rfl ?_
        exact SO.nilZ fun a w h1 h2 h3 h4 h5 => PZ.of h1 h3 h5 (.cons () (.cons () (.cons () (.nil ⟨EnvAll.of h2 ⟨rfl, rfl, trivial⟩, h4⟩))))
      · rintro Fr _
        refine SO.v rfl (opv_move rfl) ?_
        exact SO.nilZ fun a w h1 h2 h3 h4 h5 => PZ.of h1 h3 h5 (.cons () (.cons () (.nil ⟨EnvAll.of h2 ⟨rfl, rfl, trivial⟩, h4⟩)))
      · rintro Fr _
        refine SO.v rfl (opv_nilCheck rfl) ?_
        exact SO.nilZ fun a w h1 h2 h3 h4 h5 => PZ.of h1 h3 h5 (.cons () (.cons () (.nil ⟨EnvAll.of h2 ⟨rfl, rfl, trivial⟩, h4⟩)))
      · rintro Fr _
        refine SO.v rfl (opv_fieldAddr Try.underlying67 rfl Try.sizeOf27 rfl rfl) ?_
        exact SO.nilZ fun a w h1 h2 h3 h4 h5 => PZ.of h1 h3 h5 (.cons () (.cons () (.nil ⟨EnvAll.of h2 ⟨rfl, rfl, trivial⟩, h4⟩)))
      · rintro Fr _ _
        refine SO.load1 rfl Try.isAgg27 rfl rfl ?_
        exact SO.nilZ fun a w h1 h2 h3 h4 h5 => PZ.of h1 h3 h5 (.cons () (.cons () (.cons () (.nil ⟨EnvAll.of h2 ⟨rfl, rfl, trivial⟩, h4⟩))))
      · refine spec2 (X := fun Q => ∀ (_ _ _ _ _ _ : Unit), Q [(30, bp b12 0), (34, bp bps 0)] [Box b12 [.int .i64 x15.mark, g17_l, .int .i64 x15.status, .int .i64 x15.at_], Own 114 ek_tx_Entry g17_l x15.l, Box bps [vyps_0_1, .int .u32 yps_1_1], Own 88 ek_api_Cell vyps_0_1 yps_0_1]) (fun Q => by kernel_rfl) ?_
        rintro Fr _ _ _ _ _ _
        refine SO.b3 ?_
        refine SO.b3 ?_
        refine SO.b3 ?_
        refine SO.b3 ?_
        have ct29 := desc_Desc_Step.ct b12 g17_l bps vyps_0_1 _ _ _ _ _ ht24
        try dsimp only at ct29
        refine SO.call (pre := [Box _ _, Own _ _ _ _, Box _ _, Own _ _ _ _]) rfl Try.call46 rfl rfl rfl ct29 trivial ?_
        rintro _ _ ⟨u25_l, u27_l, rfl, rfl⟩
        refine SO.b1 ?_
        refine SO.rd fun hr26 => ?_
        refine SO.b3 ?_
        refine SO.rd fun hr28 => ?_
        refine SO.b3 ?_
        refine SO.b3 ?_
        refine SO.b3 ?_
        refine SO.b3 ?_
        exact SO.nilZ fun a w h1 h2 h3 h4 h5 => PZ.of h1 h3 h5 (.cons () (.cons () (.cons (u27_l, u25_l) (.nil ⟨EnvAll.of h2 ⟨rfl, rfl, rfl, trivial⟩, h4⟩))))
      · rintro Fr ⟨u27_l, u25_l⟩
        refine SO.rd fun hr30 => ?_
        refine SO.b1 ?_
        refine SO.rd fun hr31 => ?_
        refine SO.v rfl (opv_assign rfl) ?_
        refine SO.b3 ?_
        refine SO.b3 ?_
        refine SO.b2 ?_
        refine SO.b3 ?_
        exact SO.nilZ fun a w h1 h2 h3 h4 h5 => PZ.of h1 h3 h5 (.cons (u27_l, u25_l) (.cons () (.nil ⟨EnvAll.of h2 ⟨rfl, rfl, trivial⟩, h4⟩)))
      rintro _ _ _ _ ⟨u27_l, u25_l⟩ _ _ _ _ _ _
      refine S.to (ρ' := [(0, bp bpm 0), (4, bp b14 0), (5, .int .i64 t19), (1, .int .i64 t21)]) ⟨rfl, rfl, rfl, rfl, trivial⟩ ?_
      refine S.rd fun hr32 => ?_
      refine S.b1 ?_
      refine S.rd fun hr33 => ?_
      refine S.seq ?_
      refine S.region ?_
      refine SO.v rfl (opv_fieldAddr Try.underlying105 rfl Try.sizeOf71 rfl rfl) ?_
      refine SO.b5 ?_
      refine SO.load1 rfl Try.isAgg71 rfl rfl ?_
      obtain ⟨t34, ht35, h⟩ := opt_bind h
      refine SO.b1 ?_
      refine SO.b3 ?_
      refine SO.call (pre := [Box _ _, Own _ _ _ _]) rfl Try.call45 rfl rfl rfl (desc_Desc_Status.ct b12 u25_l _ _ ht35) trivial ?_
      rintro _ _ ⟨rfl, rfl⟩
      refine SO.v rfl (opv_assign rfl) ?_
      refine SO.nil ?_
      refine S.seq ?_
      refine S.seq ?_
      refine S.region ?_
      refine SO.v rfl (opv_move rfl) ?_
      refine SO.v rfl (opv_neq rfl rfl) ?_
      refine SO.v rfl (opv_move rfl) ?_
      refine SO.cut 7 48 (.bool ((t19 != 0) || ((t34 != 1) && (t34 != 3)))) [Box b12 [.int .i64 p22.mark, u25_l, .int .i64 p22.status, .int .i64 p22.at_], Own 114 ek_tx_Entry u25_l p22.l, Box b14 [bp b12 0, .int .i64 x10.Worker, .int .i64 x10.Job, .int .i64 x10.Told, .bool x10.Spent], Own 88 ek_api_Cell u27_l p23.l, Box bps [u27_l, .int .u32 p23.limit], ZipH rep_desc_Desc zb qDz_1 (w64 (x1_1 - 1)).toNat, Box bpm [bp bps 0, vl, va, vypm_3_1], Own 44 ek_stm_Entry vypm_3_1 ypm_3_1, Own 105 ekMd va (zb.zip el), F] (fun l2 hk2 => ?_) ?_
      · rcases bool_or (t19 != 0) with b36 | b36
        · refine SO.passF rfl rfl rfl b36 rfl rfl ?_
          refine SO.passF rfl rfl rfl b36 rfl rfl ?_
          refine SO.passF rfl rfl rfl b36 rfl rfl ?_
          refine SO.pass_undef rfl rfl rfl rfl ?_
          refine SO.pass_undef rfl rfl rfl rfl ?_
          refine SO.passF rfl rfl rfl b36 rfl rfl ?_
          refine SO.v rfl (opv_pick_t' b36 rfl rfl) ?_
          refine SO.b9 ?_
          refine SO.b9 ?_
          refine SO.b9 ?_
          refine SO.b9 ?_
          refine SO.b9 ?_
          refine SO.b9 ?_
          refine SO.b9 ?_
          refine SO.b9 ?_
          refine SO.b9 ?_
          refine SO.b9 ?_
          exact hk2.fitc (m := 7) rfl (or_t b36) rfl
        refine SO.takeT rfl rfl rfl b36 ?_
        refine SO.v rfl (opv_move rfl) ?_
        refine SO.takeT rfl rfl rfl b36 ?_
        refine SO.v rfl (opv_neq rfl rfl) ?_
        refine SO.takeT rfl rfl rfl b36 ?_
        refine SO.v rfl (opv_move rfl) ?_
        refine SO.cut 3 47 (.bool ((t34 != 1) && (t34 != 3))) [Box b12 [.int .i64 p22.mark, u25_l, .int .i64 p22.status, .int .i64 p22.at_], Own 114 ek_tx_Entry u25_l p22.l, Box b14 [bp b12 0, .int .i64 x10.Worker, .int .i64 x10.Job, .int .i64 x10.Told, .bool x10.Spent], Own 88 ek_api_Cell u27_l p23.l, Box bps [u27_l, .int .u32 p23.limit], ZipH rep_desc_Desc zb qDz_1 (w64 (x1_1 - 1)).toNat, Box bpm [bp bps 0, vl, va, vypm_3_1], Own 44 ek_stm_Entry vypm_3_1 ypm_3_1, Own 105 ekMd va (zb.zip el), F] (fun l2 hk2 => ?_) ?_
        · rcases bool_or (t34 != 1) with b37 | b37
          · refine SO.takeT rfl rfl rfl b37 ?_
            refine SO.v rfl (opv_move rfl) ?_
            refine SO.takeT rfl rfl rfl b37 ?_
            refine SO.v rfl (opv_neq rfl rfl) ?_
            refine SO.takeT rfl rfl rfl b36 ?_
            refine SO.v rfl (opv_pick_t' b37 rfl rfl) ?_
            refine SO.b9 ?_
            refine SO.b9 ?_
            refine SO.b9 ?_
            refine SO.b9 ?_
            refine SO.b9 ?_
            refine SO.b9 ?_
            refine SO.b9 ?_
            refine SO.b9 ?_
            refine SO.b9 ?_
            refine SO.b9 ?_
            exact hk2.fitc (m := 3) rfl (and_t b37) rfl
          refine SO.passF rfl rfl rfl b37 rfl rfl ?_
          refine SO.passF rfl rfl rfl b37 rfl rfl ?_
          refine SO.takeT rfl rfl rfl b36 ?_
          refine SO.v rfl (opv_pick_f' b37 rfl rfl) ?_
          refine SO.b9 ?_
          refine SO.b9 ?_
          refine SO.b9 ?_
          refine SO.b9 ?_
          refine SO.b9 ?_
          refine SO.b9 ?_
          refine SO.b9 ?_
          refine SO.b9 ?_
          refine SO.b9 ?_
          refine SO.b9 ?_
          exact hk2.fitc (m := 3) rfl (and_f b37) rfl
        refine SO.v rfl (opv_pick_f' b36 rfl rfl) ?_
        refine SO.b9 ?_
        refine SO.b9 ?_
        refine SO.b9 ?_
        refine SO.b9 ?_
        refine SO.b9 ?_
        refine SO.b9 ?_
        refine SO.b9 ?_
        refine SO.b9 ?_
        refine SO.b9 ?_
        refine SO.b9 ?_
        exact hk2.fitc (m := 5) rfl (or_f b36) rfl
      refine SO.nil ?_
      refine S.to (ρ' := [(0, bp bpm 0), (4, bp b14 0), (1, .int .i64 t21), (6, .int .i64 t34), (48, .bool ((t19 != 0) || ((t34 != 1) && (t34 != 3))))]) ⟨rfl, rfl, rfl, rfl, rfl, trivial⟩ ?_
      rcases bool_or ((t19 != 0) || ((t34 != 1) && (t34 != 3))) with b38 | b38
      · replace h := cond_t b38 h
        refine S.condT rfl b38 ?_
        refine S.exit rfl ?_
        refine S.b5 ?_
        refine S.b2 ?_
        refine S.b2 ?_
        refine s_close_desc_Desc (t := p22) ?_
        refine S.unfocusZ hb13 hx16 ?_
        refine S.b1 ?_
        refine S.drop ?_
        refine S.b6 ?_
        refine S.b3 ?_
        refine S.b2 ?_
        refine S.b4 ?_
        refine S.b6 ?_
        refine S.b5 ?_
        refine S.b6 ?_
        refine S.to ?_ (ih1 ((t21, p23.l, p23.limit, ypm_3_1, qDz_1.set (w64 (x1_1 - 1)).toNat p22), (u27_l, vypm_3_1)) h)
        exact ⟨rfl, rfl, trivial⟩
      replace h := cond_f b38 h
      refine S.condF rfl b38 ?_
      refine S.skip ?_
      refine S.seq ?_
      refine S.seq ?_
      refine S.region ?_
      refine SO.v rfl (opv_move rfl) ?_
      refine SO.v rfl (opv_eql rfl rfl) ?_
      refine SO.nil ?_
      rcases bool_or (t34 == 3) with b39 | b39
      · replace h := cond_t b39 h
        refine S.condT rfl b39 ?_
        refine S.region ?_
        refine SO.v rfl (opv_fieldAddr Try.underlying105 rfl Try.sizeOf44 rfl rfl) ?_
        refine SO.v rfl (opv_fieldAddr Try.underlying44 rfl Try.sizeOf3 rfl rfl) ?_
        refine SO.b2 ?_
        refine SO.store1 Try.sizeOf3 rfl rfl rfl rfl ?_
        refine SO.v rfl (opv_fieldAddr Try.underlying105 rfl Try.sizeOf44 rfl rfl) ?_
        refine SO.v rfl (opv_fieldAddr Try.underlying44 rfl Try.sizeOf4 rfl rfl) ?_
        refine SO.store1 Try.sizeOf4 rfl rfl rfl rfl ?_
        refine SO.nil ?_
        refine S.to (ρ' := [(0, bp bpm 0), (4, bp b14 0), (1, .int .i64 t21)]) ⟨rfl, rfl, rfl, trivial⟩ ?_
        obtain ⟨zs43, hz44, h⟩ := opt_bind h
        refine S.draw2 (Y := fun Q => ∃ (_ _ _ _ _ _ _ _ _ _ _ _ _ : Unit), Q [(0, bp bpm 0), (4, bp b14 0), (1, .int .i64 t21)] [Box b14 [bp b12 0, .int .i64 x10.Worker, .int .i64 x10.Job, .int .i64 (-1), .bool true], Box b12 [.int .i64 p22.mark, u25_l, .int .i64 p22.status, .int .i64 p22.at_], Own 114 ek_tx_Entry u25_l p22.l, Own 88 ek_api_Cell u27_l p23.l, Box bps [u27_l, .int .u32 p23.limit], ZipH rep_desc_Desc zb qDz_1 (w64 (x1_1 - 1)).toNat, Box bpm [bp bps 0, vl, va, vypm_3_1], Own 44 ek_stm_Entry vypm_3_1 ypm_3_1, Own 105 ekMd va (zb.zip el), F]) (Z := fun Q => ∀ (_ _ : Unit) (v45 : Value) (v40 : Value) (_ _ _ _ _ _ _ _ : Unit), Q [(0, bp bpm 0), (1, .int .i64 t21), (63, v45), (62, v40)] [Own 44 ek_stm_Entry v45 zs43, Box bpm [bp bps 0, vl, va, v45], Own 44 ek_stm_Entry v40 ([({ x10 with Told := -1, Spent := true } : stm_Entry)]), Box b14 [bp b12 0, .int .i64 x10.Worker, .int .i64 x10.Job, .int .i64 (-1), .bool true], Box b12 [.int .i64 p22.mark, u25_l, .int .i64 p22.status, .int .i64 p22.at_], Own 114 ek_tx_Entry u25_l p22.l, Own 88 ek_api_Cell u27_l p23.l, Box bps [u27_l, .int .u32 p23.limit], ZipH rep_desc_Desc zb qDz_1 (w64 (x1_1 - 1)).toNat, Own 105 ekMd va (zb.zip el), F]) (T := [tS 0 (bp bpm 0), tS 4 (bp b14 0), tS 1 (.int .i64 t21), tR (Box b14 [bp b12 0, .int .i64 x10.Worker, .int .i64 x10.Job, .int .i64 (-1), .bool true]), tR (Box b12 [.int .i64 p22.mark, u25_l, .int .i64 p22.status, .int .i64 p22.at_]), tR (Own 114 ek_tx_Entry u25_l p22.l), tR (Own 88 ek_api_Cell u27_l p23.l), tR (Box bps [u27_l, .int .u32 p23.limit]), tR (ZipH rep_desc_Desc zb qDz_1 (w64 (x1_1 - 1)).toNat), tR (Box bpm [bp bps 0, vl, va, vypm_3_1]), tR (Own 44 ek_stm_Entry vypm_3_1 ypm_3_1), tR (Own 105 ekMd va (zb.zip el)), tR (F), tS 55 (bp bpm 0), tS 56 (bp bpm 0), tS 57 (bp bpm 0), tS 58 (bp bpm 3), tS 59 (vypm_3_1), tS 60 (bp b14 1), tS 61 (.agg #[.int .i64 x10.Worker, .int .i64 x10.Job, .int .i64 (-1), .bool true]), ⟨Value, [62], (fun v40 => [(62, v40)]), (fun v40 => [Own 44 ek_stm_Entry v40 ([({ x10 with Told := -1, Spent := true } : stm_Entry)])]), fun _ => rfl⟩, ⟨Value, [63], (fun v45 => [(63, v45)]), (fun v45 => [Own 44 ek_stm_Entry v45 zs43]), fun _ => rfl⟩, tS 64 (bp bpm 0), tS 65 (bp bpm 3), ⟨Value, [63], (fun v45 => [(63, v45)]), (fun v45 => [Own 44 ek_stm_Entry v45 zs43, Box bpm [bp bps 0, vl, va, v45]]), fun _ => rfl⟩]) (D := [⟨[0], [], [13]⟩, ⟨[0], [], [14]⟩, ⟨[14], [], [15]⟩, ⟨[15], [], [16]⟩, ⟨[16, 9], [], [17]⟩, ⟨[1], [], [18]⟩, ⟨[18, 3], [], [19]⟩, ⟨[19], [], [20]⟩, ⟨[17, 20], [10], [21]⟩, ⟨[13], [], [22]⟩, ⟨[22], [], [23]⟩, ⟨[23], [9, 21], [24]⟩]) (ini := [0, 1, 2, 3, 4, 5, 6, 7, 8, 9, 10, 11, 12]) (fin := [0, 2, 24, 20, 3, 4, 5, 6, 7, 8, 11, 12]) (bf := [[], [], [1], [1, 2], [1, 2, 3], [], [5], [5, 6], [1, 2, 3, 4, 5, 6, 7], [0, 1, 2, 3, 4, 5, 6, 7, 8], [0, 1, 2, 3, 4, 5, 6, 7, 8, 9], [0, 1, 2, 3, 4, 5, 6, 7, 8, 9, 10]]) (by kernel_rfl) (by kernel_rfl) (fun Q => by kernel_rfl) (fun x w h1 h2 => ⟨(), (), (), (), (), (), (), (), (), (), (), (), (), EnvAll.of h1 ⟨rfl, rfl, rfl, trivial⟩, h2⟩) (fun Q => by kernel_rfl) ⟨?_, ?_, ?_, ?_, ?_, ?_, ?_, ?_, ?_, ?_, ?_, ?_, trivial⟩ ?_
        · rintro Fr _
          refine SO.v rfl (opv_move rfl) ?_
          exact SO.nilZ fun a w h1 h2 h3 h4 h5 => PZ.of h1 h3 h5 (.cons () (.cons () (.nil ⟨EnvAll.of h2 ⟨rfl, rfl, trivial⟩, h4⟩)))
        · rintro Fr _
          refine SO.v rfl (opv_move rfl) ?_
          exact SO.nilZ fun a w h1 h2 h3 h4 h5 => PZ.of h1 h3 h5 (.cons () (.cons () (.nil ⟨EnvAll.of h2 ⟨rfl, rfl, trivial⟩, h4⟩)))
        · rintro Fr _
          refine SO.v rfl (opv_nilCheck rfl) ?_
          exact SO.nilZ fun a w h1 h2 h3 h4 h5 => PZ.of h1 h3 h5 (.cons () (.cons () (.nil ⟨EnvAll.of h2 ⟨rfl, rfl, trivial⟩, h4⟩)))
        · rintro Fr _
          refine SO.v rfl (opv_fieldAddr Try.underlying67 rfl Try.sizeOf41 rfl rfl) ?_
          exact SO.nilZ fun a w h1 h2 h3 h4 h5 => PZ.of h1 h3 h5 (.cons () (.cons () (.nil ⟨EnvAll.of h2 ⟨rfl, rfl, trivial⟩, h4⟩)))
        · rintro Fr _ _
          refine SO.load1 rfl Try.isAgg41 rfl rfl ?_
          exact SO.nilZ fun a w h1 h2 h3 h4 h5 => PZ.of h1 h3 h5 (.cons () (.cons () (.cons () (.nil ⟨EnvAll.of h2 ⟨rfl, rfl, trivial⟩, h4⟩))))
        · rintro Fr _
          refine SO.v rfl (opv_fieldAddr Try.underlying105 rfl Try.sizeOf44 rfl rfl) ?_
          exact SO.nilZ fun a w h1 h2 h3 h4 h5 => PZ.of h1 h3 h5 (.cons () (.cons () (.nil ⟨EnvAll.of h2 ⟨rfl, rfl, trivial⟩, h4⟩)))
        · rintro Fr _ _
          refine SO.loadN rfl Try.isAgg44 Try.sizeOf44 rfl rfl rfl ?_
          exact SO.nilZ fun a w h1 h2 h3 h4 h5 => PZ.of h1 h3 h5 (.cons () (.cons () (.cons () (.nil ⟨EnvAll.of h2 ⟨rfl, rfl, trivial⟩, h4⟩))))
        · rintro Fr _
          refine SO.buildSlice (K := ek_stm_Entry) (xs := [({ x10 with Told := -1, Spent := true } : stm_Entry)]) (cs := [.int .i64 x10.Worker, .int .i64 x10.Job, .int .i64 (-1), .bool true]) rfl Try.underlying41 Try.sizeOf44 Try.zeroValue44 rfl rfl rfl (by kernel_rfl) rfl rfl rfl (fun v40 hr41 => ?_)
          exact SO.nilZ fun a w h1 h2 h3 h4 h5 => PZ.of h1 h3 h5 (.cons () (.cons v40 (.nil ⟨EnvAll.of h2 ⟨rfl, rfl, trivial⟩, h4⟩)))
        · rintro Fr _ v40 _
          refine SO.rd fun hr42 => ?_
          refine SO.b1 ?_
          refine SO.append rfl Try.underlying41 Try.underlying41 inf44_stm_Machine_advance rfl rfl rfl (by decide) rfl rfl rfl (Rd.head hr42) hz44 (fun v45 => ?_)
          refine SO.rd fun hr46 => ?_
          refine SO.b1 ?_
          exact SO.nilZ fun a w h1 h2 h3 h4 h5 => PZ.of h1 h3 h5 (.cons () (.cons v40 (.cons v45 (.nil ⟨EnvAll.of h2 ⟨rfl, rfl, rfl, trivial⟩, h4⟩))))
        · rintro Fr _
          refine SO.v rfl (opv_nilCheck rfl) ?_
          exact SO.nilZ fun a w h1 h2 h3 h4 h5 => PZ.of h1 h3 h5 (.cons () (.cons () (.nil ⟨EnvAll.of h2 ⟨rfl, rfl, trivial⟩, h4⟩)))
        · rintro Fr _
          refine SO.v rfl (opv_fieldAddr Try.underlying67 rfl Try.sizeOf41 rfl rfl) ?_
          exact SO.nilZ fun a w h1 h2 h3 h4 h5 => PZ.of h1 h3 h5 (.cons () (.cons () (.nil ⟨EnvAll.of h2 ⟨rfl, rfl, trivial⟩, h4⟩)))
        · rintro Fr _ _ v45
          refine SO.b1 ?_
          refine SO.rd fun hr47 => ?_
          refine SO.b1 ?_
          refine SO.store1 Try.sizeOf41 rfl rfl (Rd.one hr47) rfl ?_
          refine SO.b1 ?_
          exact SO.nilZ fun a w h1 h2 h3 h4 h5 => PZ.of h1 h3 h5 (.cons () (.cons v45 (.nil ⟨EnvAll.of h2 ⟨rfl, rfl, trivial⟩, h4⟩)))
        rintro _ _ v45 v40 _ _ _ _ _ _ _ _
        refine S.to (ρ' := [(0, bp bpm 0), (1, .int .i64 t21)]) ⟨rfl, rfl, trivial⟩ ?_
        refine S.rd fun hr48 => ?_
        refine S.b2 ?_
        refine S.rd fun hr49 => ?_
        refine S.inBlock ?_
        refine S.b8 ?_
        refine S.b6 ?_
        refine S.b6 ?_
        refine s_close_desc_Desc (t := p22) ?_
        refine S.unfocusZ hb13 hx16 ?_
        refine S.b1 ?_
        refine S.drop ?_
        refine S.b3 ?_
        refine S.drop ?_
        refine S.b6 ?_
        refine S.b5 ?_
        refine S.b2 ?_
        refine S.b4 ?_
        refine S.b6 ?_
        refine S.b6 ?_
        refine S.b6 ?_
        refine S.to ?_ (ih1 ((t21, p23.l, p23.limit, zs43, qDz_1.set (w64 (x1_1 - 1)).toNat p22), (u27_l, v45)) h)
        exact ⟨rfl, rfl, trivial⟩
      replace h := cond_f b39 h
      refine S.condF rfl b39 ?_
      refine S.skip ?_
      obtain ⟨zs53, hz54, h⟩ := opt_bind h
      refine S.draw2 (Y := fun Q => ∃ (_ _ _ _ _ _ _ _ _ _ _ _ _ : Unit), Q [(0, bp bpm 0), (4, bp b14 0), (1, .int .i64 t21)] [Box b12 [.int .i64 p22.mark, u25_l, .int .i64 p22.status, .int .i64 p22.at_], Own 114 ek_tx_Entry u25_l p22.l, Box b14 [bp b12 0, .int .i64 x10.Worker, .int .i64 x10.Job, .int .i64 x10.Told, .bool x10.Spent], Own 88 ek_api_Cell u27_l p23.l, Box bps [u27_l, .int .u32 p23.limit], ZipH rep_desc_Desc zb qDz_1 (w64 (x1_1 - 1)).toNat, Box bpm [bp bps 0, vl, va, vypm_3_1], Own 44 ek_stm_Entry vypm_3_1 ypm_3_1, Own 105 ekMd va (zb.zip el), F]) (Z := fun Q => ∀ (_ _ : Unit) (v55 : Value) (v50 : Value) (_ _ _ _ _ _ _ _ : Unit), Q [(0, bp bpm 0), (1, .int .i64 t21), (63, v55), (62, v50)] [Own 44 ek_stm_Entry v55 zs53, Box bpm [bp bps 0, vl, va, v55], Own 44 ek_stm_Entry v50 ([x10]), Box b12 [.int .i64 p22.mark, u25_l, .int .i64 p22.status, .int .i64 p22.at_], Own 114 ek_tx_Entry u25_l p22.l, Box b14 [bp b12 0, .int .i64 x10.Worker, .int .i64 x10.Job, .int .i64 x10.Told, .bool x10.Spent], Own 88 ek_api_Cell u27_l p23.l, Box bps [u27_l, .int .u32 p23.limit], ZipH rep_desc_Desc zb qDz_1 (w64 (x1_1 - 1)).toNat, Own 105 ekMd va (zb.zip el), F]) (T := [tS 0 (bp bpm 0), tS 4 (bp b14 0), tS 1 (.int .i64 t21), tR (Box b12 [.int .i64 p22.mark, u25_l, .int .i64 p22.status, .int .i64 p22.at_]), tR (Own 114 ek_tx_Entry u25_l p22.l), tR (Box b14 [bp b12 0, .int .i64 x10.Worker, .int .i64 x10.Job, .int .i64 x10.Told, .bool x10.Spent]), tR (Own 88 ek_api_Cell u27_l p23.l), tR (Box bps [u27_l, .int .u32 p23.limit]), tR (ZipH rep_desc_Desc zb qDz_1 (w64 (x1_1 - 1)).toNat), tR (Box bpm [bp bps 0, vl, va, vypm_3_1]), tR (Own 44 ek_stm_Entry vypm_3_1 ypm_3_1), tR (Own 105 ekMd va (zb.zip el)), tR (F), tS 55 (bp bpm 0), tS 56 (bp bpm 0), tS 57 (bp bpm 0), tS 58 (bp bpm 3), tS 59 (vypm_3_1), tS 60 (bp b14 1), tS 61 (.agg #[.int .i64 x10.Worker, .int .i64 x10.Job, .int .i64 x10.Told, .bool x10.Spent]), ⟨Value, [62], (fun v50 => [(62, v50)]), (fun v50 => [Own 44 ek_stm_Entry v50 ([x10])]), fun _ => rfl⟩, ⟨Value, [63], (fun v55 => [(63, v55)]), (fun v55 => [Own 44 ek_stm_Entry v55 zs53]), fun _ => rfl⟩, tS 64 (bp bpm 0), tS 65 (bp bpm 3), ⟨Value, [63], (fun v55 => [(63, v55)]), (fun v55 => [Own 44 ek_stm_Entry v55 zs53, Box bpm [bp bps 0, vl, va, v55]]), fun _ => rfl⟩]) (D := [⟨[0], [], [13]⟩, ⟨[0], [], [14]⟩, ⟨[14], [], [15]⟩, ⟨[15], [], [16]⟩, ⟨[16, 9], [], [17]⟩, ⟨[1], [], [18]⟩, ⟨[18, 5], [], [19]⟩, ⟨[19], [], [20]⟩, ⟨[17, 20], [10], [21]⟩, ⟨[13], [], [22]⟩, ⟨[22], [], [23]⟩, ⟨[23], [9, 21], [24]⟩]) (ini := [0, 1, 2, 3, 4, 5, 6, 7, 8, 9, 10, 11, 12]) (fin := [0, 2, 24, 20, 3, 4, 5, 6, 7, 8, 11, 12]) (bf := [[], [], [1], [1, 2], [1, 2, 3], [], [5], [5, 6], [1, 2, 3, 4, 5, 6, 7], [0, 1, 2, 3, 4, 5, 6, 7, 8], [0, 1, 2, 3, 4, 5, 6, 7, 8, 9], [0, 1, 2, 3, 4, 5, 6, 7, 8, 9, 10]]) (by kernel_rfl) (by kernel_rfl) (fun Q => by kernel_rfl) (fun x w h1 h2 => ⟨(), (), (), (), (), (), (), (), (), (), (), (), (), EnvAll.of h1 ⟨rfl, rfl, rfl, trivial⟩, h2⟩) (fun Q => by kernel_rfl) ⟨?_, ?_, ?_, ?_, ?_, ?_, ?_, ?_, ?_, ?_, ?_, ?_, trivial⟩ ?_
      · rintro Fr _
        refine SO.v rfl (opv_move rfl) ?_
        exact SO.nilZ fun a w h1 h2 h3 h4 h5 => PZ.of h1 h3 h5 (.cons () (.cons () (.nil ⟨EnvAll.of h2 ⟨rfl, rfl, trivial⟩, h4⟩)))
      · rintro Fr _
        refine SO.v rfl (opv_move rfl) ?_
        exact SO.nilZ fun a w h1 h2 h3 h4 h5 => PZ.of h1 h3 h5 (.cons () (.cons () (.nil ⟨EnvAll.of h2 ⟨rfl, rfl, trivial⟩, h4⟩)))
      · rintro Fr _
        refine SO.v rfl (opv_nilCheck rfl) ?_
        exact SO.nilZ fun a w h1 h2 h3 h4 h5 => PZ.of h1 h3 h5 (.cons () (.cons () (.nil ⟨EnvAll.of h2 ⟨rfl, rfl, trivial⟩, h4⟩)))
      · rintro Fr _
        refine SO.v rfl (opv_fieldAddr Try.underlying67 rfl Try.sizeOf41 rfl rfl) ?_
        exact SO.nilZ fun a w h1 h2 h3 h4 h5 => PZ.of h1 h3 h5 (.cons () (.cons () (.nil ⟨EnvAll.of h2 ⟨rfl, rfl, trivial⟩, h4⟩)))
      · rintro Fr _ _
        refine SO.load1 rfl Try.isAgg41 rfl rfl ?_
        exact SO.nilZ fun a w h1 h2 h3 h4 h5 => PZ.of h1 h3 h5 (.cons () (.cons () (.cons () (.nil ⟨EnvAll.of h2 ⟨rfl, rfl, trivial⟩, h4⟩))))
      · rintro Fr _
        refine SO.v rfl (opv_fieldAddr Try.underlying105 rfl Try.sizeOf44 rfl rfl) ?_
        exact SO.nilZ fun a w h1 h2 h3 h4 h5 => PZ.of h1 h3 h5 (.cons () (.cons () (.nil ⟨EnvAll.of h2 ⟨rfl, rfl, trivial⟩, h4⟩)))
      · rintro Fr _ _
        refine SO.loadN rfl Try.isAgg44 Try.sizeOf44 rfl rfl rfl ?_
        exact SO.nilZ fun a w h1 h2 h3 h4 h5 => PZ.of h1 h3 h5 (.cons () (.cons () (.cons () (.nil ⟨EnvAll.of h2 ⟨rfl, rfl, trivial⟩, h4⟩))))
      · rintro Fr _
        refine SO.buildSlice (K := ek_stm_Entry) (xs := [x10]) (cs := [.int .i64 x10.Worker, .int .i64 x10.Job, .int .i64 x10.Told, .bool x10.Spent]) rfl Try.underlying41 Try.sizeOf44 Try.zeroValue44 rfl rfl rfl (by kernel_rfl) rfl rfl rfl (fun v50 hr51 => ?_)
        exact SO.nilZ fun a w h1 h2 h3 h4 h5 => PZ.of h1 h3 h5 (.cons () (.cons v50 (.nil ⟨EnvAll.of h2 ⟨rfl, rfl, trivial⟩, h4⟩)))
      · rintro Fr _ v50 _
        refine SO.rd fun hr52 => ?_
        refine SO.b1 ?_
        refine SO.append rfl Try.underlying41 Try.underlying41 inf44_stm_Machine_advance rfl rfl rfl (by decide) rfl rfl rfl (Rd.head hr52) hz54 (fun v55 => ?_)
        refine SO.rd fun hr56 => ?_
        refine SO.b1 ?_
        exact SO.nilZ fun a w h1 h2 h3 h4 h5 => PZ.of h1 h3 h5 (.cons () (.cons v50 (.cons v55 (.nil ⟨EnvAll.of h2 ⟨rfl, rfl, rfl, trivial⟩, h4⟩))))
      · rintro Fr _
        refine SO.v rfl (opv_nilCheck rfl) ?_
        exact SO.nilZ fun a w h1 h2 h3 h4 h5 => PZ.of h1 h3 h5 (.cons () (.cons () (.nil ⟨EnvAll.of h2 ⟨rfl, rfl, trivial⟩, h4⟩)))
      · rintro Fr _
        refine SO.v rfl (opv_fieldAddr Try.underlying67 rfl Try.sizeOf41 rfl rfl) ?_
        exact SO.nilZ fun a w h1 h2 h3 h4 h5 => PZ.of h1 h3 h5 (.cons () (.cons () (.nil ⟨EnvAll.of h2 ⟨rfl, rfl, trivial⟩, h4⟩)))
      · rintro Fr _ _ v55
        refine SO.b1 ?_
        refine SO.rd fun hr57 => ?_
        refine SO.b1 ?_
        refine SO.store1 Try.sizeOf41 rfl rfl (Rd.one hr57) rfl ?_
        refine SO.b1 ?_
        exact SO.nilZ fun a w h1 h2 h3 h4 h5 => PZ.of h1 h3 h5 (.cons () (.cons v55 (.nil ⟨EnvAll.of h2 ⟨rfl, rfl, trivial⟩, h4⟩)))
      rintro _ _ v55 v50 _ _ _ _ _ _ _ _
      refine S.to (ρ' := [(0, bp bpm 0), (1, .int .i64 t21)]) ⟨rfl, rfl, trivial⟩ ?_
      refine S.rd fun hr58 => ?_
      refine S.b2 ?_
      refine S.rd fun hr59 => ?_
      refine S.inBlock ?_
      refine S.b8 ?_
      refine S.b5 ?_
      refine S.b5 ?_
      refine s_close_desc_Desc (t := p22) ?_
      refine S.unfocusZ hb13 hx16 ?_
      refine S.b1 ?_
      refine S.drop ?_
      refine S.b3 ?_
      refine S.drop ?_
      refine S.b6 ?_
      refine S.b5 ?_
      refine S.b2 ?_
      refine S.b4 ?_
      refine S.b6 ?_
      refine S.b6 ?_
      refine S.b6 ?_
      refine S.to ?_ (ih1 ((t21, p23.l, p23.limit, zs53, qDz_1.set (w64 (x1_1 - 1)).toNat p22), (u27_l, v55)) h)
      exact ⟨rfl, rfl, trivial⟩
    replace h := cond_f b9 h
    refine S.condF rfl b9 ?_
    refine S.exit rfl ?_
    cases h
    refine S.b6 ?_
    refine S.b6 ?_
    refine S.b6 ?_
    refine S.b6 ?_
    refine S.b6 ?_
    refine S.b6 ?_
    refine S.b6 ?_
    refine S.to ?_ (hK1 (vypm_3_1, vyps_0_1))
    exact trivial
  rintro ⟨vypm_3_e1, vyps_0_e1⟩
  refine S.rd fun hr60 => ?_
  refine S.b1 ?_
  refine S.rd fun hr61 => ?_
  cases h
  refine S.b6 ?_
  refine S.b2 ?_
  refine S.b6 ?_
  refine S.b3 ?_
  refine S.b6 ?_
  refine S.b5 ?_
  refine S.b6 ?_
  exact S.fin0 Try.func30 rfl (fun w hs hk => hR w _ _ ⟨vypm_3_e1, vyps_0_e1, rfl, rfl⟩ hs hk)
end Go.Proofs
namespace Go.Proofs
open Go.Sl Go.RowKit
/-! 25 padstone/tx.New -/
def tx_New.f (a0 : Int) : Option (tx_Tx) :=
  some (⟨a0, (some [] : Option (List (Int × api_Cell))), none, 0, false⟩ : tx_Tx)
set_option maxHeartbeats 8000000 in
set_option maxRecDepth 100000 in
theorem tx_New.ct (a0 : Int) (r0 : tx_Tx) (h : tx_New.f a0 = some r0) :
    Ct Try.prog 25 [.int .i64 a0] (fun _ => True) [] (fun u H' => ∃ b_r0 w_r0_l w_r0_out, u = bp b_r0 0 ∧ H' = [Box b_r0 [.int .i64 r0.cells, w_r0_l, w_r0_out, .int .i64 r0.lack, .bool r0.fine], MapO (aggE ek_api_Cell) w_r0_l r0.l, MapO (Value.int .u64) w_r0_out r0.out]) := by
  unfold tx_New.f at h
  refine Ct.intro (n := 7) Try.func25 rfl rfl rfl ?_
  intro R w0 F hF hR
  refine S.seq ?_
  refine S.region ?_
  refine SO.v rfl (opv_assign rfl) ?_
  refine SO.nil ?_
  refine S.seq ?_
  refine S.region ?_
  refine SO.v rfl (opv_move rfl) ?_
  refine SO.makeMapO (aggE ek_api_Cell) rfl (fun v1 => ?_)
  refine SO.oneM fun h12 => ?_
  have hB_ : ∀ (w : World) (u0_ : Value), u0_.oneCell' = true → (Instr.build 97 #[(0, .int .i64 a0), (1, u0_)]).run Try.prog w = .ok (.agg #[.int .i64 a0, u0_, .map none, .int .i64 0, .bool false]) w := (by intro w u0_ hu0_; cases u0_ <;> first | (simp [Value.oneCell'] at hu0_; done) | kernel_rfl)
  refine SO.v rfl (opv_build (v := .agg #[.int .i64 a0, v1, .map none, .int .i64 0, .bool false]) rfl (fun w => hB_ w v1 h12)) ?_
  clear hB_
  refine SO.box rfl rfl rfl (fun b3 => ?_)
  refine SO.v rfl (opv_assign rfl) ?_
  refine SO.nil ?_
  cases h
  refine S.newMapO (Value.int .u64) ?_
  refine S.b3 ?_
  refine S.b1 ?_
  refine S.b3 ?_
  refine S.b3 ?_
  exact S.ret1 Try.func25 rfl rfl (fun w hs hk => hR w _ _ ⟨b3, v1, (.map none), rfl, rfl⟩ hs hk)
end Go.Proofs
namespace Go.Proofs
open Go.Sl Go.RowKit
/-! 26 (*padstone/word.Store).Len -/
def word_Store_Len.f (a0 : word_Store) : Option (Int) :=
  some (a0.l.length : Int)
set_option maxHeartbeats 8000000 in
set_option maxRecDepth 100000 in
theorem word_Store_Len.ct (bp0 : Nat) (v0_l : Value) (a0 : word_Store) (r0 : Int) (h : word_Store_Len.f a0 = some r0) :
    Ct Try.prog 26 [bp bp0 0] (fun _ => True) [Box bp0 [v0_l, .int .u32 a0.limit], Own 88 ek_api_Cell v0_l a0.l] (fun u H' => u = .int .i64 r0 ∧ H' = [Box bp0 [v0_l, .int .u32 a0.limit], Own 88 ek_api_Cell v0_l a0.l]) := by
  unfold word_Store_Len.f at h
  refine Ct.intro (n := 8) Try.func26 rfl rfl rfl ?_
  intro R w0 F hF hR
  refine S.b1 ?_
  refine S.rd fun hr1 => ?_
  refine S.seq ?_
  refine S.region ?_
  refine SO.v rfl (opv_assign rfl) ?_
  refine SO.nil ?_
  refine S.seq ?_
  refine S.region ?_
  refine SO.v rfl (opv_move rfl) ?_
  refine SO.v rfl (opv_nilCheck rfl) ?_
  refine SO.v rfl (opv_fieldAddr Try.underlying63 rfl Try.sizeOf61 rfl rfl) ?_
  refine SO.b1 ?_
  refine SO.load1 rfl Try.isAgg61 rfl rfl ?_
  refine SO.v rfl (opv_lenR rfl Try.underlying61 hr1 rfl) ?_
  refine SO.v rfl (opv_assign rfl) ?_
  refine SO.nil ?_
  cases h
  refine S.b2 ?_
  refine S.b2 ?_
  refine S.b2 ?_
  exact S.ret1 Try.func26 rfl rfl (fun w hs hk => hR w _ _ ⟨rfl, rfl⟩ hs hk)
end Go.Proofs
set_option linter.unusedVariables false
namespace Go.Proofs
open Go.Sl Go.RowKit
theorem inf3_stm_Machine_end : Try.prog.info? 3 = some Try.t3 := by kernel_rfl
/-! 29 (*padstone/stm.Machine).end -/
def stm_Machine_end.f (sa : word_Store) (dl : List desc_Desc) (el : List stm_Entry) (mi : Int) (told : List Int) : Option ((List Int) × (Option tx_Tx) × Bool) :=
  (at_ dl mi).bind fun x5 => (desc_Desc_Mark.f x5).bind fun t9 => (at_ el (w64 (t9 - 1))).bind fun x11 => (desc_Desc_Status.f x5).bind fun t15 => bif t15 == 2 then ((word_Store_Len.f sa).bind fun t18 => (tx_New.f t18).bind fun t20 => some (told, some t20, true)) else (bif t15 == 3 then ((app told ([-1])).bind fun zs27 => some (zs27, none, false)) else ((app told ([x11.Told])).bind fun zs33 => some (zs33, none, false)))
set_option maxHeartbeats 8000000 in
set_option maxRecDepth 100000 in
theorem stm_Machine_end.ct (zb : List Nat) (bpm bps : Nat) (vl va vg vs : Value) (sa : word_Store) (dl : List desc_Desc) (el gl : List stm_Entry) (hle : zb.length = el.length) (bw : Nat) (fv jv tv tl : Value) (mi : Int) (bd : Nat) (hbd : at_ zb mi = some bd) (told : List Int) (rt : List Int) (rx : Option tx_Tx) (rk : Bool) (h : stm_Machine_end.f sa dl el mi told = some (rt, rx, rk)) :
    Ct Try.prog 29 [bp bpm 0, bp bw 0] (fun _ => True) [Box bpm [bp bps 0, vl, va, vg], Own 105 ekMd va (zb.zip el), ZipR rep_desc_Desc zb dl, Own 44 ek_stm_Entry vg gl, Box bps [vs, .int .u32 sa.limit], Own 88 ek_api_Cell vs sa.l, Box bw [fv, jv, tv, bp bd 0, tl], Own 3 (ekI .i64) tl told] (fun u H' => ∃ (wv wt : Value), u = .tuple #[] ∧ H' = [Box bpm [bp bps 0, vl, va, vg], Own 105 ekMd va (zb.zip el), ZipR rep_desc_Desc zb dl, Own 44 ek_stm_Entry vg gl, Box bps [vs, .int .u32 sa.limit], Own 88 ek_api_Cell vs sa.l, Box bw [fv, cond rk jv .nilFunc, wv, .pointer none, wt], Own 3 (ekI .i64) wt rt, TxO wv rx]) := by
  unfold stm_Machine_end.f at h
  refine Ct.intro (n := 58) Try.func29 rfl rfl rfl ?_
  intro R w0 F hF hR
  refine S.b1 ?_
  refine S.rd fun hr1 => ?_
  refine S.b3 ?_
  refine S.rd fun hr2 => ?_
  refine S.b5 ?_
  refine S.rd fun hr3 => ?_
  refine S.b7 ?_
  refine S.rd fun hr4 => ?_
  refine S.seq ?_
  obtain ⟨x5, hx6, h⟩ := opt_bind h
  refine S.b5 ?_
  refine S.focusZ hbd hx6 ?_
  refine s_open_desc_Desc (fun g7_l => ?_)
  refine S.b1 ?_
  refine S.rd fun hr8 => ?_
  obtain ⟨t9, ht10, h⟩ := opt_bind h
  obtain ⟨x11, hx12, h⟩ := opt_bind h
  obtain ⟨b13, hb14⟩ := at_len hle hx12
  refine S.draw2 (Y := fun Q => ∃ (_ _ _ _ _ _ _ _ _ _ _ _ _ : Unit), Q [(0, bp bpm 0), (1, bp bw 0)] [Own 114 ek_tx_Entry g7_l x5.l, Box bd [.int .i64 x5.mark, g7_l, .int .i64 x5.status, .int .i64 x5.at_], ZipH rep_desc_Desc zb dl mi.toNat, Own 3 (ekI .i64) tl told, Own 88 ek_api_Cell vs sa.l, Own 44 ek_stm_Entry vg gl, Own 105 ekMd va (zb.zip el), Box bpm [bp bps 0, vl, va, vg], Box bps [vs, .int .u32 sa.limit], Box bw [fv, jv, tv, bp bd 0, tl], F]) (Z := fun Q => ∀ (_ _ _ _ _ _ _ _ _ _ _ _ _ _ : Unit), Q [(0, bp bpm 0), (1, bp bw 0), (4, .int .i64 x11.Told)] [Own 114 ek_tx_Entry g7_l x5.l, Box bd [.int .i64 x5.mark, g7_l, .int .i64 x5.status, .int .i64 x5.at_], ZipH rep_desc_Desc zb dl mi.toNat, Own 3 (ekI .i64) tl told, Own 88 ek_api_Cell vs sa.l, Own 44 ek_stm_Entry vg gl, Own 105 ekMd va (zb.zip el), Box bpm [bp bps 0, vl, va, vg], Box bps [vs, .int .u32 sa.limit], Box bw [fv, jv, tv, bp bd 0, tl], F]) (T := [tS 0 (bp bpm 0), tS 1 (bp bw 0), tR (Own 114 ek_tx_Entry g7_l x5.l), tR (Box bd [.int .i64 x5.mark, g7_l, .int .i64 x5.status, .int .i64 x5.at_]), tR (ZipH rep_desc_Desc zb dl mi.toNat), tR (Own 3 (ekI .i64) tl told), tR (Own 88 ek_api_Cell vs sa.l), tR (Own 44 ek_stm_Entry vg gl), tR (Own 105 ekMd va (zb.zip el)), tR (Box bpm [bp bps 0, vl, va, vg]), tR (Box bps [vs, .int .u32 sa.limit]), tR (Box bw [fv, jv, tv, bp bd 0, tl]), tR (F), tS 6 (bp bpm 0), tS 7 (bp bpm 0), tS 8 (bp bpm 2), tS 9 (va), tS 10 (bp bw 0), tS 11 (bp bw 0), tS 12 (bp bw 3), tS 13 (bp bd 0), tS 14 (.int .i64 t9), tS 15 (.int .i64 (w64 (t9 - 1))), tS 16 (idxp va ((w64 (t9 - 1)).toNat * ekMd.sz)), tS 17 (idxp va ((w64 (t9 - 1)).toNat * ekMd.sz + 1)), tS 18 (idxp va ((w64 (t9 - 1)).toNat * ekMd.sz + 3)), tS 19 (.int .i64 x11.Told), tS 4 (.int .i64 x11.Told)]) (D := [⟨[0], [], [13]⟩, ⟨[13], [], [14]⟩, ⟨[14], [], [15]⟩, ⟨[15, 9], [], [16]⟩, ⟨[1], [], [17]⟩, ⟨[17], [], [18]⟩, ⟨[18], [], [19]⟩, ⟨[19, 11], [], [20]⟩, ⟨[20, 3, 2], [], [21]⟩, ⟨[21], [], [22]⟩, ⟨[16, 22, 8], [], [23]⟩, ⟨[23, 8], [], [24]⟩, ⟨[24, 8], [], [25]⟩, ⟨[25, 8], [], [26]⟩, ⟨[26], [], [27]⟩]) (ini := [0, 1, 2, 3, 4, 5, 6, 7, 8, 9, 10, 11, 12]) (fin := [0, 1, 27, 2, 3, 4, 5, 6, 7, 8, 9, 10, 11, 12]) (bf := [[], [0], [0, 1], [0, 1, 2], [], [4], [4, 5], [4, 5, 6], [4, 5, 6, 7], [4, 5, 6, 7, 8], [0, 1, 2, 3, 4, 5, 6, 7, 8, 9], [0, 1, 2, 3, 4, 5, 6, 7, 8, 9, 10], [0, 1, 2, 3, 4, 5, 6, 7, 8, 9, 10, 11], [0, 1, 2, 3, 4, 5, 6, 7, 8, 9, 10, 11, 12], [0, 1, 2, 3, 4, 5, 6, 7, 8, 9, 10, 11, 12, 13]]) (by kernel_rfl) (by kernel_rfl) (fun Q => by kernel_rfl) (fun x w h1 h2 => ⟨(), (), (), (), (), (), (), (), (), (), (), (), (), EnvAll.of h1 ⟨rfl, rfl, trivial⟩, h2⟩) (fun Q => by kernel_rfl) ⟨?_, ?_, ?_, ?_, ?_, ?_, ?_, ?_, ?_, ?_, ?_, ?_, ?_, ?_, ?_, trivial⟩ ?_
  · rintro Fr _
    refine SO.v rfl (opv_move rfl) ?_
    exact SO.nilZ fun a w h1 h2 h3 h4 h5 => PZ.of h1 h3 h5 (.cons () (.cons () (.nil ⟨EnvAll.of h2 ⟨rfl, rfl, trivial⟩, h4⟩)))
  · rintro Fr _
    refine SO.v rfl (opv_nilCheck rfl) ?_
    exact SO.nilZ fun a w h1 h2 h3 h4 h5 => PZ.of h1 h3 h5 (.cons () (.cons () (.nil ⟨EnvAll.of h2 ⟨rfl, rfl, trivial⟩, h4⟩)))
  · rintro Fr _
    refine SO.v rfl (opv_fieldAddr Try.underlying67 rfl Try.sizeOf65 rfl rfl) ?_
    exact SO.nilZ fun a w h1 h2 h3 h4 h5 => PZ.of h1 h3 h5 (.cons () (.cons () (.nil ⟨EnvAll.of h2 ⟨rfl, rfl, trivial⟩, h4⟩)))
  · rintro Fr _ _
    refine SO.load1 rfl Try.isAgg65 rfl rfl ?_
    exact SO.nilZ fun a w h1 h2 h3 h4 h5 => PZ.of h1 h3 h5 (.cons () (.cons () (.cons () (.nil ⟨EnvAll.of h2 ⟨rfl, rfl, trivial⟩, h4⟩))))
  · rintro Fr _
    refine SO.v rfl (opv_move rfl) ?_
    exact SO.nilZ fun a w h1 h2 h3 h4 h5 => PZ.of h1 h3 h5 (.cons () (.cons () (.nil ⟨EnvAll.of h2 ⟨rfl, rfl, trivial⟩, h4⟩)))
  · rintro Fr _
    refine SO.v rfl (opv_nilCheck rfl) ?_
    exact SO.nilZ fun a w h1 h2 h3 h4 h5 => PZ.of h1 h3 h5 (.cons () (.cons () (.nil ⟨EnvAll.of h2 ⟨rfl, rfl, trivial⟩, h4⟩)))
  · rintro Fr _
    refine SO.v rfl (opv_fieldAddr Try.underlying73 rfl Try.sizeOf71 rfl rfl) ?_
    exact SO.nilZ fun a w h1 h2 h3 h4 h5 => PZ.of h1 h3 h5 (.cons () (.cons () (.nil ⟨EnvAll.of h2 ⟨rfl, rfl, trivial⟩, h4⟩)))
  · rintro Fr _ _
    refine SO.load1 rfl Try.isAgg71 rfl rfl ?_
    exact SO.nilZ fun a w h1 h2 h3 h4 h5 => PZ.of h1 h3 h5 (.cons () (.cons () (.cons () (.nil ⟨EnvAll.of h2 ⟨rfl, rfl, trivial⟩, h4⟩))))
  · rintro Fr _ _ _
    refine SO.b1 ?_
    refine SO.b1 ?_
    refine SO.call (pre := [Box _ _, Own _ _ _ _]) rfl Try.call31 rfl rfl rfl (desc_Desc_Mark.ct bd g7_l _ _ ht10) trivial ?_
    rintro _ _ ⟨rfl, rfl⟩
    refine SO.b1 ?_
    refine SO.b1 ?_
    exact SO.nilZ fun a w h1 h2 h3 h4 h5 => PZ.of h1 h3 h5 (.cons () (.cons () (.cons () (.cons () (.nil ⟨EnvAll.of h2 ⟨rfl, rfl, trivial⟩, h4⟩)))))
  · rintro Fr _
    refine SO.v rfl (opv_sub rfl rfl) ?_
    exact SO.nilZ fun a w h1 h2 h3 h4 h5 => PZ.of h1 h3 h5 (.cons () (.cons () (.nil ⟨EnvAll.of h2 ⟨rfl, rfl, trivial⟩, h4⟩)))
  · rintro Fr _ _ _
    refine SO.v rfl (opv_idx Try.underlying65 Try.sizeOf105 hr1 rfl rfl (at_zip hb14 hx12)) ?_
    exact SO.nilZ fun a w h1 h2 h3 h4 h5 => PZ.of h1 h3 h5 (.cons () (.cons () (.cons () (.cons () (.nil ⟨EnvAll.of h2 ⟨rfl, rfl, rfl, trivial⟩, h4⟩)))))
  · rintro Fr _ _
    refine SO.v rfl (opv_fieldIdx Try.underlying105 rfl Try.sizeOf44 hr1 (at_zip hb14 hx12) rfl rfl) ?_
    exact SO.nilZ fun a w h1 h2 h3 h4 h5 => PZ.of h1 h3 h5 (.cons () (.cons () (.cons () (.nil ⟨EnvAll.of h2 ⟨rfl, rfl, trivial⟩, h4⟩))))
  · rintro Fr _ _
    refine SO.v rfl (opv_fieldIdx Try.underlying44 rfl Try.sizeOf3 hr1 (at_zip hb14 hx12) rfl rfl) ?_
    exact SO.nilZ fun a w h1 h2 h3 h4 h5 => PZ.of h1 h3 h5 (.cons () (.cons () (.cons () (.nil ⟨EnvAll.of h2 ⟨rfl, rfl, trivial⟩, h4⟩))))
  · rintro Fr _ _
    refine SO.loadI1 (j := 3) rfl Try.isAgg3 (Rd.head hr1) (at_zip hb14 hx12) rfl rfl rfl rfl ?_
    exact SO.nilZ fun a w h1 h2 h3 h4 h5 => PZ.of h1 h3 h5 (.cons () (.cons () (.cons () (.nil ⟨EnvAll.of h2 ⟨rfl, rfl, trivial⟩, h4⟩))))
  · rintro Fr _
    refine SO.v rfl (opv_assign rfl) ?_
    exact SO.nilZ fun a w h1 h2 h3 h4 h5 => PZ.of h1 h3 h5 (.cons () (.cons () (.nil ⟨EnvAll.of h2 ⟨rfl, rfl, trivial⟩, h4⟩)))
  rintro _ _ _ _ _ _ _ _ _ _ _ _ _ _
  refine S.to (ρ' := [(0, bp bpm 0), (1, bp bw 0), (4, .int .i64 x11.Told)]) ⟨rfl, rfl, rfl, trivial⟩ ?_
  refine S.seq ?_
  refine S.region ?_
  refine SO.v rfl (opv_move rfl) ?_
  refine SO.v rfl (opv_nilCheck rfl) ?_
  refine SO.v rfl (opv_fieldAddr Try.underlying73 rfl Try.sizeOf71 rfl rfl) ?_
  refine SO.b9 ?_
  refine SO.load1 rfl Try.isAgg71 rfl rfl ?_
  obtain ⟨t15, ht16, h⟩ := opt_bind h
  refine SO.b1 ?_
  refine SO.b2 ?_
  refine SO.call (pre := [Box _ _, Own _ _ _ _]) rfl Try.call45 rfl rfl rfl (desc_Desc_Status.ct bd g7_l _ _ ht16) trivial ?_
  rintro _ _ ⟨rfl, rfl⟩
  refine SO.v rfl (opv_assign rfl) ?_
  refine SO.nil ?_
  refine S.seq ?_
  refine S.region ?_
  refine SO.v rfl (opv_move rfl) ?_
  refine SO.v rfl (opv_nilCheck rfl) ?_
  refine SO.v rfl (opv_fieldAddr Try.underlying73 rfl Try.sizeOf71 rfl rfl) ?_
  refine SO.b2 ?_
  refine SO.store1 Try.sizeOf71 rfl rfl rfl rfl ?_
  refine SO.nil ?_
  refine S.to (ρ' := [(0, bp bpm 0), (1, bp bw 0), (4, .int .i64 x11.Told), (5, .int .i64 t15)]) ⟨rfl, rfl, rfl, rfl, trivial⟩ ?_
  refine S.seq ?_
  refine S.seq ?_
  refine S.region ?_
  refine SO.v rfl (opv_move rfl) ?_
  refine SO.nil ?_
  refine S.block ?_
  refine S.seq ?_
  refine S.region ?_
  refine SO.v rfl (opv_eql rfl rfl) ?_
  refine SO.v rfl (opv_assign rfl) ?_
  refine SO.nil ?_
  rcases bool_or (t15 == 2) with b17 | b17
  · replace h := cond_t b17 h
    refine S.condT rfl b17 ?_
    refine S.seq ?_
    refine S.region ?_
    refine SO.v rfl (opv_move rfl) ?_
    refine SO.v rfl (opv_move rfl) ?_
    refine SO.v rfl (opv_nilCheck rfl) ?_
    refine SO.v rfl (opv_fieldAddr Try.underlying67 rfl Try.sizeOf27 rfl rfl) ?_
    refine SO.b8 ?_
    refine SO.load1 rfl Try.isAgg27 rfl rfl ?_
    obtain ⟨t18, ht19, h⟩ := opt_bind h
    refine SO.b6 ?_
    refine SO.b9 ?_
    refine SO.call (pre := [Box _ _, Own _ _ _ _]) rfl Try.call26 rfl rfl rfl (word_Store_Len.ct bps vs _ _ ht19) trivial ?_
    rintro _ _ ⟨rfl, rfl⟩
    obtain ⟨t20, ht21, h⟩ := opt_bind h
    refine SO.call (pre := []) rfl Try.call25 rfl rfl rfl (tx_New.ct _ _ ht21) trivial ?_
    rintro _ _ ⟨b22, u23_l, u23_out, rfl, rfl⟩
    refine SO.v rfl (opv_nilCheck rfl) ?_
    refine SO.v rfl (opv_fieldAddr Try.underlying73 rfl Try.sizeOf70 rfl rfl) ?_
    refine SO.b6 ?_
    refine SO.store1 Try.sizeOf70 rfl rfl rfl rfl ?_
    refine SO.nil ?_
    refine S.to (ρ' := []) trivial ?_
    cases h
    refine S.b9 ?_
    refine S.b9 ?_
    refine S.b9 ?_
    refine s_close_desc_Desc (t := x5) ?_
    refine S.unfocusZ0 hbd hx6 ?_
    refine S.b4 ?_
    refine S.b4 ?_
    refine S.b4 ?_
    refine S.txSome ?_
    refine S.b9 ?_
    refine S.b1 ?_
    refine S.b7 ?_
    refine S.b4 ?_
    refine S.b6 ?_
    refine S.b6 ?_
    refine S.b8 ?_
    refine S.b7 ?_
    refine S.b9 ?_
    refine S.b9 ?_
    exact S.ret0 Try.func29 rfl (fun w hs hk => hR w _ _ ⟨(bp b22 0), tl, rfl, rfl⟩ hs hk)
  replace h := cond_f b17 h
  refine S.condF rfl b17 ?_
  refine S.seq ?_
  refine S.region ?_
  refine SO.v rfl (opv_eql rfl rfl) ?_
  refine SO.v rfl (opv_assign rfl) ?_
  refine SO.nil ?_
  rcases bool_or (t15 == 3) with b24 | b24
  · replace h := cond_t b24 h
    refine S.condT rfl b24 ?_
    refine S.region ?_
    refine SO.v rfl (opv_assign rfl) ?_
    refine SO.nil ?_
    refine S.to (ρ' := [(1, bp bw 0), (4, .int .i64 (-1))]) ⟨rfl, rfl, trivial⟩ ?_
    refine S.inBlock ?_
    refine S.seq ?_
    refine S.region ?_
    refine SO.v rfl (opv_move rfl) ?_
    refine SO.v rfl (opv_move rfl) ?_
    refine SO.v rfl (opv_nilCheck rfl) ?_
    refine SO.v rfl (opv_fieldAddr Try.underlying73 rfl Try.sizeOf24 rfl rfl) ?_
    refine SO.load1 rfl Try.isAgg24 rfl rfl ?_
    refine SO.v rfl (opv_move rfl) ?_
    refine SO.buildSlice (K := ekI .i64) (xs := [-1]) (cs := [.int .i64 (-1)]) rfl Try.underlying24 Try.sizeOf3 Try.zeroValue3 rfl rfl rfl (by kernel_rfl) rfl rfl rfl (fun v25 hr26 => ?_)
    obtain ⟨zs27, hz28, h⟩ := opt_bind h
    refine SO.b5 ?_
    refine SO.append rfl Try.underlying24 Try.underlying24 inf3_stm_Machine_end rfl rfl rfl (by decide) rfl rfl rfl (Rd.head hr26) hz28 (fun v29 => ?_)
    refine SO.rd fun hr30 => ?_
    refine SO.v rfl (opv_nilCheck rfl) ?_
    refine SO.v rfl (opv_fieldAddr Try.underlying73 rfl Try.sizeOf24 rfl rfl) ?_
    refine SO.b2 ?_
    refine SO.store1 Try.sizeOf24 rfl rfl (Rd.one hr30) rfl ?_
    refine SO.nil ?_
    refine S.to (ρ' := [(1, bp bw 0)]) ⟨rfl, trivial⟩ ?_
    refine S.region ?_
    refine SO.v rfl (opv_move rfl) ?_
    refine SO.v rfl (opv_move rfl) ?_
    refine SO.v rfl (opv_nilCheck rfl) ?_
    refine SO.v rfl (opv_fieldAddr Try.underlying73 rfl Try.sizeOf69 rfl rfl) ?_
    refine SO.store1 Try.sizeOf69 rfl rfl rfl rfl ?_
    refine SO.v rfl (opv_nilCheck rfl) ?_
    refine SO.v rfl (opv_fieldAddr Try.underlying73 rfl Try.sizeOf70 rfl rfl) ?_
    refine SO.store1 Try.sizeOf70 rfl rfl rfl rfl ?_
    refine SO.nil ?_
    refine S.to (ρ' := []) trivial ?_
    cases h
    refine S.b5 ?_
    refine S.b5 ?_
    refine S.b5 ?_
    refine s_close_desc_Desc (t := x5) ?_
    refine S.unfocusZ0 hbd hx6 ?_
    refine S.txNil ?_
    refine S.b4 ?_
    refine S.drop ?_
    refine S.b9 ?_
    refine S.b1 ?_
    refine S.b4 ?_
    refine S.b4 ?_
    refine S.b5 ?_
    refine S.b9 ?_
    refine S.b7 ?_
    refine S.b7 ?_
    refine S.b8 ?_
    refine S.b9 ?_
    exact S.fin0 Try.func29 rfl (fun w hs hk => hR w _ _ ⟨(.pointer none), v29, rfl, rfl⟩ hs hk)
  replace h := cond_f b24 h
  refine S.condF rfl b24 ?_
  refine S.skip ?_
  refine S.inBlock ?_
  refine S.seq ?_
  refine S.region ?_
  refine SO.v rfl (opv_move rfl) ?_
  refine SO.v rfl (opv_move rfl) ?_
  refine SO.v rfl (opv_nilCheck rfl) ?_
  refine SO.v rfl (opv_fieldAddr Try.underlying73 rfl Try.sizeOf24 rfl rfl) ?_
  refine SO.load1 rfl Try.isAgg24 rfl rfl ?_
  refine SO.v rfl (opv_move rfl) ?_
  refine SO.buildSlice (K := ekI .i64) (xs := [x11.Told]) (cs := [.int .i64 x11.Told]) rfl Try.underlying24 Try.sizeOf3 Try.zeroValue3 rfl rfl rfl (by kernel_rfl) rfl rfl rfl (fun v31 hr32 => ?_)
  obtain ⟨zs33, hz34, h⟩ := opt_bind h
  refine SO.b5 ?_
  refine SO.append rfl Try.underlying24 Try.underlying24 inf3_stm_Machine_end rfl rfl rfl (by decide) rfl rfl rfl (Rd.head hr32) hz34 (fun v35 => ?_)
  refine SO.rd fun hr36 => ?_
  refine SO.v rfl (opv_nilCheck rfl) ?_
  refine SO.v rfl (opv_fieldAddr Try.underlying73 rfl Try.sizeOf24 rfl rfl) ?_
  refine SO.b2 ?_
  refine SO.store1 Try.sizeOf24 rfl rfl (Rd.one hr36) rfl ?_
  refine SO.nil ?_
  refine S.to (ρ' := [(1, bp bw 0)]) ⟨rfl, trivial⟩ ?_
  refine S.region ?_
  refine SO.v rfl (opv_move rfl) ?_
  refine SO.v rfl (opv_move rfl) ?_
  refine SO.v rfl (opv_nilCheck rfl) ?_
  refine SO.v rfl (opv_fieldAddr Try.underlying73 rfl Try.sizeOf69 rfl rfl) ?_
  refine SO.store1 Try.sizeOf69 rfl rfl rfl rfl ?_
  refine SO.v rfl (opv_nilCheck rfl) ?_
  refine SO.v rfl (opv_fieldAddr Try.underlying73 rfl Try.sizeOf70 rfl rfl) ?_
  refine SO.store1 Try.sizeOf70 rfl rfl rfl rfl ?_
  refine SO.nil ?_
  refine S.to (ρ' := []) trivial ?_
  cases h
  refine S.b5 ?_
  refine S.b5 ?_
  refine S.b5 ?_
  refine s_close_desc_Desc (t := x5) ?_
  refine S.unfocusZ0 hbd hx6 ?_
  refine S.txNil ?_
  refine S.b4 ?_
  refine S.drop ?_
  refine S.b9 ?_
  refine S.b1 ?_
  refine S.b4 ?_
  refine S.b4 ?_
  refine S.b5 ?_
  refine S.b9 ?_
  refine S.b7 ?_
  refine S.b7 ?_
  refine S.b8 ?_
  refine S.b9 ?_
  exact S.fin0 Try.func29 rfl (fun w hs hk => hR w _ _ ⟨(.pointer none), v35, rfl, rfl⟩ hs hk)
end Go.Proofs
set_option linter.unusedVariables false
namespace Go.Proofs
open Go.Sl Go.RowKit

/-! 10 (*padstone/stm.Machine).Step -/
def stm_Step_d.f (k : Nat) (sa : word_Store) (dl : List desc_Desc) (el : List stm_Entry) (gl : List stm_Entry) (mi : Int) (told : List Int) (tx : Option tx_Tx) : Option (word_Store × (List desc_Desc) × (List stm_Entry) × (List Int) × (Option tx_Tx) × Bool × Bool) :=
  (at_ dl mi).bind fun x6 => (desc_Desc_Over.f x6).bind fun t10 => bif t10 then ((stm_Machine_end.f sa dl el mi told).bind fun (t13, t14, t15) => some (sa, dl, gl, t13, t14, t15, true)) else ((desc_Desc_Mark.f x6).bind fun t20 => (stm_Machine_advance.f k sa dl el gl t20).bind fun (t22, t23, t24) => some (t22, t23, t24, told, tx, true, false))
set_option maxHeartbeats 8000000 in
set_option maxRecDepth 100000 in
theorem stm_Step_d.ct (k : Nat) (zb : List Nat) (bpm bps : Nat) (vl va vg vs : Value) (sa : word_Store) (dl : List desc_Desc) (el gl : List stm_Entry) (hle : zb.length = el.length) (ws : List Nat) (id : Int) (bw : Nat) (hbw : at_ ws id = some bw) (hin : stm_Machine_in.f ws id = some true) (jf : FuncId) (jcs : List Value) (JX : HProp) (fv tv tl : Value) (mi : Int) (bd : Nat) (hbd : at_ zb mi = some bd) (told : List Int) (tx : Option tx_Tx) (rs : word_Store) (rd : List desc_Desc) (rg : List stm_Entry) (rt : List Int) (rx : Option tx_Tx) (rk ro : Bool) (h : stm_Step_d.f k sa dl el gl mi told tx = some (rs, rd, rg, rt, rx, rk, ro)) :
    Ct Try.prog 10 [bp bpm 0, .int .i64 id] (fun _ => True) [Box bpm [bp bps 0, vl, va, vg], Own 68 ekP vl ws, Own 105 ekMd va (zb.zip el), ZipR rep_desc_Desc zb dl, Own 44 ek_stm_Entry vg gl, Box bps [vs, .int .u32 sa.limit], Own 88 ek_api_Cell vs sa.l, Box bw [fv, .func (.func jf) #[] jcs.toArray, tv, bp bd 0, tl], Own 3 (ekI .i64) tl told, TxO tv tx, JX] (fun u H' => ∃ (wg ws' wv wt : Value), u = .bool true ∧ H' = [Box bpm [bp bps 0, vl, va, wg], Own 68 ekP vl ws, Own 105 ekMd va (zb.zip el), ZipR rep_desc_Desc zb rd, Own 44 ek_stm_Entry wg rg, Box bps [ws', .int .u32 rs.limit], Own 88 ek_api_Cell ws' rs.l, Box bw [fv, cond rk (.func (.func jf) #[] jcs.toArray) .nilFunc, wv, cond ro (.pointer none) (bp bd 0), wt], Own 3 (ekI .i64) wt rt, TxO wv rx, JX]) := by
  unfold stm_Step_d.f at h
  refine Ct.intro (n := 68) Try.func10 rfl rfl rfl ?_
  intro R w0 F hF hR
  refine S.b1 ?_
  refine S.rd fun hr1 => ?_
  refine S.b2 ?_
  refine S.rd fun hr2 => ?_
  refine S.b4 ?_
  refine S.rd fun hr3 => ?_
  refine S.b6 ?_
  refine S.rd fun hr4 => ?_
  refine S.b8 ?_
  refine S.rd fun hr5 => ?_
  refine S.seq ?_
  refine S.region ?_
  refine SO.v rfl (opv_assign rfl) ?_
  refine SO.nil ?_
  refine S.seq ?_
  refine S.seq ?_
  refine S.region ?_
  refine SO.v rfl (opv_move rfl) ?_
  refine SO.v rfl (opv_move rfl) ?_
  refine SO.b4 ?_
  refine SO.b5 ?_
  refine SO.call (pre := [Box _ _, Own _ _ _ _]) rfl Try.call23 rfl rfl rfl (stm_Machine_in.ct bpm bps vl va vg ws id _ hin) trivial ?_
  rintro _ _ ⟨rfl, rfl⟩
  refine SO.v rfl (opv_not rfl) ?_
  refine SO.nil ?_
  refine S.cond_false rfl ?_
  refine S.skip ?_
  refine S.seq ?_
  refine S.region ?_
  refine SO.v rfl (opv_move rfl) ?_
  refine SO.v rfl (opv_nilCheck rfl) ?_
  refine SO.v rfl (opv_fieldAddr Try.underlying67 rfl Try.sizeOf64 rfl rfl) ?_
  refine SO.load1 rfl Try.isAgg64 rfl rfl ?_
  refine SO.v rfl (opv_move rfl) ?_
  refine SO.v rfl (opv_idx Try.underlying64 Try.sizeOf68 hr1 rfl rfl hbw) ?_
  refine SO.loadI1 (j := 0) rfl Try.isAgg68 (Rd.tail (Rd.head hr1)) hbw rfl rfl rfl rfl ?_
  refine SO.v rfl (opv_assign rfl) ?_
  refine SO.nil ?_
  refine S.to (ρ' := [(0, bp bpm 0), (1, .int .i64 id), (4, .bool false), (5, bp bw 0)]) ⟨rfl, rfl, rfl, rfl, trivial⟩ ?_
  refine S.seq ?_
  refine S.region ?_
  refine SO.v rfl (opv_move rfl) ?_
  refine SO.b8 ?_
  refine SO.call (pre := [Box _ _]) rfl Try.call24 rfl rfl rfl (stm_next_s.ct bw fv tv (bp bd 0) tl jf jcs) trivial ?_
  rintro _ _ ⟨rfl, rfl⟩
  refine SO.v rfl (opv_assign rfl) ?_
  refine SO.nil ?_
  refine S.seq ?_
  refine S.block ?_
  refine S.seq ?_
  refine S.region ?_
  refine SO.v rfl (opv_move rfl) ?_
  refine SO.v rfl (opv_eqlFV Try.underlying69 rfl rfl) ?_
  refine SO.v rfl (opv_assign rfl) ?_
  refine SO.nil ?_
  refine S.cond_false rfl ?_
  refine S.seq ?_
  refine S.region ?_
  refine SO.v rfl (opv_move rfl) ?_
  refine SO.v rfl (opv_nilCheck rfl) ?_
  refine SO.v rfl (opv_fieldAddr Try.underlying73 rfl Try.sizeOf69 rfl rfl) ?_
  refine SO.load1 rfl Try.isAgg69 rfl rfl ?_
  refine SO.v rfl (opv_eqlFV Try.underlying69 rfl rfl) ?_
  refine SO.v rfl (opv_assign rfl) ?_
  refine SO.nil ?_
  refine S.to (ρ' := [(0, bp bpm 0), (1, .int .i64 id), (4, .bool false), (5, bp bw 0), (6, .func (.func jf) #[] jcs.toArray), (30, .bool false)]) ⟨rfl, rfl, rfl, rfl, rfl, rfl, trivial⟩ ?_
  refine S.cond_false rfl ?_
  refine S.seq ?_
  refine S.region ?_
  refine SO.v rfl (opv_move rfl) ?_
  refine SO.v rfl (opv_nilCheck rfl) ?_
  refine SO.v rfl (opv_fieldAddr Try.underlying73 rfl Try.sizeOf71 rfl rfl) ?_
  refine SO.load1 rfl Try.isAgg71 rfl rfl ?_
  refine SO.v rfl (opv_eqlP Try.underlying71 rfl) ?_
  refine SO.v rfl (opv_assign rfl) ?_
  refine SO.nil ?_
  refine S.to (ρ' := [(0, bp bpm 0), (1, .int .i64 id), (4, .bool false), (5, bp bw 0), (49, .bool false)]) ⟨rfl, rfl, rfl, rfl, rfl, trivial⟩ ?_
  refine S.cond_false rfl ?_
  refine S.seq ?_
  refine S.region ?_
  refine SO.v rfl (opv_move rfl) ?_
  refine SO.v rfl (opv_nilCheck rfl) ?_
  refine SO.v rfl (opv_fieldAddr Try.underlying73 rfl Try.sizeOf71 rfl rfl) ?_
  refine SO.load1 rfl Try.isAgg71 rfl rfl ?_
  obtain ⟨x6, hx7, h⟩ := opt_bind h
  refine SO.b7 ?_
  refine SO.focusZ hbd hx7 ?_
  refine so_open_desc_Desc (fun g8_l => ?_)
  refine SO.b1 ?_
  refine SO.rd fun hr9 => ?_
  obtain ⟨t10, ht11, h⟩ := opt_bind h
  refine SO.b1 ?_
  refine SO.call (pre := [Box _ _, Own _ _ _ _]) rfl Try.call28 rfl rfl rfl (desc_Desc_Over.ct bd g8_l _ _ ht11) trivial ?_
  rintro _ _ ⟨rfl, rfl⟩
  refine SO.v rfl (opv_assign rfl) ?_
  refine SO.nil ?_
  refine S.to (ρ' := [(0, bp bpm 0), (4, .bool false), (5, bp bw 0), (59, .bool t10)]) ⟨rfl, rfl, rfl, rfl, trivial⟩ ?_
  rcases bool_or t10 with b12 | b12
  · replace h := cond_t b12 h
    refine S.condT rfl b12 ?_
    refine S.region ?_
    refine SO.v rfl (opv_move rfl) ?_
    refine SO.v rfl (opv_move rfl) ?_
    obtain ⟨⟨t13, t14, t15⟩, ht16, h⟩ := opt_bind h
    refine SO.b2 ?_
    refine SO.b2 ?_
    refine SO.b2 ?_
    refine so_close_desc_Desc (t := x6) ?_
    refine SO.unfocusZ0 hbd hx7 ?_
    refine SO.b4 ?_
    refine SO.b2 ?_
    refine SO.b5 ?_
    refine SO.b8 ?_
    refine SO.b7 ?_
    refine SO.b5 ?_
    refine SO.b8 ?_
    refine SO.b7 ?_
    refine SO.call (pre := [Box _ _, Own _ _ _ _, ZipR _ _ _, Own _ _ _ _, Box _ _, Own _ _ _ _, Box _ _, Own _ _ _ _]) rfl Try.call29 rfl rfl rfl (stm_Machine_end.ct zb bpm bps vl va vg vs sa dl el gl hle bw fv (.func (.func jf) #[] jcs.toArray) tv tl mi bd hbd told t13 t14 t15 ht16) trivial ?_
    rintro _ _ ⟨v17, v18, rfl, rfl⟩
    refine SO.b7 ?_
    refine SO.rd fun hr19 => ?_
    refine SO.nil ?_
    refine S.inBlock ?_
    refine S.seq ?_
    refine S.region ?_
    refine SO.v rfl (opv_assign rfl) ?_
    refine SO.nil ?_
    cases h
    refine S.b10 ?_
    refine S.drop ?_
    refine S.b11 ?_
    refine S.b11 ?_
    refine S.b10 ?_
    refine S.b3 ?_
    refine S.b10 ?_
    refine S.b10 ?_
    refine S.b10 ?_
    refine S.b10 ?_
    refine S.b10 ?_
    refine S.b10 ?_
    refine S.b11 ?_
    refine S.b11 ?_
    exact S.ret1 Try.func10 rfl rfl (fun w hs hk => hR w _ _ ⟨vg, vs, v17, v18, rfl, rfl⟩ hs hk)
  replace h := cond_f b12 h
  refine S.condF rfl b12 ?_
  refine S.region ?_
  refine SO.v rfl (opv_move rfl) ?_
  refine SO.v rfl (opv_move rfl) ?_
  refine SO.v rfl (opv_nilCheck rfl) ?_
  refine SO.v rfl (opv_fieldAddr Try.underlying73 rfl Try.sizeOf71 rfl rfl) ?_
  refine SO.b3 ?_
  refine SO.load1 rfl Try.isAgg71 rfl rfl ?_
  obtain ⟨t20, ht21, h⟩ := opt_bind h
  refine SO.b2 ?_
  refine SO.b2 ?_
  refine SO.call (pre := [Box _ _, Own _ _ _ _]) rfl Try.call31 rfl rfl rfl (desc_Desc_Mark.ct bd g8_l _ _ ht21) trivial ?_
  rintro _ _ ⟨rfl, rfl⟩
  obtain ⟨⟨t22, t23, t24⟩, ht25, h⟩ := opt_bind h
  refine SO.b3 ?_
  refine SO.b2 ?_
  refine SO.b2 ?_
  refine so_close_desc_Desc (t := x6) ?_
  refine SO.unfocusZ0 hbd hx7 ?_
  refine SO.b5 ?_
  refine SO.b8 ?_
  refine SO.b7 ?_
  refine SO.b3 ?_
  refine SO.b8 ?_
  refine SO.b6 ?_
  have ct31 := stm_Machine_advance.ct k zb bpm bps vl va vg vs sa dl el gl hle t20 t22 t23 t24 ht25
  try dsimp only at ct31
  refine SO.call (pre := [Box _ _, Own _ _ _ _, ZipR _ _ _, Own _ _ _ _, Box _ _, Own _ _ _ _]) rfl Try.call30 rfl rfl rfl ct31 trivial ?_
  rintro _ _ ⟨v26, v27, rfl, rfl⟩
  refine SO.b3 ?_
  refine SO.rd fun hr28 => ?_
  refine SO.b5 ?_
  refine SO.rd fun hr29 => ?_
  refine SO.b3 ?_
  refine SO.rd fun hr30 => ?_
  refine SO.nil ?_
  refine S.to (ρ' := [(4, .bool false)]) ⟨rfl, trivial⟩ ?_
  refine S.inBlock ?_
  refine S.seq ?_
  refine S.region ?_
  refine SO.v rfl (opv_assign rfl) ?_
  refine SO.nil ?_
  cases h
  refine S.b11 ?_
  refine S.b11 ?_
  refine S.b11 ?_
  refine S.b11 ?_
  refine S.b10 ?_
  refine S.b6 ?_
  refine S.b10 ?_
  refine S.b8 ?_
  refine S.b10 ?_
  refine S.b9 ?_
  refine S.b11 ?_
  refine S.b11 ?_
  exact S.ret1 Try.func10 rfl rfl (fun w hs hk => hR w _ _ ⟨v26, v27, tv, tl, rfl, rfl⟩ hs hk)
end Go.Proofs
set_option linter.unusedVariables false
namespace Go.Proofs
open Go.Sl Go.RowKit

/-! 10 (*padstone/stm.Machine).Step -/
set_option maxHeartbeats 8000000 in
set_option maxRecDepth 100000 in
theorem stm_Step_nil.ct (zb : List Nat) (bpm bps : Nat) (vl va vg vs : Value) (sa : word_Store) (dl : List desc_Desc) (el gl : List stm_Entry) (hle : zb.length = el.length) (ws : List Nat) (id : Int) (bw : Nat) (hbw : at_ ws id = some bw) (hin : stm_Machine_in.f ws id = some true) (tv dv tl : Value) (told : List Int) (ff : FuncId) (fcs : List Value) (FR : HProp) (hcf : ∀ (us : Array Value) (w : World), (callFunc ff us).run Try.prog w = .ok (.enter ff us) w) (hct : ∀ (v : Value) (t : List Int), slices_Clone_int_int.f told = some t → Ct Try.prog ff (v :: fcs) (fun F => Rd (ekI .i64) v t F) [FR] (fun u H' => H' = [IsNil u, FR])) (hn : stm_next_n.f told = some ())  :
    Ct Try.prog 10 [bp bpm 0, .int .i64 id] (fun _ => True) [Box bpm [bp bps 0, vl, va, vg], Own 68 ekP vl ws, Own 105 ekMd va (zb.zip el), ZipR rep_desc_Desc zb dl, Own 44 ek_stm_Entry vg gl, Box bps [vs, .int .u32 sa.limit], Own 88 ek_api_Cell vs sa.l, Box bw [.func (.func ff) #[] fcs.toArray, .nilFunc, tv, dv, tl], Own 3 (ekI .i64) tl told, FR] (fun u H' => u = .bool false ∧ H' = [Box bpm [bp bps 0, vl, va, vg], Own 68 ekP vl ws, Own 105 ekMd va (zb.zip el), ZipR rep_desc_Desc zb dl, Own 44 ek_stm_Entry vg gl, Box bps [vs, .int .u32 sa.limit], Own 88 ek_api_Cell vs sa.l, Box bw [.func (.func ff) #[] fcs.toArray, .nilFunc, tv, dv, tl], Own 3 (ekI .i64) tl told, FR]) := by
  refine Ct.intro (n := 68) Try.func10 rfl rfl rfl ?_
  intro R w0 F hF hR
  refine S.b1 ?_
  refine S.rd fun hr1 => ?_
  refine S.b2 ?_
  refine S.rd fun hr2 => ?_
  refine S.b4 ?_
  refine S.rd fun hr3 => ?_
  refine S.b6 ?_
  refine S.rd fun hr4 => ?_
  refine S.b8 ?_
  refine S.rd fun hr5 => ?_
  refine S.seq ?_
  refine S.region ?_
  refine SO.v rfl (opv_assign rfl) ?_
  refine SO.nil ?_
  refine S.seq ?_
  refine S.seq ?_
  refine S.region ?_
  refine SO.v rfl (opv_move rfl) ?_
  refine SO.v rfl (opv_move rfl) ?_
  refine SO.b4 ?_
  refine SO.b5 ?_
  refine SO.call (pre := [Box _ _, Own _ _ _ _]) rfl Try.call23 rfl rfl rfl (stm_Machine_in.ct bpm bps vl va vg ws id _ hin) trivial ?_
  rintro _ _ ⟨rfl, rfl⟩
  refine SO.v rfl (opv_not rfl) ?_
  refine SO.nil ?_
  refine S.cond_false rfl ?_
  refine S.skip ?_
  refine S.seq ?_
  refine S.region ?_
  refine SO.v rfl (opv_move rfl) ?_
  refine SO.v rfl (opv_nilCheck rfl) ?_
  refine SO.v rfl (opv_fieldAddr Try.underlying67 rfl Try.sizeOf64 rfl rfl) ?_
  refine SO.load1 rfl Try.isAgg64 rfl rfl ?_
  refine SO.v rfl (opv_move rfl) ?_
  refine SO.v rfl (opv_idx Try.underlying64 Try.sizeOf68 hr1 rfl rfl hbw) ?_
  refine SO.loadI1 (j := 0) rfl Try.isAgg68 (Rd.tail (Rd.head hr1)) hbw rfl rfl rfl rfl ?_
  refine SO.v rfl (opv_assign rfl) ?_
  refine SO.nil ?_
  refine S.to (ρ' := [(0, bp bpm 0), (1, .int .i64 id), (4, .bool false), (5, bp bw 0)]) ⟨rfl, rfl, rfl, rfl, trivial⟩ ?_
  refine S.seq ?_
  refine S.region ?_
  refine SO.v rfl (opv_move rfl) ?_
  refine SO.b9 ?_
  refine SO.b3 ?_
  refine SO.b9 ?_
  refine SO.call (pre := [Box _ _, Own _ _ _ _, FR]) rfl Try.call24 rfl rfl rfl (stm_next_n.ct bw tv dv tl told ff fcs FR (IsNil) hcf hct hn) trivial ?_
  rintro u6 _ rfl
  refine SO.b2 ?_
  refine SO.openNil fun hu7 => ?_
  subst hu7
  refine SO.b1 ?_
  refine SO.rd fun hr8 => ?_
  refine SO.v rfl (opv_assign rfl) ?_
  refine SO.nil ?_
  refine S.seq ?_
  refine S.block ?_
  refine S.seq ?_
  refine S.region ?_
  refine SO.v rfl (opv_move rfl) ?_
  refine SO.v rfl (opv_eqlFF Try.underlying69 rfl rfl) ?_
  refine SO.v rfl (opv_assign rfl) ?_
  refine SO.nil ?_
  refine S.cond_true rfl ?_
  refine S.seq ?_
  refine S.region ?_
  refine SO.v rfl (opv_assign rfl) ?_
  refine SO.nil ?_
  refine S.to (ρ' := [(4, .bool false)]) ⟨rfl, trivial⟩ ?_
  refine S.b10 ?_
  refine S.b3 ?_
  refine S.b2 ?_
  refine S.b3 ?_
  refine S.b6 ?_
  refine S.b10 ?_
  refine S.b8 ?_
  refine S.b10 ?_
  refine S.b10 ?_
  refine S.b10 ?_
  refine S.b10 ?_
  exact S.ret1 Try.func10 rfl rfl (fun w hs hk => hR w _ _ ⟨rfl, rfl⟩ hs hk)
end Go.Proofs
set_option linter.unusedVariables false
namespace Go.Proofs
open Go.Sl Go.RowKit

/-! 10 (*padstone/stm.Machine).Step -/
set_option maxHeartbeats 8000000 in
set_option maxRecDepth 100000 in
theorem stm_Step_out.ct (zb : List Nat) (bpm bps : Nat) (vl va vg vs : Value) (sa : word_Store) (dl : List desc_Desc) (el gl : List stm_Entry) (hle : zb.length = el.length) (ws : List Nat) (id : Int) (hin : stm_Machine_in.f ws id = some false)  :
    Ct Try.prog 10 [bp bpm 0, .int .i64 id] (fun _ => True) [Box bpm [bp bps 0, vl, va, vg], Own 68 ekP vl ws, Own 105 ekMd va (zb.zip el), ZipR rep_desc_Desc zb dl, Own 44 ek_stm_Entry vg gl, Box bps [vs, .int .u32 sa.limit], Own 88 ek_api_Cell vs sa.l] (fun u H' => u = .bool false ∧ H' = [Box bpm [bp bps 0, vl, va, vg], Own 68 ekP vl ws, Own 105 ekMd va (zb.zip el), ZipR rep_desc_Desc zb dl, Own 44 ek_stm_Entry vg gl, Box bps [vs, .int .u32 sa.limit], Own 88 ek_api_Cell vs sa.l]) := by
  refine Ct.intro (n := 68) Try.func10 rfl rfl rfl ?_
  intro R w0 F hF hR
  refine S.b1 ?_
  refine S.rd fun hr1 => ?_
  refine S.b2 ?_
  refine S.rd fun hr2 => ?_
  refine S.b4 ?_
  refine S.rd fun hr3 => ?_
  refine S.b6 ?_
  refine S.rd fun hr4 => ?_
  refine S.seq ?_
  refine S.region ?_
  refine SO.v rfl (opv_assign rfl) ?_
  refine SO.nil ?_
  refine S.seq ?_
  refine S.seq ?_
  refine S.region ?_
  refine SO.v rfl (opv_move rfl) ?_
  refine SO.v rfl (opv_move rfl) ?_
  refine SO.b3 ?_
  refine SO.b4 ?_
  refine SO.call (pre := [Box _ _, Own _ _ _ _]) rfl Try.call23 rfl rfl rfl (stm_Machine_in.ct bpm bps vl va vg ws id _ hin) trivial ?_
  rintro _ _ ⟨rfl, rfl⟩
  refine SO.v rfl (opv_not rfl) ?_
  refine SO.nil ?_
  refine S.cond_true rfl ?_
  refine S.seq ?_
  refine S.region ?_
  refine SO.v rfl (opv_assign rfl) ?_
  refine SO.nil ?_
  refine S.b7 ?_
  refine S.b3 ?_
  refine S.b7 ?_
  refine S.b5 ?_
  refine S.b7 ?_
  refine S.b7 ?_
  refine S.b7 ?_
  refine S.b7 ?_
  exact S.ret1 Try.func10 rfl rfl (fun w hs hk => hR w _ _ ⟨rfl, rfl⟩ hs hk)
end Go.Proofs
namespace Go.Proofs
open Go.Sl Go.RowKit
/-! 49 slices.Clone[[]padstone/tx.Entry,padstone/tx.Entry] -/
def slices_Clone_tx_Entry_tx_Entry.f (a0 : List tx_Entry) : Option (List tx_Entry) := app [] a0
set_option maxRecDepth 100000 in
theorem slices_Clone_tx_Entry_tx_Entry.ct (v0 : Value) (a0 : List tx_Entry) (r0 : List tx_Entry) (h : slices_Clone_tx_Entry_tx_Entry.f a0 = some r0) :
    Ct Try.prog 49 [v0] (fun F => Rd ek_tx_Entry v0 a0 F) [] (fun u H' => ∃ v_r0, u = v_r0 ∧ H' = [Own 114 ek_tx_Entry v_r0 r0]) := by
  unfold slices_Clone_tx_Entry_tx_Entry.f at h
  refine Ct.intro (n := 8) Try.func49 rfl rfl rfl ?_
  intro R w0 F hF0 hR
  obtain ⟨a, cap, ⟨hv, hcap⟩, hel⟩ := hF0
  have hF0 : Rd ek_tx_Entry v0 a0 F := ⟨a, cap, ⟨hv, hcap⟩, hel⟩
  have hv2 : ev (num 0 [v0]) (.tmp 0) = some (.slice a a0.length cap) := by rw [← hv]; rfl
  refine S.seq ?_
  refine S.region ?_
  refine SO.v rfl (opv_assign rfl) ?_
  refine SO.nil ?_
  refine S.seq ?_
  refine S.seq ?_
  refine S.region ?_
  refine SO.v rfl (opv_move rfl) ?_
  rw [show v0 = .slice a a0.length cap from hv]
  refine SO.v rfl (opv_eqlSN Try.underlying102 rfl) ?_
  rw [← hv]
  refine SO.nil ?_
  cases a with
  | none =>
    have h0 : a0 = [] := by
      cases a0 with
      | nil => rfl
      | cons x l => obtain ⟨b, off, hh, _⟩ := hel 0 x rfl; cases hh
    subst h0
    have hr : r0 = [] := by injection h with h; exact h.symm
    subst hr
    refine S.cond_true rfl ?_
    refine S.seq ?_
    refine S.region ?_
    refine SO.v rfl (opv_assign rfl) ?_
    refine SO.nil ?_
    refine S.newOwn 114 ek_tx_Entry ?_
    exact S.ret1 Try.func49 rfl rfl (fun w hs hk => hR w _ _ ⟨_, rfl, rfl⟩ hs hk)
  | some ad =>
    refine S.cond_false rfl ?_
    refine S.skip ?_
    refine S.seq ?_
    refine S.region ?_
    refine SO.buildSlice0 ek_tx_Entry rfl Try.underlying102 Try.sizeOf114 (fun v1 hr1 => ?_)
    refine SO.v rfl (opv_move rfl) ?_
    refine SO.append rfl Try.underlying102 Try.underlying102 inf114 rfl rfl rfl (by decide) rfl rfl rfl (Rd.head hF0) h (fun v2 => ?_)
    refine SO.v rfl (opv_assign rfl) ?_
    refine SO.nil ?_
    exact S.ret1 Try.func49 rfl rfl (fun w hs hk => hR w _ _ ⟨_, rfl, rfl⟩ hs hk)
end Go.Proofs
namespace Go.Proofs
open Go.Sl Go.RowKit
/-! 42 padstone/desc.New -/
def desc_New.f (a0 : Int) (a1 : List tx_Entry) : Option (desc_Desc) :=
  (slices_Clone_tx_Entry_tx_Entry.f a1).bind fun t1 => some (⟨a0, t1, 0, 0⟩ : desc_Desc)
set_option maxHeartbeats 8000000 in
set_option maxRecDepth 100000 in
theorem desc_New.ct (v1 : Value) (a0 : Int) (a1 : List tx_Entry) (r0 : desc_Desc) (h : desc_New.f a0 a1 = some r0) :
    Ct Try.prog 42 [.int .i64 a0, v1] (fun F => Rd ek_tx_Entry v1 a1 F) [] (fun u H' => ∃ b_r0 w_r0_l, u = bp b_r0 0 ∧ H' = [Box b_r0 [.int .i64 r0.mark, w_r0_l, .int .i64 r0.status, .int .i64 r0.at_], Own 114 ek_tx_Entry w_r0_l r0.l]) := by
  unfold desc_New.f at h
  refine Ct.intro (n := 10) Try.func42 rfl rfl rfl ?_
  intro R w0 F hF hR
  have hF1 := hF
  refine S.seq ?_
  refine S.region ?_
  refine SO.v rfl (opv_assign rfl) ?_
  refine SO.nil ?_
  refine S.seq ?_
  refine S.region ?_
  refine SO.v rfl (opv_move rfl) ?_
  refine SO.v rfl (opv_move rfl) ?_
  obtain ⟨t1, ht2, h⟩ := opt_bind h
  refine SO.call (pre := []) rfl Try.call49 rfl rfl rfl (slices_Clone_tx_Entry_tx_Entry.ct v1 _ _ ht2) (Rd.head hF1) ?_
  rintro v3 _ ⟨_, rfl, rfl⟩
  refine SO.rd fun hr4 => ?_
  have hB_ : ∀ (w : World) (u0_ : Value), u0_.oneCell' = true → (Instr.build 108 #[(0, .int .i64 a0), (1, u0_)]).run Try.prog w = .ok (.agg #[.int .i64 a0, u0_, .int .i64 0, .int .i64 0]) w := (by intro w u0_ hu0_; cases u0_ <;> first | (simp [Value.oneCell'] at hu0_; done) | kernel_rfl)
  refine SO.v rfl (opv_build (v := .agg #[.int .i64 a0, v3, .int .i64 0, .int .i64 0]) rfl (fun w => hB_ w v3 (Rd.one hr4))) ?_
  clear hB_
  refine SO.box rfl rfl rfl (fun b5 => ?_)
  refine SO.v rfl (opv_assign rfl) ?_
  refine SO.nil ?_
  refine S.to (ρ' := [(4, bp b5 0)]) ⟨rfl, trivial⟩ ?_
  cases h
  refine S.b2 ?_
  refine S.b2 ?_
  refine S.b2 ?_
  exact S.ret1 Try.func42 rfl rfl (fun w hs hk => hR w _ _ ⟨b5, v3, rfl, rfl⟩ hs hk)
end Go.Proofs
set_option linter.unusedVariables false
namespace Go.Proofs
open Go.Sl Go.RowKit

/-! 41 (*padstone/stm.Machine).run$1 -/
set_option maxHeartbeats 8000000 in
set_option maxRecDepth 100000 in
theorem stm_run_1.ct (V : VW Try.prog) (b5 b6 bw : Nat) (x0 a : Int) (fv tv dv tl : Value) (jf : FuncId) (jcs : List Value) (JX FR : HProp) (rdJ : HProp → Prop) (hmono : ∀ (l : List HProp) (F : HProp), rdJ F → rdJ (stars (l ++ [F]))) (hcj : ∀ (us : Array Value) (w : World), (callFunc jf us).run Try.prog w = .ok (.enter jf us) w) (s s' : V.S) (hj : Ct Try.prog jf (V.val :: jcs) rdJ [JX, FR, V.rep s] (fun u H' => u = .int .i64 a ∧ H' = [JX, FR, V.rep s']))  :
    Ct Try.prog 41 [V.val, bp b5 0, bp b6 0] (rdJ) [Box b5 [bp bw 0], Box b6 [.int .i64 x0], Box bw [fv, .func (.func jf) #[] jcs.toArray, tv, dv, tl], JX, FR, V.rep s] (fun u H' => u = .tuple #[] ∧ H' = [Box b5 [bp bw 0], Box b6 [.int .i64 a], Box bw [fv, .func (.func jf) #[] jcs.toArray, tv, dv, tl], JX, FR, V.rep s']) := by
  refine Ct.intro (n := 10) Try.func41 rfl rfl rfl ?_
  intro R w0 F hF hR
  refine S.region ?_
  refine SO.load1 rfl Try.isAgg68 rfl rfl ?_
  refine SO.v rfl (opv_nilCheck rfl) ?_
  refine SO.v rfl (opv_fieldAddr Try.underlying73 rfl Try.sizeOf69 rfl rfl) ?_
  refine SO.b2 ?_
  refine SO.load1 rfl Try.isAgg69 rfl rfl ?_
  refine SO.v rfl (opv_move rfl) ?_
  refine SO.b5 ?_
  refine SO.b5 ?_
  refine SO.b5 ?_
  refine SO.call (pre := [JX, FR, V.rep s]) rfl hcj rfl rfl rfl hj (hmono [_, _, _] F hF) ?_
  rintro _ _ ⟨rfl, rfl⟩
  refine SO.b5 ?_
  refine SO.store1 Try.sizeOf3 rfl rfl rfl rfl ?_
  refine SO.nil ?_
  refine S.to (ρ' := []) trivial ?_
  refine S.b6 ?_
  refine S.b4 ?_
  refine S.b4 ?_
  refine S.b4 ?_
  refine S.b5 ?_
  refine S.b5 ?_
  refine S.b6 ?_
  exact S.fin0 Try.func41 rfl (fun w hs hk => hR w _ _ ⟨rfl, rfl⟩ hs hk)
end Go.Proofs
namespace Go.Proofs
open Go.Sl Go.RowKit
/-! 44 (*padstone/tx.Tx).Learn -/
def tx_Tx_Learn.f (a0 : tx_Tx) (a1 : Int) (a2 : api_Cell) : Option (tx_Tx) :=
  (bif decide (0 ≤ a1) then (some (decide (a1 < a0.cells))) else (some false)).bind fun c3 => bif c3 then ((mputO a0.l a1 a2).bind fun zs6 => some ({ a0 with l := zs6 } : tx_Tx)) else (some a0)
set_option maxHeartbeats 8000000 in
set_option maxRecDepth 100000 in
theorem tx_Tx_Learn.ct (bp0 : Nat) (v0_l : Value) (v0_out : Value) (a0 : tx_Tx) (a1 : Int) (a2 : api_Cell) (rp0 : tx_Tx) (h : tx_Tx_Learn.f a0 a1 a2 = some rp0) :
    Ct Try.prog 44 [bp bp0 0, .int .i64 a1, .agg #[.int .u64 a2.Value, .int .u32 a2.Version, .int .i64 a2.Mark]] (fun _ => True) [Box bp0 [.int .i64 a0.cells, v0_l, v0_out, .int .i64 a0.lack, .bool a0.fine], MapO (aggE ek_api_Cell) v0_l a0.l, MapO (Value.int .u64) v0_out a0.out] (fun u H' => ∃ rw0_l rw0_out, u = .tuple #[] ∧ H' = [Box bp0 [.int .i64 rp0.cells, rw0_l, rw0_out, .int .i64 rp0.lack, .bool rp0.fine], MapO (aggE ek_api_Cell) rw0_l rp0.l, MapO (Value.int .u64) rw0_out rp0.out]) := by
  unfold tx_Tx_Learn.f at h
  refine Ct.intro (n := 22) Try.func44 rfl rfl rfl ?_
  intro R w0 F hF hR
  refine S.seq ?_
  refine S.region ?_
  refine SO.box rfl rfl rfl (fun b1 => ?_)
  refine SO.nil ?_
  refine S.seq ?_
  refine S.region ?_
  refine SO.v rfl (opv_move rfl) ?_
  refine SO.v rfl (opv_geq rfl rfl) ?_
  refine SO.v rfl (opv_move rfl) ?_
  obtain ⟨c3, hc4, hgk⟩ := opt_bind h
  refine SO.cut 7 15 (.bool c3) [Box b1 [.int .u64 a2.Value, .int .u32 a2.Version, .int .i64 a2.Mark], Box bp0 [.int .i64 a0.cells, v0_l, v0_out, .int .i64 a0.lack, .bool a0.fine], MapO (aggE ek_api_Cell) v0_l a0.l, MapO (Value.int .u64) v0_out a0.out, F] (fun l2 hk2 => ?_) ?_
  · clear hgk
    replace h := hc4
    rcases bool_or (decide (0 ≤ a1)) with b2 | b2
    · replace h := cond_t b2 h
      refine SO.takeT rfl rfl rfl b2 ?_
      refine SO.v rfl (opv_move rfl) ?_
      refine SO.takeT rfl rfl rfl b2 ?_
      refine SO.v rfl (opv_move rfl) ?_
      refine SO.takeT rfl rfl rfl b2 ?_
      refine SO.v rfl (opv_nilCheck rfl) ?_
      refine SO.takeT rfl rfl rfl b2 ?_
      refine SO.v rfl (opv_fieldAddr Try.underlying97 rfl Try.sizeOf3 rfl rfl) ?_
      refine SO.takeT rfl rfl rfl b2 ?_
      refine SO.b1 ?_
      refine SO.load1 rfl Try.isAgg3 rfl rfl ?_
      refine SO.takeT rfl rfl rfl b2 ?_
      refine SO.v rfl (opv_lss rfl rfl) ?_
      cases h
      refine SO.v rfl (opv_pick_t' b2 rfl rfl) ?_
      refine SO.b4 ?_
      refine SO.b4 ?_
      refine SO.b4 ?_
      refine SO.b3 ?_
      refine SO.b4 ?_
      exact hk2.fitc (m := 7) rfl (rfl) rfl
    replace h := cond_f b2 h
    refine SO.passF rfl rfl rfl b2 rfl rfl ?_
    refine SO.passF rfl rfl rfl b2 rfl rfl ?_
    refine SO.passF rfl rfl rfl b2 rfl rfl ?_
    refine SO.passF rfl rfl rfl b2 rfl rfl ?_
    refine SO.passF rfl rfl rfl b2 rfl rfl ?_
    refine SO.passF rfl rfl rfl b2 rfl rfl ?_
    cases h
    refine SO.v rfl (opv_pick_f' b2 rfl rfl) ?_
    refine SO.b4 ?_
    refine SO.b4 ?_
    refine SO.b4 ?_
    refine SO.b4 ?_
    refine SO.b4 ?_
    exact hk2.fitc (m := 7) rfl (rfl) rfl
  clear hc4
  replace h := hgk
  refine SO.nil ?_
  rcases bool_or c3 with b5 | b5
  · replace h := cond_t b5 h
    refine S.condT rfl b5 ?_
    obtain ⟨zs6, hz7, h⟩ := opt_bind h
    refine S.draw2 (Y := fun Q => ∃ (_ _ _ _ _ _ _ _ : Unit), Q [(0, bp bp0 0), (1, .int .i64 a1), (5, bp b1 0)] [Box b1 [.int .u64 a2.Value, .int .u32 a2.Version, .int .i64 a2.Mark], Box bp0 [.int .i64 a0.cells, v0_l, v0_out, .int .i64 a0.lack, .bool a0.fine], MapO (aggE ek_api_Cell) v0_l a0.l, MapO (Value.int .u64) v0_out a0.out, F]) (Z := fun Q => ∀ (_ _ _ _ _ : Unit), Q [] [Box b1 [.int .u64 a2.Value, .int .u32 a2.Version, .int .i64 a2.Mark], Box bp0 [.int .i64 a0.cells, v0_l, v0_out, .int .i64 a0.lack, .bool a0.fine], MapO (aggE ek_api_Cell) v0_l zs6, MapO (Value.int .u64) v0_out a0.out, F]) (T := [tS 0 (bp bp0 0), tS 1 (.int .i64 a1), tS 5 (bp b1 0), tR (Box b1 [.int .u64 a2.Value, .int .u32 a2.Version, .int .i64 a2.Mark]), tR (Box bp0 [.int .i64 a0.cells, v0_l, v0_out, .int .i64 a0.lack, .bool a0.fine]), tR (MapO (aggE ek_api_Cell) v0_l a0.l), tR (MapO (Value.int .u64) v0_out a0.out), tR (F), tS 16 (bp bp0 0), tS 17 (bp bp0 0), tS 18 (bp bp0 1), tS 19 (v0_l), tS 20 (.int .i64 a1), tS 21 (.agg #[.int .u64 a2.Value, .int .u32 a2.Version, .int .i64 a2.Mark]), tR (MapO (aggE ek_api_Cell) v0_l zs6)]) (D := [⟨[0], [], [8]⟩, ⟨[8], [], [9]⟩, ⟨[9], [], [10]⟩, ⟨[10, 4], [], [11]⟩, ⟨[1], [], [12]⟩, ⟨[2, 3], [], [13]⟩, ⟨[11, 12, 13], [5], [14]⟩]) (ini := [0, 1, 2, 3, 4, 5, 6, 7]) (fin := [3, 4, 14, 6, 7]) (bf := [[], [0], [0, 1], [0, 1, 2], [], [], [0, 1, 2, 3, 4, 5]]) (by kernel_rfl) (by kernel_rfl) (fun Q => by kernel_rfl) (fun x w h1 h2 => ⟨(), (), (), (), (), (), (), (), EnvAll.of h1 ⟨rfl, rfl, rfl, trivial⟩, h2⟩) (fun Q => by kernel_rfl) ⟨?_, ?_, ?_, ?_, ?_, ?_, ?_, trivial⟩ ?_
    · rintro Fr _
      refine SO.v rfl (opv_move rfl) ?_
      exact SO.nilZ fun a w h1 h2 h3 h4 h5 => PZ.of h1 h3 h5 (.cons () (.cons () (.nil ⟨EnvAll.of h2 ⟨rfl, rfl, trivial⟩, h4⟩)))
    · rintro Fr _
      refine SO.v rfl (opv_nilCheck rfl) ?_
      exact SO.nilZ fun a w h1 h2 h3 h4 h5 => PZ.of h1 h3 h5 (.cons () (.cons () (.nil ⟨EnvAll.of h2 ⟨rfl, rfl, trivial⟩, h4⟩)))
    · rintro Fr _
      refine SO.v rfl (opv_fieldAddr Try.underlying97 rfl Try.sizeOf94 rfl rfl) ?_
      exact SO.nilZ fun a w h1 h2 h3 h4 h5 => PZ.of h1 h3 h5 (.cons () (.cons () (.nil ⟨EnvAll.of h2 ⟨rfl, rfl, trivial⟩, h4⟩)))
    · rintro Fr _ _
      refine SO.load1 rfl Try.isAgg94 rfl rfl ?_
      exact SO.nilZ fun a w h1 h2 h3 h4 h5 => PZ.of h1 h3 h5 (.cons () (.cons () (.cons () (.nil ⟨EnvAll.of h2 ⟨rfl, rfl, trivial⟩, h4⟩))))
    · rintro Fr _
      refine SO.v rfl (opv_move rfl) ?_
      exact SO.nilZ fun a w h1 h2 h3 h4 h5 => PZ.of h1 h3 h5 (.cons () (.cons () (.nil ⟨EnvAll.of h2 ⟨rfl, rfl, trivial⟩, h4⟩)))
    · rintro Fr _ _
      refine SO.loadN rfl Try.isAgg88 Try.sizeOf88 rfl rfl rfl ?_
      exact SO.nilZ fun a w h1 h2 h3 h4 h5 => PZ.of h1 h3 h5 (.cons () (.cons () (.cons () (.nil ⟨EnvAll.of h2 ⟨rfl, rfl, trivial⟩, h4⟩))))
    · rintro Fr _ _ _ _
      refine SO.mapUpdateO (enc := (aggE ek_api_Cell)) (u := a2) Try.underlying94 Try.underlying3 rfl rfl rfl hz7 ?_
      exact SO.nilZ fun a w h1 h2 h3 h4 h5 => PZ.of h1 h3 h5 (.cons () (.cons () (.cons () (.cons () (.nil ⟨EnvAll.of h2 ⟨rfl, rfl, rfl, trivial⟩, h4⟩)))))
    rintro _ _ _ _ _
    refine S.to (ρ' := []) trivial ?_
    cases h
    refine S.drop ?_
    refine S.b3 ?_
    refine S.b3 ?_
    refine S.b3 ?_
    refine S.b3 ?_
    exact S.fin0 Try.func44 rfl (fun w hs hk => hR w _ _ ⟨v0_l, v0_out, rfl, rfl⟩ hs hk)
  replace h := cond_f b5 h
  refine S.condF rfl b5 ?_
  refine S.skip ?_
  cases h
  refine S.drop ?_
  refine S.b3 ?_
  refine S.b3 ?_
  refine S.b3 ?_
  refine S.b3 ?_
  exact S.fin0 Try.func44 rfl (fun w hs hk => hR w _ _ ⟨v0_l, v0_out, rfl, rfl⟩ hs hk)
end Go.Proofs
namespace Go.Proofs
open Go.Sl Go.RowKit
/-! 107 (padstone/tx.seen).has -/
def tx_seen_has.f (a0 : tx_Tx) (a1 : Int) : Option ((Bool × tx_Tx)) :=
  (bif decide (a1 < 0) then (some true) else (some (decide (a0.cells ≤ a1)))).bind fun c3 => bif c3 then (some (false, a0)) else ((lkO a0.l a1 (⟨0, 0, 0⟩ : api_Cell)).bind fun (x6, c8) => (bif !c8 then (some (a0.lack == (-1))) else (some false)).bind fun c11 => bif c11 then (some (true, ({ a0 with lack := a1 } : tx_Tx))) else (some (true, a0)))
set_option maxHeartbeats 8000000 in
set_option maxRecDepth 100000 in
theorem tx_seen_has.ct (bp0 : Nat) (v0_l : Value) (v0_out : Value) (a0 : tx_Tx) (a1 : Int) (r0 : Bool) (rp0 : tx_Tx) (h : tx_seen_has.f a0 a1 = some (r0, rp0)) :
    Ct Try.prog 107 [.agg #[bp bp0 0], .int .i64 a1] (fun _ => True) [Box bp0 [.int .i64 a0.cells, v0_l, v0_out, .int .i64 a0.lack, .bool a0.fine], MapO (aggE ek_api_Cell) v0_l a0.l, MapO (Value.int .u64) v0_out a0.out] (fun u H' => ∃ rw0_l rw0_out, u = .bool r0 ∧ H' = [Box bp0 [.int .i64 rp0.cells, rw0_l, rw0_out, .int .i64 rp0.lack, .bool rp0.fine], MapO (aggE ek_api_Cell) rw0_l rp0.l, MapO (Value.int .u64) rw0_out rp0.out]) := by
  unfold tx_seen_has.f at h
  refine Ct.intro (n := 42) Try.func107 rfl rfl rfl ?_
  intro R w0 F hF hR
  refine S.seq ?_
  refine S.region ?_
  refine SO.box rfl rfl rfl (fun b1 => ?_)
  refine SO.v rfl (opv_assign rfl) ?_
  refine SO.nil ?_
  refine S.seq ?_
  refine S.region ?_
  refine SO.v rfl (opv_fieldAddr Try.underlying111 rfl Try.sizeOf70 rfl rfl) ?_
  refine SO.load1 rfl Try.isAgg70 rfl rfl ?_
  refine SO.v rfl (opv_assign rfl) ?_
  refine SO.nil ?_
  refine S.seq ?_
  refine S.seq ?_
  refine S.region ?_
  refine SO.v rfl (opv_move rfl) ?_
  refine SO.v rfl (opv_lss rfl rfl) ?_
  refine SO.v rfl (opv_move rfl) ?_
  obtain ⟨c3, hc4, hgk⟩ := opt_bind h
  refine SO.cut 7 19 (.bool c3) [Box b1 [bp bp0 0], Box bp0 [.int .i64 a0.cells, v0_l, v0_out, .int .i64 a0.lack, .bool a0.fine], MapO (aggE ek_api_Cell) v0_l a0.l, MapO (Value.int .u64) v0_out a0.out, F] (fun l2 hk2 => ?_) ?_
  · clear hgk
    replace h := hc4
    rcases bool_or (decide (a1 < 0)) with b2 | b2
    · replace h := cond_t b2 h
      refine SO.passF rfl rfl rfl b2 rfl rfl ?_
      refine SO.passF rfl rfl rfl b2 rfl rfl ?_
      refine SO.passF rfl rfl rfl b2 rfl rfl ?_
      refine SO.passF rfl rfl rfl b2 rfl rfl ?_
      refine SO.passF rfl rfl rfl b2 rfl rfl ?_
      refine SO.passF rfl rfl rfl b2 rfl rfl ?_
      cases h
      refine SO.v rfl (opv_pick_t' b2 rfl rfl) ?_
      refine SO.b4 ?_
      refine SO.b4 ?_
      refine SO.b4 ?_
      refine SO.b4 ?_
      refine SO.b4 ?_
      exact hk2.fitc (m := 7) rfl (rfl) rfl
    replace h := cond_f b2 h
    refine SO.takeT rfl rfl rfl b2 ?_
    refine SO.v rfl (opv_move rfl) ?_
    refine SO.takeT rfl rfl rfl b2 ?_
    refine SO.v rfl (opv_move rfl) ?_
    refine SO.takeT rfl rfl rfl b2 ?_
    refine SO.v rfl (opv_nilCheck rfl) ?_
    refine SO.takeT rfl rfl rfl b2 ?_
    refine SO.v rfl (opv_fieldAddr Try.underlying97 rfl Try.sizeOf3 rfl rfl) ?_
    refine SO.takeT rfl rfl rfl b2 ?_
    refine SO.b1 ?_
    refine SO.load1 rfl Try.isAgg3 rfl rfl ?_
    refine SO.takeT rfl rfl rfl b2 ?_
    refine SO.v rfl (opv_geq rfl rfl) ?_
    cases h
    refine SO.v rfl (opv_pick_f' b2 rfl rfl) ?_
    refine SO.b4 ?_
    refine SO.b4 ?_
    refine SO.b4 ?_
    refine SO.b3 ?_
    refine SO.b4 ?_
    exact hk2.fitc (m := 7) rfl (rfl) rfl
  clear hc4
  replace h := hgk
  refine SO.nil ?_
  refine S.to (ρ' := [(1, .int .i64 a1), (4, .bool false), (5, bp bp0 0), (19, .bool c3)]) ⟨rfl, rfl, rfl, rfl, trivial⟩ ?_
  rcases bool_or c3 with b5 | b5
  · replace h := cond_t b5 h
    refine S.condT rfl b5 ?_
    refine S.seq ?_
    refine S.region ?_
    refine SO.v rfl (opv_assign rfl) ?_
    refine SO.nil ?_
    cases h
    refine S.drop ?_
    refine S.b3 ?_
    refine S.b3 ?_
    refine S.b3 ?_
    refine S.b3 ?_
    exact S.ret1 Try.func107 rfl rfl (fun w hs hk => hR w _ _ ⟨v0_l, v0_out, rfl, rfl⟩ hs hk)
  replace h := cond_f b5 h
  refine S.condF rfl b5 ?_
  refine S.skip ?_
  refine S.seq ?_
  refine S.seq ?_
  refine S.region ?_
  refine SO.v rfl (opv_move rfl) ?_
  refine SO.v rfl (opv_nilCheck rfl) ?_
  refine SO.v rfl (opv_fieldAddr Try.underlying97 rfl Try.sizeOf94 rfl rfl) ?_
  refine SO.b1 ?_
  refine SO.load1 rfl Try.isAgg94 rfl rfl ?_
  refine SO.v rfl (opv_move rfl) ?_
  obtain ⟨⟨x6, c8⟩, hlk7, h⟩ := opt_bind h
  refine SO.b2 ?_
  refine SO.lookupOkO (enc := (aggE ek_api_Cell)) (zx := (⟨0, 0, 0⟩ : api_Cell)) rfl Try.underlying94 Try.underlying3 Try.zeroValue88 rfl rfl hlk7 ?_
  refine SO.v rfl (opv_move rfl) ?_
  refine SO.v rfl (opv_extract rfl rfl) ?_
  refine SO.v rfl (opv_extract rfl rfl) ?_
  refine SO.alloc rfl Try.zeroValue88 rfl (fun b9 => ?_)
  refine SO.storeN Try.sizeOf88 rfl rfl rfl rfl rfl rfl ?_
  refine SO.v rfl (opv_assign rfl) ?_
  refine SO.nil ?_
  refine S.to (ρ' := [(1, .int .i64 a1), (4, .bool false), (5, bp bp0 0), (7, .bool c8)]) ⟨rfl, rfl, rfl, rfl, trivial⟩ ?_
  refine S.seq ?_
  refine S.region ?_
  refine SO.v rfl (opv_move rfl) ?_
  refine SO.v rfl (opv_not rfl) ?_
  refine SO.v rfl (opv_move rfl) ?_
  obtain ⟨c11, hc12, hgk⟩ := opt_bind h
  refine SO.cut 6 37 (.bool c11) [Box b9 [.int .u64 x6.Value, .int .u32 x6.Version, .int .i64 x6.Mark], MapO (aggE ek_api_Cell) v0_l a0.l, Box bp0 [.int .i64 a0.cells, v0_l, v0_out, .int .i64 a0.lack, .bool a0.fine], Box b1 [bp bp0 0], MapO (Value.int .u64) v0_out a0.out, F] (fun l2 hk2 => ?_) ?_
  · clear hgk
    replace h := hc12
    rcases bool_or (!c8) with b10 | b10
    · replace h := cond_t b10 h
      refine SO.takeT rfl rfl rfl b10 ?_
      refine SO.v rfl (opv_move rfl) ?_
      refine SO.takeT rfl rfl rfl b10 ?_
      refine SO.v rfl (opv_nilCheck rfl) ?_
      refine SO.takeT rfl rfl rfl b10 ?_
      refine SO.v rfl (opv_fieldAddr Try.underlying97 rfl Try.sizeOf3 rfl rfl) ?_
      refine SO.takeT rfl rfl rfl b10 ?_
      refine SO.b2 ?_
      refine SO.load1 rfl Try.isAgg3 rfl rfl ?_
      refine SO.takeT rfl rfl rfl b10 ?_
      refine SO.v rfl (opv_eql rfl rfl) ?_
      cases h
      refine SO.v rfl (opv_pick_t' b10 rfl rfl) ?_
      refine SO.b5 ?_
      refine SO.b5 ?_
      refine SO.b5 ?_
      refine SO.b3 ?_
      refine SO.b5 ?_
      refine SO.b5 ?_
      exact hk2.fitc (m := 6) rfl (rfl) rfl
    replace h := cond_f b10 h
    refine SO.passF rfl rfl rfl b10 rfl rfl ?_
    refine SO.passF rfl rfl rfl b10 rfl rfl ?_
    refine SO.passF rfl rfl rfl b10 rfl rfl ?_
    refine SO.passF rfl rfl rfl b10 rfl rfl ?_
    refine SO.passF rfl rfl rfl b10 rfl rfl ?_
    cases h
    refine SO.v rfl (opv_pick_f' b10 rfl rfl) ?_
    refine SO.b5 ?_
    refine SO.b5 ?_
    refine SO.b5 ?_
    refine SO.b5 ?_
    refine SO.b5 ?_
    refine SO.b5 ?_
    exact hk2.fitc (m := 6) rfl (rfl) rfl
  clear hc12
  replace h := hgk
  refine SO.nil ?_
  rcases bool_or c11 with b13 | b13
  · replace h := cond_t b13 h
    refine S.condT rfl b13 ?_
    refine S.region ?_
    refine SO.v rfl (opv_move rfl) ?_
    refine SO.v rfl (opv_move rfl) ?_
    refine SO.v rfl (opv_nilCheck rfl) ?_
    refine SO.v rfl (opv_fieldAddr Try.underlying97 rfl Try.sizeOf3 rfl rfl) ?_
    refine SO.b2 ?_
    refine SO.store1 Try.sizeOf3 rfl rfl rfl rfl ?_
    refine SO.nil ?_
    refine S.to (ρ' := [(4, .bool false)]) ⟨rfl, trivial⟩ ?_
    refine S.seq ?_
    refine S.region ?_
    refine SO.v rfl (opv_assign rfl) ?_
    refine SO.nil ?_
    cases h
    refine S.b1 ?_
    refine S.drop ?_
    refine S.b2 ?_
    refine S.drop ?_
    refine S.b3 ?_
    refine S.b3 ?_
    refine S.b3 ?_
    refine S.b3 ?_
    exact S.ret1 Try.func107 rfl rfl (fun w hs hk => hR w _ _ ⟨v0_l, v0_out, rfl, rfl⟩ hs hk)
  replace h := cond_f b13 h
  refine S.condF rfl b13 ?_
  refine S.skip ?_
  refine S.seq ?_
  refine S.region ?_
  refine SO.v rfl (opv_assign rfl) ?_
  refine SO.nil ?_
  refine S.to (ρ' := [(4, .bool true)]) ⟨rfl, trivial⟩ ?_
  cases h
  refine S.drop ?_
  refine S.b2 ?_
  refine S.drop ?_
  refine S.b3 ?_
  refine S.b3 ?_
  refine S.b2 ?_
  refine S.b3 ?_
  exact S.ret1 Try.func107 rfl rfl (fun w hs hk => hR w _ _ ⟨v0_l, v0_out, rfl, rfl⟩ hs hk)
end Go.Proofs
namespace Go.Proofs
open Go.Sl Go.RowKit
/-! 105 (padstone/tx.seen).Read -/
def tx_seen_Read.f (a0 : tx_Tx) (a1 : Int) : Option ((Int × tx_Tx)) :=
  (tx_seen_has.f a0 a1).bind fun (t2, p3) => bif !t2 then (some (0, p3)) else ((lkO p3.out a1 (0 : Int)).bind fun (x7, c9) => bif c9 then (some (x7, p3)) else ((lk1 p3.l a1 (⟨0, 0, 0⟩ : api_Cell)).bind fun x11 => some (x11.Value, p3)))
set_option maxHeartbeats 8000000 in
set_option maxRecDepth 100000 in
theorem tx_seen_Read.ct (bp0 : Nat) (v0_l : Value) (v0_out : Value) (a0 : tx_Tx) (a1 : Int) (r0 : Int) (rp0 : tx_Tx) (h : tx_seen_Read.f a0 a1 = some (r0, rp0)) :
    Ct Try.prog 105 [.agg #[bp bp0 0], .int .i64 a1] (fun _ => True) [Box bp0 [.int .i64 a0.cells, v0_l, v0_out, .int .i64 a0.lack, .bool a0.fine], MapO (aggE ek_api_Cell) v0_l a0.l, MapO (Value.int .u64) v0_out a0.out] (fun u H' => ∃ rw0_l rw0_out, u = .int .u64 r0 ∧ H' = [Box bp0 [.int .i64 rp0.cells, rw0_l, rw0_out, .int .i64 rp0.lack, .bool rp0.fine], MapO (aggE ek_api_Cell) rw0_l rp0.l, MapO (Value.int .u64) rw0_out rp0.out]) := by
  unfold tx_seen_Read.f at h
  refine Ct.intro (n := 31) Try.func105 rfl rfl rfl ?_
  intro R w0 F hF hR
  refine S.seq ?_
  refine S.region ?_
  refine SO.box rfl rfl rfl (fun b1 => ?_)
  refine SO.v rfl (opv_assign rfl) ?_
  refine SO.nil ?_
  refine S.seq ?_
  refine S.seq ?_
  refine S.region ?_
  refine SO.loadN rfl Try.isAgg111 Try.sizeOf111 rfl rfl rfl ?_
  refine SO.v rfl (opv_move rfl) ?_
  obtain ⟨⟨t2, p3⟩, ht4, h⟩ := opt_bind h
  refine SO.b3 ?_
  refine SO.b3 ?_
  refine SO.b3 ?_
  refine SO.call (pre := [Box _ _, MapO _ _ _, MapO _ _ _]) rfl Try.call107 rfl rfl rfl (tx_seen_has.ct bp0 v0_l v0_out _ _ _ _ ht4) trivial ?_
  rintro _ _ ⟨u5_l, u5_out, rfl, rfl⟩
  refine SO.v rfl (opv_not rfl) ?_
  refine SO.nil ?_
  rcases bool_or (!t2) with b6 | b6
  · replace h := cond_t b6 h
    refine S.condT rfl b6 ?_
    refine S.seq ?_
    refine S.region ?_
    refine SO.v rfl (opv_assign rfl) ?_
    refine SO.nil ?_
    refine S.to (ρ' := [(4, .int .u64 0)]) ⟨rfl, trivial⟩ ?_
    cases h
    refine S.b3 ?_
    refine S.drop ?_
    refine S.b3 ?_
    refine S.b3 ?_
    refine S.b3 ?_
    refine S.b3 ?_
    exact S.ret1 Try.func105 rfl rfl (fun w hs hk => hR w _ _ ⟨u5_l, u5_out, rfl, rfl⟩ hs hk)
  replace h := cond_f b6 h
  refine S.condF rfl b6 ?_
  refine S.skip ?_
  refine S.seq ?_
  refine S.seq ?_
  refine S.region ?_
  refine SO.v rfl (opv_fieldAddr Try.underlying111 rfl Try.sizeOf70 rfl rfl) ?_
  refine SO.b3 ?_
  refine SO.load1 rfl Try.isAgg70 rfl rfl ?_
  refine SO.v rfl (opv_nilCheck rfl) ?_
  refine SO.v rfl (opv_fieldAddr Try.underlying97 rfl Try.sizeOf95 rfl rfl) ?_
  refine SO.b1 ?_
  refine SO.load1 rfl Try.isAgg95 rfl rfl ?_
  refine SO.v rfl (opv_move rfl) ?_
  obtain ⟨⟨x7, c9⟩, hlk8, h⟩ := opt_bind h
  refine SO.b3 ?_
  refine SO.lookupOkO (enc := (Value.int .u64)) (zx := (0 : Int)) rfl Try.underlying95 Try.underlying3 Try.zeroValue46 rfl rfl hlk8 ?_
  refine SO.v rfl (opv_move rfl) ?_
  refine SO.v rfl (opv_extract rfl rfl) ?_
  refine SO.v rfl (opv_extract rfl rfl) ?_
  refine SO.v rfl (opv_assign rfl) ?_
  refine SO.v rfl (opv_assign rfl) ?_
  refine SO.nil ?_
  refine S.to (ρ' := [(1, .int .i64 a1), (2, bp b1 0), (4, .int .u64 0), (5, .int .u64 x7), (6, .bool c9)]) ⟨rfl, rfl, rfl, rfl, rfl, trivial⟩ ?_
  refine S.seq ?_
  refine S.region ?_
  refine SO.v rfl (opv_move rfl) ?_
  refine SO.nil ?_
  rcases bool_or c9 with b10 | b10
  · replace h := cond_t b10 h
    refine S.condT rfl b10 ?_
    refine S.seq ?_
    refine S.region ?_
    refine SO.v rfl (opv_move rfl) ?_
    refine SO.v rfl (opv_assign rfl) ?_
    refine SO.nil ?_
    cases h
    refine S.b2 ?_
    refine S.drop ?_
    refine S.b3 ?_
    refine S.b1 ?_
    refine S.b3 ?_
    refine S.b3 ?_
    exact S.ret1 Try.func105 rfl rfl (fun w hs hk => hR w _ _ ⟨u5_l, u5_out, rfl, rfl⟩ hs hk)
  replace h := cond_f b10 h
  refine S.condF rfl b10 ?_
  refine S.skip ?_
  refine S.seq ?_
  refine S.region ?_
  refine SO.v rfl (opv_fieldAddr Try.underlying111 rfl Try.sizeOf70 rfl rfl) ?_
  refine SO.b2 ?_
  refine SO.load1 rfl Try.isAgg70 rfl rfl ?_
  refine SO.v rfl (opv_nilCheck rfl) ?_
  refine SO.v rfl (opv_fieldAddr Try.underlying97 rfl Try.sizeOf94 rfl rfl) ?_
  refine SO.b2 ?_
  refine SO.load1 rfl Try.isAgg94 rfl rfl ?_
  refine SO.v rfl (opv_move rfl) ?_
  obtain ⟨x11, hlk12, h⟩ := opt_bind h
  refine SO.b3 ?_
  refine SO.lookup1O (enc := (aggE ek_api_Cell)) (zx := (⟨0, 0, 0⟩ : api_Cell)) rfl Try.underlying94 Try.underlying3 Try.zeroValue88 rfl rfl hlk12 ?_
  refine SO.v rfl (opv_field Try.underlying88 rfl Try.isAgg46 rfl rfl) ?_
  refine SO.v rfl (opv_assign rfl) ?_
  refine SO.nil ?_
  refine S.to (ρ' := [(4, .int .u64 x11.Value)]) ⟨rfl, trivial⟩ ?_
  cases h
  refine S.b2 ?_
  refine S.drop ?_
  refine S.b3 ?_
  refine S.b3 ?_
  refine S.b2 ?_
  refine S.b3 ?_
  exact S.ret1 Try.func105 rfl rfl (fun w hs hk => hR w _ _ ⟨u5_l, u5_out, rfl, rfl⟩ hs hk)
end Go.Proofs
namespace Go.Proofs
open Go.Sl Go.RowKit
/-! 106 (padstone/tx.seen).Write -/
def tx_seen_Write.f (a0 : tx_Tx) (a1 : Int) (a2 : Int) : Option (tx_Tx) :=
  (tx_seen_has.f a0 a1).bind fun (t2, p3) => bif t2 then ((mputO p3.out a1 a2).bind fun zs7 => some ({ p3 with out := zs7 } : tx_Tx)) else (some p3)
set_option maxHeartbeats 8000000 in
set_option maxRecDepth 100000 in
theorem tx_seen_Write.ct (bp0 : Nat) (v0_l : Value) (v0_out : Value) (a0 : tx_Tx) (a1 : Int) (a2 : Int) (rp0 : tx_Tx) (h : tx_seen_Write.f a0 a1 a2 = some rp0) :
    Ct Try.prog 106 [.agg #[bp bp0 0], .int .i64 a1, .int .u64 a2] (fun _ => True) [Box bp0 [.int .i64 a0.cells, v0_l, v0_out, .int .i64 a0.lack, .bool a0.fine], MapO (aggE ek_api_Cell) v0_l a0.l, MapO (Value.int .u64) v0_out a0.out] (fun u H' => ∃ rw0_l rw0_out, u = .tuple #[] ∧ H' = [Box bp0 [.int .i64 rp0.cells, rw0_l, rw0_out, .int .i64 rp0.lack, .bool rp0.fine], MapO (aggE ek_api_Cell) rw0_l rp0.l, MapO (Value.int .u64) rw0_out rp0.out]) := by
  unfold tx_seen_Write.f at h
  refine Ct.intro (n := 16) Try.func106 rfl rfl rfl ?_
  intro R w0 F hF hR
  refine S.seq ?_
  refine S.region ?_
  refine SO.box rfl rfl rfl (fun b1 => ?_)
  refine SO.nil ?_
  refine S.seq ?_
  refine S.region ?_
  refine SO.loadN rfl Try.isAgg111 Try.sizeOf111 rfl rfl rfl ?_
  refine SO.v rfl (opv_move rfl) ?_
  obtain ⟨⟨t2, p3⟩, ht4, h⟩ := opt_bind h
  refine SO.b3 ?_
  refine SO.b3 ?_
  refine SO.b3 ?_
  refine SO.call (pre := [Box _ _, MapO _ _ _, MapO _ _ _]) rfl Try.call107 rfl rfl rfl (tx_seen_has.ct bp0 v0_l v0_out _ _ _ _ ht4) trivial ?_
  rintro _ _ ⟨u5_l, u5_out, rfl, rfl⟩
  refine SO.nil ?_
  rcases bool_or t2 with b6 | b6
  · replace h := cond_t b6 h
    refine S.condT rfl b6 ?_
    refine S.region ?_
    refine SO.v rfl (opv_fieldAddr Try.underlying111 rfl Try.sizeOf70 rfl rfl) ?_
    refine SO.b3 ?_
    refine SO.load1 rfl Try.isAgg70 rfl rfl ?_
    refine SO.v rfl (opv_nilCheck rfl) ?_
    refine SO.v rfl (opv_fieldAddr Try.underlying97 rfl Try.sizeOf95 rfl rfl) ?_
    refine SO.b1 ?_
    refine SO.load1 rfl Try.isAgg95 rfl rfl ?_
    refine SO.v rfl (opv_move rfl) ?_
    refine SO.v rfl (opv_move rfl) ?_
    obtain ⟨zs7, hz8, h⟩ := opt_bind h
    refine SO.b3 ?_
    refine SO.mapUpdateO (enc := (Value.int .u64)) (u := a2) Try.underlying95 Try.underlying3 rfl rfl rfl hz8 ?_
    refine SO.nil ?_
    refine S.to (ρ' := []) trivial ?_
    cases h
    refine S.b2 ?_
    refine S.drop ?_
    refine S.b3 ?_
    refine S.b1 ?_
    refine S.b3 ?_
    refine S.b3 ?_
    exact S.fin0 Try.func106 rfl (fun w hs hk => hR w _ _ ⟨u5_l, u5_out, rfl, rfl⟩ hs hk)
  replace h := cond_f b6 h
  refine S.condF rfl b6 ?_
  refine S.skip ?_
  cases h
  refine S.b3 ?_
  refine S.drop ?_
  refine S.b3 ?_
  refine S.b3 ?_
  refine S.b3 ?_
  refine S.b3 ?_
  exact S.fin0 Try.func106 rfl (fun w hs hk => hR w _ _ ⟨u5_l, u5_out, rfl, rfl⟩ hs hk)
end Go.Proofs
set_option linter.unusedVariables false
namespace Go.Proofs
open Go.Sl Go.RowKit
/-- A record, as it lies. -/
def TxR (b : Nat) (t : tx_Tx) : HProp := fun m => ∃ vl vo, stars [Box b [.int .i64 t.cells, vl, vo, .int .i64 t.lack, .bool t.fine], MapO (aggE ek_api_Cell) vl t.l, MapO (Value.int .u64) vo t.out] m
theorem TxR.open {w : World} {b : Nat} {t : tx_Tx} {H : List HProp} (h : Sat w (TxR b t :: H)) : ∃ vl vo, Sat w (Box b [.int .i64 t.cells, vl, vo, .int .i64 t.lack, .bool t.fine] :: MapO (aggE ek_api_Cell) vl t.l :: MapO (Value.int .u64) vo t.out :: H) := by
  obtain ⟨m1, m2, d, s1, s2, ⟨vl, vo, hx⟩, hr⟩ := h
  refine ⟨vl, vo, ?_⟩
  have : stars ([Box b [.int .i64 t.cells, vl, vo, .int .i64 t.lack, .bool t.fine], MapO (aggE ek_api_Cell) vl t.l, MapO (Value.int .u64) vo t.out] ++ H) (hp w) := (stars_append _ _ _).2 ⟨m1, m2, d, s1, s2, hx, hr⟩
  exact this
theorem TxR.close {w : World} {b : Nat} {t : tx_Tx} {vl vo : Value} {H : List HProp} (h : Sat w (Box b [.int .i64 t.cells, vl, vo, .int .i64 t.lack, .bool t.fine] :: MapO (aggE ek_api_Cell) vl t.l :: MapO (Value.int .u64) vo t.out :: H)) : Sat w (TxR b t :: H) := by
  have h2 : stars ([Box b [.int .i64 t.cells, vl, vo, .int .i64 t.lack, .bool t.fine], MapO (aggE ek_api_Cell) vl t.l, MapO (Value.int .u64) vo t.out] ++ H) (hp w) := h
  obtain ⟨m1, m2, d, s1, s2, hx, hr⟩ := (stars_append _ _ _).1 h2
  exact ⟨m1, m2, d, s1, s2, ⟨vl, vo, hx⟩, hr⟩
/-- A record that runs: its cells are few, what it writes are cells, each once. -/
def TxOk (t : tx_Tx) : Prop := (0 ≤ t.cells ∧ t.cells ≤ 1024) ∧ ∃ o, t.out = some o ∧ (o.map (·.1)).Nodup ∧ ∀ p ∈ o, 0 ≤ p.1 ∧ p.1 < t.cells
def hasS (t : tx_Tx) (i : Int) : Bool × tx_Tx := if i < 0 ∨ t.cells ≤ i then (false, t) else (true, if mfindO t.l i = none ∧ t.lack = -1 then { t with lack := i } else t)
theorem has_ok (t : tx_Tx) (i : Int) : tx_seen_has.f t i = some (hasS t i) := by
  unfold tx_seen_has.f hasS lkO
  by_cases h1 : i < 0
  · simp [h1]
  · by_cases h2 : t.cells ≤ i
    · simp [h1, h2]
    · cases h3 : mfindO t.l i with
      | none =>
        by_cases h4 : t.lack = -1
        · simp [h1, h2, h4]
        · have : (t.lack == -1) = false := beq_false_of_ne h4
          simp [h1, h2, h4, this]
      | some c => simp [h1, h2]
def rdS (t : tx_Tx) (i : Int) : Int × tx_Tx :=
  if (hasS t i).1 = true then (match mfindO (hasS t i).2.out i with | some x => (x, (hasS t i).2) | none => (((mfindO (hasS t i).2.l i).getD ⟨0, 0, 0⟩).Value, (hasS t i).2)) else (0, (hasS t i).2)
theorem rdS_ok (t : tx_Tx) (i : Int) : tx_seen_Read.f t i = some (rdS t i) := by
  unfold tx_seen_Read.f rdS
  rw [has_ok, Option.bind_some]
  cases h : hasS t i with
  | mk c t1 =>
    cases c with
    | false => simp
    | true =>
      simp only [lkO, lk1, Bool.not_true, cond_false, Option.bind_some, if_true]
      cases h2 : mfindO t1.out i <;> simp
theorem hasS_out (t : tx_Tx) (i : Int) : (hasS t i).2.out = t.out ∧ (hasS t i).2.cells = t.cells ∧ (hasS t i).2.l = t.l ∧ (hasS t i).2.fine = t.fine := by
  unfold hasS; split
  · exact ⟨rfl, rfl, rfl, rfl⟩
  · dsimp only; split <;> exact ⟨rfl, rfl, rfl, rfl⟩
theorem TxOk.has {t : tx_Tx} (h : TxOk t) (i : Int) : TxOk (hasS t i).2 := by
  obtain ⟨e1, e2, _, _⟩ := hasS_out t i
  unfold TxOk; rw [e1, e2]; exact h
theorem rdS_2 (t : tx_Tx) (i : Int) : (rdS t i).2 = (hasS t i).2 := by
  unfold rdS; split
  · split <;> rfl
  · rfl
def wrS (t : tx_Tx) (i x : Int) : tx_Tx := if (hasS t i).1 = true then { (hasS t i).2 with out := (hasS t i).2.out.map fun o => mset o i x } else (hasS t i).2
theorem mset_keys {α : Type} : ∀ (l : List (Int × α)) (k : Int) (v : α), (mset l k v).map (·.1) = if k ∈ l.map (·.1) then l.map (·.1) else l.map (·.1) ++ [k]
  | [], k, v => by simp [mset]
  | p :: l, k, v => by
    unfold mset
    by_cases h : p.1 = k
    · rw [if_pos h, if_pos (by simp [h])]; simp [h]
    · rw [if_neg h, List.map_cons, mset_keys l k v]
      have : (k ∈ (p :: l).map (·.1)) ↔ k ∈ l.map (·.1) := by
        rw [List.map_cons, List.mem_cons]
        exact ⟨fun z => z.resolve_left (fun e => h e.symm), .inr⟩
      by_cases c : k ∈ l.map (·.1)
      · rw [if_pos c, if_pos (this.2 c)]; rfl
      · rw [if_neg c, if_neg (fun z => c (this.1 z))]; rfl
theorem wfI64 {i : Int} (h1 : -9223372036854775808 ≤ i) (h2 : i ≤ 9223372036854775807) : (Lit.int .i64 i).wf = true := by
  simp [Lit.wf, IntKind.min, IntKind.max, IntKind.signed, IntKind.bits]; omega
theorem nodup_few : ∀ (n : Nat) (l : List Int), l.Nodup → (∀ x ∈ l, 0 ≤ x ∧ x < n) → l.length ≤ n
  | 0, l, _, h => by
    cases l with
    | nil => simp
    | cons a l => have := h a List.mem_cons_self; omega
  | n + 1, l, hn, h => by
    have h1 := nodup_few n (l.erase (n : Int)) (hn.erase _) (fun x hx => by
      have hm := (List.Nodup.mem_erase_iff hn).1 hx
      have := h x hm.2
      have := hm.1
      omega)
    have h2 : l.length ≤ (l.erase (n : Int)).length + 1 := by
      rw [List.length_erase]; split <;> omega
    omega
theorem wrS_ok {t : tx_Tx} (h : TxOk t) (i x : Int) : tx_seen_Write.f t i x = some (wrS t i x) := by
  unfold tx_seen_Write.f wrS
  rw [has_ok, Option.bind_some]
  have hh : (hasS t i).1 = true → 0 ≤ i ∧ i < t.cells := by
    unfold hasS; split
    · intro z; cases z
    · intro _; omega
  have hk := h.has i
  cases hs : hasS t i with
  | mk c t1 =>
    rw [hs] at hh hk
    cases c with
    | false => simp
    | true =>
      obtain ⟨hc, o, ho, hn, ha⟩ := hk
      dsimp only at hc ho ha
      have hin := hh rfl
      have hlen : o.length ≤ 1024 := by
        have := nodup_few t1.cells.toNat (o.map (·.1)) hn (fun y hy => by
          obtain ⟨p, hp, rfl⟩ := List.mem_map.1 hy
          have := ha p hp; omega)
        rw [List.length_map] at this; omega
      have hw : (Lit.int .i64 i).wf = true := by
        have : t.cells ≤ 1024 := h.1.2
        exact wfI64 (by omega) (by omega)
      simp only [cond_true, ho, mputO, Option.bind_some, mput, hw, Bool.true_and, Option.map_some, if_true]
      rw [decide_eq_true (by omega : o.length < 4294967296)]
      simp [ho]
theorem TxOk.wr {t : tx_Tx} (h : TxOk t) (i x : Int) : TxOk (wrS t i x) := by
  unfold wrS
  have hk := h.has i
  by_cases c : (hasS t i).1 = true
  · rw [if_pos c]
    have hin : 0 ≤ i ∧ i < t.cells := by
      unfold hasS at c; split at c
      · cases c
      · omega
    obtain ⟨_, e2, _, _⟩ := hasS_out t i
    obtain ⟨hc, o, ho, hn, ha⟩ := hk
    refine ⟨hc, mset o i x, by simp [ho], ?_, fun p hp => ?_⟩
    · rw [mset_keys]; split
      · exact hn
      · rename_i hni
        exact List.nodup_append.2 ⟨hn, by simp, fun a ha' b hb => by simp at hb; subst hb; exact fun e => hni (e ▸ ha')⟩
    · rcases mset_mem o i x p hp with z | z
      · exact ha p z
      · rw [z]; dsimp only; rw [e2]; exact hin
  · rw [if_neg c]; exact hk
abbrev seenI : VI := ⟨tx_Tx, fun s i => (tx_seen_Read.f s i).getD (0, s), fun s i x => (tx_seen_Write.f s i x).getD s⟩
def TxP (b : Nat) (t : tx_Tx) : HProp := fun m => TxOk t ∧ TxR b t m
theorem TxP.open {w : World} {b : Nat} {t : tx_Tx} {H : List HProp} (h : Sat w (TxP b t :: H)) : TxOk t ∧ Sat w (TxR b t :: H) := by
  obtain ⟨m1, m2, d, s1, s2, ⟨hk, hx⟩, hr⟩ := h
  exact ⟨hk, m1, m2, d, s1, s2, hx, hr⟩
theorem TxP.close {w : World} {b : Nat} {t : tx_Tx} {H : List HProp} (hk : TxOk t) (h : Sat w (TxR b t :: H)) : Sat w (TxP b t :: H) := h.weaken fun _ q => ⟨hk, q⟩
set_option maxRecDepth 100000 in
set_option maxHeartbeats 4000000 in
noncomputable def seenV (b : Nat) : VW Try.prog :=
  { seenI with
    t := 111, v := .agg #[bp b 0], rep := fun s => TxP b s
    rF := 105, rV := .agg #[bp b 0], wF := 106, wV := .agg #[bp b 0]
    rM := by intro w; kernel_rfl
    wM := by intro w; kernel_rfl
    rN := by intro w; kernel_rfl
    wN := by intro w; kernel_rfl
    rC := Try.call105, wC := Try.call106
    rCt := fun s i => by
      intro w F _ hs
      obtain ⟨hk, hs1⟩ := TxP.open hs
      obtain ⟨vl, vo, hs2⟩ := TxR.open hs1
      have hr := rdS_ok s i
      refine (tx_seen_Read.ct b vl vo s i (rdS s i).1 (rdS s i).2 hr w F trivial hs2).mono ?_
      rintro e w' ⟨u, H', rfl, ⟨wl, wo, rfl, rfl⟩, hs3, hk3⟩
      refine ⟨_, _, rfl, ⟨?_, rfl⟩, ?_, hk3⟩
      · show Value.int .u64 (rdS s i).1 = .int .u64 ((tx_seen_Read.f s i).getD (0, s)).1
        rw [hr]; rfl
      · show Sat w' ([TxP b ((tx_seen_Read.f s i).getD (0, s)).2] ++ [F])
        rw [hr]
        exact TxP.close (by show TxOk (rdS s i).2; rw [rdS_2]; exact hk.has i) (TxR.close hs3)
    wCt := fun s i x => by
      intro w F _ hs
      obtain ⟨hk, hs1⟩ := TxP.open hs
      obtain ⟨vl, vo, hs2⟩ := TxR.open hs1
      have hr := wrS_ok hk i x
      refine (tx_seen_Write.ct b vl vo s i x (wrS s i x) hr w F trivial hs2).mono ?_
      rintro e w' ⟨u, H', rfl, ⟨wl, wo, rfl, rfl⟩, hs3, hk3⟩
      refine ⟨_, _, rfl, ⟨rfl, rfl⟩, ?_, hk3⟩
      show Sat w' ([TxP b ((tx_seen_Write.f s i x).getD s)] ++ [F])
      rw [hr]
      exact TxP.close (hk.wr i x) (TxR.close hs3) }
def tx_Tx_Run.f {α : Type} (m : VM α) (t : tx_Tx) : Option (Int × Bool × α × tx_Tx) :=
  bif decide (0 ≤ t.cells) && decide (t.cells ≤ 1024) then (VM.run seenI m { t with out := some [], lack := -1 }).bind fun p => some (if p.2.lack = -1 then 0 else p.2.lack, p.2.lack == -1, p.1, { p.2 with fine := p.2.lack == -1 }) else none
theorem Ct.packs {P : Program} {g : FuncId} {vals : List Value} {rd : HProp → Prop} {A B A' B' : List HProp} {u0 : Value} (h : Ct P g vals rd (B ++ A) (fun u H' => u = u0 ∧ H' = B' ++ A')) : Ct P g vals rd (stars B :: A) (fun u H' => u = u0 ∧ H' = stars B' :: A') := by
  intro w F hF hs
  have h1 : Sat w ((A ++ [F]) ++ [stars B]) := hs.perm (List.perm_append_comm (l₁ := [stars B]) (l₂ := A ++ [F]))
  have h2 : Sat w ((B ++ A) ++ [F]) := (Sat.unpack h1).perm (by
    rw [List.append_assoc B A [F]]; exact List.perm_append_comm)
  refine (h w F hF h2).mono ?_
  rintro e w' ⟨u, H', rfl, ⟨rfl, rfl⟩, hs3, hk⟩
  refine ⟨_, _, rfl, ⟨rfl, rfl⟩, ?_, hk⟩
  have h3 : Sat w' ((A' ++ [F]) ++ B') := hs3.perm (by rw [List.append_assoc B' A' [F]]; exact List.perm_append_comm)
  exact (Sat.pack h3).perm (List.perm_append_comm (l₁ := A' ++ [F]) (l₂ := [stars B']))
theorem SO.closeTx {P : Program} {n : Nat} {Z : Act → World → Prop} {w0 : Beg} {ops : Array Oper} {l : List Oper} {ρ : Env} {H : List HProp} {b : Nat} {c k : Int} {fi : Bool} {L : Option (List (Int × api_Cell))} {O : Option (List (Int × Int))} {vl vo : Value} (hk : TxOk ⟨c, L, O, k, fi⟩) (h : SO P n Z w0 ops l ρ (TxP b ⟨c, L, O, k, fi⟩ :: H)) :
    SO P n Z w0 ops l ρ (Box b [.int .i64 c, vl, vo, .int .i64 k, .bool fi] :: MapO (aggE ek_api_Cell) vl L :: MapO (Value.int .u64) vo O :: H) := h.sat fun _ s => TxP.close hk (TxR.close s)
theorem SO.openTx {P : Program} {n : Nat} {Z : Act → World → Prop} {w0 : Beg} {ops : Array Oper} {l : List Oper} {ρ : Env} {H : List HProp} {b : Nat} {t : tx_Tx} (h : ∀ vl vo, SO P n Z w0 ops l ρ (Box b [.int .i64 t.cells, vl, vo, .int .i64 t.lack, .bool t.fine] :: MapO (aggE ek_api_Cell) vl t.l :: MapO (Value.int .u64) vo t.out :: H)) :
    SO P n Z w0 ops l ρ (TxP b t :: H) := by
  intro a w h1 h2 h3 h4 h5
  obtain ⟨_, h4⟩ := TxP.open h4
  obtain ⟨vl, vo, h4⟩ := TxR.open h4
  exact h vl vo a w h1 h2 h3 h4 h5
theorem opv_neqFN {P : Program} {ρ : Env} {t t2 : TypeId} {x : Operand} {fn : Fn} {us cs : Array Value} {u : TypeDesc} (ht : P.underlying t = some u) (hu : (match u with | .func .. => true | _ => false) = true) (hx : ev ρ x = some (.func fn us cs)) : OpV P ρ (.binOp .neq t x (.const .nilFunc) t2) (.bool true) :=
  fun r w d t' p af g hr => by
    have h0 : r (.const .nilFunc) = .nilFunc := hr _ _ rfl
    have key : ∀ d, (Op.equalIn (d + 2) t (.func fn us cs) .nilFunc).run P w = .ok false w := fun d => by
      cases u <;> first | (simp at hu; done) | simp [Op.equalIn, run_underlying ht]
    simp [execOp, hr x _ hx, h0, eqGuard, binOp, eql_run w key]
set_option maxRecDepth 100000 in
set_option maxHeartbeats 8000000 in
theorem tx_Tx_Run.ct {α : Type} (m : VM α) (fc : FuncId) (caps : List Value) (rd : HProp → Prop) (A B : List HProp) (bp0 : Nat) (vl vo : Value) (t : tx_Tx) (r0 : Int) (r1 : Bool) (a : α) (rp : tx_Tx) (h : tx_Tx_Run.f m t = some (r0, r1, a, rp))
    (hcall : ∀ (us : Array Value) (w : World), (callFunc fc us).run Try.prog w = .ok (.enter fc us) w) (hmono : ∀ (l : List HProp) (F : HProp), rd F → rd (stars (l ++ [F])))
    (hf : ∀ s s', VM.run seenI m s = some (a, s') → Ct Try.prog fc ((seenV bp0).val :: caps) rd (A ++ [(seenV bp0).rep s]) (fun u H' => u = .tuple #[] ∧ H' = B ++ [(seenV bp0).rep s'])) :
    Ct Try.prog 40 [bp bp0 0, .func (.func fc) #[] caps.toArray] rd ([Box bp0 [.int .i64 t.cells, vl, vo, .int .i64 t.lack, .bool t.fine], MapO (aggE ek_api_Cell) vl t.l, MapO (Value.int .u64) vo t.out] ++ A)
      (fun u H' => ∃ wl wo, u = .tuple #[.int .i64 r0, .bool r1] ∧ H' = [Box bp0 [.int .i64 rp.cells, wl, wo, .int .i64 rp.lack, .bool rp.fine], MapO (aggE ek_api_Cell) wl rp.l, MapO (Value.int .u64) wo rp.out] ++ B) := by
  unfold tx_Tx_Run.f at h
  cases hc : (decide (0 ≤ t.cells) && decide (t.cells ≤ 1024)) with
  | false => rw [hc] at h; cases h
  | true =>
  rw [hc, cond_true] at h
  simp only [Bool.and_eq_true, decide_eq_true_eq] at hc
  obtain ⟨⟨a', t2⟩, hrun, h⟩ := opt_bind h
  injection h with h; injection h with e1 h; injection h with e2 h; injection h with e3 e4
  dsimp only at e1 e2 e3 e4
  subst e3
  have hf1 := Ct.packs (hf _ _ hrun)
  have hok : TxOk ⟨t.cells, t.l, some [], -1, t.fine⟩ := ⟨hc, [], rfl, .nil, fun p hp => by cases hp⟩
  have main : Ct Try.prog 40 [bp bp0 0, .func (.func fc) #[] caps.toArray] rd [Box bp0 [.int .i64 t.cells, vl, vo, .int .i64 t.lack, .bool t.fine], MapO (aggE ek_api_Cell) vl t.l, MapO (Value.int .u64) vo t.out, stars A]
      (fun u H' => ∃ wl wo, u = .tuple #[.int .i64 r0, .bool r1] ∧ H' = [Box bp0 [.int .i64 rp.cells, wl, wo, .int .i64 rp.lack, .bool rp.fine], MapO (aggE ek_api_Cell) wl rp.l, MapO (Value.int .u64) wo rp.out, stars B]) := by
    refine Ct.intro (n := 37) Try.func40 rfl rfl rfl ?_
    intro R w0 F hF hR
    repeat refine S.seq ?_
    refine S.region ?_
    refine SO.v rfl (opv_assign rfl) ?_
    refine SO.v rfl (opv_assign rfl) ?_
    refine SO.nil ?_
    repeat refine S.seq ?_
    refine S.region ?_
    refine SO.v rfl (opv_move rfl) ?_
    refine SO.v rfl (opv_move rfl) ?_
    refine SO.makeMapO (Value.int .u64) rfl (fun v1 => ?_)
    refine SO.oneM fun h1 => ?_
    refine SO.v rfl (opv_nilCheck rfl) ?_
    refine SO.v rfl (opv_fieldAddr Try.underlying97 rfl Try.sizeOf95 rfl rfl) ?_
    refine SO.b1 ?_
    refine SO.store1 Try.sizeOf95 rfl rfl h1 rfl ?_
    refine SO.v rfl (opv_nilCheck rfl) ?_
    refine SO.v rfl (opv_fieldAddr Try.underlying97 rfl Try.sizeOf3 rfl rfl) ?_
    refine SO.store1 Try.sizeOf3 rfl rfl rfl rfl ?_
    refine SO.nil ?_
    repeat refine S.seq ?_
    refine S.region ?_
    refine SO.v rfl (opv_move rfl) ?_
    refine SO.v rfl (opv_neqFN Try.underlying100 rfl rfl) ?_
    refine SO.nil ?_
    refine S.cond_true rfl ?_
    repeat refine S.seq ?_
    refine S.region ?_
    refine SO.v rfl (opv_move rfl) ?_
    refine SO.v rfl (opv_move rfl) ?_
    refine SO.v rfl (opv_build (v := .agg #[bp bp0 0]) rfl (by intro w; kernel_rfl)) ?_
    refine SO.v rfl (opv_iface Try.underlying111 rfl rfl) ?_
    refine SO.b3 ?_
    refine SO.drop ?_
    refine SO.b2 ?_
    refine SO.b1 ?_
    refine SO.closeTx hok ?_
    refine SO.b1 ?_
    refine SO.call (pre := [stars A, (seenV bp0).rep { cells := t.cells, l := t.l, out := some [], lack := -1, fine := t.fine }]) rfl hcall rfl rfl rfl hf1 (hmono [] F hF) ?_
    rintro _ _ ⟨rfl, rfl⟩
    refine SO.b1 ?_
    refine SO.openTx (b := bp0) (t := t2) fun wl wo => ?_
    refine SO.nil ?_
    repeat refine S.seq ?_
    refine S.region ?_
    refine SO.v rfl (opv_move rfl) ?_
    refine SO.v rfl (opv_move rfl) ?_
    refine SO.v rfl (opv_nilCheck rfl) ?_
    refine SO.v rfl (opv_fieldAddr Try.underlying97 rfl Try.sizeOf3 rfl rfl) ?_
    refine SO.load1 rfl Try.isAgg3 rfl rfl ?_
    refine SO.v rfl (opv_eql rfl rfl) ?_
    refine SO.v rfl (opv_nilCheck rfl) ?_
    refine SO.v rfl (opv_fieldAddr Try.underlying97 rfl Try.sizeOf4 rfl rfl) ?_
    refine SO.store1 Try.sizeOf4 rfl rfl rfl rfl ?_
    refine SO.nil ?_
    repeat refine S.seq ?_
    refine S.region ?_
    refine SO.v rfl (opv_move rfl) ?_
    refine SO.v rfl (opv_nilCheck rfl) ?_
    refine SO.v rfl (opv_fieldAddr Try.underlying97 rfl Try.sizeOf4 rfl rfl) ?_
    refine SO.load1 rfl Try.isAgg4 rfl rfl ?_
    refine SO.v rfl (opv_not rfl) ?_
    refine SO.nil ?_
    rcases bool_or (t2.lack == -1) with b1 | b1
    · have hl : t2.lack = -1 := by simpa using b1
      rw [if_pos hl] at e1
      refine S.condF rfl (by rw [b1]; rfl) ?_
      refine S.skip ?_
      repeat refine S.seq ?_
      refine S.region ?_
      refine SO.v rfl (opv_assign rfl) ?_
      refine SO.v rfl (opv_assign rfl) ?_
      refine SO.nil ?_
      rw [← e1, ← e2, ← e4, b1] at hR
      rw [b1]
      exact S.ret2 Try.func40 rfl rfl rfl (fun w hs hk => hR w _ _ ⟨wl, wo, rfl, rfl⟩ hs hk)
    · have hl : ¬ t2.lack = -1 := by simpa using b1
      rw [if_neg hl] at e1
      refine S.condT rfl (by rw [b1]; rfl) ?_
      repeat refine S.seq ?_
      refine S.region ?_
      refine SO.v rfl (opv_move rfl) ?_
      refine SO.v rfl (opv_nilCheck rfl) ?_
      refine SO.v rfl (opv_fieldAddr Try.underlying97 rfl Try.sizeOf3 rfl rfl) ?_
      refine SO.load1 rfl Try.isAgg3 rfl rfl ?_
      refine SO.v rfl (opv_assign rfl) ?_
      refine SO.v rfl (opv_assign rfl) ?_
      refine SO.nil ?_
      rw [← e1, ← e2, ← e4, b1] at hR
      rw [b1]
      exact S.ret2 Try.func40 rfl rfl rfl (fun w hs hk => hR w _ _ ⟨wl, wo, rfl, rfl⟩ hs hk)
  intro w F hF hs
  have h1 : Sat w (([Box bp0 [.int .i64 t.cells, vl, vo, .int .i64 t.lack, .bool t.fine], MapO (aggE ek_api_Cell) vl t.l, MapO (Value.int .u64) vo t.out] ++ [F]) ++ A) := hs.perm (by
    rw [List.append_assoc, List.append_assoc]; exact List.Perm.append_left _ List.perm_append_comm)
  have h2 := (Sat.pack h1).perm (l' := [Box bp0 [.int .i64 t.cells, vl, vo, .int .i64 t.lack, .bool t.fine], MapO (aggE ek_api_Cell) vl t.l, MapO (Value.int .u64) vo t.out, stars A] ++ [F]) (List.Perm.append_left [_, _, _] (.swap _ _ _))
  refine (main w F hF h2).mono ?_
  rintro e w' ⟨u, H', rfl, ⟨wl, wo, rfl, rfl⟩, hs3, hk⟩
  refine ⟨_, _, rfl, ⟨wl, wo, rfl, rfl⟩, ?_, hk⟩
  have h4 : Sat w' (([Box bp0 [.int .i64 rp.cells, wl, wo, .int .i64 rp.lack, .bool rp.fine], MapO (aggE ek_api_Cell) wl rp.l, MapO (Value.int .u64) wo rp.out] ++ [F]) ++ [stars B]) := hs3.perm (List.Perm.append_left [_, _, _] (.swap _ _ _))
  refine (Sat.unpack h4).perm ?_
  rw [List.append_assoc, List.append_assoc]; exact List.Perm.append_left _ List.perm_append_comm

end Go.Proofs
set_option linter.unusedVariables false
namespace Go.Proofs
open Go.Sl Go.RowKit

/-! 10 (*padstone/stm.Machine).Step -/
def stm_Step_take.f (sa : word_Store) : Option (tx_Tx) :=
  (word_Store_Len.f sa).bind fun t11 => (tx_New.f t11).bind fun t13 => some t13
set_option maxHeartbeats 8000000 in
set_option maxRecDepth 100000 in
theorem stm_Step_take.ct (zb : List Nat) (bpm bps : Nat) (vl va vg vs : Value) (sa : word_Store) (dl : List desc_Desc) (el gl : List stm_Entry) (hle : zb.length = el.length) (ws : List Nat) (id : Int) (bw : Nat) (hbw : at_ ws id = some bw) (hin : stm_Machine_in.f ws id = some true) (tv dv tl : Value) (told : List Int) (JR : Value → HProp) (ff : FuncId) (fcs : List Value) (FR : HProp) (hcf : ∀ (us : Array Value) (w : World), (callFunc ff us).run Try.prog w = .ok (.enter ff us) w) (hct : ∀ (v : Value) (t : List Int), slices_Clone_int_int.f told = some t → Ct Try.prog ff (v :: fcs) (fun F => Rd (ekI .i64) v t F) [FR] (fun u H' => H' = [IsJob JR u, FR])) (hn : stm_next_n.f told = some ()) (rx : tx_Tx) (h : stm_Step_take.f sa = some rx) :
    Ct Try.prog 10 [bp bpm 0, .int .i64 id] (fun _ => True) [Box bpm [bp bps 0, vl, va, vg], Own 68 ekP vl ws, Own 105 ekMd va (zb.zip el), ZipR rep_desc_Desc zb dl, Own 44 ek_stm_Entry vg gl, Box bps [vs, .int .u32 sa.limit], Own 88 ek_api_Cell vs sa.l, Box bw [.func (.func ff) #[] fcs.toArray, .nilFunc, tv, dv, tl], Own 3 (ekI .i64) tl told, FR] (fun u H' => ∃ (jf : FuncId) (jcs : List Value) (wt : Value), u = .bool true ∧ H' = [Box bpm [bp bps 0, vl, va, vg], Own 68 ekP vl ws, Own 105 ekMd va (zb.zip el), ZipR rep_desc_Desc zb dl, Own 44 ek_stm_Entry vg gl, Box bps [vs, .int .u32 sa.limit], Own 88 ek_api_Cell vs sa.l, Box bw [.func (.func ff) #[] fcs.toArray, .func (.func jf) #[] jcs.toArray, wt, dv, tl], Own 3 (ekI .i64) tl told, TxO wt (some rx), JR (.func (.func jf) #[] jcs.toArray), FR]) := by
  unfold stm_Step_take.f at h
  refine Ct.intro (n := 68) Try.func10 rfl rfl rfl ?_
  intro R w0 F hF hR
  refine S.b1 ?_
  refine S.rd fun hr1 => ?_
  refine S.b2 ?_
  refine S.rd fun hr2 => ?_
  refine S.b4 ?_
  refine S.rd fun hr3 => ?_
  refine S.b6 ?_
  refine S.rd fun hr4 => ?_
  refine S.b8 ?_
  refine S.rd fun hr5 => ?_
  refine S.seq ?_
  refine S.region ?_
  refine SO.v rfl (opv_assign rfl) ?_
  refine SO.nil ?_
  refine S.seq ?_
  refine S.seq ?_
  refine S.region ?_
  refine SO.v rfl (opv_move rfl) ?_
  refine SO.v rfl (opv_move rfl) ?_
  refine SO.b4 ?_
  refine SO.b5 ?_
  refine SO.call (pre := [Box _ _, Own _ _ _ _]) rfl Try.call23 rfl rfl rfl (stm_Machine_in.ct bpm bps vl va vg ws id _ hin) trivial ?_
  rintro _ _ ⟨rfl, rfl⟩
  refine SO.v rfl (opv_not rfl) ?_
  refine SO.nil ?_
  refine S.cond_false rfl ?_
  refine S.skip ?_
  refine S.seq ?_
  refine S.region ?_
  refine SO.v rfl (opv_move rfl) ?_
  refine SO.v rfl (opv_nilCheck rfl) ?_
  refine SO.v rfl (opv_fieldAddr Try.underlying67 rfl Try.sizeOf64 rfl rfl) ?_
  refine SO.load1 rfl Try.isAgg64 rfl rfl ?_
  refine SO.v rfl (opv_move rfl) ?_
  refine SO.v rfl (opv_idx Try.underlying64 Try.sizeOf68 hr1 rfl rfl hbw) ?_
  refine SO.loadI1 (j := 0) rfl Try.isAgg68 (Rd.tail (Rd.head hr1)) hbw rfl rfl rfl rfl ?_
  refine SO.v rfl (opv_assign rfl) ?_
  refine SO.nil ?_
  refine S.to (ρ' := [(0, bp bpm 0), (1, .int .i64 id), (4, .bool false), (5, bp bw 0)]) ⟨rfl, rfl, rfl, rfl, trivial⟩ ?_
  refine S.seq ?_
  refine S.region ?_
  refine SO.v rfl (opv_move rfl) ?_
  refine SO.b9 ?_
  refine SO.b3 ?_
  refine SO.b9 ?_
  refine SO.call (pre := [Box _ _, Own _ _ _ _, FR]) rfl Try.call24 rfl rfl rfl (stm_next_n.ct bw tv dv tl told ff fcs FR (IsJob JR) hcf hct hn) trivial ?_
  rintro u6 _ rfl
  refine SO.b2 ?_
  refine SO.openJob fun jf9 jcs10 hu7 => ?_
  subst hu7
  refine SO.b2 ?_
  refine SO.rd fun hr8 => ?_
  refine SO.v rfl (opv_assign rfl) ?_
  refine SO.nil ?_
  refine S.seq ?_
  refine S.block ?_
  refine S.seq ?_
  refine S.region ?_
  refine SO.v rfl (opv_move rfl) ?_
  refine SO.v rfl (opv_eqlFV Try.underlying69 rfl rfl) ?_
  refine SO.v rfl (opv_assign rfl) ?_
  refine SO.nil ?_
  refine S.cond_false rfl ?_
  refine S.seq ?_
  refine S.region ?_
  refine SO.v rfl (opv_move rfl) ?_
  refine SO.v rfl (opv_nilCheck rfl) ?_
  refine SO.v rfl (opv_fieldAddr Try.underlying73 rfl Try.sizeOf69 rfl rfl) ?_
  refine SO.b2 ?_
  refine SO.load1 rfl Try.isAgg69 rfl rfl ?_
  refine SO.v rfl (opv_eqlFF Try.underlying69 rfl rfl) ?_
  refine SO.v rfl (opv_assign rfl) ?_
  refine SO.nil ?_
  refine S.to (ρ' := [(0, bp bpm 0), (1, .int .i64 id), (4, .bool false), (5, bp bw 0), (6, .func (.func jf9) #[] jcs10.toArray), (30, .bool true)]) ⟨rfl, rfl, rfl, rfl, rfl, rfl, trivial⟩ ?_
  refine S.cond_true rfl ?_
  refine S.region ?_
  refine SO.v rfl (opv_move rfl) ?_
  refine SO.v rfl (opv_move rfl) ?_
  refine SO.v rfl (opv_move rfl) ?_
  refine SO.v rfl (opv_move rfl) ?_
  refine SO.v rfl (opv_nilCheck rfl) ?_
  refine SO.v rfl (opv_fieldAddr Try.underlying67 rfl Try.sizeOf27 rfl rfl) ?_
  refine SO.b4 ?_
  refine SO.load1 rfl Try.isAgg27 rfl rfl ?_
  obtain ⟨t11, ht12, h⟩ := opt_bind h
  refine SO.b6 ?_
  refine SO.b10 ?_
  refine SO.call (pre := [Box _ _, Own _ _ _ _]) rfl Try.call26 rfl rfl rfl (word_Store_Len.ct bps vs _ _ ht12) trivial ?_
  rintro _ _ ⟨rfl, rfl⟩
  obtain ⟨t13, ht14, h⟩ := opt_bind h
  refine SO.call (pre := []) rfl Try.call25 rfl rfl rfl (tx_New.ct _ _ ht14) trivial ?_
  rintro _ _ ⟨b15, u16_l, u16_out, rfl, rfl⟩
  refine SO.v rfl (opv_nilCheck rfl) ?_
  refine SO.v rfl (opv_fieldAddr Try.underlying73 rfl Try.sizeOf69 rfl rfl) ?_
  refine SO.b6 ?_
  refine SO.store1 Try.sizeOf69 rfl rfl rfl rfl ?_
  refine SO.v rfl (opv_nilCheck rfl) ?_
  refine SO.v rfl (opv_fieldAddr Try.underlying73 rfl Try.sizeOf70 rfl rfl) ?_
  refine SO.store1 Try.sizeOf70 rfl rfl rfl rfl ?_
  refine SO.nil ?_
  refine S.to (ρ' := [(4, .bool false)]) ⟨rfl, trivial⟩ ?_
  refine S.inBlock ?_
  refine S.seq ?_
  refine S.region ?_
  refine SO.v rfl (opv_assign rfl) ?_
  refine SO.nil ?_
  cases h
  refine S.b3 ?_
  refine S.b3 ?_
  refine S.b3 ?_
  refine S.txSome ?_
  refine S.b12 ?_
  refine S.b8 ?_
  refine S.b8 ?_
  refine S.b3 ?_
  refine S.b8 ?_
  refine S.b5 ?_
  refine S.b7 ?_
  refine S.b7 ?_
  refine S.b10 ?_
  refine S.b12 ?_
  refine S.b12 ?_
  refine S.b12 ?_
  refine S.b12 ?_
  exact S.ret1 Try.func10 rfl rfl (fun w hs hk => hR w _ _ ⟨jf9, jcs10, (bp b15 0), rfl, rfl⟩ hs hk)
end Go.Proofs
namespace Go.Proofs
open Go.Sl Go.RowKit
/-! 22 padstone/padstonelaw08.jobs$1 -/
def law08_jobs_1.f (k : Nat) (a1 : List law06_Op) : VM (Int) :=
  (law06_Do.f k a1).bind fun t1 => VM.ret (w64 (t1.tmod 1000000))
set_option maxHeartbeats 8000000 in
set_option maxRecDepth 100000 in
theorem law08_jobs_1.ct (V : VW Try.prog) (k : Nat) (bp1 : Nat) (v1 : Value) (a1 : List law06_Op) (r0 : Int) (s s' : V.S) (h : VM.run V.toVI (law08_jobs_1.f k a1) s = some (r0, s')) :
    Ct Try.prog 22 [V.val, bp bp1 0] (fun F => Rd ek_law06_Op v1 a1 F) [Box bp1 [v1], V.rep s] (fun u H' => u = .int .i64 r0 ∧ H' = [Box bp1 [v1], V.rep s']) := by
  unfold law08_jobs_1.f at h
  refine Ct.intro (n := 9) Try.func22 rfl rfl rfl ?_
  intro R w0 F hF hR
  have hF1 := hF
  refine S.seq ?_
  refine S.region ?_
  refine SO.v rfl (opv_assign rfl) ?_
  refine SO.nil ?_
  refine S.seq ?_
  refine S.region ?_
  refine SO.v rfl (opv_move rfl) ?_
  refine SO.load1 rfl Try.isAgg48 rfl rfl ?_
  obtain ⟨t1, s3, ht2, h⟩ := VM.bind_some V.toVI h
  refine SO.b1 ?_
  refine SO.call (pre := [V.rep _]) rfl Try.call13 rfl rfl rfl (law06_Do.ct V _ v1 _ _ _ _ ht2) (Rd.tail (Rd.head hF1)) ?_
  rintro _ _ ⟨rfl, rfl⟩
  refine SO.v rfl (opv_rem rfl rfl (by decide)) ?_
  refine SO.v rfl (opv_conv Try.underlying46 Try.underlying3 rfl) ?_
  refine SO.v rfl (opv_assign rfl) ?_
  refine SO.nil ?_
  refine S.to (ρ' := [(3, .int .i64 (w64 (t1.tmod 1000000)))]) ⟨rfl, trivial⟩ ?_
  obtain ⟨hq, rfl⟩ := VM.ret_some V.toVI h
  cases hq
  refine S.b2 ?_
  refine S.b1 ?_
  refine S.b2 ?_
  exact S.ret1 Try.func22 rfl rfl (fun w hs hk => hR w _ _ ⟨rfl, rfl⟩ hs hk)
end Go.Proofs
namespace Go.Proofs
open Go.Sl Go.RowKit
/-! 17 padstone/padstonelaw08.marks -/
def law08_marks.l1 (a0 : word_Store) : Nat → (Int × Int) → Option (Int)
  | 0, _ => none
  | k + 1, (x4_1, x3_1) => (word_Store_Len.f a0).bind fun t2 => bif decide (x4_1 < t2) then ((word_Store_Read.f a0 x4_1).bind fun (t5, t6) => bif t5.Mark != 0 then (law08_marks.l1 a0 k (w64 (x4_1 + 1), w64 (x3_1 + 1))) else (law08_marks.l1 a0 k (w64 (x4_1 + 1), x3_1))) else (some x3_1)
def law08_marks.f (k : Nat) (a0 : word_Store) : Option (Int) :=
  (law08_marks.l1 a0 k (0, 0)).bind fun j3_e1 => some j3_e1
set_option maxHeartbeats 8000000 in
set_option maxRecDepth 100000 in
theorem law08_marks.ct (k : Nat) (bp0 : Nat) (v0_l : Value) (a0 : word_Store) (r0 : Int) (h : law08_marks.f k a0 = some r0) :
    Ct Try.prog 17 [bp bp0 0] (fun _ => True) [Box bp0 [v0_l, .int .u32 a0.limit], Own 88 ek_api_Cell v0_l a0.l] (fun u H' => u = .int .i64 r0 ∧ H' = [Box bp0 [v0_l, .int .u32 a0.limit], Own 88 ek_api_Cell v0_l a0.l]) := by
  unfold law08_marks.f at h
  refine Ct.intro (n := 25) Try.func17 rfl rfl rfl ?_
  intro R w0 F hF hR
  refine S.b1 ?_
  refine S.rd fun hr1 => ?_
  refine S.seq ?_
  refine S.region ?_
  refine SO.v rfl (opv_assign rfl) ?_
  refine SO.nil ?_
  refine S.seq ?_
  refine S.region ?_
  refine SO.v rfl (opv_assign rfl) ?_
  refine SO.nil ?_
  refine S.seq ?_
  refine S.seq ?_
  refine S.region ?_
  refine SO.v rfl (opv_assign rfl) ?_
  refine SO.nil ?_
  obtain ⟨j3_e1, hlp1, h⟩ := opt_bind h
  refine S.b2 ?_
  refine S.b2 ?_
  refine S.b2 ?_
  refine S.to (ρ' := [(4, .int .i64 0), (3, .int .i64 0), (2, .int .i64 0), (0, bp bp0 0)]) ⟨rfl, rfl, rfl, rfl, trivial⟩ ?_
  refine S.forloop (X := (Int × Int) × Unit) (O := Int) (fun m x => law08_marks.l1 a0 m x.1) (fun x => match x with | ((x4_1, x3_1), _) => [(4, .int .i64 x4_1), (3, .int .i64 x3_1), (2, .int .i64 0), (0, bp bp0 0)]) (fun x => match x with | ((x4_1, x3_1), _) => [Own 88 ek_api_Cell v0_l a0.l, Box bp0 [v0_l, .int .u32 a0.limit], F]) (fun Sk => (fun j3_e1 => ∀ _ : Unit, Sk [(2, .int .i64 0), (3, .int .i64 j3_e1)] [Own 88 ek_api_Cell v0_l a0.l, Box bp0 [v0_l, .int .u32 a0.limit], F])) (fun _ => rfl) ?_ (m := k) (x := ((0, 0), ())) hlp1 ?_
  · clear h hlp1
    intro k x o_1 h hK1 ih1
    obtain ⟨⟨x4_1, x3_1⟩, _⟩ := x
    replace h : law08_marks.l1 a0 (k + 1) (x4_1, x3_1) = some o_1 := h
    first | rw [law08_marks.l1] at h | unfold law08_marks.l1 at h
    refine S.seq ?_
    refine S.seq ?_
    refine S.region ?_
    refine SO.v rfl (opv_move rfl) ?_
    refine SO.v rfl (opv_move rfl) ?_
    obtain ⟨t2, ht3, h⟩ := opt_bind h
    refine SO.b1 ?_
    refine SO.call (pre := [Box _ _, Own _ _ _ _]) rfl Try.call26 rfl rfl rfl (word_Store_Len.ct bp0 v0_l _ _ ht3) trivial ?_
    rintro _ _ ⟨rfl, rfl⟩
    refine SO.v rfl (opv_lss rfl rfl) ?_
    refine SO.nil ?_
    rcases bool_or (decide (x4_1 < t2)) with b4 | b4
    · replace h := cond_t b4 h
      refine S.condT rfl b4 ?_
      refine S.skip ?_
      refine S.seq ?_
      refine S.block ?_
      refine S.seq ?_
      refine S.region ?_
      refine SO.v rfl (opv_move rfl) ?_
      refine SO.v rfl (opv_move rfl) ?_
      obtain ⟨⟨t5, t6⟩, ht7, h⟩ := opt_bind h
      refine SO.b1 ?_
      refine SO.b1 ?_
      refine SO.call (pre := [Box _ _, Own _ _ _ _]) rfl Try.call35 rfl rfl rfl (word_Store_Read.ct bp0 v0_l _ _ _ _ ht7) trivial ?_
      rintro _ _ ⟨rfl, rfl⟩
      refine SO.v rfl (opv_move rfl) ?_
      refine SO.v rfl (opv_extract rfl rfl) ?_
      refine SO.v rfl (opv_extract rfl rfl) ?_
      refine SO.alloc rfl Try.zeroValue88 rfl (fun b8 => ?_)
      refine SO.storeN Try.sizeOf88 rfl rfl rfl rfl rfl rfl ?_
      refine SO.v rfl (opv_assign rfl) ?_
      refine SO.nil ?_
      refine S.to (ρ' := [(4, .int .i64 x4_1), (3, .int .i64 x3_1), (2, .int .i64 0), (0, bp bp0 0), (5, bp b8 0)]) ⟨rfl, rfl, rfl, rfl, rfl, trivial⟩ ?_
      refine S.seq ?_
      refine S.region ?_
      refine SO.v rfl (opv_fieldAddr Try.underlying88 rfl Try.sizeOf3 rfl rfl) ?_
      refine SO.load1 rfl Try.isAgg3 rfl rfl ?_
      refine SO.v rfl (opv_neq rfl rfl) ?_
      refine SO.nil ?_
      rcases bool_or (t5.Mark != 0) with b9 | b9
      · replace h := cond_t b9 h
        refine S.condT rfl b9 ?_
        refine S.region ?_
        refine SO.v rfl (opv_move rfl) ?_
        refine SO.v rfl (opv_add rfl rfl) ?_
        refine SO.v rfl (opv_assign rfl) ?_
        refine SO.nil ?_
        refine S.inBlock ?_
        refine S.region ?_
        refine SO.v rfl (opv_move rfl) ?_
        refine SO.v rfl (opv_add rfl rfl) ?_
        refine SO.v rfl (opv_assign rfl) ?_
        refine SO.nil ?_
        refine S.to (ρ' := [(4, .int .i64 (w64 (x4_1 + 1))), (3, .int .i64 (w64 (x3_1 + 1))), (2, .int .i64 0), (0, bp bp0 0)]) ⟨rfl, rfl, rfl, rfl, trivial⟩ ?_
        refine S.drop ?_
        refine S.b2 ?_
        refine S.b1 ?_
        refine S.b2 ?_
        refine S.to ?_ (ih1 ((w64 (x4_1 + 1), w64 (x3_1 + 1)), ()) h)
        exact ⟨rfl, rfl, rfl, rfl, trivial⟩
      replace h := cond_f b9 h
      refine S.condF rfl b9 ?_
      refine S.skip ?_
      refine S.inBlock ?_
      refine S.region ?_
      refine SO.v rfl (opv_move rfl) ?_
      refine SO.v rfl (opv_add rfl rfl) ?_
      refine SO.v rfl (opv_assign rfl) ?_
      refine SO.nil ?_
      refine S.drop ?_
      refine S.b2 ?_
      refine S.b1 ?_
      refine S.b2 ?_
      refine S.to ?_ (ih1 ((w64 (x4_1 + 1), x3_1), ()) h)
      exact ⟨rfl, rfl, rfl, rfl, trivial⟩
    replace h := cond_f b4 h
    refine S.condF rfl b4 ?_
    refine S.exit rfl ?_
    cases h
    refine S.b2 ?_
    refine S.b1 ?_
    refine S.b2 ?_
    refine S.to ?_ (hK1 ())
    exact ⟨rfl, rfl, trivial⟩
  rintro _
  refine S.seq ?_
  refine S.region ?_
  refine SO.v rfl (opv_move rfl) ?_
  refine SO.v rfl (opv_assign rfl) ?_
  refine SO.nil ?_
  cases h
  refine S.b2 ?_
  refine S.b1 ?_
  refine S.b2 ?_
  exact S.ret1 Try.func17 rfl rfl (fun w hs hk => hR w _ _ ⟨rfl, rfl⟩ hs hk)
end Go.Proofs
