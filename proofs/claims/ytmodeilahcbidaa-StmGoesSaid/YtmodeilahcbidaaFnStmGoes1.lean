/- What the functions that StmGoes reaches come to, and that they do. On no condition. -/
import Derived.Test.YtmodeilahcbidaaFnStmGoes0
set_option linter.all false
namespace Go.Proofs
open Go.Sl Go.RowKit
/-! 51 (*padstone/desc.Desc).release -/
def desc_Desc_release.f (a0 : desc_Desc) (a1 : word_Store) : Option ((desc_Desc × word_Store)) :=
  (at_ a0.l a0.at_).bind fun x5 => (word_Store_Read.f a1 x5.Cell).bind fun (t8, t9) => (bif t9.isSome then (some true) else (bif decide (a0.mark < 1) then (some true) else (some (t8.Mark != a0.mark)))).bind fun j50_1 => bif j50_1 then (some (({ a0 with at_ := w64 (a0.at_ + 1) } : desc_Desc), a1)) else ((bif a0.status == 1 then (some x5.Write) else (some false)).bind fun c16 => bif c16 then ((desc_Desc_release_2.f a1 x5 ({ a0 with at_ := w64 (a0.at_ + 1) } : desc_Desc)).bind fun (t19, p20) => bif t19.isSome then (none) else (some (({ a0 with at_ := w64 (a0.at_ + 1) } : desc_Desc), p20))) else ((desc_Desc_release_1.f a1 x5 ({ a0 with at_ := w64 (a0.at_ + 1) } : desc_Desc)).bind fun (t26, p27) => bif t26.isSome then (none) else (some (({ a0 with at_ := w64 (a0.at_ + 1) } : desc_Desc), p27))))
set_option maxHeartbeats 8000000 in
set_option maxRecDepth 100000 in
theorem desc_Desc_release.ct (bp0 : Nat) (v0_l : Value) (bp1 : Nat) (v1_l : Value) (a0 : desc_Desc) (a1 : word_Store) (rp0 : desc_Desc) (rp1 : word_Store) (h : desc_Desc_release.f a0 a1 = some (rp0, rp1)) :
    Ct Try.prog 51 [bp bp0 0, bp bp1 0] (fun _ => True) [Box bp0 [.int .i64 a0.mark, v0_l, .int .i64 a0.status, .int .i64 a0.at_], Own 114 ek_tx_Entry v0_l a0.l, Box bp1 [v1_l, .int .u32 a1.limit], Own 88 ek_api_Cell v1_l a1.l] (fun u H' => ∃ rw0_l rw1_l, u = .tuple #[] ∧ H' = [Box bp0 [.int .i64 rp0.mark, rw0_l, .int .i64 rp0.status, .int .i64 rp0.at_], Own 114 ek_tx_Entry rw0_l rp0.l, Box bp1 [rw1_l, .int .u32 rp1.limit], Own 88 ek_api_Cell rw1_l rp1.l]) := by
  unfold desc_Desc_release.f at h
  refine Ct.intro (n := 67) Try.func51 rfl rfl rfl ?_
  intro R w0 F hF hR
  refine S.b1 ?_
  refine S.rd fun hr1 => ?_
  refine S.b3 ?_
  refine S.rd fun hr2 => ?_
  refine S.seq ?_
  refine S.region ?_
  refine SO.box rfl rfl rfl (fun b3 => ?_)
  refine SO.box rfl rfl rfl (fun b4 => ?_)
  refine SO.nil ?_
  refine S.seq ?_
  obtain ⟨x5, hx6, h⟩ := opt_bind h
  refine S.draw2 (Y := fun Q => ∃ (_ _ _ _ _ _ _ _ _ : Unit), Q [(2, bp b3 0), (3, bp b4 0)] [Box b4 [bp bp1 0], Box b3 [bp bp0 0], Own 88 ek_api_Cell v1_l a1.l, Own 114 ek_tx_Entry v0_l a0.l, Box bp0 [.int .i64 a0.mark, v0_l, .int .i64 a0.status, .int .i64 a0.at_], Box bp1 [v1_l, .int .u32 a1.limit], F]) (Z := fun Q => ∀ (_ _ : Unit) (b7 : Nat) (_ _ _ _ _ _ _ : Unit), Q [(2, bp b3 0), (3, bp b4 0), (4, bp b7 0)] [Box b7 [.int .i64 x5.Cell, .int .u32 x5.Version, .int .u64 x5.Old, .int .u64 x5.New, .bool x5.Write], Box b4 [bp bp1 0], Box b3 [bp bp0 0], Own 88 ek_api_Cell v1_l a1.l, Own 114 ek_tx_Entry v0_l a0.l, Box bp0 [.int .i64 a0.mark, v0_l, .int .i64 a0.status, .int .i64 a0.at_], Box bp1 [v1_l, .int .u32 a1.limit], F]) (T := [tS 2 (bp b3 0), tS 3 (bp b4 0), tR (Box b4 [bp bp1 0]), tR (Box b3 [bp bp0 0]), tR (Own 88 ek_api_Cell v1_l a1.l), tR (Own 114 ek_tx_Entry v0_l a0.l), tR (Box bp0 [.int .i64 a0.mark, v0_l, .int .i64 a0.status, .int .i64 a0.at_]), tR (Box bp1 [v1_l, .int .u32 a1.limit]), tR (F), tS 9 (bp bp0 0), tS 10 (bp bp0 0), tS 11 (bp bp0 1), tS 12 (v0_l), tS 13 (bp bp0 0), tS 14 (bp bp0 0), tS 15 (bp bp0 3), tS 16 (.int .i64 a0.at_), tS 17 (idxp v0_l (a0.at_.toNat * ek_tx_Entry.sz)), tS 18 (.agg #[.int .i64 x5.Cell, .int .u32 x5.Version, .int .u64 x5.Old, .int .u64 x5.New, .bool x5.Write]), ⟨Nat, [4], (fun b7 => [(4, bp b7 0)]), (fun b7 => [Box b7 [.int .i64 0, .int .u32 0, .int .u64 0, .int .u64 0, .bool false]]), fun _ => rfl⟩, ⟨Nat, [4], (fun b7 => [(4, bp b7 0)]), (fun b7 => [Box b7 [.int .i64 x5.Cell, .int .u32 x5.Version, .int .u64 x5.Old, .int .u64 x5.New, .bool x5.Write]]), fun _ => rfl⟩]) (D := [⟨[0, 3], [], [9]⟩, ⟨[9], [], [10]⟩, ⟨[10], [], [11]⟩, ⟨[11, 6], [], [12]⟩, ⟨[0, 3], [], [13]⟩, ⟨[13], [], [14]⟩, ⟨[14], [], [15]⟩, ⟨[15, 6], [], [16]⟩, ⟨[12, 16, 5], [], [17]⟩, ⟨[17, 5], [], [18]⟩, ⟨[], [], [19]⟩, ⟨[18], [19], [20]⟩]) (ini := [0, 1, 2, 3, 4, 5, 6, 7, 8]) (fin := [0, 1, 20, 2, 3, 4, 5, 6, 7, 8]) (bf := [[], [0], [0, 1], [0, 1, 2], [], [4], [4, 5], [4, 5, 6], [0, 1, 2, 3, 4, 5, 6, 7], [0, 1, 2, 3, 4, 5, 6, 7, 8], [], [0, 1, 2, 3, 4, 5, 6, 7, 8, 9, 10]]) (by kernel_rfl) (by kernel_rfl) (fun Q => by kernel_rfl) (fun x w h1 h2 => ⟨(), (), (), (), (), (), (), (), (), EnvAll.of h1 ⟨rfl, rfl, trivial⟩, h2⟩) (fun Q => by kernel_rfl) ⟨?_, ?_, ?_, ?_, ?_, ?_, ?_, ?_, ?_, ?_, ?_, ?_, trivial⟩ ?_
  · rintro Fr _ _
    refine SO.load1 rfl Try.isAgg71 rfl rfl ?_
    exact SO.nilZ fun a w h1 h2 h3 h4 h5 => PZ.of h1 h3 h5 (.cons () (.cons () (.cons () (.nil ⟨EnvAll.of h2 ⟨rfl, rfl, trivial⟩, h4⟩))))
  · rintro Fr _
    refine SO.v rfl (opv_nilCheck rfl) ?_
    exact SO.nilZ fun a w h1 h2 h3 h4 h5 => PZ.of h1 h3 h5 (.cons () (.cons () (.nil ⟨EnvAll.of h2 ⟨rfl, rfl, trivial⟩, h4⟩)))
  · rintro Fr _
    refine SO.v rfl (opv_fieldAddr Try.underlying108 rfl Try.sizeOf102 rfl rfl) ?_
    exact SO.nilZ fun a w h1 h2 h3 h4 h5 => PZ.of h1 h3 h5 (.cons () (.cons () (.nil ⟨EnvAll.of h2 ⟨rfl, rfl, trivial⟩, h4⟩)))
  · rintro Fr _ _
    refine SO.load1 rfl Try.isAgg102 rfl rfl ?_
    exact SO.nilZ fun a w h1 h2 h3 h4 h5 => PZ.of h1 h3 h5 (.cons () (.cons () (.cons () (.nil ⟨EnvAll.of h2 ⟨rfl, rfl, trivial⟩, h4⟩))))
  · rintro Fr _ _
    refine SO.load1 rfl Try.isAgg71 rfl rfl ?_
    exact SO.nilZ fun a w h1 h2 h3 h4 h5 => PZ.of h1 h3 h5 (.cons () (.cons () (.cons () (.nil ⟨EnvAll.of h2 ⟨rfl, rfl, trivial⟩, h4⟩))))
  · rintro Fr _
    refine SO.v rfl (opv_nilCheck rfl) ?_
    exact SO.nilZ fun a w h1 h2 h3 h4 h5 => PZ.of h1 h3 h5 (.cons () (.cons () (.nil ⟨EnvAll.of h2 ⟨rfl, rfl, trivial⟩, h4⟩)))
  · rintro Fr _
    refine SO.v rfl (opv_fieldAddr Try.underlying108 rfl Try.sizeOf3 rfl rfl) ?_
    exact SO.nilZ fun a w h1 h2 h3 h4 h5 => PZ.of h1 h3 h5 (.cons () (.cons () (.nil ⟨EnvAll.of h2 ⟨rfl, rfl, trivial⟩, h4⟩)))
  · rintro Fr _ _
    refine SO.load1 rfl Try.isAgg3 rfl rfl ?_
    exact SO.nilZ fun a w h1 h2 h3 h4 h5 => PZ.of h1 h3 h5 (.cons () (.cons () (.cons () (.nil ⟨EnvAll.of h2 ⟨rfl, rfl, trivial⟩, h4⟩))))
  · rintro Fr _ _ _
    refine SO.v rfl (opv_idx Try.underlying102 Try.sizeOf114 hr1 rfl rfl hx6) ?_
    exact SO.nilZ fun a w h1 h2 h3 h4 h5 => PZ.of h1 h3 h5 (.cons () (.cons () (.cons () (.cons () (.nil ⟨EnvAll.of h2 ⟨rfl, rfl, rfl, trivial⟩, h4⟩)))))
  · rintro Fr _ _
    refine SO.loadIN rfl Try.isAgg114 Try.sizeOf114 (Rd.head hr1) hx6 rfl rfl rfl ?_
    exact SO.nilZ fun a w h1 h2 h3 h4 h5 => PZ.of h1 h3 h5 (.cons () (.cons () (.cons () (.nil ⟨EnvAll.of h2 ⟨rfl, rfl, trivial⟩, h4⟩))))
  · rintro Fr 
    refine SO.alloc rfl Try.zeroValue114 rfl (fun b7 => ?_)
    exact SO.nilZ fun a w h1 h2 h3 h4 h5 => PZ.of h1 h3 h5 (.cons b7 (.nil ⟨EnvAll.of h2 ⟨rfl, trivial⟩, h4⟩))
  · rintro Fr _ b7
    refine SO.storeN Try.sizeOf114 rfl rfl rfl rfl rfl rfl ?_
    exact SO.nilZ fun a w h1 h2 h3 h4 h5 => PZ.of h1 h3 h5 (.cons () (.cons b7 (.nil ⟨EnvAll.of h2 ⟨rfl, rfl, trivial⟩, h4⟩)))
  rintro _ _ b7 _ _ _ _ _ _ _
  refine S.to (ρ' := [(2, bp b3 0), (3, bp b4 0), (4, bp b7 0)]) ⟨rfl, rfl, rfl, trivial⟩ ?_
  refine S.seq ?_
  refine S.region ?_
  refine SO.b2 ?_
  refine SO.load1 rfl Try.isAgg71 rfl rfl ?_
  refine SO.v rfl (opv_nilCheck rfl) ?_
  refine SO.v rfl (opv_fieldAddr Try.underlying108 rfl Try.sizeOf3 rfl rfl) ?_
  refine SO.b5 ?_
  refine SO.load1 rfl Try.isAgg3 rfl rfl ?_
  refine SO.v rfl (opv_add rfl rfl) ?_
  refine SO.v rfl (opv_nilCheck rfl) ?_
  refine SO.v rfl (opv_fieldAddr Try.underlying108 rfl Try.sizeOf3 rfl rfl) ?_
  refine SO.store1 Try.sizeOf3 rfl rfl rfl rfl ?_
  refine SO.nil ?_
  refine S.to (ρ' := [(2, bp b3 0), (3, bp b4 0), (4, bp b7 0)]) ⟨rfl, rfl, rfl, trivial⟩ ?_
  refine S.seq ?_
  refine S.seq ?_
  refine S.region ?_
  refine SO.b3 ?_
  refine SO.load1 rfl Try.isAgg27 rfl rfl ?_
  refine SO.v rfl (opv_fieldAddr Try.underlying114 rfl Try.sizeOf3 rfl rfl) ?_
  refine SO.b3 ?_
  refine SO.load1 rfl Try.isAgg3 rfl rfl ?_
  obtain ⟨⟨t8, t9⟩, ht10, h⟩ := opt_bind h
  refine SO.b4 ?_
  refine SO.b6 ?_
  refine SO.call (pre := [Box _ _, Own _ _ _ _]) rfl Try.call35 rfl rfl rfl (word_Store_Read.ct bp1 v1_l _ _ _ _ ht10) trivial ?_
  rintro _ _ ⟨rfl, rfl⟩
  refine SO.v rfl (opv_move rfl) ?_
  refine SO.v rfl (opv_extract rfl rfl) ?_
  refine SO.v rfl (opv_extract rfl rfl) ?_
  refine SO.alloc rfl Try.zeroValue88 rfl (fun b11 => ?_)
  refine SO.storeN Try.sizeOf88 rfl rfl rfl rfl rfl rfl ?_
  refine SO.v rfl (opv_assign rfl) ?_
  refine SO.nil ?_
  refine S.to (ρ' := [(2, bp b3 0), (3, bp b4 0), (4, bp b7 0), (5, bp b11 0), (6, errV 60 t9)]) ⟨rfl, rfl, rfl, rfl, rfl, trivial⟩ ?_
  refine S.seq ?_
  obtain ⟨j50_1, hC1, hJ1⟩ := opt_bind h
  clear h
  refine S.cutP (G := Unit) (fun _ => True) (fun _ => [(2, bp b3 0), (3, bp b4 0), (4, bp b7 0), (50, .bool j50_1)]) (fun _ => [Box b11 [.int .u64 t8.Value, .int .u32 t8.Version, .int .i64 t8.Mark], Box bp1 [v1_l, .int .u32 a1.limit], Own 88 ek_api_Cell v1_l a1.l, Box b7 [.int .i64 x5.Cell, .int .u32 x5.Version, .int .u64 x5.Old, .int .u64 x5.New, .bool x5.Write], Box b4 [bp bp1 0], Box bp0 [.int .i64 a0.mark, v0_l, .int .i64 a0.status, .int .i64 (w64 (a0.at_ + 1))], Box b3 [bp bp0 0], Own 114 ek_tx_Entry v0_l a0.l, F]) (fun hk1 => ?_) ?_
  · replace h := hC1
    rcases bool_or t9.isSome with b12 | b12
    · replace h := cond_t b12 h
      refine S.draw2 (Y := fun Q => ∃ (_ _ _ _ _ _ _ _ _ _ _ _ _ : Unit), Q [(6, errV 60 t9), (2, bp b3 0), (5, bp b11 0), (3, bp b4 0), (4, bp b7 0)] [Box b11 [.int .u64 t8.Value, .int .u32 t8.Version, .int .i64 t8.Mark], Box bp1 [v1_l, .int .u32 a1.limit], Own 88 ek_api_Cell v1_l a1.l, Box b7 [.int .i64 x5.Cell, .int .u32 x5.Version, .int .u64 x5.Old, .int .u64 x5.New, .bool x5.Write], Box b4 [bp bp1 0], Box bp0 [.int .i64 a0.mark, v0_l, .int .i64 a0.status, .int .i64 (w64 (a0.at_ + 1))], Box b3 [bp bp0 0], Own 114 ek_tx_Entry v0_l a0.l, F]) (Z := fun Q => ∀ (_ _ _ _ _ _ _ _ _ _ _ _ : Unit), Q [(2, bp b3 0), (3, bp b4 0), (4, bp b7 0), (50, .bool true)] [Box b11 [.int .u64 t8.Value, .int .u32 t8.Version, .int .i64 t8.Mark], Box bp1 [v1_l, .int .u32 a1.limit], Own 88 ek_api_Cell v1_l a1.l, Box b7 [.int .i64 x5.Cell, .int .u32 x5.Version, .int .u64 x5.Old, .int .u64 x5.New, .bool x5.Write], Box b4 [bp bp1 0], Box bp0 [.int .i64 a0.mark, v0_l, .int .i64 a0.status, .int .i64 (w64 (a0.at_ + 1))], Box b3 [bp bp0 0], Own 114 ek_tx_Entry v0_l a0.l, F]) (T := [tS 6 (errV 60 t9), tS 2 (bp b3 0), tS 5 (bp b11 0), tE [(3, bp b4 0), (4, bp b7 0)], tR (Box b11 [.int .u64 t8.Value, .int .u32 t8.Version, .int .i64 t8.Mark]), tR (Box bp1 [v1_l, .int .u32 a1.limit]), tR (Own 88 ek_api_Cell v1_l a1.l), tR (Box b7 [.int .i64 x5.Cell, .int .u32 x5.Version, .int .u64 x5.Old, .int .u64 x5.New, .bool x5.Write]), tR (Box b4 [bp bp1 0]), tR (Box bp0 [.int .i64 a0.mark, v0_l, .int .i64 a0.status, .int .i64 (w64 (a0.at_ + 1))]), tR (Box b3 [bp bp0 0]), tR (Own 114 ek_tx_Entry v0_l a0.l), tR (F), tS 33 (errV 60 t9), tS 34 (.bool t9.isSome), tS 35 (.bool t9.isSome), tS 36 (undef), tS 37 (undef), tS 38 (undef), tS 39 (undef), tS 40 (undef), tS 41 (.bool true), tS 42 (.bool true), tS 43 (undef), tS 44 (undef), tS 45 (undef), tS 46 (undef), tS 47 (undef), tS 48 (undef), tS 49 (undef), tS 50 (.bool true)]) (D := [⟨[0], [], [13]⟩, ⟨[13], [], [14]⟩, ⟨[14], [], [15]⟩, ⟨[15], [], [16]⟩, ⟨[15], [], [17]⟩, ⟨[15], [], [18]⟩, ⟨[15], [], [19]⟩, ⟨[15], [], [20]⟩, ⟨[15, 20], [], [21]⟩, ⟨[21], [], [22]⟩, ⟨[22], [], [23]⟩, ⟨[22], [], [24]⟩, ⟨[22], [], [25]⟩, ⟨[22], [], [26]⟩, ⟨[22], [], [27]⟩, ⟨[22], [], [28]⟩, ⟨[22], [], [29]⟩, ⟨[22, 29], [], [30]⟩]) (ini := [0, 1, 2, 3, 4, 5, 6, 7, 8, 9, 10, 11, 12]) (fin := [1, 3, 30, 4, 5, 6, 7, 8, 9, 10, 11, 12]) (bf := [[], [0], [0, 1], [0, 1, 2], [0, 1, 2, 3], [0, 1, 2, 3, 4], [0, 1, 2, 3, 4, 5], [0, 1, 2, 3, 4, 5, 6], [0, 1, 2, 3, 4, 5, 6, 7], [0, 1, 2, 3, 4, 5, 6, 7, 8], [0, 1, 2, 3, 4, 5, 6, 7, 8, 9], [0, 1, 2, 3, 4, 5, 6, 7, 8, 9, 10], [0, 1, 2, 3, 4, 5, 6, 7, 8, 9], [0, 1, 2, 3, 4, 5, 6, 7, 8, 9, 12], [0, 1, 2, 3, 4, 5, 6, 7, 8, 9, 12, 13], [0, 1, 2, 3, 4, 5, 6, 7, 8, 9, 12, 13, 14], [0, 1, 2, 3, 4, 5, 6, 7, 8, 9, 10, 11, 12, 13, 14, 15], [0, 1, 2, 3, 4, 5, 6, 7, 8, 9, 10, 11, 12, 13, 14, 15, 16]]) (by kernel_rfl) (by kernel_rfl) (fun Q => by kernel_rfl) (fun x w h1 h2 => ⟨(), (), (), (), (), (), (), (), (), (), (), (), (), EnvAll.of h1 ⟨rfl, rfl, rfl, rfl, rfl, trivial⟩, h2⟩) (fun Q => by kernel_rfl) ⟨?_, ?_, ?_, ?_, ?_, ?_, ?_, ?_, ?_, ?_, ?_, ?_, ?_, ?_, ?_, ?_, ?_, ?_, trivial⟩ ?_
      · rintro Fr _
        refine SO.v rfl (opv_move rfl) ?_
        exact SO.nilZ fun a w h1 h2 h3 h4 h5 => PZ.of h1 h3 h5 (.cons () (.cons () (.nil ⟨EnvAll.of h2 ⟨rfl, rfl, trivial⟩, h4⟩)))
      · rintro Fr _
        refine SO.v rfl (opv_neqN (e := t9) Try.underlying29 rfl) ?_
        exact SO.nilZ fun a w h1 h2 h3 h4 h5 => PZ.of h1 h3 h5 (.cons () (.cons () (.nil ⟨EnvAll.of h2 ⟨rfl, rfl, trivial⟩, h4⟩)))
      · rintro Fr _
        refine SO.v rfl (opv_move rfl) ?_
        exact SO.nilZ fun a w h1 h2 h3 h4 h5 => PZ.of h1 h3 h5 (.cons () (.cons () (.nil ⟨EnvAll.of h2 ⟨rfl, rfl, trivial⟩, h4⟩)))
      · rintro Fr _
        refine SO.passF rfl rfl rfl b12 rfl rfl ?_
        exact SO.nilZ fun a w h1 h2 h3 h4 h5 => PZ.of h1 h3 h5 (.cons () (.cons () (.nil ⟨EnvAll.of h2 ⟨rfl, rfl, trivial⟩, h4⟩)))
      · rintro Fr _
        refine SO.passF rfl rfl rfl b12 rfl rfl ?_
        exact SO.nilZ fun a w h1 h2 h3 h4 h5 => PZ.of h1 h3 h5 (.cons () (.cons () (.nil ⟨EnvAll.of h2 ⟨rfl, rfl, trivial⟩, h4⟩)))
      · rintro Fr _
        refine SO.passF rfl rfl rfl b12 rfl rfl ?_
        exact SO.nilZ fun a w h1 h2 h3 h4 h5 => PZ.of h1 h3 h5 (.cons () (.cons () (.nil ⟨EnvAll.of h2 ⟨rfl, rfl, trivial⟩, h4⟩)))
      · rintro Fr _
        refine SO.passF rfl rfl rfl b12 rfl rfl ?_
        exact SO.nilZ fun a w h1 h2 h3 h4 h5 => PZ.of h1 h3 h5 (.cons () (.cons () (.nil ⟨EnvAll.of h2 ⟨rfl, rfl, trivial⟩, h4⟩)))
      · rintro Fr _
        refine SO.passF rfl rfl rfl b12 rfl rfl ?_
        exact SO.nilZ fun a w h1 h2 h3 h4 h5 => PZ.of h1 h3 h5 (.cons () (.cons () (.nil ⟨EnvAll.of h2 ⟨rfl, rfl, trivial⟩, h4⟩)))
      · rintro Fr _ _
        refine SO.v rfl (opv_pick_t' b12 rfl rfl) ?_
        exact SO.nilZ fun a w h1 h2 h3 h4 h5 => PZ.of h1 h3 h5 (.cons () (.cons () (.cons () (.nil ⟨EnvAll.of h2 ⟨rfl, rfl, rfl, trivial⟩, h4⟩))))
      · rintro Fr _
        refine SO.v rfl (opv_move rfl) ?_
        exact SO.nilZ fun a w h1 h2 h3 h4 h5 => PZ.of h1 h3 h5 (.cons () (.cons () (.nil ⟨EnvAll.of h2 ⟨rfl, rfl, trivial⟩, h4⟩)))
      · rintro Fr _
        refine SO.passF rfl rfl rfl rfl rfl rfl ?_
        exact SO.nilZ fun a w h1 h2 h3 h4 h5 => PZ.of h1 h3 h5 (.cons () (.cons () (.nil ⟨EnvAll.of h2 ⟨rfl, rfl, trivial⟩, h4⟩)))
      · rintro Fr _
        refine SO.passF rfl rfl rfl rfl rfl rfl ?_
        exact SO.nilZ fun a w h1 h2 h3 h4 h5 => PZ.of h1 h3 h5 (.cons () (.cons () (.nil ⟨EnvAll.of h2 ⟨rfl, rfl, trivial⟩, h4⟩)))
      · rintro Fr _
        refine SO.passF rfl rfl rfl rfl rfl rfl ?_
        exact SO.nilZ fun a w h1 h2 h3 h4 h5 => PZ.of h1 h3 h5 (.cons () (.cons () (.nil ⟨EnvAll.of h2 ⟨rfl, rfl, trivial⟩, h4⟩)))
      · rintro Fr _
        refine SO.passF rfl rfl rfl rfl rfl rfl ?_
        exact SO.nilZ fun a w h1 h2 h3 h4 h5 => PZ.of h1 h3 h5 (.cons () (.cons () (.nil ⟨EnvAll.of h2 ⟨rfl, rfl, trivial⟩, h4⟩)))
      · rintro Fr _
        refine SO.passF rfl rfl rfl rfl rfl rfl ?_
        exact SO.nilZ fun a w h1 h2 h3 h4 h5 => PZ.of h1 h3 h5 (.cons () (.cons () (.nil ⟨EnvAll.of h2 ⟨rfl, rfl, trivial⟩, h4⟩)))
      · rintro Fr _
        refine SO.passF rfl rfl rfl rfl rfl rfl ?_
        exact SO.nilZ fun a w h1 h2 h3 h4 h5 => PZ.of h1 h3 h5 (.cons () (.cons () (.nil ⟨EnvAll.of h2 ⟨rfl, rfl, trivial⟩, h4⟩)))
      · rintro Fr _
        refine SO.passF rfl rfl rfl rfl rfl rfl ?_
        exact SO.nilZ fun a w h1 h2 h3 h4 h5 => PZ.of h1 h3 h5 (.cons () (.cons () (.nil ⟨EnvAll.of h2 ⟨rfl, rfl, trivial⟩, h4⟩)))
      · rintro Fr _ _
        refine SO.v rfl (opv_pick_tt rfl rfl) ?_
        exact SO.nilZ fun a w h1 h2 h3 h4 h5 => PZ.of h1 h3 h5 (.cons () (.cons () (.cons () (.nil ⟨EnvAll.of h2 ⟨rfl, rfl, rfl, trivial⟩, h4⟩))))
      rintro _ _ _ _ _ _ _ _ _ _ _ _
      refine S.to (ρ' := [(2, bp b3 0), (3, bp b4 0), (4, bp b7 0), (50, .bool true)]) ⟨rfl, rfl, rfl, rfl, trivial⟩ ?_
      cases h
      refine S.b8 ?_
      refine S.b8 ?_
      refine S.b8 ?_
      refine S.b8 ?_
      refine S.b8 ?_
      refine S.b8 ?_
      refine S.b8 ?_
      refine S.b8 ?_
      refine S.b8 ?_
      refine S.to ?_ (hk1 () trivial)
      exact ⟨rfl, rfl, rfl, rfl, trivial⟩
    replace h := cond_f b12 h
    rcases bool_or (decide (a0.mark < 1)) with b13 | b13
    · replace h := cond_t b13 h
      refine S.draw2 (Y := fun Q => ∃ (_ _ _ _ _ _ _ _ _ _ _ _ _ : Unit), Q [(6, errV 60 t9), (2, bp b3 0), (5, bp b11 0), (3, bp b4 0), (4, bp b7 0)] [Box b11 [.int .u64 t8.Value, .int .u32 t8.Version, .int .i64 t8.Mark], Box bp1 [v1_l, .int .u32 a1.limit], Own 88 ek_api_Cell v1_l a1.l, Box b7 [.int .i64 x5.Cell, .int .u32 x5.Version, .int .u64 x5.Old, .int .u64 x5.New, .bool x5.Write], Box b4 [bp bp1 0], Box bp0 [.int .i64 a0.mark, v0_l, .int .i64 a0.status, .int .i64 (w64 (a0.at_ + 1))], Box b3 [bp bp0 0], Own 114 ek_tx_Entry v0_l a0.l, F]) (Z := fun Q => ∀ (_ _ _ _ _ _ _ _ _ _ _ _ : Unit), Q [(2, bp b3 0), (3, bp b4 0), (4, bp b7 0), (50, .bool true)] [Box b11 [.int .u64 t8.Value, .int .u32 t8.Version, .int .i64 t8.Mark], Box bp1 [v1_l, .int .u32 a1.limit], Own 88 ek_api_Cell v1_l a1.l, Box b7 [.int .i64 x5.Cell, .int .u32 x5.Version, .int .u64 x5.Old, .int .u64 x5.New, .bool x5.Write], Box b4 [bp bp1 0], Box bp0 [.int .i64 a0.mark, v0_l, .int .i64 a0.status, .int .i64 (w64 (a0.at_ + 1))], Box b3 [bp bp0 0], Own 114 ek_tx_Entry v0_l a0.l, F]) (T := [tS 6 (errV 60 t9), tS 2 (bp b3 0), tS 5 (bp b11 0), tE [(3, bp b4 0), (4, bp b7 0)], tR (Box b11 [.int .u64 t8.Value, .int .u32 t8.Version, .int .i64 t8.Mark]), tR (Box bp1 [v1_l, .int .u32 a1.limit]), tR (Own 88 ek_api_Cell v1_l a1.l), tR (Box b7 [.int .i64 x5.Cell, .int .u32 x5.Version, .int .u64 x5.Old, .int .u64 x5.New, .bool x5.Write]), tR (Box b4 [bp bp1 0]), tR (Box bp0 [.int .i64 a0.mark, v0_l, .int .i64 a0.status, .int .i64 (w64 (a0.at_ + 1))]), tR (Box b3 [bp bp0 0]), tR (Own 114 ek_tx_Entry v0_l a0.l), tR (F), tS 33 (errV 60 t9), tS 34 (.bool t9.isSome), tS 35 (.bool t9.isSome), tS 36 (bp bp0 0), tS 37 (bp bp0 0), tS 38 (bp bp0 0), tS 39 (.int .i64 a0.mark), tS 40 (.bool (decide (a0.mark < 1))), tS 41 (.bool (decide (a0.mark < 1))), tS 42 (.bool (decide (a0.mark < 1))), tS 43 (undef), tS 44 (undef), tS 45 (undef), tS 46 (undef), tS 47 (undef), tS 48 (undef), tS 49 (undef), tS 50 (.bool true)]) (D := [⟨[0], [], [13]⟩, ⟨[13], [], [14]⟩, ⟨[14], [], [15]⟩, ⟨[1, 15, 10], [], [16]⟩, ⟨[15, 16], [], [17]⟩, ⟨[15, 17], [], [18]⟩, ⟨[15, 18, 9], [], [19]⟩, ⟨[15, 19], [], [20]⟩, ⟨[15, 20], [], [21]⟩, ⟨[21], [], [22]⟩, ⟨[22], [], [23]⟩, ⟨[22], [], [24]⟩, ⟨[22], [], [25]⟩, ⟨[22], [], [26]⟩, ⟨[22], [], [27]⟩, ⟨[22], [], [28]⟩, ⟨[22], [], [29]⟩, ⟨[22, 29], [], [30]⟩]) (ini := [0, 1, 2, 3, 4, 5, 6, 7, 8, 9, 10, 11, 12]) (fin := [1, 3, 30, 4, 5, 6, 7, 8, 9, 10, 11, 12]) (bf := [[], [0], [0, 1], [0, 1, 2], [0, 1, 2, 3], [0, 1, 2, 3, 4], [0, 1, 2, 3, 4, 5], [0, 1, 2, 3, 4, 5, 6], [0, 1, 2, 3, 4, 5, 6, 7], [0, 1, 2, 3, 4, 5, 6, 7, 8], [0, 1, 2, 3, 4, 5, 6, 7, 8, 9], [0, 1, 2, 3, 4, 5, 6, 7, 8, 9, 10], [0, 1, 2, 3, 4, 5, 6, 7, 8, 9], [0, 1, 2, 3, 4, 5, 6, 7, 8, 9, 12], [0, 1, 2, 3, 4, 5, 6, 7, 8, 9, 12, 13], [0, 1, 2, 3, 4, 5, 6, 7, 8, 9, 12, 13, 14], [0, 1, 2, 3, 4, 5, 6, 7, 8, 9, 10, 11, 12, 13, 14, 15], [0, 1, 2, 3, 4, 5, 6, 7, 8, 9, 10, 11, 12, 13, 14, 15, 16]]) (by kernel_rfl) (by kernel_rfl) (fun Q => by kernel_rfl) (fun x w h1 h2 => ⟨(), (), (), (), (), (), (), (), (), (), (), (), (), EnvAll.of h1 ⟨rfl, rfl, rfl, rfl, rfl, trivial⟩, h2⟩) (fun Q => by kernel_rfl) ⟨?_, ?_, ?_, ?_, ?_, ?_, ?_, ?_, ?_, ?_, ?_, ?_, ?_, ?_, ?_, ?_, ?_, ?_, trivial⟩ ?_
      · rintro Fr _
        refine SO.v rfl (opv_move rfl) ?_
        exact SO.nilZ fun a w h1 h2 h3 h4 h5 => PZ.of h1 h3 h5 (.cons () (.cons () (.nil ⟨EnvAll.of h2 ⟨rfl, rfl, trivial⟩, h4⟩)))
      · rintro Fr _
        refine SO.v rfl (opv_neqN (e := t9) Try.underlying29 rfl) ?_
        exact SO.nilZ fun a w h1 h2 h3 h4 h5 => PZ.of h1 h3 h5 (.cons () (.cons () (.nil ⟨EnvAll.of h2 ⟨rfl, rfl, trivial⟩, h4⟩)))
      · rintro Fr _
        refine SO.v rfl (opv_move rfl) ?_
        exact SO.nilZ fun a w h1 h2 h3 h4 h5 => PZ.of h1 h3 h5 (.cons () (.cons () (.nil ⟨EnvAll.of h2 ⟨rfl, rfl, trivial⟩, h4⟩)))
      · rintro Fr _ _ _
        refine SO.takeT rfl rfl rfl b12 ?_
        refine SO.load1 rfl Try.isAgg71 rfl rfl ?_
        exact SO.nilZ fun a w h1 h2 h3 h4 h5 => PZ.of h1 h3 h5 (.cons () (.cons () (.cons () (.cons () (.nil ⟨EnvAll.of h2 ⟨rfl, rfl, rfl, trivial⟩, h4⟩)))))
      · rintro Fr _ _
        refine SO.takeT rfl rfl rfl b12 ?_
        refine SO.v rfl (opv_nilCheck rfl) ?_
        exact SO.nilZ fun a w h1 h2 h3 h4 h5 => PZ.of h1 h3 h5 (.cons () (.cons () (.cons () (.nil ⟨EnvAll.of h2 ⟨rfl, rfl, rfl, trivial⟩, h4⟩))))
      · rintro Fr _ _
        refine SO.takeT rfl rfl rfl b12 ?_
        refine SO.v rfl (opv_fieldAddr Try.underlying108 rfl Try.sizeOf3 rfl rfl) ?_
        exact SO.nilZ fun a w h1 h2 h3 h4 h5 => PZ.of h1 h3 h5 (.cons () (.cons () (.cons () (.nil ⟨EnvAll.of h2 ⟨rfl, rfl, rfl, trivial⟩, h4⟩))))
      · rintro Fr _ _ _
        refine SO.takeT rfl rfl rfl b12 ?_
        refine SO.load1 rfl Try.isAgg3 rfl rfl ?_
        exact SO.nilZ fun a w h1 h2 h3 h4 h5 => PZ.of h1 h3 h5 (.cons () (.cons () (.cons () (.cons () (.nil ⟨EnvAll.of h2 ⟨rfl, rfl, rfl, trivial⟩, h4⟩)))))
      · rintro Fr _ _
        refine SO.takeT rfl rfl rfl b12 ?_
        refine SO.v rfl (opv_lss rfl rfl) ?_
        exact SO.nilZ fun a w h1 h2 h3 h4 h5 => PZ.of h1 h3 h5 (.cons () (.cons () (.cons () (.nil ⟨EnvAll.of h2 ⟨rfl, rfl, rfl, trivial⟩, h4⟩))))
      · rintro Fr _ _
        refine SO.v rfl (opv_pick_f' b12 rfl rfl) ?_
        exact SO.nilZ fun a w h1 h2 h3 h4 h5 => PZ.of h1 h3 h5 (.cons () (.cons () (.cons () (.nil ⟨EnvAll.of h2 ⟨rfl, rfl, rfl, trivial⟩, h4⟩))))
      · rintro Fr _
        refine SO.v rfl (opv_move rfl) ?_
        exact SO.nilZ fun a w h1 h2 h3 h4 h5 => PZ.of h1 h3 h5 (.cons () (.cons () (.nil ⟨EnvAll.of h2 ⟨rfl, rfl, trivial⟩, h4⟩)))
      · rintro Fr _
        refine SO.passF rfl rfl rfl b13 rfl rfl ?_
        exact SO.nilZ fun a w h1 h2 h3 h4 h5 => PZ.of h1 h3 h5 (.cons () (.cons () (.nil ⟨EnvAll.of h2 ⟨rfl, rfl, trivial⟩, h4⟩)))
      · rintro Fr _
        refine SO.passF rfl rfl rfl b13 rfl rfl ?_
        exact SO.nilZ fun a w h1 h2 h3 h4 h5 => PZ.of h1 h3 h5 (.cons () (.cons () (.nil ⟨EnvAll.of h2 ⟨rfl, rfl, trivial⟩, h4⟩)))
      · rintro Fr _
        refine SO.passF rfl rfl rfl b13 rfl rfl ?_
        exact SO.nilZ fun a w h1 h2 h3 h4 h5 => PZ.of h1 h3 h5 (.cons () (.cons () (.nil ⟨EnvAll.of h2 ⟨rfl, rfl, trivial⟩, h4⟩)))
      · rintro Fr _
        refine SO.passF rfl rfl rfl b13 rfl rfl ?_
        exact SO.nilZ fun a w h1 h2 h3 h4 h5 => PZ.of h1 h3 h5 (.cons () (.cons () (.nil ⟨EnvAll.of h2 ⟨rfl, rfl, trivial⟩, h4⟩)))
      · rintro Fr _
        refine SO.passF rfl rfl rfl b13 rfl rfl ?_
        exact SO.nilZ fun a w h1 h2 h3 h4 h5 => PZ.of h1 h3 h5 (.cons () (.cons () (.nil ⟨EnvAll.of h2 ⟨rfl, rfl, trivial⟩, h4⟩)))
      · rintro Fr _
        refine SO.passF rfl rfl rfl b13 rfl rfl ?_
        exact SO.nilZ fun a w h1 h2 h3 h4 h5 => PZ.of h1 h3 h5 (.cons () (.cons () (.nil ⟨EnvAll.of h2 ⟨rfl, rfl, trivial⟩, h4⟩)))
      · rintro Fr _
        refine SO.passF rfl rfl rfl b13 rfl rfl ?_
        exact SO.nilZ fun a w h1 h2 h3 h4 h5 => PZ.of h1 h3 h5 (.cons () (.cons () (.nil ⟨EnvAll.of h2 ⟨rfl, rfl, trivial⟩, h4⟩)))
      · rintro Fr _ _
        refine SO.v rfl (opv_pick_t' b13 rfl rfl) ?_
        exact SO.nilZ fun a w h1 h2 h3 h4 h5 => PZ.of h1 h3 h5 (.cons () (.cons () (.cons () (.nil ⟨EnvAll.of h2 ⟨rfl, rfl, rfl, trivial⟩, h4⟩))))
      rintro _ _ _ _ _ _ _ _ _ _ _ _
      refine S.to (ρ' := [(2, bp b3 0), (3, bp b4 0), (4, bp b7 0), (50, .bool true)]) ⟨rfl, rfl, rfl, rfl, trivial⟩ ?_
      cases h
      refine S.b8 ?_
      refine S.b8 ?_
      refine S.b8 ?_
      refine S.b8 ?_
      refine S.b8 ?_
      refine S.b8 ?_
      refine S.b8 ?_
      refine S.b8 ?_
      refine S.b8 ?_
      refine S.to ?_ (hk1 () trivial)
      exact ⟨rfl, rfl, rfl, rfl, trivial⟩
    replace h := cond_f b13 h
    refine S.draw2 (Y := fun Q => ∃ (_ _ _ _ _ _ _ _ _ _ _ _ _ : Unit), Q [(6, errV 60 t9), (2, bp b3 0), (5, bp b11 0), (3, bp b4 0), (4, bp b7 0)] [Box b11 [.int .u64 t8.Value, .int .u32 t8.Version, .int .i64 t8.Mark], Box bp1 [v1_l, .int .u32 a1.limit], Own 88 ek_api_Cell v1_l a1.l, Box b7 [.int .i64 x5.Cell, .int .u32 x5.Version, .int .u64 x5.Old, .int .u64 x5.New, .bool x5.Write], Box b4 [bp bp1 0], Box bp0 [.int .i64 a0.mark, v0_l, .int .i64 a0.status, .int .i64 (w64 (a0.at_ + 1))], Box b3 [bp bp0 0], Own 114 ek_tx_Entry v0_l a0.l, F]) (Z := fun Q => ∀ (_ _ _ _ _ _ _ _ _ _ _ _ : Unit), Q [(2, bp b3 0), (3, bp b4 0), (4, bp b7 0), (50, .bool (t8.Mark != a0.mark))] [Box b11 [.int .u64 t8.Value, .int .u32 t8.Version, .int .i64 t8.Mark], Box bp1 [v1_l, .int .u32 a1.limit], Own 88 ek_api_Cell v1_l a1.l, Box b7 [.int .i64 x5.Cell, .int .u32 x5.Version, .int .u64 x5.Old, .int .u64 x5.New, .bool x5.Write], Box b4 [bp bp1 0], Box bp0 [.int .i64 a0.mark, v0_l, .int .i64 a0.status, .int .i64 (w64 (a0.at_ + 1))], Box b3 [bp bp0 0], Own 114 ek_tx_Entry v0_l a0.l, F]) (T := [tS 6 (errV 60 t9), tS 2 (bp b3 0), tS 5 (bp b11 0), tE [(3, bp b4 0), (4, bp b7 0)], tR (Box b11 [.int .u64 t8.Value, .int .u32 t8.Version, .int .i64 t8.Mark]), tR (Box bp1 [v1_l, .int .u32 a1.limit]), tR (Own 88 ek_api_Cell v1_l a1.l), tR (Box b7 [.int .i64 x5.Cell, .int .u32 x5.Version, .int .u64 x5.Old, .int .u64 x5.New, .bool x5.Write]), tR (Box b4 [bp bp1 0]), tR (Box bp0 [.int .i64 a0.mark, v0_l, .int .i64 a0.status, .int .i64 (w64 (a0.at_ + 1))]), tR (Box b3 [bp bp0 0]), tR (Own 114 ek_tx_Entry v0_l a0.l), tR (F), tS 33 (errV 60 t9), tS 34 (.bool t9.isSome), tS 35 (.bool t9.isSome), tS 36 (bp bp0 0), tS 37 (bp bp0 0), tS 38 (bp bp0 0), tS 39 (.int .i64 a0.mark), tS 40 (.bool (decide (a0.mark < 1))), tS 41 (.bool (decide (a0.mark < 1))), tS 42 (.bool (decide (a0.mark < 1))), tS 43 (bp b11 2), tS 44 (.int .i64 t8.Mark), tS 45 (bp bp0 0), tS 46 (bp bp0 0), tS 47 (bp bp0 0), tS 48 (.int .i64 a0.mark), tS 49 (.bool (t8.Mark != a0.mark)), tS 50 (.bool (t8.Mark != a0.mark))]) (D := [⟨[0], [], [13]⟩, ⟨[13], [], [14]⟩, ⟨[14], [], [15]⟩, ⟨[1, 15, 10], [], [16]⟩, ⟨[15, 16], [], [17]⟩, ⟨[15, 17], [], [18]⟩, ⟨[15, 18, 9], [], [19]⟩, ⟨[15, 19], [], [20]⟩, ⟨[15, 20], [], [21]⟩, ⟨[21], [], [22]⟩, ⟨[2, 22], [], [23]⟩, ⟨[22, 23, 4], [], [24]⟩, ⟨[1, 22, 10], [], [25]⟩, ⟨[22, 25], [], [26]⟩, ⟨[22, 26], [], [27]⟩, ⟨[22, 27, 9], [], [28]⟩, ⟨[22, 24, 28], [], [29]⟩, ⟨[22, 29], [], [30]⟩]) (ini := [0, 1, 2, 3, 4, 5, 6, 7, 8, 9, 10, 11, 12]) (fin := [1, 3, 30, 4, 5, 6, 7, 8, 9, 10, 11, 12]) (bf := [[], [0], [0, 1], [0, 1, 2], [0, 1, 2, 3], [0, 1, 2, 3, 4], [0, 1, 2, 3, 4, 5], [0, 1, 2, 3, 4, 5, 6], [0, 1, 2, 3, 4, 5, 6, 7], [0, 1, 2, 3, 4, 5, 6, 7, 8], [0, 1, 2, 3, 4, 5, 6, 7, 8, 9], [0, 1, 2, 3, 4, 5, 6, 7, 8, 9, 10], [0, 1, 2, 3, 4, 5, 6, 7, 8, 9], [0, 1, 2, 3, 4, 5, 6, 7, 8, 9, 12], [0, 1, 2, 3, 4, 5, 6, 7, 8, 9, 12, 13], [0, 1, 2, 3, 4, 5, 6, 7, 8, 9, 12, 13, 14], [0, 1, 2, 3, 4, 5, 6, 7, 8, 9, 10, 11, 12, 13, 14, 15], [0, 1, 2, 3, 4, 5, 6, 7, 8, 9, 10, 11, 12, 13, 14, 15, 16]]) (by kernel_rfl) (by kernel_rfl) (fun Q => by kernel_rfl) (fun x w h1 h2 => ⟨(), (), (), (), (), (), (), (), (), (), (), (), (), EnvAll.of h1 ⟨rfl, rfl, rfl, rfl, rfl, trivial⟩, h2⟩) (fun Q => by kernel_rfl) ⟨?_, ?_, ?_, ?_, ?_, ?_, ?_, ?_, ?_, ?_, ?_, ?_, ?_, ?_, ?_, ?_, ?_, ?_, trivial⟩ ?_
    · rintro Fr _
      refine SO.v rfl (opv_move rfl) ?_
      exact SO.nilZ fun a w h1 h2 h3 h4 h5 => PZ.of h1 h3 h5 (.cons () (.cons () (.nil ⟨EnvAll.of h2 ⟨rfl, rfl, trivial⟩, h4⟩)))
    · rintro Fr _
      refine SO.v rfl (opv_neqN (e := t9) Try.underlying29 rfl) ?_
      exact SO.nilZ fun a w h1 h2 h3 h4 h5 => PZ.of h1 h3 h5 (.cons () (.cons () (.nil ⟨EnvAll.of h2 ⟨rfl, rfl, trivial⟩, h4⟩)))
    · rintro Fr _
      refine SO.v rfl (opv_move rfl) ?_
      exact SO.nilZ fun a w h1 h2 h3 h4 h5 => PZ.of h1 h3 h5 (.cons () (.cons () (.nil ⟨EnvAll.of h2 ⟨rfl, rfl, trivial⟩, h4⟩)))
    · rintro Fr _ _ _
      refine SO.takeT rfl rfl rfl b12 ?_
      refine SO.load1 rfl Try.isAgg71 rfl rfl ?_
      exact SO.nilZ fun a w h1 h2 h3 h4 h5 => PZ.of h1 h3 h5 (.cons () (.cons () (.cons () (.cons () (.nil ⟨EnvAll.of h2 ⟨rfl, rfl, rfl, trivial⟩, h4⟩)))))
    · rintro Fr _ _
      refine SO.takeT rfl rfl rfl b12 ?_
      refine SO.v rfl (opv_nilCheck rfl) ?_
      exact SO.nilZ fun a w h1 h2 h3 h4 h5 => PZ.of h1 h3 h5 (.cons () (.cons () (.cons () (.nil ⟨EnvAll.of h2 ⟨rfl, rfl, rfl, trivial⟩, h4⟩))))
    · rintro Fr _ _
      refine SO.takeT rfl rfl rfl b12 ?_
      refine SO.v rfl (opv_fieldAddr Try.underlying108 rfl Try.sizeOf3 rfl rfl) ?_
      exact SO.nilZ fun a w h1 h2 h3 h4 h5 => PZ.of h1 h3 h5 (.cons () (.cons () (.cons () (.nil ⟨EnvAll.of h2 ⟨rfl, rfl, rfl, trivial⟩, h4⟩))))
    · rintro Fr _ _ _
      refine SO.takeT rfl rfl rfl b12 ?_
      refine SO.load1 rfl Try.isAgg3 rfl rfl ?_
      exact SO.nilZ fun a w h1 h2 h3 h4 h5 => PZ.of h1 h3 h5 (.cons () (.cons () (.cons () (.cons () (.nil ⟨EnvAll.of h2 ⟨rfl, rfl, rfl, trivial⟩, h4⟩)))))
    · rintro Fr _ _
      refine SO.takeT rfl rfl rfl b12 ?_
      refine SO.v rfl (opv_lss rfl rfl) ?_
      exact SO.nilZ fun a w h1 h2 h3 h4 h5 => PZ.of h1 h3 h5 (.cons () (.cons () (.cons () (.nil ⟨EnvAll.of h2 ⟨rfl, rfl, rfl, trivial⟩, h4⟩))))
    · rintro Fr _ _
      refine SO.v rfl (opv_pick_f' b12 rfl rfl) ?_
      exact SO.nilZ fun a w h1 h2 h3 h4 h5 => PZ.of h1 h3 h5 (.cons () (.cons () (.cons () (.nil ⟨EnvAll.of h2 ⟨rfl, rfl, rfl, trivial⟩, h4⟩))))
    · rintro Fr _
      refine SO.v rfl (opv_move rfl) ?_
      exact SO.nilZ fun a w h1 h2 h3 h4 h5 => PZ.of h1 h3 h5 (.cons () (.cons () (.nil ⟨EnvAll.of h2 ⟨rfl, rfl, trivial⟩, h4⟩)))
    · rintro Fr _ _
      refine SO.takeT rfl rfl rfl b13 ?_
      refine SO.v rfl (opv_fieldAddr Try.underlying88 rfl Try.sizeOf3 rfl rfl) ?_
      exact SO.nilZ fun a w h1 h2 h3 h4 h5 => PZ.of h1 h3 h5 (.cons () (.cons () (.cons () (.nil ⟨EnvAll.of h2 ⟨rfl, rfl, rfl, trivial⟩, h4⟩))))
    · rintro Fr _ _ _
      refine SO.takeT rfl rfl rfl b13 ?_
      refine SO.load1 rfl Try.isAgg3 rfl rfl ?_
      exact SO.nilZ fun a w h1 h2 h3 h4 h5 => PZ.of h1 h3 h5 (.cons () (.cons () (.cons () (.cons () (.nil ⟨EnvAll.of h2 ⟨rfl, rfl, rfl, trivial⟩, h4⟩)))))
    · rintro Fr _ _ _
      refine SO.takeT rfl rfl rfl b13 ?_
      refine SO.load1 rfl Try.isAgg71 rfl rfl ?_
      exact SO.nilZ fun a w h1 h2 h3 h4 h5 => PZ.of h1 h3 h5 (.cons () (.cons () (.cons () (.cons () (.nil ⟨EnvAll.of h2 ⟨rfl, rfl, rfl, trivial⟩, h4⟩)))))
    · rintro Fr _ _
      refine SO.takeT rfl rfl rfl b13 ?_
      refine SO.v rfl (opv_nilCheck rfl) ?_
      exact SO.nilZ fun a w h1 h2 h3 h4 h5 => PZ.of h1 h3 h5 (.cons () (.cons () (.cons () (.nil ⟨EnvAll.of h2 ⟨rfl, rfl, rfl, trivial⟩, h4⟩))))
    · rintro Fr _ _
      refine SO.takeT rfl rfl rfl b13 ?_
      refine SO.v rfl (opv_fieldAddr Try.underlying108 rfl Try.sizeOf3 rfl rfl) ?_
      exact SO.nilZ fun a w h1 h2 h3 h4 h5 => PZ.of h1 h3 h5 (.cons () (.cons () (.cons () (.nil ⟨EnvAll.of h2 ⟨rfl, rfl, rfl, trivial⟩, h4⟩))))
    · rintro Fr _ _ _
      refine SO.takeT rfl rfl rfl b13 ?_
      refine SO.load1 rfl Try.isAgg3 rfl rfl ?_
      exact SO.nilZ fun a w h1 h2 h3 h4 h5 => PZ.of h1 h3 h5 (.cons () (.cons () (.cons () (.cons () (.nil ⟨EnvAll.of h2 ⟨rfl, rfl, rfl, trivial⟩, h4⟩)))))
    · rintro Fr _ _ _
      refine SO.takeT rfl rfl rfl b13 ?_
      refine SO.v rfl (opv_neq rfl rfl) ?_
      exact SO.nilZ fun a w h1 h2 h3 h4 h5 => PZ.of h1 h3 h5 (.cons () (.cons () (.cons () (.cons () (.nil ⟨EnvAll.of h2 ⟨rfl, rfl, rfl, rfl, trivial⟩, h4⟩)))))
    · rintro Fr _ _
      refine SO.v rfl (opv_pick_f' b13 rfl rfl) ?_
      exact SO.nilZ fun a w h1 h2 h3 h4 h5 => PZ.of h1 h3 h5 (.cons () (.cons () (.cons () (.nil ⟨EnvAll.of h2 ⟨rfl, rfl, rfl, trivial⟩, h4⟩))))
    rintro _ _ _ _ _ _ _ _ _ _ _ _
    refine S.to (ρ' := [(2, bp b3 0), (3, bp b4 0), (4, bp b7 0), (50, .bool (t8.Mark != a0.mark))]) ⟨rfl, rfl, rfl, rfl, trivial⟩ ?_
    cases h
    refine S.b8 ?_
    refine S.b8 ?_
    refine S.b8 ?_
    refine S.b8 ?_
    refine S.b8 ?_
    refine S.b8 ?_
    refine S.b8 ?_
    refine S.b8 ?_
    refine S.b8 ?_
    refine S.to ?_ (hk1 () trivial)
    exact ⟨rfl, rfl, rfl, rfl, trivial⟩
  rintro _ -
  replace h := hJ1
  rcases bool_or j50_1 with b14 | b14
  · replace h := cond_t b14 h
    refine S.condT rfl b14 ?_
    cases h
    refine S.drop ?_
    refine S.b2 ?_
    refine S.drop ?_
    refine S.b2 ?_
    refine S.drop ?_
    refine S.b3 ?_
    refine S.drop ?_
    refine S.b4 ?_
    refine S.b2 ?_
    refine S.b2 ?_
    refine S.b4 ?_
    refine S.b4 ?_
    exact S.ret0 Try.func51 rfl (fun w hs hk => hR w _ _ ⟨v0_l, v1_l, rfl, rfl⟩ hs hk)
  replace h := cond_f b14 h
  refine S.condF rfl b14 ?_
  refine S.skip ?_
  refine S.seq ?_
  refine S.region ?_
  refine SO.v rfl (opv_makeFunc rfl rfl) ?_
  refine SO.v rfl (opv_assign rfl) ?_
  refine SO.nil ?_
  refine S.seq ?_
  refine S.seq ?_
  refine S.region ?_
  refine SO.b6 ?_
  refine SO.load1 rfl Try.isAgg71 rfl rfl ?_
  refine SO.v rfl (opv_nilCheck rfl) ?_
  refine SO.v rfl (opv_fieldAddr Try.underlying108 rfl Try.sizeOf3 rfl rfl) ?_
  refine SO.b6 ?_
  refine SO.load1 rfl Try.isAgg3 rfl rfl ?_
  refine SO.v rfl (opv_eql rfl rfl) ?_
  refine SO.v rfl (opv_move rfl) ?_
  obtain ⟨c16, hc17, hgk⟩ := opt_bind h
  refine SO.cut 3 60 (.bool c16) [Box bp0 [.int .i64 a0.mark, v0_l, .int .i64 a0.status, .int .i64 (w64 (a0.at_ + 1))], Box b3 [bp bp0 0], Box b11 [.int .u64 t8.Value, .int .u32 t8.Version, .int .i64 t8.Mark], Box bp1 [v1_l, .int .u32 a1.limit], Own 88 ek_api_Cell v1_l a1.l, Box b7 [.int .i64 x5.Cell, .int .u32 x5.Version, .int .u64 x5.Old, .int .u64 x5.New, .bool x5.Write], Box b4 [bp bp1 0], Own 114 ek_tx_Entry v0_l a0.l, F] (fun l2 hk2 => ?_) ?_
  · clear hgk
    replace h := hc17
    rcases bool_or (a0.status == 1) with b15 | b15
    · replace h := cond_t b15 h
      refine SO.takeT rfl rfl rfl b15 ?_
      refine SO.v rfl (opv_fieldAddr Try.underlying114 rfl Try.sizeOf4 rfl rfl) ?_
      refine SO.takeT rfl rfl rfl b15 ?_
      refine SO.b5 ?_
      refine SO.load1 rfl Try.isAgg4 rfl rfl ?_
      cases h
      refine SO.v rfl (opv_pick_t' b15 rfl rfl) ?_
      refine SO.b8 ?_
      refine SO.b8 ?_
      refine SO.b8 ?_
      refine SO.b3 ?_
      refine SO.b8 ?_
      refine SO.b8 ?_
      refine SO.b8 ?_
      refine SO.b8 ?_
      refine SO.b8 ?_
      exact hk2.fitc (m := 3) rfl (rfl) rfl
    replace h := cond_f b15 h
    refine SO.passF rfl rfl rfl b15 rfl rfl ?_
    refine SO.passF rfl rfl rfl b15 rfl rfl ?_
    cases h
    refine SO.v rfl (opv_pick_f' b15 rfl rfl) ?_
    refine SO.b8 ?_
    refine SO.b8 ?_
    refine SO.b8 ?_
    refine SO.b8 ?_
    refine SO.b8 ?_
    refine SO.b8 ?_
    refine SO.b8 ?_
    refine SO.b8 ?_
    refine SO.b8 ?_
    exact hk2.fitc (m := 3) rfl (rfl) rfl
  clear hc17
  replace h := hgk
  refine SO.nil ?_
  refine S.to (ρ' := [(2, bp b3 0), (3, bp b4 0), (4, bp b7 0), (7, .func (.func 56) #[] #[bp b4 0, bp b7 0, bp b3 0]), (60, .bool c16)]) ⟨rfl, rfl, rfl, rfl, rfl, trivial⟩ ?_
  rcases bool_or c16 with b18 | b18
  · replace h := cond_t b18 h
    refine S.condT rfl b18 ?_
    refine S.region ?_
    refine SO.v rfl (opv_makeFunc rfl rfl) ?_
    refine SO.v rfl (opv_assign rfl) ?_
    refine SO.nil ?_
    refine S.seq ?_
    refine S.region ?_
    refine SO.v rfl (opv_move rfl) ?_
    obtain ⟨⟨t19, p20⟩, ht21, h⟩ := opt_bind h
    refine SO.b7 ?_
    refine SO.b1 ?_
    refine SO.b2 ?_
    refine SO.b6 ?_
    refine SO.b6 ?_
    refine SO.b6 ?_
    refine SO.b7 ?_
    have ct25 := desc_Desc_release_2.ct b4 bp1 v1_l b7 b3 bp0 v0_l _ _ _ _ _ ht21
    try dsimp only at ct25
    refine SO.call (pre := [Box _ _, Box _ _, Own _ _ _ _, Box _ _, Box _ _, Box _ _, Own _ _ _ _]) rfl Try.call58 rfl rfl rfl ct25 trivial ?_
    rintro _ _ ⟨u22_l, rfl, rfl⟩
    refine SO.b2 ?_
    refine SO.rd fun hr23 => ?_
    refine SO.v rfl (opv_assign rfl) ?_
    refine SO.nil ?_
    refine S.to (ρ' := [(8, errV 60 t19)]) ⟨rfl, trivial⟩ ?_
    refine S.seq ?_
    refine S.region ?_
    refine SO.v rfl (opv_move rfl) ?_
    refine SO.v rfl (opv_neqN (e := t19) Try.underlying29 rfl) ?_
    refine SO.nil ?_
    rcases bool_or t19.isSome with b24 | b24
    · replace h := cond_t b24 h
      refine S.condT rfl b24 ?_
      refine S.region ?_
      refine SO.v rfl (opv_move rfl) ?_
      cases h
    replace h := cond_f b24 h
    refine S.condF rfl b24 ?_
    refine S.skip ?_
    cases h
    refine S.b1 ?_
    refine S.drop ?_
    refine S.b2 ?_
    refine S.drop ?_
    refine S.b2 ?_
    refine S.drop ?_
    refine S.b4 ?_
    refine S.drop ?_
    refine S.b4 ?_
    refine S.b1 ?_
    refine S.b2 ?_
    refine S.b4 ?_
    refine S.b4 ?_
    exact S.fin0 Try.func51 rfl (fun w hs hk => hR w _ _ ⟨v0_l, u22_l, rfl, rfl⟩ hs hk)
  replace h := cond_f b18 h
  refine S.condF rfl b18 ?_
  refine S.skip ?_
  refine S.seq ?_
  refine S.region ?_
  refine SO.v rfl (opv_move rfl) ?_
  obtain ⟨⟨t26, p27⟩, ht28, h⟩ := opt_bind h
  refine SO.b7 ?_
  refine SO.b1 ?_
  refine SO.b2 ?_
  refine SO.b6 ?_
  refine SO.b6 ?_
  refine SO.b6 ?_
  refine SO.b7 ?_
  have ct32 := desc_Desc_release_1.ct b4 bp1 v1_l b7 b3 bp0 v0_l _ _ _ _ _ ht28
  try dsimp only at ct32
  refine SO.call (pre := [Box _ _, Box _ _, Own _ _ _ _, Box _ _, Box _ _, Box _ _, Own _ _ _ _]) rfl Try.call56 rfl rfl rfl ct32 trivial ?_
  rintro _ _ ⟨u29_l, rfl, rfl⟩
  refine SO.b2 ?_
  refine SO.rd fun hr30 => ?_
  refine SO.v rfl (opv_assign rfl) ?_
  refine SO.nil ?_
  refine S.to (ρ' := [(8, errV 60 t26)]) ⟨rfl, trivial⟩ ?_
  refine S.seq ?_
  refine S.region ?_
  refine SO.v rfl (opv_move rfl) ?_
  refine SO.v rfl (opv_neqN (e := t26) Try.underlying29 rfl) ?_
  refine SO.nil ?_
  rcases bool_or t26.isSome with b31 | b31
  · replace h := cond_t b31 h
    refine S.condT rfl b31 ?_
    refine S.region ?_
    refine SO.v rfl (opv_move rfl) ?_
    cases h
  replace h := cond_f b31 h
  refine S.condF rfl b31 ?_
  refine S.skip ?_
  cases h
  refine S.b1 ?_
  refine S.drop ?_
  refine S.b2 ?_
  refine S.drop ?_
  refine S.b2 ?_
  refine S.drop ?_
  refine S.b4 ?_
  refine S.drop ?_
  refine S.b4 ?_
  refine S.b1 ?_
  refine S.b2 ?_
  refine S.b4 ?_
  refine S.b4 ?_
  exact S.fin0 Try.func51 rfl (fun w hs hk => hR w _ _ ⟨v0_l, u29_l, rfl, rfl⟩ hs hk)
end Go.Proofs
namespace Go.Proofs
open Go.Sl Go.RowKit
/-! 52 (*padstone/desc.Desc).turn -/
def desc_Desc_turn.f (a0 : desc_Desc) (a1 : Int) : Option (desc_Desc) :=
  some ({ a0 with status := a1, at_ := 0 } : desc_Desc)
set_option maxHeartbeats 8000000 in
set_option maxRecDepth 100000 in
theorem desc_Desc_turn.ct (bp0 : Nat) (v0_l : Value) (a0 : desc_Desc) (a1 : Int) (rp0 : desc_Desc) (h : desc_Desc_turn.f a0 a1 = some rp0) :
    Ct Try.prog 52 [bp bp0 0, .int .i64 a1] (fun _ => True) [Box bp0 [.int .i64 a0.mark, v0_l, .int .i64 a0.status, .int .i64 a0.at_], Own 114 ek_tx_Entry v0_l a0.l] (fun u H' => ∃ rw0_l, u = .tuple #[] ∧ H' = [Box bp0 [.int .i64 rp0.mark, rw0_l, .int .i64 rp0.status, .int .i64 rp0.at_], Own 114 ek_tx_Entry rw0_l rp0.l]) := by
  unfold desc_Desc_turn.f at h
  refine Ct.intro (n := 11) Try.func52 rfl rfl rfl ?_
  intro R w0 F hF hR
  refine S.b1 ?_
  refine S.rd fun hr1 => ?_
  refine S.region ?_
  refine SO.v rfl (opv_move rfl) ?_
  refine SO.v rfl (opv_move rfl) ?_
  refine SO.v rfl (opv_move rfl) ?_
  refine SO.v rfl (opv_nilCheck rfl) ?_
  refine SO.v rfl (opv_fieldAddr Try.underlying108 rfl Try.sizeOf3 rfl rfl) ?_
  refine SO.b1 ?_
  refine SO.store1 Try.sizeOf3 rfl rfl rfl rfl ?_
  refine SO.v rfl (opv_nilCheck rfl) ?_
  refine SO.v rfl (opv_fieldAddr Try.underlying108 rfl Try.sizeOf3 rfl rfl) ?_
  refine SO.store1 Try.sizeOf3 rfl rfl rfl rfl ?_
  refine SO.nil ?_
  refine S.to (ρ' := []) trivial ?_
  cases h
  refine S.b2 ?_
  refine S.b2 ?_
  refine S.b2 ?_
  exact S.fin0 Try.func52 rfl (fun w hs hk => hR w _ _ ⟨v0_l, rfl, rfl⟩ hs hk)
end Go.Proofs
namespace Go.Proofs
open Go.Sl Go.RowKit
/-! 60 (*padstone/word.Store).Limit -/
def word_Store_Limit.f (a0 : word_Store) : Option (Int) :=
  some a0.limit
set_option maxHeartbeats 8000000 in
set_option maxRecDepth 100000 in
theorem word_Store_Limit.ct (bp0 : Nat) (v0_l : Value) (a0 : word_Store) (r0 : Int) (h : word_Store_Limit.f a0 = some r0) :
    Ct Try.prog 60 [bp bp0 0] (fun _ => True) [Box bp0 [v0_l, .int .u32 a0.limit], Own 88 ek_api_Cell v0_l a0.l] (fun u H' => u = .int .u32 r0 ∧ H' = [Box bp0 [v0_l, .int .u32 a0.limit], Own 88 ek_api_Cell v0_l a0.l]) := by
  unfold word_Store_Limit.f at h
  refine Ct.intro (n := 7) Try.func60 rfl rfl rfl ?_
  intro R w0 F hF hR
  refine S.b1 ?_
  refine S.rd fun hr1 => ?_
  refine S.seq ?_
  refine S.region ?_
  refine SO.v rfl (opv_assign rfl) ?_
  refine SO.nil ?_
  refine S.seq ?_
  refine S.region ?_
  refine SO.v rfl (opv_move rfl) ?_
  refine SO.v rfl (opv_nilCheck rfl) ?_
  refine SO.v rfl (opv_fieldAddr Try.underlying63 rfl Try.sizeOf22 rfl rfl) ?_
  refine SO.b1 ?_
  refine SO.load1 rfl Try.isAgg22 rfl rfl ?_
  refine SO.v rfl (opv_assign rfl) ?_
  refine SO.nil ?_
  cases h
  refine S.b2 ?_
  refine S.b2 ?_
  refine S.b2 ?_
  exact S.ret1 Try.func60 rfl rfl (fun w hs hk => hR w _ _ ⟨rfl, rfl⟩ hs hk)
end Go.Proofs
namespace Go.Proofs
open Go.Sl Go.RowKit
/-! 61 (*padstone/word.Store).Reserve -/
def word_Store_Reserve.f (a0 : word_Store) (a1 : Int) (a2 : Int) (a3 : Int) : Option (((Option Int) × word_Store)) :=
  (word_Store_has.f a0 a1).bind fun t2 => bif !t2 then (some ((some 2), a0)) else (bif decide (a3 < 1) then (some ((some 1), a0)) else ((at_ a0.l a1).bind fun x6 => (bif x6.Mark != 0 then ((at_ a0.l a1).bind fun x11 => some (x11.Mark != a3)) else (some false)).bind fun c9 => bif c9 then (some ((some 12), a0)) else ((at_ a0.l a1).bind fun x14 => bif x14.Version != a2 then (some ((some 10), a0)) else ((at_ a0.l a1).bind fun x17 => some (none, (⟨a0.l.set a1.toNat ({ x17 with Mark := a3 } : api_Cell), a0.limit⟩ : word_Store))))))
set_option maxHeartbeats 8000000 in
set_option maxRecDepth 100000 in
theorem word_Store_Reserve.ct (bp0 : Nat) (v0_l : Value) (a0 : word_Store) (a1 : Int) (a2 : Int) (a3 : Int) (r0 : Option Int) (rp0 : word_Store) (h : word_Store_Reserve.f a0 a1 a2 a3 = some (r0, rp0)) :
    Ct Try.prog 61 [bp bp0 0, .int .i64 a1, .int .u32 a2, .int .i64 a3] (fun _ => True) [Box bp0 [v0_l, .int .u32 a0.limit], Own 88 ek_api_Cell v0_l a0.l] (fun u H' => ∃ rw0_l, u = errV 60 r0 ∧ H' = [Box bp0 [rw0_l, .int .u32 rp0.limit], Own 88 ek_api_Cell rw0_l rp0.l]) := by
  unfold word_Store_Reserve.f at h
  refine Ct.intro (n := 62) Try.func61 rfl rfl rfl ?_
  intro R w0 F hF hR
  refine S.b1 ?_
  refine S.rd fun hr1 => ?_
  refine S.seq ?_
  refine S.region ?_
  refine SO.v rfl (opv_assign rfl) ?_
  refine SO.nil ?_
  refine S.seq ?_
  refine S.block ?_
  refine S.seq ?_
  refine S.region ?_
  refine SO.v rfl (opv_move rfl) ?_
  refine SO.v rfl (opv_move rfl) ?_
  obtain ⟨t2, ht3, h⟩ := opt_bind h
  refine SO.b1 ?_
  refine SO.call (pre := [Box _ _, Own _ _ _ _]) rfl Try.call47 rfl rfl rfl (word_Store_has.ct bp0 v0_l _ _ _ ht3) trivial ?_
  rintro _ _ ⟨rfl, rfl⟩
  refine SO.v rfl (opv_not rfl) ?_
  refine SO.v rfl (opv_assign rfl) ?_
  refine SO.nil ?_
  rcases bool_or (!t2) with b4 | b4
  · replace h := cond_t b4 h
    refine S.condT rfl b4 ?_
    refine S.seq ?_
    refine S.region ?_
    refine SO.v rfl (opv_iface Try.underlying60 rfl rfl) ?_
    refine SO.v rfl (opv_assign rfl) ?_
    refine SO.nil ?_
    refine S.to (ρ' := [(8, errV 60 (some 2))]) ⟨rfl, trivial⟩ ?_
    cases h
    refine S.b2 ?_
    refine S.b2 ?_
    refine S.b2 ?_
    exact S.ret1 Try.func61 rfl rfl (fun w hs hk => hR w _ _ ⟨v0_l, rfl, rfl⟩ hs hk)
  replace h := cond_f b4 h
  refine S.condF rfl b4 ?_
  refine S.seq ?_
  refine S.region ?_
  refine SO.v rfl (opv_move rfl) ?_
  refine SO.v rfl (opv_lss rfl rfl) ?_
  refine SO.v rfl (opv_assign rfl) ?_
  refine SO.nil ?_
  refine S.to (ρ' := [(0, bp bp0 0), (1, .int .i64 a1), (2, .int .u32 a2), (3, .int .i64 a3), (8, errV 60 none), (15, .bool (decide (a3 < 1)))]) ⟨rfl, rfl, rfl, rfl, rfl, rfl, trivial⟩ ?_
  rcases bool_or (decide (a3 < 1)) with b5 | b5
  · replace h := cond_t b5 h
    refine S.condT rfl b5 ?_
    refine S.seq ?_
    refine S.region ?_
    refine SO.v rfl (opv_iface Try.underlying60 rfl rfl) ?_
    refine SO.v rfl (opv_assign rfl) ?_
    refine SO.nil ?_
    cases h
    refine S.b2 ?_
    refine S.b2 ?_
    refine S.b2 ?_
    exact S.ret1 Try.func61 rfl rfl (fun w hs hk => hR w _ _ ⟨v0_l, rfl, rfl⟩ hs hk)
  replace h := cond_f b5 h
  refine S.condF rfl b5 ?_
  refine S.seq ?_
  refine S.region ?_
  refine SO.v rfl (opv_move rfl) ?_
  refine SO.v rfl (opv_nilCheck rfl) ?_
  refine SO.v rfl (opv_fieldAddr Try.underlying63 rfl Try.sizeOf61 rfl rfl) ?_
  refine SO.load1 rfl Try.isAgg61 rfl rfl ?_
  refine SO.v rfl (opv_move rfl) ?_
  obtain ⟨x6, hx7, h⟩ := opt_bind h
  refine SO.v rfl (opv_idx Try.underlying61 Try.sizeOf88 hr1 rfl rfl hx7) ?_
  refine SO.v rfl (opv_fieldIdx Try.underlying88 rfl Try.sizeOf3 hr1 hx7 rfl rfl) ?_
  refine SO.loadI1 (j := 2) rfl Try.isAgg3 (Rd.tail (Rd.head hr1)) hx7 rfl rfl rfl rfl ?_
  refine SO.v rfl (opv_neq rfl rfl) ?_
  refine SO.v rfl (opv_move rfl) ?_
  obtain ⟨c9, hc10, hgk⟩ := opt_bind h
  refine SO.cut 11 40 (.bool c9) [Box bp0 [v0_l, .int .u32 a0.limit], Own 88 ek_api_Cell v0_l a0.l, F] (fun l2 hk2 => ?_) ?_
  · clear hgk
    replace h := hc10
    rcases bool_or (x6.Mark != 0) with b8 | b8
    · replace h := cond_t b8 h
      refine SO.takeT rfl rfl rfl b8 ?_
      refine SO.v rfl (opv_move rfl) ?_
      refine SO.takeT rfl rfl rfl b8 ?_
      refine SO.v rfl (opv_nilCheck rfl) ?_
      refine SO.takeT rfl rfl rfl b8 ?_
      refine SO.v rfl (opv_fieldAddr Try.underlying63 rfl Try.sizeOf61 rfl rfl) ?_
      refine SO.takeT rfl rfl rfl b8 ?_
      refine SO.load1 rfl Try.isAgg61 rfl rfl ?_
      refine SO.takeT rfl rfl rfl b8 ?_
      refine SO.v rfl (opv_move rfl) ?_
      refine SO.takeT rfl rfl rfl b8 ?_
      obtain ⟨x11, hx12, h⟩ := opt_bind h
      refine SO.v rfl (opv_idx Try.underlying61 Try.sizeOf88 hr1 rfl rfl hx12) ?_
      refine SO.takeT rfl rfl rfl b8 ?_
      refine SO.v rfl (opv_fieldIdx Try.underlying88 rfl Try.sizeOf3 hr1 hx12 rfl rfl) ?_
      refine SO.takeT rfl rfl rfl b8 ?_
      refine SO.loadI1 (j := 2) rfl Try.isAgg3 (Rd.tail (Rd.head hr1)) hx12 rfl rfl rfl rfl ?_
      refine SO.takeT rfl rfl rfl b8 ?_
      refine SO.v rfl (opv_move rfl) ?_
      refine SO.takeT rfl rfl rfl b8 ?_
      refine SO.v rfl (opv_neq rfl rfl) ?_
      cases h
      refine SO.v rfl (opv_pick_t' b8 rfl rfl) ?_
      refine SO.b2 ?_
      refine SO.b2 ?_
      refine SO.b2 ?_
      exact hk2.fitc (m := 11) rfl (rfl) rfl
    replace h := cond_f b8 h
    refine SO.passF rfl rfl rfl b8 rfl rfl ?_
    refine SO.passF rfl rfl rfl b8 rfl rfl ?_
    refine SO.passF rfl rfl rfl b8 rfl rfl ?_
    refine SO.passF rfl rfl rfl b8 rfl rfl ?_
    refine SO.passF rfl rfl rfl b8 rfl rfl ?_
    refine SO.passF rfl rfl rfl b8 rfl rfl ?_
    refine SO.passF rfl rfl rfl b8 rfl rfl ?_
    refine SO.passF rfl rfl rfl b8 rfl rfl ?_
    refine SO.passF rfl rfl rfl b8 rfl rfl ?_
    refine SO.passF rfl rfl rfl b8 rfl rfl ?_
    cases h
    refine SO.v rfl (opv_pick_f' b8 rfl rfl) ?_
    refine SO.b2 ?_
    refine SO.b2 ?_
    refine SO.b2 ?_
    exact hk2.fitc (m := 11) rfl (rfl) rfl
  clear hc10
  replace h := hgk
  refine SO.v rfl (opv_assign rfl) ?_
  refine SO.nil ?_
  refine S.to (ρ' := [(0, bp bp0 0), (1, .int .i64 a1), (2, .int .u32 a2), (3, .int .i64 a3), (8, errV 60 none), (19, .bool c9)]) ⟨rfl, rfl, rfl, rfl, rfl, rfl, trivial⟩ ?_
  rcases bool_or c9 with b13 | b13
  · replace h := cond_t b13 h
    refine S.condT rfl b13 ?_
    refine S.seq ?_
    refine S.region ?_
    refine SO.v rfl (opv_iface Try.underlying60 rfl rfl) ?_
    refine SO.v rfl (opv_assign rfl) ?_
    refine SO.nil ?_
    cases h
    refine S.b2 ?_
    refine S.b2 ?_
    refine S.b2 ?_
    exact S.ret1 Try.func61 rfl rfl (fun w hs hk => hR w _ _ ⟨v0_l, rfl, rfl⟩ hs hk)
  replace h := cond_f b13 h
  refine S.condF rfl b13 ?_
  refine S.seq ?_
  refine S.region ?_
  refine SO.v rfl (opv_move rfl) ?_
  refine SO.v rfl (opv_nilCheck rfl) ?_
  refine SO.v rfl (opv_fieldAddr Try.underlying63 rfl Try.sizeOf61 rfl rfl) ?_
  refine SO.load1 rfl Try.isAgg61 rfl rfl ?_
  refine SO.v rfl (opv_move rfl) ?_
  obtain ⟨x14, hx15, h⟩ := opt_bind h
  refine SO.v rfl (opv_idx Try.underlying61 Try.sizeOf88 hr1 rfl rfl hx15) ?_
  refine SO.v rfl (opv_fieldIdx Try.underlying88 rfl Try.sizeOf22 hr1 hx15 rfl rfl) ?_
  refine SO.loadI1 (j := 1) rfl Try.isAgg22 (Rd.tail (Rd.head hr1)) hx15 rfl rfl rfl rfl ?_
  refine SO.v rfl (opv_move rfl) ?_
  refine SO.v rfl (opv_neq rfl rfl) ?_
  refine SO.v rfl (opv_assign rfl) ?_
  refine SO.nil ?_
  refine S.to (ρ' := [(0, bp bp0 0), (1, .int .i64 a1), (3, .int .i64 a3), (8, errV 60 none), (42, .bool (x14.Version != a2))]) ⟨rfl, rfl, rfl, rfl, rfl, trivial⟩ ?_
  rcases bool_or (x14.Version != a2) with b16 | b16
  · replace h := cond_t b16 h
    refine S.condT rfl b16 ?_
    refine S.seq ?_
    refine S.region ?_
    refine SO.v rfl (opv_iface Try.underlying60 rfl rfl) ?_
    refine SO.v rfl (opv_assign rfl) ?_
    refine SO.nil ?_
    cases h
    refine S.b2 ?_
    refine S.b2 ?_
    refine S.b2 ?_
    exact S.ret1 Try.func61 rfl rfl (fun w hs hk => hR w _ _ ⟨v0_l, rfl, rfl⟩ hs hk)
  replace h := cond_f b16 h
  refine S.condF rfl b16 ?_
  refine S.skip ?_
  refine S.inBlock ?_
  refine S.seq ?_
  refine S.region ?_
  refine SO.v rfl (opv_move rfl) ?_
  refine SO.v rfl (opv_nilCheck rfl) ?_
  refine SO.v rfl (opv_fieldAddr Try.underlying63 rfl Try.sizeOf61 rfl rfl) ?_
  refine SO.load1 rfl Try.isAgg61 rfl rfl ?_
  refine SO.v rfl (opv_move rfl) ?_
  refine SO.v rfl (opv_move rfl) ?_
  obtain ⟨x17, hx18, h⟩ := opt_bind h
  refine SO.v rfl (opv_idx Try.underlying61 Try.sizeOf88 hr1 rfl rfl hx18) ?_
  refine SO.v rfl (opv_fieldIdx Try.underlying88 rfl Try.sizeOf3 hr1 hx18 rfl rfl) ?_
  refine SO.b1 ?_
  refine SO.storeI1 (j := 2) (z' := ({ x17 with Mark := a3 } : api_Cell)) Try.sizeOf3 hx18 rfl rfl rfl rfl rfl rfl ?_
  refine SO.rd fun hr19 => ?_
  refine SO.nil ?_
  refine S.to (ρ' := [(8, errV 60 none)]) ⟨rfl, trivial⟩ ?_
  refine S.seq ?_
  refine S.region ?_
  refine SO.v rfl (opv_assign rfl) ?_
  refine SO.nil ?_
  cases h
  refine S.b2 ?_
  refine S.b1 ?_
  refine S.b2 ?_
  exact S.ret1 Try.func61 rfl rfl (fun w hs hk => hR w _ _ ⟨v0_l, rfl, rfl⟩ hs hk)
end Go.Proofs
namespace Go.Proofs
open Go.Sl Go.RowKit
/-! 53 (*padstone/desc.Desc).reserve -/
def desc_Desc_reserve.f (a0 : desc_Desc) (a1 : word_Store) : Option ((Int × desc_Desc × word_Store)) :=
  (at_ a0.l a0.at_).bind fun x3 => (word_Store_Read.f a1 x3.Cell).bind fun (t6, t7) => (bif t7.isNone then (bif t6.Mark != 0 then (some (t6.Mark != a0.mark)) else (some false)) else (some false)).bind fun j47_1 => bif j47_1 then (some (t6.Mark, a0, a1)) else ((bif t7.isSome then (some true) else (some (t6.Version != x3.Version))).bind fun c14 => bif c14 then ((desc_Desc_turn.f a0 2).bind fun p17 => some (0, p17, a1)) else ((bif x3.Write then ((word_Store_Limit.f a1).bind fun t22 => some (t6.Version == t22)) else (some false)).bind fun j78_2 => bif j78_2 then ((desc_Desc_turn.f a0 3).bind fun p25 => some (0, p25, a1)) else ((word_Store_Reserve.f a1 x3.Cell x3.Version a0.mark).bind fun (t29, p30) => bif t29.isSome then ((desc_Desc_turn.f a0 2).bind fun p37 => some (0, p37, p30)) else (some (0, ({ a0 with at_ := w64 (a0.at_ + 1) } : desc_Desc), p30)))))
set_option maxHeartbeats 8000000 in
set_option maxRecDepth 100000 in
theorem desc_Desc_reserve.ct (bp0 : Nat) (v0_l : Value) (bp1 : Nat) (v1_l : Value) (a0 : desc_Desc) (a1 : word_Store) (r0 : Int) (rp0 : desc_Desc) (rp1 : word_Store) (h : desc_Desc_reserve.f a0 a1 = some (r0, rp0, rp1)) :
    Ct Try.prog 53 [bp bp0 0, bp bp1 0] (fun _ => True) [Box bp0 [.int .i64 a0.mark, v0_l, .int .i64 a0.status, .int .i64 a0.at_], Own 114 ek_tx_Entry v0_l a0.l, Box bp1 [v1_l, .int .u32 a1.limit], Own 88 ek_api_Cell v1_l a1.l] (fun u H' => ∃ rw0_l rw1_l, u = .int .i64 r0 ∧ H' = [Box bp0 [.int .i64 rp0.mark, rw0_l, .int .i64 rp0.status, .int .i64 rp0.at_], Own 114 ek_tx_Entry rw0_l rp0.l, Box bp1 [rw1_l, .int .u32 rp1.limit], Own 88 ek_api_Cell rw1_l rp1.l]) := by
  unfold desc_Desc_reserve.f at h
  refine Ct.intro (n := 90) Try.func53 rfl rfl rfl ?_
  intro R w0 F hF hR
  refine S.b1 ?_
  refine S.rd fun hr1 => ?_
  refine S.b3 ?_
  refine S.rd fun hr2 => ?_
  refine S.seq ?_
  refine S.region ?_
  refine SO.v rfl (opv_assign rfl) ?_
  refine SO.nil ?_
  refine S.seq ?_
  obtain ⟨x3, hx4, h⟩ := opt_bind h
  refine S.draw2 (Y := fun Q => ∃ (_ _ _ _ _ _ _ : Unit), Q [(0, bp bp0 0), (4, .int .i64 0), (1, bp bp1 0)] [Own 88 ek_api_Cell v1_l a1.l, Own 114 ek_tx_Entry v0_l a0.l, Box bp0 [.int .i64 a0.mark, v0_l, .int .i64 a0.status, .int .i64 a0.at_], Box bp1 [v1_l, .int .u32 a1.limit], F]) (Z := fun Q => ∀ (_ _ : Unit) (b5 : Nat) (_ _ _ _ _ : Unit), Q [(0, bp bp0 0), (4, .int .i64 0), (1, bp bp1 0), (5, bp b5 0)] [Box b5 [.int .i64 x3.Cell, .int .u32 x3.Version, .int .u64 x3.Old, .int .u64 x3.New, .bool x3.Write], Own 88 ek_api_Cell v1_l a1.l, Own 114 ek_tx_Entry v0_l a0.l, Box bp0 [.int .i64 a0.mark, v0_l, .int .i64 a0.status, .int .i64 a0.at_], Box bp1 [v1_l, .int .u32 a1.limit], F]) (T := [tS 0 (bp bp0 0), tE [(4, .int .i64 0), (1, bp bp1 0)], tR (Own 88 ek_api_Cell v1_l a1.l), tR (Own 114 ek_tx_Entry v0_l a0.l), tR (Box bp0 [.int .i64 a0.mark, v0_l, .int .i64 a0.status, .int .i64 a0.at_]), tR (Box bp1 [v1_l, .int .u32 a1.limit]), tR (F), tS 9 (bp bp0 0), tS 10 (bp bp0 0), tS 11 (bp bp0 1), tS 12 (v0_l), tS 13 (bp bp0 0), tS 14 (bp bp0 0), tS 15 (bp bp0 3), tS 16 (.int .i64 a0.at_), tS 17 (idxp v0_l (a0.at_.toNat * ek_tx_Entry.sz)), tS 18 (.agg #[.int .i64 x3.Cell, .int .u32 x3.Version, .int .u64 x3.Old, .int .u64 x3.New, .bool x3.Write]), ⟨Nat, [5], (fun b5 => [(5, bp b5 0)]), (fun b5 => [Box b5 [.int .i64 0, .int .u32 0, .int .u64 0, .int .u64 0, .bool false]]), fun _ => rfl⟩, ⟨Nat, [5], (fun b5 => [(5, bp b5 0)]), (fun b5 => [Box b5 [.int .i64 x3.Cell, .int .u32 x3.Version, .int .u64 x3.Old, .int .u64 x3.New, .bool x3.Write]]), fun _ => rfl⟩]) (D := [⟨[0], [], [7]⟩, ⟨[7], [], [8]⟩, ⟨[8], [], [9]⟩, ⟨[9, 4], [], [10]⟩, ⟨[0], [], [11]⟩, ⟨[11], [], [12]⟩, ⟨[12], [], [13]⟩, ⟨[13, 4], [], [14]⟩, ⟨[10, 14, 3], [], [15]⟩, ⟨[15, 3], [], [16]⟩, ⟨[], [], [17]⟩, ⟨[16], [17], [18]⟩]) (ini := [0, 1, 2, 3, 4, 5, 6]) (fin := [0, 1, 18, 2, 3, 4, 5, 6]) (bf := [[], [0], [0, 1], [0, 1, 2], [], [4], [4, 5], [4, 5, 6], [0, 1, 2, 3, 4, 5, 6, 7], [0, 1, 2, 3, 4, 5, 6, 7, 8], [], [0, 1, 2, 3, 4, 5, 6, 7, 8, 9, 10]]) (by kernel_rfl) (by kernel_rfl) (fun Q => by kernel_rfl) (fun x w h1 h2 => ⟨(), (), (), (), (), (), (), EnvAll.of h1 ⟨rfl, rfl, rfl, trivial⟩, h2⟩) (fun Q => by kernel_rfl) ⟨?_, ?_, ?_, ?_, ?_, ?_, ?_, ?_, ?_, ?_, ?_, ?_, trivial⟩ ?_
  · rintro Fr _
    refine SO.v rfl (opv_move rfl) ?_
    exact SO.nilZ fun a w h1 h2 h3 h4 h5 => PZ.of h1 h3 h5 (.cons () (.cons () (.nil ⟨EnvAll.of h2 ⟨rfl, rfl, trivial⟩, h4⟩)))
  · rintro Fr _
    refine SO.v rfl (opv_nilCheck rfl) ?_
    exact SO.nilZ fun a w h1 h2 h3 h4 h5 => PZ.of h1 h3 h5 (.cons () (.cons () (.nil ⟨EnvAll.of h2 ⟨rfl, rfl, trivial⟩, h4⟩)))
  · rintro Fr _
    refine SO.v rfl (opv_fieldAddr Try.underlying108 rfl Try.sizeOf102 rfl rfl) ?_
    exact SO.nilZ fun a w h1 h2 h3 h4 h5 => PZ.of h1 h3 h5 (.cons () (.cons () (.nil ⟨EnvAll.of h2 ⟨rfl, rfl, trivial⟩, h4⟩)))
  · rintro Fr _ _
    refine SO.load1 rfl Try.isAgg102 rfl rfl ?_
    exact SO.nilZ fun a w h1 h2 h3 h4 h5 => PZ.of h1 h3 h5 (.cons () (.cons () (.cons () (.nil ⟨EnvAll.of h2 ⟨rfl, rfl, trivial⟩, h4⟩))))
  · rintro Fr _
    refine SO.v rfl (opv_move rfl) ?_
    exact SO.nilZ fun a w h1 h2 h3 h4 h5 => PZ.of h1 h3 h5 (.cons () (.cons () (.nil ⟨EnvAll.of h2 ⟨rfl, rfl, trivial⟩, h4⟩)))
  · rintro Fr _
    refine SO.v rfl (opv_nilCheck rfl) ?_
    exact SO.nilZ fun a w h1 h2 h3 h4 h5 => PZ.of h1 h3 h5 (.cons () (.cons () (.nil ⟨EnvAll.of h2 ⟨rfl, rfl, trivial⟩, h4⟩)))
  · rintro Fr _
    refine SO.v rfl (opv_fieldAddr Try.underlying108 rfl Try.sizeOf3 rfl rfl) ?_
    exact SO.nilZ fun a w h1 h2 h3 h4 h5 => PZ.of h1 h3 h5 (.cons () (.cons () (.nil ⟨EnvAll.of h2 ⟨rfl, rfl, trivial⟩, h4⟩)))
  · rintro Fr _ _
    refine SO.load1 rfl Try.isAgg3 rfl rfl ?_
    exact SO.nilZ fun a w h1 h2 h3 h4 h5 => PZ.of h1 h3 h5 (.cons () (.cons () (.cons () (.nil ⟨EnvAll.of h2 ⟨rfl, rfl, trivial⟩, h4⟩))))
  · rintro Fr _ _ _
    refine SO.v rfl (opv_idx Try.underlying102 Try.sizeOf114 hr1 rfl rfl hx4) ?_
    exact SO.nilZ fun a w h1 h2 h3 h4 h5 => PZ.of h1 h3 h5 (.cons () (.cons () (.cons () (.cons () (.nil ⟨EnvAll.of h2 ⟨rfl, rfl, rfl, trivial⟩, h4⟩)))))
  · rintro Fr _ _
    refine SO.loadIN rfl Try.isAgg114 Try.sizeOf114 (Rd.head hr1) hx4 rfl rfl rfl ?_
    exact SO.nilZ fun a w h1 h2 h3 h4 h5 => PZ.of h1 h3 h5 (.cons () (.cons () (.cons () (.nil ⟨EnvAll.of h2 ⟨rfl, rfl, trivial⟩, h4⟩))))
  · rintro Fr 
    refine SO.alloc rfl Try.zeroValue114 rfl (fun b5 => ?_)
    exact SO.nilZ fun a w h1 h2 h3 h4 h5 => PZ.of h1 h3 h5 (.cons b5 (.nil ⟨EnvAll.of h2 ⟨rfl, trivial⟩, h4⟩))
  · rintro Fr _ b5
    refine SO.storeN Try.sizeOf114 rfl rfl rfl rfl rfl rfl ?_
    exact SO.nilZ fun a w h1 h2 h3 h4 h5 => PZ.of h1 h3 h5 (.cons () (.cons b5 (.nil ⟨EnvAll.of h2 ⟨rfl, rfl, trivial⟩, h4⟩)))
  rintro _ _ b5 _ _ _ _ _
  refine S.to (ρ' := [(0, bp bp0 0), (4, .int .i64 0), (1, bp bp1 0), (5, bp b5 0)]) ⟨rfl, rfl, rfl, rfl, trivial⟩ ?_
  refine S.seq ?_
  refine S.region ?_
  refine SO.v rfl (opv_move rfl) ?_
  refine SO.v rfl (opv_fieldAddr Try.underlying114 rfl Try.sizeOf3 rfl rfl) ?_
  refine SO.load1 rfl Try.isAgg3 rfl rfl ?_
  obtain ⟨⟨t6, t7⟩, ht8, h⟩ := opt_bind h
  refine SO.b1 ?_
  refine SO.b4 ?_
  refine SO.call (pre := [Box _ _, Own _ _ _ _]) rfl Try.call35 rfl rfl rfl (word_Store_Read.ct bp1 v1_l _ _ _ _ ht8) trivial ?_
  rintro _ _ ⟨rfl, rfl⟩
  refine SO.v rfl (opv_move rfl) ?_
  refine SO.v rfl (opv_extract rfl rfl) ?_
  refine SO.v rfl (opv_extract rfl rfl) ?_
  refine SO.alloc rfl Try.zeroValue88 rfl (fun b9 => ?_)
  refine SO.storeN Try.sizeOf88 rfl rfl rfl rfl rfl rfl ?_
  refine SO.v rfl (opv_assign rfl) ?_
  refine SO.nil ?_
  refine S.to (ρ' := [(0, bp bp0 0), (4, .int .i64 0), (1, bp bp1 0), (5, bp b5 0), (6, bp b9 0), (7, errV 60 t7)]) ⟨rfl, rfl, rfl, rfl, rfl, rfl, trivial⟩ ?_
  refine S.seq ?_
  refine S.block ?_
  refine S.seq ?_
  obtain ⟨j47_1, hC1, hJ1⟩ := opt_bind h
  clear h
  refine S.cutP (G := Unit) (fun _ => True) (fun _ => [(0, bp bp0 0), (1, bp bp1 0), (4, .int .i64 0), (5, bp b5 0), (6, bp b9 0), (7, errV 60 t7), (47, .bool j47_1)]) (fun _ => [Box b9 [.int .u64 t6.Value, .int .u32 t6.Version, .int .i64 t6.Mark], Box bp1 [v1_l, .int .u32 a1.limit], Own 88 ek_api_Cell v1_l a1.l, Box b5 [.int .i64 x3.Cell, .int .u32 x3.Version, .int .u64 x3.Old, .int .u64 x3.New, .bool x3.Write], Own 114 ek_tx_Entry v0_l a0.l, Box bp0 [.int .i64 a0.mark, v0_l, .int .i64 a0.status, .int .i64 a0.at_], F]) (fun hk1 => ?_) ?_
  · replace h := hC1
    rcases bool_or t7.isNone with b10 | b10
    · replace h := cond_t b10 h
      rcases bool_or (t6.Mark != 0) with b11 | b11
      · replace h := cond_t b11 h
        refine S.draw2 (Y := fun Q => ∃ (_ _ _ _ _ _ _ _ _ _ _ : Unit), Q [(7, errV 60 t7), (6, bp b9 0), (0, bp bp0 0), (4, .int .i64 0), (1, bp bp1 0), (5, bp b5 0)] [Box b9 [.int .u64 t6.Value, .int .u32 t6.Version, .int .i64 t6.Mark], Box bp1 [v1_l, .int .u32 a1.limit], Own 88 ek_api_Cell v1_l a1.l, Box b5 [.int .i64 x3.Cell, .int .u32 x3.Version, .int .u64 x3.Old, .int .u64 x3.New, .bool x3.Write], Own 114 ek_tx_Entry v0_l a0.l, Box bp0 [.int .i64 a0.mark, v0_l, .int .i64 a0.status, .int .i64 a0.at_], F]) (Z := fun Q => ∀ (_ _ _ _ _ _ _ _ _ _ _ _ : Unit), Q [(0, bp bp0 0), (4, .int .i64 0), (1, bp bp1 0), (5, bp b5 0), (6, bp b9 0), (7, errV 60 t7), (47, .bool (t6.Mark != a0.mark))] [Box b9 [.int .u64 t6.Value, .int .u32 t6.Version, .int .i64 t6.Mark], Box bp1 [v1_l, .int .u32 a1.limit], Own 88 ek_api_Cell v1_l a1.l, Box b5 [.int .i64 x3.Cell, .int .u32 x3.Version, .int .u64 x3.Old, .int .u64 x3.New, .bool x3.Write], Own 114 ek_tx_Entry v0_l a0.l, Box bp0 [.int .i64 a0.mark, v0_l, .int .i64 a0.status, .int .i64 a0.at_], F]) (T := [tS 7 (errV 60 t7), tS 6 (bp b9 0), tS 0 (bp bp0 0), tE [(4, .int .i64 0), (1, bp bp1 0), (5, bp b5 0)], tR (Box b9 [.int .u64 t6.Value, .int .u32 t6.Version, .int .i64 t6.Mark]), tR (Box bp1 [v1_l, .int .u32 a1.limit]), tR (Own 88 ek_api_Cell v1_l a1.l), tR (Box b5 [.int .i64 x3.Cell, .int .u32 x3.Version, .int .u64 x3.Old, .int .u64 x3.New, .bool x3.Write]), tR (Own 114 ek_tx_Entry v0_l a0.l), tR (Box bp0 [.int .i64 a0.mark, v0_l, .int .i64 a0.status, .int .i64 a0.at_]), tR (F), tS 48 (errV 60 t7), tS 49 (.bool t7.isNone), tS 50 (.bool t7.isNone), tS 51 (bp b9 2), tS 52 (.int .i64 t6.Mark), tS 53 (.bool (t6.Mark != 0)), tS 54 (.bool (t6.Mark != 0)), tS 55 (.bool (t6.Mark != 0)), tS 56 (bp b9 2), tS 57 (.int .i64 t6.Mark), tS 58 (bp bp0 0), tS 59 (bp bp0 0), tS 60 (bp bp0 0), tS 61 (.int .i64 a0.mark), tS 62 (.bool (t6.Mark != a0.mark)), tS 63 (.bool (t6.Mark != a0.mark)), tS 47 (.bool (t6.Mark != a0.mark))]) (D := [⟨[0], [], [11]⟩, ⟨[11], [], [12]⟩, ⟨[12], [], [13]⟩, ⟨[1, 13], [], [14]⟩, ⟨[13, 14, 4], [], [15]⟩, ⟨[13, 15], [], [16]⟩, ⟨[13, 16], [], [17]⟩, ⟨[17], [], [18]⟩, ⟨[1, 18], [], [19]⟩, ⟨[18, 19, 4], [], [20]⟩, ⟨[2, 18], [], [21]⟩, ⟨[18, 21], [], [22]⟩, ⟨[18, 22], [], [23]⟩, ⟨[18, 23, 9], [], [24]⟩, ⟨[18, 20, 24], [], [25]⟩, ⟨[18, 25], [], [26]⟩, ⟨[26], [], [27]⟩]) (ini := [0, 1, 2, 3, 4, 5, 6, 7, 8, 9, 10]) (fin := [2, 3, 1, 0, 27, 4, 5, 6, 7, 8, 9, 10]) (bf := [[], [0], [0, 1], [0, 1, 2], [0, 1, 2, 3], [0, 1, 2, 3, 4], [0, 1, 2, 3, 4, 5], [0, 1, 2, 3, 4, 5, 6], [0, 1, 2, 3, 4, 5, 6, 7], [0, 1, 2, 3, 4, 5, 6, 7, 8], [0, 1, 2, 3, 4, 5, 6, 7], [0, 1, 2, 3, 4, 5, 6, 7, 10], [0, 1, 2, 3, 4, 5, 6, 7, 10, 11], [0, 1, 2, 3, 4, 5, 6, 7, 10, 11, 12], [0, 1, 2, 3, 4, 5, 6, 7, 8, 9, 10, 11, 12, 13], [0, 1, 2, 3, 4, 5, 6, 7, 8, 9, 10, 11, 12, 13, 14], [0, 1, 2, 3, 4, 5, 6, 7, 8, 9, 10, 11, 12, 13, 14, 15]]) (by kernel_rfl) (by kernel_rfl) (fun Q => by kernel_rfl) (fun x w h1 h2 => ⟨(), (), (), (), (), (), (), (), (), (), (), EnvAll.of h1 ⟨rfl, rfl, rfl, rfl, rfl, rfl, trivial⟩, h2⟩) (fun Q => by kernel_rfl) ⟨?_, ?_, ?_, ?_, ?_, ?_, ?_, ?_, ?_, ?_, ?_, ?_, ?_, ?_, ?_, ?_, ?_, trivial⟩ ?_
        · rintro Fr _
          refine SO.v rfl (opv_move rfl) ?_
          exact SO.nilZ fun a w h1 h2 h3 h4 h5 => PZ.of h1 h3 h5 (.cons () (.cons () (.nil ⟨EnvAll.of h2 ⟨rfl, rfl, trivial⟩, h4⟩)))
        · rintro Fr _
          refine SO.v rfl (opv_eqlN (e := t7) Try.underlying29 rfl) ?_
          exact SO.nilZ fun a w h1 h2 h3 h4 h5 => PZ.of h1 h3 h5 (.cons () (.cons () (.nil ⟨EnvAll.of h2 ⟨rfl, rfl, trivial⟩, h4⟩)))
        · rintro Fr _
          refine SO.v rfl (opv_move rfl) ?_
          exact SO.nilZ fun a w h1 h2 h3 h4 h5 => PZ.of h1 h3 h5 (.cons () (.cons () (.nil ⟨EnvAll.of h2 ⟨rfl, rfl, trivial⟩, h4⟩)))
        · rintro Fr _ _
          refine SO.takeT rfl rfl rfl b10 ?_
          refine SO.v rfl (opv_fieldAddr Try.underlying88 rfl Try.sizeOf3 rfl rfl) ?_
          exact SO.nilZ fun a w h1 h2 h3 h4 h5 => PZ.of h1 h3 h5 (.cons () (.cons () (.cons () (.nil ⟨EnvAll.of h2 ⟨rfl, rfl, rfl, trivial⟩, h4⟩))))
        · rintro Fr _ _ _
          refine SO.takeT rfl rfl rfl b10 ?_
          refine SO.load1 rfl Try.isAgg3 rfl rfl ?_
          exact SO.nilZ fun a w h1 h2 h3 h4 h5 => PZ.of h1 h3 h5 (.cons () (.cons () (.cons () (.cons () (.nil ⟨EnvAll.of h2 ⟨rfl, rfl, rfl, trivial⟩, h4⟩)))))
        · rintro Fr _ _
          refine SO.takeT rfl rfl rfl b10 ?_
          refine SO.v rfl (opv_neq rfl rfl) ?_
          exact SO.nilZ fun a w h1 h2 h3 h4 h5 => PZ.of h1 h3 h5 (.cons () (.cons () (.cons () (.nil ⟨EnvAll.of h2 ⟨rfl, rfl, rfl, trivial⟩, h4⟩))))
        · rintro Fr _ _
          refine SO.v rfl (opv_pick_t' b10 rfl rfl) ?_
          exact SO.nilZ fun a w h1 h2 h3 h4 h5 => PZ.of h1 h3 h5 (.cons () (.cons () (.cons () (.nil ⟨EnvAll.of h2 ⟨rfl, rfl, rfl, trivial⟩, h4⟩))))
        · rintro Fr _
          refine SO.v rfl (opv_move rfl) ?_
          exact SO.nilZ fun a w h1 h2 h3 h4 h5 => PZ.of h1 h3 h5 (.cons () (.cons () (.nil ⟨EnvAll.of h2 ⟨rfl, rfl, trivial⟩, h4⟩)))
        · rintro Fr _ _
          refine SO.takeT rfl rfl rfl b11 ?_
          refine SO.v rfl (opv_fieldAddr Try.underlying88 rfl Try.sizeOf3 rfl rfl) ?_
          exact SO.nilZ fun a w h1 h2 h3 h4 h5 => PZ.of h1 h3 h5 (.cons () (.cons () (.cons () (.nil ⟨EnvAll.of h2 ⟨rfl, rfl, rfl, trivial⟩, h4⟩))))
        · rintro Fr _ _ _
          refine SO.takeT rfl rfl rfl b11 ?_
          refine SO.load1 rfl Try.isAgg3 rfl rfl ?_
          exact SO.nilZ fun a w h1 h2 h3 h4 h5 => PZ.of h1 h3 h5 (.cons () (.cons () (.cons () (.cons () (.nil ⟨EnvAll.of h2 ⟨rfl, rfl, rfl, trivial⟩, h4⟩)))))
        · rintro Fr _ _
          refine SO.takeT rfl rfl rfl b11 ?_
          refine SO.v rfl (opv_move rfl) ?_
          exact SO.nilZ fun a w h1 h2 h3 h4 h5 => PZ.of h1 h3 h5 (.cons () (.cons () (.cons () (.nil ⟨EnvAll.of h2 ⟨rfl, rfl, rfl, trivial⟩, h4⟩))))
        · rintro Fr _ _
          refine SO.takeT rfl rfl rfl b11 ?_
          refine SO.v rfl (opv_nilCheck rfl) ?_
          exact SO.nilZ fun a w h1 h2 h3 h4 h5 => PZ.of h1 h3 h5 (.cons () (.cons () (.cons () (.nil ⟨EnvAll.of h2 ⟨rfl, rfl, rfl, trivial⟩, h4⟩))))
        · rintro Fr _ _
          refine SO.takeT rfl rfl rfl b11 ?_
          refine SO.v rfl (opv_fieldAddr Try.underlying108 rfl Try.sizeOf3 rfl rfl) ?_
          exact SO.nilZ fun a w h1 h2 h3 h4 h5 => PZ.of h1 h3 h5 (.cons () (.cons () (.cons () (.nil ⟨EnvAll.of h2 ⟨rfl, rfl, rfl, trivial⟩, h4⟩))))
        · rintro Fr _ _ _
          refine SO.takeT rfl rfl rfl b11 ?_
          refine SO.load1 rfl Try.isAgg3 rfl rfl ?_
          exact SO.nilZ fun a w h1 h2 h3 h4 h5 => PZ.of h1 h3 h5 (.cons () (.cons () (.cons () (.cons () (.nil ⟨EnvAll.of h2 ⟨rfl, rfl, rfl, trivial⟩, h4⟩)))))
        · rintro Fr _ _ _
          refine SO.takeT rfl rfl rfl b11 ?_
          refine SO.v rfl (opv_neq rfl rfl) ?_
          exact SO.nilZ fun a w h1 h2 h3 h4 h5 => PZ.of h1 h3 h5 (.cons () (.cons () (.cons () (.cons () (.nil ⟨EnvAll.of h2 ⟨rfl, rfl, rfl, rfl, trivial⟩, h4⟩)))))
        · rintro Fr _ _
          refine SO.v rfl (opv_pick_t' b11 rfl rfl) ?_
          exact SO.nilZ fun a w h1 h2 h3 h4 h5 => PZ.of h1 h3 h5 (.cons () (.cons () (.cons () (.nil ⟨EnvAll.of h2 ⟨rfl, rfl, rfl, trivial⟩, h4⟩))))
        · rintro Fr _
          refine SO.v rfl (opv_assign rfl) ?_
          exact SO.nilZ fun a w h1 h2 h3 h4 h5 => PZ.of h1 h3 h5 (.cons () (.cons () (.nil ⟨EnvAll.of h2 ⟨rfl, rfl, trivial⟩, h4⟩)))
        rintro _ _ _ _ _ _ _ _ _ _ _ _
        refine S.to (ρ' := [(0, bp bp0 0), (4, .int .i64 0), (1, bp bp1 0), (5, bp b5 0), (6, bp b9 0), (7, errV 60 t7), (47, .bool (t6.Mark != a0.mark))]) ⟨rfl, rfl, rfl, rfl, rfl, rfl, rfl, trivial⟩ ?_
        cases h
        refine S.b6 ?_
        refine S.b6 ?_
        refine S.b6 ?_
        refine S.b6 ?_
        refine S.b6 ?_
        refine S.b6 ?_
        refine S.b6 ?_
        refine S.to ?_ (hk1 () trivial)
        exact ⟨rfl, rfl, rfl, rfl, rfl, rfl, rfl, trivial⟩
      replace h := cond_f b11 h
      refine S.draw2 (Y := fun Q => ∃ (_ _ _ _ _ _ _ _ _ _ _ : Unit), Q [(7, errV 60 t7), (6, bp b9 0), (0, bp bp0 0), (4, .int .i64 0), (1, bp bp1 0), (5, bp b5 0)] [Box b9 [.int .u64 t6.Value, .int .u32 t6.Version, .int .i64 t6.Mark], Box bp1 [v1_l, .int .u32 a1.limit], Own 88 ek_api_Cell v1_l a1.l, Box b5 [.int .i64 x3.Cell, .int .u32 x3.Version, .int .u64 x3.Old, .int .u64 x3.New, .bool x3.Write], Own 114 ek_tx_Entry v0_l a0.l, Box bp0 [.int .i64 a0.mark, v0_l, .int .i64 a0.status, .int .i64 a0.at_], F]) (Z := fun Q => ∀ (_ _ _ _ _ _ _ _ _ _ _ _ : Unit), Q [(0, bp bp0 0), (4, .int .i64 0), (1, bp bp1 0), (5, bp b5 0), (6, bp b9 0), (7, errV 60 t7), (47, .bool false)] [Box b9 [.int .u64 t6.Value, .int .u32 t6.Version, .int .i64 t6.Mark], Box bp1 [v1_l, .int .u32 a1.limit], Own 88 ek_api_Cell v1_l a1.l, Box b5 [.int .i64 x3.Cell, .int .u32 x3.Version, .int .u64 x3.Old, .int .u64 x3.New, .bool x3.Write], Own 114 ek_tx_Entry v0_l a0.l, Box bp0 [.int .i64 a0.mark, v0_l, .int .i64 a0.status, .int .i64 a0.at_], F]) (T := [tS 7 (errV 60 t7), tS 6 (bp b9 0), tS 0 (bp bp0 0), tE [(4, .int .i64 0), (1, bp bp1 0), (5, bp b5 0)], tR (Box b9 [.int .u64 t6.Value, .int .u32 t6.Version, .int .i64 t6.Mark]), tR (Box bp1 [v1_l, .int .u32 a1.limit]), tR (Own 88 ek_api_Cell v1_l a1.l), tR (Box b5 [.int .i64 x3.Cell, .int .u32 x3.Version, .int .u64 x3.Old, .int .u64 x3.New, .bool x3.Write]), tR (Own 114 ek_tx_Entry v0_l a0.l), tR (Box bp0 [.int .i64 a0.mark, v0_l, .int .i64 a0.status, .int .i64 a0.at_]), tR (F), tS 48 (errV 60 t7), tS 49 (.bool t7.isNone), tS 50 (.bool t7.isNone), tS 51 (bp b9 2), tS 52 (.int .i64 t6.Mark), tS 53 (.bool (t6.Mark != 0)), tS 54 (.bool (t6.Mark != 0)), tS 55 (.bool (t6.Mark != 0)), tS 56 (undef), tS 57 (undef), tS 58 (undef), tS 59 (undef), tS 60 (undef), tS 61 (undef), tS 62 (undef), tS 63 (.bool false), tS 47 (.bool false)]) (D := [⟨[0], [], [11]⟩, ⟨[11], [], [12]⟩, ⟨[12], [], [13]⟩, ⟨[1, 13], [], [14]⟩, ⟨[13, 14, 4], [], [15]⟩, ⟨[13, 15], [], [16]⟩, ⟨[13, 16], [], [17]⟩, ⟨[17], [], [18]⟩, ⟨[18], [], [19]⟩, ⟨[18], [], [20]⟩, ⟨[18], [], [21]⟩, ⟨[18], [], [22]⟩, ⟨[18], [], [23]⟩, ⟨[18], [], [24]⟩, ⟨[18], [], [25]⟩, ⟨[18, 25], [], [26]⟩, ⟨[26], [], [27]⟩]) (ini := [0, 1, 2, 3, 4, 5, 6, 7, 8, 9, 10]) (fin := [2, 3, 1, 0, 27, 4, 5, 6, 7, 8, 9, 10]) (bf := [[], [0], [0, 1], [0, 1, 2], [0, 1, 2, 3], [0, 1, 2, 3, 4], [0, 1, 2, 3, 4, 5], [0, 1, 2, 3, 4, 5, 6], [0, 1, 2, 3, 4, 5, 6, 7], [0, 1, 2, 3, 4, 5, 6, 7, 8], [0, 1, 2, 3, 4, 5, 6, 7], [0, 1, 2, 3, 4, 5, 6, 7, 10], [0, 1, 2, 3, 4, 5, 6, 7, 10, 11], [0, 1, 2, 3, 4, 5, 6, 7, 10, 11, 12], [0, 1, 2, 3, 4, 5, 6, 7, 8, 9, 10, 11, 12, 13], [0, 1, 2, 3, 4, 5, 6, 7, 8, 9, 10, 11, 12, 13, 14], [0, 1, 2, 3, 4, 5, 6, 7, 8, 9, 10, 11, 12, 13, 14, 15]]) (by kernel_rfl) (by kernel_rfl) (fun Q => by kernel_rfl) (fun x w h1 h2 => ⟨(), (), (), (), (), (), (), (), (), (), (), EnvAll.of h1 ⟨rfl, rfl, rfl, rfl, rfl, rfl, trivial⟩, h2⟩) (fun Q => by kernel_rfl) ⟨?_, ?_, ?_, ?_, ?_, ?_, ?_, ?_, ?_, ?_, ?_, ?_, ?_, ?_, ?_, ?_, ?_, trivial⟩ ?_
      · rintro Fr _
        refine SO.v rfl (opv_move rfl) ?_
        exact SO.nilZ fun a w h1 h2 h3 h4 h5 => PZ.of h1 h3 h5 (.cons () (.cons () (.nil ⟨EnvAll.of h2 ⟨rfl, rfl, trivial⟩, h4⟩)))
      · rintro Fr _
        refine SO.v rfl (opv_eqlN (e := t7) Try.underlying29 rfl) ?_
        exact SO.nilZ fun a w h1 h2 h3 h4 h5 => PZ.of h1 h3 h5 (.cons () (.cons () (.nil ⟨EnvAll.of h2 ⟨rfl, rfl, trivial⟩, h4⟩)))
      · rintro Fr _
        refine SO.v rfl (opv_move rfl) ?_
        exact SO.nilZ fun a w h1 h2 h3 h4 h5 => PZ.of h1 h3 h5 (.cons () (.cons () (.nil ⟨EnvAll.of h2 ⟨rfl, rfl, trivial⟩, h4⟩)))
      · rintro Fr _ _
        refine SO.takeT rfl rfl rfl b10 ?_
        refine SO.v rfl (opv_fieldAddr Try.underlying88 rfl Try.sizeOf3 rfl rfl) ?_
        exact SO.nilZ fun a w h1 h2 h3 h4 h5 => PZ.of h1 h3 h5 (.cons () (.cons () (.cons () (.nil ⟨EnvAll.of h2 ⟨rfl, rfl, rfl, trivial⟩, h4⟩))))
      · rintro Fr _ _ _
        refine SO.takeT rfl rfl rfl b10 ?_
        refine SO.load1 rfl Try.isAgg3 rfl rfl ?_
        exact SO.nilZ fun a w h1 h2 h3 h4 h5 => PZ.of h1 h3 h5 (.cons () (.cons () (.cons () (.cons () (.nil ⟨EnvAll.of h2 ⟨rfl, rfl, rfl, trivial⟩, h4⟩)))))
      · rintro Fr _ _
        refine SO.takeT rfl rfl rfl b10 ?_
        refine SO.v rfl (opv_neq rfl rfl) ?_
        exact SO.nilZ fun a w h1 h2 h3 h4 h5 => PZ.of h1 h3 h5 (.cons () (.cons () (.cons () (.nil ⟨EnvAll.of h2 ⟨rfl, rfl, rfl, trivial⟩, h4⟩))))
      · rintro Fr _ _
        refine SO.v rfl (opv_pick_t' b10 rfl rfl) ?_
        exact SO.nilZ fun a w h1 h2 h3 h4 h5 => PZ.of h1 h3 h5 (.cons () (.cons () (.cons () (.nil ⟨EnvAll.of h2 ⟨rfl, rfl, rfl, trivial⟩, h4⟩))))
      · rintro Fr _
        refine SO.v rfl (opv_move rfl) ?_
        exact SO.nilZ fun a w h1 h2 h3 h4 h5 => PZ.of h1 h3 h5 (.cons () (.cons () (.nil ⟨EnvAll.of h2 ⟨rfl, rfl, trivial⟩, h4⟩)))
      · rintro Fr _
        refine SO.passF rfl rfl rfl b11 rfl rfl ?_
        exact SO.nilZ fun a w h1 h2 h3 h4 h5 => PZ.of h1 h3 h5 (.cons () (.cons () (.nil ⟨EnvAll.of h2 ⟨rfl, rfl, trivial⟩, h4⟩)))
      · rintro Fr _
        refine SO.passF rfl rfl rfl b11 rfl rfl ?_
        exact SO.nilZ fun a w h1 h2 h3 h4 h5 => PZ.of h1 h3 h5 (.cons () (.cons () (.nil ⟨EnvAll.of h2 ⟨rfl, rfl, trivial⟩, h4⟩)))
      · rintro Fr _
        refine SO.passF rfl rfl rfl b11 rfl rfl ?_
        exact SO.nilZ fun a w h1 h2 h3 h4 h5 => PZ.of h1 h3 h5 (.cons () (.cons () (.nil ⟨EnvAll.of h2 ⟨rfl, rfl, trivial⟩, h4⟩)))
      · rintro Fr _
        refine SO.passF rfl rfl rfl b11 rfl rfl ?_
        exact SO.nilZ fun a w h1 h2 h3 h4 h5 => PZ.of h1 h3 h5 (.cons () (.cons () (.nil ⟨EnvAll.of h2 ⟨rfl, rfl, trivial⟩, h4⟩)))
      · rintro Fr _
        refine SO.passF rfl rfl rfl b11 rfl rfl ?_
        exact SO.nilZ fun a w h1 h2 h3 h4 h5 => PZ.of h1 h3 h5 (.cons () (.cons () (.nil ⟨EnvAll.of h2 ⟨rfl, rfl, trivial⟩, h4⟩)))
      · rintro Fr _
        refine SO.passF rfl rfl rfl b11 rfl rfl ?_
        exact SO.nilZ fun a w h1 h2 h3 h4 h5 => PZ.of h1 h3 h5 (.cons () (.cons () (.nil ⟨EnvAll.of h2 ⟨rfl, rfl, trivial⟩, h4⟩)))
      · rintro Fr _
        refine SO.passF rfl rfl rfl b11 rfl rfl ?_
        exact SO.nilZ fun a w h1 h2 h3 h4 h5 => PZ.of h1 h3 h5 (.cons () (.cons () (.nil ⟨EnvAll.of h2 ⟨rfl, rfl, trivial⟩, h4⟩)))
      · rintro Fr _ _
        refine SO.v rfl (opv_pick_f' b11 rfl rfl) ?_
        exact SO.nilZ fun a w h1 h2 h3 h4 h5 => PZ.of h1 h3 h5 (.cons () (.cons () (.cons () (.nil ⟨EnvAll.of h2 ⟨rfl, rfl, rfl, trivial⟩, h4⟩))))
      · rintro Fr _
        refine SO.v rfl (opv_assign rfl) ?_
        exact SO.nilZ fun a w h1 h2 h3 h4 h5 => PZ.of h1 h3 h5 (.cons () (.cons () (.nil ⟨EnvAll.of h2 ⟨rfl, rfl, trivial⟩, h4⟩)))
      rintro _ _ _ _ _ _ _ _ _ _ _ _
      refine S.to (ρ' := [(0, bp bp0 0), (4, .int .i64 0), (1, bp bp1 0), (5, bp b5 0), (6, bp b9 0), (7, errV 60 t7), (47, .bool false)]) ⟨rfl, rfl, rfl, rfl, rfl, rfl, rfl, trivial⟩ ?_
      cases h
      refine S.b6 ?_
      refine S.b6 ?_
      refine S.b6 ?_
      refine S.b6 ?_
      refine S.b6 ?_
      refine S.b6 ?_
      refine S.b6 ?_
      refine S.to ?_ (hk1 () trivial)
      exact ⟨rfl, rfl, rfl, rfl, rfl, rfl, rfl, trivial⟩
    replace h := cond_f b10 h
    refine S.draw2 (Y := fun Q => ∃ (_ _ _ _ _ _ _ _ _ _ _ : Unit), Q [(7, errV 60 t7), (6, bp b9 0), (0, bp bp0 0), (4, .int .i64 0), (1, bp bp1 0), (5, bp b5 0)] [Box b9 [.int .u64 t6.Value, .int .u32 t6.Version, .int .i64 t6.Mark], Box bp1 [v1_l, .int .u32 a1.limit], Own 88 ek_api_Cell v1_l a1.l, Box b5 [.int .i64 x3.Cell, .int .u32 x3.Version, .int .u64 x3.Old, .int .u64 x3.New, .bool x3.Write], Own 114 ek_tx_Entry v0_l a0.l, Box bp0 [.int .i64 a0.mark, v0_l, .int .i64 a0.status, .int .i64 a0.at_], F]) (Z := fun Q => ∀ (_ _ _ _ _ _ _ _ _ _ _ _ : Unit), Q [(0, bp bp0 0), (4, .int .i64 0), (1, bp bp1 0), (5, bp b5 0), (6, bp b9 0), (7, errV 60 t7), (47, .bool false)] [Box b9 [.int .u64 t6.Value, .int .u32 t6.Version, .int .i64 t6.Mark], Box bp1 [v1_l, .int .u32 a1.limit], Own 88 ek_api_Cell v1_l a1.l, Box b5 [.int .i64 x3.Cell, .int .u32 x3.Version, .int .u64 x3.Old, .int .u64 x3.New, .bool x3.Write], Own 114 ek_tx_Entry v0_l a0.l, Box bp0 [.int .i64 a0.mark, v0_l, .int .i64 a0.status, .int .i64 a0.at_], F]) (T := [tS 7 (errV 60 t7), tS 6 (bp b9 0), tS 0 (bp bp0 0), tE [(4, .int .i64 0), (1, bp bp1 0), (5, bp b5 0)], tR (Box b9 [.int .u64 t6.Value, .int .u32 t6.Version, .int .i64 t6.Mark]), tR (Box bp1 [v1_l, .int .u32 a1.limit]), tR (Own 88 ek_api_Cell v1_l a1.l), tR (Box b5 [.int .i64 x3.Cell, .int .u32 x3.Version, .int .u64 x3.Old, .int .u64 x3.New, .bool x3.Write]), tR (Own 114 ek_tx_Entry v0_l a0.l), tR (Box bp0 [.int .i64 a0.mark, v0_l, .int .i64 a0.status, .int .i64 a0.at_]), tR (F), tS 48 (errV 60 t7), tS 49 (.bool t7.isNone), tS 50 (.bool t7.isNone), tS 51 (undef), tS 52 (undef), tS 53 (undef), tS 54 (.bool false), tS 55 (.bool false), tS 56 (undef), tS 57 (undef), tS 58 (undef), tS 59 (undef), tS 60 (undef), tS 61 (undef), tS 62 (undef), tS 63 (.bool false), tS 47 (.bool false)]) (D := [⟨[0], [], [11]⟩, ⟨[11], [], [12]⟩, ⟨[12], [], [13]⟩, ⟨[13], [], [14]⟩, ⟨[13], [], [15]⟩, ⟨[13], [], [16]⟩, ⟨[13, 16], [], [17]⟩, ⟨[17], [], [18]⟩, ⟨[18], [], [19]⟩, ⟨[18], [], [20]⟩, ⟨[18], [], [21]⟩, ⟨[18], [], [22]⟩, ⟨[18], [], [23]⟩, ⟨[18], [], [24]⟩, ⟨[18], [], [25]⟩, ⟨[18, 25], [], [26]⟩, ⟨[26], [], [27]⟩]) (ini := [0, 1, 2, 3, 4, 5, 6, 7, 8, 9, 10]) (fin := [2, 3, 1, 0, 27, 4, 5, 6, 7, 8, 9, 10]) (bf := [[], [0], [0, 1], [0, 1, 2], [0, 1, 2, 3], [0, 1, 2, 3, 4], [0, 1, 2, 3, 4, 5], [0, 1, 2, 3, 4, 5, 6], [0, 1, 2, 3, 4, 5, 6, 7], [0, 1, 2, 3, 4, 5, 6, 7, 8], [0, 1, 2, 3, 4, 5, 6, 7], [0, 1, 2, 3, 4, 5, 6, 7, 10], [0, 1, 2, 3, 4, 5, 6, 7, 10, 11], [0, 1, 2, 3, 4, 5, 6, 7, 10, 11, 12], [0, 1, 2, 3, 4, 5, 6, 7, 8, 9, 10, 11, 12, 13], [0, 1, 2, 3, 4, 5, 6, 7, 8, 9, 10, 11, 12, 13, 14], [0, 1, 2, 3, 4, 5, 6, 7, 8, 9, 10, 11, 12, 13, 14, 15]]) (by kernel_rfl) (by kernel_rfl) (fun Q => by kernel_rfl) (fun x w h1 h2 => ⟨(), (), (), (), (), (), (), (), (), (), (), EnvAll.of h1 ⟨rfl, rfl, rfl, rfl, rfl, rfl, trivial⟩, h2⟩) (fun Q => by kernel_rfl) ⟨?_, ?_, ?_, ?_, ?_, ?_, ?_, ?_, ?_, ?_, ?_, ?_, ?_, ?_, ?_, ?_, ?_, trivial⟩ ?_
    · rintro Fr _
      refine SO.v rfl (opv_move rfl) ?_
      exact SO.nilZ fun a w h1 h2 h3 h4 h5 => PZ.of h1 h3 h5 (.cons () (.cons () (.nil ⟨EnvAll.of h2 ⟨rfl, rfl, trivial⟩, h4⟩)))
    · rintro Fr _
      refine SO.v rfl (opv_eqlN (e := t7) Try.underlying29 rfl) ?_
      exact SO.nilZ fun a w h1 h2 h3 h4 h5 => PZ.of h1 h3 h5 (.cons () (.cons () (.nil ⟨EnvAll.of h2 ⟨rfl, rfl, trivial⟩, h4⟩)))
    · rintro Fr _
      refine SO.v rfl (opv_move rfl) ?_
      exact SO.nilZ fun a w h1 h2 h3 h4 h5 => PZ.of h1 h3 h5 (.cons () (.cons () (.nil ⟨EnvAll.of h2 ⟨rfl, rfl, trivial⟩, h4⟩)))
    · rintro Fr _
      refine SO.passF rfl rfl rfl b10 rfl rfl ?_
      exact SO.nilZ fun a w h1 h2 h3 h4 h5 => PZ.of h1 h3 h5 (.cons () (.cons () (.nil ⟨EnvAll.of h2 ⟨rfl, rfl, trivial⟩, h4⟩)))
    · rintro Fr _
      refine SO.passF rfl rfl rfl b10 rfl rfl ?_
      exact SO.nilZ fun a w h1 h2 h3 h4 h5 => PZ.of h1 h3 h5 (.cons () (.cons () (.nil ⟨EnvAll.of h2 ⟨rfl, rfl, trivial⟩, h4⟩)))
    · rintro Fr _
      refine SO.passF rfl rfl rfl b10 rfl rfl ?_
      exact SO.nilZ fun a w h1 h2 h3 h4 h5 => PZ.of h1 h3 h5 (.cons () (.cons () (.nil ⟨EnvAll.of h2 ⟨rfl, rfl, trivial⟩, h4⟩)))
    · rintro Fr _ _
      refine SO.v rfl (opv_pick_f' b10 rfl rfl) ?_
      exact SO.nilZ fun a w h1 h2 h3 h4 h5 => PZ.of h1 h3 h5 (.cons () (.cons () (.cons () (.nil ⟨EnvAll.of h2 ⟨rfl, rfl, rfl, trivial⟩, h4⟩))))
    · rintro Fr _
      refine SO.v rfl (opv_move rfl) ?_
      exact SO.nilZ fun a w h1 h2 h3 h4 h5 => PZ.of h1 h3 h5 (.cons () (.cons () (.nil ⟨EnvAll.of h2 ⟨rfl, rfl, trivial⟩, h4⟩)))
    · rintro Fr _
      refine SO.passF rfl rfl rfl rfl rfl rfl ?_
      exact SO.nilZ fun a w h1 h2 h3 h4 h5 => PZ.of h1 h3 h5 (.cons () (.cons () (.nil ⟨EnvAll.of h2 ⟨rfl, rfl, trivial⟩, h4⟩)))
    · rintro Fr _
      refine SO.passF rfl rfl rfl rfl rfl rfl ?_
      exact SO.nilZ fun a w h1 h2 h3 h4 h5 => PZ.of h1 h3 h5 (.cons () (.cons () (.nil ⟨EnvAll.of h2 ⟨rfl, rfl, trivial⟩, h4⟩)))
    · rintro Fr _
      refine SO.passF rfl rfl rfl rfl rfl rfl ?_
      exact SO.nilZ fun a w h1 h2 h3 h4 h5 => PZ.of h1 h3 h5 (.cons () (.cons () (.nil ⟨EnvAll.of h2 ⟨rfl, rfl, trivial⟩, h4⟩)))
    · rintro Fr _
      refine SO.passF rfl rfl rfl rfl rfl rfl ?_
      exact SO.nilZ fun a w h1 h2 h3 h4 h5 => PZ.of h1 h3 h5 (.cons () (.cons () (.nil ⟨EnvAll.of h2 ⟨rfl, rfl, trivial⟩, h4⟩)))
    · rintro Fr _
      refine SO.passF rfl rfl rfl rfl rfl rfl ?_
      exact SO.nilZ fun a w h1 h2 h3 h4 h5 => PZ.of h1 h3 h5 (.cons () (.cons () (.nil ⟨EnvAll.of h2 ⟨rfl, rfl, trivial⟩, h4⟩)))
    · rintro Fr _
      refine SO.passF rfl rfl rfl rfl rfl rfl ?_
      exact SO.nilZ fun a w h1 h2 h3 h4 h5 => PZ.of h1 h3 h5 (.cons () (.cons () (.nil ⟨EnvAll.of h2 ⟨rfl, rfl, trivial⟩, h4⟩)))
    · rintro Fr _
      refine SO.passF rfl rfl rfl rfl rfl rfl ?_
      exact SO.nilZ fun a w h1 h2 h3 h4 h5 => PZ.of h1 h3 h5 (.cons () (.cons () (.nil ⟨EnvAll.of h2 ⟨rfl, rfl, trivial⟩, h4⟩)))
    · rintro Fr _ _
      refine SO.v rfl (opv_pick_ff rfl rfl) ?_
      exact SO.nilZ fun a w h1 h2 h3 h4 h5 => PZ.of h1 h3 h5 (.cons () (.cons () (.cons () (.nil ⟨EnvAll.of h2 ⟨rfl, rfl, rfl, trivial⟩, h4⟩))))
    · rintro Fr _
      refine SO.v rfl (opv_assign rfl) ?_
      exact SO.nilZ fun a w h1 h2 h3 h4 h5 => PZ.of h1 h3 h5 (.cons () (.cons () (.nil ⟨EnvAll.of h2 ⟨rfl, rfl, trivial⟩, h4⟩)))
    rintro _ _ _ _ _ _ _ _ _ _ _ _
    refine S.to (ρ' := [(0, bp bp0 0), (4, .int .i64 0), (1, bp bp1 0), (5, bp b5 0), (6, bp b9 0), (7, errV 60 t7), (47, .bool false)]) ⟨rfl, rfl, rfl, rfl, rfl, rfl, rfl, trivial⟩ ?_
    cases h
    refine S.b6 ?_
    refine S.b6 ?_
    refine S.b6 ?_
    refine S.b6 ?_
    refine S.b6 ?_
    refine S.b6 ?_
    refine S.b6 ?_
    refine S.to ?_ (hk1 () trivial)
    exact ⟨rfl, rfl, rfl, rfl, rfl, rfl, rfl, trivial⟩
  rintro _ -
  replace h := hJ1
  rcases bool_or j47_1 with b12 | b12
  · replace h := cond_t b12 h
    refine S.condT rfl b12 ?_
    refine S.seq ?_
    refine S.region ?_
    refine SO.v rfl (opv_fieldAddr Try.underlying88 rfl Try.sizeOf3 rfl rfl) ?_
    refine SO.load1 rfl Try.isAgg3 rfl rfl ?_
    refine SO.v rfl (opv_assign rfl) ?_
    refine SO.nil ?_
    refine S.to (ρ' := [(4, .int .i64 t6.Mark)]) ⟨rfl, trivial⟩ ?_
    cases h
    refine S.drop ?_
    refine S.b2 ?_
    refine S.drop ?_
    refine S.b4 ?_
    refine S.b2 ?_
    refine S.b2 ?_
    refine S.b3 ?_
    refine S.b4 ?_
    exact S.ret1 Try.func53 rfl rfl (fun w hs hk => hR w _ _ ⟨v0_l, v1_l, rfl, rfl⟩ hs hk)
  replace h := cond_f b12 h
  refine S.condF rfl b12 ?_
  refine S.seq ?_
  refine S.region ?_
  refine SO.v rfl (opv_move rfl) ?_
  refine SO.v rfl (opv_neqN (e := t7) Try.underlying29 rfl) ?_
  refine SO.v rfl (opv_move rfl) ?_
  obtain ⟨c14, hc15, hgk⟩ := opt_bind h
  refine SO.cut 6 75 (.bool c14) [Box b9 [.int .u64 t6.Value, .int .u32 t6.Version, .int .i64 t6.Mark], Box bp1 [v1_l, .int .u32 a1.limit], Own 88 ek_api_Cell v1_l a1.l, Box b5 [.int .i64 x3.Cell, .int .u32 x3.Version, .int .u64 x3.Old, .int .u64 x3.New, .bool x3.Write], Own 114 ek_tx_Entry v0_l a0.l, Box bp0 [.int .i64 a0.mark, v0_l, .int .i64 a0.status, .int .i64 a0.at_], F] (fun l2 hk2 => ?_) ?_
  · clear hgk
    replace h := hc15
    rcases bool_or t7.isSome with b13 | b13
    · replace h := cond_t b13 h
      refine SO.passF rfl rfl rfl b13 rfl rfl ?_
      refine SO.passF rfl rfl rfl b13 rfl rfl ?_
      refine SO.passF rfl rfl rfl b13 rfl rfl ?_
      refine SO.passF rfl rfl rfl b13 rfl rfl ?_
      refine SO.passF rfl rfl rfl b13 rfl rfl ?_
      cases h
      refine SO.v rfl (opv_pick_t' b13 rfl rfl) ?_
      refine SO.b6 ?_
      refine SO.b6 ?_
      refine SO.b6 ?_
      refine SO.b6 ?_
      refine SO.b6 ?_
      refine SO.b6 ?_
      refine SO.b6 ?_
      exact hk2.fitc (m := 6) rfl (rfl) rfl
    replace h := cond_f b13 h
    refine SO.takeT rfl rfl rfl b13 ?_
    refine SO.v rfl (opv_fieldAddr Try.underlying88 rfl Try.sizeOf22 rfl rfl) ?_
    refine SO.takeT rfl rfl rfl b13 ?_
    refine SO.load1 rfl Try.isAgg22 rfl rfl ?_
    refine SO.takeT rfl rfl rfl b13 ?_
    refine SO.v rfl (opv_fieldAddr Try.underlying114 rfl Try.sizeOf22 rfl rfl) ?_
    refine SO.takeT rfl rfl rfl b13 ?_
    refine SO.b3 ?_
    refine SO.load1 rfl Try.isAgg22 rfl rfl ?_
    refine SO.takeT rfl rfl rfl b13 ?_
    refine SO.v rfl (opv_neq rfl rfl) ?_
    cases h
    refine SO.v rfl (opv_pick_f' b13 rfl rfl) ?_
    refine SO.b6 ?_
    refine SO.b6 ?_
    refine SO.b6 ?_
    refine SO.b3 ?_
    refine SO.b6 ?_
    refine SO.b6 ?_
    refine SO.b6 ?_
    exact hk2.fitc (m := 6) rfl (rfl) rfl
  clear hc15
  replace h := hgk
  refine SO.v rfl (opv_assign rfl) ?_
  refine SO.nil ?_
  rcases bool_or c14 with b16 | b16
  · replace h := cond_t b16 h
    refine S.condT rfl b16 ?_
    refine S.region ?_
    refine SO.v rfl (opv_move rfl) ?_
    obtain ⟨p17, ht18, h⟩ := opt_bind h
    refine SO.b4 ?_
    refine SO.b5 ?_
    refine SO.call (pre := [Box _ _, Own _ _ _ _]) rfl Try.call52 rfl rfl rfl (desc_Desc_turn.ct bp0 v0_l _ _ _ ht18) trivial ?_
    rintro _ _ ⟨u19_l, rfl, rfl⟩
    refine SO.b1 ?_
    refine SO.rd fun hr20 => ?_
    refine SO.nil ?_
    refine S.to (ρ' := [(4, .int .i64 0)]) ⟨rfl, trivial⟩ ?_
    refine S.inBlock ?_
    refine S.seq ?_
    refine S.region ?_
    refine SO.v rfl (opv_assign rfl) ?_
    refine SO.nil ?_
    cases h
    refine S.b2 ?_
    refine S.drop ?_
    refine S.b4 ?_
    refine S.drop ?_
    refine S.b4 ?_
    refine S.b4 ?_
    refine S.b4 ?_
    refine S.b3 ?_
    refine S.b4 ?_
    exact S.ret1 Try.func53 rfl rfl (fun w hs hk => hR w _ _ ⟨u19_l, v1_l, rfl, rfl⟩ hs hk)
  replace h := cond_f b16 h
  refine S.condF rfl b16 ?_
  refine S.seq ?_
  obtain ⟨j78_2, hC2, hJ2⟩ := opt_bind h
  clear h
  refine S.cutP (G := Unit) (fun _ => True) (fun _ => [(0, bp bp0 0), (1, bp bp1 0), (4, .int .i64 0), (5, bp b5 0), (78, .bool j78_2)]) (fun _ => [Box b9 [.int .u64 t6.Value, .int .u32 t6.Version, .int .i64 t6.Mark], Box bp1 [v1_l, .int .u32 a1.limit], Own 88 ek_api_Cell v1_l a1.l, Box b5 [.int .i64 x3.Cell, .int .u32 x3.Version, .int .u64 x3.Old, .int .u64 x3.New, .bool x3.Write], Own 114 ek_tx_Entry v0_l a0.l, Box bp0 [.int .i64 a0.mark, v0_l, .int .i64 a0.status, .int .i64 a0.at_], F]) (fun hk2 => ?_) ?_
  · replace h := hC2
    rcases bool_or x3.Write with b21 | b21
    · replace h := cond_t b21 h
      obtain ⟨t22, ht23, h⟩ := opt_bind h
      refine S.draw2 (Y := fun Q => ∃ (_ _ _ _ _ _ _ _ _ _ _ : Unit), Q [(5, bp b5 0), (6, bp b9 0), (1, bp bp1 0), (0, bp bp0 0), (4, .int .i64 0)] [Box b9 [.int .u64 t6.Value, .int .u32 t6.Version, .int .i64 t6.Mark], Box bp1 [v1_l, .int .u32 a1.limit], Own 88 ek_api_Cell v1_l a1.l, Box b5 [.int .i64 x3.Cell, .int .u32 x3.Version, .int .u64 x3.Old, .int .u64 x3.New, .bool x3.Write], Own 114 ek_tx_Entry v0_l a0.l, Box bp0 [.int .i64 a0.mark, v0_l, .int .i64 a0.status, .int .i64 a0.at_], F]) (Z := fun Q => ∀ (_ _ _ _ _ _ _ _ _ _ _ : Unit), Q [(0, bp bp0 0), (4, .int .i64 0), (1, bp bp1 0), (5, bp b5 0), (78, .bool (t6.Version == t22))] [Box b9 [.int .u64 t6.Value, .int .u32 t6.Version, .int .i64 t6.Mark], Box bp1 [v1_l, .int .u32 a1.limit], Own 88 ek_api_Cell v1_l a1.l, Box b5 [.int .i64 x3.Cell, .int .u32 x3.Version, .int .u64 x3.Old, .int .u64 x3.New, .bool x3.Write], Own 114 ek_tx_Entry v0_l a0.l, Box bp0 [.int .i64 a0.mark, v0_l, .int .i64 a0.status, .int .i64 a0.at_], F]) (T := [tS 5 (bp b5 0), tS 6 (bp b9 0), tS 1 (bp bp1 0), tE [(0, bp bp0 0), (4, .int .i64 0)], tR (Box b9 [.int .u64 t6.Value, .int .u32 t6.Version, .int .i64 t6.Mark]), tR (Box bp1 [v1_l, .int .u32 a1.limit]), tR (Own 88 ek_api_Cell v1_l a1.l), tR (Box b5 [.int .i64 x3.Cell, .int .u32 x3.Version, .int .u64 x3.Old, .int .u64 x3.New, .bool x3.Write]), tR (Own 114 ek_tx_Entry v0_l a0.l), tR (Box bp0 [.int .i64 a0.mark, v0_l, .int .i64 a0.status, .int .i64 a0.at_]), tR (F), tS 79 (bp b5 4), tS 80 (.bool x3.Write), tS 81 (.bool x3.Write), tS 82 (bp b9 1), tS 83 (.int .u32 t6.Version), tS 84 (bp bp1 0), tS 85 (.int .u32 t22), tS 86 (.bool (t6.Version == t22)), tS 87 (.bool (t6.Version == t22)), tS 78 (.bool (t6.Version == t22))]) (D := [⟨[0], [], [11]⟩, ⟨[11, 7], [], [12]⟩, ⟨[12], [], [13]⟩, ⟨[1, 13], [], [14]⟩, ⟨[13, 14, 4], [], [15]⟩, ⟨[2, 13], [], [16]⟩, ⟨[13, 16, 5, 6], [], [17]⟩, ⟨[13, 15, 17], [], [18]⟩, ⟨[13, 18], [], [19]⟩, ⟨[19], [], [20]⟩]) (ini := [0, 1, 2, 3, 4, 5, 6, 7, 8, 9, 10]) (fin := [3, 2, 0, 20, 4, 5, 6, 7, 8, 9, 10]) (bf := [[], [0], [0, 1], [0, 1, 2], [0, 1, 2, 3], [0, 1, 2], [0, 1, 2, 5], [0, 1, 2, 3, 4, 5, 6], [0, 1, 2, 3, 4, 5, 6, 7], [0, 1, 2, 3, 4, 5, 6, 7, 8]]) (by kernel_rfl) (by kernel_rfl) (fun Q => by kernel_rfl) (fun x w h1 h2 => ⟨(), (), (), (), (), (), (), (), (), (), (), EnvAll.of h1 ⟨rfl, rfl, rfl, rfl, rfl, trivial⟩, h2⟩) (fun Q => by kernel_rfl) ⟨?_, ?_, ?_, ?_, ?_, ?_, ?_, ?_, ?_, ?_, trivial⟩ ?_
      · rintro Fr _
        refine SO.v rfl (opv_fieldAddr Try.underlying114 rfl Try.sizeOf4 rfl rfl) ?_
        exact SO.nilZ fun a w h1 h2 h3 h4 h5 => PZ.of h1 h3 h5 (.cons () (.cons () (.nil ⟨EnvAll.of h2 ⟨rfl, rfl, trivial⟩, h4⟩)))
      · rintro Fr _ _
        refine SO.load1 rfl Try.isAgg4 rfl rfl ?_
        exact SO.nilZ fun a w h1 h2 h3 h4 h5 => PZ.of h1 h3 h5 (.cons () (.cons () (.cons () (.nil ⟨EnvAll.of h2 ⟨rfl, rfl, trivial⟩, h4⟩))))
      · rintro Fr _
        refine SO.v rfl (opv_move rfl) ?_
        exact SO.nilZ fun a w h1 h2 h3 h4 h5 => PZ.of h1 h3 h5 (.cons () (.cons () (.nil ⟨EnvAll.of h2 ⟨rfl, rfl, trivial⟩, h4⟩)))
      · rintro Fr _ _
        refine SO.takeT rfl rfl rfl b21 ?_
        refine SO.v rfl (opv_fieldAddr Try.underlying88 rfl Try.sizeOf22 rfl rfl) ?_
        exact SO.nilZ fun a w h1 h2 h3 h4 h5 => PZ.of h1 h3 h5 (.cons () (.cons () (.cons () (.nil ⟨EnvAll.of h2 ⟨rfl, rfl, rfl, trivial⟩, h4⟩))))
      · rintro Fr _ _ _
        refine SO.takeT rfl rfl rfl b21 ?_
        refine SO.load1 rfl Try.isAgg22 rfl rfl ?_
        exact SO.nilZ fun a w h1 h2 h3 h4 h5 => PZ.of h1 h3 h5 (.cons () (.cons () (.cons () (.cons () (.nil ⟨EnvAll.of h2 ⟨rfl, rfl, rfl, trivial⟩, h4⟩)))))
      · rintro Fr _ _
        refine SO.takeT rfl rfl rfl b21 ?_
        refine SO.v rfl (opv_move rfl) ?_
        exact SO.nilZ fun a w h1 h2 h3 h4 h5 => PZ.of h1 h3 h5 (.cons () (.cons () (.cons () (.nil ⟨EnvAll.of h2 ⟨rfl, rfl, rfl, trivial⟩, h4⟩))))
      · rintro Fr _ _ _ _
        refine SO.takeT rfl rfl rfl b21 ?_
        refine SO.b1 ?_
        refine SO.b1 ?_
        refine SO.call (pre := [Box _ _, Own _ _ _ _]) rfl Try.call60 rfl rfl rfl (word_Store_Limit.ct bp1 v1_l _ _ ht23) trivial ?_
        rintro _ _ ⟨rfl, rfl⟩
        refine SO.b1 ?_
        refine SO.b1 ?_
        exact SO.nilZ fun a w h1 h2 h3 h4 h5 => PZ.of2 (Y := fun Q => ∃ (_ _ _ _ _ : Unit), Q [(81, .bool x3.Write), (84, bp bp1 0), (85, .int .u32 t22)] [Box bp1 [v1_l, .int .u32 a1.limit], Own 88 ek_api_Cell v1_l a1.l]) (fun Q => by kernel_rfl) h1 h3 h5 ⟨(), (), (), (), (), EnvAll.of h2 ⟨rfl, rfl, rfl, trivial⟩, h4⟩
      · rintro Fr _ _ _
        refine SO.takeT rfl rfl rfl b21 ?_
        refine SO.v rfl (opv_eql rfl rfl) ?_
        exact SO.nilZ fun a w h1 h2 h3 h4 h5 => PZ.of h1 h3 h5 (.cons () (.cons () (.cons () (.cons () (.nil ⟨EnvAll.of h2 ⟨rfl, rfl, rfl, rfl, trivial⟩, h4⟩)))))
      · rintro Fr _ _
        refine SO.v rfl (opv_pick_t' b21 rfl rfl) ?_
        exact SO.nilZ fun a w h1 h2 h3 h4 h5 => PZ.of h1 h3 h5 (.cons () (.cons () (.cons () (.nil ⟨EnvAll.of h2 ⟨rfl, rfl, rfl, trivial⟩, h4⟩))))
      · rintro Fr _
        refine SO.v rfl (opv_assign rfl) ?_
        exact SO.nilZ fun a w h1 h2 h3 h4 h5 => PZ.of h1 h3 h5 (.cons () (.cons () (.nil ⟨EnvAll.of h2 ⟨rfl, rfl, trivial⟩, h4⟩)))
      rintro _ _ _ _ _ _ _ _ _ _ _
      refine S.to (ρ' := [(0, bp bp0 0), (4, .int .i64 0), (1, bp bp1 0), (5, bp b5 0), (78, .bool (t6.Version == t22))]) ⟨rfl, rfl, rfl, rfl, rfl, trivial⟩ ?_
      cases h
      refine S.b6 ?_
      refine S.b6 ?_
      refine S.b6 ?_
      refine S.b6 ?_
      refine S.b6 ?_
      refine S.b6 ?_
      refine S.b6 ?_
      refine S.to ?_ (hk2 () trivial)
      exact ⟨rfl, rfl, rfl, rfl, rfl, trivial⟩
    replace h := cond_f b21 h
    refine S.draw2 (Y := fun Q => ∃ (_ _ _ _ _ _ _ _ _ _ _ : Unit), Q [(5, bp b5 0), (6, bp b9 0), (1, bp bp1 0), (0, bp bp0 0), (4, .int .i64 0)] [Box b9 [.int .u64 t6.Value, .int .u32 t6.Version, .int .i64 t6.Mark], Box bp1 [v1_l, .int .u32 a1.limit], Own 88 ek_api_Cell v1_l a1.l, Box b5 [.int .i64 x3.Cell, .int .u32 x3.Version, .int .u64 x3.Old, .int .u64 x3.New, .bool x3.Write], Own 114 ek_tx_Entry v0_l a0.l, Box bp0 [.int .i64 a0.mark, v0_l, .int .i64 a0.status, .int .i64 a0.at_], F]) (Z := fun Q => ∀ (_ _ _ _ _ _ _ _ _ _ _ : Unit), Q [(0, bp bp0 0), (4, .int .i64 0), (1, bp bp1 0), (5, bp b5 0), (78, .bool false)] [Box b9 [.int .u64 t6.Value, .int .u32 t6.Version, .int .i64 t6.Mark], Box bp1 [v1_l, .int .u32 a1.limit], Own 88 ek_api_Cell v1_l a1.l, Box b5 [.int .i64 x3.Cell, .int .u32 x3.Version, .int .u64 x3.Old, .int .u64 x3.New, .bool x3.Write], Own 114 ek_tx_Entry v0_l a0.l, Box bp0 [.int .i64 a0.mark, v0_l, .int .i64 a0.status, .int .i64 a0.at_], F]) (T := [tS 5 (bp b5 0), tS 6 (bp b9 0), tS 1 (bp bp1 0), tE [(0, bp bp0 0), (4, .int .i64 0)], tR (Box b9 [.int .u64 t6.Value, .int .u32 t6.Version, .int .i64 t6.Mark]), tR (Box bp1 [v1_l, .int .u32 a1.limit]), tR (Own 88 ek_api_Cell v1_l a1.l), tR (Box b5 [.int .i64 x3.Cell, .int .u32 x3.Version, .int .u64 x3.Old, .int .u64 x3.New, .bool x3.Write]), tR (Own 114 ek_tx_Entry v0_l a0.l), tR (Box bp0 [.int .i64 a0.mark, v0_l, .int .i64 a0.status, .int .i64 a0.at_]), tR (F), tS 79 (bp b5 4), tS 80 (.bool x3.Write), tS 81 (.bool x3.Write), tS 82 (undef), tS 83 (undef), tS 84 (undef), tS 85 (undef), tS 86 (undef), tS 87 (.bool false), tS 78 (.bool false)]) (D := [⟨[0], [], [11]⟩, ⟨[11, 7], [], [12]⟩, ⟨[12], [], [13]⟩, ⟨[13], [], [14]⟩, ⟨[13], [], [15]⟩, ⟨[13], [], [16]⟩, ⟨[13], [], [17]⟩, ⟨[13], [], [18]⟩, ⟨[13, 18], [], [19]⟩, ⟨[19], [], [20]⟩]) (ini := [0, 1, 2, 3, 4, 5, 6, 7, 8, 9, 10]) (fin := [3, 2, 0, 20, 4, 5, 6, 7, 8, 9, 10]) (bf := [[], [0], [0, 1], [0, 1, 2], [0, 1, 2, 3], [0, 1, 2], [0, 1, 2, 5], [0, 1, 2, 3, 4, 5, 6], [0, 1, 2, 3, 4, 5, 6, 7], [0, 1, 2, 3, 4, 5, 6, 7, 8]]) (by kernel_rfl) (by kernel_rfl) (fun Q => by kernel_rfl) (fun x w h1 h2 => ⟨(), (), (), (), (), (), (), (), (), (), (), EnvAll.of h1 ⟨rfl, rfl, rfl, rfl, rfl, trivial⟩, h2⟩) (fun Q => by kernel_rfl) ⟨?_, ?_, ?_, ?_, ?_, ?_, ?_, ?_, ?_, ?_, trivial⟩ ?_
    · rintro Fr _
      refine SO.v rfl (opv_fieldAddr Try.underlying114 rfl Try.sizeOf4 rfl rfl) ?_
      exact SO.nilZ fun a w h1 h2 h3 h4 h5 => PZ.of h1 h3 h5 (.cons () (.cons () (.nil ⟨EnvAll.of h2 ⟨rfl, rfl, trivial⟩, h4⟩)))
    · rintro Fr _ _
      refine SO.load1 rfl Try.isAgg4 rfl rfl ?_
      exact SO.nilZ fun a w h1 h2 h3 h4 h5 => PZ.of h1 h3 h5 (.cons () (.cons () (.cons () (.nil ⟨EnvAll.of h2 ⟨rfl, rfl, trivial⟩, h4⟩))))
    · rintro Fr _
      refine SO.v rfl (opv_move rfl) ?_
      exact SO.nilZ fun a w h1 h2 h3 h4 h5 => PZ.of h1 h3 h5 (.cons () (.cons () (.nil ⟨EnvAll.of h2 ⟨rfl, rfl, trivial⟩, h4⟩)))
    · rintro Fr _
      refine SO.passF rfl rfl rfl b21 rfl rfl ?_
      exact SO.nilZ fun a w h1 h2 h3 h4 h5 => PZ.of h1 h3 h5 (.cons () (.cons () (.nil ⟨EnvAll.of h2 ⟨rfl, rfl, trivial⟩, h4⟩)))
    · rintro Fr _
      refine SO.passF rfl rfl rfl b21 rfl rfl ?_
      exact SO.nilZ fun a w h1 h2 h3 h4 h5 => PZ.of h1 h3 h5 (.cons () (.cons () (.nil ⟨EnvAll.of h2 ⟨rfl, rfl, trivial⟩, h4⟩)))
    · rintro Fr _
      refine SO.passF rfl rfl rfl b21 rfl rfl ?_
      exact SO.nilZ fun a w h1 h2 h3 h4 h5 => PZ.of h1 h3 h5 (.cons () (.cons () (.nil ⟨EnvAll.of h2 ⟨rfl, rfl, trivial⟩, h4⟩)))
    · rintro Fr _
      refine SO.passF rfl rfl rfl b21 rfl rfl ?_
      exact SO.nilZ fun a w h1 h2 h3 h4 h5 => PZ.of h1 h3 h5 (.cons () (.cons () (.nil ⟨EnvAll.of h2 ⟨rfl, rfl, trivial⟩, h4⟩)))
    · rintro Fr _
      refine SO.passF rfl rfl rfl b21 rfl rfl ?_
      exact SO.nilZ fun a w h1 h2 h3 h4 h5 => PZ.of h1 h3 h5 (.cons () (.cons () (.nil ⟨EnvAll.of h2 ⟨rfl, rfl, trivial⟩, h4⟩)))
    · rintro Fr _ _
      refine SO.v rfl (opv_pick_f' b21 rfl rfl) ?_
      exact SO.nilZ fun a w h1 h2 h3 h4 h5 => PZ.of h1 h3 h5 (.cons () (.cons () (.cons () (.nil ⟨EnvAll.of h2 ⟨rfl, rfl, rfl, trivial⟩, h4⟩))))
    · rintro Fr _
      refine SO.v rfl (opv_assign rfl) ?_
      exact SO.nilZ fun a w h1 h2 h3 h4 h5 => PZ.of h1 h3 h5 (.cons () (.cons () (.nil ⟨EnvAll.of h2 ⟨rfl, rfl, trivial⟩, h4⟩)))
    rintro _ _ _ _ _ _ _ _ _ _ _
    refine S.to (ρ' := [(0, bp bp0 0), (4, .int .i64 0), (1, bp bp1 0), (5, bp b5 0), (78, .bool false)]) ⟨rfl, rfl, rfl, rfl, rfl, trivial⟩ ?_
    cases h
    refine S.b6 ?_
    refine S.b6 ?_
    refine S.b6 ?_
    refine S.b6 ?_
    refine S.b6 ?_
    refine S.b6 ?_
    refine S.b6 ?_
    refine S.to ?_ (hk2 () trivial)
    exact ⟨rfl, rfl, rfl, rfl, rfl, trivial⟩
  rintro _ -
  replace h := hJ2
  rcases bool_or j78_2 with b24 | b24
  · replace h := cond_t b24 h
    refine S.condT rfl b24 ?_
    refine S.region ?_
    refine SO.v rfl (opv_move rfl) ?_
    obtain ⟨p25, ht26, h⟩ := opt_bind h
    refine SO.b4 ?_
    refine SO.b5 ?_
    refine SO.call (pre := [Box _ _, Own _ _ _ _]) rfl Try.call52 rfl rfl rfl (desc_Desc_turn.ct bp0 v0_l _ _ _ ht26) trivial ?_
    rintro _ _ ⟨u27_l, rfl, rfl⟩
    refine SO.b1 ?_
    refine SO.rd fun hr28 => ?_
    refine SO.nil ?_
    refine S.inBlock ?_
    refine S.seq ?_
    refine S.region ?_
    refine SO.v rfl (opv_assign rfl) ?_
    refine SO.nil ?_
    cases h
    refine S.b2 ?_
    refine S.drop ?_
    refine S.b4 ?_
    refine S.drop ?_
    refine S.b4 ?_
    refine S.b4 ?_
    refine S.b4 ?_
    refine S.b3 ?_
    refine S.b4 ?_
    exact S.ret1 Try.func53 rfl rfl (fun w hs hk => hR w _ _ ⟨u27_l, v1_l, rfl, rfl⟩ hs hk)
  replace h := cond_f b24 h
  refine S.condF rfl b24 ?_
  refine S.seq ?_
  refine S.seq ?_
  obtain ⟨⟨t29, p30⟩, ht31, h⟩ := opt_bind h
  refine S.draw2 (Y := fun Q => ∃ (_ _ _ _ _ _ _ _ _ _ _ : Unit), Q [(1, bp bp1 0), (5, bp b5 0), (0, bp bp0 0), (4, .int .i64 0)] [Box b9 [.int .u64 t6.Value, .int .u32 t6.Version, .int .i64 t6.Mark], Box bp1 [v1_l, .int .u32 a1.limit], Own 88 ek_api_Cell v1_l a1.l, Box b5 [.int .i64 x3.Cell, .int .u32 x3.Version, .int .u64 x3.Old, .int .u64 x3.New, .bool x3.Write], Own 114 ek_tx_Entry v0_l a0.l, Box bp0 [.int .i64 a0.mark, v0_l, .int .i64 a0.status, .int .i64 a0.at_], F]) (Z := fun Q => ∀ (_ _ _ : Unit) (u32_l : Value) (_ _ _ _ _ : Unit), Q [(0, bp bp0 0), (4, .int .i64 0), (8, errV 60 t29), (35, errV 60 t29)] [Own 88 ek_api_Cell u32_l p30.l, Box bp1 [u32_l, .int .u32 p30.limit], Box b9 [.int .u64 t6.Value, .int .u32 t6.Version, .int .i64 t6.Mark], Box b5 [.int .i64 x3.Cell, .int .u32 x3.Version, .int .u64 x3.Old, .int .u64 x3.New, .bool x3.Write], Own 114 ek_tx_Entry v0_l a0.l, Box bp0 [.int .i64 a0.mark, v0_l, .int .i64 a0.status, .int .i64 a0.at_], F]) (T := [tS 1 (bp bp1 0), tS 5 (bp b5 0), tS 0 (bp bp0 0), tS 4 (.int .i64 0), tR (Box b9 [.int .u64 t6.Value, .int .u32 t6.Version, .int .i64 t6.Mark]), tR (Box bp1 [v1_l, .int .u32 a1.limit]), tR (Own 88 ek_api_Cell v1_l a1.l), tR (Box b5 [.int .i64 x3.Cell, .int .u32 x3.Version, .int .u64 x3.Old, .int .u64 x3.New, .bool x3.Write]), tR (Own 114 ek_tx_Entry v0_l a0.l), tR (Box bp0 [.int .i64 a0.mark, v0_l, .int .i64 a0.status, .int .i64 a0.at_]), tR (F), tS 26 (bp bp1 0), tS 27 (bp b5 0), tS 28 (.int .i64 x3.Cell), tS 29 (bp b5 1), tS 30 (.int .u32 x3.Version), tS 31 (bp bp0 0), tS 32 (bp bp0 0), tS 33 (bp bp0 0), tS 34 (.int .i64 a0.mark), ⟨Value, [35], (fun u32_l => [(35, errV 60 t29)]), (fun u32_l => [Own 88 ek_api_Cell u32_l p30.l, Box bp1 [u32_l, .int .u32 p30.limit]]), fun _ => rfl⟩, tS 8 (errV 60 t29)]) (D := [⟨[0], [], [11]⟩, ⟨[1], [], [12]⟩, ⟨[12, 7], [], [13]⟩, ⟨[1], [], [14]⟩, ⟨[14, 7], [], [15]⟩, ⟨[2], [], [16]⟩, ⟨[16], [], [17]⟩, ⟨[17], [], [18]⟩, ⟨[18, 9], [], [19]⟩, ⟨[11, 13, 15, 19], [5, 6], [20]⟩, ⟨[20], [], [21]⟩]) (ini := [0, 1, 2, 3, 4, 5, 6, 7, 8, 9, 10]) (fin := [2, 3, 21, 20, 4, 7, 8, 9, 10]) (bf := [[], [], [1], [], [3], [], [5], [5, 6], [5, 6, 7], [0, 1, 2, 3, 4, 5, 6, 7, 8], [0, 1, 2, 3, 4, 5, 6, 7, 8, 9]]) (by kernel_rfl) (by kernel_rfl) (fun Q => by kernel_rfl) (fun x w h1 h2 => ⟨(), (), (), (), (), (), (), (), (), (), (), EnvAll.of h1 ⟨rfl, rfl, rfl, rfl, trivial⟩, h2⟩) (fun Q => by kernel_rfl) ⟨?_, ?_, ?_, ?_, ?_, ?_, ?_, ?_, ?_, ?_, ?_, trivial⟩ ?_
  · rintro Fr _
    refine SO.v rfl (opv_move rfl) ?_
    exact SO.nilZ fun a w h1 h2 h3 h4 h5 => PZ.of h1 h3 h5 (.cons () (.cons () (.nil ⟨EnvAll.of h2 ⟨rfl, rfl, trivial⟩, h4⟩)))
  · rintro Fr _
    refine SO.v rfl (opv_fieldAddr Try.underlying114 rfl Try.sizeOf3 rfl rfl) ?_
    exact SO.nilZ fun a w h1 h2 h3 h4 h5 => PZ.of h1 h3 h5 (.cons () (.cons () (.nil ⟨EnvAll.of h2 ⟨rfl, rfl, trivial⟩, h4⟩)))
  · rintro Fr _ _
    refine SO.load1 rfl Try.isAgg3 rfl rfl ?_
    exact SO.nilZ fun a w h1 h2 h3 h4 h5 => PZ.of h1 h3 h5 (.cons () (.cons () (.cons () (.nil ⟨EnvAll.of h2 ⟨rfl, rfl, trivial⟩, h4⟩))))
  · rintro Fr _
    refine SO.v rfl (opv_fieldAddr Try.underlying114 rfl Try.sizeOf22 rfl rfl) ?_
    exact SO.nilZ fun a w h1 h2 h3 h4 h5 => PZ.of h1 h3 h5 (.cons () (.cons () (.nil ⟨EnvAll.of h2 ⟨rfl, rfl, trivial⟩, h4⟩)))
  · rintro Fr _ _
    refine SO.load1 rfl Try.isAgg22 rfl rfl ?_
    exact SO.nilZ fun a w h1 h2 h3 h4 h5 => PZ.of h1 h3 h5 (.cons () (.cons () (.cons () (.nil ⟨EnvAll.of h2 ⟨rfl, rfl, trivial⟩, h4⟩))))
  · rintro Fr _
    refine SO.v rfl (opv_move rfl) ?_
    exact SO.nilZ fun a w h1 h2 h3 h4 h5 => PZ.of h1 h3 h5 (.cons () (.cons () (.nil ⟨EnvAll.of h2 ⟨rfl, rfl, trivial⟩, h4⟩)))
  · rintro Fr _
    refine SO.v rfl (opv_nilCheck rfl) ?_
    exact SO.nilZ fun a w h1 h2 h3 h4 h5 => PZ.of h1 h3 h5 (.cons () (.cons () (.nil ⟨EnvAll.of h2 ⟨rfl, rfl, trivial⟩, h4⟩)))
  · rintro Fr _
    refine SO.v rfl (opv_fieldAddr Try.underlying108 rfl Try.sizeOf3 rfl rfl) ?_
    exact SO.nilZ fun a w h1 h2 h3 h4 h5 => PZ.of h1 h3 h5 (.cons () (.cons () (.nil ⟨EnvAll.of h2 ⟨rfl, rfl, trivial⟩, h4⟩)))
  · rintro Fr _ _
    refine SO.load1 rfl Try.isAgg3 rfl rfl ?_
    exact SO.nilZ fun a w h1 h2 h3 h4 h5 => PZ.of h1 h3 h5 (.cons () (.cons () (.cons () (.nil ⟨EnvAll.of h2 ⟨rfl, rfl, trivial⟩, h4⟩))))
  · refine spec2 (X := fun Q => ∀ (_ _ _ _ _ _ : Unit), Q [(26, bp bp1 0), (28, .int .i64 x3.Cell), (30, .int .u32 x3.Version), (34, .int .i64 a0.mark)] [Box bp1 [v1_l, .int .u32 a1.limit], Own 88 ek_api_Cell v1_l a1.l]) (fun Q => by kernel_rfl) ?_
    rintro Fr _ _ _ _ _ _
    refine SO.b1 ?_
    refine SO.b1 ?_
    refine SO.call (pre := [Box _ _, Own _ _ _ _]) rfl Try.call61 rfl rfl rfl (word_Store_Reserve.ct bp1 v1_l _ _ _ _ _ _ ht31) trivial ?_
    rintro _ _ ⟨u32_l, rfl, rfl⟩
    refine SO.b1 ?_
    refine SO.rd fun hr33 => ?_
    refine SO.b1 ?_
    refine SO.b1 ?_
    exact SO.nilZ fun a w h1 h2 h3 h4 h5 => PZ.of2 (Y := fun Q => ∃ (_ _ _ _ : Unit) (u32_l : Value), Q [(26, bp bp1 0), (28, .int .i64 x3.Cell), (30, .int .u32 x3.Version), (34, .int .i64 a0.mark), (35, errV 60 t29)] [Own 88 ek_api_Cell u32_l p30.l, Box bp1 [u32_l, .int .u32 p30.limit]]) (fun Q => by kernel_rfl) h1 h3 h5 ⟨(), (), (), (), u32_l, EnvAll.of h2 ⟨rfl, rfl, rfl, rfl, rfl, trivial⟩, h4⟩
  · rintro Fr u32_l
    refine SO.rd fun hr34 => ?_
    refine SO.v rfl (opv_assign rfl) ?_
    refine SO.b1 ?_
    refine SO.b1 ?_
    exact SO.nilZ fun a w h1 h2 h3 h4 h5 => PZ.of h1 h3 h5 (.cons u32_l (.cons () (.nil ⟨EnvAll.of h2 ⟨rfl, rfl, trivial⟩, h4⟩)))
  rintro _ _ _ u32_l _ _ _ _ _
  refine S.to (ρ' := [(0, bp bp0 0), (4, .int .i64 0), (8, errV 60 t29)]) ⟨rfl, rfl, rfl, trivial⟩ ?_
  refine S.rd fun hr35 => ?_
  refine S.seq ?_
  refine S.region ?_
  refine SO.v rfl (opv_move rfl) ?_
  refine SO.v rfl (opv_neqN (e := t29) Try.underlying29 rfl) ?_
  refine SO.nil ?_
  rcases bool_or t29.isSome with b36 | b36
  · replace h := cond_t b36 h
    refine S.condT rfl b36 ?_
    refine S.seq ?_
    refine S.region ?_
    refine SO.v rfl (opv_move rfl) ?_
    obtain ⟨p37, ht38, h⟩ := opt_bind h
    refine SO.b4 ?_
    refine SO.b5 ?_
    refine SO.call (pre := [Box _ _, Own _ _ _ _]) rfl Try.call52 rfl rfl rfl (desc_Desc_turn.ct bp0 v0_l _ _ _ ht38) trivial ?_
    rintro _ _ ⟨u39_l, rfl, rfl⟩
    refine SO.b1 ?_
    refine SO.rd fun hr40 => ?_
    refine SO.nil ?_
    refine S.seq ?_
    refine S.region ?_
    refine SO.v rfl (opv_assign rfl) ?_
    refine SO.nil ?_
    cases h
    refine S.b4 ?_
    refine S.drop ?_
    refine S.b4 ?_
    refine S.drop ?_
    refine S.b4 ?_
    refine S.b3 ?_
    refine S.b4 ?_
    refine S.b3 ?_
    refine S.b4 ?_
    exact S.ret1 Try.func53 rfl rfl (fun w hs hk => hR w _ _ ⟨u39_l, u32_l, rfl, rfl⟩ hs hk)
  replace h := cond_f b36 h
  refine S.condF rfl b36 ?_
  refine S.skip ?_
  refine S.region ?_
  refine SO.v rfl (opv_move rfl) ?_
  refine SO.v rfl (opv_nilCheck rfl) ?_
  refine SO.v rfl (opv_fieldAddr Try.underlying108 rfl Try.sizeOf3 rfl rfl) ?_
  refine SO.b5 ?_
  refine SO.load1 rfl Try.isAgg3 rfl rfl ?_
  refine SO.v rfl (opv_add rfl rfl) ?_
  refine SO.v rfl (opv_nilCheck rfl) ?_
  refine SO.v rfl (opv_fieldAddr Try.underlying108 rfl Try.sizeOf3 rfl rfl) ?_
  refine SO.store1 Try.sizeOf3 rfl rfl rfl rfl ?_
  refine SO.nil ?_
  refine S.to (ρ' := [(4, .int .i64 0)]) ⟨rfl, trivial⟩ ?_
  refine S.inBlock ?_
  refine S.seq ?_
  refine S.region ?_
  refine SO.v rfl (opv_assign rfl) ?_
  refine SO.nil ?_
  cases h
  refine S.b3 ?_
  refine S.drop ?_
  refine S.b3 ?_
  refine S.drop ?_
  refine S.b4 ?_
  refine S.b2 ?_
  refine S.b3 ?_
  refine S.b4 ?_
  refine S.b4 ?_
  exact S.ret1 Try.func53 rfl rfl (fun w hs hk => hR w _ _ ⟨v0_l, u32_l, rfl, rfl⟩ hs hk)
end Go.Proofs
namespace Go.Proofs
open Go.Sl Go.RowKit
/-! 46 (*padstone/desc.Desc).Step -/
def desc_Desc_Step.f (a0 : desc_Desc) (a1 : word_Store) : Option ((Int × desc_Desc × word_Store)) :=
  (desc_Desc_Over.f a0).bind fun t3 => bif t3 then (some (0, a0, a1)) else (bif a0.status != 0 then ((desc_Desc_release.f a0 a1).bind fun (p7, p8) => some (0, p7, p8)) else (bif a0.at_ == (a0.l.length : Int) then ((desc_Desc_turn.f a0 1).bind fun p15 => some (0, p15, a1)) else ((desc_Desc_reserve.f a0 a1).bind fun (t19, p20, p21) => some (t19, p20, p21))))
set_option maxHeartbeats 8000000 in
set_option maxRecDepth 100000 in
theorem desc_Desc_Step.ct (bp0 : Nat) (v0_l : Value) (bp1 : Nat) (v1_l : Value) (a0 : desc_Desc) (a1 : word_Store) (r0 : Int) (rp0 : desc_Desc) (rp1 : word_Store) (h : desc_Desc_Step.f a0 a1 = some (r0, rp0, rp1)) :
    Ct Try.prog 46 [bp bp0 0, bp bp1 0] (fun _ => True) [Box bp0 [.int .i64 a0.mark, v0_l, .int .i64 a0.status, .int .i64 a0.at_], Own 114 ek_tx_Entry v0_l a0.l, Box bp1 [v1_l, .int .u32 a1.limit], Own 88 ek_api_Cell v1_l a1.l] (fun u H' => ∃ rw0_l rw1_l, u = .int .i64 r0 ∧ H' = [Box bp0 [.int .i64 rp0.mark, rw0_l, .int .i64 rp0.status, .int .i64 rp0.at_], Own 114 ek_tx_Entry rw0_l rp0.l, Box bp1 [rw1_l, .int .u32 rp1.limit], Own 88 ek_api_Cell rw1_l rp1.l]) := by
  unfold desc_Desc_Step.f at h
  refine Ct.intro (n := 37) Try.func46 rfl rfl rfl ?_
  intro R w0 F hF hR
  refine S.b1 ?_
  refine S.rd fun hr1 => ?_
  refine S.b3 ?_
  refine S.rd fun hr2 => ?_
  refine S.seq ?_
  refine S.region ?_
  refine SO.v rfl (opv_assign rfl) ?_
  refine SO.nil ?_
  refine S.seq ?_
  refine S.block ?_
  refine S.seq ?_
  refine S.region ?_
  refine SO.v rfl (opv_move rfl) ?_
  refine SO.v rfl (opv_eqlP Try.underlying27 rfl) ?_
  refine SO.v rfl (opv_move rfl) ?_
  refine SO.takeT rfl rfl rfl rfl ?_
  refine SO.v rfl (opv_move rfl) ?_
  refine SO.takeT rfl rfl rfl rfl ?_
  obtain ⟨t3, ht4, h⟩ := opt_bind h
  refine SO.b1 ?_
  refine SO.b2 ?_
  refine SO.call (pre := [Box _ _, Own _ _ _ _]) rfl Try.call28 rfl rfl rfl (desc_Desc_Over.ct bp0 v0_l _ _ ht4) trivial ?_
  rintro _ _ ⟨rfl, rfl⟩
  refine SO.v rfl (opv_pick_ff rfl rfl) ?_
  refine SO.v rfl (opv_assign rfl) ?_
  refine SO.nil ?_
  rcases bool_or t3 with b5 | b5
  · replace h := cond_t b5 h
    refine S.condT rfl b5 ?_
    refine S.seq ?_
    refine S.region ?_
    refine SO.v rfl (opv_assign rfl) ?_
    refine SO.nil ?_
    refine S.to (ρ' := [(4, .int .i64 0)]) ⟨rfl, trivial⟩ ?_
    cases h
    refine S.b4 ?_
    refine S.b3 ?_
    refine S.b4 ?_
    refine S.b4 ?_
    refine S.b4 ?_
    exact S.ret1 Try.func46 rfl rfl (fun w hs hk => hR w _ _ ⟨v0_l, v1_l, rfl, rfl⟩ hs hk)
  replace h := cond_f b5 h
  refine S.condF rfl b5 ?_
  refine S.seq ?_
  refine S.region ?_
  refine SO.v rfl (opv_move rfl) ?_
  refine SO.v rfl (opv_nilCheck rfl) ?_
  refine SO.v rfl (opv_fieldAddr Try.underlying108 rfl Try.sizeOf3 rfl rfl) ?_
  refine SO.load1 rfl Try.isAgg3 rfl rfl ?_
  refine SO.v rfl (opv_neq rfl rfl) ?_
  refine SO.v rfl (opv_assign rfl) ?_
  refine SO.nil ?_
  refine S.to (ρ' := [(0, bp bp0 0), (1, bp bp1 0), (4, .int .i64 0), (12, .bool (a0.status != 0))]) ⟨rfl, rfl, rfl, rfl, trivial⟩ ?_
  rcases bool_or (a0.status != 0) with b6 | b6
  · replace h := cond_t b6 h
    refine S.condT rfl b6 ?_
    refine S.seq ?_
    refine S.region ?_
    refine SO.v rfl (opv_move rfl) ?_
    refine SO.v rfl (opv_move rfl) ?_
    obtain ⟨⟨p7, p8⟩, ht9, h⟩ := opt_bind h
    refine SO.b2 ?_
    refine SO.b3 ?_
    refine SO.b3 ?_
    refine SO.b3 ?_
    refine SO.call (pre := [Box _ _, Own _ _ _ _, Box _ _, Own _ _ _ _]) rfl Try.call51 rfl rfl rfl (desc_Desc_release.ct bp0 v0_l bp1 v1_l _ _ _ _ ht9) trivial ?_
    rintro _ _ ⟨u10_l, u12_l, rfl, rfl⟩
    refine SO.b1 ?_
    refine SO.rd fun hr11 => ?_
    refine SO.b3 ?_
    refine SO.rd fun hr13 => ?_
    refine SO.nil ?_
    refine S.seq ?_
    refine S.region ?_
    refine SO.v rfl (opv_assign rfl) ?_
    refine SO.nil ?_
    cases h
    refine S.b4 ?_
    refine S.b1 ?_
    refine S.b4 ?_
    refine S.b3 ?_
    refine S.b4 ?_
    exact S.ret1 Try.func46 rfl rfl (fun w hs hk => hR w _ _ ⟨u10_l, u12_l, rfl, rfl⟩ hs hk)
  replace h := cond_f b6 h
  refine S.condF rfl b6 ?_
  refine S.seq ?_
  refine S.draw2 (Y := fun Q => ∃ (_ _ _ _ _ _ _ : Unit), Q [(0, bp bp0 0), (1, bp bp1 0), (4, .int .i64 0)] [Box bp0 [.int .i64 a0.mark, v0_l, .int .i64 a0.status, .int .i64 a0.at_], Own 114 ek_tx_Entry v0_l a0.l, Own 88 ek_api_Cell v1_l a1.l, Box bp1 [v1_l, .int .u32 a1.limit], F]) (Z := fun Q => ∀ (_ _ _ _ _ _ _ _ : Unit), Q [(0, bp bp0 0), (1, bp bp1 0), (4, .int .i64 0), (21, .bool (a0.at_ == (a0.l.length : Int)))] [Box bp0 [.int .i64 a0.mark, v0_l, .int .i64 a0.status, .int .i64 a0.at_], Own 114 ek_tx_Entry v0_l a0.l, Own 88 ek_api_Cell v1_l a1.l, Box bp1 [v1_l, .int .u32 a1.limit], F]) (T := [tS 0 (bp bp0 0), tE [(1, bp bp1 0), (4, .int .i64 0)], tR (Box bp0 [.int .i64 a0.mark, v0_l, .int .i64 a0.status, .int .i64 a0.at_]), tR (Own 114 ek_tx_Entry v0_l a0.l), tR (Own 88 ek_api_Cell v1_l a1.l), tR (Box bp1 [v1_l, .int .u32 a1.limit]), tR (F), tS 22 (bp bp0 0), tS 23 (bp bp0 0), tS 24 (bp bp0 3), tS 25 (.int .i64 a0.at_), tS 26 (bp bp0 0), tS 27 (bp bp0 0), tS 28 (bp bp0 1), tS 29 (v0_l), tS 30 (.int .i64 (a0.l.length : Int)), tS 31 (.bool (a0.at_ == (a0.l.length : Int))), tS 21 (.bool (a0.at_ == (a0.l.length : Int)))]) (D := [⟨[0], [], [7]⟩, ⟨[7], [], [8]⟩, ⟨[8], [], [9]⟩, ⟨[9, 2], [], [10]⟩, ⟨[0], [], [11]⟩, ⟨[11], [], [12]⟩, ⟨[12], [], [13]⟩, ⟨[13, 2], [], [14]⟩, ⟨[14, 3], [], [15]⟩, ⟨[10, 15], [], [16]⟩, ⟨[16], [], [17]⟩]) (ini := [0, 1, 2, 3, 4, 5, 6]) (fin := [0, 1, 17, 2, 3, 4, 5, 6]) (bf := [[], [0], [0, 1], [0, 1, 2], [], [4], [4, 5], [4, 5, 6], [4, 5, 6, 7], [0, 1, 2, 3, 4, 5, 6, 7, 8], [0, 1, 2, 3, 4, 5, 6, 7, 8, 9]]) (by kernel_rfl) (by kernel_rfl) (fun Q => by kernel_rfl) (fun x w h1 h2 => ⟨(), (), (), (), (), (), (), EnvAll.of h1 ⟨rfl, rfl, rfl, trivial⟩, h2⟩) (fun Q => by kernel_rfl) ⟨?_, ?_, ?_, ?_, ?_, ?_, ?_, ?_, ?_, ?_, ?_, trivial⟩ ?_
  · rintro Fr _
    refine SO.v rfl (opv_move rfl) ?_
    exact SO.nilZ fun a w h1 h2 h3 h4 h5 => PZ.of h1 h3 h5 (.cons () (.cons () (.nil ⟨EnvAll.of h2 ⟨rfl, rfl, trivial⟩, h4⟩)))
  · rintro Fr _
    refine SO.v rfl (opv_nilCheck rfl) ?_
    exact SO.nilZ fun a w h1 h2 h3 h4 h5 => PZ.of h1 h3 h5 (.cons () (.cons () (.nil ⟨EnvAll.of h2 ⟨rfl, rfl, trivial⟩, h4⟩)))
  · rintro Fr _
    refine SO.v rfl (opv_fieldAddr Try.underlying108 rfl Try.sizeOf3 rfl rfl) ?_
    exact SO.nilZ fun a w h1 h2 h3 h4 h5 => PZ.of h1 h3 h5 (.cons () (.cons () (.nil ⟨EnvAll.of h2 ⟨rfl, rfl, trivial⟩, h4⟩)))
  · rintro Fr _ _
    refine SO.load1 rfl Try.isAgg3 rfl rfl ?_
    exact SO.nilZ fun a w h1 h2 h3 h4 h5 => PZ.of h1 h3 h5 (.cons () (.cons () (.cons () (.nil ⟨EnvAll.of h2 ⟨rfl, rfl, trivial⟩, h4⟩))))
  · rintro Fr _
    refine SO.v rfl (opv_move rfl) ?_
    exact SO.nilZ fun a w h1 h2 h3 h4 h5 => PZ.of h1 h3 h5 (.cons () (.cons () (.nil ⟨EnvAll.of h2 ⟨rfl, rfl, trivial⟩, h4⟩)))
  · rintro Fr _
    refine SO.v rfl (opv_nilCheck rfl) ?_
    exact SO.nilZ fun a w h1 h2 h3 h4 h5 => PZ.of h1 h3 h5 (.cons () (.cons () (.nil ⟨EnvAll.of h2 ⟨rfl, rfl, trivial⟩, h4⟩)))
  · rintro Fr _
    refine SO.v rfl (opv_fieldAddr Try.underlying108 rfl Try.sizeOf102 rfl rfl) ?_
    exact SO.nilZ fun a w h1 h2 h3 h4 h5 => PZ.of h1 h3 h5 (.cons () (.cons () (.nil ⟨EnvAll.of h2 ⟨rfl, rfl, trivial⟩, h4⟩)))
  · rintro Fr _ _
    refine SO.load1 rfl Try.isAgg102 rfl rfl ?_
    exact SO.nilZ fun a w h1 h2 h3 h4 h5 => PZ.of h1 h3 h5 (.cons () (.cons () (.cons () (.nil ⟨EnvAll.of h2 ⟨rfl, rfl, trivial⟩, h4⟩))))
  · rintro Fr _ _
    refine SO.v rfl (opv_lenR rfl Try.underlying102 hr1 rfl) ?_
    exact SO.nilZ fun a w h1 h2 h3 h4 h5 => PZ.of h1 h3 h5 (.cons () (.cons () (.cons () (.nil ⟨EnvAll.of h2 ⟨rfl, rfl, trivial⟩, h4⟩))))
  · rintro Fr _ _
    refine SO.v rfl (opv_eql rfl rfl) ?_
    exact SO.nilZ fun a w h1 h2 h3 h4 h5 => PZ.of h1 h3 h5 (.cons () (.cons () (.cons () (.nil ⟨EnvAll.of h2 ⟨rfl, rfl, rfl, trivial⟩, h4⟩))))
  · rintro Fr _
    refine SO.v rfl (opv_assign rfl) ?_
    exact SO.nilZ fun a w h1 h2 h3 h4 h5 => PZ.of h1 h3 h5 (.cons () (.cons () (.nil ⟨EnvAll.of h2 ⟨rfl, rfl, trivial⟩, h4⟩)))
  rintro _ _ _ _ _ _ _ _
  refine S.to (ρ' := [(0, bp bp0 0), (1, bp bp1 0), (4, .int .i64 0), (21, .bool (a0.at_ == (a0.l.length : Int)))]) ⟨rfl, rfl, rfl, rfl, trivial⟩ ?_
  rcases bool_or (a0.at_ == (a0.l.length : Int)) with b14 | b14
  · replace h := cond_t b14 h
    refine S.condT rfl b14 ?_
    refine S.seq ?_
    refine S.region ?_
    refine SO.v rfl (opv_move rfl) ?_
    obtain ⟨p15, ht16, h⟩ := opt_bind h
    refine SO.b1 ?_
    refine SO.b1 ?_
    refine SO.call (pre := [Box _ _, Own _ _ _ _]) rfl Try.call52 rfl rfl rfl (desc_Desc_turn.ct bp0 v0_l _ _ _ ht16) trivial ?_
    rintro _ _ ⟨u17_l, rfl, rfl⟩
    refine SO.b1 ?_
    refine SO.rd fun hr18 => ?_
    refine SO.nil ?_
    refine S.seq ?_
    refine S.region ?_
    refine SO.v rfl (opv_assign rfl) ?_
    refine SO.nil ?_
    cases h
    refine S.b4 ?_
    refine S.b3 ?_
    refine S.b4 ?_
    refine S.b3 ?_
    refine S.b4 ?_
    exact S.ret1 Try.func46 rfl rfl (fun w hs hk => hR w _ _ ⟨u17_l, v1_l, rfl, rfl⟩ hs hk)
  replace h := cond_f b14 h
  refine S.condF rfl b14 ?_
  refine S.skip ?_
  refine S.inBlock ?_
  refine S.seq ?_
  refine S.region ?_
  refine SO.v rfl (opv_move rfl) ?_
  refine SO.v rfl (opv_move rfl) ?_
  obtain ⟨⟨t19, p20, p21⟩, ht22, h⟩ := opt_bind h
  refine SO.b2 ?_
  refine SO.b3 ?_
  refine SO.b3 ?_
  refine SO.b3 ?_
  refine SO.call (pre := [Box _ _, Own _ _ _ _, Box _ _, Own _ _ _ _]) rfl Try.call53 rfl rfl rfl (desc_Desc_reserve.ct bp0 v0_l bp1 v1_l _ _ _ _ _ ht22) trivial ?_
  rintro _ _ ⟨u23_l, u25_l, rfl, rfl⟩
  refine SO.b1 ?_
  refine SO.rd fun hr24 => ?_
  refine SO.b3 ?_
  refine SO.rd fun hr26 => ?_
  refine SO.v rfl (opv_assign rfl) ?_
  refine SO.nil ?_
  cases h
  refine S.b4 ?_
  refine S.b1 ?_
  refine S.b4 ?_
  refine S.b3 ?_
  refine S.b4 ?_
  exact S.ret1 Try.func46 rfl rfl (fun w hs hk => hR w _ _ ⟨u23_l, u25_l, rfl, rfl⟩ hs hk)
end Go.Proofs
set_option linter.unusedVariables false
namespace Go.Proofs
open Go.Sl Go.RowKit
theorem inf44_stm_Machine_advance : Try.prog.info? 44 = some Try.t44 := by kernel_rfl
/-! 30 (*padstone/stm.Machine).advance -/
def stm_Machine_advance.l1 (el : List stm_Entry) : Nat → (Int × (List api_Cell) × Int × (List stm_Entry) × (List desc_Desc)) → Option (((List stm_Entry) × (List api_Cell) × Int × (List desc_Desc)))
  | 0, _ => none
  | k + 1, (x1_1, yps_0_1, yps_1_1, ypm_3_1, qDz_1) => (bif decide (0 < x1_1) then (some (decide (x1_1 ≤ (el.length : Int)))) else (some false)).bind fun c7 => bif c7 then ((at_ el (w64 (x1_1 - 1))).bind fun x10 => (at_ qDz_1 (w64 (x1_1 - 1))).bind fun x15 => (desc_Desc_Status.f x15).bind fun t19 => (desc_Desc_Step.f x15 (⟨yps_0_1, yps_1_1⟩ : word_Store)).bind fun (t21, p22, p23) => (desc_Desc_Status.f p22).bind fun t34 => bif (t19 != 0) || ((t34 != 1) && (t34 != 3)) then (stm_Machine_advance.l1 el k (t21, p23.l, p23.limit, ypm_3_1, qDz_1.set (w64 (x1_1 - 1)).toNat p22)) else (bif t34 == 3 then ((app ypm_3_1 ([({ x10 with Told := -1, Spent := true } : stm_Entry)])).bind fun zs43 => stm_Machine_advance.l1 el k (t21, p23.l, p23.limit, zs43, qDz_1.set (w64 (x1_1 - 1)).toNat p22)) else ((app ypm_3_1 ([x10])).bind fun zs53 => stm_Machine_advance.l1 el k (t21, p23.l, p23.limit, zs53, qDz_1.set (w64 (x1_1 - 1)).toNat p22)))) else (some (ypm_3_1, yps_0_1, yps_1_1, qDz_1))
def stm_Machine_advance.f (k : Nat) (sa : word_Store) (dl : List desc_Desc) (el : List stm_Entry) (gl : List stm_Entry) (mark : Int) : Option (word_Store × (List desc_Desc) × (List stm_Entry)) :=
  (stm_Machine_advance.l1 el k (mark, sa.l, sa.limit, gl, dl)).bind fun (ypm_3_e1, yps_0_e1, yps_1_e1, qDz_e1) => some ((⟨yps_0_e1, yps_1_e1⟩ : word_Store), qDz_e1, ypm_3_e1)
set_option maxHeartbeats 8000000 in
set_option maxRecDepth 100000 in
theorem stm_Machine_advance.ct (k : Nat) (zb : List Nat) (bpm bps : Nat) (vl va vg vs : Value) (sa : word_Store) (dl : List desc_Desc) (el gl : List stm_Entry) (hle : zb.length = el.length) (mark : Int) (rs : word_Store) (rd : List desc_Desc) (rg : List stm_Entry) (h : stm_Machine_advance.f k sa dl el gl mark = some (rs, rd, rg)) :
    Ct Try.prog 30 [bp bpm 0, .int .i64 mark] (fun _ => True) [Box bpm [bp bps 0, vl, va, vg], Own 105 ekMd va (zb.zip el), ZipR rep_desc_Desc zb dl, Own 44 ek_stm_Entry vg gl, Box bps [vs, .int .u32 sa.limit], Own 88 ek_api_Cell vs sa.l] (fun u H' => ∃ wg ws, u = .tuple #[] ∧ H' = [Box bpm [bp bps 0, vl, va, wg], Own 105 ekMd va (zb.zip el), ZipR rep_desc_Desc zb rd, Own 44 ek_stm_Entry wg rg, Box bps [ws, .int .u32 rs.limit], Own 88 ek_api_Cell ws rs.l]) := by
  unfold stm_Machine_advance.f at h
  refine Ct.intro (n := 66) Try.func30 rfl rfl rfl ?_
  intro R w0 F hF hR
  refine S.b1 ?_
  refine S.rd fun hr1 => ?_
  refine S.b3 ?_
  refine S.rd fun hr2 => ?_
  refine S.b5 ?_
  refine S.rd fun hr3 => ?_
  obtain ⟨⟨ypm_3_e1, yps_0_e1, yps_1_e1, qDz_e1⟩, hlp1, h⟩ := opt_bind h
  refine S.b6 ?_
  refine S.b6 ?_
  refine S.b6 ?_
  refine S.b6 ?_
  refine S.b6 ?_
  refine S.b5 ?_
  refine S.b6 ?_
  refine S.to (ρ' := [(0, bp bpm 0), (1, .int .i64 mark)]) ⟨rfl, rfl, trivial⟩ ?_
  refine S.forloop (X := (Int × (List api_Cell) × Int × (List stm_Entry) × (List desc_Desc)) × (Value × Value)) (O := ((List stm_Entry) × (List api_Cell) × Int × (List desc_Desc))) (fun m x => stm_Machine_advance.l1 el m x.1) (fun x => match x with | ((x1_1, yps_0_1, yps_1_1, ypm_3_1, qDz_1), (vyps_0_1, vypm_3_1)) => [(0, bp bpm 0), (1, .int .i64 x1_1)]) (fun x => match x with | ((x1_1, yps_0_1, yps_1_1, ypm_3_1, qDz_1), (vyps_0_1, vypm_3_1)) => [Own 44 ek_stm_Entry vypm_3_1 ypm_3_1, Own 88 ek_api_Cell vyps_0_1 yps_0_1, Own 105 ekMd va (zb.zip el), Box bpm [bp bps 0, vl, va, vypm_3_1], ZipR rep_desc_Desc zb qDz_1, Box bps [vyps_0_1, .int .u32 yps_1_1], F]) (fun Sk => (fun x => match x with | (ypm_3_e1, yps_0_e1, yps_1_e1, qDz_e1) => ∀ g : (Value × Value), match g with | (vypm_3_e1, vyps_0_e1) => Sk [] [Own 88 ek_api_Cell vyps_0_e1 yps_0_e1, Own 44 ek_stm_Entry vypm_3_e1 ypm_3_e1, Own 105 ekMd va (zb.zip el), Box bpm [bp bps 0, vl, va, vypm_3_e1], ZipR rep_desc_Desc zb qDz_e1, Box bps [vyps_0_e1, .int .u32 yps_1_e1], F])) (fun _ => rfl) ?_ (m := k) (x := ((mark, sa.l, sa.limit, gl, dl), (vs, vg))) hlp1 ?_
  · clear h hlp1
    intro k x o_1 h hK1 ih1
    obtain ⟨⟨x1_1, yps_0_1, yps_1_1, ypm_3_1, qDz_1⟩, ⟨vyps_0_1, vypm_3_1⟩⟩ := x
    replace h : stm_Machine_advance.l1 el (k + 1) (x1_1, yps_0_1, yps_1_1, ypm_3_1, qDz_1) = some o_1 := h
    first | rw [stm_Machine_advance.l1] at h | unfold stm_Machine_advance.l1 at h
    refine S.rd fun hr4 => ?_
    refine S.b1 ?_
    refine S.rd fun hr5 => ?_
    refine S.seq ?_
    refine S.seq ?_
    refine S.region ?_
    refine SO.v rfl (opv_move rfl) ?_
    refine SO.v rfl (opv_gtr rfl rfl) ?_
    refine SO.v rfl (opv_move rfl) ?_
    obtain ⟨c7, hc8, hgk⟩ := opt_bind h
    refine SO.cut 8 17 (.bool c7) [Own 88 ek_api_Cell vyps_0_1 yps_0_1, Own 44 ek_stm_Entry vypm_3_1 ypm_3_1, Own 105 ekMd va (zb.zip el), Box bpm [bp bps 0, vl, va, vypm_3_1], ZipR rep_desc_Desc zb qDz_1, Box bps [vyps_0_1, .int .u32 yps_1_1], F] (fun l2 hk2 => ?_) ?_
    · clear hgk
      replace h := hc8
      rcases bool_or (decide (0 < x1_1)) with b6 | b6
      · replace h := cond_t b6 h
        refine SO.takeT rfl rfl rfl b6 ?_
        refine SO.v rfl (opv_move rfl) ?_
        refine SO.takeT rfl rfl rfl b6 ?_
        refine SO.v rfl (opv_move rfl) ?_
        refine SO.takeT rfl rfl rfl b6 ?_
        refine SO.v rfl (opv_nilCheck rfl) ?_
        refine SO.takeT rfl rfl rfl b6 ?_
        refine SO.v rfl (opv_fieldAddr Try.underlying67 rfl Try.sizeOf65 rfl rfl) ?_
        refine SO.takeT rfl rfl rfl b6 ?_
        refine SO.b3 ?_
        refine SO.load1 rfl Try.isAgg65 rfl rfl ?_
        refine SO.takeT rfl rfl rfl b6 ?_
        refine SO.v rfl (opv_lenZ hle rfl Try.underlying65 hr1 rfl) ?_
        refine SO.takeT rfl rfl rfl b6 ?_
        refine SO.v rfl (opv_leq rfl rfl) ?_
        cases h
        refine SO.v rfl (opv_pick_t' b6 rfl rfl) ?_
        refine SO.b6 ?_
        refine SO.b6 ?_
        refine SO.b6 ?_
        refine SO.b3 ?_
        refine SO.b6 ?_
        refine SO.b6 ?_
        refine SO.b6 ?_
        exact hk2.fitc (m := 8) rfl (rfl) rfl
      replace h := cond_f b6 h
      refine SO.passF rfl rfl rfl b6 rfl rfl ?_
      refine SO.passF rfl rfl rfl b6 rfl rfl ?_
      refine SO.passF rfl rfl rfl b6 rfl rfl ?_
      refine SO.passF rfl rfl rfl b6 rfl rfl ?_
      refine SO.passF rfl rfl rfl b6 rfl rfl ?_
      refine SO.passF rfl rfl rfl b6 rfl rfl ?_
      refine SO.passF rfl rfl rfl b6 rfl rfl ?_
      cases h
      refine SO.v rfl (opv_pick_f' b6 rfl rfl) ?_
      refine SO.b6 ?_
      refine SO.b6 ?_
      refine SO.b6 ?_
      refine SO.b6 ?_
      refine SO.b6 ?_
      refine SO.b6 ?_
      refine SO.b6 ?_
      exact hk2.fitc (m := 8) rfl (rfl) rfl
    clear hc8
    replace h := hgk
    refine SO.nil ?_
    rcases bool_or c7 with b9 | b9
    · replace h := cond_t b9 h
      refine S.condT rfl b9 ?_
      refine S.skip ?_
      refine S.block ?_
      refine S.seq ?_
      refine S.region ?_
      refine SO.v rfl (opv_move rfl) ?_
      refine SO.v rfl (opv_nilCheck rfl) ?_
      refine SO.v rfl (opv_fieldAddr Try.underlying67 rfl Try.sizeOf65 rfl rfl) ?_
      refine SO.b3 ?_
      refine SO.load1 rfl Try.isAgg65 rfl rfl ?_
      refine SO.v rfl (opv_move rfl) ?_
      refine SO.v rfl (opv_sub rfl rfl) ?_
      obtain ⟨x10, hx11, h⟩ := opt_bind h
      obtain ⟨b12, hb13⟩ := at_len hle hx11
      refine SO.v rfl (opv_idx Try.underlying65 Try.sizeOf105 hr1 rfl rfl (at_zip hb13 hx11)) ?_
      refine SO.loadIN rfl Try.isAgg105 Try.sizeOf105 (Rd.tail (Rd.tail (Rd.tail (Rd.head hr1)))) (at_zip hb13 hx11) rfl rfl rfl ?_
      refine SO.alloc rfl Try.zeroValue105 rfl (fun b14 => ?_)
      refine SO.storeN Try.sizeOf105 rfl rfl rfl rfl rfl rfl ?_
      refine SO.nil ?_
      refine S.to (ρ' := [(0, bp bpm 0), (4, bp b14 0)]) ⟨rfl, rfl, trivial⟩ ?_
      refine S.seq ?_
      refine S.region ?_
      refine SO.v rfl (opv_fieldAddr Try.underlying105 rfl Try.sizeOf71 rfl rfl) ?_
      refine SO.load1 rfl Try.isAgg71 rfl rfl ?_
      obtain ⟨x15, hx16, h⟩ := opt_bind h
      refine SO.b5 ?_
      refine SO.focusZ hb13 hx16 ?_
      refine so_open_desc_Desc (fun g17_l => ?_)
      refine SO.b1 ?_
      refine SO.rd fun hr18 => ?_
      obtain ⟨t19, ht20, h⟩ := opt_bind h
      refine SO.b1 ?_
      refine SO.call (pre := [Box _ _, Own _ _ _ _]) rfl Try.call45 rfl rfl rfl (desc_Desc_Status.ct b12 g17_l _ _ ht20) trivial ?_
      rintro _ _ ⟨rfl, rfl⟩
      refine SO.v rfl (opv_assign rfl) ?_
      refine SO.nil ?_
      refine S.seq ?_
      obtain ⟨⟨t21, p22, p23⟩, ht24, h⟩ := opt_bind h
      refine S.draw2 (Y := fun Q => ∃ (_ _ _ _ _ _ _ _ _ _ _ _ _ : Unit), Q [(4, bp b14 0), (0, bp bpm 0), (5, .int .i64 t19)] [Box b12 [.int .i64 x15.mark, g17_l, .int .i64 x15.status, .int .i64 x15.at_], Own 114 ek_tx_Entry g17_l x15.l, ZipH rep_desc_Desc zb qDz_1 (w64 (x1_1 - 1)).toNat, Box b14 [bp b12 0, .int .i64 x10.Worker, .int .i64 x10.Job, .int .i64 x10.Told, .bool x10.Spent], Box bpm [bp bps 0, vl, va, vypm_3_1], Own 88 ek_api_Cell vyps_0_1 yps_0_1, Own 44 ek_stm_Entry vypm_3_1 ypm_3_1, Own 105 ekMd va (zb.zip el), Box bps [vyps_0_1, .int .u32 yps_1_1], F]) (Z := fun Q => ∀ (_ _ _ _ : Unit) (g_4 : (Value × Value)) (_ _ _ _ _ _ : Unit), Q [(0, bp bpm 0), (4, bp b14 0), (5, .int .i64 t19), (1, .int .i64 t21), (35, .int .i64 t21)] [Own 88 ek_api_Cell g_4.1 p23.l, Own 114 ek_tx_Entry g_4.2 p22.l, Box b12 [.int .i64 p22.mark, g_4.2, .int .i64 p22.status, .int .i64 p22.at_], Box bps [g_4.1, .int .u32 p23.limit], ZipH rep_desc_Desc zb qDz_1 (w64 (x1_1 - 1)).toNat, Box b14 [bp b12 0, .int .i64 x10.Worker, .int .i64 x10.Job, .int .i64 x10.Told, .bool x10.Spent], Box bpm [bp bps 0, vl, va, vypm_3_1], Own 44 ek_stm_Entry vypm_3_1 ypm_3_1, Own 105 ekMd va (zb.zip el), F]) (T := [tS 4 (bp b14 0), tS 0 (bp bpm 0), tS 5 (.int .i64 t19), tR (Box b12 [.int .i64 x15.mark, g17_l, .int .i64 x15.status, .int .i64 x15.at_]), tR (Own 114 ek_tx_Entry g17_l x15.l), tR (ZipH rep_desc_Desc zb qDz_1 (w64 (x1_1 - 1)).toNat), tR (Box b14 [bp b12 0, .int .i64 x10.Worker, .int .i64 x10.Job, .int .i64 x10.Told, .bool x10.Spent]), tR (Box bpm [bp bps 0, vl, va, vypm_3_1]), tR (Own 88 ek_api_Cell vyps_0_1 yps_0_1), tR (Own 44 ek_stm_Entry vypm_3_1 ypm_3_1), tR (Own 105 ekMd va (zb.zip el)), tR (Box bps [vyps_0_1, .int .u32 yps_1_1]), tR (F), tS 29 (bp b14 0), tS 30 (bp b12 0), tS 31 (bp bpm 0), tS 32 (bp bpm 0), tS 33 (bp bpm 0), tS 34 (bp bps 0), ⟨(Value × Value), [35], (fun x => match x with | (u27_l, u25_l) => [(35, .int .i64 t21)]), (fun x => match x with | (u27_l, u25_l) => [Own 88 ek_api_Cell u27_l p23.l, Own 114 ek_tx_Entry u25_l p22.l, Box b12 [.int .i64 p22.mark, u25_l, .int .i64 p22.status, .int .i64 p22.at_], Box bps [u27_l, .int .u32 p23.limit]]), fun _ => rfl⟩, tS 1 (.int .i64 t21)]) (D := [⟨[0], [], [13]⟩, ⟨[13, 6], [], [14]⟩, ⟨[1], [], [15]⟩, ⟨[15], [], [16]⟩, ⟨[16], [], [17]⟩, ⟨[17, 7], [], [18]⟩, ⟨[14, 18], [3, 4, 11, 8], [19]⟩, ⟨[19], [], [20]⟩]) (ini := [0, 1, 2, 3, 4, 5, 6, 7, 8, 9, 10, 11, 12]) (fin := [1, 0, 2, 20, 19, 5, 6, 7, 9, 10, 12]) (bf := [[], [0], [], [2], [2, 3], [2, 3, 4], [0, 1, 2, 3, 4, 5], [0, 1, 2, 3, 4, 5, 6]]) (by kernel_rfl) (by kernel_rfl) (fun Q => by kernel_rfl) (fun x w h1 h2 => ⟨(), (), (), (), (), (), (), (), (), (), (), (), (), EnvAll.of h1 ⟨rfl, rfl, rfl, trivial⟩, h2⟩) (fun Q => by kernel_rfl) ⟨?_, ?_, ?_, ?_, ?_, ?_, ?_, ?_, trivial⟩ ?_
      · rintro Fr _
        refine SO.v rfl (opv_fieldAddr Try.underlying105 rfl Try.sizeOf71 rfl rfl) ?_
        exact SO.nilZ fun a w h1 h2 h3 h4 h5 => PZ.of h1 h3 h5 (.cons () (.cons () (.nil ⟨EnvAll.of h2 ⟨rfl, rfl, trivial⟩, h4⟩)))
      · rintro Fr _ _
        refine SO.load1 rfl Try.isAgg71 rfl rfl ?_
        exact SO.nilZ fun a w h1 h2 h3 h4 h5 => PZ.of h1 h3 h5 (.cons () (.cons () (.cons () (.nil ⟨EnvAll.of h2 ⟨rfl, rfl, trivial⟩, h4⟩))))
      · rintro Fr _
        refine SO.v rfl (opv_move rfl) ?_
        exact SO.nilZ fun a w h1 h2 h3 h4 h5 => PZ.of h1 h3 h5 (.cons () (.cons () (.nil ⟨EnvAll.of h2 ⟨rfl, rfl, trivial⟩, h4⟩)))
      · rintro Fr _
        refine SO.v rfl (opv_nilCheck rfl) ?_
        exact SO.nilZ fun a w h1 h2 h3 h4 h5 => PZ.of h1 h3 h5 (.cons () (.cons () (.nil ⟨EnvAll.of h2 ⟨rfl, rfl, trivial⟩, h4⟩)))
      · rintro Fr _
        refine SO.v rfl (opv_fieldAddr Try.underlying67 rfl Try.sizeOf27 rfl rfl) ?_
        exact SO.nilZ fun a w h1 h2 h3 h4 h5 => PZ.of h1 h3 h5 (.cons () (.cons () (.nil ⟨EnvAll.of h2 ⟨rfl, rfl, trivial⟩, h4⟩)))
      · rintro Fr _ _
        refine SO.load1 rfl Try.isAgg27 rfl rfl ?_
        exact SO.nilZ fun a w h1 h2 h3 h4 h5 => PZ.of h1 h3 h5 (.cons () (.cons () (.cons () (.nil ⟨EnvAll.of h2 ⟨rfl, rfl, trivial⟩, h4⟩))))
      · refine spec2 (X := fun Q => ∀ (_ _ _ _ _ _ : Unit), Q [(30, bp b12 0), (34, bp bps 0)] [Box b12 [.int .i64 x15.mark, g17_l, .int .i64 x15.status, .int .i64 x15.at_], Own 114 ek_tx_Entry g17_l x15.l, Box bps [vyps_0_1, .int .u32 yps_1_1], Own 88 ek_api_Cell vyps_0_1 yps_0_1]) (fun Q => by kernel_rfl) ?_
        rintro Fr _ _ _ _ _ _
        refine SO.b3 ?_
        refine SO.b3 ?_
        refine SO.b3 ?_
        refine SO.b3 ?_
        have ct29 := desc_Desc_Step.ct b12 g17_l bps vyps_0_1 _ _ _ _ _ ht24
        try dsimp only at ct29
        refine SO.call (pre := [Box _ _, Own _ _ _ _, Box _ _, Own _ _ _ _]) rfl Try.call46 rfl rfl rfl ct29 trivial ?_
        rintro _ _ ⟨u25_l, u27_l, rfl, rfl⟩
        refine SO.b1 ?_
        refine SO.rd fun hr26 => ?_
        refine SO.b3 ?_
        refine SO.rd fun hr28 => ?_
        refine SO.b3 ?_
        refine SO.b3 ?_
        refine SO.b3 ?_
        refine SO.b3 ?_
        exact SO.nilZ fun a w h1 h2 h3 h4 h5 => PZ.of h1 h3 h5 (.cons () (.cons () (.cons (u27_l, u25_l) (.nil ⟨EnvAll.of h2 ⟨rfl, rfl, rfl, trivial⟩, h4⟩))))
      · rintro Fr ⟨u27_l, u25_l⟩
        refine SO.rd fun hr30 => ?_
        refine SO.b1 ?_
        refine SO.rd fun hr31 => ?_
        refine SO.v rfl (opv_assign rfl) ?_
        refine SO.b3 ?_
        refine SO.b3 ?_
        refine SO.b2 ?_
        refine SO.b3 ?_
        exact SO.nilZ fun a w h1 h2 h3 h4 h5 => PZ.of h1 h3 h5 (.cons (u27_l, u25_l) (.cons () (.nil ⟨EnvAll.of h2 ⟨rfl, rfl, trivial⟩, h4⟩)))
      rintro _ _ _ _ ⟨u27_l, u25_l⟩ _ _ _ _ _ _
      refine S.to (ρ' := [(0, bp bpm 0), (4, bp b14 0), (5, .int .i64 t19), (1, .int .i64 t21)]) ⟨rfl, rfl, rfl, rfl, trivial⟩ ?_
      refine S.rd fun hr32 => ?_
      refine S.b1 ?_
      refine S.rd fun hr33 => ?_
      refine S.seq ?_
      refine S.region ?_
      refine SO.v rfl (opv_fieldAddr Try.underlying105 rfl Try.sizeOf71 rfl rfl) ?_
      refine SO.b5 ?_
      refine SO.load1 rfl Try.isAgg71 rfl rfl ?_
      obtain ⟨t34, ht35, h⟩ := opt_bind h
      refine SO.b1 ?_
      refine SO.b3 ?_
      refine SO.call (pre := [Box _ _, Own _ _ _ _]) rfl Try.call45 rfl rfl rfl (desc_Desc_Status.ct b12 u25_l _ _ ht35) trivial ?_
      rintro _ _ ⟨rfl, rfl⟩
      refine SO.v rfl (opv_assign rfl) ?_
      refine SO.nil ?_
      refine S.seq ?_
      refine S.seq ?_
      refine S.region ?_
      refine SO.v rfl (opv_move rfl) ?_
      refine SO.v rfl (opv_neq rfl rfl) ?_
      refine SO.v rfl (opv_move rfl) ?_
      refine SO.cut 7 48 (.bool ((t19 != 0) || ((t34 != 1) && (t34 != 3)))) [Box b12 [.int .i64 p22.mark, u25_l, .int .i64 p22.status, .int .i64 p22.at_], Own 114 ek_tx_Entry u25_l p22.l, Box b14 [bp b12 0, .int .i64 x10.Worker, .int .i64 x10.Job, .int .i64 x10.Told, .bool x10.Spent], Own 88 ek_api_Cell u27_l p23.l, Box bps [u27_l, .int .u32 p23.limit], ZipH rep_desc_Desc zb qDz_1 (w64 (x1_1 - 1)).toNat, Box bpm [bp bps 0, vl, va, vypm_3_1], Own 44 ek_stm_Entry vypm_3_1 ypm_3_1, Own 105 ekMd va (zb.zip el), F] (fun l2 hk2 => ?_) ?_
      · rcases bool_or (t19 != 0) with b36 | b36
        · refine SO.passF rfl rfl rfl b36 rfl rfl ?_
          refine SO.passF rfl rfl rfl b36 rfl rfl ?_
          refine SO.passF rfl rfl rfl b36 rfl rfl ?_
          refine SO.pass_undef rfl rfl rfl rfl ?_
          refine SO.pass_undef rfl rfl rfl rfl ?_
          refine SO.passF rfl rfl rfl b36 rfl rfl ?_
          refine SO.v rfl (opv_pick_t' b36 rfl rfl) ?_
          refine SO.b9 ?_
          refine SO.b9 ?_
          refine SO.b9 ?_
          refine SO.b9 ?_
          refine SO.b9 ?_
          refine SO.b9 ?_
          refine SO.b9 ?_
          refine SO.b9 ?_
          refine SO.b9 ?_
          refine SO.b9 ?_
          exact hk2.fitc (m := 7) rfl (or_t b36) rfl
        refine SO.takeT rfl rfl rfl b36 ?_
        refine SO.v rfl (opv_move rfl) ?_
        refine SO.takeT rfl rfl rfl b36 ?_
        refine SO.v rfl (opv_neq rfl rfl) ?_
        refine SO.takeT rfl rfl rfl b36 ?_
        refine SO.v rfl (opv_move rfl) ?_
        refine SO.cut 3 47 (.bool ((t34 != 1) && (t34 != 3))) [Box b12 [.int .i64 p22.mark, u25_l, .int .i64 p22.status, .int .i64 p22.at_], Own 114 ek_tx_Entry u25_l p22.l, Box b14 [bp b12 0, .int .i64 x10.Worker, .int .i64 x10.Job, .int .i64 x10.Told, .bool x10.Spent], Own 88 ek_api_Cell u27_l p23.l, Box bps [u27_l, .int .u32 p23.limit], ZipH rep_desc_Desc zb qDz_1 (w64 (x1_1 - 1)).toNat, Box bpm [bp bps 0, vl, va, vypm_3_1], Own 44 ek_stm_Entry vypm_3_1 ypm_3_1, Own 105 ekMd va (zb.zip el), F] (fun l2 hk2 => ?_) ?_
        · rcases bool_or (t34 != 1) with b37 | b37
          · refine SO.takeT rfl rfl rfl b37 ?_
            refine SO.v rfl (opv_move rfl) ?_
            refine SO.takeT rfl rfl rfl b37 ?_
            refine SO.v rfl (opv_neq rfl rfl) ?_
            refine SO.takeT rfl rfl rfl b36 ?_
            refine SO.v rfl (opv_pick_t' b37 rfl rfl) ?_
            refine SO.b9 ?_
            refine SO.b9 ?_
            refine SO.b9 ?_
            refine SO.b9 ?_
            refine SO.b9 ?_
            refine SO.b9 ?_
            refine SO.b9 ?_
            refine SO.b9 ?_
            refine SO.b9 ?_
            refine SO.b9 ?_
            exact hk2.fitc (m := 3) rfl (and_t b37) rfl
          refine SO.passF rfl rfl rfl b37 rfl rfl ?_
          refine SO.passF rfl rfl rfl b37 rfl rfl ?_
          refine SO.takeT rfl rfl rfl b36 ?_
          refine SO.v rfl (opv_pick_f' b37 rfl rfl) ?_
          refine SO.b9 ?_
          refine SO.b9 ?_
          refine SO.b9 ?_
          refine SO.b9 ?_
          refine SO.b9 ?_
          refine SO.b9 ?_
          refine SO.b9 ?_
          refine SO.b9 ?_
          refine SO.b9 ?_
          refine SO.b9 ?_
          exact hk2.fitc (m := 3) rfl (and_f b37) rfl
        refine SO.v rfl (opv_pick_f' b36 rfl rfl) ?_
        refine SO.b9 ?_
        refine SO.b9 ?_
        refine SO.b9 ?_
        refine SO.b9 ?_
        refine SO.b9 ?_
        refine SO.b9 ?_
        refine SO.b9 ?_
        refine SO.b9 ?_
        refine SO.b9 ?_
        refine SO.b9 ?_
        exact hk2.fitc (m := 5) rfl (or_f b36) rfl
      refine SO.nil ?_
      refine S.to (ρ' := [(0, bp bpm 0), (4, bp b14 0), (1, .int .i64 t21), (6, .int .i64 t34), (48, .bool ((t19 != 0) || ((t34 != 1) && (t34 != 3))))]) ⟨rfl, rfl, rfl, rfl, rfl, trivial⟩ ?_
      rcases bool_or ((t19 != 0) || ((t34 != 1) && (t34 != 3))) with b38 | b38
      · replace h := cond_t b38 h
        refine S.condT rfl b38 ?_
        refine S.exit rfl ?_
        refine S.b5 ?_
        refine S.b2 ?_
        refine S.b2 ?_
        refine s_close_desc_Desc (t := p22) ?_
        refine S.unfocusZ hb13 hx16 ?_
        refine S.b1 ?_
        refine S.drop ?_
        refine S.b6 ?_
        refine S.b3 ?_
        refine S.b2 ?_
        refine S.b4 ?_
        refine S.b6 ?_
        refine S.b5 ?_
        refine S.b6 ?_
        refine S.to ?_ (ih1 ((t21, p23.l, p23.limit, ypm_3_1, qDz_1.set (w64 (x1_1 - 1)).toNat p22), (u27_l, vypm_3_1)) h)
        exact ⟨rfl, rfl, trivial⟩
      replace h := cond_f b38 h
      refine S.condF rfl b38 ?_
      refine S.skip ?_
      refine S.seq ?_
      refine S.seq ?_
      refine S.region ?_
      refine SO.v rfl (opv_move rfl) ?_
      refine SO.v rfl (opv_eql rfl rfl) ?_
      refine SO.nil ?_
      rcases bool_or (t34 == 3) with b39 | b39
      · replace h := cond_t b39 h
        refine S.condT rfl b39 ?_
        refine S.region ?_
        refine SO.v rfl (opv_fieldAddr Try.underlying105 rfl Try.sizeOf44 rfl rfl) ?_
        refine SO.v rfl (opv_fieldAddr Try.underlying44 rfl Try.sizeOf3 rfl rfl) ?_
        refine SO.b2 ?_
        refine SO.store1 Try.sizeOf3 rfl rfl rfl rfl ?_
        refine SO.v rfl (opv_fieldAddr Try.underlying105 rfl Try.sizeOf44 rfl rfl) ?_
        refine SO.v rfl (opv_fieldAddr Try.underlying44 rfl Try.sizeOf4 rfl rfl) ?_
        refine SO.store1 Try.sizeOf4 rfl rfl rfl rfl ?_
        refine SO.nil ?_
        refine S.to (ρ' := [(0, bp bpm 0), (4, bp b14 0), (1, .int .i64 t21)]) ⟨rfl, rfl, rfl, trivial⟩ ?_
        obtain ⟨zs43, hz44, h⟩ := opt_bind h
        refine S.draw2 (Y := fun Q => ∃ (_ _ _ _ _ _ _ _ _ _ _ _ _ : Unit), Q [(0, bp bpm 0), (4, bp b14 0), (1, .int .i64 t21)] [Box b14 [bp b12 0, .int .i64 x10.Worker, .int .i64 x10.Job, .int .i64 (-1), .bool true], Box b12 [.int .i64 p22.mark, u25_l, .int .i64 p22.status, .int .i64 p22.at_], Own 114 ek_tx_Entry u25_l p22.l, Own 88 ek_api_Cell u27_l p23.l, Box bps [u27_l, .int .u32 p23.limit], ZipH rep_desc_Desc zb qDz_1 (w64 (x1_1 - 1)).toNat, Box bpm [bp bps 0, vl, va, vypm_3_1], Own 44 ek_stm_Entry vypm_3_1 ypm_3_1, Own 105 ekMd va (zb.zip el), F]) (Z := fun Q => ∀ (_ _ : Unit) (v45 : Value) (v40 : Value) (_ _ _ _ _ _ _ _ : Unit), Q [(0, bp bpm 0), (1, .int .i64 t21), (63, v45), (62, v40)] [Own 44 ek_stm_Entry v45 zs43, Box bpm [bp bps 0, vl, va, v45], Own 44 ek_stm_Entry v40 ([({ x10 with Told := -1, Spent := true } : stm_Entry)]), Box b14 [bp b12 0, .int .i64 x10.Worker, .int .i64 x10.Job, .int .i64 (-1), .bool true], Box b12 [.int .i64 p22.mark, u25_l, .int .i64 p22.status, .int .i64 p22.at_], Own 114 ek_tx_Entry u25_l p22.l, Own 88 ek_api_Cell u27_l p23.l, Box bps [u27_l, .int .u32 p23.limit], ZipH rep_desc_Desc zb qDz_1 (w64 (x1_1 - 1)).toNat, Own 105 ekMd va (zb.zip el), F]) (T := [tS 0 (bp bpm 0), tS 4 (bp b14 0), tS 1 (.int .i64 t21), tR (Box b14 [bp b12 0, .int .i64 x10.Worker, .int .i64 x10.Job, .int .i64 (-1), .bool true]), tR (Box b12 [.int .i64 p22.mark, u25_l, .int .i64 p22.status, .int .i64 p22.at_]), tR (Own 114 ek_tx_Entry u25_l p22.l), tR (Own 88 ek_api_Cell u27_l p23.l), tR (Box bps [u27_l, .int .u32 p23.limit]), tR (ZipH rep_desc_Desc zb qDz_1 (w64 (x1_1 - 1)).toNat), tR (Box bpm [bp bps 0, vl, va, vypm_3_1]), tR (Own 44 ek_stm_Entry vypm_3_1 ypm_3_1), tR (Own 105 ekMd va (zb.zip el)), tR (F), tS 55 (bp bpm 0), tS 56 (bp bpm 0), tS 57 (bp bpm 0), tS 58 (bp bpm 3), tS 59 (vypm_3_1), tS 60 (bp b14 1), tS 61 (.agg #[.int .i64 x10.Worker, .int .i64 x10.Job, .int .i64 (-1), .bool true]), ⟨Value, [62], (fun v40 => [(62, v40)]), (fun v40 => [Own 44 ek_stm_Entry v40 ([({ x10 with Told := -1, Spent := true } : stm_Entry)])]), fun _ => rfl⟩, ⟨Value, [63], (fun v45 => [(63, v45)]), (fun v45 => [Own 44 ek_stm_Entry v45 zs43]), fun _ => rfl⟩, tS 64 (bp bpm 0), tS 65 (bp bpm 3), ⟨Value, [63], (fun v45 => [(63, v45)]), (fun v45 => [Own 44 ek_stm_Entry v45 zs43, Box bpm [bp bps 0, vl, va, v45]]), fun _ => rfl⟩]) (D := [⟨[0], [], [13]⟩, ⟨[0], [], [14]⟩, ⟨[14], [], [15]⟩, ⟨[15], [], [16]⟩, ⟨[16, 9], [], [17]⟩, ⟨[1], [], [18]⟩, ⟨[18, 3], [], [19]⟩, ⟨[19], [], [20]⟩, ⟨[17, 20], [10], [21]⟩, ⟨[13], [], [22]⟩, ⟨[22], [], [23]⟩, ⟨[23], [9, 21], [24]⟩]) (ini := [0, 1, 2, 3, 4, 5, 6, 7, 8, 9, 10, 11, 12]) (fin := [0, 2, 24, 20, 3, 4, 5, 6, 7, 8, 11, 12]) (bf := [[], [], [1], [1, 2], [1, 2, 3], [], [5], [5, 6], [1, 2, 3, 4, 5, 6, 7], [0, 1, 2, 3, 4, 5, 6, 7, 8], [0, 1, 2, 3, 4, 5, 6, 7, 8, 9], [0, 1, 2, 3, 4, 5, 6, 7, 8, 9, 10]]) (by kernel_rfl) (by kernel_rfl) (fun Q => by kernel_rfl) (fun x w h1 h2 => ⟨(), (), (), (), (), (), (), (), (), (), (), (), (), EnvAll.of h1 ⟨rfl, rfl, rfl, trivial⟩, h2⟩) (fun Q => by kernel_rfl) ⟨?_, ?_, ?_, ?_, ?_, ?_, ?_, ?_, ?_, ?_, ?_, ?_, trivial⟩ ?_
        · rintro Fr _
          refine SO.v rfl (opv_move rfl) ?_
          exact SO.nilZ fun a w h1 h2 h3 h4 h5 => PZ.of h1 h3 h5 (.cons () (.cons () (.nil ⟨EnvAll.of h2 ⟨rfl, rfl, trivial⟩, h4⟩)))
        · rintro Fr _
          refine SO.v rfl (opv_move rfl) ?_
          exact SO.nilZ fun a w h1 h2 h3 h4 h5 => PZ.of h1 h3 h5 (.cons () (.cons () (.nil ⟨EnvAll.of h2 ⟨rfl, rfl, trivial⟩, h4⟩)))
        · rintro Fr _
          refine SO.v rfl (opv_nilCheck rfl) ?_
          exact SO.nilZ fun a w h1 h2 h3 h4 h5 => PZ.of h1 h3 h5 (.cons () (.cons () (.nil ⟨EnvAll.of h2 ⟨rfl, rfl, trivial⟩, h4⟩)))
        · rintro Fr _
          refine SO.v rfl (opv_fieldAddr Try.underlying67 rfl Try.sizeOf41 rfl rfl) ?_
          exact SO.nilZ fun a w h1 h2 h3 h4 h5 => PZ.of h1 h3 h5 (.cons () (.cons () (.nil ⟨EnvAll.of h2 ⟨rfl, rfl, trivial⟩, h4⟩)))
        · rintro Fr _ _
          refine SO.load1 rfl Try.isAgg41 rfl rfl ?_
          exact SO.nilZ fun a w h1 h2 h3 h4 h5 => PZ.of h1 h3 h5 (.cons () (.cons () (.cons () (.nil ⟨EnvAll.of h2 ⟨rfl, rfl, trivial⟩, h4⟩))))
        · rintro Fr _
          refine SO.v rfl (opv_fieldAddr Try.underlying105 rfl Try.sizeOf44 rfl rfl) ?_
          exact SO.nilZ fun a w h1 h2 h3 h4 h5 => PZ.of h1 h3 h5 (.cons () (.cons () (.nil ⟨EnvAll.of h2 ⟨rfl, rfl, trivial⟩, h4⟩)))
        · rintro Fr _ _
          refine SO.loadN rfl Try.isAgg44 Try.sizeOf44 rfl rfl rfl ?_
          exact SO.nilZ fun a w h1 h2 h3 h4 h5 => PZ.of h1 h3 h5 (.cons () (.cons () (.cons () (.nil ⟨EnvAll.of h2 ⟨rfl, rfl, trivial⟩, h4⟩))))
        · rintro Fr _
          refine SO.buildSlice (K := ek_stm_Entry) (xs := [({ x10 with Told := -1, Spent := true } : stm_Entry)]) (cs := [.int .i64 x10.Worker, .int .i64 x10.Job, .int .i64 (-1), .bool true]) rfl Try.underlying41 Try.sizeOf44 Try.zeroValue44 rfl rfl rfl (by kernel_rfl) rfl rfl rfl (fun v40 hr41 => ?_)
          exact SO.nilZ fun a w h1 h2 h3 h4 h5 => PZ.of h1 h3 h5 (.cons () (.cons v40 (.nil ⟨EnvAll.of h2 ⟨rfl, rfl, trivial⟩, h4⟩)))
        · rintro Fr _ v40 _
          refine SO.rd fun hr42 => ?_
          refine SO.b1 ?_
          refine SO.append rfl Try.underlying41 Try.underlying41 inf44_stm_Machine_advance rfl rfl rfl (by decide) rfl rfl rfl (Rd.head hr42) hz44 (fun v45 => ?_)
          refine SO.rd fun hr46 => ?_
          refine SO.b1 ?_
          exact SO.nilZ fun a w h1 h2 h3 h4 h5 => PZ.of h1 h3 h5 (.cons () (.cons v40 (.cons v45 (.nil ⟨EnvAll.of h2 ⟨rfl, rfl, rfl, trivial⟩, h4⟩))))
        · rintro Fr _
          refine SO.v rfl (opv_nilCheck rfl) ?_
          exact SO.nilZ fun a w h1 h2 h3 h4 h5 => PZ.of h1 h3 h5 (.cons () (.cons () (.nil ⟨EnvAll.of h2 ⟨rfl, rfl, trivial⟩, h4⟩)))
        · rintro Fr _
          refine SO.v rfl (opv_fieldAddr Try.underlying67 rfl Try.sizeOf41 rfl rfl) ?_
          exact SO.nilZ fun a w h1 h2 h3 h4 h5 => PZ.of h1 h3 h5 (.cons () (.cons () (.nil ⟨EnvAll.of h2 ⟨rfl, rfl, trivial⟩, h4⟩)))
        · rintro Fr _ _ v45
          refine SO.b1 ?_
          refine SO.rd fun hr47 => ?_
          refine SO.b1 ?_
          refine SO.store1 Try.sizeOf41 rfl rfl (Rd.one hr47) rfl ?_
          refine SO.b1 ?_
          exact SO.nilZ fun a w h1 h2 h3 h4 h5 => PZ.of h1 h3 h5 (.cons () (.cons v45 (.nil ⟨EnvAll.of h2 ⟨rfl, rfl, trivial⟩, h4⟩)))
        rintro _ _ v45 v40 _ _ _ _ _ _ _ _
        refine S.to (ρ' := [(0, bp bpm 0), (1, .int .i64 t21)]) ⟨rfl, rfl, trivial⟩ ?_
        refine S.rd fun hr48 => ?_
        refine S.b2 ?_
        refine S.rd fun hr49 => ?_
        refine S.inBlock ?_
        refine S.b8 ?_
        refine S.b6 ?_
        refine S.b6 ?_
        refine s_close_desc_Desc (t := p22) ?_
        refine S.unfocusZ hb13 hx16 ?_
        refine S.b1 ?_
        refine S.drop ?_
        refine S.b3 ?_
        refine S.drop ?_
        refine S.b6 ?_
        refine S.b5 ?_
        refine S.b2 ?_
        refine S.b4 ?_
        refine S.b6 ?_
        refine S.b6 ?_
        refine S.b6 ?_
        refine S.to ?_ (ih1 ((t21, p23.l, p23.limit, zs43, qDz_1.set (w64 (x1_1 - 1)).toNat p22), (u27_l, v45)) h)
        exact ⟨rfl, rfl, trivial⟩
      replace h := cond_f b39 h
      refine S.condF rfl b39 ?_
      refine S.skip ?_
      obtain ⟨zs53, hz54, h⟩ := opt_bind h
      refine S.draw2 (Y := fun Q => ∃ (_ _ _ _ _ _ _ _ _ _ _ _ _ : Unit), Q [(0, bp bpm 0), (4, bp b14 0), (1, .int .i64 t21)] [Box b12 [.int .i64 p22.mark, u25_l, .int .i64 p22.status, .int .i64 p22.at_], Own 114 ek_tx_Entry u25_l p22.l, Box b14 [bp b12 0, .int .i64 x10.Worker, .int .i64 x10.Job, .int .i64 x10.Told, .bool x10.Spent], Own 88 ek_api_Cell u27_l p23.l, Box bps [u27_l, .int .u32 p23.limit], ZipH rep_desc_Desc zb qDz_1 (w64 (x1_1 - 1)).toNat, Box bpm [bp bps 0, vl, va, vypm_3_1], Own 44 ek_stm_Entry vypm_3_1 ypm_3_1, Own 105 ekMd va (zb.zip el), F]) (Z := fun Q => ∀ (_ _ : Unit) (v55 : Value) (v50 : Value) (_ _ _ _ _ _ _ _ : Unit), Q [(0, bp bpm 0), (1, .int .i64 t21), (63, v55), (62, v50)] [Own 44 ek_stm_Entry v55 zs53, Box bpm [bp bps 0, vl, va, v55], Own 44 ek_stm_Entry v50 ([x10]), Box b12 [.int .i64 p22.mark, u25_l, .int .i64 p22.status, .int .i64 p22.at_], Own 114 ek_tx_Entry u25_l p22.l, Box b14 [bp b12 0, .int .i64 x10.Worker, .int .i64 x10.Job, .int .i64 x10.Told, .bool x10.Spent], Own 88 ek_api_Cell u27_l p23.l, Box bps [u27_l, .int .u32 p23.limit], ZipH rep_desc_Desc zb qDz_1 (w64 (x1_1 - 1)).toNat, Own 105 ekMd va (zb.zip el), F]) (T := [tS 0 (bp bpm 0), tS 4 (bp b14 0), tS 1 (.int .i64 t21), tR (Box b12 [.int .i64 p22.mark, u25_l, .int .i64 p22.status, .int .i64 p22.at_]), tR (Own 114 ek_tx_Entry u25_l p22.l), tR (Box b14 [bp b12 0, .int .i64 x10.Worker, .int .i64 x10.Job, .int .i64 x10.Told, .bool x10.Spent]), tR (Own 88 ek_api_Cell u27_l p23.l), tR (Box bps [u27_l, .int .u32 p23.limit]), tR (ZipH rep_desc_Desc zb qDz_1 (w64 (x1_1 - 1)).toNat), tR (Box bpm [bp bps 0, vl, va, vypm_3_1]), tR (Own 44 ek_stm_Entry vypm_3_1 ypm_3_1), tR (Own 105 ekMd va (zb.zip el)), tR (F), tS 55 (bp bpm 0), tS 56 (bp bpm 0), tS 57 (bp bpm 0), tS 58 (bp bpm 3), tS 59 (vypm_3_1), tS 60 (bp b14 1), tS 61 (.agg #[.int .i64 x10.Worker, .int .i64 x10.Job, .int .i64 x10.Told, .bool x10.Spent]), ⟨Value, [62], (fun v50 => [(62, v50)]), (fun v50 => [Own 44 ek_stm_Entry v50 ([x10])]), fun _ => rfl⟩, ⟨Value, [63], (fun v55 => [(63, v55)]), (fun v55 => [Own 44 ek_stm_Entry v55 zs53]), fun _ => rfl⟩, tS 64 (bp bpm 0), tS 65 (bp bpm 3), ⟨Value, [63], (fun v55 => [(63, v55)]), (fun v55 => [Own 44 ek_stm_Entry v55 zs53, Box bpm [bp bps 0, vl, va, v55]]), fun _ => rfl⟩]) (D := [⟨[0], [], [13]⟩, ⟨[0], [], [14]⟩, ⟨[14], [], [15]⟩, ⟨[15], [], [16]⟩, ⟨[16, 9], [], [17]⟩, ⟨[1], [], [18]⟩, ⟨[18, 5], [], [19]⟩, ⟨[19], [], [20]⟩, ⟨[17, 20], [10], [21]⟩, ⟨[13], [], [22]⟩, ⟨[22], [], [23]⟩, ⟨[23], [9, 21], [24]⟩]) (ini := [0, 1, 2, 3, 4, 5, 6, 7, 8, 9, 10, 11, 12]) (fin := [0, 2, 24, 20, 3, 4, 5, 6, 7, 8, 11, 12]) (bf := [[], [], [1], [1, 2], [1, 2, 3], [], [5], [5, 6], [1, 2, 3, 4, 5, 6, 7], [0, 1, 2, 3, 4, 5, 6, 7, 8], [0, 1, 2, 3, 4, 5, 6, 7, 8, 9], [0, 1, 2, 3, 4, 5, 6, 7, 8, 9, 10]]) (by kernel_rfl) (by kernel_rfl) (fun Q => by kernel_rfl) (fun x w h1 h2 => ⟨(), (), (), (), (), (), (), (), (), (), (), (), (), EnvAll.of h1 ⟨rfl, rfl, rfl, trivial⟩, h2⟩) (fun Q => by kernel_rfl) ⟨?_, ?_, ?_, ?_, ?_, ?_, ?_, ?_, ?_, ?_, ?_, ?_, trivial⟩ ?_
      · rintro Fr _
        refine SO.v rfl (opv_move rfl) ?_
        exact SO.nilZ fun a w h1 h2 h3 h4 h5 => PZ.of h1 h3 h5 (.cons () (.cons () (.nil ⟨EnvAll.of h2 ⟨rfl, rfl, trivial⟩, h4⟩)))
      · rintro Fr _
        refine SO.v rfl (opv_move rfl) ?_
        exact SO.nilZ fun a w h1 h2 h3 h4 h5 => PZ.of h1 h3 h5 (.cons () (.cons () (.nil ⟨EnvAll.of h2 ⟨rfl, rfl, trivial⟩, h4⟩)))
      · rintro Fr _
        refine SO.v rfl (opv_nilCheck rfl) ?_
        exact SO.nilZ fun a w h1 h2 h3 h4 h5 => PZ.of h1 h3 h5 (.cons () (.cons () (.nil ⟨EnvAll.of h2 ⟨rfl, rfl, trivial⟩, h4⟩)))
      · rintro Fr _
        refine SO.v rfl (opv_fieldAddr Try.underlying67 rfl Try.sizeOf41 rfl rfl) ?_
        exact SO.nilZ fun a w h1 h2 h3 h4 h5 => PZ.of h1 h3 h5 (.cons () (.cons () (.nil ⟨EnvAll.of h2 ⟨rfl, rfl, trivial⟩, h4⟩)))
      · rintro Fr _ _
        refine SO.load1 rfl Try.isAgg41 rfl rfl ?_
        exact SO.nilZ fun a w h1 h2 h3 h4 h5 => PZ.of h1 h3 h5 (.cons () (.cons () (.cons () (.nil ⟨EnvAll.of h2 ⟨rfl, rfl, trivial⟩, h4⟩))))
      · rintro Fr _
        refine SO.v rfl (opv_fieldAddr Try.underlying105 rfl Try.sizeOf44 rfl rfl) ?_
        exact SO.nilZ fun a w h1 h2 h3 h4 h5 => PZ.of h1 h3 h5 (.cons () (.cons () (.nil ⟨EnvAll.of h2 ⟨rfl, rfl, trivial⟩, h4⟩)))
      · rintro Fr _ _
        refine SO.loadN rfl Try.isAgg44 Try.sizeOf44 rfl rfl rfl ?_
        exact SO.nilZ fun a w h1 h2 h3 h4 h5 => PZ.of h1 h3 h5 (.cons () (.cons () (.cons () (.nil ⟨EnvAll.of h2 ⟨rfl, rfl, trivial⟩, h4⟩))))
      · rintro Fr _
        refine SO.buildSlice (K := ek_stm_Entry) (xs := [x10]) (cs := [.int .i64 x10.Worker, .int .i64 x10.Job, .int .i64 x10.Told, .bool x10.Spent]) rfl Try.underlying41 Try.sizeOf44 Try.zeroValue44 rfl rfl rfl (by kernel_rfl) rfl rfl rfl (fun v50 hr51 => ?_)
        exact SO.nilZ fun a w h1 h2 h3 h4 h5 => PZ.of h1 h3 h5 (.cons () (.cons v50 (.nil ⟨EnvAll.of h2 ⟨rfl, rfl, trivial⟩, h4⟩)))
      · rintro Fr _ v50 _
        refine SO.rd fun hr52 => ?_
        refine SO.b1 ?_
        refine SO.append rfl Try.underlying41 Try.underlying41 inf44_stm_Machine_advance rfl rfl rfl (by decide) rfl rfl rfl (Rd.head hr52) hz54 (fun v55 => ?_)
        refine SO.rd fun hr56 => ?_
        refine SO.b1 ?_
        exact SO.nilZ fun a w h1 h2 h3 h4 h5 => PZ.of h1 h3 h5 (.cons () (.cons v50 (.cons v55 (.nil ⟨EnvAll.of h2 ⟨rfl, rfl, rfl, trivial⟩, h4⟩))))
      · rintro Fr _
        refine SO.v rfl (opv_nilCheck rfl) ?_
        exact SO.nilZ fun a w h1 h2 h3 h4 h5 => PZ.of h1 h3 h5 (.cons () (.cons () (.nil ⟨EnvAll.of h2 ⟨rfl, rfl, trivial⟩, h4⟩)))
      · rintro Fr _
        refine SO.v rfl (opv_fieldAddr Try.underlying67 rfl Try.sizeOf41 rfl rfl) ?_
        exact SO.nilZ fun a w h1 h2 h3 h4 h5 => PZ.of h1 h3 h5 (.cons () (.cons () (.nil ⟨EnvAll.of h2 ⟨rfl, rfl, trivial⟩, h4⟩)))
      · rintro Fr _ _ v55
        refine SO.b1 ?_
        refine SO.rd fun hr57 => ?_
        refine SO.b1 ?_
        refine SO.store1 Try.sizeOf41 rfl rfl (Rd.one hr57) rfl ?_
        refine SO.b1 ?_
        exact SO.nilZ fun a w h1 h2 h3 h4 h5 => PZ.of h1 h3 h5 (.cons () (.cons v55 (.nil ⟨EnvAll.of h2 ⟨rfl, rfl, trivial⟩, h4⟩)))
      rintro _ _ v55 v50 _ _ _ _ _ _ _ _
      refine S.to (ρ' := [(0, bp bpm 0), (1, .int .i64 t21)]) ⟨rfl, rfl, trivial⟩ ?_
      refine S.rd fun hr58 => ?_
      refine S.b2 ?_
      refine S.rd fun hr59 => ?_
      refine S.inBlock ?_
      refine S.b8 ?_
      refine S.b5 ?_
      refine S.b5 ?_
      refine s_close_desc_Desc (t := p22) ?_
      refine S.unfocusZ hb13 hx16 ?_
      refine S.b1 ?_
      refine S.drop ?_
      refine S.b3 ?_
      refine S.drop ?_
      refine S.b6 ?_
      refine S.b5 ?_
      refine S.b2 ?_
      refine S.b4 ?_
      refine S.b6 ?_
      refine S.b6 ?_
      refine S.b6 ?_
      refine S.to ?_ (ih1 ((t21, p23.l, p23.limit, zs53, qDz_1.set (w64 (x1_1 - 1)).toNat p22), (u27_l, v55)) h)
      exact ⟨rfl, rfl, trivial⟩
    replace h := cond_f b9 h
    refine S.condF rfl b9 ?_
    refine S.exit rfl ?_
    cases h
    refine S.b6 ?_
    refine S.b6 ?_
    refine S.b6 ?_
    refine S.b6 ?_
    refine S.b6 ?_
    refine S.b6 ?_
    refine S.b6 ?_
    refine S.to ?_ (hK1 (vypm_3_1, vyps_0_1))
    exact trivial
  rintro ⟨vypm_3_e1, vyps_0_e1⟩
  refine S.rd fun hr60 => ?_
  refine S.b1 ?_
  refine S.rd fun hr61 => ?_
  cases h
  refine S.b6 ?_
  refine S.b2 ?_
  refine S.b6 ?_
  refine S.b3 ?_
  refine S.b6 ?_
  refine S.b5 ?_
  refine S.b6 ?_
  exact S.fin0 Try.func30 rfl (fun w hs hk => hR w _ _ ⟨vypm_3_e1, vyps_0_e1, rfl, rfl⟩ hs hk)
end Go.Proofs
namespace Go.Proofs
open Go.Sl Go.RowKit
/-! 25 padstone/tx.New -/
def tx_New.f (a0 : Int) : Option (tx_Tx) :=
  some (⟨a0, (some [] : Option (List (Int × api_Cell))), none, 0, false⟩ : tx_Tx)
set_option maxHeartbeats 8000000 in
set_option maxRecDepth 100000 in
theorem tx_New.ct (a0 : Int) (r0 : tx_Tx) (h : tx_New.f a0 = some r0) :
    Ct Try.prog 25 [.int .i64 a0] (fun _ => True) [] (fun u H' => ∃ b_r0 w_r0_l w_r0_out, u = bp b_r0 0 ∧ H' = [Box b_r0 [.int .i64 r0.cells, w_r0_l, w_r0_out, .int .i64 r0.lack, .bool r0.fine], MapO (aggE ek_api_Cell) w_r0_l r0.l, MapO (Value.int .u64) w_r0_out r0.out]) := by
  unfold tx_New.f at h
  refine Ct.intro (n := 7) Try.func25 rfl rfl rfl ?_
  intro R w0 F hF hR
  refine S.seq ?_
  refine S.region ?_
  refine SO.v rfl (opv_assign rfl) ?_
  refine SO.nil ?_
  refine S.seq ?_
  refine S.region ?_
  refine SO.v rfl (opv_move rfl) ?_
  refine SO.makeMapO (aggE ek_api_Cell) rfl (fun v1 => ?_)
  refine SO.oneM fun h12 => ?_
  have hB_ : ∀ (w : World) (u0_ : Value), u0_.oneCell' = true → (Instr.build 97 #[(0, .int .i64 a0), (1, u0_)]).run Try.prog w = .ok (.agg #[.int .i64 a0, u0_, .map none, .int .i64 0, .bool false]) w := (by intro w u0_ hu0_; cases u0_ <;> first | (simp [Value.oneCell'] at hu0_; done) | kernel_rfl)
  refine SO.v rfl (opv_build (v := .agg #[.int .i64 a0, v1, .map none, .int .i64 0, .bool false]) rfl (fun w => hB_ w v1 h12)) ?_
  clear hB_
  refine SO.box rfl rfl rfl (fun b3 => ?_)
  refine SO.v rfl (opv_assign rfl) ?_
  refine SO.nil ?_
  cases h
  refine S.newMapO (Value.int .u64) ?_
  refine S.b3 ?_
  refine S.b1 ?_
  refine S.b3 ?_
  refine S.b3 ?_
  exact S.ret1 Try.func25 rfl rfl (fun w hs hk => hR w _ _ ⟨b3, v1, (.map none), rfl, rfl⟩ hs hk)
end Go.Proofs
namespace Go.Proofs
open Go.Sl Go.RowKit
/-! 26 (*padstone/word.Store).Len -/
def word_Store_Len.f (a0 : word_Store) : Option (Int) :=
  some (a0.l.length : Int)
set_option maxHeartbeats 8000000 in
set_option maxRecDepth 100000 in
theorem word_Store_Len.ct (bp0 : Nat) (v0_l : Value) (a0 : word_Store) (r0 : Int) (h : word_Store_Len.f a0 = some r0) :
    Ct Try.prog 26 [bp bp0 0] (fun _ => True) [Box bp0 [v0_l, .int .u32 a0.limit], Own 88 ek_api_Cell v0_l a0.l] (fun u H' => u = .int .i64 r0 ∧ H' = [Box bp0 [v0_l, .int .u32 a0.limit], Own 88 ek_api_Cell v0_l a0.l]) := by
  unfold word_Store_Len.f at h
  refine Ct.intro (n := 8) Try.func26 rfl rfl rfl ?_
  intro R w0 F hF hR
  refine S.b1 ?_
  refine S.rd fun hr1 => ?_
  refine S.seq ?_
  refine S.region ?_
  refine SO.v rfl (opv_assign rfl) ?_
  refine SO.nil ?_
  refine S.seq ?_
  refine S.region ?_
  refine SO.v rfl (opv_move rfl) ?_
  refine SO.v rfl (opv_nilCheck rfl) ?_
  refine SO.v rfl (opv_fieldAddr Try.underlying63 rfl Try.sizeOf61 rfl rfl) ?_
  refine SO.b1 ?_
  refine SO.load1 rfl Try.isAgg61 rfl rfl ?_
  refine SO.v rfl (opv_lenR rfl Try.underlying61 hr1 rfl) ?_
  refine SO.v rfl (opv_assign rfl) ?_
  refine SO.nil ?_
  cases h
  refine S.b2 ?_
  refine S.b2 ?_
  refine S.b2 ?_
  exact S.ret1 Try.func26 rfl rfl (fun w hs hk => hR w _ _ ⟨rfl, rfl⟩ hs hk)
end Go.Proofs
set_option linter.unusedVariables false
namespace Go.Proofs
open Go.Sl Go.RowKit
theorem inf3_stm_Machine_end : Try.prog.info? 3 = some Try.t3 := by kernel_rfl
/-! 29 (*padstone/stm.Machine).end -/
def stm_Machine_end.f (sa : word_Store) (dl : List desc_Desc) (el : List stm_Entry) (mi : Int) (told : List Int) : Option ((List Int) × (Option tx_Tx) × Bool) :=
  (at_ dl mi).bind fun x5 => (desc_Desc_Mark.f x5).bind fun t9 => (at_ el (w64 (t9 - 1))).bind fun x11 => (desc_Desc_Status.f x5).bind fun t15 => bif t15 == 2 then ((word_Store_Len.f sa).bind fun t18 => (tx_New.f t18).bind fun t20 => some (told, some t20, true)) else (bif t15 == 3 then ((app told ([-1])).bind fun zs27 => some (zs27, none, false)) else ((app told ([x11.Told])).bind fun zs33 => some (zs33, none, false)))
set_option maxHeartbeats 8000000 in
set_option maxRecDepth 100000 in
theorem stm_Machine_end.ct (zb : List Nat) (bpm bps : Nat) (vl va vg vs : Value) (sa : word_Store) (dl : List desc_Desc) (el gl : List stm_Entry) (hle : zb.length = el.length) (bw : Nat) (fv jv tv tl : Value) (mi : Int) (bd : Nat) (hbd : at_ zb mi = some bd) (told : List Int) (rt : List Int) (rx : Option tx_Tx) (rk : Bool) (h : stm_Machine_end.f sa dl el mi told = some (rt, rx, rk)) :
    Ct Try.prog 29 [bp bpm 0, bp bw 0] (fun _ => True) [Box bpm [bp bps 0, vl, va, vg], Own 105 ekMd va (zb.zip el), ZipR rep_desc_Desc zb dl, Own 44 ek_stm_Entry vg gl, Box bps [vs, .int .u32 sa.limit], Own 88 ek_api_Cell vs sa.l, Box bw [fv, jv, tv, bp bd 0, tl], Own 3 (ekI .i64) tl told] (fun u H' => ∃ (wv wt : Value), u = .tuple #[] ∧ H' = [Box bpm [bp bps 0, vl, va, vg], Own 105 ekMd va (zb.zip el), ZipR rep_desc_Desc zb dl, Own 44 ek_stm_Entry vg gl, Box bps [vs, .int .u32 sa.limit], Own 88 ek_api_Cell vs sa.l, Box bw [fv, cond rk jv .nilFunc, wv, .pointer none, wt], Own 3 (ekI .i64) wt rt, TxO wv rx]) := by
  unfold stm_Machine_end.f at h
  refine Ct.intro (n := 58) Try.func29 rfl rfl rfl ?_
  intro R w0 F hF hR
  refine S.b1 ?_
  refine S.rd fun hr1 => ?_
  refine S.b3 ?_
  refine S.rd fun hr2 => ?_
  refine S.b5 ?_
  refine S.rd fun hr3 => ?_
  refine S.b7 ?_
  refine S.rd fun hr4 => ?_
  refine S.seq ?_
  obtain ⟨x5, hx6, h⟩ := opt_bind h
  refine S.b5 ?_
  refine S.focusZ hbd hx6 ?_
  refine s_open_desc_Desc (fun g7_l => ?_)
  refine S.b1 ?_
  refine S.rd fun hr8 => ?_
  obtain ⟨t9, ht10, h⟩ := opt_bind h
  obtain ⟨x11, hx12, h⟩ := opt_bind h
  obtain ⟨b13, hb14⟩ := at_len hle hx12
  refine S.draw2 (Y := fun Q => ∃ (_ _ _ _ _ _ _ _ _ _ _ _ _ : Unit), Q [(0, bp bpm 0), (1, bp bw 0)] [Own 114 ek_tx_Entry g7_l x5.l, Box bd [.int .i64 x5.mark, g7_l, .int .i64 x5.status, .int .i64 x5.at_], ZipH rep_desc_Desc zb dl mi.toNat, Own 3 (ekI .i64) tl told, Own 88 ek_api_Cell vs sa.l, Own 44 ek_stm_Entry vg gl, Own 105 ekMd va (zb.zip el), Box bpm [bp bps 0, vl, va, vg], Box bps [vs, .int .u32 sa.limit], Box bw [fv, jv, tv, bp bd 0, tl], F]) (Z := fun Q => ∀ (_ _ _ _ _ _ _ _ _ _ _ _ _ _ : Unit), Q [(0, bp bpm 0), (1, bp bw 0), (4, .int .i64 x11.Told)] [Own 114 ek_tx_Entry g7_l x5.l, Box bd [.int .i64 x5.mark, g7_l, .int .i64 x5.status, .int .i64 x5.at_], ZipH rep_desc_Desc zb dl mi.toNat, Own 3 (ekI .i64) tl told, Own 88 ek_api_Cell vs sa.l, Own 44 ek_stm_Entry vg gl, Own 105 ekMd va (zb.zip el), Box bpm [bp bps 0, vl, va, vg], Box bps [vs, .int .u32 sa.limit], Box bw [fv, jv, tv, bp bd 0, tl], F]) (T := [tS 0 (bp bpm 0), tS 1 (bp bw 0), tR (Own 114 ek_tx_Entry g7_l x5.l), tR (Box bd [.int .i64 x5.mark, g7_l, .int .i64 x5.status, .int .i64 x5.at_]), tR (ZipH rep_desc_Desc zb dl mi.toNat), tR (Own 3 (ekI .i64) tl told), tR (Own 88 ek_api_Cell vs sa.l), tR (Own 44 ek_stm_Entry vg gl), tR (Own 105 ekMd va (zb.zip el)), tR (Box bpm [bp bps 0, vl, va, vg]), tR (Box bps [vs, .int .u32 sa.limit]), tR (Box bw [fv, jv, tv, bp bd 0, tl]), tR (F), tS 6 (bp bpm 0), tS 7 (bp bpm 0), tS 8 (bp bpm 2), tS 9 (va), tS 10 (bp bw 0), tS 11 (bp bw 0), tS 12 (bp bw 3), tS 13 (bp bd 0), tS 14 (.int .i64 t9), tS 15 (.int .i64 (w64 (t9 - 1))), tS 16 (idxp va ((w64 (t9 - 1)).toNat * ekMd.sz)), tS 17 (idxp va ((w64 (t9 - 1)).toNat * ekMd.sz + 1)), tS 18 (idxp va ((w64 (t9 - 1)).toNat * ekMd.sz + 3)), tS 19 (.int .i64 x11.Told), tS 4 (.int .i64 x11.Told)]) (D := [⟨[0], [], [13]⟩, ⟨[13], [], [14]⟩, ⟨[14], [], [15]⟩, ⟨[15, 9], [], [16]⟩, ⟨[1], [], [17]⟩, ⟨[17], [], [18]⟩, ⟨[18], [], [19]⟩, ⟨[19, 11], [], [20]⟩, ⟨[20, 3, 2], [], [21]⟩, ⟨[21], [], [22]⟩, ⟨[16, 22, 8], [], [23]⟩, ⟨[23, 8], [], [24]⟩, ⟨[24, 8], [], [25]⟩, ⟨[25, 8], [], [26]⟩, ⟨[26], [], [27]⟩]) (ini := [0, 1, 2, 3, 4, 5, 6, 7, 8, 9, 10, 11, 12]) (fin := [0, 1, 27, 2, 3, 4, 5, 6, 7, 8, 9, 10, 11, 12]) (bf := [[], [0], [0, 1], [0, 1, 2], [], [4], [4, 5], [4, 5, 6], [4, 5, 6, 7], [4, 5, 6, 7, 8], [0, 1, 2, 3, 4, 5, 6, 7, 8, 9], [0, 1, 2, 3, 4, 5, 6, 7, 8, 9, 10], [0, 1, 2, 3, 4, 5, 6, 7, 8, 9, 10, 11], [0, 1, 2, 3, 4, 5, 6, 7, 8, 9, 10, 11, 12], [0, 1, 2, 3, 4, 5, 6, 7, 8, 9, 10, 11, 12, 13]]) (by kernel_rfl) (by kernel_rfl) (fun Q => by kernel_rfl) (fun x w h1 h2 => ⟨(), (), (), (), (), (), (), (), (), (), (), (), (), EnvAll.of h1 ⟨rfl, rfl, trivial⟩, h2⟩) (fun Q => by kernel_rfl) ⟨?_, ?_, ?_, ?_, ?_, ?_, ?_, ?_, ?_, ?_, ?_, ?_, ?_, ?_, ?_, trivial⟩ ?_
  · rintro Fr _
    refine SO.v rfl (opv_move rfl) ?_
    exact SO.nilZ fun a w h1 h2 h3 h4 h5 => PZ.of h1 h3 h5 (.cons () (.cons () (.nil ⟨EnvAll.of h2 ⟨rfl, rfl, trivial⟩, h4⟩)))
  · rintro Fr _
    refine SO.v rfl (opv_nilCheck rfl) ?_
    exact SO.nilZ fun a w h1 h2 h3 h4 h5 => PZ.of h1 h3 h5 (.cons () (.cons () (.nil ⟨EnvAll.of h2 ⟨rfl, rfl, trivial⟩, h4⟩)))
  · rintro Fr _
    refine SO.v rfl (opv_fieldAddr Try.underlying67 rfl Try.sizeOf65 rfl rfl) ?_
    exact SO.nilZ fun a w h1 h2 h3 h4 h5 => PZ.of h1 h3 h5 (.cons () (.cons () (.nil ⟨EnvAll.of h2 ⟨rfl, rfl, trivial⟩, h4⟩)))
  · rintro Fr _ _
    refine SO.load1 rfl Try.isAgg65 rfl rfl ?_
    exact SO.nilZ fun a w h1 h2 h3 h4 h5 => PZ.of h1 h3 h5 (.cons () (.cons () (.cons () (.nil ⟨EnvAll.of h2 ⟨rfl, rfl, trivial⟩, h4⟩))))
  · rintro Fr _
    refine SO.v rfl (opv_move rfl) ?_
    exact SO.nilZ fun a w h1 h2 h3 h4 h5 => PZ.of h1 h3 h5 (.cons () (.cons () (.nil ⟨EnvAll.of h2 ⟨rfl, rfl, trivial⟩, h4⟩)))
  · rintro Fr _
    refine SO.v rfl (opv_nilCheck rfl) ?_
    exact SO.nilZ fun a w h1 h2 h3 h4 h5 => PZ.of h1 h3 h5 (.cons () (.cons () (.nil ⟨EnvAll.of h2 ⟨rfl, rfl, trivial⟩, h4⟩)))
  · rintro Fr _
    refine SO.v rfl (opv_fieldAddr Try.underlying73 rfl Try.sizeOf71 rfl rfl) ?_
    exact SO.nilZ fun a w h1 h2 h3 h4 h5 => PZ.of h1 h3 h5 (.cons () (.cons () (.nil ⟨EnvAll.of h2 ⟨rfl, rfl, trivial⟩, h4⟩)))
  · rintro Fr _ _
    refine SO.load1 rfl Try.isAgg71 rfl rfl ?_
    exact SO.nilZ fun a w h1 h2 h3 h4 h5 => PZ.of h1 h3 h5 (.cons () (.cons () (.cons () (.nil ⟨EnvAll.of h2 ⟨rfl, rfl, trivial⟩, h4⟩))))
  · rintro Fr _ _ _
    refine SO.b1 ?_
    refine SO.b1 ?_
    refine SO.call (pre := [Box _ _, Own _ _ _ _]) rfl Try.call31 rfl rfl rfl (desc_Desc_Mark.ct bd g7_l _ _ ht10) trivial ?_
    rintro _ _ ⟨rfl, rfl⟩
    refine SO.b1 ?_
    refine SO.b1 ?_
    exact SO.nilZ fun a w h1 h2 h3 h4 h5 => PZ.of h1 h3 h5 (.cons () (.cons () (.cons () (.cons () (.nil ⟨EnvAll.of h2 ⟨rfl, rfl, trivial⟩, h4⟩)))))
  · rintro Fr _
    refine SO.v rfl (opv_sub rfl rfl) ?_
    exact SO.nilZ fun a w h1 h2 h3 h4 h5 => PZ.of h1 h3 h5 (.cons () (.cons () (.nil ⟨EnvAll.of h2 ⟨rfl, rfl, trivial⟩, h4⟩)))
  · rintro Fr _ _ _
    refine SO.v rfl (opv_idx Try.underlying65 Try.sizeOf105 hr1 rfl rfl (at_zip hb14 hx12)) ?_
    exact SO.nilZ fun a w h1 h2 h3 h4 h5 => PZ.of h1 h3 h5 (.cons () (.cons () (.cons () (.cons () (.nil ⟨EnvAll.of h2 ⟨rfl, rfl, rfl, trivial⟩, h4⟩)))))
  · rintro Fr _ _
    refine SO.v rfl (opv_fieldIdx Try.underlying105 rfl Try.sizeOf44 hr1 (at_zip hb14 hx12) rfl rfl) ?_
    exact SO.nilZ fun a w h1 h2 h3 h4 h5 => PZ.of h1 h3 h5 (.cons () (.cons () (.cons () (.nil ⟨EnvAll.of h2 ⟨rfl, rfl, trivial⟩, h4⟩))))
  · rintro Fr _ _
    refine SO.v rfl (opv_fieldIdx Try.underlying44 rfl Try.sizeOf3 hr1 (at_zip hb14 hx12) rfl rfl) ?_
    exact SO.nilZ fun a w h1 h2 h3 h4 h5 => PZ.of h1 h3 h5 (.cons () (.cons () (.cons () (.nil ⟨EnvAll.of h2 ⟨rfl, rfl, trivial⟩, h4⟩))))
  · rintro Fr _ _
    refine SO.loadI1 (j := 3) rfl Try.isAgg3 (Rd.head hr1) (at_zip hb14 hx12) rfl rfl rfl rfl ?_
    exact SO.nilZ fun a w h1 h2 h3 h4 h5 => PZ.of h1 h3 h5 (.cons () (.cons () (.cons () (.nil ⟨EnvAll.of h2 ⟨rfl, rfl, trivial⟩, h4⟩))))
  · rintro Fr _
    refine SO.v rfl (opv_assign rfl) ?_
    exact SO.nilZ fun a w h1 h2 h3 h4 h5 => PZ.of h1 h3 h5 (.cons () (.cons () (.nil ⟨EnvAll.of h2 ⟨rfl, rfl, trivial⟩, h4⟩)))
  rintro _ _ _ _ _ _ _ _ _ _ _ _ _ _
  refine S.to (ρ' := [(0, bp bpm 0), (1, bp bw 0), (4, .int .i64 x11.Told)]) ⟨rfl, rfl, rfl, trivial⟩ ?_
  refine S.seq ?_
  refine S.region ?_
  refine SO.v rfl (opv_move rfl) ?_
  refine SO.v rfl (opv_nilCheck rfl) ?_
  refine SO.v rfl (opv_fieldAddr Try.underlying73 rfl Try.sizeOf71 rfl rfl) ?_
  refine SO.b9 ?_
  refine SO.load1 rfl Try.isAgg71 rfl rfl ?_
  obtain ⟨t15, ht16, h⟩ := opt_bind h
  refine SO.b1 ?_
  refine SO.b2 ?_
  refine SO.call (pre := [Box _ _, Own _ _ _ _]) rfl Try.call45 rfl rfl rfl (desc_Desc_Status.ct bd g7_l _ _ ht16) trivial ?_
  rintro _ _ ⟨rfl, rfl⟩
  refine SO.v rfl (opv_assign rfl) ?_
  refine SO.nil ?_
  refine S.seq ?_
  refine S.region ?_
  refine SO.v rfl (opv_move rfl) ?_
  refine SO.v rfl (opv_nilCheck rfl) ?_
  refine SO.v rfl (opv_fieldAddr Try.underlying73 rfl Try.sizeOf71 rfl rfl) ?_
  refine SO.b2 ?_
  refine SO.store1 Try.sizeOf71 rfl rfl rfl rfl ?_
  refine SO.nil ?_
  refine S.to (ρ' := [(0, bp bpm 0), (1, bp bw 0), (4, .int .i64 x11.Told), (5, .int .i64 t15)]) ⟨rfl, rfl, rfl, rfl, trivial⟩ ?_
  refine S.seq ?_
  refine S.seq ?_
  refine S.region ?_
  refine SO.v rfl (opv_move rfl) ?_
  refine SO.nil ?_
  refine S.block ?_
  refine S.seq ?_
  refine S.region ?_
  refine SO.v rfl (opv_eql rfl rfl) ?_
  refine SO.v rfl (opv_assign rfl) ?_
  refine SO.nil ?_
  rcases bool_or (t15 == 2) with b17 | b17
  · replace h := cond_t b17 h
    refine S.condT rfl b17 ?_
    refine S.seq ?_
    refine S.region ?_
    refine SO.v rfl (opv_move rfl) ?_
    refine SO.v rfl (opv_move rfl) ?_
    refine SO.v rfl (opv_nilCheck rfl) ?_
    refine SO.v rfl (opv_fieldAddr Try.underlying67 rfl Try.sizeOf27 rfl rfl) ?_
    refine SO.b8 ?_
    refine SO.load1 rfl Try.isAgg27 rfl rfl ?_
    obtain ⟨t18, ht19, h⟩ := opt_bind h
    refine SO.b6 ?_
    refine SO.b9 ?_
    refine SO.call (pre := [Box _ _, Own _ _ _ _]) rfl Try.call26 rfl rfl rfl (word_Store_Len.ct bps vs _ _ ht19) trivial ?_
    rintro _ _ ⟨rfl, rfl⟩
    obtain ⟨t20, ht21, h⟩ := opt_bind h
    refine SO.call (pre := []) rfl Try.call25 rfl rfl rfl (tx_New.ct _ _ ht21) trivial ?_
    rintro _ _ ⟨b22, u23_l, u23_out, rfl, rfl⟩
    refine SO.v rfl (opv_nilCheck rfl) ?_
    refine SO.v rfl (opv_fieldAddr Try.underlying73 rfl Try.sizeOf70 rfl rfl) ?_
    refine SO.b6 ?_
    refine SO.store1 Try.sizeOf70 rfl rfl rfl rfl ?_
    refine SO.nil ?_
    refine S.to (ρ' := []) trivial ?_
    cases h
    refine S.b9 ?_
    refine S.b9 ?_
    refine S.b9 ?_
    refine s_close_desc_Desc (t := x5) ?_
    refine S.unfocusZ0 hbd hx6 ?_
    refine S.b4 ?_
    refine S.b4 ?_
    refine S.b4 ?_
    refine S.txSome ?_
    refine S.b9 ?_
    refine S.b1 ?_
    refine S.b7 ?_
    refine S.b4 ?_
    refine S.b6 ?_
    refine S.b6 ?_
    refine S.b8 ?_
    refine S.b7 ?_
    refine S.b9 ?_
    refine S.b9 ?_
    exact S.ret0 Try.func29 rfl (fun w hs hk => hR w _ _ ⟨(bp b22 0), tl, rfl, rfl⟩ hs hk)
  replace h := cond_f b17 h
  refine S.condF rfl b17 ?_
  refine S.seq ?_
  refine S.region ?_
  refine SO.v rfl (opv_eql rfl rfl) ?_
  refine SO.v rfl (opv_assign rfl) ?_
  refine SO.nil ?_
  rcases bool_or (t15 == 3) with b24 | b24
  · replace h := cond_t b24 h
    refine S.condT rfl b24 ?_
    refine S.region ?_
    refine SO.v rfl (opv_assign rfl) ?_
    refine SO.nil ?_
    refine S.to (ρ' := [(1, bp bw 0), (4, .int .i64 (-1))]) ⟨rfl, rfl, trivial⟩ ?_
    refine S.inBlock ?_
    refine S.seq ?_
    refine S.region ?_
    refine SO.v rfl (opv_move rfl) ?_
    refine SO.v rfl (opv_move rfl) ?_
    refine SO.v rfl (opv_nilCheck rfl) ?_
    refine SO.v rfl (opv_fieldAddr Try.underlying73 rfl Try.sizeOf24 rfl rfl) ?_
    refine SO.load1 rfl Try.isAgg24 rfl rfl ?_
    refine SO.v rfl (opv_move rfl) ?_
    refine SO.buildSlice (K := ekI .i64) (xs := [-1]) (cs := [.int .i64 (-1)]) rfl Try.underlying24 Try.sizeOf3 Try.zeroValue3 rfl rfl rfl (by kernel_rfl) rfl rfl rfl (fun v25 hr26 => ?_)
    obtain ⟨zs27, hz28, h⟩ := opt_bind h
    refine SO.b5 ?_
    refine SO.append rfl Try.underlying24 Try.underlying24 inf3_stm_Machine_end rfl rfl rfl (by decide) rfl rfl rfl (Rd.head hr26) hz28 (fun v29 => ?_)
    refine SO.rd fun hr30 => ?_
    refine SO.v rfl (opv_nilCheck rfl) ?_
    refine SO.v rfl (opv_fieldAddr Try.underlying73 rfl Try.sizeOf24 rfl rfl) ?_
    refine SO.b2 ?_
    refine SO.store1 Try.sizeOf24 rfl rfl (Rd.one hr30) rfl ?_
    refine SO.nil ?_
    refine S.to (ρ' := [(1, bp bw 0)]) ⟨rfl, trivial⟩ ?_
    refine S.region ?_
    refine SO.v rfl (opv_move rfl) ?_
    refine SO.v rfl (opv_move rfl) ?_
    refine SO.v rfl (opv_nilCheck rfl) ?_
    refine SO.v rfl (opv_fieldAddr Try.underlying73 rfl Try.sizeOf69 rfl rfl) ?_
    refine SO.store1 Try.sizeOf69 rfl rfl rfl rfl ?_
    refine SO.v rfl (opv_nilCheck rfl) ?_
    refine SO.v rfl (opv_fieldAddr Try.underlying73 rfl Try.sizeOf70 rfl rfl) ?_
    refine SO.store1 Try.sizeOf70 rfl rfl rfl rfl ?_
    refine SO.nil ?_
    refine S.to (ρ' := []) trivial ?_
    cases h
    refine S.b5 ?_
    refine S.b5 ?_
    refine S.b5 ?_
    refine s_close_desc_Desc (t := x5) ?_
    refine S.unfocusZ0 hbd hx6 ?_
    refine S.txNil ?_
    refine S.b4 ?_
    refine S.drop ?_
    refine S.b9 ?_
    refine S.b1 ?_
    refine S.b4 ?_
    refine S.b4 ?_
    refine S.b5 ?_
    refine S.b9 ?_
    refine S.b7 ?_
    refine S.b7 ?_
    refine S.b8 ?_
    refine S.b9 ?_
    exact S.fin0 Try.func29 rfl (fun w hs hk => hR w _ _ ⟨(.pointer none), v29, rfl, rfl⟩ hs hk)
  replace h := cond_f b24 h
  refine S.condF rfl b24 ?_
  refine S.skip ?_
  refine S.inBlock ?_
  refine S.seq ?_
  refine S.region ?_
  refine SO.v rfl (opv_move rfl) ?_
  refine SO.v rfl (opv_move rfl) ?_
  refine SO.v rfl (opv_nilCheck rfl) ?_
  refine SO.v rfl (opv_fieldAddr Try.underlying73 rfl Try.sizeOf24 rfl rfl) ?_
  refine SO.load1 rfl Try.isAgg24 rfl rfl ?_
  refine SO.v rfl (opv_move rfl) ?_
  refine SO.buildSlice (K := ekI .i64) (xs := [x11.Told]) (cs := [.int .i64 x11.Told]) rfl Try.underlying24 Try.sizeOf3 Try.zeroValue3 rfl rfl rfl (by kernel_rfl) rfl rfl rfl (fun v31 hr32 => ?_)
  obtain ⟨zs33, hz34, h⟩ := opt_bind h
  refine SO.b5 ?_
  refine SO.append rfl Try.underlying24 Try.underlying24 inf3_stm_Machine_end rfl rfl rfl (by decide) rfl rfl rfl (Rd.head hr32) hz34 (fun v35 => ?_)
  refine SO.rd fun hr36 => ?_
  refine SO.v rfl (opv_nilCheck rfl) ?_
  refine SO.v rfl (opv_fieldAddr Try.underlying73 rfl Try.sizeOf24 rfl rfl) ?_
  refine SO.b2 ?_
  refine SO.store1 Try.sizeOf24 rfl rfl (Rd.one hr36) rfl ?_
  refine SO.nil ?_
  refine S.to (ρ' := [(1, bp bw 0)]) ⟨rfl, trivial⟩ ?_
  refine S.region ?_
  refine SO.v rfl (opv_move rfl) ?_
  refine SO.v rfl (opv_move rfl) ?_
  refine SO.v rfl (opv_nilCheck rfl) ?_
  refine SO.v rfl (opv_fieldAddr Try.underlying73 rfl Try.sizeOf69 rfl rfl) ?_
  refine SO.store1 Try.sizeOf69 rfl rfl rfl rfl ?_
  refine SO.v rfl (opv_nilCheck rfl) ?_
  refine SO.v rfl (opv_fieldAddr Try.underlying73 rfl Try.sizeOf70 rfl rfl) ?_
  refine SO.store1 Try.sizeOf70 rfl rfl rfl rfl ?_
  refine SO.nil ?_
  refine S.to (ρ' := []) trivial ?_
  cases h
  refine S.b5 ?_
  refine S.b5 ?_
  refine S.b5 ?_
  refine s_close_desc_Desc (t := x5) ?_
  refine S.unfocusZ0 hbd hx6 ?_
  refine S.txNil ?_
  refine S.b4 ?_
  refine S.drop ?_
  refine S.b9 ?_
  refine S.b1 ?_
  refine S.b4 ?_
  refine S.b4 ?_
  refine S.b5 ?_
  refine S.b9 ?_
  refine S.b7 ?_
  refine S.b7 ?_
  refine S.b8 ?_
  refine S.b9 ?_
  exact S.fin0 Try.func29 rfl (fun w hs hk => hR w _ _ ⟨(.pointer none), v35, rfl, rfl⟩ hs hk)
end Go.Proofs
set_option linter.unusedVariables false
namespace Go.Proofs
open Go.Sl Go.RowKit

/-! 10 (*padstone/stm.Machine).Step -/
def stm_Step_d.f (k : Nat) (sa : word_Store) (dl : List desc_Desc) (el : List stm_Entry) (gl : List stm_Entry) (mi : Int) (told : List Int) (tx : Option tx_Tx) : Option (word_Store × (List desc_Desc) × (List stm_Entry) × (List Int) × (Option tx_Tx) × Bool × Bool) :=
  (at_ dl mi).bind fun x6 => (desc_Desc_Over.f x6).bind fun t10 => bif t10 then ((stm_Machine_end.f sa dl el mi told).bind fun (t13, t14, t15) => some (sa, dl, gl, t13, t14, t15, true)) else ((desc_Desc_Mark.f x6).bind fun t20 => (stm_Machine_advance.f k sa dl el gl t20).bind fun (t22, t23, t24) => some (t22, t23, t24, told, tx, true, false))
set_option maxHeartbeats 8000000 in
set_option maxRecDepth 100000 in
theorem stm_Step_d.ct (k : Nat) (zb : List Nat) (bpm bps : Nat) (vl va vg vs : Value) (sa : word_Store) (dl : List desc_Desc) (el gl : List stm_Entry) (hle : zb.length = el.length) (ws : List Nat) (id : Int) (bw : Nat) (hbw : at_ ws id = some bw) (hin : stm_Machine_in.f ws id = some true) (jf : FuncId) (jcs : List Value) (JX : HProp) (fv tv tl : Value) (mi : Int) (bd : Nat) (hbd : at_ zb mi = some bd) (told : List Int) (tx : Option tx_Tx) (rs : word_Store) (rd : List desc_Desc) (rg : List stm_Entry) (rt : List Int) (rx : Option tx_Tx) (rk ro : Bool) (h : stm_Step_d.f k sa dl el gl mi told tx = some (rs, rd, rg, rt, rx, rk, ro)) :
    Ct Try.prog 10 [bp bpm 0, .int .i64 id] (fun _ => True) [Box bpm [bp bps 0, vl, va, vg], Own 68 ekP vl ws, Own 105 ekMd va (zb.zip el), ZipR rep_desc_Desc zb dl, Own 44 ek_stm_Entry vg gl, Box bps [vs, .int .u32 sa.limit], Own 88 ek_api_Cell vs sa.l, Box bw [fv, .func (.func jf) #[] jcs.toArray, tv, bp bd 0, tl], Own 3 (ekI .i64) tl told, TxO tv tx, JX] (fun u H' => ∃ (wg ws' wv wt : Value), u = .bool true ∧ H' = [Box bpm [bp bps 0, vl, va, wg], Own 68 ekP vl ws, Own 105 ekMd va (zb.zip el), ZipR rep_desc_Desc zb rd, Own 44 ek_stm_Entry wg rg, Box bps [ws', .int .u32 rs.limit], Own 88 ek_api_Cell ws' rs.l, Box bw [fv, cond rk (.func (.func jf) #[] jcs.toArray) .nilFunc, wv, cond ro (.pointer none) (bp bd 0), wt], Own 3 (ekI .i64) wt rt, TxO wv rx, JX]) := by
  unfold stm_Step_d.f at h
  refine Ct.intro (n := 68) Try.func10 rfl rfl rfl ?_
  intro R w0 F hF hR
  refine S.b1 ?_
  refine S.rd fun hr1 => ?_
  refine S.b2 ?_
  refine S.rd fun hr2 => ?_
  refine S.b4 ?_
  refine S.rd fun hr3 => ?_
  refine S.b6 ?_
  refine S.rd fun hr4 => ?_
  refine S.b8 ?_
  refine S.rd fun hr5 => ?_
  refine S.seq ?_
  refine S.region ?_
  refine SO.v rfl (opv_assign rfl) ?_
  refine SO.nil ?_
  refine S.seq ?_
  refine S.seq ?_
  refine S.region ?_
  refine SO.v rfl (opv_move rfl) ?_
  refine SO.v rfl (opv_move rfl) ?_
  refine SO.b4 ?_
  refine SO.b5 ?_
  refine SO.call (pre := [Box _ _, Own _ _ _ _]) rfl Try.call23 rfl rfl rfl (stm_Machine_in.ct bpm bps vl va vg ws id _ hin) trivial ?_
  rintro _ _ ⟨rfl, rfl⟩
  refine SO.v rfl (opv_not rfl) ?_
  refine SO.nil ?_
  refine S.cond_false rfl ?_
  refine S.skip ?_
  refine S.seq ?_
  refine S.region ?_
  refine SO.v rfl (opv_move rfl) ?_
  refine SO.v rfl (opv_nilCheck rfl) ?_
  refine SO.v rfl (opv_fieldAddr Try.underlying67 rfl Try.sizeOf64 rfl rfl) ?_
  refine SO.load1 rfl Try.isAgg64 rfl rfl ?_
  refine SO.v rfl (opv_move rfl) ?_
  refine SO.v rfl (opv_idx Try.underlying64 Try.sizeOf68 hr1 rfl rfl hbw) ?_
  refine SO.loadI1 (j := 0) rfl Try.isAgg68 (Rd.tail (Rd.head hr1)) hbw rfl rfl rfl rfl ?_
  refine SO.v rfl (opv_assign rfl) ?_
  refine SO.nil ?_
  refine S.to (ρ' := [(0, bp bpm 0), (1, .int .i64 id), (4, .bool false), (5, bp bw 0)]) ⟨rfl, rfl, rfl, rfl, trivial⟩ ?_
  refine S.seq ?_
  refine S.region ?_
  refine SO.v rfl (opv_move rfl) ?_
  refine SO.b8 ?_
  refine SO.call (pre := [Box _ _]) rfl Try.call24 rfl rfl rfl (stm_next_s.ct bw fv tv (bp bd 0) tl jf jcs) trivial ?_
  rintro _ _ ⟨rfl, rfl⟩
  refine SO.v rfl (opv_assign rfl) ?_
  refine SO.nil ?_
  refine S.seq ?_
  refine S.block ?_
  refine S.seq ?_
  refine S.region ?_
  refine SO.v rfl (opv_move rfl) ?_
  refine SO.v rfl (opv_eqlFV Try.underlying69 rfl rfl) ?_
  refine SO.v rfl (opv_assign rfl) ?_
  refine SO.nil ?_
  refine S.cond_false rfl ?_
  refine S.seq ?_
  refine S.region ?_
  refine SO.v rfl (opv_move rfl) ?_
  refine SO.v rfl (opv_nilCheck rfl) ?_
  refine SO.v rfl (opv_fieldAddr Try.underlying73 rfl Try.sizeOf69 rfl rfl) ?_
  refine SO.load1 rfl Try.isAgg69 rfl rfl ?_
  refine SO.v rfl (opv_eqlFV Try.underlying69 rfl rfl) ?_
  refine SO.v rfl (opv_assign rfl) ?_
  refine SO.nil ?_
  refine S.to (ρ' := [(0, bp bpm 0), (1, .int .i64 id), (4, .bool false), (5, bp bw 0), (6, .func (.func jf) #[] jcs.toArray), (30, .bool false)]) ⟨rfl, rfl, rfl, rfl, rfl, rfl, trivial⟩ ?_
  refine S.cond_false rfl ?_
  refine S.seq ?_
  refine S.region ?_
  refine SO.v rfl (opv_move rfl) ?_
  refine SO.v rfl (opv_nilCheck rfl) ?_
  refine SO.v rfl (opv_fieldAddr Try.underlying73 rfl Try.sizeOf71 rfl rfl) ?_
  refine SO.load1 rfl Try.isAgg71 rfl rfl ?_
  refine SO.v rfl (opv_eqlP Try.underlying71 rfl) ?_
  refine SO.v rfl (opv_assign rfl) ?_
  refine SO.nil ?_
  refine S.to (ρ' := [(0, bp bpm 0), (1, .int .i64 id), (4, .bool false), (5, bp bw 0), (49, .bool false)]) ⟨rfl, rfl, rfl, rfl, rfl, trivial⟩ ?_
  refine S.cond_false rfl ?_
  refine S.seq ?_
  refine S.region ?_
  refine SO.v rfl (opv_move rfl) ?_
  refine SO.v rfl (opv_nilCheck rfl) ?_
  refine SO.v rfl (opv_fieldAddr Try.underlying73 rfl Try.sizeOf71 rfl rfl) ?_
  refine SO.load1 rfl Try.isAgg71 rfl rfl ?_
  obtain ⟨x6, hx7, h⟩ := opt_bind h
  refine SO.b7 ?_
  refine SO.focusZ hbd hx7 ?_
  refine so_open_desc_Desc (fun g8_l => ?_)
  refine SO.b1 ?_
  refine SO.rd fun hr9 => ?_
  obtain ⟨t10, ht11, h⟩ := opt_bind h
  refine SO.b1 ?_
  refine SO.call (pre := [Box _ _, Own _ _ _ _]) rfl Try.call28 rfl rfl rfl (desc_Desc_Over.ct bd g8_l _ _ ht11) trivial ?_
  rintro _ _ ⟨rfl, rfl⟩
  refine SO.v rfl (opv_assign rfl) ?_
  refine SO.nil ?_
  refine S.to (ρ' := [(0, bp bpm 0), (4, .bool false), (5, bp bw 0), (59, .bool t10)]) ⟨rfl, rfl, rfl, rfl, trivial⟩ ?_
  rcases bool_or t10 with b12 | b12
  · replace h := cond_t b12 h
    refine S.condT rfl b12 ?_
    refine S.region ?_
    refine SO.v rfl (opv_move rfl) ?_
    refine SO.v rfl (opv_move rfl) ?_
    obtain ⟨⟨t13, t14, t15⟩, ht16, h⟩ := opt_bind h
    refine SO.b2 ?_
    refine SO.b2 ?_
    refine SO.b2 ?_
    refine so_close_desc_Desc (t := x6) ?_
    refine SO.unfocusZ0 hbd hx7 ?_
    refine SO.b4 ?_
    refine SO.b2 ?_
    refine SO.b5 ?_
    refine SO.b8 ?_
    refine SO.b7 ?_
    refine SO.b5 ?_
    refine SO.b8 ?_
    refine SO.b7 ?_
    refine SO.call (pre := [Box _ _, Own _ _ _ _, ZipR _ _ _, Own _ _ _ _, Box _ _, Own _ _ _ _, Box _ _, Own _ _ _ _]) rfl Try.call29 rfl rfl rfl (stm_Machine_end.ct zb bpm bps vl va vg vs sa dl el gl hle bw fv (.func (.func jf) #[] jcs.toArray) tv tl mi bd hbd told t13 t14 t15 ht16) trivial ?_
    rintro _ _ ⟨v17, v18, rfl, rfl⟩
    refine SO.b7 ?_
    refine SO.rd fun hr19 => ?_
    refine SO.nil ?_
    refine S.inBlock ?_
    refine S.seq ?_
    refine S.region ?_
    refine SO.v rfl (opv_assign rfl) ?_
    refine SO.nil ?_
    cases h
    refine S.b10 ?_
    refine S.drop ?_
    refine S.b11 ?_
    refine S.b11 ?_
    refine S.b10 ?_
    refine S.b3 ?_
    refine S.b10 ?_
    refine S.b10 ?_
    refine S.b10 ?_
    refine S.b10 ?_
    refine S.b10 ?_
    refine S.b10 ?_
    refine S.b11 ?_
    refine S.b11 ?_
    exact S.ret1 Try.func10 rfl rfl (fun w hs hk => hR w _ _ ⟨vg, vs, v17, v18, rfl, rfl⟩ hs hk)
  replace h := cond_f b12 h
  refine S.condF rfl b12 ?_
  refine S.region ?_
  refine SO.v rfl (opv_move rfl) ?_
  refine SO.v rfl (opv_move rfl) ?_
  refine SO.v rfl (opv_nilCheck rfl) ?_
  refine SO.v rfl (opv_fieldAddr Try.underlying73 rfl Try.sizeOf71 rfl rfl) ?_
  refine SO.b3 ?_
  refine SO.load1 rfl Try.isAgg71 rfl rfl ?_
  obtain ⟨t20, ht21, h⟩ := opt_bind h
  refine SO.b2 ?_
  refine SO.b2 ?_
  refine SO.call (pre := [Box _ _, Own _ _ _ _]) rfl Try.call31 rfl rfl rfl (desc_Desc_Mark.ct bd g8_l _ _ ht21) trivial ?_
  rintro _ _ ⟨rfl, rfl⟩
  obtain ⟨⟨t22, t23, t24⟩, ht25, h⟩ := opt_bind h
  refine SO.b3 ?_
  refine SO.b2 ?_
  refine SO.b2 ?_
  refine so_close_desc_Desc (t := x6) ?_
  refine SO.unfocusZ0 hbd hx7 ?_
  refine SO.b5 ?_
  refine SO.b8 ?_
  refine SO.b7 ?_
  refine SO.b3 ?_
  refine SO.b8 ?_
  refine SO.b6 ?_
  have ct31 := stm_Machine_advance.ct k zb bpm bps vl va vg vs sa dl el gl hle t20 t22 t23 t24 ht25
  try dsimp only at ct31
  refine SO.call (pre := [Box _ _, Own _ _ _ _, ZipR _ _ _, Own _ _ _ _, Box _ _, Own _ _ _ _]) rfl Try.call30 rfl rfl rfl ct31 trivial ?_
  rintro _ _ ⟨v26, v27, rfl, rfl⟩
  refine SO.b3 ?_
  refine SO.rd fun hr28 => ?_
  refine SO.b5 ?_
  refine SO.rd fun hr29 => ?_
  refine SO.b3 ?_
  refine SO.rd fun hr30 => ?_
  refine SO.nil ?_
  refine S.to (ρ' := [(4, .bool false)]) ⟨rfl, trivial⟩ ?_
  refine S.inBlock ?_
  refine S.seq ?_
  refine S.region ?_
  refine SO.v rfl (opv_assign rfl) ?_
  refine SO.nil ?_
  cases h
  refine S.b11 ?_
  refine S.b11 ?_
  refine S.b11 ?_
  refine S.b11 ?_
  refine S.b10 ?_
  refine S.b6 ?_
  refine S.b10 ?_
  refine S.b8 ?_
  refine S.b10 ?_
  refine S.b9 ?_
  refine S.b11 ?_
  refine S.b11 ?_
  exact S.ret1 Try.func10 rfl rfl (fun w hs hk => hR w _ _ ⟨v26, v27, tv, tl, rfl, rfl⟩ hs hk)
end Go.Proofs
set_option linter.unusedVariables false
namespace Go.Proofs
open Go.Sl Go.RowKit

/-! 10 (*padstone/stm.Machine).Step -/
set_option maxHeartbeats 8000000 in
set_option maxRecDepth 100000 in
theorem stm_Step_nil.ct (zb : List Nat) (bpm bps : Nat) (vl va vg vs : Value) (sa : word_Store) (dl : List desc_Desc) (el gl : List stm_Entry) (hle : zb.length = el.length) (ws : List Nat) (id : Int) (bw : Nat) (hbw : at_ ws id = some bw) (hin : stm_Machine_in.f ws id = some true) (tv dv tl : Value) (told : List Int) (ff : FuncId) (fcs : List Value) (FR : HProp) (hcf : ∀ (us : Array Value) (w : World), (callFunc ff us).run Try.prog w = .ok (.enter ff us) w) (hct : ∀ (v : Value) (t : List Int), slices_Clone_int_int.f told = some t → Ct Try.prog ff (v :: fcs) (fun F => Rd (ekI .i64) v t F) [FR] (fun u H' => H' = [IsNil u, FR])) (hn : stm_next_n.f told = some ())  :
    Ct Try.prog 10 [bp bpm 0, .int .i64 id] (fun _ => True) [Box bpm [bp bps 0, vl, va, vg], Own 68 ekP vl ws, Own 105 ekMd va (zb.zip el), ZipR rep_desc_Desc zb dl, Own 44 ek_stm_Entry vg gl, Box bps [vs, .int .u32 sa.limit], Own 88 ek_api_Cell vs sa.l, Box bw [.func (.func ff) #[] fcs.toArray, .nilFunc, tv, dv, tl], Own 3 (ekI .i64) tl told, FR] (fun u H' => u = .bool false ∧ H' = [Box bpm [bp bps 0, vl, va, vg], Own 68 ekP vl ws, Own 105 ekMd va (zb.zip el), ZipR rep_desc_Desc zb dl, Own 44 ek_stm_Entry vg gl, Box bps [vs, .int .u32 sa.limit], Own 88 ek_api_Cell vs sa.l, Box bw [.func (.func ff) #[] fcs.toArray, .nilFunc, tv, dv, tl], Own 3 (ekI .i64) tl told, FR]) := by
  refine Ct.intro (n := 68) Try.func10 rfl rfl rfl ?_
  intro R w0 F hF hR
  refine S.b1 ?_
  refine S.rd fun hr1 => ?_
  refine S.b2 ?_
  refine S.rd fun hr2 => ?_
  refine S.b4 ?_
  refine S.rd fun hr3 => ?_
  refine S.b6 ?_
  refine S.rd fun hr4 => ?_
  refine S.b8 ?_
  refine S.rd fun hr5 => ?_
  refine S.seq ?_
  refine S.region ?_
  refine SO.v rfl (opv_assign rfl) ?_
  refine SO.nil ?_
  refine S.seq ?_
  refine S.seq ?_
  refine S.region ?_
  refine SO.v rfl (opv_move rfl) ?_
  refine SO.v rfl (opv_move rfl) ?_
  refine SO.b4 ?_
  refine SO.b5 ?_
  refine SO.call (pre := [Box _ _, Own _ _ _ _]) rfl Try.call23 rfl rfl rfl (stm_Machine_in.ct bpm bps vl va vg ws id _ hin) trivial ?_
  rintro _ _ ⟨rfl, rfl⟩
  refine SO.v rfl (opv_not rfl) ?_
  refine SO.nil ?_
  refine S.cond_false rfl ?_
  refine S.skip ?_
  refine S.seq ?_
  refine S.region ?_
  refine SO.v rfl (opv_move rfl) ?_
  refine SO.v rfl (opv_nilCheck rfl) ?_
  refine SO.v rfl (opv_fieldAddr Try.underlying67 rfl Try.sizeOf64 rfl rfl) ?_
  refine SO.load1 rfl Try.isAgg64 rfl rfl ?_
  refine SO.v rfl (opv_move rfl) ?_
  refine SO.v rfl (opv_idx Try.underlying64 Try.sizeOf68 hr1 rfl rfl hbw) ?_
  refine SO.loadI1 (j := 0) rfl Try.isAgg68 (Rd.tail (Rd.head hr1)) hbw rfl rfl rfl rfl ?_
  refine SO.v rfl (opv_assign rfl) ?_
  refine SO.nil ?_
  refine S.to (ρ' := [(0, bp bpm 0), (1, .int .i64 id), (4, .bool false), (5, bp bw 0)]) ⟨rfl, rfl, rfl, rfl, trivial⟩ ?_
  refine S.seq ?_
  refine S.region ?_
  refine SO.v rfl (opv_move rfl) ?_
  refine SO.b9 ?_
  refine SO.b3 ?_
  refine SO.b9 ?_
  refine SO.call (pre := [Box _ _, Own _ _ _ _, FR]) rfl Try.call24 rfl rfl rfl (stm_next_n.ct bw tv dv tl told ff fcs FR (IsNil) hcf hct hn) trivial ?_
  rintro u6 _ rfl
  refine SO.b2 ?_
  refine SO.openNil fun hu7 => ?_
  subst hu7
  refine SO.b1 ?_
  refine SO.rd fun hr8 => ?_
  refine SO.v rfl (opv_assign rfl) ?_
  refine SO.nil ?_
  refine S.seq ?_
  refine S.block ?_
  refine S.seq ?_
  refine S.region ?_
  refine SO.v rfl (opv_move rfl) ?_
  refine SO.v rfl (opv_eqlFF Try.underlying69 rfl rfl) ?_
  refine SO.v rfl (opv_assign rfl) ?_
  refine SO.nil ?_
  refine S.cond_true rfl ?_
  refine S.seq ?_
  refine S.region ?_
  refine SO.v rfl (opv_assign rfl) ?_
  refine SO.nil ?_
  refine S.to (ρ' := [(4, .bool false)]) ⟨rfl, trivial⟩ ?_
  refine S.b10 ?_
  refine S.b3 ?_
  refine S.b2 ?_
  refine S.b3 ?_
  refine S.b6 ?_
  refine S.b10 ?_
  refine S.b8 ?_
  refine S.b10 ?_
  refine S.b10 ?_
  refine S.b10 ?_
  refine S.b10 ?_
  exact S.ret1 Try.func10 rfl rfl (fun w hs hk => hR w _ _ ⟨rfl, rfl⟩ hs hk)
end Go.Proofs
set_option linter.unusedVariables false
namespace Go.Proofs
open Go.Sl Go.RowKit

/-! 10 (*padstone/stm.Machine).Step -/
set_option maxHeartbeats 8000000 in
set_option maxRecDepth 100000 in
theorem stm_Step_out.ct (zb : List Nat) (bpm bps : Nat) (vl va vg vs : Value) (sa : word_Store) (dl : List desc_Desc) (el gl : List stm_Entry) (hle : zb.length = el.length) (ws : List Nat) (id : Int) (hin : stm_Machine_in.f ws id = some false)  :
    Ct Try.prog 10 [bp bpm 0, .int .i64 id] (fun _ => True) [Box bpm [bp bps 0, vl, va, vg], Own 68 ekP vl ws, Own 105 ekMd va (zb.zip el), ZipR rep_desc_Desc zb dl, Own 44 ek_stm_Entry vg gl, Box bps [vs, .int .u32 sa.limit], Own 88 ek_api_Cell vs sa.l] (fun u H' => u = .bool false ∧ H' = [Box bpm [bp bps 0, vl, va, vg], Own 68 ekP vl ws, Own 105 ekMd va (zb.zip el), ZipR rep_desc_Desc zb dl, Own 44 ek_stm_Entry vg gl, Box bps [vs, .int .u32 sa.limit], Own 88 ek_api_Cell vs sa.l]) := by
  refine Ct.intro (n := 68) Try.func10 rfl rfl rfl ?_
  intro R w0 F hF hR
  refine S.b1 ?_
  refine S.rd fun hr1 => ?_
  refine S.b2 ?_
  refine S.rd fun hr2 => ?_
  refine S.b4 ?_
  refine S.rd fun hr3 => ?_
  refine S.b6 ?_
  refine S.rd fun hr4 => ?_
  refine S.seq ?_
  refine S.region ?_
  refine SO.v rfl (opv_assign rfl) ?_
  refine SO.nil ?_
  refine S.seq ?_
  refine S.seq ?_
  refine S.region ?_
  refine SO.v rfl (opv_move rfl) ?_
  refine SO.v rfl (opv_move rfl) ?_
  refine SO.b3 ?_
  refine SO.b4 ?_
  refine SO.call (pre := [Box _ _, Own _ _ _ _]) rfl Try.call23 rfl rfl rfl (stm_Machine_in.ct bpm bps vl va vg ws id _ hin) trivial ?_
  rintro _ _ ⟨rfl, rfl⟩
  refine SO.v rfl (opv_not rfl) ?_
  refine SO.nil ?_
  refine S.cond_true rfl ?_
  refine S.seq ?_
  refine S.region ?_
  refine SO.v rfl (opv_assign rfl) ?_
  refine SO.nil ?_
  refine S.b7 ?_
  refine S.b3 ?_
  refine S.b7 ?_
  refine S.b5 ?_
  refine S.b7 ?_
  refine S.b7 ?_
  refine S.b7 ?_
  refine S.b7 ?_
  exact S.ret1 Try.func10 rfl rfl (fun w hs hk => hR w _ _ ⟨rfl, rfl⟩ hs hk)
end Go.Proofs
namespace Go.Proofs
open Go.Sl Go.RowKit
/-! 49 slices.Clone[[]padstone/tx.Entry,padstone/tx.Entry] -/
def slices_Clone_tx_Entry_tx_Entry.f (a0 : List tx_Entry) : Option (List tx_Entry) := app [] a0
set_option maxRecDepth 100000 in
theorem slices_Clone_tx_Entry_tx_Entry.ct (v0 : Value) (a0 : List tx_Entry) (r0 : List tx_Entry) (h : slices_Clone_tx_Entry_tx_Entry.f a0 = some r0) :
    Ct Try.prog 49 [v0] (fun F => Rd ek_tx_Entry v0 a0 F) [] (fun u H' => ∃ v_r0, u = v_r0 ∧ H' = [Own 114 ek_tx_Entry v_r0 r0]) := by
  unfold slices_Clone_tx_Entry_tx_Entry.f at h
  refine Ct.intro (n := 8) Try.func49 rfl rfl rfl ?_
  intro R w0 F hF0 hR
  obtain ⟨a, cap, ⟨hv, hcap⟩, hel⟩ := hF0
  have hF0 : Rd ek_tx_Entry v0 a0 F := ⟨a, cap, ⟨hv, hcap⟩, hel⟩
  have hv2 : ev (num 0 [v0]) (.tmp 0) = some (.slice a a0.length cap) := by rw [← hv]; rfl
  refine S.seq ?_
  refine S.region ?_
  refine SO.v rfl (opv_assign rfl) ?_
  refine SO.nil ?_
  refine S.seq ?_
  refine S.seq ?_
  refine S.region ?_
  refine SO.v rfl (opv_move rfl) ?_
  rw [show v0 = .slice a a0.length cap from hv]
  refine SO.v rfl (opv_eqlSN Try.underlying102 rfl) ?_
  rw [← hv]
  refine SO.nil ?_
  cases a with
  | none =>
    have h0 : a0 = [] := by
      cases a0 with
      | nil => rfl
      | cons x l => obtain ⟨b, off, hh, _⟩ := hel 0 x rfl; cases hh
    subst h0
    have hr : r0 = [] := by injection h with h; exact h.symm
    subst hr
    refine S.cond_true rfl ?_
    refine S.seq ?_
    refine S.region ?_
    refine SO.v rfl (opv_assign rfl) ?_
    refine SO.nil ?_
    refine S.newOwn 114 ek_tx_Entry ?_
    exact S.ret1 Try.func49 rfl rfl (fun w hs hk => hR w _ _ ⟨_, rfl, rfl⟩ hs hk)
  | some ad =>
    refine S.cond_false rfl ?_
    refine S.skip ?_
    refine S.seq ?_
    refine S.region ?_
    refine SO.buildSlice0 ek_tx_Entry rfl Try.underlying102 Try.sizeOf114 (fun v1 hr1 => ?_)
    refine SO.v rfl (opv_move rfl) ?_
    refine SO.append rfl Try.underlying102 Try.underlying102 inf114 rfl rfl rfl (by decide) rfl rfl rfl (Rd.head hF0) h (fun v2 => ?_)
    refine SO.v rfl (opv_assign rfl) ?_
    refine SO.nil ?_
    exact S.ret1 Try.func49 rfl rfl (fun w hs hk => hR w _ _ ⟨_, rfl, rfl⟩ hs hk)
end Go.Proofs
namespace Go.Proofs
open Go.Sl Go.RowKit
/-! 42 padstone/desc.New -/
def desc_New.f (a0 : Int) (a1 : List tx_Entry) : Option (desc_Desc) :=
  (slices_Clone_tx_Entry_tx_Entry.f a1).bind fun t1 => some (⟨a0, t1, 0, 0⟩ : desc_Desc)
set_option maxHeartbeats 8000000 in
set_option maxRecDepth 100000 in
theorem desc_New.ct (v1 : Value) (a0 : Int) (a1 : List tx_Entry) (r0 : desc_Desc) (h : desc_New.f a0 a1 = some r0) :
    Ct Try.prog 42 [.int .i64 a0, v1] (fun F => Rd ek_tx_Entry v1 a1 F) [] (fun u H' => ∃ b_r0 w_r0_l, u = bp b_r0 0 ∧ H' = [Box b_r0 [.int .i64 r0.mark, w_r0_l, .int .i64 r0.status, .int .i64 r0.at_], Own 114 ek_tx_Entry w_r0_l r0.l]) := by
  unfold desc_New.f at h
  refine Ct.intro (n := 10) Try.func42 rfl rfl rfl ?_
  intro R w0 F hF hR
  have hF1 := hF
  refine S.seq ?_
  refine S.region ?_
  refine SO.v rfl (opv_assign rfl) ?_
  refine SO.nil ?_
  refine S.seq ?_
  refine S.region ?_
  refine SO.v rfl (opv_move rfl) ?_
  refine SO.v rfl (opv_move rfl) ?_
  obtain ⟨t1, ht2, h⟩ := opt_bind h
  refine SO.call (pre := []) rfl Try.call49 rfl rfl rfl (slices_Clone_tx_Entry_tx_Entry.ct v1 _ _ ht2) (Rd.head hF1) ?_
  rintro v3 _ ⟨_, rfl, rfl⟩
  refine SO.rd fun hr4 => ?_
  have hB_ : ∀ (w : World) (u0_ : Value), u0_.oneCell' = true → (Instr.build 108 #[(0, .int .i64 a0), (1, u0_)]).run Try.prog w = .ok (.agg #[.int .i64 a0, u0_, .int .i64 0, .int .i64 0]) w := (by intro w u0_ hu0_; cases u0_ <;> first | (simp [Value.oneCell'] at hu0_; done) | kernel_rfl)
  refine SO.v rfl (opv_build (v := .agg #[.int .i64 a0, v3, .int .i64 0, .int .i64 0]) rfl (fun w => hB_ w v3 (Rd.one hr4))) ?_
  clear hB_
  refine SO.box rfl rfl rfl (fun b5 => ?_)
  refine SO.v rfl (opv_assign rfl) ?_
  refine SO.nil ?_
  refine S.to (ρ' := [(4, bp b5 0)]) ⟨rfl, trivial⟩ ?_
  cases h
  refine S.b2 ?_
  refine S.b2 ?_
  refine S.b2 ?_
  exact S.ret1 Try.func42 rfl rfl (fun w hs hk => hR w _ _ ⟨b5, v3, rfl, rfl⟩ hs hk)
end Go.Proofs
set_option linter.unusedVariables false
namespace Go.Proofs
open Go.Sl Go.RowKit

/-! 41 (*padstone/stm.Machine).run$1 -/
set_option maxHeartbeats 8000000 in
set_option maxRecDepth 100000 in
theorem stm_run_1.ct (V : VW Try.prog) (b5 b6 bw : Nat) (x0 a : Int) (fv tv dv tl : Value) (jf : FuncId) (jcs : List Value) (JX FR : HProp) (rdJ : HProp → Prop) (hmono : ∀ (l : List HProp) (F : HProp), rdJ F → rdJ (stars (l ++ [F]))) (hcj : ∀ (us : Array Value) (w : World), (callFunc jf us).run Try.prog w = .ok (.enter jf us) w) (s s' : V.S) (hj : Ct Try.prog jf (V.val :: jcs) rdJ [JX, FR, V.rep s] (fun u H' => u = .int .i64 a ∧ H' = [JX, FR, V.rep s']))  :
    Ct Try.prog 41 [V.val, bp b5 0, bp b6 0] (rdJ) [Box b5 [bp bw 0], Box b6 [.int .i64 x0], Box bw [fv, .func (.func jf) #[] jcs.toArray, tv, dv, tl], JX, FR, V.rep s] (fun u H' => u = .tuple #[] ∧ H' = [Box b5 [bp bw 0], Box b6 [.int .i64 a], Box bw [fv, .func (.func jf) #[] jcs.toArray, tv, dv, tl], JX, FR, V.rep s']) := by
  refine Ct.intro (n := 10) Try.func41 rfl rfl rfl ?_
  intro R w0 F hF hR
  refine S.region ?_
  refine SO.load1 rfl Try.isAgg68 rfl rfl ?_
  refine SO.v rfl (opv_nilCheck rfl) ?_
  refine SO.v rfl (opv_fieldAddr Try.underlying73 rfl Try.sizeOf69 rfl rfl) ?_
  refine SO.b2 ?_
  refine SO.load1 rfl Try.isAgg69 rfl rfl ?_
  refine SO.v rfl (opv_move rfl) ?_
  refine SO.b5 ?_
  refine SO.b5 ?_
  refine SO.b5 ?_
  refine SO.call (pre := [JX, FR, V.rep s]) rfl hcj rfl rfl rfl hj (hmono [_, _, _] F hF) ?_
  rintro _ _ ⟨rfl, rfl⟩
  refine SO.b5 ?_
  refine SO.store1 Try.sizeOf3 rfl rfl rfl rfl ?_
  refine SO.nil ?_
  refine S.to (ρ' := []) trivial ?_
  refine S.b6 ?_
  refine S.b4 ?_
  refine S.b4 ?_
  refine S.b4 ?_
  refine S.b5 ?_
  refine S.b5 ?_
  refine S.b6 ?_
  exact S.fin0 Try.func41 rfl (fun w hs hk => hR w _ _ ⟨rfl, rfl⟩ hs hk)
end Go.Proofs
