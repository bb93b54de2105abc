/- What the functions that DescSteps reaches come to, and that they do. On no condition. -/
import Derived.Test.YtlglafdeponjmaaFnDescSteps0
import Derived.Test.YtlglafdeponjmaaFnDescSteps1
set_option linter.all false
namespace Go.Proofs
open Go.Sl Go.RowKit
/-! 10 (*padstone/padstoneref07.Desc).Step -/
def ref07_Desc_Step.f (a0 : ref07_Desc) (a1 : ref01_Store) : Option ((Int × ref07_Desc × ref01_Store)) :=
  (ref07_Desc_Over.f a0).bind fun t3 => bif t3 then (some (0, a0, a1)) else (bif decide (0 < a0.Status) then ((at_ a0.L a0.At).bind fun x7 => (bif decide (x7.Cell < 0) then (some true) else (some (decide ((a1.L.length : Int) ≤ x7.Cell)))).bind fun j48_1 => bif j48_1 then (some (0, ({ a0 with At := w64 (a0.At + 1) } : ref07_Desc), a1)) else ((at_ a1.L x7.Cell).bind fun x12 => bif x12.Mark != a0.Mark then (some (0, ({ a0 with At := w64 (a0.At + 1) } : ref07_Desc), a1)) else ((bif a0.Status == 1 then (some x7.Write) else (some false)).bind fun c16 => (bif c16 then ((ref01_Store_Put.f a1 x7.Cell a0.Mark x7.New).bind fun (t19, p20) => some (p20.L, p20.Limit)) else ((ref01_Store_Release.f a1 x7.Cell a0.Mark).bind fun (t25, p26) => some (p26.L, p26.Limit))).bind fun (yp1_0_2, yp1_1_2) => some (0, ({ a0 with At := w64 (a0.At + 1) } : ref07_Desc), (⟨yp1_0_2, yp1_1_2⟩ : ref01_Store))))) else (bif a0.At == (a0.L.length : Int) then (some (0, ({ a0 with Status := 1, At := 0 } : ref07_Desc), a1)) else ((at_ a0.L a0.At).bind fun x33 => (bif decide (x33.Cell < 0) then (some true) else (some (decide ((a1.L.length : Int) ≤ x33.Cell)))).bind fun j8_3 => (((bif !j8_3 then ((at_ a1.L x33.Cell).bind fun x38 => (bif x38.Mark != 0 then (some (x38.Mark != a0.Mark)) else (some false)).bind fun j150_5 => bif j150_5 then (some (Brk.ret (x38.Mark, a0, a1))) else ((bif !(x38.Version != x33.Version) then (bif x33.Write then (some (x38.Version == a1.Limit)) else (some false)) else (some false)).bind fun j172_6 => bif j172_6 then (some (Brk.ret (0, ({ a0 with Status := 3, At := 0 } : ref07_Desc), a1))) else (some (Brk.nx (x38.Version != x33.Version))))) else (some (Brk.nx j8_3))) : Option (Brk (Int × ref07_Desc × ref01_Store) Bool))).bind fun o4 => Brk.go o4 (fun r => some r) (fun j8_4 => (bif !j8_4 then ((ref01_Store_Reserve.f a1 x33.Cell x33.Version a0.Mark).bind fun (t47, p48) => some (t47 != 0, p48.L, p48.Limit)) else (some (j8_4, a1.L, a1.Limit))).bind fun (j8_7, yp1_0_7, yp1_1_7) => bif j8_7 then (some (0, ({ a0 with Status := 2, At := 0 } : ref07_Desc), (⟨yp1_0_7, yp1_1_7⟩ : ref01_Store))) else (some (0, ({ a0 with At := w64 (a0.At + 1) } : ref07_Desc), (⟨yp1_0_7, yp1_1_7⟩ : ref01_Store)))))))
set_option maxHeartbeats 8000000 in
set_option maxRecDepth 100000 in
theorem ref07_Desc_Step.ct (bp0 : Nat) (v0_L : Value) (bp1 : Nat) (v1_L : Value) (a0 : ref07_Desc) (a1 : ref01_Store) (r0 : Int) (rp0 : ref07_Desc) (rp1 : ref01_Store) (h : ref07_Desc_Step.f a0 a1 = some (r0, rp0, rp1)) :
    Ct Try.prog 10 [bp bp0 0, bp bp1 0] (fun _ => True) [Box bp0 [.int .i64 a0.Mark, v0_L, .int .i64 a0.Status, .int .i64 a0.At], Own 66 ek_ref07_Entry v0_L a0.L, Box bp1 [v1_L, .int .u32 a1.Limit], Own 55 ek_api_Cell v1_L a1.L] (fun u H' => ∃ rw0_L rw1_L, u = .int .i64 r0 ∧ H' = [Box bp0 [.int .i64 rp0.Mark, rw0_L, .int .i64 rp0.Status, .int .i64 rp0.At], Own 66 ek_ref07_Entry rw0_L rp0.L, Box bp1 [rw1_L, .int .u32 rp1.Limit], Own 55 ek_api_Cell rw1_L rp1.L]) := by
  unfold ref07_Desc_Step.f at h
  refine Ct.intro (n := 207) Try.func10 rfl rfl rfl ?_
  intro R w0 F hF hR
  refine S.b1 ?_
  refine S.rd fun hr1 => ?_
  refine S.b3 ?_
  refine S.rd fun hr2 => ?_
  refine S.seq ?_
  refine S.region ?_
  refine SO.v rfl (opv_assign rfl) ?_
  refine SO.nil ?_
  refine S.seq ?_
  refine S.region ?_
  refine SO.v rfl (opv_move rfl) ?_
  obtain ⟨t3, ht4, h⟩ := opt_bind h
  refine SO.b1 ?_
  refine SO.b2 ?_
  refine SO.call (pre := [Box _ _, Own _ _ _ _]) rfl Try.call13 rfl rfl rfl (ref07_Desc_Over.ct bp0 v0_L _ _ ht4) trivial ?_
  rintro _ _ ⟨rfl, rfl⟩
  refine SO.v rfl (opv_assign rfl) ?_
  refine SO.nil ?_
  refine S.seq ?_
  refine S.seq ?_
  refine S.region ?_
  refine SO.v rfl (opv_move rfl) ?_
  refine SO.nil ?_
  rcases bool_or t3 with b5 | b5
  · replace h := cond_t b5 h
    refine S.condT rfl b5 ?_
    refine S.seq ?_
    refine S.region ?_
    refine SO.v rfl (opv_assign rfl) ?_
    refine SO.nil ?_
    cases h
    refine S.b4 ?_
    refine S.b3 ?_
    refine S.b4 ?_
    refine S.b4 ?_
    refine S.b4 ?_
    exact S.ret1 Try.func10 rfl rfl (fun w hs hk => hR w _ _ ⟨v0_L, v1_L, rfl, rfl⟩ hs hk)
  replace h := cond_f b5 h
  refine S.condF rfl b5 ?_
  refine S.skip ?_
  refine S.seq ?_
  refine S.seq ?_
  refine S.region ?_
  refine SO.v rfl (opv_move rfl) ?_
  refine SO.v rfl (opv_nilCheck rfl) ?_
  refine SO.v rfl (opv_fieldAddr Try.underlying44 rfl Try.sizeOf3 rfl rfl) ?_
  refine SO.load1 rfl Try.isAgg3 rfl rfl ?_
  refine SO.v rfl (opv_gtr rfl rfl) ?_
  refine SO.nil ?_
  refine S.to (ρ' := [(0, bp bp0 0), (1, bp bp1 0), (4, .int .i64 0), (17, .bool (decide (0 < a0.Status)))]) ⟨rfl, rfl, rfl, rfl, trivial⟩ ?_
  rcases bool_or (decide (0 < a0.Status)) with b6 | b6
  · replace h := cond_t b6 h
    refine S.condT rfl b6 ?_
    refine S.seq ?_
    obtain ⟨x7, hx8, h⟩ := opt_bind h
    refine S.draw2 (Y := fun Q => ∃ (_ _ _ _ _ _ _ : Unit), Q [(0, bp bp0 0), (1, bp bp1 0), (4, .int .i64 0)] [Box bp0 [.int .i64 a0.Mark, v0_L, .int .i64 a0.Status, .int .i64 a0.At], Own 66 ek_ref07_Entry v0_L a0.L, Own 55 ek_api_Cell v1_L a1.L, Box bp1 [v1_L, .int .u32 a1.Limit], F]) (Z := fun Q => ∀ (_ _ : Unit) (b9 : Nat) (_ _ _ _ _ : Unit), Q [(0, bp bp0 0), (1, bp bp1 0), (4, .int .i64 0), (6, bp b9 0)] [Box b9 [.int .i64 x7.Cell, .int .u32 x7.Version, .int .u64 x7.New, .bool x7.Write], Box bp0 [.int .i64 a0.Mark, v0_L, .int .i64 a0.Status, .int .i64 a0.At], Own 66 ek_ref07_Entry v0_L a0.L, Own 55 ek_api_Cell v1_L a1.L, Box bp1 [v1_L, .int .u32 a1.Limit], F]) (T := [tS 0 (bp bp0 0), tE [(1, bp bp1 0), (4, .int .i64 0)], tR (Box bp0 [.int .i64 a0.Mark, v0_L, .int .i64 a0.Status, .int .i64 a0.At]), tR (Own 66 ek_ref07_Entry v0_L a0.L), tR (Own 55 ek_api_Cell v1_L a1.L), tR (Box bp1 [v1_L, .int .u32 a1.Limit]), tR (F), tS 18 (bp bp0 0), tS 19 (bp bp0 0), tS 20 (bp bp0 1), tS 21 (v0_L), tS 22 (bp bp0 0), tS 23 (bp bp0 0), tS 24 (bp bp0 3), tS 25 (.int .i64 a0.At), tS 26 (idxp v0_L (a0.At.toNat * ek_ref07_Entry.sz)), tS 27 (.agg #[.int .i64 x7.Cell, .int .u32 x7.Version, .int .u64 x7.New, .bool x7.Write]), ⟨Nat, [6], (fun b9 => [(6, bp b9 0)]), (fun b9 => [Box b9 [.int .i64 0, .int .u32 0, .int .u64 0, .bool false]]), fun _ => rfl⟩, ⟨Nat, [6], (fun b9 => [(6, bp b9 0)]), (fun b9 => [Box b9 [.int .i64 x7.Cell, .int .u32 x7.Version, .int .u64 x7.New, .bool x7.Write]]), fun _ => rfl⟩]) (D := [⟨[0], [], [7]⟩, ⟨[7], [], [8]⟩, ⟨[8], [], [9]⟩, ⟨[9, 2], [], [10]⟩, ⟨[0], [], [11]⟩, ⟨[11], [], [12]⟩, ⟨[12], [], [13]⟩, ⟨[13, 2], [], [14]⟩, ⟨[10, 14, 3], [], [15]⟩, ⟨[15, 3], [], [16]⟩, ⟨[], [], [17]⟩, ⟨[16], [17], [18]⟩]) (ini := [0, 1, 2, 3, 4, 5, 6]) (fin := [0, 1, 18, 2, 3, 4, 5, 6]) (bf := [[], [0], [0, 1], [0, 1, 2], [], [4], [4, 5], [4, 5, 6], [0, 1, 2, 3, 4, 5, 6, 7], [0, 1, 2, 3, 4, 5, 6, 7, 8], [], [0, 1, 2, 3, 4, 5, 6, 7, 8, 9, 10]]) (by kernel_rfl) (by kernel_rfl) (fun Q => by kernel_rfl) (fun x w h1 h2 => ⟨(), (), (), (), (), (), (), EnvAll.of h1 ⟨rfl, rfl, rfl, trivial⟩, h2⟩) (fun Q => by kernel_rfl) ⟨?_, ?_, ?_, ?_, ?_, ?_, ?_, ?_, ?_, ?_, ?_, ?_, trivial⟩ ?_
    · rintro Fr _
      refine SO.v rfl (opv_move rfl) ?_
      exact SO.nilZ fun a w h1 h2 h3 h4 h5 => PZ.of h1 h3 h5 (.cons () (.cons () (.nil ⟨EnvAll.of h2 ⟨rfl, rfl, trivial⟩, h4⟩)))
    · rintro Fr _
      refine SO.v rfl (opv_nilCheck rfl) ?_
      exact SO.nilZ fun a w h1 h2 h3 h4 h5 => PZ.of h1 h3 h5 (.cons () (.cons () (.nil ⟨EnvAll.of h2 ⟨rfl, rfl, trivial⟩, h4⟩)))
    · rintro Fr _
      refine SO.v rfl (opv_fieldAddr Try.underlying44 rfl Try.sizeOf41 rfl rfl) ?_
      exact SO.nilZ fun a w h1 h2 h3 h4 h5 => PZ.of h1 h3 h5 (.cons () (.cons () (.nil ⟨EnvAll.of h2 ⟨rfl, rfl, trivial⟩, h4⟩)))
    · rintro Fr _ _
      refine SO.load1 rfl Try.isAgg41 rfl rfl ?_
      exact SO.nilZ fun a w h1 h2 h3 h4 h5 => PZ.of h1 h3 h5 (.cons () (.cons () (.cons () (.nil ⟨EnvAll.of h2 ⟨rfl, rfl, trivial⟩, h4⟩))))
    · rintro Fr _
      refine SO.v rfl (opv_move rfl) ?_
      exact SO.nilZ fun a w h1 h2 h3 h4 h5 => PZ.of h1 h3 h5 (.cons () (.cons () (.nil ⟨EnvAll.of h2 ⟨rfl, rfl, trivial⟩, h4⟩)))
    · rintro Fr _
      refine SO.v rfl (opv_nilCheck rfl) ?_
      exact SO.nilZ fun a w h1 h2 h3 h4 h5 => PZ.of h1 h3 h5 (.cons () (.cons () (.nil ⟨EnvAll.of h2 ⟨rfl, rfl, trivial⟩, h4⟩)))
    · rintro Fr _
      refine SO.v rfl (opv_fieldAddr Try.underlying44 rfl Try.sizeOf3 rfl rfl) ?_
      exact SO.nilZ fun a w h1 h2 h3 h4 h5 => PZ.of h1 h3 h5 (.cons () (.cons () (.nil ⟨EnvAll.of h2 ⟨rfl, rfl, trivial⟩, h4⟩)))
    · rintro Fr _ _
      refine SO.load1 rfl Try.isAgg3 rfl rfl ?_
      exact SO.nilZ fun a w h1 h2 h3 h4 h5 => PZ.of h1 h3 h5 (.cons () (.cons () (.cons () (.nil ⟨EnvAll.of h2 ⟨rfl, rfl, trivial⟩, h4⟩))))
    · rintro Fr _ _ _
      refine SO.v rfl (opv_idx Try.underlying41 Try.sizeOf66 hr1 rfl rfl hx8) ?_
      exact SO.nilZ fun a w h1 h2 h3 h4 h5 => PZ.of h1 h3 h5 (.cons () (.cons () (.cons () (.cons () (.nil ⟨EnvAll.of h2 ⟨rfl, rfl, rfl, trivial⟩, h4⟩)))))
    · rintro Fr _ _
      refine SO.loadIN rfl Try.isAgg66 Try.sizeOf66 (Rd.head hr1) hx8 rfl rfl rfl ?_
      exact SO.nilZ fun a w h1 h2 h3 h4 h5 => PZ.of h1 h3 h5 (.cons () (.cons () (.cons () (.nil ⟨EnvAll.of h2 ⟨rfl, rfl, trivial⟩, h4⟩))))
    · rintro Fr 
      refine SO.alloc rfl Try.zeroValue66 rfl (fun b9 => ?_)
      exact SO.nilZ fun a w h1 h2 h3 h4 h5 => PZ.of h1 h3 h5 (.cons b9 (.nil ⟨EnvAll.of h2 ⟨rfl, trivial⟩, h4⟩))
    · rintro Fr _ b9
      refine SO.storeN Try.sizeOf66 rfl rfl rfl rfl rfl rfl ?_
      exact SO.nilZ fun a w h1 h2 h3 h4 h5 => PZ.of h1 h3 h5 (.cons () (.cons b9 (.nil ⟨EnvAll.of h2 ⟨rfl, rfl, trivial⟩, h4⟩)))
    rintro _ _ b9 _ _ _ _ _
    refine S.to (ρ' := [(0, bp bp0 0), (1, bp bp1 0), (4, .int .i64 0), (6, bp b9 0)]) ⟨rfl, rfl, rfl, rfl, trivial⟩ ?_
    refine S.seq ?_
    refine S.region ?_
    refine SO.v rfl (opv_move rfl) ?_
    refine SO.v rfl (opv_move rfl) ?_
    refine SO.v rfl (opv_nilCheck rfl) ?_
    refine SO.v rfl (opv_fieldAddr Try.underlying44 rfl Try.sizeOf3 rfl rfl) ?_
    refine SO.b1 ?_
    refine SO.load1 rfl Try.isAgg3 rfl rfl ?_
    refine SO.v rfl (opv_add rfl rfl) ?_
    refine SO.v rfl (opv_nilCheck rfl) ?_
    refine SO.v rfl (opv_fieldAddr Try.underlying44 rfl Try.sizeOf3 rfl rfl) ?_
    refine SO.store1 Try.sizeOf3 rfl rfl rfl rfl ?_
    refine SO.nil ?_
    refine S.to (ρ' := [(0, bp bp0 0), (1, bp bp1 0), (4, .int .i64 0), (6, bp b9 0)]) ⟨rfl, rfl, rfl, rfl, trivial⟩ ?_
    refine S.seq ?_
    refine S.seq ?_
    obtain ⟨j48_1, hC1, hJ1⟩ := opt_bind h
    clear h
    refine S.cutP (G := Unit) (fun _ => True) (fun _ => [(0, bp bp0 0), (1, bp bp1 0), (4, .int .i64 0), (6, bp b9 0), (48, .bool j48_1)]) (fun _ => [Box bp0 [.int .i64 a0.Mark, v0_L, .int .i64 a0.Status, .int .i64 (w64 (a0.At + 1))], Box b9 [.int .i64 x7.Cell, .int .u32 x7.Version, .int .u64 x7.New, .bool x7.Write], Own 66 ek_ref07_Entry v0_L a0.L, Own 55 ek_api_Cell v1_L a1.L, Box bp1 [v1_L, .int .u32 a1.Limit], F]) (fun hk1 => ?_) ?_
    · replace h := hC1
      rcases bool_or (decide (x7.Cell < 0)) with b10 | b10
      · replace h := cond_t b10 h
        refine S.draw2 (Y := fun Q => ∃ (_ _ _ _ _ _ _ _ _ : Unit), Q [(6, bp b9 0), (1, bp bp1 0), (0, bp bp0 0), (4, .int .i64 0)] [Box bp0 [.int .i64 a0.Mark, v0_L, .int .i64 a0.Status, .int .i64 (w64 (a0.At + 1))], Box b9 [.int .i64 x7.Cell, .int .u32 x7.Version, .int .u64 x7.New, .bool x7.Write], Own 66 ek_ref07_Entry v0_L a0.L, Own 55 ek_api_Cell v1_L a1.L, Box bp1 [v1_L, .int .u32 a1.Limit], F]) (Z := fun Q => ∀ (_ _ _ _ _ _ _ _ _ _ : Unit), Q [(0, bp bp0 0), (4, .int .i64 0), (1, bp bp1 0), (6, bp b9 0), (48, .bool true)] [Box bp0 [.int .i64 a0.Mark, v0_L, .int .i64 a0.Status, .int .i64 (w64 (a0.At + 1))], Box b9 [.int .i64 x7.Cell, .int .u32 x7.Version, .int .u64 x7.New, .bool x7.Write], Own 66 ek_ref07_Entry v0_L a0.L, Own 55 ek_api_Cell v1_L a1.L, Box bp1 [v1_L, .int .u32 a1.Limit], F]) (T := [tS 6 (bp b9 0), tS 1 (bp bp1 0), tE [(0, bp bp0 0), (4, .int .i64 0)], tR (Box bp0 [.int .i64 a0.Mark, v0_L, .int .i64 a0.Status, .int .i64 (w64 (a0.At + 1))]), tR (Box b9 [.int .i64 x7.Cell, .int .u32 x7.Version, .int .u64 x7.New, .bool x7.Write]), tR (Own 66 ek_ref07_Entry v0_L a0.L), tR (Own 55 ek_api_Cell v1_L a1.L), tR (Box bp1 [v1_L, .int .u32 a1.Limit]), tR (F), tS 36 (bp b9 0), tS 37 (.int .i64 x7.Cell), tS 38 (.bool (decide (x7.Cell < 0))), tS 39 (.bool (decide (x7.Cell < 0))), tS 40 (undef), tS 41 (undef), tS 42 (undef), tS 43 (undef), tS 44 (undef), tS 45 (undef), tS 46 (undef), tS 47 (undef), tS 48 (.bool true)]) (D := [⟨[0], [], [9]⟩, ⟨[9, 4], [], [10]⟩, ⟨[10], [], [11]⟩, ⟨[11], [], [12]⟩, ⟨[12], [], [13]⟩, ⟨[12], [], [14]⟩, ⟨[12], [], [15]⟩, ⟨[12], [], [16]⟩, ⟨[12], [], [17]⟩, ⟨[12], [], [18]⟩, ⟨[12], [], [19]⟩, ⟨[12], [], [20]⟩, ⟨[12, 20], [], [21]⟩]) (ini := [0, 1, 2, 3, 4, 5, 6, 7, 8]) (fin := [2, 1, 0, 21, 3, 4, 5, 6, 7, 8]) (bf := [[], [0], [0, 1], [0, 1, 2], [0, 1, 2, 3], [0, 1, 2, 3, 4], [0, 1, 2, 3], [0, 1, 2, 3, 6], [0, 1, 2, 3, 6, 7], [0, 1, 2, 3, 6, 7, 8], [0, 1, 2, 3, 6, 7, 8, 9], [0, 1, 2, 3, 4, 5, 6, 7, 8, 9, 10], [0, 1, 2, 3, 4, 5, 6, 7, 8, 9, 10, 11]]) (by kernel_rfl) (by kernel_rfl) (fun Q => by kernel_rfl) (fun x w h1 h2 => ⟨(), (), (), (), (), (), (), (), (), EnvAll.of h1 ⟨rfl, rfl, rfl, rfl, trivial⟩, h2⟩) (fun Q => by kernel_rfl) ⟨?_, ?_, ?_, ?_, ?_, ?_, ?_, ?_, ?_, ?_, ?_, ?_, ?_, trivial⟩ ?_
        · rintro Fr _
          refine SO.v rfl (opv_fieldAddr Try.underlying66 rfl Try.sizeOf3 rfl rfl) ?_
          exact SO.nilZ fun a w h1 h2 h3 h4 h5 => PZ.of h1 h3 h5 (.cons () (.cons () (.nil ⟨EnvAll.of h2 ⟨rfl, rfl, trivial⟩, h4⟩)))
        · rintro Fr _ _
          refine SO.load1 rfl Try.isAgg3 rfl rfl ?_
          exact SO.nilZ fun a w h1 h2 h3 h4 h5 => PZ.of h1 h3 h5 (.cons () (.cons () (.cons () (.nil ⟨EnvAll.of h2 ⟨rfl, rfl, trivial⟩, h4⟩))))
        · rintro Fr _
          refine SO.v rfl (opv_lss rfl rfl) ?_
          exact SO.nilZ fun a w h1 h2 h3 h4 h5 => PZ.of h1 h3 h5 (.cons () (.cons () (.nil ⟨EnvAll.of h2 ⟨rfl, rfl, trivial⟩, h4⟩)))
        · rintro Fr _
          refine SO.v rfl (opv_move rfl) ?_
          exact SO.nilZ fun a w h1 h2 h3 h4 h5 => PZ.of h1 h3 h5 (.cons () (.cons () (.nil ⟨EnvAll.of h2 ⟨rfl, rfl, trivial⟩, h4⟩)))
        · rintro Fr _
          refine SO.passF rfl rfl rfl b10 rfl rfl ?_
          exact SO.nilZ fun a w h1 h2 h3 h4 h5 => PZ.of h1 h3 h5 (.cons () (.cons () (.nil ⟨EnvAll.of h2 ⟨rfl, rfl, trivial⟩, h4⟩)))
        · rintro Fr _
          refine SO.passF rfl rfl rfl b10 rfl rfl ?_
          exact SO.nilZ fun a w h1 h2 h3 h4 h5 => PZ.of h1 h3 h5 (.cons () (.cons () (.nil ⟨EnvAll.of h2 ⟨rfl, rfl, trivial⟩, h4⟩)))
        · rintro Fr _
          refine SO.passF rfl rfl rfl b10 rfl rfl ?_
          exact SO.nilZ fun a w h1 h2 h3 h4 h5 => PZ.of h1 h3 h5 (.cons () (.cons () (.nil ⟨EnvAll.of h2 ⟨rfl, rfl, trivial⟩, h4⟩)))
        · rintro Fr _
          refine SO.passF rfl rfl rfl b10 rfl rfl ?_
          exact SO.nilZ fun a w h1 h2 h3 h4 h5 => PZ.of h1 h3 h5 (.cons () (.cons () (.nil ⟨EnvAll.of h2 ⟨rfl, rfl, trivial⟩, h4⟩)))
        · rintro Fr _
          refine SO.passF rfl rfl rfl b10 rfl rfl ?_
          exact SO.nilZ fun a w h1 h2 h3 h4 h5 => PZ.of h1 h3 h5 (.cons () (.cons () (.nil ⟨EnvAll.of h2 ⟨rfl, rfl, trivial⟩, h4⟩)))
        · rintro Fr _
          refine SO.passF rfl rfl rfl b10 rfl rfl ?_
          exact SO.nilZ fun a w h1 h2 h3 h4 h5 => PZ.of h1 h3 h5 (.cons () (.cons () (.nil ⟨EnvAll.of h2 ⟨rfl, rfl, trivial⟩, h4⟩)))
        · rintro Fr _
          refine SO.passF rfl rfl rfl b10 rfl rfl ?_
          exact SO.nilZ fun a w h1 h2 h3 h4 h5 => PZ.of h1 h3 h5 (.cons () (.cons () (.nil ⟨EnvAll.of h2 ⟨rfl, rfl, trivial⟩, h4⟩)))
        · rintro Fr _
          refine SO.passF rfl rfl rfl b10 rfl rfl ?_
          exact SO.nilZ fun a w h1 h2 h3 h4 h5 => PZ.of h1 h3 h5 (.cons () (.cons () (.nil ⟨EnvAll.of h2 ⟨rfl, rfl, trivial⟩, h4⟩)))
        · rintro Fr _ _
          refine SO.v rfl (opv_pick_t' b10 rfl rfl) ?_
          exact SO.nilZ fun a w h1 h2 h3 h4 h5 => PZ.of h1 h3 h5 (.cons () (.cons () (.cons () (.nil ⟨EnvAll.of h2 ⟨rfl, rfl, rfl, trivial⟩, h4⟩))))
        rintro _ _ _ _ _ _ _ _ _ _
        refine S.to (ρ' := [(0, bp bp0 0), (4, .int .i64 0), (1, bp bp1 0), (6, bp b9 0), (48, .bool true)]) ⟨rfl, rfl, rfl, rfl, rfl, trivial⟩ ?_
        cases h
        refine S.b5 ?_
        refine S.b5 ?_
        refine S.b5 ?_
        refine S.b5 ?_
        refine S.b5 ?_
        refine S.b5 ?_
        refine S.to ?_ (hk1 () trivial)
        exact ⟨rfl, rfl, rfl, rfl, rfl, trivial⟩
      replace h := cond_f b10 h
      refine S.draw2 (Y := fun Q => ∃ (_ _ _ _ _ _ _ _ _ : Unit), Q [(6, bp b9 0), (1, bp bp1 0), (0, bp bp0 0), (4, .int .i64 0)] [Box bp0 [.int .i64 a0.Mark, v0_L, .int .i64 a0.Status, .int .i64 (w64 (a0.At + 1))], Box b9 [.int .i64 x7.Cell, .int .u32 x7.Version, .int .u64 x7.New, .bool x7.Write], Own 66 ek_ref07_Entry v0_L a0.L, Own 55 ek_api_Cell v1_L a1.L, Box bp1 [v1_L, .int .u32 a1.Limit], F]) (Z := fun Q => ∀ (_ _ _ _ _ _ _ _ _ _ : Unit), Q [(0, bp bp0 0), (4, .int .i64 0), (1, bp bp1 0), (6, bp b9 0), (48, .bool (decide ((a1.L.length : Int) ≤ x7.Cell)))] [Box bp0 [.int .i64 a0.Mark, v0_L, .int .i64 a0.Status, .int .i64 (w64 (a0.At + 1))], Box b9 [.int .i64 x7.Cell, .int .u32 x7.Version, .int .u64 x7.New, .bool x7.Write], Own 66 ek_ref07_Entry v0_L a0.L, Own 55 ek_api_Cell v1_L a1.L, Box bp1 [v1_L, .int .u32 a1.Limit], F]) (T := [tS 6 (bp b9 0), tS 1 (bp bp1 0), tE [(0, bp bp0 0), (4, .int .i64 0)], tR (Box bp0 [.int .i64 a0.Mark, v0_L, .int .i64 a0.Status, .int .i64 (w64 (a0.At + 1))]), tR (Box b9 [.int .i64 x7.Cell, .int .u32 x7.Version, .int .u64 x7.New, .bool x7.Write]), tR (Own 66 ek_ref07_Entry v0_L a0.L), tR (Own 55 ek_api_Cell v1_L a1.L), tR (Box bp1 [v1_L, .int .u32 a1.Limit]), tR (F), tS 36 (bp b9 0), tS 37 (.int .i64 x7.Cell), tS 38 (.bool (decide (x7.Cell < 0))), tS 39 (.bool (decide (x7.Cell < 0))), tS 40 (bp b9 0), tS 41 (.int .i64 x7.Cell), tS 42 (bp bp1 0), tS 43 (bp bp1 0), tS 44 (bp bp1 0), tS 45 (v1_L), tS 46 (.int .i64 (a1.L.length : Int)), tS 47 (.bool (decide ((a1.L.length : Int) ≤ x7.Cell))), tS 48 (.bool (decide ((a1.L.length : Int) ≤ x7.Cell)))]) (D := [⟨[0], [], [9]⟩, ⟨[9, 4], [], [10]⟩, ⟨[10], [], [11]⟩, ⟨[11], [], [12]⟩, ⟨[0, 12], [], [13]⟩, ⟨[12, 13, 4], [], [14]⟩, ⟨[1, 12], [], [15]⟩, ⟨[12, 15], [], [16]⟩, ⟨[12, 16], [], [17]⟩, ⟨[12, 17, 7], [], [18]⟩, ⟨[12, 18, 6], [], [19]⟩, ⟨[12, 14, 19], [], [20]⟩, ⟨[12, 20], [], [21]⟩]) (ini := [0, 1, 2, 3, 4, 5, 6, 7, 8]) (fin := [2, 1, 0, 21, 3, 4, 5, 6, 7, 8]) (bf := [[], [0], [0, 1], [0, 1, 2], [0, 1, 2, 3], [0, 1, 2, 3, 4], [0, 1, 2, 3], [0, 1, 2, 3, 6], [0, 1, 2, 3, 6, 7], [0, 1, 2, 3, 6, 7, 8], [0, 1, 2, 3, 6, 7, 8, 9], [0, 1, 2, 3, 4, 5, 6, 7, 8, 9, 10], [0, 1, 2, 3, 4, 5, 6, 7, 8, 9, 10, 11]]) (by kernel_rfl) (by kernel_rfl) (fun Q => by kernel_rfl) (fun x w h1 h2 => ⟨(), (), (), (), (), (), (), (), (), EnvAll.of h1 ⟨rfl, rfl, rfl, rfl, trivial⟩, h2⟩) (fun Q => by kernel_rfl) ⟨?_, ?_, ?_, ?_, ?_, ?_, ?_, ?_, ?_, ?_, ?_, ?_, ?_, trivial⟩ ?_
      · rintro Fr _
        refine SO.v rfl (opv_fieldAddr Try.underlying66 rfl Try.sizeOf3 rfl rfl) ?_
        exact SO.nilZ fun a w h1 h2 h3 h4 h5 => PZ.of h1 h3 h5 (.cons () (.cons () (.nil ⟨EnvAll.of h2 ⟨rfl, rfl, trivial⟩, h4⟩)))
      · rintro Fr _ _
        refine SO.load1 rfl Try.isAgg3 rfl rfl ?_
        exact SO.nilZ fun a w h1 h2 h3 h4 h5 => PZ.of h1 h3 h5 (.cons () (.cons () (.cons () (.nil ⟨EnvAll.of h2 ⟨rfl, rfl, trivial⟩, h4⟩))))
      · rintro Fr _
        refine SO.v rfl (opv_lss rfl rfl) ?_
        exact SO.nilZ fun a w h1 h2 h3 h4 h5 => PZ.of h1 h3 h5 (.cons () (.cons () (.nil ⟨EnvAll.of h2 ⟨rfl, rfl, trivial⟩, h4⟩)))
      · rintro Fr _
        refine SO.v rfl (opv_move rfl) ?_
        exact SO.nilZ fun a w h1 h2 h3 h4 h5 => PZ.of h1 h3 h5 (.cons () (.cons () (.nil ⟨EnvAll.of h2 ⟨rfl, rfl, trivial⟩, h4⟩)))
      · rintro Fr _ _
        refine SO.takeT rfl rfl rfl b10 ?_
        refine SO.v rfl (opv_fieldAddr Try.underlying66 rfl Try.sizeOf3 rfl rfl) ?_
        exact SO.nilZ fun a w h1 h2 h3 h4 h5 => PZ.of h1 h3 h5 (.cons () (.cons () (.cons () (.nil ⟨EnvAll.of h2 ⟨rfl, rfl, rfl, trivial⟩, h4⟩))))
      · rintro Fr _ _ _
        refine SO.takeT rfl rfl rfl b10 ?_
        refine SO.load1 rfl Try.isAgg3 rfl rfl ?_
        exact SO.nilZ fun a w h1 h2 h3 h4 h5 => PZ.of h1 h3 h5 (.cons () (.cons () (.cons () (.cons () (.nil ⟨EnvAll.of h2 ⟨rfl, rfl, rfl, trivial⟩, h4⟩)))))
      · rintro Fr _ _
        refine SO.takeT rfl rfl rfl b10 ?_
        refine SO.v rfl (opv_move rfl) ?_
        exact SO.nilZ fun a w h1 h2 h3 h4 h5 => PZ.of h1 h3 h5 (.cons () (.cons () (.cons () (.nil ⟨EnvAll.of h2 ⟨rfl, rfl, rfl, trivial⟩, h4⟩))))
      · rintro Fr _ _
        refine SO.takeT rfl rfl rfl b10 ?_
        refine SO.v rfl (opv_nilCheck rfl) ?_
        exact SO.nilZ fun a w h1 h2 h3 h4 h5 => PZ.of h1 h3 h5 (.cons () (.cons () (.cons () (.nil ⟨EnvAll.of h2 ⟨rfl, rfl, rfl, trivial⟩, h4⟩))))
      · rintro Fr _ _
        refine SO.takeT rfl rfl rfl b10 ?_
        refine SO.v rfl (opv_fieldAddr Try.underlying34 rfl Try.sizeOf32 rfl rfl) ?_
        exact SO.nilZ fun a w h1 h2 h3 h4 h5 => PZ.of h1 h3 h5 (.cons () (.cons () (.cons () (.nil ⟨EnvAll.of h2 ⟨rfl, rfl, rfl, trivial⟩, h4⟩))))
      · rintro Fr _ _ _
        refine SO.takeT rfl rfl rfl b10 ?_
        refine SO.load1 rfl Try.isAgg32 rfl rfl ?_
        exact SO.nilZ fun a w h1 h2 h3 h4 h5 => PZ.of h1 h3 h5 (.cons () (.cons () (.cons () (.cons () (.nil ⟨EnvAll.of h2 ⟨rfl, rfl, rfl, trivial⟩, h4⟩)))))
      · rintro Fr _ _ _
        refine SO.takeT rfl rfl rfl b10 ?_
        refine SO.v rfl (opv_lenR rfl Try.underlying32 hr2 rfl) ?_
        exact SO.nilZ fun a w h1 h2 h3 h4 h5 => PZ.of h1 h3 h5 (.cons () (.cons () (.cons () (.cons () (.nil ⟨EnvAll.of h2 ⟨rfl, rfl, rfl, trivial⟩, h4⟩)))))
      · rintro Fr _ _ _
        refine SO.takeT rfl rfl rfl b10 ?_
        refine SO.v rfl (opv_geq rfl rfl) ?_
        exact SO.nilZ fun a w h1 h2 h3 h4 h5 => PZ.of h1 h3 h5 (.cons () (.cons () (.cons () (.cons () (.nil ⟨EnvAll.of h2 ⟨rfl, rfl, rfl, rfl, trivial⟩, h4⟩)))))
      · rintro Fr _ _
        refine SO.v rfl (opv_pick_f' b10 rfl rfl) ?_
        exact SO.nilZ fun a w h1 h2 h3 h4 h5 => PZ.of h1 h3 h5 (.cons () (.cons () (.cons () (.nil ⟨EnvAll.of h2 ⟨rfl, rfl, rfl, trivial⟩, h4⟩))))
      rintro _ _ _ _ _ _ _ _ _ _
      refine S.to (ρ' := [(0, bp bp0 0), (4, .int .i64 0), (1, bp bp1 0), (6, bp b9 0), (48, .bool (decide ((a1.L.length : Int) ≤ x7.Cell)))]) ⟨rfl, rfl, rfl, rfl, rfl, trivial⟩ ?_
      cases h
      refine S.b5 ?_
      refine S.b5 ?_
      refine S.b5 ?_
      refine S.b5 ?_
      refine S.b5 ?_
      refine S.b5 ?_
      refine S.to ?_ (hk1 () trivial)
      exact ⟨rfl, rfl, rfl, rfl, rfl, trivial⟩
    rintro _ -
    replace h := hJ1
    rcases bool_or j48_1 with b11 | b11
    · replace h := cond_t b11 h
      refine S.condT rfl b11 ?_
      refine S.seq ?_
      refine S.region ?_
      refine SO.v rfl (opv_assign rfl) ?_
      refine SO.nil ?_
      cases h
      refine S.b1 ?_
      refine S.drop ?_
      refine S.b4 ?_
      refine S.b3 ?_
      refine S.b4 ?_
      refine S.b4 ?_
      refine S.b4 ?_
      exact S.ret1 Try.func10 rfl rfl (fun w hs hk => hR w _ _ ⟨v0_L, v1_L, rfl, rfl⟩ hs hk)
    replace h := cond_f b11 h
    refine S.condF rfl b11 ?_
    refine S.skip ?_
    refine S.seq ?_
    refine S.seq ?_
    obtain ⟨x12, hx13, h⟩ := opt_bind h
    refine S.draw2 (Y := fun Q => ∃ (_ _ _ _ _ _ _ _ _ _ : Unit), Q [(1, bp bp1 0), (6, bp b9 0), (0, bp bp0 0), (4, .int .i64 0)] [Box bp0 [.int .i64 a0.Mark, v0_L, .int .i64 a0.Status, .int .i64 (w64 (a0.At + 1))], Box b9 [.int .i64 x7.Cell, .int .u32 x7.Version, .int .u64 x7.New, .bool x7.Write], Own 66 ek_ref07_Entry v0_L a0.L, Own 55 ek_api_Cell v1_L a1.L, Box bp1 [v1_L, .int .u32 a1.Limit], F]) (Z := fun Q => ∀ (_ _ _ _ _ _ _ _ _ _ _ : Unit), Q [(0, bp bp0 0), (1, bp bp1 0), (4, .int .i64 0), (6, bp b9 0), (62, .bool (x12.Mark != a0.Mark))] [Box bp0 [.int .i64 a0.Mark, v0_L, .int .i64 a0.Status, .int .i64 (w64 (a0.At + 1))], Box b9 [.int .i64 x7.Cell, .int .u32 x7.Version, .int .u64 x7.New, .bool x7.Write], Own 66 ek_ref07_Entry v0_L a0.L, Own 55 ek_api_Cell v1_L a1.L, Box bp1 [v1_L, .int .u32 a1.Limit], F]) (T := [tS 1 (bp bp1 0), tS 6 (bp b9 0), tS 0 (bp bp0 0), tS 4 (.int .i64 0), tR (Box bp0 [.int .i64 a0.Mark, v0_L, .int .i64 a0.Status, .int .i64 (w64 (a0.At + 1))]), tR (Box b9 [.int .i64 x7.Cell, .int .u32 x7.Version, .int .u64 x7.New, .bool x7.Write]), tR (Own 66 ek_ref07_Entry v0_L a0.L), tR (Own 55 ek_api_Cell v1_L a1.L), tR (Box bp1 [v1_L, .int .u32 a1.Limit]), tR (F), tS 49 (bp bp1 0), tS 50 (bp bp1 0), tS 51 (bp bp1 0), tS 52 (v1_L), tS 53 (bp b9 0), tS 54 (.int .i64 x7.Cell), tS 55 (idxp v1_L (x7.Cell.toNat * ek_api_Cell.sz)), tS 56 (idxp v1_L (x7.Cell.toNat * ek_api_Cell.sz + 2)), tS 57 (.int .i64 x12.Mark), tS 58 (bp bp0 0), tS 59 (bp bp0 0), tS 60 (bp bp0 0), tS 61 (.int .i64 a0.Mark), tS 62 (.bool (x12.Mark != a0.Mark))]) (D := [⟨[0], [], [10]⟩, ⟨[10], [], [11]⟩, ⟨[11], [], [12]⟩, ⟨[12, 8], [], [13]⟩, ⟨[1], [], [14]⟩, ⟨[14, 5], [], [15]⟩, ⟨[13, 15, 7], [], [16]⟩, ⟨[16, 7], [], [17]⟩, ⟨[17, 7], [], [18]⟩, ⟨[2], [], [19]⟩, ⟨[19], [], [20]⟩, ⟨[20], [], [21]⟩, ⟨[21, 4], [], [22]⟩, ⟨[18, 22], [], [23]⟩]) (ini := [0, 1, 2, 3, 4, 5, 6, 7, 8, 9]) (fin := [2, 0, 3, 1, 23, 4, 5, 6, 7, 8, 9]) (bf := [[], [0], [0, 1], [0, 1, 2], [], [4], [0, 1, 2, 3, 4, 5], [0, 1, 2, 3, 4, 5, 6], [0, 1, 2, 3, 4, 5, 6, 7], [], [9], [9, 10], [9, 10, 11], [0, 1, 2, 3, 4, 5, 6, 7, 8, 9, 10, 11, 12]]) (by kernel_rfl) (by kernel_rfl) (fun Q => by kernel_rfl) (fun x w h1 h2 => ⟨(), (), (), (), (), (), (), (), (), (), EnvAll.of h1 ⟨rfl, rfl, rfl, rfl, trivial⟩, h2⟩) (fun Q => by kernel_rfl) ⟨?_, ?_, ?_, ?_, ?_, ?_, ?_, ?_, ?_, ?_, ?_, ?_, ?_, ?_, trivial⟩ ?_
    · rintro Fr _
      refine SO.v rfl (opv_move rfl) ?_
      exact SO.nilZ fun a w h1 h2 h3 h4 h5 => PZ.of h1 h3 h5 (.cons () (.cons () (.nil ⟨EnvAll.of h2 ⟨rfl, rfl, trivial⟩, h4⟩)))
    · rintro Fr _
      refine SO.v rfl (opv_nilCheck rfl) ?_
      exact SO.nilZ fun a w h1 h2 h3 h4 h5 => PZ.of h1 h3 h5 (.cons () (.cons () (.nil ⟨EnvAll.of h2 ⟨rfl, rfl, trivial⟩, h4⟩)))
    · rintro Fr _
      refine SO.v rfl (opv_fieldAddr Try.underlying34 rfl Try.sizeOf32 rfl rfl) ?_
      exact SO.nilZ fun a w h1 h2 h3 h4 h5 => PZ.of h1 h3 h5 (.cons () (.cons () (.nil ⟨EnvAll.of h2 ⟨rfl, rfl, trivial⟩, h4⟩)))
    · rintro Fr _ _
      refine SO.load1 rfl Try.isAgg32 rfl rfl ?_
      exact SO.nilZ fun a w h1 h2 h3 h4 h5 => PZ.of h1 h3 h5 (.cons () (.cons () (.cons () (.nil ⟨EnvAll.of h2 ⟨rfl, rfl, trivial⟩, h4⟩))))
    · rintro Fr _
      refine SO.v rfl (opv_fieldAddr Try.underlying66 rfl Try.sizeOf3 rfl rfl) ?_
      exact SO.nilZ fun a w h1 h2 h3 h4 h5 => PZ.of h1 h3 h5 (.cons () (.cons () (.nil ⟨EnvAll.of h2 ⟨rfl, rfl, trivial⟩, h4⟩)))
    · rintro Fr _ _
      refine SO.load1 rfl Try.isAgg3 rfl rfl ?_
      exact SO.nilZ fun a w h1 h2 h3 h4 h5 => PZ.of h1 h3 h5 (.cons () (.cons () (.cons () (.nil ⟨EnvAll.of h2 ⟨rfl, rfl, trivial⟩, h4⟩))))
    · rintro Fr _ _ _
      refine SO.v rfl (opv_idx Try.underlying32 Try.sizeOf55 hr2 rfl rfl hx13) ?_
      exact SO.nilZ fun a w h1 h2 h3 h4 h5 => PZ.of h1 h3 h5 (.cons () (.cons () (.cons () (.cons () (.nil ⟨EnvAll.of h2 ⟨rfl, rfl, rfl, trivial⟩, h4⟩)))))
    · rintro Fr _ _
      refine SO.v rfl (opv_fieldIdx Try.underlying55 rfl Try.sizeOf3 hr2 hx13 rfl rfl) ?_
      exact SO.nilZ fun a w h1 h2 h3 h4 h5 => PZ.of h1 h3 h5 (.cons () (.cons () (.cons () (.nil ⟨EnvAll.of h2 ⟨rfl, rfl, trivial⟩, h4⟩))))
    · rintro Fr _ _
      refine SO.loadI1 (j := 2) rfl Try.isAgg3 (Rd.head hr2) hx13 rfl rfl rfl rfl ?_
      exact SO.nilZ fun a w h1 h2 h3 h4 h5 => PZ.of h1 h3 h5 (.cons () (.cons () (.cons () (.nil ⟨EnvAll.of h2 ⟨rfl, rfl, trivial⟩, h4⟩))))
    · rintro Fr _
      refine SO.v rfl (opv_move rfl) ?_
      exact SO.nilZ fun a w h1 h2 h3 h4 h5 => PZ.of h1 h3 h5 (.cons () (.cons () (.nil ⟨EnvAll.of h2 ⟨rfl, rfl, trivial⟩, h4⟩)))
    · rintro Fr _
      refine SO.v rfl (opv_nilCheck rfl) ?_
      exact SO.nilZ fun a w h1 h2 h3 h4 h5 => PZ.of h1 h3 h5 (.cons () (.cons () (.nil ⟨EnvAll.of h2 ⟨rfl, rfl, trivial⟩, h4⟩)))
    · rintro Fr _
      refine SO.v rfl (opv_fieldAddr Try.underlying44 rfl Try.sizeOf3 rfl rfl) ?_
      exact SO.nilZ fun a w h1 h2 h3 h4 h5 => PZ.of h1 h3 h5 (.cons () (.cons () (.nil ⟨EnvAll.of h2 ⟨rfl, rfl, trivial⟩, h4⟩)))
    · rintro Fr _ _
      refine SO.load1 rfl Try.isAgg3 rfl rfl ?_
      exact SO.nilZ fun a w h1 h2 h3 h4 h5 => PZ.of h1 h3 h5 (.cons () (.cons () (.cons () (.nil ⟨EnvAll.of h2 ⟨rfl, rfl, trivial⟩, h4⟩))))
    · rintro Fr _ _
      refine SO.v rfl (opv_neq rfl rfl) ?_
      exact SO.nilZ fun a w h1 h2 h3 h4 h5 => PZ.of h1 h3 h5 (.cons () (.cons () (.cons () (.nil ⟨EnvAll.of h2 ⟨rfl, rfl, rfl, trivial⟩, h4⟩))))
    rintro _ _ _ _ _ _ _ _ _ _ _
    refine S.to (ρ' := [(0, bp bp0 0), (1, bp bp1 0), (4, .int .i64 0), (6, bp b9 0), (62, .bool (x12.Mark != a0.Mark))]) ⟨rfl, rfl, rfl, rfl, rfl, trivial⟩ ?_
    rcases bool_or (x12.Mark != a0.Mark) with b14 | b14
    · replace h := cond_t b14 h
      refine S.condT rfl b14 ?_
      refine S.seq ?_
      refine S.region ?_
      refine SO.v rfl (opv_assign rfl) ?_
      refine SO.nil ?_
      cases h
      refine S.b1 ?_
      refine S.drop ?_
      refine S.b4 ?_
      refine S.b3 ?_
      refine S.b4 ?_
      refine S.b4 ?_
      refine S.b4 ?_
      exact S.ret1 Try.func10 rfl rfl (fun w hs hk => hR w _ _ ⟨v0_L, v1_L, rfl, rfl⟩ hs hk)
    replace h := cond_f b14 h
    refine S.condF rfl b14 ?_
    refine S.skip ?_
    refine S.seq ?_
    refine S.seq ?_
    refine S.region ?_
    refine SO.v rfl (opv_move rfl) ?_
    refine SO.v rfl (opv_nilCheck rfl) ?_
    refine SO.v rfl (opv_fieldAddr Try.underlying44 rfl Try.sizeOf3 rfl rfl) ?_
    refine SO.load1 rfl Try.isAgg3 rfl rfl ?_
    refine SO.v rfl (opv_eql rfl rfl) ?_
    refine SO.v rfl (opv_move rfl) ?_
    obtain ⟨c16, hc17, hgk⟩ := opt_bind h
    refine SO.cut 3 71 (.bool c16) [Box bp0 [.int .i64 a0.Mark, v0_L, .int .i64 a0.Status, .int .i64 (w64 (a0.At + 1))], Box b9 [.int .i64 x7.Cell, .int .u32 x7.Version, .int .u64 x7.New, .bool x7.Write], Own 66 ek_ref07_Entry v0_L a0.L, Own 55 ek_api_Cell v1_L a1.L, Box bp1 [v1_L, .int .u32 a1.Limit], F] (fun l2 hk2 => ?_) ?_
    · clear hgk
      replace h := hc17
      rcases bool_or (a0.Status == 1) with b15 | b15
      · replace h := cond_t b15 h
        refine SO.takeT rfl rfl rfl b15 ?_
        refine SO.v rfl (opv_fieldAddr Try.underlying66 rfl Try.sizeOf4 rfl rfl) ?_
        refine SO.takeT rfl rfl rfl b15 ?_
        refine SO.b1 ?_
        refine SO.load1 rfl Try.isAgg4 rfl rfl ?_
        cases h
        refine SO.v rfl (opv_pick_t' b15 rfl rfl) ?_
        refine SO.b5 ?_
        refine SO.b5 ?_
        refine SO.b5 ?_
        refine SO.b5 ?_
        refine SO.b4 ?_
        refine SO.b5 ?_
        exact hk2.fitc (m := 3) rfl (rfl) rfl
      replace h := cond_f b15 h
      refine SO.passF rfl rfl rfl b15 rfl rfl ?_
      refine SO.passF rfl rfl rfl b15 rfl rfl ?_
      cases h
      refine SO.v rfl (opv_pick_f' b15 rfl rfl) ?_
      refine SO.b5 ?_
      refine SO.b5 ?_
      refine SO.b5 ?_
      refine SO.b5 ?_
      refine SO.b5 ?_
      refine SO.b5 ?_
      exact hk2.fitc (m := 3) rfl (rfl) rfl
    clear hc17
    replace h := hgk
    refine SO.nil ?_
    refine S.to (ρ' := [(0, bp bp0 0), (1, bp bp1 0), (4, .int .i64 0), (6, bp b9 0), (71, .bool c16)]) ⟨rfl, rfl, rfl, rfl, rfl, trivial⟩ ?_
    obtain ⟨⟨yp1_0_2, yp1_1_2⟩, hC2, hJ2⟩ := opt_bind h
    clear h
    refine S.cutP (G := Value) (fun _ => True) (fun vyp1_0_2 => [(4, .int .i64 0)]) (fun vyp1_0_2 => [Own 55 ek_api_Cell vyp1_0_2 yp1_0_2, Box bp0 [.int .i64 a0.Mark, v0_L, .int .i64 a0.Status, .int .i64 (w64 (a0.At + 1))], Box b9 [.int .i64 x7.Cell, .int .u32 x7.Version, .int .u64 x7.New, .bool x7.Write], Own 66 ek_ref07_Entry v0_L a0.L, Box bp1 [vyp1_0_2, .int .u32 yp1_1_2], F]) (fun hk2 => ?_) ?_
    · replace h := hC2
      rcases bool_or c16 with b18 | b18
      · replace h := cond_t b18 h
        refine S.condT rfl b18 ?_
        obtain ⟨⟨t19, p20⟩, ht21, h⟩ := opt_bind h
        refine S.draw2 (Y := fun Q => ∃ (_ _ _ _ _ _ _ _ _ _ : Unit), Q [(1, bp bp1 0), (6, bp b9 0), (0, bp bp0 0), (4, .int .i64 0)] [Box bp0 [.int .i64 a0.Mark, v0_L, .int .i64 a0.Status, .int .i64 (w64 (a0.At + 1))], Box b9 [.int .i64 x7.Cell, .int .u32 x7.Version, .int .u64 x7.New, .bool x7.Write], Own 66 ek_ref07_Entry v0_L a0.L, Own 55 ek_api_Cell v1_L a1.L, Box bp1 [v1_L, .int .u32 a1.Limit], F]) (Z := fun Q => ∀ (_ : Unit) (u22_L : Value) (_ _ _ _ : Unit), Q [(4, .int .i64 0), (81, .int .i64 t19)] [Own 55 ek_api_Cell u22_L p20.L, Box bp1 [u22_L, .int .u32 p20.Limit], Box bp0 [.int .i64 a0.Mark, v0_L, .int .i64 a0.Status, .int .i64 (w64 (a0.At + 1))], Box b9 [.int .i64 x7.Cell, .int .u32 x7.Version, .int .u64 x7.New, .bool x7.Write], Own 66 ek_ref07_Entry v0_L a0.L, F]) (T := [tS 1 (bp bp1 0), tS 6 (bp b9 0), tS 0 (bp bp0 0), tS 4 (.int .i64 0), tR (Box bp0 [.int .i64 a0.Mark, v0_L, .int .i64 a0.Status, .int .i64 (w64 (a0.At + 1))]), tR (Box b9 [.int .i64 x7.Cell, .int .u32 x7.Version, .int .u64 x7.New, .bool x7.Write]), tR (Own 66 ek_ref07_Entry v0_L a0.L), tR (Own 55 ek_api_Cell v1_L a1.L), tR (Box bp1 [v1_L, .int .u32 a1.Limit]), tR (F), tS 72 (bp bp1 0), tS 73 (bp b9 0), tS 74 (.int .i64 x7.Cell), tS 75 (bp bp0 0), tS 76 (bp bp0 0), tS 77 (bp bp0 0), tS 78 (.int .i64 a0.Mark), tS 79 (bp b9 2), tS 80 (.int .u64 x7.New), ⟨Value, [81], (fun u22_L => [(81, .int .i64 t19)]), (fun u22_L => [Own 55 ek_api_Cell u22_L p20.L, Box bp1 [u22_L, .int .u32 p20.Limit]]), fun _ => rfl⟩]) (D := [⟨[0], [], [10]⟩, ⟨[1], [], [11]⟩, ⟨[11, 5], [], [12]⟩, ⟨[2], [], [13]⟩, ⟨[13], [], [14]⟩, ⟨[14], [], [15]⟩, ⟨[15, 4], [], [16]⟩, ⟨[1], [], [17]⟩, ⟨[17, 5], [], [18]⟩, ⟨[10, 12, 16, 18], [8, 7], [19]⟩]) (ini := [0, 1, 2, 3, 4, 5, 6, 7, 8, 9]) (fin := [3, 19, 4, 5, 6, 9]) (bf := [[], [], [1], [], [3], [3, 4], [3, 4, 5], [], [7], [0, 1, 2, 3, 4, 5, 6, 7, 8]]) (by kernel_rfl) (by kernel_rfl) (fun Q => by kernel_rfl) (fun x w h1 h2 => ⟨(), (), (), (), (), (), (), (), (), (), EnvAll.of h1 ⟨rfl, rfl, rfl, rfl, trivial⟩, h2⟩) (fun Q => by kernel_rfl) ⟨?_, ?_, ?_, ?_, ?_, ?_, ?_, ?_, ?_, ?_, trivial⟩ ?_
        · rintro Fr _
          refine SO.v rfl (opv_move rfl) ?_
          exact SO.nilZ fun a w h1 h2 h3 h4 h5 => PZ.of h1 h3 h5 (.cons () (.cons () (.nil ⟨EnvAll.of h2 ⟨rfl, rfl, trivial⟩, h4⟩)))
        · rintro Fr _
          refine SO.v rfl (opv_fieldAddr Try.underlying66 rfl Try.sizeOf3 rfl rfl) ?_
          exact SO.nilZ fun a w h1 h2 h3 h4 h5 => PZ.of h1 h3 h5 (.cons () (.cons () (.nil ⟨EnvAll.of h2 ⟨rfl, rfl, trivial⟩, h4⟩)))
        · rintro Fr _ _
          refine SO.load1 rfl Try.isAgg3 rfl rfl ?_
          exact SO.nilZ fun a w h1 h2 h3 h4 h5 => PZ.of h1 h3 h5 (.cons () (.cons () (.cons () (.nil ⟨EnvAll.of h2 ⟨rfl, rfl, trivial⟩, h4⟩))))
        · rintro Fr _
          refine SO.v rfl (opv_move rfl) ?_
          exact SO.nilZ fun a w h1 h2 h3 h4 h5 => PZ.of h1 h3 h5 (.cons () (.cons () (.nil ⟨EnvAll.of h2 ⟨rfl, rfl, trivial⟩, h4⟩)))
        · rintro Fr _
          refine SO.v rfl (opv_nilCheck rfl) ?_
          exact SO.nilZ fun a w h1 h2 h3 h4 h5 => PZ.of h1 h3 h5 (.cons () (.cons () (.nil ⟨EnvAll.of h2 ⟨rfl, rfl, trivial⟩, h4⟩)))
        · rintro Fr _
          refine SO.v rfl (opv_fieldAddr Try.underlying44 rfl Try.sizeOf3 rfl rfl) ?_
          exact SO.nilZ fun a w h1 h2 h3 h4 h5 => PZ.of h1 h3 h5 (.cons () (.cons () (.nil ⟨EnvAll.of h2 ⟨rfl, rfl, trivial⟩, h4⟩)))
        · rintro Fr _ _
          refine SO.load1 rfl Try.isAgg3 rfl rfl ?_
          exact SO.nilZ fun a w h1 h2 h3 h4 h5 => PZ.of h1 h3 h5 (.cons () (.cons () (.cons () (.nil ⟨EnvAll.of h2 ⟨rfl, rfl, trivial⟩, h4⟩))))
        · rintro Fr _
          refine SO.v rfl (opv_fieldAddr Try.underlying66 rfl Try.sizeOf51 rfl rfl) ?_
          exact SO.nilZ fun a w h1 h2 h3 h4 h5 => PZ.of h1 h3 h5 (.cons () (.cons () (.nil ⟨EnvAll.of h2 ⟨rfl, rfl, trivial⟩, h4⟩)))
        · rintro Fr _ _
          refine SO.load1 rfl Try.isAgg51 rfl rfl ?_
          exact SO.nilZ fun a w h1 h2 h3 h4 h5 => PZ.of h1 h3 h5 (.cons () (.cons () (.cons () (.nil ⟨EnvAll.of h2 ⟨rfl, rfl, trivial⟩, h4⟩))))
        · refine spec2 (X := fun Q => ∀ (_ _ _ _ _ _ : Unit), Q [(72, bp bp1 0), (74, .int .i64 x7.Cell), (78, .int .i64 a0.Mark), (80, .int .u64 x7.New)] [Box bp1 [v1_L, .int .u32 a1.Limit], Own 55 ek_api_Cell v1_L a1.L]) (fun Q => by kernel_rfl) ?_
          rintro Fr _ _ _ _ _ _
          refine SO.b1 ?_
          refine SO.b1 ?_
          refine SO.call (pre := [Box _ _, Own _ _ _ _]) rfl Try.call22 rfl rfl rfl (ref01_Store_Put.ct bp1 v1_L _ _ _ _ _ _ ht21) trivial ?_
          rintro _ _ ⟨u22_L, rfl, rfl⟩
          refine SO.b1 ?_
          refine SO.rd fun hr23 => ?_
          refine SO.b1 ?_
          refine SO.b1 ?_
          exact SO.nilZ fun a w h1 h2 h3 h4 h5 => PZ.of2 (Y := fun Q => ∃ (_ _ _ _ : Unit) (u22_L : Value), Q [(72, bp bp1 0), (74, .int .i64 x7.Cell), (78, .int .i64 a0.Mark), (80, .int .u64 x7.New), (81, .int .i64 t19)] [Own 55 ek_api_Cell u22_L p20.L, Box bp1 [u22_L, .int .u32 p20.Limit]]) (fun Q => by kernel_rfl) h1 h3 h5 ⟨(), (), (), (), u22_L, EnvAll.of h2 ⟨rfl, rfl, rfl, rfl, rfl, trivial⟩, h4⟩
        rintro _ u22_L _ _ _ _
        refine S.to (ρ' := [(4, .int .i64 0)]) ⟨rfl, trivial⟩ ?_
        refine S.rd fun hr24 => ?_
        cases h
        refine S.b5 ?_
        refine S.b2 ?_
        refine S.b5 ?_
        refine S.b5 ?_
        refine S.b5 ?_
        refine S.b5 ?_
        refine S.to ?_ (hk2 u22_L trivial)
        exact ⟨rfl, trivial⟩
      replace h := cond_f b18 h
      refine S.condF rfl b18 ?_
      obtain ⟨⟨t25, p26⟩, ht27, h⟩ := opt_bind h
      refine S.draw2 (Y := fun Q => ∃ (_ _ _ _ _ _ _ _ _ _ : Unit), Q [(1, bp bp1 0), (6, bp b9 0), (0, bp bp0 0), (4, .int .i64 0)] [Box bp0 [.int .i64 a0.Mark, v0_L, .int .i64 a0.Status, .int .i64 (w64 (a0.At + 1))], Box b9 [.int .i64 x7.Cell, .int .u32 x7.Version, .int .u64 x7.New, .bool x7.Write], Own 66 ek_ref07_Entry v0_L a0.L, Own 55 ek_api_Cell v1_L a1.L, Box bp1 [v1_L, .int .u32 a1.Limit], F]) (Z := fun Q => ∀ (_ : Unit) (u28_L : Value) (_ _ _ _ : Unit), Q [(4, .int .i64 0), (89, .int .i64 t25)] [Own 55 ek_api_Cell u28_L p26.L, Box bp1 [u28_L, .int .u32 p26.Limit], Box bp0 [.int .i64 a0.Mark, v0_L, .int .i64 a0.Status, .int .i64 (w64 (a0.At + 1))], Box b9 [.int .i64 x7.Cell, .int .u32 x7.Version, .int .u64 x7.New, .bool x7.Write], Own 66 ek_ref07_Entry v0_L a0.L, F]) (T := [tS 1 (bp bp1 0), tS 6 (bp b9 0), tS 0 (bp bp0 0), tS 4 (.int .i64 0), tR (Box bp0 [.int .i64 a0.Mark, v0_L, .int .i64 a0.Status, .int .i64 (w64 (a0.At + 1))]), tR (Box b9 [.int .i64 x7.Cell, .int .u32 x7.Version, .int .u64 x7.New, .bool x7.Write]), tR (Own 66 ek_ref07_Entry v0_L a0.L), tR (Own 55 ek_api_Cell v1_L a1.L), tR (Box bp1 [v1_L, .int .u32 a1.Limit]), tR (F), tS 82 (bp bp1 0), tS 83 (bp b9 0), tS 84 (.int .i64 x7.Cell), tS 85 (bp bp0 0), tS 86 (bp bp0 0), tS 87 (bp bp0 0), tS 88 (.int .i64 a0.Mark), ⟨Value, [89], (fun u28_L => [(89, .int .i64 t25)]), (fun u28_L => [Own 55 ek_api_Cell u28_L p26.L, Box bp1 [u28_L, .int .u32 p26.Limit]]), fun _ => rfl⟩]) (D := [⟨[0], [], [10]⟩, ⟨[1], [], [11]⟩, ⟨[11, 5], [], [12]⟩, ⟨[2], [], [13]⟩, ⟨[13], [], [14]⟩, ⟨[14], [], [15]⟩, ⟨[15, 4], [], [16]⟩, ⟨[10, 12, 16], [8, 7], [17]⟩]) (ini := [0, 1, 2, 3, 4, 5, 6, 7, 8, 9]) (fin := [3, 17, 4, 5, 6, 9]) (bf := [[], [], [1], [], [3], [3, 4], [3, 4, 5], [0, 1, 2, 3, 4, 5, 6]]) (by kernel_rfl) (by kernel_rfl) (fun Q => by kernel_rfl) (fun x w h1 h2 => ⟨(), (), (), (), (), (), (), (), (), (), EnvAll.of h1 ⟨rfl, rfl, rfl, rfl, trivial⟩, h2⟩) (fun Q => by kernel_rfl) ⟨?_, ?_, ?_, ?_, ?_, ?_, ?_, ?_, trivial⟩ ?_
      · rintro Fr _
        refine SO.v rfl (opv_move rfl) ?_
        exact SO.nilZ fun a w h1 h2 h3 h4 h5 => PZ.of h1 h3 h5 (.cons () (.cons () (.nil ⟨EnvAll.of h2 ⟨rfl, rfl, trivial⟩, h4⟩)))
      · rintro Fr _
        refine SO.v rfl (opv_fieldAddr Try.underlying66 rfl Try.sizeOf3 rfl rfl) ?_
        exact SO.nilZ fun a w h1 h2 h3 h4 h5 => PZ.of h1 h3 h5 (.cons () (.cons () (.nil ⟨EnvAll.of h2 ⟨rfl, rfl, trivial⟩, h4⟩)))
      · rintro Fr _ _
        refine SO.load1 rfl Try.isAgg3 rfl rfl ?_
        exact SO.nilZ fun a w h1 h2 h3 h4 h5 => PZ.of h1 h3 h5 (.cons () (.cons () (.cons () (.nil ⟨EnvAll.of h2 ⟨rfl, rfl, trivial⟩, h4⟩))))
      · rintro Fr _
        refine SO.v rfl (opv_move rfl) ?_
        exact SO.nilZ fun a w h1 h2 h3 h4 h5 => PZ.of h1 h3 h5 (.cons () (.cons () (.nil ⟨EnvAll.of h2 ⟨rfl, rfl, trivial⟩, h4⟩)))
      · rintro Fr _
        refine SO.v rfl (opv_nilCheck rfl) ?_
        exact SO.nilZ fun a w h1 h2 h3 h4 h5 => PZ.of h1 h3 h5 (.cons () (.cons () (.nil ⟨EnvAll.of h2 ⟨rfl, rfl, trivial⟩, h4⟩)))
      · rintro Fr _
        refine SO.v rfl (opv_fieldAddr Try.underlying44 rfl Try.sizeOf3 rfl rfl) ?_
        exact SO.nilZ fun a w h1 h2 h3 h4 h5 => PZ.of h1 h3 h5 (.cons () (.cons () (.nil ⟨EnvAll.of h2 ⟨rfl, rfl, trivial⟩, h4⟩)))
      · rintro Fr _ _
        refine SO.load1 rfl Try.isAgg3 rfl rfl ?_
        exact SO.nilZ fun a w h1 h2 h3 h4 h5 => PZ.of h1 h3 h5 (.cons () (.cons () (.cons () (.nil ⟨EnvAll.of h2 ⟨rfl, rfl, trivial⟩, h4⟩))))
      · refine spec2 (X := fun Q => ∀ (_ _ _ _ _ : Unit), Q [(82, bp bp1 0), (84, .int .i64 x7.Cell), (88, .int .i64 a0.Mark)] [Box bp1 [v1_L, .int .u32 a1.Limit], Own 55 ek_api_Cell v1_L a1.L]) (fun Q => by kernel_rfl) ?_
        rintro Fr _ _ _ _ _
        refine SO.b1 ?_
        refine SO.b1 ?_
        refine SO.call (pre := [Box _ _, Own _ _ _ _]) rfl Try.call23 rfl rfl rfl (ref01_Store_Release.ct bp1 v1_L _ _ _ _ _ ht27) trivial ?_
        rintro _ _ ⟨u28_L, rfl, rfl⟩
        refine SO.b1 ?_
        refine SO.rd fun hr29 => ?_
        refine SO.b1 ?_
        refine SO.b1 ?_
        exact SO.nilZ fun a w h1 h2 h3 h4 h5 => PZ.of h1 h3 h5 (.cons () (.cons () (.cons () (.cons u28_L (.nil ⟨EnvAll.of h2 ⟨rfl, rfl, rfl, rfl, trivial⟩, h4⟩)))))
      rintro _ u28_L _ _ _ _
      refine S.to (ρ' := [(4, .int .i64 0)]) ⟨rfl, trivial⟩ ?_
      refine S.rd fun hr30 => ?_
      cases h
      refine S.b5 ?_
      refine S.b2 ?_
      refine S.b5 ?_
      refine S.b5 ?_
      refine S.b5 ?_
      refine S.b5 ?_
      refine S.to ?_ (hk2 u28_L trivial)
      exact ⟨rfl, trivial⟩
    rintro vyp1_0_2 -
    replace h := hJ2
    refine S.rd fun hr31 => ?_
    refine S.seq ?_
    refine S.region ?_
    refine SO.v rfl (opv_assign rfl) ?_
    refine SO.nil ?_
    cases h
    refine S.b2 ?_
    refine S.drop ?_
    refine S.b4 ?_
    refine S.b1 ?_
    refine S.b4 ?_
    refine S.b4 ?_
    refine S.b4 ?_
    exact S.ret1 Try.func10 rfl rfl (fun w hs hk => hR w _ _ ⟨v0_L, vyp1_0_2, rfl, rfl⟩ hs hk)
  replace h := cond_f b6 h
  refine S.condF rfl b6 ?_
  refine S.skip ?_
  refine S.seq ?_
  refine S.seq ?_
  refine S.draw2 (Y := fun Q => ∃ (_ _ _ _ _ _ _ : Unit), Q [(0, bp bp0 0), (1, bp bp1 0), (4, .int .i64 0)] [Box bp0 [.int .i64 a0.Mark, v0_L, .int .i64 a0.Status, .int .i64 a0.At], Own 66 ek_ref07_Entry v0_L a0.L, Own 55 ek_api_Cell v1_L a1.L, Box bp1 [v1_L, .int .u32 a1.Limit], F]) (Z := fun Q => ∀ (_ _ _ _ _ _ _ _ : Unit), Q [(0, bp bp0 0), (1, bp bp1 0), (4, .int .i64 0), (99, .bool (a0.At == (a0.L.length : Int)))] [Box bp0 [.int .i64 a0.Mark, v0_L, .int .i64 a0.Status, .int .i64 a0.At], Own 66 ek_ref07_Entry v0_L a0.L, Own 55 ek_api_Cell v1_L a1.L, Box bp1 [v1_L, .int .u32 a1.Limit], F]) (T := [tS 0 (bp bp0 0), tE [(1, bp bp1 0), (4, .int .i64 0)], tR (Box bp0 [.int .i64 a0.Mark, v0_L, .int .i64 a0.Status, .int .i64 a0.At]), tR (Own 66 ek_ref07_Entry v0_L a0.L), tR (Own 55 ek_api_Cell v1_L a1.L), tR (Box bp1 [v1_L, .int .u32 a1.Limit]), tR (F), tS 90 (bp bp0 0), tS 91 (bp bp0 0), tS 92 (bp bp0 3), tS 93 (.int .i64 a0.At), tS 94 (bp bp0 0), tS 95 (bp bp0 0), tS 96 (bp bp0 1), tS 97 (v0_L), tS 98 (.int .i64 (a0.L.length : Int)), tS 99 (.bool (a0.At == (a0.L.length : Int)))]) (D := [⟨[0], [], [7]⟩, ⟨[7], [], [8]⟩, ⟨[8], [], [9]⟩, ⟨[9, 2], [], [10]⟩, ⟨[0], [], [11]⟩, ⟨[11], [], [12]⟩, ⟨[12], [], [13]⟩, ⟨[13, 2], [], [14]⟩, ⟨[14, 3], [], [15]⟩, ⟨[10, 15], [], [16]⟩]) (ini := [0, 1, 2, 3, 4, 5, 6]) (fin := [0, 1, 16, 2, 3, 4, 5, 6]) (bf := [[], [0], [0, 1], [0, 1, 2], [], [4], [4, 5], [4, 5, 6], [4, 5, 6, 7], [0, 1, 2, 3, 4, 5, 6, 7, 8]]) (by kernel_rfl) (by kernel_rfl) (fun Q => by kernel_rfl) (fun x w h1 h2 => ⟨(), (), (), (), (), (), (), EnvAll.of h1 ⟨rfl, rfl, rfl, trivial⟩, h2⟩) (fun Q => by kernel_rfl) ⟨?_, ?_, ?_, ?_, ?_, ?_, ?_, ?_, ?_, ?_, trivial⟩ ?_
  · rintro Fr _
    refine SO.v rfl (opv_move rfl) ?_
    exact SO.nilZ fun a w h1 h2 h3 h4 h5 => PZ.of h1 h3 h5 (.cons () (.cons () (.nil ⟨EnvAll.of h2 ⟨rfl, rfl, trivial⟩, h4⟩)))
  · rintro Fr _
    refine SO.v rfl (opv_nilCheck rfl) ?_
    exact SO.nilZ fun a w h1 h2 h3 h4 h5 => PZ.of h1 h3 h5 (.cons () (.cons () (.nil ⟨EnvAll.of h2 ⟨rfl, rfl, trivial⟩, h4⟩)))
  · rintro Fr _
    refine SO.v rfl (opv_fieldAddr Try.underlying44 rfl Try.sizeOf3 rfl rfl) ?_
    exact SO.nilZ fun a w h1 h2 h3 h4 h5 => PZ.of h1 h3 h5 (.cons () (.cons () (.nil ⟨EnvAll.of h2 ⟨rfl, rfl, trivial⟩, h4⟩)))
  · rintro Fr _ _
    refine SO.load1 rfl Try.isAgg3 rfl rfl ?_
    exact SO.nilZ fun a w h1 h2 h3 h4 h5 => PZ.of h1 h3 h5 (.cons () (.cons () (.cons () (.nil ⟨EnvAll.of h2 ⟨rfl, rfl, trivial⟩, h4⟩))))
  · rintro Fr _
    refine SO.v rfl (opv_move rfl) ?_
    exact SO.nilZ fun a w h1 h2 h3 h4 h5 => PZ.of h1 h3 h5 (.cons () (.cons () (.nil ⟨EnvAll.of h2 ⟨rfl, rfl, trivial⟩, h4⟩)))
  · rintro Fr _
    refine SO.v rfl (opv_nilCheck rfl) ?_
    exact SO.nilZ fun a w h1 h2 h3 h4 h5 => PZ.of h1 h3 h5 (.cons () (.cons () (.nil ⟨EnvAll.of h2 ⟨rfl, rfl, trivial⟩, h4⟩)))
  · rintro Fr _
    refine SO.v rfl (opv_fieldAddr Try.underlying44 rfl Try.sizeOf41 rfl rfl) ?_
    exact SO.nilZ fun a w h1 h2 h3 h4 h5 => PZ.of h1 h3 h5 (.cons () (.cons () (.nil ⟨EnvAll.of h2 ⟨rfl, rfl, trivial⟩, h4⟩)))
  · rintro Fr _ _
    refine SO.load1 rfl Try.isAgg41 rfl rfl ?_
    exact SO.nilZ fun a w h1 h2 h3 h4 h5 => PZ.of h1 h3 h5 (.cons () (.cons () (.cons () (.nil ⟨EnvAll.of h2 ⟨rfl, rfl, trivial⟩, h4⟩))))
  · rintro Fr _ _
    refine SO.v rfl (opv_lenR rfl Try.underlying41 hr1 rfl) ?_
    exact SO.nilZ fun a w h1 h2 h3 h4 h5 => PZ.of h1 h3 h5 (.cons () (.cons () (.cons () (.nil ⟨EnvAll.of h2 ⟨rfl, rfl, trivial⟩, h4⟩))))
  · rintro Fr _ _
    refine SO.v rfl (opv_eql rfl rfl) ?_
    exact SO.nilZ fun a w h1 h2 h3 h4 h5 => PZ.of h1 h3 h5 (.cons () (.cons () (.cons () (.nil ⟨EnvAll.of h2 ⟨rfl, rfl, rfl, trivial⟩, h4⟩))))
  rintro _ _ _ _ _ _ _ _
  refine S.to (ρ' := [(0, bp bp0 0), (1, bp bp1 0), (4, .int .i64 0), (99, .bool (a0.At == (a0.L.length : Int)))]) ⟨rfl, rfl, rfl, rfl, trivial⟩ ?_
  rcases bool_or (a0.At == (a0.L.length : Int)) with b32 | b32
  · replace h := cond_t b32 h
    refine S.condT rfl b32 ?_
    refine S.seq ?_
    refine S.region ?_
    refine SO.v rfl (opv_move rfl) ?_
    refine SO.v rfl (opv_nilCheck rfl) ?_
    refine SO.v rfl (opv_fieldAddr Try.underlying44 rfl Try.sizeOf3 rfl rfl) ?_
    refine SO.store1 Try.sizeOf3 rfl rfl rfl rfl ?_
    refine SO.nil ?_
    refine S.seq ?_
    refine S.region ?_
    refine SO.v rfl (opv_move rfl) ?_
    refine SO.v rfl (opv_nilCheck rfl) ?_
    refine SO.v rfl (opv_fieldAddr Try.underlying44 rfl Try.sizeOf3 rfl rfl) ?_
    refine SO.store1 Try.sizeOf3 rfl rfl rfl rfl ?_
    refine SO.nil ?_
    refine S.to (ρ' := [(4, .int .i64 0)]) ⟨rfl, trivial⟩ ?_
    refine S.seq ?_
    refine S.region ?_
    refine SO.v rfl (opv_assign rfl) ?_
    refine SO.nil ?_
    cases h
    refine S.b4 ?_
    refine S.b3 ?_
    refine S.b4 ?_
    refine S.b4 ?_
    refine S.b4 ?_
    exact S.ret1 Try.func10 rfl rfl (fun w hs hk => hR w _ _ ⟨v0_L, v1_L, rfl, rfl⟩ hs hk)
  replace h := cond_f b32 h
  refine S.condF rfl b32 ?_
  refine S.skip ?_
  refine S.seq ?_
  obtain ⟨x33, hx34, h⟩ := opt_bind h
  refine S.draw2 (Y := fun Q => ∃ (_ _ _ _ _ _ _ : Unit), Q [(0, bp bp0 0), (1, bp bp1 0), (4, .int .i64 0)] [Box bp0 [.int .i64 a0.Mark, v0_L, .int .i64 a0.Status, .int .i64 a0.At], Own 66 ek_ref07_Entry v0_L a0.L, Own 55 ek_api_Cell v1_L a1.L, Box bp1 [v1_L, .int .u32 a1.Limit], F]) (Z := fun Q => ∀ (_ _ : Unit) (b35 : Nat) (_ _ _ _ _ : Unit), Q [(0, bp bp0 0), (1, bp bp1 0), (4, .int .i64 0), (7, bp b35 0)] [Box b35 [.int .i64 x33.Cell, .int .u32 x33.Version, .int .u64 x33.New, .bool x33.Write], Box bp0 [.int .i64 a0.Mark, v0_L, .int .i64 a0.Status, .int .i64 a0.At], Own 66 ek_ref07_Entry v0_L a0.L, Own 55 ek_api_Cell v1_L a1.L, Box bp1 [v1_L, .int .u32 a1.Limit], F]) (T := [tS 0 (bp bp0 0), tE [(1, bp bp1 0), (4, .int .i64 0)], tR (Box bp0 [.int .i64 a0.Mark, v0_L, .int .i64 a0.Status, .int .i64 a0.At]), tR (Own 66 ek_ref07_Entry v0_L a0.L), tR (Own 55 ek_api_Cell v1_L a1.L), tR (Box bp1 [v1_L, .int .u32 a1.Limit]), tR (F), tS 106 (bp bp0 0), tS 107 (bp bp0 0), tS 108 (bp bp0 1), tS 109 (v0_L), tS 110 (bp bp0 0), tS 111 (bp bp0 0), tS 112 (bp bp0 3), tS 113 (.int .i64 a0.At), tS 114 (idxp v0_L (a0.At.toNat * ek_ref07_Entry.sz)), tS 115 (.agg #[.int .i64 x33.Cell, .int .u32 x33.Version, .int .u64 x33.New, .bool x33.Write]), ⟨Nat, [7], (fun b35 => [(7, bp b35 0)]), (fun b35 => [Box b35 [.int .i64 0, .int .u32 0, .int .u64 0, .bool false]]), fun _ => rfl⟩, ⟨Nat, [7], (fun b35 => [(7, bp b35 0)]), (fun b35 => [Box b35 [.int .i64 x33.Cell, .int .u32 x33.Version, .int .u64 x33.New, .bool x33.Write]]), fun _ => rfl⟩]) (D := [⟨[0], [], [7]⟩, ⟨[7], [], [8]⟩, ⟨[8], [], [9]⟩, ⟨[9, 2], [], [10]⟩, ⟨[0], [], [11]⟩, ⟨[11], [], [12]⟩, ⟨[12], [], [13]⟩, ⟨[13, 2], [], [14]⟩, ⟨[10, 14, 3], [], [15]⟩, ⟨[15, 3], [], [16]⟩, ⟨[], [], [17]⟩, ⟨[16], [17], [18]⟩]) (ini := [0, 1, 2, 3, 4, 5, 6]) (fin := [0, 1, 18, 2, 3, 4, 5, 6]) (bf := [[], [0], [0, 1], [0, 1, 2], [], [4], [4, 5], [4, 5, 6], [0, 1, 2, 3, 4, 5, 6, 7], [0, 1, 2, 3, 4, 5, 6, 7, 8], [], [0, 1, 2, 3, 4, 5, 6, 7, 8, 9, 10]]) (by kernel_rfl) (by kernel_rfl) (fun Q => by kernel_rfl) (fun x w h1 h2 => ⟨(), (), (), (), (), (), (), EnvAll.of h1 ⟨rfl, rfl, rfl, trivial⟩, h2⟩) (fun Q => by kernel_rfl) ⟨?_, ?_, ?_, ?_, ?_, ?_, ?_, ?_, ?_, ?_, ?_, ?_, trivial⟩ ?_
  · rintro Fr _
    refine SO.v rfl (opv_move rfl) ?_
    exact SO.nilZ fun a w h1 h2 h3 h4 h5 => PZ.of h1 h3 h5 (.cons () (.cons () (.nil ⟨EnvAll.of h2 ⟨rfl, rfl, trivial⟩, h4⟩)))
  · rintro Fr _
    refine SO.v rfl (opv_nilCheck rfl) ?_
    exact SO.nilZ fun a w h1 h2 h3 h4 h5 => PZ.of h1 h3 h5 (.cons () (.cons () (.nil ⟨EnvAll.of h2 ⟨rfl, rfl, trivial⟩, h4⟩)))
  · rintro Fr _
    refine SO.v rfl (opv_fieldAddr Try.underlying44 rfl Try.sizeOf41 rfl rfl) ?_
    exact SO.nilZ fun a w h1 h2 h3 h4 h5 => PZ.of h1 h3 h5 (.cons () (.cons () (.nil ⟨EnvAll.of h2 ⟨rfl, rfl, trivial⟩, h4⟩)))
  · rintro Fr _ _
    refine SO.load1 rfl Try.isAgg41 rfl rfl ?_
    exact SO.nilZ fun a w h1 h2 h3 h4 h5 => PZ.of h1 h3 h5 (.cons () (.cons () (.cons () (.nil ⟨EnvAll.of h2 ⟨rfl, rfl, trivial⟩, h4⟩))))
  · rintro Fr _
    refine SO.v rfl (opv_move rfl) ?_
    exact SO.nilZ fun a w h1 h2 h3 h4 h5 => PZ.of h1 h3 h5 (.cons () (.cons () (.nil ⟨EnvAll.of h2 ⟨rfl, rfl, trivial⟩, h4⟩)))
  · rintro Fr _
    refine SO.v rfl (opv_nilCheck rfl) ?_
    exact SO.nilZ fun a w h1 h2 h3 h4 h5 => PZ.of h1 h3 h5 (.cons () (.cons () (.nil ⟨EnvAll.of h2 ⟨rfl, rfl, trivial⟩, h4⟩)))
  · rintro Fr _
    refine SO.v rfl (opv_fieldAddr Try.underlying44 rfl Try.sizeOf3 rfl rfl) ?_
    exact SO.nilZ fun a w h1 h2 h3 h4 h5 => PZ.of h1 h3 h5 (.cons () (.cons () (.nil ⟨EnvAll.of h2 ⟨rfl, rfl, trivial⟩, h4⟩)))
  · rintro Fr _ _
    refine SO.load1 rfl Try.isAgg3 rfl rfl ?_
    exact SO.nilZ fun a w h1 h2 h3 h4 h5 => PZ.of h1 h3 h5 (.cons () (.cons () (.cons () (.nil ⟨EnvAll.of h2 ⟨rfl, rfl, trivial⟩, h4⟩))))
  · rintro Fr _ _ _
    refine SO.v rfl (opv_idx Try.underlying41 Try.sizeOf66 hr1 rfl rfl hx34) ?_
    exact SO.nilZ fun a w h1 h2 h3 h4 h5 => PZ.of h1 h3 h5 (.cons () (.cons () (.cons () (.cons () (.nil ⟨EnvAll.of h2 ⟨rfl, rfl, rfl, trivial⟩, h4⟩)))))
  · rintro Fr _ _
    refine SO.loadIN rfl Try.isAgg66 Try.sizeOf66 (Rd.head hr1) hx34 rfl rfl rfl ?_
    exact SO.nilZ fun a w h1 h2 h3 h4 h5 => PZ.of h1 h3 h5 (.cons () (.cons () (.cons () (.nil ⟨EnvAll.of h2 ⟨rfl, rfl, trivial⟩, h4⟩))))
  · rintro Fr 
    refine SO.alloc rfl Try.zeroValue66 rfl (fun b35 => ?_)
    exact SO.nilZ fun a w h1 h2 h3 h4 h5 => PZ.of h1 h3 h5 (.cons b35 (.nil ⟨EnvAll.of h2 ⟨rfl, trivial⟩, h4⟩))
  · rintro Fr _ b35
    refine SO.storeN Try.sizeOf66 rfl rfl rfl rfl rfl rfl ?_
    exact SO.nilZ fun a w h1 h2 h3 h4 h5 => PZ.of h1 h3 h5 (.cons () (.cons b35 (.nil ⟨EnvAll.of h2 ⟨rfl, rfl, trivial⟩, h4⟩)))
  rintro _ _ b35 _ _ _ _ _
  refine S.to (ρ' := [(0, bp bp0 0), (1, bp bp1 0), (4, .int .i64 0), (7, bp b35 0)]) ⟨rfl, rfl, rfl, rfl, trivial⟩ ?_
  refine S.seq ?_
  obtain ⟨j8_3, hC3, hJ3⟩ := opt_bind h
  clear h
  refine S.cutP (G := Unit) (fun _ => True) (fun _ => [(0, bp bp0 0), (1, bp bp1 0), (4, .int .i64 0), (7, bp b35 0), (8, .bool j8_3)]) (fun _ => [Box b35 [.int .i64 x33.Cell, .int .u32 x33.Version, .int .u64 x33.New, .bool x33.Write], Box bp0 [.int .i64 a0.Mark, v0_L, .int .i64 a0.Status, .int .i64 a0.At], Own 66 ek_ref07_Entry v0_L a0.L, Own 55 ek_api_Cell v1_L a1.L, Box bp1 [v1_L, .int .u32 a1.Limit], F]) (fun hk3 => ?_) ?_
  · replace h := hC3
    rcases bool_or (decide (x33.Cell < 0)) with b36 | b36
    · replace h := cond_t b36 h
      refine S.draw2 (Y := fun Q => ∃ (_ _ _ _ _ _ _ _ _ : Unit), Q [(7, bp b35 0), (1, bp bp1 0), (0, bp bp0 0), (4, .int .i64 0)] [Box b35 [.int .i64 x33.Cell, .int .u32 x33.Version, .int .u64 x33.New, .bool x33.Write], Box bp0 [.int .i64 a0.Mark, v0_L, .int .i64 a0.Status, .int .i64 a0.At], Own 66 ek_ref07_Entry v0_L a0.L, Own 55 ek_api_Cell v1_L a1.L, Box bp1 [v1_L, .int .u32 a1.Limit], F]) (Z := fun Q => ∀ (_ _ _ _ _ _ _ _ _ _ : Unit), Q [(0, bp bp0 0), (4, .int .i64 0), (1, bp bp1 0), (7, bp b35 0), (8, .bool true)] [Box b35 [.int .i64 x33.Cell, .int .u32 x33.Version, .int .u64 x33.New, .bool x33.Write], Box bp0 [.int .i64 a0.Mark, v0_L, .int .i64 a0.Status, .int .i64 a0.At], Own 66 ek_ref07_Entry v0_L a0.L, Own 55 ek_api_Cell v1_L a1.L, Box bp1 [v1_L, .int .u32 a1.Limit], F]) (T := [tS 7 (bp b35 0), tS 1 (bp bp1 0), tE [(0, bp bp0 0), (4, .int .i64 0)], tR (Box b35 [.int .i64 x33.Cell, .int .u32 x33.Version, .int .u64 x33.New, .bool x33.Write]), tR (Box bp0 [.int .i64 a0.Mark, v0_L, .int .i64 a0.Status, .int .i64 a0.At]), tR (Own 66 ek_ref07_Entry v0_L a0.L), tR (Own 55 ek_api_Cell v1_L a1.L), tR (Box bp1 [v1_L, .int .u32 a1.Limit]), tR (F), tS 116 (bp b35 0), tS 117 (.int .i64 x33.Cell), tS 118 (.bool (decide (x33.Cell < 0))), tS 119 (.bool (decide (x33.Cell < 0))), tS 120 (undef), tS 121 (undef), tS 122 (undef), tS 123 (undef), tS 124 (undef), tS 125 (undef), tS 126 (undef), tS 127 (undef), tS 128 (.bool true), tS 8 (.bool true)]) (D := [⟨[0], [], [9]⟩, ⟨[9, 3], [], [10]⟩, ⟨[10], [], [11]⟩, ⟨[11], [], [12]⟩, ⟨[12], [], [13]⟩, ⟨[12], [], [14]⟩, ⟨[12], [], [15]⟩, ⟨[12], [], [16]⟩, ⟨[12], [], [17]⟩, ⟨[12], [], [18]⟩, ⟨[12], [], [19]⟩, ⟨[12], [], [20]⟩, ⟨[12, 20], [], [21]⟩, ⟨[21], [], [22]⟩]) (ini := [0, 1, 2, 3, 4, 5, 6, 7, 8]) (fin := [2, 1, 0, 22, 3, 4, 5, 6, 7, 8]) (bf := [[], [0], [0, 1], [0, 1, 2], [0, 1, 2, 3], [0, 1, 2, 3, 4], [0, 1, 2, 3], [0, 1, 2, 3, 6], [0, 1, 2, 3, 6, 7], [0, 1, 2, 3, 6, 7, 8], [0, 1, 2, 3, 6, 7, 8, 9], [0, 1, 2, 3, 4, 5, 6, 7, 8, 9, 10], [0, 1, 2, 3, 4, 5, 6, 7, 8, 9, 10, 11], [0, 1, 2, 3, 4, 5, 6, 7, 8, 9, 10, 11, 12]]) (by kernel_rfl) (by kernel_rfl) (fun Q => by kernel_rfl) (fun x w h1 h2 => ⟨(), (), (), (), (), (), (), (), (), EnvAll.of h1 ⟨rfl, rfl, rfl, rfl, trivial⟩, h2⟩) (fun Q => by kernel_rfl) ⟨?_, ?_, ?_, ?_, ?_, ?_, ?_, ?_, ?_, ?_, ?_, ?_, ?_, ?_, trivial⟩ ?_
      · rintro Fr _
        refine SO.v rfl (opv_fieldAddr Try.underlying66 rfl Try.sizeOf3 rfl rfl) ?_
        exact SO.nilZ fun a w h1 h2 h3 h4 h5 => PZ.of h1 h3 h5 (.cons () (.cons () (.nil ⟨EnvAll.of h2 ⟨rfl, rfl, trivial⟩, h4⟩)))
      · rintro Fr _ _
        refine SO.load1 rfl Try.isAgg3 rfl rfl ?_
        exact SO.nilZ fun a w h1 h2 h3 h4 h5 => PZ.of h1 h3 h5 (.cons () (.cons () (.cons () (.nil ⟨EnvAll.of h2 ⟨rfl, rfl, trivial⟩, h4⟩))))
      · rintro Fr _
        refine SO.v rfl (opv_lss rfl rfl) ?_
        exact SO.nilZ fun a w h1 h2 h3 h4 h5 => PZ.of h1 h3 h5 (.cons () (.cons () (.nil ⟨EnvAll.of h2 ⟨rfl, rfl, trivial⟩, h4⟩)))
      · rintro Fr _
        refine SO.v rfl (opv_move rfl) ?_
        exact SO.nilZ fun a w h1 h2 h3 h4 h5 => PZ.of h1 h3 h5 (.cons () (.cons () (.nil ⟨EnvAll.of h2 ⟨rfl, rfl, trivial⟩, h4⟩)))
      · rintro Fr _
        refine SO.passF rfl rfl rfl b36 rfl rfl ?_
        exact SO.nilZ fun a w h1 h2 h3 h4 h5 => PZ.of h1 h3 h5 (.cons () (.cons () (.nil ⟨EnvAll.of h2 ⟨rfl, rfl, trivial⟩, h4⟩)))
      · rintro Fr _
        refine SO.passF rfl rfl rfl b36 rfl rfl ?_
        exact SO.nilZ fun a w h1 h2 h3 h4 h5 => PZ.of h1 h3 h5 (.cons () (.cons () (.nil ⟨EnvAll.of h2 ⟨rfl, rfl, trivial⟩, h4⟩)))
      · rintro Fr _
        refine SO.passF rfl rfl rfl b36 rfl rfl ?_
        exact SO.nilZ fun a w h1 h2 h3 h4 h5 => PZ.of h1 h3 h5 (.cons () (.cons () (.nil ⟨EnvAll.of h2 ⟨rfl, rfl, trivial⟩, h4⟩)))
      · rintro Fr _
        refine SO.passF rfl rfl rfl b36 rfl rfl ?_
        exact SO.nilZ fun a w h1 h2 h3 h4 h5 => PZ.of h1 h3 h5 (.cons () (.cons () (.nil ⟨EnvAll.of h2 ⟨rfl, rfl, trivial⟩, h4⟩)))
      · rintro Fr _
        refine SO.passF rfl rfl rfl b36 rfl rfl ?_
        exact SO.nilZ fun a w h1 h2 h3 h4 h5 => PZ.of h1 h3 h5 (.cons () (.cons () (.nil ⟨EnvAll.of h2 ⟨rfl, rfl, trivial⟩, h4⟩)))
      · rintro Fr _
        refine SO.passF rfl rfl rfl b36 rfl rfl ?_
        exact SO.nilZ fun a w h1 h2 h3 h4 h5 => PZ.of h1 h3 h5 (.cons () (.cons () (.nil ⟨EnvAll.of h2 ⟨rfl, rfl, trivial⟩, h4⟩)))
      · rintro Fr _
        refine SO.passF rfl rfl rfl b36 rfl rfl ?_
        exact SO.nilZ fun a w h1 h2 h3 h4 h5 => PZ.of h1 h3 h5 (.cons () (.cons () (.nil ⟨EnvAll.of h2 ⟨rfl, rfl, trivial⟩, h4⟩)))
      · rintro Fr _
        refine SO.passF rfl rfl rfl b36 rfl rfl ?_
        exact SO.nilZ fun a w h1 h2 h3 h4 h5 => PZ.of h1 h3 h5 (.cons () (.cons () (.nil ⟨EnvAll.of h2 ⟨rfl, rfl, trivial⟩, h4⟩)))
      · rintro Fr _ _
        refine SO.v rfl (opv_pick_t' b36 rfl rfl) ?_
        exact SO.nilZ fun a w h1 h2 h3 h4 h5 => PZ.of h1 h3 h5 (.cons () (.cons () (.cons () (.nil ⟨EnvAll.of h2 ⟨rfl, rfl, rfl, trivial⟩, h4⟩))))
      · rintro Fr _
        refine SO.v rfl (opv_assign rfl) ?_
        exact SO.nilZ fun a w h1 h2 h3 h4 h5 => PZ.of h1 h3 h5 (.cons () (.cons () (.nil ⟨EnvAll.of h2 ⟨rfl, rfl, trivial⟩, h4⟩)))
      rintro _ _ _ _ _ _ _ _ _ _
      refine S.to (ρ' := [(0, bp bp0 0), (4, .int .i64 0), (1, bp bp1 0), (7, bp b35 0), (8, .bool true)]) ⟨rfl, rfl, rfl, rfl, rfl, trivial⟩ ?_
      cases h
      refine S.b5 ?_
      refine S.b5 ?_
      refine S.b5 ?_
      refine S.b5 ?_
      refine S.b5 ?_
      refine S.b5 ?_
      refine S.to ?_ (hk3 () trivial)
      exact ⟨rfl, rfl, rfl, rfl, rfl, trivial⟩
    replace h := cond_f b36 h
    refine S.draw2 (Y := fun Q => ∃ (_ _ _ _ _ _ _ _ _ : Unit), Q [(7, bp b35 0), (1, bp bp1 0), (0, bp bp0 0), (4, .int .i64 0)] [Box b35 [.int .i64 x33.Cell, .int .u32 x33.Version, .int .u64 x33.New, .bool x33.Write], Box bp0 [.int .i64 a0.Mark, v0_L, .int .i64 a0.Status, .int .i64 a0.At], Own 66 ek_ref07_Entry v0_L a0.L, Own 55 ek_api_Cell v1_L a1.L, Box bp1 [v1_L, .int .u32 a1.Limit], F]) (Z := fun Q => ∀ (_ _ _ _ _ _ _ _ _ _ : Unit), Q [(0, bp bp0 0), (4, .int .i64 0), (1, bp bp1 0), (7, bp b35 0), (8, .bool (decide ((a1.L.length : Int) ≤ x33.Cell)))] [Box b35 [.int .i64 x33.Cell, .int .u32 x33.Version, .int .u64 x33.New, .bool x33.Write], Box bp0 [.int .i64 a0.Mark, v0_L, .int .i64 a0.Status, .int .i64 a0.At], Own 66 ek_ref07_Entry v0_L a0.L, Own 55 ek_api_Cell v1_L a1.L, Box bp1 [v1_L, .int .u32 a1.Limit], F]) (T := [tS 7 (bp b35 0), tS 1 (bp bp1 0), tE [(0, bp bp0 0), (4, .int .i64 0)], tR (Box b35 [.int .i64 x33.Cell, .int .u32 x33.Version, .int .u64 x33.New, .bool x33.Write]), tR (Box bp0 [.int .i64 a0.Mark, v0_L, .int .i64 a0.Status, .int .i64 a0.At]), tR (Own 66 ek_ref07_Entry v0_L a0.L), tR (Own 55 ek_api_Cell v1_L a1.L), tR (Box bp1 [v1_L, .int .u32 a1.Limit]), tR (F), tS 116 (bp b35 0), tS 117 (.int .i64 x33.Cell), tS 118 (.bool (decide (x33.Cell < 0))), tS 119 (.bool (decide (x33.Cell < 0))), tS 120 (bp b35 0), tS 121 (.int .i64 x33.Cell), tS 122 (bp bp1 0), tS 123 (bp bp1 0), tS 124 (bp bp1 0), tS 125 (v1_L), tS 126 (.int .i64 (a1.L.length : Int)), tS 127 (.bool (decide ((a1.L.length : Int) ≤ x33.Cell))), tS 128 (.bool (decide ((a1.L.length : Int) ≤ x33.Cell))), tS 8 (.bool (decide ((a1.L.length : Int) ≤ x33.Cell)))]) (D := [⟨[0], [], [9]⟩, ⟨[9, 3], [], [10]⟩, ⟨[10], [], [11]⟩, ⟨[11], [], [12]⟩, ⟨[0, 12], [], [13]⟩, ⟨[12, 13, 3], [], [14]⟩, ⟨[1, 12], [], [15]⟩, ⟨[12, 15], [], [16]⟩, ⟨[12, 16], [], [17]⟩, ⟨[12, 17, 7], [], [18]⟩, ⟨[12, 18, 6], [], [19]⟩, ⟨[12, 14, 19], [], [20]⟩, ⟨[12, 20], [], [21]⟩, ⟨[21], [], [22]⟩]) (ini := [0, 1, 2, 3, 4, 5, 6, 7, 8]) (fin := [2, 1, 0, 22, 3, 4, 5, 6, 7, 8]) (bf := [[], [0], [0, 1], [0, 1, 2], [0, 1, 2, 3], [0, 1, 2, 3, 4], [0, 1, 2, 3], [0, 1, 2, 3, 6], [0, 1, 2, 3, 6, 7], [0, 1, 2, 3, 6, 7, 8], [0, 1, 2, 3, 6, 7, 8, 9], [0, 1, 2, 3, 4, 5, 6, 7, 8, 9, 10], [0, 1, 2, 3, 4, 5, 6, 7, 8, 9, 10, 11], [0, 1, 2, 3, 4, 5, 6, 7, 8, 9, 10, 11, 12]]) (by kernel_rfl) (by kernel_rfl) (fun Q => by kernel_rfl) (fun x w h1 h2 => ⟨(), (), (), (), (), (), (), (), (), EnvAll.of h1 ⟨rfl, rfl, rfl, rfl, trivial⟩, h2⟩) (fun Q => by kernel_rfl) ⟨?_, ?_, ?_, ?_, ?_, ?_, ?_, ?_, ?_, ?_, ?_, ?_, ?_, ?_, trivial⟩ ?_
    · rintro Fr _
      refine SO.v rfl (opv_fieldAddr Try.underlying66 rfl Try.sizeOf3 rfl rfl) ?_
      exact SO.nilZ fun a w h1 h2 h3 h4 h5 => PZ.of h1 h3 h5 (.cons () (.cons () (.nil ⟨EnvAll.of h2 ⟨rfl, rfl, trivial⟩, h4⟩)))
    · rintro Fr _ _
      refine SO.load1 rfl Try.isAgg3 rfl rfl ?_
      exact SO.nilZ fun a w h1 h2 h3 h4 h5 => PZ.of h1 h3 h5 (.cons () (.cons () (.cons () (.nil ⟨EnvAll.of h2 ⟨rfl, rfl, trivial⟩, h4⟩))))
    · rintro Fr _
      refine SO.v rfl (opv_lss rfl rfl) ?_
      exact SO.nilZ fun a w h1 h2 h3 h4 h5 => PZ.of h1 h3 h5 (.cons () (.cons () (.nil ⟨EnvAll.of h2 ⟨rfl, rfl, trivial⟩, h4⟩)))
    · rintro Fr _
      refine SO.v rfl (opv_move rfl) ?_
      exact SO.nilZ fun a w h1 h2 h3 h4 h5 => PZ.of h1 h3 h5 (.cons () (.cons () (.nil ⟨EnvAll.of h2 ⟨rfl, rfl, trivial⟩, h4⟩)))
    · rintro Fr _ _
      refine SO.takeT rfl rfl rfl b36 ?_
      refine SO.v rfl (opv_fieldAddr Try.underlying66 rfl Try.sizeOf3 rfl rfl) ?_
      exact SO.nilZ fun a w h1 h2 h3 h4 h5 => PZ.of h1 h3 h5 (.cons () (.cons () (.cons () (.nil ⟨EnvAll.of h2 ⟨rfl, rfl, rfl, trivial⟩, h4⟩))))
    · rintro Fr _ _ _
      refine SO.takeT rfl rfl rfl b36 ?_
      refine SO.load1 rfl Try.isAgg3 rfl rfl ?_
      exact SO.nilZ fun a w h1 h2 h3 h4 h5 => PZ.of h1 h3 h5 (.cons () (.cons () (.cons () (.cons () (.nil ⟨EnvAll.of h2 ⟨rfl, rfl, rfl, trivial⟩, h4⟩)))))
    · rintro Fr _ _
      refine SO.takeT rfl rfl rfl b36 ?_
      refine SO.v rfl (opv_move rfl) ?_
      exact SO.nilZ fun a w h1 h2 h3 h4 h5 => PZ.of h1 h3 h5 (.cons () (.cons () (.cons () (.nil ⟨EnvAll.of h2 ⟨rfl, rfl, rfl, trivial⟩, h4⟩))))
    · rintro Fr _ _
      refine SO.takeT rfl rfl rfl b36 ?_
      refine SO.v rfl (opv_nilCheck rfl) ?_
      exact SO.nilZ fun a w h1 h2 h3 h4 h5 => PZ.of h1 h3 h5 (.cons () (.cons () (.cons () (.nil ⟨EnvAll.of h2 ⟨rfl, rfl, rfl, trivial⟩, h4⟩))))
    · rintro Fr _ _
      refine SO.takeT rfl rfl rfl b36 ?_
      refine SO.v rfl (opv_fieldAddr Try.underlying34 rfl Try.sizeOf32 rfl rfl) ?_
      exact SO.nilZ fun a w h1 h2 h3 h4 h5 => PZ.of h1 h3 h5 (.cons () (.cons () (.cons () (.nil ⟨EnvAll.of h2 ⟨rfl, rfl, rfl, trivial⟩, h4⟩))))
    · rintro Fr _ _ _
      refine SO.takeT rfl rfl rfl b36 ?_
      refine SO.load1 rfl Try.isAgg32 rfl rfl ?_
      exact SO.nilZ fun a w h1 h2 h3 h4 h5 => PZ.of h1 h3 h5 (.cons () (.cons () (.cons () (.cons () (.nil ⟨EnvAll.of h2 ⟨rfl, rfl, rfl, trivial⟩, h4⟩)))))
    · rintro Fr _ _ _
      refine SO.takeT rfl rfl rfl b36 ?_
      refine SO.v rfl (opv_lenR rfl Try.underlying32 hr2 rfl) ?_
      exact SO.nilZ fun a w h1 h2 h3 h4 h5 => PZ.of h1 h3 h5 (.cons () (.cons () (.cons () (.cons () (.nil ⟨EnvAll.of h2 ⟨rfl, rfl, rfl, trivial⟩, h4⟩)))))
    · rintro Fr _ _ _
      refine SO.takeT rfl rfl rfl b36 ?_
      refine SO.v rfl (opv_geq rfl rfl) ?_
      exact SO.nilZ fun a w h1 h2 h3 h4 h5 => PZ.of h1 h3 h5 (.cons () (.cons () (.cons () (.cons () (.nil ⟨EnvAll.of h2 ⟨rfl, rfl, rfl, rfl, trivial⟩, h4⟩)))))
    · rintro Fr _ _
      refine SO.v rfl (opv_pick_f' b36 rfl rfl) ?_
      exact SO.nilZ fun a w h1 h2 h3 h4 h5 => PZ.of h1 h3 h5 (.cons () (.cons () (.cons () (.nil ⟨EnvAll.of h2 ⟨rfl, rfl, rfl, trivial⟩, h4⟩))))
    · rintro Fr _
      refine SO.v rfl (opv_assign rfl) ?_
      exact SO.nilZ fun a w h1 h2 h3 h4 h5 => PZ.of h1 h3 h5 (.cons () (.cons () (.nil ⟨EnvAll.of h2 ⟨rfl, rfl, trivial⟩, h4⟩)))
    rintro _ _ _ _ _ _ _ _ _ _
    refine S.to (ρ' := [(0, bp bp0 0), (4, .int .i64 0), (1, bp bp1 0), (7, bp b35 0), (8, .bool (decide ((a1.L.length : Int) ≤ x33.Cell)))]) ⟨rfl, rfl, rfl, rfl, rfl, trivial⟩ ?_
    cases h
    refine S.b5 ?_
    refine S.b5 ?_
    refine S.b5 ?_
    refine S.b5 ?_
    refine S.b5 ?_
    refine S.b5 ?_
    refine S.to ?_ (hk3 () trivial)
    exact ⟨rfl, rfl, rfl, rfl, rfl, trivial⟩
  rintro _ -
  replace h := hJ3
  refine S.seq ?_
  refine S.seq ?_
  refine S.region ?_
  refine SO.v rfl (opv_move rfl) ?_
  refine SO.v rfl (opv_not rfl) ?_
  refine SO.nil ?_
  obtain ⟨o4, hC4, hJ4⟩ := opt_bind h
  clear h
  refine S.cutP (G := Bool × Unit) (fun x => o4 = Brk.nx x.1) (fun x => match x with | (j8_4, _) => [(0, bp bp0 0), (1, bp bp1 0), (4, .int .i64 0), (7, bp b35 0), (8, .bool j8_4)]) (fun x => match x with | (j8_4, _) => [Box b35 [.int .i64 x33.Cell, .int .u32 x33.Version, .int .u64 x33.New, .bool x33.Write], Box bp0 [.int .i64 a0.Mark, v0_L, .int .i64 a0.Status, .int .i64 a0.At], Own 66 ek_ref07_Entry v0_L a0.L, Own 55 ek_api_Cell v1_L a1.L, Box bp1 [v1_L, .int .u32 a1.Limit], F]) (fun hk4 => ?_) ?_
  · replace h := hC4
    rcases bool_or (!j8_3) with b37 | b37
    · replace h := cond_t b37 h
      refine S.condT rfl b37 ?_
      refine S.seq ?_
      obtain ⟨x38, hx39, h⟩ := opt_bind h
      refine S.draw2 (Y := fun Q => ∃ (_ _ _ _ _ _ _ _ _ : Unit), Q [(1, bp bp1 0), (7, bp b35 0), (0, bp bp0 0), (4, .int .i64 0)] [Box b35 [.int .i64 x33.Cell, .int .u32 x33.Version, .int .u64 x33.New, .bool x33.Write], Box bp0 [.int .i64 a0.Mark, v0_L, .int .i64 a0.Status, .int .i64 a0.At], Own 66 ek_ref07_Entry v0_L a0.L, Own 55 ek_api_Cell v1_L a1.L, Box bp1 [v1_L, .int .u32 a1.Limit], F]) (Z := fun Q => ∀ (_ _ _ : Unit) (b40 : Nat) (_ _ _ _ _ _ : Unit), Q [(0, bp bp0 0), (4, .int .i64 0), (1, bp bp1 0), (7, bp b35 0), (9, bp b40 0)] [Box b40 [.int .u64 x38.Value, .int .u32 x38.Version, .int .i64 x38.Mark], Box b35 [.int .i64 x33.Cell, .int .u32 x33.Version, .int .u64 x33.New, .bool x33.Write], Box bp0 [.int .i64 a0.Mark, v0_L, .int .i64 a0.Status, .int .i64 a0.At], Own 66 ek_ref07_Entry v0_L a0.L, Own 55 ek_api_Cell v1_L a1.L, Box bp1 [v1_L, .int .u32 a1.Limit], F]) (T := [tS 1 (bp bp1 0), tS 7 (bp b35 0), tE [(0, bp bp0 0), (4, .int .i64 0)], tR (Box b35 [.int .i64 x33.Cell, .int .u32 x33.Version, .int .u64 x33.New, .bool x33.Write]), tR (Box bp0 [.int .i64 a0.Mark, v0_L, .int .i64 a0.Status, .int .i64 a0.At]), tR (Own 66 ek_ref07_Entry v0_L a0.L), tR (Own 55 ek_api_Cell v1_L a1.L), tR (Box bp1 [v1_L, .int .u32 a1.Limit]), tR (F), tS 131 (bp bp1 0), tS 132 (bp bp1 0), tS 133 (bp bp1 0), tS 134 (v1_L), tS 135 (bp b35 0), tS 136 (.int .i64 x33.Cell), tS 137 (idxp v1_L (x33.Cell.toNat * ek_api_Cell.sz)), tS 138 (.agg #[.int .u64 x38.Value, .int .u32 x38.Version, .int .i64 x38.Mark]), ⟨Nat, [9], (fun b40 => [(9, bp b40 0)]), (fun b40 => [Box b40 [.int .u64 0, .int .u32 0, .int .i64 0]]), fun _ => rfl⟩, ⟨Nat, [9], (fun b40 => [(9, bp b40 0)]), (fun b40 => [Box b40 [.int .u64 x38.Value, .int .u32 x38.Version, .int .i64 x38.Mark]]), fun _ => rfl⟩]) (D := [⟨[0], [], [9]⟩, ⟨[9], [], [10]⟩, ⟨[10], [], [11]⟩, ⟨[11, 7], [], [12]⟩, ⟨[1], [], [13]⟩, ⟨[13, 3], [], [14]⟩, ⟨[12, 14, 6], [], [15]⟩, ⟨[15, 6], [], [16]⟩, ⟨[], [], [17]⟩, ⟨[16], [17], [18]⟩]) (ini := [0, 1, 2, 3, 4, 5, 6, 7, 8]) (fin := [2, 0, 1, 18, 3, 4, 5, 6, 7, 8]) (bf := [[], [0], [0, 1], [0, 1, 2], [], [4], [0, 1, 2, 3, 4, 5], [0, 1, 2, 3, 4, 5, 6], [], [0, 1, 2, 3, 4, 5, 6, 7, 8]]) (by kernel_rfl) (by kernel_rfl) (fun Q => by kernel_rfl) (fun x w h1 h2 => ⟨(), (), (), (), (), (), (), (), (), EnvAll.of h1 ⟨rfl, rfl, rfl, rfl, trivial⟩, h2⟩) (fun Q => by kernel_rfl) ⟨?_, ?_, ?_, ?_, ?_, ?_, ?_, ?_, ?_, ?_, trivial⟩ ?_
      · rintro Fr _
        refine SO.v rfl (opv_move rfl) ?_
        exact SO.nilZ fun a w h1 h2 h3 h4 h5 => PZ.of h1 h3 h5 (.cons () (.cons () (.nil ⟨EnvAll.of h2 ⟨rfl, rfl, trivial⟩, h4⟩)))
      · rintro Fr _
        refine SO.v rfl (opv_nilCheck rfl) ?_
        exact SO.nilZ fun a w h1 h2 h3 h4 h5 => PZ.of h1 h3 h5 (.cons () (.cons () (.nil ⟨EnvAll.of h2 ⟨rfl, rfl, trivial⟩, h4⟩)))
      · rintro Fr _
        refine SO.v rfl (opv_fieldAddr Try.underlying34 rfl Try.sizeOf32 rfl rfl) ?_
        exact SO.nilZ fun a w h1 h2 h3 h4 h5 => PZ.of h1 h3 h5 (.cons () (.cons () (.nil ⟨EnvAll.of h2 ⟨rfl, rfl, trivial⟩, h4⟩)))
      · rintro Fr _ _
        refine SO.load1 rfl Try.isAgg32 rfl rfl ?_
        exact SO.nilZ fun a w h1 h2 h3 h4 h5 => PZ.of h1 h3 h5 (.cons () (.cons () (.cons () (.nil ⟨EnvAll.of h2 ⟨rfl, rfl, trivial⟩, h4⟩))))
      · rintro Fr _
        refine SO.v rfl (opv_fieldAddr Try.underlying66 rfl Try.sizeOf3 rfl rfl) ?_
        exact SO.nilZ fun a w h1 h2 h3 h4 h5 => PZ.of h1 h3 h5 (.cons () (.cons () (.nil ⟨EnvAll.of h2 ⟨rfl, rfl, trivial⟩, h4⟩)))
      · rintro Fr _ _
        refine SO.load1 rfl Try.isAgg3 rfl rfl ?_
        exact SO.nilZ fun a w h1 h2 h3 h4 h5 => PZ.of h1 h3 h5 (.cons () (.cons () (.cons () (.nil ⟨EnvAll.of h2 ⟨rfl, rfl, trivial⟩, h4⟩))))
      · rintro Fr _ _ _
        refine SO.v rfl (opv_idx Try.underlying32 Try.sizeOf55 hr2 rfl rfl hx39) ?_
        exact SO.nilZ fun a w h1 h2 h3 h4 h5 => PZ.of h1 h3 h5 (.cons () (.cons () (.cons () (.cons () (.nil ⟨EnvAll.of h2 ⟨rfl, rfl, rfl, trivial⟩, h4⟩)))))
      · rintro Fr _ _
        refine SO.loadIN rfl Try.isAgg55 Try.sizeOf55 (Rd.head hr2) hx39 rfl rfl rfl ?_
        exact SO.nilZ fun a w h1 h2 h3 h4 h5 => PZ.of h1 h3 h5 (.cons () (.cons () (.cons () (.nil ⟨EnvAll.of h2 ⟨rfl, rfl, trivial⟩, h4⟩))))
      · rintro Fr 
        refine SO.alloc rfl Try.zeroValue55 rfl (fun b40 => ?_)
        exact SO.nilZ fun a w h1 h2 h3 h4 h5 => PZ.of h1 h3 h5 (.cons b40 (.nil ⟨EnvAll.of h2 ⟨rfl, trivial⟩, h4⟩))
      · rintro Fr _ b40
        refine SO.storeN Try.sizeOf55 rfl rfl rfl rfl rfl rfl ?_
        exact SO.nilZ fun a w h1 h2 h3 h4 h5 => PZ.of h1 h3 h5 (.cons () (.cons b40 (.nil ⟨EnvAll.of h2 ⟨rfl, rfl, trivial⟩, h4⟩)))
      rintro _ _ _ b40 _ _ _ _ _ _
      refine S.to (ρ' := [(0, bp bp0 0), (4, .int .i64 0), (1, bp bp1 0), (7, bp b35 0), (9, bp b40 0)]) ⟨rfl, rfl, rfl, rfl, rfl, trivial⟩ ?_
      refine S.seq ?_
      refine S.seq ?_
      obtain ⟨j150_5, hC5, hJ5⟩ := opt_bind h
      clear h
      refine S.cutP (G := Unit) (fun _ => True) (fun _ => [(0, bp bp0 0), (1, bp bp1 0), (4, .int .i64 0), (7, bp b35 0), (9, bp b40 0), (150, .bool j150_5)]) (fun _ => [Box b40 [.int .u64 x38.Value, .int .u32 x38.Version, .int .i64 x38.Mark], Box b35 [.int .i64 x33.Cell, .int .u32 x33.Version, .int .u64 x33.New, .bool x33.Write], Box bp0 [.int .i64 a0.Mark, v0_L, .int .i64 a0.Status, .int .i64 a0.At], Own 66 ek_ref07_Entry v0_L a0.L, Own 55 ek_api_Cell v1_L a1.L, Box bp1 [v1_L, .int .u32 a1.Limit], F]) (fun hk5 => ?_) ?_
      · replace h := hC5
        rcases bool_or (x38.Mark != 0) with b41 | b41
        · replace h := cond_t b41 h
          refine S.draw2 (Y := fun Q => ∃ (_ _ _ _ _ _ _ _ _ _ : Unit), Q [(9, bp b40 0), (0, bp bp0 0), (4, .int .i64 0), (1, bp bp1 0), (7, bp b35 0)] [Box b40 [.int .u64 x38.Value, .int .u32 x38.Version, .int .i64 x38.Mark], Box b35 [.int .i64 x33.Cell, .int .u32 x33.Version, .int .u64 x33.New, .bool x33.Write], Box bp0 [.int .i64 a0.Mark, v0_L, .int .i64 a0.Status, .int .i64 a0.At], Own 66 ek_ref07_Entry v0_L a0.L, Own 55 ek_api_Cell v1_L a1.L, Box bp1 [v1_L, .int .u32 a1.Limit], F]) (Z := fun Q => ∀ (_ _ _ _ _ _ _ _ _ _ _ : Unit), Q [(0, bp bp0 0), (4, .int .i64 0), (1, bp bp1 0), (7, bp b35 0), (9, bp b40 0), (150, .bool (x38.Mark != a0.Mark))] [Box b40 [.int .u64 x38.Value, .int .u32 x38.Version, .int .i64 x38.Mark], Box b35 [.int .i64 x33.Cell, .int .u32 x33.Version, .int .u64 x33.New, .bool x33.Write], Box bp0 [.int .i64 a0.Mark, v0_L, .int .i64 a0.Status, .int .i64 a0.At], Own 66 ek_ref07_Entry v0_L a0.L, Own 55 ek_api_Cell v1_L a1.L, Box bp1 [v1_L, .int .u32 a1.Limit], F]) (T := [tS 9 (bp b40 0), tS 0 (bp bp0 0), tE [(4, .int .i64 0), (1, bp bp1 0), (7, bp b35 0)], tR (Box b40 [.int .u64 x38.Value, .int .u32 x38.Version, .int .i64 x38.Mark]), tR (Box b35 [.int .i64 x33.Cell, .int .u32 x33.Version, .int .u64 x33.New, .bool x33.Write]), tR (Box bp0 [.int .i64 a0.Mark, v0_L, .int .i64 a0.Status, .int .i64 a0.At]), tR (Own 66 ek_ref07_Entry v0_L a0.L), tR (Own 55 ek_api_Cell v1_L a1.L), tR (Box bp1 [v1_L, .int .u32 a1.Limit]), tR (F), tS 139 (bp b40 2), tS 140 (.int .i64 x38.Mark), tS 141 (.bool (x38.Mark != 0)), tS 142 (.bool (x38.Mark != 0)), tS 143 (bp b40 2), tS 144 (.int .i64 x38.Mark), tS 145 (bp bp0 0), tS 146 (bp bp0 0), tS 147 (bp bp0 0), tS 148 (.int .i64 a0.Mark), tS 149 (.bool (x38.Mark != a0.Mark)), tS 150 (.bool (x38.Mark != a0.Mark))]) (D := [⟨[0], [], [10]⟩, ⟨[10, 3], [], [11]⟩, ⟨[11], [], [12]⟩, ⟨[12], [], [13]⟩, ⟨[0, 13], [], [14]⟩, ⟨[13, 14, 3], [], [15]⟩, ⟨[1, 13], [], [16]⟩, ⟨[13, 16], [], [17]⟩, ⟨[13, 17], [], [18]⟩, ⟨[13, 18, 5], [], [19]⟩, ⟨[13, 15, 19], [], [20]⟩, ⟨[13, 20], [], [21]⟩]) (ini := [0, 1, 2, 3, 4, 5, 6, 7, 8, 9]) (fin := [1, 2, 0, 21, 3, 4, 5, 6, 7, 8, 9]) (bf := [[], [0], [0, 1], [0, 1, 2], [0, 1, 2, 3], [0, 1, 2, 3, 4], [0, 1, 2, 3], [0, 1, 2, 3, 6], [0, 1, 2, 3, 6, 7], [0, 1, 2, 3, 6, 7, 8], [0, 1, 2, 3, 4, 5, 6, 7, 8, 9], [0, 1, 2, 3, 4, 5, 6, 7, 8, 9, 10]]) (by kernel_rfl) (by kernel_rfl) (fun Q => by kernel_rfl) (fun x w h1 h2 => ⟨(), (), (), (), (), (), (), (), (), (), EnvAll.of h1 ⟨rfl, rfl, rfl, rfl, rfl, trivial⟩, h2⟩) (fun Q => by kernel_rfl) ⟨?_, ?_, ?_, ?_, ?_, ?_, ?_, ?_, ?_, ?_, ?_, ?_, trivial⟩ ?_
          · rintro Fr _
            refine SO.v rfl (opv_fieldAddr Try.underlying55 rfl Try.sizeOf3 rfl rfl) ?_
            exact SO.nilZ fun a w h1 h2 h3 h4 h5 => PZ.of h1 h3 h5 (.cons () (.cons () (.nil ⟨EnvAll.of h2 ⟨rfl, rfl, trivial⟩, h4⟩)))
          · rintro Fr _ _
            refine SO.load1 rfl Try.isAgg3 rfl rfl ?_
            exact SO.nilZ fun a w h1 h2 h3 h4 h5 => PZ.of h1 h3 h5 (.cons () (.cons () (.cons () (.nil ⟨EnvAll.of h2 ⟨rfl, rfl, trivial⟩, h4⟩))))
          · rintro Fr _
            refine SO.v rfl (opv_neq rfl rfl) ?_
            exact SO.nilZ fun a w h1 h2 h3 h4 h5 => PZ.of h1 h3 h5 (.cons () (.cons () (.nil ⟨EnvAll.of h2 ⟨rfl, rfl, trivial⟩, h4⟩)))
          · rintro Fr _
            refine SO.v rfl (opv_move rfl) ?_
            exact SO.nilZ fun a w h1 h2 h3 h4 h5 => PZ.of h1 h3 h5 (.cons () (.cons () (.nil ⟨EnvAll.of h2 ⟨rfl, rfl, trivial⟩, h4⟩)))
          · rintro Fr _ _
            refine SO.takeT rfl rfl rfl b41 ?_
            refine SO.v rfl (opv_fieldAddr Try.underlying55 rfl Try.sizeOf3 rfl rfl) ?_
            exact SO.nilZ fun a w h1 h2 h3 h4 h5 => PZ.of h1 h3 h5 (.cons () (.cons () (.cons () (.nil ⟨EnvAll.of h2 ⟨rfl, rfl, rfl, trivial⟩, h4⟩))))
          · rintro Fr _ _ _
            refine SO.takeT rfl rfl rfl b41 ?_
            refine SO.load1 rfl Try.isAgg3 rfl rfl ?_
            exact SO.nilZ fun a w h1 h2 h3 h4 h5 => PZ.of h1 h3 h5 (.cons () (.cons () (.cons () (.cons () (.nil ⟨EnvAll.of h2 ⟨rfl, rfl, rfl, trivial⟩, h4⟩)))))
          · rintro Fr _ _
            refine SO.takeT rfl rfl rfl b41 ?_
            refine SO.v rfl (opv_move rfl) ?_
            exact SO.nilZ fun a w h1 h2 h3 h4 h5 => PZ.of h1 h3 h5 (.cons () (.cons () (.cons () (.nil ⟨EnvAll.of h2 ⟨rfl, rfl, rfl, trivial⟩, h4⟩))))
          · rintro Fr _ _
            refine SO.takeT rfl rfl rfl b41 ?_
            refine SO.v rfl (opv_nilCheck rfl) ?_
            exact SO.nilZ fun a w h1 h2 h3 h4 h5 => PZ.of h1 h3 h5 (.cons () (.cons () (.cons () (.nil ⟨EnvAll.of h2 ⟨rfl, rfl, rfl, trivial⟩, h4⟩))))
          · rintro Fr _ _
            refine SO.takeT rfl rfl rfl b41 ?_
            refine SO.v rfl (opv_fieldAddr Try.underlying44 rfl Try.sizeOf3 rfl rfl) ?_
            exact SO.nilZ fun a w h1 h2 h3 h4 h5 => PZ.of h1 h3 h5 (.cons () (.cons () (.cons () (.nil ⟨EnvAll.of h2 ⟨rfl, rfl, rfl, trivial⟩, h4⟩))))
          · rintro Fr _ _ _
            refine SO.takeT rfl rfl rfl b41 ?_
            refine SO.load1 rfl Try.isAgg3 rfl rfl ?_
            exact SO.nilZ fun a w h1 h2 h3 h4 h5 => PZ.of h1 h3 h5 (.cons () (.cons () (.cons () (.cons () (.nil ⟨EnvAll.of h2 ⟨rfl, rfl, rfl, trivial⟩, h4⟩)))))
          · rintro Fr _ _ _
            refine SO.takeT rfl rfl rfl b41 ?_
            refine SO.v rfl (opv_neq rfl rfl) ?_
            exact SO.nilZ fun a w h1 h2 h3 h4 h5 => PZ.of h1 h3 h5 (.cons () (.cons () (.cons () (.cons () (.nil ⟨EnvAll.of h2 ⟨rfl, rfl, rfl, rfl, trivial⟩, h4⟩)))))
          · rintro Fr _ _
            refine SO.v rfl (opv_pick_t' b41 rfl rfl) ?_
            exact SO.nilZ fun a w h1 h2 h3 h4 h5 => PZ.of h1 h3 h5 (.cons () (.cons () (.cons () (.nil ⟨EnvAll.of h2 ⟨rfl, rfl, rfl, trivial⟩, h4⟩))))
          rintro _ _ _ _ _ _ _ _ _ _ _
          refine S.to (ρ' := [(0, bp bp0 0), (4, .int .i64 0), (1, bp bp1 0), (7, bp b35 0), (9, bp b40 0), (150, .bool (x38.Mark != a0.Mark))]) ⟨rfl, rfl, rfl, rfl, rfl, rfl, trivial⟩ ?_
          cases h
          refine S.b6 ?_
          refine S.b6 ?_
          refine S.b6 ?_
          refine S.b6 ?_
          refine S.b6 ?_
          refine S.b6 ?_
          refine S.b6 ?_
          refine S.to ?_ (hk5 () trivial)
          exact ⟨rfl, rfl, rfl, rfl, rfl, rfl, trivial⟩
        replace h := cond_f b41 h
        refine S.draw2 (Y := fun Q => ∃ (_ _ _ _ _ _ _ _ _ _ : Unit), Q [(9, bp b40 0), (0, bp bp0 0), (4, .int .i64 0), (1, bp bp1 0), (7, bp b35 0)] [Box b40 [.int .u64 x38.Value, .int .u32 x38.Version, .int .i64 x38.Mark], Box b35 [.int .i64 x33.Cell, .int .u32 x33.Version, .int .u64 x33.New, .bool x33.Write], Box bp0 [.int .i64 a0.Mark, v0_L, .int .i64 a0.Status, .int .i64 a0.At], Own 66 ek_ref07_Entry v0_L a0.L, Own 55 ek_api_Cell v1_L a1.L, Box bp1 [v1_L, .int .u32 a1.Limit], F]) (Z := fun Q => ∀ (_ _ _ _ _ _ _ _ _ _ _ : Unit), Q [(0, bp bp0 0), (4, .int .i64 0), (1, bp bp1 0), (7, bp b35 0), (9, bp b40 0), (150, .bool false)] [Box b40 [.int .u64 x38.Value, .int .u32 x38.Version, .int .i64 x38.Mark], Box b35 [.int .i64 x33.Cell, .int .u32 x33.Version, .int .u64 x33.New, .bool x33.Write], Box bp0 [.int .i64 a0.Mark, v0_L, .int .i64 a0.Status, .int .i64 a0.At], Own 66 ek_ref07_Entry v0_L a0.L, Own 55 ek_api_Cell v1_L a1.L, Box bp1 [v1_L, .int .u32 a1.Limit], F]) (T := [tS 9 (bp b40 0), tS 0 (bp bp0 0), tE [(4, .int .i64 0), (1, bp bp1 0), (7, bp b35 0)], tR (Box b40 [.int .u64 x38.Value, .int .u32 x38.Version, .int .i64 x38.Mark]), tR (Box b35 [.int .i64 x33.Cell, .int .u32 x33.Version, .int .u64 x33.New, .bool x33.Write]), tR (Box bp0 [.int .i64 a0.Mark, v0_L, .int .i64 a0.Status, .int .i64 a0.At]), tR (Own 66 ek_ref07_Entry v0_L a0.L), tR (Own 55 ek_api_Cell v1_L a1.L), tR (Box bp1 [v1_L, .int .u32 a1.Limit]), tR (F), tS 139 (bp b40 2), tS 140 (.int .i64 x38.Mark), tS 141 (.bool (x38.Mark != 0)), tS 142 (.bool (x38.Mark != 0)), tS 143 (undef), tS 144 (undef), tS 145 (undef), tS 146 (undef), tS 147 (undef), tS 148 (undef), tS 149 (undef), tS 150 (.bool false)]) (D := [⟨[0], [], [10]⟩, ⟨[10, 3], [], [11]⟩, ⟨[11], [], [12]⟩, ⟨[12], [], [13]⟩, ⟨[13], [], [14]⟩, ⟨[13], [], [15]⟩, ⟨[13], [], [16]⟩, ⟨[13], [], [17]⟩, ⟨[13], [], [18]⟩, ⟨[13], [], [19]⟩, ⟨[13], [], [20]⟩, ⟨[13, 20], [], [21]⟩]) (ini := [0, 1, 2, 3, 4, 5, 6, 7, 8, 9]) (fin := [1, 2, 0, 21, 3, 4, 5, 6, 7, 8, 9]) (bf := [[], [0], [0, 1], [0, 1, 2], [0, 1, 2, 3], [0, 1, 2, 3, 4], [0, 1, 2, 3], [0, 1, 2, 3, 6], [0, 1, 2, 3, 6, 7], [0, 1, 2, 3, 6, 7, 8], [0, 1, 2, 3, 4, 5, 6, 7, 8, 9], [0, 1, 2, 3, 4, 5, 6, 7, 8, 9, 10]]) (by kernel_rfl) (by kernel_rfl) (fun Q => by kernel_rfl) (fun x w h1 h2 => ⟨(), (), (), (), (), (), (), (), (), (), EnvAll.of h1 ⟨rfl, rfl, rfl, rfl, rfl, trivial⟩, h2⟩) (fun Q => by kernel_rfl) ⟨?_, ?_, ?_, ?_, ?_, ?_, ?_, ?_, ?_, ?_, ?_, ?_, trivial⟩ ?_
        · rintro Fr _
          refine SO.v rfl (opv_fieldAddr Try.underlying55 rfl Try.sizeOf3 rfl rfl) ?_
          exact SO.nilZ fun a w h1 h2 h3 h4 h5 => PZ.of h1 h3 h5 (.cons () (.cons () (.nil ⟨EnvAll.of h2 ⟨rfl, rfl, trivial⟩, h4⟩)))
        · rintro Fr _ _
          refine SO.load1 rfl Try.isAgg3 rfl rfl ?_
          exact SO.nilZ fun a w h1 h2 h3 h4 h5 => PZ.of h1 h3 h5 (.cons () (.cons () (.cons () (.nil ⟨EnvAll.of h2 ⟨rfl, rfl, trivial⟩, h4⟩))))
        · rintro Fr _
          refine SO.v rfl (opv_neq rfl rfl) ?_
          exact SO.nilZ fun a w h1 h2 h3 h4 h5 => PZ.of h1 h3 h5 (.cons () (.cons () (.nil ⟨EnvAll.of h2 ⟨rfl, rfl, trivial⟩, h4⟩)))
        · rintro Fr _
          refine SO.v rfl (opv_move rfl) ?_
          exact SO.nilZ fun a w h1 h2 h3 h4 h5 => PZ.of h1 h3 h5 (.cons () (.cons () (.nil ⟨EnvAll.of h2 ⟨rfl, rfl, trivial⟩, h4⟩)))
        · rintro Fr _
          refine SO.passF rfl rfl rfl b41 rfl rfl ?_
          exact SO.nilZ fun a w h1 h2 h3 h4 h5 => PZ.of h1 h3 h5 (.cons () (.cons () (.nil ⟨EnvAll.of h2 ⟨rfl, rfl, trivial⟩, h4⟩)))
        · rintro Fr _
          refine SO.passF rfl rfl rfl b41 rfl rfl ?_
          exact SO.nilZ fun a w h1 h2 h3 h4 h5 => PZ.of h1 h3 h5 (.cons () (.cons () (.nil ⟨EnvAll.of h2 ⟨rfl, rfl, trivial⟩, h4⟩)))
        · rintro Fr _
          refine SO.passF rfl rfl rfl b41 rfl rfl ?_
          exact SO.nilZ fun a w h1 h2 h3 h4 h5 => PZ.of h1 h3 h5 (.cons () (.cons () (.nil ⟨EnvAll.of h2 ⟨rfl, rfl, trivial⟩, h4⟩)))
        · rintro Fr _
          refine SO.passF rfl rfl rfl b41 rfl rfl ?_
          exact SO.nilZ fun a w h1 h2 h3 h4 h5 => PZ.of h1 h3 h5 (.cons () (.cons () (.nil ⟨EnvAll.of h2 ⟨rfl, rfl, trivial⟩, h4⟩)))
        · rintro Fr _
          refine SO.passF rfl rfl rfl b41 rfl rfl ?_
          exact SO.nilZ fun a w h1 h2 h3 h4 h5 => PZ.of h1 h3 h5 (.cons () (.cons () (.nil ⟨EnvAll.of h2 ⟨rfl, rfl, trivial⟩, h4⟩)))
        · rintro Fr _
          refine SO.passF rfl rfl rfl b41 rfl rfl ?_
          exact SO.nilZ fun a w h1 h2 h3 h4 h5 => PZ.of h1 h3 h5 (.cons () (.cons () (.nil ⟨EnvAll.of h2 ⟨rfl, rfl, trivial⟩, h4⟩)))
        · rintro Fr _
          refine SO.passF rfl rfl rfl b41 rfl rfl ?_
          exact SO.nilZ fun a w h1 h2 h3 h4 h5 => PZ.of h1 h3 h5 (.cons () (.cons () (.nil ⟨EnvAll.of h2 ⟨rfl, rfl, trivial⟩, h4⟩)))
        · rintro Fr _ _
          refine SO.v rfl (opv_pick_f' b41 rfl rfl) ?_
          exact SO.nilZ fun a w h1 h2 h3 h4 h5 => PZ.of h1 h3 h5 (.cons () (.cons () (.cons () (.nil ⟨EnvAll.of h2 ⟨rfl, rfl, rfl, trivial⟩, h4⟩))))
        rintro _ _ _ _ _ _ _ _ _ _ _
        refine S.to (ρ' := [(0, bp bp0 0), (4, .int .i64 0), (1, bp bp1 0), (7, bp b35 0), (9, bp b40 0), (150, .bool false)]) ⟨rfl, rfl, rfl, rfl, rfl, rfl, trivial⟩ ?_
        cases h
        refine S.b6 ?_
        refine S.b6 ?_
        refine S.b6 ?_
        refine S.b6 ?_
        refine S.b6 ?_
        refine S.b6 ?_
        refine S.b6 ?_
        refine S.to ?_ (hk5 () trivial)
        exact ⟨rfl, rfl, rfl, rfl, rfl, rfl, trivial⟩
      rintro _ -
      replace h := hJ5
      rcases bool_or j150_5 with b42 | b42
      · replace h := cond_t b42 h
        refine S.condT rfl b42 ?_
        refine S.seq ?_
        refine S.region ?_
        refine SO.v rfl (opv_fieldAddr Try.underlying55 rfl Try.sizeOf3 rfl rfl) ?_
        refine SO.load1 rfl Try.isAgg3 rfl rfl ?_
        refine SO.v rfl (opv_assign rfl) ?_
        refine SO.nil ?_
        refine S.to (ρ' := [(4, .int .i64 x38.Mark)]) ⟨rfl, trivial⟩ ?_
        cases h
        replace h := Brk.of_ret hJ4
        cases h
        refine S.drop ?_
        refine S.drop ?_
        refine S.b4 ?_
        refine S.b3 ?_
        refine S.b4 ?_
        refine S.b4 ?_
        refine S.b4 ?_
        exact S.ret1 Try.func10 rfl rfl (fun w hs hk => hR w _ _ ⟨v0_L, v1_L, rfl, rfl⟩ hs hk)
      replace h := cond_f b42 h
      refine S.condF rfl b42 ?_
      refine S.skip ?_
      refine S.seq ?_
      refine S.region ?_
      refine SO.v rfl (opv_fieldAddr Try.underlying55 rfl Try.sizeOf22 rfl rfl) ?_
      refine SO.load1 rfl Try.isAgg22 rfl rfl ?_
      refine SO.v rfl (opv_fieldAddr Try.underlying66 rfl Try.sizeOf22 rfl rfl) ?_
      refine SO.b1 ?_
      refine SO.load1 rfl Try.isAgg22 rfl rfl ?_
      refine SO.v rfl (opv_neq rfl rfl) ?_
      refine SO.v rfl (opv_assign rfl) ?_
      refine SO.nil ?_
      refine S.seq ?_
      obtain ⟨j172_6, hC6, hJ6⟩ := opt_bind h
      clear h
      refine S.cutP (G := Unit) (fun _ => True) (fun _ => [(0, bp bp0 0), (1, bp bp1 0), (4, .int .i64 0), (7, bp b35 0), (8, .bool (x38.Version != x33.Version)), (172, .bool j172_6)]) (fun _ => [Box b35 [.int .i64 x33.Cell, .int .u32 x33.Version, .int .u64 x33.New, .bool x33.Write], Box b40 [.int .u64 x38.Value, .int .u32 x38.Version, .int .i64 x38.Mark], Box bp0 [.int .i64 a0.Mark, v0_L, .int .i64 a0.Status, .int .i64 a0.At], Own 66 ek_ref07_Entry v0_L a0.L, Own 55 ek_api_Cell v1_L a1.L, Box bp1 [v1_L, .int .u32 a1.Limit], F]) (fun hk6 => ?_) ?_
      · replace h := hC6
        rcases bool_or (!(x38.Version != x33.Version)) with b43 | b43
        · replace h := cond_t b43 h
          rcases bool_or x33.Write with b44 | b44
          · replace h := cond_t b44 h
            refine S.draw2 (Y := fun Q => ∃ (_ _ _ _ _ _ _ _ _ _ _ _ : Unit), Q [(8, .bool (x38.Version != x33.Version)), (7, bp b35 0), (9, bp b40 0), (1, bp bp1 0), (0, bp bp0 0), (4, .int .i64 0)] [Box b35 [.int .i64 x33.Cell, .int .u32 x33.Version, .int .u64 x33.New, .bool x33.Write], Box b40 [.int .u64 x38.Value, .int .u32 x38.Version, .int .i64 x38.Mark], Box bp0 [.int .i64 a0.Mark, v0_L, .int .i64 a0.Status, .int .i64 a0.At], Own 66 ek_ref07_Entry v0_L a0.L, Own 55 ek_api_Cell v1_L a1.L, Box bp1 [v1_L, .int .u32 a1.Limit], F]) (Z := fun Q => ∀ (_ _ _ _ _ _ _ _ _ _ _ _ : Unit), Q [(0, bp bp0 0), (4, .int .i64 0), (1, bp bp1 0), (7, bp b35 0), (8, .bool (x38.Version != x33.Version)), (172, .bool (x38.Version == a1.Limit))] [Box b35 [.int .i64 x33.Cell, .int .u32 x33.Version, .int .u64 x33.New, .bool x33.Write], Box b40 [.int .u64 x38.Value, .int .u32 x38.Version, .int .i64 x38.Mark], Box bp0 [.int .i64 a0.Mark, v0_L, .int .i64 a0.Status, .int .i64 a0.At], Own 66 ek_ref07_Entry v0_L a0.L, Own 55 ek_api_Cell v1_L a1.L, Box bp1 [v1_L, .int .u32 a1.Limit], F]) (T := [tS 8 (.bool (x38.Version != x33.Version)), tS 7 (bp b35 0), tS 9 (bp b40 0), tS 1 (bp bp1 0), tE [(0, bp bp0 0), (4, .int .i64 0)], tR (Box b35 [.int .i64 x33.Cell, .int .u32 x33.Version, .int .u64 x33.New, .bool x33.Write]), tR (Box b40 [.int .u64 x38.Value, .int .u32 x38.Version, .int .i64 x38.Mark]), tR (Box bp0 [.int .i64 a0.Mark, v0_L, .int .i64 a0.Status, .int .i64 a0.At]), tR (Own 66 ek_ref07_Entry v0_L a0.L), tR (Own 55 ek_api_Cell v1_L a1.L), tR (Box bp1 [v1_L, .int .u32 a1.Limit]), tR (F), tS 158 (.bool (x38.Version != x33.Version)), tS 159 (.bool (!(x38.Version != x33.Version))), tS 160 (.bool (!(x38.Version != x33.Version))), tS 161 (bp b35 3), tS 162 (.bool x33.Write), tS 163 (.bool x33.Write), tS 164 (.bool x33.Write), tS 165 (bp b40 1), tS 166 (.int .u32 x38.Version), tS 167 (bp bp1 0), tS 168 (bp bp1 0), tS 169 (bp bp1 1), tS 170 (.int .u32 a1.Limit), tS 171 (.bool (x38.Version == a1.Limit)), tS 172 (.bool (x38.Version == a1.Limit))]) (D := [⟨[0], [], [12]⟩, ⟨[12], [], [13]⟩, ⟨[13], [], [14]⟩, ⟨[1, 14], [], [15]⟩, ⟨[14, 15, 5], [], [16]⟩, ⟨[14, 16], [], [17]⟩, ⟨[17], [], [18]⟩, ⟨[2, 18], [], [19]⟩, ⟨[18, 19, 6], [], [20]⟩, ⟨[3, 18], [], [21]⟩, ⟨[18, 21], [], [22]⟩, ⟨[18, 22], [], [23]⟩, ⟨[18, 23, 10], [], [24]⟩, ⟨[18, 20, 24], [], [25]⟩, ⟨[18, 25], [], [26]⟩]) (ini := [0, 1, 2, 3, 4, 5, 6, 7, 8, 9, 10, 11]) (fin := [4, 3, 1, 0, 26, 5, 6, 7, 8, 9, 10, 11]) (bf := [[], [0], [0, 1], [0, 1, 2], [0, 1, 2, 3], [0, 1, 2, 3, 4], [0, 1, 2, 3, 4, 5], [0, 1, 2, 3, 4, 5, 6], [0, 1, 2, 3, 4, 5, 6, 7], [0, 1, 2, 3, 4, 5, 6], [0, 1, 2, 3, 4, 5, 6, 9], [0, 1, 2, 3, 4, 5, 6, 9, 10], [0, 1, 2, 3, 4, 5, 6, 9, 10, 11], [0, 1, 2, 3, 4, 5, 6, 7, 8, 9, 10, 11, 12], [0, 1, 2, 3, 4, 5, 6, 7, 8, 9, 10, 11, 12, 13]]) (by kernel_rfl) (by kernel_rfl) (fun Q => by kernel_rfl) (fun x w h1 h2 => ⟨(), (), (), (), (), (), (), (), (), (), (), (), EnvAll.of h1 ⟨rfl, rfl, rfl, rfl, rfl, rfl, trivial⟩, h2⟩) (fun Q => by kernel_rfl) ⟨?_, ?_, ?_, ?_, ?_, ?_, ?_, ?_, ?_, ?_, ?_, ?_, ?_, ?_, ?_, trivial⟩ ?_
            · rintro Fr _
              refine SO.v rfl (opv_move rfl) ?_
              exact SO.nilZ fun a w h1 h2 h3 h4 h5 => PZ.of h1 h3 h5 (.cons () (.cons () (.nil ⟨EnvAll.of h2 ⟨rfl, rfl, trivial⟩, h4⟩)))
            · rintro Fr _
              refine SO.v rfl (opv_not rfl) ?_
              exact SO.nilZ fun a w h1 h2 h3 h4 h5 => PZ.of h1 h3 h5 (.cons () (.cons () (.nil ⟨EnvAll.of h2 ⟨rfl, rfl, trivial⟩, h4⟩)))
            · rintro Fr _
              refine SO.v rfl (opv_move rfl) ?_
              exact SO.nilZ fun a w h1 h2 h3 h4 h5 => PZ.of h1 h3 h5 (.cons () (.cons () (.nil ⟨EnvAll.of h2 ⟨rfl, rfl, trivial⟩, h4⟩)))
            · rintro Fr _ _
              refine SO.takeT rfl rfl rfl b43 ?_
              refine SO.v rfl (opv_fieldAddr Try.underlying66 rfl Try.sizeOf4 rfl rfl) ?_
              exact SO.nilZ fun a w h1 h2 h3 h4 h5 => PZ.of h1 h3 h5 (.cons () (.cons () (.cons () (.nil ⟨EnvAll.of h2 ⟨rfl, rfl, rfl, trivial⟩, h4⟩))))
            · rintro Fr _ _ _
              refine SO.takeT rfl rfl rfl b43 ?_
              refine SO.load1 rfl Try.isAgg4 rfl rfl ?_
              exact SO.nilZ fun a w h1 h2 h3 h4 h5 => PZ.of h1 h3 h5 (.cons () (.cons () (.cons () (.cons () (.nil ⟨EnvAll.of h2 ⟨rfl, rfl, rfl, trivial⟩, h4⟩)))))
            · rintro Fr _ _
              refine SO.v rfl (opv_pick_t' b43 rfl rfl) ?_
              exact SO.nilZ fun a w h1 h2 h3 h4 h5 => PZ.of h1 h3 h5 (.cons () (.cons () (.cons () (.nil ⟨EnvAll.of h2 ⟨rfl, rfl, rfl, trivial⟩, h4⟩))))
            · rintro Fr _
              refine SO.v rfl (opv_move rfl) ?_
              exact SO.nilZ fun a w h1 h2 h3 h4 h5 => PZ.of h1 h3 h5 (.cons () (.cons () (.nil ⟨EnvAll.of h2 ⟨rfl, rfl, trivial⟩, h4⟩)))
            · rintro Fr _ _
              refine SO.takeT rfl rfl rfl b44 ?_
              refine SO.v rfl (opv_fieldAddr Try.underlying55 rfl Try.sizeOf22 rfl rfl) ?_
              exact SO.nilZ fun a w h1 h2 h3 h4 h5 => PZ.of h1 h3 h5 (.cons () (.cons () (.cons () (.nil ⟨EnvAll.of h2 ⟨rfl, rfl, rfl, trivial⟩, h4⟩))))
            · rintro Fr _ _ _
              refine SO.takeT rfl rfl rfl b44 ?_
              refine SO.load1 rfl Try.isAgg22 rfl rfl ?_
              exact SO.nilZ fun a w h1 h2 h3 h4 h5 => PZ.of h1 h3 h5 (.cons () (.cons () (.cons () (.cons () (.nil ⟨EnvAll.of h2 ⟨rfl, rfl, rfl, trivial⟩, h4⟩)))))
            · rintro Fr _ _
              refine SO.takeT rfl rfl rfl b44 ?_
              refine SO.v rfl (opv_move rfl) ?_
              exact SO.nilZ fun a w h1 h2 h3 h4 h5 => PZ.of h1 h3 h5 (.cons () (.cons () (.cons () (.nil ⟨EnvAll.of h2 ⟨rfl, rfl, rfl, trivial⟩, h4⟩))))
            · rintro Fr _ _
              refine SO.takeT rfl rfl rfl b44 ?_
              refine SO.v rfl (opv_nilCheck rfl) ?_
              exact SO.nilZ fun a w h1 h2 h3 h4 h5 => PZ.of h1 h3 h5 (.cons () (.cons () (.cons () (.nil ⟨EnvAll.of h2 ⟨rfl, rfl, rfl, trivial⟩, h4⟩))))
            · rintro Fr _ _
              refine SO.takeT rfl rfl rfl b44 ?_
              refine SO.v rfl (opv_fieldAddr Try.underlying34 rfl Try.sizeOf22 rfl rfl) ?_
              exact SO.nilZ fun a w h1 h2 h3 h4 h5 => PZ.of h1 h3 h5 (.cons () (.cons () (.cons () (.nil ⟨EnvAll.of h2 ⟨rfl, rfl, rfl, trivial⟩, h4⟩))))
            · rintro Fr _ _ _
              refine SO.takeT rfl rfl rfl b44 ?_
              refine SO.load1 rfl Try.isAgg22 rfl rfl ?_
              exact SO.nilZ fun a w h1 h2 h3 h4 h5 => PZ.of h1 h3 h5 (.cons () (.cons () (.cons () (.cons () (.nil ⟨EnvAll.of h2 ⟨rfl, rfl, rfl, trivial⟩, h4⟩)))))
            · rintro Fr _ _ _
              refine SO.takeT rfl rfl rfl b44 ?_
              refine SO.v rfl (opv_eql rfl rfl) ?_
              exact SO.nilZ fun a w h1 h2 h3 h4 h5 => PZ.of h1 h3 h5 (.cons () (.cons () (.cons () (.cons () (.nil ⟨EnvAll.of h2 ⟨rfl, rfl, rfl, rfl, trivial⟩, h4⟩)))))
            · rintro Fr _ _
              refine SO.v rfl (opv_pick_t' b44 rfl rfl) ?_
              exact SO.nilZ fun a w h1 h2 h3 h4 h5 => PZ.of h1 h3 h5 (.cons () (.cons () (.cons () (.nil ⟨EnvAll.of h2 ⟨rfl, rfl, rfl, trivial⟩, h4⟩))))
            rintro _ _ _ _ _ _ _ _ _ _ _ _
            refine S.to (ρ' := [(0, bp bp0 0), (4, .int .i64 0), (1, bp bp1 0), (7, bp b35 0), (8, .bool (x38.Version != x33.Version)), (172, .bool (x38.Version == a1.Limit))]) ⟨rfl, rfl, rfl, rfl, rfl, rfl, trivial⟩ ?_
            cases h
            refine S.b6 ?_
            refine S.b6 ?_
            refine S.b6 ?_
            refine S.b6 ?_
            refine S.b6 ?_
            refine S.b6 ?_
            refine S.b6 ?_
            refine S.to ?_ (hk6 () trivial)
            exact ⟨rfl, rfl, rfl, rfl, rfl, rfl, trivial⟩
          replace h := cond_f b44 h
          refine S.draw2 (Y := fun Q => ∃ (_ _ _ _ _ _ _ _ _ _ _ _ : Unit), Q [(8, .bool (x38.Version != x33.Version)), (7, bp b35 0), (9, bp b40 0), (1, bp bp1 0), (0, bp bp0 0), (4, .int .i64 0)] [Box b35 [.int .i64 x33.Cell, .int .u32 x33.Version, .int .u64 x33.New, .bool x33.Write], Box b40 [.int .u64 x38.Value, .int .u32 x38.Version, .int .i64 x38.Mark], Box bp0 [.int .i64 a0.Mark, v0_L, .int .i64 a0.Status, .int .i64 a0.At], Own 66 ek_ref07_Entry v0_L a0.L, Own 55 ek_api_Cell v1_L a1.L, Box bp1 [v1_L, .int .u32 a1.Limit], F]) (Z := fun Q => ∀ (_ _ _ _ _ _ _ _ _ _ _ _ : Unit), Q [(0, bp bp0 0), (4, .int .i64 0), (1, bp bp1 0), (7, bp b35 0), (8, .bool (x38.Version != x33.Version)), (172, .bool false)] [Box b35 [.int .i64 x33.Cell, .int .u32 x33.Version, .int .u64 x33.New, .bool x33.Write], Box b40 [.int .u64 x38.Value, .int .u32 x38.Version, .int .i64 x38.Mark], Box bp0 [.int .i64 a0.Mark, v0_L, .int .i64 a0.Status, .int .i64 a0.At], Own 66 ek_ref07_Entry v0_L a0.L, Own 55 ek_api_Cell v1_L a1.L, Box bp1 [v1_L, .int .u32 a1.Limit], F]) (T := [tS 8 (.bool (x38.Version != x33.Version)), tS 7 (bp b35 0), tS 9 (bp b40 0), tS 1 (bp bp1 0), tE [(0, bp bp0 0), (4, .int .i64 0)], tR (Box b35 [.int .i64 x33.Cell, .int .u32 x33.Version, .int .u64 x33.New, .bool x33.Write]), tR (Box b40 [.int .u64 x38.Value, .int .u32 x38.Version, .int .i64 x38.Mark]), tR (Box bp0 [.int .i64 a0.Mark, v0_L, .int .i64 a0.Status, .int .i64 a0.At]), tR (Own 66 ek_ref07_Entry v0_L a0.L), tR (Own 55 ek_api_Cell v1_L a1.L), tR (Box bp1 [v1_L, .int .u32 a1.Limit]), tR (F), tS 158 (.bool (x38.Version != x33.Version)), tS 159 (.bool (!(x38.Version != x33.Version))), tS 160 (.bool (!(x38.Version != x33.Version))), tS 161 (bp b35 3), tS 162 (.bool x33.Write), tS 163 (.bool x33.Write), tS 164 (.bool x33.Write), tS 165 (undef), tS 166 (undef), tS 167 (undef), tS 168 (undef), tS 169 (undef), tS 170 (undef), tS 171 (undef), tS 172 (.bool false)]) (D := [⟨[0], [], [12]⟩, ⟨[12], [], [13]⟩, ⟨[13], [], [14]⟩, ⟨[1, 14], [], [15]⟩, ⟨[14, 15, 5], [], [16]⟩, ⟨[14, 16], [], [17]⟩, ⟨[17], [], [18]⟩, ⟨[18], [], [19]⟩, ⟨[18], [], [20]⟩, ⟨[18], [], [21]⟩, ⟨[18], [], [22]⟩, ⟨[18], [], [23]⟩, ⟨[18], [], [24]⟩, ⟨[18], [], [25]⟩, ⟨[18, 25], [], [26]⟩]) (ini := [0, 1, 2, 3, 4, 5, 6, 7, 8, 9, 10, 11]) (fin := [4, 3, 1, 0, 26, 5, 6, 7, 8, 9, 10, 11]) (bf := [[], [0], [0, 1], [0, 1, 2], [0, 1, 2, 3], [0, 1, 2, 3, 4], [0, 1, 2, 3, 4, 5], [0, 1, 2, 3, 4, 5, 6], [0, 1, 2, 3, 4, 5, 6, 7], [0, 1, 2, 3, 4, 5, 6], [0, 1, 2, 3, 4, 5, 6, 9], [0, 1, 2, 3, 4, 5, 6, 9, 10], [0, 1, 2, 3, 4, 5, 6, 9, 10, 11], [0, 1, 2, 3, 4, 5, 6, 7, 8, 9, 10, 11, 12], [0, 1, 2, 3, 4, 5, 6, 7, 8, 9, 10, 11, 12, 13]]) (by kernel_rfl) (by kernel_rfl) (fun Q => by kernel_rfl) (fun x w h1 h2 => ⟨(), (), (), (), (), (), (), (), (), (), (), (), EnvAll.of h1 ⟨rfl, rfl, rfl, rfl, rfl, rfl, trivial⟩, h2⟩) (fun Q => by kernel_rfl) ⟨?_, ?_, ?_, ?_, ?_, ?_, ?_, ?_, ?_, ?_, ?_, ?_, ?_, ?_, ?_, trivial⟩ ?_
          · rintro Fr _
            refine SO.v rfl (opv_move rfl) ?_
            exact SO.nilZ fun a w h1 h2 h3 h4 h5 => PZ.of h1 h3 h5 (.cons () (.cons () (.nil ⟨EnvAll.of h2 ⟨rfl, rfl, trivial⟩, h4⟩)))
          · rintro Fr _
            refine SO.v rfl (opv_not rfl) ?_
            exact SO.nilZ fun a w h1 h2 h3 h4 h5 => PZ.of h1 h3 h5 (.cons () (.cons () (.nil ⟨EnvAll.of h2 ⟨rfl, rfl, trivial⟩, h4⟩)))
          · rintro Fr _
            refine SO.v rfl (opv_move rfl) ?_
            exact SO.nilZ fun a w h1 h2 h3 h4 h5 => PZ.of h1 h3 h5 (.cons () (.cons () (.nil ⟨EnvAll.of h2 ⟨rfl, rfl, trivial⟩, h4⟩)))
          · rintro Fr _ _
            refine SO.takeT rfl rfl rfl b43 ?_
            refine SO.v rfl (opv_fieldAddr Try.underlying66 rfl Try.sizeOf4 rfl rfl) ?_
            exact SO.nilZ fun a w h1 h2 h3 h4 h5 => PZ.of h1 h3 h5 (.cons () (.cons () (.cons () (.nil ⟨EnvAll.of h2 ⟨rfl, rfl, rfl, trivial⟩, h4⟩))))
          · rintro Fr _ _ _
            refine SO.takeT rfl rfl rfl b43 ?_
            refine SO.load1 rfl Try.isAgg4 rfl rfl ?_
            exact SO.nilZ fun a w h1 h2 h3 h4 h5 => PZ.of h1 h3 h5 (.cons () (.cons () (.cons () (.cons () (.nil ⟨EnvAll.of h2 ⟨rfl, rfl, rfl, trivial⟩, h4⟩)))))
          · rintro Fr _ _
            refine SO.v rfl (opv_pick_t' b43 rfl rfl) ?_
            exact SO.nilZ fun a w h1 h2 h3 h4 h5 => PZ.of h1 h3 h5 (.cons () (.cons () (.cons () (.nil ⟨EnvAll.of h2 ⟨rfl, rfl, rfl, trivial⟩, h4⟩))))
          · rintro Fr _
            refine SO.v rfl (opv_move rfl) ?_
            exact SO.nilZ fun a w h1 h2 h3 h4 h5 => PZ.of h1 h3 h5 (.cons () (.cons () (.nil ⟨EnvAll.of h2 ⟨rfl, rfl, trivial⟩, h4⟩)))
          · rintro Fr _
            refine SO.passF rfl rfl rfl b44 rfl rfl ?_
            exact SO.nilZ fun a w h1 h2 h3 h4 h5 => PZ.of h1 h3 h5 (.cons () (.cons () (.nil ⟨EnvAll.of h2 ⟨rfl, rfl, trivial⟩, h4⟩)))
          · rintro Fr _
            refine SO.passF rfl rfl rfl b44 rfl rfl ?_
            exact SO.nilZ fun a w h1 h2 h3 h4 h5 => PZ.of h1 h3 h5 (.cons () (.cons () (.nil ⟨EnvAll.of h2 ⟨rfl, rfl, trivial⟩, h4⟩)))
          · rintro Fr _
            refine SO.passF rfl rfl rfl b44 rfl rfl ?_
            exact SO.nilZ fun a w h1 h2 h3 h4 h5 => PZ.of h1 h3 h5 (.cons () (.cons () (.nil ⟨EnvAll.of h2 ⟨rfl, rfl, trivial⟩, h4⟩)))
          · rintro Fr _
            refine SO.passF rfl rfl rfl b44 rfl rfl ?_
            exact SO.nilZ fun a w h1 h2 h3 h4 h5 => PZ.of h1 h3 h5 (.cons () (.cons () (.nil ⟨EnvAll.of h2 ⟨rfl, rfl, trivial⟩, h4⟩)))
          · rintro Fr _
            refine SO.passF rfl rfl rfl b44 rfl rfl ?_
            exact SO.nilZ fun a w h1 h2 h3 h4 h5 => PZ.of h1 h3 h5 (.cons () (.cons () (.nil ⟨EnvAll.of h2 ⟨rfl, rfl, trivial⟩, h4⟩)))
          · rintro Fr _
            refine SO.passF rfl rfl rfl b44 rfl rfl ?_
            exact SO.nilZ fun a w h1 h2 h3 h4 h5 => PZ.of h1 h3 h5 (.cons () (.cons () (.nil ⟨EnvAll.of h2 ⟨rfl, rfl, trivial⟩, h4⟩)))
          · rintro Fr _
            refine SO.passF rfl rfl rfl b44 rfl rfl ?_
            exact SO.nilZ fun a w h1 h2 h3 h4 h5 => PZ.of h1 h3 h5 (.cons () (.cons () (.nil ⟨EnvAll.of h2 ⟨rfl, rfl, trivial⟩, h4⟩)))
          · rintro Fr _ _
            refine SO.v rfl (opv_pick_f' b44 rfl rfl) ?_
            exact SO.nilZ fun a w h1 h2 h3 h4 h5 => PZ.of h1 h3 h5 (.cons () (.cons () (.cons () (.nil ⟨EnvAll.of h2 ⟨rfl, rfl, rfl, trivial⟩, h4⟩))))
          rintro _ _ _ _ _ _ _ _ _ _ _ _
          refine S.to (ρ' := [(0, bp bp0 0), (4, .int .i64 0), (1, bp bp1 0), (7, bp b35 0), (8, .bool (x38.Version != x33.Version)), (172, .bool false)]) ⟨rfl, rfl, rfl, rfl, rfl, rfl, trivial⟩ ?_
          cases h
          refine S.b6 ?_
          refine S.b6 ?_
          refine S.b6 ?_
          refine S.b6 ?_
          refine S.b6 ?_
          refine S.b6 ?_
          refine S.b6 ?_
          refine S.to ?_ (hk6 () trivial)
          exact ⟨rfl, rfl, rfl, rfl, rfl, rfl, trivial⟩
        replace h := cond_f b43 h
        refine S.draw2 (Y := fun Q => ∃ (_ _ _ _ _ _ _ _ _ _ _ _ : Unit), Q [(8, .bool (x38.Version != x33.Version)), (7, bp b35 0), (9, bp b40 0), (1, bp bp1 0), (0, bp bp0 0), (4, .int .i64 0)] [Box b35 [.int .i64 x33.Cell, .int .u32 x33.Version, .int .u64 x33.New, .bool x33.Write], Box b40 [.int .u64 x38.Value, .int .u32 x38.Version, .int .i64 x38.Mark], Box bp0 [.int .i64 a0.Mark, v0_L, .int .i64 a0.Status, .int .i64 a0.At], Own 66 ek_ref07_Entry v0_L a0.L, Own 55 ek_api_Cell v1_L a1.L, Box bp1 [v1_L, .int .u32 a1.Limit], F]) (Z := fun Q => ∀ (_ _ _ _ _ _ _ _ _ _ _ _ : Unit), Q [(0, bp bp0 0), (4, .int .i64 0), (1, bp bp1 0), (7, bp b35 0), (8, .bool (x38.Version != x33.Version)), (172, .bool false)] [Box b35 [.int .i64 x33.Cell, .int .u32 x33.Version, .int .u64 x33.New, .bool x33.Write], Box b40 [.int .u64 x38.Value, .int .u32 x38.Version, .int .i64 x38.Mark], Box bp0 [.int .i64 a0.Mark, v0_L, .int .i64 a0.Status, .int .i64 a0.At], Own 66 ek_ref07_Entry v0_L a0.L, Own 55 ek_api_Cell v1_L a1.L, Box bp1 [v1_L, .int .u32 a1.Limit], F]) (T := [tS 8 (.bool (x38.Version != x33.Version)), tS 7 (bp b35 0), tS 9 (bp b40 0), tS 1 (bp bp1 0), tE [(0, bp bp0 0), (4, .int .i64 0)], tR (Box b35 [.int .i64 x33.Cell, .int .u32 x33.Version, .int .u64 x33.New, .bool x33.Write]), tR (Box b40 [.int .u64 x38.Value, .int .u32 x38.Version, .int .i64 x38.Mark]), tR (Box bp0 [.int .i64 a0.Mark, v0_L, .int .i64 a0.Status, .int .i64 a0.At]), tR (Own 66 ek_ref07_Entry v0_L a0.L), tR (Own 55 ek_api_Cell v1_L a1.L), tR (Box bp1 [v1_L, .int .u32 a1.Limit]), tR (F), tS 158 (.bool (x38.Version != x33.Version)), tS 159 (.bool (!(x38.Version != x33.Version))), tS 160 (.bool (!(x38.Version != x33.Version))), tS 161 (undef), tS 162 (undef), tS 163 (.bool false), tS 164 (.bool false), tS 165 (undef), tS 166 (undef), tS 167 (undef), tS 168 (undef), tS 169 (undef), tS 170 (undef), tS 171 (undef), tS 172 (.bool false)]) (D := [⟨[0], [], [12]⟩, ⟨[12], [], [13]⟩, ⟨[13], [], [14]⟩, ⟨[14], [], [15]⟩, ⟨[14], [], [16]⟩, ⟨[14, 16], [], [17]⟩, ⟨[17], [], [18]⟩, ⟨[18], [], [19]⟩, ⟨[18], [], [20]⟩, ⟨[18], [], [21]⟩, ⟨[18], [], [22]⟩, ⟨[18], [], [23]⟩, ⟨[18], [], [24]⟩, ⟨[18], [], [25]⟩, ⟨[18, 25], [], [26]⟩]) (ini := [0, 1, 2, 3, 4, 5, 6, 7, 8, 9, 10, 11]) (fin := [4, 3, 1, 0, 26, 5, 6, 7, 8, 9, 10, 11]) (bf := [[], [0], [0, 1], [0, 1, 2], [0, 1, 2, 3], [0, 1, 2, 3, 4], [0, 1, 2, 3, 4, 5], [0, 1, 2, 3, 4, 5, 6], [0, 1, 2, 3, 4, 5, 6, 7], [0, 1, 2, 3, 4, 5, 6], [0, 1, 2, 3, 4, 5, 6, 9], [0, 1, 2, 3, 4, 5, 6, 9, 10], [0, 1, 2, 3, 4, 5, 6, 9, 10, 11], [0, 1, 2, 3, 4, 5, 6, 7, 8, 9, 10, 11, 12], [0, 1, 2, 3, 4, 5, 6, 7, 8, 9, 10, 11, 12, 13]]) (by kernel_rfl) (by kernel_rfl) (fun Q => by kernel_rfl) (fun x w h1 h2 => ⟨(), (), (), (), (), (), (), (), (), (), (), (), EnvAll.of h1 ⟨rfl, rfl, rfl, rfl, rfl, rfl, trivial⟩, h2⟩) (fun Q => by kernel_rfl) ⟨?_, ?_, ?_, ?_, ?_, ?_, ?_, ?_, ?_, ?_, ?_, ?_, ?_, ?_, ?_, trivial⟩ ?_
        · rintro Fr _
          refine SO.v rfl (opv_move rfl) ?_
          exact SO.nilZ fun a w h1 h2 h3 h4 h5 => PZ.of h1 h3 h5 (.cons () (.cons () (.nil ⟨EnvAll.of h2 ⟨rfl, rfl, trivial⟩, h4⟩)))
        · rintro Fr _
          refine SO.v rfl (opv_not rfl) ?_
          exact SO.nilZ fun a w h1 h2 h3 h4 h5 => PZ.of h1 h3 h5 (.cons () (.cons () (.nil ⟨EnvAll.of h2 ⟨rfl, rfl, trivial⟩, h4⟩)))
        · rintro Fr _
          refine SO.v rfl (opv_move rfl) ?_
          exact SO.nilZ fun a w h1 h2 h3 h4 h5 => PZ.of h1 h3 h5 (.cons () (.cons () (.nil ⟨EnvAll.of h2 ⟨rfl, rfl, trivial⟩, h4⟩)))
        · rintro Fr _
          refine SO.passF rfl rfl rfl b43 rfl rfl ?_
          exact SO.nilZ fun a w h1 h2 h3 h4 h5 => PZ.of h1 h3 h5 (.cons () (.cons () (.nil ⟨EnvAll.of h2 ⟨rfl, rfl, trivial⟩, h4⟩)))
        · rintro Fr _
          refine SO.passF rfl rfl rfl b43 rfl rfl ?_
          exact SO.nilZ fun a w h1 h2 h3 h4 h5 => PZ.of h1 h3 h5 (.cons () (.cons () (.nil ⟨EnvAll.of h2 ⟨rfl, rfl, trivial⟩, h4⟩)))
        · rintro Fr _ _
          refine SO.v rfl (opv_pick_f' b43 rfl rfl) ?_
          exact SO.nilZ fun a w h1 h2 h3 h4 h5 => PZ.of h1 h3 h5 (.cons () (.cons () (.cons () (.nil ⟨EnvAll.of h2 ⟨rfl, rfl, rfl, trivial⟩, h4⟩))))
        · rintro Fr _
          refine SO.v rfl (opv_move rfl) ?_
          exact SO.nilZ fun a w h1 h2 h3 h4 h5 => PZ.of h1 h3 h5 (.cons () (.cons () (.nil ⟨EnvAll.of h2 ⟨rfl, rfl, trivial⟩, h4⟩)))
        · rintro Fr _
          refine SO.passF rfl rfl rfl rfl rfl rfl ?_
          exact SO.nilZ fun a w h1 h2 h3 h4 h5 => PZ.of h1 h3 h5 (.cons () (.cons () (.nil ⟨EnvAll.of h2 ⟨rfl, rfl, trivial⟩, h4⟩)))
        · rintro Fr _
          refine SO.passF rfl rfl rfl rfl rfl rfl ?_
          exact SO.nilZ fun a w h1 h2 h3 h4 h5 => PZ.of h1 h3 h5 (.cons () (.cons () (.nil ⟨EnvAll.of h2 ⟨rfl, rfl, trivial⟩, h4⟩)))
        · rintro Fr _
          refine SO.passF rfl rfl rfl rfl rfl rfl ?_
          exact SO.nilZ fun a w h1 h2 h3 h4 h5 => PZ.of h1 h3 h5 (.cons () (.cons () (.nil ⟨EnvAll.of h2 ⟨rfl, rfl, trivial⟩, h4⟩)))
        · rintro Fr _
          refine SO.passF rfl rfl rfl rfl rfl rfl ?_
          exact SO.nilZ fun a w h1 h2 h3 h4 h5 => PZ.of h1 h3 h5 (.cons () (.cons () (.nil ⟨EnvAll.of h2 ⟨rfl, rfl, trivial⟩, h4⟩)))
        · rintro Fr _
          refine SO.passF rfl rfl rfl rfl rfl rfl ?_
          exact SO.nilZ fun a w h1 h2 h3 h4 h5 => PZ.of h1 h3 h5 (.cons () (.cons () (.nil ⟨EnvAll.of h2 ⟨rfl, rfl, trivial⟩, h4⟩)))
        · rintro Fr _
          refine SO.passF rfl rfl rfl rfl rfl rfl ?_
          exact SO.nilZ fun a w h1 h2 h3 h4 h5 => PZ.of h1 h3 h5 (.cons () (.cons () (.nil ⟨EnvAll.of h2 ⟨rfl, rfl, trivial⟩, h4⟩)))
        · rintro Fr _
          refine SO.passF rfl rfl rfl rfl rfl rfl ?_
          exact SO.nilZ fun a w h1 h2 h3 h4 h5 => PZ.of h1 h3 h5 (.cons () (.cons () (.nil ⟨EnvAll.of h2 ⟨rfl, rfl, trivial⟩, h4⟩)))
        · rintro Fr _ _
          refine SO.v rfl (opv_pick_ff rfl rfl) ?_
          exact SO.nilZ fun a w h1 h2 h3 h4 h5 => PZ.of h1 h3 h5 (.cons () (.cons () (.cons () (.nil ⟨EnvAll.of h2 ⟨rfl, rfl, rfl, trivial⟩, h4⟩))))
        rintro _ _ _ _ _ _ _ _ _ _ _ _
        refine S.to (ρ' := [(0, bp bp0 0), (4, .int .i64 0), (1, bp bp1 0), (7, bp b35 0), (8, .bool (x38.Version != x33.Version)), (172, .bool false)]) ⟨rfl, rfl, rfl, rfl, rfl, rfl, trivial⟩ ?_
        cases h
        refine S.b6 ?_
        refine S.b6 ?_
        refine S.b6 ?_
        refine S.b6 ?_
        refine S.b6 ?_
        refine S.b6 ?_
        refine S.b6 ?_
        refine S.to ?_ (hk6 () trivial)
        exact ⟨rfl, rfl, rfl, rfl, rfl, rfl, trivial⟩
      rintro _ -
      replace h := hJ6
      rcases bool_or j172_6 with b45 | b45
      · replace h := cond_t b45 h
        refine S.condT rfl b45 ?_
        refine S.seq ?_
        refine S.region ?_
        refine SO.v rfl (opv_move rfl) ?_
        refine SO.v rfl (opv_nilCheck rfl) ?_
        refine SO.v rfl (opv_fieldAddr Try.underlying44 rfl Try.sizeOf3 rfl rfl) ?_
        refine SO.b2 ?_
        refine SO.store1 Try.sizeOf3 rfl rfl rfl rfl ?_
        refine SO.nil ?_
        refine S.to (ρ' := [(0, bp bp0 0), (4, .int .i64 0)]) ⟨rfl, rfl, trivial⟩ ?_
        refine S.seq ?_
        refine S.region ?_
        refine SO.v rfl (opv_move rfl) ?_
        refine SO.v rfl (opv_nilCheck rfl) ?_
        refine SO.v rfl (opv_fieldAddr Try.underlying44 rfl Try.sizeOf3 rfl rfl) ?_
        refine SO.store1 Try.sizeOf3 rfl rfl rfl rfl ?_
        refine SO.nil ?_
        refine S.seq ?_
        refine S.region ?_
        refine SO.v rfl (opv_assign rfl) ?_
        refine SO.nil ?_
        cases h
        replace h := Brk.of_ret hJ4
        cases h
        refine S.b1 ?_
        refine S.drop ?_
        refine S.b1 ?_
        refine S.drop ?_
        refine S.b4 ?_
        refine S.b3 ?_
        refine S.b4 ?_
        refine S.b4 ?_
        refine S.b4 ?_
        exact S.ret1 Try.func10 rfl rfl (fun w hs hk => hR w _ _ ⟨v0_L, v1_L, rfl, rfl⟩ hs hk)
      replace h := cond_f b45 h
      refine S.condF rfl b45 ?_
      refine S.skip ?_
      cases h
      refine S.b1 ?_
      refine S.drop ?_
      refine S.b5 ?_
      refine S.b5 ?_
      refine S.b5 ?_
      refine S.b5 ?_
      refine S.b5 ?_
      refine S.b5 ?_
      refine S.to ?_ (hk4 (x38.Version != x33.Version, ()) rfl)
      exact ⟨rfl, rfl, rfl, rfl, rfl, trivial⟩
    replace h := cond_f b37 h
    refine S.condF rfl b37 ?_
    refine S.skip ?_
    cases h
    refine S.b5 ?_
    refine S.b5 ?_
    refine S.b5 ?_
    refine S.b5 ?_
    refine S.b5 ?_
    refine S.b5 ?_
    refine S.to ?_ (hk4 (j8_3, ()) rfl)
    exact ⟨rfl, rfl, rfl, rfl, rfl, trivial⟩
  rintro ⟨j8_4, _⟩ hq
  subst hq
  replace h := Brk.of_nx hJ4
  refine S.seq ?_
  refine S.seq ?_
  refine S.region ?_
  refine SO.v rfl (opv_move rfl) ?_
  refine SO.v rfl (opv_not rfl) ?_
  refine SO.nil ?_
  obtain ⟨⟨j8_7, yp1_0_7, yp1_1_7⟩, hC7, hJ7⟩ := opt_bind h
  clear h
  refine S.cutP (G := Value) (fun _ => True) (fun vyp1_0_7 => [(0, bp bp0 0), (4, .int .i64 0), (8, .bool j8_7)]) (fun vyp1_0_7 => [Own 55 ek_api_Cell vyp1_0_7 yp1_0_7, Box b35 [.int .i64 x33.Cell, .int .u32 x33.Version, .int .u64 x33.New, .bool x33.Write], Box bp0 [.int .i64 a0.Mark, v0_L, .int .i64 a0.Status, .int .i64 a0.At], Own 66 ek_ref07_Entry v0_L a0.L, Box bp1 [vyp1_0_7, .int .u32 yp1_1_7], F]) (fun hk7 => ?_) ?_
  · replace h := hC7
    rcases bool_or (!j8_4) with b46 | b46
    · replace h := cond_t b46 h
      refine S.condT rfl b46 ?_
      obtain ⟨⟨t47, p48⟩, ht49, h⟩ := opt_bind h
      refine S.draw2 (Y := fun Q => ∃ (_ _ _ _ _ _ _ _ _ _ : Unit), Q [(1, bp bp1 0), (7, bp b35 0), (0, bp bp0 0), (4, .int .i64 0)] [Box b35 [.int .i64 x33.Cell, .int .u32 x33.Version, .int .u64 x33.New, .bool x33.Write], Box bp0 [.int .i64 a0.Mark, v0_L, .int .i64 a0.Status, .int .i64 a0.At], Own 66 ek_ref07_Entry v0_L a0.L, Own 55 ek_api_Cell v1_L a1.L, Box bp1 [v1_L, .int .u32 a1.Limit], F]) (Z := fun Q => ∀ (_ _ _ : Unit) (u50_L : Value) (_ _ _ _ : Unit), Q [(0, bp bp0 0), (4, .int .i64 0), (8, .bool (t47 != 0)), (190, .int .i64 t47)] [Own 55 ek_api_Cell u50_L p48.L, Box bp1 [u50_L, .int .u32 p48.Limit], Box b35 [.int .i64 x33.Cell, .int .u32 x33.Version, .int .u64 x33.New, .bool x33.Write], Box bp0 [.int .i64 a0.Mark, v0_L, .int .i64 a0.Status, .int .i64 a0.At], Own 66 ek_ref07_Entry v0_L a0.L, F]) (T := [tS 1 (bp bp1 0), tS 7 (bp b35 0), tS 0 (bp bp0 0), tS 4 (.int .i64 0), tR (Box b35 [.int .i64 x33.Cell, .int .u32 x33.Version, .int .u64 x33.New, .bool x33.Write]), tR (Box bp0 [.int .i64 a0.Mark, v0_L, .int .i64 a0.Status, .int .i64 a0.At]), tR (Own 66 ek_ref07_Entry v0_L a0.L), tR (Own 55 ek_api_Cell v1_L a1.L), tR (Box bp1 [v1_L, .int .u32 a1.Limit]), tR (F), tS 181 (bp bp1 0), tS 182 (bp b35 0), tS 183 (.int .i64 x33.Cell), tS 184 (bp b35 1), tS 185 (.int .u32 x33.Version), tS 186 (bp bp0 0), tS 187 (bp bp0 0), tS 188 (bp bp0 0), tS 189 (.int .i64 a0.Mark), ⟨Value, [190], (fun u50_L => [(190, .int .i64 t47)]), (fun u50_L => [Own 55 ek_api_Cell u50_L p48.L, Box bp1 [u50_L, .int .u32 p48.Limit]]), fun _ => rfl⟩, tS 191 (.bool (t47 != 0)), tS 8 (.bool (t47 != 0))]) (D := [⟨[0], [], [10]⟩, ⟨[1], [], [11]⟩, ⟨[11, 4], [], [12]⟩, ⟨[1], [], [13]⟩, ⟨[13, 4], [], [14]⟩, ⟨[2], [], [15]⟩, ⟨[15], [], [16]⟩, ⟨[16], [], [17]⟩, ⟨[17, 5], [], [18]⟩, ⟨[10, 12, 14, 18], [8, 7], [19]⟩, ⟨[19], [], [20]⟩, ⟨[20], [], [21]⟩]) (ini := [0, 1, 2, 3, 4, 5, 6, 7, 8, 9]) (fin := [2, 3, 21, 19, 4, 5, 6, 9]) (bf := [[], [], [1], [], [3], [], [5], [5, 6], [5, 6, 7], [0, 1, 2, 3, 4, 5, 6, 7, 8], [0, 1, 2, 3, 4, 5, 6, 7, 8, 9], [0, 1, 2, 3, 4, 5, 6, 7, 8, 9, 10]]) (by kernel_rfl) (by kernel_rfl) (fun Q => by kernel_rfl) (fun x w h1 h2 => ⟨(), (), (), (), (), (), (), (), (), (), EnvAll.of h1 ⟨rfl, rfl, rfl, rfl, trivial⟩, h2⟩) (fun Q => by kernel_rfl) ⟨?_, ?_, ?_, ?_, ?_, ?_, ?_, ?_, ?_, ?_, ?_, ?_, trivial⟩ ?_
      · rintro Fr _
        refine SO.v rfl (opv_move rfl) ?_
        exact SO.nilZ fun a w h1 h2 h3 h4 h5 => PZ.of h1 h3 h5 (.cons () (.cons () (.nil ⟨EnvAll.of h2 ⟨rfl, rfl, trivial⟩, h4⟩)))
      · rintro Fr _
        refine SO.v rfl (opv_fieldAddr Try.underlying66 rfl Try.sizeOf3 rfl rfl) ?_
        exact SO.nilZ fun a w h1 h2 h3 h4 h5 => PZ.of h1 h3 h5 (.cons () (.cons () (.nil ⟨EnvAll.of h2 ⟨rfl, rfl, trivial⟩, h4⟩)))
      · rintro Fr _ _
        refine SO.load1 rfl Try.isAgg3 rfl rfl ?_
        exact SO.nilZ fun a w h1 h2 h3 h4 h5 => PZ.of h1 h3 h5 (.cons () (.cons () (.cons () (.nil ⟨EnvAll.of h2 ⟨rfl, rfl, trivial⟩, h4⟩))))
      · rintro Fr _
        refine SO.v rfl (opv_fieldAddr Try.underlying66 rfl Try.sizeOf22 rfl rfl) ?_
        exact SO.nilZ fun a w h1 h2 h3 h4 h5 => PZ.of h1 h3 h5 (.cons () (.cons () (.nil ⟨EnvAll.of h2 ⟨rfl, rfl, trivial⟩, h4⟩)))
      · rintro Fr _ _
        refine SO.load1 rfl Try.isAgg22 rfl rfl ?_
        exact SO.nilZ fun a w h1 h2 h3 h4 h5 => PZ.of h1 h3 h5 (.cons () (.cons () (.cons () (.nil ⟨EnvAll.of h2 ⟨rfl, rfl, trivial⟩, h4⟩))))
      · rintro Fr _
        refine SO.v rfl (opv_move rfl) ?_
        exact SO.nilZ fun a w h1 h2 h3 h4 h5 => PZ.of h1 h3 h5 (.cons () (.cons () (.nil ⟨EnvAll.of h2 ⟨rfl, rfl, trivial⟩, h4⟩)))
      · rintro Fr _
        refine SO.v rfl (opv_nilCheck rfl) ?_
        exact SO.nilZ fun a w h1 h2 h3 h4 h5 => PZ.of h1 h3 h5 (.cons () (.cons () (.nil ⟨EnvAll.of h2 ⟨rfl, rfl, trivial⟩, h4⟩)))
      · rintro Fr _
        refine SO.v rfl (opv_fieldAddr Try.underlying44 rfl Try.sizeOf3 rfl rfl) ?_
        exact SO.nilZ fun a w h1 h2 h3 h4 h5 => PZ.of h1 h3 h5 (.cons () (.cons () (.nil ⟨EnvAll.of h2 ⟨rfl, rfl, trivial⟩, h4⟩)))
      · rintro Fr _ _
        refine SO.load1 rfl Try.isAgg3 rfl rfl ?_
        exact SO.nilZ fun a w h1 h2 h3 h4 h5 => PZ.of h1 h3 h5 (.cons () (.cons () (.cons () (.nil ⟨EnvAll.of h2 ⟨rfl, rfl, trivial⟩, h4⟩))))
      · refine spec2 (X := fun Q => ∀ (_ _ _ _ _ _ : Unit), Q [(181, bp bp1 0), (183, .int .i64 x33.Cell), (185, .int .u32 x33.Version), (189, .int .i64 a0.Mark)] [Box bp1 [v1_L, .int .u32 a1.Limit], Own 55 ek_api_Cell v1_L a1.L]) (fun Q => by kernel_rfl) ?_
        rintro Fr _ _ _ _ _ _
        refine SO.b1 ?_
        refine SO.b1 ?_
        refine SO.call (pre := [Box _ _, Own _ _ _ _]) rfl Try.call24 rfl rfl rfl (ref01_Store_Reserve.ct bp1 v1_L _ _ _ _ _ _ ht49) trivial ?_
        rintro _ _ ⟨u50_L, rfl, rfl⟩
        refine SO.b1 ?_
        refine SO.rd fun hr51 => ?_
        refine SO.b1 ?_
        refine SO.b1 ?_
        exact SO.nilZ fun a w h1 h2 h3 h4 h5 => PZ.of2 (Y := fun Q => ∃ (_ _ _ _ : Unit) (u50_L : Value), Q [(181, bp bp1 0), (183, .int .i64 x33.Cell), (185, .int .u32 x33.Version), (189, .int .i64 a0.Mark), (190, .int .i64 t47)] [Own 55 ek_api_Cell u50_L p48.L, Box bp1 [u50_L, .int .u32 p48.Limit]]) (fun Q => by kernel_rfl) h1 h3 h5 ⟨(), (), (), (), u50_L, EnvAll.of h2 ⟨rfl, rfl, rfl, rfl, rfl, trivial⟩, h4⟩
      · rintro Fr u50_L
        refine SO.rd fun hr52 => ?_
        refine SO.v rfl (opv_neq rfl rfl) ?_
        refine SO.b1 ?_
        refine SO.b1 ?_
        exact SO.nilZ fun a w h1 h2 h3 h4 h5 => PZ.of h1 h3 h5 (.cons u50_L (.cons () (.nil ⟨EnvAll.of h2 ⟨rfl, rfl, trivial⟩, h4⟩)))
      · rintro Fr _
        refine SO.v rfl (opv_assign rfl) ?_
        exact SO.nilZ fun a w h1 h2 h3 h4 h5 => PZ.of h1 h3 h5 (.cons () (.cons () (.nil ⟨EnvAll.of h2 ⟨rfl, rfl, trivial⟩, h4⟩)))
      rintro _ _ _ u50_L _ _ _ _
      refine S.to (ρ' := [(0, bp bp0 0), (4, .int .i64 0), (8, .bool (t47 != 0))]) ⟨rfl, rfl, rfl, trivial⟩ ?_
      refine S.rd fun hr53 => ?_
      cases h
      refine S.b5 ?_
      refine S.b2 ?_
      refine S.b5 ?_
      refine S.b5 ?_
      refine S.b5 ?_
      refine S.b5 ?_
      refine S.to ?_ (hk7 u50_L trivial)
      exact ⟨rfl, rfl, rfl, trivial⟩
    replace h := cond_f b46 h
    refine S.condF rfl b46 ?_
    refine S.skip ?_
    cases h
    refine S.b5 ?_
    refine S.b5 ?_
    refine S.b4 ?_
    refine S.b4 ?_
    refine S.b4 ?_
    refine S.b5 ?_
    refine S.to ?_ (hk7 v1_L trivial)
    exact ⟨rfl, rfl, rfl, trivial⟩
  rintro vyp1_0_7 -
  replace h := hJ7
  refine S.rd fun hr54 => ?_
  refine S.seq ?_
  refine S.seq ?_
  refine S.region ?_
  refine SO.v rfl (opv_move rfl) ?_
  refine SO.nil ?_
  rcases bool_or j8_7 with b55 | b55
  · replace h := cond_t b55 h
    refine S.condT rfl b55 ?_
    refine S.seq ?_
    refine S.region ?_
    refine SO.v rfl (opv_move rfl) ?_
    refine SO.v rfl (opv_nilCheck rfl) ?_
    refine SO.v rfl (opv_fieldAddr Try.underlying44 rfl Try.sizeOf3 rfl rfl) ?_
    refine SO.b2 ?_
    refine SO.store1 Try.sizeOf3 rfl rfl rfl rfl ?_
    refine SO.nil ?_
    refine S.seq ?_
    refine S.region ?_
    refine SO.v rfl (opv_move rfl) ?_
    refine SO.v rfl (opv_nilCheck rfl) ?_
    refine SO.v rfl (opv_fieldAddr Try.underlying44 rfl Try.sizeOf3 rfl rfl) ?_
    refine SO.store1 Try.sizeOf3 rfl rfl rfl rfl ?_
    refine SO.nil ?_
    refine S.to (ρ' := [(4, .int .i64 0)]) ⟨rfl, trivial⟩ ?_
    refine S.seq ?_
    refine S.region ?_
    refine SO.v rfl (opv_assign rfl) ?_
    refine SO.nil ?_
    cases h
    refine S.b2 ?_
    refine S.drop ?_
    refine S.b4 ?_
    refine S.b2 ?_
    refine S.b4 ?_
    refine S.b4 ?_
    refine S.b4 ?_
    exact S.ret1 Try.func10 rfl rfl (fun w hs hk => hR w _ _ ⟨v0_L, vyp1_0_7, rfl, rfl⟩ hs hk)
  replace h := cond_f b55 h
  refine S.condF rfl b55 ?_
  refine S.skip ?_
  refine S.seq ?_
  refine S.region ?_
  refine SO.v rfl (opv_move rfl) ?_
  refine SO.v rfl (opv_move rfl) ?_
  refine SO.v rfl (opv_nilCheck rfl) ?_
  refine SO.v rfl (opv_fieldAddr Try.underlying44 rfl Try.sizeOf3 rfl rfl) ?_
  refine SO.b2 ?_
  refine SO.load1 rfl Try.isAgg3 rfl rfl ?_
  refine SO.v rfl (opv_add rfl rfl) ?_
  refine SO.v rfl (opv_nilCheck rfl) ?_
  refine SO.v rfl (opv_fieldAddr Try.underlying44 rfl Try.sizeOf3 rfl rfl) ?_
  refine SO.store1 Try.sizeOf3 rfl rfl rfl rfl ?_
  refine SO.nil ?_
  refine S.to (ρ' := [(4, .int .i64 0)]) ⟨rfl, trivial⟩ ?_
  refine S.seq ?_
  refine S.region ?_
  refine SO.v rfl (opv_assign rfl) ?_
  refine SO.nil ?_
  cases h
  refine S.b2 ?_
  refine S.drop ?_
  refine S.b4 ?_
  refine S.b2 ?_
  refine S.b4 ?_
  refine S.b4 ?_
  refine S.b4 ?_
  exact S.ret1 Try.func10 rfl rfl (fun w hs hk => hR w _ _ ⟨v0_L, vyp1_0_7, rfl, rfl⟩ hs hk)
end Go.Proofs
