/- What the functions that RightsTell reaches come to, and that they do. On no condition. -/
import Derived.Test.YtnkgafjmladidaaFnRightsTell0
set_option linter.all false
namespace Go.Proofs
open Go.Sl Go.RowKit
/-! 57 padstone/padstoneref01.Within -/
def ref01_Within.f (k : Nat) (a0 : api_Cap) (a1 : api_Cap) : Option (Bool) :=
  (bif a0.Kind == a1.Kind then (bif a0.Obj == a1.Obj then ((ref01_both.f k a0.Rights a1.Rights).bind fun t5 => bif t5 == a0.Rights then (bif a1.Badge == 0 then (some true) else (some (a0.Badge == a1.Badge))) else (some false)) else (some false)) else (some false)).bind fun j4_1 => some j4_1
set_option maxHeartbeats 8000000 in
set_option maxRecDepth 100000 in
theorem ref01_Within.ct (k : Nat) (a0 : api_Cap) (a1 : api_Cap) (r0 : Bool) (h : ref01_Within.f k a0 a1 = some r0) :
    Ct Try.prog 57 [.agg #[.int .i64 a0.Kind, .int .i64 a0.Rights, .int .i64 a0.Obj, .int .i64 a0.Badge, .int .i64 a0.Guard, .int .i64 a0.Bits], .agg #[.int .i64 a1.Kind, .int .i64 a1.Rights, .int .i64 a1.Obj, .int .i64 a1.Badge, .int .i64 a1.Guard, .int .i64 a1.Bits]] (fun _ => True) [] (fun u H' => u = .bool r0 ∧ H' = []) := by
  unfold ref01_Within.f at h
  refine Ct.intro (n := 39) Try.func57 rfl rfl rfl ?_
  intro R w0 F hF hR
  refine S.seq ?_
  refine S.region ?_
  refine SO.box rfl rfl rfl (fun b1 => ?_)
  refine SO.box rfl rfl rfl (fun b2 => ?_)
  refine SO.v rfl (opv_assign rfl) ?_
  refine SO.nil ?_
  refine S.seq ?_
  obtain ⟨j4_1, hC1, hJ1⟩ := opt_bind h
  clear h
  refine S.cutP (G := Unit) (fun _ => True) (fun _ => [(4, .bool j4_1)]) (fun _ => [Box b2 [.int .i64 a1.Kind, .int .i64 a1.Rights, .int .i64 a1.Obj, .int .i64 a1.Badge, .int .i64 a1.Guard, .int .i64 a1.Bits], Box b1 [.int .i64 a0.Kind, .int .i64 a0.Rights, .int .i64 a0.Obj, .int .i64 a0.Badge, .int .i64 a0.Guard, .int .i64 a0.Bits], F]) (fun hk1 => ?_) ?_
  · replace h := hC1
    rcases bool_or (a0.Kind == a1.Kind) with b3 | b3
    · replace h := cond_t b3 h
      rcases bool_or (a0.Obj == a1.Obj) with b4 | b4
      · replace h := cond_t b4 h
        obtain ⟨t5, ht6, h⟩ := opt_bind h
        rcases bool_or (t5 == a0.Rights) with b7 | b7
        · replace h := cond_t b7 h
          rcases bool_or (a1.Badge == 0) with b8 | b8
          · replace h := cond_t b8 h
            refine S.draw (T := [tS 2 (bp b1 0), tS 3 (bp b2 0), tR (Box b2 [.int .i64 a1.Kind, .int .i64 a1.Rights, .int .i64 a1.Obj, .int .i64 a1.Badge, .int .i64 a1.Guard, .int .i64 a1.Bits]), tR (Box b1 [.int .i64 a0.Kind, .int .i64 a0.Rights, .int .i64 a0.Obj, .int .i64 a0.Badge, .int .i64 a0.Guard, .int .i64 a0.Bits]), tR (F), tS 5 (bp b1 0), tS 6 (.int .i64 a0.Kind), tS 7 (bp b2 0), tS 8 (.int .i64 a1.Kind), tS 9 (.bool (a0.Kind == a1.Kind)), tS 10 (.bool (a0.Kind == a1.Kind)), tS 11 (bp b1 2), tS 12 (.int .i64 a0.Obj), tS 13 (bp b2 2), tS 14 (.int .i64 a1.Obj), tS 15 (.bool (a0.Obj == a1.Obj)), tS 16 (.bool (a0.Obj == a1.Obj)), tS 17 (.bool (a0.Obj == a1.Obj)), tS 18 (bp b1 1), tS 19 (.int .i64 a0.Rights), tS 20 (bp b2 1), tS 21 (.int .i64 a1.Rights), tS 22 (.int .i64 t5), tS 23 (bp b1 1), tS 24 (.int .i64 a0.Rights), tS 25 (.bool (t5 == a0.Rights)), tS 26 (.bool (t5 == a0.Rights)), tS 27 (.bool (t5 == a0.Rights)), tS 28 (bp b2 3), tS 29 (.int .i64 a1.Badge), tS 30 (.bool (a1.Badge == 0)), tS 31 (.bool (a1.Badge == 0)), tS 32 (undef), tS 33 (undef), tS 34 (undef), tS 35 (undef), tS 36 (undef), tS 37 (.bool true), tS 38 (.bool true), tS 4 (.bool true)]) (D := [⟨[0], [], [5]⟩, ⟨[5, 3], [], [6]⟩, ⟨[1], [], [7]⟩, ⟨[7, 2], [], [8]⟩, ⟨[6, 8], [], [9]⟩, ⟨[9], [], [10]⟩, ⟨[0, 10], [], [11]⟩, ⟨[10, 11, 3], [], [12]⟩, ⟨[1, 10], [], [13]⟩, ⟨[10, 13, 2], [], [14]⟩, ⟨[10, 12, 14], [], [15]⟩, ⟨[10, 15], [], [16]⟩, ⟨[16], [], [17]⟩, ⟨[0, 17], [], [18]⟩, ⟨[17, 18, 3], [], [19]⟩, ⟨[1, 17], [], [20]⟩, ⟨[17, 20, 2], [], [21]⟩, ⟨[17, 19, 21], [], [22]⟩, ⟨[0, 17], [], [23]⟩, ⟨[17, 23, 3], [], [24]⟩, ⟨[17, 22, 24], [], [25]⟩, ⟨[17, 25], [], [26]⟩, ⟨[26], [], [27]⟩, ⟨[1, 27], [], [28]⟩, ⟨[27, 28, 2], [], [29]⟩, ⟨[27, 29], [], [30]⟩, ⟨[27, 30], [], [31]⟩, ⟨[31], [], [32]⟩, ⟨[31], [], [33]⟩, ⟨[31], [], [34]⟩, ⟨[31], [], [35]⟩, ⟨[31], [], [36]⟩, ⟨[27, 31, 36], [], [37]⟩, ⟨[27, 37], [], [38]⟩, ⟨[38], [], [39]⟩]) (ini := [0, 1, 2, 3, 4]) (fin := [39, 2, 3, 4]) (bf := [[], [0], [], [2], [0, 1, 2, 3], [0, 1, 2, 3, 4], [0, 1, 2, 3, 4, 5], [0, 1, 2, 3, 4, 5, 6], [0, 1, 2, 3, 4, 5], [0, 1, 2, 3, 4, 5, 8], [0, 1, 2, 3, 4, 5, 6, 7, 8, 9], [0, 1, 2, 3, 4, 5, 6, 7, 8, 9, 10], [0, 1, 2, 3, 4, 5, 6, 7, 8, 9, 10, 11], [0, 1, 2, 3, 4, 5, 6, 7, 8, 9, 10, 11, 12], [0, 1, 2, 3, 4, 5, 6, 7, 8, 9, 10, 11, 12, 13], [0, 1, 2, 3, 4, 5, 6, 7, 8, 9, 10, 11, 12], [0, 1, 2, 3, 4, 5, 6, 7, 8, 9, 10, 11, 12, 15], [0, 1, 2, 3, 4, 5, 6, 7, 8, 9, 10, 11, 12, 13, 14, 15, 16], [0, 1, 2, 3, 4, 5, 6, 7, 8, 9, 10, 11, 12], [0, 1, 2, 3, 4, 5, 6, 7, 8, 9, 10, 11, 12, 18], [0, 1, 2, 3, 4, 5, 6, 7, 8, 9, 10, 11, 12, 13, 14, 15, 16, 17, 18, 19], [0, 1, 2, 3, 4, 5, 6, 7, 8, 9, 10, 11, 12, 13, 14, 15, 16, 17, 18, 19, 20], [0, 1, 2, 3, 4, 5, 6, 7, 8, 9, 10, 11, 12, 13, 14, 15, 16, 17, 18, 19, 20, 21], [0, 1, 2, 3, 4, 5, 6, 7, 8, 9, 10, 11, 12, 13, 14, 15, 16, 17, 18, 19, 20, 21, 22], [0, 1, 2, 3, 4, 5, 6, 7, 8, 9, 10, 11, 12, 13, 14, 15, 16, 17, 18, 19, 20, 21, 22, 23], [0, 1, 2, 3, 4, 5, 6, 7, 8, 9, 10, 11, 12, 13, 14, 15, 16, 17, 18, 19, 20, 21, 22, 23, 24], [0, 1, 2, 3, 4, 5, 6, 7, 8, 9, 10, 11, 12, 13, 14, 15, 16, 17, 18, 19, 20, 21, 22, 23, 24, 25], [0, 1, 2, 3, 4, 5, 6, 7, 8, 9, 10, 11, 12, 13, 14, 15, 16, 17, 18, 19, 20, 21, 22, 23, 24, 25, 26], [0, 1, 2, 3, 4, 5, 6, 7, 8, 9, 10, 11, 12, 13, 14, 15, 16, 17, 18, 19, 20, 21, 22, 23, 24, 25, 26, 27], [0, 1, 2, 3, 4, 5, 6, 7, 8, 9, 10, 11, 12, 13, 14, 15, 16, 17, 18, 19, 20, 21, 22, 23, 24, 25, 26], [0, 1, 2, 3, 4, 5, 6, 7, 8, 9, 10, 11, 12, 13, 14, 15, 16, 17, 18, 19, 20, 21, 22, 23, 24, 25, 26, 29], [0, 1, 2, 3, 4, 5, 6, 7, 8, 9, 10, 11, 12, 13, 14, 15, 16, 17, 18, 19, 20, 21, 22, 23, 24, 25, 26, 27, 28, 29, 30], [0, 1, 2, 3, 4, 5, 6, 7, 8, 9, 10, 11, 12, 13, 14, 15, 16, 17, 18, 19, 20, 21, 22, 23, 24, 25, 26, 27, 28, 29, 30, 31], [0, 1, 2, 3, 4, 5, 6, 7, 8, 9, 10, 11, 12, 13, 14, 15, 16, 17, 18, 19, 20, 21, 22, 23, 24, 25, 26, 27, 28, 29, 30, 31, 32], [0, 1, 2, 3, 4, 5, 6, 7, 8, 9, 10, 11, 12, 13, 14, 15, 16, 17, 18, 19, 20, 21, 22, 23, 24, 25, 26, 27, 28, 29, 30, 31, 32, 33]]) (by kernel_rfl) (by kernel_rfl) (fun x w h1 h2 => (.cons () (.cons () (.cons () (.cons () (.cons () (.nil ⟨EnvAll.of h1 ⟨rfl, rfl, trivial⟩, h2⟩))))))) ⟨?_, ?_, ?_, ?_, ?_, ?_, ?_, ?_, ?_, ?_, ?_, ?_, ?_, ?_, ?_, ?_, ?_, ?_, ?_, ?_, ?_, ?_, ?_, ?_, ?_, ?_, ?_, ?_, ?_, ?_, ?_, ?_, ?_, ?_, ?_, trivial⟩ ?_
            · rintro Fr _
              refine SO.v rfl (opv_fieldAddr Try.underlying53 rfl Try.sizeOf3 rfl rfl) ?_
              exact SO.nilZ fun a w h1 h2 h3 h4 h5 => PZ.of h1 h3 h5 (.cons () (.cons () (.nil ⟨EnvAll.of h2 ⟨rfl, rfl, trivial⟩, h4⟩)))
            · rintro Fr _ _
              refine SO.load1 rfl Try.isAgg3 rfl rfl ?_
              exact SO.nilZ fun a w h1 h2 h3 h4 h5 => PZ.of h1 h3 h5 (.cons () (.cons () (.cons () (.nil ⟨EnvAll.of h2 ⟨rfl, rfl, trivial⟩, h4⟩))))
            · rintro Fr _
              refine SO.v rfl (opv_fieldAddr Try.underlying53 rfl Try.sizeOf3 rfl rfl) ?_
              exact SO.nilZ fun a w h1 h2 h3 h4 h5 => PZ.of h1 h3 h5 (.cons () (.cons () (.nil ⟨EnvAll.of h2 ⟨rfl, rfl, trivial⟩, h4⟩)))
            · rintro Fr _ _
              refine SO.load1 rfl Try.isAgg3 rfl rfl ?_
              exact SO.nilZ fun a w h1 h2 h3 h4 h5 => PZ.of h1 h3 h5 (.cons () (.cons () (.cons () (.nil ⟨EnvAll.of h2 ⟨rfl, rfl, trivial⟩, h4⟩))))
            · rintro Fr _ _
              refine SO.v rfl (opv_eql rfl rfl) ?_
              exact SO.nilZ fun a w h1 h2 h3 h4 h5 => PZ.of h1 h3 h5 (.cons () (.cons () (.cons () (.nil ⟨EnvAll.of h2 ⟨rfl, rfl, rfl, trivial⟩, h4⟩))))
            · rintro Fr _
              refine SO.v rfl (opv_move rfl) ?_
              exact SO.nilZ fun a w h1 h2 h3 h4 h5 => PZ.of h1 h3 h5 (.cons () (.cons () (.nil ⟨EnvAll.of h2 ⟨rfl, rfl, trivial⟩, h4⟩)))
            · rintro Fr _ _
              refine SO.takeT rfl rfl rfl b3 ?_
              refine SO.v rfl (opv_fieldAddr Try.underlying53 rfl Try.sizeOf3 rfl rfl) ?_
              exact SO.nilZ fun a w h1 h2 h3 h4 h5 => PZ.of h1 h3 h5 (.cons () (.cons () (.cons () (.nil ⟨EnvAll.of h2 ⟨rfl, rfl, rfl, trivial⟩, h4⟩))))
            · rintro Fr _ _ _
              refine SO.takeT rfl rfl rfl b3 ?_
              refine SO.load1 rfl Try.isAgg3 rfl rfl ?_
              exact SO.nilZ fun a w h1 h2 h3 h4 h5 => PZ.of h1 h3 h5 (.cons () (.cons () (.cons () (.cons () (.nil ⟨EnvAll.of h2 ⟨rfl, rfl, rfl, trivial⟩, h4⟩)))))
            · rintro Fr _ _
              refine SO.takeT rfl rfl rfl b3 ?_
              refine SO.v rfl (opv_fieldAddr Try.underlying53 rfl Try.sizeOf3 rfl rfl) ?_
              exact SO.nilZ fun a w h1 h2 h3 h4 h5 => PZ.of h1 h3 h5 (.cons () (.cons () (.cons () (.nil ⟨EnvAll.of h2 ⟨rfl, rfl, rfl, trivial⟩, h4⟩))))
            · rintro Fr _ _ _
              refine SO.takeT rfl rfl rfl b3 ?_
              refine SO.load1 rfl Try.isAgg3 rfl rfl ?_
              exact SO.nilZ fun a w h1 h2 h3 h4 h5 => PZ.of h1 h3 h5 (.cons () (.cons () (.cons () (.cons () (.nil ⟨EnvAll.of h2 ⟨rfl, rfl, rfl, trivial⟩, h4⟩)))))
            · rintro Fr _ _ _
              refine SO.takeT rfl rfl rfl b3 ?_
              refine SO.v rfl (opv_eql rfl rfl) ?_
              exact SO.nilZ fun a w h1 h2 h3 h4 h5 => PZ.of h1 h3 h5 (.cons () (.cons () (.cons () (.cons () (.nil ⟨EnvAll.of h2 ⟨rfl, rfl, rfl, rfl, trivial⟩, h4⟩)))))
            · rintro Fr _ _
              refine SO.v rfl (opv_pick_t' b3 rfl rfl) ?_
              exact SO.nilZ fun a w h1 h2 h3 h4 h5 => PZ.of h1 h3 h5 (.cons () (.cons () (.cons () (.nil ⟨EnvAll.of h2 ⟨rfl, rfl, rfl, trivial⟩, h4⟩))))
            · rintro Fr _
              refine SO.v rfl (opv_move rfl) ?_
              exact SO.nilZ fun a w h1 h2 h3 h4 h5 => PZ.of h1 h3 h5 (.cons () (.cons () (.nil ⟨EnvAll.of h2 ⟨rfl, rfl, trivial⟩, h4⟩)))
            · rintro Fr _ _
              refine SO.takeT rfl rfl rfl b4 ?_
              refine SO.v rfl (opv_fieldAddr Try.underlying53 rfl Try.sizeOf3 rfl rfl) ?_
              exact SO.nilZ fun a w h1 h2 h3 h4 h5 => PZ.of h1 h3 h5 (.cons () (.cons () (.cons () (.nil ⟨EnvAll.of h2 ⟨rfl, rfl, rfl, trivial⟩, h4⟩))))
            · rintro Fr _ _ _
              refine SO.takeT rfl rfl rfl b4 ?_
              refine SO.load1 rfl Try.isAgg3 rfl rfl ?_
              exact SO.nilZ fun a w h1 h2 h3 h4 h5 => PZ.of h1 h3 h5 (.cons () (.cons () (.cons () (.cons () (.nil ⟨EnvAll.of h2 ⟨rfl, rfl, rfl, trivial⟩, h4⟩)))))
            · rintro Fr _ _
              refine SO.takeT rfl rfl rfl b4 ?_
              refine SO.v rfl (opv_fieldAddr Try.underlying53 rfl Try.sizeOf3 rfl rfl) ?_
              exact SO.nilZ fun a w h1 h2 h3 h4 h5 => PZ.of h1 h3 h5 (.cons () (.cons () (.cons () (.nil ⟨EnvAll.of h2 ⟨rfl, rfl, rfl, trivial⟩, h4⟩))))
            · rintro Fr _ _ _
              refine SO.takeT rfl rfl rfl b4 ?_
              refine SO.load1 rfl Try.isAgg3 rfl rfl ?_
              exact SO.nilZ fun a w h1 h2 h3 h4 h5 => PZ.of h1 h3 h5 (.cons () (.cons () (.cons () (.cons () (.nil ⟨EnvAll.of h2 ⟨rfl, rfl, rfl, trivial⟩, h4⟩)))))
            · rintro Fr _ _ _
              refine SO.takeT rfl rfl rfl b4 ?_
              refine SO.call (pre := []) rfl Try.call74 rfl rfl rfl (ref01_both.ct _ _ _ _ ht6) trivial ?_
              rintro _ _ ⟨rfl, rfl⟩
              exact SO.nilZ fun a w h1 h2 h3 h4 h5 => PZ.of h1 h3 h5 (.cons () (.cons () (.cons () (.cons () (.nil ⟨EnvAll.of h2 ⟨rfl, rfl, rfl, rfl, trivial⟩, h4⟩)))))
            · rintro Fr _ _
              refine SO.takeT rfl rfl rfl b4 ?_
              refine SO.v rfl (opv_fieldAddr Try.underlying53 rfl Try.sizeOf3 rfl rfl) ?_
              exact SO.nilZ fun a w h1 h2 h3 h4 h5 => PZ.of h1 h3 h5 (.cons () (.cons () (.cons () (.nil ⟨EnvAll.of h2 ⟨rfl, rfl, rfl, trivial⟩, h4⟩))))
            · rintro Fr _ _ _
              refine SO.takeT rfl rfl rfl b4 ?_
              refine SO.load1 rfl Try.isAgg3 rfl rfl ?_
              exact SO.nilZ fun a w h1 h2 h3 h4 h5 => PZ.of h1 h3 h5 (.cons () (.cons () (.cons () (.cons () (.nil ⟨EnvAll.of h2 ⟨rfl, rfl, rfl, trivial⟩, h4⟩)))))
            · rintro Fr _ _ _
              refine SO.takeT rfl rfl rfl b4 ?_
              refine SO.v rfl (opv_eql rfl rfl) ?_
              exact SO.nilZ fun a w h1 h2 h3 h4 h5 => PZ.of h1 h3 h5 (.cons () (.cons () (.cons () (.cons () (.nil ⟨EnvAll.of h2 ⟨rfl, rfl, rfl, rfl, trivial⟩, h4⟩)))))
            · rintro Fr _ _
              refine SO.v rfl (opv_pick_t' b4 rfl rfl) ?_
              exact SO.nilZ fun a w h1 h2 h3 h4 h5 => PZ.of h1 h3 h5 (.cons () (.cons () (.cons () (.nil ⟨EnvAll.of h2 ⟨rfl, rfl, rfl, trivial⟩, h4⟩))))
            · rintro Fr _
              refine SO.v rfl (opv_move rfl) ?_
              exact SO.nilZ fun a w h1 h2 h3 h4 h5 => PZ.of h1 h3 h5 (.cons () (.cons () (.nil ⟨EnvAll.of h2 ⟨rfl, rfl, trivial⟩, h4⟩)))
            · rintro Fr _ _
              refine SO.takeT rfl rfl rfl b7 ?_
              refine SO.v rfl (opv_fieldAddr Try.underlying53 rfl Try.sizeOf3 rfl rfl) ?_
              exact SO.nilZ fun a w h1 h2 h3 h4 h5 => PZ.of h1 h3 h5 (.cons () (.cons () (.cons () (.nil ⟨EnvAll.of h2 ⟨rfl, rfl, rfl, trivial⟩, h4⟩))))
            · rintro Fr _ _ _
              refine SO.takeT rfl rfl rfl b7 ?_
              refine SO.load1 rfl Try.isAgg3 rfl rfl ?_
              exact SO.nilZ fun a w h1 h2 h3 h4 h5 => PZ.of h1 h3 h5 (.cons () (.cons () (.cons () (.cons () (.nil ⟨EnvAll.of h2 ⟨rfl, rfl, rfl, trivial⟩, h4⟩)))))
            · rintro Fr _ _
              refine SO.takeT rfl rfl rfl b7 ?_
              refine SO.v rfl (opv_eql rfl rfl) ?_
              exact SO.nilZ fun a w h1 h2 h3 h4 h5 => PZ.of h1 h3 h5 (.cons () (.cons () (.cons () (.nil ⟨EnvAll.of h2 ⟨rfl, rfl, rfl, trivial⟩, h4⟩))))
            · rintro Fr _ _
              refine SO.takeT rfl rfl rfl b7 ?_
              refine SO.v rfl (opv_move rfl) ?_
              exact SO.nilZ fun a w h1 h2 h3 h4 h5 => PZ.of h1 h3 h5 (.cons () (.cons () (.cons () (.nil ⟨EnvAll.of h2 ⟨rfl, rfl, rfl, trivial⟩, h4⟩))))
            · rintro Fr _
              refine SO.passF rfl rfl rfl b8 rfl rfl ?_
              exact SO.nilZ fun a w h1 h2 h3 h4 h5 => PZ.of h1 h3 h5 (.cons () (.cons () (.nil ⟨EnvAll.of h2 ⟨rfl, rfl, trivial⟩, h4⟩)))
            · rintro Fr _
              refine SO.passF rfl rfl rfl b8 rfl rfl ?_
              exact SO.nilZ fun a w h1 h2 h3 h4 h5 => PZ.of h1 h3 h5 (.cons () (.cons () (.nil ⟨EnvAll.of h2 ⟨rfl, rfl, trivial⟩, h4⟩)))
            · rintro Fr _
              refine SO.passF rfl rfl rfl b8 rfl rfl ?_
              exact SO.nilZ fun a w h1 h2 h3 h4 h5 => PZ.of h1 h3 h5 (.cons () (.cons () (.nil ⟨EnvAll.of h2 ⟨rfl, rfl, trivial⟩, h4⟩)))
            · rintro Fr _
              refine SO.passF rfl rfl rfl b8 rfl rfl ?_
              exact SO.nilZ fun a w h1 h2 h3 h4 h5 => PZ.of h1 h3 h5 (.cons () (.cons () (.nil ⟨EnvAll.of h2 ⟨rfl, rfl, trivial⟩, h4⟩)))
            · rintro Fr _
              refine SO.passF rfl rfl rfl b8 rfl rfl ?_
              exact SO.nilZ fun a w h1 h2 h3 h4 h5 => PZ.of h1 h3 h5 (.cons () (.cons () (.nil ⟨EnvAll.of h2 ⟨rfl, rfl, trivial⟩, h4⟩)))
            · rintro Fr _ _ _
              refine SO.takeT rfl rfl rfl b7 ?_
              refine SO.v rfl (opv_pick_t' b8 rfl rfl) ?_
              exact SO.nilZ fun a w h1 h2 h3 h4 h5 => PZ.of h1 h3 h5 (.cons () (.cons () (.cons () (.cons () (.nil ⟨EnvAll.of h2 ⟨rfl, rfl, rfl, rfl, trivial⟩, h4⟩)))))
            · rintro Fr _ _
              refine SO.v rfl (opv_pick_t' b7 rfl rfl) ?_
              exact SO.nilZ fun a w h1 h2 h3 h4 h5 => PZ.of h1 h3 h5 (.cons () (.cons () (.cons () (.nil ⟨EnvAll.of h2 ⟨rfl, rfl, rfl, trivial⟩, h4⟩))))
            · rintro Fr _
              refine SO.v rfl (opv_assign rfl) ?_
              exact SO.nilZ fun a w h1 h2 h3 h4 h5 => PZ.of h1 h3 h5 (.cons () (.cons () (.nil ⟨EnvAll.of h2 ⟨rfl, rfl, trivial⟩, h4⟩)))
            rintro _ _ _ _
            show S _ _ _ _ _ _ _ [Box b2 [.int .i64 a1.Kind, .int .i64 a1.Rights, .int .i64 a1.Obj, .int .i64 a1.Badge, .int .i64 a1.Guard, .int .i64 a1.Bits], Box b1 [.int .i64 a0.Kind, .int .i64 a0.Rights, .int .i64 a0.Obj, .int .i64 a0.Badge, .int .i64 a0.Guard, .int .i64 a0.Bits], F]
            refine S.to (ρ' := [(4, .bool true)]) ⟨rfl, trivial⟩ ?_
            cases h
            refine S.b2 ?_
            refine S.b2 ?_
            refine S.b2 ?_
            refine S.to ?_ (hk1 () trivial)
            exact ⟨rfl, trivial⟩
          · replace h := cond_f b8 h
            refine S.draw (T := [tS 2 (bp b1 0), tS 3 (bp b2 0), tR (Box b2 [.int .i64 a1.Kind, .int .i64 a1.Rights, .int .i64 a1.Obj, .int .i64 a1.Badge, .int .i64 a1.Guard, .int .i64 a1.Bits]), tR (Box b1 [.int .i64 a0.Kind, .int .i64 a0.Rights, .int .i64 a0.Obj, .int .i64 a0.Badge, .int .i64 a0.Guard, .int .i64 a0.Bits]), tR (F), tS 5 (bp b1 0), tS 6 (.int .i64 a0.Kind), tS 7 (bp b2 0), tS 8 (.int .i64 a1.Kind), tS 9 (.bool (a0.Kind == a1.Kind)), tS 10 (.bool (a0.Kind == a1.Kind)), tS 11 (bp b1 2), tS 12 (.int .i64 a0.Obj), tS 13 (bp b2 2), tS 14 (.int .i64 a1.Obj), tS 15 (.bool (a0.Obj == a1.Obj)), tS 16 (.bool (a0.Obj == a1.Obj)), tS 17 (.bool (a0.Obj == a1.Obj)), tS 18 (bp b1 1), tS 19 (.int .i64 a0.Rights), tS 20 (bp b2 1), tS 21 (.int .i64 a1.Rights), tS 22 (.int .i64 t5), tS 23 (bp b1 1), tS 24 (.int .i64 a0.Rights), tS 25 (.bool (t5 == a0.Rights)), tS 26 (.bool (t5 == a0.Rights)), tS 27 (.bool (t5 == a0.Rights)), tS 28 (bp b2 3), tS 29 (.int .i64 a1.Badge), tS 30 (.bool (a1.Badge == 0)), tS 31 (.bool (a1.Badge == 0)), tS 32 (bp b1 3), tS 33 (.int .i64 a0.Badge), tS 34 (bp b2 3), tS 35 (.int .i64 a1.Badge), tS 36 (.bool (a0.Badge == a1.Badge)), tS 37 (.bool (a0.Badge == a1.Badge)), tS 38 (.bool (a0.Badge == a1.Badge)), tS 4 (.bool (a0.Badge == a1.Badge))]) (D := [⟨[0], [], [5]⟩, ⟨[5, 3], [], [6]⟩, ⟨[1], [], [7]⟩, ⟨[7, 2], [], [8]⟩, ⟨[6, 8], [], [9]⟩, ⟨[9], [], [10]⟩, ⟨[0, 10], [], [11]⟩, ⟨[10, 11, 3], [], [12]⟩, ⟨[1, 10], [], [13]⟩, ⟨[10, 13, 2], [], [14]⟩, ⟨[10, 12, 14], [], [15]⟩, ⟨[10, 15], [], [16]⟩, ⟨[16], [], [17]⟩, ⟨[0, 17], [], [18]⟩, ⟨[17, 18, 3], [], [19]⟩, ⟨[1, 17], [], [20]⟩, ⟨[17, 20, 2], [], [21]⟩, ⟨[17, 19, 21], [], [22]⟩, ⟨[0, 17], [], [23]⟩, ⟨[17, 23, 3], [], [24]⟩, ⟨[17, 22, 24], [], [25]⟩, ⟨[17, 25], [], [26]⟩, ⟨[26], [], [27]⟩, ⟨[1, 27], [], [28]⟩, ⟨[27, 28, 2], [], [29]⟩, ⟨[27, 29], [], [30]⟩, ⟨[27, 30], [], [31]⟩, ⟨[0, 31], [], [32]⟩, ⟨[31, 32, 3], [], [33]⟩, ⟨[1, 31], [], [34]⟩, ⟨[31, 34, 2], [], [35]⟩, ⟨[31, 33, 35], [], [36]⟩, ⟨[27, 31, 36], [], [37]⟩, ⟨[27, 37], [], [38]⟩, ⟨[38], [], [39]⟩]) (ini := [0, 1, 2, 3, 4]) (fin := [39, 2, 3, 4]) (bf := [[], [0], [], [2], [0, 1, 2, 3], [0, 1, 2, 3, 4], [0, 1, 2, 3, 4, 5], [0, 1, 2, 3, 4, 5, 6], [0, 1, 2, 3, 4, 5], [0, 1, 2, 3, 4, 5, 8], [0, 1, 2, 3, 4, 5, 6, 7, 8, 9], [0, 1, 2, 3, 4, 5, 6, 7, 8, 9, 10], [0, 1, 2, 3, 4, 5, 6, 7, 8, 9, 10, 11], [0, 1, 2, 3, 4, 5, 6, 7, 8, 9, 10, 11, 12], [0, 1, 2, 3, 4, 5, 6, 7, 8, 9, 10, 11, 12, 13], [0, 1, 2, 3, 4, 5, 6, 7, 8, 9, 10, 11, 12], [0, 1, 2, 3, 4, 5, 6, 7, 8, 9, 10, 11, 12, 15], [0, 1, 2, 3, 4, 5, 6, 7, 8, 9, 10, 11, 12, 13, 14, 15, 16], [0, 1, 2, 3, 4, 5, 6, 7, 8, 9, 10, 11, 12], [0, 1, 2, 3, 4, 5, 6, 7, 8, 9, 10, 11, 12, 18], [0, 1, 2, 3, 4, 5, 6, 7, 8, 9, 10, 11, 12, 13, 14, 15, 16, 17, 18, 19], [0, 1, 2, 3, 4, 5, 6, 7, 8, 9, 10, 11, 12, 13, 14, 15, 16, 17, 18, 19, 20], [0, 1, 2, 3, 4, 5, 6, 7, 8, 9, 10, 11, 12, 13, 14, 15, 16, 17, 18, 19, 20, 21], [0, 1, 2, 3, 4, 5, 6, 7, 8, 9, 10, 11, 12, 13, 14, 15, 16, 17, 18, 19, 20, 21, 22], [0, 1, 2, 3, 4, 5, 6, 7, 8, 9, 10, 11, 12, 13, 14, 15, 16, 17, 18, 19, 20, 21, 22, 23], [0, 1, 2, 3, 4, 5, 6, 7, 8, 9, 10, 11, 12, 13, 14, 15, 16, 17, 18, 19, 20, 21, 22, 23, 24], [0, 1, 2, 3, 4, 5, 6, 7, 8, 9, 10, 11, 12, 13, 14, 15, 16, 17, 18, 19, 20, 21, 22, 23, 24, 25], [0, 1, 2, 3, 4, 5, 6, 7, 8, 9, 10, 11, 12, 13, 14, 15, 16, 17, 18, 19, 20, 21, 22, 23, 24, 25, 26], [0, 1, 2, 3, 4, 5, 6, 7, 8, 9, 10, 11, 12, 13, 14, 15, 16, 17, 18, 19, 20, 21, 22, 23, 24, 25, 26, 27], [0, 1, 2, 3, 4, 5, 6, 7, 8, 9, 10, 11, 12, 13, 14, 15, 16, 17, 18, 19, 20, 21, 22, 23, 24, 25, 26], [0, 1, 2, 3, 4, 5, 6, 7, 8, 9, 10, 11, 12, 13, 14, 15, 16, 17, 18, 19, 20, 21, 22, 23, 24, 25, 26, 29], [0, 1, 2, 3, 4, 5, 6, 7, 8, 9, 10, 11, 12, 13, 14, 15, 16, 17, 18, 19, 20, 21, 22, 23, 24, 25, 26, 27, 28, 29, 30], [0, 1, 2, 3, 4, 5, 6, 7, 8, 9, 10, 11, 12, 13, 14, 15, 16, 17, 18, 19, 20, 21, 22, 23, 24, 25, 26, 27, 28, 29, 30, 31], [0, 1, 2, 3, 4, 5, 6, 7, 8, 9, 10, 11, 12, 13, 14, 15, 16, 17, 18, 19, 20, 21, 22, 23, 24, 25, 26, 27, 28, 29, 30, 31, 32], [0, 1, 2, 3, 4, 5, 6, 7, 8, 9, 10, 11, 12, 13, 14, 15, 16, 17, 18, 19, 20, 21, 22, 23, 24, 25, 26, 27, 28, 29, 30, 31, 32, 33]]) (by kernel_rfl) (by kernel_rfl) (fun x w h1 h2 => (.cons () (.cons () (.cons () (.cons () (.cons () (.nil ⟨EnvAll.of h1 ⟨rfl, rfl, trivial⟩, h2⟩))))))) ⟨?_, ?_, ?_, ?_, ?_, ?_, ?_, ?_, ?_, ?_, ?_, ?_, ?_, ?_, ?_, ?_, ?_, ?_, ?_, ?_, ?_, ?_, ?_, ?_, ?_, ?_, ?_, ?_, ?_, ?_, ?_, ?_, ?_, ?_, ?_, trivial⟩ ?_
            · rintro Fr _
              refine SO.v rfl (opv_fieldAddr Try.underlying53 rfl Try.sizeOf3 rfl rfl) ?_
              exact SO.nilZ fun a w h1 h2 h3 h4 h5 => PZ.of h1 h3 h5 (.cons () (.cons () (.nil ⟨EnvAll.of h2 ⟨rfl, rfl, trivial⟩, h4⟩)))
            · rintro Fr _ _
              refine SO.load1 rfl Try.isAgg3 rfl rfl ?_
              exact SO.nilZ fun a w h1 h2 h3 h4 h5 => PZ.of h1 h3 h5 (.cons () (.cons () (.cons () (.nil ⟨EnvAll.of h2 ⟨rfl, rfl, trivial⟩, h4⟩))))
            · rintro Fr _
              refine SO.v rfl (opv_fieldAddr Try.underlying53 rfl Try.sizeOf3 rfl rfl) ?_
              exact SO.nilZ fun a w h1 h2 h3 h4 h5 => PZ.of h1 h3 h5 (.cons () (.cons () (.nil ⟨EnvAll.of h2 ⟨rfl, rfl, trivial⟩, h4⟩)))
            · rintro Fr _ _
              refine SO.load1 rfl Try.isAgg3 rfl rfl ?_
              exact SO.nilZ fun a w h1 h2 h3 h4 h5 => PZ.of h1 h3 h5 (.cons () (.cons () (.cons () (.nil ⟨EnvAll.of h2 ⟨rfl, rfl, trivial⟩, h4⟩))))
            · rintro Fr _ _
              refine SO.v rfl (opv_eql rfl rfl) ?_
              exact SO.nilZ fun a w h1 h2 h3 h4 h5 => PZ.of h1 h3 h5 (.cons () (.cons () (.cons () (.nil ⟨EnvAll.of h2 ⟨rfl, rfl, rfl, trivial⟩, h4⟩))))
            · rintro Fr _
              refine SO.v rfl (opv_move rfl) ?_
              exact SO.nilZ fun a w h1 h2 h3 h4 h5 => PZ.of h1 h3 h5 (.cons () (.cons () (.nil ⟨EnvAll.of h2 ⟨rfl, rfl, trivial⟩, h4⟩)))
            · rintro Fr _ _
              refine SO.takeT rfl rfl rfl b3 ?_
              refine SO.v rfl (opv_fieldAddr Try.underlying53 rfl Try.sizeOf3 rfl rfl) ?_
              exact SO.nilZ fun a w h1 h2 h3 h4 h5 => PZ.of h1 h3 h5 (.cons () (.cons () (.cons () (.nil ⟨EnvAll.of h2 ⟨rfl, rfl, rfl, trivial⟩, h4⟩))))
            · rintro Fr _ _ _
              refine SO.takeT rfl rfl rfl b3 ?_
              refine SO.load1 rfl Try.isAgg3 rfl rfl ?_
              exact SO.nilZ fun a w h1 h2 h3 h4 h5 => PZ.of h1 h3 h5 (.cons () (.cons () (.cons () (.cons () (.nil ⟨EnvAll.of h2 ⟨rfl, rfl, rfl, trivial⟩, h4⟩)))))
            · rintro Fr _ _
              refine SO.takeT rfl rfl rfl b3 ?_
              refine SO.v rfl (opv_fieldAddr Try.underlying53 rfl Try.sizeOf3 rfl rfl) ?_
              exact SO.nilZ fun a w h1 h2 h3 h4 h5 => PZ.of h1 h3 h5 (.cons () (.cons () (.cons () (.nil ⟨EnvAll.of h2 ⟨rfl, rfl, rfl, trivial⟩, h4⟩))))
            · rintro Fr _ _ _
              refine SO.takeT rfl rfl rfl b3 ?_
              refine SO.load1 rfl Try.isAgg3 rfl rfl ?_
              exact SO.nilZ fun a w h1 h2 h3 h4 h5 => PZ.of h1 h3 h5 (.cons () (.cons () (.cons () (.cons () (.nil ⟨EnvAll.of h2 ⟨rfl, rfl, rfl, trivial⟩, h4⟩)))))
            · rintro Fr _ _ _
              refine SO.takeT rfl rfl rfl b3 ?_
              refine SO.v rfl (opv_eql rfl rfl) ?_
              exact SO.nilZ fun a w h1 h2 h3 h4 h5 => PZ.of h1 h3 h5 (.cons () (.cons () (.cons () (.cons () (.nil ⟨EnvAll.of h2 ⟨rfl, rfl, rfl, rfl, trivial⟩, h4⟩)))))
            · rintro Fr _ _
              refine SO.v rfl (opv_pick_t' b3 rfl rfl) ?_
              exact SO.nilZ fun a w h1 h2 h3 h4 h5 => PZ.of h1 h3 h5 (.cons () (.cons () (.cons () (.nil ⟨EnvAll.of h2 ⟨rfl, rfl, rfl, trivial⟩, h4⟩))))
            · rintro Fr _
              refine SO.v rfl (opv_move rfl) ?_
              exact SO.nilZ fun a w h1 h2 h3 h4 h5 => PZ.of h1 h3 h5 (.cons () (.cons () (.nil ⟨EnvAll.of h2 ⟨rfl, rfl, trivial⟩, h4⟩)))
            · rintro Fr _ _
              refine SO.takeT rfl rfl rfl b4 ?_
              refine SO.v rfl (opv_fieldAddr Try.underlying53 rfl Try.sizeOf3 rfl rfl) ?_
              exact SO.nilZ fun a w h1 h2 h3 h4 h5 => PZ.of h1 h3 h5 (.cons () (.cons () (.cons () (.nil ⟨EnvAll.of h2 ⟨rfl, rfl, rfl, trivial⟩, h4⟩))))
            · rintro Fr _ _ _
              refine SO.takeT rfl rfl rfl b4 ?_
              refine SO.load1 rfl Try.isAgg3 rfl rfl ?_
              exact SO.nilZ fun a w h1 h2 h3 h4 h5 => PZ.of h1 h3 h5 (.cons () (.cons () (.cons () (.cons () (.nil ⟨EnvAll.of h2 ⟨rfl, rfl, rfl, trivial⟩, h4⟩)))))
            · rintro Fr _ _
              refine SO.takeT rfl rfl rfl b4 ?_
              refine SO.v rfl (opv_fieldAddr Try.underlying53 rfl Try.sizeOf3 rfl rfl) ?_
              exact SO.nilZ fun a w h1 h2 h3 h4 h5 => PZ.of h1 h3 h5 (.cons () (.cons () (.cons () (.nil ⟨EnvAll.of h2 ⟨rfl, rfl, rfl, trivial⟩, h4⟩))))
            · rintro Fr _ _ _
              refine SO.takeT rfl rfl rfl b4 ?_
              refine SO.load1 rfl Try.isAgg3 rfl rfl ?_
              exact SO.nilZ fun a w h1 h2 h3 h4 h5 => PZ.of h1 h3 h5 (.cons () (.cons () (.cons () (.cons () (.nil ⟨EnvAll.of h2 ⟨rfl, rfl, rfl, trivial⟩, h4⟩)))))
            · rintro Fr _ _ _
              refine SO.takeT rfl rfl rfl b4 ?_
              refine SO.call (pre := []) rfl Try.call74 rfl rfl rfl (ref01_both.ct _ _ _ _ ht6) trivial ?_
              rintro _ _ ⟨rfl, rfl⟩
              exact SO.nilZ fun a w h1 h2 h3 h4 h5 => PZ.of h1 h3 h5 (.cons () (.cons () (.cons () (.cons () (.nil ⟨EnvAll.of h2 ⟨rfl, rfl, rfl, rfl, trivial⟩, h4⟩)))))
            · rintro Fr _ _
              refine SO.takeT rfl rfl rfl b4 ?_
              refine SO.v rfl (opv_fieldAddr Try.underlying53 rfl Try.sizeOf3 rfl rfl) ?_
              exact SO.nilZ fun a w h1 h2 h3 h4 h5 => PZ.of h1 h3 h5 (.cons () (.cons () (.cons () (.nil ⟨EnvAll.of h2 ⟨rfl, rfl, rfl, trivial⟩, h4⟩))))
            · rintro Fr _ _ _
              refine SO.takeT rfl rfl rfl b4 ?_
              refine SO.load1 rfl Try.isAgg3 rfl rfl ?_
              exact SO.nilZ fun a w h1 h2 h3 h4 h5 => PZ.of h1 h3 h5 (.cons () (.cons () (.cons () (.cons () (.nil ⟨EnvAll.of h2 ⟨rfl, rfl, rfl, trivial⟩, h4⟩)))))
            · rintro Fr _ _ _
              refine SO.takeT rfl rfl rfl b4 ?_
              refine SO.v rfl (opv_eql rfl rfl) ?_
              exact SO.nilZ fun a w h1 h2 h3 h4 h5 => PZ.of h1 h3 h5 (.cons () (.cons () (.cons () (.cons () (.nil ⟨EnvAll.of h2 ⟨rfl, rfl, rfl, rfl, trivial⟩, h4⟩)))))
            · rintro Fr _ _
              refine SO.v rfl (opv_pick_t' b4 rfl rfl) ?_
              exact SO.nilZ fun a w h1 h2 h3 h4 h5 => PZ.of h1 h3 h5 (.cons () (.cons () (.cons () (.nil ⟨EnvAll.of h2 ⟨rfl, rfl, rfl, trivial⟩, h4⟩))))
            · rintro Fr _
              refine SO.v rfl (opv_move rfl) ?_
              exact SO.nilZ fun a w h1 h2 h3 h4 h5 => PZ.of h1 h3 h5 (.cons () (.cons () (.nil ⟨EnvAll.of h2 ⟨rfl, rfl, trivial⟩, h4⟩)))
            · rintro Fr _ _
              refine SO.takeT rfl rfl rfl b7 ?_
              refine SO.v rfl (opv_fieldAddr Try.underlying53 rfl Try.sizeOf3 rfl rfl) ?_
              exact SO.nilZ fun a w h1 h2 h3 h4 h5 => PZ.of h1 h3 h5 (.cons () (.cons () (.cons () (.nil ⟨EnvAll.of h2 ⟨rfl, rfl, rfl, trivial⟩, h4⟩))))
            · rintro Fr _ _ _
              refine SO.takeT rfl rfl rfl b7 ?_
              refine SO.load1 rfl Try.isAgg3 rfl rfl ?_
              exact SO.nilZ fun a w h1 h2 h3 h4 h5 => PZ.of h1 h3 h5 (.cons () (.cons () (.cons () (.cons () (.nil ⟨EnvAll.of h2 ⟨rfl, rfl, rfl, trivial⟩, h4⟩)))))
            · rintro Fr _ _
              refine SO.takeT rfl rfl rfl b7 ?_
              refine SO.v rfl (opv_eql rfl rfl) ?_
              exact SO.nilZ fun a w h1 h2 h3 h4 h5 => PZ.of h1 h3 h5 (.cons () (.cons () (.cons () (.nil ⟨EnvAll.of h2 ⟨rfl, rfl, rfl, trivial⟩, h4⟩))))
            · rintro Fr _ _
              refine SO.takeT rfl rfl rfl b7 ?_
              refine SO.v rfl (opv_move rfl) ?_
              exact SO.nilZ fun a w h1 h2 h3 h4 h5 => PZ.of h1 h3 h5 (.cons () (.cons () (.cons () (.nil ⟨EnvAll.of h2 ⟨rfl, rfl, rfl, trivial⟩, h4⟩))))
            · rintro Fr _ _
              refine SO.takeT rfl rfl rfl b8 ?_
              refine SO.v rfl (opv_fieldAddr Try.underlying53 rfl Try.sizeOf3 rfl rfl) ?_
              exact SO.nilZ fun a w h1 h2 h3 h4 h5 => PZ.of h1 h3 h5 (.cons () (.cons () (.cons () (.nil ⟨EnvAll.of h2 ⟨rfl, rfl, rfl, trivial⟩, h4⟩))))
            · rintro Fr _ _ _
              refine SO.takeT rfl rfl rfl b8 ?_
              refine SO.load1 rfl Try.isAgg3 rfl rfl ?_
              exact SO.nilZ fun a w h1 h2 h3 h4 h5 => PZ.of h1 h3 h5 (.cons () (.cons () (.cons () (.cons () (.nil ⟨EnvAll.of h2 ⟨rfl, rfl, rfl, trivial⟩, h4⟩)))))
            · rintro Fr _ _
              refine SO.takeT rfl rfl rfl b8 ?_
              refine SO.v rfl (opv_fieldAddr Try.underlying53 rfl Try.sizeOf3 rfl rfl) ?_
              exact SO.nilZ fun a w h1 h2 h3 h4 h5 => PZ.of h1 h3 h5 (.cons () (.cons () (.cons () (.nil ⟨EnvAll.of h2 ⟨rfl, rfl, rfl, trivial⟩, h4⟩))))
            · rintro Fr _ _ _
              refine SO.takeT rfl rfl rfl b8 ?_
              refine SO.load1 rfl Try.isAgg3 rfl rfl ?_
              exact SO.nilZ fun a w h1 h2 h3 h4 h5 => PZ.of h1 h3 h5 (.cons () (.cons () (.cons () (.cons () (.nil ⟨EnvAll.of h2 ⟨rfl, rfl, rfl, trivial⟩, h4⟩)))))
            · rintro Fr _ _ _
              refine SO.takeT rfl rfl rfl b8 ?_
              refine SO.v rfl (opv_eql rfl rfl) ?_
              exact SO.nilZ fun a w h1 h2 h3 h4 h5 => PZ.of h1 h3 h5 (.cons () (.cons () (.cons () (.cons () (.nil ⟨EnvAll.of h2 ⟨rfl, rfl, rfl, rfl, trivial⟩, h4⟩)))))
            · rintro Fr _ _ _
              refine SO.takeT rfl rfl rfl b7 ?_
              refine SO.v rfl (opv_pick_f' b8 rfl rfl) ?_
              exact SO.nilZ fun a w h1 h2 h3 h4 h5 => PZ.of h1 h3 h5 (.cons () (.cons () (.cons () (.cons () (.nil ⟨EnvAll.of h2 ⟨rfl, rfl, rfl, rfl, trivial⟩, h4⟩)))))
            · rintro Fr _ _
              refine SO.v rfl (opv_pick_t' b7 rfl rfl) ?_
              exact SO.nilZ fun a w h1 h2 h3 h4 h5 => PZ.of h1 h3 h5 (.cons () (.cons () (.cons () (.nil ⟨EnvAll.of h2 ⟨rfl, rfl, rfl, trivial⟩, h4⟩))))
            · rintro Fr _
              refine SO.v rfl (opv_assign rfl) ?_
              exact SO.nilZ fun a w h1 h2 h3 h4 h5 => PZ.of h1 h3 h5 (.cons () (.cons () (.nil ⟨EnvAll.of h2 ⟨rfl, rfl, trivial⟩, h4⟩)))
            rintro _ _ _ _
            show S _ _ _ _ _ _ _ [Box b2 [.int .i64 a1.Kind, .int .i64 a1.Rights, .int .i64 a1.Obj, .int .i64 a1.Badge, .int .i64 a1.Guard, .int .i64 a1.Bits], Box b1 [.int .i64 a0.Kind, .int .i64 a0.Rights, .int .i64 a0.Obj, .int .i64 a0.Badge, .int .i64 a0.Guard, .int .i64 a0.Bits], F]
            refine S.to (ρ' := [(4, .bool (a0.Badge == a1.Badge))]) ⟨rfl, trivial⟩ ?_
            cases h
            refine S.b2 ?_
            refine S.b2 ?_
            refine S.b2 ?_
            refine S.to ?_ (hk1 () trivial)
            exact ⟨rfl, trivial⟩
        · replace h := cond_f b7 h
          refine S.draw (T := [tS 2 (bp b1 0), tS 3 (bp b2 0), tR (Box b2 [.int .i64 a1.Kind, .int .i64 a1.Rights, .int .i64 a1.Obj, .int .i64 a1.Badge, .int .i64 a1.Guard, .int .i64 a1.Bits]), tR (Box b1 [.int .i64 a0.Kind, .int .i64 a0.Rights, .int .i64 a0.Obj, .int .i64 a0.Badge, .int .i64 a0.Guard, .int .i64 a0.Bits]), tR (F), tS 5 (bp b1 0), tS 6 (.int .i64 a0.Kind), tS 7 (bp b2 0), tS 8 (.int .i64 a1.Kind), tS 9 (.bool (a0.Kind == a1.Kind)), tS 10 (.bool (a0.Kind == a1.Kind)), tS 11 (bp b1 2), tS 12 (.int .i64 a0.Obj), tS 13 (bp b2 2), tS 14 (.int .i64 a1.Obj), tS 15 (.bool (a0.Obj == a1.Obj)), tS 16 (.bool (a0.Obj == a1.Obj)), tS 17 (.bool (a0.Obj == a1.Obj)), tS 18 (bp b1 1), tS 19 (.int .i64 a0.Rights), tS 20 (bp b2 1), tS 21 (.int .i64 a1.Rights), tS 22 (.int .i64 t5), tS 23 (bp b1 1), tS 24 (.int .i64 a0.Rights), tS 25 (.bool (t5 == a0.Rights)), tS 26 (.bool (t5 == a0.Rights)), tS 27 (.bool (t5 == a0.Rights)), tS 28 (undef), tS 29 (undef), tS 30 (undef), tS 31 (undef), tS 32 (undef), tS 33 (undef), tS 34 (undef), tS 35 (undef), tS 36 (undef), tS 37 (undef), tS 38 (.bool false), tS 4 (.bool false)]) (D := [⟨[0], [], [5]⟩, ⟨[5, 3], [], [6]⟩, ⟨[1], [], [7]⟩, ⟨[7, 2], [], [8]⟩, ⟨[6, 8], [], [9]⟩, ⟨[9], [], [10]⟩, ⟨[0, 10], [], [11]⟩, ⟨[10, 11, 3], [], [12]⟩, ⟨[1, 10], [], [13]⟩, ⟨[10, 13, 2], [], [14]⟩, ⟨[10, 12, 14], [], [15]⟩, ⟨[10, 15], [], [16]⟩, ⟨[16], [], [17]⟩, ⟨[0, 17], [], [18]⟩, ⟨[17, 18, 3], [], [19]⟩, ⟨[1, 17], [], [20]⟩, ⟨[17, 20, 2], [], [21]⟩, ⟨[17, 19, 21], [], [22]⟩, ⟨[0, 17], [], [23]⟩, ⟨[17, 23, 3], [], [24]⟩, ⟨[17, 22, 24], [], [25]⟩, ⟨[17, 25], [], [26]⟩, ⟨[26], [], [27]⟩, ⟨[27], [], [28]⟩, ⟨[27], [], [29]⟩, ⟨[27], [], [30]⟩, ⟨[27], [], [31]⟩, ⟨[31], [], [32]⟩, ⟨[31], [], [33]⟩, ⟨[31], [], [34]⟩, ⟨[31], [], [35]⟩, ⟨[31], [], [36]⟩, ⟨[27], [], [37]⟩, ⟨[27, 37], [], [38]⟩, ⟨[38], [], [39]⟩]) (ini := [0, 1, 2, 3, 4]) (fin := [39, 2, 3, 4]) (bf := [[], [0], [], [2], [0, 1, 2, 3], [0, 1, 2, 3, 4], [0, 1, 2, 3, 4, 5], [0, 1, 2, 3, 4, 5, 6], [0, 1, 2, 3, 4, 5], [0, 1, 2, 3, 4, 5, 8], [0, 1, 2, 3, 4, 5, 6, 7, 8, 9], [0, 1, 2, 3, 4, 5, 6, 7, 8, 9, 10], [0, 1, 2, 3, 4, 5, 6, 7, 8, 9, 10, 11], [0, 1, 2, 3, 4, 5, 6, 7, 8, 9, 10, 11, 12], [0, 1, 2, 3, 4, 5, 6, 7, 8, 9, 10, 11, 12, 13], [0, 1, 2, 3, 4, 5, 6, 7, 8, 9, 10, 11, 12], [0, 1, 2, 3, 4, 5, 6, 7, 8, 9, 10, 11, 12, 15], [0, 1, 2, 3, 4, 5, 6, 7, 8, 9, 10, 11, 12, 13, 14, 15, 16], [0, 1, 2, 3, 4, 5, 6, 7, 8, 9, 10, 11, 12], [0, 1, 2, 3, 4, 5, 6, 7, 8, 9, 10, 11, 12, 18], [0, 1, 2, 3, 4, 5, 6, 7, 8, 9, 10, 11, 12, 13, 14, 15, 16, 17, 18, 19], [0, 1, 2, 3, 4, 5, 6, 7, 8, 9, 10, 11, 12, 13, 14, 15, 16, 17, 18, 19, 20], [0, 1, 2, 3, 4, 5, 6, 7, 8, 9, 10, 11, 12, 13, 14, 15, 16, 17, 18, 19, 20, 21], [0, 1, 2, 3, 4, 5, 6, 7, 8, 9, 10, 11, 12, 13, 14, 15, 16, 17, 18, 19, 20, 21, 22], [0, 1, 2, 3, 4, 5, 6, 7, 8, 9, 10, 11, 12, 13, 14, 15, 16, 17, 18, 19, 20, 21, 22, 23], [0, 1, 2, 3, 4, 5, 6, 7, 8, 9, 10, 11, 12, 13, 14, 15, 16, 17, 18, 19, 20, 21, 22, 23, 24], [0, 1, 2, 3, 4, 5, 6, 7, 8, 9, 10, 11, 12, 13, 14, 15, 16, 17, 18, 19, 20, 21, 22, 23, 24, 25], [0, 1, 2, 3, 4, 5, 6, 7, 8, 9, 10, 11, 12, 13, 14, 15, 16, 17, 18, 19, 20, 21, 22, 23, 24, 25, 26], [0, 1, 2, 3, 4, 5, 6, 7, 8, 9, 10, 11, 12, 13, 14, 15, 16, 17, 18, 19, 20, 21, 22, 23, 24, 25, 26, 27], [0, 1, 2, 3, 4, 5, 6, 7, 8, 9, 10, 11, 12, 13, 14, 15, 16, 17, 18, 19, 20, 21, 22, 23, 24, 25, 26], [0, 1, 2, 3, 4, 5, 6, 7, 8, 9, 10, 11, 12, 13, 14, 15, 16, 17, 18, 19, 20, 21, 22, 23, 24, 25, 26, 29], [0, 1, 2, 3, 4, 5, 6, 7, 8, 9, 10, 11, 12, 13, 14, 15, 16, 17, 18, 19, 20, 21, 22, 23, 24, 25, 26, 27, 28, 29, 30], [0, 1, 2, 3, 4, 5, 6, 7, 8, 9, 10, 11, 12, 13, 14, 15, 16, 17, 18, 19, 20, 21, 22, 23, 24, 25, 26, 27, 28, 29, 30, 31], [0, 1, 2, 3, 4, 5, 6, 7, 8, 9, 10, 11, 12, 13, 14, 15, 16, 17, 18, 19, 20, 21, 22, 23, 24, 25, 26, 27, 28, 29, 30, 31, 32], [0, 1, 2, 3, 4, 5, 6, 7, 8, 9, 10, 11, 12, 13, 14, 15, 16, 17, 18, 19, 20, 21, 22, 23, 24, 25, 26, 27, 28, 29, 30, 31, 32, 33]]) (by kernel_rfl) (by kernel_rfl) (fun x w h1 h2 => (.cons () (.cons () (.cons () (.cons () (.cons () (.nil ⟨EnvAll.of h1 ⟨rfl, rfl, trivial⟩, h2⟩))))))) ⟨?_, ?_, ?_, ?_, ?_, ?_, ?_, ?_, ?_, ?_, ?_, ?_, ?_, ?_, ?_, ?_, ?_, ?_, ?_, ?_, ?_, ?_, ?_, ?_, ?_, ?_, ?_, ?_, ?_, ?_, ?_, ?_, ?_, ?_, ?_, trivial⟩ ?_
          · rintro Fr _
            refine SO.v rfl (opv_fieldAddr Try.underlying53 rfl Try.sizeOf3 rfl rfl) ?_
            exact SO.nilZ fun a w h1 h2 h3 h4 h5 => PZ.of h1 h3 h5 (.cons () (.cons () (.nil ⟨EnvAll.of h2 ⟨rfl, rfl, trivial⟩, h4⟩)))
          · rintro Fr _ _
            refine SO.load1 rfl Try.isAgg3 rfl rfl ?_
            exact SO.nilZ fun a w h1 h2 h3 h4 h5 => PZ.of h1 h3 h5 (.cons () (.cons () (.cons () (.nil ⟨EnvAll.of h2 ⟨rfl, rfl, trivial⟩, h4⟩))))
          · rintro Fr _
            refine SO.v rfl (opv_fieldAddr Try.underlying53 rfl Try.sizeOf3 rfl rfl) ?_
            exact SO.nilZ fun a w h1 h2 h3 h4 h5 => PZ.of h1 h3 h5 (.cons () (.cons () (.nil ⟨EnvAll.of h2 ⟨rfl, rfl, trivial⟩, h4⟩)))
          · rintro Fr _ _
            refine SO.load1 rfl Try.isAgg3 rfl rfl ?_
            exact SO.nilZ fun a w h1 h2 h3 h4 h5 => PZ.of h1 h3 h5 (.cons () (.cons () (.cons () (.nil ⟨EnvAll.of h2 ⟨rfl, rfl, trivial⟩, h4⟩))))
          · rintro Fr _ _
            refine SO.v rfl (opv_eql rfl rfl) ?_
            exact SO.nilZ fun a w h1 h2 h3 h4 h5 => PZ.of h1 h3 h5 (.cons () (.cons () (.cons () (.nil ⟨EnvAll.of h2 ⟨rfl, rfl, rfl, trivial⟩, h4⟩))))
          · rintro Fr _
            refine SO.v rfl (opv_move rfl) ?_
            exact SO.nilZ fun a w h1 h2 h3 h4 h5 => PZ.of h1 h3 h5 (.cons () (.cons () (.nil ⟨EnvAll.of h2 ⟨rfl, rfl, trivial⟩, h4⟩)))
          · rintro Fr _ _
            refine SO.takeT rfl rfl rfl b3 ?_
            refine SO.v rfl (opv_fieldAddr Try.underlying53 rfl Try.sizeOf3 rfl rfl) ?_
            exact SO.nilZ fun a w h1 h2 h3 h4 h5 => PZ.of h1 h3 h5 (.cons () (.cons () (.cons () (.nil ⟨EnvAll.of h2 ⟨rfl, rfl, rfl, trivial⟩, h4⟩))))
          · rintro Fr _ _ _
            refine SO.takeT rfl rfl rfl b3 ?_
            refine SO.load1 rfl Try.isAgg3 rfl rfl ?_
            exact SO.nilZ fun a w h1 h2 h3 h4 h5 => PZ.of h1 h3 h5 (.cons () (.cons () (.cons () (.cons () (.nil ⟨EnvAll.of h2 ⟨rfl, rfl, rfl, trivial⟩, h4⟩)))))
          · rintro Fr _ _
            refine SO.takeT rfl rfl rfl b3 ?_
            refine SO.v rfl (opv_fieldAddr Try.underlying53 rfl Try.sizeOf3 rfl rfl) ?_
            exact SO.nilZ fun a w h1 h2 h3 h4 h5 => PZ.of h1 h3 h5 (.cons () (.cons () (.cons () (.nil ⟨EnvAll.of h2 ⟨rfl, rfl, rfl, trivial⟩, h4⟩))))
          · rintro Fr _ _ _
            refine SO.takeT rfl rfl rfl b3 ?_
            refine SO.load1 rfl Try.isAgg3 rfl rfl ?_
            exact SO.nilZ fun a w h1 h2 h3 h4 h5 => PZ.of h1 h3 h5 (.cons () (.cons () (.cons () (.cons () (.nil ⟨EnvAll.of h2 ⟨rfl, rfl, rfl, trivial⟩, h4⟩)))))
          · rintro Fr _ _ _
            refine SO.takeT rfl rfl rfl b3 ?_
            refine SO.v rfl (opv_eql rfl rfl) ?_
            exact SO.nilZ fun a w h1 h2 h3 h4 h5 => PZ.of h1 h3 h5 (.cons () (.cons () (.cons () (.cons () (.nil ⟨EnvAll.of h2 ⟨rfl, rfl, rfl, rfl, trivial⟩, h4⟩)))))
          · rintro Fr _ _
            refine SO.v rfl (opv_pick_t' b3 rfl rfl) ?_
            exact SO.nilZ fun a w h1 h2 h3 h4 h5 => PZ.of h1 h3 h5 (.cons () (.cons () (.cons () (.nil ⟨EnvAll.of h2 ⟨rfl, rfl, rfl, trivial⟩, h4⟩))))
          · rintro Fr _
            refine SO.v rfl (opv_move rfl) ?_
            exact SO.nilZ fun a w h1 h2 h3 h4 h5 => PZ.of h1 h3 h5 (.cons () (.cons () (.nil ⟨EnvAll.of h2 ⟨rfl, rfl, trivial⟩, h4⟩)))
          · rintro Fr _ _
            refine SO.takeT rfl rfl rfl b4 ?_
            refine SO.v rfl (opv_fieldAddr Try.underlying53 rfl Try.sizeOf3 rfl rfl) ?_
            exact SO.nilZ fun a w h1 h2 h3 h4 h5 => PZ.of h1 h3 h5 (.cons () (.cons () (.cons () (.nil ⟨EnvAll.of h2 ⟨rfl, rfl, rfl, trivial⟩, h4⟩))))
          · rintro Fr _ _ _
            refine SO.takeT rfl rfl rfl b4 ?_
            refine SO.load1 rfl Try.isAgg3 rfl rfl ?_
            exact SO.nilZ fun a w h1 h2 h3 h4 h5 => PZ.of h1 h3 h5 (.cons () (.cons () (.cons () (.cons () (.nil ⟨EnvAll.of h2 ⟨rfl, rfl, rfl, trivial⟩, h4⟩)))))
          · rintro Fr _ _
            refine SO.takeT rfl rfl rfl b4 ?_
            refine SO.v rfl (opv_fieldAddr Try.underlying53 rfl Try.sizeOf3 rfl rfl) ?_
            exact SO.nilZ fun a w h1 h2 h3 h4 h5 => PZ.of h1 h3 h5 (.cons () (.cons () (.cons () (.nil ⟨EnvAll.of h2 ⟨rfl, rfl, rfl, trivial⟩, h4⟩))))
          · rintro Fr _ _ _
            refine SO.takeT rfl rfl rfl b4 ?_
            refine SO.load1 rfl Try.isAgg3 rfl rfl ?_
            exact SO.nilZ fun a w h1 h2 h3 h4 h5 => PZ.of h1 h3 h5 (.cons () (.cons () (.cons () (.cons () (.nil ⟨EnvAll.of h2 ⟨rfl, rfl, rfl, trivial⟩, h4⟩)))))
          · rintro Fr _ _ _
            refine SO.takeT rfl rfl rfl b4 ?_
            refine SO.call (pre := []) rfl Try.call74 rfl rfl rfl (ref01_both.ct _ _ _ _ ht6) trivial ?_
            rintro _ _ ⟨rfl, rfl⟩
            exact SO.nilZ fun a w h1 h2 h3 h4 h5 => PZ.of h1 h3 h5 (.cons () (.cons () (.cons () (.cons () (.nil ⟨EnvAll.of h2 ⟨rfl, rfl, rfl, rfl, trivial⟩, h4⟩)))))
          · rintro Fr _ _
            refine SO.takeT rfl rfl rfl b4 ?_
            refine SO.v rfl (opv_fieldAddr Try.underlying53 rfl Try.sizeOf3 rfl rfl) ?_
            exact SO.nilZ fun a w h1 h2 h3 h4 h5 => PZ.of h1 h3 h5 (.cons () (.cons () (.cons () (.nil ⟨EnvAll.of h2 ⟨rfl, rfl, rfl, trivial⟩, h4⟩))))
          · rintro Fr _ _ _
            refine SO.takeT rfl rfl rfl b4 ?_
            refine SO.load1 rfl Try.isAgg3 rfl rfl ?_
            exact SO.nilZ fun a w h1 h2 h3 h4 h5 => PZ.of h1 h3 h5 (.cons () (.cons () (.cons () (.cons () (.nil ⟨EnvAll.of h2 ⟨rfl, rfl, rfl, trivial⟩, h4⟩)))))
          · rintro Fr _ _ _
            refine SO.takeT rfl rfl rfl b4 ?_
            refine SO.v rfl (opv_eql rfl rfl) ?_
            exact SO.nilZ fun a w h1 h2 h3 h4 h5 => PZ.of h1 h3 h5 (.cons () (.cons () (.cons () (.cons () (.nil ⟨EnvAll.of h2 ⟨rfl, rfl, rfl, rfl, trivial⟩, h4⟩)))))
          · rintro Fr _ _
            refine SO.v rfl (opv_pick_t' b4 rfl rfl) ?_
            exact SO.nilZ fun a w h1 h2 h3 h4 h5 => PZ.of h1 h3 h5 (.cons () (.cons () (.cons () (.nil ⟨EnvAll.of h2 ⟨rfl, rfl, rfl, trivial⟩, h4⟩))))
          · rintro Fr _
            refine SO.v rfl (opv_move rfl) ?_
            exact SO.nilZ fun a w h1 h2 h3 h4 h5 => PZ.of h1 h3 h5 (.cons () (.cons () (.nil ⟨EnvAll.of h2 ⟨rfl, rfl, trivial⟩, h4⟩)))
          · rintro Fr _
            refine SO.passF rfl rfl rfl b7 rfl rfl ?_
            exact SO.nilZ fun a w h1 h2 h3 h4 h5 => PZ.of h1 h3 h5 (.cons () (.cons () (.nil ⟨EnvAll.of h2 ⟨rfl, rfl, trivial⟩, h4⟩)))
          · rintro Fr _
            refine SO.passF rfl rfl rfl b7 rfl rfl ?_
            exact SO.nilZ fun a w h1 h2 h3 h4 h5 => PZ.of h1 h3 h5 (.cons () (.cons () (.nil ⟨EnvAll.of h2 ⟨rfl, rfl, trivial⟩, h4⟩)))
          · rintro Fr _
            refine SO.passF rfl rfl rfl b7 rfl rfl ?_
            exact SO.nilZ fun a w h1 h2 h3 h4 h5 => PZ.of h1 h3 h5 (.cons () (.cons () (.nil ⟨EnvAll.of h2 ⟨rfl, rfl, trivial⟩, h4⟩)))
          · rintro Fr _
            refine SO.passF rfl rfl rfl b7 rfl rfl ?_
            exact SO.nilZ fun a w h1 h2 h3 h4 h5 => PZ.of h1 h3 h5 (.cons () (.cons () (.nil ⟨EnvAll.of h2 ⟨rfl, rfl, trivial⟩, h4⟩)))
          · rintro Fr _
            refine SO.pass_undef rfl rfl rfl rfl ?_
            exact SO.nilZ fun a w h1 h2 h3 h4 h5 => PZ.of h1 h3 h5 (.cons () (.cons () (.nil ⟨EnvAll.of h2 ⟨rfl, rfl, trivial⟩, h4⟩)))
          · rintro Fr _
            refine SO.pass_undef rfl rfl rfl rfl ?_
            exact SO.nilZ fun a w h1 h2 h3 h4 h5 => PZ.of h1 h3 h5 (.cons () (.cons () (.nil ⟨EnvAll.of h2 ⟨rfl, rfl, trivial⟩, h4⟩)))
          · rintro Fr _
            refine SO.pass_undef rfl rfl rfl rfl ?_
            exact SO.nilZ fun a w h1 h2 h3 h4 h5 => PZ.of h1 h3 h5 (.cons () (.cons () (.nil ⟨EnvAll.of h2 ⟨rfl, rfl, trivial⟩, h4⟩)))
          · rintro Fr _
            refine SO.pass_undef rfl rfl rfl rfl ?_
            exact SO.nilZ fun a w h1 h2 h3 h4 h5 => PZ.of h1 h3 h5 (.cons () (.cons () (.nil ⟨EnvAll.of h2 ⟨rfl, rfl, trivial⟩, h4⟩)))
          · rintro Fr _
            refine SO.pass_undef rfl rfl rfl rfl ?_
            exact SO.nilZ fun a w h1 h2 h3 h4 h5 => PZ.of h1 h3 h5 (.cons () (.cons () (.nil ⟨EnvAll.of h2 ⟨rfl, rfl, trivial⟩, h4⟩)))
          · rintro Fr _
            refine SO.passF rfl rfl rfl b7 rfl rfl ?_
            exact SO.nilZ fun a w h1 h2 h3 h4 h5 => PZ.of h1 h3 h5 (.cons () (.cons () (.nil ⟨EnvAll.of h2 ⟨rfl, rfl, trivial⟩, h4⟩)))
          · rintro Fr _ _
            refine SO.v rfl (opv_pick_f' b7 rfl rfl) ?_
            exact SO.nilZ fun a w h1 h2 h3 h4 h5 => PZ.of h1 h3 h5 (.cons () (.cons () (.cons () (.nil ⟨EnvAll.of h2 ⟨rfl, rfl, rfl, trivial⟩, h4⟩))))
          · rintro Fr _
            refine SO.v rfl (opv_assign rfl) ?_
            exact SO.nilZ fun a w h1 h2 h3 h4 h5 => PZ.of h1 h3 h5 (.cons () (.cons () (.nil ⟨EnvAll.of h2 ⟨rfl, rfl, trivial⟩, h4⟩)))
          rintro _ _ _ _
          show S _ _ _ _ _ _ _ [Box b2 [.int .i64 a1.Kind, .int .i64 a1.Rights, .int .i64 a1.Obj, .int .i64 a1.Badge, .int .i64 a1.Guard, .int .i64 a1.Bits], Box b1 [.int .i64 a0.Kind, .int .i64 a0.Rights, .int .i64 a0.Obj, .int .i64 a0.Badge, .int .i64 a0.Guard, .int .i64 a0.Bits], F]
          refine S.to (ρ' := [(4, .bool false)]) ⟨rfl, trivial⟩ ?_
          cases h
          refine S.b2 ?_
          refine S.b2 ?_
          refine S.b2 ?_
          refine S.to ?_ (hk1 () trivial)
          exact ⟨rfl, trivial⟩
      · replace h := cond_f b4 h
        refine S.draw (T := [tS 2 (bp b1 0), tS 3 (bp b2 0), tR (Box b2 [.int .i64 a1.Kind, .int .i64 a1.Rights, .int .i64 a1.Obj, .int .i64 a1.Badge, .int .i64 a1.Guard, .int .i64 a1.Bits]), tR (Box b1 [.int .i64 a0.Kind, .int .i64 a0.Rights, .int .i64 a0.Obj, .int .i64 a0.Badge, .int .i64 a0.Guard, .int .i64 a0.Bits]), tR (F), tS 5 (bp b1 0), tS 6 (.int .i64 a0.Kind), tS 7 (bp b2 0), tS 8 (.int .i64 a1.Kind), tS 9 (.bool (a0.Kind == a1.Kind)), tS 10 (.bool (a0.Kind == a1.Kind)), tS 11 (bp b1 2), tS 12 (.int .i64 a0.Obj), tS 13 (bp b2 2), tS 14 (.int .i64 a1.Obj), tS 15 (.bool (a0.Obj == a1.Obj)), tS 16 (.bool (a0.Obj == a1.Obj)), tS 17 (.bool (a0.Obj == a1.Obj)), tS 18 (undef), tS 19 (undef), tS 20 (undef), tS 21 (undef), tS 22 (undef), tS 23 (undef), tS 24 (undef), tS 25 (undef), tS 26 (.bool false), tS 27 (.bool false), tS 28 (undef), tS 29 (undef), tS 30 (undef), tS 31 (undef), tS 32 (undef), tS 33 (undef), tS 34 (undef), tS 35 (undef), tS 36 (undef), tS 37 (undef), tS 38 (.bool false), tS 4 (.bool false)]) (D := [⟨[0], [], [5]⟩, ⟨[5, 3], [], [6]⟩, ⟨[1], [], [7]⟩, ⟨[7, 2], [], [8]⟩, ⟨[6, 8], [], [9]⟩, ⟨[9], [], [10]⟩, ⟨[0, 10], [], [11]⟩, ⟨[10, 11, 3], [], [12]⟩, ⟨[1, 10], [], [13]⟩, ⟨[10, 13, 2], [], [14]⟩, ⟨[10, 12, 14], [], [15]⟩, ⟨[10, 15], [], [16]⟩, ⟨[16], [], [17]⟩, ⟨[17], [], [18]⟩, ⟨[17], [], [19]⟩, ⟨[17], [], [20]⟩, ⟨[17], [], [21]⟩, ⟨[17], [], [22]⟩, ⟨[17], [], [23]⟩, ⟨[17], [], [24]⟩, ⟨[17], [], [25]⟩, ⟨[17, 25], [], [26]⟩, ⟨[26], [], [27]⟩, ⟨[27], [], [28]⟩, ⟨[27], [], [29]⟩, ⟨[27], [], [30]⟩, ⟨[27], [], [31]⟩, ⟨[31], [], [32]⟩, ⟨[31], [], [33]⟩, ⟨[31], [], [34]⟩, ⟨[31], [], [35]⟩, ⟨[31], [], [36]⟩, ⟨[27], [], [37]⟩, ⟨[27, 37], [], [38]⟩, ⟨[38], [], [39]⟩]) (ini := [0, 1, 2, 3, 4]) (fin := [39, 2, 3, 4]) (bf := [[], [0], [], [2], [0, 1, 2, 3], [0, 1, 2, 3, 4], [0, 1, 2, 3, 4, 5], [0, 1, 2, 3, 4, 5, 6], [0, 1, 2, 3, 4, 5], [0, 1, 2, 3, 4, 5, 8], [0, 1, 2, 3, 4, 5, 6, 7, 8, 9], [0, 1, 2, 3, 4, 5, 6, 7, 8, 9, 10], [0, 1, 2, 3, 4, 5, 6, 7, 8, 9, 10, 11], [0, 1, 2, 3, 4, 5, 6, 7, 8, 9, 10, 11, 12], [0, 1, 2, 3, 4, 5, 6, 7, 8, 9, 10, 11, 12, 13], [0, 1, 2, 3, 4, 5, 6, 7, 8, 9, 10, 11, 12], [0, 1, 2, 3, 4, 5, 6, 7, 8, 9, 10, 11, 12, 15], [0, 1, 2, 3, 4, 5, 6, 7, 8, 9, 10, 11, 12, 13, 14, 15, 16], [0, 1, 2, 3, 4, 5, 6, 7, 8, 9, 10, 11, 12], [0, 1, 2, 3, 4, 5, 6, 7, 8, 9, 10, 11, 12, 18], [0, 1, 2, 3, 4, 5, 6, 7, 8, 9, 10, 11, 12, 13, 14, 15, 16, 17, 18, 19], [0, 1, 2, 3, 4, 5, 6, 7, 8, 9, 10, 11, 12, 13, 14, 15, 16, 17, 18, 19, 20], [0, 1, 2, 3, 4, 5, 6, 7, 8, 9, 10, 11, 12, 13, 14, 15, 16, 17, 18, 19, 20, 21], [0, 1, 2, 3, 4, 5, 6, 7, 8, 9, 10, 11, 12, 13, 14, 15, 16, 17, 18, 19, 20, 21, 22], [0, 1, 2, 3, 4, 5, 6, 7, 8, 9, 10, 11, 12, 13, 14, 15, 16, 17, 18, 19, 20, 21, 22, 23], [0, 1, 2, 3, 4, 5, 6, 7, 8, 9, 10, 11, 12, 13, 14, 15, 16, 17, 18, 19, 20, 21, 22, 23, 24], [0, 1, 2, 3, 4, 5, 6, 7, 8, 9, 10, 11, 12, 13, 14, 15, 16, 17, 18, 19, 20, 21, 22, 23, 24, 25], [0, 1, 2, 3, 4, 5, 6, 7, 8, 9, 10, 11, 12, 13, 14, 15, 16, 17, 18, 19, 20, 21, 22, 23, 24, 25, 26], [0, 1, 2, 3, 4, 5, 6, 7, 8, 9, 10, 11, 12, 13, 14, 15, 16, 17, 18, 19, 20, 21, 22, 23, 24, 25, 26, 27], [0, 1, 2, 3, 4, 5, 6, 7, 8, 9, 10, 11, 12, 13, 14, 15, 16, 17, 18, 19, 20, 21, 22, 23, 24, 25, 26], [0, 1, 2, 3, 4, 5, 6, 7, 8, 9, 10, 11, 12, 13, 14, 15, 16, 17, 18, 19, 20, 21, 22, 23, 24, 25, 26, 29], [0, 1, 2, 3, 4, 5, 6, 7, 8, 9, 10, 11, 12, 13, 14, 15, 16, 17, 18, 19, 20, 21, 22, 23, 24, 25, 26, 27, 28, 29, 30], [0, 1, 2, 3, 4, 5, 6, 7, 8, 9, 10, 11, 12, 13, 14, 15, 16, 17, 18, 19, 20, 21, 22, 23, 24, 25, 26, 27, 28, 29, 30, 31], [0, 1, 2, 3, 4, 5, 6, 7, 8, 9, 10, 11, 12, 13, 14, 15, 16, 17, 18, 19, 20, 21, 22, 23, 24, 25, 26, 27, 28, 29, 30, 31, 32], [0, 1, 2, 3, 4, 5, 6, 7, 8, 9, 10, 11, 12, 13, 14, 15, 16, 17, 18, 19, 20, 21, 22, 23, 24, 25, 26, 27, 28, 29, 30, 31, 32, 33]]) (by kernel_rfl) (by kernel_rfl) (fun x w h1 h2 => (.cons () (.cons () (.cons () (.cons () (.cons () (.nil ⟨EnvAll.of h1 ⟨rfl, rfl, trivial⟩, h2⟩))))))) ⟨?_, ?_, ?_, ?_, ?_, ?_, ?_, ?_, ?_, ?_, ?_, ?_, ?_, ?_, ?_, ?_, ?_, ?_, ?_, ?_, ?_, ?_, ?_, ?_, ?_, ?_, ?_, ?_, ?_, ?_, ?_, ?_, ?_, ?_, ?_, trivial⟩ ?_
        · rintro Fr _
          refine SO.v rfl (opv_fieldAddr Try.underlying53 rfl Try.sizeOf3 rfl rfl) ?_
          exact SO.nilZ fun a w h1 h2 h3 h4 h5 => PZ.of h1 h3 h5 (.cons () (.cons () (.nil ⟨EnvAll.of h2 ⟨rfl, rfl, trivial⟩, h4⟩)))
        · rintro Fr _ _
          refine SO.load1 rfl Try.isAgg3 rfl rfl ?_
          exact SO.nilZ fun a w h1 h2 h3 h4 h5 => PZ.of h1 h3 h5 (.cons () (.cons () (.cons () (.nil ⟨EnvAll.of h2 ⟨rfl, rfl, trivial⟩, h4⟩))))
        · rintro Fr _
          refine SO.v rfl (opv_fieldAddr Try.underlying53 rfl Try.sizeOf3 rfl rfl) ?_
          exact SO.nilZ fun a w h1 h2 h3 h4 h5 => PZ.of h1 h3 h5 (.cons () (.cons () (.nil ⟨EnvAll.of h2 ⟨rfl, rfl, trivial⟩, h4⟩)))
        · rintro Fr _ _
          refine SO.load1 rfl Try.isAgg3 rfl rfl ?_
          exact SO.nilZ fun a w h1 h2 h3 h4 h5 => PZ.of h1 h3 h5 (.cons () (.cons () (.cons () (.nil ⟨EnvAll.of h2 ⟨rfl, rfl, trivial⟩, h4⟩))))
        · rintro Fr _ _
          refine SO.v rfl (opv_eql rfl rfl) ?_
          exact SO.nilZ fun a w h1 h2 h3 h4 h5 => PZ.of h1 h3 h5 (.cons () (.cons () (.cons () (.nil ⟨EnvAll.of h2 ⟨rfl, rfl, rfl, trivial⟩, h4⟩))))
        · rintro Fr _
          refine SO.v rfl (opv_move rfl) ?_
          exact SO.nilZ fun a w h1 h2 h3 h4 h5 => PZ.of h1 h3 h5 (.cons () (.cons () (.nil ⟨EnvAll.of h2 ⟨rfl, rfl, trivial⟩, h4⟩)))
        · rintro Fr _ _
          refine SO.takeT rfl rfl rfl b3 ?_
          refine SO.v rfl (opv_fieldAddr Try.underlying53 rfl Try.sizeOf3 rfl rfl) ?_
          exact SO.nilZ fun a w h1 h2 h3 h4 h5 => PZ.of h1 h3 h5 (.cons () (.cons () (.cons () (.nil ⟨EnvAll.of h2 ⟨rfl, rfl, rfl, trivial⟩, h4⟩))))
        · rintro Fr _ _ _
          refine SO.takeT rfl rfl rfl b3 ?_
          refine SO.load1 rfl Try.isAgg3 rfl rfl ?_
          exact SO.nilZ fun a w h1 h2 h3 h4 h5 => PZ.of h1 h3 h5 (.cons () (.cons () (.cons () (.cons () (.nil ⟨EnvAll.of h2 ⟨rfl, rfl, rfl, trivial⟩, h4⟩)))))
        · rintro Fr _ _
          refine SO.takeT rfl rfl rfl b3 ?_
          refine SO.v rfl (opv_fieldAddr Try.underlying53 rfl Try.sizeOf3 rfl rfl) ?_
          exact SO.nilZ fun a w h1 h2 h3 h4 h5 => PZ.of h1 h3 h5 (.cons () (.cons () (.cons () (.nil ⟨EnvAll.of h2 ⟨rfl, rfl, rfl, trivial⟩, h4⟩))))
        · rintro Fr _ _ _
          refine SO.takeT rfl rfl rfl b3 ?_
          refine SO.load1 rfl Try.isAgg3 rfl rfl ?_
          exact SO.nilZ fun a w h1 h2 h3 h4 h5 => PZ.of h1 h3 h5 (.cons () (.cons () (.cons () (.cons () (.nil ⟨EnvAll.of h2 ⟨rfl, rfl, rfl, trivial⟩, h4⟩)))))
        · rintro Fr _ _ _
          refine SO.takeT rfl rfl rfl b3 ?_
          refine SO.v rfl (opv_eql rfl rfl) ?_
          exact SO.nilZ fun a w h1 h2 h3 h4 h5 => PZ.of h1 h3 h5 (.cons () (.cons () (.cons () (.cons () (.nil ⟨EnvAll.of h2 ⟨rfl, rfl, rfl, rfl, trivial⟩, h4⟩)))))
        · rintro Fr _ _
          refine SO.v rfl (opv_pick_t' b3 rfl rfl) ?_
          exact SO.nilZ fun a w h1 h2 h3 h4 h5 => PZ.of h1 h3 h5 (.cons () (.cons () (.cons () (.nil ⟨EnvAll.of h2 ⟨rfl, rfl, rfl, trivial⟩, h4⟩))))
        · rintro Fr _
          refine SO.v rfl (opv_move rfl) ?_
          exact SO.nilZ fun a w h1 h2 h3 h4 h5 => PZ.of h1 h3 h5 (.cons () (.cons () (.nil ⟨EnvAll.of h2 ⟨rfl, rfl, trivial⟩, h4⟩)))
        · rintro Fr _
          refine SO.passF rfl rfl rfl b4 rfl rfl ?_
          exact SO.nilZ fun a w h1 h2 h3 h4 h5 => PZ.of h1 h3 h5 (.cons () (.cons () (.nil ⟨EnvAll.of h2 ⟨rfl, rfl, trivial⟩, h4⟩)))
        · rintro Fr _
          refine SO.passF rfl rfl rfl b4 rfl rfl ?_
          exact SO.nilZ fun a w h1 h2 h3 h4 h5 => PZ.of h1 h3 h5 (.cons () (.cons () (.nil ⟨EnvAll.of h2 ⟨rfl, rfl, trivial⟩, h4⟩)))
        · rintro Fr _
          refine SO.passF rfl rfl rfl b4 rfl rfl ?_
          exact SO.nilZ fun a w h1 h2 h3 h4 h5 => PZ.of h1 h3 h5 (.cons () (.cons () (.nil ⟨EnvAll.of h2 ⟨rfl, rfl, trivial⟩, h4⟩)))
        · rintro Fr _
          refine SO.passF rfl rfl rfl b4 rfl rfl ?_
          exact SO.nilZ fun a w h1 h2 h3 h4 h5 => PZ.of h1 h3 h5 (.cons () (.cons () (.nil ⟨EnvAll.of h2 ⟨rfl, rfl, trivial⟩, h4⟩)))
        · rintro Fr _
          refine SO.passF rfl rfl rfl b4 rfl rfl ?_
          exact SO.nilZ fun a w h1 h2 h3 h4 h5 => PZ.of h1 h3 h5 (.cons () (.cons () (.nil ⟨EnvAll.of h2 ⟨rfl, rfl, trivial⟩, h4⟩)))
        · rintro Fr _
          refine SO.passF rfl rfl rfl b4 rfl rfl ?_
          exact SO.nilZ fun a w h1 h2 h3 h4 h5 => PZ.of h1 h3 h5 (.cons () (.cons () (.nil ⟨EnvAll.of h2 ⟨rfl, rfl, trivial⟩, h4⟩)))
        · rintro Fr _
          refine SO.passF rfl rfl rfl b4 rfl rfl ?_
          exact SO.nilZ fun a w h1 h2 h3 h4 h5 => PZ.of h1 h3 h5 (.cons () (.cons () (.nil ⟨EnvAll.of h2 ⟨rfl, rfl, trivial⟩, h4⟩)))
        · rintro Fr _
          refine SO.passF rfl rfl rfl b4 rfl rfl ?_
          exact SO.nilZ fun a w h1 h2 h3 h4 h5 => PZ.of h1 h3 h5 (.cons () (.cons () (.nil ⟨EnvAll.of h2 ⟨rfl, rfl, trivial⟩, h4⟩)))
        · rintro Fr _ _
          refine SO.v rfl (opv_pick_f' b4 rfl rfl) ?_
          exact SO.nilZ fun a w h1 h2 h3 h4 h5 => PZ.of h1 h3 h5 (.cons () (.cons () (.cons () (.nil ⟨EnvAll.of h2 ⟨rfl, rfl, rfl, trivial⟩, h4⟩))))
        · rintro Fr _
          refine SO.v rfl (opv_move rfl) ?_
          exact SO.nilZ fun a w h1 h2 h3 h4 h5 => PZ.of h1 h3 h5 (.cons () (.cons () (.nil ⟨EnvAll.of h2 ⟨rfl, rfl, trivial⟩, h4⟩)))
        · rintro Fr _
          refine SO.passF rfl rfl rfl rfl rfl rfl ?_
          exact SO.nilZ fun a w h1 h2 h3 h4 h5 => PZ.of h1 h3 h5 (.cons () (.cons () (.nil ⟨EnvAll.of h2 ⟨rfl, rfl, trivial⟩, h4⟩)))
        · rintro Fr _
          refine SO.passF rfl rfl rfl rfl rfl rfl ?_
          exact SO.nilZ fun a w h1 h2 h3 h4 h5 => PZ.of h1 h3 h5 (.cons () (.cons () (.nil ⟨EnvAll.of h2 ⟨rfl, rfl, trivial⟩, h4⟩)))
        · rintro Fr _
          refine SO.passF rfl rfl rfl rfl rfl rfl ?_
          exact SO.nilZ fun a w h1 h2 h3 h4 h5 => PZ.of h1 h3 h5 (.cons () (.cons () (.nil ⟨EnvAll.of h2 ⟨rfl, rfl, trivial⟩, h4⟩)))
        · rintro Fr _
          refine SO.passF rfl rfl rfl rfl rfl rfl ?_
          exact SO.nilZ fun a w h1 h2 h3 h4 h5 => PZ.of h1 h3 h5 (.cons () (.cons () (.nil ⟨EnvAll.of h2 ⟨rfl, rfl, trivial⟩, h4⟩)))
        · rintro Fr _
          refine SO.pass_undef rfl rfl rfl rfl ?_
          exact SO.nilZ fun a w h1 h2 h3 h4 h5 => PZ.of h1 h3 h5 (.cons () (.cons () (.nil ⟨EnvAll.of h2 ⟨rfl, rfl, trivial⟩, h4⟩)))
        · rintro Fr _
          refine SO.pass_undef rfl rfl rfl rfl ?_
          exact SO.nilZ fun a w h1 h2 h3 h4 h5 => PZ.of h1 h3 h5 (.cons () (.cons () (.nil ⟨EnvAll.of h2 ⟨rfl, rfl, trivial⟩, h4⟩)))
        · rintro Fr _
          refine SO.pass_undef rfl rfl rfl rfl ?_
          exact SO.nilZ fun a w h1 h2 h3 h4 h5 => PZ.of h1 h3 h5 (.cons () (.cons () (.nil ⟨EnvAll.of h2 ⟨rfl, rfl, trivial⟩, h4⟩)))
        · rintro Fr _
          refine SO.pass_undef rfl rfl rfl rfl ?_
          exact SO.nilZ fun a w h1 h2 h3 h4 h5 => PZ.of h1 h3 h5 (.cons () (.cons () (.nil ⟨EnvAll.of h2 ⟨rfl, rfl, trivial⟩, h4⟩)))
        · rintro Fr _
          refine SO.pass_undef rfl rfl rfl rfl ?_
          exact SO.nilZ fun a w h1 h2 h3 h4 h5 => PZ.of h1 h3 h5 (.cons () (.cons () (.nil ⟨EnvAll.of h2 ⟨rfl, rfl, trivial⟩, h4⟩)))
        · rintro Fr _
          refine SO.passF rfl rfl rfl rfl rfl rfl ?_
          exact SO.nilZ fun a w h1 h2 h3 h4 h5 => PZ.of h1 h3 h5 (.cons () (.cons () (.nil ⟨EnvAll.of h2 ⟨rfl, rfl, trivial⟩, h4⟩)))
        · rintro Fr _ _
          refine SO.v rfl (opv_pick_ff rfl rfl) ?_
          exact SO.nilZ fun a w h1 h2 h3 h4 h5 => PZ.of h1 h3 h5 (.cons () (.cons () (.cons () (.nil ⟨EnvAll.of h2 ⟨rfl, rfl, rfl, trivial⟩, h4⟩))))
        · rintro Fr _
          refine SO.v rfl (opv_assign rfl) ?_
          exact SO.nilZ fun a w h1 h2 h3 h4 h5 => PZ.of h1 h3 h5 (.cons () (.cons () (.nil ⟨EnvAll.of h2 ⟨rfl, rfl, trivial⟩, h4⟩)))
        rintro _ _ _ _
        show S _ _ _ _ _ _ _ [Box b2 [.int .i64 a1.Kind, .int .i64 a1.Rights, .int .i64 a1.Obj, .int .i64 a1.Badge, .int .i64 a1.Guard, .int .i64 a1.Bits], Box b1 [.int .i64 a0.Kind, .int .i64 a0.Rights, .int .i64 a0.Obj, .int .i64 a0.Badge, .int .i64 a0.Guard, .int .i64 a0.Bits], F]
        refine S.to (ρ' := [(4, .bool false)]) ⟨rfl, trivial⟩ ?_
        cases h
        refine S.b2 ?_
        refine S.b2 ?_
        refine S.b2 ?_
        refine S.to ?_ (hk1 () trivial)
        exact ⟨rfl, trivial⟩
    · replace h := cond_f b3 h
      refine S.draw (T := [tS 2 (bp b1 0), tS 3 (bp b2 0), tR (Box b2 [.int .i64 a1.Kind, .int .i64 a1.Rights, .int .i64 a1.Obj, .int .i64 a1.Badge, .int .i64 a1.Guard, .int .i64 a1.Bits]), tR (Box b1 [.int .i64 a0.Kind, .int .i64 a0.Rights, .int .i64 a0.Obj, .int .i64 a0.Badge, .int .i64 a0.Guard, .int .i64 a0.Bits]), tR (F), tS 5 (bp b1 0), tS 6 (.int .i64 a0.Kind), tS 7 (bp b2 0), tS 8 (.int .i64 a1.Kind), tS 9 (.bool (a0.Kind == a1.Kind)), tS 10 (.bool (a0.Kind == a1.Kind)), tS 11 (undef), tS 12 (undef), tS 13 (undef), tS 14 (undef), tS 15 (undef), tS 16 (.bool false), tS 17 (.bool false), tS 18 (undef), tS 19 (undef), tS 20 (undef), tS 21 (undef), tS 22 (undef), tS 23 (undef), tS 24 (undef), tS 25 (undef), tS 26 (.bool false), tS 27 (.bool false), tS 28 (undef), tS 29 (undef), tS 30 (undef), tS 31 (undef), tS 32 (undef), tS 33 (undef), tS 34 (undef), tS 35 (undef), tS 36 (undef), tS 37 (undef), tS 38 (.bool false), tS 4 (.bool false)]) (D := [⟨[0], [], [5]⟩, ⟨[5, 3], [], [6]⟩, ⟨[1], [], [7]⟩, ⟨[7, 2], [], [8]⟩, ⟨[6, 8], [], [9]⟩, ⟨[9], [], [10]⟩, ⟨[10], [], [11]⟩, ⟨[10], [], [12]⟩, ⟨[10], [], [13]⟩, ⟨[10], [], [14]⟩, ⟨[10], [], [15]⟩, ⟨[10, 15], [], [16]⟩, ⟨[16], [], [17]⟩, ⟨[17], [], [18]⟩, ⟨[17], [], [19]⟩, ⟨[17], [], [20]⟩, ⟨[17], [], [21]⟩, ⟨[17], [], [22]⟩, ⟨[17], [], [23]⟩, ⟨[17], [], [24]⟩, ⟨[17], [], [25]⟩, ⟨[17, 25], [], [26]⟩, ⟨[26], [], [27]⟩, ⟨[27], [], [28]⟩, ⟨[27], [], [29]⟩, ⟨[27], [], [30]⟩, ⟨[27], [], [31]⟩, ⟨[31], [], [32]⟩, ⟨[31], [], [33]⟩, ⟨[31], [], [34]⟩, ⟨[31], [], [35]⟩, ⟨[31], [], [36]⟩, ⟨[27], [], [37]⟩, ⟨[27, 37], [], [38]⟩, ⟨[38], [], [39]⟩]) (ini := [0, 1, 2, 3, 4]) (fin := [39, 2, 3, 4]) (bf := [[], [0], [], [2], [0, 1, 2, 3], [0, 1, 2, 3, 4], [0, 1, 2, 3, 4, 5], [0, 1, 2, 3, 4, 5, 6], [0, 1, 2, 3, 4, 5], [0, 1, 2, 3, 4, 5, 8], [0, 1, 2, 3, 4, 5, 6, 7, 8, 9], [0, 1, 2, 3, 4, 5, 6, 7, 8, 9, 10], [0, 1, 2, 3, 4, 5, 6, 7, 8, 9, 10, 11], [0, 1, 2, 3, 4, 5, 6, 7, 8, 9, 10, 11, 12], [0, 1, 2, 3, 4, 5, 6, 7, 8, 9, 10, 11, 12, 13], [0, 1, 2, 3, 4, 5, 6, 7, 8, 9, 10, 11, 12], [0, 1, 2, 3, 4, 5, 6, 7, 8, 9, 10, 11, 12, 15], [0, 1, 2, 3, 4, 5, 6, 7, 8, 9, 10, 11, 12, 13, 14, 15, 16], [0, 1, 2, 3, 4, 5, 6, 7, 8, 9, 10, 11, 12], [0, 1, 2, 3, 4, 5, 6, 7, 8, 9, 10, 11, 12, 18], [0, 1, 2, 3, 4, 5, 6, 7, 8, 9, 10, 11, 12, 13, 14, 15, 16, 17, 18, 19], [0, 1, 2, 3, 4, 5, 6, 7, 8, 9, 10, 11, 12, 13, 14, 15, 16, 17, 18, 19, 20], [0, 1, 2, 3, 4, 5, 6, 7, 8, 9, 10, 11, 12, 13, 14, 15, 16, 17, 18, 19, 20, 21], [0, 1, 2, 3, 4, 5, 6, 7, 8, 9, 10, 11, 12, 13, 14, 15, 16, 17, 18, 19, 20, 21, 22], [0, 1, 2, 3, 4, 5, 6, 7, 8, 9, 10, 11, 12, 13, 14, 15, 16, 17, 18, 19, 20, 21, 22, 23], [0, 1, 2, 3, 4, 5, 6, 7, 8, 9, 10, 11, 12, 13, 14, 15, 16, 17, 18, 19, 20, 21, 22, 23, 24], [0, 1, 2, 3, 4, 5, 6, 7, 8, 9, 10, 11, 12, 13, 14, 15, 16, 17, 18, 19, 20, 21, 22, 23, 24, 25], [0, 1, 2, 3, 4, 5, 6, 7, 8, 9, 10, 11, 12, 13, 14, 15, 16, 17, 18, 19, 20, 21, 22, 23, 24, 25, 26], [0, 1, 2, 3, 4, 5, 6, 7, 8, 9, 10, 11, 12, 13, 14, 15, 16, 17, 18, 19, 20, 21, 22, 23, 24, 25, 26, 27], [0, 1, 2, 3, 4, 5, 6, 7, 8, 9, 10, 11, 12, 13, 14, 15, 16, 17, 18, 19, 20, 21, 22, 23, 24, 25, 26], [0, 1, 2, 3, 4, 5, 6, 7, 8, 9, 10, 11, 12, 13, 14, 15, 16, 17, 18, 19, 20, 21, 22, 23, 24, 25, 26, 29], [0, 1, 2, 3, 4, 5, 6, 7, 8, 9, 10, 11, 12, 13, 14, 15, 16, 17, 18, 19, 20, 21, 22, 23, 24, 25, 26, 27, 28, 29, 30], [0, 1, 2, 3, 4, 5, 6, 7, 8, 9, 10, 11, 12, 13, 14, 15, 16, 17, 18, 19, 20, 21, 22, 23, 24, 25, 26, 27, 28, 29, 30, 31], [0, 1, 2, 3, 4, 5, 6, 7, 8, 9, 10, 11, 12, 13, 14, 15, 16, 17, 18, 19, 20, 21, 22, 23, 24, 25, 26, 27, 28, 29, 30, 31, 32], [0, 1, 2, 3, 4, 5, 6, 7, 8, 9, 10, 11, 12, 13, 14, 15, 16, 17, 18, 19, 20, 21, 22, 23, 24, 25, 26, 27, 28, 29, 30, 31, 32, 33]]) (by kernel_rfl) (by kernel_rfl) (fun x w h1 h2 => (.cons () (.cons () (.cons () (.cons () (.cons () (.nil ⟨EnvAll.of h1 ⟨rfl, rfl, trivial⟩, h2⟩))))))) ⟨?_, ?_, ?_, ?_, ?_, ?_, ?_, ?_, ?_, ?_, ?_, ?_, ?_, ?_, ?_, ?_, ?_, ?_, ?_, ?_, ?_, ?_, ?_, ?_, ?_, ?_, ?_, ?_, ?_, ?_, ?_, ?_, ?_, ?_, ?_, trivial⟩ ?_
      · rintro Fr _
        refine SO.v rfl (opv_fieldAddr Try.underlying53 rfl Try.sizeOf3 rfl rfl) ?_
        exact SO.nilZ fun a w h1 h2 h3 h4 h5 => PZ.of h1 h3 h5 (.cons () (.cons () (.nil ⟨EnvAll.of h2 ⟨rfl, rfl, trivial⟩, h4⟩)))
      · rintro Fr _ _
        refine SO.load1 rfl Try.isAgg3 rfl rfl ?_
        exact SO.nilZ fun a w h1 h2 h3 h4 h5 => PZ.of h1 h3 h5 (.cons () (.cons () (.cons () (.nil ⟨EnvAll.of h2 ⟨rfl, rfl, trivial⟩, h4⟩))))
      · rintro Fr _
        refine SO.v rfl (opv_fieldAddr Try.underlying53 rfl Try.sizeOf3 rfl rfl) ?_
        exact SO.nilZ fun a w h1 h2 h3 h4 h5 => PZ.of h1 h3 h5 (.cons () (.cons () (.nil ⟨EnvAll.of h2 ⟨rfl, rfl, trivial⟩, h4⟩)))
      · rintro Fr _ _
        refine SO.load1 rfl Try.isAgg3 rfl rfl ?_
        exact SO.nilZ fun a w h1 h2 h3 h4 h5 => PZ.of h1 h3 h5 (.cons () (.cons () (.cons () (.nil ⟨EnvAll.of h2 ⟨rfl, rfl, trivial⟩, h4⟩))))
      · rintro Fr _ _
        refine SO.v rfl (opv_eql rfl rfl) ?_
        exact SO.nilZ fun a w h1 h2 h3 h4 h5 => PZ.of h1 h3 h5 (.cons () (.cons () (.cons () (.nil ⟨EnvAll.of h2 ⟨rfl, rfl, rfl, trivial⟩, h4⟩))))
      · rintro Fr _
        refine SO.v rfl (opv_move rfl) ?_
        exact SO.nilZ fun a w h1 h2 h3 h4 h5 => PZ.of h1 h3 h5 (.cons () (.cons () (.nil ⟨EnvAll.of h2 ⟨rfl, rfl, trivial⟩, h4⟩)))
      · rintro Fr _
        refine SO.passF rfl rfl rfl b3 rfl rfl ?_
        exact SO.nilZ fun a w h1 h2 h3 h4 h5 => PZ.of h1 h3 h5 (.cons () (.cons () (.nil ⟨EnvAll.of h2 ⟨rfl, rfl, trivial⟩, h4⟩)))
      · rintro Fr _
        refine SO.passF rfl rfl rfl b3 rfl rfl ?_
        exact SO.nilZ fun a w h1 h2 h3 h4 h5 => PZ.of h1 h3 h5 (.cons () (.cons () (.nil ⟨EnvAll.of h2 ⟨rfl, rfl, trivial⟩, h4⟩)))
      · rintro Fr _
        refine SO.passF rfl rfl rfl b3 rfl rfl ?_
        exact SO.nilZ fun a w h1 h2 h3 h4 h5 => PZ.of h1 h3 h5 (.cons () (.cons () (.nil ⟨EnvAll.of h2 ⟨rfl, rfl, trivial⟩, h4⟩)))
      · rintro Fr _
        refine SO.passF rfl rfl rfl b3 rfl rfl ?_
        exact SO.nilZ fun a w h1 h2 h3 h4 h5 => PZ.of h1 h3 h5 (.cons () (.cons () (.nil ⟨EnvAll.of h2 ⟨rfl, rfl, trivial⟩, h4⟩)))
      · rintro Fr _
        refine SO.passF rfl rfl rfl b3 rfl rfl ?_
        exact SO.nilZ fun a w h1 h2 h3 h4 h5 => PZ.of h1 h3 h5 (.cons () (.cons () (.nil ⟨EnvAll.of h2 ⟨rfl, rfl, trivial⟩, h4⟩)))
      · rintro Fr _ _
        refine SO.v rfl (opv_pick_f' b3 rfl rfl) ?_
        exact SO.nilZ fun a w h1 h2 h3 h4 h5 => PZ.of h1 h3 h5 (.cons () (.cons () (.cons () (.nil ⟨EnvAll.of h2 ⟨rfl, rfl, rfl, trivial⟩, h4⟩))))
      · rintro Fr _
        refine SO.v rfl (opv_move rfl) ?_
        exact SO.nilZ fun a w h1 h2 h3 h4 h5 => PZ.of h1 h3 h5 (.cons () (.cons () (.nil ⟨EnvAll.of h2 ⟨rfl, rfl, trivial⟩, h4⟩)))
      · rintro Fr _
        refine SO.passF rfl rfl rfl rfl rfl rfl ?_
        exact SO.nilZ fun a w h1 h2 h3 h4 h5 => PZ.of h1 h3 h5 (.cons () (.cons () (.nil ⟨EnvAll.of h2 ⟨rfl, rfl, trivial⟩, h4⟩)))
      · rintro Fr _
        refine SO.passF rfl rfl rfl rfl rfl rfl ?_
        exact SO.nilZ fun a w h1 h2 h3 h4 h5 => PZ.of h1 h3 h5 (.cons () (.cons () (.nil ⟨EnvAll.of h2 ⟨rfl, rfl, trivial⟩, h4⟩)))
      · rintro Fr _
        refine SO.passF rfl rfl rfl rfl rfl rfl ?_
        exact SO.nilZ fun a w h1 h2 h3 h4 h5 => PZ.of h1 h3 h5 (.cons () (.cons () (.nil ⟨EnvAll.of h2 ⟨rfl, rfl, trivial⟩, h4⟩)))
      · rintro Fr _
        refine SO.passF rfl rfl rfl rfl rfl rfl ?_
        exact SO.nilZ fun a w h1 h2 h3 h4 h5 => PZ.of h1 h3 h5 (.cons () (.cons () (.nil ⟨EnvAll.of h2 ⟨rfl, rfl, trivial⟩, h4⟩)))
      · rintro Fr _
        refine SO.passF rfl rfl rfl rfl rfl rfl ?_
        exact SO.nilZ fun a w h1 h2 h3 h4 h5 => PZ.of h1 h3 h5 (.cons () (.cons () (.nil ⟨EnvAll.of h2 ⟨rfl, rfl, trivial⟩, h4⟩)))
      · rintro Fr _
        refine SO.passF rfl rfl rfl rfl rfl rfl ?_
        exact SO.nilZ fun a w h1 h2 h3 h4 h5 => PZ.of h1 h3 h5 (.cons () (.cons () (.nil ⟨EnvAll.of h2 ⟨rfl, rfl, trivial⟩, h4⟩)))
      · rintro Fr _
        refine SO.passF rfl rfl rfl rfl rfl rfl ?_
        exact SO.nilZ fun a w h1 h2 h3 h4 h5 => PZ.of h1 h3 h5 (.cons () (.cons () (.nil ⟨EnvAll.of h2 ⟨rfl, rfl, trivial⟩, h4⟩)))
      · rintro Fr _
        refine SO.passF rfl rfl rfl rfl rfl rfl ?_
        exact SO.nilZ fun a w h1 h2 h3 h4 h5 => PZ.of h1 h3 h5 (.cons () (.cons () (.nil ⟨EnvAll.of h2 ⟨rfl, rfl, trivial⟩, h4⟩)))
      · rintro Fr _ _
        refine SO.v rfl (opv_pick_ff rfl rfl) ?_
        exact SO.nilZ fun a w h1 h2 h3 h4 h5 => PZ.of h1 h3 h5 (.cons () (.cons () (.cons () (.nil ⟨EnvAll.of h2 ⟨rfl, rfl, rfl, trivial⟩, h4⟩))))
      · rintro Fr _
        refine SO.v rfl (opv_move rfl) ?_
        exact SO.nilZ fun a w h1 h2 h3 h4 h5 => PZ.of h1 h3 h5 (.cons () (.cons () (.nil ⟨EnvAll.of h2 ⟨rfl, rfl, trivial⟩, h4⟩)))
      · rintro Fr _
        refine SO.passF rfl rfl rfl rfl rfl rfl ?_
        exact SO.nilZ fun a w h1 h2 h3 h4 h5 => PZ.of h1 h3 h5 (.cons () (.cons () (.nil ⟨EnvAll.of h2 ⟨rfl, rfl, trivial⟩, h4⟩)))
      · rintro Fr _
        refine SO.passF rfl rfl rfl rfl rfl rfl ?_
        exact SO.nilZ fun a w h1 h2 h3 h4 h5 => PZ.of h1 h3 h5 (.cons () (.cons () (.nil ⟨EnvAll.of h2 ⟨rfl, rfl, trivial⟩, h4⟩)))
      · rintro Fr _
        refine SO.passF rfl rfl rfl rfl rfl rfl ?_
        exact SO.nilZ fun a w h1 h2 h3 h4 h5 => PZ.of h1 h3 h5 (.cons () (.cons () (.nil ⟨EnvAll.of h2 ⟨rfl, rfl, trivial⟩, h4⟩)))
      · rintro Fr _
        refine SO.passF rfl rfl rfl rfl rfl rfl ?_
        exact SO.nilZ fun a w h1 h2 h3 h4 h5 => PZ.of h1 h3 h5 (.cons () (.cons () (.nil ⟨EnvAll.of h2 ⟨rfl, rfl, trivial⟩, h4⟩)))
      · rintro Fr _
        refine SO.pass_undef rfl rfl rfl rfl ?_
        exact SO.nilZ fun a w h1 h2 h3 h4 h5 => PZ.of h1 h3 h5 (.cons () (.cons () (.nil ⟨EnvAll.of h2 ⟨rfl, rfl, trivial⟩, h4⟩)))
      · rintro Fr _
        refine SO.pass_undef rfl rfl rfl rfl ?_
        exact SO.nilZ fun a w h1 h2 h3 h4 h5 => PZ.of h1 h3 h5 (.cons () (.cons () (.nil ⟨EnvAll.of h2 ⟨rfl, rfl, trivial⟩, h4⟩)))
      · rintro Fr _
        refine SO.pass_undef rfl rfl rfl rfl ?_
        exact SO.nilZ fun a w h1 h2 h3 h4 h5 => PZ.of h1 h3 h5 (.cons () (.cons () (.nil ⟨EnvAll.of h2 ⟨rfl, rfl, trivial⟩, h4⟩)))
      · rintro Fr _
        refine SO.pass_undef rfl rfl rfl rfl ?_
        exact SO.nilZ fun a w h1 h2 h3 h4 h5 => PZ.of h1 h3 h5 (.cons () (.cons () (.nil ⟨EnvAll.of h2 ⟨rfl, rfl, trivial⟩, h4⟩)))
      · rintro Fr _
        refine SO.pass_undef rfl rfl rfl rfl ?_
        exact SO.nilZ fun a w h1 h2 h3 h4 h5 => PZ.of h1 h3 h5 (.cons () (.cons () (.nil ⟨EnvAll.of h2 ⟨rfl, rfl, trivial⟩, h4⟩)))
      · rintro Fr _
        refine SO.passF rfl rfl rfl rfl rfl rfl ?_
        exact SO.nilZ fun a w h1 h2 h3 h4 h5 => PZ.of h1 h3 h5 (.cons () (.cons () (.nil ⟨EnvAll.of h2 ⟨rfl, rfl, trivial⟩, h4⟩)))
      · rintro Fr _ _
        refine SO.v rfl (opv_pick_ff rfl rfl) ?_
        exact SO.nilZ fun a w h1 h2 h3 h4 h5 => PZ.of h1 h3 h5 (.cons () (.cons () (.cons () (.nil ⟨EnvAll.of h2 ⟨rfl, rfl, rfl, trivial⟩, h4⟩))))
      · rintro Fr _
        refine SO.v rfl (opv_assign rfl) ?_
        exact SO.nilZ fun a w h1 h2 h3 h4 h5 => PZ.of h1 h3 h5 (.cons () (.cons () (.nil ⟨EnvAll.of h2 ⟨rfl, rfl, trivial⟩, h4⟩)))
      rintro _ _ _ _
      show S _ _ _ _ _ _ _ [Box b2 [.int .i64 a1.Kind, .int .i64 a1.Rights, .int .i64 a1.Obj, .int .i64 a1.Badge, .int .i64 a1.Guard, .int .i64 a1.Bits], Box b1 [.int .i64 a0.Kind, .int .i64 a0.Rights, .int .i64 a0.Obj, .int .i64 a0.Badge, .int .i64 a0.Guard, .int .i64 a0.Bits], F]
      refine S.to (ρ' := [(4, .bool false)]) ⟨rfl, trivial⟩ ?_
      cases h
      refine S.b2 ?_
      refine S.b2 ?_
      refine S.b2 ?_
      refine S.to ?_ (hk1 () trivial)
      exact ⟨rfl, trivial⟩
  rintro _ -
  replace h := hJ1
  cases h
  refine S.drop ?_
  refine S.drop ?_
  exact S.ret1 Try.func57 rfl rfl (fun w hs hk => hR w _ _ ⟨rfl, rfl⟩ hs hk)
end Go.Proofs
namespace Go.Proofs
open Go.Sl Go.RowKit
/-! 51 padstone/rights.Mutate -/
def rights_Mutate.f (a0 : api_Cap) (a1 : Int) (a2 : Int) : Option (api_Cap × (Option Int)) :=
  (rights_real.f a0).bind fun t3 => bif !t3 then (some ((⟨0, 0, 0, 0, 0, 0⟩ : api_Cap), (some 1))) else (bif a0.Kind != 2 then (some ((⟨0, 0, 0, 0, 0, 0⟩ : api_Cap), (some 5))) else ((pack_May.f (⟨a0.Kind, a0.Rights, a0.Obj, a0.Badge, a1, a2⟩ : api_Cap)).bind fun t7 => bif !t7 then (some ((⟨0, 0, 0, 0, 0, 0⟩ : api_Cap), (some 1))) else (some ((⟨a0.Kind, a0.Rights, a0.Obj, a0.Badge, a1, a2⟩ : api_Cap), none))))
set_option maxHeartbeats 8000000 in
set_option maxRecDepth 100000 in
theorem rights_Mutate.ct (a0 : api_Cap) (a1 : Int) (a2 : Int) (r0 : api_Cap) (r1 : Option Int) (h : rights_Mutate.f a0 a1 a2 = some (r0, r1)) :
    Ct Try.prog 51 [.agg #[.int .i64 a0.Kind, .int .i64 a0.Rights, .int .i64 a0.Obj, .int .i64 a0.Badge, .int .i64 a0.Guard, .int .i64 a0.Bits], .int .i64 a1, .int .i64 a2] (fun _ => True) [] (fun u H' => u = .tuple #[.agg #[.int .i64 r0.Kind, .int .i64 r0.Rights, .int .i64 r0.Obj, .int .i64 r0.Badge, .int .i64 r0.Guard, .int .i64 r0.Bits], errV 48 r1] ∧ H' = []) := by
  unfold rights_Mutate.f at h
  refine Ct.intro (n := 30) Try.func51 rfl rfl rfl ?_
  intro R w0 F hF hR
  refine S.seq ?_
  refine S.region ?_
  refine SO.box rfl rfl rfl (fun b1 => ?_)
  refine SO.alloc rfl Try.zeroValue53 rfl (fun b2 => ?_)
  refine SO.v rfl (opv_assign rfl) ?_
  refine SO.nil ?_
  refine S.seq ?_
  refine S.block ?_
  refine S.seq ?_
  refine S.region ?_
  refine SO.b1 ?_
  refine SO.loadN rfl Try.isAgg53 Try.sizeOf53 rfl rfl rfl ?_
  obtain ⟨t3, ht4, h⟩ := opt_bind h
  refine SO.call (pre := []) rfl Try.call71 rfl rfl rfl (rights_real.ct _ _ ht4) trivial ?_
  rintro _ _ ⟨rfl, rfl⟩
  refine SO.v rfl (opv_not rfl) ?_
  refine SO.v rfl (opv_assign rfl) ?_
  refine SO.nil ?_
  rcases bool_or (!t3) with b5 | b5
  · replace h := cond_t b5 h
    refine S.condT rfl b5 ?_
    refine S.seq ?_
    refine S.region ?_
    refine SO.v rfl (opv_build (v := .agg #[.int .i64 0, .int .i64 0, .int .i64 0, .int .i64 0, .int .i64 0, .int .i64 0]) rfl (by intro w; kernel_rfl)) ?_
    refine SO.v rfl (opv_iface Try.underlying48 rfl rfl) ?_
    refine SO.b1 ?_
    refine SO.storeN Try.sizeOf53 rfl rfl rfl rfl rfl rfl ?_
    refine SO.v rfl (opv_assign rfl) ?_
    refine SO.nil ?_
    refine S.to (ρ' := [(1, .int .i64 a1), (2, .int .i64 a2), (3, bp b1 0), (6, bp b2 0), (7, errV 48 (some 1))]) ⟨rfl, rfl, rfl, rfl, rfl, trivial⟩ ?_
    cases h
    refine S.b1 ?_
    refine S.drop ?_
    refine S.b1 ?_
    refine S.b1 ?_
    exact S.retC1 Try.func51 rfl rfl rfl Try.isAgg53 Try.sizeOf53 rfl rfl (fun w hs hk => hR w _ _ ⟨rfl, rfl⟩ hs.drop hk)
  · replace h := cond_f b5 h
    refine S.condF rfl b5 ?_
    refine S.seq ?_
    refine S.region ?_
    refine SO.v rfl (opv_fieldAddr Try.underlying53 rfl Try.sizeOf3 rfl rfl) ?_
    refine SO.load1 rfl Try.isAgg3 rfl rfl ?_
    refine SO.v rfl (opv_neq rfl rfl) ?_
    refine SO.v rfl (opv_assign rfl) ?_
    refine SO.nil ?_
    refine S.to (ρ' := [(1, .int .i64 a1), (2, .int .i64 a2), (3, bp b1 0), (6, bp b2 0), (7, errV 48 none), (14, .bool (a0.Kind != 2))]) ⟨rfl, rfl, rfl, rfl, rfl, rfl, trivial⟩ ?_
    rcases bool_or (a0.Kind != 2) with b6 | b6
    · replace h := cond_t b6 h
      refine S.condT rfl b6 ?_
      refine S.seq ?_
      refine S.region ?_
      refine SO.v rfl (opv_build (v := .agg #[.int .i64 0, .int .i64 0, .int .i64 0, .int .i64 0, .int .i64 0, .int .i64 0]) rfl (by intro w; kernel_rfl)) ?_
      refine SO.v rfl (opv_iface Try.underlying48 rfl rfl) ?_
      refine SO.b1 ?_
      refine SO.storeN Try.sizeOf53 rfl rfl rfl rfl rfl rfl ?_
      refine SO.v rfl (opv_assign rfl) ?_
      refine SO.nil ?_
      cases h
      refine S.b1 ?_
      refine S.drop ?_
      refine S.b1 ?_
      refine S.b1 ?_
      exact S.retC1 Try.func51 rfl rfl rfl Try.isAgg53 Try.sizeOf53 rfl rfl (fun w hs hk => hR w _ _ ⟨rfl, rfl⟩ hs.drop hk)
    · replace h := cond_f b6 h
      refine S.condF rfl b6 ?_
      refine S.skip ?_
      refine S.inBlock ?_
      refine S.seq ?_
      refine S.region ?_
      refine SO.v rfl (opv_move rfl) ?_
      refine SO.v rfl (opv_move rfl) ?_
      refine SO.v rfl (opv_fieldAddr Try.underlying53 rfl Try.sizeOf3 rfl rfl) ?_
      refine SO.store1 Try.sizeOf3 rfl rfl rfl rfl ?_
      refine SO.v rfl (opv_fieldAddr Try.underlying53 rfl Try.sizeOf3 rfl rfl) ?_
      refine SO.store1 Try.sizeOf3 rfl rfl rfl rfl ?_
      refine SO.nil ?_
      refine S.to (ρ' := [(3, bp b1 0), (6, bp b2 0), (7, errV 48 none)]) ⟨rfl, rfl, rfl, trivial⟩ ?_
      refine S.seq ?_
      refine S.seq ?_
      refine S.region ?_
      refine SO.loadN rfl Try.isAgg53 Try.sizeOf53 rfl rfl rfl ?_
      obtain ⟨t7, ht8, h⟩ := opt_bind h
      have ct10 := pack_May.ct _ _ ht8
      dsimp only at ct10
      refine SO.call (pre := []) rfl Try.call33 rfl rfl rfl ct10 trivial ?_
      rintro _ _ ⟨rfl, rfl⟩
      refine SO.v rfl (opv_not rfl) ?_
      refine SO.nil ?_
      rcases bool_or (!t7) with b9 | b9
      · replace h := cond_t b9 h
        refine S.condT rfl b9 ?_
        refine S.seq ?_
        refine S.region ?_
        refine SO.v rfl (opv_build (v := .agg #[.int .i64 0, .int .i64 0, .int .i64 0, .int .i64 0, .int .i64 0, .int .i64 0]) rfl (by intro w; kernel_rfl)) ?_
        refine SO.v rfl (opv_iface Try.underlying48 rfl rfl) ?_
        refine SO.b1 ?_
        refine SO.storeN Try.sizeOf53 rfl rfl rfl rfl rfl rfl ?_
        refine SO.v rfl (opv_assign rfl) ?_
        refine SO.nil ?_
        cases h
        refine S.b1 ?_
        refine S.drop ?_
        refine S.b1 ?_
        refine S.b1 ?_
        exact S.retC1 Try.func51 rfl rfl rfl Try.isAgg53 Try.sizeOf53 rfl rfl (fun w hs hk => hR w _ _ ⟨rfl, rfl⟩ hs.drop hk)
      · replace h := cond_f b9 h
        refine S.condF rfl b9 ?_
        refine S.skip ?_
        refine S.seq ?_
        refine S.region ?_
        refine SO.loadN rfl Try.isAgg53 Try.sizeOf53 rfl rfl rfl ?_
        refine SO.b1 ?_
        refine SO.storeN Try.sizeOf53 rfl rfl rfl rfl rfl rfl ?_
        refine SO.v rfl (opv_assign rfl) ?_
        refine SO.nil ?_
        cases h
        refine S.b1 ?_
        refine S.drop ?_
        refine S.b1 ?_
        refine S.b1 ?_
        exact S.retC1 Try.func51 rfl rfl rfl Try.isAgg53 Try.sizeOf53 rfl rfl (fun w hs hk => hR w _ _ ⟨rfl, rfl⟩ hs.drop hk)
end Go.Proofs
namespace Go.Proofs
open Go.Sl Go.RowKit
/-! 15 padstone/padstonelaw03.RightsTell -/
def law03_RightsTell.f (k : Nat) (a0 : api_Cap) (a1 : api_Cap) (a2 : Int) (a3 : Int) (a4 : Int) (a5 : Int) : Option (Bool) :=
  (law03_up.f ).bind fun t3 => (rights_Derive.f a0 a2).bind fun (t5, t6) => (rights_Mint.f a0 a2 a3).bind fun (t9, t10) => (rights_Mutate.f a0 a4 a5).bind fun (t13, t14) => (ref01_Derive.f k a0 a2).bind fun (t17, t18) => (ref01_Mint.f k a0 a2 a3).bind fun (t21, t22) => (ref01_Mutate.f k a0 a4 a5).bind fun (t25, t26) => (law00_Code.f k t6).bind fun t29 => (bif t29 != t18 then (some true) else ((law00_Code.f k t10).bind fun t34 => some (t34 != t22))).bind fun c32 => (bif c32 then (some true) else ((law00_Code.f k t14).bind fun t39 => some (t39 != t26))).bind fun c37 => (bif c37 then (some true) else (some (!decide (t5 = t17)))).bind fun c42 => (bif c42 then (some true) else (some (!decide (t9 = t21)))).bind fun c45 => (bif c45 then (some true) else (some (!decide (t13 = t25)))).bind fun c48 => bif c48 then (some false) else ((ref01_May.f k a0).bind fun t51 => (ref01_May.f k a1).bind fun t53 => bif (((!t51) || (!t53)) || (decide (a2 < 0))) || (decide (7 < a2)) then (some t3) else ((bif t3 then ((rights_Has.f a0 a2).bind fun t60 => (ref01_Has.f k a0 a2).bind fun t62 => bif t60 == t62 then ((rights_Within.f a0 a1).bind fun t65 => (ref01_Within.f k a0 a1).bind fun t67 => some (t65 == t67)) else (some false)) else (some false)).bind fun j12_1 => some j12_1))
set_option maxHeartbeats 8000000 in
set_option maxRecDepth 100000 in
theorem law03_RightsTell.ct (k : Nat) (a0 : api_Cap) (a1 : api_Cap) (a2 : Int) (a3 : Int) (a4 : Int) (a5 : Int) (r0 : Bool) (h : law03_RightsTell.f k a0 a1 a2 a3 a4 a5 = some r0) :
    Ct Try.prog 15 [.agg #[.int .i64 a0.Kind, .int .i64 a0.Rights, .int .i64 a0.Obj, .int .i64 a0.Badge, .int .i64 a0.Guard, .int .i64 a0.Bits], .agg #[.int .i64 a1.Kind, .int .i64 a1.Rights, .int .i64 a1.Obj, .int .i64 a1.Badge, .int .i64 a1.Guard, .int .i64 a1.Bits], .int .i64 a2, .int .i64 a3, .int .i64 a4, .int .i64 a5] (fun _ => True) [] (fun u H' => u = .bool r0 ∧ H' = []) := by
  unfold law03_RightsTell.f at h
  refine Ct.intro (n := 138) Try.func15 rfl rfl rfl ?_
  intro R w0 F hF hR
  refine S.seq ?_
  refine S.region ?_
  refine SO.box rfl rfl rfl (fun b1 => ?_)
  refine SO.box rfl rfl rfl (fun b2 => ?_)
  refine SO.v rfl (opv_assign rfl) ?_
  refine SO.nil ?_
  refine S.seq ?_
  refine S.region ?_
  obtain ⟨t3, ht4, h⟩ := opt_bind h
  refine SO.call (pre := []) rfl Try.call45 rfl rfl rfl (law03_up.ct _ ht4) trivial ?_
  rintro _ _ ⟨rfl, rfl⟩
  refine SO.v rfl (opv_assign rfl) ?_
  refine SO.nil ?_
  refine S.seq ?_
  refine S.region ?_
  refine SO.b1 ?_
  refine SO.loadN rfl Try.isAgg53 Try.sizeOf53 rfl rfl rfl ?_
  refine SO.v rfl (opv_move rfl) ?_
  obtain ⟨⟨t5, t6⟩, ht7, h⟩ := opt_bind h
  refine SO.call (pre := []) rfl Try.call46 rfl rfl rfl (rights_Derive.ct _ _ _ _ ht7) trivial ?_
  rintro _ _ ⟨rfl, rfl⟩
  refine SO.v rfl (opv_move rfl) ?_
  refine SO.v rfl (opv_extract rfl rfl) ?_
  refine SO.v rfl (opv_extract rfl rfl) ?_
  refine SO.alloc rfl Try.zeroValue53 rfl (fun b8 => ?_)
  refine SO.storeN Try.sizeOf53 rfl rfl rfl rfl rfl rfl ?_
  refine SO.v rfl (opv_assign rfl) ?_
  refine SO.nil ?_
  refine S.to (ρ' := [(2, .int .i64 a2), (3, .int .i64 a3), (4, .int .i64 a4), (5, .int .i64 a5), (6, bp b1 0), (7, bp b2 0), (12, .bool false), (13, .bool t3), (14, bp b8 0), (15, errV 48 t6)]) ⟨rfl, rfl, rfl, rfl, rfl, rfl, rfl, rfl, rfl, rfl, trivial⟩ ?_
  refine S.seq ?_
  refine S.region ?_
  refine SO.b1 ?_
  refine SO.loadN rfl Try.isAgg53 Try.sizeOf53 rfl rfl rfl ?_
  refine SO.v rfl (opv_move rfl) ?_
  refine SO.v rfl (opv_move rfl) ?_
  obtain ⟨⟨t9, t10⟩, ht11, h⟩ := opt_bind h
  refine SO.call (pre := []) rfl Try.call48 rfl rfl rfl (rights_Mint.ct _ _ _ _ _ ht11) trivial ?_
  rintro _ _ ⟨rfl, rfl⟩
  refine SO.v rfl (opv_move rfl) ?_
  refine SO.v rfl (opv_extract rfl rfl) ?_
  refine SO.v rfl (opv_extract rfl rfl) ?_
  refine SO.alloc rfl Try.zeroValue53 rfl (fun b12 => ?_)
  refine SO.storeN Try.sizeOf53 rfl rfl rfl rfl rfl rfl ?_
  refine SO.v rfl (opv_assign rfl) ?_
  refine SO.nil ?_
  refine S.to (ρ' := [(2, .int .i64 a2), (3, .int .i64 a3), (4, .int .i64 a4), (5, .int .i64 a5), (6, bp b1 0), (7, bp b2 0), (12, .bool false), (13, .bool t3), (14, bp b8 0), (15, errV 48 t6), (16, bp b12 0), (17, errV 48 t10)]) ⟨rfl, rfl, rfl, rfl, rfl, rfl, rfl, rfl, rfl, rfl, rfl, rfl, trivial⟩ ?_
  refine S.seq ?_
  refine S.region ?_
  refine SO.b1 ?_
  refine SO.loadN rfl Try.isAgg53 Try.sizeOf53 rfl rfl rfl ?_
  refine SO.v rfl (opv_move rfl) ?_
  refine SO.v rfl (opv_move rfl) ?_
  obtain ⟨⟨t13, t14⟩, ht15, h⟩ := opt_bind h
  refine SO.call (pre := []) rfl Try.call51 rfl rfl rfl (rights_Mutate.ct _ _ _ _ _ ht15) trivial ?_
  rintro _ _ ⟨rfl, rfl⟩
  refine SO.v rfl (opv_move rfl) ?_
  refine SO.v rfl (opv_extract rfl rfl) ?_
  refine SO.v rfl (opv_extract rfl rfl) ?_
  refine SO.alloc rfl Try.zeroValue53 rfl (fun b16 => ?_)
  refine SO.storeN Try.sizeOf53 rfl rfl rfl rfl rfl rfl ?_
  refine SO.v rfl (opv_assign rfl) ?_
  refine SO.nil ?_
  refine S.to (ρ' := [(2, .int .i64 a2), (3, .int .i64 a3), (4, .int .i64 a4), (5, .int .i64 a5), (6, bp b1 0), (7, bp b2 0), (12, .bool false), (13, .bool t3), (14, bp b8 0), (15, errV 48 t6), (16, bp b12 0), (17, errV 48 t10), (18, bp b16 0), (19, errV 48 t14)]) ⟨rfl, rfl, rfl, rfl, rfl, rfl, rfl, rfl, rfl, rfl, rfl, rfl, rfl, rfl, trivial⟩ ?_
  refine S.seq ?_
  refine S.region ?_
  refine SO.b1 ?_
  refine SO.loadN rfl Try.isAgg53 Try.sizeOf53 rfl rfl rfl ?_
  refine SO.v rfl (opv_move rfl) ?_
  obtain ⟨⟨t17, t18⟩, ht19, h⟩ := opt_bind h
  refine SO.call (pre := []) rfl Try.call52 rfl rfl rfl (ref01_Derive.ct _ _ _ _ _ ht19) trivial ?_
  rintro _ _ ⟨rfl, rfl⟩
  refine SO.v rfl (opv_move rfl) ?_
  refine SO.v rfl (opv_extract rfl rfl) ?_
  refine SO.v rfl (opv_extract rfl rfl) ?_
  refine SO.alloc rfl Try.zeroValue53 rfl (fun b20 => ?_)
  refine SO.storeN Try.sizeOf53 rfl rfl rfl rfl rfl rfl ?_
  refine SO.v rfl (opv_assign rfl) ?_
  refine SO.nil ?_
  refine S.seq ?_
  refine S.region ?_
  refine SO.b1 ?_
  refine SO.loadN rfl Try.isAgg53 Try.sizeOf53 rfl rfl rfl ?_
  refine SO.v rfl (opv_move rfl) ?_
  refine SO.v rfl (opv_move rfl) ?_
  obtain ⟨⟨t21, t22⟩, ht23, h⟩ := opt_bind h
  refine SO.call (pre := []) rfl Try.call53 rfl rfl rfl (ref01_Mint.ct _ _ _ _ _ _ ht23) trivial ?_
  rintro _ _ ⟨rfl, rfl⟩
  refine SO.v rfl (opv_move rfl) ?_
  refine SO.v rfl (opv_extract rfl rfl) ?_
  refine SO.v rfl (opv_extract rfl rfl) ?_
  refine SO.alloc rfl Try.zeroValue53 rfl (fun b24 => ?_)
  refine SO.storeN Try.sizeOf53 rfl rfl rfl rfl rfl rfl ?_
  refine SO.v rfl (opv_assign rfl) ?_
  refine SO.nil ?_
  refine S.to (ρ' := [(2, .int .i64 a2), (4, .int .i64 a4), (5, .int .i64 a5), (6, bp b1 0), (7, bp b2 0), (12, .bool false), (13, .bool t3), (14, bp b8 0), (15, errV 48 t6), (16, bp b12 0), (17, errV 48 t10), (18, bp b16 0), (19, errV 48 t14), (20, bp b20 0), (21, .int .i64 t18), (22, bp b24 0), (23, .int .i64 t22)]) ⟨rfl, rfl, rfl, rfl, rfl, rfl, rfl, rfl, rfl, rfl, rfl, rfl, rfl, rfl, rfl, rfl, rfl, trivial⟩ ?_
  refine S.seq ?_
  refine S.region ?_
  refine SO.b1 ?_
  refine SO.loadN rfl Try.isAgg53 Try.sizeOf53 rfl rfl rfl ?_
  refine SO.v rfl (opv_move rfl) ?_
  refine SO.v rfl (opv_move rfl) ?_
  obtain ⟨⟨t25, t26⟩, ht27, h⟩ := opt_bind h
  refine SO.call (pre := []) rfl Try.call54 rfl rfl rfl (ref01_Mutate.ct _ _ _ _ _ _ ht27) trivial ?_
  rintro _ _ ⟨rfl, rfl⟩
  refine SO.v rfl (opv_move rfl) ?_
  refine SO.v rfl (opv_extract rfl rfl) ?_
  refine SO.v rfl (opv_extract rfl rfl) ?_
  refine SO.alloc rfl Try.zeroValue53 rfl (fun b28 => ?_)
  refine SO.storeN Try.sizeOf53 rfl rfl rfl rfl rfl rfl ?_
  refine SO.v rfl (opv_assign rfl) ?_
  refine SO.nil ?_
  refine S.to (ρ' := [(2, .int .i64 a2), (6, bp b1 0), (7, bp b2 0), (12, .bool false), (13, .bool t3), (14, bp b8 0), (15, errV 48 t6), (16, bp b12 0), (17, errV 48 t10), (18, bp b16 0), (19, errV 48 t14), (20, bp b20 0), (21, .int .i64 t18), (22, bp b24 0), (23, .int .i64 t22), (24, bp b28 0), (25, .int .i64 t26)]) ⟨rfl, rfl, rfl, rfl, rfl, rfl, rfl, rfl, rfl, rfl, rfl, rfl, rfl, rfl, rfl, rfl, rfl, trivial⟩ ?_
  refine S.seq ?_
  refine S.seq ?_
  refine S.region ?_
  refine SO.v rfl (opv_move rfl) ?_
  obtain ⟨t29, ht30, h⟩ := opt_bind h
  refine SO.call (pre := []) rfl Try.call37 rfl rfl rfl (law00_Code.ct _ _ _ ht30) trivial ?_
  rintro _ _ ⟨rfl, rfl⟩
  refine SO.v rfl (opv_move rfl) ?_
  refine SO.v rfl (opv_neq rfl rfl) ?_
  refine SO.v rfl (opv_move rfl) ?_
  obtain ⟨c32, hc33, hgk⟩ := opt_bind h
  refine SO.cut 5 78 (.bool c32) [Box b28 [.int .i64 t25.Kind, .int .i64 t25.Rights, .int .i64 t25.Obj, .int .i64 t25.Badge, .int .i64 t25.Guard, .int .i64 t25.Bits], Box b1 [.int .i64 a0.Kind, .int .i64 a0.Rights, .int .i64 a0.Obj, .int .i64 a0.Badge, .int .i64 a0.Guard, .int .i64 a0.Bits], Box b24 [.int .i64 t21.Kind, .int .i64 t21.Rights, .int .i64 t21.Obj, .int .i64 t21.Badge, .int .i64 t21.Guard, .int .i64 t21.Bits], Box b20 [.int .i64 t17.Kind, .int .i64 t17.Rights, .int .i64 t17.Obj, .int .i64 t17.Badge, .int .i64 t17.Guard, .int .i64 t17.Bits], Box b16 [.int .i64 t13.Kind, .int .i64 t13.Rights, .int .i64 t13.Obj, .int .i64 t13.Badge, .int .i64 t13.Guard, .int .i64 t13.Bits], Box b12 [.int .i64 t9.Kind, .int .i64 t9.Rights, .int .i64 t9.Obj, .int .i64 t9.Badge, .int .i64 t9.Guard, .int .i64 t9.Bits], Box b8 [.int .i64 t5.Kind, .int .i64 t5.Rights, .int .i64 t5.Obj, .int .i64 t5.Badge, .int .i64 t5.Guard, .int .i64 t5.Bits], Box b2 [.int .i64 a1.Kind, .int .i64 a1.Rights, .int .i64 a1.Obj, .int .i64 a1.Badge, .int .i64 a1.Guard, .int .i64 a1.Bits], F] (fun l2 hk2 => ?_) ?_
  · clear hgk
    replace h := hc33
    rcases bool_or (t29 != t18) with b31 | b31
    · replace h := cond_t b31 h
      refine SO.passF rfl rfl rfl b31 rfl rfl ?_
      refine SO.passF rfl rfl rfl b31 rfl rfl ?_
      refine SO.passF rfl rfl rfl b31 rfl rfl ?_
      refine SO.passF rfl rfl rfl b31 rfl rfl ?_
      cases h
      refine SO.v rfl (opv_pick_t' b31 rfl rfl) ?_
      refine SO.b8 ?_
      refine SO.b8 ?_
      refine SO.b8 ?_
      refine SO.b8 ?_
      refine SO.b8 ?_
      refine SO.b8 ?_
      refine SO.b8 ?_
      refine SO.b8 ?_
      refine SO.b8 ?_
      exact hk2.fitc (m := 5) rfl (rfl) rfl
    · replace h := cond_f b31 h
      refine SO.takeT rfl rfl rfl b31 ?_
      refine SO.v rfl (opv_move rfl) ?_
      refine SO.takeT rfl rfl rfl b31 ?_
      obtain ⟨t34, ht35, h⟩ := opt_bind h
      refine SO.call (pre := []) rfl Try.call37 rfl rfl rfl (law00_Code.ct _ _ _ ht35) trivial ?_
      rintro _ _ ⟨rfl, rfl⟩
      refine SO.takeT rfl rfl rfl b31 ?_
      refine SO.v rfl (opv_move rfl) ?_
      refine SO.takeT rfl rfl rfl b31 ?_
      refine SO.v rfl (opv_neq rfl rfl) ?_
      cases h
      refine SO.v rfl (opv_pick_f' b31 rfl rfl) ?_
      refine SO.b8 ?_
      refine SO.b8 ?_
      refine SO.b8 ?_
      refine SO.b8 ?_
      refine SO.b8 ?_
      refine SO.b8 ?_
      refine SO.b8 ?_
      refine SO.b8 ?_
      refine SO.b8 ?_
      exact hk2.fitc (m := 5) rfl (rfl) rfl
  clear hc33
  replace h := hgk
  refine SO.v rfl (opv_move rfl) ?_
  obtain ⟨c37, hc38, hgk⟩ := opt_bind h
  refine SO.cut 5 84 (.bool c37) [Box b28 [.int .i64 t25.Kind, .int .i64 t25.Rights, .int .i64 t25.Obj, .int .i64 t25.Badge, .int .i64 t25.Guard, .int .i64 t25.Bits], Box b1 [.int .i64 a0.Kind, .int .i64 a0.Rights, .int .i64 a0.Obj, .int .i64 a0.Badge, .int .i64 a0.Guard, .int .i64 a0.Bits], Box b24 [.int .i64 t21.Kind, .int .i64 t21.Rights, .int .i64 t21.Obj, .int .i64 t21.Badge, .int .i64 t21.Guard, .int .i64 t21.Bits], Box b20 [.int .i64 t17.Kind, .int .i64 t17.Rights, .int .i64 t17.Obj, .int .i64 t17.Badge, .int .i64 t17.Guard, .int .i64 t17.Bits], Box b16 [.int .i64 t13.Kind, .int .i64 t13.Rights, .int .i64 t13.Obj, .int .i64 t13.Badge, .int .i64 t13.Guard, .int .i64 t13.Bits], Box b12 [.int .i64 t9.Kind, .int .i64 t9.Rights, .int .i64 t9.Obj, .int .i64 t9.Badge, .int .i64 t9.Guard, .int .i64 t9.Bits], Box b8 [.int .i64 t5.Kind, .int .i64 t5.Rights, .int .i64 t5.Obj, .int .i64 t5.Badge, .int .i64 t5.Guard, .int .i64 t5.Bits], Box b2 [.int .i64 a1.Kind, .int .i64 a1.Rights, .int .i64 a1.Obj, .int .i64 a1.Badge, .int .i64 a1.Guard, .int .i64 a1.Bits], F] (fun l2 hk2 => ?_) ?_
  · clear hgk
    replace h := hc38
    rcases bool_or c32 with b36 | b36
    · replace h := cond_t b36 h
      refine SO.passF rfl rfl rfl b36 rfl rfl ?_
      refine SO.passF rfl rfl rfl b36 rfl rfl ?_
      refine SO.passF rfl rfl rfl b36 rfl rfl ?_
      refine SO.passF rfl rfl rfl b36 rfl rfl ?_
      cases h
      refine SO.v rfl (opv_pick_t' b36 rfl rfl) ?_
      refine SO.b8 ?_
      refine SO.b8 ?_
      refine SO.b8 ?_
      refine SO.b8 ?_
      refine SO.b8 ?_
      refine SO.b8 ?_
      refine SO.b8 ?_
      refine SO.b8 ?_
      refine SO.b8 ?_
      exact hk2.fitc (m := 5) rfl (rfl) rfl
    · replace h := cond_f b36 h
      refine SO.takeT rfl rfl rfl b36 ?_
      refine SO.v rfl (opv_move rfl) ?_
      refine SO.takeT rfl rfl rfl b36 ?_
      obtain ⟨t39, ht40, h⟩ := opt_bind h
      refine SO.call (pre := []) rfl Try.call37 rfl rfl rfl (law00_Code.ct _ _ _ ht40) trivial ?_
      rintro _ _ ⟨rfl, rfl⟩
      refine SO.takeT rfl rfl rfl b36 ?_
      refine SO.v rfl (opv_move rfl) ?_
      refine SO.takeT rfl rfl rfl b36 ?_
      refine SO.v rfl (opv_neq rfl rfl) ?_
      cases h
      refine SO.v rfl (opv_pick_f' b36 rfl rfl) ?_
      refine SO.b8 ?_
      refine SO.b8 ?_
      refine SO.b8 ?_
      refine SO.b8 ?_
      refine SO.b8 ?_
      refine SO.b8 ?_
      refine SO.b8 ?_
      refine SO.b8 ?_
      refine SO.b8 ?_
      exact hk2.fitc (m := 5) rfl (rfl) rfl
  clear hc38
  replace h := hgk
  refine SO.v rfl (opv_move rfl) ?_
  obtain ⟨c42, hc43, hgk⟩ := opt_bind h
  refine SO.cut 4 89 (.bool c42) [Box b28 [.int .i64 t25.Kind, .int .i64 t25.Rights, .int .i64 t25.Obj, .int .i64 t25.Badge, .int .i64 t25.Guard, .int .i64 t25.Bits], Box b1 [.int .i64 a0.Kind, .int .i64 a0.Rights, .int .i64 a0.Obj, .int .i64 a0.Badge, .int .i64 a0.Guard, .int .i64 a0.Bits], Box b24 [.int .i64 t21.Kind, .int .i64 t21.Rights, .int .i64 t21.Obj, .int .i64 t21.Badge, .int .i64 t21.Guard, .int .i64 t21.Bits], Box b20 [.int .i64 t17.Kind, .int .i64 t17.Rights, .int .i64 t17.Obj, .int .i64 t17.Badge, .int .i64 t17.Guard, .int .i64 t17.Bits], Box b16 [.int .i64 t13.Kind, .int .i64 t13.Rights, .int .i64 t13.Obj, .int .i64 t13.Badge, .int .i64 t13.Guard, .int .i64 t13.Bits], Box b12 [.int .i64 t9.Kind, .int .i64 t9.Rights, .int .i64 t9.Obj, .int .i64 t9.Badge, .int .i64 t9.Guard, .int .i64 t9.Bits], Box b8 [.int .i64 t5.Kind, .int .i64 t5.Rights, .int .i64 t5.Obj, .int .i64 t5.Badge, .int .i64 t5.Guard, .int .i64 t5.Bits], Box b2 [.int .i64 a1.Kind, .int .i64 a1.Rights, .int .i64 a1.Obj, .int .i64 a1.Badge, .int .i64 a1.Guard, .int .i64 a1.Bits], F] (fun l2 hk2 => ?_) ?_
  · clear hgk
    replace h := hc43
    rcases bool_or c37 with b41 | b41
    · replace h := cond_t b41 h
      refine SO.passF rfl rfl rfl b41 rfl rfl ?_
      refine SO.passF rfl rfl rfl b41 rfl rfl ?_
      refine SO.passF rfl rfl rfl b41 rfl rfl ?_
      cases h
      refine SO.v rfl (opv_pick_t' b41 rfl rfl) ?_
      refine SO.b8 ?_
      refine SO.b8 ?_
      refine SO.b8 ?_
      refine SO.b8 ?_
      refine SO.b8 ?_
      refine SO.b8 ?_
      refine SO.b8 ?_
      refine SO.b8 ?_
      refine SO.b8 ?_
      exact hk2.fitc (m := 4) rfl (rfl) rfl
    · replace h := cond_f b41 h
      refine SO.takeT rfl rfl rfl b41 ?_
      refine SO.b6 ?_
      refine SO.loadN rfl Try.isAgg53 Try.sizeOf53 rfl rfl rfl ?_
      refine SO.takeT rfl rfl rfl b41 ?_
      refine SO.b4 ?_
      refine SO.loadN rfl Try.isAgg53 Try.sizeOf53 rfl rfl rfl ?_
      refine SO.takeT rfl rfl rfl b41 ?_
      refine SO.v rfl (eq_neq_api_Cap (x := t5) (y := t17) rfl rfl) ?_
      cases h
      refine SO.v rfl (opv_pick_f' b41 rfl rfl) ?_
      refine SO.b8 ?_
      refine SO.b8 ?_
      refine SO.b3 ?_
      refine SO.b8 ?_
      refine SO.b8 ?_
      refine SO.b5 ?_
      refine SO.b8 ?_
      refine SO.b8 ?_
      refine SO.b8 ?_
      exact hk2.fitc (m := 4) rfl (rfl) rfl
  clear hc43
  replace h := hgk
  refine SO.v rfl (opv_move rfl) ?_
  obtain ⟨c45, hc46, hgk⟩ := opt_bind h
  refine SO.cut 4 94 (.bool c45) [Box b28 [.int .i64 t25.Kind, .int .i64 t25.Rights, .int .i64 t25.Obj, .int .i64 t25.Badge, .int .i64 t25.Guard, .int .i64 t25.Bits], Box b1 [.int .i64 a0.Kind, .int .i64 a0.Rights, .int .i64 a0.Obj, .int .i64 a0.Badge, .int .i64 a0.Guard, .int .i64 a0.Bits], Box b24 [.int .i64 t21.Kind, .int .i64 t21.Rights, .int .i64 t21.Obj, .int .i64 t21.Badge, .int .i64 t21.Guard, .int .i64 t21.Bits], Box b20 [.int .i64 t17.Kind, .int .i64 t17.Rights, .int .i64 t17.Obj, .int .i64 t17.Badge, .int .i64 t17.Guard, .int .i64 t17.Bits], Box b16 [.int .i64 t13.Kind, .int .i64 t13.Rights, .int .i64 t13.Obj, .int .i64 t13.Badge, .int .i64 t13.Guard, .int .i64 t13.Bits], Box b12 [.int .i64 t9.Kind, .int .i64 t9.Rights, .int .i64 t9.Obj, .int .i64 t9.Badge, .int .i64 t9.Guard, .int .i64 t9.Bits], Box b8 [.int .i64 t5.Kind, .int .i64 t5.Rights, .int .i64 t5.Obj, .int .i64 t5.Badge, .int .i64 t5.Guard, .int .i64 t5.Bits], Box b2 [.int .i64 a1.Kind, .int .i64 a1.Rights, .int .i64 a1.Obj, .int .i64 a1.Badge, .int .i64 a1.Guard, .int .i64 a1.Bits], F] (fun l2 hk2 => ?_) ?_
  · clear hgk
    replace h := hc46
    rcases bool_or c42 with b44 | b44
    · replace h := cond_t b44 h
      refine SO.passF rfl rfl rfl b44 rfl rfl ?_
      refine SO.passF rfl rfl rfl b44 rfl rfl ?_
      refine SO.passF rfl rfl rfl b44 rfl rfl ?_
      cases h
      refine SO.v rfl (opv_pick_t' b44 rfl rfl) ?_
      refine SO.b8 ?_
      refine SO.b8 ?_
      refine SO.b8 ?_
      refine SO.b8 ?_
      refine SO.b8 ?_
      refine SO.b8 ?_
      refine SO.b8 ?_
      refine SO.b8 ?_
      refine SO.b8 ?_
      exact hk2.fitc (m := 4) rfl (rfl) rfl
    · replace h := cond_f b44 h
      refine SO.takeT rfl rfl rfl b44 ?_
      refine SO.b5 ?_
      refine SO.loadN rfl Try.isAgg53 Try.sizeOf53 rfl rfl rfl ?_
      refine SO.takeT rfl rfl rfl b44 ?_
      refine SO.b3 ?_
      refine SO.loadN rfl Try.isAgg53 Try.sizeOf53 rfl rfl rfl ?_
      refine SO.takeT rfl rfl rfl b44 ?_
      refine SO.v rfl (eq_neq_api_Cap (x := t9) (y := t21) rfl rfl) ?_
      cases h
      refine SO.v rfl (opv_pick_f' b44 rfl rfl) ?_
      refine SO.b8 ?_
      refine SO.b8 ?_
      refine SO.b8 ?_
      refine SO.b4 ?_
      refine SO.b8 ?_
      refine SO.b8 ?_
      refine SO.b6 ?_
      refine SO.b8 ?_
      refine SO.b8 ?_
      exact hk2.fitc (m := 4) rfl (rfl) rfl
  clear hc46
  replace h := hgk
  refine SO.v rfl (opv_move rfl) ?_
  obtain ⟨c48, hc49, hgk⟩ := opt_bind h
  refine SO.cut 4 99 (.bool c48) [Box b28 [.int .i64 t25.Kind, .int .i64 t25.Rights, .int .i64 t25.Obj, .int .i64 t25.Badge, .int .i64 t25.Guard, .int .i64 t25.Bits], Box b1 [.int .i64 a0.Kind, .int .i64 a0.Rights, .int .i64 a0.Obj, .int .i64 a0.Badge, .int .i64 a0.Guard, .int .i64 a0.Bits], Box b24 [.int .i64 t21.Kind, .int .i64 t21.Rights, .int .i64 t21.Obj, .int .i64 t21.Badge, .int .i64 t21.Guard, .int .i64 t21.Bits], Box b20 [.int .i64 t17.Kind, .int .i64 t17.Rights, .int .i64 t17.Obj, .int .i64 t17.Badge, .int .i64 t17.Guard, .int .i64 t17.Bits], Box b16 [.int .i64 t13.Kind, .int .i64 t13.Rights, .int .i64 t13.Obj, .int .i64 t13.Badge, .int .i64 t13.Guard, .int .i64 t13.Bits], Box b12 [.int .i64 t9.Kind, .int .i64 t9.Rights, .int .i64 t9.Obj, .int .i64 t9.Badge, .int .i64 t9.Guard, .int .i64 t9.Bits], Box b8 [.int .i64 t5.Kind, .int .i64 t5.Rights, .int .i64 t5.Obj, .int .i64 t5.Badge, .int .i64 t5.Guard, .int .i64 t5.Bits], Box b2 [.int .i64 a1.Kind, .int .i64 a1.Rights, .int .i64 a1.Obj, .int .i64 a1.Badge, .int .i64 a1.Guard, .int .i64 a1.Bits], F] (fun l2 hk2 => ?_) ?_
  · clear hgk
    replace h := hc49
    rcases bool_or c45 with b47 | b47
    · replace h := cond_t b47 h
      refine SO.passF rfl rfl rfl b47 rfl rfl ?_
      refine SO.passF rfl rfl rfl b47 rfl rfl ?_
      refine SO.passF rfl rfl rfl b47 rfl rfl ?_
      cases h
      refine SO.v rfl (opv_pick_t' b47 rfl rfl) ?_
      refine SO.b8 ?_
      refine SO.b8 ?_
      refine SO.b8 ?_
      refine SO.b8 ?_
      refine SO.b8 ?_
      refine SO.b8 ?_
      refine SO.b8 ?_
      refine SO.b8 ?_
      refine SO.b8 ?_
      exact hk2.fitc (m := 4) rfl (rfl) rfl
    · replace h := cond_f b47 h
      refine SO.takeT rfl rfl rfl b47 ?_
      refine SO.b4 ?_
      refine SO.loadN rfl Try.isAgg53 Try.sizeOf53 rfl rfl rfl ?_
      refine SO.takeT rfl rfl rfl b47 ?_
      refine SO.b1 ?_
      refine SO.loadN rfl Try.isAgg53 Try.sizeOf53 rfl rfl rfl ?_
      refine SO.takeT rfl rfl rfl b47 ?_
      refine SO.v rfl (eq_neq_api_Cap (x := t13) (y := t25) rfl rfl) ?_
      cases h
      refine SO.v rfl (opv_pick_f' b47 rfl rfl) ?_
      refine SO.b8 ?_
      refine SO.b8 ?_
      refine SO.b8 ?_
      refine SO.b8 ?_
      refine SO.b5 ?_
      refine SO.b8 ?_
      refine SO.b8 ?_
      refine SO.b8 ?_
      refine SO.b8 ?_
      exact hk2.fitc (m := 4) rfl (rfl) rfl
  clear hc49
  replace h := hgk
  refine SO.nil ?_
  refine S.to (ρ' := [(2, .int .i64 a2), (6, bp b1 0), (7, bp b2 0), (12, .bool false), (13, .bool t3), (99, .bool c48)]) ⟨rfl, rfl, rfl, rfl, rfl, rfl, trivial⟩ ?_
  rcases bool_or c48 with b50 | b50
  · replace h := cond_t b50 h
    refine S.condT rfl b50 ?_
    refine S.seq ?_
    refine S.region ?_
    refine SO.v rfl (opv_assign rfl) ?_
    refine SO.nil ?_
    cases h
    refine S.drop ?_
    refine S.drop ?_
    refine S.drop ?_
    refine S.drop ?_
    refine S.drop ?_
    refine S.drop ?_
    refine S.drop ?_
    refine S.drop ?_
    exact S.ret1 Try.func15 rfl rfl (fun w hs hk => hR w _ _ ⟨rfl, rfl⟩ hs hk)
  · replace h := cond_f b50 h
    refine S.condF rfl b50 ?_
    refine S.skip ?_
    refine S.seq ?_
    refine S.region ?_
    refine SO.b1 ?_
    refine SO.loadN rfl Try.isAgg53 Try.sizeOf53 rfl rfl rfl ?_
    obtain ⟨t51, ht52, h⟩ := opt_bind h
    refine SO.call (pre := []) rfl Try.call31 rfl rfl rfl (ref01_May.ct _ _ _ ht52) trivial ?_
    rintro _ _ ⟨rfl, rfl⟩
    refine SO.v rfl (opv_assign rfl) ?_
    refine SO.nil ?_
    refine S.seq ?_
    refine S.region ?_
    refine SO.b7 ?_
    refine SO.loadN rfl Try.isAgg53 Try.sizeOf53 rfl rfl rfl ?_
    obtain ⟨t53, ht54, h⟩ := opt_bind h
    refine SO.call (pre := []) rfl Try.call31 rfl rfl rfl (ref01_May.ct _ _ _ ht54) trivial ?_
    rintro _ _ ⟨rfl, rfl⟩
    refine SO.v rfl (opv_assign rfl) ?_
    refine SO.nil ?_
    refine S.seq ?_
    refine S.seq ?_
    refine S.region ?_
    refine SO.v rfl (opv_move rfl) ?_
    refine SO.v rfl (opv_not rfl) ?_
    refine SO.v rfl (opv_move rfl) ?_
    refine SO.cut 3 109 (.bool ((!t51) || (!t53))) [Box b2 [.int .i64 a1.Kind, .int .i64 a1.Rights, .int .i64 a1.Obj, .int .i64 a1.Badge, .int .i64 a1.Guard, .int .i64 a1.Bits], Box b1 [.int .i64 a0.Kind, .int .i64 a0.Rights, .int .i64 a0.Obj, .int .i64 a0.Badge, .int .i64 a0.Guard, .int .i64 a0.Bits], Box b28 [.int .i64 t25.Kind, .int .i64 t25.Rights, .int .i64 t25.Obj, .int .i64 t25.Badge, .int .i64 t25.Guard, .int .i64 t25.Bits], Box b24 [.int .i64 t21.Kind, .int .i64 t21.Rights, .int .i64 t21.Obj, .int .i64 t21.Badge, .int .i64 t21.Guard, .int .i64 t21.Bits], Box b20 [.int .i64 t17.Kind, .int .i64 t17.Rights, .int .i64 t17.Obj, .int .i64 t17.Badge, .int .i64 t17.Guard, .int .i64 t17.Bits], Box b16 [.int .i64 t13.Kind, .int .i64 t13.Rights, .int .i64 t13.Obj, .int .i64 t13.Badge, .int .i64 t13.Guard, .int .i64 t13.Bits], Box b12 [.int .i64 t9.Kind, .int .i64 t9.Rights, .int .i64 t9.Obj, .int .i64 t9.Badge, .int .i64 t9.Guard, .int .i64 t9.Bits], Box b8 [.int .i64 t5.Kind, .int .i64 t5.Rights, .int .i64 t5.Obj, .int .i64 t5.Badge, .int .i64 t5.Guard, .int .i64 t5.Bits], F] (fun l2 hk2 => ?_) ?_
    · rcases bool_or (!t51) with b55 | b55
      · refine SO.passF rfl rfl rfl b55 rfl rfl ?_
        refine SO.passF rfl rfl rfl b55 rfl rfl ?_
        refine SO.v rfl (opv_pick_t' b55 rfl rfl) ?_
        refine SO.b8 ?_
        refine SO.b8 ?_
        refine SO.b8 ?_
        refine SO.b8 ?_
        refine SO.b8 ?_
        refine SO.b8 ?_
        refine SO.b8 ?_
        refine SO.b8 ?_
        refine SO.b8 ?_
        exact hk2.fitc (m := 3) rfl (or_t b55) rfl
      · refine SO.takeT rfl rfl rfl b55 ?_
        refine SO.v rfl (opv_move rfl) ?_
        refine SO.takeT rfl rfl rfl b55 ?_
        refine SO.v rfl (opv_not rfl) ?_
        refine SO.v rfl (opv_pick_f' b55 rfl rfl) ?_
        refine SO.b8 ?_
        refine SO.b8 ?_
        refine SO.b8 ?_
        refine SO.b8 ?_
        refine SO.b8 ?_
        refine SO.b8 ?_
        refine SO.b8 ?_
        refine SO.b8 ?_
        refine SO.b8 ?_
        exact hk2.fitc (m := 3) rfl (or_f b55) rfl
    refine SO.v rfl (opv_move rfl) ?_
    refine SO.cut 3 113 (.bool (((!t51) || (!t53)) || (decide (a2 < 0)))) [Box b2 [.int .i64 a1.Kind, .int .i64 a1.Rights, .int .i64 a1.Obj, .int .i64 a1.Badge, .int .i64 a1.Guard, .int .i64 a1.Bits], Box b1 [.int .i64 a0.Kind, .int .i64 a0.Rights, .int .i64 a0.Obj, .int .i64 a0.Badge, .int .i64 a0.Guard, .int .i64 a0.Bits], Box b28 [.int .i64 t25.Kind, .int .i64 t25.Rights, .int .i64 t25.Obj, .int .i64 t25.Badge, .int .i64 t25.Guard, .int .i64 t25.Bits], Box b24 [.int .i64 t21.Kind, .int .i64 t21.Rights, .int .i64 t21.Obj, .int .i64 t21.Badge, .int .i64 t21.Guard, .int .i64 t21.Bits], Box b20 [.int .i64 t17.Kind, .int .i64 t17.Rights, .int .i64 t17.Obj, .int .i64 t17.Badge, .int .i64 t17.Guard, .int .i64 t17.Bits], Box b16 [.int .i64 t13.Kind, .int .i64 t13.Rights, .int .i64 t13.Obj, .int .i64 t13.Badge, .int .i64 t13.Guard, .int .i64 t13.Bits], Box b12 [.int .i64 t9.Kind, .int .i64 t9.Rights, .int .i64 t9.Obj, .int .i64 t9.Badge, .int .i64 t9.Guard, .int .i64 t9.Bits], Box b8 [.int .i64 t5.Kind, .int .i64 t5.Rights, .int .i64 t5.Obj, .int .i64 t5.Badge, .int .i64 t5.Guard, .int .i64 t5.Bits], F] (fun l2 hk2 => ?_) ?_
    · rcases bool_or ((!t51) || (!t53)) with b56 | b56
      · refine SO.passF rfl rfl rfl b56 rfl rfl ?_
        refine SO.passF rfl rfl rfl b56 rfl rfl ?_
        refine SO.v rfl (opv_pick_t' b56 rfl rfl) ?_
        refine SO.b8 ?_
        refine SO.b8 ?_
        refine SO.b8 ?_
        refine SO.b8 ?_
        refine SO.b8 ?_
        refine SO.b8 ?_
        refine SO.b8 ?_
        refine SO.b8 ?_
        refine SO.b8 ?_
        exact hk2.fitc (m := 3) rfl (or_t b56) rfl
      · refine SO.takeT rfl rfl rfl b56 ?_
        refine SO.v rfl (opv_move rfl) ?_
        refine SO.takeT rfl rfl rfl b56 ?_
        refine SO.v rfl (opv_lss rfl rfl) ?_
        refine SO.v rfl (opv_pick_f' b56 rfl rfl) ?_
        refine SO.b8 ?_
        refine SO.b8 ?_
        refine SO.b8 ?_
        refine SO.b8 ?_
        refine SO.b8 ?_
        refine SO.b8 ?_
        refine SO.b8 ?_
        refine SO.b8 ?_
        refine SO.b8 ?_
        exact hk2.fitc (m := 3) rfl (or_f b56) rfl
    refine SO.v rfl (opv_move rfl) ?_
    refine SO.cut 3 117 (.bool ((((!t51) || (!t53)) || (decide (a2 < 0))) || (decide (7 < a2)))) [Box b2 [.int .i64 a1.Kind, .int .i64 a1.Rights, .int .i64 a1.Obj, .int .i64 a1.Badge, .int .i64 a1.Guard, .int .i64 a1.Bits], Box b1 [.int .i64 a0.Kind, .int .i64 a0.Rights, .int .i64 a0.Obj, .int .i64 a0.Badge, .int .i64 a0.Guard, .int .i64 a0.Bits], Box b28 [.int .i64 t25.Kind, .int .i64 t25.Rights, .int .i64 t25.Obj, .int .i64 t25.Badge, .int .i64 t25.Guard, .int .i64 t25.Bits], Box b24 [.int .i64 t21.Kind, .int .i64 t21.Rights, .int .i64 t21.Obj, .int .i64 t21.Badge, .int .i64 t21.Guard, .int .i64 t21.Bits], Box b20 [.int .i64 t17.Kind, .int .i64 t17.Rights, .int .i64 t17.Obj, .int .i64 t17.Badge, .int .i64 t17.Guard, .int .i64 t17.Bits], Box b16 [.int .i64 t13.Kind, .int .i64 t13.Rights, .int .i64 t13.Obj, .int .i64 t13.Badge, .int .i64 t13.Guard, .int .i64 t13.Bits], Box b12 [.int .i64 t9.Kind, .int .i64 t9.Rights, .int .i64 t9.Obj, .int .i64 t9.Badge, .int .i64 t9.Guard, .int .i64 t9.Bits], Box b8 [.int .i64 t5.Kind, .int .i64 t5.Rights, .int .i64 t5.Obj, .int .i64 t5.Badge, .int .i64 t5.Guard, .int .i64 t5.Bits], F] (fun l2 hk2 => ?_) ?_
    · rcases bool_or (((!t51) || (!t53)) || (decide (a2 < 0))) with b57 | b57
      · refine SO.passF rfl rfl rfl b57 rfl rfl ?_
        refine SO.passF rfl rfl rfl b57 rfl rfl ?_
        refine SO.v rfl (opv_pick_t' b57 rfl rfl) ?_
        refine SO.b8 ?_
        refine SO.b8 ?_
        refine SO.b8 ?_
        refine SO.b8 ?_
        refine SO.b8 ?_
        refine SO.b8 ?_
        refine SO.b8 ?_
        refine SO.b8 ?_
        refine SO.b8 ?_
        exact hk2.fitc (m := 3) rfl (or_t b57) rfl
      · refine SO.takeT rfl rfl rfl b57 ?_
        refine SO.v rfl (opv_move rfl) ?_
        refine SO.takeT rfl rfl rfl b57 ?_
        refine SO.v rfl (opv_gtr rfl rfl) ?_
        refine SO.v rfl (opv_pick_f' b57 rfl rfl) ?_
        refine SO.b8 ?_
        refine SO.b8 ?_
        refine SO.b8 ?_
        refine SO.b8 ?_
        refine SO.b8 ?_
        refine SO.b8 ?_
        refine SO.b8 ?_
        refine SO.b8 ?_
        refine SO.b8 ?_
        exact hk2.fitc (m := 3) rfl (or_f b57) rfl
    refine SO.nil ?_
    refine S.to (ρ' := [(2, .int .i64 a2), (6, bp b1 0), (7, bp b2 0), (12, .bool false), (13, .bool t3), (117, .bool ((((!t51) || (!t53)) || (decide (a2 < 0))) || (decide (7 < a2))))]) ⟨rfl, rfl, rfl, rfl, rfl, rfl, trivial⟩ ?_
    rcases bool_or ((((!t51) || (!t53)) || (decide (a2 < 0))) || (decide (7 < a2))) with b58 | b58
    · replace h := cond_t b58 h
      refine S.condT rfl b58 ?_
      refine S.seq ?_
      refine S.region ?_
      refine SO.v rfl (opv_move rfl) ?_
      refine SO.v rfl (opv_assign rfl) ?_
      refine SO.nil ?_
      cases h
      refine S.drop ?_
      refine S.drop ?_
      refine S.drop ?_
      refine S.drop ?_
      refine S.drop ?_
      refine S.drop ?_
      refine S.drop ?_
      refine S.drop ?_
      exact S.ret1 Try.func15 rfl rfl (fun w hs hk => hR w _ _ ⟨rfl, rfl⟩ hs hk)
    · replace h := cond_f b58 h
      refine S.condF rfl b58 ?_
      refine S.skip ?_
      refine S.seq ?_
      obtain ⟨j12_1, hC1, hJ1⟩ := opt_bind h
      clear h
      refine S.cutP (G := Unit) (fun _ => True) (fun _ => [(12, .bool j12_1)]) (fun _ => [Box b2 [.int .i64 a1.Kind, .int .i64 a1.Rights, .int .i64 a1.Obj, .int .i64 a1.Badge, .int .i64 a1.Guard, .int .i64 a1.Bits], Box b1 [.int .i64 a0.Kind, .int .i64 a0.Rights, .int .i64 a0.Obj, .int .i64 a0.Badge, .int .i64 a0.Guard, .int .i64 a0.Bits], Box b28 [.int .i64 t25.Kind, .int .i64 t25.Rights, .int .i64 t25.Obj, .int .i64 t25.Badge, .int .i64 t25.Guard, .int .i64 t25.Bits], Box b24 [.int .i64 t21.Kind, .int .i64 t21.Rights, .int .i64 t21.Obj, .int .i64 t21.Badge, .int .i64 t21.Guard, .int .i64 t21.Bits], Box b20 [.int .i64 t17.Kind, .int .i64 t17.Rights, .int .i64 t17.Obj, .int .i64 t17.Badge, .int .i64 t17.Guard, .int .i64 t17.Bits], Box b16 [.int .i64 t13.Kind, .int .i64 t13.Rights, .int .i64 t13.Obj, .int .i64 t13.Badge, .int .i64 t13.Guard, .int .i64 t13.Bits], Box b12 [.int .i64 t9.Kind, .int .i64 t9.Rights, .int .i64 t9.Obj, .int .i64 t9.Badge, .int .i64 t9.Guard, .int .i64 t9.Bits], Box b8 [.int .i64 t5.Kind, .int .i64 t5.Rights, .int .i64 t5.Obj, .int .i64 t5.Badge, .int .i64 t5.Guard, .int .i64 t5.Bits], F]) (fun hk1 => ?_) ?_
      · replace h := hC1
        rcases bool_or t3 with b59 | b59
        · replace h := cond_t b59 h
          obtain ⟨t60, ht61, h⟩ := opt_bind h
          obtain ⟨t62, ht63, h⟩ := opt_bind h
          rcases bool_or (t60 == t62) with b64 | b64
          · replace h := cond_t b64 h
            obtain ⟨t65, ht66, h⟩ := opt_bind h
            obtain ⟨t67, ht68, h⟩ := opt_bind h
            refine S.draw (T := [tS 13 (.bool t3), tS 6 (bp b1 0), tS 2 (.int .i64 a2), tS 7 (bp b2 0), tR (Box b2 [.int .i64 a1.Kind, .int .i64 a1.Rights, .int .i64 a1.Obj, .int .i64 a1.Badge, .int .i64 a1.Guard, .int .i64 a1.Bits]), tR (Box b1 [.int .i64 a0.Kind, .int .i64 a0.Rights, .int .i64 a0.Obj, .int .i64 a0.Badge, .int .i64 a0.Guard, .int .i64 a0.Bits]), tR (Box b28 [.int .i64 t25.Kind, .int .i64 t25.Rights, .int .i64 t25.Obj, .int .i64 t25.Badge, .int .i64 t25.Guard, .int .i64 t25.Bits]), tR (Box b24 [.int .i64 t21.Kind, .int .i64 t21.Rights, .int .i64 t21.Obj, .int .i64 t21.Badge, .int .i64 t21.Guard, .int .i64 t21.Bits]), tR (Box b20 [.int .i64 t17.Kind, .int .i64 t17.Rights, .int .i64 t17.Obj, .int .i64 t17.Badge, .int .i64 t17.Guard, .int .i64 t17.Bits]), tR (Box b16 [.int .i64 t13.Kind, .int .i64 t13.Rights, .int .i64 t13.Obj, .int .i64 t13.Badge, .int .i64 t13.Guard, .int .i64 t13.Bits]), tR (Box b12 [.int .i64 t9.Kind, .int .i64 t9.Rights, .int .i64 t9.Obj, .int .i64 t9.Badge, .int .i64 t9.Guard, .int .i64 t9.Bits]), tR (Box b8 [.int .i64 t5.Kind, .int .i64 t5.Rights, .int .i64 t5.Obj, .int .i64 t5.Badge, .int .i64 t5.Guard, .int .i64 t5.Bits]), tR (F), tS 119 (.bool t3), tS 120 (.bool t3), tS 121 (.agg #[.int .i64 a0.Kind, .int .i64 a0.Rights, .int .i64 a0.Obj, .int .i64 a0.Badge, .int .i64 a0.Guard, .int .i64 a0.Bits]), tS 122 (.int .i64 a2), tS 123 (.bool t60), tS 124 (.agg #[.int .i64 a0.Kind, .int .i64 a0.Rights, .int .i64 a0.Obj, .int .i64 a0.Badge, .int .i64 a0.Guard, .int .i64 a0.Bits]), tS 125 (.int .i64 a2), tS 126 (.bool t62), tS 127 (.bool (t60 == t62)), tS 128 (.bool (t60 == t62)), tS 129 (.bool (t60 == t62)), tS 130 (.agg #[.int .i64 a0.Kind, .int .i64 a0.Rights, .int .i64 a0.Obj, .int .i64 a0.Badge, .int .i64 a0.Guard, .int .i64 a0.Bits]), tS 131 (.agg #[.int .i64 a1.Kind, .int .i64 a1.Rights, .int .i64 a1.Obj, .int .i64 a1.Badge, .int .i64 a1.Guard, .int .i64 a1.Bits]), tS 132 (.bool t65), tS 133 (.agg #[.int .i64 a0.Kind, .int .i64 a0.Rights, .int .i64 a0.Obj, .int .i64 a0.Badge, .int .i64 a0.Guard, .int .i64 a0.Bits]), tS 134 (.agg #[.int .i64 a1.Kind, .int .i64 a1.Rights, .int .i64 a1.Obj, .int .i64 a1.Badge, .int .i64 a1.Guard, .int .i64 a1.Bits]), tS 135 (.bool t67), tS 136 (.bool (t65 == t67)), tS 137 (.bool (t65 == t67)), tS 12 (.bool (t65 == t67))]) (D := [⟨[0], [], [13]⟩, ⟨[13], [], [14]⟩, ⟨[1, 14, 5], [], [15]⟩, ⟨[2, 14], [], [16]⟩, ⟨[14, 15, 16], [], [17]⟩, ⟨[1, 14, 5], [], [18]⟩, ⟨[2, 14], [], [19]⟩, ⟨[14, 18, 19], [], [20]⟩, ⟨[14, 17, 20], [], [21]⟩, ⟨[14, 21], [], [22]⟩, ⟨[22], [], [23]⟩, ⟨[1, 23, 5], [], [24]⟩, ⟨[3, 23, 4], [], [25]⟩, ⟨[23, 24, 25], [], [26]⟩, ⟨[1, 23, 5], [], [27]⟩, ⟨[3, 23, 4], [], [28]⟩, ⟨[23, 27, 28], [], [29]⟩, ⟨[23, 26, 29], [], [30]⟩, ⟨[23, 30], [], [31]⟩, ⟨[31], [], [32]⟩]) (ini := [0, 1, 2, 3, 4, 5, 6, 7, 8, 9, 10, 11, 12]) (fin := [32, 4, 5, 6, 7, 8, 9, 10, 11, 12]) (bf := [[], [0], [0, 1], [0, 1], [0, 1, 2, 3], [0, 1], [0, 1], [0, 1, 2, 3, 4, 5, 6], [0, 1, 2, 3, 4, 5, 6, 7], [0, 1, 2, 3, 4, 5, 6, 7, 8], [0, 1, 2, 3, 4, 5, 6, 7, 8, 9], [0, 1, 2, 3, 4, 5, 6, 7, 8, 9, 10], [0, 1, 2, 3, 4, 5, 6, 7, 8, 9, 10], [0, 1, 2, 3, 4, 5, 6, 7, 8, 9, 10, 11, 12], [0, 1, 2, 3, 4, 5, 6, 7, 8, 9, 10], [0, 1, 2, 3, 4, 5, 6, 7, 8, 9, 10], [0, 1, 2, 3, 4, 5, 6, 7, 8, 9, 10, 11, 12, 13, 14, 15], [0, 1, 2, 3, 4, 5, 6, 7, 8, 9, 10, 11, 12, 13, 14, 15, 16], [0, 1, 2, 3, 4, 5, 6, 7, 8, 9, 10, 11, 12, 13, 14, 15, 16, 17], [0, 1, 2, 3, 4, 5, 6, 7, 8, 9, 10, 11, 12, 13, 14, 15, 16, 17, 18]]) (by kernel_rfl) (by kernel_rfl) (fun x w h1 h2 => (.cons () (.cons () (.cons () (.cons () (.cons () (.cons () (.cons () (.cons () (.cons () (.cons () (.cons () (.cons () (.cons () (.nil ⟨EnvAll.of h1 ⟨rfl, rfl, rfl, rfl, trivial⟩, h2⟩))))))))))))))) ⟨?_, ?_, ?_, ?_, ?_, ?_, ?_, ?_, ?_, ?_, ?_, ?_, ?_, ?_, ?_, ?_, ?_, ?_, ?_, ?_, trivial⟩ ?_
            · rintro Fr _
              refine SO.v rfl (opv_move rfl) ?_
              exact SO.nilZ fun a w h1 h2 h3 h4 h5 => PZ.of h1 h3 h5 (.cons () (.cons () (.nil ⟨EnvAll.of h2 ⟨rfl, rfl, trivial⟩, h4⟩)))
            · rintro Fr _
              refine SO.v rfl (opv_move rfl) ?_
              exact SO.nilZ fun a w h1 h2 h3 h4 h5 => PZ.of h1 h3 h5 (.cons () (.cons () (.nil ⟨EnvAll.of h2 ⟨rfl, rfl, trivial⟩, h4⟩)))
            · rintro Fr _ _ _
              refine SO.takeT rfl rfl rfl b59 ?_
              refine SO.loadN rfl Try.isAgg53 Try.sizeOf53 rfl rfl rfl ?_
              exact SO.nilZ fun a w h1 h2 h3 h4 h5 => PZ.of h1 h3 h5 (.cons () (.cons () (.cons () (.cons () (.nil ⟨EnvAll.of h2 ⟨rfl, rfl, rfl, trivial⟩, h4⟩)))))
            · rintro Fr _ _
              refine SO.takeT rfl rfl rfl b59 ?_
              refine SO.v rfl (opv_move rfl) ?_
              exact SO.nilZ fun a w h1 h2 h3 h4 h5 => PZ.of h1 h3 h5 (.cons () (.cons () (.cons () (.nil ⟨EnvAll.of h2 ⟨rfl, rfl, rfl, trivial⟩, h4⟩))))
            · rintro Fr _ _ _
              refine SO.takeT rfl rfl rfl b59 ?_
              refine SO.call (pre := []) rfl Try.call55 rfl rfl rfl (rights_Has.ct _ _ _ ht61) trivial ?_
              rintro _ _ ⟨rfl, rfl⟩
              exact SO.nilZ fun a w h1 h2 h3 h4 h5 => PZ.of h1 h3 h5 (.cons () (.cons () (.cons () (.cons () (.nil ⟨EnvAll.of h2 ⟨rfl, rfl, rfl, rfl, trivial⟩, h4⟩)))))
            · rintro Fr _ _ _
              refine SO.takeT rfl rfl rfl b59 ?_
              refine SO.loadN rfl Try.isAgg53 Try.sizeOf53 rfl rfl rfl ?_
              exact SO.nilZ fun a w h1 h2 h3 h4 h5 => PZ.of h1 h3 h5 (.cons () (.cons () (.cons () (.cons () (.nil ⟨EnvAll.of h2 ⟨rfl, rfl, rfl, trivial⟩, h4⟩)))))
            · rintro Fr _ _
              refine SO.takeT rfl rfl rfl b59 ?_
              refine SO.v rfl (opv_move rfl) ?_
              exact SO.nilZ fun a w h1 h2 h3 h4 h5 => PZ.of h1 h3 h5 (.cons () (.cons () (.cons () (.nil ⟨EnvAll.of h2 ⟨rfl, rfl, rfl, trivial⟩, h4⟩))))
            · rintro Fr _ _ _
              refine SO.takeT rfl rfl rfl b59 ?_
              refine SO.call (pre := []) rfl Try.call56 rfl rfl rfl (ref01_Has.ct _ _ _ _ ht63) trivial ?_
              rintro _ _ ⟨rfl, rfl⟩
              exact SO.nilZ fun a w h1 h2 h3 h4 h5 => PZ.of h1 h3 h5 (.cons () (.cons () (.cons () (.cons () (.nil ⟨EnvAll.of h2 ⟨rfl, rfl, rfl, rfl, trivial⟩, h4⟩)))))
            · rintro Fr _ _ _
              refine SO.takeT rfl rfl rfl b59 ?_
              refine SO.v rfl (opv_eqlB Try.underlying4 rfl rfl) ?_
              exact SO.nilZ fun a w h1 h2 h3 h4 h5 => PZ.of h1 h3 h5 (.cons () (.cons () (.cons () (.cons () (.nil ⟨EnvAll.of h2 ⟨rfl, rfl, rfl, rfl, trivial⟩, h4⟩)))))
            · rintro Fr _ _
              refine SO.v rfl (opv_pick_t' b59 rfl rfl) ?_
              exact SO.nilZ fun a w h1 h2 h3 h4 h5 => PZ.of h1 h3 h5 (.cons () (.cons () (.cons () (.nil ⟨EnvAll.of h2 ⟨rfl, rfl, rfl, trivial⟩, h4⟩))))
            · rintro Fr _
              refine SO.v rfl (opv_move rfl) ?_
              exact SO.nilZ fun a w h1 h2 h3 h4 h5 => PZ.of h1 h3 h5 (.cons () (.cons () (.nil ⟨EnvAll.of h2 ⟨rfl, rfl, trivial⟩, h4⟩)))
            · rintro Fr _ _ _
              refine SO.takeT rfl rfl rfl b64 ?_
              refine SO.loadN rfl Try.isAgg53 Try.sizeOf53 rfl rfl rfl ?_
              exact SO.nilZ fun a w h1 h2 h3 h4 h5 => PZ.of h1 h3 h5 (.cons () (.cons () (.cons () (.cons () (.nil ⟨EnvAll.of h2 ⟨rfl, rfl, rfl, trivial⟩, h4⟩)))))
            · rintro Fr _ _ _
              refine SO.takeT rfl rfl rfl b64 ?_
              refine SO.loadN rfl Try.isAgg53 Try.sizeOf53 rfl rfl rfl ?_
              exact SO.nilZ fun a w h1 h2 h3 h4 h5 => PZ.of h1 h3 h5 (.cons () (.cons () (.cons () (.cons () (.nil ⟨EnvAll.of h2 ⟨rfl, rfl, rfl, trivial⟩, h4⟩)))))
            · rintro Fr _ _ _
              refine SO.takeT rfl rfl rfl b64 ?_
              refine SO.call (pre := []) rfl Try.call47 rfl rfl rfl (rights_Within.ct _ _ _ ht66) trivial ?_
              rintro _ _ ⟨rfl, rfl⟩
              exact SO.nilZ fun a w h1 h2 h3 h4 h5 => PZ.of h1 h3 h5 (.cons () (.cons () (.cons () (.cons () (.nil ⟨EnvAll.of h2 ⟨rfl, rfl, rfl, rfl, trivial⟩, h4⟩)))))
            · rintro Fr _ _ _
              refine SO.takeT rfl rfl rfl b64 ?_
              refine SO.loadN rfl Try.isAgg53 Try.sizeOf53 rfl rfl rfl ?_
              exact SO.nilZ fun a w h1 h2 h3 h4 h5 => PZ.of h1 h3 h5 (.cons () (.cons () (.cons () (.cons () (.nil ⟨EnvAll.of h2 ⟨rfl, rfl, rfl, trivial⟩, h4⟩)))))
            · rintro Fr _ _ _
              refine SO.takeT rfl rfl rfl b64 ?_
              refine SO.loadN rfl Try.isAgg53 Try.sizeOf53 rfl rfl rfl ?_
              exact SO.nilZ fun a w h1 h2 h3 h4 h5 => PZ.of h1 h3 h5 (.cons () (.cons () (.cons () (.cons () (.nil ⟨EnvAll.of h2 ⟨rfl, rfl, rfl, trivial⟩, h4⟩)))))
            · rintro Fr _ _ _
              refine SO.takeT rfl rfl rfl b64 ?_
              refine SO.call (pre := []) rfl Try.call57 rfl rfl rfl (ref01_Within.ct _ _ _ _ ht68) trivial ?_
              rintro _ _ ⟨rfl, rfl⟩
              exact SO.nilZ fun a w h1 h2 h3 h4 h5 => PZ.of h1 h3 h5 (.cons () (.cons () (.cons () (.cons () (.nil ⟨EnvAll.of h2 ⟨rfl, rfl, rfl, rfl, trivial⟩, h4⟩)))))
            · rintro Fr _ _ _
              refine SO.takeT rfl rfl rfl b64 ?_
              refine SO.v rfl (opv_eqlB Try.underlying4 rfl rfl) ?_
              exact SO.nilZ fun a w h1 h2 h3 h4 h5 => PZ.of h1 h3 h5 (.cons () (.cons () (.cons () (.cons () (.nil ⟨EnvAll.of h2 ⟨rfl, rfl, rfl, rfl, trivial⟩, h4⟩)))))
            · rintro Fr _ _
              refine SO.v rfl (opv_pick_t' b64 rfl rfl) ?_
              exact SO.nilZ fun a w h1 h2 h3 h4 h5 => PZ.of h1 h3 h5 (.cons () (.cons () (.cons () (.nil ⟨EnvAll.of h2 ⟨rfl, rfl, rfl, trivial⟩, h4⟩))))
            · rintro Fr _
              refine SO.v rfl (opv_assign rfl) ?_
              exact SO.nilZ fun a w h1 h2 h3 h4 h5 => PZ.of h1 h3 h5 (.cons () (.cons () (.nil ⟨EnvAll.of h2 ⟨rfl, rfl, trivial⟩, h4⟩)))
            rintro _ _ _ _ _ _ _ _ _ _
            show S _ _ _ _ _ _ _ [Box b2 [.int .i64 a1.Kind, .int .i64 a1.Rights, .int .i64 a1.Obj, .int .i64 a1.Badge, .int .i64 a1.Guard, .int .i64 a1.Bits], Box b1 [.int .i64 a0.Kind, .int .i64 a0.Rights, .int .i64 a0.Obj, .int .i64 a0.Badge, .int .i64 a0.Guard, .int .i64 a0.Bits], Box b28 [.int .i64 t25.Kind, .int .i64 t25.Rights, .int .i64 t25.Obj, .int .i64 t25.Badge, .int .i64 t25.Guard, .int .i64 t25.Bits], Box b24 [.int .i64 t21.Kind, .int .i64 t21.Rights, .int .i64 t21.Obj, .int .i64 t21.Badge, .int .i64 t21.Guard, .int .i64 t21.Bits], Box b20 [.int .i64 t17.Kind, .int .i64 t17.Rights, .int .i64 t17.Obj, .int .i64 t17.Badge, .int .i64 t17.Guard, .int .i64 t17.Bits], Box b16 [.int .i64 t13.Kind, .int .i64 t13.Rights, .int .i64 t13.Obj, .int .i64 t13.Badge, .int .i64 t13.Guard, .int .i64 t13.Bits], Box b12 [.int .i64 t9.Kind, .int .i64 t9.Rights, .int .i64 t9.Obj, .int .i64 t9.Badge, .int .i64 t9.Guard, .int .i64 t9.Bits], Box b8 [.int .i64 t5.Kind, .int .i64 t5.Rights, .int .i64 t5.Obj, .int .i64 t5.Badge, .int .i64 t5.Guard, .int .i64 t5.Bits], F]
            refine S.to (ρ' := [(12, .bool (t65 == t67))]) ⟨rfl, trivial⟩ ?_
            cases h
            refine S.b8 ?_
            refine S.b8 ?_
            refine S.b8 ?_
            refine S.b8 ?_
            refine S.b8 ?_
            refine S.b8 ?_
            refine S.b8 ?_
            refine S.b8 ?_
            refine S.b8 ?_
            refine S.to ?_ (hk1 () trivial)
            exact ⟨rfl, trivial⟩
          · replace h := cond_f b64 h
            refine S.draw (T := [tS 13 (.bool t3), tS 6 (bp b1 0), tS 2 (.int .i64 a2), tS 7 (bp b2 0), tR (Box b2 [.int .i64 a1.Kind, .int .i64 a1.Rights, .int .i64 a1.Obj, .int .i64 a1.Badge, .int .i64 a1.Guard, .int .i64 a1.Bits]), tR (Box b1 [.int .i64 a0.Kind, .int .i64 a0.Rights, .int .i64 a0.Obj, .int .i64 a0.Badge, .int .i64 a0.Guard, .int .i64 a0.Bits]), tR (Box b28 [.int .i64 t25.Kind, .int .i64 t25.Rights, .int .i64 t25.Obj, .int .i64 t25.Badge, .int .i64 t25.Guard, .int .i64 t25.Bits]), tR (Box b24 [.int .i64 t21.Kind, .int .i64 t21.Rights, .int .i64 t21.Obj, .int .i64 t21.Badge, .int .i64 t21.Guard, .int .i64 t21.Bits]), tR (Box b20 [.int .i64 t17.Kind, .int .i64 t17.Rights, .int .i64 t17.Obj, .int .i64 t17.Badge, .int .i64 t17.Guard, .int .i64 t17.Bits]), tR (Box b16 [.int .i64 t13.Kind, .int .i64 t13.Rights, .int .i64 t13.Obj, .int .i64 t13.Badge, .int .i64 t13.Guard, .int .i64 t13.Bits]), tR (Box b12 [.int .i64 t9.Kind, .int .i64 t9.Rights, .int .i64 t9.Obj, .int .i64 t9.Badge, .int .i64 t9.Guard, .int .i64 t9.Bits]), tR (Box b8 [.int .i64 t5.Kind, .int .i64 t5.Rights, .int .i64 t5.Obj, .int .i64 t5.Badge, .int .i64 t5.Guard, .int .i64 t5.Bits]), tR (F), tS 119 (.bool t3), tS 120 (.bool t3), tS 121 (.agg #[.int .i64 a0.Kind, .int .i64 a0.Rights, .int .i64 a0.Obj, .int .i64 a0.Badge, .int .i64 a0.Guard, .int .i64 a0.Bits]), tS 122 (.int .i64 a2), tS 123 (.bool t60), tS 124 (.agg #[.int .i64 a0.Kind, .int .i64 a0.Rights, .int .i64 a0.Obj, .int .i64 a0.Badge, .int .i64 a0.Guard, .int .i64 a0.Bits]), tS 125 (.int .i64 a2), tS 126 (.bool t62), tS 127 (.bool (t60 == t62)), tS 128 (.bool (t60 == t62)), tS 129 (.bool (t60 == t62)), tS 130 (undef), tS 131 (undef), tS 132 (undef), tS 133 (undef), tS 134 (undef), tS 135 (undef), tS 136 (undef), tS 137 (.bool false), tS 12 (.bool false)]) (D := [⟨[0], [], [13]⟩, ⟨[13], [], [14]⟩, ⟨[1, 14, 5], [], [15]⟩, ⟨[2, 14], [], [16]⟩, ⟨[14, 15, 16], [], [17]⟩, ⟨[1, 14, 5], [], [18]⟩, ⟨[2, 14], [], [19]⟩, ⟨[14, 18, 19], [], [20]⟩, ⟨[14, 17, 20], [], [21]⟩, ⟨[14, 21], [], [22]⟩, ⟨[22], [], [23]⟩, ⟨[23], [], [24]⟩, ⟨[23], [], [25]⟩, ⟨[23], [], [26]⟩, ⟨[23], [], [27]⟩, ⟨[23], [], [28]⟩, ⟨[23], [], [29]⟩, ⟨[23], [], [30]⟩, ⟨[23, 30], [], [31]⟩, ⟨[31], [], [32]⟩]) (ini := [0, 1, 2, 3, 4, 5, 6, 7, 8, 9, 10, 11, 12]) (fin := [32, 4, 5, 6, 7, 8, 9, 10, 11, 12]) (bf := [[], [0], [0, 1], [0, 1], [0, 1, 2, 3], [0, 1], [0, 1], [0, 1, 2, 3, 4, 5, 6], [0, 1, 2, 3, 4, 5, 6, 7], [0, 1, 2, 3, 4, 5, 6, 7, 8], [0, 1, 2, 3, 4, 5, 6, 7, 8, 9], [0, 1, 2, 3, 4, 5, 6, 7, 8, 9, 10], [0, 1, 2, 3, 4, 5, 6, 7, 8, 9, 10], [0, 1, 2, 3, 4, 5, 6, 7, 8, 9, 10, 11, 12], [0, 1, 2, 3, 4, 5, 6, 7, 8, 9, 10], [0, 1, 2, 3, 4, 5, 6, 7, 8, 9, 10], [0, 1, 2, 3, 4, 5, 6, 7, 8, 9, 10, 11, 12, 13, 14, 15], [0, 1, 2, 3, 4, 5, 6, 7, 8, 9, 10, 11, 12, 13, 14, 15, 16], [0, 1, 2, 3, 4, 5, 6, 7, 8, 9, 10, 11, 12, 13, 14, 15, 16, 17], [0, 1, 2, 3, 4, 5, 6, 7, 8, 9, 10, 11, 12, 13, 14, 15, 16, 17, 18]]) (by kernel_rfl) (by kernel_rfl) (fun x w h1 h2 => (.cons () (.cons () (.cons () (.cons () (.cons () (.cons () (.cons () (.cons () (.cons () (.cons () (.cons () (.cons () (.cons () (.nil ⟨EnvAll.of h1 ⟨rfl, rfl, rfl, rfl, trivial⟩, h2⟩))))))))))))))) ⟨?_, ?_, ?_, ?_, ?_, ?_, ?_, ?_, ?_, ?_, ?_, ?_, ?_, ?_, ?_, ?_, ?_, ?_, ?_, ?_, trivial⟩ ?_
            · rintro Fr _
              refine SO.v rfl (opv_move rfl) ?_
              exact SO.nilZ fun a w h1 h2 h3 h4 h5 => PZ.of h1 h3 h5 (.cons () (.cons () (.nil ⟨EnvAll.of h2 ⟨rfl, rfl, trivial⟩, h4⟩)))
            · rintro Fr _
              refine SO.v rfl (opv_move rfl) ?_
              exact SO.nilZ fun a w h1 h2 h3 h4 h5 => PZ.of h1 h3 h5 (.cons () (.cons () (.nil ⟨EnvAll.of h2 ⟨rfl, rfl, trivial⟩, h4⟩)))
            · rintro Fr _ _ _
              refine SO.takeT rfl rfl rfl b59 ?_
              refine SO.loadN rfl Try.isAgg53 Try.sizeOf53 rfl rfl rfl ?_
              exact SO.nilZ fun a w h1 h2 h3 h4 h5 => PZ.of h1 h3 h5 (.cons () (.cons () (.cons () (.cons () (.nil ⟨EnvAll.of h2 ⟨rfl, rfl, rfl, trivial⟩, h4⟩)))))
            · rintro Fr _ _
              refine SO.takeT rfl rfl rfl b59 ?_
              refine SO.v rfl (opv_move rfl) ?_
              exact SO.nilZ fun a w h1 h2 h3 h4 h5 => PZ.of h1 h3 h5 (.cons () (.cons () (.cons () (.nil ⟨EnvAll.of h2 ⟨rfl, rfl, rfl, trivial⟩, h4⟩))))
            · rintro Fr _ _ _
              refine SO.takeT rfl rfl rfl b59 ?_
              refine SO.call (pre := []) rfl Try.call55 rfl rfl rfl (rights_Has.ct _ _ _ ht61) trivial ?_
              rintro _ _ ⟨rfl, rfl⟩
              exact SO.nilZ fun a w h1 h2 h3 h4 h5 => PZ.of h1 h3 h5 (.cons () (.cons () (.cons () (.cons () (.nil ⟨EnvAll.of h2 ⟨rfl, rfl, rfl, rfl, trivial⟩, h4⟩)))))
            · rintro Fr _ _ _
              refine SO.takeT rfl rfl rfl b59 ?_
              refine SO.loadN rfl Try.isAgg53 Try.sizeOf53 rfl rfl rfl ?_
              exact SO.nilZ fun a w h1 h2 h3 h4 h5 => PZ.of h1 h3 h5 (.cons () (.cons () (.cons () (.cons () (.nil ⟨EnvAll.of h2 ⟨rfl, rfl, rfl, trivial⟩, h4⟩)))))
            · rintro Fr _ _
              refine SO.takeT rfl rfl rfl b59 ?_
              refine SO.v rfl (opv_move rfl) ?_
              exact SO.nilZ fun a w h1 h2 h3 h4 h5 => PZ.of h1 h3 h5 (.cons () (.cons () (.cons () (.nil ⟨EnvAll.of h2 ⟨rfl, rfl, rfl, trivial⟩, h4⟩))))
            · rintro Fr _ _ _
              refine SO.takeT rfl rfl rfl b59 ?_
              refine SO.call (pre := []) rfl Try.call56 rfl rfl rfl (ref01_Has.ct _ _ _ _ ht63) trivial ?_
              rintro _ _ ⟨rfl, rfl⟩
              exact SO.nilZ fun a w h1 h2 h3 h4 h5 => PZ.of h1 h3 h5 (.cons () (.cons () (.cons () (.cons () (.nil ⟨EnvAll.of h2 ⟨rfl, rfl, rfl, rfl, trivial⟩, h4⟩)))))
            · rintro Fr _ _ _
              refine SO.takeT rfl rfl rfl b59 ?_
              refine SO.v rfl (opv_eqlB Try.underlying4 rfl rfl) ?_
              exact SO.nilZ fun a w h1 h2 h3 h4 h5 => PZ.of h1 h3 h5 (.cons () (.cons () (.cons () (.cons () (.nil ⟨EnvAll.of h2 ⟨rfl, rfl, rfl, rfl, trivial⟩, h4⟩)))))
            · rintro Fr _ _
              refine SO.v rfl (opv_pick_t' b59 rfl rfl) ?_
              exact SO.nilZ fun a w h1 h2 h3 h4 h5 => PZ.of h1 h3 h5 (.cons () (.cons () (.cons () (.nil ⟨EnvAll.of h2 ⟨rfl, rfl, rfl, trivial⟩, h4⟩))))
            · rintro Fr _
              refine SO.v rfl (opv_move rfl) ?_
              exact SO.nilZ fun a w h1 h2 h3 h4 h5 => PZ.of h1 h3 h5 (.cons () (.cons () (.nil ⟨EnvAll.of h2 ⟨rfl, rfl, trivial⟩, h4⟩)))
            · rintro Fr _
              refine SO.passF rfl rfl rfl b64 rfl rfl ?_
              exact SO.nilZ fun a w h1 h2 h3 h4 h5 => PZ.of h1 h3 h5 (.cons () (.cons () (.nil ⟨EnvAll.of h2 ⟨rfl, rfl, trivial⟩, h4⟩)))
            · rintro Fr _
              refine SO.passF rfl rfl rfl b64 rfl rfl ?_
              exact SO.nilZ fun a w h1 h2 h3 h4 h5 => PZ.of h1 h3 h5 (.cons () (.cons () (.nil ⟨EnvAll.of h2 ⟨rfl, rfl, trivial⟩, h4⟩)))
            · rintro Fr _
              refine SO.passF rfl rfl rfl b64 rfl rfl ?_
              exact SO.nilZ fun a w h1 h2 h3 h4 h5 => PZ.of h1 h3 h5 (.cons () (.cons () (.nil ⟨EnvAll.of h2 ⟨rfl, rfl, trivial⟩, h4⟩)))
            · rintro Fr _
              refine SO.passF rfl rfl rfl b64 rfl rfl ?_
              exact SO.nilZ fun a w h1 h2 h3 h4 h5 => PZ.of h1 h3 h5 (.cons () (.cons () (.nil ⟨EnvAll.of h2 ⟨rfl, rfl, trivial⟩, h4⟩)))
            · rintro Fr _
              refine SO.passF rfl rfl rfl b64 rfl rfl ?_
              exact SO.nilZ fun a w h1 h2 h3 h4 h5 => PZ.of h1 h3 h5 (.cons () (.cons () (.nil ⟨EnvAll.of h2 ⟨rfl, rfl, trivial⟩, h4⟩)))
            · rintro Fr _
              refine SO.passF rfl rfl rfl b64 rfl rfl ?_
              exact SO.nilZ fun a w h1 h2 h3 h4 h5 => PZ.of h1 h3 h5 (.cons () (.cons () (.nil ⟨EnvAll.of h2 ⟨rfl, rfl, trivial⟩, h4⟩)))
            · rintro Fr _
              refine SO.passF rfl rfl rfl b64 rfl rfl ?_
              exact SO.nilZ fun a w h1 h2 h3 h4 h5 => PZ.of h1 h3 h5 (.cons () (.cons () (.nil ⟨EnvAll.of h2 ⟨rfl, rfl, trivial⟩, h4⟩)))
            · rintro Fr _ _
              refine SO.v rfl (opv_pick_f' b64 rfl rfl) ?_
              exact SO.nilZ fun a w h1 h2 h3 h4 h5 => PZ.of h1 h3 h5 (.cons () (.cons () (.cons () (.nil ⟨EnvAll.of h2 ⟨rfl, rfl, rfl, trivial⟩, h4⟩))))
            · rintro Fr _
              refine SO.v rfl (opv_assign rfl) ?_
              exact SO.nilZ fun a w h1 h2 h3 h4 h5 => PZ.of h1 h3 h5 (.cons () (.cons () (.nil ⟨EnvAll.of h2 ⟨rfl, rfl, trivial⟩, h4⟩)))
            rintro _ _ _ _ _ _ _ _ _ _
            show S _ _ _ _ _ _ _ [Box b2 [.int .i64 a1.Kind, .int .i64 a1.Rights, .int .i64 a1.Obj, .int .i64 a1.Badge, .int .i64 a1.Guard, .int .i64 a1.Bits], Box b1 [.int .i64 a0.Kind, .int .i64 a0.Rights, .int .i64 a0.Obj, .int .i64 a0.Badge, .int .i64 a0.Guard, .int .i64 a0.Bits], Box b28 [.int .i64 t25.Kind, .int .i64 t25.Rights, .int .i64 t25.Obj, .int .i64 t25.Badge, .int .i64 t25.Guard, .int .i64 t25.Bits], Box b24 [.int .i64 t21.Kind, .int .i64 t21.Rights, .int .i64 t21.Obj, .int .i64 t21.Badge, .int .i64 t21.Guard, .int .i64 t21.Bits], Box b20 [.int .i64 t17.Kind, .int .i64 t17.Rights, .int .i64 t17.Obj, .int .i64 t17.Badge, .int .i64 t17.Guard, .int .i64 t17.Bits], Box b16 [.int .i64 t13.Kind, .int .i64 t13.Rights, .int .i64 t13.Obj, .int .i64 t13.Badge, .int .i64 t13.Guard, .int .i64 t13.Bits], Box b12 [.int .i64 t9.Kind, .int .i64 t9.Rights, .int .i64 t9.Obj, .int .i64 t9.Badge, .int .i64 t9.Guard, .int .i64 t9.Bits], Box b8 [.int .i64 t5.Kind, .int .i64 t5.Rights, .int .i64 t5.Obj, .int .i64 t5.Badge, .int .i64 t5.Guard, .int .i64 t5.Bits], F]
            refine S.to (ρ' := [(12, .bool false)]) ⟨rfl, trivial⟩ ?_
            cases h
            refine S.b8 ?_
            refine S.b8 ?_
            refine S.b8 ?_
            refine S.b8 ?_
            refine S.b8 ?_
            refine S.b8 ?_
            refine S.b8 ?_
            refine S.b8 ?_
            refine S.b8 ?_
            refine S.to ?_ (hk1 () trivial)
            exact ⟨rfl, trivial⟩
        · replace h := cond_f b59 h
          refine S.draw (T := [tS 13 (.bool t3), tS 6 (bp b1 0), tS 2 (.int .i64 a2), tS 7 (bp b2 0), tR (Box b2 [.int .i64 a1.Kind, .int .i64 a1.Rights, .int .i64 a1.Obj, .int .i64 a1.Badge, .int .i64 a1.Guard, .int .i64 a1.Bits]), tR (Box b1 [.int .i64 a0.Kind, .int .i64 a0.Rights, .int .i64 a0.Obj, .int .i64 a0.Badge, .int .i64 a0.Guard, .int .i64 a0.Bits]), tR (Box b28 [.int .i64 t25.Kind, .int .i64 t25.Rights, .int .i64 t25.Obj, .int .i64 t25.Badge, .int .i64 t25.Guard, .int .i64 t25.Bits]), tR (Box b24 [.int .i64 t21.Kind, .int .i64 t21.Rights, .int .i64 t21.Obj, .int .i64 t21.Badge, .int .i64 t21.Guard, .int .i64 t21.Bits]), tR (Box b20 [.int .i64 t17.Kind, .int .i64 t17.Rights, .int .i64 t17.Obj, .int .i64 t17.Badge, .int .i64 t17.Guard, .int .i64 t17.Bits]), tR (Box b16 [.int .i64 t13.Kind, .int .i64 t13.Rights, .int .i64 t13.Obj, .int .i64 t13.Badge, .int .i64 t13.Guard, .int .i64 t13.Bits]), tR (Box b12 [.int .i64 t9.Kind, .int .i64 t9.Rights, .int .i64 t9.Obj, .int .i64 t9.Badge, .int .i64 t9.Guard, .int .i64 t9.Bits]), tR (Box b8 [.int .i64 t5.Kind, .int .i64 t5.Rights, .int .i64 t5.Obj, .int .i64 t5.Badge, .int .i64 t5.Guard, .int .i64 t5.Bits]), tR (F), tS 119 (.bool t3), tS 120 (.bool t3), tS 121 (undef), tS 122 (undef), tS 123 (undef), tS 124 (undef), tS 125 (undef), tS 126 (undef), tS 127 (undef), tS 128 (.bool false), tS 129 (.bool false), tS 130 (undef), tS 131 (undef), tS 132 (undef), tS 133 (undef), tS 134 (undef), tS 135 (undef), tS 136 (undef), tS 137 (.bool false), tS 12 (.bool false)]) (D := [⟨[0], [], [13]⟩, ⟨[13], [], [14]⟩, ⟨[14], [], [15]⟩, ⟨[14], [], [16]⟩, ⟨[14], [], [17]⟩, ⟨[14], [], [18]⟩, ⟨[14], [], [19]⟩, ⟨[14], [], [20]⟩, ⟨[14], [], [21]⟩, ⟨[14, 21], [], [22]⟩, ⟨[22], [], [23]⟩, ⟨[23], [], [24]⟩, ⟨[23], [], [25]⟩, ⟨[23], [], [26]⟩, ⟨[23], [], [27]⟩, ⟨[23], [], [28]⟩, ⟨[23], [], [29]⟩, ⟨[23], [], [30]⟩, ⟨[23, 30], [], [31]⟩, ⟨[31], [], [32]⟩]) (ini := [0, 1, 2, 3, 4, 5, 6, 7, 8, 9, 10, 11, 12]) (fin := [32, 4, 5, 6, 7, 8, 9, 10, 11, 12]) (bf := [[], [0], [0, 1], [0, 1], [0, 1, 2, 3], [0, 1], [0, 1], [0, 1, 2, 3, 4, 5, 6], [0, 1, 2, 3, 4, 5, 6, 7], [0, 1, 2, 3, 4, 5, 6, 7, 8], [0, 1, 2, 3, 4, 5, 6, 7, 8, 9], [0, 1, 2, 3, 4, 5, 6, 7, 8, 9, 10], [0, 1, 2, 3, 4, 5, 6, 7, 8, 9, 10], [0, 1, 2, 3, 4, 5, 6, 7, 8, 9, 10, 11, 12], [0, 1, 2, 3, 4, 5, 6, 7, 8, 9, 10], [0, 1, 2, 3, 4, 5, 6, 7, 8, 9, 10], [0, 1, 2, 3, 4, 5, 6, 7, 8, 9, 10, 11, 12, 13, 14, 15], [0, 1, 2, 3, 4, 5, 6, 7, 8, 9, 10, 11, 12, 13, 14, 15, 16], [0, 1, 2, 3, 4, 5, 6, 7, 8, 9, 10, 11, 12, 13, 14, 15, 16, 17], [0, 1, 2, 3, 4, 5, 6, 7, 8, 9, 10, 11, 12, 13, 14, 15, 16, 17, 18]]) (by kernel_rfl) (by kernel_rfl) (fun x w h1 h2 => (.cons () (.cons () (.cons () (.cons () (.cons () (.cons () (.cons () (.cons () (.cons () (.cons () (.cons () (.cons () (.cons () (.nil ⟨EnvAll.of h1 ⟨rfl, rfl, rfl, rfl, trivial⟩, h2⟩))))))))))))))) ⟨?_, ?_, ?_, ?_, ?_, ?_, ?_, ?_, ?_, ?_, ?_, ?_, ?_, ?_, ?_, ?_, ?_, ?_, ?_, ?_, trivial⟩ ?_
          · rintro Fr _
            refine SO.v rfl (opv_move rfl) ?_
            exact SO.nilZ fun a w h1 h2 h3 h4 h5 => PZ.of h1 h3 h5 (.cons () (.cons () (.nil ⟨EnvAll.of h2 ⟨rfl, rfl, trivial⟩, h4⟩)))
          · rintro Fr _
            refine SO.v rfl (opv_move rfl) ?_
            exact SO.nilZ fun a w h1 h2 h3 h4 h5 => PZ.of h1 h3 h5 (.cons () (.cons () (.nil ⟨EnvAll.of h2 ⟨rfl, rfl, trivial⟩, h4⟩)))
          · rintro Fr _
            refine SO.passF rfl rfl rfl b59 rfl rfl ?_
            exact SO.nilZ fun a w h1 h2 h3 h4 h5 => PZ.of h1 h3 h5 (.cons () (.cons () (.nil ⟨EnvAll.of h2 ⟨rfl, rfl, trivial⟩, h4⟩)))
          · rintro Fr _
            refine SO.passF rfl rfl rfl b59 rfl rfl ?_
            exact SO.nilZ fun a w h1 h2 h3 h4 h5 => PZ.of h1 h3 h5 (.cons () (.cons () (.nil ⟨EnvAll.of h2 ⟨rfl, rfl, trivial⟩, h4⟩)))
          · rintro Fr _
            refine SO.passF rfl rfl rfl b59 rfl rfl ?_
            exact SO.nilZ fun a w h1 h2 h3 h4 h5 => PZ.of h1 h3 h5 (.cons () (.cons () (.nil ⟨EnvAll.of h2 ⟨rfl, rfl, trivial⟩, h4⟩)))
          · rintro Fr _
            refine SO.passF rfl rfl rfl b59 rfl rfl ?_
            exact SO.nilZ fun a w h1 h2 h3 h4 h5 => PZ.of h1 h3 h5 (.cons () (.cons () (.nil ⟨EnvAll.of h2 ⟨rfl, rfl, trivial⟩, h4⟩)))
          · rintro Fr _
            refine SO.passF rfl rfl rfl b59 rfl rfl ?_
            exact SO.nilZ fun a w h1 h2 h3 h4 h5 => PZ.of h1 h3 h5 (.cons () (.cons () (.nil ⟨EnvAll.of h2 ⟨rfl, rfl, trivial⟩, h4⟩)))
          · rintro Fr _
            refine SO.passF rfl rfl rfl b59 rfl rfl ?_
            exact SO.nilZ fun a w h1 h2 h3 h4 h5 => PZ.of h1 h3 h5 (.cons () (.cons () (.nil ⟨EnvAll.of h2 ⟨rfl, rfl, trivial⟩, h4⟩)))
          · rintro Fr _
            refine SO.passF rfl rfl rfl b59 rfl rfl ?_
            exact SO.nilZ fun a w h1 h2 h3 h4 h5 => PZ.of h1 h3 h5 (.cons () (.cons () (.nil ⟨EnvAll.of h2 ⟨rfl, rfl, trivial⟩, h4⟩)))
          · rintro Fr _ _
            refine SO.v rfl (opv_pick_f' b59 rfl rfl) ?_
            exact SO.nilZ fun a w h1 h2 h3 h4 h5 => PZ.of h1 h3 h5 (.cons () (.cons () (.cons () (.nil ⟨EnvAll.of h2 ⟨rfl, rfl, rfl, trivial⟩, h4⟩))))
          · rintro Fr _
            refine SO.v rfl (opv_move rfl) ?_
            exact SO.nilZ fun a w h1 h2 h3 h4 h5 => PZ.of h1 h3 h5 (.cons () (.cons () (.nil ⟨EnvAll.of h2 ⟨rfl, rfl, trivial⟩, h4⟩)))
          · rintro Fr _
            refine SO.passF rfl rfl rfl rfl rfl rfl ?_
            exact SO.nilZ fun a w h1 h2 h3 h4 h5 => PZ.of h1 h3 h5 (.cons () (.cons () (.nil ⟨EnvAll.of h2 ⟨rfl, rfl, trivial⟩, h4⟩)))
          · rintro Fr _
            refine SO.passF rfl rfl rfl rfl rfl rfl ?_
            exact SO.nilZ fun a w h1 h2 h3 h4 h5 => PZ.of h1 h3 h5 (.cons () (.cons () (.nil ⟨EnvAll.of h2 ⟨rfl, rfl, trivial⟩, h4⟩)))
          · rintro Fr _
            refine SO.passF rfl rfl rfl rfl rfl rfl ?_
            exact SO.nilZ fun a w h1 h2 h3 h4 h5 => PZ.of h1 h3 h5 (.cons () (.cons () (.nil ⟨EnvAll.of h2 ⟨rfl, rfl, trivial⟩, h4⟩)))
          · rintro Fr _
            refine SO.passF rfl rfl rfl rfl rfl rfl ?_
            exact SO.nilZ fun a w h1 h2 h3 h4 h5 => PZ.of h1 h3 h5 (.cons () (.cons () (.nil ⟨EnvAll.of h2 ⟨rfl, rfl, trivial⟩, h4⟩)))
          · rintro Fr _
            refine SO.passF rfl rfl rfl rfl rfl rfl ?_
            exact SO.nilZ fun a w h1 h2 h3 h4 h5 => PZ.of h1 h3 h5 (.cons () (.cons () (.nil ⟨EnvAll.of h2 ⟨rfl, rfl, trivial⟩, h4⟩)))
          · rintro Fr _
            refine SO.passF rfl rfl rfl rfl rfl rfl ?_
            exact SO.nilZ fun a w h1 h2 h3 h4 h5 => PZ.of h1 h3 h5 (.cons () (.cons () (.nil ⟨EnvAll.of h2 ⟨rfl, rfl, trivial⟩, h4⟩)))
          · rintro Fr _
            refine SO.passF rfl rfl rfl rfl rfl rfl ?_
            exact SO.nilZ fun a w h1 h2 h3 h4 h5 => PZ.of h1 h3 h5 (.cons () (.cons () (.nil ⟨EnvAll.of h2 ⟨rfl, rfl, trivial⟩, h4⟩)))
          · rintro Fr _ _
            refine SO.v rfl (opv_pick_ff rfl rfl) ?_
            exact SO.nilZ fun a w h1 h2 h3 h4 h5 => PZ.of h1 h3 h5 (.cons () (.cons () (.cons () (.nil ⟨EnvAll.of h2 ⟨rfl, rfl, rfl, trivial⟩, h4⟩))))
          · rintro Fr _
            refine SO.v rfl (opv_assign rfl) ?_
            exact SO.nilZ fun a w h1 h2 h3 h4 h5 => PZ.of h1 h3 h5 (.cons () (.cons () (.nil ⟨EnvAll.of h2 ⟨rfl, rfl, trivial⟩, h4⟩)))
          rintro _ _ _ _ _ _ _ _ _ _
          show S _ _ _ _ _ _ _ [Box b2 [.int .i64 a1.Kind, .int .i64 a1.Rights, .int .i64 a1.Obj, .int .i64 a1.Badge, .int .i64 a1.Guard, .int .i64 a1.Bits], Box b1 [.int .i64 a0.Kind, .int .i64 a0.Rights, .int .i64 a0.Obj, .int .i64 a0.Badge, .int .i64 a0.Guard, .int .i64 a0.Bits], Box b28 [.int .i64 t25.Kind, .int .i64 t25.Rights, .int .i64 t25.Obj, .int .i64 t25.Badge, .int .i64 t25.Guard, .int .i64 t25.Bits], Box b24 [.int .i64 t21.Kind, .int .i64 t21.Rights, .int .i64 t21.Obj, .int .i64 t21.Badge, .int .i64 t21.Guard, .int .i64 t21.Bits], Box b20 [.int .i64 t17.Kind, .int .i64 t17.Rights, .int .i64 t17.Obj, .int .i64 t17.Badge, .int .i64 t17.Guard, .int .i64 t17.Bits], Box b16 [.int .i64 t13.Kind, .int .i64 t13.Rights, .int .i64 t13.Obj, .int .i64 t13.Badge, .int .i64 t13.Guard, .int .i64 t13.Bits], Box b12 [.int .i64 t9.Kind, .int .i64 t9.Rights, .int .i64 t9.Obj, .int .i64 t9.Badge, .int .i64 t9.Guard, .int .i64 t9.Bits], Box b8 [.int .i64 t5.Kind, .int .i64 t5.Rights, .int .i64 t5.Obj, .int .i64 t5.Badge, .int .i64 t5.Guard, .int .i64 t5.Bits], F]
          refine S.to (ρ' := [(12, .bool false)]) ⟨rfl, trivial⟩ ?_
          cases h
          refine S.b8 ?_
          refine S.b8 ?_
          refine S.b8 ?_
          refine S.b8 ?_
          refine S.b8 ?_
          refine S.b8 ?_
          refine S.b8 ?_
          refine S.b8 ?_
          refine S.b8 ?_
          refine S.to ?_ (hk1 () trivial)
          exact ⟨rfl, trivial⟩
      rintro _ -
      replace h := hJ1
      cases h
      refine S.drop ?_
      refine S.drop ?_
      refine S.drop ?_
      refine S.drop ?_
      refine S.drop ?_
      refine S.drop ?_
      refine S.drop ?_
      refine S.drop ?_
      exact S.ret1 Try.func15 rfl rfl (fun w hs hk => hR w _ _ ⟨rfl, rfl⟩ hs hk)
end Go.Proofs
namespace Go.Proofs
open Go.Sl Go.RowKit
/-! 68 padstone/pack.widths -/
def pack_widths.f : Option ((List Int)) :=
  some ([4, 3, 5, 16, 4, 8])
set_option maxHeartbeats 8000000 in
set_option maxRecDepth 100000 in
theorem pack_widths.ct (r0 : List Int) (h : pack_widths.f  = some r0) :
    Ct Try.prog 68 [] (fun _ => True) [] (fun u H' => ∃ v_r0, u = v_r0 ∧ H' = [Own 3 (ekI .i64) v_r0 r0]) := by
  unfold pack_widths.f at h
  refine Ct.intro (n := 2) Try.func68 rfl rfl rfl ?_
  intro R w0 F hF hR
  refine S.seq ?_
  refine S.region ?_
  refine SO.v rfl (opv_assign rfl) ?_
  refine SO.nil ?_
  refine S.seq ?_
  refine S.region ?_
  refine SO.buildSlice (K := ekI .i64) (xs := [4, 3, 5, 16, 4, 8]) (cs := [.int .i64 4, .int .i64 3, .int .i64 5, .int .i64 16, .int .i64 4, .int .i64 8]) rfl Try.underlying73 Try.sizeOf3 Try.zeroValue3 rfl rfl rfl (by kernel_rfl) rfl rfl rfl (fun v1 hr2 => ?_)
  refine SO.v rfl (opv_assign rfl) ?_
  refine SO.nil ?_
  cases h
  refine S.b1 ?_
  refine S.b1 ?_
  exact S.ret1 Try.func68 rfl rfl (fun w hs hk => hR w _ _ ⟨v1, rfl, rfl⟩ hs hk)
end Go.Proofs
namespace Go.Proofs
open Go.Sl Go.RowKit
/-! 32 padstone/pack.Put -/
def pack_Put.l1 (a0 : api_Cap) (t7 : List Int) : Nat → (Int × Int × Int) → Option (Int)
  | 0, _ => none
  | k + 1, (x28_1, x4_1, x5_1) => bif decide (x28_1 < (t7.length : Int)) then ((at_ t7 x28_1).bind fun x12 => (at_ ([a0.Kind, a0.Rights, a0.Obj, a0.Badge, a0.Bits, a0.Guard]) x28_1).bind fun x14 => (chk (decide (0 ≤ x5_1))).bind fun _ => pack_Put.l1 a0 t7 k (w64 (x28_1 + 1), bor .u64 x4_1 (bshl .u64 (wu64 x14) x5_1), w64 (x5_1 + x12))) else (some x4_1)
def pack_Put.f (k : Nat) (a0 : api_Cap) : Option (Int × (Option Int)) :=
  (pack_May.f a0).bind fun t2 => bif !t2 then (some (0, (some 1))) else ((pack_widths.f ).bind fun t7 => (pack_Put.l1 a0 t7 k (0, 0, 0)).bind fun j4_e1 => some (j4_e1, none))
set_option maxHeartbeats 8000000 in
set_option maxRecDepth 100000 in
theorem pack_Put.ct (k : Nat) (a0 : api_Cap) (r0 : Int) (r1 : Option Int) (h : pack_Put.f k a0 = some (r0, r1)) :
    Ct Try.prog 32 [.agg #[.int .i64 a0.Kind, .int .i64 a0.Rights, .int .i64 a0.Obj, .int .i64 a0.Badge, .int .i64 a0.Guard, .int .i64 a0.Bits]] (fun _ => True) [] (fun u H' => u = .tuple #[.int .u64 r0, errV 48 r1] ∧ H' = []) := by
  unfold pack_Put.f at h
  refine Ct.intro (n := 47) Try.func32 rfl rfl rfl ?_
  intro R w0 F hF hR
  refine S.seq ?_
  refine S.region ?_
  refine SO.box rfl rfl rfl (fun b1 => ?_)
  refine SO.v rfl (opv_assign rfl) ?_
  refine SO.v rfl (opv_assign rfl) ?_
  refine SO.nil ?_
  refine S.seq ?_
  refine S.seq ?_
  refine S.region ?_
  refine SO.loadN rfl Try.isAgg53 Try.sizeOf53 rfl rfl rfl ?_
  obtain ⟨t2, ht3, h⟩ := opt_bind h
  refine SO.call (pre := []) rfl Try.call33 rfl rfl rfl (pack_May.ct _ _ ht3) trivial ?_
  rintro _ _ ⟨rfl, rfl⟩
  refine SO.v rfl (opv_not rfl) ?_
  refine SO.nil ?_
  rcases bool_or (!t2) with b4 | b4
  · replace h := cond_t b4 h
    refine S.condT rfl b4 ?_
    refine S.seq ?_
    refine S.region ?_
    refine SO.v rfl (opv_iface Try.underlying48 rfl rfl) ?_
    refine SO.v rfl (opv_assign rfl) ?_
    refine SO.v rfl (opv_assign rfl) ?_
    refine SO.nil ?_
    cases h
    refine S.drop ?_
    exact S.ret2 Try.func32 rfl rfl rfl (fun w hs hk => hR w _ _ ⟨rfl, rfl⟩ hs hk)
  · replace h := cond_f b4 h
    refine S.condF rfl b4 ?_
    refine S.skip ?_
    refine S.seq ?_
    refine S.region ?_
    refine SO.v rfl (opv_assign rfl) ?_
    refine SO.nil ?_
    refine S.seq ?_
    refine S.region ?_
    refine SO.v rfl (opv_assign rfl) ?_
    refine SO.nil ?_
    refine S.seq ?_
    refine S.region ?_
    refine SO.v rfl (opv_fieldAddr Try.underlying53 rfl Try.sizeOf3 rfl rfl) ?_
    refine SO.load1 rfl Try.isAgg3 rfl rfl ?_
    refine SO.v rfl (opv_fieldAddr Try.underlying53 rfl Try.sizeOf3 rfl rfl) ?_
    refine SO.load1 rfl Try.isAgg3 rfl rfl ?_
    refine SO.v rfl (opv_fieldAddr Try.underlying53 rfl Try.sizeOf3 rfl rfl) ?_
    refine SO.load1 rfl Try.isAgg3 rfl rfl ?_
    refine SO.v rfl (opv_fieldAddr Try.underlying53 rfl Try.sizeOf3 rfl rfl) ?_
    refine SO.load1 rfl Try.isAgg3 rfl rfl ?_
    refine SO.v rfl (opv_fieldAddr Try.underlying53 rfl Try.sizeOf3 rfl rfl) ?_
    refine SO.load1 rfl Try.isAgg3 rfl rfl ?_
    refine SO.v rfl (opv_fieldAddr Try.underlying53 rfl Try.sizeOf3 rfl rfl) ?_
    refine SO.load1 rfl Try.isAgg3 rfl rfl ?_
    refine SO.buildSlice (K := ekI .i64) (xs := [a0.Kind, a0.Rights, a0.Obj, a0.Badge, a0.Bits, a0.Guard]) (cs := [.int .i64 a0.Kind, .int .i64 a0.Rights, .int .i64 a0.Obj, .int .i64 a0.Badge, .int .i64 a0.Bits, .int .i64 a0.Guard]) rfl Try.underlying73 Try.sizeOf3 Try.zeroValue3 rfl rfl rfl (by kernel_rfl) rfl rfl rfl (fun v5 hr6 => ?_)
    refine SO.v rfl (opv_assign rfl) ?_
    refine SO.nil ?_
    refine S.to (ρ' := [(2, .int .u64 0), (3, errV 48 none), (4, .int .u64 0), (5, .int .i64 0), (6, v5)]) ⟨rfl, rfl, rfl, rfl, rfl, trivial⟩ ?_
    refine S.seq ?_
    refine S.seq ?_
    refine S.region ?_
    obtain ⟨t7, ht8, h⟩ := opt_bind h
    refine SO.call (pre := []) rfl Try.call68 rfl rfl rfl (pack_widths.ct _ ht8) trivial ?_
    rintro v9 _ ⟨_, rfl, rfl⟩
    refine SO.rd fun hr10 => ?_
    refine SO.v rfl (opv_lenR rfl Try.underlying73 hr10 rfl) ?_
    refine SO.v rfl (opv_move rfl) ?_
    refine SO.nil ?_
    obtain ⟨j4_e1, hl1, h⟩ := opt_bind h
    refine S.b3 ?_
    refine S.b3 ?_
    refine S.b3 ?_
    refine S.b3 ?_
    refine S.to (ρ' := [(28, .int .i64 0), (27, .int .i64 (t7.length : Int)), (26, v9), (2, .int .u64 0), (3, errV 48 none), (4, .int .u64 0), (5, .int .i64 0), (6, v5)]) ⟨rfl, rfl, rfl, rfl, rfl, rfl, rfl, rfl, trivial⟩ ?_
    refine S.forloop (X := (Int × Int × Int) × Unit) (O := Int) (fun m x => pack_Put.l1 a0 t7 m x.1) (fun x => match x with | ((x28_1, x4_1, x5_1), _) => [(28, .int .i64 x28_1), (27, .int .i64 (t7.length : Int)), (26, v9), (2, .int .u64 0), (3, errV 48 none), (4, .int .u64 x4_1), (5, .int .i64 x5_1), (6, v5)]) (fun x => match x with | ((x28_1, x4_1, x5_1), _) => [Own 3 (ekI .i64) v9 t7, Own 3 (ekI .i64) v5 ([a0.Kind, a0.Rights, a0.Obj, a0.Badge, a0.Bits, a0.Guard]), Box b1 [.int .i64 a0.Kind, .int .i64 a0.Rights, .int .i64 a0.Obj, .int .i64 a0.Badge, .int .i64 a0.Guard, .int .i64 a0.Bits], F]) (fun Sk => (fun j4_e1 => ∀ _ : Unit, Sk [(2, .int .u64 0), (3, errV 48 none), (4, .int .u64 j4_e1)] [Own 3 (ekI .i64) v9 t7, Own 3 (ekI .i64) v5 ([a0.Kind, a0.Rights, a0.Obj, a0.Badge, a0.Bits, a0.Guard]), Box b1 [.int .i64 a0.Kind, .int .i64 a0.Rights, .int .i64 a0.Obj, .int .i64 a0.Badge, .int .i64 a0.Guard, .int .i64 a0.Bits], F])) (fun _ => rfl) ?_ (m := k) (x := ((0, 0, 0), ())) hl1 ?_
    · clear h hl1
      intro k x o_1 h hK1 ih1
      obtain ⟨⟨x28_1, x4_1, x5_1⟩, _⟩ := x
      replace h : pack_Put.l1 a0 t7 (k + 1) (x28_1, x4_1, x5_1) = some o_1 := h
      rw [pack_Put.l1] at h
      refine S.seq ?_
      refine S.region ?_
      refine SO.v rfl (opv_lss rfl rfl) ?_
      refine SO.nil ?_
      refine S.seq ?_
      rcases bool_or (decide (x28_1 < (t7.length : Int))) with b11 | b11
      · replace h := cond_t b11 h
        refine S.condT rfl b11 ?_
        refine S.skip ?_
        refine S.seq ?_
        refine S.block ?_
        refine S.seq ?_
        refine S.region ?_
        refine SO.v rfl (opv_move rfl) ?_
        obtain ⟨x12, hx13, h⟩ := opt_bind h
        refine SO.v rfl (opv_idx Try.underlying73 Try.sizeOf3 hr10 rfl rfl hx13) ?_
        refine SO.loadI1 (j := 0) rfl Try.isAgg3 (Rd.head hr10) hx13 rfl rfl rfl rfl ?_
        refine SO.v rfl (opv_assign rfl) ?_
        refine SO.v rfl (opv_assign rfl) ?_
        refine SO.nil ?_
        refine S.seq ?_
        refine S.region ?_
        refine SO.v rfl (opv_move rfl) ?_
        refine SO.v rfl (opv_move rfl) ?_
        refine SO.v rfl (opv_move rfl) ?_
        obtain ⟨x14, hx15, h⟩ := opt_bind h
        refine SO.v rfl (opv_idx Try.underlying73 Try.sizeOf3 hr6 rfl rfl hx15) ?_
        refine SO.loadI1 (j := 0) rfl Try.isAgg3 (Rd.tail (Rd.head hr6)) hx15 rfl rfl rfl rfl ?_
        refine SO.v rfl (opv_conv Try.underlying3 Try.underlying27 rfl) ?_
        refine SO.v rfl (opv_move rfl) ?_
        obtain ⟨_, hc16, h⟩ := opt_bind h
        refine SO.v rfl (opv_shl rfl rfl (of_decide_eq_true (chk_some hc16))) ?_
        refine SO.v rfl (opv_or rfl rfl) ?_
        refine SO.v rfl (opv_assign rfl) ?_
        refine SO.nil ?_
        refine S.region ?_
        refine SO.v rfl (opv_move rfl) ?_
        refine SO.v rfl (opv_move rfl) ?_
        refine SO.v rfl (opv_add rfl rfl) ?_
        refine SO.v rfl (opv_assign rfl) ?_
        refine SO.nil ?_
        refine S.inBlock ?_
        refine S.region ?_
        refine SO.v rfl (opv_add rfl rfl) ?_
        refine SO.v rfl (opv_move rfl) ?_
        refine SO.nil ?_
        refine S.b3 ?_
        refine S.b3 ?_
        refine S.b3 ?_
        refine S.b3 ?_
        refine S.to ?_ (ih1 ((w64 (x28_1 + 1), bor .u64 x4_1 (bshl .u64 (wu64 x14) x5_1), w64 (x5_1 + x12)), ()) h)
        exact ⟨rfl, rfl, rfl, rfl, rfl, rfl, rfl, rfl, trivial⟩
      · replace h := cond_f b11 h
        refine S.condF rfl b11 ?_
        refine S.exit rfl ?_
        cases h
        refine S.b3 ?_
        refine S.b3 ?_
        refine S.b3 ?_
        refine S.b3 ?_
        refine S.to ?_ (hK1 ())
        exact ⟨rfl, rfl, rfl, trivial⟩
    rintro _
    refine S.seq ?_
    refine S.region ?_
    refine SO.v rfl (opv_move rfl) ?_
    refine SO.v rfl (opv_assign rfl) ?_
    refine SO.v rfl (opv_assign rfl) ?_
    refine SO.nil ?_
    cases h
    refine S.drop ?_
    refine S.drop ?_
    refine S.drop ?_
    exact S.ret2 Try.func32 rfl rfl rfl (fun w hs hk => hR w _ _ ⟨rfl, rfl⟩ hs hk)
end Go.Proofs
namespace Go.Proofs
open Go.Sl Go.RowKit
/-! 35 padstone/pack.Get -/
def pack_Get.l1 (t2 : List Int) : Nat → (Int × Int × (List Int)) → Option (((List Int) × Int))
  | 0, _ => none
  | k + 1, (x12_1, x5_1, x4_1) => bif decide (x12_1 < (t2.length : Int)) then ((at_ t2 x12_1).bind fun x8 => (chk (decide (0 ≤ x8))).bind fun _ => (app x4_1 ([w64 (band .u64 x5_1 (wu64 ((bshl .u64 1 x8) - 1)))])).bind fun zs13 => (chk (decide (0 ≤ x8))).bind fun _ => pack_Get.l1 t2 k (w64 (x12_1 + 1), bshr .u64 x5_1 x8, zs13)) else (some (x4_1, x5_1))
def pack_Get.f (k : Nat) (a0 : Int) : Option (api_Cap × (Option Int)) :=
  (pack_widths.f ).bind fun t2 => (pack_Get.l1 t2 k (0, a0, [])).bind fun (j4_e1, j5_e1) => (at_ j4_e1 0).bind fun x19 => (at_ j4_e1 1).bind fun x21 => (at_ j4_e1 2).bind fun x23 => (at_ j4_e1 3).bind fun x25 => (at_ j4_e1 4).bind fun x27 => (at_ j4_e1 5).bind fun x29 => (bif j5_e1 != 0 then (some true) else ((pack_May.f (⟨x19, x21, x23, x25, x29, x27⟩ : api_Cap)).bind fun t35 => some (!t35))).bind fun c33 => bif c33 then (some ((⟨0, 0, 0, 0, 0, 0⟩ : api_Cap), (some 1))) else (some ((⟨x19, x21, x23, x25, x29, x27⟩ : api_Cap), none))
set_option maxHeartbeats 8000000 in
set_option maxRecDepth 100000 in
theorem pack_Get.ct (k : Nat) (a0 : Int) (r0 : api_Cap) (r1 : Option Int) (h : pack_Get.f k a0 = some (r0, r1)) :
    Ct Try.prog 35 [.int .u64 a0] (fun _ => True) [] (fun u H' => u = .tuple #[.agg #[.int .i64 r0.Kind, .int .i64 r0.Rights, .int .i64 r0.Obj, .int .i64 r0.Badge, .int .i64 r0.Guard, .int .i64 r0.Bits], errV 48 r1] ∧ H' = []) := by
  unfold pack_Get.f at h
  refine Ct.intro (n := 58) Try.func35 rfl rfl rfl ?_
  intro R w0 F hF hR
  refine S.seq ?_
  refine S.region ?_
  refine SO.alloc rfl Try.zeroValue53 rfl (fun b1 => ?_)
  refine SO.v rfl (opv_assign rfl) ?_
  refine SO.nil ?_
  refine S.seq ?_
  refine S.region ?_
  refine SO.v rfl (opv_assign rfl) ?_
  refine SO.nil ?_
  refine S.seq ?_
  refine S.region ?_
  refine SO.v rfl (opv_move rfl) ?_
  refine SO.v rfl (opv_assign rfl) ?_
  refine SO.nil ?_
  refine S.seq ?_
  refine S.seq ?_
  refine S.region ?_
  obtain ⟨t2, ht3, h⟩ := opt_bind h
  refine SO.call (pre := []) rfl Try.call68 rfl rfl rfl (pack_widths.ct _ ht3) trivial ?_
  rintro v4 _ ⟨_, rfl, rfl⟩
  refine SO.rd fun hr5 => ?_
  refine SO.v rfl (opv_lenR rfl Try.underlying73 hr5 rfl) ?_
  refine SO.v rfl (opv_move rfl) ?_
  refine SO.nil ?_
  obtain ⟨⟨j4_e1, j5_e1⟩, hl1, h⟩ := opt_bind h
  refine S.newOwn 3 (ekI .i64) ?_
  refine S.b3 ?_
  refine S.b3 ?_
  refine S.b3 ?_
  refine S.b3 ?_
  refine S.to (ρ' := [(12, .int .i64 0), (11, .int .i64 (t2.length : Int)), (10, v4), (5, .int .u64 a0), (4, .slice none 0 0), (3, errV 48 none), (2, bp b1 0)]) ⟨rfl, rfl, rfl, rfl, rfl, rfl, rfl, trivial⟩ ?_
  refine S.forloop (X := (Int × Int × (List Int)) × Value) (O := ((List Int) × Int)) (fun m x => pack_Get.l1 t2 m x.1) (fun x => match x with | ((x12_1, x5_1, x4_1), v4_1) => [(12, .int .i64 x12_1), (11, .int .i64 (t2.length : Int)), (10, v4), (5, .int .u64 x5_1), (4, v4_1), (3, errV 48 none), (2, bp b1 0)]) (fun x => match x with | ((x12_1, x5_1, x4_1), v4_1) => [Own 3 (ekI .i64) v4_1 x4_1, Own 3 (ekI .i64) v4 t2, Box b1 [.int .i64 0, .int .i64 0, .int .i64 0, .int .i64 0, .int .i64 0, .int .i64 0], F]) (fun Sk => (fun x => match x with | (j4_e1, j5_e1) => ∀ v4_e1 : Value, Sk [(2, bp b1 0), (3, errV 48 none), (4, v4_e1), (5, .int .u64 j5_e1)] [Own 3 (ekI .i64) v4_e1 j4_e1, Own 3 (ekI .i64) v4 t2, Box b1 [.int .i64 0, .int .i64 0, .int .i64 0, .int .i64 0, .int .i64 0, .int .i64 0], F])) (fun _ => rfl) ?_ (m := k) (x := ((0, a0, []), .slice none 0 0)) hl1 ?_
  · clear h hl1
    intro k x o_1 h hK1 ih1
    obtain ⟨⟨x12_1, x5_1, x4_1⟩, v4_1⟩ := x
    replace h : pack_Get.l1 t2 (k + 1) (x12_1, x5_1, x4_1) = some o_1 := h
    rw [pack_Get.l1] at h
    refine S.rd fun hr6 => ?_
    refine S.seq ?_
    refine S.region ?_
    refine SO.v rfl (opv_lss rfl rfl) ?_
    refine SO.nil ?_
    refine S.seq ?_
    rcases bool_or (decide (x12_1 < (t2.length : Int))) with b7 | b7
    · replace h := cond_t b7 h
      refine S.condT rfl b7 ?_
      refine S.skip ?_
      refine S.seq ?_
      refine S.block ?_
      refine S.seq ?_
      refine S.region ?_
      obtain ⟨x8, hx9, h⟩ := opt_bind h
      refine SO.v rfl (opv_idx Try.underlying73 Try.sizeOf3 hr5 rfl rfl hx9) ?_
      refine SO.loadI1 (j := 0) rfl Try.isAgg3 (Rd.tail (Rd.head hr5)) hx9 rfl rfl rfl rfl ?_
      refine SO.v rfl (opv_assign rfl) ?_
      refine SO.nil ?_
      refine S.seq ?_
      refine S.region ?_
      refine SO.v rfl (opv_move rfl) ?_
      refine SO.v rfl (opv_move rfl) ?_
      refine SO.v rfl (opv_move rfl) ?_
      obtain ⟨_, hc10, h⟩ := opt_bind h
      refine SO.v rfl (opv_shl rfl rfl (of_decide_eq_true (chk_some hc10))) ?_
      refine SO.v rfl (opv_sub rfl rfl) ?_
      refine SO.v rfl (opv_and rfl rfl) ?_
      refine SO.v rfl (opv_conv Try.underlying27 Try.underlying3 rfl) ?_
      refine SO.buildSlice (K := ekI .i64) (xs := [w64 (band .u64 x5_1 (wu64 ((bshl .u64 1 x8) - 1)))]) (cs := [.int .i64 (w64 (band .u64 x5_1 (wu64 ((bshl .u64 1 x8) - 1))))]) rfl Try.underlying73 Try.sizeOf3 Try.zeroValue3 rfl rfl rfl (by kernel_rfl) rfl rfl rfl (fun v11 hr12 => ?_)
      obtain ⟨zs13, hz14, h⟩ := opt_bind h
      refine SO.b1 ?_
      refine SO.append rfl Try.underlying73 inf3 rfl rfl rfl (by decide) rfl rfl rfl (Rd.head hr12) hz14 (fun v15 => ?_)
      refine SO.rd fun hr16 => ?_
      refine SO.v rfl (opv_assign rfl) ?_
      refine SO.nil ?_
      refine S.region ?_
      refine SO.v rfl (opv_move rfl) ?_
      refine SO.v rfl (opv_move rfl) ?_
      obtain ⟨_, hc17, h⟩ := opt_bind h
      refine SO.v rfl (opv_shr rfl rfl (of_decide_eq_true (chk_some hc17))) ?_
      refine SO.v rfl (opv_assign rfl) ?_
      refine SO.nil ?_
      refine S.inBlock ?_
      refine S.region ?_
      refine SO.v rfl (opv_add rfl rfl) ?_
      refine SO.v rfl (opv_move rfl) ?_
      refine SO.nil ?_
      refine S.b1 ?_
      refine S.drop ?_
      refine S.b3 ?_
      refine S.b3 ?_
      refine S.b3 ?_
      refine S.b3 ?_
      refine S.to ?_ (ih1 ((w64 (x12_1 + 1), bshr .u64 x5_1 x8, zs13), v15) h)
      exact ⟨rfl, rfl, rfl, rfl, rfl, rfl, rfl, trivial⟩
    · replace h := cond_f b7 h
      refine S.condF rfl b7 ?_
      refine S.exit rfl ?_
      cases h
      refine S.b3 ?_
      refine S.b3 ?_
      refine S.b3 ?_
      refine S.b3 ?_
      refine S.to ?_ (hK1 v4_1)
      exact ⟨rfl, rfl, rfl, rfl, trivial⟩
  rintro v4_e1
  refine S.rd fun hr18 => ?_
  refine S.seq ?_
  obtain ⟨x19, hx20, h⟩ := opt_bind h
  obtain ⟨x21, hx22, h⟩ := opt_bind h
  obtain ⟨x23, hx24, h⟩ := opt_bind h
  obtain ⟨x25, hx26, h⟩ := opt_bind h
  obtain ⟨x27, hx28, h⟩ := opt_bind h
  obtain ⟨x29, hx30, h⟩ := opt_bind h
  refine S.draw (T := [tS 4 (v4_e1), tE [(2, bp b1 0), (3, errV 48 none), (5, .int .u64 j5_e1)], tR (Own 3 (ekI .i64) v4_e1 j4_e1), tR (Own 3 (ekI .i64) v4 t2), tR (Box b1 [.int .i64 0, .int .i64 0, .int .i64 0, .int .i64 0, .int .i64 0, .int .i64 0]), tR (F), tS 29 (v4_e1), tS 30 (idxp v4_e1 ((0 : Int).toNat * (ekI .i64).sz)), tS 31 (.int .i64 x19), tS 32 (v4_e1), tS 33 (idxp v4_e1 ((1 : Int).toNat * (ekI .i64).sz)), tS 34 (.int .i64 x21), tS 35 (v4_e1), tS 36 (idxp v4_e1 ((2 : Int).toNat * (ekI .i64).sz)), tS 37 (.int .i64 x23), tS 38 (v4_e1), tS 39 (idxp v4_e1 ((3 : Int).toNat * (ekI .i64).sz)), tS 40 (.int .i64 x25), tS 41 (v4_e1), tS 42 (idxp v4_e1 ((4 : Int).toNat * (ekI .i64).sz)), tS 43 (.int .i64 x27), tS 44 (v4_e1), tS 45 (idxp v4_e1 ((5 : Int).toNat * (ekI .i64).sz)), tS 46 (.int .i64 x29), tS 47 (.agg #[.int .i64 x19, .int .i64 x21, .int .i64 x23, .int .i64 x25, .int .i64 x29, .int .i64 x27]), ⟨Nat, [8], (fun b31 => [(8, bp b31 0)]), (fun b31 => [Box b31 [.int .i64 0, .int .i64 0, .int .i64 0, .int .i64 0, .int .i64 0, .int .i64 0]]), fun _ => rfl⟩, ⟨Nat, [8], (fun b31 => [(8, bp b31 0)]), (fun b31 => [Box b31 [.int .i64 x19, .int .i64 x21, .int .i64 x23, .int .i64 x25, .int .i64 x29, .int .i64 x27]]), fun _ => rfl⟩]) (D := [⟨[0], [], [6]⟩, ⟨[6, 2], [], [7]⟩, ⟨[7, 2], [], [8]⟩, ⟨[0], [], [9]⟩, ⟨[9, 2], [], [10]⟩, ⟨[10, 2], [], [11]⟩, ⟨[0], [], [12]⟩, ⟨[12, 2], [], [13]⟩, ⟨[13, 2], [], [14]⟩, ⟨[0], [], [15]⟩, ⟨[15, 2], [], [16]⟩, ⟨[16, 2], [], [17]⟩, ⟨[0], [], [18]⟩, ⟨[18, 2], [], [19]⟩, ⟨[19, 2], [], [20]⟩, ⟨[0], [], [21]⟩, ⟨[21, 2], [], [22]⟩, ⟨[22, 2], [], [23]⟩, ⟨[8, 11, 14, 17, 20, 23], [], [24]⟩, ⟨[], [], [25]⟩, ⟨[24], [25], [26]⟩]) (ini := [0, 1, 2, 3, 4, 5]) (fin := [1, 26, 2, 3, 4, 5]) (bf := [[], [0], [0, 1], [], [3], [3, 4], [], [6], [6, 7], [], [9], [9, 10], [], [12], [12, 13], [], [15], [15, 16], [0, 1, 2, 3, 4, 5, 6, 7, 8, 9, 10, 11, 12, 13, 14, 15, 16, 17], [], [0, 1, 2, 3, 4, 5, 6, 7, 8, 9, 10, 11, 12, 13, 14, 15, 16, 17, 18, 19]]) (by kernel_rfl) (by kernel_rfl) (fun x w h1 h2 => (.cons () (.cons () (.cons () (.cons () (.cons () (.cons () (.nil ⟨EnvAll.of h1 ⟨rfl, rfl, rfl, rfl, trivial⟩, h2⟩)))))))) ⟨?_, ?_, ?_, ?_, ?_, ?_, ?_, ?_, ?_, ?_, ?_, ?_, ?_, ?_, ?_, ?_, ?_, ?_, ?_, ?_, ?_, trivial⟩ ?_
  · rintro Fr _
    refine SO.v rfl (opv_move rfl) ?_
    exact SO.nilZ fun a w h1 h2 h3 h4 h5 => PZ.of h1 h3 h5 (.cons () (.cons () (.nil ⟨EnvAll.of h2 ⟨rfl, rfl, trivial⟩, h4⟩)))
  · rintro Fr _ _
    refine SO.v rfl (opv_idx Try.underlying73 Try.sizeOf3 hr18 rfl rfl hx20) ?_
    exact SO.nilZ fun a w h1 h2 h3 h4 h5 => PZ.of h1 h3 h5 (.cons () (.cons () (.cons () (.nil ⟨EnvAll.of h2 ⟨rfl, rfl, trivial⟩, h4⟩))))
  · rintro Fr _ _
    refine SO.loadI1 (j := 0) rfl Try.isAgg3 (Rd.head hr18) hx20 rfl rfl rfl rfl ?_
    exact SO.nilZ fun a w h1 h2 h3 h4 h5 => PZ.of h1 h3 h5 (.cons () (.cons () (.cons () (.nil ⟨EnvAll.of h2 ⟨rfl, rfl, trivial⟩, h4⟩))))
  · rintro Fr _
    refine SO.v rfl (opv_move rfl) ?_
    exact SO.nilZ fun a w h1 h2 h3 h4 h5 => PZ.of h1 h3 h5 (.cons () (.cons () (.nil ⟨EnvAll.of h2 ⟨rfl, rfl, trivial⟩, h4⟩)))
  · rintro Fr _ _
    refine SO.v rfl (opv_idx Try.underlying73 Try.sizeOf3 hr18 rfl rfl hx22) ?_
    exact SO.nilZ fun a w h1 h2 h3 h4 h5 => PZ.of h1 h3 h5 (.cons () (.cons () (.cons () (.nil ⟨EnvAll.of h2 ⟨rfl, rfl, trivial⟩, h4⟩))))
  · rintro Fr _ _
    refine SO.loadI1 (j := 0) rfl Try.isAgg3 (Rd.head hr18) hx22 rfl rfl rfl rfl ?_
    exact SO.nilZ fun a w h1 h2 h3 h4 h5 => PZ.of h1 h3 h5 (.cons () (.cons () (.cons () (.nil ⟨EnvAll.of h2 ⟨rfl, rfl, trivial⟩, h4⟩))))
  · rintro Fr _
    refine SO.v rfl (opv_move rfl) ?_
    exact SO.nilZ fun a w h1 h2 h3 h4 h5 => PZ.of h1 h3 h5 (.cons () (.cons () (.nil ⟨EnvAll.of h2 ⟨rfl, rfl, trivial⟩, h4⟩)))
  · rintro Fr _ _
    refine SO.v rfl (opv_idx Try.underlying73 Try.sizeOf3 hr18 rfl rfl hx24) ?_
    exact SO.nilZ fun a w h1 h2 h3 h4 h5 => PZ.of h1 h3 h5 (.cons () (.cons () (.cons () (.nil ⟨EnvAll.of h2 ⟨rfl, rfl, trivial⟩, h4⟩))))
  · rintro Fr _ _
    refine SO.loadI1 (j := 0) rfl Try.isAgg3 (Rd.head hr18) hx24 rfl rfl rfl rfl ?_
    exact SO.nilZ fun a w h1 h2 h3 h4 h5 => PZ.of h1 h3 h5 (.cons () (.cons () (.cons () (.nil ⟨EnvAll.of h2 ⟨rfl, rfl, trivial⟩, h4⟩))))
  · rintro Fr _
    refine SO.v rfl (opv_move rfl) ?_
    exact SO.nilZ fun a w h1 h2 h3 h4 h5 => PZ.of h1 h3 h5 (.cons () (.cons () (.nil ⟨EnvAll.of h2 ⟨rfl, rfl, trivial⟩, h4⟩)))
  · rintro Fr _ _
    refine SO.v rfl (opv_idx Try.underlying73 Try.sizeOf3 hr18 rfl rfl hx26) ?_
    exact SO.nilZ fun a w h1 h2 h3 h4 h5 => PZ.of h1 h3 h5 (.cons () (.cons () (.cons () (.nil ⟨EnvAll.of h2 ⟨rfl, rfl, trivial⟩, h4⟩))))
  · rintro Fr _ _
    refine SO.loadI1 (j := 0) rfl Try.isAgg3 (Rd.head hr18) hx26 rfl rfl rfl rfl ?_
    exact SO.nilZ fun a w h1 h2 h3 h4 h5 => PZ.of h1 h3 h5 (.cons () (.cons () (.cons () (.nil ⟨EnvAll.of h2 ⟨rfl, rfl, trivial⟩, h4⟩))))
  · rintro Fr _
    refine SO.v rfl (opv_move rfl) ?_
    exact SO.nilZ fun a w h1 h2 h3 h4 h5 => PZ.of h1 h3 h5 (.cons () (.cons () (.nil ⟨EnvAll.of h2 ⟨rfl, rfl, trivial⟩, h4⟩)))
  · rintro Fr _ _
    refine SO.v rfl (opv_idx Try.underlying73 Try.sizeOf3 hr18 rfl rfl hx28) ?_
    exact SO.nilZ fun a w h1 h2 h3 h4 h5 => PZ.of h1 h3 h5 (.cons () (.cons () (.cons () (.nil ⟨EnvAll.of h2 ⟨rfl, rfl, trivial⟩, h4⟩))))
  · rintro Fr _ _
    refine SO.loadI1 (j := 0) rfl Try.isAgg3 (Rd.head hr18) hx28 rfl rfl rfl rfl ?_
    exact SO.nilZ fun a w h1 h2 h3 h4 h5 => PZ.of h1 h3 h5 (.cons () (.cons () (.cons () (.nil ⟨EnvAll.of h2 ⟨rfl, rfl, trivial⟩, h4⟩))))
  · rintro Fr _
    refine SO.v rfl (opv_move rfl) ?_
    exact SO.nilZ fun a w h1 h2 h3 h4 h5 => PZ.of h1 h3 h5 (.cons () (.cons () (.nil ⟨EnvAll.of h2 ⟨rfl, rfl, trivial⟩, h4⟩)))
  · rintro Fr _ _
    refine SO.v rfl (opv_idx Try.underlying73 Try.sizeOf3 hr18 rfl rfl hx30) ?_
    exact SO.nilZ fun a w h1 h2 h3 h4 h5 => PZ.of h1 h3 h5 (.cons () (.cons () (.cons () (.nil ⟨EnvAll.of h2 ⟨rfl, rfl, trivial⟩, h4⟩))))
  · rintro Fr _ _
    refine SO.loadI1 (j := 0) rfl Try.isAgg3 (Rd.head hr18) hx30 rfl rfl rfl rfl ?_
    exact SO.nilZ fun a w h1 h2 h3 h4 h5 => PZ.of h1 h3 h5 (.cons () (.cons () (.cons () (.nil ⟨EnvAll.of h2 ⟨rfl, rfl, trivial⟩, h4⟩))))
  · rintro Fr _ _ _ _ _ _
    refine SO.v rfl (opv_build (v := .agg #[.int .i64 x19, .int .i64 x21, .int .i64 x23, .int .i64 x25, .int .i64 x29, .int .i64 x27]) rfl (by intro w; kernel_rfl)) ?_
    exact SO.nilZ fun a w h1 h2 h3 h4 h5 => PZ.of h1 h3 h5 (.cons () (.cons () (.cons () (.cons () (.cons () (.cons () (.cons () (.nil ⟨EnvAll.of h2 ⟨rfl, rfl, rfl, rfl, rfl, rfl, rfl, trivial⟩, h4⟩))))))))
  · rintro Fr 
    refine SO.alloc rfl Try.zeroValue53 rfl (fun b31 => ?_)
    exact SO.nilZ fun a w h1 h2 h3 h4 h5 => PZ.of h1 h3 h5 (.cons b31 (.nil ⟨EnvAll.of h2 ⟨rfl, trivial⟩, h4⟩))
  · rintro Fr _ b31
    refine SO.storeN Try.sizeOf53 rfl rfl rfl rfl rfl rfl ?_
    exact SO.nilZ fun a w h1 h2 h3 h4 h5 => PZ.of h1 h3 h5 (.cons () (.cons b31 (.nil ⟨EnvAll.of h2 ⟨rfl, rfl, trivial⟩, h4⟩)))
  rintro _ b31 _ _ _ _
  show S _ _ _ _ _ _ _ [Box b31 [.int .i64 x19, .int .i64 x21, .int .i64 x23, .int .i64 x25, .int .i64 x29, .int .i64 x27], Own 3 (ekI .i64) v4_e1 j4_e1, Own 3 (ekI .i64) v4 t2, Box b1 [.int .i64 0, .int .i64 0, .int .i64 0, .int .i64 0, .int .i64 0, .int .i64 0], F]
  refine S.to (ρ' := [(2, bp b1 0), (3, errV 48 none), (5, .int .u64 j5_e1), (8, bp b31 0)]) ⟨rfl, rfl, rfl, rfl, trivial⟩ ?_
  refine S.seq ?_
  refine S.seq ?_
  refine S.region ?_
  refine SO.v rfl (opv_move rfl) ?_
  refine SO.v rfl (opv_neq rfl rfl) ?_
  refine SO.v rfl (opv_move rfl) ?_
  obtain ⟨c33, hc34, hgk⟩ := opt_bind h
  refine SO.cut 4 54 (.bool c33) [Box b31 [.int .i64 x19, .int .i64 x21, .int .i64 x23, .int .i64 x25, .int .i64 x29, .int .i64 x27], Own 3 (ekI .i64) v4_e1 j4_e1, Own 3 (ekI .i64) v4 t2, Box b1 [.int .i64 0, .int .i64 0, .int .i64 0, .int .i64 0, .int .i64 0, .int .i64 0], F] (fun l2 hk2 => ?_) ?_
  · clear hgk
    replace h := hc34
    rcases bool_or (j5_e1 != 0) with b32 | b32
    · replace h := cond_t b32 h
      refine SO.passF rfl rfl rfl b32 rfl rfl ?_
      refine SO.passF rfl rfl rfl b32 rfl rfl ?_
      refine SO.passF rfl rfl rfl b32 rfl rfl ?_
      cases h
      refine SO.v rfl (opv_pick_t' b32 rfl rfl) ?_
      refine SO.b4 ?_
      refine SO.b4 ?_
      refine SO.b4 ?_
      refine SO.b4 ?_
      refine SO.b4 ?_
      exact hk2.fitc (m := 4) rfl (rfl) rfl
    · replace h := cond_f b32 h
      refine SO.takeT rfl rfl rfl b32 ?_
      refine SO.loadN rfl Try.isAgg53 Try.sizeOf53 rfl rfl rfl ?_
      refine SO.takeT rfl rfl rfl b32 ?_
      obtain ⟨t35, ht36, h⟩ := opt_bind h
      have ct37 := pack_May.ct _ _ ht36
      dsimp only at ct37
      refine SO.call (pre := []) rfl Try.call33 rfl rfl rfl ct37 trivial ?_
      rintro _ _ ⟨rfl, rfl⟩
      refine SO.takeT rfl rfl rfl b32 ?_
      refine SO.v rfl (opv_not rfl) ?_
      cases h
      refine SO.v rfl (opv_pick_f' b32 rfl rfl) ?_
      refine SO.b4 ?_
      refine SO.b4 ?_
      refine SO.b4 ?_
      refine SO.b4 ?_
      refine SO.b4 ?_
      exact hk2.fitc (m := 4) rfl (rfl) rfl
  clear hc34
  replace h := hgk
  refine SO.nil ?_
  rcases bool_or c33 with b38 | b38
  · replace h := cond_t b38 h
    refine S.condT rfl b38 ?_
    refine S.seq ?_
    refine S.region ?_
    refine SO.v rfl (opv_build (v := .agg #[.int .i64 0, .int .i64 0, .int .i64 0, .int .i64 0, .int .i64 0, .int .i64 0]) rfl (by intro w; kernel_rfl)) ?_
    refine SO.v rfl (opv_iface Try.underlying48 rfl rfl) ?_
    refine SO.b3 ?_
    refine SO.storeN Try.sizeOf53 rfl rfl rfl rfl rfl rfl ?_
    refine SO.v rfl (opv_assign rfl) ?_
    refine SO.nil ?_
    refine S.to (ρ' := [(2, bp b1 0), (3, errV 48 (some 1)), (8, bp b31 0)]) ⟨rfl, rfl, rfl, trivial⟩ ?_
    cases h
    refine S.b1 ?_
    refine S.drop ?_
    refine S.b1 ?_
    refine S.drop ?_
    refine S.b1 ?_
    refine S.drop ?_
    refine S.b1 ?_
    refine S.b1 ?_
    exact S.retC1 Try.func35 rfl rfl rfl Try.isAgg53 Try.sizeOf53 rfl rfl (fun w hs hk => hR w _ _ ⟨rfl, rfl⟩ hs.drop hk)
  · replace h := cond_f b38 h
    refine S.condF rfl b38 ?_
    refine S.skip ?_
    refine S.seq ?_
    refine S.region ?_
    refine SO.loadN rfl Try.isAgg53 Try.sizeOf53 rfl rfl rfl ?_
    refine SO.b3 ?_
    refine SO.storeN Try.sizeOf53 rfl rfl rfl rfl rfl rfl ?_
    refine SO.v rfl (opv_assign rfl) ?_
    refine SO.nil ?_
    refine S.to (ρ' := [(2, bp b1 0), (3, errV 48 none)]) ⟨rfl, rfl, trivial⟩ ?_
    cases h
    refine S.b1 ?_
    refine S.drop ?_
    refine S.b1 ?_
    refine S.drop ?_
    refine S.b1 ?_
    refine S.drop ?_
    refine S.b1 ?_
    refine S.b1 ?_
    exact S.retC1 Try.func35 rfl rfl rfl Try.isAgg53 Try.sizeOf53 rfl rfl (fun w hs hk => hR w _ _ ⟨rfl, rfl⟩ hs.drop hk)
end Go.Proofs
namespace Go.Proofs
open Go.Sl Go.RowKit
/-! 34 padstone/padstoneref01.Word -/
def ref01_Word.f (a0 : api_Cap) : Option (Int) :=
  some (wu64 ((wu64 ((wu64 ((wu64 ((wu64 ((wu64 a0.Kind) + (wu64 (16 * (wu64 a0.Rights))))) + (wu64 (128 * (wu64 a0.Obj))))) + (wu64 (4096 * (wu64 a0.Badge))))) + (wu64 (268435456 * (wu64 a0.Bits))))) + (wu64 (4294967296 * (wu64 a0.Guard)))))
set_option maxHeartbeats 8000000 in
set_option maxRecDepth 100000 in
theorem ref01_Word.ct (a0 : api_Cap) (r0 : Int) (h : ref01_Word.f a0 = some r0) :
    Ct Try.prog 34 [.agg #[.int .i64 a0.Kind, .int .i64 a0.Rights, .int .i64 a0.Obj, .int .i64 a0.Badge, .int .i64 a0.Guard, .int .i64 a0.Bits]] (fun _ => True) [] (fun u H' => u = .int .u64 r0 ∧ H' = []) := by
  unfold ref01_Word.f at h
  refine Ct.intro (n := 31) Try.func34 rfl rfl rfl ?_
  intro R w0 F hF hR
  refine S.seq ?_
  refine S.region ?_
  refine SO.box rfl rfl rfl (fun b1 => ?_)
  refine SO.v rfl (opv_assign rfl) ?_
  refine SO.nil ?_
  refine S.seq ?_
  refine S.region ?_
  refine SO.v rfl (opv_fieldAddr Try.underlying53 rfl Try.sizeOf3 rfl rfl) ?_
  refine SO.load1 rfl Try.isAgg3 rfl rfl ?_
  refine SO.v rfl (opv_conv Try.underlying3 Try.underlying27 rfl) ?_
  refine SO.v rfl (opv_fieldAddr Try.underlying53 rfl Try.sizeOf3 rfl rfl) ?_
  refine SO.load1 rfl Try.isAgg3 rfl rfl ?_
  refine SO.v rfl (opv_conv Try.underlying3 Try.underlying27 rfl) ?_
  refine SO.v rfl (opv_mul rfl rfl) ?_
  refine SO.v rfl (opv_add rfl rfl) ?_
  refine SO.v rfl (opv_fieldAddr Try.underlying53 rfl Try.sizeOf3 rfl rfl) ?_
  refine SO.load1 rfl Try.isAgg3 rfl rfl ?_
  refine SO.v rfl (opv_conv Try.underlying3 Try.underlying27 rfl) ?_
  refine SO.v rfl (opv_mul rfl rfl) ?_
  refine SO.v rfl (opv_add rfl rfl) ?_
  refine SO.v rfl (opv_fieldAddr Try.underlying53 rfl Try.sizeOf3 rfl rfl) ?_
  refine SO.load1 rfl Try.isAgg3 rfl rfl ?_
  refine SO.v rfl (opv_conv Try.underlying3 Try.underlying27 rfl) ?_
  refine SO.v rfl (opv_mul rfl rfl) ?_
  refine SO.v rfl (opv_add rfl rfl) ?_
  refine SO.v rfl (opv_fieldAddr Try.underlying53 rfl Try.sizeOf3 rfl rfl) ?_
  refine SO.load1 rfl Try.isAgg3 rfl rfl ?_
  refine SO.v rfl (opv_conv Try.underlying3 Try.underlying27 rfl) ?_
  refine SO.v rfl (opv_mul rfl rfl) ?_
  refine SO.v rfl (opv_add rfl rfl) ?_
  refine SO.v rfl (opv_fieldAddr Try.underlying53 rfl Try.sizeOf3 rfl rfl) ?_
  refine SO.load1 rfl Try.isAgg3 rfl rfl ?_
  refine SO.v rfl (opv_conv Try.underlying3 Try.underlying27 rfl) ?_
  refine SO.v rfl (opv_mul rfl rfl) ?_
  refine SO.v rfl (opv_add rfl rfl) ?_
  refine SO.v rfl (opv_assign rfl) ?_
  refine SO.nil ?_
  refine S.to (ρ' := [(2, .int .u64 (wu64 ((wu64 ((wu64 ((wu64 ((wu64 ((wu64 a0.Kind) + (wu64 (16 * (wu64 a0.Rights))))) + (wu64 (128 * (wu64 a0.Obj))))) + (wu64 (4096 * (wu64 a0.Badge))))) + (wu64 (268435456 * (wu64 a0.Bits))))) + (wu64 (4294967296 * (wu64 a0.Guard))))))]) ⟨rfl, trivial⟩ ?_
  cases h
  refine S.drop ?_
  exact S.ret1 Try.func34 rfl rfl (fun w hs hk => hR w _ _ ⟨rfl, rfl⟩ hs hk)
end Go.Proofs
namespace Go.Proofs
open Go.Sl Go.RowKit
/-! 36 padstone/padstoneref01.Of -/
def ref01_Of.f (k : Nat) (a0 : Int) : Option (api_Cap × Bool) :=
  (ref01_May.f k (⟨w64 (a0.tmod 16), w64 ((wu64 (a0.tdiv 16)).tmod 8), w64 ((wu64 (a0.tdiv 128)).tmod 32), w64 ((wu64 (a0.tdiv 4096)).tmod 65536), w64 ((wu64 (a0.tdiv 4294967296)).tmod 256), w64 ((wu64 (a0.tdiv 268435456)).tmod 16)⟩ : api_Cap)).bind fun t3 => (bif !t3 then (some true) else ((ref01_Word.f (⟨w64 (a0.tmod 16), w64 ((wu64 (a0.tdiv 16)).tmod 8), w64 ((wu64 (a0.tdiv 128)).tmod 32), w64 ((wu64 (a0.tdiv 4096)).tmod 65536), w64 ((wu64 (a0.tdiv 4294967296)).tmod 256), w64 ((wu64 (a0.tdiv 268435456)).tmod 16)⟩ : api_Cap)).bind fun t8 => some (t8 != a0))).bind fun c6 => bif c6 then (some ((⟨0, 0, 0, 0, 0, 0⟩ : api_Cap), false)) else (some ((⟨w64 (a0.tmod 16), w64 ((wu64 (a0.tdiv 16)).tmod 8), w64 ((wu64 (a0.tdiv 128)).tmod 32), w64 ((wu64 (a0.tdiv 4096)).tmod 65536), w64 ((wu64 (a0.tdiv 4294967296)).tmod 256), w64 ((wu64 (a0.tdiv 268435456)).tmod 16)⟩ : api_Cap), true))
set_option maxHeartbeats 8000000 in
set_option maxRecDepth 100000 in
theorem ref01_Of.ct (k : Nat) (a0 : Int) (r0 : api_Cap) (r1 : Bool) (h : ref01_Of.f k a0 = some (r0, r1)) :
    Ct Try.prog 36 [.int .u64 a0] (fun _ => True) [] (fun u H' => u = .tuple #[.agg #[.int .i64 r0.Kind, .int .i64 r0.Rights, .int .i64 r0.Obj, .int .i64 r0.Badge, .int .i64 r0.Guard, .int .i64 r0.Bits], .bool r1] ∧ H' = []) := by
  unfold ref01_Of.f at h
  refine Ct.intro (n := 47) Try.func36 rfl rfl rfl ?_
  intro R w0 F hF hR
  refine S.seq ?_
  refine S.region ?_
  refine SO.alloc rfl Try.zeroValue53 rfl (fun b1 => ?_)
  refine SO.v rfl (opv_assign rfl) ?_
  refine SO.nil ?_
  refine S.seq ?_
  refine S.region ?_
  refine SO.alloc rfl Try.zeroValue53 rfl (fun b2 => ?_)
  refine SO.nil ?_
  refine S.seq ?_
  refine S.region ?_
  refine SO.v rfl (opv_move rfl) ?_
  refine SO.v rfl (opv_rem rfl rfl (by decide)) ?_
  refine SO.v rfl (opv_conv Try.underlying27 Try.underlying3 rfl) ?_
  refine SO.v rfl (opv_fieldAddr Try.underlying53 rfl Try.sizeOf3 rfl rfl) ?_
  refine SO.store1 Try.sizeOf3 rfl rfl rfl rfl ?_
  refine SO.nil ?_
  refine S.seq ?_
  refine S.region ?_
  refine SO.v rfl (opv_move rfl) ?_
  refine SO.v rfl (opv_quo rfl rfl (by decide)) ?_
  refine SO.v rfl (opv_rem rfl rfl (by decide)) ?_
  refine SO.v rfl (opv_conv Try.underlying27 Try.underlying3 rfl) ?_
  refine SO.v rfl (opv_fieldAddr Try.underlying53 rfl Try.sizeOf3 rfl rfl) ?_
  refine SO.store1 Try.sizeOf3 rfl rfl rfl rfl ?_
  refine SO.nil ?_
  refine S.to (ρ' := [(0, .int .u64 a0), (2, bp b1 0), (3, .bool false), (4, bp b2 0)]) ⟨rfl, rfl, rfl, rfl, trivial⟩ ?_
  refine S.seq ?_
  refine S.region ?_
  refine SO.v rfl (opv_move rfl) ?_
  refine SO.v rfl (opv_quo rfl rfl (by decide)) ?_
  refine SO.v rfl (opv_rem rfl rfl (by decide)) ?_
  refine SO.v rfl (opv_conv Try.underlying27 Try.underlying3 rfl) ?_
  refine SO.v rfl (opv_fieldAddr Try.underlying53 rfl Try.sizeOf3 rfl rfl) ?_
  refine SO.store1 Try.sizeOf3 rfl rfl rfl rfl ?_
  refine SO.nil ?_
  refine S.seq ?_
  refine S.region ?_
  refine SO.v rfl (opv_move rfl) ?_
  refine SO.v rfl (opv_quo rfl rfl (by decide)) ?_
  refine SO.v rfl (opv_rem rfl rfl (by decide)) ?_
  refine SO.v rfl (opv_conv Try.underlying27 Try.underlying3 rfl) ?_
  refine SO.v rfl (opv_fieldAddr Try.underlying53 rfl Try.sizeOf3 rfl rfl) ?_
  refine SO.store1 Try.sizeOf3 rfl rfl rfl rfl ?_
  refine SO.nil ?_
  refine S.to (ρ' := [(0, .int .u64 a0), (2, bp b1 0), (3, .bool false), (4, bp b2 0)]) ⟨rfl, rfl, rfl, rfl, trivial⟩ ?_
  refine S.seq ?_
  refine S.region ?_
  refine SO.v rfl (opv_move rfl) ?_
  refine SO.v rfl (opv_quo rfl rfl (by decide)) ?_
  refine SO.v rfl (opv_rem rfl rfl (by decide)) ?_
  refine SO.v rfl (opv_conv Try.underlying27 Try.underlying3 rfl) ?_
  refine SO.v rfl (opv_fieldAddr Try.underlying53 rfl Try.sizeOf3 rfl rfl) ?_
  refine SO.store1 Try.sizeOf3 rfl rfl rfl rfl ?_
  refine SO.nil ?_
  refine S.seq ?_
  refine S.region ?_
  refine SO.v rfl (opv_move rfl) ?_
  refine SO.v rfl (opv_quo rfl rfl (by decide)) ?_
  refine SO.v rfl (opv_rem rfl rfl (by decide)) ?_
  refine SO.v rfl (opv_conv Try.underlying27 Try.underlying3 rfl) ?_
  refine SO.v rfl (opv_fieldAddr Try.underlying53 rfl Try.sizeOf3 rfl rfl) ?_
  refine SO.store1 Try.sizeOf3 rfl rfl rfl rfl ?_
  refine SO.nil ?_
  refine S.to (ρ' := [(0, .int .u64 a0), (2, bp b1 0), (3, .bool false), (4, bp b2 0)]) ⟨rfl, rfl, rfl, rfl, trivial⟩ ?_
  refine S.seq ?_
  refine S.region ?_
  refine SO.loadN rfl Try.isAgg53 Try.sizeOf53 rfl rfl rfl ?_
  obtain ⟨t3, ht4, h⟩ := opt_bind h
  have ct12 := ref01_May.ct _ _ _ ht4
  dsimp only at ct12
  refine SO.call (pre := []) rfl Try.call31 rfl rfl rfl ct12 trivial ?_
  rintro _ _ ⟨rfl, rfl⟩
  refine SO.v rfl (opv_assign rfl) ?_
  refine SO.nil ?_
  refine S.seq ?_
  refine S.seq ?_
  refine S.region ?_
  refine SO.v rfl (opv_move rfl) ?_
  refine SO.v rfl (opv_not rfl) ?_
  refine SO.v rfl (opv_move rfl) ?_
  obtain ⟨c6, hc7, hgk⟩ := opt_bind h
  refine SO.cut 5 44 (.bool c6) [Box b2 [.int .i64 (w64 (a0.tmod 16)), .int .i64 (w64 ((wu64 (a0.tdiv 16)).tmod 8)), .int .i64 (w64 ((wu64 (a0.tdiv 128)).tmod 32)), .int .i64 (w64 ((wu64 (a0.tdiv 4096)).tmod 65536)), .int .i64 (w64 ((wu64 (a0.tdiv 4294967296)).tmod 256)), .int .i64 (w64 ((wu64 (a0.tdiv 268435456)).tmod 16))], Box b1 [.int .i64 0, .int .i64 0, .int .i64 0, .int .i64 0, .int .i64 0, .int .i64 0], F] (fun l2 hk2 => ?_) ?_
  · clear hgk
    replace h := hc7
    rcases bool_or (!t3) with b5 | b5
    · replace h := cond_t b5 h
      refine SO.passF rfl rfl rfl b5 rfl rfl ?_
      refine SO.passF rfl rfl rfl b5 rfl rfl ?_
      refine SO.passF rfl rfl rfl b5 rfl rfl ?_
      refine SO.passF rfl rfl rfl b5 rfl rfl ?_
      cases h
      refine SO.v rfl (opv_pick_t' b5 rfl rfl) ?_
      refine SO.b2 ?_
      refine SO.b2 ?_
      refine SO.b2 ?_
      exact hk2.fitc (m := 5) rfl (rfl) rfl
    · replace h := cond_f b5 h
      refine SO.takeT rfl rfl rfl b5 ?_
      refine SO.loadN rfl Try.isAgg53 Try.sizeOf53 rfl rfl rfl ?_
      refine SO.takeT rfl rfl rfl b5 ?_
      obtain ⟨t8, ht9, h⟩ := opt_bind h
      have ct10 := ref01_Word.ct _ _ ht9
      dsimp only at ct10
      refine SO.call (pre := []) rfl Try.call34 rfl rfl rfl ct10 trivial ?_
      rintro _ _ ⟨rfl, rfl⟩
      refine SO.takeT rfl rfl rfl b5 ?_
      refine SO.v rfl (opv_move rfl) ?_
      refine SO.takeT rfl rfl rfl b5 ?_
      refine SO.v rfl (opv_neq rfl rfl) ?_
      cases h
      refine SO.v rfl (opv_pick_f' b5 rfl rfl) ?_
      refine SO.b2 ?_
      refine SO.b2 ?_
      refine SO.b2 ?_
      exact hk2.fitc (m := 5) rfl (rfl) rfl
  clear hc7
  replace h := hgk
  refine SO.nil ?_
  refine S.to (ρ' := [(2, bp b1 0), (3, .bool false), (4, bp b2 0), (44, .bool c6)]) ⟨rfl, rfl, rfl, rfl, trivial⟩ ?_
  rcases bool_or c6 with b11 | b11
  · replace h := cond_t b11 h
    refine S.condT rfl b11 ?_
    refine S.seq ?_
    refine S.region ?_
    refine SO.v rfl (opv_build (v := .agg #[.int .i64 0, .int .i64 0, .int .i64 0, .int .i64 0, .int .i64 0, .int .i64 0]) rfl (by intro w; kernel_rfl)) ?_
    refine SO.b1 ?_
    refine SO.storeN Try.sizeOf53 rfl rfl rfl rfl rfl rfl ?_
    refine SO.v rfl (opv_assign rfl) ?_
    refine SO.nil ?_
    cases h
    refine S.b1 ?_
    refine S.drop ?_
    refine S.b1 ?_
    refine S.b1 ?_
    exact S.retC1 Try.func36 rfl rfl rfl Try.isAgg53 Try.sizeOf53 rfl rfl (fun w hs hk => hR w _ _ ⟨rfl, rfl⟩ hs.drop hk)
  · replace h := cond_f b11 h
    refine S.condF rfl b11 ?_
    refine S.skip ?_
    refine S.seq ?_
    refine S.region ?_
    refine SO.loadN rfl Try.isAgg53 Try.sizeOf53 rfl rfl rfl ?_
    refine SO.b1 ?_
    refine SO.storeN Try.sizeOf53 rfl rfl rfl rfl rfl rfl ?_
    refine SO.v rfl (opv_assign rfl) ?_
    refine SO.nil ?_
    cases h
    refine S.b1 ?_
    refine S.drop ?_
    refine S.b1 ?_
    refine S.b1 ?_
    exact S.retC1 Try.func36 rfl rfl rfl Try.isAgg53 Try.sizeOf53 rfl rfl (fun w hs hk => hR w _ _ ⟨rfl, rfl⟩ hs.drop hk)
end Go.Proofs
