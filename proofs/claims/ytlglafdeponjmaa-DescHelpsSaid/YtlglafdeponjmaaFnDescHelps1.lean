/- What the functions that DescHelps reaches come to, and that they do. On no condition. -/
import Derived.Test.YtlglafdeponjmaaFnDescHelps0
set_option linter.all false
namespace Go.Proofs
open Go.Sl Go.RowKit
/-! 16 padstone/padstonelaw07.rising -/
def law07_rising.l1 (a0 : List tx_Entry) (a1 : Int) : Nat → Int → Option (Brk Bool Unit)
  | 0, _ => none
  | k + 1, x5_1 => bif decide (x5_1 < (a0.length : Int)) then (((at_ a0 x5_1).bind fun x2 => bif decide (x2.Cell < 0) then (some true) else ((at_ a0 x5_1).bind fun x5 => bif decide (a1 ≤ x5.Cell) then (some true) else (bif decide (0 < x5_1) then ((at_ a0 x5_1).bind fun x9 => (at_ a0 (w64 (x5_1 - 1))).bind fun x11 => some (decide (x9.Cell ≤ x11.Cell))) else (some false)))).bind fun j44_2 => bif j44_2 then (some (Brk.ret false)) else (law07_rising.l1 a0 a1 k (w64 (x5_1 + 1)))) else (some (Brk.nx ()))
def law07_rising.f (k : Nat) (a0 : List tx_Entry) (a1 : Int) : Option (Bool) :=
  (law07_rising.l1 a0 a1 k 0).bind fun o1 => Brk.go o1 (fun r => some r) (fun _ => some true)
set_option maxHeartbeats 8000000 in
set_option maxRecDepth 100000 in
theorem law07_rising.ct (k : Nat) (v0 : Value) (a0 : List tx_Entry) (a1 : Int) (r0 : Bool) (h : law07_rising.f k a0 a1 = some r0) :
    Ct Try.prog 16 [v0, .int .i64 a1] (fun F => Rd ek_tx_Entry v0 a0 F) [] (fun u H' => u = .bool r0 ∧ H' = []) := by
  unfold law07_rising.f at h
  refine Ct.intro (n := 45) Try.func16 rfl rfl rfl ?_
  intro R w0 F hF hR
  have hF0 := hF
  refine S.seq ?_
  refine S.region ?_
  refine SO.v rfl (opv_assign rfl) ?_
  refine SO.nil ?_
  refine S.seq ?_
  refine S.seq ?_
  refine S.region ?_
  refine SO.v rfl (opv_assign rfl) ?_
  refine SO.nil ?_
  obtain ⟨o1, hlp1, h⟩ := opt_bind h
  refine S.to (ρ' := [(5, .int .i64 0), (4, .bool false), (0, v0), (1, .int .i64 a1)]) ⟨rfl, rfl, rfl, rfl, trivial⟩ ?_
  refine S.forloop (X := Int × Unit) (O := Brk Bool Unit) (fun m x => law07_rising.l1 a0 a1 m x.1) (fun x => match x with | (x5_1, _) => [(5, .int .i64 x5_1), (4, .bool false), (0, v0), (1, .int .i64 a1)]) (fun x => match x with | (x5_1, _) => [F]) (fun Sk o' => (∀ r', o' = Brk.ret r' → some r' = some r0) ∧ ∀ _ : Unit, ∀ _ : Unit, o' = Brk.nx () → Sk [(4, .bool false)] [F]) (fun _ => rfl) ?_ (m := k) (x := (0, ())) hlp1 ?_
  · clear h hlp1
    intro k x o_1 h hK1 ih1
    obtain ⟨x5_1, _⟩ := x
    replace h : law07_rising.l1 a0 a1 (k + 1) x5_1 = some o_1 := h
    first | rw [law07_rising.l1] at h | unfold law07_rising.l1 at h
    refine S.seq ?_
    refine S.seq ?_
    refine S.region ?_
    refine SO.v rfl (opv_move rfl) ?_
    refine SO.v rfl (opv_move rfl) ?_
    refine SO.v rfl (opv_lenR rfl Try.underlying37 hF0 rfl) ?_
    refine SO.v rfl (opv_lss rfl rfl) ?_
    refine SO.nil ?_
    rcases bool_or (decide (x5_1 < (a0.length : Int))) with b1 | b1
    · replace h := cond_t b1 h
      refine S.condT rfl b1 ?_
      refine S.skip ?_
      refine S.seq ?_
      refine S.block ?_
      refine S.seq ?_
      obtain ⟨j44_2, hC2, hJ2⟩ := opt_bind h
      clear h
      refine S.cutP (G := Unit) (fun _ => True) (fun _ => [(0, v0), (1, .int .i64 a1), (4, .bool false), (5, .int .i64 x5_1), (44, .bool j44_2)]) (fun _ => [F]) (fun hk2 => ?_) ?_
      · replace h := hC2
        obtain ⟨x2, hx3, h⟩ := opt_bind h
        rcases bool_or (decide (x2.Cell < 0)) with b4 | b4
        · replace h := cond_t b4 h
          refine S.draw2 (Y := fun Q => ∃ (_ _ _ _ _ : Unit), Q [(0, v0), (5, .int .i64 x5_1), (1, .int .i64 a1), (4, .bool false)] [F]) (Z := fun Q => ∀ (_ _ _ _ _ _ : Unit), Q [(5, .int .i64 x5_1), (4, .bool false), (0, v0), (1, .int .i64 a1), (44, .bool true)] [F]) (T := [tS 0 (v0), tS 5 (.int .i64 x5_1), tS 1 (.int .i64 a1), tS 4 (.bool false), tR (F), tS 12 (v0), tS 13 (.int .i64 x5_1), tS 14 (idxp v0 (x5_1.toNat * ek_tx_Entry.sz)), tS 15 (idxp v0 (x5_1.toNat * ek_tx_Entry.sz)), tS 16 (.int .i64 x2.Cell), tS 17 (.bool (decide (x2.Cell < 0))), tS 18 (.bool (decide (x2.Cell < 0))), tS 19 (undef), tS 20 (undef), tS 21 (undef), tS 22 (undef), tS 23 (undef), tS 24 (undef), tS 25 (undef), tS 26 (.bool true), tS 27 (.bool true), tS 28 (undef), tS 29 (undef), tS 30 (undef), tS 31 (undef), tS 32 (undef), tS 33 (undef), tS 34 (undef), tS 35 (undef), tS 36 (undef), tS 37 (undef), tS 38 (undef), tS 39 (undef), tS 40 (undef), tS 41 (undef), tS 42 (undef), tS 43 (undef), tS 44 (.bool true)]) (D := [⟨[0], [], [5]⟩, ⟨[1], [], [6]⟩, ⟨[5, 6, 4], [], [7]⟩, ⟨[7, 4], [], [8]⟩, ⟨[8, 4], [], [9]⟩, ⟨[9], [], [10]⟩, ⟨[10], [], [11]⟩, ⟨[11], [], [12]⟩, ⟨[11], [], [13]⟩, ⟨[11], [], [14]⟩, ⟨[11], [], [15]⟩, ⟨[11], [], [16]⟩, ⟨[11], [], [17]⟩, ⟨[11], [], [18]⟩, ⟨[11, 18], [], [19]⟩, ⟨[19], [], [20]⟩, ⟨[20], [], [21]⟩, ⟨[20], [], [22]⟩, ⟨[20], [], [23]⟩, ⟨[23], [], [24]⟩, ⟨[23], [], [25]⟩, ⟨[23], [], [26]⟩, ⟨[23], [], [27]⟩, ⟨[23], [], [28]⟩, ⟨[23], [], [29]⟩, ⟨[23], [], [30]⟩, ⟨[23], [], [31]⟩, ⟨[23], [], [32]⟩, ⟨[23], [], [33]⟩, ⟨[23], [], [34]⟩, ⟨[23], [], [35]⟩, ⟨[20], [], [36]⟩, ⟨[20, 36], [], [37]⟩]) (ini := [0, 1, 2, 3, 4]) (fin := [1, 3, 0, 2, 37, 4]) (bf := [[], [], [0, 1], [0, 1, 2], [0, 1, 2, 3], [0, 1, 2, 3, 4], [0, 1, 2, 3, 4, 5], [0, 1, 2, 3, 4, 5, 6], [0, 1, 2, 3, 4, 5, 6], [0, 1, 2, 3, 4, 5, 6, 7, 8], [0, 1, 2, 3, 4, 5, 6, 7, 8, 9], [0, 1, 2, 3, 4, 5, 6, 7, 8, 9, 10], [0, 1, 2, 3, 4, 5, 6], [0, 1, 2, 3, 4, 5, 6, 7, 8, 9, 10, 11, 12], [0, 1, 2, 3, 4, 5, 6, 7, 8, 9, 10, 11, 12, 13], [0, 1, 2, 3, 4, 5, 6, 7, 8, 9, 10, 11, 12, 13, 14], [0, 1, 2, 3, 4, 5, 6, 7, 8, 9, 10, 11, 12, 13, 14, 15], [0, 1, 2, 3, 4, 5, 6, 7, 8, 9, 10, 11, 12, 13, 14, 15, 16], [0, 1, 2, 3, 4, 5, 6, 7, 8, 9, 10, 11, 12, 13, 14, 15, 16, 17], [0, 1, 2, 3, 4, 5, 6, 7, 8, 9, 10, 11, 12, 13, 14, 15, 16, 17, 18], [0, 1, 2, 3, 4, 5, 6, 7, 8, 9, 10, 11, 12, 13, 14, 15, 16, 17, 18], [0, 1, 2, 3, 4, 5, 6, 7, 8, 9, 10, 11, 12, 13, 14, 15, 16, 17, 18, 19, 20], [0, 1, 2, 3, 4, 5, 6, 7, 8, 9, 10, 11, 12, 13, 14, 15, 16, 17, 18, 19, 20, 21], [0, 1, 2, 3, 4, 5, 6, 7, 8, 9, 10, 11, 12, 13, 14, 15, 16, 17, 18, 19, 20, 21, 22], [0, 1, 2, 3, 4, 5, 6, 7, 8, 9, 10, 11, 12, 13, 14, 15, 16, 17, 18], [0, 1, 2, 3, 4, 5, 6, 7, 8, 9, 10, 11, 12, 13, 14, 15, 16, 17, 18], [0, 1, 2, 3, 4, 5, 6, 7, 8, 9, 10, 11, 12, 13, 14, 15, 16, 17, 18, 25], [0, 1, 2, 3, 4, 5, 6, 7, 8, 9, 10, 11, 12, 13, 14, 15, 16, 17, 18, 24, 25, 26], [0, 1, 2, 3, 4, 5, 6, 7, 8, 9, 10, 11, 12, 13, 14, 15, 16, 17, 18, 24, 25, 26, 27], [0, 1, 2, 3, 4, 5, 6, 7, 8, 9, 10, 11, 12, 13, 14, 15, 16, 17, 18, 24, 25, 26, 27, 28], [0, 1, 2, 3, 4, 5, 6, 7, 8, 9, 10, 11, 12, 13, 14, 15, 16, 17, 18, 19, 20, 21, 22, 23, 24, 25, 26, 27, 28, 29], [0, 1, 2, 3, 4, 5, 6, 7, 8, 9, 10, 11, 12, 13, 14, 15, 16, 17, 18, 19, 20, 21, 22, 23, 24, 25, 26, 27, 28, 29, 30], [0, 1, 2, 3, 4, 5, 6, 7, 8, 9, 10, 11, 12, 13, 14, 15, 16, 17, 18, 19, 20, 21, 22, 23, 24, 25, 26, 27, 28, 29, 30, 31]]) (by kernel_rfl) (by kernel_rfl) (fun Q => by kernel_rfl) (fun x w h1 h2 => ⟨(), (), (), (), (), EnvAll.of h1 ⟨rfl, rfl, rfl, rfl, trivial⟩, h2⟩) (fun Q => by kernel_rfl) ⟨?_, ?_, ?_, ?_, ?_, ?_, ?_, ?_, ?_, ?_, ?_, ?_, ?_, ?_, ?_, ?_, ?_, ?_, ?_, ?_, ?_, ?_, ?_, ?_, ?_, ?_, ?_, ?_, ?_, ?_, ?_, ?_, ?_, trivial⟩ ?_
          · rintro Fr _
            refine SO.v rfl (opv_move rfl) ?_
            exact SO.nilZ fun a w h1 h2 h3 h4 h5 => PZ.of h1 h3 h5 (.cons () (.cons () (.nil ⟨EnvAll.of h2 ⟨rfl, rfl, trivial⟩, h4⟩)))
          · rintro Fr _
            refine SO.v rfl (opv_move rfl) ?_
            exact SO.nilZ fun a w h1 h2 h3 h4 h5 => PZ.of h1 h3 h5 (.cons () (.cons () (.nil ⟨EnvAll.of h2 ⟨rfl, rfl, trivial⟩, h4⟩)))
          · rintro Fr _ _ _
            refine SO.v rfl (opv_idx Try.underlying37 Try.sizeOf53 hF0 rfl rfl hx3) ?_
            exact SO.nilZ fun a w h1 h2 h3 h4 h5 => PZ.of h1 h3 h5 (.cons () (.cons () (.cons () (.cons () (.nil ⟨EnvAll.of h2 ⟨rfl, rfl, rfl, trivial⟩, h4⟩)))))
          · rintro Fr _ _
            refine SO.v rfl (opv_fieldIdx Try.underlying53 rfl Try.sizeOf3 hF0 hx3 rfl rfl) ?_
            exact SO.nilZ fun a w h1 h2 h3 h4 h5 => PZ.of h1 h3 h5 (.cons () (.cons () (.cons () (.nil ⟨EnvAll.of h2 ⟨rfl, rfl, trivial⟩, h4⟩))))
          · rintro Fr _ _
            refine SO.loadI1 (j := 0) rfl Try.isAgg3 (Rd.head hF0) hx3 rfl rfl rfl rfl ?_
            exact SO.nilZ fun a w h1 h2 h3 h4 h5 => PZ.of h1 h3 h5 (.cons () (.cons () (.cons () (.nil ⟨EnvAll.of h2 ⟨rfl, rfl, trivial⟩, h4⟩))))
          · rintro Fr _
            refine SO.v rfl (opv_lss rfl rfl) ?_
            exact SO.nilZ fun a w h1 h2 h3 h4 h5 => PZ.of h1 h3 h5 (.cons () (.cons () (.nil ⟨EnvAll.of h2 ⟨rfl, rfl, trivial⟩, h4⟩)))
          · rintro Fr _
            refine SO.v rfl (opv_move rfl) ?_
            exact SO.nilZ fun a w h1 h2 h3 h4 h5 => PZ.of h1 h3 h5 (.cons () (.cons () (.nil ⟨EnvAll.of h2 ⟨rfl, rfl, trivial⟩, h4⟩)))
          · rintro Fr _
            refine SO.passF rfl rfl rfl b4 rfl rfl ?_
            exact SO.nilZ fun a w h1 h2 h3 h4 h5 => PZ.of h1 h3 h5 (.cons () (.cons () (.nil ⟨EnvAll.of h2 ⟨rfl, rfl, trivial⟩, h4⟩)))
          · rintro Fr _
            refine SO.passF rfl rfl rfl b4 rfl rfl ?_
            exact SO.nilZ fun a w h1 h2 h3 h4 h5 => PZ.of h1 h3 h5 (.cons () (.cons () (.nil ⟨EnvAll.of h2 ⟨rfl, rfl, trivial⟩, h4⟩)))
          · rintro Fr _
            refine SO.passF rfl rfl rfl b4 rfl rfl ?_
            exact SO.nilZ fun a w h1 h2 h3 h4 h5 => PZ.of h1 h3 h5 (.cons () (.cons () (.nil ⟨EnvAll.of h2 ⟨rfl, rfl, trivial⟩, h4⟩)))
          · rintro Fr _
            refine SO.passF rfl rfl rfl b4 rfl rfl ?_
            exact SO.nilZ fun a w h1 h2 h3 h4 h5 => PZ.of h1 h3 h5 (.cons () (.cons () (.nil ⟨EnvAll.of h2 ⟨rfl, rfl, trivial⟩, h4⟩)))
          · rintro Fr _
            refine SO.passF rfl rfl rfl b4 rfl rfl ?_
            exact SO.nilZ fun a w h1 h2 h3 h4 h5 => PZ.of h1 h3 h5 (.cons () (.cons () (.nil ⟨EnvAll.of h2 ⟨rfl, rfl, trivial⟩, h4⟩)))
          · rintro Fr _
            refine SO.passF rfl rfl rfl b4 rfl rfl ?_
            exact SO.nilZ fun a w h1 h2 h3 h4 h5 => PZ.of h1 h3 h5 (.cons () (.cons () (.nil ⟨EnvAll.of h2 ⟨rfl, rfl, trivial⟩, h4⟩)))
          · rintro Fr _
            refine SO.passF rfl rfl rfl b4 rfl rfl ?_
            exact SO.nilZ fun a w h1 h2 h3 h4 h5 => PZ.of h1 h3 h5 (.cons () (.cons () (.nil ⟨EnvAll.of h2 ⟨rfl, rfl, trivial⟩, h4⟩)))
          · rintro Fr _ _
            refine SO.v rfl (opv_pick_t' b4 rfl rfl) ?_
            exact SO.nilZ fun a w h1 h2 h3 h4 h5 => PZ.of h1 h3 h5 (.cons () (.cons () (.cons () (.nil ⟨EnvAll.of h2 ⟨rfl, rfl, rfl, trivial⟩, h4⟩))))
          · rintro Fr _
            refine SO.v rfl (opv_move rfl) ?_
            exact SO.nilZ fun a w h1 h2 h3 h4 h5 => PZ.of h1 h3 h5 (.cons () (.cons () (.nil ⟨EnvAll.of h2 ⟨rfl, rfl, trivial⟩, h4⟩)))
          · rintro Fr _
            refine SO.passF rfl rfl rfl rfl rfl rfl ?_
            exact SO.nilZ fun a w h1 h2 h3 h4 h5 => PZ.of h1 h3 h5 (.cons () (.cons () (.nil ⟨EnvAll.of h2 ⟨rfl, rfl, trivial⟩, h4⟩)))
          · rintro Fr _
            refine SO.passF rfl rfl rfl rfl rfl rfl ?_
            exact SO.nilZ fun a w h1 h2 h3 h4 h5 => PZ.of h1 h3 h5 (.cons () (.cons () (.nil ⟨EnvAll.of h2 ⟨rfl, rfl, trivial⟩, h4⟩)))
          · rintro Fr _
            refine SO.passF rfl rfl rfl rfl rfl rfl ?_
            exact SO.nilZ fun a w h1 h2 h3 h4 h5 => PZ.of h1 h3 h5 (.cons () (.cons () (.nil ⟨EnvAll.of h2 ⟨rfl, rfl, trivial⟩, h4⟩)))
          · rintro Fr _
            refine SO.pass_undef rfl rfl rfl rfl ?_
            exact SO.nilZ fun a w h1 h2 h3 h4 h5 => PZ.of h1 h3 h5 (.cons () (.cons () (.nil ⟨EnvAll.of h2 ⟨rfl, rfl, trivial⟩, h4⟩)))
          · rintro Fr _
            refine SO.pass_undef rfl rfl rfl rfl ?_
            exact SO.nilZ fun a w h1 h2 h3 h4 h5 => PZ.of h1 h3 h5 (.cons () (.cons () (.nil ⟨EnvAll.of h2 ⟨rfl, rfl, trivial⟩, h4⟩)))
          · rintro Fr _
            refine SO.pass_undef rfl rfl rfl rfl ?_
            exact SO.nilZ fun a w h1 h2 h3 h4 h5 => PZ.of h1 h3 h5 (.cons () (.cons () (.nil ⟨EnvAll.of h2 ⟨rfl, rfl, trivial⟩, h4⟩)))
          · rintro Fr _
            refine SO.pass_undef rfl rfl rfl rfl ?_
            exact SO.nilZ fun a w h1 h2 h3 h4 h5 => PZ.of h1 h3 h5 (.cons () (.cons () (.nil ⟨EnvAll.of h2 ⟨rfl, rfl, trivial⟩, h4⟩)))
          · rintro Fr _
            refine SO.pass_undef rfl rfl rfl rfl ?_
            exact SO.nilZ fun a w h1 h2 h3 h4 h5 => PZ.of h1 h3 h5 (.cons () (.cons () (.nil ⟨EnvAll.of h2 ⟨rfl, rfl, trivial⟩, h4⟩)))
          · rintro Fr _
            refine SO.pass_undef rfl rfl rfl rfl ?_
            exact SO.nilZ fun a w h1 h2 h3 h4 h5 => PZ.of h1 h3 h5 (.cons () (.cons () (.nil ⟨EnvAll.of h2 ⟨rfl, rfl, trivial⟩, h4⟩)))
          · rintro Fr _
            refine SO.pass_undef rfl rfl rfl rfl ?_
            exact SO.nilZ fun a w h1 h2 h3 h4 h5 => PZ.of h1 h3 h5 (.cons () (.cons () (.nil ⟨EnvAll.of h2 ⟨rfl, rfl, trivial⟩, h4⟩)))
          · rintro Fr _
            refine SO.pass_undef rfl rfl rfl rfl ?_
            exact SO.nilZ fun a w h1 h2 h3 h4 h5 => PZ.of h1 h3 h5 (.cons () (.cons () (.nil ⟨EnvAll.of h2 ⟨rfl, rfl, trivial⟩, h4⟩)))
          · rintro Fr _
            refine SO.pass_undef rfl rfl rfl rfl ?_
            exact SO.nilZ fun a w h1 h2 h3 h4 h5 => PZ.of h1 h3 h5 (.cons () (.cons () (.nil ⟨EnvAll.of h2 ⟨rfl, rfl, trivial⟩, h4⟩)))
          · rintro Fr _
            refine SO.pass_undef rfl rfl rfl rfl ?_
            exact SO.nilZ fun a w h1 h2 h3 h4 h5 => PZ.of h1 h3 h5 (.cons () (.cons () (.nil ⟨EnvAll.of h2 ⟨rfl, rfl, trivial⟩, h4⟩)))
          · rintro Fr _
            refine SO.pass_undef rfl rfl rfl rfl ?_
            exact SO.nilZ fun a w h1 h2 h3 h4 h5 => PZ.of h1 h3 h5 (.cons () (.cons () (.nil ⟨EnvAll.of h2 ⟨rfl, rfl, trivial⟩, h4⟩)))
          · rintro Fr _
            refine SO.pass_undef rfl rfl rfl rfl ?_
            exact SO.nilZ fun a w h1 h2 h3 h4 h5 => PZ.of h1 h3 h5 (.cons () (.cons () (.nil ⟨EnvAll.of h2 ⟨rfl, rfl, trivial⟩, h4⟩)))
          · rintro Fr _
            refine SO.passF rfl rfl rfl rfl rfl rfl ?_
            exact SO.nilZ fun a w h1 h2 h3 h4 h5 => PZ.of h1 h3 h5 (.cons () (.cons () (.nil ⟨EnvAll.of h2 ⟨rfl, rfl, trivial⟩, h4⟩)))
          · rintro Fr _ _
            refine SO.v rfl (opv_pick_tt rfl rfl) ?_
            exact SO.nilZ fun a w h1 h2 h3 h4 h5 => PZ.of h1 h3 h5 (.cons () (.cons () (.cons () (.nil ⟨EnvAll.of h2 ⟨rfl, rfl, rfl, trivial⟩, h4⟩))))
          rintro _ _ _ _ _ _
          refine S.to (ρ' := [(5, .int .i64 x5_1), (4, .bool false), (0, v0), (1, .int .i64 a1), (44, .bool true)]) ⟨rfl, rfl, rfl, rfl, rfl, trivial⟩ ?_
          cases h
          refine S.to ?_ (hk2 () trivial)
          exact ⟨rfl, rfl, rfl, rfl, rfl, trivial⟩
        replace h := cond_f b4 h
        obtain ⟨x5, hx6, h⟩ := opt_bind h
        rcases bool_or (decide (a1 ≤ x5.Cell)) with b7 | b7
        · replace h := cond_t b7 h
          refine S.draw2 (Y := fun Q => ∃ (_ _ _ _ _ : Unit), Q [(0, v0), (5, .int .i64 x5_1), (1, .int .i64 a1), (4, .bool false)] [F]) (Z := fun Q => ∀ (_ _ _ _ _ _ : Unit), Q [(5, .int .i64 x5_1), (4, .bool false), (0, v0), (1, .int .i64 a1), (44, .bool true)] [F]) (T := [tS 0 (v0), tS 5 (.int .i64 x5_1), tS 1 (.int .i64 a1), tS 4 (.bool false), tR (F), tS 12 (v0), tS 13 (.int .i64 x5_1), tS 14 (idxp v0 (x5_1.toNat * ek_tx_Entry.sz)), tS 15 (idxp v0 (x5_1.toNat * ek_tx_Entry.sz)), tS 16 (.int .i64 x2.Cell), tS 17 (.bool (decide (x2.Cell < 0))), tS 18 (.bool (decide (x2.Cell < 0))), tS 19 (v0), tS 20 (.int .i64 x5_1), tS 21 (idxp v0 (x5_1.toNat * ek_tx_Entry.sz)), tS 22 (idxp v0 (x5_1.toNat * ek_tx_Entry.sz)), tS 23 (.int .i64 x5.Cell), tS 24 (.int .i64 a1), tS 25 (.bool (decide (a1 ≤ x5.Cell))), tS 26 (.bool (decide (a1 ≤ x5.Cell))), tS 27 (.bool (decide (a1 ≤ x5.Cell))), tS 28 (undef), tS 29 (undef), tS 30 (undef), tS 31 (undef), tS 32 (undef), tS 33 (undef), tS 34 (undef), tS 35 (undef), tS 36 (undef), tS 37 (undef), tS 38 (undef), tS 39 (undef), tS 40 (undef), tS 41 (undef), tS 42 (undef), tS 43 (undef), tS 44 (.bool true)]) (D := [⟨[0], [], [5]⟩, ⟨[1], [], [6]⟩, ⟨[5, 6, 4], [], [7]⟩, ⟨[7, 4], [], [8]⟩, ⟨[8, 4], [], [9]⟩, ⟨[9], [], [10]⟩, ⟨[10], [], [11]⟩, ⟨[0, 11], [], [12]⟩, ⟨[1, 11], [], [13]⟩, ⟨[11, 12, 13, 4], [], [14]⟩, ⟨[11, 14, 4], [], [15]⟩, ⟨[11, 15, 4], [], [16]⟩, ⟨[2, 11], [], [17]⟩, ⟨[11, 16, 17], [], [18]⟩, ⟨[11, 18], [], [19]⟩, ⟨[19], [], [20]⟩, ⟨[20], [], [21]⟩, ⟨[20], [], [22]⟩, ⟨[20], [], [23]⟩, ⟨[23], [], [24]⟩, ⟨[23], [], [25]⟩, ⟨[23], [], [26]⟩, ⟨[23], [], [27]⟩, ⟨[23], [], [28]⟩, ⟨[23], [], [29]⟩, ⟨[23], [], [30]⟩, ⟨[23], [], [31]⟩, ⟨[23], [], [32]⟩, ⟨[23], [], [33]⟩, ⟨[23], [], [34]⟩, ⟨[23], [], [35]⟩, ⟨[20], [], [36]⟩, ⟨[20, 36], [], [37]⟩]) (ini := [0, 1, 2, 3, 4]) (fin := [1, 3, 0, 2, 37, 4]) (bf := [[], [], [0, 1], [0, 1, 2], [0, 1, 2, 3], [0, 1, 2, 3, 4], [0, 1, 2, 3, 4, 5], [0, 1, 2, 3, 4, 5, 6], [0, 1, 2, 3, 4, 5, 6], [0, 1, 2, 3, 4, 5, 6, 7, 8], [0, 1, 2, 3, 4, 5, 6, 7, 8, 9], [0, 1, 2, 3, 4, 5, 6, 7, 8, 9, 10], [0, 1, 2, 3, 4, 5, 6], [0, 1, 2, 3, 4, 5, 6, 7, 8, 9, 10, 11, 12], [0, 1, 2, 3, 4, 5, 6, 7, 8, 9, 10, 11, 12, 13], [0, 1, 2, 3, 4, 5, 6, 7, 8, 9, 10, 11, 12, 13, 14], [0, 1, 2, 3, 4, 5, 6, 7, 8, 9, 10, 11, 12, 13, 14, 15], [0, 1, 2, 3, 4, 5, 6, 7, 8, 9, 10, 11, 12, 13, 14, 15, 16], [0, 1, 2, 3, 4, 5, 6, 7, 8, 9, 10, 11, 12, 13, 14, 15, 16, 17], [0, 1, 2, 3, 4, 5, 6, 7, 8, 9, 10, 11, 12, 13, 14, 15, 16, 17, 18], [0, 1, 2, 3, 4, 5, 6, 7, 8, 9, 10, 11, 12, 13, 14, 15, 16, 17, 18], [0, 1, 2, 3, 4, 5, 6, 7, 8, 9, 10, 11, 12, 13, 14, 15, 16, 17, 18, 19, 20], [0, 1, 2, 3, 4, 5, 6, 7, 8, 9, 10, 11, 12, 13, 14, 15, 16, 17, 18, 19, 20, 21], [0, 1, 2, 3, 4, 5, 6, 7, 8, 9, 10, 11, 12, 13, 14, 15, 16, 17, 18, 19, 20, 21, 22], [0, 1, 2, 3, 4, 5, 6, 7, 8, 9, 10, 11, 12, 13, 14, 15, 16, 17, 18], [0, 1, 2, 3, 4, 5, 6, 7, 8, 9, 10, 11, 12, 13, 14, 15, 16, 17, 18], [0, 1, 2, 3, 4, 5, 6, 7, 8, 9, 10, 11, 12, 13, 14, 15, 16, 17, 18, 25], [0, 1, 2, 3, 4, 5, 6, 7, 8, 9, 10, 11, 12, 13, 14, 15, 16, 17, 18, 24, 25, 26], [0, 1, 2, 3, 4, 5, 6, 7, 8, 9, 10, 11, 12, 13, 14, 15, 16, 17, 18, 24, 25, 26, 27], [0, 1, 2, 3, 4, 5, 6, 7, 8, 9, 10, 11, 12, 13, 14, 15, 16, 17, 18, 24, 25, 26, 27, 28], [0, 1, 2, 3, 4, 5, 6, 7, 8, 9, 10, 11, 12, 13, 14, 15, 16, 17, 18, 19, 20, 21, 22, 23, 24, 25, 26, 27, 28, 29], [0, 1, 2, 3, 4, 5, 6, 7, 8, 9, 10, 11, 12, 13, 14, 15, 16, 17, 18, 19, 20, 21, 22, 23, 24, 25, 26, 27, 28, 29, 30], [0, 1, 2, 3, 4, 5, 6, 7, 8, 9, 10, 11, 12, 13, 14, 15, 16, 17, 18, 19, 20, 21, 22, 23, 24, 25, 26, 27, 28, 29, 30, 31]]) (by kernel_rfl) (by kernel_rfl) (fun Q => by kernel_rfl) (fun x w h1 h2 => ⟨(), (), (), (), (), EnvAll.of h1 ⟨rfl, rfl, rfl, rfl, trivial⟩, h2⟩) (fun Q => by kernel_rfl) ⟨?_, ?_, ?_, ?_, ?_, ?_, ?_, ?_, ?_, ?_, ?_, ?_, ?_, ?_, ?_, ?_, ?_, ?_, ?_, ?_, ?_, ?_, ?_, ?_, ?_, ?_, ?_, ?_, ?_, ?_, ?_, ?_, ?_, trivial⟩ ?_
          · rintro Fr _
            refine SO.v rfl (opv_move rfl) ?_
            exact SO.nilZ fun a w h1 h2 h3 h4 h5 => PZ.of h1 h3 h5 (.cons () (.cons () (.nil ⟨EnvAll.of h2 ⟨rfl, rfl, trivial⟩, h4⟩)))
          · rintro Fr _
            refine SO.v rfl (opv_move rfl) ?_
            exact SO.nilZ fun a w h1 h2 h3 h4 h5 => PZ.of h1 h3 h5 (.cons () (.cons () (.nil ⟨EnvAll.of h2 ⟨rfl, rfl, trivial⟩, h4⟩)))
          · rintro Fr _ _ _
            refine SO.v rfl (opv_idx Try.underlying37 Try.sizeOf53 hF0 rfl rfl hx3) ?_
            exact SO.nilZ fun a w h1 h2 h3 h4 h5 => PZ.of h1 h3 h5 (.cons () (.cons () (.cons () (.cons () (.nil ⟨EnvAll.of h2 ⟨rfl, rfl, rfl, trivial⟩, h4⟩)))))
          · rintro Fr _ _
            refine SO.v rfl (opv_fieldIdx Try.underlying53 rfl Try.sizeOf3 hF0 hx3 rfl rfl) ?_
            exact SO.nilZ fun a w h1 h2 h3 h4 h5 => PZ.of h1 h3 h5 (.cons () (.cons () (.cons () (.nil ⟨EnvAll.of h2 ⟨rfl, rfl, trivial⟩, h4⟩))))
          · rintro Fr _ _
            refine SO.loadI1 (j := 0) rfl Try.isAgg3 (Rd.head hF0) hx3 rfl rfl rfl rfl ?_
            exact SO.nilZ fun a w h1 h2 h3 h4 h5 => PZ.of h1 h3 h5 (.cons () (.cons () (.cons () (.nil ⟨EnvAll.of h2 ⟨rfl, rfl, trivial⟩, h4⟩))))
          · rintro Fr _
            refine SO.v rfl (opv_lss rfl rfl) ?_
            exact SO.nilZ fun a w h1 h2 h3 h4 h5 => PZ.of h1 h3 h5 (.cons () (.cons () (.nil ⟨EnvAll.of h2 ⟨rfl, rfl, trivial⟩, h4⟩)))
          · rintro Fr _
            refine SO.v rfl (opv_move rfl) ?_
            exact SO.nilZ fun a w h1 h2 h3 h4 h5 => PZ.of h1 h3 h5 (.cons () (.cons () (.nil ⟨EnvAll.of h2 ⟨rfl, rfl, trivial⟩, h4⟩)))
          · rintro Fr _ _
            refine SO.takeT rfl rfl rfl b4 ?_
            refine SO.v rfl (opv_move rfl) ?_
            exact SO.nilZ fun a w h1 h2 h3 h4 h5 => PZ.of h1 h3 h5 (.cons () (.cons () (.cons () (.nil ⟨EnvAll.of h2 ⟨rfl, rfl, rfl, trivial⟩, h4⟩))))
          · rintro Fr _ _
            refine SO.takeT rfl rfl rfl b4 ?_
            refine SO.v rfl (opv_move rfl) ?_
            exact SO.nilZ fun a w h1 h2 h3 h4 h5 => PZ.of h1 h3 h5 (.cons () (.cons () (.cons () (.nil ⟨EnvAll.of h2 ⟨rfl, rfl, rfl, trivial⟩, h4⟩))))
          · rintro Fr _ _ _ _
            refine SO.takeT rfl rfl rfl b4 ?_
            refine SO.v rfl (opv_idx Try.underlying37 Try.sizeOf53 hF0 rfl rfl hx6) ?_
            exact SO.nilZ fun a w h1 h2 h3 h4 h5 => PZ.of2 (Y := fun Q => ∃ (_ _ _ _ _ : Unit), Q [(18, .bool (decide (x2.Cell < 0))), (19, v0), (20, .int .i64 x5_1), (21, idxp v0 (x5_1.toNat * ek_tx_Entry.sz))] [F]) (fun Q => by kernel_rfl) h1 h3 h5 ⟨(), (), (), (), (), EnvAll.of h2 ⟨rfl, rfl, rfl, rfl, trivial⟩, h4⟩
          · rintro Fr _ _ _
            refine SO.takeT rfl rfl rfl b4 ?_
            refine SO.v rfl (opv_fieldIdx Try.underlying53 rfl Try.sizeOf3 hF0 hx6 rfl rfl) ?_
            exact SO.nilZ fun a w h1 h2 h3 h4 h5 => PZ.of h1 h3 h5 (.cons () (.cons () (.cons () (.cons () (.nil ⟨EnvAll.of h2 ⟨rfl, rfl, rfl, trivial⟩, h4⟩)))))
          · rintro Fr _ _ _
            refine SO.takeT rfl rfl rfl b4 ?_
            refine SO.loadI1 (j := 0) rfl Try.isAgg3 (Rd.head hF0) hx6 rfl rfl rfl rfl ?_
            exact SO.nilZ fun a w h1 h2 h3 h4 h5 => PZ.of h1 h3 h5 (.cons () (.cons () (.cons () (.cons () (.nil ⟨EnvAll.of h2 ⟨rfl, rfl, rfl, trivial⟩, h4⟩)))))
          · rintro Fr _ _
            refine SO.takeT rfl rfl rfl b4 ?_
            refine SO.v rfl (opv_move rfl) ?_
            exact SO.nilZ fun a w h1 h2 h3 h4 h5 => PZ.of h1 h3 h5 (.cons () (.cons () (.cons () (.nil ⟨EnvAll.of h2 ⟨rfl, rfl, rfl, trivial⟩, h4⟩))))
          · rintro Fr _ _ _
            refine SO.takeT rfl rfl rfl b4 ?_
            refine SO.v rfl (opv_geq rfl rfl) ?_
            exact SO.nilZ fun a w h1 h2 h3 h4 h5 => PZ.of h1 h3 h5 (.cons () (.cons () (.cons () (.cons () (.nil ⟨EnvAll.of h2 ⟨rfl, rfl, rfl, rfl, trivial⟩, h4⟩)))))
          · rintro Fr _ _
            refine SO.v rfl (opv_pick_f' b4 rfl rfl) ?_
            exact SO.nilZ fun a w h1 h2 h3 h4 h5 => PZ.of h1 h3 h5 (.cons () (.cons () (.cons () (.nil ⟨EnvAll.of h2 ⟨rfl, rfl, rfl, trivial⟩, h4⟩))))
          · rintro Fr _
            refine SO.v rfl (opv_move rfl) ?_
            exact SO.nilZ fun a w h1 h2 h3 h4 h5 => PZ.of h1 h3 h5 (.cons () (.cons () (.nil ⟨EnvAll.of h2 ⟨rfl, rfl, trivial⟩, h4⟩)))
          · rintro Fr _
            refine SO.passF rfl rfl rfl b7 rfl rfl ?_
            exact SO.nilZ fun a w h1 h2 h3 h4 h5 => PZ.of h1 h3 h5 (.cons () (.cons () (.nil ⟨EnvAll.of h2 ⟨rfl, rfl, trivial⟩, h4⟩)))
          · rintro Fr _
            refine SO.passF rfl rfl rfl b7 rfl rfl ?_
            exact SO.nilZ fun a w h1 h2 h3 h4 h5 => PZ.of h1 h3 h5 (.cons () (.cons () (.nil ⟨EnvAll.of h2 ⟨rfl, rfl, trivial⟩, h4⟩)))
          · rintro Fr _
            refine SO.passF rfl rfl rfl b7 rfl rfl ?_
            exact SO.nilZ fun a w h1 h2 h3 h4 h5 => PZ.of h1 h3 h5 (.cons () (.cons () (.nil ⟨EnvAll.of h2 ⟨rfl, rfl, trivial⟩, h4⟩)))
          · rintro Fr _
            refine SO.pass_undef rfl rfl rfl rfl ?_
            exact SO.nilZ fun a w h1 h2 h3 h4 h5 => PZ.of h1 h3 h5 (.cons () (.cons () (.nil ⟨EnvAll.of h2 ⟨rfl, rfl, trivial⟩, h4⟩)))
          · rintro Fr _
            refine SO.pass_undef rfl rfl rfl rfl ?_
            exact SO.nilZ fun a w h1 h2 h3 h4 h5 => PZ.of h1 h3 h5 (.cons () (.cons () (.nil ⟨EnvAll.of h2 ⟨rfl, rfl, trivial⟩, h4⟩)))
          · rintro Fr _
            refine SO.pass_undef rfl rfl rfl rfl ?_
            exact SO.nilZ fun a w h1 h2 h3 h4 h5 => PZ.of h1 h3 h5 (.cons () (.cons () (.nil ⟨EnvAll.of h2 ⟨rfl, rfl, trivial⟩, h4⟩)))
          · rintro Fr _
            refine SO.pass_undef rfl rfl rfl rfl ?_
            exact SO.nilZ fun a w h1 h2 h3 h4 h5 => PZ.of h1 h3 h5 (.cons () (.cons () (.nil ⟨EnvAll.of h2 ⟨rfl, rfl, trivial⟩, h4⟩)))
          · rintro Fr _
            refine SO.pass_undef rfl rfl rfl rfl ?_
            exact SO.nilZ fun a w h1 h2 h3 h4 h5 => PZ.of h1 h3 h5 (.cons () (.cons () (.nil ⟨EnvAll.of h2 ⟨rfl, rfl, trivial⟩, h4⟩)))
          · rintro Fr _
            refine SO.pass_undef rfl rfl rfl rfl ?_
            exact SO.nilZ fun a w h1 h2 h3 h4 h5 => PZ.of h1 h3 h5 (.cons () (.cons () (.nil ⟨EnvAll.of h2 ⟨rfl, rfl, trivial⟩, h4⟩)))
          · rintro Fr _
            refine SO.pass_undef rfl rfl rfl rfl ?_
            exact SO.nilZ fun a w h1 h2 h3 h4 h5 => PZ.of h1 h3 h5 (.cons () (.cons () (.nil ⟨EnvAll.of h2 ⟨rfl, rfl, trivial⟩, h4⟩)))
          · rintro Fr _
            refine SO.pass_undef rfl rfl rfl rfl ?_
            exact SO.nilZ fun a w h1 h2 h3 h4 h5 => PZ.of h1 h3 h5 (.cons () (.cons () (.nil ⟨EnvAll.of h2 ⟨rfl, rfl, trivial⟩, h4⟩)))
          · rintro Fr _
            refine SO.pass_undef rfl rfl rfl rfl ?_
            exact SO.nilZ fun a w h1 h2 h3 h4 h5 => PZ.of h1 h3 h5 (.cons () (.cons () (.nil ⟨EnvAll.of h2 ⟨rfl, rfl, trivial⟩, h4⟩)))
          · rintro Fr _
            refine SO.pass_undef rfl rfl rfl rfl ?_
            exact SO.nilZ fun a w h1 h2 h3 h4 h5 => PZ.of h1 h3 h5 (.cons () (.cons () (.nil ⟨EnvAll.of h2 ⟨rfl, rfl, trivial⟩, h4⟩)))
          · rintro Fr _
            refine SO.pass_undef rfl rfl rfl rfl ?_
            exact SO.nilZ fun a w h1 h2 h3 h4 h5 => PZ.of h1 h3 h5 (.cons () (.cons () (.nil ⟨EnvAll.of h2 ⟨rfl, rfl, trivial⟩, h4⟩)))
          · rintro Fr _
            refine SO.pass_undef rfl rfl rfl rfl ?_
            exact SO.nilZ fun a w h1 h2 h3 h4 h5 => PZ.of h1 h3 h5 (.cons () (.cons () (.nil ⟨EnvAll.of h2 ⟨rfl, rfl, trivial⟩, h4⟩)))
          · rintro Fr _
            refine SO.passF rfl rfl rfl b7 rfl rfl ?_
            exact SO.nilZ fun a w h1 h2 h3 h4 h5 => PZ.of h1 h3 h5 (.cons () (.cons () (.nil ⟨EnvAll.of h2 ⟨rfl, rfl, trivial⟩, h4⟩)))
          · rintro Fr _ _
            refine SO.v rfl (opv_pick_t' b7 rfl rfl) ?_
            exact SO.nilZ fun a w h1 h2 h3 h4 h5 => PZ.of h1 h3 h5 (.cons () (.cons () (.cons () (.nil ⟨EnvAll.of h2 ⟨rfl, rfl, rfl, trivial⟩, h4⟩))))
          rintro _ _ _ _ _ _
          refine S.to (ρ' := [(5, .int .i64 x5_1), (4, .bool false), (0, v0), (1, .int .i64 a1), (44, .bool true)]) ⟨rfl, rfl, rfl, rfl, rfl, trivial⟩ ?_
          cases h
          refine S.to ?_ (hk2 () trivial)
          exact ⟨rfl, rfl, rfl, rfl, rfl, trivial⟩
        replace h := cond_f b7 h
        rcases bool_or (decide (0 < x5_1)) with b8 | b8
        · replace h := cond_t b8 h
          obtain ⟨x9, hx10, h⟩ := opt_bind h
          obtain ⟨x11, hx12, h⟩ := opt_bind h
          refine S.draw2 (Y := fun Q => ∃ (_ _ _ _ _ : Unit), Q [(0, v0), (5, .int .i64 x5_1), (1, .int .i64 a1), (4, .bool false)] [F]) (Z := fun Q => ∀ (_ _ _ _ _ _ : Unit), Q [(5, .int .i64 x5_1), (4, .bool false), (0, v0), (1, .int .i64 a1), (44, .bool (decide (x9.Cell ≤ x11.Cell)))] [F]) (T := [tS 0 (v0), tS 5 (.int .i64 x5_1), tS 1 (.int .i64 a1), tS 4 (.bool false), tR (F), tS 12 (v0), tS 13 (.int .i64 x5_1), tS 14 (idxp v0 (x5_1.toNat * ek_tx_Entry.sz)), tS 15 (idxp v0 (x5_1.toNat * ek_tx_Entry.sz)), tS 16 (.int .i64 x2.Cell), tS 17 (.bool (decide (x2.Cell < 0))), tS 18 (.bool (decide (x2.Cell < 0))), tS 19 (v0), tS 20 (.int .i64 x5_1), tS 21 (idxp v0 (x5_1.toNat * ek_tx_Entry.sz)), tS 22 (idxp v0 (x5_1.toNat * ek_tx_Entry.sz)), tS 23 (.int .i64 x5.Cell), tS 24 (.int .i64 a1), tS 25 (.bool (decide (a1 ≤ x5.Cell))), tS 26 (.bool (decide (a1 ≤ x5.Cell))), tS 27 (.bool (decide (a1 ≤ x5.Cell))), tS 28 (.int .i64 x5_1), tS 29 (.bool (decide (0 < x5_1))), tS 30 (.bool (decide (0 < x5_1))), tS 31 (v0), tS 32 (.int .i64 x5_1), tS 33 (idxp v0 (x5_1.toNat * ek_tx_Entry.sz)), tS 34 (idxp v0 (x5_1.toNat * ek_tx_Entry.sz)), tS 35 (.int .i64 x9.Cell), tS 36 (v0), tS 37 (.int .i64 x5_1), tS 38 (.int .i64 (w64 (x5_1 - 1))), tS 39 (idxp v0 ((w64 (x5_1 - 1)).toNat * ek_tx_Entry.sz)), tS 40 (idxp v0 ((w64 (x5_1 - 1)).toNat * ek_tx_Entry.sz)), tS 41 (.int .i64 x11.Cell), tS 42 (.bool (decide (x9.Cell ≤ x11.Cell))), tS 43 (.bool (decide (x9.Cell ≤ x11.Cell))), tS 44 (.bool (decide (x9.Cell ≤ x11.Cell)))]) (D := [⟨[0], [], [5]⟩, ⟨[1], [], [6]⟩, ⟨[5, 6, 4], [], [7]⟩, ⟨[7, 4], [], [8]⟩, ⟨[8, 4], [], [9]⟩, ⟨[9], [], [10]⟩, ⟨[10], [], [11]⟩, ⟨[0, 11], [], [12]⟩, ⟨[1, 11], [], [13]⟩, ⟨[11, 12, 13, 4], [], [14]⟩, ⟨[11, 14, 4], [], [15]⟩, ⟨[11, 15, 4], [], [16]⟩, ⟨[2, 11], [], [17]⟩, ⟨[11, 16, 17], [], [18]⟩, ⟨[11, 18], [], [19]⟩, ⟨[19], [], [20]⟩, ⟨[1, 20], [], [21]⟩, ⟨[20, 21], [], [22]⟩, ⟨[20, 22], [], [23]⟩, ⟨[0, 23], [], [24]⟩, ⟨[1, 23], [], [25]⟩, ⟨[23, 24, 25, 4], [], [26]⟩, ⟨[23, 26, 4], [], [27]⟩, ⟨[23, 27, 4], [], [28]⟩, ⟨[0, 23], [], [29]⟩, ⟨[1, 23], [], [30]⟩, ⟨[23, 30], [], [31]⟩, ⟨[23, 29, 31, 4], [], [32]⟩, ⟨[23, 32, 4], [], [33]⟩, ⟨[23, 33, 4], [], [34]⟩, ⟨[23, 28, 34], [], [35]⟩, ⟨[20, 23, 35], [], [36]⟩, ⟨[20, 36], [], [37]⟩]) (ini := [0, 1, 2, 3, 4]) (fin := [1, 3, 0, 2, 37, 4]) (bf := [[], [], [0, 1], [0, 1, 2], [0, 1, 2, 3], [0, 1, 2, 3, 4], [0, 1, 2, 3, 4, 5], [0, 1, 2, 3, 4, 5, 6], [0, 1, 2, 3, 4, 5, 6], [0, 1, 2, 3, 4, 5, 6, 7, 8], [0, 1, 2, 3, 4, 5, 6, 7, 8, 9], [0, 1, 2, 3, 4, 5, 6, 7, 8, 9, 10], [0, 1, 2, 3, 4, 5, 6], [0, 1, 2, 3, 4, 5, 6, 7, 8, 9, 10, 11, 12], [0, 1, 2, 3, 4, 5, 6, 7, 8, 9, 10, 11, 12, 13], [0, 1, 2, 3, 4, 5, 6, 7, 8, 9, 10, 11, 12, 13, 14], [0, 1, 2, 3, 4, 5, 6, 7, 8, 9, 10, 11, 12, 13, 14, 15], [0, 1, 2, 3, 4, 5, 6, 7, 8, 9, 10, 11, 12, 13, 14, 15, 16], [0, 1, 2, 3, 4, 5, 6, 7, 8, 9, 10, 11, 12, 13, 14, 15, 16, 17], [0, 1, 2, 3, 4, 5, 6, 7, 8, 9, 10, 11, 12, 13, 14, 15, 16, 17, 18], [0, 1, 2, 3, 4, 5, 6, 7, 8, 9, 10, 11, 12, 13, 14, 15, 16, 17, 18], [0, 1, 2, 3, 4, 5, 6, 7, 8, 9, 10, 11, 12, 13, 14, 15, 16, 17, 18, 19, 20], [0, 1, 2, 3, 4, 5, 6, 7, 8, 9, 10, 11, 12, 13, 14, 15, 16, 17, 18, 19, 20, 21], [0, 1, 2, 3, 4, 5, 6, 7, 8, 9, 10, 11, 12, 13, 14, 15, 16, 17, 18, 19, 20, 21, 22], [0, 1, 2, 3, 4, 5, 6, 7, 8, 9, 10, 11, 12, 13, 14, 15, 16, 17, 18], [0, 1, 2, 3, 4, 5, 6, 7, 8, 9, 10, 11, 12, 13, 14, 15, 16, 17, 18], [0, 1, 2, 3, 4, 5, 6, 7, 8, 9, 10, 11, 12, 13, 14, 15, 16, 17, 18, 25], [0, 1, 2, 3, 4, 5, 6, 7, 8, 9, 10, 11, 12, 13, 14, 15, 16, 17, 18, 24, 25, 26], [0, 1, 2, 3, 4, 5, 6, 7, 8, 9, 10, 11, 12, 13, 14, 15, 16, 17, 18, 24, 25, 26, 27], [0, 1, 2, 3, 4, 5, 6, 7, 8, 9, 10, 11, 12, 13, 14, 15, 16, 17, 18, 24, 25, 26, 27, 28], [0, 1, 2, 3, 4, 5, 6, 7, 8, 9, 10, 11, 12, 13, 14, 15, 16, 17, 18, 19, 20, 21, 22, 23, 24, 25, 26, 27, 28, 29], [0, 1, 2, 3, 4, 5, 6, 7, 8, 9, 10, 11, 12, 13, 14, 15, 16, 17, 18, 19, 20, 21, 22, 23, 24, 25, 26, 27, 28, 29, 30], [0, 1, 2, 3, 4, 5, 6, 7, 8, 9, 10, 11, 12, 13, 14, 15, 16, 17, 18, 19, 20, 21, 22, 23, 24, 25, 26, 27, 28, 29, 30, 31]]) (by kernel_rfl) (by kernel_rfl) (fun Q => by kernel_rfl) (fun x w h1 h2 => ⟨(), (), (), (), (), EnvAll.of h1 ⟨rfl, rfl, rfl, rfl, trivial⟩, h2⟩) (fun Q => by kernel_rfl) ⟨?_, ?_, ?_, ?_, ?_, ?_, ?_, ?_, ?_, ?_, ?_, ?_, ?_, ?_, ?_, ?_, ?_, ?_, ?_, ?_, ?_, ?_, ?_, ?_, ?_, ?_, ?_, ?_, ?_, ?_, ?_, ?_, ?_, trivial⟩ ?_
          · rintro Fr _
            refine SO.v rfl (opv_move rfl) ?_
            exact SO.nilZ fun a w h1 h2 h3 h4 h5 => PZ.of h1 h3 h5 (.cons () (.cons () (.nil ⟨EnvAll.of h2 ⟨rfl, rfl, trivial⟩, h4⟩)))
          · rintro Fr _
            refine SO.v rfl (opv_move rfl) ?_
            exact SO.nilZ fun a w h1 h2 h3 h4 h5 => PZ.of h1 h3 h5 (.cons () (.cons () (.nil ⟨EnvAll.of h2 ⟨rfl, rfl, trivial⟩, h4⟩)))
          · rintro Fr _ _ _
            refine SO.v rfl (opv_idx Try.underlying37 Try.sizeOf53 hF0 rfl rfl hx3) ?_
            exact SO.nilZ fun a w h1 h2 h3 h4 h5 => PZ.of h1 h3 h5 (.cons () (.cons () (.cons () (.cons () (.nil ⟨EnvAll.of h2 ⟨rfl, rfl, rfl, trivial⟩, h4⟩)))))
          · rintro Fr _ _
            refine SO.v rfl (opv_fieldIdx Try.underlying53 rfl Try.sizeOf3 hF0 hx3 rfl rfl) ?_
            exact SO.nilZ fun a w h1 h2 h3 h4 h5 => PZ.of h1 h3 h5 (.cons () (.cons () (.cons () (.nil ⟨EnvAll.of h2 ⟨rfl, rfl, trivial⟩, h4⟩))))
          · rintro Fr _ _
            refine SO.loadI1 (j := 0) rfl Try.isAgg3 (Rd.head hF0) hx3 rfl rfl rfl rfl ?_
            exact SO.nilZ fun a w h1 h2 h3 h4 h5 => PZ.of h1 h3 h5 (.cons () (.cons () (.cons () (.nil ⟨EnvAll.of h2 ⟨rfl, rfl, trivial⟩, h4⟩))))
          · rintro Fr _
            refine SO.v rfl (opv_lss rfl rfl) ?_
            exact SO.nilZ fun a w h1 h2 h3 h4 h5 => PZ.of h1 h3 h5 (.cons () (.cons () (.nil ⟨EnvAll.of h2 ⟨rfl, rfl, trivial⟩, h4⟩)))
          · rintro Fr _
            refine SO.v rfl (opv_move rfl) ?_
            exact SO.nilZ fun a w h1 h2 h3 h4 h5 => PZ.of h1 h3 h5 (.cons () (.cons () (.nil ⟨EnvAll.of h2 ⟨rfl, rfl, trivial⟩, h4⟩)))
          · rintro Fr _ _
            refine SO.takeT rfl rfl rfl b4 ?_
            refine SO.v rfl (opv_move rfl) ?_
            exact SO.nilZ fun a w h1 h2 h3 h4 h5 => PZ.of h1 h3 h5 (.cons () (.cons () (.cons () (.nil ⟨EnvAll.of h2 ⟨rfl, rfl, rfl, trivial⟩, h4⟩))))
          · rintro Fr _ _
            refine SO.takeT rfl rfl rfl b4 ?_
            refine SO.v rfl (opv_move rfl) ?_
            exact SO.nilZ fun a w h1 h2 h3 h4 h5 => PZ.of h1 h3 h5 (.cons () (.cons () (.cons () (.nil ⟨EnvAll.of h2 ⟨rfl, rfl, rfl, trivial⟩, h4⟩))))
          · rintro Fr _ _ _ _
            refine SO.takeT rfl rfl rfl b4 ?_
            refine SO.v rfl (opv_idx Try.underlying37 Try.sizeOf53 hF0 rfl rfl hx6) ?_
            exact SO.nilZ fun a w h1 h2 h3 h4 h5 => PZ.of2 (Y := fun Q => ∃ (_ _ _ _ _ : Unit), Q [(18, .bool (decide (x2.Cell < 0))), (19, v0), (20, .int .i64 x5_1), (21, idxp v0 (x5_1.toNat * ek_tx_Entry.sz))] [F]) (fun Q => by kernel_rfl) h1 h3 h5 ⟨(), (), (), (), (), EnvAll.of h2 ⟨rfl, rfl, rfl, rfl, trivial⟩, h4⟩
          · rintro Fr _ _ _
            refine SO.takeT rfl rfl rfl b4 ?_
            refine SO.v rfl (opv_fieldIdx Try.underlying53 rfl Try.sizeOf3 hF0 hx6 rfl rfl) ?_
            exact SO.nilZ fun a w h1 h2 h3 h4 h5 => PZ.of h1 h3 h5 (.cons () (.cons () (.cons () (.cons () (.nil ⟨EnvAll.of h2 ⟨rfl, rfl, rfl, trivial⟩, h4⟩)))))
          · rintro Fr _ _ _
            refine SO.takeT rfl rfl rfl b4 ?_
            refine SO.loadI1 (j := 0) rfl Try.isAgg3 (Rd.head hF0) hx6 rfl rfl rfl rfl ?_
            exact SO.nilZ fun a w h1 h2 h3 h4 h5 => PZ.of h1 h3 h5 (.cons () (.cons () (.cons () (.cons () (.nil ⟨EnvAll.of h2 ⟨rfl, rfl, rfl, trivial⟩, h4⟩)))))
          · rintro Fr _ _
            refine SO.takeT rfl rfl rfl b4 ?_
            refine SO.v rfl (opv_move rfl) ?_
            exact SO.nilZ fun a w h1 h2 h3 h4 h5 => PZ.of h1 h3 h5 (.cons () (.cons () (.cons () (.nil ⟨EnvAll.of h2 ⟨rfl, rfl, rfl, trivial⟩, h4⟩))))
          · rintro Fr _ _ _
            refine SO.takeT rfl rfl rfl b4 ?_
            refine SO.v rfl (opv_geq rfl rfl) ?_
            exact SO.nilZ fun a w h1 h2 h3 h4 h5 => PZ.of h1 h3 h5 (.cons () (.cons () (.cons () (.cons () (.nil ⟨EnvAll.of h2 ⟨rfl, rfl, rfl, rfl, trivial⟩, h4⟩)))))
          · rintro Fr _ _
            refine SO.v rfl (opv_pick_f' b4 rfl rfl) ?_
            exact SO.nilZ fun a w h1 h2 h3 h4 h5 => PZ.of h1 h3 h5 (.cons () (.cons () (.cons () (.nil ⟨EnvAll.of h2 ⟨rfl, rfl, rfl, trivial⟩, h4⟩))))
          · rintro Fr _
            refine SO.v rfl (opv_move rfl) ?_
            exact SO.nilZ fun a w h1 h2 h3 h4 h5 => PZ.of h1 h3 h5 (.cons () (.cons () (.nil ⟨EnvAll.of h2 ⟨rfl, rfl, trivial⟩, h4⟩)))
          · rintro Fr _ _
            refine SO.takeT rfl rfl rfl b7 ?_
            refine SO.v rfl (opv_move rfl) ?_
            exact SO.nilZ fun a w h1 h2 h3 h4 h5 => PZ.of h1 h3 h5 (.cons () (.cons () (.cons () (.nil ⟨EnvAll.of h2 ⟨rfl, rfl, rfl, trivial⟩, h4⟩))))
          · rintro Fr _ _
            refine SO.takeT rfl rfl rfl b7 ?_
            refine SO.v rfl (opv_gtr rfl rfl) ?_
            exact SO.nilZ fun a w h1 h2 h3 h4 h5 => PZ.of h1 h3 h5 (.cons () (.cons () (.cons () (.nil ⟨EnvAll.of h2 ⟨rfl, rfl, rfl, trivial⟩, h4⟩))))
          · rintro Fr _ _
            refine SO.takeT rfl rfl rfl b7 ?_
            refine SO.v rfl (opv_move rfl) ?_
            exact SO.nilZ fun a w h1 h2 h3 h4 h5 => PZ.of h1 h3 h5 (.cons () (.cons () (.cons () (.nil ⟨EnvAll.of h2 ⟨rfl, rfl, rfl, trivial⟩, h4⟩))))
          · rintro Fr _ _
            refine SO.takeT rfl rfl rfl b8 ?_
            refine SO.v rfl (opv_move rfl) ?_
            exact SO.nilZ fun a w h1 h2 h3 h4 h5 => PZ.of h1 h3 h5 (.cons () (.cons () (.cons () (.nil ⟨EnvAll.of h2 ⟨rfl, rfl, rfl, trivial⟩, h4⟩))))
          · rintro Fr _ _
            refine SO.takeT rfl rfl rfl b8 ?_
            refine SO.v rfl (opv_move rfl) ?_
            exact SO.nilZ fun a w h1 h2 h3 h4 h5 => PZ.of h1 h3 h5 (.cons () (.cons () (.cons () (.nil ⟨EnvAll.of h2 ⟨rfl, rfl, rfl, trivial⟩, h4⟩))))
          · rintro Fr _ _ _ _
            refine SO.takeT rfl rfl rfl b8 ?_
            refine SO.v rfl (opv_idx Try.underlying37 Try.sizeOf53 hF0 rfl rfl hx10) ?_
            exact SO.nilZ fun a w h1 h2 h3 h4 h5 => PZ.of2 (Y := fun Q => ∃ (_ _ _ _ _ : Unit), Q [(30, .bool (decide (0 < x5_1))), (31, v0), (32, .int .i64 x5_1), (33, idxp v0 (x5_1.toNat * ek_tx_Entry.sz))] [F]) (fun Q => by kernel_rfl) h1 h3 h5 ⟨(), (), (), (), (), EnvAll.of h2 ⟨rfl, rfl, rfl, rfl, trivial⟩, h4⟩
          · rintro Fr _ _ _
            refine SO.takeT rfl rfl rfl b8 ?_
            refine SO.v rfl (opv_fieldIdx Try.underlying53 rfl Try.sizeOf3 hF0 hx10 rfl rfl) ?_
            exact SO.nilZ fun a w h1 h2 h3 h4 h5 => PZ.of h1 h3 h5 (.cons () (.cons () (.cons () (.cons () (.nil ⟨EnvAll.of h2 ⟨rfl, rfl, rfl, trivial⟩, h4⟩)))))
          · rintro Fr _ _ _
            refine SO.takeT rfl rfl rfl b8 ?_
            refine SO.loadI1 (j := 0) rfl Try.isAgg3 (Rd.head hF0) hx10 rfl rfl rfl rfl ?_
            exact SO.nilZ fun a w h1 h2 h3 h4 h5 => PZ.of h1 h3 h5 (.cons () (.cons () (.cons () (.cons () (.nil ⟨EnvAll.of h2 ⟨rfl, rfl, rfl, trivial⟩, h4⟩)))))
          · rintro Fr _ _
            refine SO.takeT rfl rfl rfl b8 ?_
            refine SO.v rfl (opv_move rfl) ?_
            exact SO.nilZ fun a w h1 h2 h3 h4 h5 => PZ.of h1 h3 h5 (.cons () (.cons () (.cons () (.nil ⟨EnvAll.of h2 ⟨rfl, rfl, rfl, trivial⟩, h4⟩))))
          · rintro Fr _ _
            refine SO.takeT rfl rfl rfl b8 ?_
            refine SO.v rfl (opv_move rfl) ?_
            exact SO.nilZ fun a w h1 h2 h3 h4 h5 => PZ.of h1 h3 h5 (.cons () (.cons () (.cons () (.nil ⟨EnvAll.of h2 ⟨rfl, rfl, rfl, trivial⟩, h4⟩))))
          · rintro Fr _ _
            refine SO.takeT rfl rfl rfl b8 ?_
            refine SO.v rfl (opv_sub rfl rfl) ?_
            exact SO.nilZ fun a w h1 h2 h3 h4 h5 => PZ.of h1 h3 h5 (.cons () (.cons () (.cons () (.nil ⟨EnvAll.of h2 ⟨rfl, rfl, rfl, trivial⟩, h4⟩))))
          · rintro Fr _ _ _ _
            refine SO.takeT rfl rfl rfl b8 ?_
            refine SO.v rfl (opv_idx Try.underlying37 Try.sizeOf53 hF0 rfl rfl hx12) ?_
            exact SO.nilZ fun a w h1 h2 h3 h4 h5 => PZ.of2 (Y := fun Q => ∃ (_ _ _ _ _ : Unit), Q [(30, .bool (decide (0 < x5_1))), (36, v0), (38, .int .i64 (w64 (x5_1 - 1))), (39, idxp v0 ((w64 (x5_1 - 1)).toNat * ek_tx_Entry.sz))] [F]) (fun Q => by kernel_rfl) h1 h3 h5 ⟨(), (), (), (), (), EnvAll.of h2 ⟨rfl, rfl, rfl, rfl, trivial⟩, h4⟩
          · rintro Fr _ _ _
            refine SO.takeT rfl rfl rfl b8 ?_
            refine SO.v rfl (opv_fieldIdx Try.underlying53 rfl Try.sizeOf3 hF0 hx12 rfl rfl) ?_
            exact SO.nilZ fun a w h1 h2 h3 h4 h5 => PZ.of h1 h3 h5 (.cons () (.cons () (.cons () (.cons () (.nil ⟨EnvAll.of h2 ⟨rfl, rfl, rfl, trivial⟩, h4⟩)))))
          · rintro Fr _ _ _
            refine SO.takeT rfl rfl rfl b8 ?_
            refine SO.loadI1 (j := 0) rfl Try.isAgg3 (Rd.head hF0) hx12 rfl rfl rfl rfl ?_
            exact SO.nilZ fun a w h1 h2 h3 h4 h5 => PZ.of h1 h3 h5 (.cons () (.cons () (.cons () (.cons () (.nil ⟨EnvAll.of h2 ⟨rfl, rfl, rfl, trivial⟩, h4⟩)))))
          · rintro Fr _ _ _
            refine SO.takeT rfl rfl rfl b8 ?_
            refine SO.v rfl (opv_leq rfl rfl) ?_
            exact SO.nilZ fun a w h1 h2 h3 h4 h5 => PZ.of h1 h3 h5 (.cons () (.cons () (.cons () (.cons () (.nil ⟨EnvAll.of h2 ⟨rfl, rfl, rfl, rfl, trivial⟩, h4⟩)))))
          · rintro Fr _ _ _
            refine SO.takeT rfl rfl rfl b7 ?_
            refine SO.v rfl (opv_pick_t' b8 rfl rfl) ?_
            exact SO.nilZ fun a w h1 h2 h3 h4 h5 => PZ.of h1 h3 h5 (.cons () (.cons () (.cons () (.cons () (.nil ⟨EnvAll.of h2 ⟨rfl, rfl, rfl, rfl, trivial⟩, h4⟩)))))
          · rintro Fr _ _
            refine SO.v rfl (opv_pick_f' b7 rfl rfl) ?_
            exact SO.nilZ fun a w h1 h2 h3 h4 h5 => PZ.of h1 h3 h5 (.cons () (.cons () (.cons () (.nil ⟨EnvAll.of h2 ⟨rfl, rfl, rfl, trivial⟩, h4⟩))))
          rintro _ _ _ _ _ _
          refine S.to (ρ' := [(5, .int .i64 x5_1), (4, .bool false), (0, v0), (1, .int .i64 a1), (44, .bool (decide (x9.Cell ≤ x11.Cell)))]) ⟨rfl, rfl, rfl, rfl, rfl, trivial⟩ ?_
          cases h
          refine S.to ?_ (hk2 () trivial)
          exact ⟨rfl, rfl, rfl, rfl, rfl, trivial⟩
        replace h := cond_f b8 h
        refine S.draw2 (Y := fun Q => ∃ (_ _ _ _ _ : Unit), Q [(0, v0), (5, .int .i64 x5_1), (1, .int .i64 a1), (4, .bool false)] [F]) (Z := fun Q => ∀ (_ _ _ _ _ _ : Unit), Q [(5, .int .i64 x5_1), (4, .bool false), (0, v0), (1, .int .i64 a1), (44, .bool false)] [F]) (T := [tS 0 (v0), tS 5 (.int .i64 x5_1), tS 1 (.int .i64 a1), tS 4 (.bool false), tR (F), tS 12 (v0), tS 13 (.int .i64 x5_1), tS 14 (idxp v0 (x5_1.toNat * ek_tx_Entry.sz)), tS 15 (idxp v0 (x5_1.toNat * ek_tx_Entry.sz)), tS 16 (.int .i64 x2.Cell), tS 17 (.bool (decide (x2.Cell < 0))), tS 18 (.bool (decide (x2.Cell < 0))), tS 19 (v0), tS 20 (.int .i64 x5_1), tS 21 (idxp v0 (x5_1.toNat * ek_tx_Entry.sz)), tS 22 (idxp v0 (x5_1.toNat * ek_tx_Entry.sz)), tS 23 (.int .i64 x5.Cell), tS 24 (.int .i64 a1), tS 25 (.bool (decide (a1 ≤ x5.Cell))), tS 26 (.bool (decide (a1 ≤ x5.Cell))), tS 27 (.bool (decide (a1 ≤ x5.Cell))), tS 28 (.int .i64 x5_1), tS 29 (.bool (decide (0 < x5_1))), tS 30 (.bool (decide (0 < x5_1))), tS 31 (undef), tS 32 (undef), tS 33 (undef), tS 34 (undef), tS 35 (undef), tS 36 (undef), tS 37 (undef), tS 38 (undef), tS 39 (undef), tS 40 (undef), tS 41 (undef), tS 42 (undef), tS 43 (.bool false), tS 44 (.bool false)]) (D := [⟨[0], [], [5]⟩, ⟨[1], [], [6]⟩, ⟨[5, 6, 4], [], [7]⟩, ⟨[7, 4], [], [8]⟩, ⟨[8, 4], [], [9]⟩, ⟨[9], [], [10]⟩, ⟨[10], [], [11]⟩, ⟨[0, 11], [], [12]⟩, ⟨[1, 11], [], [13]⟩, ⟨[11, 12, 13, 4], [], [14]⟩, ⟨[11, 14, 4], [], [15]⟩, ⟨[11, 15, 4], [], [16]⟩, ⟨[2, 11], [], [17]⟩, ⟨[11, 16, 17], [], [18]⟩, ⟨[11, 18], [], [19]⟩, ⟨[19], [], [20]⟩, ⟨[1, 20], [], [21]⟩, ⟨[20, 21], [], [22]⟩, ⟨[20, 22], [], [23]⟩, ⟨[23], [], [24]⟩, ⟨[23], [], [25]⟩, ⟨[23], [], [26]⟩, ⟨[23], [], [27]⟩, ⟨[23], [], [28]⟩, ⟨[23], [], [29]⟩, ⟨[23], [], [30]⟩, ⟨[23], [], [31]⟩, ⟨[23], [], [32]⟩, ⟨[23], [], [33]⟩, ⟨[23], [], [34]⟩, ⟨[23], [], [35]⟩, ⟨[20, 23, 35], [], [36]⟩, ⟨[20, 36], [], [37]⟩]) (ini := [0, 1, 2, 3, 4]) (fin := [1, 3, 0, 2, 37, 4]) (bf := [[], [], [0, 1], [0, 1, 2], [0, 1, 2, 3], [0, 1, 2, 3, 4], [0, 1, 2, 3, 4, 5], [0, 1, 2, 3, 4, 5, 6], [0, 1, 2, 3, 4, 5, 6], [0, 1, 2, 3, 4, 5, 6, 7, 8], [0, 1, 2, 3, 4, 5, 6, 7, 8, 9], [0, 1, 2, 3, 4, 5, 6, 7, 8, 9, 10], [0, 1, 2, 3, 4, 5, 6], [0, 1, 2, 3, 4, 5, 6, 7, 8, 9, 10, 11, 12], [0, 1, 2, 3, 4, 5, 6, 7, 8, 9, 10, 11, 12, 13], [0, 1, 2, 3, 4, 5, 6, 7, 8, 9, 10, 11, 12, 13, 14], [0, 1, 2, 3, 4, 5, 6, 7, 8, 9, 10, 11, 12, 13, 14, 15], [0, 1, 2, 3, 4, 5, 6, 7, 8, 9, 10, 11, 12, 13, 14, 15, 16], [0, 1, 2, 3, 4, 5, 6, 7, 8, 9, 10, 11, 12, 13, 14, 15, 16, 17], [0, 1, 2, 3, 4, 5, 6, 7, 8, 9, 10, 11, 12, 13, 14, 15, 16, 17, 18], [0, 1, 2, 3, 4, 5, 6, 7, 8, 9, 10, 11, 12, 13, 14, 15, 16, 17, 18], [0, 1, 2, 3, 4, 5, 6, 7, 8, 9, 10, 11, 12, 13, 14, 15, 16, 17, 18, 19, 20], [0, 1, 2, 3, 4, 5, 6, 7, 8, 9, 10, 11, 12, 13, 14, 15, 16, 17, 18, 19, 20, 21], [0, 1, 2, 3, 4, 5, 6, 7, 8, 9, 10, 11, 12, 13, 14, 15, 16, 17, 18, 19, 20, 21, 22], [0, 1, 2, 3, 4, 5, 6, 7, 8, 9, 10, 11, 12, 13, 14, 15, 16, 17, 18], [0, 1, 2, 3, 4, 5, 6, 7, 8, 9, 10, 11, 12, 13, 14, 15, 16, 17, 18], [0, 1, 2, 3, 4, 5, 6, 7, 8, 9, 10, 11, 12, 13, 14, 15, 16, 17, 18, 25], [0, 1, 2, 3, 4, 5, 6, 7, 8, 9, 10, 11, 12, 13, 14, 15, 16, 17, 18, 24, 25, 26], [0, 1, 2, 3, 4, 5, 6, 7, 8, 9, 10, 11, 12, 13, 14, 15, 16, 17, 18, 24, 25, 26, 27], [0, 1, 2, 3, 4, 5, 6, 7, 8, 9, 10, 11, 12, 13, 14, 15, 16, 17, 18, 24, 25, 26, 27, 28], [0, 1, 2, 3, 4, 5, 6, 7, 8, 9, 10, 11, 12, 13, 14, 15, 16, 17, 18, 19, 20, 21, 22, 23, 24, 25, 26, 27, 28, 29], [0, 1, 2, 3, 4, 5, 6, 7, 8, 9, 10, 11, 12, 13, 14, 15, 16, 17, 18, 19, 20, 21, 22, 23, 24, 25, 26, 27, 28, 29, 30], [0, 1, 2, 3, 4, 5, 6, 7, 8, 9, 10, 11, 12, 13, 14, 15, 16, 17, 18, 19, 20, 21, 22, 23, 24, 25, 26, 27, 28, 29, 30, 31]]) (by kernel_rfl) (by kernel_rfl) (fun Q => by kernel_rfl) (fun x w h1 h2 => ⟨(), (), (), (), (), EnvAll.of h1 ⟨rfl, rfl, rfl, rfl, trivial⟩, h2⟩) (fun Q => by kernel_rfl) ⟨?_, ?_, ?_, ?_, ?_, ?_, ?_, ?_, ?_, ?_, ?_, ?_, ?_, ?_, ?_, ?_, ?_, ?_, ?_, ?_, ?_, ?_, ?_, ?_, ?_, ?_, ?_, ?_, ?_, ?_, ?_, ?_, ?_, trivial⟩ ?_
        · rintro Fr _
          refine SO.v rfl (opv_move rfl) ?_
          exact SO.nilZ fun a w h1 h2 h3 h4 h5 => PZ.of h1 h3 h5 (.cons () (.cons () (.nil ⟨EnvAll.of h2 ⟨rfl, rfl, trivial⟩, h4⟩)))
        · rintro Fr _
          refine SO.v rfl (opv_move rfl) ?_
          exact SO.nilZ fun a w h1 h2 h3 h4 h5 => PZ.of h1 h3 h5 (.cons () (.cons () (.nil ⟨EnvAll.of h2 ⟨rfl, rfl, trivial⟩, h4⟩)))
        · rintro Fr _ _ _
          refine SO.v rfl (opv_idx Try.underlying37 Try.sizeOf53 hF0 rfl rfl hx3) ?_
          exact SO.nilZ fun a w h1 h2 h3 h4 h5 => PZ.of h1 h3 h5 (.cons () (.cons () (.cons () (.cons () (.nil ⟨EnvAll.of h2 ⟨rfl, rfl, rfl, trivial⟩, h4⟩)))))
        · rintro Fr _ _
          refine SO.v rfl (opv_fieldIdx Try.underlying53 rfl Try.sizeOf3 hF0 hx3 rfl rfl) ?_
          exact SO.nilZ fun a w h1 h2 h3 h4 h5 => PZ.of h1 h3 h5 (.cons () (.cons () (.cons () (.nil ⟨EnvAll.of h2 ⟨rfl, rfl, trivial⟩, h4⟩))))
        · rintro Fr _ _
          refine SO.loadI1 (j := 0) rfl Try.isAgg3 (Rd.head hF0) hx3 rfl rfl rfl rfl ?_
          exact SO.nilZ fun a w h1 h2 h3 h4 h5 => PZ.of h1 h3 h5 (.cons () (.cons () (.cons () (.nil ⟨EnvAll.of h2 ⟨rfl, rfl, trivial⟩, h4⟩))))
        · rintro Fr _
          refine SO.v rfl (opv_lss rfl rfl) ?_
          exact SO.nilZ fun a w h1 h2 h3 h4 h5 => PZ.of h1 h3 h5 (.cons () (.cons () (.nil ⟨EnvAll.of h2 ⟨rfl, rfl, trivial⟩, h4⟩)))
        · rintro Fr _
          refine SO.v rfl (opv_move rfl) ?_
          exact SO.nilZ fun a w h1 h2 h3 h4 h5 => PZ.of h1 h3 h5 (.cons () (.cons () (.nil ⟨EnvAll.of h2 ⟨rfl, rfl, trivial⟩, h4⟩)))
        · rintro Fr _ _
          refine SO.takeT rfl rfl rfl b4 ?_
          refine SO.v rfl (opv_move rfl) ?_
          exact SO.nilZ fun a w h1 h2 h3 h4 h5 => PZ.of h1 h3 h5 (.cons () (.cons () (.cons () (.nil ⟨EnvAll.of h2 ⟨rfl, rfl, rfl, trivial⟩, h4⟩))))
        · rintro Fr _ _
          refine SO.takeT rfl rfl rfl b4 ?_
          refine SO.v rfl (opv_move rfl) ?_
          exact SO.nilZ fun a w h1 h2 h3 h4 h5 => PZ.of h1 h3 h5 (.cons () (.cons () (.cons () (.nil ⟨EnvAll.of h2 ⟨rfl, rfl, rfl, trivial⟩, h4⟩))))
        · rintro Fr _ _ _ _
          refine SO.takeT rfl rfl rfl b4 ?_
          refine SO.v rfl (opv_idx Try.underlying37 Try.sizeOf53 hF0 rfl rfl hx6) ?_
          exact SO.nilZ fun a w h1 h2 h3 h4 h5 => PZ.of2 (Y := fun Q => ∃ (_ _ _ _ _ : Unit), Q [(18, .bool (decide (x2.Cell < 0))), (19, v0), (20, .int .i64 x5_1), (21, idxp v0 (x5_1.toNat * ek_tx_Entry.sz))] [F]) (fun Q => by kernel_rfl) h1 h3 h5 ⟨(), (), (), (), (), EnvAll.of h2 ⟨rfl, rfl, rfl, rfl, trivial⟩, h4⟩
        · rintro Fr _ _ _
          refine SO.takeT rfl rfl rfl b4 ?_
          refine SO.v rfl (opv_fieldIdx Try.underlying53 rfl Try.sizeOf3 hF0 hx6 rfl rfl) ?_
          exact SO.nilZ fun a w h1 h2 h3 h4 h5 => PZ.of h1 h3 h5 (.cons () (.cons () (.cons () (.cons () (.nil ⟨EnvAll.of h2 ⟨rfl, rfl, rfl, trivial⟩, h4⟩)))))
        · rintro Fr _ _ _
          refine SO.takeT rfl rfl rfl b4 ?_
          refine SO.loadI1 (j := 0) rfl Try.isAgg3 (Rd.head hF0) hx6 rfl rfl rfl rfl ?_
          exact SO.nilZ fun a w h1 h2 h3 h4 h5 => PZ.of h1 h3 h5 (.cons () (.cons () (.cons () (.cons () (.nil ⟨EnvAll.of h2 ⟨rfl, rfl, rfl, trivial⟩, h4⟩)))))
        · rintro Fr _ _
          refine SO.takeT rfl rfl rfl b4 ?_
          refine SO.v rfl (opv_move rfl) ?_
          exact SO.nilZ fun a w h1 h2 h3 h4 h5 => PZ.of h1 h3 h5 (.cons () (.cons () (.cons () (.nil ⟨EnvAll.of h2 ⟨rfl, rfl, rfl, trivial⟩, h4⟩))))
        · rintro Fr _ _ _
          refine SO.takeT rfl rfl rfl b4 ?_
          refine SO.v rfl (opv_geq rfl rfl) ?_
          exact SO.nilZ fun a w h1 h2 h3 h4 h5 => PZ.of h1 h3 h5 (.cons () (.cons () (.cons () (.cons () (.nil ⟨EnvAll.of h2 ⟨rfl, rfl, rfl, rfl, trivial⟩, h4⟩)))))
        · rintro Fr _ _
          refine SO.v rfl (opv_pick_f' b4 rfl rfl) ?_
          exact SO.nilZ fun a w h1 h2 h3 h4 h5 => PZ.of h1 h3 h5 (.cons () (.cons () (.cons () (.nil ⟨EnvAll.of h2 ⟨rfl, rfl, rfl, trivial⟩, h4⟩))))
        · rintro Fr _
          refine SO.v rfl (opv_move rfl) ?_
          exact SO.nilZ fun a w h1 h2 h3 h4 h5 => PZ.of h1 h3 h5 (.cons () (.cons () (.nil ⟨EnvAll.of h2 ⟨rfl, rfl, trivial⟩, h4⟩)))
        · rintro Fr _ _
          refine SO.takeT rfl rfl rfl b7 ?_
          refine SO.v rfl (opv_move rfl) ?_
          exact SO.nilZ fun a w h1 h2 h3 h4 h5 => PZ.of h1 h3 h5 (.cons () (.cons () (.cons () (.nil ⟨EnvAll.of h2 ⟨rfl, rfl, rfl, trivial⟩, h4⟩))))
        · rintro Fr _ _
          refine SO.takeT rfl rfl rfl b7 ?_
          refine SO.v rfl (opv_gtr rfl rfl) ?_
          exact SO.nilZ fun a w h1 h2 h3 h4 h5 => PZ.of h1 h3 h5 (.cons () (.cons () (.cons () (.nil ⟨EnvAll.of h2 ⟨rfl, rfl, rfl, trivial⟩, h4⟩))))
        · rintro Fr _ _
          refine SO.takeT rfl rfl rfl b7 ?_
          refine SO.v rfl (opv_move rfl) ?_
          exact SO.nilZ fun a w h1 h2 h3 h4 h5 => PZ.of h1 h3 h5 (.cons () (.cons () (.cons () (.nil ⟨EnvAll.of h2 ⟨rfl, rfl, rfl, trivial⟩, h4⟩))))
        · rintro Fr _
          refine SO.passF rfl rfl rfl b8 rfl rfl ?_
          exact SO.nilZ fun a w h1 h2 h3 h4 h5 => PZ.of h1 h3 h5 (.cons () (.cons () (.nil ⟨EnvAll.of h2 ⟨rfl, rfl, trivial⟩, h4⟩)))
        · rintro Fr _
          refine SO.passF rfl rfl rfl b8 rfl rfl ?_
          exact SO.nilZ fun a w h1 h2 h3 h4 h5 => PZ.of h1 h3 h5 (.cons () (.cons () (.nil ⟨EnvAll.of h2 ⟨rfl, rfl, trivial⟩, h4⟩)))
        · rintro Fr _
          refine SO.passF rfl rfl rfl b8 rfl rfl ?_
          exact SO.nilZ fun a w h1 h2 h3 h4 h5 => PZ.of h1 h3 h5 (.cons () (.cons () (.nil ⟨EnvAll.of h2 ⟨rfl, rfl, trivial⟩, h4⟩)))
        · rintro Fr _
          refine SO.passF rfl rfl rfl b8 rfl rfl ?_
          exact SO.nilZ fun a w h1 h2 h3 h4 h5 => PZ.of h1 h3 h5 (.cons () (.cons () (.nil ⟨EnvAll.of h2 ⟨rfl, rfl, trivial⟩, h4⟩)))
        · rintro Fr _
          refine SO.passF rfl rfl rfl b8 rfl rfl ?_
          exact SO.nilZ fun a w h1 h2 h3 h4 h5 => PZ.of h1 h3 h5 (.cons () (.cons () (.nil ⟨EnvAll.of h2 ⟨rfl, rfl, trivial⟩, h4⟩)))
        · rintro Fr _
          refine SO.passF rfl rfl rfl b8 rfl rfl ?_
          exact SO.nilZ fun a w h1 h2 h3 h4 h5 => PZ.of h1 h3 h5 (.cons () (.cons () (.nil ⟨EnvAll.of h2 ⟨rfl, rfl, trivial⟩, h4⟩)))
        · rintro Fr _
          refine SO.passF rfl rfl rfl b8 rfl rfl ?_
          exact SO.nilZ fun a w h1 h2 h3 h4 h5 => PZ.of h1 h3 h5 (.cons () (.cons () (.nil ⟨EnvAll.of h2 ⟨rfl, rfl, trivial⟩, h4⟩)))
        · rintro Fr _
          refine SO.passF rfl rfl rfl b8 rfl rfl ?_
          exact SO.nilZ fun a w h1 h2 h3 h4 h5 => PZ.of h1 h3 h5 (.cons () (.cons () (.nil ⟨EnvAll.of h2 ⟨rfl, rfl, trivial⟩, h4⟩)))
        · rintro Fr _
          refine SO.passF rfl rfl rfl b8 rfl rfl ?_
          exact SO.nilZ fun a w h1 h2 h3 h4 h5 => PZ.of h1 h3 h5 (.cons () (.cons () (.nil ⟨EnvAll.of h2 ⟨rfl, rfl, trivial⟩, h4⟩)))
        · rintro Fr _
          refine SO.passF rfl rfl rfl b8 rfl rfl ?_
          exact SO.nilZ fun a w h1 h2 h3 h4 h5 => PZ.of h1 h3 h5 (.cons () (.cons () (.nil ⟨EnvAll.of h2 ⟨rfl, rfl, trivial⟩, h4⟩)))
        · rintro Fr _
          refine SO.passF rfl rfl rfl b8 rfl rfl ?_
          exact SO.nilZ fun a w h1 h2 h3 h4 h5 => PZ.of h1 h3 h5 (.cons () (.cons () (.nil ⟨EnvAll.of h2 ⟨rfl, rfl, trivial⟩, h4⟩)))
        · rintro Fr _
          refine SO.passF rfl rfl rfl b8 rfl rfl ?_
          exact SO.nilZ fun a w h1 h2 h3 h4 h5 => PZ.of h1 h3 h5 (.cons () (.cons () (.nil ⟨EnvAll.of h2 ⟨rfl, rfl, trivial⟩, h4⟩)))
        · rintro Fr _ _ _
          refine SO.takeT rfl rfl rfl b7 ?_
          refine SO.v rfl (opv_pick_f' b8 rfl rfl) ?_
          exact SO.nilZ fun a w h1 h2 h3 h4 h5 => PZ.of h1 h3 h5 (.cons () (.cons () (.cons () (.cons () (.nil ⟨EnvAll.of h2 ⟨rfl, rfl, rfl, rfl, trivial⟩, h4⟩)))))
        · rintro Fr _ _
          refine SO.v rfl (opv_pick_f' b7 rfl rfl) ?_
          exact SO.nilZ fun a w h1 h2 h3 h4 h5 => PZ.of h1 h3 h5 (.cons () (.cons () (.cons () (.nil ⟨EnvAll.of h2 ⟨rfl, rfl, rfl, trivial⟩, h4⟩))))
        rintro _ _ _ _ _ _
        refine S.to (ρ' := [(5, .int .i64 x5_1), (4, .bool false), (0, v0), (1, .int .i64 a1), (44, .bool false)]) ⟨rfl, rfl, rfl, rfl, rfl, trivial⟩ ?_
        cases h
        refine S.to ?_ (hk2 () trivial)
        exact ⟨rfl, rfl, rfl, rfl, rfl, trivial⟩
      rintro _ -
      replace h := hJ2
      rcases bool_or j44_2 with b13 | b13
      · replace h := cond_t b13 h
        refine S.condT rfl b13 ?_
        refine S.seq ?_
        refine S.region ?_
        refine SO.v rfl (opv_assign rfl) ?_
        refine SO.nil ?_
        cases h
        replace h := hK1.1 _ rfl
        cases h
        exact S.ret1 Try.func16 rfl rfl (fun w hs hk => hR w _ _ ⟨rfl, rfl⟩ hs hk)
      replace h := cond_f b13 h
      refine S.condF rfl b13 ?_
      refine S.skip ?_
      refine S.inBlock ?_
      refine S.region ?_
      refine SO.v rfl (opv_move rfl) ?_
      refine SO.v rfl (opv_add rfl rfl) ?_
      refine SO.v rfl (opv_assign rfl) ?_
      refine SO.nil ?_
      refine S.to ?_ (ih1 (w64 (x5_1 + 1), ()) h)
      exact ⟨rfl, rfl, rfl, rfl, trivial⟩
    replace h := cond_f b1 h
    refine S.condF rfl b1 ?_
    refine S.exit rfl ?_
    cases h
    refine S.to ?_ (hK1.2 () () rfl)
    exact ⟨rfl, trivial⟩
  refine ⟨fun r' e' => ?_, ?_⟩
  · subst e'
    have h9 := Brk.of_ret h
    exact h9
  rintro _ _ e'
  subst e'
  replace h := Brk.of_nx h
  refine S.seq ?_
  refine S.region ?_
  refine SO.v rfl (opv_assign rfl) ?_
  refine SO.nil ?_
  cases h
  exact S.ret1 Try.func16 rfl rfl (fun w hs hk => hR w _ _ ⟨rfl, rfl⟩ hs hk)
end Go.Proofs
namespace Go.Proofs
open Go.Sl Go.RowKit
/-! 14 (*padstone/desc.Desc).Mark -/
def desc_Desc_Mark.f (a0 : desc_Desc) : Option (Int) :=
  some a0.mark
set_option maxHeartbeats 8000000 in
set_option maxRecDepth 100000 in
theorem desc_Desc_Mark.ct (bp0 : Nat) (v0_l : Value) (a0 : desc_Desc) (r0 : Int) (h : desc_Desc_Mark.f a0 = some r0) :
    Ct Try.prog 14 [bp bp0 0] (fun _ => True) [Box bp0 [.int .i64 a0.mark, v0_l, .int .i64 a0.status, .int .i64 a0.at_], Own 53 ek_tx_Entry v0_l a0.l] (fun u H' => u = .int .i64 r0 ∧ H' = [Box bp0 [.int .i64 a0.mark, v0_l, .int .i64 a0.status, .int .i64 a0.at_], Own 53 ek_tx_Entry v0_l a0.l]) := by
  unfold desc_Desc_Mark.f at h
  refine Ct.intro (n := 7) Try.func14 rfl rfl rfl ?_
  intro R w0 F hF hR
  refine S.b1 ?_
  refine S.rd fun hr1 => ?_
  refine S.seq ?_
  refine S.region ?_
  refine SO.v rfl (opv_assign rfl) ?_
  refine SO.nil ?_
  refine S.seq ?_
  refine S.region ?_
  refine SO.v rfl (opv_move rfl) ?_
  refine SO.v rfl (opv_nilCheck rfl) ?_
  refine SO.v rfl (opv_fieldAddr Try.underlying64 rfl Try.sizeOf3 rfl rfl) ?_
  refine SO.b1 ?_
  refine SO.load1 rfl Try.isAgg3 rfl rfl ?_
  refine SO.v rfl (opv_assign rfl) ?_
  refine SO.nil ?_
  cases h
  refine S.b2 ?_
  refine S.b2 ?_
  refine S.b2 ?_
  exact S.ret1 Try.func14 rfl rfl (fun w hs hk => hR w _ _ ⟨rfl, rfl⟩ hs hk)
end Go.Proofs
namespace Go.Proofs
open Go.Sl Go.RowKit
/-! 6 padstone/word.New -/
def word_New.f (a0 : Int) (a1 : Int) : Option (((Option word_Store) × (Option Int))) :=
  bif ((decide (a0 < 1)) || (decide (1024 < a0))) || (decide (a1 < 1)) then (some (none, (some 1))) else ((mk_ (⟨0, 0, 0⟩ : api_Cell) a0).bind fun xs6 => some ((some (⟨xs6, a1⟩ : word_Store)), none))
set_option maxHeartbeats 8000000 in
set_option maxRecDepth 100000 in
theorem word_New.ct (a0 : Int) (a1 : Int) (r0 : Option word_Store) (r1 : Option Int) (h : word_New.f a0 a1 = some (r0, r1)) :
    Ct Try.prog 6 [.int .i64 a0, .int .u32 a1] (fun _ => True) [] (fun u H' => match r0 with | none => (u = .tuple #[.pointer none, errV 59 r1] ∧ H' = []) | some r0p => (∃ b_r0p w_r0p_l, u = .tuple #[bp b_r0p 0, errV 59 r1] ∧ H' = [Box b_r0p [w_r0p_l, .int .u32 r0p.limit], Own 55 ek_api_Cell w_r0p_l r0p.l])) := by
  unfold word_New.f at h
  refine Ct.intro (n := 22) Try.func6 rfl rfl rfl ?_
  intro R w0 F hF hR
  refine S.seq ?_
  refine S.region ?_
  refine SO.v rfl (opv_assign rfl) ?_
  refine SO.v rfl (opv_assign rfl) ?_
  refine SO.nil ?_
  refine S.seq ?_
  refine S.seq ?_
  refine S.region ?_
  refine SO.v rfl (opv_move rfl) ?_
  refine SO.v rfl (opv_lss rfl rfl) ?_
  refine SO.v rfl (opv_move rfl) ?_
  refine SO.cut 3 11 (.bool ((decide (a0 < 1)) || (decide (1024 < a0)))) [F] (fun l2 hk2 => ?_) ?_
  · rcases bool_or (decide (a0 < 1)) with b1 | b1
    · refine SO.passF rfl rfl rfl b1 rfl rfl ?_
      refine SO.passF rfl rfl rfl b1 rfl rfl ?_
      refine SO.v rfl (opv_pick_t' b1 rfl rfl) ?_
      exact hk2.fitc (m := 3) rfl (or_t b1) rfl
    refine SO.takeT rfl rfl rfl b1 ?_
    refine SO.v rfl (opv_move rfl) ?_
    refine SO.takeT rfl rfl rfl b1 ?_
    refine SO.v rfl (opv_gtr rfl rfl) ?_
    refine SO.v rfl (opv_pick_f' b1 rfl rfl) ?_
    exact hk2.fitc (m := 3) rfl (or_f b1) rfl
  refine SO.v rfl (opv_move rfl) ?_
  refine SO.cut 3 15 (.bool (((decide (a0 < 1)) || (decide (1024 < a0))) || (decide (a1 < 1)))) [F] (fun l2 hk2 => ?_) ?_
  · rcases bool_or ((decide (a0 < 1)) || (decide (1024 < a0))) with b2 | b2
    · refine SO.passF rfl rfl rfl b2 rfl rfl ?_
      refine SO.passF rfl rfl rfl b2 rfl rfl ?_
      refine SO.v rfl (opv_pick_t' b2 rfl rfl) ?_
      exact hk2.fitc (m := 3) rfl (or_t b2) rfl
    refine SO.takeT rfl rfl rfl b2 ?_
    refine SO.v rfl (opv_move rfl) ?_
    refine SO.takeT rfl rfl rfl b2 ?_
    refine SO.v rfl (opv_lss rfl rfl) ?_
    refine SO.v rfl (opv_pick_f' b2 rfl rfl) ?_
    exact hk2.fitc (m := 3) rfl (or_f b2) rfl
  refine SO.nil ?_
  rcases bool_or (((decide (a0 < 1)) || (decide (1024 < a0))) || (decide (a1 < 1))) with b3 | b3
  · replace h := cond_t b3 h
    refine S.condT rfl b3 ?_
    refine S.seq ?_
    refine S.region ?_
    refine SO.v rfl (opv_iface Try.underlying59 rfl rfl) ?_
    refine SO.v rfl (opv_assign rfl) ?_
    refine SO.v rfl (opv_assign rfl) ?_
    refine SO.nil ?_
    refine S.to (ρ' := [(4, .pointer none), (5, errV 59 (some 1))]) ⟨rfl, rfl, trivial⟩ ?_
    cases h
    exact S.ret2 Try.func6 rfl rfl rfl (fun w hs hk => hR w _ _ ⟨rfl, rfl⟩ hs hk)
  replace h := cond_f b3 h
  refine S.condF rfl b3 ?_
  refine S.skip ?_
  refine S.seq ?_
  refine S.region ?_
  refine SO.v rfl (opv_move rfl) ?_
  obtain ⟨xs6, hx7, h⟩ := opt_bind h
  refine SO.makeSlice (K := ek_api_Cell) rfl Try.underlying32 inf55 rfl rfl rfl (by decide) rfl rfl rfl hx7 (fun v4 hr5 => ?_)
  refine SO.v rfl (opv_move rfl) ?_
  have hB_ : ∀ (w : World) (u0_ : Value), u0_.oneCell' = true → (Instr.build 61 #[(0, u0_), (1, .int .u32 a1)]).run Try.prog w = .ok (.agg #[u0_, .int .u32 a1]) w := (by intro w u0_ hu0_; cases u0_ <;> first | (simp [Value.oneCell'] at hu0_; done) | kernel_rfl)
  refine SO.v rfl (opv_build (v := .agg #[v4, .int .u32 a1]) rfl (fun w => hB_ w v4 (Rd.one hr5))) ?_
  clear hB_
  refine SO.box rfl rfl rfl (fun b8 => ?_)
  refine SO.v rfl (opv_assign rfl) ?_
  refine SO.v rfl (opv_assign rfl) ?_
  refine SO.nil ?_
  refine S.to (ρ' := [(4, bp b8 0), (5, errV 59 none)]) ⟨rfl, rfl, trivial⟩ ?_
  cases h
  refine S.b2 ?_
  refine S.b2 ?_
  refine S.b2 ?_
  exact S.ret2 Try.func6 rfl rfl rfl (fun w hs hk => hR w _ _ ⟨b8, v4, rfl, rfl⟩ hs hk)
end Go.Proofs
namespace Go.Proofs
open Go.Sl Go.RowKit
/-! 5 padstone/padstonelaw07.up -/
def law07_up.f : Option (Bool) :=
  (word_New.f 4 9).bind fun (t1, t2) => oE t1 ((desc_New.f 1 ([(⟨2, 0, 0, 5, true⟩ : tx_Entry)])).bind fun t6 => some false) (fun t1p => (desc_New.f 1 ([(⟨2, 0, 0, 5, true⟩ : tx_Entry)])).bind fun t9 => bif t2.isSome || false then (some false) else ((desc_Desc_Step.f t9 t1p).bind fun (t16, p17, p18) => (word_Store_Read.f p18 2).bind fun (t24, t25) => (desc_Desc_Step.f p17 p18).bind fun (t28, p29, p30) => (desc_Desc_Status.f p29).bind fun t36 => (desc_Desc_Step.f p29 p30).bind fun (t38, p39, p40) => (word_Store_Read.f p40 2).bind fun (t46, t47) => (bif t16 == 0 then (some (t24.Mark == 1)) else (some false)).bind fun c51 => (bif c51 && (t36 == 1) then ((desc_Desc_Over.f p39).bind fun t57 => some t57) else (some false)).bind fun c55 => (bif c55 && (decide (t46 = (⟨5, 1, 0⟩ : api_Cell))) then ((desc_Desc_Mark.f p39).bind fun t63 => some (t63 == 1)) else (some false)).bind fun c61 => some c61))
set_option maxHeartbeats 8000000 in
set_option maxRecDepth 100000 in
theorem law07_up.ct (r0 : Bool) (h : law07_up.f  = some r0) :
    Ct Try.prog 5 [] (fun _ => True) [] (fun u H' => u = .bool r0 ∧ H' = []) := by
  unfold law07_up.f at h
  refine Ct.intro (n := 73) Try.func5 rfl rfl rfl ?_
  intro R w0 F hF hR
  refine S.seq ?_
  refine S.region ?_
  refine SO.v rfl (opv_assign rfl) ?_
  refine SO.nil ?_
  refine S.seq ?_
  refine S.region ?_
  obtain ⟨⟨t1, t2⟩, ht3, h⟩ := opt_bind h
  rcases t1 with _ | t1p
  · replace h := oE_n h
    refine SO.call (pre := []) rfl Try.call6 rfl rfl rfl (word_New.ct _ _ _ _ ht3) trivial ?_
    rintro _ _ ⟨rfl, rfl⟩
    refine SO.v rfl (opv_move rfl) ?_
    refine SO.v rfl (opv_extract rfl rfl) ?_
    refine SO.v rfl (opv_extract rfl rfl) ?_
    refine SO.v rfl (opv_assign rfl) ?_
    refine SO.v rfl (opv_assign rfl) ?_
    refine SO.nil ?_
    refine S.seq ?_
    refine S.region ?_
    refine SO.v rfl (opv_build (v := .agg #[.int .i64 2, .int .u32 0, .int .u64 0, .int .u64 5, .bool true]) rfl (by intro w; kernel_rfl)) ?_
    refine SO.buildSlice (K := ek_tx_Entry) (xs := [(⟨2, 0, 0, 5, true⟩ : tx_Entry)]) (cs := [.int .i64 2, .int .u32 0, .int .u64 0, .int .u64 5, .bool true]) rfl Try.underlying37 Try.sizeOf53 Try.zeroValue53 rfl rfl rfl (by kernel_rfl) rfl rfl rfl (fun v4 hr5 => ?_)
    obtain ⟨t6, ht7, h⟩ := opt_bind h
    have ct11 := desc_New.ct v4 _ _ _ ht7
    try dsimp only at ct11
    refine SO.call (pre := []) rfl Try.call7 rfl rfl rfl ct11 (Rd.head hr5) ?_
    rintro _ _ ⟨b8, u9_l, rfl, rfl⟩
    refine SO.b1 ?_
    refine SO.rd fun hr10 => ?_
    refine SO.v rfl (opv_assign rfl) ?_
    refine SO.nil ?_
    refine S.to (ρ' := [(0, .bool false), (1, .pointer none), (2, errV 59 t2), (3, bp b8 0)]) ⟨rfl, rfl, rfl, rfl, trivial⟩ ?_
    refine S.seq ?_
    refine S.seq ?_
    refine S.region ?_
    refine SO.v rfl (opv_move rfl) ?_
    refine SO.v rfl (opv_eqlPN Try.underlying26 rfl) ?_
    refine SO.v rfl (opv_move rfl) ?_
    refine SO.passF rfl rfl rfl rfl rfl rfl ?_
    refine SO.passF rfl rfl rfl rfl rfl rfl ?_
    refine SO.v rfl (opv_pick_tt rfl rfl) ?_
    refine SO.v rfl (opv_move rfl) ?_
    refine SO.passF rfl rfl rfl rfl rfl rfl ?_
    refine SO.passF rfl rfl rfl rfl rfl rfl ?_
    refine SO.v rfl (opv_pick_tt rfl rfl) ?_
    refine SO.nil ?_
    refine S.to (ρ' := [(0, .bool false), (1, .pointer none), (3, bp b8 0), (26, .bool true)]) ⟨rfl, rfl, rfl, rfl, trivial⟩ ?_
    refine S.cond_true rfl ?_
    refine S.seq ?_
    refine S.region ?_
    refine SO.v rfl (opv_assign rfl) ?_
    refine SO.nil ?_
    cases h
    refine S.drop ?_
    refine S.drop ?_
    refine S.drop ?_
    exact S.ret1 Try.func5 rfl rfl (fun w hs hk => hR w _ _ ⟨rfl, rfl⟩ hs hk)
  replace h := oE_s h
  refine SO.call (pre := []) rfl Try.call6 rfl rfl rfl (word_New.ct _ _ _ _ ht3) trivial ?_
  rintro _ _ ⟨b4, u5_l, rfl, rfl⟩
  refine SO.b1 ?_
  refine SO.rd fun hr6 => ?_
  refine SO.v rfl (opv_move rfl) ?_
  refine SO.v rfl (opv_extract rfl rfl) ?_
  refine SO.v rfl (opv_extract rfl rfl) ?_
  refine SO.v rfl (opv_assign rfl) ?_
  refine SO.v rfl (opv_assign rfl) ?_
  refine SO.nil ?_
  refine S.seq ?_
  refine S.region ?_
  refine SO.v rfl (opv_build (v := .agg #[.int .i64 2, .int .u32 0, .int .u64 0, .int .u64 5, .bool true]) rfl (by intro w; kernel_rfl)) ?_
  refine SO.buildSlice (K := ek_tx_Entry) (xs := [(⟨2, 0, 0, 5, true⟩ : tx_Entry)]) (cs := [.int .i64 2, .int .u32 0, .int .u64 0, .int .u64 5, .bool true]) rfl Try.underlying37 Try.sizeOf53 Try.zeroValue53 rfl rfl rfl (by kernel_rfl) rfl rfl rfl (fun v7 hr8 => ?_)
  obtain ⟨t9, ht10, h⟩ := opt_bind h
  have ct65 := desc_New.ct v7 _ _ _ ht10
  try dsimp only at ct65
  refine SO.call (pre := []) rfl Try.call7 rfl rfl rfl ct65 (Rd.head hr8) ?_
  rintro _ _ ⟨b11, u12_l, rfl, rfl⟩
  refine SO.b1 ?_
  refine SO.rd fun hr13 => ?_
  refine SO.v rfl (opv_assign rfl) ?_
  refine SO.nil ?_
  refine S.to (ρ' := [(0, .bool false), (1, bp b4 0), (2, errV 59 t2), (3, bp b11 0)]) ⟨rfl, rfl, rfl, rfl, trivial⟩ ?_
  refine S.seq ?_
  refine S.seq ?_
  refine S.region ?_
  refine SO.v rfl (opv_move rfl) ?_
  refine SO.v rfl (opv_eqlP Try.underlying26 rfl) ?_
  refine SO.v rfl (opv_move rfl) ?_
  refine SO.takeT rfl rfl rfl rfl ?_
  refine SO.v rfl (opv_move rfl) ?_
  refine SO.takeT rfl rfl rfl rfl ?_
  refine SO.v rfl (opv_neqN (e := t2) Try.underlying28 rfl) ?_
  refine SO.v rfl (opv_pick_ff rfl rfl) ?_
  refine SO.v rfl (opv_move rfl) ?_
  refine SO.cut 3 26 (.bool (t2.isSome || false)) [Own 53 ek_tx_Entry u12_l t9.l, Box b11 [.int .i64 t9.mark, u12_l, .int .i64 t9.status, .int .i64 t9.at_], Own 53 ek_tx_Entry v7 ([(⟨2, 0, 0, 5, true⟩ : tx_Entry)]), Own 55 ek_api_Cell u5_l t1p.l, Box b4 [u5_l, .int .u32 t1p.limit], F] (fun l2 hk2 => ?_) ?_
  · rcases bool_or t2.isSome with b14 | b14
    · refine SO.passF rfl rfl rfl b14 rfl rfl ?_
      refine SO.passF rfl rfl rfl b14 rfl rfl ?_
      refine SO.v rfl (opv_pick_t' b14 rfl rfl) ?_
      refine SO.b5 ?_
      refine SO.b5 ?_
      refine SO.b5 ?_
      refine SO.b5 ?_
      refine SO.b5 ?_
      refine SO.b5 ?_
      exact hk2.fitc (m := 3) rfl (or_t b14) rfl
    refine SO.takeT rfl rfl rfl b14 ?_
    refine SO.v rfl (opv_move rfl) ?_
    refine SO.takeT rfl rfl rfl b14 ?_
    refine SO.v rfl (opv_eqlP Try.underlying38 rfl) ?_
    refine SO.v rfl (opv_pick_f' b14 rfl rfl) ?_
    refine SO.b5 ?_
    refine SO.b5 ?_
    refine SO.b5 ?_
    refine SO.b5 ?_
    refine SO.b5 ?_
    refine SO.b5 ?_
    exact hk2.fitc (m := 3) rfl (or_f b14) rfl
  refine SO.nil ?_
  refine S.to (ρ' := [(0, .bool false), (1, bp b4 0), (3, bp b11 0), (26, .bool (t2.isSome || false))]) ⟨rfl, rfl, rfl, rfl, trivial⟩ ?_
  rcases bool_or (t2.isSome || false) with b15 | b15
  · replace h := cond_t b15 h
    refine S.condT rfl b15 ?_
    refine S.seq ?_
    refine S.region ?_
    refine SO.v rfl (opv_assign rfl) ?_
    refine SO.nil ?_
    cases h
    refine S.drop ?_
    refine S.drop ?_
    refine S.drop ?_
    refine S.drop ?_
    refine S.drop ?_
    exact S.ret1 Try.func5 rfl rfl (fun w hs hk => hR w _ _ ⟨rfl, rfl⟩ hs hk)
  replace h := cond_f b15 h
  refine S.condF rfl b15 ?_
  refine S.skip ?_
  refine S.seq ?_
  refine S.region ?_
  refine SO.v rfl (opv_move rfl) ?_
  refine SO.v rfl (opv_move rfl) ?_
  obtain ⟨⟨t16, p17, p18⟩, ht19, h⟩ := opt_bind h
  refine SO.b3 ?_
  refine SO.b4 ?_
  refine SO.b2 ?_
  refine SO.b3 ?_
  refine SO.call (pre := [Box _ _, Own _ _ _ _, Box _ _, Own _ _ _ _]) rfl Try.call9 rfl rfl rfl (desc_Desc_Step.ct b11 u12_l b4 u5_l _ _ _ _ _ ht19) trivial ?_
  rintro _ _ ⟨u20_l, u22_l, rfl, rfl⟩
  refine SO.b1 ?_
  refine SO.rd fun hr21 => ?_
  refine SO.b3 ?_
  refine SO.rd fun hr23 => ?_
  refine SO.v rfl (opv_assign rfl) ?_
  refine SO.nil ?_
  refine S.seq ?_
  refine S.region ?_
  refine SO.v rfl (opv_move rfl) ?_
  obtain ⟨⟨t24, t25⟩, ht26, h⟩ := opt_bind h
  refine SO.b3 ?_
  refine SO.call (pre := [Box _ _, Own _ _ _ _]) rfl Try.call17 rfl rfl rfl (word_Store_Read.ct b4 u22_l _ _ _ _ ht26) trivial ?_
  rintro _ _ ⟨rfl, rfl⟩
  refine SO.v rfl (opv_move rfl) ?_
  refine SO.v rfl (opv_extract rfl rfl) ?_
  refine SO.v rfl (opv_extract rfl rfl) ?_
  refine SO.alloc rfl Try.zeroValue55 rfl (fun b27 => ?_)
  refine SO.storeN Try.sizeOf55 rfl rfl rfl rfl rfl rfl ?_
  refine SO.v rfl (opv_assign rfl) ?_
  refine SO.nil ?_
  refine S.to (ρ' := [(0, .bool false), (1, bp b4 0), (3, bp b11 0), (4, .int .i64 t16), (5, bp b27 0)]) ⟨rfl, rfl, rfl, rfl, rfl, trivial⟩ ?_
  refine S.seq ?_
  refine S.region ?_
  refine SO.v rfl (opv_move rfl) ?_
  refine SO.v rfl (opv_move rfl) ?_
  obtain ⟨⟨t28, p29, p30⟩, ht31, h⟩ := opt_bind h
  refine SO.b2 ?_
  refine SO.b2 ?_
  refine SO.b3 ?_
  refine SO.b4 ?_
  refine SO.call (pre := [Box _ _, Own _ _ _ _, Box _ _, Own _ _ _ _]) rfl Try.call9 rfl rfl rfl (desc_Desc_Step.ct b11 u20_l b4 u22_l _ _ _ _ _ ht31) trivial ?_
  rintro _ _ ⟨u32_l, u34_l, rfl, rfl⟩
  refine SO.b1 ?_
  refine SO.rd fun hr33 => ?_
  refine SO.b3 ?_
  refine SO.rd fun hr35 => ?_
  refine SO.nil ?_
  refine S.seq ?_
  refine S.region ?_
  refine SO.v rfl (opv_move rfl) ?_
  obtain ⟨t36, ht37, h⟩ := opt_bind h
  refine SO.b1 ?_
  refine SO.b2 ?_
  refine SO.call (pre := [Box _ _, Own _ _ _ _]) rfl Try.call11 rfl rfl rfl (desc_Desc_Status.ct b11 u32_l _ _ ht37) trivial ?_
  rintro _ _ ⟨rfl, rfl⟩
  refine SO.v rfl (opv_assign rfl) ?_
  refine SO.nil ?_
  refine S.seq ?_
  refine S.region ?_
  refine SO.v rfl (opv_move rfl) ?_
  refine SO.v rfl (opv_move rfl) ?_
  obtain ⟨⟨t38, p39, p40⟩, ht41, h⟩ := opt_bind h
  refine SO.b2 ?_
  refine SO.b3 ?_
  refine SO.b3 ?_
  refine SO.b3 ?_
  refine SO.call (pre := [Box _ _, Own _ _ _ _, Box _ _, Own _ _ _ _]) rfl Try.call9 rfl rfl rfl (desc_Desc_Step.ct b11 u32_l b4 u34_l _ _ _ _ _ ht41) trivial ?_
  rintro _ _ ⟨u42_l, u44_l, rfl, rfl⟩
  refine SO.b1 ?_
  refine SO.rd fun hr43 => ?_
  refine SO.b3 ?_
  refine SO.rd fun hr45 => ?_
  refine SO.nil ?_
  refine S.to (ρ' := [(0, .bool false), (1, bp b4 0), (3, bp b11 0), (4, .int .i64 t16), (5, bp b27 0), (7, .int .i64 t36)]) ⟨rfl, rfl, rfl, rfl, rfl, rfl, trivial⟩ ?_
  refine S.seq ?_
  refine S.region ?_
  refine SO.v rfl (opv_move rfl) ?_
  obtain ⟨⟨t46, t47⟩, ht48, h⟩ := opt_bind h
  refine SO.b3 ?_
  refine SO.call (pre := [Box _ _, Own _ _ _ _]) rfl Try.call17 rfl rfl rfl (word_Store_Read.ct b4 u44_l _ _ _ _ ht48) trivial ?_
  rintro _ _ ⟨rfl, rfl⟩
  refine SO.v rfl (opv_move rfl) ?_
  refine SO.v rfl (opv_extract rfl rfl) ?_
  refine SO.v rfl (opv_extract rfl rfl) ?_
  refine SO.alloc rfl Try.zeroValue55 rfl (fun b49 => ?_)
  refine SO.storeN Try.sizeOf55 rfl rfl rfl rfl rfl rfl ?_
  refine SO.v rfl (opv_assign rfl) ?_
  refine SO.nil ?_
  refine S.to (ρ' := [(0, .bool false), (3, bp b11 0), (4, .int .i64 t16), (5, bp b27 0), (7, .int .i64 t36), (8, bp b49 0)]) ⟨rfl, rfl, rfl, rfl, rfl, rfl, trivial⟩ ?_
  refine S.seq ?_
  refine S.region ?_
  refine SO.v rfl (opv_move rfl) ?_
  refine SO.v rfl (opv_eql rfl rfl) ?_
  refine SO.v rfl (opv_move rfl) ?_
  obtain ⟨c51, hc52, hgk⟩ := opt_bind h
  refine SO.cut 4 54 (.bool c51) [Box b49 [.int .u64 t46.Value, .int .u32 t46.Version, .int .i64 t46.Mark], Box b4 [u44_l, .int .u32 p40.limit], Own 55 ek_api_Cell u44_l p40.l, Own 53 ek_tx_Entry u42_l p39.l, Box b11 [.int .i64 p39.mark, u42_l, .int .i64 p39.status, .int .i64 p39.at_], Box b27 [.int .u64 t24.Value, .int .u32 t24.Version, .int .i64 t24.Mark], Own 53 ek_tx_Entry v7 ([(⟨2, 0, 0, 5, true⟩ : tx_Entry)]), F] (fun l2 hk2 => ?_) ?_
  · clear hgk
    replace h := hc52
    rcases bool_or (t16 == 0) with b50 | b50
    · replace h := cond_t b50 h
      refine SO.takeT rfl rfl rfl b50 ?_
      refine SO.v rfl (opv_fieldAddr Try.underlying55 rfl Try.sizeOf3 rfl rfl) ?_
      refine SO.takeT rfl rfl rfl b50 ?_
      refine SO.b5 ?_
      refine SO.load1 rfl Try.isAgg3 rfl rfl ?_
      refine SO.takeT rfl rfl rfl b50 ?_
      refine SO.v rfl (opv_eql rfl rfl) ?_
      cases h
      refine SO.v rfl (opv_pick_t' b50 rfl rfl) ?_
      refine SO.b7 ?_
      refine SO.b7 ?_
      refine SO.b2 ?_
      refine SO.b7 ?_
      refine SO.b7 ?_
      refine SO.b7 ?_
      refine SO.b7 ?_
      refine SO.b7 ?_
      exact hk2.fitc (m := 4) rfl (rfl) rfl
    replace h := cond_f b50 h
    refine SO.passF rfl rfl rfl b50 rfl rfl ?_
    refine SO.passF rfl rfl rfl b50 rfl rfl ?_
    refine SO.passF rfl rfl rfl b50 rfl rfl ?_
    cases h
    refine SO.v rfl (opv_pick_f' b50 rfl rfl) ?_
    refine SO.b7 ?_
    refine SO.b7 ?_
    refine SO.b7 ?_
    refine SO.b7 ?_
    refine SO.b7 ?_
    refine SO.b7 ?_
    refine SO.b7 ?_
    refine SO.b7 ?_
    exact hk2.fitc (m := 4) rfl (rfl) rfl
  clear hc52
  replace h := hgk
  refine SO.v rfl (opv_move rfl) ?_
  refine SO.cut 3 58 (.bool (c51 && (t36 == 1))) [Box b49 [.int .u64 t46.Value, .int .u32 t46.Version, .int .i64 t46.Mark], Box b4 [u44_l, .int .u32 p40.limit], Own 55 ek_api_Cell u44_l p40.l, Own 53 ek_tx_Entry u42_l p39.l, Box b11 [.int .i64 p39.mark, u42_l, .int .i64 p39.status, .int .i64 p39.at_], Box b27 [.int .u64 t24.Value, .int .u32 t24.Version, .int .i64 t24.Mark], Own 53 ek_tx_Entry v7 ([(⟨2, 0, 0, 5, true⟩ : tx_Entry)]), F] (fun l2 hk2 => ?_) ?_
  · rcases bool_or c51 with b53 | b53
    · refine SO.takeT rfl rfl rfl b53 ?_
      refine SO.v rfl (opv_move rfl) ?_
      refine SO.takeT rfl rfl rfl b53 ?_
      refine SO.v rfl (opv_eql rfl rfl) ?_
      refine SO.v rfl (opv_pick_t' b53 rfl rfl) ?_
      refine SO.b7 ?_
      refine SO.b7 ?_
      refine SO.b7 ?_
      refine SO.b7 ?_
      refine SO.b7 ?_
      refine SO.b7 ?_
      refine SO.b7 ?_
      refine SO.b7 ?_
      exact hk2.fitc (m := 3) rfl (and_t b53) rfl
    refine SO.passF rfl rfl rfl b53 rfl rfl ?_
    refine SO.passF rfl rfl rfl b53 rfl rfl ?_
    refine SO.v rfl (opv_pick_f' b53 rfl rfl) ?_
    refine SO.b7 ?_
    refine SO.b7 ?_
    refine SO.b7 ?_
    refine SO.b7 ?_
    refine SO.b7 ?_
    refine SO.b7 ?_
    refine SO.b7 ?_
    refine SO.b7 ?_
    exact hk2.fitc (m := 3) rfl (and_f b53) rfl
  refine SO.v rfl (opv_move rfl) ?_
  obtain ⟨c55, hc56, hgk⟩ := opt_bind h
  refine SO.cut 3 62 (.bool c55) [Box b49 [.int .u64 t46.Value, .int .u32 t46.Version, .int .i64 t46.Mark], Box b4 [u44_l, .int .u32 p40.limit], Own 55 ek_api_Cell u44_l p40.l, Own 53 ek_tx_Entry u42_l p39.l, Box b11 [.int .i64 p39.mark, u42_l, .int .i64 p39.status, .int .i64 p39.at_], Box b27 [.int .u64 t24.Value, .int .u32 t24.Version, .int .i64 t24.Mark], Own 53 ek_tx_Entry v7 ([(⟨2, 0, 0, 5, true⟩ : tx_Entry)]), F] (fun l2 hk2 => ?_) ?_
  · clear hgk
    replace h := hc56
    rcases bool_or (c51 && (t36 == 1)) with b54 | b54
    · replace h := cond_t b54 h
      refine SO.takeT rfl rfl rfl b54 ?_
      refine SO.v rfl (opv_move rfl) ?_
      refine SO.takeT rfl rfl rfl b54 ?_
      obtain ⟨t57, ht58, h⟩ := opt_bind h
      refine SO.b3 ?_
      refine SO.b4 ?_
      refine SO.call (pre := [Box _ _, Own _ _ _ _]) rfl Try.call12 rfl rfl rfl (desc_Desc_Over.ct b11 u42_l _ _ ht58) trivial ?_
      rintro _ _ ⟨rfl, rfl⟩
      cases h
      refine SO.v rfl (opv_pick_t' b54 rfl rfl) ?_
      refine SO.b7 ?_
      refine SO.b7 ?_
      refine SO.b7 ?_
      refine SO.b3 ?_
      refine SO.b4 ?_
      refine SO.b7 ?_
      refine SO.b7 ?_
      refine SO.b7 ?_
      exact hk2.fitc (m := 3) rfl (rfl) rfl
    replace h := cond_f b54 h
    refine SO.passF rfl rfl rfl b54 rfl rfl ?_
    refine SO.passF rfl rfl rfl b54 rfl rfl ?_
    cases h
    refine SO.v rfl (opv_pick_f' b54 rfl rfl) ?_
    refine SO.b7 ?_
    refine SO.b7 ?_
    refine SO.b7 ?_
    refine SO.b7 ?_
    refine SO.b7 ?_
    refine SO.b7 ?_
    refine SO.b7 ?_
    refine SO.b7 ?_
    exact hk2.fitc (m := 3) rfl (rfl) rfl
  clear hc56
  replace h := hgk
  refine SO.v rfl (opv_move rfl) ?_
  refine SO.cut 4 67 (.bool (c55 && (decide (t46 = (⟨5, 1, 0⟩ : api_Cell))))) [Box b49 [.int .u64 t46.Value, .int .u32 t46.Version, .int .i64 t46.Mark], Box b4 [u44_l, .int .u32 p40.limit], Own 55 ek_api_Cell u44_l p40.l, Own 53 ek_tx_Entry u42_l p39.l, Box b11 [.int .i64 p39.mark, u42_l, .int .i64 p39.status, .int .i64 p39.at_], Box b27 [.int .u64 t24.Value, .int .u32 t24.Version, .int .i64 t24.Mark], Own 53 ek_tx_Entry v7 ([(⟨2, 0, 0, 5, true⟩ : tx_Entry)]), F] (fun l2 hk2 => ?_) ?_
  · rcases bool_or c55 with b59 | b59
    · refine SO.takeT rfl rfl rfl b59 ?_
      refine SO.loadN rfl Try.isAgg55 Try.sizeOf55 rfl rfl rfl ?_
      refine SO.takeT rfl rfl rfl b59 ?_
      refine SO.v rfl (opv_build (v := .agg #[.int .u64 5, .int .u32 1, .int .i64 0]) rfl (by intro w; kernel_rfl)) ?_
      refine SO.takeT rfl rfl rfl b59 ?_
      refine SO.v rfl (eq_eql_api_Cell (x := t46) (y := (⟨5, 1, 0⟩ : api_Cell)) rfl rfl) ?_
      refine SO.v rfl (opv_pick_t' b59 rfl rfl) ?_
      refine SO.b7 ?_
      refine SO.b7 ?_
      refine SO.b7 ?_
      refine SO.b7 ?_
      refine SO.b7 ?_
      refine SO.b7 ?_
      refine SO.b7 ?_
      refine SO.b7 ?_
      exact hk2.fitc (m := 4) rfl (and_t b59) rfl
    refine SO.passF rfl rfl rfl b59 rfl rfl ?_
    refine SO.passF rfl rfl rfl b59 rfl rfl ?_
    refine SO.passF rfl rfl rfl b59 rfl rfl ?_
    refine SO.v rfl (opv_pick_f' b59 rfl rfl) ?_
    refine SO.b7 ?_
    refine SO.b7 ?_
    refine SO.b7 ?_
    refine SO.b7 ?_
    refine SO.b7 ?_
    refine SO.b7 ?_
    refine SO.b7 ?_
    refine SO.b7 ?_
    exact hk2.fitc (m := 4) rfl (and_f b59) rfl
  refine SO.v rfl (opv_move rfl) ?_
  obtain ⟨c61, hc62, hgk⟩ := opt_bind h
  refine SO.cut 4 72 (.bool c61) [Box b49 [.int .u64 t46.Value, .int .u32 t46.Version, .int .i64 t46.Mark], Box b4 [u44_l, .int .u32 p40.limit], Own 55 ek_api_Cell u44_l p40.l, Own 53 ek_tx_Entry u42_l p39.l, Box b11 [.int .i64 p39.mark, u42_l, .int .i64 p39.status, .int .i64 p39.at_], Box b27 [.int .u64 t24.Value, .int .u32 t24.Version, .int .i64 t24.Mark], Own 53 ek_tx_Entry v7 ([(⟨2, 0, 0, 5, true⟩ : tx_Entry)]), F] (fun l2 hk2 => ?_) ?_
  · clear hgk
    replace h := hc62
    rcases bool_or (c55 && (decide (t46 = (⟨5, 1, 0⟩ : api_Cell)))) with b60 | b60
    · replace h := cond_t b60 h
      refine SO.takeT rfl rfl rfl b60 ?_
      refine SO.v rfl (opv_move rfl) ?_
      refine SO.takeT rfl rfl rfl b60 ?_
      obtain ⟨t63, ht64, h⟩ := opt_bind h
      refine SO.b3 ?_
      refine SO.b4 ?_
      refine SO.call (pre := [Box _ _, Own _ _ _ _]) rfl Try.call14 rfl rfl rfl (desc_Desc_Mark.ct b11 u42_l _ _ ht64) trivial ?_
      rintro _ _ ⟨rfl, rfl⟩
      refine SO.takeT rfl rfl rfl b60 ?_
      refine SO.v rfl (opv_eql rfl rfl) ?_
      cases h
      refine SO.v rfl (opv_pick_t' b60 rfl rfl) ?_
      refine SO.b7 ?_
      refine SO.b7 ?_
      refine SO.b7 ?_
      refine SO.b3 ?_
      refine SO.b4 ?_
      refine SO.b7 ?_
      refine SO.b7 ?_
      refine SO.b7 ?_
      exact hk2.fitc (m := 4) rfl (rfl) rfl
    replace h := cond_f b60 h
    refine SO.passF rfl rfl rfl b60 rfl rfl ?_
    refine SO.passF rfl rfl rfl b60 rfl rfl ?_
    refine SO.passF rfl rfl rfl b60 rfl rfl ?_
    cases h
    refine SO.v rfl (opv_pick_f' b60 rfl rfl) ?_
    refine SO.b7 ?_
    refine SO.b7 ?_
    refine SO.b7 ?_
    refine SO.b7 ?_
    refine SO.b7 ?_
    refine SO.b7 ?_
    refine SO.b7 ?_
    refine SO.b7 ?_
    exact hk2.fitc (m := 4) rfl (rfl) rfl
  clear hc62
  replace h := hgk
  refine SO.v rfl (opv_assign rfl) ?_
  refine SO.nil ?_
  refine S.to (ρ' := [(0, .bool c61)]) ⟨rfl, trivial⟩ ?_
  cases h
  refine S.drop ?_
  refine S.drop ?_
  refine S.drop ?_
  refine S.drop ?_
  refine S.drop ?_
  refine S.drop ?_
  refine S.drop ?_
  exact S.ret1 Try.func5 rfl rfl (fun w hs hk => hR w _ _ ⟨rfl, rfl⟩ hs hk)
end Go.Proofs
namespace Go.Proofs
open Go.Sl Go.RowKit
/-! 4 padstone/padstonelaw07.DescHelps -/
def law07_DescHelps.l1 (a0 : Int) (a1 : List (List tx_Entry)) (t1 : Bool) : Nat → (Int × Int × (List desc_Desc)) → Option (Brk Bool ((List desc_Desc) × Int))
  | 0, _ => none
  | k + 1, (x12_1, x11_1, x10_1) => bif decide (x12_1 < (a1.length : Int)) then ((at_ a1 x12_1).bind fun x16 => (law07_rising.f k x16 a0).bind fun t21 => bif !t21 then (some (Brk.ret t1)) else ((at_ a1 x12_1).bind fun x24 => (at_ a1 x12_1).bind fun x29 => (desc_New.f (w64 (x12_1 + 1)) x29).bind fun t34 => (app x10_1 ([t34])).bind fun zs41 => law07_DescHelps.l1 a0 a1 t1 k (w64 (x12_1 + 1), w64 ((w64 (x11_1 + (w64 (2 * (x24.length : Int))))) + 1), zs41))) else (some (Brk.nx (x10_1, x11_1)))
def law07_DescHelps.l6 (a1 : List (List tx_Entry)) (x17_4 : Int) : Nat → (Int × (List api_Cell)) → Option (Brk Bool (List api_Cell))
  | 0, _ => none
  | k + 1, (x21_6, qv44_6) => (at_ a1 x17_4).bind fun x87 => bif decide (x21_6 < (x87.length : Int)) then ((at_ a1 x17_4).bind fun x93 => (at_ x93 x21_6).bind fun x98 => (at_ qv44_6 x98.Cell).bind fun x101 => bif x101.Version != x98.Version then (some (Brk.ret false)) else (bif x98.Write then ((at_ qv44_6 x98.Cell).bind fun x105 => law07_DescHelps.l6 a1 x17_4 k (w64 (x21_6 + 1), qv44_6.set x98.Cell.toNat (⟨x98.New, wu32 (x98.Version + 1), 0⟩ : api_Cell))) else (law07_DescHelps.l6 a1 x17_4 k (w64 (x21_6 + 1), qv44_6)))) else (some (Brk.nx qv44_6))
def law07_DescHelps.l4 (a1 : List (List tx_Entry)) : Nat → (Int × Int × Int × (List api_Cell) × Int × (List desc_Desc) × (List api_Cell)) → Option (Brk Bool (Int × (List api_Cell) × Int × (List desc_Desc) × (List api_Cell)))
  | 0, _ => none
  | k + 1, (x18_4, x14_4, x17_4, y11_0_4, y11_1_4, qv10_e1_4, qv44_4) => bif decide (x18_4 ≤ (qv10_e1_4.length : Int)) then ((at_ qv10_e1_4 x17_4).bind fun x61 => (desc_Desc_Status.f x61).bind fun t70 => (desc_Desc_Step.f x61 (⟨y11_0_4, y11_1_4⟩ : word_Store)).bind fun (t72, p73, p74) => (bif t70 == 0 then ((desc_Desc_Status.f p73).bind fun t83 => some (t83 == 1)) else (some false)).bind fun c81 => (((bif c81 then ((law07_DescHelps.l6 a1 x17_4 k (0, qv44_4)).bind fun o6 => Brk.go o6 (fun r => some (Brk.ret r)) (fun qv44_e6 => some (Brk.nx qv44_e6))) else (some (Brk.nx qv44_4))) : Option (Brk Bool (List api_Cell)))).bind fun o5 => Brk.go o5 (fun r => some (Brk.ret r)) (fun qv44_5 => bif t72 == 0 then (some (Brk.nx (w64 (x14_4 + 1), p74.l, p74.limit, qv10_e1_4.set x17_4.toNat p73, qv44_5))) else ((bif decide (t72 < 1) then (some true) else (some (decide (((qv10_e1_4.set x17_4.toNat p73).length : Int) < t72)))).bind fun c112 => (bif c112 then (some true) else (some (x18_4 == ((qv10_e1_4.set x17_4.toNat p73).length : Int)))).bind fun c115 => bif c115 then (some (Brk.ret false)) else (law07_DescHelps.l4 a1 k (w64 (x18_4 + 1), w64 (x14_4 + 1), w64 (t72 - 1), p74.l, p74.limit, qv10_e1_4.set x17_4.toNat p73, qv44_5))))) else (some (Brk.nx (x14_4, y11_0_4, y11_1_4, qv10_e1_4, qv44_4)))
def law07_DescHelps.l7 (qv10_e1_e4 : List desc_Desc) : Nat → (Int × Int) → Option (Int)
  | 0, _ => none
  | k + 1, (x23_7, x15_7) => bif decide (x23_7 < (qv10_e1_e4.length : Int)) then ((at_ qv10_e1_e4 x23_7).bind fun x122 => (desc_Desc_Over.f x122).bind fun t131 => bif !t131 then (law07_DescHelps.l7 qv10_e1_e4 k (w64 (x23_7 + 1), w64 (x15_7 + 1))) else (law07_DescHelps.l7 qv10_e1_e4 k (w64 (x23_7 + 1), x15_7))) else (some x15_7)
def law07_DescHelps.l2 (a1 : List (List tx_Entry)) (a2 : List Int) (j11_e1 : Int) : Nat → (Int × Int × Int × (List api_Cell) × Int × (List desc_Desc) × (List api_Cell)) → Option (Brk Bool (Int × (List api_Cell) × Int × (List desc_Desc) × (List api_Cell)))
  | 0, _ => none
  | k + 1, (x16_2, x15_2, x14_2, y11_0_2, y11_1_2, qv10_e1_2, qv44_2) => bif (decide (x16_2 < (w64 ((a2.length : Int) + (w64 (j11_e1 * (qv10_e1_2.length : Int))))))) && (decide (0 < x15_2)) then ((chk (decide ((qv10_e1_2.length : Int) ≠ 0))).bind fun _ => (bif decide (x16_2 < (a2.length : Int)) then ((at_ a2 x16_2).bind fun x54 => (chk (decide ((qv10_e1_2.length : Int) ≠ 0))).bind fun _ => bif decide ((x54.tmod (qv10_e1_2.length : Int)) < 0) then (some (w64 (0 - (x54.tmod (qv10_e1_2.length : Int))))) else (some (x54.tmod (qv10_e1_2.length : Int)))) else (some (x16_2.tmod (qv10_e1_2.length : Int)))).bind fun j17_3 => (law07_DescHelps.l4 a1 k (0, x14_2, j17_3, y11_0_2, y11_1_2, qv10_e1_2, qv44_2)).bind fun o4 => Brk.go o4 (fun r => some (Brk.ret r)) (fun (j14_e4, y11_0_e4, y11_1_e4, qv10_e1_e4, qv44_e4) => (law07_DescHelps.l7 qv10_e1_e4 k (0, 0)).bind fun j15_e7 => law07_DescHelps.l2 a1 a2 j11_e1 k (w64 (x16_2 + 1), j15_e7, j14_e4, y11_0_e4, y11_1_e4, qv10_e1_e4, qv44_e4))) else (some (Brk.nx (x15_2, y11_0_2, y11_1_2, qv10_e1_2, qv44_2)))
def law07_DescHelps.l8 (a0 : Int) (y11_0_e2 : List api_Cell) (y11_1_e2 : Int) (qv44_e2 : List api_Cell) : Nat → Int → Option (Brk Bool Unit)
  | 0, _ => none
  | k + 1, x24_8 => bif decide (x24_8 < a0) then ((word_Store_Read.f (⟨y11_0_e2, y11_1_e2⟩ : word_Store) x24_8).bind fun (t137, t138) => (bif t138.isSome then (some true) else ((at_ qv44_e2 x24_8).bind fun x142 => some (!decide (t137 = x142)))).bind fun j250_9 => bif j250_9 then (some (Brk.ret false)) else (law07_DescHelps.l8 a0 y11_0_e2 y11_1_e2 qv44_e2 k (w64 (x24_8 + 1)))) else (some (Brk.nx ()))
def law07_DescHelps.f (k : Nat) (a0 : Int) (a1 : List (List tx_Entry)) (a2 : List Int) : Option (Bool) :=
  (law07_up.f ).bind fun t1 => bif ((((decide (a0 < 1)) || (decide (30 < a0))) || (decide ((a1.length : Int) < 1))) || (decide (6 < (a1.length : Int)))) || (decide (300 < (a2.length : Int))) then (some t1) else ((word_New.f a0 1000).bind fun (t8, t9) => oE t8 (some false) (fun t8p => bif t9.isSome then (some false) else ((law07_DescHelps.l1 a0 a1 t1 k (0, 1, [])).bind fun o1 => Brk.go o1 (fun r => some r) (fun (j10_e1, j11_e1) => (mk_ (⟨0, 0, 0⟩ : api_Cell) a0).bind fun xs46 => (law07_DescHelps.l2 a1 a2 j11_e1 k (0, (j10_e1.length : Int), 0, t8p.l, t8p.limit, j10_e1, xs46)).bind fun o2 => Brk.go o2 (fun r => some r) (fun (j15_e2, y11_0_e2, y11_1_e2, qv10_e1_e2, qv44_e2) => (law07_DescHelps.l8 a0 y11_0_e2 y11_1_e2 qv44_e2 k 0).bind fun o8 => Brk.go o8 (fun r => some r) (fun _ => some (t1 && (j15_e2 == 0))))))))
set_option maxHeartbeats 8000000 in
set_option maxRecDepth 100000 in
theorem law07_DescHelps.ct (k : Nat) (v1 : Value) (v2 : Value) (a0 : Int) (a1 : List (List tx_Entry)) (a2 : List Int) (r0 : Bool) (h : law07_DescHelps.f k a0 a1 a2 = some r0) :
    Ct Try.prog 4 [.int .i64 a0, v1, v2] (fun F => Rd2 ek_tx_Entry v1 a1 F ∧ Rd (ekI .i64) v2 a2 F) [] (fun u H' => u = .bool r0 ∧ H' = []) := by
  unfold law07_DescHelps.f at h
  refine Ct.intro (n := 256) Try.func4 rfl rfl rfl ?_
  intro R w0 F hF hR
  obtain ⟨hF1, hF2⟩ := hF
  obtain ⟨vs1, hF1, hl1, hR1⟩ := hF1
  refine S.seq ?_
  refine S.region ?_
  refine SO.v rfl (opv_assign rfl) ?_
  refine SO.nil ?_
  refine S.seq ?_
  refine S.region ?_
  obtain ⟨t1, ht2, h⟩ := opt_bind h
  refine SO.call (pre := []) rfl Try.call5 rfl rfl rfl (law07_up.ct _ ht2) trivial ?_
  rintro _ _ ⟨rfl, rfl⟩
  refine SO.v rfl (opv_assign rfl) ?_
  refine SO.nil ?_
  refine S.seq ?_
  refine S.seq ?_
  refine S.region ?_
  refine SO.v rfl (opv_move rfl) ?_
  refine SO.v rfl (opv_lss rfl rfl) ?_
  refine SO.v rfl (opv_move rfl) ?_
  refine SO.cut 3 33 (.bool ((decide (a0 < 1)) || (decide (30 < a0)))) [F] (fun l2 hk2 => ?_) ?_
  · rcases bool_or (decide (a0 < 1)) with b3 | b3
    · refine SO.passF rfl rfl rfl b3 rfl rfl ?_
      refine SO.passF rfl rfl rfl b3 rfl rfl ?_
      refine SO.v rfl (opv_pick_t' b3 rfl rfl) ?_
      exact hk2.fitc (m := 3) rfl (or_t b3) rfl
    refine SO.takeT rfl rfl rfl b3 ?_
    refine SO.v rfl (opv_move rfl) ?_
    refine SO.takeT rfl rfl rfl b3 ?_
    refine SO.v rfl (opv_gtr rfl rfl) ?_
    refine SO.v rfl (opv_pick_f' b3 rfl rfl) ?_
    exact hk2.fitc (m := 3) rfl (or_f b3) rfl
  refine SO.v rfl (opv_move rfl) ?_
  refine SO.cut 4 38 (.bool (((decide (a0 < 1)) || (decide (30 < a0))) || (decide ((a1.length : Int) < 1)))) [F] (fun l2 hk2 => ?_) ?_
  · rcases bool_or ((decide (a0 < 1)) || (decide (30 < a0))) with b4 | b4
    · refine SO.passF rfl rfl rfl b4 rfl rfl ?_
      refine SO.passF rfl rfl rfl b4 rfl rfl ?_
      refine SO.passF rfl rfl rfl b4 rfl rfl ?_
      refine SO.v rfl (opv_pick_t' b4 rfl rfl) ?_
      exact hk2.fitc (m := 4) rfl (or_t b4) rfl
    refine SO.takeT rfl rfl rfl b4 ?_
    refine SO.v rfl (opv_move rfl) ?_
    refine SO.takeT rfl rfl rfl b4 ?_
    refine SO.v rfl (opv_len2 rfl Try.underlying23 hF1 hl1 rfl) ?_
    refine SO.takeT rfl rfl rfl b4 ?_
    refine SO.v rfl (opv_lss rfl rfl) ?_
    refine SO.v rfl (opv_pick_f' b4 rfl rfl) ?_
    exact hk2.fitc (m := 4) rfl (or_f b4) rfl
  refine SO.v rfl (opv_move rfl) ?_
  refine SO.cut 4 43 (.bool ((((decide (a0 < 1)) || (decide (30 < a0))) || (decide ((a1.length : Int) < 1))) || (decide (6 < (a1.length : Int))))) [F] (fun l2 hk2 => ?_) ?_
  · rcases bool_or (((decide (a0 < 1)) || (decide (30 < a0))) || (decide ((a1.length : Int) < 1))) with b5 | b5
    · refine SO.passF rfl rfl rfl b5 rfl rfl ?_
      refine SO.passF rfl rfl rfl b5 rfl rfl ?_
      refine SO.passF rfl rfl rfl b5 rfl rfl ?_
      refine SO.v rfl (opv_pick_t' b5 rfl rfl) ?_
      exact hk2.fitc (m := 4) rfl (or_t b5) rfl
    refine SO.takeT rfl rfl rfl b5 ?_
    refine SO.v rfl (opv_move rfl) ?_
    refine SO.takeT rfl rfl rfl b5 ?_
    refine SO.v rfl (opv_len2 rfl Try.underlying23 hF1 hl1 rfl) ?_
    refine SO.takeT rfl rfl rfl b5 ?_
    refine SO.v rfl (opv_gtr rfl rfl) ?_
    refine SO.v rfl (opv_pick_f' b5 rfl rfl) ?_
    exact hk2.fitc (m := 4) rfl (or_f b5) rfl
  refine SO.v rfl (opv_move rfl) ?_
  refine SO.cut 4 48 (.bool (((((decide (a0 < 1)) || (decide (30 < a0))) || (decide ((a1.length : Int) < 1))) || (decide (6 < (a1.length : Int)))) || (decide (300 < (a2.length : Int))))) [F] (fun l2 hk2 => ?_) ?_
  · rcases bool_or ((((decide (a0 < 1)) || (decide (30 < a0))) || (decide ((a1.length : Int) < 1))) || (decide (6 < (a1.length : Int)))) with b6 | b6
    · refine SO.passF rfl rfl rfl b6 rfl rfl ?_
      refine SO.passF rfl rfl rfl b6 rfl rfl ?_
      refine SO.passF rfl rfl rfl b6 rfl rfl ?_
      refine SO.v rfl (opv_pick_t' b6 rfl rfl) ?_
      exact hk2.fitc (m := 4) rfl (or_t b6) rfl
    refine SO.takeT rfl rfl rfl b6 ?_
    refine SO.v rfl (opv_move rfl) ?_
    refine SO.takeT rfl rfl rfl b6 ?_
    refine SO.v rfl (opv_lenR rfl Try.underlying24 hF2 rfl) ?_
    refine SO.takeT rfl rfl rfl b6 ?_
    refine SO.v rfl (opv_gtr rfl rfl) ?_
    refine SO.v rfl (opv_pick_f' b6 rfl rfl) ?_
    exact hk2.fitc (m := 4) rfl (or_f b6) rfl
  refine SO.nil ?_
  refine S.to (ρ' := [(0, .int .i64 a0), (1, v1), (2, v2), (6, .bool false), (7, .bool t1), (48, .bool (((((decide (a0 < 1)) || (decide (30 < a0))) || (decide ((a1.length : Int) < 1))) || (decide (6 < (a1.length : Int)))) || (decide (300 < (a2.length : Int)))))]) ⟨rfl, rfl, rfl, rfl, rfl, rfl, trivial⟩ ?_
  rcases bool_or (((((decide (a0 < 1)) || (decide (30 < a0))) || (decide ((a1.length : Int) < 1))) || (decide (6 < (a1.length : Int)))) || (decide (300 < (a2.length : Int)))) with b7 | b7
  · replace h := cond_t b7 h
    refine S.condT rfl b7 ?_
    refine S.seq ?_
    refine S.region ?_
    refine SO.v rfl (opv_move rfl) ?_
    refine SO.v rfl (opv_assign rfl) ?_
    refine SO.nil ?_
    cases h
    exact S.ret1 Try.func4 rfl rfl (fun w hs hk => hR w _ _ ⟨rfl, rfl⟩ hs hk)
  replace h := cond_f b7 h
  refine S.condF rfl b7 ?_
  refine S.skip ?_
  refine S.seq ?_
  refine S.region ?_
  refine SO.v rfl (opv_move rfl) ?_
  obtain ⟨⟨t8, t9⟩, ht10, h⟩ := opt_bind h
  rcases t8 with _ | t8p
  · replace h := oE_n h
    refine SO.call (pre := []) rfl Try.call6 rfl rfl rfl (word_New.ct _ _ _ _ ht10) trivial ?_
    rintro _ _ ⟨rfl, rfl⟩
    refine SO.v rfl (opv_move rfl) ?_
    refine SO.v rfl (opv_extract rfl rfl) ?_
    refine SO.v rfl (opv_extract rfl rfl) ?_
    refine SO.v rfl (opv_assign rfl) ?_
    refine SO.v rfl (opv_assign rfl) ?_
    refine SO.nil ?_
    refine S.seq ?_
    refine S.seq ?_
    refine S.region ?_
    refine SO.v rfl (opv_move rfl) ?_
    refine SO.v rfl (opv_eqlPN Try.underlying26 rfl) ?_
    refine SO.v rfl (opv_move rfl) ?_
    refine SO.passF rfl rfl rfl rfl rfl rfl ?_
    refine SO.passF rfl rfl rfl rfl rfl rfl ?_
    refine SO.v rfl (opv_pick_tt rfl rfl) ?_
    refine SO.nil ?_
    refine S.to (ρ' := [(0, .int .i64 a0), (1, v1), (2, v2), (6, .bool false), (7, .bool t1), (8, .pointer none), (60, .bool true)]) ⟨rfl, rfl, rfl, rfl, rfl, rfl, rfl, trivial⟩ ?_
    refine S.cond_true rfl ?_
    refine S.seq ?_
    refine S.region ?_
    refine SO.v rfl (opv_assign rfl) ?_
    refine SO.nil ?_
    cases h
    exact S.ret1 Try.func4 rfl rfl (fun w hs hk => hR w _ _ ⟨rfl, rfl⟩ hs hk)
  replace h := oE_s h
  refine SO.call (pre := []) rfl Try.call6 rfl rfl rfl (word_New.ct _ _ _ _ ht10) trivial ?_
  rintro _ _ ⟨b11, u12_l, rfl, rfl⟩
  refine SO.b1 ?_
  refine SO.rd fun hr13 => ?_
  refine SO.v rfl (opv_move rfl) ?_
  refine SO.v rfl (opv_extract rfl rfl) ?_
  refine SO.v rfl (opv_extract rfl rfl) ?_
  refine SO.v rfl (opv_assign rfl) ?_
  refine SO.v rfl (opv_assign rfl) ?_
  refine SO.nil ?_
  refine S.seq ?_
  refine S.seq ?_
  refine S.region ?_
  refine SO.v rfl (opv_move rfl) ?_
  refine SO.v rfl (opv_eqlP Try.underlying26 rfl) ?_
  refine SO.v rfl (opv_move rfl) ?_
  refine SO.takeT rfl rfl rfl rfl ?_
  refine SO.v rfl (opv_move rfl) ?_
  refine SO.takeT rfl rfl rfl rfl ?_
  refine SO.v rfl (opv_neqN (e := t9) Try.underlying28 rfl) ?_
  refine SO.v rfl (opv_pick_ff rfl rfl) ?_
  refine SO.nil ?_
  refine S.to (ρ' := [(0, .int .i64 a0), (1, v1), (2, v2), (6, .bool false), (7, .bool t1), (8, bp b11 0), (60, .bool t9.isSome)]) ⟨rfl, rfl, rfl, rfl, rfl, rfl, rfl, trivial⟩ ?_
  rcases bool_or t9.isSome with b14 | b14
  · replace h := cond_t b14 h
    refine S.condT rfl b14 ?_
    refine S.seq ?_
    refine S.region ?_
    refine SO.v rfl (opv_assign rfl) ?_
    refine SO.nil ?_
    cases h
    refine S.drop ?_
    refine S.drop ?_
    exact S.ret1 Try.func4 rfl rfl (fun w hs hk => hR w _ _ ⟨rfl, rfl⟩ hs hk)
  replace h := cond_f b14 h
  refine S.condF rfl b14 ?_
  refine S.skip ?_
  refine S.seq ?_
  refine S.region ?_
  refine SO.v rfl (opv_assign rfl) ?_
  refine SO.nil ?_
  refine S.seq ?_
  refine S.region ?_
  refine SO.v rfl (opv_assign rfl) ?_
  refine SO.nil ?_
  refine S.seq ?_
  refine S.seq ?_
  refine S.region ?_
  refine SO.v rfl (opv_assign rfl) ?_
  refine SO.nil ?_
  obtain ⟨o1, hlp1, h⟩ := opt_bind h
  refine S.newOwnP 38 rep_desc_Desc ?_
  refine S.b3 ?_
  refine S.b3 ?_
  refine S.b3 ?_
  refine S.b3 ?_
  refine S.to (ρ' := [(12, .int .i64 0), (11, .int .i64 1), (10, .slice none 0 0), (0, .int .i64 a0), (1, v1), (2, v2), (6, .bool false), (7, .bool t1), (8, bp b11 0)]) ⟨rfl, rfl, rfl, rfl, rfl, rfl, rfl, rfl, rfl, trivial⟩ ?_
  refine S.forloop (X := (Int × Int × (List desc_Desc)) × Value) (O := Brk Bool ((List desc_Desc) × Int)) (fun m x => law07_DescHelps.l1 a0 a1 t1 m x.1) (fun x => match x with | ((x12_1, x11_1, x10_1), v10_1) => [(12, .int .i64 x12_1), (11, .int .i64 x11_1), (10, v10_1), (0, .int .i64 a0), (1, v1), (2, v2), (6, .bool false), (7, .bool t1), (8, bp b11 0)]) (fun x => match x with | ((x12_1, x11_1, x10_1), v10_1) => [OwnPt rep_desc_Desc 38 v10_1 x10_1, Own 55 ek_api_Cell u12_l t8p.l, Box b11 [u12_l, .int .u32 t8p.limit], F]) (fun Sk o' => (∀ r', o' = Brk.ret r' → some r' = some r0) ∧ ∀ j : ((List desc_Desc) × Int), match j with | (j10_e1, j11_e1) => ∀ v10_e1 : Value, o' = Brk.nx (j10_e1, j11_e1) → Sk [(0, .int .i64 a0), (1, v1), (2, v2), (6, .bool false), (7, .bool t1), (8, bp b11 0), (10, v10_e1), (11, .int .i64 j11_e1)] [OwnPt rep_desc_Desc 38 v10_e1 j10_e1, Own 55 ek_api_Cell u12_l t8p.l, Box b11 [u12_l, .int .u32 t8p.limit], F]) (fun _ => rfl) ?_ (m := k) (x := ((0, 1, []), .slice none 0 0)) hlp1 ?_
  · clear h hlp1
    intro k x o_1 h hK1 ih1
    obtain ⟨⟨x12_1, x11_1, x10_1⟩, v10_1⟩ := x
    replace h : law07_DescHelps.l1 a0 a1 t1 (k + 1) (x12_1, x11_1, x10_1) = some o_1 := h
    first | rw [law07_DescHelps.l1] at h | unfold law07_DescHelps.l1 at h
    refine S.seq ?_
    refine S.seq ?_
    refine S.region ?_
    refine SO.v rfl (opv_move rfl) ?_
    refine SO.v rfl (opv_move rfl) ?_
    refine SO.v rfl (opv_len2 rfl Try.underlying23 hF1 hl1 rfl) ?_
    refine SO.v rfl (opv_lss rfl rfl) ?_
    refine SO.nil ?_
    rcases bool_or (decide (x12_1 < (a1.length : Int))) with b15 | b15
    · replace h := cond_t b15 h
      refine S.condT rfl b15 ?_
      refine S.skip ?_
      refine S.seq ?_
      refine S.block ?_
      refine S.seq ?_
      refine S.seq ?_
      refine S.region ?_
      refine SO.v rfl (opv_move rfl) ?_
      refine SO.v rfl (opv_move rfl) ?_
      obtain ⟨x16, hx17, h⟩ := opt_bind h
      obtain ⟨y18, hy19, hr20⟩ := Rd2.at_ hl1 hR1 hx17
      refine SO.v rfl (opv_idx Try.underlying23 Try.sizeOf37 hF1 rfl rfl hy19) ?_
      refine SO.loadI1 (j := 0) rfl Try.isAgg37 (Rd.tail (Rd.tail (Rd.tail (Rd.head hF1)))) hy19 rfl rfl rfl rfl ?_
      refine SO.v rfl (opv_move rfl) ?_
      obtain ⟨t21, ht22, h⟩ := opt_bind h
      refine SO.call (pre := []) rfl Try.call16 rfl rfl rfl (law07_rising.ct _ y18.1 _ _ _ ht22) (Rd.tail (Rd.tail (Rd.tail (Rd.head hr20)))) ?_
      rintro _ _ ⟨rfl, rfl⟩
      refine SO.v rfl (opv_not rfl) ?_
      refine SO.nil ?_
      refine S.to (ρ' := [(12, .int .i64 x12_1), (11, .int .i64 x11_1), (10, v10_1), (0, .int .i64 a0), (1, v1), (2, v2), (6, .bool false), (7, .bool t1), (8, bp b11 0), (73, .bool (!t21))]) ⟨rfl, rfl, rfl, rfl, rfl, rfl, rfl, rfl, rfl, rfl, trivial⟩ ?_
      rcases bool_or (!t21) with b23 | b23
      · replace h := cond_t b23 h
        refine S.condT rfl b23 ?_
        refine S.seq ?_
        refine S.region ?_
        refine SO.v rfl (opv_move rfl) ?_
        refine SO.v rfl (opv_assign rfl) ?_
        refine SO.nil ?_
        refine S.to (ρ' := [(6, .bool t1)]) ⟨rfl, trivial⟩ ?_
        cases h
        replace h := hK1.1 _ rfl
        cases h
        refine S.drop ?_
        refine S.drop ?_
        refine S.drop ?_
        exact S.ret1 Try.func4 rfl rfl (fun w hs hk => hR w _ _ ⟨rfl, rfl⟩ hs hk)
      replace h := cond_f b23 h
      refine S.condF rfl b23 ?_
      refine S.skip ?_
      refine S.seq ?_
      refine S.region ?_
      refine SO.v rfl (opv_move rfl) ?_
      refine SO.v rfl (opv_move rfl) ?_
      refine SO.v rfl (opv_move rfl) ?_
      obtain ⟨x24, hx25, h⟩ := opt_bind h
      obtain ⟨y26, hy27, hr28⟩ := Rd2.at_ hl1 hR1 hx25
      refine SO.v rfl (opv_idx Try.underlying23 Try.sizeOf37 hF1 rfl rfl hy27) ?_
      refine SO.loadI1 (j := 0) rfl Try.isAgg37 (Rd.tail (Rd.tail (Rd.tail (Rd.head hF1)))) hy27 rfl rfl rfl rfl ?_
      refine SO.v rfl (opv_lenR rfl Try.underlying37 hr28 rfl) ?_
      refine SO.v rfl (opv_mul rfl rfl) ?_
      refine SO.v rfl (opv_add rfl rfl) ?_
      refine SO.v rfl (opv_add rfl rfl) ?_
      refine SO.v rfl (opv_assign rfl) ?_
      refine SO.nil ?_
      refine S.to (ρ' := [(12, .int .i64 x12_1), (11, .int .i64 (w64 ((w64 (x11_1 + (w64 (2 * (x24.length : Int))))) + 1))), (10, v10_1), (0, .int .i64 a0), (1, v1), (2, v2), (6, .bool false), (7, .bool t1), (8, bp b11 0)]) ⟨rfl, rfl, rfl, rfl, rfl, rfl, rfl, rfl, rfl, trivial⟩ ?_
      refine S.region ?_
      refine SO.v rfl (opv_move rfl) ?_
      refine SO.v rfl (opv_move rfl) ?_
      refine SO.v rfl (opv_add rfl rfl) ?_
      refine SO.v rfl (opv_move rfl) ?_
      refine SO.v rfl (opv_move rfl) ?_
      obtain ⟨x29, hx30, h⟩ := opt_bind h
      obtain ⟨y31, hy32, hr33⟩ := Rd2.at_ hl1 hR1 hx30
      refine SO.v rfl (opv_idx Try.underlying23 Try.sizeOf37 hF1 rfl rfl hy32) ?_
      refine SO.loadI1 (j := 0) rfl Try.isAgg37 (Rd.tail (Rd.tail (Rd.tail (Rd.head hF1)))) hy32 rfl rfl rfl rfl ?_
      obtain ⟨t34, ht35, h⟩ := opt_bind h
      refine SO.call (pre := []) rfl Try.call7 rfl rfl rfl (desc_New.ct y31.1 _ _ _ ht35) (Rd.tail (Rd.tail (Rd.tail (Rd.head hr33)))) ?_
      rintro _ _ ⟨b36, u37_l, rfl, rfl⟩
      refine SO.b1 ?_
      refine SO.rd fun hr38 => ?_
      refine SO.b1 ?_
      refine so_close_desc_Desc (t := t34) ?_
      refine SO.buildSlice (K := ekP) (xs := [b36]) (cs := [bp b36 0]) rfl Try.underlying35 Try.sizeOf38 Try.zeroValue38 rfl rfl rfl (by kernel_rfl) rfl rfl rfl (fun v39 hr40 => ?_)
      refine SO.packPt1 (R := rep_desc_Desc) (x := t34) ?_
      obtain ⟨zs41, hz42, h⟩ := opt_bind h
      refine SO.b1 ?_
      refine SO.b1 ?_
      refine SO.b1 ?_
      refine SO.appendPt rfl Try.underlying35 inf38 rfl rfl rfl (by decide) rfl rfl rfl hz42 (fun v43 => ?_)
      refine SO.v rfl (opv_assign rfl) ?_
      refine SO.nil ?_
      refine S.to (ρ' := [(12, .int .i64 x12_1), (11, .int .i64 (w64 ((w64 (x11_1 + (w64 (2 * (x24.length : Int))))) + 1))), (10, v43), (0, .int .i64 a0), (1, v1), (2, v2), (6, .bool false), (7, .bool t1), (8, bp b11 0)]) ⟨rfl, rfl, rfl, rfl, rfl, rfl, rfl, rfl, rfl, trivial⟩ ?_
      refine S.inBlock ?_
      refine S.region ?_
      refine SO.v rfl (opv_move rfl) ?_
      refine SO.v rfl (opv_add rfl rfl) ?_
      refine SO.v rfl (opv_assign rfl) ?_
      refine SO.nil ?_
      refine S.b3 ?_
      refine S.b3 ?_
      refine S.b3 ?_
      refine S.b3 ?_
      refine S.to ?_ (ih1 ((w64 (x12_1 + 1), w64 ((w64 (x11_1 + (w64 (2 * (x24.length : Int))))) + 1), zs41), v43) h)
      exact ⟨rfl, rfl, rfl, rfl, rfl, rfl, rfl, rfl, rfl, trivial⟩
    replace h := cond_f b15 h
    refine S.condF rfl b15 ?_
    refine S.exit rfl ?_
    cases h
    refine S.b3 ?_
    refine S.b3 ?_
    refine S.b3 ?_
    refine S.b3 ?_
    refine S.to ?_ (hK1.2 (x10_1, x11_1) v10_1 rfl)
    exact ⟨rfl, rfl, rfl, rfl, rfl, rfl, rfl, rfl, trivial⟩
  refine ⟨fun r' e' => ?_, ?_⟩
  · subst e'
    have h9 := Brk.of_ret h
    exact h9
  rintro ⟨j10_e1, j11_e1⟩ v10_e1 e'
  subst e'
  replace h := Brk.of_nx h
  refine S.seq ?_
  refine S.region ?_
  refine SO.v rfl (opv_move rfl) ?_
  obtain ⟨xs46, hx47, h⟩ := opt_bind h
  refine SO.makeSlice (K := ek_api_Cell) rfl Try.underlying32 inf55 rfl rfl rfl (by decide) rfl rfl rfl hx47 (fun v44 hr45 => ?_)
  refine SO.v rfl (opv_assign rfl) ?_
  refine SO.nil ?_
  refine S.seq ?_
  refine S.region ?_
  refine SO.v rfl (opv_assign rfl) ?_
  refine SO.nil ?_
  refine S.seq ?_
  refine S.region ?_
  refine SO.v rfl (opv_move rfl) ?_
  refine SO.b1 ?_
  refine SO.lenPt rfl Try.underlying35 rfl ?_
  refine SO.v rfl (opv_assign rfl) ?_
  refine SO.nil ?_
  refine S.seq ?_
  refine S.seq ?_
  refine S.region ?_
  refine SO.v rfl (opv_assign rfl) ?_
  refine SO.nil ?_
  obtain ⟨o2, hlp2, h⟩ := opt_bind h
  refine S.b4 ?_
  refine S.b4 ?_
  refine S.b3 ?_
  refine S.b3 ?_
  refine S.b4 ?_
  refine S.to (ρ' := [(16, .int .i64 0), (15, .int .i64 (j10_e1.length : Int)), (14, .int .i64 0), (13, v44), (0, .int .i64 a0), (1, v1), (2, v2), (6, .bool false), (7, .bool t1), (8, bp b11 0), (10, v10_e1), (11, .int .i64 j11_e1)]) ⟨rfl, rfl, rfl, rfl, rfl, rfl, rfl, rfl, rfl, rfl, rfl, rfl, trivial⟩ ?_
  refine S.forloop (X := (Int × Int × Int × (List api_Cell) × Int × (List desc_Desc) × (List api_Cell)) × Value) (O := Brk Bool (Int × (List api_Cell) × Int × (List desc_Desc) × (List api_Cell))) (fun m x => law07_DescHelps.l2 a1 a2 j11_e1 m x.1) (fun x => match x with | ((x16_2, x15_2, x14_2, y11_0_2, y11_1_2, qv10_e1_2, qv44_2), vy11_0_2) => [(16, .int .i64 x16_2), (15, .int .i64 x15_2), (14, .int .i64 x14_2), (13, v44), (0, .int .i64 a0), (1, v1), (2, v2), (6, .bool false), (7, .bool t1), (8, bp b11 0), (10, v10_e1), (11, .int .i64 j11_e1)]) (fun x => match x with | ((x16_2, x15_2, x14_2, y11_0_2, y11_1_2, qv10_e1_2, qv44_2), vy11_0_2) => [Own 55 ek_api_Cell vy11_0_2 y11_0_2, OwnPt rep_desc_Desc 38 v10_e1 qv10_e1_2, Own 55 ek_api_Cell v44 qv44_2, Box b11 [vy11_0_2, .int .u32 y11_1_2], F]) (fun Sk o' => (∀ r', o' = Brk.ret r' → some r' = some r0) ∧ ∀ j : (Int × (List api_Cell) × Int × (List desc_Desc) × (List api_Cell)), match j with | (j15_e2, y11_0_e2, y11_1_e2, qv10_e1_e2, qv44_e2) => ∀ vy11_0_e2 : Value, o' = Brk.nx (j15_e2, y11_0_e2, y11_1_e2, qv10_e1_e2, qv44_e2) → Sk [(0, .int .i64 a0), (6, .bool false), (7, .bool t1), (8, bp b11 0), (13, v44), (15, .int .i64 j15_e2)] [Own 55 ek_api_Cell vy11_0_e2 y11_0_e2, OwnPt rep_desc_Desc 38 v10_e1 qv10_e1_e2, Own 55 ek_api_Cell v44 qv44_e2, Box b11 [vy11_0_e2, .int .u32 y11_1_e2], F]) (fun _ => rfl) ?_ (m := k) (x := ((0, (j10_e1.length : Int), 0, t8p.l, t8p.limit, j10_e1, xs46), u12_l)) hlp2 ?_
  · clear h hlp2
    intro k x o_2 h hK2 ih2
    obtain ⟨⟨x16_2, x15_2, x14_2, y11_0_2, y11_1_2, qv10_e1_2, qv44_2⟩, vy11_0_2⟩ := x
    replace h : law07_DescHelps.l2 a1 a2 j11_e1 (k + 1) (x16_2, x15_2, x14_2, y11_0_2, y11_1_2, qv10_e1_2, qv44_2) = some o_2 := h
    first | rw [law07_DescHelps.l2] at h | unfold law07_DescHelps.l2 at h
    refine S.rd fun hr48 => ?_
    refine S.b2 ?_
    refine S.rd fun hr49 => ?_
    refine S.seq ?_
    refine S.seq ?_
    refine S.region ?_
    refine SO.v rfl (opv_move rfl) ?_
    refine SO.v rfl (opv_move rfl) ?_
    refine SO.v rfl (opv_lenR rfl Try.underlying24 hF2 rfl) ?_
    refine SO.v rfl (opv_move rfl) ?_
    refine SO.v rfl (opv_move rfl) ?_
    refine SO.b2 ?_
    refine SO.lenPt rfl Try.underlying35 rfl ?_
    refine SO.v rfl (opv_mul rfl rfl) ?_
    refine SO.v rfl (opv_add rfl rfl) ?_
    refine SO.v rfl (opv_lss rfl rfl) ?_
    refine SO.v rfl (opv_move rfl) ?_
    refine SO.cut 3 110 (.bool ((decide (x16_2 < (w64 ((a2.length : Int) + (w64 (j11_e1 * (qv10_e1_2.length : Int))))))) && (decide (0 < x15_2)))) [OwnPt rep_desc_Desc 38 v10_e1 qv10_e1_2, Own 55 ek_api_Cell v44 qv44_2, Own 55 ek_api_Cell vy11_0_2 y11_0_2, Box b11 [vy11_0_2, .int .u32 y11_1_2], F] (fun l2 hk2 => ?_) ?_
    · rcases bool_or (decide (x16_2 < (w64 ((a2.length : Int) + (w64 (j11_e1 * (qv10_e1_2.length : Int))))))) with b50 | b50
      · refine SO.takeT rfl rfl rfl b50 ?_
        refine SO.v rfl (opv_move rfl) ?_
        refine SO.takeT rfl rfl rfl b50 ?_
        refine SO.v rfl (opv_gtr rfl rfl) ?_
        refine SO.v rfl (opv_pick_t' b50 rfl rfl) ?_
        refine SO.b4 ?_
        refine SO.b4 ?_
        refine SO.b4 ?_
        refine SO.b4 ?_
        refine SO.b4 ?_
        exact hk2.fitc (m := 3) rfl (and_t b50) rfl
      refine SO.passF rfl rfl rfl b50 rfl rfl ?_
      refine SO.passF rfl rfl rfl b50 rfl rfl ?_
      refine SO.v rfl (opv_pick_f' b50 rfl rfl) ?_
      refine SO.b4 ?_
      refine SO.b4 ?_
      refine SO.b4 ?_
      refine SO.b4 ?_
      refine SO.b4 ?_
      exact hk2.fitc (m := 3) rfl (and_f b50) rfl
    refine SO.nil ?_
    refine S.to (ρ' := [(16, .int .i64 x16_2), (15, .int .i64 x15_2), (14, .int .i64 x14_2), (13, v44), (0, .int .i64 a0), (1, v1), (2, v2), (6, .bool false), (7, .bool t1), (8, bp b11 0), (10, v10_e1), (11, .int .i64 j11_e1), (110, .bool ((decide (x16_2 < (w64 ((a2.length : Int) + (w64 (j11_e1 * (qv10_e1_2.length : Int))))))) && (decide (0 < x15_2))))]) ⟨rfl, rfl, rfl, rfl, rfl, rfl, rfl, rfl, rfl, rfl, rfl, rfl, rfl, trivial⟩ ?_
    rcases bool_or ((decide (x16_2 < (w64 ((a2.length : Int) + (w64 (j11_e1 * (qv10_e1_2.length : Int))))))) && (decide (0 < x15_2))) with b51 | b51
    · replace h := cond_t b51 h
      refine S.condT rfl b51 ?_
      refine S.skip ?_
      refine S.seq ?_
      refine S.block ?_
      refine S.seq ?_
      refine S.region ?_
      refine SO.v rfl (opv_move rfl) ?_
      refine SO.v rfl (opv_move rfl) ?_
      refine SO.lenPt rfl Try.underlying35 rfl ?_
      obtain ⟨_, hc52, h⟩ := opt_bind h
      refine SO.v rfl (opv_rem rfl rfl (of_decide_eq_true (chk_some hc52))) ?_
      refine SO.v rfl (opv_assign rfl) ?_
      refine SO.nil ?_
      refine S.seq ?_
      refine S.seq ?_
      refine S.region ?_
      refine SO.v rfl (opv_move rfl) ?_
      refine SO.v rfl (opv_move rfl) ?_
      refine SO.v rfl (opv_lenR rfl Try.underlying24 hF2 rfl) ?_
      refine SO.v rfl (opv_lss rfl rfl) ?_
      refine SO.nil ?_
      refine S.to (ρ' := [(16, .int .i64 x16_2), (14, .int .i64 x14_2), (13, v44), (0, .int .i64 a0), (1, v1), (2, v2), (6, .bool false), (7, .bool t1), (8, bp b11 0), (10, v10_e1), (11, .int .i64 j11_e1), (17, .int .i64 (x16_2.tmod (qv10_e1_2.length : Int))), (120, .bool (decide (x16_2 < (a2.length : Int))))]) ⟨rfl, rfl, rfl, rfl, rfl, rfl, rfl, rfl, rfl, rfl, rfl, rfl, rfl, trivial⟩ ?_
      obtain ⟨j17_3, hC3, hJ3⟩ := opt_bind h
      clear h
      refine S.cutP (G := Unit) (fun _ => True) (fun _ => [(0, .int .i64 a0), (1, v1), (2, v2), (6, .bool false), (7, .bool t1), (8, bp b11 0), (10, v10_e1), (11, .int .i64 j11_e1), (13, v44), (14, .int .i64 x14_2), (16, .int .i64 x16_2), (17, .int .i64 j17_3)]) (fun _ => [OwnPt rep_desc_Desc 38 v10_e1 qv10_e1_2, Own 55 ek_api_Cell v44 qv44_2, Own 55 ek_api_Cell vy11_0_2 y11_0_2, Box b11 [vy11_0_2, .int .u32 y11_1_2], F]) (fun hk3 => ?_) ?_
      · replace h := hC3
        rcases bool_or (decide (x16_2 < (a2.length : Int))) with b53 | b53
        · replace h := cond_t b53 h
          refine S.condT rfl b53 ?_
          refine S.seq ?_
          refine S.region ?_
          refine SO.v rfl (opv_move rfl) ?_
          refine SO.v rfl (opv_move rfl) ?_
          obtain ⟨x54, hx55, h⟩ := opt_bind h
          refine SO.v rfl (opv_idx Try.underlying24 Try.sizeOf3 hF2 rfl rfl hx55) ?_
          refine SO.loadI1 (j := 0) rfl Try.isAgg3 (Rd.tail (Rd.tail (Rd.tail (Rd.tail (Rd.head hF2))))) hx55 rfl rfl rfl rfl ?_
          refine SO.v rfl (opv_move rfl) ?_
          refine SO.lenPt rfl Try.underlying35 rfl ?_
          obtain ⟨_, hc56, h⟩ := opt_bind h
          refine SO.v rfl (opv_rem rfl rfl (of_decide_eq_true (chk_some hc56))) ?_
          refine SO.v rfl (opv_assign rfl) ?_
          refine SO.nil ?_
          refine S.to (ρ' := [(16, .int .i64 x16_2), (14, .int .i64 x14_2), (13, v44), (0, .int .i64 a0), (1, v1), (2, v2), (6, .bool false), (7, .bool t1), (8, bp b11 0), (10, v10_e1), (11, .int .i64 j11_e1), (17, .int .i64 (x54.tmod (qv10_e1_2.length : Int)))]) ⟨rfl, rfl, rfl, rfl, rfl, rfl, rfl, rfl, rfl, rfl, rfl, rfl, trivial⟩ ?_
          refine S.seq ?_
          refine S.region ?_
          refine SO.v rfl (opv_move rfl) ?_
          refine SO.v rfl (opv_lss rfl rfl) ?_
          refine SO.nil ?_
          rcases bool_or (decide ((x54.tmod (qv10_e1_2.length : Int)) < 0)) with b57 | b57
          · replace h := cond_t b57 h
            refine S.condT rfl b57 ?_
            refine S.region ?_
            refine SO.v rfl (opv_move rfl) ?_
            refine SO.v rfl (opv_neg rfl) ?_
            refine SO.v rfl (opv_assign rfl) ?_
            refine SO.nil ?_
            cases h
            refine S.b4 ?_
            refine S.b4 ?_
            refine S.b4 ?_
            refine S.b4 ?_
            refine S.b4 ?_
            refine S.to ?_ (hk3 () trivial)
            exact ⟨rfl, rfl, rfl, rfl, rfl, rfl, rfl, rfl, rfl, rfl, rfl, rfl, trivial⟩
          replace h := cond_f b57 h
          refine S.condF rfl b57 ?_
          refine S.skip ?_
          cases h
          refine S.b4 ?_
          refine S.b4 ?_
          refine S.b4 ?_
          refine S.b4 ?_
          refine S.b4 ?_
          refine S.to ?_ (hk3 () trivial)
          exact ⟨rfl, rfl, rfl, rfl, rfl, rfl, rfl, rfl, rfl, rfl, rfl, rfl, trivial⟩
        replace h := cond_f b53 h
        refine S.condF rfl b53 ?_
        refine S.skip ?_
        cases h
        refine S.b4 ?_
        refine S.b4 ?_
        refine S.b4 ?_
        refine S.b4 ?_
        refine S.b4 ?_
        refine S.to ?_ (hk3 () trivial)
        exact ⟨rfl, rfl, rfl, rfl, rfl, rfl, rfl, rfl, rfl, rfl, rfl, rfl, trivial⟩
      rintro _ -
      replace h := hJ3
      refine S.seq ?_
      refine S.seq ?_
      refine S.region ?_
      refine SO.v rfl (opv_assign rfl) ?_
      refine SO.nil ?_
      obtain ⟨o4, hlp4, h⟩ := opt_bind h
      refine S.b4 ?_
      refine S.b4 ?_
      refine S.b3 ?_
      refine S.b3 ?_
      refine S.b4 ?_
      refine S.to (ρ' := [(18, .int .i64 0), (0, .int .i64 a0), (1, v1), (2, v2), (6, .bool false), (7, .bool t1), (8, bp b11 0), (10, v10_e1), (11, .int .i64 j11_e1), (13, v44), (14, .int .i64 x14_2), (16, .int .i64 x16_2), (17, .int .i64 j17_3)]) ⟨rfl, rfl, rfl, rfl, rfl, rfl, rfl, rfl, rfl, rfl, rfl, rfl, rfl, trivial⟩ ?_
      refine S.forloop (X := (Int × Int × Int × (List api_Cell) × Int × (List desc_Desc) × (List api_Cell)) × Value) (O := Brk Bool (Int × (List api_Cell) × Int × (List desc_Desc) × (List api_Cell))) (fun m x => law07_DescHelps.l4 a1 m x.1) (fun x => match x with | ((x18_4, x14_4, x17_4, y11_0_4, y11_1_4, qv10_e1_4, qv44_4), vy11_0_4) => [(18, .int .i64 x18_4), (0, .int .i64 a0), (1, v1), (2, v2), (6, .bool false), (7, .bool t1), (8, bp b11 0), (10, v10_e1), (11, .int .i64 j11_e1), (13, v44), (14, .int .i64 x14_4), (16, .int .i64 x16_2), (17, .int .i64 x17_4)]) (fun x => match x with | ((x18_4, x14_4, x17_4, y11_0_4, y11_1_4, qv10_e1_4, qv44_4), vy11_0_4) => [Own 55 ek_api_Cell vy11_0_4 y11_0_4, OwnPt rep_desc_Desc 38 v10_e1 qv10_e1_4, Own 55 ek_api_Cell v44 qv44_4, Box b11 [vy11_0_4, .int .u32 y11_1_4], F]) (fun Sk o' => (∀ r', o' = Brk.ret r' → some (Brk.ret r') = some o_2) ∧ ∀ j : (Int × (List api_Cell) × Int × (List desc_Desc) × (List api_Cell)), match j with | (j14_e4, y11_0_e4, y11_1_e4, qv10_e1_e4, qv44_e4) => ∀ vy11_0_e4 : Value, o' = Brk.nx (j14_e4, y11_0_e4, y11_1_e4, qv10_e1_e4, qv44_e4) → Sk [(0, .int .i64 a0), (1, v1), (2, v2), (6, .bool false), (7, .bool t1), (8, bp b11 0), (10, v10_e1), (11, .int .i64 j11_e1), (13, v44), (14, .int .i64 j14_e4), (16, .int .i64 x16_2)] [Own 55 ek_api_Cell vy11_0_e4 y11_0_e4, OwnPt rep_desc_Desc 38 v10_e1 qv10_e1_e4, Own 55 ek_api_Cell v44 qv44_e4, Box b11 [vy11_0_e4, .int .u32 y11_1_e4], F]) (fun _ => rfl) ?_ (m := k) (x := ((0, x14_2, j17_3, y11_0_2, y11_1_2, qv10_e1_2, qv44_2), vy11_0_2)) hlp4 ?_
      · clear h hlp4
        intro k x o_4 h hK4 ih4
        obtain ⟨⟨x18_4, x14_4, x17_4, y11_0_4, y11_1_4, qv10_e1_4, qv44_4⟩, vy11_0_4⟩ := x
        replace h : law07_DescHelps.l4 a1 (k + 1) (x18_4, x14_4, x17_4, y11_0_4, y11_1_4, qv10_e1_4, qv44_4) = some o_4 := h
        first | rw [law07_DescHelps.l4] at h | unfold law07_DescHelps.l4 at h
        refine S.rd fun hr58 => ?_
        refine S.b2 ?_
        refine S.rd fun hr59 => ?_
        refine S.seq ?_
        refine S.seq ?_
        refine S.region ?_
        refine SO.v rfl (opv_move rfl) ?_
        refine SO.v rfl (opv_move rfl) ?_
        refine SO.b2 ?_
        refine SO.lenPt rfl Try.underlying35 rfl ?_
        refine SO.v rfl (opv_leq rfl rfl) ?_
        refine SO.nil ?_
        rcases bool_or (decide (x18_4 ≤ (qv10_e1_4.length : Int))) with b60 | b60
        · replace h := cond_t b60 h
          refine S.condT rfl b60 ?_
          refine S.skip ?_
          refine S.seq ?_
          refine S.block ?_
          refine S.seq ?_
          refine S.region ?_
          refine SO.v rfl (opv_move rfl) ?_
          refine SO.v rfl (opv_move rfl) ?_
          obtain ⟨x61, hx62, h⟩ := opt_bind h
          refine SO.focus hx62 fun bs63 b64 hb65 hle66 hRp67 => ?_
          refine so_open_desc_Desc (fun g68_l => ?_)
          refine SO.b1 ?_
          refine SO.rd fun hr69 => ?_
          refine SO.v rfl (opv_idx (K := ekP) Try.underlying35 Try.sizeOf38 hRp67 rfl rfl hb65) ?_
          refine SO.loadI1 (j := 0) (K := ekP) rfl Try.isAgg38 (Rd.tail (Rd.tail (Rd.head hRp67))) hb65 rfl rfl rfl rfl ?_
          obtain ⟨t70, ht71, h⟩ := opt_bind h
          refine SO.b1 ?_
          refine SO.call (pre := [Box _ _, Own _ _ _ _]) rfl Try.call11 rfl rfl rfl (desc_Desc_Status.ct b64 g68_l _ _ ht71) trivial ?_
          rintro _ _ ⟨rfl, rfl⟩
          refine SO.v rfl (opv_assign rfl) ?_
          refine SO.nil ?_
          refine S.to (ρ' := [(18, .int .i64 x18_4), (0, .int .i64 a0), (1, v1), (2, v2), (6, .bool false), (7, .bool t1), (8, bp b11 0), (10, v10_e1), (11, .int .i64 j11_e1), (13, v44), (14, .int .i64 x14_4), (16, .int .i64 x16_2), (17, .int .i64 x17_4), (19, .int .i64 t70)]) ⟨rfl, rfl, rfl, rfl, rfl, rfl, rfl, rfl, rfl, rfl, rfl, rfl, rfl, rfl, trivial⟩ ?_
          refine S.seq ?_
          refine S.region ?_
          refine SO.v rfl (opv_move rfl) ?_
          refine SO.v rfl (opv_move rfl) ?_
          refine SO.v rfl (opv_idx (K := ekP) Try.underlying35 Try.sizeOf38 hRp67 rfl rfl hb65) ?_
          refine SO.loadI1 (j := 0) (K := ekP) rfl Try.isAgg38 (Rd.tail (Rd.tail (Rd.head hRp67))) hb65 rfl rfl rfl rfl ?_
          refine SO.v rfl (opv_move rfl) ?_
          obtain ⟨⟨t72, p73, p74⟩, ht75, h⟩ := opt_bind h
          refine SO.b4 ?_
          refine SO.b5 ?_
          refine SO.b3 ?_
          refine SO.b3 ?_
          have ct118 := desc_Desc_Step.ct b64 g68_l b11 vy11_0_4 _ _ _ _ _ ht75
          try dsimp only at ct118
          refine SO.call (pre := [Box _ _, Own _ _ _ _, Box _ _, Own _ _ _ _]) rfl Try.call9 rfl rfl rfl ct118 trivial ?_
          rintro _ _ ⟨u76_l, u78_l, rfl, rfl⟩
          refine SO.b1 ?_
          refine SO.rd fun hr77 => ?_
          refine SO.b3 ?_
          refine SO.rd fun hr79 => ?_
          refine SO.v rfl (opv_assign rfl) ?_
          refine SO.nil ?_
          refine S.seq ?_
          refine S.seq ?_
          refine S.region ?_
          refine SO.v rfl (opv_move rfl) ?_
          refine SO.v rfl (opv_eql rfl rfl) ?_
          refine SO.v rfl (opv_move rfl) ?_
          obtain ⟨c81, hc82, hgk⟩ := opt_bind h
          refine SO.cut 7 158 (.bool c81) [Own 55 ek_api_Cell u78_l p74.l, Own 53 ek_tx_Entry u76_l p73.l, Box b64 [.int .i64 p73.mark, u76_l, .int .i64 p73.status, .int .i64 p73.at_], Box b11 [u78_l, .int .u32 p74.limit], OwnPH rep_desc_Desc 38 v10_e1 bs63 qv10_e1_4 x17_4.toNat, Own 55 ek_api_Cell v44 qv44_4, F] (fun l2 hk2 => ?_) ?_
          · clear hgk
            replace h := hc82
            rcases bool_or (t70 == 0) with b80 | b80
            · replace h := cond_t b80 h
              refine SO.takeT rfl rfl rfl b80 ?_
              refine SO.v rfl (opv_move rfl) ?_
              refine SO.takeT rfl rfl rfl b80 ?_
              refine SO.v rfl (opv_move rfl) ?_
              refine SO.takeT rfl rfl rfl b80 ?_
              refine SO.v rfl (opv_idx (K := ekP) Try.underlying35 Try.sizeOf38 hRp67 rfl rfl hb65) ?_
              refine SO.takeT rfl rfl rfl b80 ?_
              refine SO.loadI1 (j := 0) (K := ekP) rfl Try.isAgg38 (Rd.tail (Rd.tail (Rd.tail (Rd.tail (Rd.head hRp67))))) hb65 rfl rfl rfl rfl ?_
              refine SO.takeT rfl rfl rfl b80 ?_
              obtain ⟨t83, ht84, h⟩ := opt_bind h
              refine SO.b1 ?_
              refine SO.b2 ?_
              refine SO.call (pre := [Box _ _, Own _ _ _ _]) rfl Try.call11 rfl rfl rfl (desc_Desc_Status.ct b64 u76_l _ _ ht84) trivial ?_
              rintro _ _ ⟨rfl, rfl⟩
              refine SO.takeT rfl rfl rfl b80 ?_
              refine SO.v rfl (opv_eql rfl rfl) ?_
              cases h
              refine SO.v rfl (opv_pick_t' b80 rfl rfl) ?_
              refine SO.b6 ?_
              refine SO.b6 ?_
              refine SO.b6 ?_
              refine SO.b6 ?_
              refine SO.b4 ?_
              refine SO.b5 ?_
              refine SO.b6 ?_
              exact hk2.fitc (m := 7) rfl (rfl) rfl
            replace h := cond_f b80 h
            refine SO.passF rfl rfl rfl b80 rfl rfl ?_
            refine SO.passF rfl rfl rfl b80 rfl rfl ?_
            refine SO.passF rfl rfl rfl b80 rfl rfl ?_
            refine SO.passF rfl rfl rfl b80 rfl rfl ?_
            refine SO.passF rfl rfl rfl b80 rfl rfl ?_
            refine SO.passF rfl rfl rfl b80 rfl rfl ?_
            cases h
            refine SO.v rfl (opv_pick_f' b80 rfl rfl) ?_
            refine SO.b6 ?_
            refine SO.b6 ?_
            refine SO.b6 ?_
            refine SO.b6 ?_
            refine SO.b6 ?_
            refine SO.b6 ?_
            refine SO.b6 ?_
            exact hk2.fitc (m := 7) rfl (rfl) rfl
          clear hc82
          replace h := hgk
          refine SO.nil ?_
          refine S.to (ρ' := [(18, .int .i64 x18_4), (0, .int .i64 a0), (1, v1), (2, v2), (6, .bool false), (7, .bool t1), (8, bp b11 0), (10, v10_e1), (11, .int .i64 j11_e1), (13, v44), (14, .int .i64 x14_4), (16, .int .i64 x16_2), (17, .int .i64 x17_4), (20, .int .i64 t72), (158, .bool c81)]) ⟨rfl, rfl, rfl, rfl, rfl, rfl, rfl, rfl, rfl, rfl, rfl, rfl, rfl, rfl, rfl, trivial⟩ ?_
          refine S.b4 ?_
          refine S.b2 ?_
          refine S.b3 ?_
          refine s_close_desc_Desc (t := p73) ?_
          refine S.unfocus hb65 hx62 ?_
          obtain ⟨o5, hC5, hJ5⟩ := opt_bind h
          clear h
          refine S.cutP (G := (List api_Cell) × Unit) (fun x => o5 = Brk.nx x.1) (fun x => match x with | (qv44_5, _) => [(0, .int .i64 a0), (1, v1), (2, v2), (6, .bool false), (7, .bool t1), (8, bp b11 0), (10, v10_e1), (11, .int .i64 j11_e1), (13, v44), (14, .int .i64 x14_4), (16, .int .i64 x16_2), (18, .int .i64 x18_4), (20, .int .i64 t72)]) (fun x => match x with | (qv44_5, _) => [OwnPt rep_desc_Desc 38 v10_e1 (qv10_e1_4.set x17_4.toNat p73), Own 55 ek_api_Cell u78_l p74.l, Box b11 [u78_l, .int .u32 p74.limit], Own 55 ek_api_Cell v44 qv44_5, F]) (fun hk5 => ?_) ?_
          · replace h := hC5
            rcases bool_or c81 with b85 | b85
            · replace h := cond_t b85 h
              refine S.condT rfl b85 ?_
              refine S.seq ?_
              refine S.region ?_
              refine SO.v rfl (opv_assign rfl) ?_
              refine SO.nil ?_
              obtain ⟨o6, hlp6, h⟩ := opt_bind h
              refine S.b4 ?_
              refine S.b4 ?_
              refine S.b4 ?_
              refine S.b4 ?_
              refine S.b4 ?_
              refine S.to (ρ' := [(21, .int .i64 0), (18, .int .i64 x18_4), (0, .int .i64 a0), (1, v1), (2, v2), (6, .bool false), (7, .bool t1), (8, bp b11 0), (10, v10_e1), (11, .int .i64 j11_e1), (13, v44), (14, .int .i64 x14_4), (16, .int .i64 x16_2), (17, .int .i64 x17_4), (20, .int .i64 t72)]) ⟨rfl, rfl, rfl, rfl, rfl, rfl, rfl, rfl, rfl, rfl, rfl, rfl, rfl, rfl, rfl, trivial⟩ ?_
              refine S.forloop (X := (Int × (List api_Cell)) × Unit) (O := Brk Bool (List api_Cell)) (fun m x => law07_DescHelps.l6 a1 x17_4 m x.1) (fun x => match x with | ((x21_6, qv44_6), _) => [(21, .int .i64 x21_6), (18, .int .i64 x18_4), (0, .int .i64 a0), (1, v1), (2, v2), (6, .bool false), (7, .bool t1), (8, bp b11 0), (10, v10_e1), (11, .int .i64 j11_e1), (13, v44), (14, .int .i64 x14_4), (16, .int .i64 x16_2), (17, .int .i64 x17_4), (20, .int .i64 t72)]) (fun x => match x with | ((x21_6, qv44_6), _) => [OwnPt rep_desc_Desc 38 v10_e1 (qv10_e1_4.set x17_4.toNat p73), Own 55 ek_api_Cell u78_l p74.l, Box b11 [u78_l, .int .u32 p74.limit], Own 55 ek_api_Cell v44 qv44_6, F]) (fun Sk o' => (∀ r', o' = Brk.ret r' → some (Brk.ret r') = some o5) ∧ ∀ qv44_e6 : (List api_Cell), ∀ _ : Unit, o' = Brk.nx qv44_e6 → Sk [(0, .int .i64 a0), (1, v1), (2, v2), (6, .bool false), (7, .bool t1), (8, bp b11 0), (10, v10_e1), (11, .int .i64 j11_e1), (13, v44), (14, .int .i64 x14_4), (16, .int .i64 x16_2), (18, .int .i64 x18_4), (20, .int .i64 t72)] [OwnPt rep_desc_Desc 38 v10_e1 (qv10_e1_4.set x17_4.toNat p73), Own 55 ek_api_Cell u78_l p74.l, Box b11 [u78_l, .int .u32 p74.limit], Own 55 ek_api_Cell v44 qv44_e6, F]) (fun _ => rfl) ?_ (m := k) (x := ((0, qv44_4), ())) hlp6 ?_
              · clear h hlp6
                intro k x o_6 h hK6 ih6
                obtain ⟨⟨x21_6, qv44_6⟩, _⟩ := x
                replace h : law07_DescHelps.l6 a1 x17_4 (k + 1) (x21_6, qv44_6) = some o_6 := h
                first | rw [law07_DescHelps.l6] at h | unfold law07_DescHelps.l6 at h
                refine S.b3 ?_
                refine S.rd fun hr86 => ?_
                refine S.seq ?_
                refine S.seq ?_
                refine S.region ?_
                refine SO.v rfl (opv_move rfl) ?_
                refine SO.v rfl (opv_move rfl) ?_
                refine SO.v rfl (opv_move rfl) ?_
                obtain ⟨x87, hx88, h⟩ := opt_bind h
                obtain ⟨y89, hy90, hr91⟩ := Rd2.at_ hl1 hR1 hx88
                refine SO.v rfl (opv_idx Try.underlying23 Try.sizeOf37 hF1 rfl rfl hy90) ?_
                refine SO.loadI1 (j := 0) rfl Try.isAgg37 (Rd.tail (Rd.tail (Rd.tail (Rd.tail (Rd.head hF1))))) hy90 rfl rfl rfl rfl ?_
                refine SO.v rfl (opv_lenR rfl Try.underlying37 hr91 rfl) ?_
                refine SO.v rfl (opv_lss rfl rfl) ?_
                refine SO.nil ?_
                rcases bool_or (decide (x21_6 < (x87.length : Int))) with b92 | b92
                · replace h := cond_t b92 h
                  refine S.condT rfl b92 ?_
                  refine S.skip ?_
                  refine S.seq ?_
                  refine S.block ?_
                  refine S.seq ?_
                  refine S.region ?_
                  refine SO.v rfl (opv_move rfl) ?_
                  refine SO.v rfl (opv_move rfl) ?_
                  obtain ⟨x93, hx94, h⟩ := opt_bind h
                  obtain ⟨y95, hy96, hr97⟩ := Rd2.at_ hl1 hR1 hx94
                  refine SO.v rfl (opv_idx Try.underlying23 Try.sizeOf37 hF1 rfl rfl hy96) ?_
                  refine SO.loadI1 (j := 0) rfl Try.isAgg37 (Rd.tail (Rd.tail (Rd.tail (Rd.tail (Rd.head hF1))))) hy96 rfl rfl rfl rfl ?_
                  refine SO.v rfl (opv_move rfl) ?_
                  obtain ⟨x98, hx99, h⟩ := opt_bind h
                  refine SO.v rfl (opv_idx Try.underlying37 Try.sizeOf53 hr97 rfl rfl hx99) ?_
                  refine SO.loadIN rfl Try.isAgg53 Try.sizeOf53 (Rd.tail (Rd.tail (Rd.tail (Rd.tail (Rd.head hr97))))) hx99 rfl rfl rfl ?_
                  refine SO.alloc rfl Try.zeroValue53 rfl (fun b100 => ?_)
                  refine SO.storeN Try.sizeOf53 rfl rfl rfl rfl rfl rfl ?_
                  refine SO.nil ?_
                  refine S.to (ρ' := [(21, .int .i64 x21_6), (18, .int .i64 x18_4), (0, .int .i64 a0), (1, v1), (2, v2), (6, .bool false), (7, .bool t1), (8, bp b11 0), (10, v10_e1), (11, .int .i64 j11_e1), (13, v44), (14, .int .i64 x14_4), (16, .int .i64 x16_2), (17, .int .i64 x17_4), (20, .int .i64 t72), (22, bp b100 0)]) ⟨rfl, rfl, rfl, rfl, rfl, rfl, rfl, rfl, rfl, rfl, rfl, rfl, rfl, rfl, rfl, rfl, trivial⟩ ?_
                  refine S.seq ?_
                  refine S.seq ?_
                  obtain ⟨x101, hx102, h⟩ := opt_bind h
                  refine S.draw2 (Y := fun Q => ∃ (_ _ _ _ _ _ _ _ _ : Unit), Q [(13, v44), (22, bp b100 0), (21, .int .i64 x21_6), (18, .int .i64 x18_4), (0, .int .i64 a0), (1, v1), (2, v2), (6, .bool false), (7, .bool t1), (8, bp b11 0), (10, v10_e1), (11, .int .i64 j11_e1), (14, .int .i64 x14_4), (16, .int .i64 x16_2), (17, .int .i64 x17_4), (20, .int .i64 t72)] [Box b100 [.int .i64 x98.Cell, .int .u32 x98.Version, .int .u64 x98.Old, .int .u64 x98.New, .bool x98.Write], Own 55 ek_api_Cell v44 qv44_6, OwnPt rep_desc_Desc 38 v10_e1 (qv10_e1_4.set x17_4.toNat p73), Own 55 ek_api_Cell u78_l p74.l, Box b11 [u78_l, .int .u32 p74.limit], F]) (Z := fun Q => ∀ (_ _ _ _ _ _ _ _ _ _ : Unit), Q [(21, .int .i64 x21_6), (18, .int .i64 x18_4), (0, .int .i64 a0), (1, v1), (2, v2), (6, .bool false), (7, .bool t1), (8, bp b11 0), (10, v10_e1), (11, .int .i64 j11_e1), (14, .int .i64 x14_4), (16, .int .i64 x16_2), (17, .int .i64 x17_4), (20, .int .i64 t72), (13, v44), (22, bp b100 0), (183, .bool (x101.Version != x98.Version))] [Box b100 [.int .i64 x98.Cell, .int .u32 x98.Version, .int .u64 x98.Old, .int .u64 x98.New, .bool x98.Write], Own 55 ek_api_Cell v44 qv44_6, OwnPt rep_desc_Desc 38 v10_e1 (qv10_e1_4.set x17_4.toNat p73), Own 55 ek_api_Cell u78_l p74.l, Box b11 [u78_l, .int .u32 p74.limit], F]) (T := [tS 13 (v44), tS 22 (bp b100 0), tE [(21, .int .i64 x21_6), (18, .int .i64 x18_4), (0, .int .i64 a0), (1, v1), (2, v2), (6, .bool false), (7, .bool t1), (8, bp b11 0), (10, v10_e1), (11, .int .i64 j11_e1), (14, .int .i64 x14_4), (16, .int .i64 x16_2), (17, .int .i64 x17_4), (20, .int .i64 t72)], tR (Box b100 [.int .i64 x98.Cell, .int .u32 x98.Version, .int .u64 x98.Old, .int .u64 x98.New, .bool x98.Write]), tR (Own 55 ek_api_Cell v44 qv44_6), tR (OwnPt rep_desc_Desc 38 v10_e1 (qv10_e1_4.set x17_4.toNat p73)), tR (Own 55 ek_api_Cell u78_l p74.l), tR (Box b11 [u78_l, .int .u32 p74.limit]), tR (F), tS 175 (v44), tS 176 (bp b100 0), tS 177 (.int .i64 x98.Cell), tS 178 (idxp v44 (x98.Cell.toNat * ek_api_Cell.sz)), tS 179 (idxp v44 (x98.Cell.toNat * ek_api_Cell.sz + 1)), tS 180 (.int .u32 x101.Version), tS 181 (bp b100 1), tS 182 (.int .u32 x98.Version), tS 183 (.bool (x101.Version != x98.Version))]) (D := [⟨[0], [], [9]⟩, ⟨[1], [], [10]⟩, ⟨[10, 3], [], [11]⟩, ⟨[9, 11, 4], [], [12]⟩, ⟨[12, 4], [], [13]⟩, ⟨[13, 4], [], [14]⟩, ⟨[1], [], [15]⟩, ⟨[15, 3], [], [16]⟩, ⟨[14, 16], [], [17]⟩]) (ini := [0, 1, 2, 3, 4, 5, 6, 7, 8]) (fin := [2, 0, 1, 17, 3, 4, 5, 6, 7, 8]) (bf := [[], [], [1], [0, 1, 2], [0, 1, 2, 3], [0, 1, 2, 3, 4], [], [6], [0, 1, 2, 3, 4, 5, 6, 7]]) (by kernel_rfl) (by kernel_rfl) (fun Q => by kernel_rfl) (fun x w h1 h2 => ⟨(), (), (), (), (), (), (), (), (), EnvAll.of h1 ⟨rfl, rfl, rfl, rfl, rfl, rfl, rfl, rfl, rfl, rfl, rfl, rfl, rfl, rfl, rfl, rfl, trivial⟩, h2⟩) (fun Q => by kernel_rfl) ⟨?_, ?_, ?_, ?_, ?_, ?_, ?_, ?_, ?_, trivial⟩ ?_
                  · rintro Fr _
                    refine SO.v rfl (opv_move rfl) ?_
                    exact SO.nilZ fun a w h1 h2 h3 h4 h5 => PZ.of h1 h3 h5 (.cons () (.cons () (.nil ⟨EnvAll.of h2 ⟨rfl, rfl, trivial⟩, h4⟩)))
                  · rintro Fr _
                    refine SO.v rfl (opv_fieldAddr Try.underlying53 rfl Try.sizeOf3 rfl rfl) ?_
                    exact SO.nilZ fun a w h1 h2 h3 h4 h5 => PZ.of h1 h3 h5 (.cons () (.cons () (.nil ⟨EnvAll.of h2 ⟨rfl, rfl, trivial⟩, h4⟩)))
                  · rintro Fr _ _
                    refine SO.load1 rfl Try.isAgg3 rfl rfl ?_
                    exact SO.nilZ fun a w h1 h2 h3 h4 h5 => PZ.of h1 h3 h5 (.cons () (.cons () (.cons () (.nil ⟨EnvAll.of h2 ⟨rfl, rfl, trivial⟩, h4⟩))))
                  · rintro Fr _ _ _
                    refine SO.v rfl (opv_idx Try.underlying32 Try.sizeOf55 hr86 rfl rfl hx102) ?_
                    exact SO.nilZ fun a w h1 h2 h3 h4 h5 => PZ.of h1 h3 h5 (.cons () (.cons () (.cons () (.cons () (.nil ⟨EnvAll.of h2 ⟨rfl, rfl, rfl, trivial⟩, h4⟩)))))
                  · rintro Fr _ _
                    refine SO.v rfl (opv_fieldIdx Try.underlying55 rfl Try.sizeOf22 hr86 hx102 rfl rfl) ?_
                    exact SO.nilZ fun a w h1 h2 h3 h4 h5 => PZ.of h1 h3 h5 (.cons () (.cons () (.cons () (.nil ⟨EnvAll.of h2 ⟨rfl, rfl, trivial⟩, h4⟩))))
                  · rintro Fr _ _
                    refine SO.loadI1 (j := 1) rfl Try.isAgg22 (Rd.head hr86) hx102 rfl rfl rfl rfl ?_
                    exact SO.nilZ fun a w h1 h2 h3 h4 h5 => PZ.of h1 h3 h5 (.cons () (.cons () (.cons () (.nil ⟨EnvAll.of h2 ⟨rfl, rfl, trivial⟩, h4⟩))))
                  · rintro Fr _
                    refine SO.v rfl (opv_fieldAddr Try.underlying53 rfl Try.sizeOf22 rfl rfl) ?_
                    exact SO.nilZ fun a w h1 h2 h3 h4 h5 => PZ.of h1 h3 h5 (.cons () (.cons () (.nil ⟨EnvAll.of h2 ⟨rfl, rfl, trivial⟩, h4⟩)))
                  · rintro Fr _ _
                    refine SO.load1 rfl Try.isAgg22 rfl rfl ?_
                    exact SO.nilZ fun a w h1 h2 h3 h4 h5 => PZ.of h1 h3 h5 (.cons () (.cons () (.cons () (.nil ⟨EnvAll.of h2 ⟨rfl, rfl, trivial⟩, h4⟩))))
                  · rintro Fr _ _
                    refine SO.v rfl (opv_neq rfl rfl) ?_
                    exact SO.nilZ fun a w h1 h2 h3 h4 h5 => PZ.of h1 h3 h5 (.cons () (.cons () (.cons () (.nil ⟨EnvAll.of h2 ⟨rfl, rfl, rfl, trivial⟩, h4⟩))))
                  rintro _ _ _ _ _ _ _ _ _ _
                  refine S.to (ρ' := [(21, .int .i64 x21_6), (18, .int .i64 x18_4), (0, .int .i64 a0), (1, v1), (2, v2), (6, .bool false), (7, .bool t1), (8, bp b11 0), (10, v10_e1), (11, .int .i64 j11_e1), (14, .int .i64 x14_4), (16, .int .i64 x16_2), (17, .int .i64 x17_4), (20, .int .i64 t72), (13, v44), (22, bp b100 0), (183, .bool (x101.Version != x98.Version))]) ⟨rfl, rfl, rfl, rfl, rfl, rfl, rfl, rfl, rfl, rfl, rfl, rfl, rfl, rfl, rfl, rfl, rfl, trivial⟩ ?_
                  rcases bool_or (x101.Version != x98.Version) with b103 | b103
                  · replace h := cond_t b103 h
                    refine S.condT rfl b103 ?_
                    refine S.seq ?_
                    refine S.region ?_
                    refine SO.v rfl (opv_assign rfl) ?_
                    refine SO.nil ?_
                    refine S.to (ρ' := [(6, .bool false)]) ⟨rfl, trivial⟩ ?_
                    cases h
                    replace h := hK6.1 _ rfl
                    cases h
                    replace h := Brk.of_ret hJ5
                    cases h
                    replace h := hK4.1 _ rfl
                    cases h
                    replace h := hK2.1 _ rfl
                    cases h
                    refine S.drop ?_
                    refine S.drop ?_
                    refine S.drop ?_
                    refine S.drop ?_
                    refine S.drop ?_
                    exact S.ret1 Try.func4 rfl rfl (fun w hs hk => hR w _ _ ⟨rfl, rfl⟩ hs hk)
                  replace h := cond_f b103 h
                  refine S.condF rfl b103 ?_
                  refine S.skip ?_
                  refine S.seq ?_
                  refine S.region ?_
                  refine SO.v rfl (opv_fieldAddr Try.underlying53 rfl Try.sizeOf4 rfl rfl) ?_
                  refine SO.load1 rfl Try.isAgg4 rfl rfl ?_
                  refine SO.nil ?_
                  rcases bool_or x98.Write with b104 | b104
                  · replace h := cond_t b104 h
                    refine S.condT rfl b104 ?_
                    refine S.region ?_
                    refine SO.v rfl (opv_move rfl) ?_
                    refine SO.v rfl (opv_fieldAddr Try.underlying53 rfl Try.sizeOf3 rfl rfl) ?_
                    refine SO.load1 rfl Try.isAgg3 rfl rfl ?_
                    refine SO.v rfl (opv_fieldAddr Try.underlying53 rfl Try.sizeOf51 rfl rfl) ?_
                    refine SO.load1 rfl Try.isAgg51 rfl rfl ?_
                    refine SO.v rfl (opv_fieldAddr Try.underlying53 rfl Try.sizeOf22 rfl rfl) ?_
                    refine SO.load1 rfl Try.isAgg22 rfl rfl ?_
                    refine SO.v rfl (opv_add rfl rfl) ?_
                    refine SO.v rfl (opv_build (v := .agg #[.int .u64 x98.New, .int .u32 (wu32 (x98.Version + 1)), .int .i64 0]) rfl (by intro w; kernel_rfl)) ?_
                    obtain ⟨x105, hx106, h⟩ := opt_bind h
                    refine SO.v rfl (opv_idx Try.underlying32 Try.sizeOf55 hr86 rfl rfl hx106) ?_
                    refine SO.b1 ?_
                    refine SO.storeIN (z' := (⟨x98.New, wu32 (x98.Version + 1), 0⟩ : api_Cell)) Try.sizeOf55 hx106 rfl rfl rfl rfl ?_
                    refine SO.rd fun hr107 => ?_
                    refine SO.nil ?_
                    refine S.to (ρ' := [(21, .int .i64 x21_6), (18, .int .i64 x18_4), (0, .int .i64 a0), (1, v1), (2, v2), (6, .bool false), (7, .bool t1), (8, bp b11 0), (10, v10_e1), (11, .int .i64 j11_e1), (14, .int .i64 x14_4), (16, .int .i64 x16_2), (17, .int .i64 x17_4), (20, .int .i64 t72), (13, v44)]) ⟨rfl, rfl, rfl, rfl, rfl, rfl, rfl, rfl, rfl, rfl, rfl, rfl, rfl, rfl, rfl, trivial⟩ ?_
                    refine S.inBlock ?_
                    refine S.region ?_
                    refine SO.v rfl (opv_move rfl) ?_
                    refine SO.v rfl (opv_add rfl rfl) ?_
                    refine SO.v rfl (opv_assign rfl) ?_
                    refine SO.nil ?_
                    refine S.b1 ?_
                    refine S.drop ?_
                    refine S.b4 ?_
                    refine S.b1 ?_
                    refine S.b4 ?_
                    refine S.b4 ?_
                    refine S.b4 ?_
                    refine S.to ?_ (ih6 ((w64 (x21_6 + 1), qv44_6.set x98.Cell.toNat (⟨x98.New, wu32 (x98.Version + 1), 0⟩ : api_Cell)), ()) h)
                    exact ⟨rfl, rfl, rfl, rfl, rfl, rfl, rfl, rfl, rfl, rfl, rfl, rfl, rfl, rfl, rfl, trivial⟩
                  replace h := cond_f b104 h
                  refine S.condF rfl b104 ?_
                  refine S.skip ?_
                  refine S.inBlock ?_
                  refine S.region ?_
                  refine SO.v rfl (opv_move rfl) ?_
                  refine SO.v rfl (opv_add rfl rfl) ?_
                  refine SO.v rfl (opv_assign rfl) ?_
                  refine SO.nil ?_
                  refine S.drop ?_
                  refine S.b4 ?_
                  refine S.b1 ?_
                  refine S.b4 ?_
                  refine S.b4 ?_
                  refine S.b4 ?_
                  refine S.to ?_ (ih6 ((w64 (x21_6 + 1), qv44_6), ()) h)
                  exact ⟨rfl, rfl, rfl, rfl, rfl, rfl, rfl, rfl, rfl, rfl, rfl, rfl, rfl, rfl, rfl, trivial⟩
                replace h := cond_f b92 h
                refine S.condF rfl b92 ?_
                refine S.exit rfl ?_
                cases h
                refine S.b4 ?_
                refine S.b1 ?_
                refine S.b4 ?_
                refine S.b4 ?_
                refine S.b4 ?_
                refine S.to ?_ (hK6.2 qv44_6 () rfl)
                exact ⟨rfl, rfl, rfl, rfl, rfl, rfl, rfl, rfl, rfl, rfl, rfl, rfl, rfl, trivial⟩
              refine ⟨fun r' e' => ?_, ?_⟩
              · subst e'
                have h9 := Brk.of_ret h
                exact h9
              rintro qv44_e6 _ e'
              subst e'
              replace h := Brk.of_nx h
              refine S.b3 ?_
              refine S.rd fun hr108 => ?_
              cases h
              refine S.b4 ?_
              refine S.b1 ?_
              refine S.b4 ?_
              refine S.b4 ?_
              refine S.b4 ?_
              refine S.to ?_ (hk5 (qv44_e6, ()) rfl)
              exact ⟨rfl, rfl, rfl, rfl, rfl, rfl, rfl, rfl, rfl, rfl, rfl, rfl, rfl, trivial⟩
            replace h := cond_f b85 h
            refine S.condF rfl b85 ?_
            refine S.skip ?_
            cases h
            refine S.b4 ?_
            refine S.b4 ?_
            refine S.b4 ?_
            refine S.b4 ?_
            refine S.b4 ?_
            refine S.to ?_ (hk5 (qv44_4, ()) rfl)
            exact ⟨rfl, rfl, rfl, rfl, rfl, rfl, rfl, rfl, rfl, rfl, rfl, rfl, rfl, trivial⟩
          rintro ⟨qv44_5, _⟩ hq
          subst hq
          replace h := Brk.of_nx hJ5
          refine S.b3 ?_
          refine S.rd fun hr109 => ?_
          refine S.seq ?_
          refine S.region ?_
          refine SO.v rfl (opv_move rfl) ?_
          refine SO.v rfl (opv_add rfl rfl) ?_
          refine SO.v rfl (opv_assign rfl) ?_
          refine SO.nil ?_
          refine S.seq ?_
          refine S.seq ?_
          refine S.region ?_
          refine SO.v rfl (opv_move rfl) ?_
          refine SO.v rfl (opv_eql rfl rfl) ?_
          refine SO.nil ?_
          rcases bool_or (t72 == 0) with b110 | b110
          · replace h := cond_t b110 h
            refine S.condT rfl b110 ?_
            refine S.exit rfl ?_
            cases h
            refine S.b4 ?_
            refine S.b4 ?_
            refine S.b2 ?_
            refine S.b3 ?_
            refine S.b4 ?_
            refine S.to ?_ (hK4.2 (w64 (x14_4 + 1), p74.l, p74.limit, qv10_e1_4.set x17_4.toNat p73, qv44_5) u78_l rfl)
            exact ⟨rfl, rfl, rfl, rfl, rfl, rfl, rfl, rfl, rfl, rfl, rfl, trivial⟩
          replace h := cond_f b110 h
          refine S.condF rfl b110 ?_
          refine S.skip ?_
          refine S.seq ?_
          refine S.seq ?_
          refine S.region ?_
          refine SO.v rfl (opv_move rfl) ?_
          refine SO.v rfl (opv_lss rfl rfl) ?_
          refine SO.v rfl (opv_move rfl) ?_
          obtain ⟨c112, hc113, hgk⟩ := opt_bind h
          refine SO.cut 5 207 (.bool c112) [Own 55 ek_api_Cell v44 qv44_5, OwnPt rep_desc_Desc 38 v10_e1 (qv10_e1_4.set x17_4.toNat p73), Own 55 ek_api_Cell u78_l p74.l, Box b11 [u78_l, .int .u32 p74.limit], F] (fun l2 hk2 => ?_) ?_
          · clear hgk
            replace h := hc113
            rcases bool_or (decide (t72 < 1)) with b111 | b111
            · replace h := cond_t b111 h
              refine SO.passF rfl rfl rfl b111 rfl rfl ?_
              refine SO.passF rfl rfl rfl b111 rfl rfl ?_
              refine SO.passF rfl rfl rfl b111 rfl rfl ?_
              refine SO.passF rfl rfl rfl b111 rfl rfl ?_
              cases h
              refine SO.v rfl (opv_pick_t' b111 rfl rfl) ?_
              refine SO.b4 ?_
              refine SO.b4 ?_
              refine SO.b4 ?_
              refine SO.b4 ?_
              refine SO.b4 ?_
              exact hk2.fitc (m := 5) rfl (rfl) rfl
            replace h := cond_f b111 h
            refine SO.takeT rfl rfl rfl b111 ?_
            refine SO.v rfl (opv_move rfl) ?_
            refine SO.takeT rfl rfl rfl b111 ?_
            refine SO.v rfl (opv_move rfl) ?_
            refine SO.takeT rfl rfl rfl b111 ?_
            refine SO.b1 ?_
            refine SO.lenPt rfl Try.underlying35 rfl ?_
            refine SO.takeT rfl rfl rfl b111 ?_
            refine SO.v rfl (opv_gtr rfl rfl) ?_
            cases h
            refine SO.v rfl (opv_pick_f' b111 rfl rfl) ?_
            refine SO.b4 ?_
            refine SO.b4 ?_
            refine SO.b4 ?_
            refine SO.b3 ?_
            refine SO.b4 ?_
            exact hk2.fitc (m := 5) rfl (rfl) rfl
          clear hc113
          replace h := hgk
          refine SO.v rfl (opv_move rfl) ?_
          obtain ⟨c115, hc116, hgk⟩ := opt_bind h
          refine SO.cut 5 213 (.bool c115) [Own 55 ek_api_Cell v44 qv44_5, OwnPt rep_desc_Desc 38 v10_e1 (qv10_e1_4.set x17_4.toNat p73), Own 55 ek_api_Cell u78_l p74.l, Box b11 [u78_l, .int .u32 p74.limit], F] (fun l2 hk2 => ?_) ?_
          · clear hgk
            replace h := hc116
            rcases bool_or c112 with b114 | b114
            · replace h := cond_t b114 h
              refine SO.passF rfl rfl rfl b114 rfl rfl ?_
              refine SO.passF rfl rfl rfl b114 rfl rfl ?_
              refine SO.passF rfl rfl rfl b114 rfl rfl ?_
              refine SO.passF rfl rfl rfl b114 rfl rfl ?_
              cases h
              refine SO.v rfl (opv_pick_t' b114 rfl rfl) ?_
              refine SO.b4 ?_
              refine SO.b4 ?_
              refine SO.b4 ?_
              refine SO.b4 ?_
              refine SO.b4 ?_
              exact hk2.fitc (m := 5) rfl (rfl) rfl
            replace h := cond_f b114 h
            refine SO.takeT rfl rfl rfl b114 ?_
            refine SO.v rfl (opv_move rfl) ?_
            refine SO.takeT rfl rfl rfl b114 ?_
            refine SO.v rfl (opv_move rfl) ?_
            refine SO.takeT rfl rfl rfl b114 ?_
            refine SO.b1 ?_
            refine SO.lenPt rfl Try.underlying35 rfl ?_
            refine SO.takeT rfl rfl rfl b114 ?_
            refine SO.v rfl (opv_eql rfl rfl) ?_
            cases h
            refine SO.v rfl (opv_pick_f' b114 rfl rfl) ?_
            refine SO.b4 ?_
            refine SO.b4 ?_
            refine SO.b4 ?_
            refine SO.b3 ?_
            refine SO.b4 ?_
            exact hk2.fitc (m := 5) rfl (rfl) rfl
          clear hc116
          replace h := hgk
          refine SO.nil ?_
          refine S.to (ρ' := [(0, .int .i64 a0), (1, v1), (2, v2), (6, .bool false), (7, .bool t1), (8, bp b11 0), (10, v10_e1), (11, .int .i64 j11_e1), (13, v44), (14, .int .i64 (w64 (x14_4 + 1))), (16, .int .i64 x16_2), (18, .int .i64 x18_4), (20, .int .i64 t72), (213, .bool c115)]) ⟨rfl, rfl, rfl, rfl, rfl, rfl, rfl, rfl, rfl, rfl, rfl, rfl, rfl, rfl, trivial⟩ ?_
          rcases bool_or c115 with b117 | b117
          · replace h := cond_t b117 h
            refine S.condT rfl b117 ?_
            refine S.seq ?_
            refine S.region ?_
            refine SO.v rfl (opv_assign rfl) ?_
            refine SO.nil ?_
            refine S.to (ρ' := [(6, .bool false)]) ⟨rfl, trivial⟩ ?_
            cases h
            replace h := hK4.1 _ rfl
            cases h
            replace h := hK2.1 _ rfl
            cases h
            refine S.drop ?_
            refine S.drop ?_
            refine S.drop ?_
            refine S.drop ?_
            exact S.ret1 Try.func4 rfl rfl (fun w hs hk => hR w _ _ ⟨rfl, rfl⟩ hs hk)
          replace h := cond_f b117 h
          refine S.condF rfl b117 ?_
          refine S.skip ?_
          refine S.region ?_
          refine SO.v rfl (opv_move rfl) ?_
          refine SO.v rfl (opv_sub rfl rfl) ?_
          refine SO.v rfl (opv_assign rfl) ?_
          refine SO.nil ?_
          refine S.inBlock ?_
          refine S.region ?_
          refine SO.v rfl (opv_move rfl) ?_
          refine SO.v rfl (opv_add rfl rfl) ?_
          refine SO.v rfl (opv_assign rfl) ?_
          refine SO.nil ?_
          refine S.b4 ?_
          refine S.b4 ?_
          refine S.b2 ?_
          refine S.b3 ?_
          refine S.b4 ?_
          refine S.to ?_ (ih4 ((w64 (x18_4 + 1), w64 (x14_4 + 1), w64 (t72 - 1), p74.l, p74.limit, qv10_e1_4.set x17_4.toNat p73, qv44_5), u78_l) h)
          exact ⟨rfl, rfl, rfl, rfl, rfl, rfl, rfl, rfl, rfl, rfl, rfl, rfl, rfl, trivial⟩
        replace h := cond_f b60 h
        refine S.condF rfl b60 ?_
        refine S.exit rfl ?_
        cases h
        refine S.b4 ?_
        refine S.b4 ?_
        refine S.b3 ?_
        refine S.b3 ?_
        refine S.b4 ?_
        refine S.to ?_ (hK4.2 (x14_4, y11_0_4, y11_1_4, qv10_e1_4, qv44_4) vy11_0_4 rfl)
        exact ⟨rfl, rfl, rfl, rfl, rfl, rfl, rfl, rfl, rfl, rfl, rfl, trivial⟩
      refine ⟨fun r' e' => ?_, ?_⟩
      · subst e'
        have h9 := Brk.of_ret h
        exact h9
      rintro ⟨j14_e4, y11_0_e4, y11_1_e4, qv10_e1_e4, qv44_e4⟩ vy11_0_e4 e'
      subst e'
      replace h := Brk.of_nx h
      refine S.rd fun hr119 => ?_
      refine S.b2 ?_
      refine S.rd fun hr120 => ?_
      refine S.seq ?_
      refine S.region ?_
      refine SO.v rfl (opv_assign rfl) ?_
      refine SO.nil ?_
      refine S.seq ?_
      refine S.region ?_
      refine SO.v rfl (opv_assign rfl) ?_
      refine SO.nil ?_
      obtain ⟨j15_e7, hlp7, h⟩ := opt_bind h
      refine S.b4 ?_
      refine S.b4 ?_
      refine S.b4 ?_
      refine S.b4 ?_
      refine S.b4 ?_
      refine S.to (ρ' := [(23, .int .i64 0), (15, .int .i64 0), (0, .int .i64 a0), (1, v1), (2, v2), (6, .bool false), (7, .bool t1), (8, bp b11 0), (10, v10_e1), (11, .int .i64 j11_e1), (13, v44), (14, .int .i64 j14_e4), (16, .int .i64 x16_2)]) ⟨rfl, rfl, rfl, rfl, rfl, rfl, rfl, rfl, rfl, rfl, rfl, rfl, rfl, trivial⟩ ?_
      refine S.forloop (X := (Int × Int) × Unit) (O := Int) (fun m x => law07_DescHelps.l7 qv10_e1_e4 m x.1) (fun x => match x with | ((x23_7, x15_7), _) => [(23, .int .i64 x23_7), (15, .int .i64 x15_7), (0, .int .i64 a0), (1, v1), (2, v2), (6, .bool false), (7, .bool t1), (8, bp b11 0), (10, v10_e1), (11, .int .i64 j11_e1), (13, v44), (14, .int .i64 j14_e4), (16, .int .i64 x16_2)]) (fun x => match x with | ((x23_7, x15_7), _) => [Own 55 ek_api_Cell v44 qv44_e4, Own 55 ek_api_Cell vy11_0_e4 y11_0_e4, OwnPt rep_desc_Desc 38 v10_e1 qv10_e1_e4, Box b11 [vy11_0_e4, .int .u32 y11_1_e4], F]) (fun Sk => (fun j15_e7 => ∀ _ : Unit, Sk [(0, .int .i64 a0), (1, v1), (2, v2), (6, .bool false), (7, .bool t1), (8, bp b11 0), (10, v10_e1), (11, .int .i64 j11_e1), (13, v44), (14, .int .i64 j14_e4), (15, .int .i64 j15_e7), (16, .int .i64 x16_2)] [Own 55 ek_api_Cell v44 qv44_e4, Own 55 ek_api_Cell vy11_0_e4 y11_0_e4, OwnPt rep_desc_Desc 38 v10_e1 qv10_e1_e4, Box b11 [vy11_0_e4, .int .u32 y11_1_e4], F])) (fun _ => rfl) ?_ (m := k) (x := ((0, 0), ())) hlp7 ?_
      · clear h hlp7
        intro k x o_7 h hK7 ih7
        obtain ⟨⟨x23_7, x15_7⟩, _⟩ := x
        replace h : law07_DescHelps.l7 qv10_e1_e4 (k + 1) (x23_7, x15_7) = some o_7 := h
        first | rw [law07_DescHelps.l7] at h | unfold law07_DescHelps.l7 at h
        refine S.seq ?_
        refine S.seq ?_
        refine S.region ?_
        refine SO.v rfl (opv_move rfl) ?_
        refine SO.v rfl (opv_move rfl) ?_
        refine SO.b2 ?_
        refine SO.lenPt rfl Try.underlying35 rfl ?_
        refine SO.v rfl (opv_lss rfl rfl) ?_
        refine SO.nil ?_
        rcases bool_or (decide (x23_7 < (qv10_e1_e4.length : Int))) with b121 | b121
        · replace h := cond_t b121 h
          refine S.condT rfl b121 ?_
          refine S.skip ?_
          refine S.seq ?_
          refine S.block ?_
          refine S.seq ?_
          refine S.region ?_
          refine SO.v rfl (opv_move rfl) ?_
          refine SO.v rfl (opv_move rfl) ?_
          obtain ⟨x122, hx123, h⟩ := opt_bind h
          refine SO.focus hx123 fun bs124 b125 hb126 hle127 hRp128 => ?_
          refine so_open_desc_Desc (fun g129_l => ?_)
          refine SO.b1 ?_
          refine SO.rd fun hr130 => ?_
          refine SO.v rfl (opv_idx (K := ekP) Try.underlying35 Try.sizeOf38 hRp128 rfl rfl hb126) ?_
          refine SO.loadI1 (j := 0) (K := ekP) rfl Try.isAgg38 (Rd.tail (Rd.tail (Rd.head hRp128))) hb126 rfl rfl rfl rfl ?_
          obtain ⟨t131, ht132, h⟩ := opt_bind h
          refine SO.b1 ?_
          refine SO.call (pre := [Box _ _, Own _ _ _ _]) rfl Try.call12 rfl rfl rfl (desc_Desc_Over.ct b125 g129_l _ _ ht132) trivial ?_
          rintro _ _ ⟨rfl, rfl⟩
          refine SO.v rfl (opv_not rfl) ?_
          refine SO.nil ?_
          refine S.to (ρ' := [(23, .int .i64 x23_7), (15, .int .i64 x15_7), (0, .int .i64 a0), (1, v1), (2, v2), (6, .bool false), (7, .bool t1), (8, bp b11 0), (10, v10_e1), (11, .int .i64 j11_e1), (13, v44), (14, .int .i64 j14_e4), (16, .int .i64 x16_2), (227, .bool (!t131))]) ⟨rfl, rfl, rfl, rfl, rfl, rfl, rfl, rfl, rfl, rfl, rfl, rfl, rfl, rfl, trivial⟩ ?_
          rcases bool_or (!t131) with b133 | b133
          · replace h := cond_t b133 h
            refine S.condT rfl b133 ?_
            refine S.region ?_
            refine SO.v rfl (opv_move rfl) ?_
            refine SO.v rfl (opv_add rfl rfl) ?_
            refine SO.v rfl (opv_assign rfl) ?_
            refine SO.nil ?_
            refine S.inBlock ?_
            refine S.region ?_
            refine SO.v rfl (opv_move rfl) ?_
            refine SO.v rfl (opv_add rfl rfl) ?_
            refine SO.v rfl (opv_assign rfl) ?_
            refine SO.nil ?_
            refine S.b2 ?_
            refine S.b2 ?_
            refine S.b2 ?_
            refine s_close_desc_Desc (t := x122) ?_
            refine S.unfocus0 hb126 hx123 ?_
            refine S.b4 ?_
            refine S.b4 ?_
            refine S.b2 ?_
            refine S.b4 ?_
            refine S.b4 ?_
            refine S.to ?_ (ih7 ((w64 (x23_7 + 1), w64 (x15_7 + 1)), ()) h)
            exact ⟨rfl, rfl, rfl, rfl, rfl, rfl, rfl, rfl, rfl, rfl, rfl, rfl, rfl, trivial⟩
          replace h := cond_f b133 h
          refine S.condF rfl b133 ?_
          refine S.skip ?_
          refine S.inBlock ?_
          refine S.region ?_
          refine SO.v rfl (opv_move rfl) ?_
          refine SO.v rfl (opv_add rfl rfl) ?_
          refine SO.v rfl (opv_assign rfl) ?_
          refine SO.nil ?_
          refine S.b2 ?_
          refine S.b2 ?_
          refine S.b2 ?_
          refine s_close_desc_Desc (t := x122) ?_
          refine S.unfocus0 hb126 hx123 ?_
          refine S.b4 ?_
          refine S.b4 ?_
          refine S.b2 ?_
          refine S.b4 ?_
          refine S.b4 ?_
          refine S.to ?_ (ih7 ((w64 (x23_7 + 1), x15_7), ()) h)
          exact ⟨rfl, rfl, rfl, rfl, rfl, rfl, rfl, rfl, rfl, rfl, rfl, rfl, rfl, trivial⟩
        replace h := cond_f b121 h
        refine S.condF rfl b121 ?_
        refine S.exit rfl ?_
        cases h
        refine S.b4 ?_
        refine S.b4 ?_
        refine S.b2 ?_
        refine S.b4 ?_
        refine S.b4 ?_
        refine S.to ?_ (hK7 ())
        exact ⟨rfl, rfl, rfl, rfl, rfl, rfl, rfl, rfl, rfl, rfl, rfl, rfl, trivial⟩
      rintro _
      refine S.inBlock ?_
      refine S.region ?_
      refine SO.v rfl (opv_move rfl) ?_
      refine SO.v rfl (opv_add rfl rfl) ?_
      refine SO.v rfl (opv_assign rfl) ?_
      refine SO.nil ?_
      refine S.b4 ?_
      refine S.b4 ?_
      refine S.b2 ?_
      refine S.b4 ?_
      refine S.b4 ?_
      refine S.to ?_ (ih2 ((w64 (x16_2 + 1), j15_e7, j14_e4, y11_0_e4, y11_1_e4, qv10_e1_e4, qv44_e4), vy11_0_e4) h)
      exact ⟨rfl, rfl, rfl, rfl, rfl, rfl, rfl, rfl, rfl, rfl, rfl, rfl, trivial⟩
    replace h := cond_f b51 h
    refine S.condF rfl b51 ?_
    refine S.exit rfl ?_
    cases h
    refine S.b4 ?_
    refine S.b4 ?_
    refine S.b3 ?_
    refine S.b3 ?_
    refine S.b4 ?_
    refine S.to ?_ (hK2.2 (x15_2, y11_0_2, y11_1_2, qv10_e1_2, qv44_2) vy11_0_2 rfl)
    exact ⟨rfl, rfl, rfl, rfl, rfl, rfl, trivial⟩
  refine ⟨fun r' e' => ?_, ?_⟩
  · subst e'
    have h9 := Brk.of_ret h
    exact h9
  rintro ⟨j15_e2, y11_0_e2, y11_1_e2, qv10_e1_e2, qv44_e2⟩ vy11_0_e2 e'
  subst e'
  replace h := Brk.of_nx h
  refine S.rd fun hr134 => ?_
  refine S.b2 ?_
  refine S.rd fun hr135 => ?_
  refine S.seq ?_
  refine S.seq ?_
  refine S.region ?_
  refine SO.v rfl (opv_assign rfl) ?_
  refine SO.nil ?_
  obtain ⟨o8, hlp8, h⟩ := opt_bind h
  refine S.b4 ?_
  refine S.b4 ?_
  refine S.b4 ?_
  refine S.b4 ?_
  refine S.b4 ?_
  refine S.to (ρ' := [(24, .int .i64 0), (0, .int .i64 a0), (6, .bool false), (7, .bool t1), (8, bp b11 0), (13, v44), (15, .int .i64 j15_e2)]) ⟨rfl, rfl, rfl, rfl, rfl, rfl, rfl, trivial⟩ ?_
  refine S.forloop (X := Int × Unit) (O := Brk Bool Unit) (fun m x => law07_DescHelps.l8 a0 y11_0_e2 y11_1_e2 qv44_e2 m x.1) (fun x => match x with | (x24_8, _) => [(24, .int .i64 x24_8), (0, .int .i64 a0), (6, .bool false), (7, .bool t1), (8, bp b11 0), (13, v44), (15, .int .i64 j15_e2)]) (fun x => match x with | (x24_8, _) => [Own 55 ek_api_Cell v44 qv44_e2, Own 55 ek_api_Cell vy11_0_e2 y11_0_e2, OwnPt rep_desc_Desc 38 v10_e1 qv10_e1_e2, Box b11 [vy11_0_e2, .int .u32 y11_1_e2], F]) (fun Sk o' => (∀ r', o' = Brk.ret r' → some r' = some r0) ∧ ∀ _ : Unit, ∀ _ : Unit, o' = Brk.nx () → Sk [(6, .bool false), (7, .bool t1), (15, .int .i64 j15_e2)] [Own 55 ek_api_Cell v44 qv44_e2, Own 55 ek_api_Cell vy11_0_e2 y11_0_e2, OwnPt rep_desc_Desc 38 v10_e1 qv10_e1_e2, Box b11 [vy11_0_e2, .int .u32 y11_1_e2], F]) (fun _ => rfl) ?_ (m := k) (x := (0, ())) hlp8 ?_
  · clear h hlp8
    intro k x o_8 h hK8 ih8
    obtain ⟨x24_8, _⟩ := x
    replace h : law07_DescHelps.l8 a0 y11_0_e2 y11_1_e2 qv44_e2 (k + 1) x24_8 = some o_8 := h
    first | rw [law07_DescHelps.l8] at h | unfold law07_DescHelps.l8 at h
    refine S.seq ?_
    refine S.seq ?_
    refine S.region ?_
    refine SO.v rfl (opv_move rfl) ?_
    refine SO.v rfl (opv_move rfl) ?_
    refine SO.v rfl (opv_lss rfl rfl) ?_
    refine SO.nil ?_
    rcases bool_or (decide (x24_8 < a0)) with b136 | b136
    · replace h := cond_t b136 h
      refine S.condT rfl b136 ?_
      refine S.skip ?_
      refine S.seq ?_
      refine S.block ?_
      refine S.seq ?_
      refine S.region ?_
      refine SO.v rfl (opv_move rfl) ?_
      refine SO.v rfl (opv_move rfl) ?_
      obtain ⟨⟨t137, t138⟩, ht139, h⟩ := opt_bind h
      refine SO.b1 ?_
      refine SO.b3 ?_
      have ct145 := word_Store_Read.ct b11 vy11_0_e2 _ _ _ _ ht139
      try dsimp only at ct145
      refine SO.call (pre := [Box _ _, Own _ _ _ _]) rfl Try.call17 rfl rfl rfl ct145 trivial ?_
      rintro _ _ ⟨rfl, rfl⟩
      refine SO.v rfl (opv_move rfl) ?_
      refine SO.v rfl (opv_extract rfl rfl) ?_
      refine SO.v rfl (opv_extract rfl rfl) ?_
      refine SO.alloc rfl Try.zeroValue55 rfl (fun b140 => ?_)
      refine SO.storeN Try.sizeOf55 rfl rfl rfl rfl rfl rfl ?_
      refine SO.v rfl (opv_assign rfl) ?_
      refine SO.nil ?_
      refine S.to (ρ' := [(24, .int .i64 x24_8), (0, .int .i64 a0), (6, .bool false), (7, .bool t1), (8, bp b11 0), (13, v44), (15, .int .i64 j15_e2), (25, bp b140 0), (26, errV 59 t138)]) ⟨rfl, rfl, rfl, rfl, rfl, rfl, rfl, rfl, rfl, trivial⟩ ?_
      refine S.seq ?_
      obtain ⟨j250_9, hC9, hJ9⟩ := opt_bind h
      clear h
      refine S.cutP (G := Unit) (fun _ => True) (fun _ => [(0, .int .i64 a0), (6, .bool false), (7, .bool t1), (8, bp b11 0), (13, v44), (15, .int .i64 j15_e2), (24, .int .i64 x24_8), (250, .bool j250_9)]) (fun _ => [Box b140 [.int .u64 t137.Value, .int .u32 t137.Version, .int .i64 t137.Mark], Box b11 [vy11_0_e2, .int .u32 y11_1_e2], Own 55 ek_api_Cell vy11_0_e2 y11_0_e2, Own 55 ek_api_Cell v44 qv44_e2, OwnPt rep_desc_Desc 38 v10_e1 qv10_e1_e2, F]) (fun hk9 => ?_) ?_
      · replace h := hC9
        rcases bool_or t138.isSome with b141 | b141
        · replace h := cond_t b141 h
          refine S.draw2 (Y := fun Q => ∃ (_ _ _ _ _ _ _ _ _ _ _ : Unit), Q [(26, errV 59 t138), (25, bp b140 0), (13, v44), (24, .int .i64 x24_8), (0, .int .i64 a0), (6, .bool false), (7, .bool t1), (8, bp b11 0), (15, .int .i64 j15_e2)] [Box b140 [.int .u64 t137.Value, .int .u32 t137.Version, .int .i64 t137.Mark], Box b11 [vy11_0_e2, .int .u32 y11_1_e2], Own 55 ek_api_Cell vy11_0_e2 y11_0_e2, Own 55 ek_api_Cell v44 qv44_e2, OwnPt rep_desc_Desc 38 v10_e1 qv10_e1_e2, F]) (Z := fun Q => ∀ (_ _ _ _ _ _ _ _ _ _ : Unit), Q [(24, .int .i64 x24_8), (0, .int .i64 a0), (6, .bool false), (7, .bool t1), (8, bp b11 0), (15, .int .i64 j15_e2), (13, v44), (250, .bool true)] [Box b140 [.int .u64 t137.Value, .int .u32 t137.Version, .int .i64 t137.Mark], Box b11 [vy11_0_e2, .int .u32 y11_1_e2], Own 55 ek_api_Cell vy11_0_e2 y11_0_e2, Own 55 ek_api_Cell v44 qv44_e2, OwnPt rep_desc_Desc 38 v10_e1 qv10_e1_e2, F]) (T := [tS 26 (errV 59 t138), tS 25 (bp b140 0), tS 13 (v44), tS 24 (.int .i64 x24_8), tE [(0, .int .i64 a0), (6, .bool false), (7, .bool t1), (8, bp b11 0), (15, .int .i64 j15_e2)], tR (Box b140 [.int .u64 t137.Value, .int .u32 t137.Version, .int .i64 t137.Mark]), tR (Box b11 [vy11_0_e2, .int .u32 y11_1_e2]), tR (Own 55 ek_api_Cell vy11_0_e2 y11_0_e2), tR (Own 55 ek_api_Cell v44 qv44_e2), tR (OwnPt rep_desc_Desc 38 v10_e1 qv10_e1_e2), tR (F), tS 241 (errV 59 t138), tS 242 (.bool t138.isSome), tS 243 (.bool t138.isSome), tS 244 (undef), tS 245 (undef), tS 246 (undef), tS 247 (undef), tS 248 (undef), tS 249 (undef), tS 250 (.bool true)]) (D := [⟨[0], [], [11]⟩, ⟨[11], [], [12]⟩, ⟨[12], [], [13]⟩, ⟨[13], [], [14]⟩, ⟨[13], [], [15]⟩, ⟨[13], [], [16]⟩, ⟨[13], [], [17]⟩, ⟨[13], [], [18]⟩, ⟨[13], [], [19]⟩, ⟨[13, 19], [], [20]⟩]) (ini := [0, 1, 2, 3, 4, 5, 6, 7, 8, 9, 10]) (fin := [3, 4, 2, 20, 5, 6, 7, 8, 9, 10]) (bf := [[], [0], [0, 1], [0, 1, 2], [0, 1, 2], [0, 1, 2], [0, 1, 2, 4, 5], [0, 1, 2, 4, 5, 6], [0, 1, 2, 3, 4, 5, 6, 7], [0, 1, 2, 3, 4, 5, 6, 7, 8]]) (by kernel_rfl) (by kernel_rfl) (fun Q => by kernel_rfl) (fun x w h1 h2 => ⟨(), (), (), (), (), (), (), (), (), (), (), EnvAll.of h1 ⟨rfl, rfl, rfl, rfl, rfl, rfl, rfl, rfl, rfl, trivial⟩, h2⟩) (fun Q => by kernel_rfl) ⟨?_, ?_, ?_, ?_, ?_, ?_, ?_, ?_, ?_, ?_, trivial⟩ ?_
          · rintro Fr _
            refine SO.v rfl (opv_move rfl) ?_
            exact SO.nilZ fun a w h1 h2 h3 h4 h5 => PZ.of h1 h3 h5 (.cons () (.cons () (.nil ⟨EnvAll.of h2 ⟨rfl, rfl, trivial⟩, h4⟩)))
          · rintro Fr _
            refine SO.v rfl (opv_neqN (e := t138) Try.underlying28 rfl) ?_
            exact SO.nilZ fun a w h1 h2 h3 h4 h5 => PZ.of h1 h3 h5 (.cons () (.cons () (.nil ⟨EnvAll.of h2 ⟨rfl, rfl, trivial⟩, h4⟩)))
          · rintro Fr _
            refine SO.v rfl (opv_move rfl) ?_
            exact SO.nilZ fun a w h1 h2 h3 h4 h5 => PZ.of h1 h3 h5 (.cons () (.cons () (.nil ⟨EnvAll.of h2 ⟨rfl, rfl, trivial⟩, h4⟩)))
          · rintro Fr _
            refine SO.passF rfl rfl rfl b141 rfl rfl ?_
            exact SO.nilZ fun a w h1 h2 h3 h4 h5 => PZ.of h1 h3 h5 (.cons () (.cons () (.nil ⟨EnvAll.of h2 ⟨rfl, rfl, trivial⟩, h4⟩)))
          · rintro Fr _
            refine SO.passF rfl rfl rfl b141 rfl rfl ?_
            exact SO.nilZ fun a w h1 h2 h3 h4 h5 => PZ.of h1 h3 h5 (.cons () (.cons () (.nil ⟨EnvAll.of h2 ⟨rfl, rfl, trivial⟩, h4⟩)))
          · rintro Fr _
            refine SO.passF rfl rfl rfl b141 rfl rfl ?_
            exact SO.nilZ fun a w h1 h2 h3 h4 h5 => PZ.of h1 h3 h5 (.cons () (.cons () (.nil ⟨EnvAll.of h2 ⟨rfl, rfl, trivial⟩, h4⟩)))
          · rintro Fr _
            refine SO.passF rfl rfl rfl b141 rfl rfl ?_
            exact SO.nilZ fun a w h1 h2 h3 h4 h5 => PZ.of h1 h3 h5 (.cons () (.cons () (.nil ⟨EnvAll.of h2 ⟨rfl, rfl, trivial⟩, h4⟩)))
          · rintro Fr _
            refine SO.passF rfl rfl rfl b141 rfl rfl ?_
            exact SO.nilZ fun a w h1 h2 h3 h4 h5 => PZ.of h1 h3 h5 (.cons () (.cons () (.nil ⟨EnvAll.of h2 ⟨rfl, rfl, trivial⟩, h4⟩)))
          · rintro Fr _
            refine SO.passF rfl rfl rfl b141 rfl rfl ?_
            exact SO.nilZ fun a w h1 h2 h3 h4 h5 => PZ.of h1 h3 h5 (.cons () (.cons () (.nil ⟨EnvAll.of h2 ⟨rfl, rfl, trivial⟩, h4⟩)))
          · rintro Fr _ _
            refine SO.v rfl (opv_pick_t' b141 rfl rfl) ?_
            exact SO.nilZ fun a w h1 h2 h3 h4 h5 => PZ.of h1 h3 h5 (.cons () (.cons () (.cons () (.nil ⟨EnvAll.of h2 ⟨rfl, rfl, rfl, trivial⟩, h4⟩))))
          rintro _ _ _ _ _ _ _ _ _ _
          refine S.to (ρ' := [(24, .int .i64 x24_8), (0, .int .i64 a0), (6, .bool false), (7, .bool t1), (8, bp b11 0), (15, .int .i64 j15_e2), (13, v44), (250, .bool true)]) ⟨rfl, rfl, rfl, rfl, rfl, rfl, rfl, rfl, trivial⟩ ?_
          cases h
          refine S.b5 ?_
          refine S.b5 ?_
          refine S.b5 ?_
          refine S.b5 ?_
          refine S.b5 ?_
          refine S.b5 ?_
          refine S.to ?_ (hk9 () trivial)
          exact ⟨rfl, rfl, rfl, rfl, rfl, rfl, rfl, rfl, trivial⟩
        replace h := cond_f b141 h
        obtain ⟨x142, hx143, h⟩ := opt_bind h
        refine S.draw2 (Y := fun Q => ∃ (_ _ _ _ _ _ _ _ _ _ _ : Unit), Q [(26, errV 59 t138), (25, bp b140 0), (13, v44), (24, .int .i64 x24_8), (0, .int .i64 a0), (6, .bool false), (7, .bool t1), (8, bp b11 0), (15, .int .i64 j15_e2)] [Box b140 [.int .u64 t137.Value, .int .u32 t137.Version, .int .i64 t137.Mark], Box b11 [vy11_0_e2, .int .u32 y11_1_e2], Own 55 ek_api_Cell vy11_0_e2 y11_0_e2, Own 55 ek_api_Cell v44 qv44_e2, OwnPt rep_desc_Desc 38 v10_e1 qv10_e1_e2, F]) (Z := fun Q => ∀ (_ _ _ _ _ _ _ _ _ _ : Unit), Q [(24, .int .i64 x24_8), (0, .int .i64 a0), (6, .bool false), (7, .bool t1), (8, bp b11 0), (15, .int .i64 j15_e2), (13, v44), (250, .bool (!decide (t137 = x142)))] [Box b140 [.int .u64 t137.Value, .int .u32 t137.Version, .int .i64 t137.Mark], Box b11 [vy11_0_e2, .int .u32 y11_1_e2], Own 55 ek_api_Cell vy11_0_e2 y11_0_e2, Own 55 ek_api_Cell v44 qv44_e2, OwnPt rep_desc_Desc 38 v10_e1 qv10_e1_e2, F]) (T := [tS 26 (errV 59 t138), tS 25 (bp b140 0), tS 13 (v44), tS 24 (.int .i64 x24_8), tE [(0, .int .i64 a0), (6, .bool false), (7, .bool t1), (8, bp b11 0), (15, .int .i64 j15_e2)], tR (Box b140 [.int .u64 t137.Value, .int .u32 t137.Version, .int .i64 t137.Mark]), tR (Box b11 [vy11_0_e2, .int .u32 y11_1_e2]), tR (Own 55 ek_api_Cell vy11_0_e2 y11_0_e2), tR (Own 55 ek_api_Cell v44 qv44_e2), tR (OwnPt rep_desc_Desc 38 v10_e1 qv10_e1_e2), tR (F), tS 241 (errV 59 t138), tS 242 (.bool t138.isSome), tS 243 (.bool t138.isSome), tS 244 (.agg #[.int .u64 t137.Value, .int .u32 t137.Version, .int .i64 t137.Mark]), tS 245 (v44), tS 246 (.int .i64 x24_8), tS 247 (idxp v44 (x24_8.toNat * ek_api_Cell.sz)), tS 248 (.agg #[.int .u64 x142.Value, .int .u32 x142.Version, .int .i64 x142.Mark]), tS 249 (.bool (!decide (t137 = x142))), tS 250 (.bool (!decide (t137 = x142)))]) (D := [⟨[0], [], [11]⟩, ⟨[11], [], [12]⟩, ⟨[12], [], [13]⟩, ⟨[1, 13, 5], [], [14]⟩, ⟨[2, 13], [], [15]⟩, ⟨[3, 13], [], [16]⟩, ⟨[13, 15, 16, 8], [], [17]⟩, ⟨[13, 17, 8], [], [18]⟩, ⟨[13, 14, 18], [], [19]⟩, ⟨[13, 19], [], [20]⟩]) (ini := [0, 1, 2, 3, 4, 5, 6, 7, 8, 9, 10]) (fin := [3, 4, 2, 20, 5, 6, 7, 8, 9, 10]) (bf := [[], [0], [0, 1], [0, 1, 2], [0, 1, 2], [0, 1, 2], [0, 1, 2, 4, 5], [0, 1, 2, 4, 5, 6], [0, 1, 2, 3, 4, 5, 6, 7], [0, 1, 2, 3, 4, 5, 6, 7, 8]]) (by kernel_rfl) (by kernel_rfl) (fun Q => by kernel_rfl) (fun x w h1 h2 => ⟨(), (), (), (), (), (), (), (), (), (), (), EnvAll.of h1 ⟨rfl, rfl, rfl, rfl, rfl, rfl, rfl, rfl, rfl, trivial⟩, h2⟩) (fun Q => by kernel_rfl) ⟨?_, ?_, ?_, ?_, ?_, ?_, ?_, ?_, ?_, ?_, trivial⟩ ?_
        · rintro Fr _
          refine SO.v rfl (opv_move rfl) ?_
          exact SO.nilZ fun a w h1 h2 h3 h4 h5 => PZ.of h1 h3 h5 (.cons () (.cons () (.nil ⟨EnvAll.of h2 ⟨rfl, rfl, trivial⟩, h4⟩)))
        · rintro Fr _
          refine SO.v rfl (opv_neqN (e := t138) Try.underlying28 rfl) ?_
          exact SO.nilZ fun a w h1 h2 h3 h4 h5 => PZ.of h1 h3 h5 (.cons () (.cons () (.nil ⟨EnvAll.of h2 ⟨rfl, rfl, trivial⟩, h4⟩)))
        · rintro Fr _
          refine SO.v rfl (opv_move rfl) ?_
          exact SO.nilZ fun a w h1 h2 h3 h4 h5 => PZ.of h1 h3 h5 (.cons () (.cons () (.nil ⟨EnvAll.of h2 ⟨rfl, rfl, trivial⟩, h4⟩)))
        · rintro Fr _ _ _
          refine SO.takeT rfl rfl rfl b141 ?_
          refine SO.loadN rfl Try.isAgg55 Try.sizeOf55 rfl rfl rfl ?_
          exact SO.nilZ fun a w h1 h2 h3 h4 h5 => PZ.of h1 h3 h5 (.cons () (.cons () (.cons () (.cons () (.nil ⟨EnvAll.of h2 ⟨rfl, rfl, rfl, trivial⟩, h4⟩)))))
        · rintro Fr _ _
          refine SO.takeT rfl rfl rfl b141 ?_
          refine SO.v rfl (opv_move rfl) ?_
          exact SO.nilZ fun a w h1 h2 h3 h4 h5 => PZ.of h1 h3 h5 (.cons () (.cons () (.cons () (.nil ⟨EnvAll.of h2 ⟨rfl, rfl, rfl, trivial⟩, h4⟩))))
        · rintro Fr _ _
          refine SO.takeT rfl rfl rfl b141 ?_
          refine SO.v rfl (opv_move rfl) ?_
          exact SO.nilZ fun a w h1 h2 h3 h4 h5 => PZ.of h1 h3 h5 (.cons () (.cons () (.cons () (.nil ⟨EnvAll.of h2 ⟨rfl, rfl, rfl, trivial⟩, h4⟩))))
        · rintro Fr _ _ _ _
          refine SO.takeT rfl rfl rfl b141 ?_
          refine SO.v rfl (opv_idx Try.underlying32 Try.sizeOf55 hr135 rfl rfl hx143) ?_
          exact SO.nilZ fun a w h1 h2 h3 h4 h5 => PZ.of2 (Y := fun Q => ∃ (_ _ _ _ _ : Unit), Q [(243, .bool t138.isSome), (245, v44), (246, .int .i64 x24_8), (247, idxp v44 (x24_8.toNat * ek_api_Cell.sz))] [Own 55 ek_api_Cell v44 qv44_e2]) (fun Q => by kernel_rfl) h1 h3 h5 ⟨(), (), (), (), (), EnvAll.of h2 ⟨rfl, rfl, rfl, rfl, trivial⟩, h4⟩
        · rintro Fr _ _ _
          refine SO.takeT rfl rfl rfl b141 ?_
          refine SO.loadIN rfl Try.isAgg55 Try.sizeOf55 (Rd.head hr135) hx143 rfl rfl rfl ?_
          exact SO.nilZ fun a w h1 h2 h3 h4 h5 => PZ.of h1 h3 h5 (.cons () (.cons () (.cons () (.cons () (.nil ⟨EnvAll.of h2 ⟨rfl, rfl, rfl, trivial⟩, h4⟩)))))
        · rintro Fr _ _ _
          refine SO.takeT rfl rfl rfl b141 ?_
          refine SO.v rfl (eq_neq_api_Cell (x := t137) (y := x142) rfl rfl) ?_
          exact SO.nilZ fun a w h1 h2 h3 h4 h5 => PZ.of h1 h3 h5 (.cons () (.cons () (.cons () (.cons () (.nil ⟨EnvAll.of h2 ⟨rfl, rfl, rfl, rfl, trivial⟩, h4⟩)))))
        · rintro Fr _ _
          refine SO.v rfl (opv_pick_f' b141 rfl rfl) ?_
          exact SO.nilZ fun a w h1 h2 h3 h4 h5 => PZ.of h1 h3 h5 (.cons () (.cons () (.cons () (.nil ⟨EnvAll.of h2 ⟨rfl, rfl, rfl, trivial⟩, h4⟩))))
        rintro _ _ _ _ _ _ _ _ _ _
        refine S.to (ρ' := [(24, .int .i64 x24_8), (0, .int .i64 a0), (6, .bool false), (7, .bool t1), (8, bp b11 0), (15, .int .i64 j15_e2), (13, v44), (250, .bool (!decide (t137 = x142)))]) ⟨rfl, rfl, rfl, rfl, rfl, rfl, rfl, rfl, trivial⟩ ?_
        cases h
        refine S.b5 ?_
        refine S.b5 ?_
        refine S.b5 ?_
        refine S.b5 ?_
        refine S.b5 ?_
        refine S.b5 ?_
        refine S.to ?_ (hk9 () trivial)
        exact ⟨rfl, rfl, rfl, rfl, rfl, rfl, rfl, rfl, trivial⟩
      rintro _ -
      replace h := hJ9
      rcases bool_or j250_9 with b144 | b144
      · replace h := cond_t b144 h
        refine S.condT rfl b144 ?_
        refine S.seq ?_
        refine S.region ?_
        refine SO.v rfl (opv_assign rfl) ?_
        refine SO.nil ?_
        refine S.to (ρ' := [(6, .bool false)]) ⟨rfl, trivial⟩ ?_
        cases h
        replace h := hK8.1 _ rfl
        cases h
        refine S.drop ?_
        refine S.drop ?_
        refine S.drop ?_
        refine S.drop ?_
        refine S.drop ?_
        exact S.ret1 Try.func4 rfl rfl (fun w hs hk => hR w _ _ ⟨rfl, rfl⟩ hs hk)
      replace h := cond_f b144 h
      refine S.condF rfl b144 ?_
      refine S.skip ?_
      refine S.inBlock ?_
      refine S.region ?_
      refine SO.v rfl (opv_move rfl) ?_
      refine SO.v rfl (opv_add rfl rfl) ?_
      refine SO.v rfl (opv_assign rfl) ?_
      refine SO.nil ?_
      refine S.drop ?_
      refine S.b4 ?_
      refine S.b1 ?_
      refine S.b4 ?_
      refine S.b3 ?_
      refine S.b4 ?_
      refine S.to ?_ (ih8 (w64 (x24_8 + 1), ()) h)
      exact ⟨rfl, rfl, rfl, rfl, rfl, rfl, rfl, trivial⟩
    replace h := cond_f b136 h
    refine S.condF rfl b136 ?_
    refine S.exit rfl ?_
    cases h
    refine S.b4 ?_
    refine S.b4 ?_
    refine S.b4 ?_
    refine S.b4 ?_
    refine S.b4 ?_
    refine S.to ?_ (hK8.2 () () rfl)
    exact ⟨rfl, rfl, rfl, trivial⟩
  refine ⟨fun r' e' => ?_, ?_⟩
  · subst e'
    have h9 := Brk.of_ret h
    exact h9
  rintro _ _ e'
  subst e'
  replace h := Brk.of_nx h
  refine S.seq ?_
  refine S.region ?_
  refine SO.v rfl (opv_move rfl) ?_
  refine SO.v rfl (opv_move rfl) ?_
  refine SO.cut 3 255 (.bool (t1 && (j15_e2 == 0))) [Own 55 ek_api_Cell v44 qv44_e2, Own 55 ek_api_Cell vy11_0_e2 y11_0_e2, OwnPt rep_desc_Desc 38 v10_e1 qv10_e1_e2, Box b11 [vy11_0_e2, .int .u32 y11_1_e2], F] (fun l2 hk2 => ?_) ?_
  · rcases bool_or t1 with b146 | b146
    · refine SO.takeT rfl rfl rfl b146 ?_
      refine SO.v rfl (opv_move rfl) ?_
      refine SO.takeT rfl rfl rfl b146 ?_
      refine SO.v rfl (opv_eql rfl rfl) ?_
      refine SO.v rfl (opv_pick_t' b146 rfl rfl) ?_
      refine SO.b4 ?_
      refine SO.b4 ?_
      refine SO.b4 ?_
      refine SO.b4 ?_
      refine SO.b4 ?_
      exact hk2.fitc (m := 3) rfl (and_t b146) rfl
    refine SO.passF rfl rfl rfl b146 rfl rfl ?_
    refine SO.passF rfl rfl rfl b146 rfl rfl ?_
    refine SO.v rfl (opv_pick_f' b146 rfl rfl) ?_
    refine SO.b4 ?_
    refine SO.b4 ?_
    refine SO.b4 ?_
    refine SO.b4 ?_
    refine SO.b4 ?_
    exact hk2.fitc (m := 3) rfl (and_f b146) rfl
  refine SO.v rfl (opv_assign rfl) ?_
  refine SO.nil ?_
  cases h
  refine S.drop ?_
  refine S.drop ?_
  refine S.drop ?_
  refine S.drop ?_
  exact S.ret1 Try.func4 rfl rfl (fun w hs hk => hR w _ _ ⟨rfl, rfl⟩ hs hk)
end Go.Proofs
namespace Go.Proofs
open Go.Sl Go.RowKit
/-! 32 (*padstone/padstoneref01.Store).has -/
def ref01_Store_has.f (a0 : ref01_Store) (a1 : Int) : Option (Bool) :=
  (bif decide (0 ≤ a1) then (some (decide (a1 < (a0.L.length : Int)))) else (some false)).bind fun c3 => some c3
set_option maxHeartbeats 8000000 in
set_option maxRecDepth 100000 in
theorem ref01_Store_has.ct (bp0 : Nat) (v0_L : Value) (a0 : ref01_Store) (a1 : Int) (r0 : Bool) (h : ref01_Store_has.f a0 a1 = some r0) :
    Ct Try.prog 32 [bp bp0 0, .int .i64 a1] (fun _ => True) [Box bp0 [v0_L, .int .u32 a0.Limit], Own 55 ek_api_Cell v0_L a0.L] (fun u H' => u = .bool r0 ∧ H' = [Box bp0 [v0_L, .int .u32 a0.Limit], Own 55 ek_api_Cell v0_L a0.L]) := by
  unfold ref01_Store_has.f at h
  refine Ct.intro (n := 16) Try.func32 rfl rfl rfl ?_
  intro R w0 F hF hR
  refine S.b1 ?_
  refine S.rd fun hr1 => ?_
  refine S.seq ?_
  refine S.region ?_
  refine SO.v rfl (opv_assign rfl) ?_
  refine SO.nil ?_
  refine S.seq ?_
  refine S.region ?_
  refine SO.v rfl (opv_move rfl) ?_
  refine SO.v rfl (opv_geq rfl rfl) ?_
  refine SO.v rfl (opv_move rfl) ?_
  obtain ⟨c3, hc4, hgk⟩ := opt_bind h
  refine SO.cut 8 15 (.bool c3) [Own 55 ek_api_Cell v0_L a0.L, Box bp0 [v0_L, .int .u32 a0.Limit], F] (fun l2 hk2 => ?_) ?_
  · clear hgk
    replace h := hc4
    rcases bool_or (decide (0 ≤ a1)) with b2 | b2
    · replace h := cond_t b2 h
      refine SO.takeT rfl rfl rfl b2 ?_
      refine SO.v rfl (opv_move rfl) ?_
      refine SO.takeT rfl rfl rfl b2 ?_
      refine SO.v rfl (opv_move rfl) ?_
      refine SO.takeT rfl rfl rfl b2 ?_
      refine SO.v rfl (opv_nilCheck rfl) ?_
      refine SO.takeT rfl rfl rfl b2 ?_
      refine SO.v rfl (opv_fieldAddr Try.underlying34 rfl Try.sizeOf32 rfl rfl) ?_
      refine SO.takeT rfl rfl rfl b2 ?_
      refine SO.b1 ?_
      refine SO.load1 rfl Try.isAgg32 rfl rfl ?_
      refine SO.takeT rfl rfl rfl b2 ?_
      refine SO.v rfl (opv_lenR rfl Try.underlying32 hr1 rfl) ?_
      refine SO.takeT rfl rfl rfl b2 ?_
      refine SO.v rfl (opv_lss rfl rfl) ?_
      cases h
      refine SO.v rfl (opv_pick_t' b2 rfl rfl) ?_
      refine SO.b2 ?_
      refine SO.b1 ?_
      refine SO.b2 ?_
      exact hk2.fitc (m := 8) rfl (rfl) rfl
    replace h := cond_f b2 h
    refine SO.passF rfl rfl rfl b2 rfl rfl ?_
    refine SO.passF rfl rfl rfl b2 rfl rfl ?_
    refine SO.passF rfl rfl rfl b2 rfl rfl ?_
    refine SO.passF rfl rfl rfl b2 rfl rfl ?_
    refine SO.passF rfl rfl rfl b2 rfl rfl ?_
    refine SO.passF rfl rfl rfl b2 rfl rfl ?_
    refine SO.passF rfl rfl rfl b2 rfl rfl ?_
    cases h
    refine SO.v rfl (opv_pick_f' b2 rfl rfl) ?_
    refine SO.b2 ?_
    refine SO.b2 ?_
    refine SO.b2 ?_
    exact hk2.fitc (m := 8) rfl (rfl) rfl
  clear hc4
  replace h := hgk
  refine SO.v rfl (opv_assign rfl) ?_
  refine SO.nil ?_
  cases h
  refine S.b2 ?_
  refine S.b1 ?_
  refine S.b2 ?_
  exact S.ret1 Try.func32 rfl rfl (fun w hs hk => hR w _ _ ⟨rfl, rfl⟩ hs hk)
end Go.Proofs
namespace Go.Proofs
open Go.Sl Go.RowKit
/-! 22 (*padstone/padstoneref01.Store).Put -/
def ref01_Store_Put.f (a0 : ref01_Store) (a1 : Int) (a2 : Int) (a3 : Int) : Option ((Int × ref01_Store)) :=
  (ref01_Store_has.f a0 a1).bind fun t2 => bif !t2 then (some (2, a0)) else ((bif decide (a2 < 1) then (some true) else ((at_ a0.L a1).bind fun x8 => some (x8.Mark != a2))).bind fun c6 => bif c6 then (some (12, a0)) else ((at_ a0.L a1).bind fun x11 => bif x11.Version == a0.Limit then (some (11, a0)) else ((at_ a0.L a1).bind fun x14 => (at_ (a0.L.set a1.toNat ({ x14 with Mark := 0 } : api_Cell)) a1).bind fun x17 => (at_ ((a0.L.set a1.toNat ({ x14 with Mark := 0 } : api_Cell)).set a1.toNat ({ x17 with Value := a3 } : api_Cell)) a1).bind fun x20 => (at_ ((a0.L.set a1.toNat ({ x14 with Mark := 0 } : api_Cell)).set a1.toNat ({ x17 with Value := a3 } : api_Cell)) a1).bind fun x22 => some (0, (⟨((a0.L.set a1.toNat ({ x14 with Mark := 0 } : api_Cell)).set a1.toNat ({ x17 with Value := a3 } : api_Cell)).set a1.toNat ({ x22 with Version := wu32 (x20.Version + 1) } : api_Cell), a0.Limit⟩ : ref01_Store)))))
set_option maxHeartbeats 8000000 in
set_option maxRecDepth 100000 in
theorem ref01_Store_Put.ct (bp0 : Nat) (v0_L : Value) (a0 : ref01_Store) (a1 : Int) (a2 : Int) (a3 : Int) (r0 : Int) (rp0 : ref01_Store) (h : ref01_Store_Put.f a0 a1 a2 a3 = some (r0, rp0)) :
    Ct Try.prog 22 [bp bp0 0, .int .i64 a1, .int .i64 a2, .int .u64 a3] (fun _ => True) [Box bp0 [v0_L, .int .u32 a0.Limit], Own 55 ek_api_Cell v0_L a0.L] (fun u H' => ∃ rw0_L, u = .int .i64 r0 ∧ H' = [Box bp0 [rw0_L, .int .u32 rp0.Limit], Own 55 ek_api_Cell rw0_L rp0.L]) := by
  unfold ref01_Store_Put.f at h
  refine Ct.intro (n := 73) Try.func22 rfl rfl rfl ?_
  intro R w0 F hF hR
  refine S.b1 ?_
  refine S.rd fun hr1 => ?_
  refine S.seq ?_
  refine S.region ?_
  refine SO.v rfl (opv_assign rfl) ?_
  refine SO.nil ?_
  refine S.seq ?_
  refine S.region ?_
  refine SO.v rfl (opv_move rfl) ?_
  refine SO.v rfl (opv_move rfl) ?_
  obtain ⟨t2, ht3, h⟩ := opt_bind h
  refine SO.b1 ?_
  refine SO.call (pre := [Box _ _, Own _ _ _ _]) rfl Try.call32 rfl rfl rfl (ref01_Store_has.ct bp0 v0_L _ _ _ ht3) trivial ?_
  rintro _ _ ⟨rfl, rfl⟩
  refine SO.v rfl (opv_assign rfl) ?_
  refine SO.nil ?_
  refine S.seq ?_
  refine S.seq ?_
  refine S.region ?_
  refine SO.v rfl (opv_move rfl) ?_
  refine SO.v rfl (opv_not rfl) ?_
  refine SO.nil ?_
  rcases bool_or (!t2) with b4 | b4
  · replace h := cond_t b4 h
    refine S.condT rfl b4 ?_
    refine S.seq ?_
    refine S.region ?_
    refine SO.v rfl (opv_assign rfl) ?_
    refine SO.nil ?_
    refine S.to (ρ' := [(8, .int .i64 2)]) ⟨rfl, trivial⟩ ?_
    cases h
    refine S.b2 ?_
    refine S.b2 ?_
    refine S.b2 ?_
    exact S.ret1 Try.func22 rfl rfl (fun w hs hk => hR w _ _ ⟨v0_L, rfl, rfl⟩ hs hk)
  replace h := cond_f b4 h
  refine S.condF rfl b4 ?_
  refine S.skip ?_
  refine S.seq ?_
  refine S.seq ?_
  refine S.region ?_
  refine SO.v rfl (opv_move rfl) ?_
  refine SO.v rfl (opv_lss rfl rfl) ?_
  refine SO.v rfl (opv_move rfl) ?_
  obtain ⟨c6, hc7, hgk⟩ := opt_bind h
  refine SO.cut 11 28 (.bool c6) [Box bp0 [v0_L, .int .u32 a0.Limit], Own 55 ek_api_Cell v0_L a0.L, F] (fun l2 hk2 => ?_) ?_
  · clear hgk
    replace h := hc7
    rcases bool_or (decide (a2 < 1)) with b5 | b5
    · replace h := cond_t b5 h
      refine SO.passF rfl rfl rfl b5 rfl rfl ?_
      refine SO.passF rfl rfl rfl b5 rfl rfl ?_
      refine SO.passF rfl rfl rfl b5 rfl rfl ?_
      refine SO.passF rfl rfl rfl b5 rfl rfl ?_
      refine SO.passF rfl rfl rfl b5 rfl rfl ?_
      refine SO.passF rfl rfl rfl b5 rfl rfl ?_
      refine SO.passF rfl rfl rfl b5 rfl rfl ?_
      refine SO.passF rfl rfl rfl b5 rfl rfl ?_
      refine SO.passF rfl rfl rfl b5 rfl rfl ?_
      refine SO.passF rfl rfl rfl b5 rfl rfl ?_
      cases h
      refine SO.v rfl (opv_pick_t' b5 rfl rfl) ?_
      refine SO.b2 ?_
      refine SO.b2 ?_
      refine SO.b2 ?_
      exact hk2.fitc (m := 11) rfl (rfl) rfl
    replace h := cond_f b5 h
    refine SO.takeT rfl rfl rfl b5 ?_
    refine SO.v rfl (opv_move rfl) ?_
    refine SO.takeT rfl rfl rfl b5 ?_
    refine SO.v rfl (opv_nilCheck rfl) ?_
    refine SO.takeT rfl rfl rfl b5 ?_
    refine SO.v rfl (opv_fieldAddr Try.underlying34 rfl Try.sizeOf32 rfl rfl) ?_
    refine SO.takeT rfl rfl rfl b5 ?_
    refine SO.load1 rfl Try.isAgg32 rfl rfl ?_
    refine SO.takeT rfl rfl rfl b5 ?_
    refine SO.v rfl (opv_move rfl) ?_
    refine SO.takeT rfl rfl rfl b5 ?_
    obtain ⟨x8, hx9, h⟩ := opt_bind h
    refine SO.v rfl (opv_idx Try.underlying32 Try.sizeOf55 hr1 rfl rfl hx9) ?_
    refine SO.takeT rfl rfl rfl b5 ?_
    refine SO.v rfl (opv_fieldIdx Try.underlying55 rfl Try.sizeOf3 hr1 hx9 rfl rfl) ?_
    refine SO.takeT rfl rfl rfl b5 ?_
    refine SO.loadI1 (j := 2) rfl Try.isAgg3 (Rd.tail (Rd.head hr1)) hx9 rfl rfl rfl rfl ?_
    refine SO.takeT rfl rfl rfl b5 ?_
    refine SO.v rfl (opv_move rfl) ?_
    refine SO.takeT rfl rfl rfl b5 ?_
    refine SO.v rfl (opv_neq rfl rfl) ?_
    cases h
    refine SO.v rfl (opv_pick_f' b5 rfl rfl) ?_
    refine SO.b2 ?_
    refine SO.b2 ?_
    refine SO.b2 ?_
    exact hk2.fitc (m := 11) rfl (rfl) rfl
  clear hc7
  replace h := hgk
  refine SO.nil ?_
  refine S.to (ρ' := [(0, bp bp0 0), (1, .int .i64 a1), (3, .int .u64 a3), (8, .int .i64 0), (28, .bool c6)]) ⟨rfl, rfl, rfl, rfl, rfl, trivial⟩ ?_
  rcases bool_or c6 with b10 | b10
  · replace h := cond_t b10 h
    refine S.condT rfl b10 ?_
    refine S.seq ?_
    refine S.region ?_
    refine SO.v rfl (opv_assign rfl) ?_
    refine SO.nil ?_
    cases h
    refine S.b2 ?_
    refine S.b2 ?_
    refine S.b2 ?_
    exact S.ret1 Try.func22 rfl rfl (fun w hs hk => hR w _ _ ⟨v0_L, rfl, rfl⟩ hs hk)
  replace h := cond_f b10 h
  refine S.condF rfl b10 ?_
  refine S.skip ?_
  refine S.seq ?_
  refine S.seq ?_
  obtain ⟨x11, hx12, h⟩ := opt_bind h
  refine S.draw2 (Y := fun Q => ∃ (_ _ _ _ _ _ : Unit), Q [(0, bp bp0 0), (1, .int .i64 a1), (3, .int .u64 a3), (8, .int .i64 0)] [Box bp0 [v0_L, .int .u32 a0.Limit], Own 55 ek_api_Cell v0_L a0.L, F]) (Z := fun Q => ∀ (_ _ _ _ _ _ _ : Unit), Q [(0, bp bp0 0), (1, .int .i64 a1), (3, .int .u64 a3), (8, .int .i64 0), (41, .bool (x11.Version == a0.Limit))] [Box bp0 [v0_L, .int .u32 a0.Limit], Own 55 ek_api_Cell v0_L a0.L, F]) (T := [tS 0 (bp bp0 0), tS 1 (.int .i64 a1), tE [(3, .int .u64 a3), (8, .int .i64 0)], tR (Box bp0 [v0_L, .int .u32 a0.Limit]), tR (Own 55 ek_api_Cell v0_L a0.L), tR (F), tS 29 (bp bp0 0), tS 30 (bp bp0 0), tS 31 (bp bp0 0), tS 32 (v0_L), tS 33 (.int .i64 a1), tS 34 (idxp v0_L (a1.toNat * ek_api_Cell.sz)), tS 35 (idxp v0_L (a1.toNat * ek_api_Cell.sz + 1)), tS 36 (.int .u32 x11.Version), tS 37 (bp bp0 0), tS 38 (bp bp0 0), tS 39 (bp bp0 1), tS 40 (.int .u32 a0.Limit), tS 41 (.bool (x11.Version == a0.Limit))]) (D := [⟨[0], [], [6]⟩, ⟨[6], [], [7]⟩, ⟨[7], [], [8]⟩, ⟨[8, 3], [], [9]⟩, ⟨[1], [], [10]⟩, ⟨[9, 10, 4], [], [11]⟩, ⟨[11, 4], [], [12]⟩, ⟨[12, 4], [], [13]⟩, ⟨[0], [], [14]⟩, ⟨[14], [], [15]⟩, ⟨[15], [], [16]⟩, ⟨[16, 3], [], [17]⟩, ⟨[13, 17], [], [18]⟩]) (ini := [0, 1, 2, 3, 4, 5]) (fin := [0, 1, 2, 18, 3, 4, 5]) (bf := [[], [0], [0, 1], [0, 1, 2], [], [0, 1, 2, 3, 4], [0, 1, 2, 3, 4, 5], [0, 1, 2, 3, 4, 5, 6], [], [8], [8, 9], [8, 9, 10], [0, 1, 2, 3, 4, 5, 6, 7, 8, 9, 10, 11]]) (by kernel_rfl) (by kernel_rfl) (fun Q => by kernel_rfl) (fun x w h1 h2 => ⟨(), (), (), (), (), (), EnvAll.of h1 ⟨rfl, rfl, rfl, rfl, trivial⟩, h2⟩) (fun Q => by kernel_rfl) ⟨?_, ?_, ?_, ?_, ?_, ?_, ?_, ?_, ?_, ?_, ?_, ?_, ?_, trivial⟩ ?_
  · rintro Fr _
    refine SO.v rfl (opv_move rfl) ?_
    exact SO.nilZ fun a w h1 h2 h3 h4 h5 => PZ.of h1 h3 h5 (.cons () (.cons () (.nil ⟨EnvAll.of h2 ⟨rfl, rfl, trivial⟩, h4⟩)))
  · rintro Fr _
    refine SO.v rfl (opv_nilCheck rfl) ?_
    exact SO.nilZ fun a w h1 h2 h3 h4 h5 => PZ.of h1 h3 h5 (.cons () (.cons () (.nil ⟨EnvAll.of h2 ⟨rfl, rfl, trivial⟩, h4⟩)))
  · rintro Fr _
    refine SO.v rfl (opv_fieldAddr Try.underlying34 rfl Try.sizeOf32 rfl rfl) ?_
    exact SO.nilZ fun a w h1 h2 h3 h4 h5 => PZ.of h1 h3 h5 (.cons () (.cons () (.nil ⟨EnvAll.of h2 ⟨rfl, rfl, trivial⟩, h4⟩)))
  · rintro Fr _ _
    refine SO.load1 rfl Try.isAgg32 rfl rfl ?_
    exact SO.nilZ fun a w h1 h2 h3 h4 h5 => PZ.of h1 h3 h5 (.cons () (.cons () (.cons () (.nil ⟨EnvAll.of h2 ⟨rfl, rfl, trivial⟩, h4⟩))))
  · rintro Fr _
    refine SO.v rfl (opv_move rfl) ?_
    exact SO.nilZ fun a w h1 h2 h3 h4 h5 => PZ.of h1 h3 h5 (.cons () (.cons () (.nil ⟨EnvAll.of h2 ⟨rfl, rfl, trivial⟩, h4⟩)))
  · rintro Fr _ _ _
    refine SO.v rfl (opv_idx Try.underlying32 Try.sizeOf55 hr1 rfl rfl hx12) ?_
    exact SO.nilZ fun a w h1 h2 h3 h4 h5 => PZ.of h1 h3 h5 (.cons () (.cons () (.cons () (.cons () (.nil ⟨EnvAll.of h2 ⟨rfl, rfl, rfl, trivial⟩, h4⟩)))))
  · rintro Fr _ _
    refine SO.v rfl (opv_fieldIdx Try.underlying55 rfl Try.sizeOf22 hr1 hx12 rfl rfl) ?_
    exact SO.nilZ fun a w h1 h2 h3 h4 h5 => PZ.of h1 h3 h5 (.cons () (.cons () (.cons () (.nil ⟨EnvAll.of h2 ⟨rfl, rfl, trivial⟩, h4⟩))))
  · rintro Fr _ _
    refine SO.loadI1 (j := 1) rfl Try.isAgg22 (Rd.head hr1) hx12 rfl rfl rfl rfl ?_
    exact SO.nilZ fun a w h1 h2 h3 h4 h5 => PZ.of h1 h3 h5 (.cons () (.cons () (.cons () (.nil ⟨EnvAll.of h2 ⟨rfl, rfl, trivial⟩, h4⟩))))
  · rintro Fr _
    refine SO.v rfl (opv_move rfl) ?_
    exact SO.nilZ fun a w h1 h2 h3 h4 h5 => PZ.of h1 h3 h5 (.cons () (.cons () (.nil ⟨EnvAll.of h2 ⟨rfl, rfl, trivial⟩, h4⟩)))
  · rintro Fr _
    refine SO.v rfl (opv_nilCheck rfl) ?_
    exact SO.nilZ fun a w h1 h2 h3 h4 h5 => PZ.of h1 h3 h5 (.cons () (.cons () (.nil ⟨EnvAll.of h2 ⟨rfl, rfl, trivial⟩, h4⟩)))
  · rintro Fr _
    refine SO.v rfl (opv_fieldAddr Try.underlying34 rfl Try.sizeOf22 rfl rfl) ?_
    exact SO.nilZ fun a w h1 h2 h3 h4 h5 => PZ.of h1 h3 h5 (.cons () (.cons () (.nil ⟨EnvAll.of h2 ⟨rfl, rfl, trivial⟩, h4⟩)))
  · rintro Fr _ _
    refine SO.load1 rfl Try.isAgg22 rfl rfl ?_
    exact SO.nilZ fun a w h1 h2 h3 h4 h5 => PZ.of h1 h3 h5 (.cons () (.cons () (.cons () (.nil ⟨EnvAll.of h2 ⟨rfl, rfl, trivial⟩, h4⟩))))
  · rintro Fr _ _
    refine SO.v rfl (opv_eql rfl rfl) ?_
    exact SO.nilZ fun a w h1 h2 h3 h4 h5 => PZ.of h1 h3 h5 (.cons () (.cons () (.cons () (.nil ⟨EnvAll.of h2 ⟨rfl, rfl, rfl, trivial⟩, h4⟩))))
  rintro _ _ _ _ _ _ _
  refine S.to (ρ' := [(0, bp bp0 0), (1, .int .i64 a1), (3, .int .u64 a3), (8, .int .i64 0), (41, .bool (x11.Version == a0.Limit))]) ⟨rfl, rfl, rfl, rfl, rfl, trivial⟩ ?_
  rcases bool_or (x11.Version == a0.Limit) with b13 | b13
  · replace h := cond_t b13 h
    refine S.condT rfl b13 ?_
    refine S.seq ?_
    refine S.region ?_
    refine SO.v rfl (opv_assign rfl) ?_
    refine SO.nil ?_
    cases h
    refine S.b2 ?_
    refine S.b2 ?_
    refine S.b2 ?_
    exact S.ret1 Try.func22 rfl rfl (fun w hs hk => hR w _ _ ⟨v0_L, rfl, rfl⟩ hs hk)
  replace h := cond_f b13 h
  refine S.condF rfl b13 ?_
  refine S.skip ?_
  refine S.seq ?_
  refine S.region ?_
  refine SO.v rfl (opv_move rfl) ?_
  refine SO.v rfl (opv_nilCheck rfl) ?_
  refine SO.v rfl (opv_fieldAddr Try.underlying34 rfl Try.sizeOf32 rfl rfl) ?_
  refine SO.load1 rfl Try.isAgg32 rfl rfl ?_
  refine SO.v rfl (opv_move rfl) ?_
  obtain ⟨x14, hx15, h⟩ := opt_bind h
  refine SO.v rfl (opv_idx Try.underlying32 Try.sizeOf55 hr1 rfl rfl hx15) ?_
  refine SO.v rfl (opv_fieldIdx Try.underlying55 rfl Try.sizeOf3 hr1 hx15 rfl rfl) ?_
  refine SO.b1 ?_
  refine SO.storeI1 (j := 2) (z' := ({ x14 with Mark := 0 } : api_Cell)) Try.sizeOf3 hx15 rfl rfl rfl rfl rfl rfl ?_
  refine SO.rd fun hr16 => ?_
  refine SO.nil ?_
  refine S.to (ρ' := [(0, bp bp0 0), (1, .int .i64 a1), (3, .int .u64 a3), (8, .int .i64 0)]) ⟨rfl, rfl, rfl, rfl, trivial⟩ ?_
  refine S.seq ?_
  refine S.region ?_
  refine SO.v rfl (opv_move rfl) ?_
  refine SO.v rfl (opv_nilCheck rfl) ?_
  refine SO.v rfl (opv_fieldAddr Try.underlying34 rfl Try.sizeOf32 rfl rfl) ?_
  refine SO.b1 ?_
  refine SO.load1 rfl Try.isAgg32 rfl rfl ?_
  refine SO.v rfl (opv_move rfl) ?_
  refine SO.v rfl (opv_move rfl) ?_
  obtain ⟨x17, hx18, h⟩ := opt_bind h
  refine SO.v rfl (opv_idx Try.underlying32 Try.sizeOf55 hr16 rfl rfl hx18) ?_
  refine SO.v rfl (opv_fieldIdx Try.underlying55 rfl Try.sizeOf51 hr16 hx18 rfl rfl) ?_
  refine SO.b1 ?_
  refine SO.storeI1 (j := 0) (z' := ({ x17 with Value := a3 } : api_Cell)) Try.sizeOf51 hx18 rfl rfl rfl rfl rfl rfl ?_
  refine SO.rd fun hr19 => ?_
  refine SO.nil ?_
  refine S.to (ρ' := [(0, bp bp0 0), (1, .int .i64 a1), (8, .int .i64 0)]) ⟨rfl, rfl, rfl, trivial⟩ ?_
  refine S.seq ?_
  obtain ⟨x20, hx21, h⟩ := opt_bind h
  obtain ⟨x22, hx23, h⟩ := opt_bind h
  refine S.draw2 (Y := fun Q => ∃ (_ _ _ _ _ _ : Unit), Q [(0, bp bp0 0), (1, .int .i64 a1), (8, .int .i64 0)] [Own 55 ek_api_Cell v0_L ((a0.L.set a1.toNat ({ x14 with Mark := 0 } : api_Cell)).set a1.toNat ({ x17 with Value := a3 } : api_Cell)), Box bp0 [v0_L, .int .u32 a0.Limit], F]) (Z := fun Q => ∀ (_ _ _ _ : Unit), Q [(8, .int .i64 0)] [Own 55 ek_api_Cell v0_L (((a0.L.set a1.toNat ({ x14 with Mark := 0 } : api_Cell)).set a1.toNat ({ x17 with Value := a3 } : api_Cell)).set a1.toNat ({ x22 with Version := wu32 (x20.Version + 1) } : api_Cell)), Box bp0 [v0_L, .int .u32 a0.Limit], F]) (T := [tS 0 (bp bp0 0), tS 1 (.int .i64 a1), tS 8 (.int .i64 0), tR (Own 55 ek_api_Cell v0_L ((a0.L.set a1.toNat ({ x14 with Mark := 0 } : api_Cell)).set a1.toNat ({ x17 with Value := a3 } : api_Cell))), tR (Box bp0 [v0_L, .int .u32 a0.Limit]), tR (F), tS 57 (bp bp0 0), tS 58 (bp bp0 0), tS 59 (bp bp0 0), tS 60 (v0_L), tS 61 (.int .i64 a1), tS 62 (bp bp0 0), tS 63 (bp bp0 0), tS 64 (bp bp0 0), tS 65 (v0_L), tS 66 (.int .i64 a1), tS 67 (idxp v0_L (a1.toNat * ek_api_Cell.sz)), tS 68 (idxp v0_L (a1.toNat * ek_api_Cell.sz + 1)), tS 69 (.int .u32 x20.Version), tS 70 (.int .u32 (wu32 (x20.Version + 1))), tS 71 (idxp v0_L (a1.toNat * ek_api_Cell.sz)), tS 72 (idxp v0_L (a1.toNat * ek_api_Cell.sz + 1)), tR (Own 55 ek_api_Cell v0_L (((a0.L.set a1.toNat ({ x14 with Mark := 0 } : api_Cell)).set a1.toNat ({ x17 with Value := a3 } : api_Cell)).set a1.toNat ({ x22 with Version := wu32 (x20.Version + 1) } : api_Cell)))]) (D := [⟨[0], [], [6]⟩, ⟨[6], [], [7]⟩, ⟨[7], [], [8]⟩, ⟨[8, 4], [], [9]⟩, ⟨[1], [], [10]⟩, ⟨[0], [], [11]⟩, ⟨[11], [], [12]⟩, ⟨[12], [], [13]⟩, ⟨[13, 4], [], [14]⟩, ⟨[1], [], [15]⟩, ⟨[14, 15, 3], [], [16]⟩, ⟨[16, 3], [], [17]⟩, ⟨[17, 3], [], [18]⟩, ⟨[18], [], [19]⟩, ⟨[9, 10, 3], [], [20]⟩, ⟨[20, 3], [], [21]⟩, ⟨[19, 21], [3], [22]⟩]) (ini := [0, 1, 2, 3, 4, 5]) (fin := [2, 22, 4, 5]) (bf := [[], [0], [0, 1], [0, 1, 2], [], [], [5], [5, 6], [5, 6, 7], [], [5, 6, 7, 8, 9], [5, 6, 7, 8, 9, 10], [5, 6, 7, 8, 9, 10, 11], [5, 6, 7, 8, 9, 10, 11, 12], [0, 1, 2, 3, 4, 5, 6, 7, 8, 9, 10, 11, 12, 13], [0, 1, 2, 3, 4, 5, 6, 7, 8, 9, 10, 11, 12, 13, 14], [0, 1, 2, 3, 4, 5, 6, 7, 8, 9, 10, 11, 12, 13, 14, 15]]) (by kernel_rfl) (by kernel_rfl) (fun Q => by kernel_rfl) (fun x w h1 h2 => ⟨(), (), (), (), (), (), EnvAll.of h1 ⟨rfl, rfl, rfl, trivial⟩, h2⟩) (fun Q => by kernel_rfl) ⟨?_, ?_, ?_, ?_, ?_, ?_, ?_, ?_, ?_, ?_, ?_, ?_, ?_, ?_, ?_, ?_, ?_, trivial⟩ ?_
  · rintro Fr _
    refine SO.v rfl (opv_move rfl) ?_
    exact SO.nilZ fun a w h1 h2 h3 h4 h5 => PZ.of h1 h3 h5 (.cons () (.cons () (.nil ⟨EnvAll.of h2 ⟨rfl, rfl, trivial⟩, h4⟩)))
  · rintro Fr _
    refine SO.v rfl (opv_nilCheck rfl) ?_
    exact SO.nilZ fun a w h1 h2 h3 h4 h5 => PZ.of h1 h3 h5 (.cons () (.cons () (.nil ⟨EnvAll.of h2 ⟨rfl, rfl, trivial⟩, h4⟩)))
  · rintro Fr _
    refine SO.v rfl (opv_fieldAddr Try.underlying34 rfl Try.sizeOf32 rfl rfl) ?_
    exact SO.nilZ fun a w h1 h2 h3 h4 h5 => PZ.of h1 h3 h5 (.cons () (.cons () (.nil ⟨EnvAll.of h2 ⟨rfl, rfl, trivial⟩, h4⟩)))
  · rintro Fr _ _
    refine SO.load1 rfl Try.isAgg32 rfl rfl ?_
    exact SO.nilZ fun a w h1 h2 h3 h4 h5 => PZ.of h1 h3 h5 (.cons () (.cons () (.cons () (.nil ⟨EnvAll.of h2 ⟨rfl, rfl, trivial⟩, h4⟩))))
  · rintro Fr _
    refine SO.v rfl (opv_move rfl) ?_
    exact SO.nilZ fun a w h1 h2 h3 h4 h5 => PZ.of h1 h3 h5 (.cons () (.cons () (.nil ⟨EnvAll.of h2 ⟨rfl, rfl, trivial⟩, h4⟩)))
  · rintro Fr _
    refine SO.v rfl (opv_move rfl) ?_
    exact SO.nilZ fun a w h1 h2 h3 h4 h5 => PZ.of h1 h3 h5 (.cons () (.cons () (.nil ⟨EnvAll.of h2 ⟨rfl, rfl, trivial⟩, h4⟩)))
  · rintro Fr _
    refine SO.v rfl (opv_nilCheck rfl) ?_
    exact SO.nilZ fun a w h1 h2 h3 h4 h5 => PZ.of h1 h3 h5 (.cons () (.cons () (.nil ⟨EnvAll.of h2 ⟨rfl, rfl, trivial⟩, h4⟩)))
  · rintro Fr _
    refine SO.v rfl (opv_fieldAddr Try.underlying34 rfl Try.sizeOf32 rfl rfl) ?_
    exact SO.nilZ fun a w h1 h2 h3 h4 h5 => PZ.of h1 h3 h5 (.cons () (.cons () (.nil ⟨EnvAll.of h2 ⟨rfl, rfl, trivial⟩, h4⟩)))
  · rintro Fr _ _
    refine SO.load1 rfl Try.isAgg32 rfl rfl ?_
    exact SO.nilZ fun a w h1 h2 h3 h4 h5 => PZ.of h1 h3 h5 (.cons () (.cons () (.cons () (.nil ⟨EnvAll.of h2 ⟨rfl, rfl, trivial⟩, h4⟩))))
  · rintro Fr _
    refine SO.v rfl (opv_move rfl) ?_
    exact SO.nilZ fun a w h1 h2 h3 h4 h5 => PZ.of h1 h3 h5 (.cons () (.cons () (.nil ⟨EnvAll.of h2 ⟨rfl, rfl, trivial⟩, h4⟩)))
  · rintro Fr _ _ _
    refine SO.v rfl (opv_idx Try.underlying32 Try.sizeOf55 hr19 rfl rfl hx21) ?_
    exact SO.nilZ fun a w h1 h2 h3 h4 h5 => PZ.of h1 h3 h5 (.cons () (.cons () (.cons () (.cons () (.nil ⟨EnvAll.of h2 ⟨rfl, rfl, rfl, trivial⟩, h4⟩)))))
  · rintro Fr _ _
    refine SO.v rfl (opv_fieldIdx Try.underlying55 rfl Try.sizeOf22 hr19 hx21 rfl rfl) ?_
    exact SO.nilZ fun a w h1 h2 h3 h4 h5 => PZ.of h1 h3 h5 (.cons () (.cons () (.cons () (.nil ⟨EnvAll.of h2 ⟨rfl, rfl, trivial⟩, h4⟩))))
  · rintro Fr _ _
    refine SO.loadI1 (j := 1) rfl Try.isAgg22 (Rd.head hr19) hx21 rfl rfl rfl rfl ?_
    exact SO.nilZ fun a w h1 h2 h3 h4 h5 => PZ.of h1 h3 h5 (.cons () (.cons () (.cons () (.nil ⟨EnvAll.of h2 ⟨rfl, rfl, trivial⟩, h4⟩))))
  · rintro Fr _
    refine SO.v rfl (opv_add rfl rfl) ?_
    exact SO.nilZ fun a w h1 h2 h3 h4 h5 => PZ.of h1 h3 h5 (.cons () (.cons () (.nil ⟨EnvAll.of h2 ⟨rfl, rfl, trivial⟩, h4⟩)))
  · rintro Fr _ _ _
    refine SO.v rfl (opv_idx Try.underlying32 Try.sizeOf55 hr19 rfl rfl hx23) ?_
    exact SO.nilZ fun a w h1 h2 h3 h4 h5 => PZ.of h1 h3 h5 (.cons () (.cons () (.cons () (.cons () (.nil ⟨EnvAll.of h2 ⟨rfl, rfl, rfl, trivial⟩, h4⟩)))))
  · rintro Fr _ _
    refine SO.v rfl (opv_fieldIdx Try.underlying55 rfl Try.sizeOf22 hr19 hx23 rfl rfl) ?_
    exact SO.nilZ fun a w h1 h2 h3 h4 h5 => PZ.of h1 h3 h5 (.cons () (.cons () (.cons () (.nil ⟨EnvAll.of h2 ⟨rfl, rfl, trivial⟩, h4⟩))))
  · rintro Fr _ _ _
    refine SO.storeI1 (j := 1) (z' := ({ x22 with Version := wu32 (x20.Version + 1) } : api_Cell)) Try.sizeOf22 hx23 rfl rfl rfl rfl rfl rfl ?_
    refine SO.rd fun hr24 => ?_
    exact SO.nilZ fun a w h1 h2 h3 h4 h5 => PZ.of h1 h3 h5 (.cons () (.cons () (.cons () (.nil ⟨EnvAll.of h2 ⟨rfl, rfl, trivial⟩, h4⟩))))
  rintro _ _ _ _
  refine S.to (ρ' := [(8, .int .i64 0)]) ⟨rfl, trivial⟩ ?_
  refine S.rd fun hr25 => ?_
  refine S.seq ?_
  refine S.region ?_
  refine SO.v rfl (opv_assign rfl) ?_
  refine SO.nil ?_
  cases h
  refine S.b2 ?_
  refine S.b1 ?_
  refine S.b2 ?_
  exact S.ret1 Try.func22 rfl rfl (fun w hs hk => hR w _ _ ⟨v0_L, rfl, rfl⟩ hs hk)
end Go.Proofs
namespace Go.Proofs
open Go.Sl Go.RowKit
/-! 23 (*padstone/padstoneref01.Store).Release -/
def ref01_Store_Release.f (a0 : ref01_Store) (a1 : Int) (a2 : Int) : Option ((Int × ref01_Store)) :=
  (ref01_Store_has.f a0 a1).bind fun t2 => bif !t2 then (some (2, a0)) else ((bif decide (a2 < 1) then (some true) else ((at_ a0.L a1).bind fun x8 => some (x8.Mark != a2))).bind fun c6 => bif c6 then (some (12, a0)) else ((at_ a0.L a1).bind fun x11 => some (0, (⟨a0.L.set a1.toNat ({ x11 with Mark := 0 } : api_Cell), a0.Limit⟩ : ref01_Store))))
set_option maxHeartbeats 8000000 in
set_option maxRecDepth 100000 in
theorem ref01_Store_Release.ct (bp0 : Nat) (v0_L : Value) (a0 : ref01_Store) (a1 : Int) (a2 : Int) (r0 : Int) (rp0 : ref01_Store) (h : ref01_Store_Release.f a0 a1 a2 = some (r0, rp0)) :
    Ct Try.prog 23 [bp bp0 0, .int .i64 a1, .int .i64 a2] (fun _ => True) [Box bp0 [v0_L, .int .u32 a0.Limit], Own 55 ek_api_Cell v0_L a0.L] (fun u H' => ∃ rw0_L, u = .int .i64 r0 ∧ H' = [Box bp0 [rw0_L, .int .u32 rp0.Limit], Own 55 ek_api_Cell rw0_L rp0.L]) := by
  unfold ref01_Store_Release.f at h
  refine Ct.intro (n := 34) Try.func23 rfl rfl rfl ?_
  intro R w0 F hF hR
  refine S.b1 ?_
  refine S.rd fun hr1 => ?_
  refine S.seq ?_
  refine S.region ?_
  refine SO.v rfl (opv_assign rfl) ?_
  refine SO.nil ?_
  refine S.seq ?_
  refine S.region ?_
  refine SO.v rfl (opv_move rfl) ?_
  refine SO.v rfl (opv_move rfl) ?_
  obtain ⟨t2, ht3, h⟩ := opt_bind h
  refine SO.b1 ?_
  refine SO.call (pre := [Box _ _, Own _ _ _ _]) rfl Try.call32 rfl rfl rfl (ref01_Store_has.ct bp0 v0_L _ _ _ ht3) trivial ?_
  rintro _ _ ⟨rfl, rfl⟩
  refine SO.v rfl (opv_assign rfl) ?_
  refine SO.nil ?_
  refine S.seq ?_
  refine S.seq ?_
  refine S.region ?_
  refine SO.v rfl (opv_move rfl) ?_
  refine SO.v rfl (opv_not rfl) ?_
  refine SO.nil ?_
  rcases bool_or (!t2) with b4 | b4
  · replace h := cond_t b4 h
    refine S.condT rfl b4 ?_
    refine S.seq ?_
    refine S.region ?_
    refine SO.v rfl (opv_assign rfl) ?_
    refine SO.nil ?_
    refine S.to (ρ' := [(6, .int .i64 2)]) ⟨rfl, trivial⟩ ?_
    cases h
    refine S.b2 ?_
    refine S.b2 ?_
    refine S.b2 ?_
    exact S.ret1 Try.func23 rfl rfl (fun w hs hk => hR w _ _ ⟨v0_L, rfl, rfl⟩ hs hk)
  replace h := cond_f b4 h
  refine S.condF rfl b4 ?_
  refine S.skip ?_
  refine S.seq ?_
  refine S.seq ?_
  refine S.region ?_
  refine SO.v rfl (opv_move rfl) ?_
  refine SO.v rfl (opv_lss rfl rfl) ?_
  refine SO.v rfl (opv_move rfl) ?_
  obtain ⟨c6, hc7, hgk⟩ := opt_bind h
  refine SO.cut 11 26 (.bool c6) [Box bp0 [v0_L, .int .u32 a0.Limit], Own 55 ek_api_Cell v0_L a0.L, F] (fun l2 hk2 => ?_) ?_
  · clear hgk
    replace h := hc7
    rcases bool_or (decide (a2 < 1)) with b5 | b5
    · replace h := cond_t b5 h
      refine SO.passF rfl rfl rfl b5 rfl rfl ?_
      refine SO.passF rfl rfl rfl b5 rfl rfl ?_
      refine SO.passF rfl rfl rfl b5 rfl rfl ?_
      refine SO.passF rfl rfl rfl b5 rfl rfl ?_
      refine SO.passF rfl rfl rfl b5 rfl rfl ?_
      refine SO.passF rfl rfl rfl b5 rfl rfl ?_
      refine SO.passF rfl rfl rfl b5 rfl rfl ?_
      refine SO.passF rfl rfl rfl b5 rfl rfl ?_
      refine SO.passF rfl rfl rfl b5 rfl rfl ?_
      refine SO.passF rfl rfl rfl b5 rfl rfl ?_
      cases h
      refine SO.v rfl (opv_pick_t' b5 rfl rfl) ?_
      refine SO.b2 ?_
      refine SO.b2 ?_
      refine SO.b2 ?_
      exact hk2.fitc (m := 11) rfl (rfl) rfl
    replace h := cond_f b5 h
    refine SO.takeT rfl rfl rfl b5 ?_
    refine SO.v rfl (opv_move rfl) ?_
    refine SO.takeT rfl rfl rfl b5 ?_
    refine SO.v rfl (opv_nilCheck rfl) ?_
    refine SO.takeT rfl rfl rfl b5 ?_
    refine SO.v rfl (opv_fieldAddr Try.underlying34 rfl Try.sizeOf32 rfl rfl) ?_
    refine SO.takeT rfl rfl rfl b5 ?_
    refine SO.load1 rfl Try.isAgg32 rfl rfl ?_
    refine SO.takeT rfl rfl rfl b5 ?_
    refine SO.v rfl (opv_move rfl) ?_
    refine SO.takeT rfl rfl rfl b5 ?_
    obtain ⟨x8, hx9, h⟩ := opt_bind h
    refine SO.v rfl (opv_idx Try.underlying32 Try.sizeOf55 hr1 rfl rfl hx9) ?_
    refine SO.takeT rfl rfl rfl b5 ?_
    refine SO.v rfl (opv_fieldIdx Try.underlying55 rfl Try.sizeOf3 hr1 hx9 rfl rfl) ?_
    refine SO.takeT rfl rfl rfl b5 ?_
    refine SO.loadI1 (j := 2) rfl Try.isAgg3 (Rd.tail (Rd.head hr1)) hx9 rfl rfl rfl rfl ?_
    refine SO.takeT rfl rfl rfl b5 ?_
    refine SO.v rfl (opv_move rfl) ?_
    refine SO.takeT rfl rfl rfl b5 ?_
    refine SO.v rfl (opv_neq rfl rfl) ?_
    cases h
    refine SO.v rfl (opv_pick_f' b5 rfl rfl) ?_
    refine SO.b2 ?_
    refine SO.b2 ?_
    refine SO.b2 ?_
    exact hk2.fitc (m := 11) rfl (rfl) rfl
  clear hc7
  replace h := hgk
  refine SO.nil ?_
  refine S.to (ρ' := [(0, bp bp0 0), (1, .int .i64 a1), (6, .int .i64 0), (26, .bool c6)]) ⟨rfl, rfl, rfl, rfl, trivial⟩ ?_
  rcases bool_or c6 with b10 | b10
  · replace h := cond_t b10 h
    refine S.condT rfl b10 ?_
    refine S.seq ?_
    refine S.region ?_
    refine SO.v rfl (opv_assign rfl) ?_
    refine SO.nil ?_
    cases h
    refine S.b2 ?_
    refine S.b2 ?_
    refine S.b2 ?_
    exact S.ret1 Try.func23 rfl rfl (fun w hs hk => hR w _ _ ⟨v0_L, rfl, rfl⟩ hs hk)
  replace h := cond_f b10 h
  refine S.condF rfl b10 ?_
  refine S.skip ?_
  refine S.seq ?_
  refine S.region ?_
  refine SO.v rfl (opv_move rfl) ?_
  refine SO.v rfl (opv_nilCheck rfl) ?_
  refine SO.v rfl (opv_fieldAddr Try.underlying34 rfl Try.sizeOf32 rfl rfl) ?_
  refine SO.load1 rfl Try.isAgg32 rfl rfl ?_
  refine SO.v rfl (opv_move rfl) ?_
  obtain ⟨x11, hx12, h⟩ := opt_bind h
  refine SO.v rfl (opv_idx Try.underlying32 Try.sizeOf55 hr1 rfl rfl hx12) ?_
  refine SO.v rfl (opv_fieldIdx Try.underlying55 rfl Try.sizeOf3 hr1 hx12 rfl rfl) ?_
  refine SO.b1 ?_
  refine SO.storeI1 (j := 2) (z' := ({ x11 with Mark := 0 } : api_Cell)) Try.sizeOf3 hx12 rfl rfl rfl rfl rfl rfl ?_
  refine SO.rd fun hr13 => ?_
  refine SO.nil ?_
  refine S.to (ρ' := [(6, .int .i64 0)]) ⟨rfl, trivial⟩ ?_
  refine S.seq ?_
  refine S.region ?_
  refine SO.v rfl (opv_assign rfl) ?_
  refine SO.nil ?_
  cases h
  refine S.b2 ?_
  refine S.b1 ?_
  refine S.b2 ?_
  exact S.ret1 Try.func23 rfl rfl (fun w hs hk => hR w _ _ ⟨v0_L, rfl, rfl⟩ hs hk)
end Go.Proofs
