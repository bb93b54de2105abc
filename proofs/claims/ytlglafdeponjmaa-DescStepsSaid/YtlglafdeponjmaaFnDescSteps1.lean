/- What the functions that DescSteps reaches come to, and that they do. On no condition. -/
import Derived.Test.YtlglafdeponjmaaFnDescSteps0
set_option linter.all false
namespace Go.Proofs
open Go.Sl Go.RowKit
/-! 8 padstone/padstonelaw07.as -/
def law07_as.l1 (a0 : List tx_Entry) : Nat → (Int × (List ref07_Entry)) → Option ((List ref07_Entry))
  | 0, _ => none
  | k + 1, (x4_1, x3_1) => bif decide (x4_1 < (a0.length : Int)) then ((at_ a0 x4_1).bind fun x3 => (at_ a0 x4_1).bind fun x5 => (at_ a0 x4_1).bind fun x7 => (at_ a0 x4_1).bind fun x9 => (app x3_1 ([(⟨x3.Cell, x5.Version, x7.New, x9.Write⟩ : ref07_Entry)])).bind fun zs14 => law07_as.l1 a0 k (w64 (x4_1 + 1), zs14)) else (some x3_1)
def law07_as.f (k : Nat) (a0 : List tx_Entry) : Option ((List ref07_Entry)) :=
  (law07_as.l1 a0 k (0, [])).bind fun j3_e1 => some j3_e1
set_option maxHeartbeats 8000000 in
set_option maxRecDepth 100000 in
theorem law07_as.ct (k : Nat) (v0 : Value) (a0 : List tx_Entry) (r0 : List ref07_Entry) (h : law07_as.f k a0 = some r0) :
    Ct Try.prog 8 [v0] (fun F => Rd ek_tx_Entry v0 a0 F) [] (fun u H' => ∃ v_r0, u = v_r0 ∧ H' = [Own 66 ek_ref07_Entry v_r0 r0]) := by
  unfold law07_as.f at h
  refine Ct.intro (n := 36) Try.func8 rfl rfl rfl ?_
  intro R w0 F hF hR
  have hF0 := hF
  refine S.seq ?_
  refine S.region ?_
  refine SO.v rfl (opv_assign rfl) ?_
  refine SO.nil ?_
  refine S.seq ?_
  refine S.region ?_
  refine SO.v rfl (opv_assign rfl) ?_
  refine SO.nil ?_
  refine S.seq ?_
  refine S.seq ?_
  refine S.region ?_
  refine SO.v rfl (opv_assign rfl) ?_
  refine SO.nil ?_
  obtain ⟨j3_e1, hlp1, h⟩ := opt_bind h
  refine S.newOwn 66 ek_ref07_Entry ?_
  refine S.b1 ?_
  refine S.b1 ?_
  refine S.to (ρ' := [(4, .int .i64 0), (3, .slice none 0 0), (2, .slice none 0 0), (0, v0)]) ⟨rfl, rfl, rfl, rfl, trivial⟩ ?_
  refine S.forloop (X := (Int × (List ref07_Entry)) × Value) (O := (List ref07_Entry)) (fun m x => law07_as.l1 a0 m x.1) (fun x => match x with | ((x4_1, x3_1), v3_1) => [(4, .int .i64 x4_1), (3, v3_1), (2, .slice none 0 0), (0, v0)]) (fun x => match x with | ((x4_1, x3_1), v3_1) => [Own 66 ek_ref07_Entry v3_1 x3_1, F]) (fun Sk => (fun j3_e1 => ∀ v3_e1 : Value, Sk [(2, .slice none 0 0), (3, v3_e1)] [Own 66 ek_ref07_Entry v3_e1 j3_e1, F])) (fun _ => rfl) ?_ (m := k) (x := ((0, []), .slice none 0 0)) hlp1 ?_
  · clear h hlp1
    intro k x o_1 h hK1 ih1
    obtain ⟨⟨x4_1, x3_1⟩, v3_1⟩ := x
    replace h : law07_as.l1 a0 (k + 1) (x4_1, x3_1) = some o_1 := h
    first | rw [law07_as.l1] at h | unfold law07_as.l1 at h
    refine S.rd fun hr1 => ?_
    refine S.seq ?_
    refine S.seq ?_
    refine S.region ?_
    refine SO.v rfl (opv_move rfl) ?_
    refine SO.v rfl (opv_move rfl) ?_
    refine SO.v rfl (opv_lenR rfl Try.underlying37 hF0 rfl) ?_
    refine SO.v rfl (opv_lss rfl rfl) ?_
    refine SO.nil ?_
    rcases bool_or (decide (x4_1 < (a0.length : Int))) with b2 | b2
    · replace h := cond_t b2 h
      refine S.condT rfl b2 ?_
      refine S.skip ?_
      refine S.seq ?_
      refine S.block ?_
      obtain ⟨x3, hx4, h⟩ := opt_bind h
      obtain ⟨x5, hx6, h⟩ := opt_bind h
      obtain ⟨x7, hx8, h⟩ := opt_bind h
      obtain ⟨x9, hx10, h⟩ := opt_bind h
      obtain ⟨zs14, hz15, h⟩ := opt_bind h
      refine S.draw2 (Y := fun Q => ∃ (_ _ _ _ _ _ : Unit), Q [(3, v3_1), (0, v0), (4, .int .i64 x4_1), (2, .slice none 0 0)] [Own 66 ek_ref07_Entry v3_1 x3_1, F]) (Z := fun Q => ∀ (_ : Unit) (v16 : Value) (_ _ : Unit) (v11 : Value) (_ : Unit), Q [(4, .int .i64 x4_1), (3, v16), (34, v16), (2, .slice none 0 0), (0, v0), (33, v11)] [Own 66 ek_ref07_Entry v16 zs14, Own 66 ek_ref07_Entry v11 ([(⟨x3.Cell, x5.Version, x7.New, x9.Write⟩ : ref07_Entry)]), F]) (T := [tS 3 (v3_1), tS 0 (v0), tS 4 (.int .i64 x4_1), tS 2 (.slice none 0 0), tR (Own 66 ek_ref07_Entry v3_1 x3_1), tR (F), tS 11 (v3_1), tS 12 (v0), tS 13 (.int .i64 x4_1), tS 14 (idxp v0 (x4_1.toNat * ek_tx_Entry.sz)), tS 15 (idxp v0 (x4_1.toNat * ek_tx_Entry.sz)), tS 16 (.int .i64 x3.Cell), tS 17 (v0), tS 18 (.int .i64 x4_1), tS 19 (idxp v0 (x4_1.toNat * ek_tx_Entry.sz)), tS 20 (idxp v0 (x4_1.toNat * ek_tx_Entry.sz + 1)), tS 21 (.int .u32 x5.Version), tS 22 (v0), tS 23 (.int .i64 x4_1), tS 24 (idxp v0 (x4_1.toNat * ek_tx_Entry.sz)), tS 25 (idxp v0 (x4_1.toNat * ek_tx_Entry.sz + 3)), tS 26 (.int .u64 x7.New), tS 27 (v0), tS 28 (.int .i64 x4_1), tS 29 (idxp v0 (x4_1.toNat * ek_tx_Entry.sz)), tS 30 (idxp v0 (x4_1.toNat * ek_tx_Entry.sz + 4)), tS 31 (.bool x9.Write), tS 32 (.agg #[.int .i64 x3.Cell, .int .u32 x5.Version, .int .u64 x7.New, .bool x9.Write]), ⟨Value, [33], (fun v11 => [(33, v11)]), (fun v11 => [Own 66 ek_ref07_Entry v11 ([(⟨x3.Cell, x5.Version, x7.New, x9.Write⟩ : ref07_Entry)])]), fun _ => rfl⟩, ⟨Value, [34], (fun v16 => [(34, v16)]), (fun v16 => [Own 66 ek_ref07_Entry v16 zs14]), fun _ => rfl⟩, ⟨Value, [3, 34], (fun v16 => [(3, v16), (34, v16)]), (fun v16 => [Own 66 ek_ref07_Entry v16 zs14]), fun _ => rfl⟩]) (D := [⟨[0], [], [6]⟩, ⟨[1], [], [7]⟩, ⟨[2], [], [8]⟩, ⟨[7, 8, 5], [], [9]⟩, ⟨[9, 5], [], [10]⟩, ⟨[10, 5], [], [11]⟩, ⟨[1], [], [12]⟩, ⟨[2], [], [13]⟩, ⟨[12, 13, 5], [], [14]⟩, ⟨[14, 5], [], [15]⟩, ⟨[15, 5], [], [16]⟩, ⟨[1], [], [17]⟩, ⟨[2], [], [18]⟩, ⟨[17, 18, 5], [], [19]⟩, ⟨[19, 5], [], [20]⟩, ⟨[20, 5], [], [21]⟩, ⟨[1], [], [22]⟩, ⟨[2], [], [23]⟩, ⟨[22, 23, 5], [], [24]⟩, ⟨[24, 5], [], [25]⟩, ⟨[25, 5], [], [26]⟩, ⟨[11, 16, 21, 26], [], [27]⟩, ⟨[27], [], [28]⟩, ⟨[6, 28], [4], [29]⟩, ⟨[], [29, 0], [30]⟩]) (ini := [0, 1, 2, 3, 4, 5]) (fin := [2, 30, 3, 1, 28, 5]) (bf := [[], [], [], [1, 2], [1, 2, 3], [1, 2, 3, 4], [], [], [6, 7], [6, 7, 8], [6, 7, 8, 9], [], [], [11, 12], [11, 12, 13], [11, 12, 13, 14], [], [], [16, 17], [16, 17, 18], [16, 17, 18, 19], [1, 2, 3, 4, 5, 6, 7, 8, 9, 10, 11, 12, 13, 14, 15, 16, 17, 18, 19, 20], [1, 2, 3, 4, 5, 6, 7, 8, 9, 10, 11, 12, 13, 14, 15, 16, 17, 18, 19, 20, 21], [0, 1, 2, 3, 4, 5, 6, 7, 8, 9, 10, 11, 12, 13, 14, 15, 16, 17, 18, 19, 20, 21, 22], [0, 1, 2, 3, 4, 5, 6, 7, 8, 9, 10, 11, 12, 13, 14, 15, 16, 17, 18, 19, 20, 21, 22, 23]]) (by kernel_rfl) (by kernel_rfl) (fun Q => by kernel_rfl) (fun x w h1 h2 => ⟨(), (), (), (), (), (), EnvAll.of h1 ⟨rfl, rfl, rfl, rfl, trivial⟩, h2⟩) (fun Q => by kernel_rfl) ⟨?_, ?_, ?_, ?_, ?_, ?_, ?_, ?_, ?_, ?_, ?_, ?_, ?_, ?_, ?_, ?_, ?_, ?_, ?_, ?_, ?_, ?_, ?_, ?_, ?_, trivial⟩ ?_
      · rintro Fr _
        refine SO.v rfl (opv_move rfl) ?_
        exact SO.nilZ fun a w h1 h2 h3 h4 h5 => PZ.of h1 h3 h5 (.cons () (.cons () (.nil ⟨EnvAll.of h2 ⟨rfl, rfl, trivial⟩, h4⟩)))
      · rintro Fr _
        refine SO.v rfl (opv_move rfl) ?_
        exact SO.nilZ fun a w h1 h2 h3 h4 h5 => PZ.of h1 h3 h5 (.cons () (.cons () (.nil ⟨EnvAll.of h2 ⟨rfl, rfl, trivial⟩, h4⟩)))
      · rintro Fr _
        refine SO.v rfl (opv_move rfl) ?_
        exact SO.nilZ fun a w h1 h2 h3 h4 h5 => PZ.of h1 h3 h5 (.cons () (.cons () (.nil ⟨EnvAll.of h2 ⟨rfl, rfl, trivial⟩, h4⟩)))
      · rintro Fr _ _ _
        refine SO.v rfl (opv_idx Try.underlying37 Try.sizeOf53 hF0 rfl rfl hx4) ?_
        exact SO.nilZ fun a w h1 h2 h3 h4 h5 => PZ.of h1 h3 h5 (.cons () (.cons () (.cons () (.cons () (.nil ⟨EnvAll.of h2 ⟨rfl, rfl, rfl, trivial⟩, h4⟩)))))
      · rintro Fr _ _
        refine SO.v rfl (opv_fieldIdx Try.underlying53 rfl Try.sizeOf3 hF0 hx4 rfl rfl) ?_
        exact SO.nilZ fun a w h1 h2 h3 h4 h5 => PZ.of h1 h3 h5 (.cons () (.cons () (.cons () (.nil ⟨EnvAll.of h2 ⟨rfl, rfl, trivial⟩, h4⟩))))
      · rintro Fr _ _
        refine SO.loadI1 (j := 0) rfl Try.isAgg3 (Rd.head hF0) hx4 rfl rfl rfl rfl ?_
        exact SO.nilZ fun a w h1 h2 h3 h4 h5 => PZ.of h1 h3 h5 (.cons () (.cons () (.cons () (.nil ⟨EnvAll.of h2 ⟨rfl, rfl, trivial⟩, h4⟩))))
      · rintro Fr _
        refine SO.v rfl (opv_move rfl) ?_
        exact SO.nilZ fun a w h1 h2 h3 h4 h5 => PZ.of h1 h3 h5 (.cons () (.cons () (.nil ⟨EnvAll.of h2 ⟨rfl, rfl, trivial⟩, h4⟩)))
      · rintro Fr _
        refine SO.v rfl (opv_move rfl) ?_
        exact SO.nilZ fun a w h1 h2 h3 h4 h5 => PZ.of h1 h3 h5 (.cons () (.cons () (.nil ⟨EnvAll.of h2 ⟨rfl, rfl, trivial⟩, h4⟩)))
      · rintro Fr _ _ _
        refine SO.v rfl (opv_idx Try.underlying37 Try.sizeOf53 hF0 rfl rfl hx6) ?_
        exact SO.nilZ fun a w h1 h2 h3 h4 h5 => PZ.of h1 h3 h5 (.cons () (.cons () (.cons () (.cons () (.nil ⟨EnvAll.of h2 ⟨rfl, rfl, rfl, trivial⟩, h4⟩)))))
      · rintro Fr _ _
        refine SO.v rfl (opv_fieldIdx Try.underlying53 rfl Try.sizeOf22 hF0 hx6 rfl rfl) ?_
        exact SO.nilZ fun a w h1 h2 h3 h4 h5 => PZ.of h1 h3 h5 (.cons () (.cons () (.cons () (.nil ⟨EnvAll.of h2 ⟨rfl, rfl, trivial⟩, h4⟩))))
      · rintro Fr _ _
        refine SO.loadI1 (j := 1) rfl Try.isAgg22 (Rd.head hF0) hx6 rfl rfl rfl rfl ?_
        exact SO.nilZ fun a w h1 h2 h3 h4 h5 => PZ.of h1 h3 h5 (.cons () (.cons () (.cons () (.nil ⟨EnvAll.of h2 ⟨rfl, rfl, trivial⟩, h4⟩))))
      · rintro Fr _
        refine SO.v rfl (opv_move rfl) ?_
        exact SO.nilZ fun a w h1 h2 h3 h4 h5 => PZ.of h1 h3 h5 (.cons () (.cons () (.nil ⟨EnvAll.of h2 ⟨rfl, rfl, trivial⟩, h4⟩)))
      · rintro Fr _
        refine SO.v rfl (opv_move rfl) ?_
        exact SO.nilZ fun a w h1 h2 h3 h4 h5 => PZ.of h1 h3 h5 (.cons () (.cons () (.nil ⟨EnvAll.of h2 ⟨rfl, rfl, trivial⟩, h4⟩)))
      · rintro Fr _ _ _
        refine SO.v rfl (opv_idx Try.underlying37 Try.sizeOf53 hF0 rfl rfl hx8) ?_
        exact SO.nilZ fun a w h1 h2 h3 h4 h5 => PZ.of h1 h3 h5 (.cons () (.cons () (.cons () (.cons () (.nil ⟨EnvAll.of h2 ⟨rfl, rfl, rfl, trivial⟩, h4⟩)))))
      · rintro Fr _ _
        refine SO.v rfl (opv_fieldIdx Try.underlying53 rfl Try.sizeOf51 hF0 hx8 rfl rfl) ?_
        exact SO.nilZ fun a w h1 h2 h3 h4 h5 => PZ.of h1 h3 h5 (.cons () (.cons () (.cons () (.nil ⟨EnvAll.of h2 ⟨rfl, rfl, trivial⟩, h4⟩))))
      · rintro Fr _ _
        refine SO.loadI1 (j := 3) rfl Try.isAgg51 (Rd.head hF0) hx8 rfl rfl rfl rfl ?_
        exact SO.nilZ fun a w h1 h2 h3 h4 h5 => PZ.of h1 h3 h5 (.cons () (.cons () (.cons () (.nil ⟨EnvAll.of h2 ⟨rfl, rfl, trivial⟩, h4⟩))))
      · rintro Fr _
        refine SO.v rfl (opv_move rfl) ?_
        exact SO.nilZ fun a w h1 h2 h3 h4 h5 => PZ.of h1 h3 h5 (.cons () (.cons () (.nil ⟨EnvAll.of h2 ⟨rfl, rfl, trivial⟩, h4⟩)))
      · rintro Fr _
        refine SO.v rfl (opv_move rfl) ?_
        exact SO.nilZ fun a w h1 h2 h3 h4 h5 => PZ.of h1 h3 h5 (.cons () (.cons () (.nil ⟨EnvAll.of h2 ⟨rfl, rfl, trivial⟩, h4⟩)))
      · rintro Fr _ _ _
        refine SO.v rfl (opv_idx Try.underlying37 Try.sizeOf53 hF0 rfl rfl hx10) ?_
        exact SO.nilZ fun a w h1 h2 h3 h4 h5 => PZ.of h1 h3 h5 (.cons () (.cons () (.cons () (.cons () (.nil ⟨EnvAll.of h2 ⟨rfl, rfl, rfl, trivial⟩, h4⟩)))))
      · rintro Fr _ _
        refine SO.v rfl (opv_fieldIdx Try.underlying53 rfl Try.sizeOf4 hF0 hx10 rfl rfl) ?_
        exact SO.nilZ fun a w h1 h2 h3 h4 h5 => PZ.of h1 h3 h5 (.cons () (.cons () (.cons () (.nil ⟨EnvAll.of h2 ⟨rfl, rfl, trivial⟩, h4⟩))))
      · rintro Fr _ _
        refine SO.loadI1 (j := 4) rfl Try.isAgg4 (Rd.head hF0) hx10 rfl rfl rfl rfl ?_
        exact SO.nilZ fun a w h1 h2 h3 h4 h5 => PZ.of h1 h3 h5 (.cons () (.cons () (.cons () (.nil ⟨EnvAll.of h2 ⟨rfl, rfl, trivial⟩, h4⟩))))
      · rintro Fr _ _ _ _
        refine SO.v rfl (opv_build (v := .agg #[.int .i64 x3.Cell, .int .u32 x5.Version, .int .u64 x7.New, .bool x9.Write]) rfl (by intro w; kernel_rfl)) ?_
        exact SO.nilZ fun a w h1 h2 h3 h4 h5 => PZ.of2 (Y := fun Q => ∃ (_ _ _ _ _ : Unit), Q [(16, .int .i64 x3.Cell), (21, .int .u32 x5.Version), (26, .int .u64 x7.New), (31, .bool x9.Write), (32, .agg #[.int .i64 x3.Cell, .int .u32 x5.Version, .int .u64 x7.New, .bool x9.Write])] []) (fun Q => by kernel_rfl) h1 h3 h5 ⟨(), (), (), (), (), EnvAll.of h2 ⟨rfl, rfl, rfl, rfl, rfl, trivial⟩, h4⟩
      · rintro Fr _
        refine SO.buildSlice (K := ek_ref07_Entry) (xs := [(⟨x3.Cell, x5.Version, x7.New, x9.Write⟩ : ref07_Entry)]) (cs := [.int .i64 x3.Cell, .int .u32 x5.Version, .int .u64 x7.New, .bool x9.Write]) rfl Try.underlying41 Try.sizeOf66 Try.zeroValue66 rfl rfl rfl (by kernel_rfl) rfl rfl rfl (fun v11 hr12 => ?_)
        exact SO.nilZ fun a w h1 h2 h3 h4 h5 => PZ.of h1 h3 h5 (.cons () (.cons v11 (.nil ⟨EnvAll.of h2 ⟨rfl, rfl, trivial⟩, h4⟩)))
      · rintro Fr _ v11 _
        refine SO.rd fun hr13 => ?_
        refine SO.b1 ?_
        refine SO.append rfl Try.underlying41 Try.underlying41 inf66 rfl rfl rfl (by decide) rfl rfl rfl (Rd.head hr13) hz15 (fun v16 => ?_)
        refine SO.rd fun hr17 => ?_
        refine SO.b1 ?_
        exact SO.nilZ fun a w h1 h2 h3 h4 h5 => PZ.of h1 h3 h5 (.cons () (.cons v11 (.cons v16 (.nil ⟨EnvAll.of h2 ⟨rfl, rfl, rfl, trivial⟩, h4⟩))))
      · rintro Fr v16 _
        refine SO.rd fun hr18 => ?_
        refine SO.v rfl (opv_assign rfl) ?_
        exact SO.nilZ fun a w h1 h2 h3 h4 h5 => PZ.of h1 h3 h5 (.cons v16 (.nil ⟨EnvAll.of h2 ⟨rfl, rfl, trivial⟩, h4⟩))
      rintro _ v16 _ _ v11 _
      refine S.to (ρ' := [(4, .int .i64 x4_1), (3, v16), (2, .slice none 0 0), (0, v0)]) ⟨rfl, rfl, rfl, rfl, trivial⟩ ?_
      refine S.rd fun hr19 => ?_
      refine S.b1 ?_
      refine S.rd fun hr20 => ?_
      refine S.inBlock ?_
      refine S.region ?_
      refine SO.v rfl (opv_move rfl) ?_
      refine SO.v rfl (opv_add rfl rfl) ?_
      refine SO.v rfl (opv_assign rfl) ?_
      refine SO.nil ?_
      refine S.drop ?_
      refine S.b1 ?_
      refine S.b1 ?_
      refine S.to ?_ (ih1 ((w64 (x4_1 + 1), zs14), v16) h)
      exact ⟨rfl, rfl, rfl, rfl, trivial⟩
    replace h := cond_f b2 h
    refine S.condF rfl b2 ?_
    refine S.exit rfl ?_
    cases h
    refine S.b1 ?_
    refine S.b1 ?_
    refine S.to ?_ (hK1 v3_1)
    exact ⟨rfl, rfl, trivial⟩
  rintro v3_e1
  refine S.rd fun hr21 => ?_
  refine S.seq ?_
  refine S.region ?_
  refine SO.v rfl (opv_move rfl) ?_
  refine SO.v rfl (opv_assign rfl) ?_
  refine SO.nil ?_
  cases h
  refine S.b1 ?_
  refine S.b1 ?_
  exact S.ret1 Try.func8 rfl rfl (fun w hs hk => hR w _ _ ⟨v3_e1, rfl, rfl⟩ hs hk)
end Go.Proofs
namespace Go.Proofs
open Go.Sl Go.RowKit
/-! 15 padstone/padstonelaw07.same -/
def law07_same.l1 (a0 : word_Store) (a1 : ref01_Store) : Nat → Int → Option (Brk Bool Unit)
  | 0, _ => none
  | k + 1, x5_1 => bif decide (x5_1 < (a1.L.length : Int)) then ((word_Store_Read.f a0 x5_1).bind fun (t4, t5) => (bif t5.isSome then (some true) else ((at_ a1.L x5_1).bind fun x9 => some (!decide (t4 = x9)))).bind fun j35_2 => bif j35_2 then (some (Brk.ret false)) else (law07_same.l1 a0 a1 k (w64 (x5_1 + 1)))) else (some (Brk.nx ()))
def law07_same.f (k : Nat) (a0 : word_Store) (a1 : ref01_Store) : Option (Bool) :=
  (law07_same.l1 a0 a1 k 0).bind fun o1 => Brk.go o1 (fun r => some r) (fun _ => some true)
set_option maxHeartbeats 8000000 in
set_option maxRecDepth 100000 in
theorem law07_same.ct (k : Nat) (bp0 : Nat) (v0_l : Value) (bp1 : Nat) (v1_L : Value) (a0 : word_Store) (a1 : ref01_Store) (r0 : Bool) (h : law07_same.f k a0 a1 = some r0) :
    Ct Try.prog 15 [bp bp0 0, bp bp1 0] (fun _ => True) [Box bp0 [v0_l, .int .u32 a0.limit], Own 55 ek_api_Cell v0_l a0.l, Box bp1 [v1_L, .int .u32 a1.Limit], Own 55 ek_api_Cell v1_L a1.L] (fun u H' => u = .bool r0 ∧ H' = [Box bp0 [v0_l, .int .u32 a0.limit], Own 55 ek_api_Cell v0_l a0.l, Box bp1 [v1_L, .int .u32 a1.Limit], Own 55 ek_api_Cell v1_L a1.L]) := by
  unfold law07_same.f at h
  refine Ct.intro (n := 36) Try.func15 rfl rfl rfl ?_
  intro R w0 F hF hR
  refine S.b1 ?_
  refine S.rd fun hr1 => ?_
  refine S.b3 ?_
  refine S.rd fun hr2 => ?_
  refine S.seq ?_
  refine S.region ?_
  refine SO.v rfl (opv_assign rfl) ?_
  refine SO.nil ?_
  refine S.seq ?_
  refine S.seq ?_
  refine S.region ?_
  refine SO.v rfl (opv_assign rfl) ?_
  refine SO.nil ?_
  obtain ⟨o1, hlp1, h⟩ := opt_bind h
  refine S.b4 ?_
  refine S.b4 ?_
  refine S.b4 ?_
  refine S.b4 ?_
  refine S.b4 ?_
  refine S.to (ρ' := [(5, .int .i64 0), (4, .bool false), (0, bp bp0 0), (1, bp bp1 0)]) ⟨rfl, rfl, rfl, rfl, trivial⟩ ?_
  refine S.forloop (X := Int × Unit) (O := Brk Bool Unit) (fun m x => law07_same.l1 a0 a1 m x.1) (fun x => match x with | (x5_1, _) => [(5, .int .i64 x5_1), (4, .bool false), (0, bp bp0 0), (1, bp bp1 0)]) (fun x => match x with | (x5_1, _) => [Own 55 ek_api_Cell v1_L a1.L, Own 55 ek_api_Cell v0_l a0.l, Box bp0 [v0_l, .int .u32 a0.limit], Box bp1 [v1_L, .int .u32 a1.Limit], F]) (fun Sk o' => (∀ r', o' = Brk.ret r' → some r' = some r0) ∧ ∀ _ : Unit, ∀ _ : Unit, o' = Brk.nx () → Sk [(4, .bool false)] [Own 55 ek_api_Cell v1_L a1.L, Own 55 ek_api_Cell v0_l a0.l, Box bp0 [v0_l, .int .u32 a0.limit], Box bp1 [v1_L, .int .u32 a1.Limit], F]) (fun _ => rfl) ?_ (m := k) (x := (0, ())) hlp1 ?_
  · clear h hlp1
    intro k x o_1 h hK1 ih1
    obtain ⟨x5_1, _⟩ := x
    replace h : law07_same.l1 a0 a1 (k + 1) x5_1 = some o_1 := h
    first | rw [law07_same.l1] at h | unfold law07_same.l1 at h
    refine S.seq ?_
    refine S.seq ?_
    refine S.region ?_
    refine SO.v rfl (opv_move rfl) ?_
    refine SO.v rfl (opv_move rfl) ?_
    refine SO.v rfl (opv_nilCheck rfl) ?_
    refine SO.v rfl (opv_fieldAddr Try.underlying34 rfl Try.sizeOf32 rfl rfl) ?_
    refine SO.b3 ?_
    refine SO.load1 rfl Try.isAgg32 rfl rfl ?_
    refine SO.v rfl (opv_lenR rfl Try.underlying32 hr2 rfl) ?_
    refine SO.v rfl (opv_lss rfl rfl) ?_
    refine SO.nil ?_
    rcases bool_or (decide (x5_1 < (a1.L.length : Int))) with b3 | b3
    · replace h := cond_t b3 h
      refine S.condT rfl b3 ?_
      refine S.skip ?_
      refine S.seq ?_
      refine S.block ?_
      refine S.seq ?_
      refine S.region ?_
      refine SO.v rfl (opv_move rfl) ?_
      refine SO.v rfl (opv_move rfl) ?_
      obtain ⟨⟨t4, t5⟩, ht6, h⟩ := opt_bind h
      refine SO.b2 ?_
      refine SO.b3 ?_
      refine SO.call (pre := [Box _ _, Own _ _ _ _]) rfl Try.call17 rfl rfl rfl (word_Store_Read.ct bp0 v0_l _ _ _ _ ht6) trivial ?_
      rintro _ _ ⟨rfl, rfl⟩
      refine SO.v rfl (opv_move rfl) ?_
      refine SO.v rfl (opv_extract rfl rfl) ?_
      refine SO.v rfl (opv_extract rfl rfl) ?_
      refine SO.alloc rfl Try.zeroValue55 rfl (fun b7 => ?_)
      refine SO.storeN Try.sizeOf55 rfl rfl rfl rfl rfl rfl ?_
      refine SO.v rfl (opv_assign rfl) ?_
      refine SO.nil ?_
      refine S.to (ρ' := [(5, .int .i64 x5_1), (4, .bool false), (0, bp bp0 0), (1, bp bp1 0), (6, bp b7 0), (7, errV 59 t5)]) ⟨rfl, rfl, rfl, rfl, rfl, rfl, trivial⟩ ?_
      refine S.seq ?_
      obtain ⟨j35_2, hC2, hJ2⟩ := opt_bind h
      clear h
      refine S.cutP (G := Unit) (fun _ => True) (fun _ => [(0, bp bp0 0), (1, bp bp1 0), (4, .bool false), (5, .int .i64 x5_1), (35, .bool j35_2)]) (fun _ => [Box b7 [.int .u64 t4.Value, .int .u32 t4.Version, .int .i64 t4.Mark], Box bp0 [v0_l, .int .u32 a0.limit], Own 55 ek_api_Cell v0_l a0.l, Box bp1 [v1_L, .int .u32 a1.Limit], Own 55 ek_api_Cell v1_L a1.L, F]) (fun hk2 => ?_) ?_
      · replace h := hC2
        rcases bool_or t5.isSome with b8 | b8
        · replace h := cond_t b8 h
          refine S.draw2 (Y := fun Q => ∃ (_ _ _ _ _ _ _ _ _ _ _ : Unit), Q [(7, errV 59 t5), (6, bp b7 0), (1, bp bp1 0), (5, .int .i64 x5_1), (4, .bool false), (0, bp bp0 0)] [Box b7 [.int .u64 t4.Value, .int .u32 t4.Version, .int .i64 t4.Mark], Box bp0 [v0_l, .int .u32 a0.limit], Own 55 ek_api_Cell v0_l a0.l, Box bp1 [v1_L, .int .u32 a1.Limit], Own 55 ek_api_Cell v1_L a1.L, F]) (Z := fun Q => ∀ (_ _ _ _ _ _ _ _ _ _ : Unit), Q [(5, .int .i64 x5_1), (4, .bool false), (0, bp bp0 0), (1, bp bp1 0), (35, .bool true)] [Box b7 [.int .u64 t4.Value, .int .u32 t4.Version, .int .i64 t4.Mark], Box bp0 [v0_l, .int .u32 a0.limit], Own 55 ek_api_Cell v0_l a0.l, Box bp1 [v1_L, .int .u32 a1.Limit], Own 55 ek_api_Cell v1_L a1.L, F]) (T := [tS 7 (errV 59 t5), tS 6 (bp b7 0), tS 1 (bp bp1 0), tS 5 (.int .i64 x5_1), tE [(4, .bool false), (0, bp bp0 0)], tR (Box b7 [.int .u64 t4.Value, .int .u32 t4.Version, .int .i64 t4.Mark]), tR (Box bp0 [v0_l, .int .u32 a0.limit]), tR (Own 55 ek_api_Cell v0_l a0.l), tR (Box bp1 [v1_L, .int .u32 a1.Limit]), tR (Own 55 ek_api_Cell v1_L a1.L), tR (F), tS 23 (errV 59 t5), tS 24 (.bool t5.isSome), tS 25 (.bool t5.isSome), tS 26 (undef), tS 27 (undef), tS 28 (undef), tS 29 (undef), tS 30 (undef), tS 31 (undef), tS 32 (undef), tS 33 (undef), tS 34 (undef), tS 35 (.bool true)]) (D := [⟨[0], [], [11]⟩, ⟨[11], [], [12]⟩, ⟨[12], [], [13]⟩, ⟨[13], [], [14]⟩, ⟨[13], [], [15]⟩, ⟨[13], [], [16]⟩, ⟨[13], [], [17]⟩, ⟨[13], [], [18]⟩, ⟨[13], [], [19]⟩, ⟨[13], [], [20]⟩, ⟨[13], [], [21]⟩, ⟨[13], [], [22]⟩, ⟨[13, 22], [], [23]⟩]) (ini := [0, 1, 2, 3, 4, 5, 6, 7, 8, 9, 10]) (fin := [3, 4, 2, 23, 5, 6, 7, 8, 9, 10]) (bf := [[], [0], [0, 1], [0, 1, 2], [0, 1, 2], [0, 1, 2, 4], [0, 1, 2, 4, 5], [0, 1, 2, 4, 5, 6], [0, 1, 2], [0, 1, 2, 4, 5, 6, 7, 8], [0, 1, 2, 4, 5, 6, 7, 8, 9], [0, 1, 2, 3, 4, 5, 6, 7, 8, 9, 10], [0, 1, 2, 3, 4, 5, 6, 7, 8, 9, 10, 11]]) (by kernel_rfl) (by kernel_rfl) (fun Q => by kernel_rfl) (fun x w h1 h2 => ⟨(), (), (), (), (), (), (), (), (), (), (), EnvAll.of h1 ⟨rfl, rfl, rfl, rfl, rfl, rfl, trivial⟩, h2⟩) (fun Q => by kernel_rfl) ⟨?_, ?_, ?_, ?_, ?_, ?_, ?_, ?_, ?_, ?_, ?_, ?_, ?_, trivial⟩ ?_
          · rintro Fr _
            refine SO.v rfl (opv_move rfl) ?_
            exact SO.nilZ fun a w h1 h2 h3 h4 h5 => PZ.of h1 h3 h5 (.cons () (.cons () (.nil ⟨EnvAll.of h2 ⟨rfl, rfl, trivial⟩, h4⟩)))
          · rintro Fr _
            refine SO.v rfl (opv_neqN (e := t5) Try.underlying28 rfl) ?_
            exact SO.nilZ fun a w h1 h2 h3 h4 h5 => PZ.of h1 h3 h5 (.cons () (.cons () (.nil ⟨EnvAll.of h2 ⟨rfl, rfl, trivial⟩, h4⟩)))
          · rintro Fr _
            refine SO.v rfl (opv_move rfl) ?_
            exact SO.nilZ fun a w h1 h2 h3 h4 h5 => PZ.of h1 h3 h5 (.cons () (.cons () (.nil ⟨EnvAll.of h2 ⟨rfl, rfl, trivial⟩, h4⟩)))
          · rintro Fr _
            refine SO.passF rfl rfl rfl b8 rfl rfl ?_
            exact SO.nilZ fun a w h1 h2 h3 h4 h5 => PZ.of h1 h3 h5 (.cons () (.cons () (.nil ⟨EnvAll.of h2 ⟨rfl, rfl, trivial⟩, h4⟩)))
          · rintro Fr _
            refine SO.passF rfl rfl rfl b8 rfl rfl ?_
            exact SO.nilZ fun a w h1 h2 h3 h4 h5 => PZ.of h1 h3 h5 (.cons () (.cons () (.nil ⟨EnvAll.of h2 ⟨rfl, rfl, trivial⟩, h4⟩)))
          · rintro Fr _
            refine SO.passF rfl rfl rfl b8 rfl rfl ?_
            exact SO.nilZ fun a w h1 h2 h3 h4 h5 => PZ.of h1 h3 h5 (.cons () (.cons () (.nil ⟨EnvAll.of h2 ⟨rfl, rfl, trivial⟩, h4⟩)))
          · rintro Fr _
            refine SO.passF rfl rfl rfl b8 rfl rfl ?_
            exact SO.nilZ fun a w h1 h2 h3 h4 h5 => PZ.of h1 h3 h5 (.cons () (.cons () (.nil ⟨EnvAll.of h2 ⟨rfl, rfl, trivial⟩, h4⟩)))
          · rintro Fr _
            refine SO.passF rfl rfl rfl b8 rfl rfl ?_
            exact SO.nilZ fun a w h1 h2 h3 h4 h5 => PZ.of h1 h3 h5 (.cons () (.cons () (.nil ⟨EnvAll.of h2 ⟨rfl, rfl, trivial⟩, h4⟩)))
          · rintro Fr _
            refine SO.passF rfl rfl rfl b8 rfl rfl ?_
            exact SO.nilZ fun a w h1 h2 h3 h4 h5 => PZ.of h1 h3 h5 (.cons () (.cons () (.nil ⟨EnvAll.of h2 ⟨rfl, rfl, trivial⟩, h4⟩)))
          · rintro Fr _
            refine SO.passF rfl rfl rfl b8 rfl rfl ?_
            exact SO.nilZ fun a w h1 h2 h3 h4 h5 => PZ.of h1 h3 h5 (.cons () (.cons () (.nil ⟨EnvAll.of h2 ⟨rfl, rfl, trivial⟩, h4⟩)))
          · rintro Fr _
            refine SO.passF rfl rfl rfl b8 rfl rfl ?_
            exact SO.nilZ fun a w h1 h2 h3 h4 h5 => PZ.of h1 h3 h5 (.cons () (.cons () (.nil ⟨EnvAll.of h2 ⟨rfl, rfl, trivial⟩, h4⟩)))
          · rintro Fr _
            refine SO.passF rfl rfl rfl b8 rfl rfl ?_
            exact SO.nilZ fun a w h1 h2 h3 h4 h5 => PZ.of h1 h3 h5 (.cons () (.cons () (.nil ⟨EnvAll.of h2 ⟨rfl, rfl, trivial⟩, h4⟩)))
          · rintro Fr _ _
            refine SO.v rfl (opv_pick_t' b8 rfl rfl) ?_
            exact SO.nilZ fun a w h1 h2 h3 h4 h5 => PZ.of h1 h3 h5 (.cons () (.cons () (.cons () (.nil ⟨EnvAll.of h2 ⟨rfl, rfl, rfl, trivial⟩, h4⟩))))
          rintro _ _ _ _ _ _ _ _ _ _
          refine S.to (ρ' := [(5, .int .i64 x5_1), (4, .bool false), (0, bp bp0 0), (1, bp bp1 0), (35, .bool true)]) ⟨rfl, rfl, rfl, rfl, rfl, trivial⟩ ?_
          cases h
          refine S.b5 ?_
          refine S.b5 ?_
          refine S.b5 ?_
          refine S.b5 ?_
          refine S.b5 ?_
          refine S.b5 ?_
          refine S.to ?_ (hk2 () trivial)
          exact ⟨rfl, rfl, rfl, rfl, rfl, trivial⟩
        replace h := cond_f b8 h
        obtain ⟨x9, hx10, h⟩ := opt_bind h
        refine S.draw2 (Y := fun Q => ∃ (_ _ _ _ _ _ _ _ _ _ _ : Unit), Q [(7, errV 59 t5), (6, bp b7 0), (1, bp bp1 0), (5, .int .i64 x5_1), (4, .bool false), (0, bp bp0 0)] [Box b7 [.int .u64 t4.Value, .int .u32 t4.Version, .int .i64 t4.Mark], Box bp0 [v0_l, .int .u32 a0.limit], Own 55 ek_api_Cell v0_l a0.l, Box bp1 [v1_L, .int .u32 a1.Limit], Own 55 ek_api_Cell v1_L a1.L, F]) (Z := fun Q => ∀ (_ _ _ _ _ _ _ _ _ _ : Unit), Q [(5, .int .i64 x5_1), (4, .bool false), (0, bp bp0 0), (1, bp bp1 0), (35, .bool (!decide (t4 = x9)))] [Box b7 [.int .u64 t4.Value, .int .u32 t4.Version, .int .i64 t4.Mark], Box bp0 [v0_l, .int .u32 a0.limit], Own 55 ek_api_Cell v0_l a0.l, Box bp1 [v1_L, .int .u32 a1.Limit], Own 55 ek_api_Cell v1_L a1.L, F]) (T := [tS 7 (errV 59 t5), tS 6 (bp b7 0), tS 1 (bp bp1 0), tS 5 (.int .i64 x5_1), tE [(4, .bool false), (0, bp bp0 0)], tR (Box b7 [.int .u64 t4.Value, .int .u32 t4.Version, .int .i64 t4.Mark]), tR (Box bp0 [v0_l, .int .u32 a0.limit]), tR (Own 55 ek_api_Cell v0_l a0.l), tR (Box bp1 [v1_L, .int .u32 a1.Limit]), tR (Own 55 ek_api_Cell v1_L a1.L), tR (F), tS 23 (errV 59 t5), tS 24 (.bool t5.isSome), tS 25 (.bool t5.isSome), tS 26 (.agg #[.int .u64 t4.Value, .int .u32 t4.Version, .int .i64 t4.Mark]), tS 27 (bp bp1 0), tS 28 (bp bp1 0), tS 29 (bp bp1 0), tS 30 (v1_L), tS 31 (.int .i64 x5_1), tS 32 (idxp v1_L (x5_1.toNat * ek_api_Cell.sz)), tS 33 (.agg #[.int .u64 x9.Value, .int .u32 x9.Version, .int .i64 x9.Mark]), tS 34 (.bool (!decide (t4 = x9))), tS 35 (.bool (!decide (t4 = x9)))]) (D := [⟨[0], [], [11]⟩, ⟨[11], [], [12]⟩, ⟨[12], [], [13]⟩, ⟨[1, 13, 5], [], [14]⟩, ⟨[2, 13], [], [15]⟩, ⟨[13, 15], [], [16]⟩, ⟨[13, 16], [], [17]⟩, ⟨[13, 17, 8], [], [18]⟩, ⟨[3, 13], [], [19]⟩, ⟨[13, 18, 19, 9], [], [20]⟩, ⟨[13, 20, 9], [], [21]⟩, ⟨[13, 14, 21], [], [22]⟩, ⟨[13, 22], [], [23]⟩]) (ini := [0, 1, 2, 3, 4, 5, 6, 7, 8, 9, 10]) (fin := [3, 4, 2, 23, 5, 6, 7, 8, 9, 10]) (bf := [[], [0], [0, 1], [0, 1, 2], [0, 1, 2], [0, 1, 2, 4], [0, 1, 2, 4, 5], [0, 1, 2, 4, 5, 6], [0, 1, 2], [0, 1, 2, 4, 5, 6, 7, 8], [0, 1, 2, 4, 5, 6, 7, 8, 9], [0, 1, 2, 3, 4, 5, 6, 7, 8, 9, 10], [0, 1, 2, 3, 4, 5, 6, 7, 8, 9, 10, 11]]) (by kernel_rfl) (by kernel_rfl) (fun Q => by kernel_rfl) (fun x w h1 h2 => ⟨(), (), (), (), (), (), (), (), (), (), (), EnvAll.of h1 ⟨rfl, rfl, rfl, rfl, rfl, rfl, trivial⟩, h2⟩) (fun Q => by kernel_rfl) ⟨?_, ?_, ?_, ?_, ?_, ?_, ?_, ?_, ?_, ?_, ?_, ?_, ?_, trivial⟩ ?_
        · rintro Fr _
          refine SO.v rfl (opv_move rfl) ?_
          exact SO.nilZ fun a w h1 h2 h3 h4 h5 => PZ.of h1 h3 h5 (.cons () (.cons () (.nil ⟨EnvAll.of h2 ⟨rfl, rfl, trivial⟩, h4⟩)))
        · rintro Fr _
          refine SO.v rfl (opv_neqN (e := t5) Try.underlying28 rfl) ?_
          exact SO.nilZ fun a w h1 h2 h3 h4 h5 => PZ.of h1 h3 h5 (.cons () (.cons () (.nil ⟨EnvAll.of h2 ⟨rfl, rfl, trivial⟩, h4⟩)))
        · rintro Fr _
          refine SO.v rfl (opv_move rfl) ?_
          exact SO.nilZ fun a w h1 h2 h3 h4 h5 => PZ.of h1 h3 h5 (.cons () (.cons () (.nil ⟨EnvAll.of h2 ⟨rfl, rfl, trivial⟩, h4⟩)))
        · rintro Fr _ _ _
          refine SO.takeT rfl rfl rfl b8 ?_
          refine SO.loadN rfl Try.isAgg55 Try.sizeOf55 rfl rfl rfl ?_
          exact SO.nilZ fun a w h1 h2 h3 h4 h5 => PZ.of h1 h3 h5 (.cons () (.cons () (.cons () (.cons () (.nil ⟨EnvAll.of h2 ⟨rfl, rfl, rfl, trivial⟩, h4⟩)))))
        · rintro Fr _ _
          refine SO.takeT rfl rfl rfl b8 ?_
          refine SO.v rfl (opv_move rfl) ?_
          exact SO.nilZ fun a w h1 h2 h3 h4 h5 => PZ.of h1 h3 h5 (.cons () (.cons () (.cons () (.nil ⟨EnvAll.of h2 ⟨rfl, rfl, rfl, trivial⟩, h4⟩))))
        · rintro Fr _ _
          refine SO.takeT rfl rfl rfl b8 ?_
          refine SO.v rfl (opv_nilCheck rfl) ?_
          exact SO.nilZ fun a w h1 h2 h3 h4 h5 => PZ.of h1 h3 h5 (.cons () (.cons () (.cons () (.nil ⟨EnvAll.of h2 ⟨rfl, rfl, rfl, trivial⟩, h4⟩))))
        · rintro Fr _ _
          refine SO.takeT rfl rfl rfl b8 ?_
          refine SO.v rfl (opv_fieldAddr Try.underlying34 rfl Try.sizeOf32 rfl rfl) ?_
          exact SO.nilZ fun a w h1 h2 h3 h4 h5 => PZ.of h1 h3 h5 (.cons () (.cons () (.cons () (.nil ⟨EnvAll.of h2 ⟨rfl, rfl, rfl, trivial⟩, h4⟩))))
        · rintro Fr _ _ _
          refine SO.takeT rfl rfl rfl b8 ?_
          refine SO.load1 rfl Try.isAgg32 rfl rfl ?_
          exact SO.nilZ fun a w h1 h2 h3 h4 h5 => PZ.of h1 h3 h5 (.cons () (.cons () (.cons () (.cons () (.nil ⟨EnvAll.of h2 ⟨rfl, rfl, rfl, trivial⟩, h4⟩)))))
        · rintro Fr _ _
          refine SO.takeT rfl rfl rfl b8 ?_
          refine SO.v rfl (opv_move rfl) ?_
          exact SO.nilZ fun a w h1 h2 h3 h4 h5 => PZ.of h1 h3 h5 (.cons () (.cons () (.cons () (.nil ⟨EnvAll.of h2 ⟨rfl, rfl, rfl, trivial⟩, h4⟩))))
        · rintro Fr _ _ _ _
          refine SO.takeT rfl rfl rfl b8 ?_
          refine SO.v rfl (opv_idx Try.underlying32 Try.sizeOf55 hr2 rfl rfl hx10) ?_
          exact SO.nilZ fun a w h1 h2 h3 h4 h5 => PZ.of2 (Y := fun Q => ∃ (_ _ _ _ _ : Unit), Q [(25, .bool t5.isSome), (30, v1_L), (31, .int .i64 x5_1), (32, idxp v1_L (x5_1.toNat * ek_api_Cell.sz))] [Own 55 ek_api_Cell v1_L a1.L]) (fun Q => by kernel_rfl) h1 h3 h5 ⟨(), (), (), (), (), EnvAll.of h2 ⟨rfl, rfl, rfl, rfl, trivial⟩, h4⟩
        · rintro Fr _ _ _
          refine SO.takeT rfl rfl rfl b8 ?_
          refine SO.loadIN rfl Try.isAgg55 Try.sizeOf55 (Rd.head hr2) hx10 rfl rfl rfl ?_
          exact SO.nilZ fun a w h1 h2 h3 h4 h5 => PZ.of h1 h3 h5 (.cons () (.cons () (.cons () (.cons () (.nil ⟨EnvAll.of h2 ⟨rfl, rfl, rfl, trivial⟩, h4⟩)))))
        · rintro Fr _ _ _
          refine SO.takeT rfl rfl rfl b8 ?_
          refine SO.v rfl (eq_neq_api_Cell (x := t4) (y := x9) rfl rfl) ?_
          exact SO.nilZ fun a w h1 h2 h3 h4 h5 => PZ.of h1 h3 h5 (.cons () (.cons () (.cons () (.cons () (.nil ⟨EnvAll.of h2 ⟨rfl, rfl, rfl, rfl, trivial⟩, h4⟩)))))
        · rintro Fr _ _
          refine SO.v rfl (opv_pick_f' b8 rfl rfl) ?_
          exact SO.nilZ fun a w h1 h2 h3 h4 h5 => PZ.of h1 h3 h5 (.cons () (.cons () (.cons () (.nil ⟨EnvAll.of h2 ⟨rfl, rfl, rfl, trivial⟩, h4⟩))))
        rintro _ _ _ _ _ _ _ _ _ _
        refine S.to (ρ' := [(5, .int .i64 x5_1), (4, .bool false), (0, bp bp0 0), (1, bp bp1 0), (35, .bool (!decide (t4 = x9)))]) ⟨rfl, rfl, rfl, rfl, rfl, trivial⟩ ?_
        cases h
        refine S.b5 ?_
        refine S.b5 ?_
        refine S.b5 ?_
        refine S.b5 ?_
        refine S.b5 ?_
        refine S.b5 ?_
        refine S.to ?_ (hk2 () trivial)
        exact ⟨rfl, rfl, rfl, rfl, rfl, trivial⟩
      rintro _ -
      replace h := hJ2
      rcases bool_or j35_2 with b11 | b11
      · replace h := cond_t b11 h
        refine S.condT rfl b11 ?_
        refine S.seq ?_
        refine S.region ?_
        refine SO.v rfl (opv_assign rfl) ?_
        refine SO.nil ?_
        cases h
        replace h := hK1.1 _ rfl
        cases h
        refine S.drop ?_
        refine S.b4 ?_
        refine S.b4 ?_
        refine S.b4 ?_
        refine S.b4 ?_
        refine S.b4 ?_
        exact S.ret1 Try.func15 rfl rfl (fun w hs hk => hR w _ _ ⟨rfl, rfl⟩ hs hk)
      replace h := cond_f b11 h
      refine S.condF rfl b11 ?_
      refine S.skip ?_
      refine S.inBlock ?_
      refine S.region ?_
      refine SO.v rfl (opv_move rfl) ?_
      refine SO.v rfl (opv_add rfl rfl) ?_
      refine SO.v rfl (opv_assign rfl) ?_
      refine SO.nil ?_
      refine S.drop ?_
      refine S.b4 ?_
      refine S.b3 ?_
      refine S.b2 ?_
      refine S.b3 ?_
      refine S.b4 ?_
      refine S.to ?_ (ih1 (w64 (x5_1 + 1), ()) h)
      exact ⟨rfl, rfl, rfl, rfl, trivial⟩
    replace h := cond_f b3 h
    refine S.condF rfl b3 ?_
    refine S.exit rfl ?_
    cases h
    refine S.b4 ?_
    refine S.b1 ?_
    refine S.b4 ?_
    refine S.b4 ?_
    refine S.b4 ?_
    refine S.to ?_ (hK1.2 () () rfl)
    exact ⟨rfl, trivial⟩
  refine ⟨fun r' e' => ?_, ?_⟩
  · subst e'
    have h9 := Brk.of_ret h
    exact h9
  rintro _ _ e'
  subst e'
  replace h := Brk.of_nx h
  refine S.seq ?_
  refine S.region ?_
  refine SO.v rfl (opv_assign rfl) ?_
  refine SO.nil ?_
  cases h
  refine S.b4 ?_
  refine S.b1 ?_
  refine S.b4 ?_
  refine S.b3 ?_
  refine S.b4 ?_
  exact S.ret1 Try.func15 rfl rfl (fun w hs hk => hR w _ _ ⟨rfl, rfl⟩ hs hk)
end Go.Proofs
namespace Go.Proofs
open Go.Sl Go.RowKit
/-! 6 padstone/word.New -/
def word_New.f (a0 : Int) (a1 : Int) : Option (((Option word_Store) × (Option Int))) :=
  bif ((decide (a0 < 1)) || (decide (1024 < a0))) || (decide (a1 < 1)) then (some (none, (some 1))) else ((mk_ (⟨0, 0, 0⟩ : api_Cell) a0).bind fun xs6 => some ((some (⟨xs6, a1⟩ : word_Store)), none))
set_option maxHeartbeats 8000000 in
set_option maxRecDepth 100000 in
theorem word_New.ct (a0 : Int) (a1 : Int) (r0 : Option word_Store) (r1 : Option Int) (h : word_New.f a0 a1 = some (r0, r1)) :
    Ct Try.prog 6 [.int .i64 a0, .int .u32 a1] (fun _ => True) [] (fun u H' => match r0 with | none => (u = .tuple #[.pointer none, errV 59 r1] ∧ H' = []) | some r0p => (∃ b_r0p w_r0p_l, u = .tuple #[bp b_r0p 0, errV 59 r1] ∧ H' = [Box b_r0p [w_r0p_l, .int .u32 r0p.limit], Own 55 ek_api_Cell w_r0p_l r0p.l])) := by
  unfold word_New.f at h
  refine Ct.intro (n := 22) Try.func6 rfl rfl rfl ?_
  intro R w0 F hF hR
  refine S.seq ?_
  refine S.region ?_
  refine SO.v rfl (opv_assign rfl) ?_
  refine SO.v rfl (opv_assign rfl) ?_
  refine SO.nil ?_
  refine S.seq ?_
  refine S.seq ?_
  refine S.region ?_
  refine SO.v rfl (opv_move rfl) ?_
  refine SO.v rfl (opv_lss rfl rfl) ?_
  refine SO.v rfl (opv_move rfl) ?_
  refine SO.cut 3 11 (.bool ((decide (a0 < 1)) || (decide (1024 < a0)))) [F] (fun l2 hk2 => ?_) ?_
  · rcases bool_or (decide (a0 < 1)) with b1 | b1
    · refine SO.passF rfl rfl rfl b1 rfl rfl ?_
      refine SO.passF rfl rfl rfl b1 rfl rfl ?_
      refine SO.v rfl (opv_pick_t' b1 rfl rfl) ?_
      exact hk2.fitc (m := 3) rfl (or_t b1) rfl
    refine SO.takeT rfl rfl rfl b1 ?_
    refine SO.v rfl (opv_move rfl) ?_
    refine SO.takeT rfl rfl rfl b1 ?_
    refine SO.v rfl (opv_gtr rfl rfl) ?_
    refine SO.v rfl (opv_pick_f' b1 rfl rfl) ?_
    exact hk2.fitc (m := 3) rfl (or_f b1) rfl
  refine SO.v rfl (opv_move rfl) ?_
  refine SO.cut 3 15 (.bool (((decide (a0 < 1)) || (decide (1024 < a0))) || (decide (a1 < 1)))) [F] (fun l2 hk2 => ?_) ?_
  · rcases bool_or ((decide (a0 < 1)) || (decide (1024 < a0))) with b2 | b2
    · refine SO.passF rfl rfl rfl b2 rfl rfl ?_
      refine SO.passF rfl rfl rfl b2 rfl rfl ?_
      refine SO.v rfl (opv_pick_t' b2 rfl rfl) ?_
      exact hk2.fitc (m := 3) rfl (or_t b2) rfl
    refine SO.takeT rfl rfl rfl b2 ?_
    refine SO.v rfl (opv_move rfl) ?_
    refine SO.takeT rfl rfl rfl b2 ?_
    refine SO.v rfl (opv_lss rfl rfl) ?_
    refine SO.v rfl (opv_pick_f' b2 rfl rfl) ?_
    exact hk2.fitc (m := 3) rfl (or_f b2) rfl
  refine SO.nil ?_
  rcases bool_or (((decide (a0 < 1)) || (decide (1024 < a0))) || (decide (a1 < 1))) with b3 | b3
  · replace h := cond_t b3 h
    refine S.condT rfl b3 ?_
    refine S.seq ?_
    refine S.region ?_
    refine SO.v rfl (opv_iface Try.underlying59 rfl rfl) ?_
    refine SO.v rfl (opv_assign rfl) ?_
    refine SO.v rfl (opv_assign rfl) ?_
    refine SO.nil ?_
    refine S.to (ρ' := [(4, .pointer none), (5, errV 59 (some 1))]) ⟨rfl, rfl, trivial⟩ ?_
    cases h
    exact S.ret2 Try.func6 rfl rfl rfl (fun w hs hk => hR w _ _ ⟨rfl, rfl⟩ hs hk)
  replace h := cond_f b3 h
  refine S.condF rfl b3 ?_
  refine S.skip ?_
  refine S.seq ?_
  refine S.region ?_
  refine SO.v rfl (opv_move rfl) ?_
  obtain ⟨xs6, hx7, h⟩ := opt_bind h
  refine SO.makeSlice (K := ek_api_Cell) rfl Try.underlying32 inf55 rfl rfl rfl (by decide) rfl rfl rfl hx7 (fun v4 hr5 => ?_)
  refine SO.v rfl (opv_move rfl) ?_
  have hB_ : ∀ (w : World) (u0_ : Value), u0_.oneCell' = true → (Instr.build 61 #[(0, u0_), (1, .int .u32 a1)]).run Try.prog w = .ok (.agg #[u0_, .int .u32 a1]) w := (by intro w u0_ hu0_; cases u0_ <;> first | (simp [Value.oneCell'] at hu0_; done) | kernel_rfl)
  refine SO.v rfl (opv_build (v := .agg #[v4, .int .u32 a1]) rfl (fun w => hB_ w v4 (Rd.one hr5))) ?_
  clear hB_
  refine SO.box rfl rfl rfl (fun b8 => ?_)
  refine SO.v rfl (opv_assign rfl) ?_
  refine SO.v rfl (opv_assign rfl) ?_
  refine SO.nil ?_
  refine S.to (ρ' := [(4, bp b8 0), (5, errV 59 none)]) ⟨rfl, rfl, trivial⟩ ?_
  cases h
  refine S.b2 ?_
  refine S.b2 ?_
  refine S.b2 ?_
  exact S.ret2 Try.func6 rfl rfl rfl (fun w hs hk => hR w _ _ ⟨b8, v4, rfl, rfl⟩ hs hk)
end Go.Proofs
namespace Go.Proofs
open Go.Sl Go.RowKit
/-! 5 padstone/padstonelaw07.up -/
def law07_up.f : Option (Bool) :=
  (word_New.f 4 9).bind fun (t1, t2) => oE t1 ((desc_New.f 1 ([(⟨2, 0, 0, 5, true⟩ : tx_Entry)])).bind fun t6 => some false) (fun t1p => (desc_New.f 1 ([(⟨2, 0, 0, 5, true⟩ : tx_Entry)])).bind fun t9 => bif t2.isSome || false then (some false) else ((desc_Desc_Step.f t9 t1p).bind fun (t16, p17, p18) => (word_Store_Read.f p18 2).bind fun (t24, t25) => (desc_Desc_Step.f p17 p18).bind fun (t28, p29, p30) => (desc_Desc_Status.f p29).bind fun t36 => (desc_Desc_Step.f p29 p30).bind fun (t38, p39, p40) => (word_Store_Read.f p40 2).bind fun (t46, t47) => (bif t16 == 0 then (some (t24.Mark == 1)) else (some false)).bind fun c51 => (bif c51 && (t36 == 1) then ((desc_Desc_Over.f p39).bind fun t57 => some t57) else (some false)).bind fun c55 => (bif c55 && (decide (t46 = (⟨5, 1, 0⟩ : api_Cell))) then ((desc_Desc_Mark.f p39).bind fun t63 => some (t63 == 1)) else (some false)).bind fun c61 => some c61))
set_option maxHeartbeats 8000000 in
set_option maxRecDepth 100000 in
theorem law07_up.ct (r0 : Bool) (h : law07_up.f  = some r0) :
    Ct Try.prog 5 [] (fun _ => True) [] (fun u H' => u = .bool r0 ∧ H' = []) := by
  unfold law07_up.f at h
  refine Ct.intro (n := 73) Try.func5 rfl rfl rfl ?_
  intro R w0 F hF hR
  refine S.seq ?_
  refine S.region ?_
  refine SO.v rfl (opv_assign rfl) ?_
  refine SO.nil ?_
  refine S.seq ?_
  refine S.region ?_
  obtain ⟨⟨t1, t2⟩, ht3, h⟩ := opt_bind h
  rcases t1 with _ | t1p
  · replace h := oE_n h
    refine SO.call (pre := []) rfl Try.call6 rfl rfl rfl (word_New.ct _ _ _ _ ht3) trivial ?_
    rintro _ _ ⟨rfl, rfl⟩
    refine SO.v rfl (opv_move rfl) ?_
    refine SO.v rfl (opv_extract rfl rfl) ?_
    refine SO.v rfl (opv_extract rfl rfl) ?_
    refine SO.v rfl (opv_assign rfl) ?_
    refine SO.v rfl (opv_assign rfl) ?_
    refine SO.nil ?_
    refine S.seq ?_
    refine S.region ?_
    refine SO.v rfl (opv_build (v := .agg #[.int .i64 2, .int .u32 0, .int .u64 0, .int .u64 5, .bool true]) rfl (by intro w; kernel_rfl)) ?_
    refine SO.buildSlice (K := ek_tx_Entry) (xs := [(⟨2, 0, 0, 5, true⟩ : tx_Entry)]) (cs := [.int .i64 2, .int .u32 0, .int .u64 0, .int .u64 5, .bool true]) rfl Try.underlying37 Try.sizeOf53 Try.zeroValue53 rfl rfl rfl (by kernel_rfl) rfl rfl rfl (fun v4 hr5 => ?_)
    obtain ⟨t6, ht7, h⟩ := opt_bind h
    have ct11 := desc_New.ct v4 _ _ _ ht7
    try dsimp only at ct11
    refine SO.call (pre := []) rfl Try.call7 rfl rfl rfl ct11 (Rd.head hr5) ?_
    rintro _ _ ⟨b8, u9_l, rfl, rfl⟩
    refine SO.b1 ?_
    refine SO.rd fun hr10 => ?_
    refine SO.v rfl (opv_assign rfl) ?_
    refine SO.nil ?_
    refine S.to (ρ' := [(0, .bool false), (1, .pointer none), (2, errV 59 t2), (3, bp b8 0)]) ⟨rfl, rfl, rfl, rfl, trivial⟩ ?_
    refine S.seq ?_
    refine S.seq ?_
    refine S.region ?_
    refine SO.v rfl (opv_move rfl) ?_
    refine SO.v rfl (opv_eqlPN Try.underlying26 rfl) ?_
    refine SO.v rfl (opv_move rfl) ?_
    refine SO.passF rfl rfl rfl rfl rfl rfl ?_
    refine SO.passF rfl rfl rfl rfl rfl rfl ?_
    refine SO.v rfl (opv_pick_tt rfl rfl) ?_
    refine SO.v rfl (opv_move rfl) ?_
    refine SO.passF rfl rfl rfl rfl rfl rfl ?_
    refine SO.passF rfl rfl rfl rfl rfl rfl ?_
    refine SO.v rfl (opv_pick_tt rfl rfl) ?_
    refine SO.nil ?_
    refine S.to (ρ' := [(0, .bool false), (1, .pointer none), (3, bp b8 0), (26, .bool true)]) ⟨rfl, rfl, rfl, rfl, trivial⟩ ?_
    refine S.cond_true rfl ?_
    refine S.seq ?_
    refine S.region ?_
    refine SO.v rfl (opv_assign rfl) ?_
    refine SO.nil ?_
    cases h
    refine S.drop ?_
    refine S.drop ?_
    refine S.drop ?_
    exact S.ret1 Try.func5 rfl rfl (fun w hs hk => hR w _ _ ⟨rfl, rfl⟩ hs hk)
  replace h := oE_s h
  refine SO.call (pre := []) rfl Try.call6 rfl rfl rfl (word_New.ct _ _ _ _ ht3) trivial ?_
  rintro _ _ ⟨b4, u5_l, rfl, rfl⟩
  refine SO.b1 ?_
  refine SO.rd fun hr6 => ?_
  refine SO.v rfl (opv_move rfl) ?_
  refine SO.v rfl (opv_extract rfl rfl) ?_
  refine SO.v rfl (opv_extract rfl rfl) ?_
  refine SO.v rfl (opv_assign rfl) ?_
  refine SO.v rfl (opv_assign rfl) ?_
  refine SO.nil ?_
  refine S.seq ?_
  refine S.region ?_
  refine SO.v rfl (opv_build (v := .agg #[.int .i64 2, .int .u32 0, .int .u64 0, .int .u64 5, .bool true]) rfl (by intro w; kernel_rfl)) ?_
  refine SO.buildSlice (K := ek_tx_Entry) (xs := [(⟨2, 0, 0, 5, true⟩ : tx_Entry)]) (cs := [.int .i64 2, .int .u32 0, .int .u64 0, .int .u64 5, .bool true]) rfl Try.underlying37 Try.sizeOf53 Try.zeroValue53 rfl rfl rfl (by kernel_rfl) rfl rfl rfl (fun v7 hr8 => ?_)
  obtain ⟨t9, ht10, h⟩ := opt_bind h
  have ct65 := desc_New.ct v7 _ _ _ ht10
  try dsimp only at ct65
  refine SO.call (pre := []) rfl Try.call7 rfl rfl rfl ct65 (Rd.head hr8) ?_
  rintro _ _ ⟨b11, u12_l, rfl, rfl⟩
  refine SO.b1 ?_
  refine SO.rd fun hr13 => ?_
  refine SO.v rfl (opv_assign rfl) ?_
  refine SO.nil ?_
  refine S.to (ρ' := [(0, .bool false), (1, bp b4 0), (2, errV 59 t2), (3, bp b11 0)]) ⟨rfl, rfl, rfl, rfl, trivial⟩ ?_
  refine S.seq ?_
  refine S.seq ?_
  refine S.region ?_
  refine SO.v rfl (opv_move rfl) ?_
  refine SO.v rfl (opv_eqlP Try.underlying26 rfl) ?_
  refine SO.v rfl (opv_move rfl) ?_
  refine SO.takeT rfl rfl rfl rfl ?_
  refine SO.v rfl (opv_move rfl) ?_
  refine SO.takeT rfl rfl rfl rfl ?_
  refine SO.v rfl (opv_neqN (e := t2) Try.underlying28 rfl) ?_
  refine SO.v rfl (opv_pick_ff rfl rfl) ?_
  refine SO.v rfl (opv_move rfl) ?_
  refine SO.cut 3 26 (.bool (t2.isSome || false)) [Own 53 ek_tx_Entry u12_l t9.l, Box b11 [.int .i64 t9.mark, u12_l, .int .i64 t9.status, .int .i64 t9.at_], Own 53 ek_tx_Entry v7 ([(⟨2, 0, 0, 5, true⟩ : tx_Entry)]), Own 55 ek_api_Cell u5_l t1p.l, Box b4 [u5_l, .int .u32 t1p.limit], F] (fun l2 hk2 => ?_) ?_
  · rcases bool_or t2.isSome with b14 | b14
    · refine SO.passF rfl rfl rfl b14 rfl rfl ?_
      refine SO.passF rfl rfl rfl b14 rfl rfl ?_
      refine SO.v rfl (opv_pick_t' b14 rfl rfl) ?_
      refine SO.b5 ?_
      refine SO.b5 ?_
      refine SO.b5 ?_
      refine SO.b5 ?_
      refine SO.b5 ?_
      refine SO.b5 ?_
      exact hk2.fitc (m := 3) rfl (or_t b14) rfl
    refine SO.takeT rfl rfl rfl b14 ?_
    refine SO.v rfl (opv_move rfl) ?_
    refine SO.takeT rfl rfl rfl b14 ?_
    refine SO.v rfl (opv_eqlP Try.underlying38 rfl) ?_
    refine SO.v rfl (opv_pick_f' b14 rfl rfl) ?_
    refine SO.b5 ?_
    refine SO.b5 ?_
    refine SO.b5 ?_
    refine SO.b5 ?_
    refine SO.b5 ?_
    refine SO.b5 ?_
    exact hk2.fitc (m := 3) rfl (or_f b14) rfl
  refine SO.nil ?_
  refine S.to (ρ' := [(0, .bool false), (1, bp b4 0), (3, bp b11 0), (26, .bool (t2.isSome || false))]) ⟨rfl, rfl, rfl, rfl, trivial⟩ ?_
  rcases bool_or (t2.isSome || false) with b15 | b15
  · replace h := cond_t b15 h
    refine S.condT rfl b15 ?_
    refine S.seq ?_
    refine S.region ?_
    refine SO.v rfl (opv_assign rfl) ?_
    refine SO.nil ?_
    cases h
    refine S.drop ?_
    refine S.drop ?_
    refine S.drop ?_
    refine S.drop ?_
    refine S.drop ?_
    exact S.ret1 Try.func5 rfl rfl (fun w hs hk => hR w _ _ ⟨rfl, rfl⟩ hs hk)
  replace h := cond_f b15 h
  refine S.condF rfl b15 ?_
  refine S.skip ?_
  refine S.seq ?_
  refine S.region ?_
  refine SO.v rfl (opv_move rfl) ?_
  refine SO.v rfl (opv_move rfl) ?_
  obtain ⟨⟨t16, p17, p18⟩, ht19, h⟩ := opt_bind h
  refine SO.b3 ?_
  refine SO.b4 ?_
  refine SO.b2 ?_
  refine SO.b3 ?_
  refine SO.call (pre := [Box _ _, Own _ _ _ _, Box _ _, Own _ _ _ _]) rfl Try.call9 rfl rfl rfl (desc_Desc_Step.ct b11 u12_l b4 u5_l _ _ _ _ _ ht19) trivial ?_
  rintro _ _ ⟨u20_l, u22_l, rfl, rfl⟩
  refine SO.b1 ?_
  refine SO.rd fun hr21 => ?_
  refine SO.b3 ?_
  refine SO.rd fun hr23 => ?_
  refine SO.v rfl (opv_assign rfl) ?_
  refine SO.nil ?_
  refine S.seq ?_
  refine S.region ?_
  refine SO.v rfl (opv_move rfl) ?_
  obtain ⟨⟨t24, t25⟩, ht26, h⟩ := opt_bind h
  refine SO.b3 ?_
  refine SO.call (pre := [Box _ _, Own _ _ _ _]) rfl Try.call17 rfl rfl rfl (word_Store_Read.ct b4 u22_l _ _ _ _ ht26) trivial ?_
  rintro _ _ ⟨rfl, rfl⟩
  refine SO.v rfl (opv_move rfl) ?_
  refine SO.v rfl (opv_extract rfl rfl) ?_
  refine SO.v rfl (opv_extract rfl rfl) ?_
  refine SO.alloc rfl Try.zeroValue55 rfl (fun b27 => ?_)
  refine SO.storeN Try.sizeOf55 rfl rfl rfl rfl rfl rfl ?_
  refine SO.v rfl (opv_assign rfl) ?_
  refine SO.nil ?_
  refine S.to (ρ' := [(0, .bool false), (1, bp b4 0), (3, bp b11 0), (4, .int .i64 t16), (5, bp b27 0)]) ⟨rfl, rfl, rfl, rfl, rfl, trivial⟩ ?_
  refine S.seq ?_
  refine S.region ?_
  refine SO.v rfl (opv_move rfl) ?_
  refine SO.v rfl (opv_move rfl) ?_
  obtain ⟨⟨t28, p29, p30⟩, ht31, h⟩ := opt_bind h
  refine SO.b2 ?_
  refine SO.b2 ?_
  refine SO.b3 ?_
  refine SO.b4 ?_
  refine SO.call (pre := [Box _ _, Own _ _ _ _, Box _ _, Own _ _ _ _]) rfl Try.call9 rfl rfl rfl (desc_Desc_Step.ct b11 u20_l b4 u22_l _ _ _ _ _ ht31) trivial ?_
  rintro _ _ ⟨u32_l, u34_l, rfl, rfl⟩
  refine SO.b1 ?_
  refine SO.rd fun hr33 => ?_
  refine SO.b3 ?_
  refine SO.rd fun hr35 => ?_
  refine SO.nil ?_
  refine S.seq ?_
  refine S.region ?_
  refine SO.v rfl (opv_move rfl) ?_
  obtain ⟨t36, ht37, h⟩ := opt_bind h
  refine SO.b1 ?_
  refine SO.b2 ?_
  refine SO.call (pre := [Box _ _, Own _ _ _ _]) rfl Try.call11 rfl rfl rfl (desc_Desc_Status.ct b11 u32_l _ _ ht37) trivial ?_
  rintro _ _ ⟨rfl, rfl⟩
  refine SO.v rfl (opv_assign rfl) ?_
  refine SO.nil ?_
  refine S.seq ?_
  refine S.region ?_
  refine SO.v rfl (opv_move rfl) ?_
  refine SO.v rfl (opv_move rfl) ?_
  obtain ⟨⟨t38, p39, p40⟩, ht41, h⟩ := opt_bind h
  refine SO.b2 ?_
  refine SO.b3 ?_
  refine SO.b3 ?_
  refine SO.b3 ?_
  refine SO.call (pre := [Box _ _, Own _ _ _ _, Box _ _, Own _ _ _ _]) rfl Try.call9 rfl rfl rfl (desc_Desc_Step.ct b11 u32_l b4 u34_l _ _ _ _ _ ht41) trivial ?_
  rintro _ _ ⟨u42_l, u44_l, rfl, rfl⟩
  refine SO.b1 ?_
  refine SO.rd fun hr43 => ?_
  refine SO.b3 ?_
  refine SO.rd fun hr45 => ?_
  refine SO.nil ?_
  refine S.to (ρ' := [(0, .bool false), (1, bp b4 0), (3, bp b11 0), (4, .int .i64 t16), (5, bp b27 0), (7, .int .i64 t36)]) ⟨rfl, rfl, rfl, rfl, rfl, rfl, trivial⟩ ?_
  refine S.seq ?_
  refine S.region ?_
  refine SO.v rfl (opv_move rfl) ?_
  obtain ⟨⟨t46, t47⟩, ht48, h⟩ := opt_bind h
  refine SO.b3 ?_
  refine SO.call (pre := [Box _ _, Own _ _ _ _]) rfl Try.call17 rfl rfl rfl (word_Store_Read.ct b4 u44_l _ _ _ _ ht48) trivial ?_
  rintro _ _ ⟨rfl, rfl⟩
  refine SO.v rfl (opv_move rfl) ?_
  refine SO.v rfl (opv_extract rfl rfl) ?_
  refine SO.v rfl (opv_extract rfl rfl) ?_
  refine SO.alloc rfl Try.zeroValue55 rfl (fun b49 => ?_)
  refine SO.storeN Try.sizeOf55 rfl rfl rfl rfl rfl rfl ?_
  refine SO.v rfl (opv_assign rfl) ?_
  refine SO.nil ?_
  refine S.to (ρ' := [(0, .bool false), (3, bp b11 0), (4, .int .i64 t16), (5, bp b27 0), (7, .int .i64 t36), (8, bp b49 0)]) ⟨rfl, rfl, rfl, rfl, rfl, rfl, trivial⟩ ?_
  refine S.seq ?_
  refine S.region ?_
  refine SO.v rfl (opv_move rfl) ?_
  refine SO.v rfl (opv_eql rfl rfl) ?_
  refine SO.v rfl (opv_move rfl) ?_
  obtain ⟨c51, hc52, hgk⟩ := opt_bind h
  refine SO.cut 4 54 (.bool c51) [Box b49 [.int .u64 t46.Value, .int .u32 t46.Version, .int .i64 t46.Mark], Box b4 [u44_l, .int .u32 p40.limit], Own 55 ek_api_Cell u44_l p40.l, Own 53 ek_tx_Entry u42_l p39.l, Box b11 [.int .i64 p39.mark, u42_l, .int .i64 p39.status, .int .i64 p39.at_], Box b27 [.int .u64 t24.Value, .int .u32 t24.Version, .int .i64 t24.Mark], Own 53 ek_tx_Entry v7 ([(⟨2, 0, 0, 5, true⟩ : tx_Entry)]), F] (fun l2 hk2 => ?_) ?_
  · clear hgk
    replace h := hc52
    rcases bool_or (t16 == 0) with b50 | b50
    · replace h := cond_t b50 h
      refine SO.takeT rfl rfl rfl b50 ?_
      refine SO.v rfl (opv_fieldAddr Try.underlying55 rfl Try.sizeOf3 rfl rfl) ?_
      refine SO.takeT rfl rfl rfl b50 ?_
      refine SO.b5 ?_
      refine SO.load1 rfl Try.isAgg3 rfl rfl ?_
      refine SO.takeT rfl rfl rfl b50 ?_
      refine SO.v rfl (opv_eql rfl rfl) ?_
      cases h
      refine SO.v rfl (opv_pick_t' b50 rfl rfl) ?_
      refine SO.b7 ?_
      refine SO.b7 ?_
      refine SO.b2 ?_
      refine SO.b7 ?_
      refine SO.b7 ?_
      refine SO.b7 ?_
      refine SO.b7 ?_
      refine SO.b7 ?_
      exact hk2.fitc (m := 4) rfl (rfl) rfl
    replace h := cond_f b50 h
    refine SO.passF rfl rfl rfl b50 rfl rfl ?_
    refine SO.passF rfl rfl rfl b50 rfl rfl ?_
    refine SO.passF rfl rfl rfl b50 rfl rfl ?_
    cases h
    refine SO.v rfl (opv_pick_f' b50 rfl rfl) ?_
    refine SO.b7 ?_
    refine SO.b7 ?_
    refine SO.b7 ?_
    refine SO.b7 ?_
    refine SO.b7 ?_
    refine SO.b7 ?_
    refine SO.b7 ?_
    refine SO.b7 ?_
    exact hk2.fitc (m := 4) rfl (rfl) rfl
  clear hc52
  replace h := hgk
  refine SO.v rfl (opv_move rfl) ?_
  refine SO.cut 3 58 (.bool (c51 && (t36 == 1))) [Box b49 [.int .u64 t46.Value, .int .u32 t46.Version, .int .i64 t46.Mark], Box b4 [u44_l, .int .u32 p40.limit], Own 55 ek_api_Cell u44_l p40.l, Own 53 ek_tx_Entry u42_l p39.l, Box b11 [.int .i64 p39.mark, u42_l, .int .i64 p39.status, .int .i64 p39.at_], Box b27 [.int .u64 t24.Value, .int .u32 t24.Version, .int .i64 t24.Mark], Own 53 ek_tx_Entry v7 ([(⟨2, 0, 0, 5, true⟩ : tx_Entry)]), F] (fun l2 hk2 => ?_) ?_
  · rcases bool_or c51 with b53 | b53
    · refine SO.takeT rfl rfl rfl b53 ?_
      refine SO.v rfl (opv_move rfl) ?_
      refine SO.takeT rfl rfl rfl b53 ?_
      refine SO.v rfl (opv_eql rfl rfl) ?_
      refine SO.v rfl (opv_pick_t' b53 rfl rfl) ?_
      refine SO.b7 ?_
      refine SO.b7 ?_
      refine SO.b7 ?_
      refine SO.b7 ?_
      refine SO.b7 ?_
      refine SO.b7 ?_
      refine SO.b7 ?_
      refine SO.b7 ?_
      exact hk2.fitc (m := 3) rfl (and_t b53) rfl
    refine SO.passF rfl rfl rfl b53 rfl rfl ?_
    refine SO.passF rfl rfl rfl b53 rfl rfl ?_
    refine SO.v rfl (opv_pick_f' b53 rfl rfl) ?_
    refine SO.b7 ?_
    refine SO.b7 ?_
    refine SO.b7 ?_
    refine SO.b7 ?_
    refine SO.b7 ?_
    refine SO.b7 ?_
    refine SO.b7 ?_
    refine SO.b7 ?_
    exact hk2.fitc (m := 3) rfl (and_f b53) rfl
  refine SO.v rfl (opv_move rfl) ?_
  obtain ⟨c55, hc56, hgk⟩ := opt_bind h
  refine SO.cut 3 62 (.bool c55) [Box b49 [.int .u64 t46.Value, .int .u32 t46.Version, .int .i64 t46.Mark], Box b4 [u44_l, .int .u32 p40.limit], Own 55 ek_api_Cell u44_l p40.l, Own 53 ek_tx_Entry u42_l p39.l, Box b11 [.int .i64 p39.mark, u42_l, .int .i64 p39.status, .int .i64 p39.at_], Box b27 [.int .u64 t24.Value, .int .u32 t24.Version, .int .i64 t24.Mark], Own 53 ek_tx_Entry v7 ([(⟨2, 0, 0, 5, true⟩ : tx_Entry)]), F] (fun l2 hk2 => ?_) ?_
  · clear hgk
    replace h := hc56
    rcases bool_or (c51 && (t36 == 1)) with b54 | b54
    · replace h := cond_t b54 h
      refine SO.takeT rfl rfl rfl b54 ?_
      refine SO.v rfl (opv_move rfl) ?_
      refine SO.takeT rfl rfl rfl b54 ?_
      obtain ⟨t57, ht58, h⟩ := opt_bind h
      refine SO.b3 ?_
      refine SO.b4 ?_
      refine SO.call (pre := [Box _ _, Own _ _ _ _]) rfl Try.call12 rfl rfl rfl (desc_Desc_Over.ct b11 u42_l _ _ ht58) trivial ?_
      rintro _ _ ⟨rfl, rfl⟩
      cases h
      refine SO.v rfl (opv_pick_t' b54 rfl rfl) ?_
      refine SO.b7 ?_
      refine SO.b7 ?_
      refine SO.b7 ?_
      refine SO.b3 ?_
      refine SO.b4 ?_
      refine SO.b7 ?_
      refine SO.b7 ?_
      refine SO.b7 ?_
      exact hk2.fitc (m := 3) rfl (rfl) rfl
    replace h := cond_f b54 h
    refine SO.passF rfl rfl rfl b54 rfl rfl ?_
    refine SO.passF rfl rfl rfl b54 rfl rfl ?_
    cases h
    refine SO.v rfl (opv_pick_f' b54 rfl rfl) ?_
    refine SO.b7 ?_
    refine SO.b7 ?_
    refine SO.b7 ?_
    refine SO.b7 ?_
    refine SO.b7 ?_
    refine SO.b7 ?_
    refine SO.b7 ?_
    refine SO.b7 ?_
    exact hk2.fitc (m := 3) rfl (rfl) rfl
  clear hc56
  replace h := hgk
  refine SO.v rfl (opv_move rfl) ?_
  refine SO.cut 4 67 (.bool (c55 && (decide (t46 = (⟨5, 1, 0⟩ : api_Cell))))) [Box b49 [.int .u64 t46.Value, .int .u32 t46.Version, .int .i64 t46.Mark], Box b4 [u44_l, .int .u32 p40.limit], Own 55 ek_api_Cell u44_l p40.l, Own 53 ek_tx_Entry u42_l p39.l, Box b11 [.int .i64 p39.mark, u42_l, .int .i64 p39.status, .int .i64 p39.at_], Box b27 [.int .u64 t24.Value, .int .u32 t24.Version, .int .i64 t24.Mark], Own 53 ek_tx_Entry v7 ([(⟨2, 0, 0, 5, true⟩ : tx_Entry)]), F] (fun l2 hk2 => ?_) ?_
  · rcases bool_or c55 with b59 | b59
    · refine SO.takeT rfl rfl rfl b59 ?_
      refine SO.loadN rfl Try.isAgg55 Try.sizeOf55 rfl rfl rfl ?_
      refine SO.takeT rfl rfl rfl b59 ?_
      refine SO.v rfl (opv_build (v := .agg #[.int .u64 5, .int .u32 1, .int .i64 0]) rfl (by intro w; kernel_rfl)) ?_
      refine SO.takeT rfl rfl rfl b59 ?_
      refine SO.v rfl (eq_eql_api_Cell (x := t46) (y := (⟨5, 1, 0⟩ : api_Cell)) rfl rfl) ?_
      refine SO.v rfl (opv_pick_t' b59 rfl rfl) ?_
      refine SO.b7 ?_
      refine SO.b7 ?_
      refine SO.b7 ?_
      refine SO.b7 ?_
      refine SO.b7 ?_
      refine SO.b7 ?_
      refine SO.b7 ?_
      refine SO.b7 ?_
      exact hk2.fitc (m := 4) rfl (and_t b59) rfl
    refine SO.passF rfl rfl rfl b59 rfl rfl ?_
    refine SO.passF rfl rfl rfl b59 rfl rfl ?_
    refine SO.passF rfl rfl rfl b59 rfl rfl ?_
    refine SO.v rfl (opv_pick_f' b59 rfl rfl) ?_
    refine SO.b7 ?_
    refine SO.b7 ?_
    refine SO.b7 ?_
    refine SO.b7 ?_
    refine SO.b7 ?_
    refine SO.b7 ?_
    refine SO.b7 ?_
    refine SO.b7 ?_
    exact hk2.fitc (m := 4) rfl (and_f b59) rfl
  refine SO.v rfl (opv_move rfl) ?_
  obtain ⟨c61, hc62, hgk⟩ := opt_bind h
  refine SO.cut 4 72 (.bool c61) [Box b49 [.int .u64 t46.Value, .int .u32 t46.Version, .int .i64 t46.Mark], Box b4 [u44_l, .int .u32 p40.limit], Own 55 ek_api_Cell u44_l p40.l, Own 53 ek_tx_Entry u42_l p39.l, Box b11 [.int .i64 p39.mark, u42_l, .int .i64 p39.status, .int .i64 p39.at_], Box b27 [.int .u64 t24.Value, .int .u32 t24.Version, .int .i64 t24.Mark], Own 53 ek_tx_Entry v7 ([(⟨2, 0, 0, 5, true⟩ : tx_Entry)]), F] (fun l2 hk2 => ?_) ?_
  · clear hgk
    replace h := hc62
    rcases bool_or (c55 && (decide (t46 = (⟨5, 1, 0⟩ : api_Cell)))) with b60 | b60
    · replace h := cond_t b60 h
      refine SO.takeT rfl rfl rfl b60 ?_
      refine SO.v rfl (opv_move rfl) ?_
      refine SO.takeT rfl rfl rfl b60 ?_
      obtain ⟨t63, ht64, h⟩ := opt_bind h
      refine SO.b3 ?_
      refine SO.b4 ?_
      refine SO.call (pre := [Box _ _, Own _ _ _ _]) rfl Try.call14 rfl rfl rfl (desc_Desc_Mark.ct b11 u42_l _ _ ht64) trivial ?_
      rintro _ _ ⟨rfl, rfl⟩
      refine SO.takeT rfl rfl rfl b60 ?_
      refine SO.v rfl (opv_eql rfl rfl) ?_
      cases h
      refine SO.v rfl (opv_pick_t' b60 rfl rfl) ?_
      refine SO.b7 ?_
      refine SO.b7 ?_
      refine SO.b7 ?_
      refine SO.b3 ?_
      refine SO.b4 ?_
      refine SO.b7 ?_
      refine SO.b7 ?_
      refine SO.b7 ?_
      exact hk2.fitc (m := 4) rfl (rfl) rfl
    replace h := cond_f b60 h
    refine SO.passF rfl rfl rfl b60 rfl rfl ?_
    refine SO.passF rfl rfl rfl b60 rfl rfl ?_
    refine SO.passF rfl rfl rfl b60 rfl rfl ?_
    cases h
    refine SO.v rfl (opv_pick_f' b60 rfl rfl) ?_
    refine SO.b7 ?_
    refine SO.b7 ?_
    refine SO.b7 ?_
    refine SO.b7 ?_
    refine SO.b7 ?_
    refine SO.b7 ?_
    refine SO.b7 ?_
    refine SO.b7 ?_
    exact hk2.fitc (m := 4) rfl (rfl) rfl
  clear hc62
  replace h := hgk
  refine SO.v rfl (opv_assign rfl) ?_
  refine SO.nil ?_
  refine S.to (ρ' := [(0, .bool c61)]) ⟨rfl, trivial⟩ ?_
  cases h
  refine S.drop ?_
  refine S.drop ?_
  refine S.drop ?_
  refine S.drop ?_
  refine S.drop ?_
  refine S.drop ?_
  refine S.drop ?_
  exact S.ret1 Try.func5 rfl rfl (fun w hs hk => hR w _ _ ⟨rfl, rfl⟩ hs hk)
end Go.Proofs
namespace Go.Proofs
open Go.Sl Go.RowKit
/-! 13 (*padstone/padstoneref07.Desc).Over -/
def ref07_Desc_Over.f (a0 : ref07_Desc) : Option (Bool) :=
  (bif decide (0 < a0.Status) then (some (a0.At == (a0.L.length : Int))) else (some false)).bind fun j2_1 => some j2_1
set_option maxHeartbeats 8000000 in
set_option maxRecDepth 100000 in
theorem ref07_Desc_Over.ct (bp0 : Nat) (v0_L : Value) (a0 : ref07_Desc) (r0 : Bool) (h : ref07_Desc_Over.f a0 = some r0) :
    Ct Try.prog 13 [bp bp0 0] (fun _ => True) [Box bp0 [.int .i64 a0.Mark, v0_L, .int .i64 a0.Status, .int .i64 a0.At], Own 66 ek_ref07_Entry v0_L a0.L] (fun u H' => u = .bool r0 ∧ H' = [Box bp0 [.int .i64 a0.Mark, v0_L, .int .i64 a0.Status, .int .i64 a0.At], Own 66 ek_ref07_Entry v0_L a0.L]) := by
  unfold ref07_Desc_Over.f at h
  refine Ct.intro (n := 20) Try.func13 rfl rfl rfl ?_
  intro R w0 F hF hR
  refine S.b1 ?_
  refine S.rd fun hr1 => ?_
  refine S.seq ?_
  refine S.region ?_
  refine SO.v rfl (opv_assign rfl) ?_
  refine SO.nil ?_
  refine S.seq ?_
  obtain ⟨j2_1, hC1, hJ1⟩ := opt_bind h
  clear h
  refine S.cutP (G := Unit) (fun _ => True) (fun _ => [(2, .bool j2_1)]) (fun _ => [Own 66 ek_ref07_Entry v0_L a0.L, Box bp0 [.int .i64 a0.Mark, v0_L, .int .i64 a0.Status, .int .i64 a0.At], F]) (fun hk1 => ?_) ?_
  · replace h := hC1
    rcases bool_or (decide (0 < a0.Status)) with b2 | b2
    · replace h := cond_t b2 h
      refine S.draw2 (Y := fun Q => ∃ (_ _ _ _ : Unit), Q [(0, bp bp0 0)] [Own 66 ek_ref07_Entry v0_L a0.L, Box bp0 [.int .i64 a0.Mark, v0_L, .int .i64 a0.Status, .int .i64 a0.At], F]) (Z := fun Q => ∀ (_ _ _ _ : Unit), Q [(2, .bool (a0.At == (a0.L.length : Int)))] [Own 66 ek_ref07_Entry v0_L a0.L, Box bp0 [.int .i64 a0.Mark, v0_L, .int .i64 a0.Status, .int .i64 a0.At], F]) (T := [tS 0 (bp bp0 0), tR (Own 66 ek_ref07_Entry v0_L a0.L), tR (Box bp0 [.int .i64 a0.Mark, v0_L, .int .i64 a0.Status, .int .i64 a0.At]), tR (F), tS 3 (bp bp0 0), tS 4 (bp bp0 0), tS 5 (bp bp0 2), tS 6 (.int .i64 a0.Status), tS 7 (.bool (decide (0 < a0.Status))), tS 8 (.bool (decide (0 < a0.Status))), tS 9 (bp bp0 0), tS 10 (bp bp0 0), tS 11 (bp bp0 3), tS 12 (.int .i64 a0.At), tS 13 (bp bp0 0), tS 14 (bp bp0 0), tS 15 (bp bp0 1), tS 16 (v0_L), tS 17 (.int .i64 (a0.L.length : Int)), tS 18 (.bool (a0.At == (a0.L.length : Int))), tS 19 (.bool (a0.At == (a0.L.length : Int))), tS 2 (.bool (a0.At == (a0.L.length : Int)))]) (D := [⟨[0], [], [4]⟩, ⟨[4], [], [5]⟩, ⟨[5], [], [6]⟩, ⟨[6, 2], [], [7]⟩, ⟨[7], [], [8]⟩, ⟨[8], [], [9]⟩, ⟨[0, 9], [], [10]⟩, ⟨[9, 10], [], [11]⟩, ⟨[9, 11], [], [12]⟩, ⟨[9, 12, 2], [], [13]⟩, ⟨[0, 9], [], [14]⟩, ⟨[9, 14], [], [15]⟩, ⟨[9, 15], [], [16]⟩, ⟨[9, 16, 2], [], [17]⟩, ⟨[9, 17, 1], [], [18]⟩, ⟨[9, 13, 18], [], [19]⟩, ⟨[9, 19], [], [20]⟩, ⟨[20], [], [21]⟩]) (ini := [0, 1, 2, 3]) (fin := [21, 1, 2, 3]) (bf := [[], [0], [0, 1], [0, 1, 2], [0, 1, 2, 3], [0, 1, 2, 3, 4], [0, 1, 2, 3, 4, 5], [0, 1, 2, 3, 4, 5, 6], [0, 1, 2, 3, 4, 5, 6, 7], [0, 1, 2, 3, 4, 5, 6, 7, 8], [0, 1, 2, 3, 4, 5], [0, 1, 2, 3, 4, 5, 10], [0, 1, 2, 3, 4, 5, 10, 11], [0, 1, 2, 3, 4, 5, 10, 11, 12], [0, 1, 2, 3, 4, 5, 10, 11, 12, 13], [0, 1, 2, 3, 4, 5, 6, 7, 8, 9, 10, 11, 12, 13, 14], [0, 1, 2, 3, 4, 5, 6, 7, 8, 9, 10, 11, 12, 13, 14, 15], [0, 1, 2, 3, 4, 5, 6, 7, 8, 9, 10, 11, 12, 13, 14, 15, 16]]) (by kernel_rfl) (by kernel_rfl) (fun Q => by kernel_rfl) (fun x w h1 h2 => ⟨(), (), (), (), EnvAll.of h1 ⟨rfl, trivial⟩, h2⟩) (fun Q => by kernel_rfl) ⟨?_, ?_, ?_, ?_, ?_, ?_, ?_, ?_, ?_, ?_, ?_, ?_, ?_, ?_, ?_, ?_, ?_, ?_, trivial⟩ ?_
      · rintro Fr _
        refine SO.v rfl (opv_move rfl) ?_
        exact SO.nilZ fun a w h1 h2 h3 h4 h5 => PZ.of h1 h3 h5 (.cons () (.cons () (.nil ⟨EnvAll.of h2 ⟨rfl, rfl, trivial⟩, h4⟩)))
      · rintro Fr _
        refine SO.v rfl (opv_nilCheck rfl) ?_
        exact SO.nilZ fun a w h1 h2 h3 h4 h5 => PZ.of h1 h3 h5 (.cons () (.cons () (.nil ⟨EnvAll.of h2 ⟨rfl, rfl, trivial⟩, h4⟩)))
      · rintro Fr _
        refine SO.v rfl (opv_fieldAddr Try.underlying44 rfl Try.sizeOf3 rfl rfl) ?_
        exact SO.nilZ fun a w h1 h2 h3 h4 h5 => PZ.of h1 h3 h5 (.cons () (.cons () (.nil ⟨EnvAll.of h2 ⟨rfl, rfl, trivial⟩, h4⟩)))
      · rintro Fr _ _
        refine SO.load1 rfl Try.isAgg3 rfl rfl ?_
        exact SO.nilZ fun a w h1 h2 h3 h4 h5 => PZ.of h1 h3 h5 (.cons () (.cons () (.cons () (.nil ⟨EnvAll.of h2 ⟨rfl, rfl, trivial⟩, h4⟩))))
      · rintro Fr _
        refine SO.v rfl (opv_gtr rfl rfl) ?_
        exact SO.nilZ fun a w h1 h2 h3 h4 h5 => PZ.of h1 h3 h5 (.cons () (.cons () (.nil ⟨EnvAll.of h2 ⟨rfl, rfl, trivial⟩, h4⟩)))
      · rintro Fr _
        refine SO.v rfl (opv_move rfl) ?_
        exact SO.nilZ fun a w h1 h2 h3 h4 h5 => PZ.of h1 h3 h5 (.cons () (.cons () (.nil ⟨EnvAll.of h2 ⟨rfl, rfl, trivial⟩, h4⟩)))
      · rintro Fr _ _
        refine SO.takeT rfl rfl rfl b2 ?_
        refine SO.v rfl (opv_move rfl) ?_
        exact SO.nilZ fun a w h1 h2 h3 h4 h5 => PZ.of h1 h3 h5 (.cons () (.cons () (.cons () (.nil ⟨EnvAll.of h2 ⟨rfl, rfl, rfl, trivial⟩, h4⟩))))
      · rintro Fr _ _
        refine SO.takeT rfl rfl rfl b2 ?_
        refine SO.v rfl (opv_nilCheck rfl) ?_
        exact SO.nilZ fun a w h1 h2 h3 h4 h5 => PZ.of h1 h3 h5 (.cons () (.cons () (.cons () (.nil ⟨EnvAll.of h2 ⟨rfl, rfl, rfl, trivial⟩, h4⟩))))
      · rintro Fr _ _
        refine SO.takeT rfl rfl rfl b2 ?_
        refine SO.v rfl (opv_fieldAddr Try.underlying44 rfl Try.sizeOf3 rfl rfl) ?_
        exact SO.nilZ fun a w h1 h2 h3 h4 h5 => PZ.of h1 h3 h5 (.cons () (.cons () (.cons () (.nil ⟨EnvAll.of h2 ⟨rfl, rfl, rfl, trivial⟩, h4⟩))))
      · rintro Fr _ _ _
        refine SO.takeT rfl rfl rfl b2 ?_
        refine SO.load1 rfl Try.isAgg3 rfl rfl ?_
        exact SO.nilZ fun a w h1 h2 h3 h4 h5 => PZ.of h1 h3 h5 (.cons () (.cons () (.cons () (.cons () (.nil ⟨EnvAll.of h2 ⟨rfl, rfl, rfl, trivial⟩, h4⟩)))))
      · rintro Fr _ _
        refine SO.takeT rfl rfl rfl b2 ?_
        refine SO.v rfl (opv_move rfl) ?_
        exact SO.nilZ fun a w h1 h2 h3 h4 h5 => PZ.of h1 h3 h5 (.cons () (.cons () (.cons () (.nil ⟨EnvAll.of h2 ⟨rfl, rfl, rfl, trivial⟩, h4⟩))))
      · rintro Fr _ _
        refine SO.takeT rfl rfl rfl b2 ?_
        refine SO.v rfl (opv_nilCheck rfl) ?_
        exact SO.nilZ fun a w h1 h2 h3 h4 h5 => PZ.of h1 h3 h5 (.cons () (.cons () (.cons () (.nil ⟨EnvAll.of h2 ⟨rfl, rfl, rfl, trivial⟩, h4⟩))))
      · rintro Fr _ _
        refine SO.takeT rfl rfl rfl b2 ?_
        refine SO.v rfl (opv_fieldAddr Try.underlying44 rfl Try.sizeOf41 rfl rfl) ?_
        exact SO.nilZ fun a w h1 h2 h3 h4 h5 => PZ.of h1 h3 h5 (.cons () (.cons () (.cons () (.nil ⟨EnvAll.of h2 ⟨rfl, rfl, rfl, trivial⟩, h4⟩))))
      · rintro Fr _ _ _
        refine SO.takeT rfl rfl rfl b2 ?_
        refine SO.load1 rfl Try.isAgg41 rfl rfl ?_
        exact SO.nilZ fun a w h1 h2 h3 h4 h5 => PZ.of h1 h3 h5 (.cons () (.cons () (.cons () (.cons () (.nil ⟨EnvAll.of h2 ⟨rfl, rfl, rfl, trivial⟩, h4⟩)))))
      · rintro Fr _ _ _
        refine SO.takeT rfl rfl rfl b2 ?_
        refine SO.v rfl (opv_lenR rfl Try.underlying41 hr1 rfl) ?_
        exact SO.nilZ fun a w h1 h2 h3 h4 h5 => PZ.of h1 h3 h5 (.cons () (.cons () (.cons () (.cons () (.nil ⟨EnvAll.of h2 ⟨rfl, rfl, rfl, trivial⟩, h4⟩)))))
      · rintro Fr _ _ _
        refine SO.takeT rfl rfl rfl b2 ?_
        refine SO.v rfl (opv_eql rfl rfl) ?_
        exact SO.nilZ fun a w h1 h2 h3 h4 h5 => PZ.of h1 h3 h5 (.cons () (.cons () (.cons () (.cons () (.nil ⟨EnvAll.of h2 ⟨rfl, rfl, rfl, rfl, trivial⟩, h4⟩)))))
      · rintro Fr _ _
        refine SO.v rfl (opv_pick_t' b2 rfl rfl) ?_
        exact SO.nilZ fun a w h1 h2 h3 h4 h5 => PZ.of h1 h3 h5 (.cons () (.cons () (.cons () (.nil ⟨EnvAll.of h2 ⟨rfl, rfl, rfl, trivial⟩, h4⟩))))
      · rintro Fr _
        refine SO.v rfl (opv_assign rfl) ?_
        exact SO.nilZ fun a w h1 h2 h3 h4 h5 => PZ.of h1 h3 h5 (.cons () (.cons () (.nil ⟨EnvAll.of h2 ⟨rfl, rfl, trivial⟩, h4⟩)))
      rintro _ _ _ _
      refine S.to (ρ' := [(2, .bool (a0.At == (a0.L.length : Int)))]) ⟨rfl, trivial⟩ ?_
      cases h
      refine S.b2 ?_
      refine S.b2 ?_
      refine S.b2 ?_
      refine S.to ?_ (hk1 () trivial)
      exact ⟨rfl, trivial⟩
    replace h := cond_f b2 h
    refine S.draw2 (Y := fun Q => ∃ (_ _ _ _ : Unit), Q [(0, bp bp0 0)] [Own 66 ek_ref07_Entry v0_L a0.L, Box bp0 [.int .i64 a0.Mark, v0_L, .int .i64 a0.Status, .int .i64 a0.At], F]) (Z := fun Q => ∀ (_ _ _ _ : Unit), Q [(2, .bool false)] [Own 66 ek_ref07_Entry v0_L a0.L, Box bp0 [.int .i64 a0.Mark, v0_L, .int .i64 a0.Status, .int .i64 a0.At], F]) (T := [tS 0 (bp bp0 0), tR (Own 66 ek_ref07_Entry v0_L a0.L), tR (Box bp0 [.int .i64 a0.Mark, v0_L, .int .i64 a0.Status, .int .i64 a0.At]), tR (F), tS 3 (bp bp0 0), tS 4 (bp bp0 0), tS 5 (bp bp0 2), tS 6 (.int .i64 a0.Status), tS 7 (.bool (decide (0 < a0.Status))), tS 8 (.bool (decide (0 < a0.Status))), tS 9 (undef), tS 10 (undef), tS 11 (undef), tS 12 (undef), tS 13 (undef), tS 14 (undef), tS 15 (undef), tS 16 (undef), tS 17 (undef), tS 18 (undef), tS 19 (.bool false), tS 2 (.bool false)]) (D := [⟨[0], [], [4]⟩, ⟨[4], [], [5]⟩, ⟨[5], [], [6]⟩, ⟨[6, 2], [], [7]⟩, ⟨[7], [], [8]⟩, ⟨[8], [], [9]⟩, ⟨[9], [], [10]⟩, ⟨[9], [], [11]⟩, ⟨[9], [], [12]⟩, ⟨[9], [], [13]⟩, ⟨[9], [], [14]⟩, ⟨[9], [], [15]⟩, ⟨[9], [], [16]⟩, ⟨[9], [], [17]⟩, ⟨[9], [], [18]⟩, ⟨[9], [], [19]⟩, ⟨[9, 19], [], [20]⟩, ⟨[20], [], [21]⟩]) (ini := [0, 1, 2, 3]) (fin := [21, 1, 2, 3]) (bf := [[], [0], [0, 1], [0, 1, 2], [0, 1, 2, 3], [0, 1, 2, 3, 4], [0, 1, 2, 3, 4, 5], [0, 1, 2, 3, 4, 5, 6], [0, 1, 2, 3, 4, 5, 6, 7], [0, 1, 2, 3, 4, 5, 6, 7, 8], [0, 1, 2, 3, 4, 5], [0, 1, 2, 3, 4, 5, 10], [0, 1, 2, 3, 4, 5, 10, 11], [0, 1, 2, 3, 4, 5, 10, 11, 12], [0, 1, 2, 3, 4, 5, 10, 11, 12, 13], [0, 1, 2, 3, 4, 5, 6, 7, 8, 9, 10, 11, 12, 13, 14], [0, 1, 2, 3, 4, 5, 6, 7, 8, 9, 10, 11, 12, 13, 14, 15], [0, 1, 2, 3, 4, 5, 6, 7, 8, 9, 10, 11, 12, 13, 14, 15, 16]]) (by kernel_rfl) (by kernel_rfl) (fun Q => by kernel_rfl) (fun x w h1 h2 => ⟨(), (), (), (), EnvAll.of h1 ⟨rfl, trivial⟩, h2⟩) (fun Q => by kernel_rfl) ⟨?_, ?_, ?_, ?_, ?_, ?_, ?_, ?_, ?_, ?_, ?_, ?_, ?_, ?_, ?_, ?_, ?_, ?_, trivial⟩ ?_
    · rintro Fr _
      refine SO.v rfl (opv_move rfl) ?_
      exact SO.nilZ fun a w h1 h2 h3 h4 h5 => PZ.of h1 h3 h5 (.cons () (.cons () (.nil ⟨EnvAll.of h2 ⟨rfl, rfl, trivial⟩, h4⟩)))
    · rintro Fr _
      refine SO.v rfl (opv_nilCheck rfl) ?_
      exact SO.nilZ fun a w h1 h2 h3 h4 h5 => PZ.of h1 h3 h5 (.cons () (.cons () (.nil ⟨EnvAll.of h2 ⟨rfl, rfl, trivial⟩, h4⟩)))
    · rintro Fr _
      refine SO.v rfl (opv_fieldAddr Try.underlying44 rfl Try.sizeOf3 rfl rfl) ?_
      exact SO.nilZ fun a w h1 h2 h3 h4 h5 => PZ.of h1 h3 h5 (.cons () (.cons () (.nil ⟨EnvAll.of h2 ⟨rfl, rfl, trivial⟩, h4⟩)))
    · rintro Fr _ _
      refine SO.load1 rfl Try.isAgg3 rfl rfl ?_
      exact SO.nilZ fun a w h1 h2 h3 h4 h5 => PZ.of h1 h3 h5 (.cons () (.cons () (.cons () (.nil ⟨EnvAll.of h2 ⟨rfl, rfl, trivial⟩, h4⟩))))
    · rintro Fr _
      refine SO.v rfl (opv_gtr rfl rfl) ?_
      exact SO.nilZ fun a w h1 h2 h3 h4 h5 => PZ.of h1 h3 h5 (.cons () (.cons () (.nil ⟨EnvAll.of h2 ⟨rfl, rfl, trivial⟩, h4⟩)))
    · rintro Fr _
      refine SO.v rfl (opv_move rfl) ?_
      exact SO.nilZ fun a w h1 h2 h3 h4 h5 => PZ.of h1 h3 h5 (.cons () (.cons () (.nil ⟨EnvAll.of h2 ⟨rfl, rfl, trivial⟩, h4⟩)))
    · rintro Fr _
      refine SO.passF rfl rfl rfl b2 rfl rfl ?_
      exact SO.nilZ fun a w h1 h2 h3 h4 h5 => PZ.of h1 h3 h5 (.cons () (.cons () (.nil ⟨EnvAll.of h2 ⟨rfl, rfl, trivial⟩, h4⟩)))
    · rintro Fr _
      refine SO.passF rfl rfl rfl b2 rfl rfl ?_
      exact SO.nilZ fun a w h1 h2 h3 h4 h5 => PZ.of h1 h3 h5 (.cons () (.cons () (.nil ⟨EnvAll.of h2 ⟨rfl, rfl, trivial⟩, h4⟩)))
    · rintro Fr _
      refine SO.passF rfl rfl rfl b2 rfl rfl ?_
      exact SO.nilZ fun a w h1 h2 h3 h4 h5 => PZ.of h1 h3 h5 (.cons () (.cons () (.nil ⟨EnvAll.of h2 ⟨rfl, rfl, trivial⟩, h4⟩)))
    · rintro Fr _
      refine SO.passF rfl rfl rfl b2 rfl rfl ?_
      exact SO.nilZ fun a w h1 h2 h3 h4 h5 => PZ.of h1 h3 h5 (.cons () (.cons () (.nil ⟨EnvAll.of h2 ⟨rfl, rfl, trivial⟩, h4⟩)))
    · rintro Fr _
      refine SO.passF rfl rfl rfl b2 rfl rfl ?_
      exact SO.nilZ fun a w h1 h2 h3 h4 h5 => PZ.of h1 h3 h5 (.cons () (.cons () (.nil ⟨EnvAll.of h2 ⟨rfl, rfl, trivial⟩, h4⟩)))
    · rintro Fr _
      refine SO.passF rfl rfl rfl b2 rfl rfl ?_
      exact SO.nilZ fun a w h1 h2 h3 h4 h5 => PZ.of h1 h3 h5 (.cons () (.cons () (.nil ⟨EnvAll.of h2 ⟨rfl, rfl, trivial⟩, h4⟩)))
    · rintro Fr _
      refine SO.passF rfl rfl rfl b2 rfl rfl ?_
      exact SO.nilZ fun a w h1 h2 h3 h4 h5 => PZ.of h1 h3 h5 (.cons () (.cons () (.nil ⟨EnvAll.of h2 ⟨rfl, rfl, trivial⟩, h4⟩)))
    · rintro Fr _
      refine SO.passF rfl rfl rfl b2 rfl rfl ?_
      exact SO.nilZ fun a w h1 h2 h3 h4 h5 => PZ.of h1 h3 h5 (.cons () (.cons () (.nil ⟨EnvAll.of h2 ⟨rfl, rfl, trivial⟩, h4⟩)))
    · rintro Fr _
      refine SO.passF rfl rfl rfl b2 rfl rfl ?_
      exact SO.nilZ fun a w h1 h2 h3 h4 h5 => PZ.of h1 h3 h5 (.cons () (.cons () (.nil ⟨EnvAll.of h2 ⟨rfl, rfl, trivial⟩, h4⟩)))
    · rintro Fr _
      refine SO.passF rfl rfl rfl b2 rfl rfl ?_
      exact SO.nilZ fun a w h1 h2 h3 h4 h5 => PZ.of h1 h3 h5 (.cons () (.cons () (.nil ⟨EnvAll.of h2 ⟨rfl, rfl, trivial⟩, h4⟩)))
    · rintro Fr _ _
      refine SO.v rfl (opv_pick_f' b2 rfl rfl) ?_
      exact SO.nilZ fun a w h1 h2 h3 h4 h5 => PZ.of h1 h3 h5 (.cons () (.cons () (.cons () (.nil ⟨EnvAll.of h2 ⟨rfl, rfl, rfl, trivial⟩, h4⟩))))
    · rintro Fr _
      refine SO.v rfl (opv_assign rfl) ?_
      exact SO.nilZ fun a w h1 h2 h3 h4 h5 => PZ.of h1 h3 h5 (.cons () (.cons () (.nil ⟨EnvAll.of h2 ⟨rfl, rfl, trivial⟩, h4⟩)))
    rintro _ _ _ _
    refine S.to (ρ' := [(2, .bool false)]) ⟨rfl, trivial⟩ ?_
    cases h
    refine S.b2 ?_
    refine S.b2 ?_
    refine S.b2 ?_
    refine S.to ?_ (hk1 () trivial)
    exact ⟨rfl, trivial⟩
  rintro _ -
  replace h := hJ1
  cases h
  refine S.b2 ?_
  refine S.b1 ?_
  refine S.b2 ?_
  exact S.ret1 Try.func13 rfl rfl (fun w hs hk => hR w _ _ ⟨rfl, rfl⟩ hs hk)
end Go.Proofs
namespace Go.Proofs
open Go.Sl Go.RowKit
/-! 32 (*padstone/padstoneref01.Store).has -/
def ref01_Store_has.f (a0 : ref01_Store) (a1 : Int) : Option (Bool) :=
  (bif decide (0 ≤ a1) then (some (decide (a1 < (a0.L.length : Int)))) else (some false)).bind fun c3 => some c3
set_option maxHeartbeats 8000000 in
set_option maxRecDepth 100000 in
theorem ref01_Store_has.ct (bp0 : Nat) (v0_L : Value) (a0 : ref01_Store) (a1 : Int) (r0 : Bool) (h : ref01_Store_has.f a0 a1 = some r0) :
    Ct Try.prog 32 [bp bp0 0, .int .i64 a1] (fun _ => True) [Box bp0 [v0_L, .int .u32 a0.Limit], Own 55 ek_api_Cell v0_L a0.L] (fun u H' => u = .bool r0 ∧ H' = [Box bp0 [v0_L, .int .u32 a0.Limit], Own 55 ek_api_Cell v0_L a0.L]) := by
  unfold ref01_Store_has.f at h
  refine Ct.intro (n := 16) Try.func32 rfl rfl rfl ?_
  intro R w0 F hF hR
  refine S.b1 ?_
  refine S.rd fun hr1 => ?_
  refine S.seq ?_
  refine S.region ?_
  refine SO.v rfl (opv_assign rfl) ?_
  refine SO.nil ?_
  refine S.seq ?_
  refine S.region ?_
  refine SO.v rfl (opv_move rfl) ?_
  refine SO.v rfl (opv_geq rfl rfl) ?_
  refine SO.v rfl (opv_move rfl) ?_
  obtain ⟨c3, hc4, hgk⟩ := opt_bind h
  refine SO.cut 8 15 (.bool c3) [Own 55 ek_api_Cell v0_L a0.L, Box bp0 [v0_L, .int .u32 a0.Limit], F] (fun l2 hk2 => ?_) ?_
  · clear hgk
    replace h := hc4
    rcases bool_or (decide (0 ≤ a1)) with b2 | b2
    · replace h := cond_t b2 h
      refine SO.takeT rfl rfl rfl b2 ?_
      refine SO.v rfl (opv_move rfl) ?_
      refine SO.takeT rfl rfl rfl b2 ?_
      refine SO.v rfl (opv_move rfl) ?_
      refine SO.takeT rfl rfl rfl b2 ?_
      refine SO.v rfl (opv_nilCheck rfl) ?_
      refine SO.takeT rfl rfl rfl b2 ?_
      refine SO.v rfl (opv_fieldAddr Try.underlying34 rfl Try.sizeOf32 rfl rfl) ?_
      refine SO.takeT rfl rfl rfl b2 ?_
      refine SO.b1 ?_
      refine SO.load1 rfl Try.isAgg32 rfl rfl ?_
      refine SO.takeT rfl rfl rfl b2 ?_
      refine SO.v rfl (opv_lenR rfl Try.underlying32 hr1 rfl) ?_
      refine SO.takeT rfl rfl rfl b2 ?_
      refine SO.v rfl (opv_lss rfl rfl) ?_
      cases h
      refine SO.v rfl (opv_pick_t' b2 rfl rfl) ?_
      refine SO.b2 ?_
      refine SO.b1 ?_
      refine SO.b2 ?_
      exact hk2.fitc (m := 8) rfl (rfl) rfl
    replace h := cond_f b2 h
    refine SO.passF rfl rfl rfl b2 rfl rfl ?_
    refine SO.passF rfl rfl rfl b2 rfl rfl ?_
    refine SO.passF rfl rfl rfl b2 rfl rfl ?_
    refine SO.passF rfl rfl rfl b2 rfl rfl ?_
    refine SO.passF rfl rfl rfl b2 rfl rfl ?_
    refine SO.passF rfl rfl rfl b2 rfl rfl ?_
    refine SO.passF rfl rfl rfl b2 rfl rfl ?_
    cases h
    refine SO.v rfl (opv_pick_f' b2 rfl rfl) ?_
    refine SO.b2 ?_
    refine SO.b2 ?_
    refine SO.b2 ?_
    exact hk2.fitc (m := 8) rfl (rfl) rfl
  clear hc4
  replace h := hgk
  refine SO.v rfl (opv_assign rfl) ?_
  refine SO.nil ?_
  cases h
  refine S.b2 ?_
  refine S.b1 ?_
  refine S.b2 ?_
  exact S.ret1 Try.func32 rfl rfl (fun w hs hk => hR w _ _ ⟨rfl, rfl⟩ hs hk)
end Go.Proofs
namespace Go.Proofs
open Go.Sl Go.RowKit
/-! 22 (*padstone/padstoneref01.Store).Put -/
def ref01_Store_Put.f (a0 : ref01_Store) (a1 : Int) (a2 : Int) (a3 : Int) : Option ((Int × ref01_Store)) :=
  (ref01_Store_has.f a0 a1).bind fun t2 => bif !t2 then (some (2, a0)) else ((bif decide (a2 < 1) then (some true) else ((at_ a0.L a1).bind fun x8 => some (x8.Mark != a2))).bind fun c6 => bif c6 then (some (12, a0)) else ((at_ a0.L a1).bind fun x11 => bif x11.Version == a0.Limit then (some (11, a0)) else ((at_ a0.L a1).bind fun x14 => (at_ (a0.L.set a1.toNat ({ x14 with Mark := 0 } : api_Cell)) a1).bind fun x17 => (at_ ((a0.L.set a1.toNat ({ x14 with Mark := 0 } : api_Cell)).set a1.toNat ({ x17 with Value := a3 } : api_Cell)) a1).bind fun x20 => (at_ ((a0.L.set a1.toNat ({ x14 with Mark := 0 } : api_Cell)).set a1.toNat ({ x17 with Value := a3 } : api_Cell)) a1).bind fun x22 => some (0, (⟨((a0.L.set a1.toNat ({ x14 with Mark := 0 } : api_Cell)).set a1.toNat ({ x17 with Value := a3 } : api_Cell)).set a1.toNat ({ x22 with Version := wu32 (x20.Version + 1) } : api_Cell), a0.Limit⟩ : ref01_Store)))))
set_option maxHeartbeats 8000000 in
set_option maxRecDepth 100000 in
theorem ref01_Store_Put.ct (bp0 : Nat) (v0_L : Value) (a0 : ref01_Store) (a1 : Int) (a2 : Int) (a3 : Int) (r0 : Int) (rp0 : ref01_Store) (h : ref01_Store_Put.f a0 a1 a2 a3 = some (r0, rp0)) :
    Ct Try.prog 22 [bp bp0 0, .int .i64 a1, .int .i64 a2, .int .u64 a3] (fun _ => True) [Box bp0 [v0_L, .int .u32 a0.Limit], Own 55 ek_api_Cell v0_L a0.L] (fun u H' => ∃ rw0_L, u = .int .i64 r0 ∧ H' = [Box bp0 [rw0_L, .int .u32 rp0.Limit], Own 55 ek_api_Cell rw0_L rp0.L]) := by
  unfold ref01_Store_Put.f at h
  refine Ct.intro (n := 73) Try.func22 rfl rfl rfl ?_
  intro R w0 F hF hR
  refine S.b1 ?_
  refine S.rd fun hr1 => ?_
  refine S.seq ?_
  refine S.region ?_
  refine SO.v rfl (opv_assign rfl) ?_
  refine SO.nil ?_
  refine S.seq ?_
  refine S.region ?_
  refine SO.v rfl (opv_move rfl) ?_
  refine SO.v rfl (opv_move rfl) ?_
  obtain ⟨t2, ht3, h⟩ := opt_bind h
  refine SO.b1 ?_
  refine SO.call (pre := [Box _ _, Own _ _ _ _]) rfl Try.call32 rfl rfl rfl (ref01_Store_has.ct bp0 v0_L _ _ _ ht3) trivial ?_
  rintro _ _ ⟨rfl, rfl⟩
  refine SO.v rfl (opv_assign rfl) ?_
  refine SO.nil ?_
  refine S.seq ?_
  refine S.seq ?_
  refine S.region ?_
  refine SO.v rfl (opv_move rfl) ?_
  refine SO.v rfl (opv_not rfl) ?_
  refine SO.nil ?_
  rcases bool_or (!t2) with b4 | b4
  · replace h := cond_t b4 h
    refine S.condT rfl b4 ?_
    refine S.seq ?_
    refine S.region ?_
    refine SO.v rfl (opv_assign rfl) ?_
    refine SO.nil ?_
    refine S.to (ρ' := [(8, .int .i64 2)]) ⟨rfl, trivial⟩ ?_
    cases h
    refine S.b2 ?_
    refine S.b2 ?_
    refine S.b2 ?_
    exact S.ret1 Try.func22 rfl rfl (fun w hs hk => hR w _ _ ⟨v0_L, rfl, rfl⟩ hs hk)
  replace h := cond_f b4 h
  refine S.condF rfl b4 ?_
  refine S.skip ?_
  refine S.seq ?_
  refine S.seq ?_
  refine S.region ?_
  refine SO.v rfl (opv_move rfl) ?_
  refine SO.v rfl (opv_lss rfl rfl) ?_
  refine SO.v rfl (opv_move rfl) ?_
  obtain ⟨c6, hc7, hgk⟩ := opt_bind h
  refine SO.cut 11 28 (.bool c6) [Box bp0 [v0_L, .int .u32 a0.Limit], Own 55 ek_api_Cell v0_L a0.L, F] (fun l2 hk2 => ?_) ?_
  · clear hgk
    replace h := hc7
    rcases bool_or (decide (a2 < 1)) with b5 | b5
    · replace h := cond_t b5 h
      refine SO.passF rfl rfl rfl b5 rfl rfl ?_
      refine SO.passF rfl rfl rfl b5 rfl rfl ?_
      refine SO.passF rfl rfl rfl b5 rfl rfl ?_
      refine SO.passF rfl rfl rfl b5 rfl rfl ?_
      refine SO.passF rfl rfl rfl b5 rfl rfl ?_
      refine SO.passF rfl rfl rfl b5 rfl rfl ?_
      refine SO.passF rfl rfl rfl b5 rfl rfl ?_
      refine SO.passF rfl rfl rfl b5 rfl rfl ?_
      refine SO.passF rfl rfl rfl b5 rfl rfl ?_
      refine SO.passF rfl rfl rfl b5 rfl rfl ?_
      cases h
      refine SO.v rfl (opv_pick_t' b5 rfl rfl) ?_
      refine SO.b2 ?_
      refine SO.b2 ?_
      refine SO.b2 ?_
      exact hk2.fitc (m := 11) rfl (rfl) rfl
    replace h := cond_f b5 h
    refine SO.takeT rfl rfl rfl b5 ?_
    refine SO.v rfl (opv_move rfl) ?_
    refine SO.takeT rfl rfl rfl b5 ?_
    refine SO.v rfl (opv_nilCheck rfl) ?_
    refine SO.takeT rfl rfl rfl b5 ?_
    refine SO.v rfl (opv_fieldAddr Try.underlying34 rfl Try.sizeOf32 rfl rfl) ?_
    refine SO.takeT rfl rfl rfl b5 ?_
    refine SO.load1 rfl Try.isAgg32 rfl rfl ?_
    refine SO.takeT rfl rfl rfl b5 ?_
    refine SO.v rfl (opv_move rfl) ?_
    refine SO.takeT rfl rfl rfl b5 ?_
    obtain ⟨x8, hx9, h⟩ := opt_bind h
    refine SO.v rfl (opv_idx Try.underlying32 Try.sizeOf55 hr1 rfl rfl hx9) ?_
    refine SO.takeT rfl rfl rfl b5 ?_
    refine SO.v rfl (opv_fieldIdx Try.underlying55 rfl Try.sizeOf3 hr1 hx9 rfl rfl) ?_
    refine SO.takeT rfl rfl rfl b5 ?_
    refine SO.loadI1 (j := 2) rfl Try.isAgg3 (Rd.tail (Rd.head hr1)) hx9 rfl rfl rfl rfl ?_
    refine SO.takeT rfl rfl rfl b5 ?_
    refine SO.v rfl (opv_move rfl) ?_
    refine SO.takeT rfl rfl rfl b5 ?_
    refine SO.v rfl (opv_neq rfl rfl) ?_
    cases h
    refine SO.v rfl (opv_pick_f' b5 rfl rfl) ?_
    refine SO.b2 ?_
    refine SO.b2 ?_
    refine SO.b2 ?_
    exact hk2.fitc (m := 11) rfl (rfl) rfl
  clear hc7
  replace h := hgk
  refine SO.nil ?_
  refine S.to (ρ' := [(0, bp bp0 0), (1, .int .i64 a1), (3, .int .u64 a3), (8, .int .i64 0), (28, .bool c6)]) ⟨rfl, rfl, rfl, rfl, rfl, trivial⟩ ?_
  rcases bool_or c6 with b10 | b10
  · replace h := cond_t b10 h
    refine S.condT rfl b10 ?_
    refine S.seq ?_
    refine S.region ?_
    refine SO.v rfl (opv_assign rfl) ?_
    refine SO.nil ?_
    cases h
    refine S.b2 ?_
    refine S.b2 ?_
    refine S.b2 ?_
    exact S.ret1 Try.func22 rfl rfl (fun w hs hk => hR w _ _ ⟨v0_L, rfl, rfl⟩ hs hk)
  replace h := cond_f b10 h
  refine S.condF rfl b10 ?_
  refine S.skip ?_
  refine S.seq ?_
  refine S.seq ?_
  obtain ⟨x11, hx12, h⟩ := opt_bind h
  refine S.draw2 (Y := fun Q => ∃ (_ _ _ _ _ _ : Unit), Q [(0, bp bp0 0), (1, .int .i64 a1), (3, .int .u64 a3), (8, .int .i64 0)] [Box bp0 [v0_L, .int .u32 a0.Limit], Own 55 ek_api_Cell v0_L a0.L, F]) (Z := fun Q => ∀ (_ _ _ _ _ _ _ : Unit), Q [(0, bp bp0 0), (1, .int .i64 a1), (3, .int .u64 a3), (8, .int .i64 0), (41, .bool (x11.Version == a0.Limit))] [Box bp0 [v0_L, .int .u32 a0.Limit], Own 55 ek_api_Cell v0_L a0.L, F]) (T := [tS 0 (bp bp0 0), tS 1 (.int .i64 a1), tE [(3, .int .u64 a3), (8, .int .i64 0)], tR (Box bp0 [v0_L, .int .u32 a0.Limit]), tR (Own 55 ek_api_Cell v0_L a0.L), tR (F), tS 29 (bp bp0 0), tS 30 (bp bp0 0), tS 31 (bp bp0 0), tS 32 (v0_L), tS 33 (.int .i64 a1), tS 34 (idxp v0_L (a1.toNat * ek_api_Cell.sz)), tS 35 (idxp v0_L (a1.toNat * ek_api_Cell.sz + 1)), tS 36 (.int .u32 x11.Version), tS 37 (bp bp0 0), tS 38 (bp bp0 0), tS 39 (bp bp0 1), tS 40 (.int .u32 a0.Limit), tS 41 (.bool (x11.Version == a0.Limit))]) (D := [⟨[0], [], [6]⟩, ⟨[6], [], [7]⟩, ⟨[7], [], [8]⟩, ⟨[8, 3], [], [9]⟩, ⟨[1], [], [10]⟩, ⟨[9, 10, 4], [], [11]⟩, ⟨[11, 4], [], [12]⟩, ⟨[12, 4], [], [13]⟩, ⟨[0], [], [14]⟩, ⟨[14], [], [15]⟩, ⟨[15], [], [16]⟩, ⟨[16, 3], [], [17]⟩, ⟨[13, 17], [], [18]⟩]) (ini := [0, 1, 2, 3, 4, 5]) (fin := [0, 1, 2, 18, 3, 4, 5]) (bf := [[], [0], [0, 1], [0, 1, 2], [], [0, 1, 2, 3, 4], [0, 1, 2, 3, 4, 5], [0, 1, 2, 3, 4, 5, 6], [], [8], [8, 9], [8, 9, 10], [0, 1, 2, 3, 4, 5, 6, 7, 8, 9, 10, 11]]) (by kernel_rfl) (by kernel_rfl) (fun Q => by kernel_rfl) (fun x w h1 h2 => ⟨(), (), (), (), (), (), EnvAll.of h1 ⟨rfl, rfl, rfl, rfl, trivial⟩, h2⟩) (fun Q => by kernel_rfl) ⟨?_, ?_, ?_, ?_, ?_, ?_, ?_, ?_, ?_, ?_, ?_, ?_, ?_, trivial⟩ ?_
  · rintro Fr _
    refine SO.v rfl (opv_move rfl) ?_
    exact SO.nilZ fun a w h1 h2 h3 h4 h5 => PZ.of h1 h3 h5 (.cons () (.cons () (.nil ⟨EnvAll.of h2 ⟨rfl, rfl, trivial⟩, h4⟩)))
  · rintro Fr _
    refine SO.v rfl (opv_nilCheck rfl) ?_
    exact SO.nilZ fun a w h1 h2 h3 h4 h5 => PZ.of h1 h3 h5 (.cons () (.cons () (.nil ⟨EnvAll.of h2 ⟨rfl, rfl, trivial⟩, h4⟩)))
  · rintro Fr _
    refine SO.v rfl (opv_fieldAddr Try.underlying34 rfl Try.sizeOf32 rfl rfl) ?_
    exact SO.nilZ fun a w h1 h2 h3 h4 h5 => PZ.of h1 h3 h5 (.cons () (.cons () (.nil ⟨EnvAll.of h2 ⟨rfl, rfl, trivial⟩, h4⟩)))
  · rintro Fr _ _
    refine SO.load1 rfl Try.isAgg32 rfl rfl ?_
    exact SO.nilZ fun a w h1 h2 h3 h4 h5 => PZ.of h1 h3 h5 (.cons () (.cons () (.cons () (.nil ⟨EnvAll.of h2 ⟨rfl, rfl, trivial⟩, h4⟩))))
  · rintro Fr _
    refine SO.v rfl (opv_move rfl) ?_
    exact SO.nilZ fun a w h1 h2 h3 h4 h5 => PZ.of h1 h3 h5 (.cons () (.cons () (.nil ⟨EnvAll.of h2 ⟨rfl, rfl, trivial⟩, h4⟩)))
  · rintro Fr _ _ _
    refine SO.v rfl (opv_idx Try.underlying32 Try.sizeOf55 hr1 rfl rfl hx12) ?_
    exact SO.nilZ fun a w h1 h2 h3 h4 h5 => PZ.of h1 h3 h5 (.cons () (.cons () (.cons () (.cons () (.nil ⟨EnvAll.of h2 ⟨rfl, rfl, rfl, trivial⟩, h4⟩)))))
  · rintro Fr _ _
    refine SO.v rfl (opv_fieldIdx Try.underlying55 rfl Try.sizeOf22 hr1 hx12 rfl rfl) ?_
    exact SO.nilZ fun a w h1 h2 h3 h4 h5 => PZ.of h1 h3 h5 (.cons () (.cons () (.cons () (.nil ⟨EnvAll.of h2 ⟨rfl, rfl, trivial⟩, h4⟩))))
  · rintro Fr _ _
    refine SO.loadI1 (j := 1) rfl Try.isAgg22 (Rd.head hr1) hx12 rfl rfl rfl rfl ?_
    exact SO.nilZ fun a w h1 h2 h3 h4 h5 => PZ.of h1 h3 h5 (.cons () (.cons () (.cons () (.nil ⟨EnvAll.of h2 ⟨rfl, rfl, trivial⟩, h4⟩))))
  · rintro Fr _
    refine SO.v rfl (opv_move rfl) ?_
    exact SO.nilZ fun a w h1 h2 h3 h4 h5 => PZ.of h1 h3 h5 (.cons () (.cons () (.nil ⟨EnvAll.of h2 ⟨rfl, rfl, trivial⟩, h4⟩)))
  · rintro Fr _
    refine SO.v rfl (opv_nilCheck rfl) ?_
    exact SO.nilZ fun a w h1 h2 h3 h4 h5 => PZ.of h1 h3 h5 (.cons () (.cons () (.nil ⟨EnvAll.of h2 ⟨rfl, rfl, trivial⟩, h4⟩)))
  · rintro Fr _
    refine SO.v rfl (opv_fieldAddr Try.underlying34 rfl Try.sizeOf22 rfl rfl) ?_
    exact SO.nilZ fun a w h1 h2 h3 h4 h5 => PZ.of h1 h3 h5 (.cons () (.cons () (.nil ⟨EnvAll.of h2 ⟨rfl, rfl, trivial⟩, h4⟩)))
  · rintro Fr _ _
    refine SO.load1 rfl Try.isAgg22 rfl rfl ?_
    exact SO.nilZ fun a w h1 h2 h3 h4 h5 => PZ.of h1 h3 h5 (.cons () (.cons () (.cons () (.nil ⟨EnvAll.of h2 ⟨rfl, rfl, trivial⟩, h4⟩))))
  · rintro Fr _ _
    refine SO.v rfl (opv_eql rfl rfl) ?_
    exact SO.nilZ fun a w h1 h2 h3 h4 h5 => PZ.of h1 h3 h5 (.cons () (.cons () (.cons () (.nil ⟨EnvAll.of h2 ⟨rfl, rfl, rfl, trivial⟩, h4⟩))))
  rintro _ _ _ _ _ _ _
  refine S.to (ρ' := [(0, bp bp0 0), (1, .int .i64 a1), (3, .int .u64 a3), (8, .int .i64 0), (41, .bool (x11.Version == a0.Limit))]) ⟨rfl, rfl, rfl, rfl, rfl, trivial⟩ ?_
  rcases bool_or (x11.Version == a0.Limit) with b13 | b13
  · replace h := cond_t b13 h
    refine S.condT rfl b13 ?_
    refine S.seq ?_
    refine S.region ?_
    refine SO.v rfl (opv_assign rfl) ?_
    refine SO.nil ?_
    cases h
    refine S.b2 ?_
    refine S.b2 ?_
    refine S.b2 ?_
    exact S.ret1 Try.func22 rfl rfl (fun w hs hk => hR w _ _ ⟨v0_L, rfl, rfl⟩ hs hk)
  replace h := cond_f b13 h
  refine S.condF rfl b13 ?_
  refine S.skip ?_
  refine S.seq ?_
  refine S.region ?_
  refine SO.v rfl (opv_move rfl) ?_
  refine SO.v rfl (opv_nilCheck rfl) ?_
  refine SO.v rfl (opv_fieldAddr Try.underlying34 rfl Try.sizeOf32 rfl rfl) ?_
  refine SO.load1 rfl Try.isAgg32 rfl rfl ?_
  refine SO.v rfl (opv_move rfl) ?_
  obtain ⟨x14, hx15, h⟩ := opt_bind h
  refine SO.v rfl (opv_idx Try.underlying32 Try.sizeOf55 hr1 rfl rfl hx15) ?_
  refine SO.v rfl (opv_fieldIdx Try.underlying55 rfl Try.sizeOf3 hr1 hx15 rfl rfl) ?_
  refine SO.b1 ?_
  refine SO.storeI1 (j := 2) (z' := ({ x14 with Mark := 0 } : api_Cell)) Try.sizeOf3 hx15 rfl rfl rfl rfl rfl rfl ?_
  refine SO.rd fun hr16 => ?_
  refine SO.nil ?_
  refine S.to (ρ' := [(0, bp bp0 0), (1, .int .i64 a1), (3, .int .u64 a3), (8, .int .i64 0)]) ⟨rfl, rfl, rfl, rfl, trivial⟩ ?_
  refine S.seq ?_
  refine S.region ?_
  refine SO.v rfl (opv_move rfl) ?_
  refine SO.v rfl (opv_nilCheck rfl) ?_
  refine SO.v rfl (opv_fieldAddr Try.underlying34 rfl Try.sizeOf32 rfl rfl) ?_
  refine SO.b1 ?_
  refine SO.load1 rfl Try.isAgg32 rfl rfl ?_
  refine SO.v rfl (opv_move rfl) ?_
  refine SO.v rfl (opv_move rfl) ?_
  obtain ⟨x17, hx18, h⟩ := opt_bind h
  refine SO.v rfl (opv_idx Try.underlying32 Try.sizeOf55 hr16 rfl rfl hx18) ?_
  refine SO.v rfl (opv_fieldIdx Try.underlying55 rfl Try.sizeOf51 hr16 hx18 rfl rfl) ?_
  refine SO.b1 ?_
  refine SO.storeI1 (j := 0) (z' := ({ x17 with Value := a3 } : api_Cell)) Try.sizeOf51 hx18 rfl rfl rfl rfl rfl rfl ?_
  refine SO.rd fun hr19 => ?_
  refine SO.nil ?_
  refine S.to (ρ' := [(0, bp bp0 0), (1, .int .i64 a1), (8, .int .i64 0)]) ⟨rfl, rfl, rfl, trivial⟩ ?_
  refine S.seq ?_
  obtain ⟨x20, hx21, h⟩ := opt_bind h
  obtain ⟨x22, hx23, h⟩ := opt_bind h
  refine S.draw2 (Y := fun Q => ∃ (_ _ _ _ _ _ : Unit), Q [(0, bp bp0 0), (1, .int .i64 a1), (8, .int .i64 0)] [Own 55 ek_api_Cell v0_L ((a0.L.set a1.toNat ({ x14 with Mark := 0 } : api_Cell)).set a1.toNat ({ x17 with Value := a3 } : api_Cell)), Box bp0 [v0_L, .int .u32 a0.Limit], F]) (Z := fun Q => ∀ (_ _ _ _ : Unit), Q [(8, .int .i64 0)] [Own 55 ek_api_Cell v0_L (((a0.L.set a1.toNat ({ x14 with Mark := 0 } : api_Cell)).set a1.toNat ({ x17 with Value := a3 } : api_Cell)).set a1.toNat ({ x22 with Version := wu32 (x20.Version + 1) } : api_Cell)), Box bp0 [v0_L, .int .u32 a0.Limit], F]) (T := [tS 0 (bp bp0 0), tS 1 (.int .i64 a1), tS 8 (.int .i64 0), tR (Own 55 ek_api_Cell v0_L ((a0.L.set a1.toNat ({ x14 with Mark := 0 } : api_Cell)).set a1.toNat ({ x17 with Value := a3 } : api_Cell))), tR (Box bp0 [v0_L, .int .u32 a0.Limit]), tR (F), tS 57 (bp bp0 0), tS 58 (bp bp0 0), tS 59 (bp bp0 0), tS 60 (v0_L), tS 61 (.int .i64 a1), tS 62 (bp bp0 0), tS 63 (bp bp0 0), tS 64 (bp bp0 0), tS 65 (v0_L), tS 66 (.int .i64 a1), tS 67 (idxp v0_L (a1.toNat * ek_api_Cell.sz)), tS 68 (idxp v0_L (a1.toNat * ek_api_Cell.sz + 1)), tS 69 (.int .u32 x20.Version), tS 70 (.int .u32 (wu32 (x20.Version + 1))), tS 71 (idxp v0_L (a1.toNat * ek_api_Cell.sz)), tS 72 (idxp v0_L (a1.toNat * ek_api_Cell.sz + 1)), tR (Own 55 ek_api_Cell v0_L (((a0.L.set a1.toNat ({ x14 with Mark := 0 } : api_Cell)).set a1.toNat ({ x17 with Value := a3 } : api_Cell)).set a1.toNat ({ x22 with Version := wu32 (x20.Version + 1) } : api_Cell)))]) (D := [⟨[0], [], [6]⟩, ⟨[6], [], [7]⟩, ⟨[7], [], [8]⟩, ⟨[8, 4], [], [9]⟩, ⟨[1], [], [10]⟩, ⟨[0], [], [11]⟩, ⟨[11], [], [12]⟩, ⟨[12], [], [13]⟩, ⟨[13, 4], [], [14]⟩, ⟨[1], [], [15]⟩, ⟨[14, 15, 3], [], [16]⟩, ⟨[16, 3], [], [17]⟩, ⟨[17, 3], [], [18]⟩, ⟨[18], [], [19]⟩, ⟨[9, 10, 3], [], [20]⟩, ⟨[20, 3], [], [21]⟩, ⟨[19, 21], [3], [22]⟩]) (ini := [0, 1, 2, 3, 4, 5]) (fin := [2, 22, 4, 5]) (bf := [[], [0], [0, 1], [0, 1, 2], [], [], [5], [5, 6], [5, 6, 7], [], [5, 6, 7, 8, 9], [5, 6, 7, 8, 9, 10], [5, 6, 7, 8, 9, 10, 11], [5, 6, 7, 8, 9, 10, 11, 12], [0, 1, 2, 3, 4, 5, 6, 7, 8, 9, 10, 11, 12, 13], [0, 1, 2, 3, 4, 5, 6, 7, 8, 9, 10, 11, 12, 13, 14], [0, 1, 2, 3, 4, 5, 6, 7, 8, 9, 10, 11, 12, 13, 14, 15]]) (by kernel_rfl) (by kernel_rfl) (fun Q => by kernel_rfl) (fun x w h1 h2 => ⟨(), (), (), (), (), (), EnvAll.of h1 ⟨rfl, rfl, rfl, trivial⟩, h2⟩) (fun Q => by kernel_rfl) ⟨?_, ?_, ?_, ?_, ?_, ?_, ?_, ?_, ?_, ?_, ?_, ?_, ?_, ?_, ?_, ?_, ?_, trivial⟩ ?_
  · rintro Fr _
    refine SO.v rfl (opv_move rfl) ?_
    exact SO.nilZ fun a w h1 h2 h3 h4 h5 => PZ.of h1 h3 h5 (.cons () (.cons () (.nil ⟨EnvAll.of h2 ⟨rfl, rfl, trivial⟩, h4⟩)))
  · rintro Fr _
    refine SO.v rfl (opv_nilCheck rfl) ?_
    exact SO.nilZ fun a w h1 h2 h3 h4 h5 => PZ.of h1 h3 h5 (.cons () (.cons () (.nil ⟨EnvAll.of h2 ⟨rfl, rfl, trivial⟩, h4⟩)))
  · rintro Fr _
    refine SO.v rfl (opv_fieldAddr Try.underlying34 rfl Try.sizeOf32 rfl rfl) ?_
    exact SO.nilZ fun a w h1 h2 h3 h4 h5 => PZ.of h1 h3 h5 (.cons () (.cons () (.nil ⟨EnvAll.of h2 ⟨rfl, rfl, trivial⟩, h4⟩)))
  · rintro Fr _ _
    refine SO.load1 rfl Try.isAgg32 rfl rfl ?_
    exact SO.nilZ fun a w h1 h2 h3 h4 h5 => PZ.of h1 h3 h5 (.cons () (.cons () (.cons () (.nil ⟨EnvAll.of h2 ⟨rfl, rfl, trivial⟩, h4⟩))))
  · rintro Fr _
    refine SO.v rfl (opv_move rfl) ?_
    exact SO.nilZ fun a w h1 h2 h3 h4 h5 => PZ.of h1 h3 h5 (.cons () (.cons () (.nil ⟨EnvAll.of h2 ⟨rfl, rfl, trivial⟩, h4⟩)))
  · rintro Fr _
    refine SO.v rfl (opv_move rfl) ?_
    exact SO.nilZ fun a w h1 h2 h3 h4 h5 => PZ.of h1 h3 h5 (.cons () (.cons () (.nil ⟨EnvAll.of h2 ⟨rfl, rfl, trivial⟩, h4⟩)))
  · rintro Fr _
    refine SO.v rfl (opv_nilCheck rfl) ?_
    exact SO.nilZ fun a w h1 h2 h3 h4 h5 => PZ.of h1 h3 h5 (.cons () (.cons () (.nil ⟨EnvAll.of h2 ⟨rfl, rfl, trivial⟩, h4⟩)))
  · rintro Fr _
    refine SO.v rfl (opv_fieldAddr Try.underlying34 rfl Try.sizeOf32 rfl rfl) ?_
    exact SO.nilZ fun a w h1 h2 h3 h4 h5 => PZ.of h1 h3 h5 (.cons () (.cons () (.nil ⟨EnvAll.of h2 ⟨rfl, rfl, trivial⟩, h4⟩)))
  · rintro Fr _ _
    refine SO.load1 rfl Try.isAgg32 rfl rfl ?_
    exact SO.nilZ fun a w h1 h2 h3 h4 h5 => PZ.of h1 h3 h5 (.cons () (.cons () (.cons () (.nil ⟨EnvAll.of h2 ⟨rfl, rfl, trivial⟩, h4⟩))))
  · rintro Fr _
    refine SO.v rfl (opv_move rfl) ?_
    exact SO.nilZ fun a w h1 h2 h3 h4 h5 => PZ.of h1 h3 h5 (.cons () (.cons () (.nil ⟨EnvAll.of h2 ⟨rfl, rfl, trivial⟩, h4⟩)))
  · rintro Fr _ _ _
    refine SO.v rfl (opv_idx Try.underlying32 Try.sizeOf55 hr19 rfl rfl hx21) ?_
    exact SO.nilZ fun a w h1 h2 h3 h4 h5 => PZ.of h1 h3 h5 (.cons () (.cons () (.cons () (.cons () (.nil ⟨EnvAll.of h2 ⟨rfl, rfl, rfl, trivial⟩, h4⟩)))))
  · rintro Fr _ _
    refine SO.v rfl (opv_fieldIdx Try.underlying55 rfl Try.sizeOf22 hr19 hx21 rfl rfl) ?_
    exact SO.nilZ fun a w h1 h2 h3 h4 h5 => PZ.of h1 h3 h5 (.cons () (.cons () (.cons () (.nil ⟨EnvAll.of h2 ⟨rfl, rfl, trivial⟩, h4⟩))))
  · rintro Fr _ _
    refine SO.loadI1 (j := 1) rfl Try.isAgg22 (Rd.head hr19) hx21 rfl rfl rfl rfl ?_
    exact SO.nilZ fun a w h1 h2 h3 h4 h5 => PZ.of h1 h3 h5 (.cons () (.cons () (.cons () (.nil ⟨EnvAll.of h2 ⟨rfl, rfl, trivial⟩, h4⟩))))
  · rintro Fr _
    refine SO.v rfl (opv_add rfl rfl) ?_
    exact SO.nilZ fun a w h1 h2 h3 h4 h5 => PZ.of h1 h3 h5 (.cons () (.cons () (.nil ⟨EnvAll.of h2 ⟨rfl, rfl, trivial⟩, h4⟩)))
  · rintro Fr _ _ _
    refine SO.v rfl (opv_idx Try.underlying32 Try.sizeOf55 hr19 rfl rfl hx23) ?_
    exact SO.nilZ fun a w h1 h2 h3 h4 h5 => PZ.of h1 h3 h5 (.cons () (.cons () (.cons () (.cons () (.nil ⟨EnvAll.of h2 ⟨rfl, rfl, rfl, trivial⟩, h4⟩)))))
  · rintro Fr _ _
    refine SO.v rfl (opv_fieldIdx Try.underlying55 rfl Try.sizeOf22 hr19 hx23 rfl rfl) ?_
    exact SO.nilZ fun a w h1 h2 h3 h4 h5 => PZ.of h1 h3 h5 (.cons () (.cons () (.cons () (.nil ⟨EnvAll.of h2 ⟨rfl, rfl, trivial⟩, h4⟩))))
  · rintro Fr _ _ _
    refine SO.storeI1 (j := 1) (z' := ({ x22 with Version := wu32 (x20.Version + 1) } : api_Cell)) Try.sizeOf22 hx23 rfl rfl rfl rfl rfl rfl ?_
    refine SO.rd fun hr24 => ?_
    exact SO.nilZ fun a w h1 h2 h3 h4 h5 => PZ.of h1 h3 h5 (.cons () (.cons () (.cons () (.nil ⟨EnvAll.of h2 ⟨rfl, rfl, trivial⟩, h4⟩))))
  rintro _ _ _ _
  refine S.to (ρ' := [(8, .int .i64 0)]) ⟨rfl, trivial⟩ ?_
  refine S.rd fun hr25 => ?_
  refine S.seq ?_
  refine S.region ?_
  refine SO.v rfl (opv_assign rfl) ?_
  refine SO.nil ?_
  cases h
  refine S.b2 ?_
  refine S.b1 ?_
  refine S.b2 ?_
  exact S.ret1 Try.func22 rfl rfl (fun w hs hk => hR w _ _ ⟨v0_L, rfl, rfl⟩ hs hk)
end Go.Proofs
namespace Go.Proofs
open Go.Sl Go.RowKit
/-! 23 (*padstone/padstoneref01.Store).Release -/
def ref01_Store_Release.f (a0 : ref01_Store) (a1 : Int) (a2 : Int) : Option ((Int × ref01_Store)) :=
  (ref01_Store_has.f a0 a1).bind fun t2 => bif !t2 then (some (2, a0)) else ((bif decide (a2 < 1) then (some true) else ((at_ a0.L a1).bind fun x8 => some (x8.Mark != a2))).bind fun c6 => bif c6 then (some (12, a0)) else ((at_ a0.L a1).bind fun x11 => some (0, (⟨a0.L.set a1.toNat ({ x11 with Mark := 0 } : api_Cell), a0.Limit⟩ : ref01_Store))))
set_option maxHeartbeats 8000000 in
set_option maxRecDepth 100000 in
theorem ref01_Store_Release.ct (bp0 : Nat) (v0_L : Value) (a0 : ref01_Store) (a1 : Int) (a2 : Int) (r0 : Int) (rp0 : ref01_Store) (h : ref01_Store_Release.f a0 a1 a2 = some (r0, rp0)) :
    Ct Try.prog 23 [bp bp0 0, .int .i64 a1, .int .i64 a2] (fun _ => True) [Box bp0 [v0_L, .int .u32 a0.Limit], Own 55 ek_api_Cell v0_L a0.L] (fun u H' => ∃ rw0_L, u = .int .i64 r0 ∧ H' = [Box bp0 [rw0_L, .int .u32 rp0.Limit], Own 55 ek_api_Cell rw0_L rp0.L]) := by
  unfold ref01_Store_Release.f at h
  refine Ct.intro (n := 34) Try.func23 rfl rfl rfl ?_
  intro R w0 F hF hR
  refine S.b1 ?_
  refine S.rd fun hr1 => ?_
  refine S.seq ?_
  refine S.region ?_
  refine SO.v rfl (opv_assign rfl) ?_
  refine SO.nil ?_
  refine S.seq ?_
  refine S.region ?_
  refine SO.v rfl (opv_move rfl) ?_
  refine SO.v rfl (opv_move rfl) ?_
  obtain ⟨t2, ht3, h⟩ := opt_bind h
  refine SO.b1 ?_
  refine SO.call (pre := [Box _ _, Own _ _ _ _]) rfl Try.call32 rfl rfl rfl (ref01_Store_has.ct bp0 v0_L _ _ _ ht3) trivial ?_
  rintro _ _ ⟨rfl, rfl⟩
  refine SO.v rfl (opv_assign rfl) ?_
  refine SO.nil ?_
  refine S.seq ?_
  refine S.seq ?_
  refine S.region ?_
  refine SO.v rfl (opv_move rfl) ?_
  refine SO.v rfl (opv_not rfl) ?_
  refine SO.nil ?_
  rcases bool_or (!t2) with b4 | b4
  · replace h := cond_t b4 h
    refine S.condT rfl b4 ?_
    refine S.seq ?_
    refine S.region ?_
    refine SO.v rfl (opv_assign rfl) ?_
    refine SO.nil ?_
    refine S.to (ρ' := [(6, .int .i64 2)]) ⟨rfl, trivial⟩ ?_
    cases h
    refine S.b2 ?_
    refine S.b2 ?_
    refine S.b2 ?_
    exact S.ret1 Try.func23 rfl rfl (fun w hs hk => hR w _ _ ⟨v0_L, rfl, rfl⟩ hs hk)
  replace h := cond_f b4 h
  refine S.condF rfl b4 ?_
  refine S.skip ?_
  refine S.seq ?_
  refine S.seq ?_
  refine S.region ?_
  refine SO.v rfl (opv_move rfl) ?_
  refine SO.v rfl (opv_lss rfl rfl) ?_
  refine SO.v rfl (opv_move rfl) ?_
  obtain ⟨c6, hc7, hgk⟩ := opt_bind h
  refine SO.cut 11 26 (.bool c6) [Box bp0 [v0_L, .int .u32 a0.Limit], Own 55 ek_api_Cell v0_L a0.L, F] (fun l2 hk2 => ?_) ?_
  · clear hgk
    replace h := hc7
    rcases bool_or (decide (a2 < 1)) with b5 | b5
    · replace h := cond_t b5 h
      refine SO.passF rfl rfl rfl b5 rfl rfl ?_
      refine SO.passF rfl rfl rfl b5 rfl rfl ?_
      refine SO.passF rfl rfl rfl b5 rfl rfl ?_
      refine SO.passF rfl rfl rfl b5 rfl rfl ?_
      refine SO.passF rfl rfl rfl b5 rfl rfl ?_
      refine SO.passF rfl rfl rfl b5 rfl rfl ?_
      refine SO.passF rfl rfl rfl b5 rfl rfl ?_
      refine SO.passF rfl rfl rfl b5 rfl rfl ?_
      refine SO.passF rfl rfl rfl b5 rfl rfl ?_
      refine SO.passF rfl rfl rfl b5 rfl rfl ?_
      cases h
      refine SO.v rfl (opv_pick_t' b5 rfl rfl) ?_
      refine SO.b2 ?_
      refine SO.b2 ?_
      refine SO.b2 ?_
      exact hk2.fitc (m := 11) rfl (rfl) rfl
    replace h := cond_f b5 h
    refine SO.takeT rfl rfl rfl b5 ?_
    refine SO.v rfl (opv_move rfl) ?_
    refine SO.takeT rfl rfl rfl b5 ?_
    refine SO.v rfl (opv_nilCheck rfl) ?_
    refine SO.takeT rfl rfl rfl b5 ?_
    refine SO.v rfl (opv_fieldAddr Try.underlying34 rfl Try.sizeOf32 rfl rfl) ?_
    refine SO.takeT rfl rfl rfl b5 ?_
    refine SO.load1 rfl Try.isAgg32 rfl rfl ?_
    refine SO.takeT rfl rfl rfl b5 ?_
    refine SO.v rfl (opv_move rfl) ?_
    refine SO.takeT rfl rfl rfl b5 ?_
    obtain ⟨x8, hx9, h⟩ := opt_bind h
    refine SO.v rfl (opv_idx Try.underlying32 Try.sizeOf55 hr1 rfl rfl hx9) ?_
    refine SO.takeT rfl rfl rfl b5 ?_
    refine SO.v rfl (opv_fieldIdx Try.underlying55 rfl Try.sizeOf3 hr1 hx9 rfl rfl) ?_
    refine SO.takeT rfl rfl rfl b5 ?_
    refine SO.loadI1 (j := 2) rfl Try.isAgg3 (Rd.tail (Rd.head hr1)) hx9 rfl rfl rfl rfl ?_
    refine SO.takeT rfl rfl rfl b5 ?_
    refine SO.v rfl (opv_move rfl) ?_
    refine SO.takeT rfl rfl rfl b5 ?_
    refine SO.v rfl (opv_neq rfl rfl) ?_
    cases h
    refine SO.v rfl (opv_pick_f' b5 rfl rfl) ?_
    refine SO.b2 ?_
    refine SO.b2 ?_
    refine SO.b2 ?_
    exact hk2.fitc (m := 11) rfl (rfl) rfl
  clear hc7
  replace h := hgk
  refine SO.nil ?_
  refine S.to (ρ' := [(0, bp bp0 0), (1, .int .i64 a1), (6, .int .i64 0), (26, .bool c6)]) ⟨rfl, rfl, rfl, rfl, trivial⟩ ?_
  rcases bool_or c6 with b10 | b10
  · replace h := cond_t b10 h
    refine S.condT rfl b10 ?_
    refine S.seq ?_
    refine S.region ?_
    refine SO.v rfl (opv_assign rfl) ?_
    refine SO.nil ?_
    cases h
    refine S.b2 ?_
    refine S.b2 ?_
    refine S.b2 ?_
    exact S.ret1 Try.func23 rfl rfl (fun w hs hk => hR w _ _ ⟨v0_L, rfl, rfl⟩ hs hk)
  replace h := cond_f b10 h
  refine S.condF rfl b10 ?_
  refine S.skip ?_
  refine S.seq ?_
  refine S.region ?_
  refine SO.v rfl (opv_move rfl) ?_
  refine SO.v rfl (opv_nilCheck rfl) ?_
  refine SO.v rfl (opv_fieldAddr Try.underlying34 rfl Try.sizeOf32 rfl rfl) ?_
  refine SO.load1 rfl Try.isAgg32 rfl rfl ?_
  refine SO.v rfl (opv_move rfl) ?_
  obtain ⟨x11, hx12, h⟩ := opt_bind h
  refine SO.v rfl (opv_idx Try.underlying32 Try.sizeOf55 hr1 rfl rfl hx12) ?_
  refine SO.v rfl (opv_fieldIdx Try.underlying55 rfl Try.sizeOf3 hr1 hx12 rfl rfl) ?_
  refine SO.b1 ?_
  refine SO.storeI1 (j := 2) (z' := ({ x11 with Mark := 0 } : api_Cell)) Try.sizeOf3 hx12 rfl rfl rfl rfl rfl rfl ?_
  refine SO.rd fun hr13 => ?_
  refine SO.nil ?_
  refine S.to (ρ' := [(6, .int .i64 0)]) ⟨rfl, trivial⟩ ?_
  refine S.seq ?_
  refine S.region ?_
  refine SO.v rfl (opv_assign rfl) ?_
  refine SO.nil ?_
  cases h
  refine S.b2 ?_
  refine S.b1 ?_
  refine S.b2 ?_
  exact S.ret1 Try.func23 rfl rfl (fun w hs hk => hR w _ _ ⟨v0_L, rfl, rfl⟩ hs hk)
end Go.Proofs
namespace Go.Proofs
open Go.Sl Go.RowKit
/-! 24 (*padstone/padstoneref01.Store).Reserve -/
def ref01_Store_Reserve.f (a0 : ref01_Store) (a1 : Int) (a2 : Int) (a3 : Int) : Option ((Int × ref01_Store)) :=
  (ref01_Store_has.f a0 a1).bind fun t2 => bif !t2 then (some (2, a0)) else (bif decide (a3 < 1) then (some (1, a0)) else ((at_ a0.L a1).bind fun x6 => bif (x6.Mark != 0) && (x6.Mark != a3) then (some (12, a0)) else (bif x6.Version != a2 then (some (10, a0)) else ((at_ a0.L a1).bind fun x12 => some (0, (⟨a0.L.set a1.toNat ({ x12 with Mark := a3 } : api_Cell), a0.Limit⟩ : ref01_Store))))))
set_option maxHeartbeats 8000000 in
set_option maxRecDepth 100000 in
theorem ref01_Store_Reserve.ct (bp0 : Nat) (v0_L : Value) (a0 : ref01_Store) (a1 : Int) (a2 : Int) (a3 : Int) (r0 : Int) (rp0 : ref01_Store) (h : ref01_Store_Reserve.f a0 a1 a2 a3 = some (r0, rp0)) :
    Ct Try.prog 24 [bp bp0 0, .int .i64 a1, .int .u32 a2, .int .i64 a3] (fun _ => True) [Box bp0 [v0_L, .int .u32 a0.Limit], Own 55 ek_api_Cell v0_L a0.L] (fun u H' => ∃ rw0_L, u = .int .i64 r0 ∧ H' = [Box bp0 [rw0_L, .int .u32 rp0.Limit], Own 55 ek_api_Cell rw0_L rp0.L]) := by
  unfold ref01_Store_Reserve.f at h
  refine Ct.intro (n := 46) Try.func24 rfl rfl rfl ?_
  intro R w0 F hF hR
  refine S.b1 ?_
  refine S.rd fun hr1 => ?_
  refine S.seq ?_
  refine S.region ?_
  refine SO.v rfl (opv_assign rfl) ?_
  refine SO.nil ?_
  refine S.seq ?_
  refine S.region ?_
  refine SO.v rfl (opv_move rfl) ?_
  refine SO.v rfl (opv_move rfl) ?_
  obtain ⟨t2, ht3, h⟩ := opt_bind h
  refine SO.b1 ?_
  refine SO.call (pre := [Box _ _, Own _ _ _ _]) rfl Try.call32 rfl rfl rfl (ref01_Store_has.ct bp0 v0_L _ _ _ ht3) trivial ?_
  rintro _ _ ⟨rfl, rfl⟩
  refine SO.v rfl (opv_assign rfl) ?_
  refine SO.nil ?_
  refine S.seq ?_
  refine S.seq ?_
  refine S.region ?_
  refine SO.v rfl (opv_move rfl) ?_
  refine SO.v rfl (opv_not rfl) ?_
  refine SO.nil ?_
  rcases bool_or (!t2) with b4 | b4
  · replace h := cond_t b4 h
    refine S.condT rfl b4 ?_
    refine S.seq ?_
    refine S.region ?_
    refine SO.v rfl (opv_assign rfl) ?_
    refine SO.nil ?_
    refine S.to (ρ' := [(8, .int .i64 2)]) ⟨rfl, trivial⟩ ?_
    cases h
    refine S.b2 ?_
    refine S.b2 ?_
    refine S.b2 ?_
    exact S.ret1 Try.func24 rfl rfl (fun w hs hk => hR w _ _ ⟨v0_L, rfl, rfl⟩ hs hk)
  replace h := cond_f b4 h
  refine S.condF rfl b4 ?_
  refine S.skip ?_
  refine S.seq ?_
  refine S.seq ?_
  refine S.region ?_
  refine SO.v rfl (opv_move rfl) ?_
  refine SO.v rfl (opv_lss rfl rfl) ?_
  refine SO.nil ?_
  refine S.to (ρ' := [(0, bp bp0 0), (1, .int .i64 a1), (2, .int .u32 a2), (3, .int .i64 a3), (8, .int .i64 0), (17, .bool (decide (a3 < 1)))]) ⟨rfl, rfl, rfl, rfl, rfl, rfl, trivial⟩ ?_
  rcases bool_or (decide (a3 < 1)) with b5 | b5
  · replace h := cond_t b5 h
    refine S.condT rfl b5 ?_
    refine S.seq ?_
    refine S.region ?_
    refine SO.v rfl (opv_assign rfl) ?_
    refine SO.nil ?_
    cases h
    refine S.b2 ?_
    refine S.b2 ?_
    refine S.b2 ?_
    exact S.ret1 Try.func24 rfl rfl (fun w hs hk => hR w _ _ ⟨v0_L, rfl, rfl⟩ hs hk)
  replace h := cond_f b5 h
  refine S.condF rfl b5 ?_
  refine S.skip ?_
  refine S.seq ?_
  refine S.region ?_
  refine SO.v rfl (opv_move rfl) ?_
  refine SO.v rfl (opv_nilCheck rfl) ?_
  refine SO.v rfl (opv_fieldAddr Try.underlying34 rfl Try.sizeOf32 rfl rfl) ?_
  refine SO.load1 rfl Try.isAgg32 rfl rfl ?_
  refine SO.v rfl (opv_move rfl) ?_
  obtain ⟨x6, hx7, h⟩ := opt_bind h
  refine SO.v rfl (opv_idx Try.underlying32 Try.sizeOf55 hr1 rfl rfl hx7) ?_
  refine SO.loadIN rfl Try.isAgg55 Try.sizeOf55 (Rd.tail (Rd.head hr1)) hx7 rfl rfl rfl ?_
  refine SO.alloc rfl Try.zeroValue55 rfl (fun b8 => ?_)
  refine SO.storeN Try.sizeOf55 rfl rfl rfl rfl rfl rfl ?_
  refine SO.nil ?_
  refine S.to (ρ' := [(0, bp bp0 0), (1, .int .i64 a1), (2, .int .u32 a2), (3, .int .i64 a3), (8, .int .i64 0), (10, bp b8 0)]) ⟨rfl, rfl, rfl, rfl, rfl, rfl, trivial⟩ ?_
  refine S.seq ?_
  refine S.seq ?_
  refine S.region ?_
  refine SO.v rfl (opv_fieldAddr Try.underlying55 rfl Try.sizeOf3 rfl rfl) ?_
  refine SO.load1 rfl Try.isAgg3 rfl rfl ?_
  refine SO.v rfl (opv_neq rfl rfl) ?_
  refine SO.v rfl (opv_move rfl) ?_
  refine SO.cut 5 33 (.bool ((x6.Mark != 0) && (x6.Mark != a3))) [Box b8 [.int .u64 x6.Value, .int .u32 x6.Version, .int .i64 x6.Mark], Box bp0 [v0_L, .int .u32 a0.Limit], Own 55 ek_api_Cell v0_L a0.L, F] (fun l2 hk2 => ?_) ?_
  · rcases bool_or (x6.Mark != 0) with b9 | b9
    · refine SO.takeT rfl rfl rfl b9 ?_
      refine SO.v rfl (opv_fieldAddr Try.underlying55 rfl Try.sizeOf3 rfl rfl) ?_
      refine SO.takeT rfl rfl rfl b9 ?_
      refine SO.load1 rfl Try.isAgg3 rfl rfl ?_
      refine SO.takeT rfl rfl rfl b9 ?_
      refine SO.v rfl (opv_move rfl) ?_
      refine SO.takeT rfl rfl rfl b9 ?_
      refine SO.v rfl (opv_neq rfl rfl) ?_
      refine SO.v rfl (opv_pick_t' b9 rfl rfl) ?_
      refine SO.b3 ?_
      refine SO.b3 ?_
      refine SO.b3 ?_
      refine SO.b3 ?_
      exact hk2.fitc (m := 5) rfl (and_t b9) rfl
    refine SO.passF rfl rfl rfl b9 rfl rfl ?_
    refine SO.passF rfl rfl rfl b9 rfl rfl ?_
    refine SO.passF rfl rfl rfl b9 rfl rfl ?_
    refine SO.passF rfl rfl rfl b9 rfl rfl ?_
    refine SO.v rfl (opv_pick_f' b9 rfl rfl) ?_
    refine SO.b3 ?_
    refine SO.b3 ?_
    refine SO.b3 ?_
    refine SO.b3 ?_
    exact hk2.fitc (m := 5) rfl (and_f b9) rfl
  refine SO.nil ?_
  rcases bool_or ((x6.Mark != 0) && (x6.Mark != a3)) with b10 | b10
  · replace h := cond_t b10 h
    refine S.condT rfl b10 ?_
    refine S.seq ?_
    refine S.region ?_
    refine SO.v rfl (opv_assign rfl) ?_
    refine SO.nil ?_
    refine S.to (ρ' := [(8, .int .i64 12)]) ⟨rfl, trivial⟩ ?_
    cases h
    refine S.drop ?_
    refine S.b2 ?_
    refine S.b2 ?_
    refine S.b2 ?_
    exact S.ret1 Try.func24 rfl rfl (fun w hs hk => hR w _ _ ⟨v0_L, rfl, rfl⟩ hs hk)
  replace h := cond_f b10 h
  refine S.condF rfl b10 ?_
  refine S.skip ?_
  refine S.seq ?_
  refine S.seq ?_
  refine S.region ?_
  refine SO.v rfl (opv_fieldAddr Try.underlying55 rfl Try.sizeOf22 rfl rfl) ?_
  refine SO.load1 rfl Try.isAgg22 rfl rfl ?_
  refine SO.v rfl (opv_move rfl) ?_
  refine SO.v rfl (opv_neq rfl rfl) ?_
  refine SO.nil ?_
  refine S.to (ρ' := [(0, bp bp0 0), (1, .int .i64 a1), (3, .int .i64 a3), (8, .int .i64 0), (37, .bool (x6.Version != a2))]) ⟨rfl, rfl, rfl, rfl, rfl, trivial⟩ ?_
  rcases bool_or (x6.Version != a2) with b11 | b11
  · replace h := cond_t b11 h
    refine S.condT rfl b11 ?_
    refine S.seq ?_
    refine S.region ?_
    refine SO.v rfl (opv_assign rfl) ?_
    refine SO.nil ?_
    cases h
    refine S.drop ?_
    refine S.b2 ?_
    refine S.b2 ?_
    refine S.b2 ?_
    exact S.ret1 Try.func24 rfl rfl (fun w hs hk => hR w _ _ ⟨v0_L, rfl, rfl⟩ hs hk)
  replace h := cond_f b11 h
  refine S.condF rfl b11 ?_
  refine S.skip ?_
  refine S.seq ?_
  refine S.region ?_
  refine SO.v rfl (opv_move rfl) ?_
  refine SO.v rfl (opv_nilCheck rfl) ?_
  refine SO.v rfl (opv_fieldAddr Try.underlying34 rfl Try.sizeOf32 rfl rfl) ?_
  refine SO.b1 ?_
  refine SO.load1 rfl Try.isAgg32 rfl rfl ?_
  refine SO.v rfl (opv_move rfl) ?_
  refine SO.v rfl (opv_move rfl) ?_
  obtain ⟨x12, hx13, h⟩ := opt_bind h
  refine SO.v rfl (opv_idx Try.underlying32 Try.sizeOf55 hr1 rfl rfl hx13) ?_
  refine SO.v rfl (opv_fieldIdx Try.underlying55 rfl Try.sizeOf3 hr1 hx13 rfl rfl) ?_
  refine SO.b2 ?_
  refine SO.storeI1 (j := 2) (z' := ({ x12 with Mark := a3 } : api_Cell)) Try.sizeOf3 hx13 rfl rfl rfl rfl rfl rfl ?_
  refine SO.rd fun hr14 => ?_
  refine SO.nil ?_
  refine S.to (ρ' := [(8, .int .i64 0)]) ⟨rfl, trivial⟩ ?_
  refine S.seq ?_
  refine S.region ?_
  refine SO.v rfl (opv_assign rfl) ?_
  refine SO.nil ?_
  cases h
  refine S.b2 ?_
  refine S.drop ?_
  refine S.b2 ?_
  refine S.b1 ?_
  refine S.b2 ?_
  exact S.ret1 Try.func24 rfl rfl (fun w hs hk => hR w _ _ ⟨v0_L, rfl, rfl⟩ hs hk)
end Go.Proofs
