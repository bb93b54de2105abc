/- What the functions that UntypedPlays reaches come to, and that they do. On no condition. -/
import Derived.Test.YtklkbgacjegplaaFnUntypedPlays0
import Derived.Test.YtklkbgacjegplaaFnUntypedPlays1
import Derived.Test.YtklkbgacjegplaaFnUntypedPlays2
set_option linter.all false
namespace Go.Proofs
open Go.Sl Go.RowKit
/-! 9 padstone/cspace.Fine -/
def cspace_Fine.f (a1 : api_Cap) : VM (Bool) :=
  (bif a1.Kind != 2 then (VM.ret true) else ((lay_Is.f a1.Obj 2).bind fun t5 => VM.ret (!t5))).bind fun c3 => bif c3 then (VM.ret false) else ((lay_Field.f a1.Obj 2).bind fun t10 => (bif decide (t10 ≤ 5) then ((lay_Field.f a1.Obj 1).bind fun t14 => (VM.opt (chk (decide (0 ≤ t10)))).bind fun _ => VM.ret (decide (t14 ≤ (w64 (96 - (bshl .i64 1 t10)))))) else (VM.ret false)).bind fun j4_1 => VM.ret j4_1)
set_option maxHeartbeats 8000000 in
set_option maxRecDepth 100000 in
theorem cspace_Fine.ct (V : VW Try.prog) (a1 : api_Cap) (r0 : Bool) (s s' : V.S) (h : VM.run V.toVI (cspace_Fine.f a1) s = some (r0, s')) :
    Ct Try.prog 9 [V.val, .agg #[.int .i64 a1.Kind, .int .i64 a1.Rights, .int .i64 a1.Obj, .int .i64 a1.Badge, .int .i64 a1.Guard, .int .i64 a1.Bits]] (fun _ => True) [V.rep s] (fun u H' => u = .bool r0 ∧ H' = [V.rep s']) := by
  unfold cspace_Fine.f at h
  refine Ct.intro (n := 32) Try.func9 rfl rfl rfl ?_
  intro R w0 F hF hR
  refine S.seq ?_
  refine S.region ?_
  refine SO.box rfl rfl rfl (fun b1 => ?_)
  refine SO.v rfl (opv_assign rfl) ?_
  refine SO.nil ?_
  refine S.seq ?_
  refine S.seq ?_
  refine S.region ?_
  refine SO.v rfl (opv_fieldAddr Try.underlying24 rfl Try.sizeOf3 rfl rfl) ?_
  refine SO.load1 rfl Try.isAgg3 rfl rfl ?_
  refine SO.v rfl (opv_neq rfl rfl) ?_
  refine SO.v rfl (opv_move rfl) ?_
  obtain ⟨c3, s8, hc4, hgk⟩ := VM.bind_some V.toVI h
  refine SO.cut 6 15 (.bool c3) [Box b1 [.int .i64 a1.Kind, .int .i64 a1.Rights, .int .i64 a1.Obj, .int .i64 a1.Badge, .int .i64 a1.Guard, .int .i64 a1.Bits], V.rep s8, F] (fun l2 hk2 => ?_) ?_
  · clear hgk
    replace h := hc4
    rcases bool_or (a1.Kind != 2) with b2 | b2
    · replace h := VM.cond_t V.toVI b2 h
      refine SO.passF rfl rfl rfl b2 rfl rfl ?_
      refine SO.passF rfl rfl rfl b2 rfl rfl ?_
      refine SO.passF rfl rfl rfl b2 rfl rfl ?_
      refine SO.passF rfl rfl rfl b2 rfl rfl ?_
      refine SO.passF rfl rfl rfl b2 rfl rfl ?_
      obtain ⟨hq, rfl⟩ := VM.ret_some V.toVI h
      cases hq
      refine SO.v rfl (opv_pick_t' b2 rfl rfl) ?_
      refine SO.b2 ?_
      refine SO.b2 ?_
      refine SO.b2 ?_
      exact hk2.fitc (m := 6) rfl (rfl) rfl
    · replace h := VM.cond_f V.toVI b2 h
      refine SO.takeT rfl rfl rfl b2 ?_
      refine SO.v rfl (opv_move rfl) ?_
      refine SO.takeT rfl rfl rfl b2 ?_
      refine SO.v rfl (opv_fieldAddr Try.underlying24 rfl Try.sizeOf3 rfl rfl) ?_
      refine SO.takeT rfl rfl rfl b2 ?_
      refine SO.load1 rfl Try.isAgg3 rfl rfl ?_
      refine SO.takeT rfl rfl rfl b2 ?_
      obtain ⟨t5, s7, ht6, h⟩ := VM.bind_some V.toVI h
      refine SO.b1 ?_
      refine SO.call (pre := [V.rep _]) rfl Try.call25 rfl rfl rfl (lay_Is.ct V _ _ _ _ _ ht6) trivial ?_
      rintro _ _ ⟨rfl, rfl⟩
      refine SO.takeT rfl rfl rfl b2 ?_
      refine SO.v rfl (opv_not rfl) ?_
      obtain ⟨hq, rfl⟩ := VM.ret_some V.toVI h
      cases hq
      refine SO.v rfl (opv_pick_f' b2 rfl rfl) ?_
      refine SO.b2 ?_
      refine SO.b1 ?_
      refine SO.b2 ?_
      exact hk2.fitc (m := 6) rfl (rfl) rfl
  clear hc4
  replace h := hgk
  refine SO.nil ?_
  rcases bool_or c3 with b9 | b9
  · replace h := VM.cond_t V.toVI b9 h
    refine S.condT rfl b9 ?_
    refine S.seq ?_
    refine S.region ?_
    refine SO.v rfl (opv_assign rfl) ?_
    refine SO.nil ?_
    refine S.to (ρ' := [(4, .bool false)]) ⟨rfl, trivial⟩ ?_
    obtain ⟨hq, rfl⟩ := VM.ret_some V.toVI h
    cases hq
    refine S.drop ?_
    refine S.b1 ?_
    refine S.b1 ?_
    exact S.ret1 Try.func9 rfl rfl (fun w hs hk => hR w _ _ ⟨rfl, rfl⟩ hs hk)
  · replace h := VM.cond_f V.toVI b9 h
    refine S.condF rfl b9 ?_
    refine S.skip ?_
    refine S.seq ?_
    refine S.region ?_
    refine SO.v rfl (opv_move rfl) ?_
    refine SO.v rfl (opv_fieldAddr Try.underlying24 rfl Try.sizeOf3 rfl rfl) ?_
    refine SO.load1 rfl Try.isAgg3 rfl rfl ?_
    obtain ⟨t10, s12, ht11, h⟩ := VM.bind_some V.toVI h
    refine SO.b1 ?_
    refine SO.call (pre := [V.rep _]) rfl Try.call24 rfl rfl rfl (lay_Field.ct V _ _ _ _ _ ht11) trivial ?_
    rintro _ _ ⟨rfl, rfl⟩
    refine SO.v rfl (opv_assign rfl) ?_
    refine SO.nil ?_
    refine S.to (ρ' := [(0, V.val), (3, bp b1 0), (4, .bool false), (5, .int .i64 t10)]) ⟨rfl, rfl, rfl, rfl, trivial⟩ ?_
    refine S.seq ?_
    obtain ⟨j4_1, s_1, hC1, hJ1⟩ := VM.bind_some V.toVI h
    clear h
    refine S.cutP (G := Unit) (fun _ => True) (fun _ => [(4, .bool j4_1)]) (fun _ => [V.rep s_1, Box b1 [.int .i64 a1.Kind, .int .i64 a1.Rights, .int .i64 a1.Obj, .int .i64 a1.Badge, .int .i64 a1.Guard, .int .i64 a1.Bits], F]) (fun hk1 => ?_) ?_
    · replace h := hC1
      rcases bool_or (decide (t10 ≤ 5)) with b13 | b13
      · replace h := VM.cond_t V.toVI b13 h
        obtain ⟨t14, s16, ht15, h⟩ := VM.bind_some V.toVI h
        obtain ⟨_, hc17, h⟩ := VM.opt_some V.toVI h
        refine S.draw' (Z := fun Q => ∀ (_ : Unit) (_ : Unit) (_ : Unit) (_ : Unit), Q [(4, .bool (decide (t14 ≤ (w64 (96 - (bshl .i64 1 t10))))))] [V.rep s16, Box b1 [.int .i64 a1.Kind, .int .i64 a1.Rights, .int .i64 a1.Obj, .int .i64 a1.Badge, .int .i64 a1.Guard, .int .i64 a1.Bits], F]) (T := [tS 5 (.int .i64 t10), tS 0 (V.val), tS 3 (bp b1 0), tR (V.rep s12), tR (Box b1 [.int .i64 a1.Kind, .int .i64 a1.Rights, .int .i64 a1.Obj, .int .i64 a1.Badge, .int .i64 a1.Guard, .int .i64 a1.Bits]), tR (F), tS 20 (.int .i64 t10), tS 21 (.bool (decide (t10 ≤ 5))), tS 22 (.bool (decide (t10 ≤ 5))), tS 23 (V.val), tS 24 (bp b1 2), tS 25 (.int .i64 a1.Obj), tR (V.rep s16), tS 26 (.int .i64 t14), tS 27 (.int .i64 t10), tS 28 (.int .i64 (bshl .i64 1 t10)), tS 29 (.int .i64 (w64 (96 - (bshl .i64 1 t10)))), tS 30 (.bool (decide (t14 ≤ (w64 (96 - (bshl .i64 1 t10)))))), tS 31 (.bool (decide (t14 ≤ (w64 (96 - (bshl .i64 1 t10)))))), tS 4 (.bool (decide (t14 ≤ (w64 (96 - (bshl .i64 1 t10))))))]) (D := [⟨[0], [], [6]⟩, ⟨[6], [], [7]⟩, ⟨[7], [], [8]⟩, ⟨[1, 8], [], [9]⟩, ⟨[2, 8], [], [10]⟩, ⟨[8, 10, 4], [], [11]⟩, ⟨[8, 9, 11], [3], [12, 13]⟩, ⟨[0, 8], [], [14]⟩, ⟨[8, 14], [], [15]⟩, ⟨[8, 15], [], [16]⟩, ⟨[8, 13, 16], [], [17]⟩, ⟨[8, 17], [], [18]⟩, ⟨[18], [], [19]⟩]) (ini := [0, 1, 2, 3, 4, 5]) (fin := [19, 12, 4, 5]) (bf := [[], [0], [0, 1], [0, 1, 2], [0, 1, 2], [0, 1, 2, 4], [0, 1, 2, 3, 4, 5], [0, 1, 2], [0, 1, 2, 7], [0, 1, 2, 7, 8], [0, 1, 2, 3, 4, 5, 6, 7, 8, 9], [0, 1, 2, 3, 4, 5, 6, 7, 8, 9, 10], [0, 1, 2, 3, 4, 5, 6, 7, 8, 9, 10, 11]]) (by kernel_rfl) (by kernel_rfl) (fun x w h1 h2 => (.cons () (.cons () (.cons () (.cons () (.cons () (.cons () (.nil ⟨EnvAll.of h1 ⟨rfl, rfl, rfl, trivial⟩, h2⟩)))))))) (fun Q => by kernel_rfl) ⟨?_, ?_, ?_, ?_, ?_, ?_, ?_, ?_, ?_, ?_, ?_, ?_, ?_, trivial⟩ ?_
        · rintro Fr _
          refine SO.v rfl (opv_move rfl) ?_
          exact SO.nilZ fun a w h1 h2 h3 h4 h5 => PZ.of h1 h3 h5 (.cons () (.cons () (.nil ⟨EnvAll.of h2 ⟨rfl, rfl, trivial⟩, h4⟩)))
        · rintro Fr _
          refine SO.v rfl (opv_leq rfl rfl) ?_
          exact SO.nilZ fun a w h1 h2 h3 h4 h5 => PZ.of h1 h3 h5 (.cons () (.cons () (.nil ⟨EnvAll.of h2 ⟨rfl, rfl, trivial⟩, h4⟩)))
        · rintro Fr _
          refine SO.v rfl (opv_move rfl) ?_
          exact SO.nilZ fun a w h1 h2 h3 h4 h5 => PZ.of h1 h3 h5 (.cons () (.cons () (.nil ⟨EnvAll.of h2 ⟨rfl, rfl, trivial⟩, h4⟩)))
        · rintro Fr _ _
          refine SO.takeT rfl rfl rfl b13 ?_
          refine SO.v rfl (opv_move rfl) ?_
          exact SO.nilZ fun a w h1 h2 h3 h4 h5 => PZ.of h1 h3 h5 (.cons () (.cons () (.cons () (.nil ⟨EnvAll.of h2 ⟨rfl, rfl, rfl, trivial⟩, h4⟩))))
        · rintro Fr _ _
          refine SO.takeT rfl rfl rfl b13 ?_
          refine SO.v rfl (opv_fieldAddr Try.underlying24 rfl Try.sizeOf3 rfl rfl) ?_
          exact SO.nilZ fun a w h1 h2 h3 h4 h5 => PZ.of h1 h3 h5 (.cons () (.cons () (.cons () (.nil ⟨EnvAll.of h2 ⟨rfl, rfl, rfl, trivial⟩, h4⟩))))
        · rintro Fr _ _ _
          refine SO.takeT rfl rfl rfl b13 ?_
          refine SO.load1 rfl Try.isAgg3 rfl rfl ?_
          exact SO.nilZ fun a w h1 h2 h3 h4 h5 => PZ.of h1 h3 h5 (.cons () (.cons () (.cons () (.cons () (.nil ⟨EnvAll.of h2 ⟨rfl, rfl, rfl, trivial⟩, h4⟩)))))
        · rintro Fr _ _ _ _
          refine SO.takeT rfl rfl rfl b13 ?_
          refine SO.call (pre := [V.rep _]) rfl Try.call24 rfl rfl rfl (lay_Field.ct V _ _ _ _ _ ht15) trivial ?_
          rintro _ _ ⟨rfl, rfl⟩
          exact SO.nilZ fun a w h1 h2 h3 h4 h5 => PZ.of h1 h3 h5 (.cons () (.cons () (.cons () (.cons () (.cons () (.nil ⟨EnvAll.of h2 ⟨rfl, rfl, rfl, rfl, trivial⟩, h4⟩))))))
        · rintro Fr _ _
          refine SO.takeT rfl rfl rfl b13 ?_
          refine SO.v rfl (opv_move rfl) ?_
          exact SO.nilZ fun a w h1 h2 h3 h4 h5 => PZ.of h1 h3 h5 (.cons () (.cons () (.cons () (.nil ⟨EnvAll.of h2 ⟨rfl, rfl, rfl, trivial⟩, h4⟩))))
        · rintro Fr _ _
          refine SO.takeT rfl rfl rfl b13 ?_
          refine SO.v rfl (opv_shl rfl rfl (of_decide_eq_true (chk_some hc17))) ?_
          exact SO.nilZ fun a w h1 h2 h3 h4 h5 => PZ.of h1 h3 h5 (.cons () (.cons () (.cons () (.nil ⟨EnvAll.of h2 ⟨rfl, rfl, rfl, trivial⟩, h4⟩))))
        · rintro Fr _ _
          refine SO.takeT rfl rfl rfl b13 ?_
          refine SO.v rfl (opv_sub rfl rfl) ?_
          exact SO.nilZ fun a w h1 h2 h3 h4 h5 => PZ.of h1 h3 h5 (.cons () (.cons () (.cons () (.nil ⟨EnvAll.of h2 ⟨rfl, rfl, rfl, trivial⟩, h4⟩))))
        · rintro Fr _ _ _
          refine SO.takeT rfl rfl rfl b13 ?_
          refine SO.v rfl (opv_leq rfl rfl) ?_
          exact SO.nilZ fun a w h1 h2 h3 h4 h5 => PZ.of h1 h3 h5 (.cons () (.cons () (.cons () (.cons () (.nil ⟨EnvAll.of h2 ⟨rfl, rfl, rfl, rfl, trivial⟩, h4⟩)))))
        · rintro Fr _ _
          refine SO.v rfl (opv_pick_t' b13 rfl rfl) ?_
          exact SO.nilZ fun a w h1 h2 h3 h4 h5 => PZ.of h1 h3 h5 (.cons () (.cons () (.cons () (.nil ⟨EnvAll.of h2 ⟨rfl, rfl, rfl, trivial⟩, h4⟩))))
        · rintro Fr _
          refine SO.v rfl (opv_assign rfl) ?_
          exact SO.nilZ fun a w h1 h2 h3 h4 h5 => PZ.of h1 h3 h5 (.cons () (.cons () (.nil ⟨EnvAll.of h2 ⟨rfl, rfl, trivial⟩, h4⟩)))
        rintro _ _ _ _
        refine S.to (ρ' := [(4, .bool (decide (t14 ≤ (w64 (96 - (bshl .i64 1 t10))))))]) ⟨rfl, trivial⟩ ?_
        obtain ⟨hq, rfl⟩ := VM.ret_some V.toVI h
        cases hq
        refine S.b2 ?_
        refine S.b2 ?_
        refine S.b2 ?_
        refine S.to ?_ (hk1 () trivial)
        exact ⟨rfl, trivial⟩
      · replace h := VM.cond_f V.toVI b13 h
        refine S.draw' (Z := fun Q => ∀ (_ : Unit) (_ : Unit) (_ : Unit) (_ : Unit), Q [(4, .bool false)] [V.rep s12, Box b1 [.int .i64 a1.Kind, .int .i64 a1.Rights, .int .i64 a1.Obj, .int .i64 a1.Badge, .int .i64 a1.Guard, .int .i64 a1.Bits], F]) (T := [tS 5 (.int .i64 t10), tS 0 (V.val), tS 3 (bp b1 0), tR (V.rep s12), tR (Box b1 [.int .i64 a1.Kind, .int .i64 a1.Rights, .int .i64 a1.Obj, .int .i64 a1.Badge, .int .i64 a1.Guard, .int .i64 a1.Bits]), tR (F), tS 20 (.int .i64 t10), tS 21 (.bool (decide (t10 ≤ 5))), tS 22 (.bool (decide (t10 ≤ 5))), tS 23 (undef), tS 24 (undef), tS 25 (undef), tS 26 (undef), tS 27 (undef), tS 28 (undef), tS 29 (undef), tS 30 (undef), tS 31 (.bool false), tS 4 (.bool false)]) (D := [⟨[0], [], [6]⟩, ⟨[6], [], [7]⟩, ⟨[7], [], [8]⟩, ⟨[8], [], [9]⟩, ⟨[8], [], [10]⟩, ⟨[8], [], [11]⟩, ⟨[8], [], [12]⟩, ⟨[8], [], [13]⟩, ⟨[8], [], [14]⟩, ⟨[8], [], [15]⟩, ⟨[8], [], [16]⟩, ⟨[8, 16], [], [17]⟩, ⟨[17], [], [18]⟩]) (ini := [0, 1, 2, 3, 4, 5]) (fin := [18, 3, 4, 5]) (bf := [[], [0], [0, 1], [0, 1, 2], [0, 1, 2], [0, 1, 2, 4], [0, 1, 2, 3, 4, 5], [0, 1, 2], [0, 1, 2, 7], [0, 1, 2, 7, 8], [0, 1, 2, 3, 4, 5, 6, 7, 8, 9], [0, 1, 2, 3, 4, 5, 6, 7, 8, 9, 10], [0, 1, 2, 3, 4, 5, 6, 7, 8, 9, 10, 11]]) (by kernel_rfl) (by kernel_rfl) (fun x w h1 h2 => (.cons () (.cons () (.cons () (.cons () (.cons () (.cons () (.nil ⟨EnvAll.of h1 ⟨rfl, rfl, rfl, trivial⟩, h2⟩)))))))) (fun Q => by kernel_rfl) ⟨?_, ?_, ?_, ?_, ?_, ?_, ?_, ?_, ?_, ?_, ?_, ?_, ?_, trivial⟩ ?_
        · rintro Fr _
          refine SO.v rfl (opv_move rfl) ?_
          exact SO.nilZ fun a w h1 h2 h3 h4 h5 => PZ.of h1 h3 h5 (.cons () (.cons () (.nil ⟨EnvAll.of h2 ⟨rfl, rfl, trivial⟩, h4⟩)))
        · rintro Fr _
          refine SO.v rfl (opv_leq rfl rfl) ?_
          exact SO.nilZ fun a w h1 h2 h3 h4 h5 => PZ.of h1 h3 h5 (.cons () (.cons () (.nil ⟨EnvAll.of h2 ⟨rfl, rfl, trivial⟩, h4⟩)))
        · rintro Fr _
          refine SO.v rfl (opv_move rfl) ?_
          exact SO.nilZ fun a w h1 h2 h3 h4 h5 => PZ.of h1 h3 h5 (.cons () (.cons () (.nil ⟨EnvAll.of h2 ⟨rfl, rfl, trivial⟩, h4⟩)))
        · rintro Fr _
          refine SO.passF rfl rfl rfl b13 rfl rfl ?_
          exact SO.nilZ fun a w h1 h2 h3 h4 h5 => PZ.of h1 h3 h5 (.cons () (.cons () (.nil ⟨EnvAll.of h2 ⟨rfl, rfl, trivial⟩, h4⟩)))
        · rintro Fr _
          refine SO.passF rfl rfl rfl b13 rfl rfl ?_
          exact SO.nilZ fun a w h1 h2 h3 h4 h5 => PZ.of h1 h3 h5 (.cons () (.cons () (.nil ⟨EnvAll.of h2 ⟨rfl, rfl, trivial⟩, h4⟩)))
        · rintro Fr _
          refine SO.passF rfl rfl rfl b13 rfl rfl ?_
          exact SO.nilZ fun a w h1 h2 h3 h4 h5 => PZ.of h1 h3 h5 (.cons () (.cons () (.nil ⟨EnvAll.of h2 ⟨rfl, rfl, trivial⟩, h4⟩)))
        · rintro Fr _
          refine SO.passF rfl rfl rfl b13 rfl rfl ?_
          exact SO.nilZ fun a w h1 h2 h3 h4 h5 => PZ.of h1 h3 h5 (.cons () (.cons () (.nil ⟨EnvAll.of h2 ⟨rfl, rfl, trivial⟩, h4⟩)))
        · rintro Fr _
          refine SO.passF rfl rfl rfl b13 rfl rfl ?_
          exact SO.nilZ fun a w h1 h2 h3 h4 h5 => PZ.of h1 h3 h5 (.cons () (.cons () (.nil ⟨EnvAll.of h2 ⟨rfl, rfl, trivial⟩, h4⟩)))
        · rintro Fr _
          refine SO.passF rfl rfl rfl b13 rfl rfl ?_
          exact SO.nilZ fun a w h1 h2 h3 h4 h5 => PZ.of h1 h3 h5 (.cons () (.cons () (.nil ⟨EnvAll.of h2 ⟨rfl, rfl, trivial⟩, h4⟩)))
        · rintro Fr _
          refine SO.passF rfl rfl rfl b13 rfl rfl ?_
          exact SO.nilZ fun a w h1 h2 h3 h4 h5 => PZ.of h1 h3 h5 (.cons () (.cons () (.nil ⟨EnvAll.of h2 ⟨rfl, rfl, trivial⟩, h4⟩)))
        · rintro Fr _
          refine SO.passF rfl rfl rfl b13 rfl rfl ?_
          exact SO.nilZ fun a w h1 h2 h3 h4 h5 => PZ.of h1 h3 h5 (.cons () (.cons () (.nil ⟨EnvAll.of h2 ⟨rfl, rfl, trivial⟩, h4⟩)))
        · rintro Fr _ _
          refine SO.v rfl (opv_pick_f' b13 rfl rfl) ?_
          exact SO.nilZ fun a w h1 h2 h3 h4 h5 => PZ.of h1 h3 h5 (.cons () (.cons () (.cons () (.nil ⟨EnvAll.of h2 ⟨rfl, rfl, rfl, trivial⟩, h4⟩))))
        · rintro Fr _
          refine SO.v rfl (opv_assign rfl) ?_
          exact SO.nilZ fun a w h1 h2 h3 h4 h5 => PZ.of h1 h3 h5 (.cons () (.cons () (.nil ⟨EnvAll.of h2 ⟨rfl, rfl, trivial⟩, h4⟩)))
        rintro _ _ _ _
        refine S.to (ρ' := [(4, .bool false)]) ⟨rfl, trivial⟩ ?_
        obtain ⟨hq, rfl⟩ := VM.ret_some V.toVI h
        cases hq
        refine S.b2 ?_
        refine S.b2 ?_
        refine S.b2 ?_
        refine S.to ?_ (hk1 () trivial)
        exact ⟨rfl, trivial⟩
    rintro _ -
    replace h := hJ1
    obtain ⟨hq, rfl⟩ := VM.ret_some V.toVI h
    cases hq
    refine S.b1 ?_
    refine S.drop ?_
    refine S.b1 ?_
    refine S.b1 ?_
    exact S.ret1 Try.func9 rfl rfl (fun w hs hk => hR w _ _ ⟨rfl, rfl⟩ hs hk)
end Go.Proofs
namespace Go.Proofs
open Go.Sl Go.RowKit
/-! 8 padstone/cspace.Lookup -/
def cspace_Lookup.l1 (a2 : Int) : Nat → (Int × Int × Int × Int × Int × Int × Int × Int) → VM (Brk (Int × (Option Int)) (Int × Int × Int × Int × Int × Int))
  | 0, _ => VM.fail
  | k + 1, (x27_1, x8_1, y1_0_1, y1_1_1, y1_2_1, y1_3_1, y1_4_1, y1_5_1) => bif decide (x27_1 < 16) then ((lay_Field.f y1_2_1 2).bind fun t9 => (VM.opt (guard_Walk.f a2 x8_1 y1_4_1 y1_5_1 t9)).bind fun (t12, t13, t14) => bif t14.isSome then (VM.ret (Brk.ret (0, t14))) else ((lay_Field.f y1_2_1 1).bind fun t17 => bif t13 == 0 then (VM.ret (Brk.ret (w64 (t17 + t12), none))) else ((cspace_Cap.f k (w64 (t17 + t12))).bind fun t21 => (cspace_Fine.f t21).bind fun t24 => bif !t24 then (VM.ret (Brk.nx (t21.Kind, t21.Rights, t21.Obj, t21.Badge, t21.Guard, t21.Bits))) else (cspace_Lookup.l1 a2 k (w64 (x27_1 + 1), t13, t21.Kind, t21.Rights, t21.Obj, t21.Badge, t21.Guard, t21.Bits))))) else (VM.ret (Brk.nx (y1_0_1, y1_1_1, y1_2_1, y1_3_1, y1_4_1, y1_5_1)))
def cspace_Lookup.f (k : Nat) (a1 : api_Cap) (a2 : Int) : VM ((Int × (Option Int))) :=
  bif (decide (a2 < 0)) || (decide (65536 ≤ a2)) then (VM.ret (0, (some 1))) else ((cspace_Fine.f a1).bind fun t4 => bif !t4 then (VM.ret (0, (some 5))) else ((cspace_Lookup.l1 a2 k (0, 16, a1.Kind, a1.Rights, a1.Obj, a1.Badge, a1.Guard, a1.Bits)).bind fun o1 => Brk.go o1 (fun r => VM.ret r) (fun (y1_0_e1, y1_1_e1, y1_2_e1, y1_3_e1, y1_4_e1, y1_5_e1) => VM.ret (0, (some 4)))))
set_option maxHeartbeats 8000000 in
set_option maxRecDepth 100000 in
theorem cspace_Lookup.ct (V : VW Try.prog) (k : Nat) (a1 : api_Cap) (a2 : Int) (r0 : Int) (r1 : Option Int) (s s' : V.S) (h : VM.run V.toVI (cspace_Lookup.f k a1 a2) s = some ((r0, r1), s')) :
    Ct Try.prog 8 [V.val, .agg #[.int .i64 a1.Kind, .int .i64 a1.Rights, .int .i64 a1.Obj, .int .i64 a1.Badge, .int .i64 a1.Guard, .int .i64 a1.Bits], .int .i64 a2] (fun _ => True) [V.rep s] (fun u H' => u = .tuple #[.int .i64 r0, errV 61 r1] ∧ H' = [V.rep s']) := by
  unfold cspace_Lookup.f at h
  refine Ct.intro (n := 66) Try.func8 rfl rfl rfl ?_
  intro R w0 F hF hR
  refine S.seq ?_
  refine S.region ?_
  refine SO.box rfl rfl rfl (fun b1 => ?_)
  refine SO.v rfl (opv_assign rfl) ?_
  refine SO.v rfl (opv_assign rfl) ?_
  refine SO.nil ?_
  refine S.seq ?_
  refine S.block ?_
  refine S.seq ?_
  refine S.region ?_
  refine SO.v rfl (opv_move rfl) ?_
  refine SO.v rfl (opv_lss rfl rfl) ?_
  refine SO.v rfl (opv_move rfl) ?_
  refine SO.cut 3 19 (.bool ((decide (a2 < 0)) || (decide (65536 ≤ a2)))) [Box b1 [.int .i64 a1.Kind, .int .i64 a1.Rights, .int .i64 a1.Obj, .int .i64 a1.Badge, .int .i64 a1.Guard, .int .i64 a1.Bits], V.rep s, F] (fun l2 hk2 => ?_) ?_
  · rcases bool_or (decide (a2 < 0)) with b2 | b2
    · refine SO.passF rfl rfl rfl b2 rfl rfl ?_
      refine SO.passF rfl rfl rfl b2 rfl rfl ?_
      refine SO.v rfl (opv_pick_t' b2 rfl rfl) ?_
      refine SO.b2 ?_
      refine SO.b2 ?_
      refine SO.b2 ?_
      exact hk2.fitc (m := 3) rfl (or_t b2) rfl
    · refine SO.takeT rfl rfl rfl b2 ?_
      refine SO.v rfl (opv_move rfl) ?_
      refine SO.takeT rfl rfl rfl b2 ?_
      refine SO.v rfl (opv_geq rfl rfl) ?_
      refine SO.v rfl (opv_pick_f' b2 rfl rfl) ?_
      refine SO.b2 ?_
      refine SO.b2 ?_
      refine SO.b2 ?_
      exact hk2.fitc (m := 3) rfl (or_f b2) rfl
  refine SO.v rfl (opv_assign rfl) ?_
  refine SO.nil ?_
  rcases bool_or ((decide (a2 < 0)) || (decide (65536 ≤ a2))) with b3 | b3
  · replace h := VM.cond_t V.toVI b3 h
    refine S.condT rfl b3 ?_
    refine S.seq ?_
    refine S.region ?_
    refine SO.v rfl (opv_iface Try.underlying61 rfl rfl) ?_
    refine SO.v rfl (opv_assign rfl) ?_
    refine SO.v rfl (opv_assign rfl) ?_
    refine SO.nil ?_
    refine S.to (ρ' := [(6, .int .i64 0), (7, errV 61 (some 1))]) ⟨rfl, rfl, trivial⟩ ?_
    obtain ⟨hq, rfl⟩ := VM.ret_some V.toVI h
    cases hq
    refine S.drop ?_
    refine S.b1 ?_
    refine S.b1 ?_
    exact S.ret2 Try.func8 rfl rfl rfl (fun w hs hk => hR w _ _ ⟨rfl, rfl⟩ hs hk)
  · replace h := VM.cond_f V.toVI b3 h
    refine S.condF rfl b3 ?_
    refine S.seq ?_
    refine S.region ?_
    refine SO.v rfl (opv_move rfl) ?_
    refine SO.loadN rfl Try.isAgg24 Try.sizeOf24 rfl rfl rfl ?_
    obtain ⟨t4, s6, ht5, h⟩ := VM.bind_some V.toVI h
    refine SO.b1 ?_
    refine SO.call (pre := [V.rep _]) rfl Try.call9 rfl rfl rfl (cspace_Fine.ct V _ _ _ _ ht5) trivial ?_
    rintro _ _ ⟨rfl, rfl⟩
    refine SO.v rfl (opv_not rfl) ?_
    refine SO.v rfl (opv_assign rfl) ?_
    refine SO.nil ?_
    refine S.to (ρ' := [(0, V.val), (2, .int .i64 a2), (4, bp b1 0), (6, .int .i64 0), (7, errV 61 none), (21, .bool (!t4))]) ⟨rfl, rfl, rfl, rfl, rfl, rfl, trivial⟩ ?_
    rcases bool_or (!t4) with b7 | b7
    · replace h := VM.cond_t V.toVI b7 h
      refine S.condT rfl b7 ?_
      refine S.seq ?_
      refine S.region ?_
      refine SO.v rfl (opv_iface Try.underlying61 rfl rfl) ?_
      refine SO.v rfl (opv_assign rfl) ?_
      refine SO.v rfl (opv_assign rfl) ?_
      refine SO.nil ?_
      obtain ⟨hq, rfl⟩ := VM.ret_some V.toVI h
      cases hq
      refine S.b1 ?_
      refine S.drop ?_
      refine S.b1 ?_
      refine S.b1 ?_
      exact S.ret2 Try.func8 rfl rfl rfl (fun w hs hk => hR w _ _ ⟨rfl, rfl⟩ hs hk)
    · replace h := VM.cond_f V.toVI b7 h
      refine S.condF rfl b7 ?_
      refine S.skip ?_
      refine S.inBlock ?_
      refine S.seq ?_
      refine S.region ?_
      refine SO.v rfl (opv_assign rfl) ?_
      refine SO.nil ?_
      refine S.seq ?_
      refine S.seq ?_
      refine S.region ?_
      refine SO.v rfl (opv_move rfl) ?_
      refine SO.nil ?_
      obtain ⟨o1, so_1, hl1, h⟩ := VM.bind_some V.toVI h
      refine S.b2 ?_
      refine S.b2 ?_
      refine S.b2 ?_
      refine S.to (ρ' := [(27, .int .i64 0), (8, .int .i64 16), (0, V.val), (2, .int .i64 a2), (4, bp b1 0), (6, .int .i64 0), (7, errV 61 none)]) ⟨rfl, rfl, rfl, rfl, rfl, rfl, rfl, trivial⟩ ?_
      refine S.forloop (X := ((Int × Int × Int × Int × Int × Int × Int × Int) × V.S) × Unit) (O := (Brk (Int × (Option Int)) (Int × Int × Int × Int × Int × Int)) × V.S) (fun m x => VM.run V.toVI (cspace_Lookup.l1 a2 m x.1.1) x.1.2) (fun x => match x with | (((x27_1, x8_1, y1_0_1, y1_1_1, y1_2_1, y1_3_1, y1_4_1, y1_5_1), sx_1), _) => [(27, .int .i64 x27_1), (8, .int .i64 x8_1), (0, V.val), (2, .int .i64 a2), (4, bp b1 0), (6, .int .i64 0), (7, errV 61 none)]) (fun x => match x with | (((x27_1, x8_1, y1_0_1, y1_1_1, y1_2_1, y1_3_1, y1_4_1, y1_5_1), sx_1), _) => [V.rep sx_1, Box b1 [.int .i64 y1_0_1, .int .i64 y1_1_1, .int .i64 y1_2_1, .int .i64 y1_3_1, .int .i64 y1_4_1, .int .i64 y1_5_1], F]) (fun Sk oo => match oo with | (o', so') => (∀ r', o' = Brk.ret r' → VM.run V.toVI (VM.ret r') so' = some ((r0, r1), s')) ∧ ∀ j : (Int × Int × Int × Int × Int × Int), match j with | (y1_0_e1, y1_1_e1, y1_2_e1, y1_3_e1, y1_4_e1, y1_5_e1) => ∀ _ : Unit, o' = Brk.nx (y1_0_e1, y1_1_e1, y1_2_e1, y1_3_e1, y1_4_e1, y1_5_e1) → Sk [(6, .int .i64 0), (7, errV 61 none)] [V.rep so', Box b1 [.int .i64 y1_0_e1, .int .i64 y1_1_e1, .int .i64 y1_2_e1, .int .i64 y1_3_e1, .int .i64 y1_4_e1, .int .i64 y1_5_e1], F]) (fun _ => rfl) ?_ (m := k) (x := (((0, 16, a1.Kind, a1.Rights, a1.Obj, a1.Badge, a1.Guard, a1.Bits), s6), ())) hl1 ?_
      · clear h hl1
        intro k x o_1 h hK1 ih1
        obtain ⟨⟨⟨x27_1, x8_1, y1_0_1, y1_1_1, y1_2_1, y1_3_1, y1_4_1, y1_5_1⟩, sx_1⟩, _⟩ := x
        obtain ⟨o_1, so_1_⟩ := o_1
        replace h : VM.run V.toVI (cspace_Lookup.l1 a2 (k + 1) (x27_1, x8_1, y1_0_1, y1_1_1, y1_2_1, y1_3_1, y1_4_1, y1_5_1)) sx_1 = some (o_1, so_1_) := h
        first | rw [cspace_Lookup.l1] at h | unfold cspace_Lookup.l1 at h
        refine S.seq ?_
        refine S.region ?_
        refine SO.v rfl (opv_lss rfl rfl) ?_
        refine SO.nil ?_
        refine S.seq ?_
        rcases bool_or (decide (x27_1 < 16)) with b8 | b8
        · replace h := VM.cond_t V.toVI b8 h
          refine S.condT rfl b8 ?_
          refine S.skip ?_
          refine S.seq ?_
          refine S.block ?_
          refine S.seq ?_
          obtain ⟨t9, s11, ht10, h⟩ := VM.bind_some V.toVI h
          obtain ⟨⟨t12, t13, t14⟩, ht15, h⟩ := VM.opt_some V.toVI h
          refine S.draw' (Z := fun Q => ∀ (_ : Unit) (_ : Unit) (_ : Unit) (_ : Unit) (_ : Unit) (_ : Unit) (_ : Unit) (_ : Unit) (_ : Unit) (_ : Unit), Q [(27, .int .i64 x27_1), (6, .int .i64 0), (7, errV 61 none), (0, V.val), (2, .int .i64 a2), (4, bp b1 0), (9, .int .i64 t12), (10, .int .i64 t13), (11, errV 61 t14)] [V.rep s11, Box b1 [.int .i64 y1_0_1, .int .i64 y1_1_1, .int .i64 y1_2_1, .int .i64 y1_3_1, .int .i64 y1_4_1, .int .i64 y1_5_1], F]) (T := [tS 2 (.int .i64 a2), tS 8 (.int .i64 x8_1), tS 4 (bp b1 0), tS 0 (V.val), tE [(27, .int .i64 x27_1), (6, .int .i64 0), (7, errV 61 none)], tR (V.rep sx_1), tR (Box b1 [.int .i64 y1_0_1, .int .i64 y1_1_1, .int .i64 y1_2_1, .int .i64 y1_3_1, .int .i64 y1_4_1, .int .i64 y1_5_1]), tR (F), tS 30 (.int .i64 a2), tS 31 (.int .i64 x8_1), tS 32 (bp b1 4), tS 33 (.int .i64 y1_4_1), tS 34 (bp b1 5), tS 35 (.int .i64 y1_5_1), tS 36 (V.val), tS 37 (bp b1 2), tS 38 (.int .i64 y1_2_1), tR (V.rep s11), tS 39 (.int .i64 t9), tS 40 (.tuple #[.int .i64 t12, .int .i64 t13, errV 61 t14]), tS 29 (.tuple #[.int .i64 t12, .int .i64 t13, errV 61 t14]), tS 41 (.int .i64 t12), tS 42 (.int .i64 t13), tS 43 (errV 61 t14), tS 9 (.int .i64 t12), tS 10 (.int .i64 t13), tS 11 (errV 61 t14)]) (D := [⟨[0], [], [8]⟩, ⟨[1], [], [9]⟩, ⟨[2], [], [10]⟩, ⟨[10, 6], [], [11]⟩, ⟨[2], [], [12]⟩, ⟨[12, 6], [], [13]⟩, ⟨[3], [], [14]⟩, ⟨[2], [], [15]⟩, ⟨[15, 6], [], [16]⟩, ⟨[14, 16], [5], [17, 18]⟩, ⟨[8, 9, 11, 13, 18], [], [19]⟩, ⟨[19], [], [20]⟩, ⟨[20], [], [21]⟩, ⟨[20], [], [22]⟩, ⟨[20], [], [23]⟩, ⟨[21], [], [24]⟩, ⟨[22], [], [25]⟩, ⟨[23], [], [26]⟩]) (ini := [0, 1, 2, 3, 4, 5, 6, 7]) (fin := [4, 3, 0, 2, 24, 25, 26, 17, 6, 7]) (bf := [[], [], [], [2], [], [4], [], [], [7], [6, 7, 8], [0, 1, 2, 3, 4, 5, 6, 7, 8, 9], [0, 1, 2, 3, 4, 5, 6, 7, 8, 9, 10], [0, 1, 2, 3, 4, 5, 6, 7, 8, 9, 10, 11], [0, 1, 2, 3, 4, 5, 6, 7, 8, 9, 10, 11], [0, 1, 2, 3, 4, 5, 6, 7, 8, 9, 10, 11], [0, 1, 2, 3, 4, 5, 6, 7, 8, 9, 10, 11, 12], [0, 1, 2, 3, 4, 5, 6, 7, 8, 9, 10, 11, 12, 13, 15], [0, 1, 2, 3, 4, 5, 6, 7, 8, 9, 10, 11, 12, 13, 14, 15, 16]]) (by kernel_rfl) (by kernel_rfl) (fun x w h1 h2 => (.cons () (.cons () (.cons () (.cons () (.cons () (.cons () (.cons () (.cons () (.nil ⟨EnvAll.of h1 ⟨rfl, rfl, rfl, rfl, rfl, rfl, rfl, trivial⟩, h2⟩)))))))))) (fun Q => by kernel_rfl) ⟨?_, ?_, ?_, ?_, ?_, ?_, ?_, ?_, ?_, ?_, ?_, ?_, ?_, ?_, ?_, ?_, ?_, ?_, trivial⟩ ?_
          · rintro Fr _
            refine SO.v rfl (opv_move rfl) ?_
            exact SO.nilZ fun a w h1 h2 h3 h4 h5 => PZ.of h1 h3 h5 (.cons () (.cons () (.nil ⟨EnvAll.of h2 ⟨rfl, rfl, trivial⟩, h4⟩)))
          · rintro Fr _
            refine SO.v rfl (opv_move rfl) ?_
            exact SO.nilZ fun a w h1 h2 h3 h4 h5 => PZ.of h1 h3 h5 (.cons () (.cons () (.nil ⟨EnvAll.of h2 ⟨rfl, rfl, trivial⟩, h4⟩)))
          · rintro Fr _
            refine SO.v rfl (opv_fieldAddr Try.underlying24 rfl Try.sizeOf3 rfl rfl) ?_
            exact SO.nilZ fun a w h1 h2 h3 h4 h5 => PZ.of h1 h3 h5 (.cons () (.cons () (.nil ⟨EnvAll.of h2 ⟨rfl, rfl, trivial⟩, h4⟩)))
          · rintro Fr _ _
            refine SO.load1 rfl Try.isAgg3 rfl rfl ?_
            exact SO.nilZ fun a w h1 h2 h3 h4 h5 => PZ.of h1 h3 h5 (.cons () (.cons () (.cons () (.nil ⟨EnvAll.of h2 ⟨rfl, rfl, trivial⟩, h4⟩))))
          · rintro Fr _
            refine SO.v rfl (opv_fieldAddr Try.underlying24 rfl Try.sizeOf3 rfl rfl) ?_
            exact SO.nilZ fun a w h1 h2 h3 h4 h5 => PZ.of h1 h3 h5 (.cons () (.cons () (.nil ⟨EnvAll.of h2 ⟨rfl, rfl, trivial⟩, h4⟩)))
          · rintro Fr _ _
            refine SO.load1 rfl Try.isAgg3 rfl rfl ?_
            exact SO.nilZ fun a w h1 h2 h3 h4 h5 => PZ.of h1 h3 h5 (.cons () (.cons () (.cons () (.nil ⟨EnvAll.of h2 ⟨rfl, rfl, trivial⟩, h4⟩))))
          · rintro Fr _
            refine SO.v rfl (opv_move rfl) ?_
            exact SO.nilZ fun a w h1 h2 h3 h4 h5 => PZ.of h1 h3 h5 (.cons () (.cons () (.nil ⟨EnvAll.of h2 ⟨rfl, rfl, trivial⟩, h4⟩)))
          · rintro Fr _
            refine SO.v rfl (opv_fieldAddr Try.underlying24 rfl Try.sizeOf3 rfl rfl) ?_
            exact SO.nilZ fun a w h1 h2 h3 h4 h5 => PZ.of h1 h3 h5 (.cons () (.cons () (.nil ⟨EnvAll.of h2 ⟨rfl, rfl, trivial⟩, h4⟩)))
          · rintro Fr _ _
            refine SO.load1 rfl Try.isAgg3 rfl rfl ?_
            exact SO.nilZ fun a w h1 h2 h3 h4 h5 => PZ.of h1 h3 h5 (.cons () (.cons () (.cons () (.nil ⟨EnvAll.of h2 ⟨rfl, rfl, trivial⟩, h4⟩))))
          · rintro Fr _ _ _
            refine SO.call (pre := [V.rep _]) rfl Try.call24 rfl rfl rfl (lay_Field.ct V _ _ _ _ _ ht10) trivial ?_
            rintro _ _ ⟨rfl, rfl⟩
            exact SO.nilZ fun a w h1 h2 h3 h4 h5 => PZ.of h1 h3 h5 (.cons () (.cons () (.cons () (.cons () (.nil ⟨EnvAll.of h2 ⟨rfl, rfl, rfl, trivial⟩, h4⟩)))))
          · rintro Fr _ _ _ _ _
            refine SO.call (pre := []) rfl Try.call23 rfl rfl rfl (guard_Walk.ct _ _ _ _ _ _ _ _ ht15) trivial ?_
            rintro _ _ ⟨rfl, rfl⟩
            exact SO.nilZ fun a w h1 h2 h3 h4 h5 => PZ.of h1 h3 h5 (.cons () (.cons () (.cons () (.cons () (.cons () (.cons () (.nil ⟨EnvAll.of h2 ⟨rfl, rfl, rfl, rfl, rfl, rfl, trivial⟩, h4⟩)))))))
          · rintro Fr _
            refine SO.v rfl (opv_move rfl) ?_
            exact SO.nilZ fun a w h1 h2 h3 h4 h5 => PZ.of h1 h3 h5 (.cons () (.cons () (.nil ⟨EnvAll.of h2 ⟨rfl, rfl, trivial⟩, h4⟩)))
          · rintro Fr _
            refine SO.v rfl (opv_extract rfl rfl) ?_
            exact SO.nilZ fun a w h1 h2 h3 h4 h5 => PZ.of h1 h3 h5 (.cons () (.cons () (.nil ⟨EnvAll.of h2 ⟨rfl, rfl, trivial⟩, h4⟩)))
          · rintro Fr _
            refine SO.v rfl (opv_extract rfl rfl) ?_
            exact SO.nilZ fun a w h1 h2 h3 h4 h5 => PZ.of h1 h3 h5 (.cons () (.cons () (.nil ⟨EnvAll.of h2 ⟨rfl, rfl, trivial⟩, h4⟩)))
          · rintro Fr _
            refine SO.v rfl (opv_extract rfl rfl) ?_
            exact SO.nilZ fun a w h1 h2 h3 h4 h5 => PZ.of h1 h3 h5 (.cons () (.cons () (.nil ⟨EnvAll.of h2 ⟨rfl, rfl, trivial⟩, h4⟩)))
          · rintro Fr _
            refine SO.v rfl (opv_assign rfl) ?_
            exact SO.nilZ fun a w h1 h2 h3 h4 h5 => PZ.of h1 h3 h5 (.cons () (.cons () (.nil ⟨EnvAll.of h2 ⟨rfl, rfl, trivial⟩, h4⟩)))
          · rintro Fr _
            refine SO.v rfl (opv_assign rfl) ?_
            exact SO.nilZ fun a w h1 h2 h3 h4 h5 => PZ.of h1 h3 h5 (.cons () (.cons () (.nil ⟨EnvAll.of h2 ⟨rfl, rfl, trivial⟩, h4⟩)))
          · rintro Fr _
            refine SO.v rfl (opv_assign rfl) ?_
            exact SO.nilZ fun a w h1 h2 h3 h4 h5 => PZ.of h1 h3 h5 (.cons () (.cons () (.nil ⟨EnvAll.of h2 ⟨rfl, rfl, trivial⟩, h4⟩)))
          rintro _ _ _ _ _ _ _ _ _ _
          refine S.to (ρ' := [(27, .int .i64 x27_1), (6, .int .i64 0), (7, errV 61 none), (0, V.val), (2, .int .i64 a2), (4, bp b1 0), (9, .int .i64 t12), (10, .int .i64 t13), (11, errV 61 t14)]) ⟨rfl, rfl, rfl, rfl, rfl, rfl, rfl, rfl, rfl, trivial⟩ ?_
          refine S.seq ?_
          refine S.seq ?_
          refine S.region ?_
          refine SO.v rfl (opv_move rfl) ?_
          refine SO.v rfl (opv_neqN (e := t14) Try.underlying28 rfl) ?_
          refine SO.nil ?_
          rcases bool_or t14.isSome with b16 | b16
          · replace h := VM.cond_t V.toVI b16 h
            refine S.condT rfl b16 ?_
            refine S.seq ?_
            refine S.region ?_
            refine SO.v rfl (opv_move rfl) ?_
            refine SO.v rfl (opv_assign rfl) ?_
            refine SO.v rfl (opv_assign rfl) ?_
            refine SO.nil ?_
            refine S.to (ρ' := [(6, .int .i64 0), (7, errV 61 t14)]) ⟨rfl, rfl, trivial⟩ ?_
            obtain ⟨hq, rfl⟩ := VM.ret_some V.toVI h
            cases hq
            replace h := hK1.1 _ rfl
            obtain ⟨hq, rfl⟩ := VM.ret_some V.toVI h
            cases hq
            refine S.b1 ?_
            refine S.drop ?_
            refine S.b1 ?_
            refine S.b1 ?_
            exact S.ret2 Try.func8 rfl rfl rfl (fun w hs hk => hR w _ _ ⟨rfl, rfl⟩ hs hk)
          · replace h := VM.cond_f V.toVI b16 h
            refine S.condF rfl b16 ?_
            refine S.skip ?_
            refine S.seq ?_
            refine S.region ?_
            refine SO.v rfl (opv_move rfl) ?_
            refine SO.v rfl (opv_fieldAddr Try.underlying24 rfl Try.sizeOf3 rfl rfl) ?_
            refine SO.b1 ?_
            refine SO.load1 rfl Try.isAgg3 rfl rfl ?_
            obtain ⟨t17, s19, ht18, h⟩ := VM.bind_some V.toVI h
            refine SO.b1 ?_
            refine SO.call (pre := [V.rep _]) rfl Try.call24 rfl rfl rfl (lay_Field.ct V _ _ _ _ _ ht18) trivial ?_
            rintro _ _ ⟨rfl, rfl⟩
            refine SO.v rfl (opv_move rfl) ?_
            refine SO.v rfl (opv_add rfl rfl) ?_
            refine SO.v rfl (opv_assign rfl) ?_
            refine SO.nil ?_
            refine S.to (ρ' := [(27, .int .i64 x27_1), (6, .int .i64 0), (7, errV 61 none), (0, V.val), (2, .int .i64 a2), (4, bp b1 0), (10, .int .i64 t13), (12, .int .i64 (w64 (t17 + t12)))]) ⟨rfl, rfl, rfl, rfl, rfl, rfl, rfl, rfl, trivial⟩ ?_
            refine S.seq ?_
            refine S.seq ?_
            refine S.region ?_
            refine SO.v rfl (opv_move rfl) ?_
            refine SO.v rfl (opv_eql rfl rfl) ?_
            refine SO.nil ?_
            rcases bool_or (t13 == 0) with b20 | b20
            · replace h := VM.cond_t V.toVI b20 h
              refine S.condT rfl b20 ?_
              refine S.seq ?_
              refine S.region ?_
              refine SO.v rfl (opv_move rfl) ?_
              refine SO.v rfl (opv_assign rfl) ?_
              refine SO.v rfl (opv_assign rfl) ?_
              refine SO.nil ?_
              refine S.to (ρ' := [(6, .int .i64 (w64 (t17 + t12))), (7, errV 61 none)]) ⟨rfl, rfl, trivial⟩ ?_
              obtain ⟨hq, rfl⟩ := VM.ret_some V.toVI h
              cases hq
              replace h := hK1.1 _ rfl
              obtain ⟨hq, rfl⟩ := VM.ret_some V.toVI h
              cases hq
              refine S.b1 ?_
              refine S.drop ?_
              refine S.b1 ?_
              refine S.b1 ?_
              exact S.ret2 Try.func8 rfl rfl rfl (fun w hs hk => hR w _ _ ⟨rfl, rfl⟩ hs hk)
            · replace h := VM.cond_f V.toVI b20 h
              refine S.condF rfl b20 ?_
              refine S.skip ?_
              refine S.seq ?_
              refine S.region ?_
              refine SO.v rfl (opv_move rfl) ?_
              refine SO.v rfl (opv_assign rfl) ?_
              refine SO.nil ?_
              refine S.seq ?_
              refine S.region ?_
              refine SO.v rfl (opv_move rfl) ?_
              refine SO.v rfl (opv_move rfl) ?_
              obtain ⟨t21, s23, ht22, h⟩ := VM.bind_some V.toVI h
              refine SO.call (pre := [V.rep _]) rfl Try.call22 rfl rfl rfl (cspace_Cap.ct V _ _ _ _ _ ht22) trivial ?_
              rintro _ _ ⟨rfl, rfl⟩
              refine SO.b1 ?_
              refine SO.storeN Try.sizeOf24 rfl rfl rfl rfl rfl rfl ?_
              refine SO.nil ?_
              refine S.to (ρ' := [(27, .int .i64 x27_1), (6, .int .i64 0), (7, errV 61 none), (0, V.val), (2, .int .i64 a2), (4, bp b1 0), (8, .int .i64 t13)]) ⟨rfl, rfl, rfl, rfl, rfl, rfl, rfl, trivial⟩ ?_
              refine S.seq ?_
              refine S.region ?_
              refine SO.v rfl (opv_move rfl) ?_
              refine SO.loadN rfl Try.isAgg24 Try.sizeOf24 rfl rfl rfl ?_
              obtain ⟨t24, s26, ht25, h⟩ := VM.bind_some V.toVI h
              refine SO.b1 ?_
              refine SO.call (pre := [V.rep _]) rfl Try.call9 rfl rfl rfl (cspace_Fine.ct V _ _ _ _ ht25) trivial ?_
              rintro _ _ ⟨rfl, rfl⟩
              refine SO.v rfl (opv_not rfl) ?_
              refine SO.nil ?_
              rcases bool_or (!t24) with b27 | b27
              · replace h := VM.cond_t V.toVI b27 h
                refine S.condT rfl b27 ?_
                refine S.exit rfl ?_
                obtain ⟨hq, rfl⟩ := VM.ret_some V.toVI h
                cases hq
                refine S.b2 ?_
                refine S.b2 ?_
                refine S.b2 ?_
                refine S.to ?_ (hK1.2 (t21.Kind, t21.Rights, t21.Obj, t21.Badge, t21.Guard, t21.Bits) () rfl)
                exact ⟨rfl, rfl, trivial⟩
              · replace h := VM.cond_f V.toVI b27 h
                refine S.condF rfl b27 ?_
                refine S.skip ?_
                refine S.inBlock ?_
                refine S.region ?_
                refine SO.v rfl (opv_add rfl rfl) ?_
                refine SO.v rfl (opv_move rfl) ?_
                refine SO.nil ?_
                refine S.b2 ?_
                refine S.b2 ?_
                refine S.b2 ?_
                refine S.to ?_ (ih1 (((w64 (x27_1 + 1), t13, t21.Kind, t21.Rights, t21.Obj, t21.Badge, t21.Guard, t21.Bits), s26), ()) h)
                exact ⟨rfl, rfl, rfl, rfl, rfl, rfl, rfl, trivial⟩
        · replace h := VM.cond_f V.toVI b8 h
          refine S.condF rfl b8 ?_
          refine S.exit rfl ?_
          obtain ⟨hq, rfl⟩ := VM.ret_some V.toVI h
          cases hq
          refine S.b2 ?_
          refine S.b2 ?_
          refine S.b2 ?_
          refine S.to ?_ (hK1.2 (y1_0_1, y1_1_1, y1_2_1, y1_3_1, y1_4_1, y1_5_1) () rfl)
          exact ⟨rfl, rfl, trivial⟩
      refine ⟨fun r' e' => ?_, ?_⟩
      · subst e'
        have h9 := VM.of_ret h
        exact h9
      rintro ⟨y1_0_e1, y1_1_e1, y1_2_e1, y1_3_e1, y1_4_e1, y1_5_e1⟩ _ e'
      subst e'
      replace h := VM.of_nx h
      refine S.seq ?_
      refine S.region ?_
      refine SO.v rfl (opv_iface Try.underlying61 rfl rfl) ?_
      refine SO.v rfl (opv_assign rfl) ?_
      refine SO.v rfl (opv_assign rfl) ?_
      refine SO.nil ?_
      obtain ⟨hq, rfl⟩ := VM.ret_some V.toVI h
      cases hq
      refine S.b1 ?_
      refine S.drop ?_
      refine S.b1 ?_
      refine S.b1 ?_
      exact S.ret2 Try.func8 rfl rfl rfl (fun w hs hk => hR w _ _ ⟨rfl, rfl⟩ hs hk)
end Go.Proofs
namespace Go.Proofs
open Go.Sl Go.RowKit
/-! 21 padstone/padstonelaw10.Pick -/
def law10_Pick.f (a0 : Int) (a1 : Int) : Option (Int) :=
  bif decide (a0 < 0) then ((chk (decide (a1 ≠ 0))).bind fun _ => some ((w64 (0 - (w64 (a0 + 1)))).tmod a1)) else ((chk (decide (a1 ≠ 0))).bind fun _ => some (a0.tmod a1))
set_option maxHeartbeats 8000000 in
set_option maxRecDepth 100000 in
theorem law10_Pick.ct (a0 : Int) (a1 : Int) (r0 : Int) (h : law10_Pick.f a0 a1 = some r0) :
    Ct Try.prog 21 [.int .i64 a0, .int .i64 a1] (fun _ => True) [] (fun u H' => u = .int .i64 r0 ∧ H' = []) := by
  unfold law10_Pick.f at h
  refine Ct.intro (n := 13) Try.func21 rfl rfl rfl ?_
  intro R w0 F hF hR
  refine S.seq ?_
  refine S.region ?_
  refine SO.v rfl (opv_assign rfl) ?_
  refine SO.nil ?_
  refine S.seq ?_
  refine S.seq ?_
  refine S.region ?_
  refine SO.v rfl (opv_move rfl) ?_
  refine SO.v rfl (opv_lss rfl rfl) ?_
  refine SO.nil ?_
  rcases bool_or (decide (a0 < 0)) with b1 | b1
  · replace h := cond_t b1 h
    refine S.condT rfl b1 ?_
    refine S.region ?_
    refine SO.v rfl (opv_move rfl) ?_
    refine SO.v rfl (opv_add rfl rfl) ?_
    refine SO.v rfl (opv_neg rfl) ?_
    refine SO.v rfl (opv_assign rfl) ?_
    refine SO.nil ?_
    refine S.seq ?_
    refine S.region ?_
    refine SO.v rfl (opv_move rfl) ?_
    refine SO.v rfl (opv_move rfl) ?_
    obtain ⟨_, hc2, h⟩ := opt_bind h
    refine SO.v rfl (opv_rem rfl rfl (of_decide_eq_true (chk_some hc2))) ?_
    refine SO.v rfl (opv_assign rfl) ?_
    refine SO.nil ?_
    refine S.to (ρ' := [(4, .int .i64 ((w64 (0 - (w64 (a0 + 1)))).tmod a1))]) ⟨rfl, trivial⟩ ?_
    cases h
    exact S.ret1 Try.func21 rfl rfl (fun w hs hk => hR w _ _ ⟨rfl, rfl⟩ hs hk)
  · replace h := cond_f b1 h
    refine S.condF rfl b1 ?_
    refine S.skip ?_
    refine S.seq ?_
    refine S.region ?_
    refine SO.v rfl (opv_move rfl) ?_
    refine SO.v rfl (opv_move rfl) ?_
    obtain ⟨_, hc3, h⟩ := opt_bind h
    refine SO.v rfl (opv_rem rfl rfl (of_decide_eq_true (chk_some hc3))) ?_
    refine SO.v rfl (opv_assign rfl) ?_
    refine SO.nil ?_
    refine S.to (ρ' := [(4, .int .i64 (a0.tmod a1))]) ⟨rfl, trivial⟩ ?_
    cases h
    exact S.ret1 Try.func21 rfl rfl (fun w hs hk => hR w _ _ ⟨rfl, rfl⟩ hs hk)
end Go.Proofs
