/- What the functions that DeriveLess reaches come to, and that they do. On no condition. -/
import Derived.Test.YtdmhpmnbcbjneaaFnDeriveLess0
set_option linter.all false
namespace Go.Proofs
open Go.Sl Go.RowKit
/-! 15 padstone/padstoneref10.Same -/
def ref10_Same.l1 (a0 : List Int) (a1 : List Int) : Nat → Int → Option (Brk Bool Unit)
  | 0, _ => none
  | k + 1, x5_1 => bif decide (x5_1 < (a0.length : Int)) then ((at_ a0 x5_1).bind fun x3 => (at_ a1 x5_1).bind fun x5 => bif x3 != x5 then (some (Brk.ret false)) else (ref10_Same.l1 a0 a1 k (w64 (x5_1 + 1)))) else (some (Brk.nx ()))
def ref10_Same.f (k : Nat) (a0 : List Int) (a1 : List Int) : Option (Bool) :=
  bif (a0.length : Int) != (a1.length : Int) then (some false) else ((ref10_Same.l1 a0 a1 k 0).bind fun o1 => Brk.go o1 (fun r => some r) (fun _ => some true))
set_option maxHeartbeats 8000000 in
set_option maxRecDepth 100000 in
theorem ref10_Same.ct (k : Nat) (v0 : Value) (v1 : Value) (a0 : List Int) (a1 : List Int) (r0 : Bool) (h : ref10_Same.f k a0 a1 = some r0) :
    Ct Try.prog 15 [v0, v1] (fun F => Rd (ekI .u64) v0 a0 F ∧ Rd (ekI .u64) v1 a1 F) [] (fun u H' => u = .bool r0 ∧ H' = []) := by
  unfold ref10_Same.f at h
  refine Ct.intro (n := 26) Try.func15 rfl rfl rfl ?_
  intro R w0 F hF hR
  obtain ⟨hF0, hF1⟩ := hF
  refine S.seq ?_
  refine S.region ?_
  refine SO.v rfl (opv_assign rfl) ?_
  refine SO.nil ?_
  refine S.seq ?_
  refine S.seq ?_
  refine S.region ?_
  refine SO.v rfl (opv_move rfl) ?_
  refine SO.v rfl (opv_lenR rfl Try.underlying26 hF0 rfl) ?_
  refine SO.v rfl (opv_move rfl) ?_
  refine SO.v rfl (opv_lenR rfl Try.underlying26 hF1 rfl) ?_
  refine SO.v rfl (opv_neq rfl rfl) ?_
  refine SO.nil ?_
  rcases bool_or ((a0.length : Int) != (a1.length : Int)) with b1 | b1
  · replace h := cond_t b1 h
    refine S.condT rfl b1 ?_
    refine S.seq ?_
    refine S.region ?_
    refine SO.v rfl (opv_assign rfl) ?_
    refine SO.nil ?_
    refine S.to (ρ' := [(4, .bool false)]) ⟨rfl, trivial⟩ ?_
    cases h
    exact S.ret1 Try.func15 rfl rfl (fun w hs hk => hR w _ _ ⟨rfl, rfl⟩ hs hk)
  · replace h := cond_f b1 h
    refine S.condF rfl b1 ?_
    refine S.skip ?_
    refine S.seq ?_
    refine S.seq ?_
    refine S.region ?_
    refine SO.v rfl (opv_assign rfl) ?_
    refine SO.nil ?_
    obtain ⟨o1, hl1, h⟩ := opt_bind h
    refine S.to (ρ' := [(5, .int .i64 0), (4, .bool false), (0, v0), (1, v1)]) ⟨rfl, rfl, rfl, rfl, trivial⟩ ?_
    refine S.forloop (X := Int × Unit) (O := Brk Bool Unit) (fun m x => ref10_Same.l1 a0 a1 m x.1) (fun x => match x with | (x5_1, _) => [(5, .int .i64 x5_1), (4, .bool false), (0, v0), (1, v1)]) (fun x => match x with | (x5_1, _) => [F]) (fun Sk o' => (∀ r', o' = Brk.ret r' → some r' = some r0) ∧ ∀ _ : Unit, ∀ _ : Unit, o' = Brk.nx () → Sk [(4, .bool false)] [F]) (fun _ => rfl) ?_ (m := k) (x := (0, ())) hl1 ?_
    · clear h hl1
      intro k x o_1 h hK1 ih1
      obtain ⟨x5_1, _⟩ := x
      replace h : ref10_Same.l1 a0 a1 (k + 1) x5_1 = some o_1 := h
      first | rw [ref10_Same.l1] at h | unfold ref10_Same.l1 at h
      refine S.seq ?_
      refine S.seq ?_
      refine S.region ?_
      refine SO.v rfl (opv_move rfl) ?_
      refine SO.v rfl (opv_move rfl) ?_
      refine SO.v rfl (opv_lenR rfl Try.underlying26 hF0 rfl) ?_
      refine SO.v rfl (opv_lss rfl rfl) ?_
      refine SO.nil ?_
      rcases bool_or (decide (x5_1 < (a0.length : Int))) with b2 | b2
      · replace h := cond_t b2 h
        refine S.condT rfl b2 ?_
        refine S.skip ?_
        refine S.seq ?_
        refine S.block ?_
        refine S.seq ?_
        obtain ⟨x3, hx4, h⟩ := opt_bind h
        obtain ⟨x5, hx6, h⟩ := opt_bind h
        refine S.draw' (Z := fun Q => ∀ (_ : Unit) (_ : Unit) (_ : Unit) (_ : Unit) (_ : Unit) (_ : Unit), Q [(5, .int .i64 x5_1), (4, .bool false), (0, v0), (1, v1), (25, .bool (x3 != x5))] [F]) (T := [tS 0 (v0), tS 5 (.int .i64 x5_1), tS 1 (v1), tS 4 (.bool false), tR (F), tS 17 (v0), tS 18 (.int .i64 x5_1), tS 19 (idxp v0 (x5_1.toNat * (ekI .u64).sz)), tS 20 (.int .u64 x3), tS 21 (v1), tS 22 (.int .i64 x5_1), tS 23 (idxp v1 (x5_1.toNat * (ekI .u64).sz)), tS 24 (.int .u64 x5), tS 25 (.bool (x3 != x5))]) (D := [⟨[0], [], [5]⟩, ⟨[1], [], [6]⟩, ⟨[5, 6, 4], [], [7]⟩, ⟨[7, 4], [], [8]⟩, ⟨[2], [], [9]⟩, ⟨[1], [], [10]⟩, ⟨[9, 10, 4], [], [11]⟩, ⟨[11, 4], [], [12]⟩, ⟨[8, 12], [], [13]⟩]) (ini := [0, 1, 2, 3, 4]) (fin := [1, 3, 0, 2, 13, 4]) (bf := [[], [], [0, 1], [0, 1, 2], [], [], [4, 5], [4, 5, 6], [0, 1, 2, 3, 4, 5, 6, 7]]) (by kernel_rfl) (by kernel_rfl) (fun x w h1 h2 => (.cons () (.cons () (.cons () (.cons () (.cons () (.nil ⟨EnvAll.of h1 ⟨rfl, rfl, rfl, rfl, trivial⟩, h2⟩))))))) (fun Q => by kernel_rfl) ⟨?_, ?_, ?_, ?_, ?_, ?_, ?_, ?_, ?_, trivial⟩ ?_
        · rintro Fr _
          refine SO.v rfl (opv_move rfl) ?_
          exact SO.nilZ fun a w h1 h2 h3 h4 h5 => PZ.of h1 h3 h5 (.cons () (.cons () (.nil ⟨EnvAll.of h2 ⟨rfl, rfl, trivial⟩, h4⟩)))
        · rintro Fr _
          refine SO.v rfl (opv_move rfl) ?_
          exact SO.nilZ fun a w h1 h2 h3 h4 h5 => PZ.of h1 h3 h5 (.cons () (.cons () (.nil ⟨EnvAll.of h2 ⟨rfl, rfl, trivial⟩, h4⟩)))
        · rintro Fr _ _ _
          refine SO.v rfl (opv_idx Try.underlying26 Try.sizeOf66 hF0 rfl rfl hx4) ?_
          exact SO.nilZ fun a w h1 h2 h3 h4 h5 => PZ.of h1 h3 h5 (.cons () (.cons () (.cons () (.cons () (.nil ⟨EnvAll.of h2 ⟨rfl, rfl, rfl, trivial⟩, h4⟩)))))
        · rintro Fr _ _
          refine SO.loadI1 (j := 0) rfl Try.isAgg66 (Rd.head hF0) hx4 rfl rfl rfl rfl ?_
          exact SO.nilZ fun a w h1 h2 h3 h4 h5 => PZ.of h1 h3 h5 (.cons () (.cons () (.cons () (.nil ⟨EnvAll.of h2 ⟨rfl, rfl, trivial⟩, h4⟩))))
        · rintro Fr _
          refine SO.v rfl (opv_move rfl) ?_
          exact SO.nilZ fun a w h1 h2 h3 h4 h5 => PZ.of h1 h3 h5 (.cons () (.cons () (.nil ⟨EnvAll.of h2 ⟨rfl, rfl, trivial⟩, h4⟩)))
        · rintro Fr _
          refine SO.v rfl (opv_move rfl) ?_
          exact SO.nilZ fun a w h1 h2 h3 h4 h5 => PZ.of h1 h3 h5 (.cons () (.cons () (.nil ⟨EnvAll.of h2 ⟨rfl, rfl, trivial⟩, h4⟩)))
        · rintro Fr _ _ _
          refine SO.v rfl (opv_idx Try.underlying26 Try.sizeOf66 hF1 rfl rfl hx6) ?_
          exact SO.nilZ fun a w h1 h2 h3 h4 h5 => PZ.of h1 h3 h5 (.cons () (.cons () (.cons () (.cons () (.nil ⟨EnvAll.of h2 ⟨rfl, rfl, rfl, trivial⟩, h4⟩)))))
        · rintro Fr _ _
          refine SO.loadI1 (j := 0) rfl Try.isAgg66 (Rd.head hF1) hx6 rfl rfl rfl rfl ?_
          exact SO.nilZ fun a w h1 h2 h3 h4 h5 => PZ.of h1 h3 h5 (.cons () (.cons () (.cons () (.nil ⟨EnvAll.of h2 ⟨rfl, rfl, trivial⟩, h4⟩))))
        · rintro Fr _ _
          refine SO.v rfl (opv_neq rfl rfl) ?_
          exact SO.nilZ fun a w h1 h2 h3 h4 h5 => PZ.of h1 h3 h5 (.cons () (.cons () (.cons () (.nil ⟨EnvAll.of h2 ⟨rfl, rfl, rfl, trivial⟩, h4⟩))))
        rintro _ _ _ _ _ _
        refine S.to (ρ' := [(5, .int .i64 x5_1), (4, .bool false), (0, v0), (1, v1), (25, .bool (x3 != x5))]) ⟨rfl, rfl, rfl, rfl, rfl, trivial⟩ ?_
        rcases bool_or (x3 != x5) with b7 | b7
        · replace h := cond_t b7 h
          refine S.condT rfl b7 ?_
          refine S.seq ?_
          refine S.region ?_
          refine SO.v rfl (opv_assign rfl) ?_
          refine SO.nil ?_
          cases h
          replace h := hK1.1 _ rfl
          cases h
          exact S.ret1 Try.func15 rfl rfl (fun w hs hk => hR w _ _ ⟨rfl, rfl⟩ hs hk)
        · replace h := cond_f b7 h
          refine S.condF rfl b7 ?_
          refine S.skip ?_
          refine S.inBlock ?_
          refine S.region ?_
          refine SO.v rfl (opv_move rfl) ?_
          refine SO.v rfl (opv_add rfl rfl) ?_
          refine SO.v rfl (opv_assign rfl) ?_
          refine SO.nil ?_
          refine S.to ?_ (ih1 (w64 (x5_1 + 1), ()) h)
          exact ⟨rfl, rfl, rfl, rfl, trivial⟩
      · replace h := cond_f b2 h
        refine S.condF rfl b2 ?_
        refine S.exit rfl ?_
        cases h
        refine S.to ?_ (hK1.2 () () rfl)
        exact ⟨rfl, trivial⟩
    refine ⟨fun r' e' => ?_, ?_⟩
    · subst e'
      have h9 := Brk.of_ret h
      exact h9
    rintro _ _ e'
    subst e'
    replace h := Brk.of_nx h
    refine S.seq ?_
    refine S.region ?_
    refine SO.v rfl (opv_assign rfl) ?_
    refine SO.nil ?_
    cases h
    exact S.ret1 Try.func15 rfl rfl (fun w hs hk => hR w _ _ ⟨rfl, rfl⟩ hs hk)
end Go.Proofs
namespace Go.Proofs
open Go.Sl Go.RowKit
/-! 33 padstone/padstoneref10.slot -/
def ref10_slot.f (a0 : Int) : Option (Bool) :=
  some ((decide (0 ≤ a0)) && (decide (a0 < 96)))
set_option maxHeartbeats 8000000 in
set_option maxRecDepth 100000 in
theorem ref10_slot.ct (a0 : Int) (r0 : Bool) (h : ref10_slot.f a0 = some r0) :
    Ct Try.prog 33 [.int .i64 a0] (fun _ => True) [] (fun u H' => u = .bool r0 ∧ H' = []) := by
  unfold ref10_slot.f at h
  refine Ct.intro (n := 9) Try.func33 rfl rfl rfl ?_
  intro R w0 F hF hR
  refine S.seq ?_
  refine S.region ?_
  refine SO.v rfl (opv_assign rfl) ?_
  refine SO.nil ?_
  refine S.seq ?_
  refine S.region ?_
  refine SO.v rfl (opv_move rfl) ?_
  refine SO.v rfl (opv_geq rfl rfl) ?_
  refine SO.v rfl (opv_move rfl) ?_
  refine SO.cut 3 8 (.bool ((decide (0 ≤ a0)) && (decide (a0 < 96)))) [F] (fun l2 hk2 => ?_) ?_
  · rcases bool_or (decide (0 ≤ a0)) with b1 | b1
    · refine SO.takeT rfl rfl rfl b1 ?_
      refine SO.v rfl (opv_move rfl) ?_
      refine SO.takeT rfl rfl rfl b1 ?_
      refine SO.v rfl (opv_lss rfl rfl) ?_
      refine SO.v rfl (opv_pick_t' b1 rfl rfl) ?_
      exact hk2.fitc (m := 3) rfl (and_t b1) rfl
    · refine SO.passF rfl rfl rfl b1 rfl rfl ?_
      refine SO.passF rfl rfl rfl b1 rfl rfl ?_
      refine SO.v rfl (opv_pick_f' b1 rfl rfl) ?_
      exact hk2.fitc (m := 3) rfl (and_f b1) rfl
  refine SO.v rfl (opv_assign rfl) ?_
  refine SO.nil ?_
  cases h
  exact S.ret1 Try.func33 rfl rfl (fun w hs hk => hR w _ _ ⟨rfl, rfl⟩ hs hk)
end Go.Proofs
namespace Go.Proofs
open Go.Sl Go.RowKit
/-! 51 (*padstone/padstoneref10.State).Link -/
def ref10_State_Link.f (a0 : ref10_State) (a1 : Int) (a2 : Int) : Option ((Int × ref10_State)) :=
  (ref10_slot.f a1).bind fun t1 => (ref10_slot.f a2).bind fun t3 => bif (!t1) || (!t3) then (some (2, a0)) else ((bif a1 == a2 then (some true) else ((at_ a0.Slots a1).bind fun x14 => some (decide (0 ≤ x14.Parent)))).bind fun c12 => bif c12 then (some (10, a0)) else ((at_ a0.Slots a1).bind fun x20 => (at_ (a0.Slots.set a1.toNat ({ x20 with Parent := a2 } : ref10_Slot)) a2).bind fun x34 => (app ([a1]) x34.Kids).bind fun zs43 => (at_ (a0.Slots.set a1.toNat ({ x20 with Parent := a2 } : ref10_Slot)) a2).bind fun x47 => some (0, ({ a0 with Slots := (a0.Slots.set a1.toNat ({ x20 with Parent := a2 } : ref10_Slot)).set a2.toNat ({ x47 with Kids := zs43 } : ref10_Slot) } : ref10_State))))
set_option maxHeartbeats 8000000 in
set_option maxRecDepth 100000 in
theorem ref10_State_Link.ct (bp0 : Nat) (v0_Slots : Value) (v0_Objs : Value) (a0 : ref10_State) (a1 : Int) (a2 : Int) (r0 : Int) (rp0 : ref10_State) (h : ref10_State_Link.f a0 a1 a2 = some (r0, rp0)) :
    Ct Try.prog 51 [bp bp0 0, .int .i64 a1, .int .i64 a2] (fun _ => True) [Box bp0 [v0_Slots, v0_Objs, .int .i64 a0.NS, .int .i64 a0.NO], OwnR 65 kr_ref10_Slot v0_Slots a0.Slots, OwnR 58 kr_ref10_Obj v0_Objs a0.Objs] (fun u H' => ∃ rw0_Slots rw0_Objs, u = .int .i64 r0 ∧ H' = [Box bp0 [rw0_Slots, rw0_Objs, .int .i64 rp0.NS, .int .i64 rp0.NO], OwnR 65 kr_ref10_Slot rw0_Slots rp0.Slots, OwnR 58 kr_ref10_Obj rw0_Objs rp0.Objs]) := by
  unfold ref10_State_Link.f at h
  refine Ct.intro (n := 59) Try.func51 rfl rfl rfl ?_
  intro R w0 F hF hR
  refine S.seq ?_
  refine S.region ?_
  refine SO.v rfl (opv_assign rfl) ?_
  refine SO.nil ?_
  refine S.seq ?_
  refine S.region ?_
  refine SO.v rfl (opv_move rfl) ?_
  obtain ⟨t1, ht2, h⟩ := opt_bind h
  refine SO.call (pre := []) rfl Try.call33 rfl rfl rfl (ref10_slot.ct _ _ ht2) trivial ?_
  rintro _ _ ⟨rfl, rfl⟩
  refine SO.v rfl (opv_assign rfl) ?_
  refine SO.nil ?_
  refine S.seq ?_
  refine S.region ?_
  refine SO.v rfl (opv_move rfl) ?_
  obtain ⟨t3, ht4, h⟩ := opt_bind h
  refine SO.call (pre := []) rfl Try.call33 rfl rfl rfl (ref10_slot.ct _ _ ht4) trivial ?_
  rintro _ _ ⟨rfl, rfl⟩
  refine SO.v rfl (opv_assign rfl) ?_
  refine SO.nil ?_
  refine S.seq ?_
  refine S.seq ?_
  refine S.region ?_
  refine SO.v rfl (opv_move rfl) ?_
  refine SO.v rfl (opv_not rfl) ?_
  refine SO.v rfl (opv_move rfl) ?_
  refine SO.cut 3 18 (.bool ((!t1) || (!t3))) [Box bp0 [v0_Slots, v0_Objs, .int .i64 a0.NS, .int .i64 a0.NO], OwnR 65 kr_ref10_Slot v0_Slots a0.Slots, OwnR 58 kr_ref10_Obj v0_Objs a0.Objs, F] (fun l2 hk2 => ?_) ?_
  · rcases bool_or (!t1) with b5 | b5
    · refine SO.passF rfl rfl rfl b5 rfl rfl ?_
      refine SO.passF rfl rfl rfl b5 rfl rfl ?_
      refine SO.v rfl (opv_pick_t' b5 rfl rfl) ?_
      refine SO.b3 ?_
      refine SO.b3 ?_
      refine SO.b3 ?_
      refine SO.b3 ?_
      exact hk2.fitc (m := 3) rfl (or_t b5) rfl
    · refine SO.takeT rfl rfl rfl b5 ?_
      refine SO.v rfl (opv_move rfl) ?_
      refine SO.takeT rfl rfl rfl b5 ?_
      refine SO.v rfl (opv_not rfl) ?_
      refine SO.v rfl (opv_pick_f' b5 rfl rfl) ?_
      refine SO.b3 ?_
      refine SO.b3 ?_
      refine SO.b3 ?_
      refine SO.b3 ?_
      exact hk2.fitc (m := 3) rfl (or_f b5) rfl
  refine SO.nil ?_
  refine S.to (ρ' := [(0, bp bp0 0), (1, .int .i64 a1), (2, .int .i64 a2), (6, .int .i64 0), (18, .bool ((!t1) || (!t3)))]) ⟨rfl, rfl, rfl, rfl, rfl, trivial⟩ ?_
  rcases bool_or ((!t1) || (!t3)) with b6 | b6
  · replace h := cond_t b6 h
    refine S.condT rfl b6 ?_
    refine S.seq ?_
    refine S.region ?_
    refine SO.v rfl (opv_assign rfl) ?_
    refine SO.nil ?_
    cases h
    refine S.b3 ?_
    refine S.b3 ?_
    refine S.b3 ?_
    refine S.b3 ?_
    exact S.ret1 Try.func51 rfl rfl (fun w hs hk => hR w _ _ ⟨v0_Slots, v0_Objs, rfl, rfl⟩ hs hk)
  · replace h := cond_f b6 h
    refine S.condF rfl b6 ?_
    refine S.skip ?_
    refine S.seq ?_
    refine S.seq ?_
    refine S.region ?_
    refine SO.v rfl (opv_move rfl) ?_
    refine SO.v rfl (opv_move rfl) ?_
    refine SO.v rfl (opv_eql rfl rfl) ?_
    refine SO.v rfl (opv_move rfl) ?_
    refine SO.b1 ?_
    refine SO.openR fun raws7 A8 hrel9 hR10 => ?_
    obtain ⟨c12, hc13, hgk⟩ := opt_bind h
    refine SO.cut 10 32 (.bool c12) [OwnO 65 kr_ref10_Slot v0_Slots raws7 A8 a0.Slots, Box bp0 [v0_Slots, v0_Objs, .int .i64 a0.NS, .int .i64 a0.NO], OwnR 58 kr_ref10_Obj v0_Objs a0.Objs, F] (fun l2 hk2 => ?_) ?_
    · clear hgk
      replace h := hc13
      rcases bool_or (a1 == a2) with b11 | b11
      · replace h := cond_t b11 h
        refine SO.passF rfl rfl rfl b11 rfl rfl ?_
        refine SO.passF rfl rfl rfl b11 rfl rfl ?_
        refine SO.passF rfl rfl rfl b11 rfl rfl ?_
        refine SO.passF rfl rfl rfl b11 rfl rfl ?_
        refine SO.passF rfl rfl rfl b11 rfl rfl ?_
        refine SO.passF rfl rfl rfl b11 rfl rfl ?_
        refine SO.passF rfl rfl rfl b11 rfl rfl ?_
        refine SO.passF rfl rfl rfl b11 rfl rfl ?_
        refine SO.passF rfl rfl rfl b11 rfl rfl ?_
        cases h
        refine SO.v rfl (opv_pick_t' b11 rfl rfl) ?_
        refine SO.b3 ?_
        refine SO.b3 ?_
        refine SO.b3 ?_
        refine SO.b3 ?_
        exact hk2.fitc (m := 10) rfl (rfl) rfl
      · replace h := cond_f b11 h
        refine SO.takeT rfl rfl rfl b11 ?_
        refine SO.v rfl (opv_move rfl) ?_
        refine SO.takeT rfl rfl rfl b11 ?_
        refine SO.v rfl (opv_nilCheck rfl) ?_
        refine SO.takeT rfl rfl rfl b11 ?_
        refine SO.v rfl (opv_fieldAddr Try.underlying63 rfl Try.sizeOf60 rfl rfl) ?_
        refine SO.takeT rfl rfl rfl b11 ?_
        refine SO.b1 ?_
        refine SO.load1 rfl Try.isAgg60 rfl rfl ?_
        refine SO.takeT rfl rfl rfl b11 ?_
        refine SO.v rfl (opv_move rfl) ?_
        refine SO.takeT rfl rfl rfl b11 ?_
        obtain ⟨x14, hx15, h⟩ := opt_bind h
        obtain ⟨r16, hr17, hc18⟩ := relR.at hrel9 hx15
        refine SO.v rfl (opv_idx Try.underlying60 Try.sizeOf65 hR10 rfl rfl hr17) ?_
        refine SO.takeT rfl rfl rfl b11 ?_
        refine SO.v rfl (opv_fieldIdx Try.underlying65 rfl Try.sizeOf3 hR10 hr17 rfl rfl) ?_
        refine SO.takeT rfl rfl rfl b11 ?_
        refine SO.loadI1 (j := 6) rfl Try.isAgg3 (Rd.tail (Rd.head hR10)) hr17 rfl rfl rfl (hc18.val rfl) ?_
        refine SO.takeT rfl rfl rfl b11 ?_
        refine SO.v rfl (opv_geq rfl rfl) ?_
        cases h
        refine SO.v rfl (opv_pick_f' b11 rfl rfl) ?_
        refine SO.b3 ?_
        refine SO.b3 ?_
        refine SO.b2 ?_
        refine SO.b3 ?_
        exact hk2.fitc (m := 10) rfl (rfl) rfl
    clear hc13
    replace h := hgk
    refine SO.nil ?_
    rcases bool_or c12 with b19 | b19
    · replace h := cond_t b19 h
      refine S.condT rfl b19 ?_
      refine S.seq ?_
      refine S.region ?_
      refine SO.v rfl (opv_assign rfl) ?_
      refine SO.nil ?_
      refine S.to (ρ' := [(6, .int .i64 10)]) ⟨rfl, trivial⟩ ?_
      cases h
      refine S.closeR ?_
      refine S.b3 ?_
      refine S.b3 ?_
      refine S.b2 ?_
      refine S.b3 ?_
      exact S.ret1 Try.func51 rfl rfl (fun w hs hk => hR w _ _ ⟨v0_Slots, v0_Objs, rfl, rfl⟩ hs hk)
    · replace h := cond_f b19 h
      refine S.condF rfl b19 ?_
      refine S.skip ?_
      refine S.seq ?_
      refine S.region ?_
      refine SO.v rfl (opv_move rfl) ?_
      refine SO.v rfl (opv_nilCheck rfl) ?_
      refine SO.v rfl (opv_fieldAddr Try.underlying63 rfl Try.sizeOf60 rfl rfl) ?_
      refine SO.b1 ?_
      refine SO.load1 rfl Try.isAgg60 rfl rfl ?_
      refine SO.v rfl (opv_move rfl) ?_
      refine SO.v rfl (opv_move rfl) ?_
      obtain ⟨x20, hx21, h⟩ := opt_bind h
      obtain ⟨r22, hr23, hc24⟩ := relR.at hrel9 hx21
      refine SO.v rfl (opv_idx Try.underlying60 Try.sizeOf65 hR10 rfl rfl hr23) ?_
      refine SO.v rfl (opv_fieldIdx Try.underlying65 rfl Try.sizeOf3 hR10 hr23 rfl rfl) ?_
      refine SO.b1 ?_
      refine SO.storeO1 (j := 6) (q := .val (.int .i64 a2)) (z' := ({ x20 with Parent := a2 } : ref10_Slot)) Try.sizeOf3 hrel9 hx21 rfl rfl rfl rfl rfl rfl rfl (fun raws25 hrel26 hR27 => ?_)
      refine SO.nil ?_
      refine S.to (ρ' := [(0, bp bp0 0), (1, .int .i64 a1), (2, .int .i64 a2), (6, .int .i64 0)]) ⟨rfl, rfl, rfl, rfl, trivial⟩ ?_
      refine S.seq ?_
      refine S.b2 ?_
      refine S.openR fun raws28 A29 hrel30 hR31 => ?_
      obtain ⟨x34, hx35, h⟩ := opt_bind h
      obtain ⟨r36, hr37, hc38⟩ := relR.at hrel26 hx35
      obtain ⟨u39, hu40, hru41⟩ := hc38.sl 7 rfl
      obtain ⟨zs43, hz44, h⟩ := opt_bind h
      obtain ⟨x47, hx48, h⟩ := opt_bind h
      obtain ⟨r49, hr50, hc51⟩ := relR.at hrel26 hx48
      refine S.draw' (Z := fun Q => ∀ (_ : Unit) (_ : Unit) (_ : Unit) (_ : Unit) (_ : Unit), Q [(6, .int .i64 0)] [OwnO 58 kr_ref10_Obj v0_Objs raws28 A29 a0.Objs, OwnR 65 kr_ref10_Slot v0_Slots ((a0.Slots.set a1.toNat ({ x20 with Parent := a2 } : ref10_Slot)).set a2.toNat ({ x47 with Kids := zs43 } : ref10_Slot)), Box bp0 [v0_Slots, v0_Objs, .int .i64 a0.NS, .int .i64 a0.NO], F]) (T := [tS 0 (bp bp0 0), tS 2 (.int .i64 a2), tS 1 (.int .i64 a1), tS 6 (.int .i64 0), tR (OwnO 58 kr_ref10_Obj v0_Objs raws28 A29 a0.Objs), tR (OwnO 65 kr_ref10_Slot v0_Slots raws25 A8 (a0.Slots.set a1.toNat ({ x20 with Parent := a2 } : ref10_Slot))), tR (Box bp0 [v0_Slots, v0_Objs, .int .i64 a0.NS, .int .i64 a0.NO]), tR (F), tS 41 (bp bp0 0), tS 42 (bp bp0 0), tS 43 (bp bp0 0), tS 44 (v0_Slots), tS 45 (.int .i64 a2), tS 46 (.int .i64 a1), ⟨Value, [47], (fun v32 => [(47, v32)]), (fun v32 => [Own 3 (ekI .i64) v32 ([a1])]), fun _ => rfl⟩, tS 48 (bp bp0 0), tS 49 (bp bp0 0), tS 50 (bp bp0 0), tS 51 (v0_Slots), tS 52 (.int .i64 a2), tS 53 (idxp v0_Slots (a2.toNat * kr_ref10_Slot.sz)), tS 54 (idxp v0_Slots (a2.toNat * kr_ref10_Slot.sz + 7)), tS 55 (u39), ⟨Value, [56], (fun v45 => [(56, v45)]), (fun v45 => [Own 3 (ekI .i64) v45 zs43]), fun _ => rfl⟩, tS 57 (idxp v0_Slots (a2.toNat * kr_ref10_Slot.sz)), tS 58 (idxp v0_Slots (a2.toNat * kr_ref10_Slot.sz + 7)), tR (OwnR 65 kr_ref10_Slot v0_Slots ((a0.Slots.set a1.toNat ({ x20 with Parent := a2 } : ref10_Slot)).set a2.toNat ({ x47 with Kids := zs43 } : ref10_Slot)))]) (D := [⟨[0], [], [8]⟩, ⟨[8], [], [9]⟩, ⟨[9], [], [10]⟩, ⟨[10, 6], [], [11]⟩, ⟨[1], [], [12]⟩, ⟨[2], [], [13]⟩, ⟨[13], [], [14]⟩, ⟨[0], [], [15]⟩, ⟨[15], [], [16]⟩, ⟨[16], [], [17]⟩, ⟨[17, 6], [], [18]⟩, ⟨[1], [], [19]⟩, ⟨[18, 19, 5], [], [20]⟩, ⟨[20, 5], [], [21]⟩, ⟨[21, 5], [], [22]⟩, ⟨[22, 5], [14], [23]⟩, ⟨[11, 12, 5], [], [24]⟩, ⟨[24, 5], [], [25]⟩, ⟨[25], [23, 5], [26]⟩]) (ini := [0, 1, 2, 3, 4, 5, 6, 7]) (fin := [3, 4, 26, 6, 7]) (bf := [[], [0], [0, 1], [0, 1, 2], [], [], [5], [], [7], [7, 8], [7, 8, 9], [], [7, 8, 9, 10, 11], [7, 8, 9, 10, 11, 12], [7, 8, 9, 10, 11, 12, 13], [5, 6, 7, 8, 9, 10, 11, 12, 13, 14], [0, 1, 2, 3, 4, 5, 6, 7, 8, 9, 10, 11, 12, 13, 14, 15], [0, 1, 2, 3, 4, 5, 6, 7, 8, 9, 10, 11, 12, 13, 14, 15, 16], [0, 1, 2, 3, 4, 5, 6, 7, 8, 9, 10, 11, 12, 13, 14, 15, 16, 17]]) (by kernel_rfl) (by kernel_rfl) (fun x w h1 h2 => (.cons () (.cons () (.cons () (.cons () (.cons () (.cons () (.cons () (.cons () (.nil ⟨EnvAll.of h1 ⟨rfl, rfl, rfl, rfl, trivial⟩, h2⟩)))))))))) (fun Q => by kernel_rfl) ⟨?_, ?_, ?_, ?_, ?_, ?_, ?_, ?_, ?_, ?_, ?_, ?_, ?_, ?_, ?_, ?_, ?_, ?_, ?_, trivial⟩ ?_
      · rintro Fr _
        refine SO.v rfl (opv_move rfl) ?_
        exact SO.nilZ fun a w h1 h2 h3 h4 h5 => PZ.of h1 h3 h5 (.cons () (.cons () (.nil ⟨EnvAll.of h2 ⟨rfl, rfl, trivial⟩, h4⟩)))
      · rintro Fr _
        refine SO.v rfl (opv_nilCheck rfl) ?_
        exact SO.nilZ fun a w h1 h2 h3 h4 h5 => PZ.of h1 h3 h5 (.cons () (.cons () (.nil ⟨EnvAll.of h2 ⟨rfl, rfl, trivial⟩, h4⟩)))
      · rintro Fr _
        refine SO.v rfl (opv_fieldAddr Try.underlying63 rfl Try.sizeOf60 rfl rfl) ?_
        exact SO.nilZ fun a w h1 h2 h3 h4 h5 => PZ.of h1 h3 h5 (.cons () (.cons () (.nil ⟨EnvAll.of h2 ⟨rfl, rfl, trivial⟩, h4⟩)))
      · rintro Fr _ _
        refine SO.load1 rfl Try.isAgg60 rfl rfl ?_
        exact SO.nilZ fun a w h1 h2 h3 h4 h5 => PZ.of h1 h3 h5 (.cons () (.cons () (.cons () (.nil ⟨EnvAll.of h2 ⟨rfl, rfl, trivial⟩, h4⟩))))
      · rintro Fr _
        refine SO.v rfl (opv_move rfl) ?_
        exact SO.nilZ fun a w h1 h2 h3 h4 h5 => PZ.of h1 h3 h5 (.cons () (.cons () (.nil ⟨EnvAll.of h2 ⟨rfl, rfl, trivial⟩, h4⟩)))
      · rintro Fr _
        refine SO.v rfl (opv_move rfl) ?_
        exact SO.nilZ fun a w h1 h2 h3 h4 h5 => PZ.of h1 h3 h5 (.cons () (.cons () (.nil ⟨EnvAll.of h2 ⟨rfl, rfl, trivial⟩, h4⟩)))
      · rintro Fr _
        refine SO.buildSlice (K := ekI .i64) (xs := [a1]) (cs := [.int .i64 a1]) rfl Try.underlying55 Try.sizeOf3 Try.zeroValue3 rfl rfl rfl (by kernel_rfl) rfl rfl rfl (fun v32 hr33 => ?_)
        exact SO.nilZ fun a w h1 h2 h3 h4 h5 => PZ.of h1 h3 h5 (.cons () (.cons v32 (.nil ⟨EnvAll.of h2 ⟨rfl, rfl, trivial⟩, h4⟩)))
      · rintro Fr _
        refine SO.v rfl (opv_move rfl) ?_
        exact SO.nilZ fun a w h1 h2 h3 h4 h5 => PZ.of h1 h3 h5 (.cons () (.cons () (.nil ⟨EnvAll.of h2 ⟨rfl, rfl, trivial⟩, h4⟩)))
      · rintro Fr _
        refine SO.v rfl (opv_nilCheck rfl) ?_
        exact SO.nilZ fun a w h1 h2 h3 h4 h5 => PZ.of h1 h3 h5 (.cons () (.cons () (.nil ⟨EnvAll.of h2 ⟨rfl, rfl, trivial⟩, h4⟩)))
      · rintro Fr _
        refine SO.v rfl (opv_fieldAddr Try.underlying63 rfl Try.sizeOf60 rfl rfl) ?_
        exact SO.nilZ fun a w h1 h2 h3 h4 h5 => PZ.of h1 h3 h5 (.cons () (.cons () (.nil ⟨EnvAll.of h2 ⟨rfl, rfl, trivial⟩, h4⟩)))
      · rintro Fr _ _
        refine SO.load1 rfl Try.isAgg60 rfl rfl ?_
        exact SO.nilZ fun a w h1 h2 h3 h4 h5 => PZ.of h1 h3 h5 (.cons () (.cons () (.cons () (.nil ⟨EnvAll.of h2 ⟨rfl, rfl, trivial⟩, h4⟩))))
      · rintro Fr _
        refine SO.v rfl (opv_move rfl) ?_
        exact SO.nilZ fun a w h1 h2 h3 h4 h5 => PZ.of h1 h3 h5 (.cons () (.cons () (.nil ⟨EnvAll.of h2 ⟨rfl, rfl, trivial⟩, h4⟩)))
      · rintro Fr _ _ _
        refine SO.v rfl (opv_idx Try.underlying60 Try.sizeOf65 hR27 rfl rfl hr37) ?_
        exact SO.nilZ fun a w h1 h2 h3 h4 h5 => PZ.of h1 h3 h5 (.cons () (.cons () (.cons () (.cons () (.nil ⟨EnvAll.of h2 ⟨rfl, rfl, rfl, trivial⟩, h4⟩)))))
      · rintro Fr _ _
        refine SO.v rfl (opv_fieldIdx Try.underlying65 rfl Try.sizeOf55 hR27 hr37 rfl rfl) ?_
        exact SO.nilZ fun a w h1 h2 h3 h4 h5 => PZ.of h1 h3 h5 (.cons () (.cons () (.cons () (.nil ⟨EnvAll.of h2 ⟨rfl, rfl, trivial⟩, h4⟩))))
      · rintro Fr _ _
        refine SO.loadI1 (j := 7) rfl Try.isAgg55 (Rd.head hR27) hr37 rfl rfl rfl hu40 ?_
        exact SO.nilZ fun a w h1 h2 h3 h4 h5 => PZ.of h1 h3 h5 (.cons () (.cons () (.cons () (.nil ⟨EnvAll.of h2 ⟨rfl, rfl, trivial⟩, h4⟩))))
      · rintro Fr _ _ v32
        refine SO.b1 ?_
        refine SO.rd fun hr42 => ?_
        refine SO.append rfl Try.underlying55 Try.underlying55 inf3 rfl rfl rfl (by decide) rfl rfl rfl (Rd.head (Rd.pool hru41)) hz44 (fun v45 => ?_)
        refine SO.rd fun hr46 => ?_
        refine SO.b1 ?_
        exact SO.nilZ fun a w h1 h2 h3 h4 h5 => PZ.of h1 h3 h5 (.cons () (.cons () (.cons v45 (.nil ⟨EnvAll.of h2 ⟨rfl, rfl, trivial⟩, h4⟩))))
      · rintro Fr _ _ _
        refine SO.v rfl (opv_idx Try.underlying60 Try.sizeOf65 hR27 rfl rfl hr50) ?_
        exact SO.nilZ fun a w h1 h2 h3 h4 h5 => PZ.of h1 h3 h5 (.cons () (.cons () (.cons () (.cons () (.nil ⟨EnvAll.of h2 ⟨rfl, rfl, rfl, trivial⟩, h4⟩)))))
      · rintro Fr _ _
        refine SO.v rfl (opv_fieldIdx Try.underlying65 rfl Try.sizeOf55 hR27 hr50 rfl rfl) ?_
        exact SO.nilZ fun a w h1 h2 h3 h4 h5 => PZ.of h1 h3 h5 (.cons () (.cons () (.cons () (.nil ⟨EnvAll.of h2 ⟨rfl, rfl, trivial⟩, h4⟩))))
      · rintro Fr _ v45 _
        refine SO.rd fun hr52 => ?_
        refine SO.b1 ?_
        refine SO.b1 ?_
        refine SO.freeze hrel26 fun A53 hcov54 hru55 hrel56 hR57 => ?_
        refine SO.storeO1 (j := 7) (q := .sl (ekI .i64) zs43) (z' := ({ x47 with Kids := zs43 } : ref10_Slot)) Try.sizeOf55 hrel56 hx48 rfl rfl (Rd.one hru55) rfl rfl rfl hru55 (fun raws58 hrel59 hR60 => ?_)
        refine SO.closeR ?_
        exact SO.nilZ fun a w h1 h2 h3 h4 h5 => PZ.of h1 h3 h5 (.cons () (.cons () (.nil ⟨EnvAll.of h2 ⟨rfl, trivial⟩, h4⟩)))
      rintro _ _ _ _ _
      refine S.to (ρ' := [(6, .int .i64 0)]) ⟨rfl, trivial⟩ ?_
      refine S.seq ?_
      refine S.region ?_
      refine SO.v rfl (opv_assign rfl) ?_
      refine SO.nil ?_
      cases h
      refine S.closeR ?_
      refine S.b3 ?_
      refine S.b1 ?_
      refine S.b2 ?_
      refine S.b3 ?_
      exact S.ret1 Try.func51 rfl rfl (fun w hs hk => hR w _ _ ⟨v0_Slots, v0_Objs, rfl, rfl⟩ hs hk)
end Go.Proofs
namespace Go.Proofs
open Go.Sl Go.RowKit
/-! 52 padstone/padstoneref10.without -/
def ref10_without.l1 (a0 : List Int) (a1 : Int) : Nat → (Int × Bool × (List Int)) → Option ((List Int))
  | 0, _ => none
  | k + 1, (x7_1, x6_1, x5_1) => bif decide (x7_1 < (a0.length : Int)) then ((at_ a0 x7_1).bind fun x3 => bif (x3 == a1) && (!x6_1) then (ref10_without.l1 a0 a1 k (w64 (x7_1 + 1), true, x5_1)) else ((at_ a0 x7_1).bind fun x7 => (app x5_1 ([x7])).bind fun zs11 => ref10_without.l1 a0 a1 k (w64 (x7_1 + 1), x6_1, zs11))) else (some x5_1)
def ref10_without.f (k : Nat) (a0 : List Int) (a1 : Int) : Option ((List Int)) :=
  (ref10_without.l1 a0 a1 k (0, false, [])).bind fun j5_e1 => some j5_e1
set_option maxHeartbeats 8000000 in
set_option maxRecDepth 100000 in
theorem ref10_without.ct (k : Nat) (v0 : Value) (a0 : List Int) (a1 : Int) (r0 : List Int) (h : ref10_without.f k a0 a1 = some r0) :
    Ct Try.prog 52 [v0, .int .i64 a1] (fun F => Rd (ekI .i64) v0 a0 F) [] (fun u H' => ∃ v_r0, u = v_r0 ∧ H' = [Own 3 (ekI .i64) v_r0 r0]) := by
  unfold ref10_without.f at h
  refine Ct.intro (n := 32) Try.func52 rfl rfl rfl ?_
  intro R w0 F hF hR
  have hF0 := hF
  refine S.seq ?_
  refine S.region ?_
  refine SO.v rfl (opv_assign rfl) ?_
  refine SO.nil ?_
  refine S.seq ?_
  refine S.region ?_
  refine SO.v rfl (opv_assign rfl) ?_
  refine SO.nil ?_
  refine S.seq ?_
  refine S.region ?_
  refine SO.v rfl (opv_assign rfl) ?_
  refine SO.nil ?_
  refine S.seq ?_
  refine S.seq ?_
  refine S.region ?_
  refine SO.v rfl (opv_assign rfl) ?_
  refine SO.nil ?_
  obtain ⟨j5_e1, hl1, h⟩ := opt_bind h
  refine S.newOwn 3 (ekI .i64) ?_
  refine S.b1 ?_
  refine S.b1 ?_
  refine S.to (ρ' := [(7, .int .i64 0), (6, .bool false), (5, .slice none 0 0), (4, .slice none 0 0), (0, v0), (1, .int .i64 a1)]) ⟨rfl, rfl, rfl, rfl, rfl, rfl, trivial⟩ ?_
  refine S.forloop (X := (Int × Bool × (List Int)) × Value) (O := (List Int)) (fun m x => ref10_without.l1 a0 a1 m x.1) (fun x => match x with | ((x7_1, x6_1, x5_1), v5_1) => [(7, .int .i64 x7_1), (6, .bool x6_1), (5, v5_1), (4, .slice none 0 0), (0, v0), (1, .int .i64 a1)]) (fun x => match x with | ((x7_1, x6_1, x5_1), v5_1) => [Own 3 (ekI .i64) v5_1 x5_1, F]) (fun Sk => (fun j5_e1 => ∀ v5_e1 : Value, Sk [(4, .slice none 0 0), (5, v5_e1)] [Own 3 (ekI .i64) v5_e1 j5_e1, F])) (fun _ => rfl) ?_ (m := k) (x := ((0, false, []), .slice none 0 0)) hl1 ?_
  · clear h hl1
    intro k x o_1 h hK1 ih1
    obtain ⟨⟨x7_1, x6_1, x5_1⟩, v5_1⟩ := x
    replace h : ref10_without.l1 a0 a1 (k + 1) (x7_1, x6_1, x5_1) = some o_1 := h
    first | rw [ref10_without.l1] at h | unfold ref10_without.l1 at h
    refine S.rd fun hr1 => ?_
    refine S.seq ?_
    refine S.seq ?_
    refine S.region ?_
    refine SO.v rfl (opv_move rfl) ?_
    refine SO.v rfl (opv_move rfl) ?_
    refine SO.v rfl (opv_lenR rfl Try.underlying55 hF0 rfl) ?_
    refine SO.v rfl (opv_lss rfl rfl) ?_
    refine SO.nil ?_
    rcases bool_or (decide (x7_1 < (a0.length : Int))) with b2 | b2
    · replace h := cond_t b2 h
      refine S.condT rfl b2 ?_
      refine S.skip ?_
      refine S.seq ?_
      refine S.block ?_
      refine S.seq ?_
      refine S.region ?_
      refine SO.v rfl (opv_move rfl) ?_
      refine SO.v rfl (opv_move rfl) ?_
      obtain ⟨x3, hx4, h⟩ := opt_bind h
      refine SO.v rfl (opv_idx Try.underlying55 Try.sizeOf3 hF0 rfl rfl hx4) ?_
      refine SO.loadI1 (j := 0) rfl Try.isAgg3 (Rd.tail (Rd.head hF0)) hx4 rfl rfl rfl rfl ?_
      refine SO.v rfl (opv_move rfl) ?_
      refine SO.v rfl (opv_eql rfl rfl) ?_
      refine SO.v rfl (opv_move rfl) ?_
      refine SO.cut 3 23 (.bool ((x3 == a1) && (!x6_1))) [Own 3 (ekI .i64) v5_1 x5_1, F] (fun l2 hk2 => ?_) ?_
      · rcases bool_or (x3 == a1) with b5 | b5
        · refine SO.takeT rfl rfl rfl b5 ?_
          refine SO.v rfl (opv_move rfl) ?_
          refine SO.takeT rfl rfl rfl b5 ?_
          refine SO.v rfl (opv_not rfl) ?_
          refine SO.v rfl (opv_pick_t' b5 rfl rfl) ?_
          refine SO.b1 ?_
          refine SO.b1 ?_
          exact hk2.fitc (m := 3) rfl (and_t b5) rfl
        · refine SO.passF rfl rfl rfl b5 rfl rfl ?_
          refine SO.passF rfl rfl rfl b5 rfl rfl ?_
          refine SO.v rfl (opv_pick_f' b5 rfl rfl) ?_
          refine SO.b1 ?_
          refine SO.b1 ?_
          exact hk2.fitc (m := 3) rfl (and_f b5) rfl
      refine SO.nil ?_
      refine S.to (ρ' := [(7, .int .i64 x7_1), (6, .bool x6_1), (5, v5_1), (4, .slice none 0 0), (0, v0), (1, .int .i64 a1), (23, .bool ((x3 == a1) && (!x6_1)))]) ⟨rfl, rfl, rfl, rfl, rfl, rfl, rfl, trivial⟩ ?_
      rcases bool_or ((x3 == a1) && (!x6_1)) with b6 | b6
      · replace h := cond_t b6 h
        refine S.condT rfl b6 ?_
        refine S.region ?_
        refine SO.v rfl (opv_assign rfl) ?_
        refine SO.nil ?_
        refine S.inBlock ?_
        refine S.region ?_
        refine SO.v rfl (opv_move rfl) ?_
        refine SO.v rfl (opv_add rfl rfl) ?_
        refine SO.v rfl (opv_assign rfl) ?_
        refine SO.nil ?_
        refine S.b1 ?_
        refine S.b1 ?_
        refine S.to ?_ (ih1 ((w64 (x7_1 + 1), true, x5_1), v5_1) h)
        exact ⟨rfl, rfl, rfl, rfl, rfl, rfl, trivial⟩
      · replace h := cond_f b6 h
        refine S.condF rfl b6 ?_
        refine S.region ?_
        refine SO.v rfl (opv_move rfl) ?_
        refine SO.v rfl (opv_move rfl) ?_
        refine SO.v rfl (opv_move rfl) ?_
        obtain ⟨x7, hx8, h⟩ := opt_bind h
        refine SO.v rfl (opv_idx Try.underlying55 Try.sizeOf3 hF0 rfl rfl hx8) ?_
        refine SO.loadI1 (j := 0) rfl Try.isAgg3 (Rd.tail (Rd.head hF0)) hx8 rfl rfl rfl rfl ?_
        refine SO.buildSlice (K := ekI .i64) (xs := [x7]) (cs := [.int .i64 x7]) rfl Try.underlying55 Try.sizeOf3 Try.zeroValue3 rfl rfl rfl (by kernel_rfl) rfl rfl rfl (fun v9 hr10 => ?_)
        obtain ⟨zs11, hz12, h⟩ := opt_bind h
        refine SO.b1 ?_
        refine SO.append rfl Try.underlying55 Try.underlying55 inf3 rfl rfl rfl (by decide) rfl rfl rfl (Rd.head hr10) hz12 (fun v13 => ?_)
        refine SO.rd fun hr14 => ?_
        refine SO.v rfl (opv_assign rfl) ?_
        refine SO.nil ?_
        refine S.to (ρ' := [(7, .int .i64 x7_1), (6, .bool x6_1), (5, v13), (4, .slice none 0 0), (0, v0), (1, .int .i64 a1)]) ⟨rfl, rfl, rfl, rfl, rfl, rfl, trivial⟩ ?_
        refine S.inBlock ?_
        refine S.region ?_
        refine SO.v rfl (opv_move rfl) ?_
        refine SO.v rfl (opv_add rfl rfl) ?_
        refine SO.v rfl (opv_assign rfl) ?_
        refine SO.nil ?_
        refine S.b1 ?_
        refine S.drop ?_
        refine S.b1 ?_
        refine S.b1 ?_
        refine S.to ?_ (ih1 ((w64 (x7_1 + 1), x6_1, zs11), v13) h)
        exact ⟨rfl, rfl, rfl, rfl, rfl, rfl, trivial⟩
    · replace h := cond_f b2 h
      refine S.condF rfl b2 ?_
      refine S.exit rfl ?_
      cases h
      refine S.b1 ?_
      refine S.b1 ?_
      refine S.to ?_ (hK1 v5_1)
      exact ⟨rfl, rfl, trivial⟩
  rintro v5_e1
  refine S.rd fun hr15 => ?_
  refine S.seq ?_
  refine S.region ?_
  refine SO.v rfl (opv_move rfl) ?_
  refine SO.v rfl (opv_assign rfl) ?_
  refine SO.nil ?_
  cases h
  refine S.b1 ?_
  refine S.b1 ?_
  exact S.ret1 Try.func52 rfl rfl (fun w hs hk => hR w _ _ ⟨v5_e1, rfl, rfl⟩ hs hk)
end Go.Proofs
namespace Go.Proofs
open Go.Sl Go.RowKit
/-! 34 (*padstone/padstoneref10.State).Unlink -/
def ref10_State_Unlink.f (k : Nat) (a0 : ref10_State) (a1 : Int) : Option ((Int × ref10_State)) :=
  (ref10_slot.f a1).bind fun t1 => bif !t1 then (some (2, a0)) else ((at_ a0.Slots a1).bind fun x4 => bif decide (0 ≤ x4.Parent) then ((at_ a0.Slots x4.Parent).bind fun x18 => (ref10_without.f k x18.Kids a1).bind fun t26 => (at_ a0.Slots x4.Parent).bind fun x30 => (at_ (a0.Slots.set x4.Parent.toNat ({ x30 with Kids := t26 } : ref10_Slot)) a1).bind fun x44 => some (0, ({ a0 with Slots := (a0.Slots.set x4.Parent.toNat ({ x30 with Kids := t26 } : ref10_Slot)).set a1.toNat ({ x44 with Parent := -1 } : ref10_Slot) } : ref10_State))) else (some (0, a0)))
set_option maxHeartbeats 8000000 in
set_option maxRecDepth 100000 in
theorem ref10_State_Unlink.ct (k : Nat) (bp0 : Nat) (v0_Slots : Value) (v0_Objs : Value) (a0 : ref10_State) (a1 : Int) (r0 : Int) (rp0 : ref10_State) (h : ref10_State_Unlink.f k a0 a1 = some (r0, rp0)) :
    Ct Try.prog 34 [bp bp0 0, .int .i64 a1] (fun _ => True) [Box bp0 [v0_Slots, v0_Objs, .int .i64 a0.NS, .int .i64 a0.NO], OwnR 65 kr_ref10_Slot v0_Slots a0.Slots, OwnR 58 kr_ref10_Obj v0_Objs a0.Objs] (fun u H' => ∃ rw0_Slots rw0_Objs, u = .int .i64 r0 ∧ H' = [Box bp0 [rw0_Slots, rw0_Objs, .int .i64 rp0.NS, .int .i64 rp0.NO], OwnR 65 kr_ref10_Slot rw0_Slots rp0.Slots, OwnR 58 kr_ref10_Obj rw0_Objs rp0.Objs]) := by
  unfold ref10_State_Unlink.f at h
  refine Ct.intro (n := 45) Try.func34 rfl rfl rfl ?_
  intro R w0 F hF hR
  refine S.seq ?_
  refine S.region ?_
  refine SO.v rfl (opv_assign rfl) ?_
  refine SO.nil ?_
  refine S.seq ?_
  refine S.region ?_
  refine SO.v rfl (opv_move rfl) ?_
  obtain ⟨t1, ht2, h⟩ := opt_bind h
  refine SO.call (pre := []) rfl Try.call33 rfl rfl rfl (ref10_slot.ct _ _ ht2) trivial ?_
  rintro _ _ ⟨rfl, rfl⟩
  refine SO.v rfl (opv_assign rfl) ?_
  refine SO.nil ?_
  refine S.seq ?_
  refine S.seq ?_
  refine S.region ?_
  refine SO.v rfl (opv_move rfl) ?_
  refine SO.v rfl (opv_not rfl) ?_
  refine SO.nil ?_
  rcases bool_or (!t1) with b3 | b3
  · replace h := cond_t b3 h
    refine S.condT rfl b3 ?_
    refine S.seq ?_
    refine S.region ?_
    refine SO.v rfl (opv_assign rfl) ?_
    refine SO.nil ?_
    refine S.to (ρ' := [(4, .int .i64 2)]) ⟨rfl, trivial⟩ ?_
    cases h
    refine S.b3 ?_
    refine S.b3 ?_
    refine S.b3 ?_
    refine S.b3 ?_
    exact S.ret1 Try.func34 rfl rfl (fun w hs hk => hR w _ _ ⟨v0_Slots, v0_Objs, rfl, rfl⟩ hs hk)
  · replace h := cond_f b3 h
    refine S.condF rfl b3 ?_
    refine S.skip ?_
    refine S.seq ?_
    refine S.region ?_
    refine SO.v rfl (opv_move rfl) ?_
    refine SO.v rfl (opv_nilCheck rfl) ?_
    refine SO.v rfl (opv_fieldAddr Try.underlying63 rfl Try.sizeOf60 rfl rfl) ?_
    refine SO.load1 rfl Try.isAgg60 rfl rfl ?_
    refine SO.v rfl (opv_move rfl) ?_
    refine SO.b1 ?_
    refine SO.openR fun raws9 A10 hrel11 hR12 => ?_
    obtain ⟨x4, hx5, h⟩ := opt_bind h
    obtain ⟨r6, hr7, hc8⟩ := relR.at hrel11 hx5
    refine SO.v rfl (opv_idx Try.underlying60 Try.sizeOf65 hR12 rfl rfl hr7) ?_
    refine SO.v rfl (opv_fieldIdx Try.underlying65 rfl Try.sizeOf3 hR12 hr7 rfl rfl) ?_
    refine SO.loadI1 (j := 6) rfl Try.isAgg3 (Rd.head hR12) hr7 rfl rfl rfl (hc8.val rfl) ?_
    refine SO.v rfl (opv_assign rfl) ?_
    refine SO.nil ?_
    refine S.to (ρ' := [(0, bp bp0 0), (1, .int .i64 a1), (4, .int .i64 0), (6, .int .i64 x4.Parent)]) ⟨rfl, rfl, rfl, rfl, trivial⟩ ?_
    refine S.seq ?_
    refine S.seq ?_
    refine S.region ?_
    refine SO.v rfl (opv_move rfl) ?_
    refine SO.v rfl (opv_geq rfl rfl) ?_
    refine SO.nil ?_
    rcases bool_or (decide (0 ≤ x4.Parent)) with b13 | b13
    · replace h := cond_t b13 h
      refine S.condT rfl b13 ?_
      refine S.seq ?_
      refine S.b2 ?_
      refine S.openR fun raws14 A15 hrel16 hR17 => ?_
      obtain ⟨x18, hx19, h⟩ := opt_bind h
      obtain ⟨r20, hr21, hc22⟩ := relR.at hrel11 hx19
      obtain ⟨u23, hu24, hru25⟩ := hc22.sl 7 rfl
      obtain ⟨t26, ht27, h⟩ := opt_bind h
      obtain ⟨x30, hx31, h⟩ := opt_bind h
      obtain ⟨r32, hr33, hc34⟩ := relR.at hrel11 hx31
      refine S.draw' (Z := fun Q => ∀ (_ : Unit) (_ : Unit) (_ : Unit) (_ : Unit) (_ : Unit) (_ : Unit) (_ : Unit), Q [(0, bp bp0 0), (1, .int .i64 a1), (4, .int .i64 0)] [OwnO 58 kr_ref10_Obj v0_Objs raws14 A15 a0.Objs, OwnR 65 kr_ref10_Slot v0_Slots (a0.Slots.set x4.Parent.toNat ({ x30 with Kids := t26 } : ref10_Slot)), Box bp0 [v0_Slots, v0_Objs, .int .i64 a0.NS, .int .i64 a0.NO], F]) (T := [tS 0 (bp bp0 0), tS 6 (.int .i64 x4.Parent), tS 1 (.int .i64 a1), tS 4 (.int .i64 0), tR (OwnO 58 kr_ref10_Obj v0_Objs raws14 A15 a0.Objs), tR (OwnO 65 kr_ref10_Slot v0_Slots raws9 A10 a0.Slots), tR (Box bp0 [v0_Slots, v0_Objs, .int .i64 a0.NS, .int .i64 a0.NO]), tR (F), tS 21 (bp bp0 0), tS 22 (bp bp0 0), tS 23 (bp bp0 0), tS 24 (v0_Slots), tS 25 (.int .i64 x4.Parent), tS 26 (bp bp0 0), tS 27 (bp bp0 0), tS 28 (bp bp0 0), tS 29 (v0_Slots), tS 30 (.int .i64 x4.Parent), tS 31 (idxp v0_Slots (x4.Parent.toNat * kr_ref10_Slot.sz)), tS 32 (idxp v0_Slots (x4.Parent.toNat * kr_ref10_Slot.sz + 7)), tS 33 (u23), tS 34 (.int .i64 a1), ⟨Value, [35], (fun v28 => [(35, v28)]), (fun v28 => [Own 3 (ekI .i64) v28 t26]), fun _ => rfl⟩, tS 36 (idxp v0_Slots (x4.Parent.toNat * kr_ref10_Slot.sz)), tS 37 (idxp v0_Slots (x4.Parent.toNat * kr_ref10_Slot.sz + 7)), tR (OwnR 65 kr_ref10_Slot v0_Slots (a0.Slots.set x4.Parent.toNat ({ x30 with Kids := t26 } : ref10_Slot)))]) (D := [⟨[0], [], [8]⟩, ⟨[8], [], [9]⟩, ⟨[9], [], [10]⟩, ⟨[10, 6], [], [11]⟩, ⟨[1], [], [12]⟩, ⟨[0], [], [13]⟩, ⟨[13], [], [14]⟩, ⟨[14], [], [15]⟩, ⟨[15, 6], [], [16]⟩, ⟨[1], [], [17]⟩, ⟨[16, 17, 5], [], [18]⟩, ⟨[18, 5], [], [19]⟩, ⟨[19, 5], [], [20]⟩, ⟨[2], [], [21]⟩, ⟨[20, 21, 5], [], [22]⟩, ⟨[11, 12, 5], [], [23]⟩, ⟨[23, 5], [], [24]⟩, ⟨[24], [22, 5], [25]⟩]) (ini := [0, 1, 2, 3, 4, 5, 6, 7]) (fin := [0, 2, 3, 4, 25, 6, 7]) (bf := [[], [0], [0, 1], [0, 1, 2], [], [], [5], [5, 6], [5, 6, 7], [], [5, 6, 7, 8, 9], [5, 6, 7, 8, 9, 10], [5, 6, 7, 8, 9, 10, 11], [], [5, 6, 7, 8, 9, 10, 11, 12, 13], [0, 1, 2, 3, 4, 5, 6, 7, 8, 9, 10, 11, 12, 13, 14], [0, 1, 2, 3, 4, 5, 6, 7, 8, 9, 10, 11, 12, 13, 14, 15], [0, 1, 2, 3, 4, 5, 6, 7, 8, 9, 10, 11, 12, 13, 14, 15, 16]]) (by kernel_rfl) (by kernel_rfl) (fun x w h1 h2 => (.cons () (.cons () (.cons () (.cons () (.cons () (.cons () (.cons () (.cons () (.nil ⟨EnvAll.of h1 ⟨rfl, rfl, rfl, rfl, trivial⟩, h2⟩)))))))))) (fun Q => by kernel_rfl) ⟨?_, ?_, ?_, ?_, ?_, ?_, ?_, ?_, ?_, ?_, ?_, ?_, ?_, ?_, ?_, ?_, ?_, ?_, trivial⟩ ?_
      · rintro Fr _
        refine SO.v rfl (opv_move rfl) ?_
        exact SO.nilZ fun a w h1 h2 h3 h4 h5 => PZ.of h1 h3 h5 (.cons () (.cons () (.nil ⟨EnvAll.of h2 ⟨rfl, rfl, trivial⟩, h4⟩)))
      · rintro Fr _
        refine SO.v rfl (opv_nilCheck rfl) ?_
        exact SO.nilZ fun a w h1 h2 h3 h4 h5 => PZ.of h1 h3 h5 (.cons () (.cons () (.nil ⟨EnvAll.of h2 ⟨rfl, rfl, trivial⟩, h4⟩)))
      · rintro Fr _
        refine SO.v rfl (opv_fieldAddr Try.underlying63 rfl Try.sizeOf60 rfl rfl) ?_
        exact SO.nilZ fun a w h1 h2 h3 h4 h5 => PZ.of h1 h3 h5 (.cons () (.cons () (.nil ⟨EnvAll.of h2 ⟨rfl, rfl, trivial⟩, h4⟩)))
      · rintro Fr _ _
        refine SO.load1 rfl Try.isAgg60 rfl rfl ?_
        exact SO.nilZ fun a w h1 h2 h3 h4 h5 => PZ.of h1 h3 h5 (.cons () (.cons () (.cons () (.nil ⟨EnvAll.of h2 ⟨rfl, rfl, trivial⟩, h4⟩))))
      · rintro Fr _
        refine SO.v rfl (opv_move rfl) ?_
        exact SO.nilZ fun a w h1 h2 h3 h4 h5 => PZ.of h1 h3 h5 (.cons () (.cons () (.nil ⟨EnvAll.of h2 ⟨rfl, rfl, trivial⟩, h4⟩)))
      · rintro Fr _
        refine SO.v rfl (opv_move rfl) ?_
        exact SO.nilZ fun a w h1 h2 h3 h4 h5 => PZ.of h1 h3 h5 (.cons () (.cons () (.nil ⟨EnvAll.of h2 ⟨rfl, rfl, trivial⟩, h4⟩)))
      · rintro Fr _
        refine SO.v rfl (opv_nilCheck rfl) ?_
        exact SO.nilZ fun a w h1 h2 h3 h4 h5 => PZ.of h1 h3 h5 (.cons () (.cons () (.nil ⟨EnvAll.of h2 ⟨rfl, rfl, trivial⟩, h4⟩)))
      · rintro Fr _
        refine SO.v rfl (opv_fieldAddr Try.underlying63 rfl Try.sizeOf60 rfl rfl) ?_
        exact SO.nilZ fun a w h1 h2 h3 h4 h5 => PZ.of h1 h3 h5 (.cons () (.cons () (.nil ⟨EnvAll.of h2 ⟨rfl, rfl, trivial⟩, h4⟩)))
      · rintro Fr _ _
        refine SO.load1 rfl Try.isAgg60 rfl rfl ?_
        exact SO.nilZ fun a w h1 h2 h3 h4 h5 => PZ.of h1 h3 h5 (.cons () (.cons () (.cons () (.nil ⟨EnvAll.of h2 ⟨rfl, rfl, trivial⟩, h4⟩))))
      · rintro Fr _
        refine SO.v rfl (opv_move rfl) ?_
        exact SO.nilZ fun a w h1 h2 h3 h4 h5 => PZ.of h1 h3 h5 (.cons () (.cons () (.nil ⟨EnvAll.of h2 ⟨rfl, rfl, trivial⟩, h4⟩)))
      · rintro Fr _ _ _
        refine SO.v rfl (opv_idx Try.underlying60 Try.sizeOf65 hR12 rfl rfl hr21) ?_
        exact SO.nilZ fun a w h1 h2 h3 h4 h5 => PZ.of h1 h3 h5 (.cons () (.cons () (.cons () (.cons () (.nil ⟨EnvAll.of h2 ⟨rfl, rfl, rfl, trivial⟩, h4⟩)))))
      · rintro Fr _ _
        refine SO.v rfl (opv_fieldIdx Try.underlying65 rfl Try.sizeOf55 hR12 hr21 rfl rfl) ?_
        exact SO.nilZ fun a w h1 h2 h3 h4 h5 => PZ.of h1 h3 h5 (.cons () (.cons () (.cons () (.nil ⟨EnvAll.of h2 ⟨rfl, rfl, trivial⟩, h4⟩))))
      · rintro Fr _ _
        refine SO.loadI1 (j := 7) rfl Try.isAgg55 (Rd.head hR12) hr21 rfl rfl rfl hu24 ?_
        exact SO.nilZ fun a w h1 h2 h3 h4 h5 => PZ.of h1 h3 h5 (.cons () (.cons () (.cons () (.nil ⟨EnvAll.of h2 ⟨rfl, rfl, trivial⟩, h4⟩))))
      · rintro Fr _
        refine SO.v rfl (opv_move rfl) ?_
        exact SO.nilZ fun a w h1 h2 h3 h4 h5 => PZ.of h1 h3 h5 (.cons () (.cons () (.nil ⟨EnvAll.of h2 ⟨rfl, rfl, trivial⟩, h4⟩)))
      · rintro Fr _ _ _
        refine SO.call (pre := []) rfl Try.call52 rfl rfl rfl (ref10_without.ct _ u23 _ _ _ ht27) (Rd.head (Rd.pool hru25)) ?_
        rintro v28 _ ⟨_, rfl, rfl⟩
        refine SO.rd fun hr29 => ?_
        refine SO.b1 ?_
        exact SO.nilZ fun a w h1 h2 h3 h4 h5 => PZ.of h1 h3 h5 (.cons () (.cons () (.cons () (.cons v28 (.nil ⟨EnvAll.of h2 ⟨rfl, rfl, rfl, trivial⟩, h4⟩)))))
      · rintro Fr _ _ _
        refine SO.v rfl (opv_idx Try.underlying60 Try.sizeOf65 hR12 rfl rfl hr33) ?_
        exact SO.nilZ fun a w h1 h2 h3 h4 h5 => PZ.of h1 h3 h5 (.cons () (.cons () (.cons () (.cons () (.nil ⟨EnvAll.of h2 ⟨rfl, rfl, rfl, trivial⟩, h4⟩)))))
      · rintro Fr _ _
        refine SO.v rfl (opv_fieldIdx Try.underlying65 rfl Try.sizeOf55 hR12 hr33 rfl rfl) ?_
        exact SO.nilZ fun a w h1 h2 h3 h4 h5 => PZ.of h1 h3 h5 (.cons () (.cons () (.cons () (.nil ⟨EnvAll.of h2 ⟨rfl, rfl, trivial⟩, h4⟩))))
      · rintro Fr _ v28 _
        refine SO.rd fun hr35 => ?_
        refine SO.b1 ?_
        refine SO.b1 ?_
        refine SO.freeze hrel11 fun A36 hcov37 hru38 hrel39 hR40 => ?_
        refine SO.storeO1 (j := 7) (q := .sl (ekI .i64) t26) (z' := ({ x30 with Kids := t26 } : ref10_Slot)) Try.sizeOf55 hrel39 hx31 rfl rfl (Rd.one hru38) rfl rfl rfl hru38 (fun raws41 hrel42 hR43 => ?_)
        refine SO.closeR ?_
        exact SO.nilZ fun a w h1 h2 h3 h4 h5 => PZ.of h1 h3 h5 (.cons () (.cons () (.nil ⟨EnvAll.of h2 ⟨rfl, trivial⟩, h4⟩)))
      rintro _ _ _ _ _ _ _
      refine S.to (ρ' := [(0, bp bp0 0), (1, .int .i64 a1), (4, .int .i64 0)]) ⟨rfl, rfl, rfl, trivial⟩ ?_
      refine S.region ?_
      refine SO.v rfl (opv_move rfl) ?_
      refine SO.v rfl (opv_nilCheck rfl) ?_
      refine SO.v rfl (opv_fieldAddr Try.underlying63 rfl Try.sizeOf60 rfl rfl) ?_
      refine SO.b2 ?_
      refine SO.load1 rfl Try.isAgg60 rfl rfl ?_
      refine SO.v rfl (opv_move rfl) ?_
      refine SO.b2 ?_
      refine SO.openR fun raws49 A50 hrel51 hR52 => ?_
      obtain ⟨x44, hx45, h⟩ := opt_bind h
      obtain ⟨r46, hr47, hc48⟩ := relR.at hrel51 hx45
      refine SO.v rfl (opv_idx Try.underlying60 Try.sizeOf65 hR52 rfl rfl hr47) ?_
      refine SO.v rfl (opv_fieldIdx Try.underlying65 rfl Try.sizeOf3 hR52 hr47 rfl rfl) ?_
      refine SO.storeO1 (j := 6) (q := .val (.int .i64 (-1))) (z' := ({ x44 with Parent := -1 } : ref10_Slot)) Try.sizeOf3 hrel51 hx45 rfl rfl rfl rfl rfl rfl rfl (fun raws53 hrel54 hR55 => ?_)
      refine SO.nil ?_
      refine S.to (ρ' := [(4, .int .i64 0)]) ⟨rfl, trivial⟩ ?_
      refine S.seq ?_
      refine S.region ?_
      refine SO.v rfl (opv_assign rfl) ?_
      refine SO.nil ?_
      cases h
      refine S.closeR ?_
      refine S.b2 ?_
      refine S.closeR ?_
      refine S.b3 ?_
      refine S.b1 ?_
      refine S.b2 ?_
      refine S.b3 ?_
      exact S.ret1 Try.func34 rfl rfl (fun w hs hk => hR w _ _ ⟨v0_Slots, v0_Objs, rfl, rfl⟩ hs hk)
    · replace h := cond_f b13 h
      refine S.condF rfl b13 ?_
      refine S.skip ?_
      refine S.seq ?_
      refine S.region ?_
      refine SO.v rfl (opv_assign rfl) ?_
      refine SO.nil ?_
      cases h
      refine S.closeR ?_
      refine S.b3 ?_
      refine S.b3 ?_
      refine S.b2 ?_
      refine S.b3 ?_
      exact S.ret1 Try.func34 rfl rfl (fun w hs hk => hR w _ _ ⟨v0_Slots, v0_Objs, rfl, rfl⟩ hs hk)
end Go.Proofs
namespace Go.Proofs
open Go.Sl Go.RowKit
/-! 32 (*padstone/padstoneref10.State).Replace -/
def ref10_State_Replace.l2 (a1 : Int) (a2 : Int) : Nat → (Int × (List Int)) → Option ((List Int))
  | 0, _ => none
  | k + 1, (x11_2, qv53_2) => bif decide (x11_2 < (qv53_2.length : Int)) then ((at_ qv53_2 x11_2).bind fun x57 => bif x57 == a1 then ((at_ qv53_2 x11_2).bind fun x60 => ref10_State_Replace.l2 a1 a2 k (w64 (x11_2 + 1), qv53_2.set x11_2.toNat a2)) else (ref10_State_Replace.l2 a1 a2 k (w64 (x11_2 + 1), qv53_2))) else (some qv53_2)
def ref10_State_Replace.l3 (a2 : Int) : Nat → (Int × (List ref10_Slot)) → Option ((List ref10_Slot))
  | 0, _ => none
  | k + 1, (x12_3, qv0_Slots_3) => (at_ qv0_Slots_3 a2).bind fun x125 => bif decide (x12_3 < (x125.Kids.length : Int)) then ((at_ qv0_Slots_3 a2).bind fun x138 => (at_ x138.Kids x12_3).bind fun x146 => (at_ qv0_Slots_3 x146).bind fun x148 => ref10_State_Replace.l3 a2 k (w64 (x12_3 + 1), qv0_Slots_3.set x146.toNat ({ x148 with Parent := a2 } : ref10_Slot))) else (some qv0_Slots_3)
def ref10_State_Replace.f (k : Nat) (a0 : ref10_State) (a1 : Int) (a2 : Int) : Option ((Int × ref10_State)) :=
  (ref10_slot.f a1).bind fun t1 => (ref10_slot.f a2).bind fun t3 => bif (!t1) || (!t3) then (some (2, a0)) else ((bif a1 == a2 then (some true) else ((at_ a0.Slots a2).bind fun x14 => some (decide (0 ≤ x14.Parent)))).bind fun c12 => (bif c12 then (some true) else ((at_ a0.Slots a2).bind fun x26 => some (decide (0 < (x26.Kids.length : Int))))).bind fun c24 => bif c24 then (some (10, a0)) else ((at_ a0.Slots a1).bind fun x35 => (bif decide (0 ≤ x35.Parent) then ((at_ a0.Slots x35.Parent).bind fun x43 => (app ([]) x43.Kids).bind fun zs51 => (ref10_State_Replace.l2 a1 a2 k (0, zs51)).bind fun qv53_e2 => (at_ a0.Slots x35.Parent).bind fun x64 => some (a0.Slots.set x35.Parent.toNat ({ x64 with Kids := qv53_e2 } : ref10_Slot))) else (some a0.Slots)).bind fun qv0_Slots_1 => (at_ qv0_Slots_1 a2).bind fun x77 => (at_ (qv0_Slots_1.set a2.toNat ({ x77 with Parent := x35.Parent } : ref10_Slot)) a1).bind fun x89 => (at_ ((qv0_Slots_1.set a2.toNat ({ x77 with Parent := x35.Parent } : ref10_Slot)).set a1.toNat ({ x89 with Parent := -1 } : ref10_Slot)) a1).bind fun x97 => (at_ ((qv0_Slots_1.set a2.toNat ({ x77 with Parent := x35.Parent } : ref10_Slot)).set a1.toNat ({ x89 with Parent := -1 } : ref10_Slot)) a2).bind fun x105 => (at_ (((qv0_Slots_1.set a2.toNat ({ x77 with Parent := x35.Parent } : ref10_Slot)).set a1.toNat ({ x89 with Parent := -1 } : ref10_Slot)).set a2.toNat ({ x105 with Kids := x97.Kids } : ref10_Slot)) a1).bind fun x113 => (ref10_State_Replace.l3 a2 k (0, (((qv0_Slots_1.set a2.toNat ({ x77 with Parent := x35.Parent } : ref10_Slot)).set a1.toNat ({ x89 with Parent := -1 } : ref10_Slot)).set a2.toNat ({ x105 with Kids := x97.Kids } : ref10_Slot)).set a1.toNat ({ x113 with Kids := [] } : ref10_Slot))).bind fun qv0_Slots_e3 => some (0, ({ a0 with Slots := qv0_Slots_e3 } : ref10_State))))
set_option maxHeartbeats 8000000 in
set_option maxRecDepth 100000 in
theorem ref10_State_Replace.ct (k : Nat) (bp0 : Nat) (v0_Slots : Value) (v0_Objs : Value) (a0 : ref10_State) (a1 : Int) (a2 : Int) (r0 : Int) (rp0 : ref10_State) (h : ref10_State_Replace.f k a0 a1 a2 = some (r0, rp0)) :
    Ct Try.prog 32 [bp bp0 0, .int .i64 a1, .int .i64 a2] (fun _ => True) [Box bp0 [v0_Slots, v0_Objs, .int .i64 a0.NS, .int .i64 a0.NO], OwnR 65 kr_ref10_Slot v0_Slots a0.Slots, OwnR 58 kr_ref10_Obj v0_Objs a0.Objs] (fun u H' => ∃ rw0_Slots rw0_Objs, u = .int .i64 r0 ∧ H' = [Box bp0 [rw0_Slots, rw0_Objs, .int .i64 rp0.NS, .int .i64 rp0.NO], OwnR 65 kr_ref10_Slot rw0_Slots rp0.Slots, OwnR 58 kr_ref10_Obj rw0_Objs rp0.Objs]) := by
  unfold ref10_State_Replace.f at h
  refine Ct.intro (n := 161) Try.func32 rfl rfl rfl ?_
  intro R w0 F hF hR
  refine S.seq ?_
  refine S.region ?_
  refine SO.v rfl (opv_assign rfl) ?_
  refine SO.nil ?_
  refine S.seq ?_
  refine S.region ?_
  refine SO.v rfl (opv_move rfl) ?_
  obtain ⟨t1, ht2, h⟩ := opt_bind h
  refine SO.call (pre := []) rfl Try.call33 rfl rfl rfl (ref10_slot.ct _ _ ht2) trivial ?_
  rintro _ _ ⟨rfl, rfl⟩
  refine SO.v rfl (opv_assign rfl) ?_
  refine SO.nil ?_
  refine S.seq ?_
  refine S.region ?_
  refine SO.v rfl (opv_move rfl) ?_
  obtain ⟨t3, ht4, h⟩ := opt_bind h
  refine SO.call (pre := []) rfl Try.call33 rfl rfl rfl (ref10_slot.ct _ _ ht4) trivial ?_
  rintro _ _ ⟨rfl, rfl⟩
  refine SO.v rfl (opv_assign rfl) ?_
  refine SO.nil ?_
  refine S.seq ?_
  refine S.seq ?_
  refine S.region ?_
  refine SO.v rfl (opv_move rfl) ?_
  refine SO.v rfl (opv_not rfl) ?_
  refine SO.v rfl (opv_move rfl) ?_
  refine SO.cut 3 22 (.bool ((!t1) || (!t3))) [Box bp0 [v0_Slots, v0_Objs, .int .i64 a0.NS, .int .i64 a0.NO], OwnR 65 kr_ref10_Slot v0_Slots a0.Slots, OwnR 58 kr_ref10_Obj v0_Objs a0.Objs, F] (fun l2 hk2 => ?_) ?_
  · rcases bool_or (!t1) with b5 | b5
    · refine SO.passF rfl rfl rfl b5 rfl rfl ?_
      refine SO.passF rfl rfl rfl b5 rfl rfl ?_
      refine SO.v rfl (opv_pick_t' b5 rfl rfl) ?_
      refine SO.b3 ?_
      refine SO.b3 ?_
      refine SO.b3 ?_
      refine SO.b3 ?_
      exact hk2.fitc (m := 3) rfl (or_t b5) rfl
    · refine SO.takeT rfl rfl rfl b5 ?_
      refine SO.v rfl (opv_move rfl) ?_
      refine SO.takeT rfl rfl rfl b5 ?_
      refine SO.v rfl (opv_not rfl) ?_
      refine SO.v rfl (opv_pick_f' b5 rfl rfl) ?_
      refine SO.b3 ?_
      refine SO.b3 ?_
      refine SO.b3 ?_
      refine SO.b3 ?_
      exact hk2.fitc (m := 3) rfl (or_f b5) rfl
  refine SO.nil ?_
  refine S.to (ρ' := [(0, bp bp0 0), (1, .int .i64 a1), (2, .int .i64 a2), (6, .int .i64 0), (22, .bool ((!t1) || (!t3)))]) ⟨rfl, rfl, rfl, rfl, rfl, trivial⟩ ?_
  rcases bool_or ((!t1) || (!t3)) with b6 | b6
  · replace h := cond_t b6 h
    refine S.condT rfl b6 ?_
    refine S.seq ?_
    refine S.region ?_
    refine SO.v rfl (opv_assign rfl) ?_
    refine SO.nil ?_
    cases h
    refine S.b3 ?_
    refine S.b3 ?_
    refine S.b3 ?_
    refine S.b3 ?_
    exact S.ret1 Try.func32 rfl rfl (fun w hs hk => hR w _ _ ⟨v0_Slots, v0_Objs, rfl, rfl⟩ hs hk)
  · replace h := cond_f b6 h
    refine S.condF rfl b6 ?_
    refine S.skip ?_
    refine S.seq ?_
    refine S.seq ?_
    refine S.region ?_
    refine SO.v rfl (opv_move rfl) ?_
    refine SO.v rfl (opv_move rfl) ?_
    refine SO.v rfl (opv_eql rfl rfl) ?_
    refine SO.v rfl (opv_move rfl) ?_
    refine SO.b1 ?_
    refine SO.openR fun raws7 A8 hrel9 hR10 => ?_
    obtain ⟨c12, hc13, hgk⟩ := opt_bind h
    refine SO.cut 10 36 (.bool c12) [OwnO 65 kr_ref10_Slot v0_Slots raws7 A8 a0.Slots, Box bp0 [v0_Slots, v0_Objs, .int .i64 a0.NS, .int .i64 a0.NO], OwnR 58 kr_ref10_Obj v0_Objs a0.Objs, F] (fun l2 hk2 => ?_) ?_
    · clear hgk
      replace h := hc13
      rcases bool_or (a1 == a2) with b11 | b11
      · replace h := cond_t b11 h
        refine SO.passF rfl rfl rfl b11 rfl rfl ?_
        refine SO.passF rfl rfl rfl b11 rfl rfl ?_
        refine SO.passF rfl rfl rfl b11 rfl rfl ?_
        refine SO.passF rfl rfl rfl b11 rfl rfl ?_
        refine SO.passF rfl rfl rfl b11 rfl rfl ?_
        refine SO.passF rfl rfl rfl b11 rfl rfl ?_
        refine SO.passF rfl rfl rfl b11 rfl rfl ?_
        refine SO.passF rfl rfl rfl b11 rfl rfl ?_
        refine SO.passF rfl rfl rfl b11 rfl rfl ?_
        cases h
        refine SO.v rfl (opv_pick_t' b11 rfl rfl) ?_
        refine SO.b3 ?_
        refine SO.b3 ?_
        refine SO.b3 ?_
        refine SO.b3 ?_
        exact hk2.fitc (m := 10) rfl (rfl) rfl
      · replace h := cond_f b11 h
        refine SO.takeT rfl rfl rfl b11 ?_
        refine SO.v rfl (opv_move rfl) ?_
        refine SO.takeT rfl rfl rfl b11 ?_
        refine SO.v rfl (opv_nilCheck rfl) ?_
        refine SO.takeT rfl rfl rfl b11 ?_
        refine SO.v rfl (opv_fieldAddr Try.underlying63 rfl Try.sizeOf60 rfl rfl) ?_
        refine SO.takeT rfl rfl rfl b11 ?_
        refine SO.b1 ?_
        refine SO.load1 rfl Try.isAgg60 rfl rfl ?_
        refine SO.takeT rfl rfl rfl b11 ?_
        refine SO.v rfl (opv_move rfl) ?_
        refine SO.takeT rfl rfl rfl b11 ?_
        obtain ⟨x14, hx15, h⟩ := opt_bind h
        obtain ⟨r16, hr17, hc18⟩ := relR.at hrel9 hx15
        refine SO.v rfl (opv_idx Try.underlying60 Try.sizeOf65 hR10 rfl rfl hr17) ?_
        refine SO.takeT rfl rfl rfl b11 ?_
        refine SO.v rfl (opv_fieldIdx Try.underlying65 rfl Try.sizeOf3 hR10 hr17 rfl rfl) ?_
        refine SO.takeT rfl rfl rfl b11 ?_
        refine SO.loadI1 (j := 6) rfl Try.isAgg3 (Rd.tail (Rd.head hR10)) hr17 rfl rfl rfl (hc18.val rfl) ?_
        refine SO.takeT rfl rfl rfl b11 ?_
        refine SO.v rfl (opv_geq rfl rfl) ?_
        cases h
        refine SO.v rfl (opv_pick_f' b11 rfl rfl) ?_
        refine SO.b3 ?_
        refine SO.b3 ?_
        refine SO.b2 ?_
        refine SO.b3 ?_
        exact hk2.fitc (m := 10) rfl (rfl) rfl
    clear hc13
    replace h := hgk
    refine SO.v rfl (opv_move rfl) ?_
    refine SO.b2 ?_
    refine SO.openR fun raws19 A20 hrel21 hR22 => ?_
    obtain ⟨c24, hc25, hgk⟩ := opt_bind h
    refine SO.cut 11 48 (.bool c24) [OwnO 58 kr_ref10_Obj v0_Objs raws19 A20 a0.Objs, OwnO 65 kr_ref10_Slot v0_Slots raws7 A8 a0.Slots, Box bp0 [v0_Slots, v0_Objs, .int .i64 a0.NS, .int .i64 a0.NO], F] (fun l2 hk2 => ?_) ?_
    · clear hgk
      replace h := hc25
      rcases bool_or c12 with b23 | b23
      · replace h := cond_t b23 h
        refine SO.passF rfl rfl rfl b23 rfl rfl ?_
        refine SO.passF rfl rfl rfl b23 rfl rfl ?_
        refine SO.passF rfl rfl rfl b23 rfl rfl ?_
        refine SO.passF rfl rfl rfl b23 rfl rfl ?_
        refine SO.passF rfl rfl rfl b23 rfl rfl ?_
        refine SO.passF rfl rfl rfl b23 rfl rfl ?_
        refine SO.passF rfl rfl rfl b23 rfl rfl ?_
        refine SO.passF rfl rfl rfl b23 rfl rfl ?_
        refine SO.passF rfl rfl rfl b23 rfl rfl ?_
        refine SO.passF rfl rfl rfl b23 rfl rfl ?_
        cases h
        refine SO.v rfl (opv_pick_t' b23 rfl rfl) ?_
        refine SO.b3 ?_
        refine SO.b3 ?_
        refine SO.b3 ?_
        refine SO.b3 ?_
        exact hk2.fitc (m := 11) rfl (rfl) rfl
      · replace h := cond_f b23 h
        refine SO.takeT rfl rfl rfl b23 ?_
        refine SO.v rfl (opv_move rfl) ?_
        refine SO.takeT rfl rfl rfl b23 ?_
        refine SO.v rfl (opv_nilCheck rfl) ?_
        refine SO.takeT rfl rfl rfl b23 ?_
        refine SO.v rfl (opv_fieldAddr Try.underlying63 rfl Try.sizeOf60 rfl rfl) ?_
        refine SO.takeT rfl rfl rfl b23 ?_
        refine SO.b2 ?_
        refine SO.load1 rfl Try.isAgg60 rfl rfl ?_
        refine SO.takeT rfl rfl rfl b23 ?_
        refine SO.v rfl (opv_move rfl) ?_
        refine SO.takeT rfl rfl rfl b23 ?_
        obtain ⟨x26, hx27, h⟩ := opt_bind h
        obtain ⟨r28, hr29, hc30⟩ := relR.at hrel9 hx27
        refine SO.v rfl (opv_idx Try.underlying60 Try.sizeOf65 hR10 rfl rfl hr29) ?_
        refine SO.takeT rfl rfl rfl b23 ?_
        refine SO.v rfl (opv_fieldIdx Try.underlying65 rfl Try.sizeOf55 hR10 hr29 rfl rfl) ?_
        refine SO.takeT rfl rfl rfl b23 ?_
        obtain ⟨u31, hu32, hru33⟩ := hc30.sl 7 rfl
        refine SO.loadI1 (j := 7) rfl Try.isAgg55 (Rd.tail (Rd.tail (Rd.head hR10))) hr29 rfl rfl rfl hu32 ?_
        refine SO.takeT rfl rfl rfl b23 ?_
        refine SO.v rfl (opv_lenR rfl Try.underlying55 hru33 rfl) ?_
        refine SO.takeT rfl rfl rfl b23 ?_
        refine SO.v rfl (opv_gtr rfl rfl) ?_
        cases h
        refine SO.v rfl (opv_pick_f' b23 rfl rfl) ?_
        refine SO.b3 ?_
        refine SO.b1 ?_
        refine SO.b3 ?_
        refine SO.b3 ?_
        exact hk2.fitc (m := 11) rfl (rfl) rfl
    clear hc25
    replace h := hgk
    refine SO.nil ?_
    refine S.to (ρ' := [(0, bp bp0 0), (1, .int .i64 a1), (2, .int .i64 a2), (6, .int .i64 0), (48, .bool c24)]) ⟨rfl, rfl, rfl, rfl, rfl, trivial⟩ ?_
    rcases bool_or c24 with b34 | b34
    · replace h := cond_t b34 h
      refine S.condT rfl b34 ?_
      refine S.seq ?_
      refine S.region ?_
      refine SO.v rfl (opv_assign rfl) ?_
      refine SO.nil ?_
      cases h
      refine S.closeR ?_
      refine S.b1 ?_
      refine S.closeR ?_
      refine S.b3 ?_
      refine S.b2 ?_
      refine S.b2 ?_
      refine S.b3 ?_
      exact S.ret1 Try.func32 rfl rfl (fun w hs hk => hR w _ _ ⟨v0_Slots, v0_Objs, rfl, rfl⟩ hs hk)
    · replace h := cond_f b34 h
      refine S.condF rfl b34 ?_
      refine S.skip ?_
      refine S.seq ?_
      refine S.region ?_
      refine SO.v rfl (opv_move rfl) ?_
      refine SO.v rfl (opv_nilCheck rfl) ?_
      refine SO.v rfl (opv_fieldAddr Try.underlying63 rfl Try.sizeOf60 rfl rfl) ?_
      refine SO.b2 ?_
      refine SO.load1 rfl Try.isAgg60 rfl rfl ?_
      refine SO.v rfl (opv_move rfl) ?_
      obtain ⟨x35, hx36, h⟩ := opt_bind h
      obtain ⟨r37, hr38, hc39⟩ := relR.at hrel9 hx36
      refine SO.v rfl (opv_idx Try.underlying60 Try.sizeOf65 hR10 rfl rfl hr38) ?_
      refine SO.v rfl (opv_fieldIdx Try.underlying65 rfl Try.sizeOf3 hR10 hr38 rfl rfl) ?_
      refine SO.loadI1 (j := 6) rfl Try.isAgg3 (Rd.tail (Rd.tail (Rd.head hR10))) hr38 rfl rfl rfl (hc39.val rfl) ?_
      refine SO.v rfl (opv_assign rfl) ?_
      refine SO.nil ?_
      refine S.to (ρ' := [(0, bp bp0 0), (1, .int .i64 a1), (2, .int .i64 a2), (6, .int .i64 0), (9, .int .i64 x35.Parent)]) ⟨rfl, rfl, rfl, rfl, rfl, trivial⟩ ?_
      refine S.seq ?_
      refine S.seq ?_
      refine S.region ?_
      refine SO.v rfl (opv_move rfl) ?_
      refine SO.v rfl (opv_geq rfl rfl) ?_
      refine SO.nil ?_
      obtain ⟨qv0_Slots_1, hC1, hJ1⟩ := opt_bind h
      clear h
      refine S.cutP (G := Unit) (fun _ => True) (fun _ => [(0, bp bp0 0), (1, .int .i64 a1), (2, .int .i64 a2), (6, .int .i64 0), (9, .int .i64 x35.Parent)]) (fun _ => [Box bp0 [v0_Slots, v0_Objs, .int .i64 a0.NS, .int .i64 a0.NO], OwnO 58 kr_ref10_Obj v0_Objs raws19 A20 a0.Objs, OwnR 65 kr_ref10_Slot v0_Slots qv0_Slots_1, F]) (fun hk1 => ?_) ?_
      · replace h := hC1
        rcases bool_or (decide (0 ≤ x35.Parent)) with b40 | b40
        · replace h := cond_t b40 h
          refine S.condT rfl b40 ?_
          refine S.seq ?_
          refine S.region ?_
          refine SO.buildSlice0 (ekI .i64) rfl Try.underlying55 Try.sizeOf3 (fun v41 hr42 => ?_)
          refine SO.v rfl (opv_move rfl) ?_
          refine SO.v rfl (opv_nilCheck rfl) ?_
          refine SO.v rfl (opv_fieldAddr Try.underlying63 rfl Try.sizeOf60 rfl rfl) ?_
          refine SO.b1 ?_
          refine SO.load1 rfl Try.isAgg60 rfl rfl ?_
          refine SO.v rfl (opv_move rfl) ?_
          obtain ⟨x43, hx44, h⟩ := opt_bind h
          obtain ⟨r45, hr46, hc47⟩ := relR.at hrel9 hx44
          refine SO.v rfl (opv_idx Try.underlying60 Try.sizeOf65 hR10 rfl rfl hr46) ?_
          refine SO.v rfl (opv_fieldIdx Try.underlying65 rfl Try.sizeOf55 hR10 hr46 rfl rfl) ?_
          obtain ⟨u48, hu49, hru50⟩ := hc47.sl 7 rfl
          refine SO.loadI1 (j := 7) rfl Try.isAgg55 (Rd.tail (Rd.tail (Rd.tail (Rd.head hR10)))) hr46 rfl rfl rfl hu49 ?_
          obtain ⟨zs51, hz52, h⟩ := opt_bind h
          refine SO.b1 ?_
          refine SO.append rfl Try.underlying55 Try.underlying55 inf3 rfl rfl rfl (by decide) rfl rfl rfl (Rd.tail (Rd.tail (Rd.head (Rd.pool hru50)))) hz52 (fun v53 => ?_)
          refine SO.rd fun hr54 => ?_
          refine SO.v rfl (opv_assign rfl) ?_
          refine SO.nil ?_
          refine S.to (ρ' := [(0, bp bp0 0), (1, .int .i64 a1), (2, .int .i64 a2), (6, .int .i64 0), (9, .int .i64 x35.Parent), (10, v53)]) ⟨rfl, rfl, rfl, rfl, rfl, rfl, trivial⟩ ?_
          refine S.seq ?_
          refine S.seq ?_
          refine S.region ?_
          refine SO.v rfl (opv_assign rfl) ?_
          refine SO.nil ?_
          obtain ⟨qv53_e2, hl2, h⟩ := opt_bind h
          refine S.b4 ?_
          refine S.b4 ?_
          refine S.b4 ?_
          refine S.b4 ?_
          refine S.b4 ?_
          refine S.to (ρ' := [(11, .int .i64 0), (0, bp bp0 0), (1, .int .i64 a1), (2, .int .i64 a2), (6, .int .i64 0), (9, .int .i64 x35.Parent), (10, v53)]) ⟨rfl, rfl, rfl, rfl, rfl, rfl, rfl, trivial⟩ ?_
          refine S.forloop (X := (Int × (List Int)) × Unit) (O := (List Int)) (fun m x => ref10_State_Replace.l2 a1 a2 m x.1) (fun x => match x with | ((x11_2, qv53_2), _) => [(11, .int .i64 x11_2), (0, bp bp0 0), (1, .int .i64 a1), (2, .int .i64 a2), (6, .int .i64 0), (9, .int .i64 x35.Parent), (10, v53)]) (fun x => match x with | ((x11_2, qv53_2), _) => [Own 3 (ekI .i64) v53 qv53_2, Box bp0 [v0_Slots, v0_Objs, .int .i64 a0.NS, .int .i64 a0.NO], OwnO 58 kr_ref10_Obj v0_Objs raws19 A20 a0.Objs, OwnO 65 kr_ref10_Slot v0_Slots raws7 A8 a0.Slots, F]) (fun Sk => (fun qv53_e2 => ∀ _ : Unit, Sk [(0, bp bp0 0), (1, .int .i64 a1), (2, .int .i64 a2), (6, .int .i64 0), (9, .int .i64 x35.Parent), (10, v53)] [Own 3 (ekI .i64) v53 qv53_e2, Box bp0 [v0_Slots, v0_Objs, .int .i64 a0.NS, .int .i64 a0.NO], OwnO 58 kr_ref10_Obj v0_Objs raws19 A20 a0.Objs, OwnO 65 kr_ref10_Slot v0_Slots raws7 A8 a0.Slots, F])) (fun _ => rfl) ?_ (m := k) (x := ((0, zs51), ())) hl2 ?_
          · clear h hl2
            intro k x o_2 h hK2 ih2
            obtain ⟨⟨x11_2, qv53_2⟩, _⟩ := x
            replace h : ref10_State_Replace.l2 a1 a2 (k + 1) (x11_2, qv53_2) = some o_2 := h
            first | rw [ref10_State_Replace.l2] at h | unfold ref10_State_Replace.l2 at h
            refine S.rd fun hr55 => ?_
            refine S.seq ?_
            refine S.seq ?_
            refine S.region ?_
            refine SO.v rfl (opv_move rfl) ?_
            refine SO.v rfl (opv_move rfl) ?_
            refine SO.v rfl (opv_lenR rfl Try.underlying55 hr55 rfl) ?_
            refine SO.v rfl (opv_lss rfl rfl) ?_
            refine SO.nil ?_
            rcases bool_or (decide (x11_2 < (qv53_2.length : Int))) with b56 | b56
            · replace h := cond_t b56 h
              refine S.condT rfl b56 ?_
              refine S.skip ?_
              refine S.seq ?_
              refine S.block ?_
              refine S.seq ?_
              refine S.region ?_
              refine SO.v rfl (opv_move rfl) ?_
              refine SO.v rfl (opv_move rfl) ?_
              obtain ⟨x57, hx58, h⟩ := opt_bind h
              refine SO.v rfl (opv_idx Try.underlying55 Try.sizeOf3 hr55 rfl rfl hx58) ?_
              refine SO.loadI1 (j := 0) rfl Try.isAgg3 (Rd.head hr55) hx58 rfl rfl rfl rfl ?_
              refine SO.v rfl (opv_move rfl) ?_
              refine SO.v rfl (opv_eql rfl rfl) ?_
              refine SO.nil ?_
              refine S.to (ρ' := [(11, .int .i64 x11_2), (0, bp bp0 0), (1, .int .i64 a1), (2, .int .i64 a2), (6, .int .i64 0), (9, .int .i64 x35.Parent), (10, v53), (80, .bool (x57 == a1))]) ⟨rfl, rfl, rfl, rfl, rfl, rfl, rfl, rfl, trivial⟩ ?_
              rcases bool_or (x57 == a1) with b59 | b59
              · replace h := cond_t b59 h
                refine S.condT rfl b59 ?_
                refine S.region ?_
                refine SO.v rfl (opv_move rfl) ?_
                refine SO.v rfl (opv_move rfl) ?_
                refine SO.v rfl (opv_move rfl) ?_
                obtain ⟨x60, hx61, h⟩ := opt_bind h
                refine SO.v rfl (opv_idx Try.underlying55 Try.sizeOf3 hr55 rfl rfl hx61) ?_
                refine SO.storeI1 (j := 0) (z' := a2) Try.sizeOf3 hx61 rfl rfl rfl rfl rfl rfl ?_
                refine SO.rd fun hr62 => ?_
                refine SO.nil ?_
                refine S.inBlock ?_
                refine S.region ?_
                refine SO.v rfl (opv_move rfl) ?_
                refine SO.v rfl (opv_add rfl rfl) ?_
                refine SO.v rfl (opv_assign rfl) ?_
                refine SO.nil ?_
                refine S.to (ρ' := [(11, .int .i64 (w64 (x11_2 + 1))), (0, bp bp0 0), (1, .int .i64 a1), (2, .int .i64 a2), (6, .int .i64 0), (9, .int .i64 x35.Parent), (10, v53)]) ⟨rfl, rfl, rfl, rfl, rfl, rfl, rfl, trivial⟩ ?_
                refine S.b4 ?_
                refine S.b4 ?_
                refine S.b4 ?_
                refine S.b4 ?_
                refine S.b4 ?_
                refine S.to ?_ (ih2 ((w64 (x11_2 + 1), qv53_2.set x11_2.toNat a2), ()) h)
                exact ⟨rfl, rfl, rfl, rfl, rfl, rfl, rfl, trivial⟩
              · replace h := cond_f b59 h
                refine S.condF rfl b59 ?_
                refine S.skip ?_
                refine S.inBlock ?_
                refine S.region ?_
                refine SO.v rfl (opv_move rfl) ?_
                refine SO.v rfl (opv_add rfl rfl) ?_
                refine SO.v rfl (opv_assign rfl) ?_
                refine SO.nil ?_
                refine S.b4 ?_
                refine S.b4 ?_
                refine S.b4 ?_
                refine S.b4 ?_
                refine S.b4 ?_
                refine S.to ?_ (ih2 ((w64 (x11_2 + 1), qv53_2), ()) h)
                exact ⟨rfl, rfl, rfl, rfl, rfl, rfl, rfl, trivial⟩
            · replace h := cond_f b56 h
              refine S.condF rfl b56 ?_
              refine S.exit rfl ?_
              cases h
              refine S.b4 ?_
              refine S.b4 ?_
              refine S.b4 ?_
              refine S.b4 ?_
              refine S.b4 ?_
              refine S.to ?_ (hK2 ())
              exact ⟨rfl, rfl, rfl, rfl, rfl, rfl, trivial⟩
          rintro _
          refine S.rd fun hr63 => ?_
          refine S.region ?_
          refine SO.v rfl (opv_move rfl) ?_
          refine SO.v rfl (opv_nilCheck rfl) ?_
          refine SO.v rfl (opv_fieldAddr Try.underlying63 rfl Try.sizeOf60 rfl rfl) ?_
          refine SO.b1 ?_
          refine SO.load1 rfl Try.isAgg60 rfl rfl ?_
          refine SO.v rfl (opv_move rfl) ?_
          refine SO.v rfl (opv_move rfl) ?_
          obtain ⟨x64, hx65, h⟩ := opt_bind h
          obtain ⟨r66, hr67, hc68⟩ := relR.at hrel9 hx65
          refine SO.v rfl (opv_idx Try.underlying60 Try.sizeOf65 hR10 rfl rfl hr67) ?_
          refine SO.v rfl (opv_fieldIdx Try.underlying65 rfl Try.sizeOf55 hR10 hr67 rfl rfl) ?_
          refine SO.b3 ?_
          refine SO.b2 ?_
          refine SO.freeze hrel9 fun A69 hcov70 hru71 hrel72 hR73 => ?_
          refine SO.storeO1 (j := 7) (q := .sl (ekI .i64) qv53_e2) (z' := ({ x64 with Kids := qv53_e2 } : ref10_Slot)) Try.sizeOf55 hrel72 hx65 rfl rfl (Rd.one hru71) rfl rfl rfl hru71 (fun raws74 hrel75 hR76 => ?_)
          refine SO.nil ?_
          refine S.to (ρ' := [(0, bp bp0 0), (1, .int .i64 a1), (2, .int .i64 a2), (6, .int .i64 0), (9, .int .i64 x35.Parent)]) ⟨rfl, rfl, rfl, rfl, rfl, trivial⟩ ?_
          cases h
          refine S.closeR ?_
          refine S.b3 ?_
          refine S.b1 ?_
          refine S.b3 ?_
          refine S.b3 ?_
          refine S.to ?_ (hk1 () trivial)
          exact ⟨rfl, rfl, rfl, rfl, rfl, trivial⟩
        · replace h := cond_f b40 h
          refine S.condF rfl b40 ?_
          refine S.skip ?_
          cases h
          refine S.b2 ?_
          refine S.closeR ?_
          refine S.b3 ?_
          refine S.b1 ?_
          refine S.b3 ?_
          refine S.b3 ?_
          refine S.to ?_ (hk1 () trivial)
          exact ⟨rfl, rfl, rfl, rfl, rfl, trivial⟩
      rintro _ -
      replace h := hJ1
      refine S.seq ?_
      refine S.region ?_
      refine SO.v rfl (opv_move rfl) ?_
      refine SO.v rfl (opv_nilCheck rfl) ?_
      refine SO.v rfl (opv_fieldAddr Try.underlying63 rfl Try.sizeOf60 rfl rfl) ?_
      refine SO.load1 rfl Try.isAgg60 rfl rfl ?_
      refine SO.v rfl (opv_move rfl) ?_
      refine SO.v rfl (opv_move rfl) ?_
      refine SO.b2 ?_
      refine SO.openR fun raws82 A83 hrel84 hR85 => ?_
      obtain ⟨x77, hx78, h⟩ := opt_bind h
      obtain ⟨r79, hr80, hc81⟩ := relR.at hrel84 hx78
      refine SO.v rfl (opv_idx Try.underlying60 Try.sizeOf65 hR85 rfl rfl hr80) ?_
      refine SO.v rfl (opv_fieldIdx Try.underlying65 rfl Try.sizeOf3 hR85 hr80 rfl rfl) ?_
      refine SO.storeO1 (j := 6) (q := .val (.int .i64 x35.Parent)) (z' := ({ x77 with Parent := x35.Parent } : ref10_Slot)) Try.sizeOf3 hrel84 hx78 rfl rfl rfl rfl rfl rfl rfl (fun raws86 hrel87 hR88 => ?_)
      refine SO.nil ?_
      refine S.to (ρ' := [(0, bp bp0 0), (1, .int .i64 a1), (2, .int .i64 a2), (6, .int .i64 0)]) ⟨rfl, rfl, rfl, rfl, trivial⟩ ?_
      refine S.seq ?_
      refine S.region ?_
      refine SO.v rfl (opv_move rfl) ?_
      refine SO.v rfl (opv_nilCheck rfl) ?_
      refine SO.v rfl (opv_fieldAddr Try.underlying63 rfl Try.sizeOf60 rfl rfl) ?_
      refine SO.b1 ?_
      refine SO.load1 rfl Try.isAgg60 rfl rfl ?_
      refine SO.v rfl (opv_move rfl) ?_
      obtain ⟨x89, hx90, h⟩ := opt_bind h
      obtain ⟨r91, hr92, hc93⟩ := relR.at hrel87 hx90
      refine SO.v rfl (opv_idx Try.underlying60 Try.sizeOf65 hR88 rfl rfl hr92) ?_
      refine SO.v rfl (opv_fieldIdx Try.underlying65 rfl Try.sizeOf3 hR88 hr92 rfl rfl) ?_
      refine SO.b1 ?_
      refine SO.storeO1 (j := 6) (q := .val (.int .i64 (-1))) (z' := ({ x89 with Parent := -1 } : ref10_Slot)) Try.sizeOf3 hrel87 hx90 rfl rfl rfl rfl rfl rfl rfl (fun raws94 hrel95 hR96 => ?_)
      refine SO.nil ?_
      refine S.to (ρ' := [(0, bp bp0 0), (1, .int .i64 a1), (2, .int .i64 a2), (6, .int .i64 0)]) ⟨rfl, rfl, rfl, rfl, trivial⟩ ?_
      refine S.seq ?_
      obtain ⟨x97, hx98, h⟩ := opt_bind h
      obtain ⟨r99, hr100, hc101⟩ := relR.at hrel95 hx98
      obtain ⟨u102, hu103, hru104⟩ := hc101.sl 7 rfl
      obtain ⟨x105, hx106, h⟩ := opt_bind h
      obtain ⟨r107, hr108, hc109⟩ := relR.at hrel95 hx106
      refine S.draw' (Z := fun Q => ∀ (_ : Unit) (_ : Unit) (_ : Unit) (_ : Unit) (_ : Unit) (_ : Unit) (_ : Unit) (_ : Unit), Q [(0, bp bp0 0), (1, .int .i64 a1), (2, .int .i64 a2), (6, .int .i64 0)] [OwnR 65 kr_ref10_Slot v0_Slots (((qv0_Slots_1.set a2.toNat ({ x77 with Parent := x35.Parent } : ref10_Slot)).set a1.toNat ({ x89 with Parent := -1 } : ref10_Slot)).set a2.toNat ({ x105 with Kids := x97.Kids } : ref10_Slot)), Box bp0 [v0_Slots, v0_Objs, .int .i64 a0.NS, .int .i64 a0.NO], OwnO 58 kr_ref10_Obj v0_Objs raws19 A20 a0.Objs, F]) (T := [tS 0 (bp bp0 0), tS 2 (.int .i64 a2), tS 1 (.int .i64 a1), tS 6 (.int .i64 0), tR (OwnO 65 kr_ref10_Slot v0_Slots raws94 A83 ((qv0_Slots_1.set a2.toNat ({ x77 with Parent := x35.Parent } : ref10_Slot)).set a1.toNat ({ x89 with Parent := -1 } : ref10_Slot))), tR (Box bp0 [v0_Slots, v0_Objs, .int .i64 a0.NS, .int .i64 a0.NO]), tR (OwnO 58 kr_ref10_Obj v0_Objs raws19 A20 a0.Objs), tR (F), tS 108 (bp bp0 0), tS 109 (bp bp0 0), tS 110 (bp bp0 0), tS 111 (v0_Slots), tS 112 (.int .i64 a2), tS 113 (bp bp0 0), tS 114 (bp bp0 0), tS 115 (bp bp0 0), tS 116 (v0_Slots), tS 117 (.int .i64 a1), tS 118 (idxp v0_Slots (a1.toNat * kr_ref10_Slot.sz)), tS 119 (idxp v0_Slots (a1.toNat * kr_ref10_Slot.sz + 7)), tS 120 (u102), tS 121 (idxp v0_Slots (a2.toNat * kr_ref10_Slot.sz)), tS 122 (idxp v0_Slots (a2.toNat * kr_ref10_Slot.sz + 7)), tR (OwnR 65 kr_ref10_Slot v0_Slots (((qv0_Slots_1.set a2.toNat ({ x77 with Parent := x35.Parent } : ref10_Slot)).set a1.toNat ({ x89 with Parent := -1 } : ref10_Slot)).set a2.toNat ({ x105 with Kids := x97.Kids } : ref10_Slot)))]) (D := [⟨[0], [], [8]⟩, ⟨[8], [], [9]⟩, ⟨[9], [], [10]⟩, ⟨[10, 5], [], [11]⟩, ⟨[1], [], [12]⟩, ⟨[0], [], [13]⟩, ⟨[13], [], [14]⟩, ⟨[14], [], [15]⟩, ⟨[15, 5], [], [16]⟩, ⟨[2], [], [17]⟩, ⟨[16, 17, 4], [], [18]⟩, ⟨[18, 4], [], [19]⟩, ⟨[19, 4], [], [20]⟩, ⟨[11, 12, 4], [], [21]⟩, ⟨[21, 4], [], [22]⟩, ⟨[20, 22], [4], [23]⟩]) (ini := [0, 1, 2, 3, 4, 5, 6, 7]) (fin := [0, 2, 1, 3, 23, 5, 6, 7]) (bf := [[], [0], [0, 1], [0, 1, 2], [], [], [5], [5, 6], [5, 6, 7], [], [5, 6, 7, 8, 9], [5, 6, 7, 8, 9, 10], [5, 6, 7, 8, 9, 10, 11], [0, 1, 2, 3, 4, 5, 6, 7, 8, 9, 10, 11, 12], [0, 1, 2, 3, 4, 5, 6, 7, 8, 9, 10, 11, 12, 13], [0, 1, 2, 3, 4, 5, 6, 7, 8, 9, 10, 11, 12, 13, 14]]) (by kernel_rfl) (by kernel_rfl) (fun x w h1 h2 => (.cons () (.cons () (.cons () (.cons () (.cons () (.cons () (.cons () (.cons () (.nil ⟨EnvAll.of h1 ⟨rfl, rfl, rfl, rfl, trivial⟩, h2⟩)))))))))) (fun Q => by kernel_rfl) ⟨?_, ?_, ?_, ?_, ?_, ?_, ?_, ?_, ?_, ?_, ?_, ?_, ?_, ?_, ?_, ?_, trivial⟩ ?_
      · rintro Fr _
        refine SO.v rfl (opv_move rfl) ?_
        exact SO.nilZ fun a w h1 h2 h3 h4 h5 => PZ.of h1 h3 h5 (.cons () (.cons () (.nil ⟨EnvAll.of h2 ⟨rfl, rfl, trivial⟩, h4⟩)))
      · rintro Fr _
        refine SO.v rfl (opv_nilCheck rfl) ?_
        exact SO.nilZ fun a w h1 h2 h3 h4 h5 => PZ.of h1 h3 h5 (.cons () (.cons () (.nil ⟨EnvAll.of h2 ⟨rfl, rfl, trivial⟩, h4⟩)))
      · rintro Fr _
        refine SO.v rfl (opv_fieldAddr Try.underlying63 rfl Try.sizeOf60 rfl rfl) ?_
        exact SO.nilZ fun a w h1 h2 h3 h4 h5 => PZ.of h1 h3 h5 (.cons () (.cons () (.nil ⟨EnvAll.of h2 ⟨rfl, rfl, trivial⟩, h4⟩)))
      · rintro Fr _ _
        refine SO.load1 rfl Try.isAgg60 rfl rfl ?_
        exact SO.nilZ fun a w h1 h2 h3 h4 h5 => PZ.of h1 h3 h5 (.cons () (.cons () (.cons () (.nil ⟨EnvAll.of h2 ⟨rfl, rfl, trivial⟩, h4⟩))))
      · rintro Fr _
        refine SO.v rfl (opv_move rfl) ?_
        exact SO.nilZ fun a w h1 h2 h3 h4 h5 => PZ.of h1 h3 h5 (.cons () (.cons () (.nil ⟨EnvAll.of h2 ⟨rfl, rfl, trivial⟩, h4⟩)))
      · rintro Fr _
        refine SO.v rfl (opv_move rfl) ?_
        exact SO.nilZ fun a w h1 h2 h3 h4 h5 => PZ.of h1 h3 h5 (.cons () (.cons () (.nil ⟨EnvAll.of h2 ⟨rfl, rfl, trivial⟩, h4⟩)))
      · rintro Fr _
        refine SO.v rfl (opv_nilCheck rfl) ?_
        exact SO.nilZ fun a w h1 h2 h3 h4 h5 => PZ.of h1 h3 h5 (.cons () (.cons () (.nil ⟨EnvAll.of h2 ⟨rfl, rfl, trivial⟩, h4⟩)))
      · rintro Fr _
        refine SO.v rfl (opv_fieldAddr Try.underlying63 rfl Try.sizeOf60 rfl rfl) ?_
        exact SO.nilZ fun a w h1 h2 h3 h4 h5 => PZ.of h1 h3 h5 (.cons () (.cons () (.nil ⟨EnvAll.of h2 ⟨rfl, rfl, trivial⟩, h4⟩)))
      · rintro Fr _ _
        refine SO.load1 rfl Try.isAgg60 rfl rfl ?_
        exact SO.nilZ fun a w h1 h2 h3 h4 h5 => PZ.of h1 h3 h5 (.cons () (.cons () (.cons () (.nil ⟨EnvAll.of h2 ⟨rfl, rfl, trivial⟩, h4⟩))))
      · rintro Fr _
        refine SO.v rfl (opv_move rfl) ?_
        exact SO.nilZ fun a w h1 h2 h3 h4 h5 => PZ.of h1 h3 h5 (.cons () (.cons () (.nil ⟨EnvAll.of h2 ⟨rfl, rfl, trivial⟩, h4⟩)))
      · rintro Fr _ _ _
        refine SO.v rfl (opv_idx Try.underlying60 Try.sizeOf65 hR96 rfl rfl hr100) ?_
        exact SO.nilZ fun a w h1 h2 h3 h4 h5 => PZ.of h1 h3 h5 (.cons () (.cons () (.cons () (.cons () (.nil ⟨EnvAll.of h2 ⟨rfl, rfl, rfl, trivial⟩, h4⟩)))))
      · rintro Fr _ _
        refine SO.v rfl (opv_fieldIdx Try.underlying65 rfl Try.sizeOf55 hR96 hr100 rfl rfl) ?_
        exact SO.nilZ fun a w h1 h2 h3 h4 h5 => PZ.of h1 h3 h5 (.cons () (.cons () (.cons () (.nil ⟨EnvAll.of h2 ⟨rfl, rfl, trivial⟩, h4⟩))))
      · rintro Fr _ _
        refine SO.loadI1 (j := 7) rfl Try.isAgg55 (Rd.head hR96) hr100 rfl rfl rfl hu103 ?_
        exact SO.nilZ fun a w h1 h2 h3 h4 h5 => PZ.of h1 h3 h5 (.cons () (.cons () (.cons () (.nil ⟨EnvAll.of h2 ⟨rfl, rfl, trivial⟩, h4⟩))))
      · rintro Fr _ _ _
        refine SO.v rfl (opv_idx Try.underlying60 Try.sizeOf65 hR96 rfl rfl hr108) ?_
        exact SO.nilZ fun a w h1 h2 h3 h4 h5 => PZ.of h1 h3 h5 (.cons () (.cons () (.cons () (.cons () (.nil ⟨EnvAll.of h2 ⟨rfl, rfl, rfl, trivial⟩, h4⟩)))))
      · rintro Fr _ _
        refine SO.v rfl (opv_fieldIdx Try.underlying65 rfl Try.sizeOf55 hR96 hr108 rfl rfl) ?_
        exact SO.nilZ fun a w h1 h2 h3 h4 h5 => PZ.of h1 h3 h5 (.cons () (.cons () (.cons () (.nil ⟨EnvAll.of h2 ⟨rfl, rfl, trivial⟩, h4⟩))))
      · rintro Fr _ _ _
        refine SO.storeO1 (j := 7) (q := .sl (ekI .i64) x97.Kids) (z' := ({ x105 with Kids := x97.Kids } : ref10_Slot)) Try.sizeOf55 hrel95 hx106 rfl rfl (Rd.one hru104) rfl rfl rfl hru104 (fun raws110 hrel111 hR112 => ?_)
        refine SO.closeR ?_
        exact SO.nilZ fun a w h1 h2 h3 h4 h5 => PZ.of h1 h3 h5 (.cons () (.cons () (.cons () (.nil ⟨EnvAll.of h2 ⟨rfl, rfl, trivial⟩, h4⟩))))
      rintro _ _ _ _ _ _ _ _
      refine S.to (ρ' := [(0, bp bp0 0), (1, .int .i64 a1), (2, .int .i64 a2), (6, .int .i64 0)]) ⟨rfl, rfl, rfl, rfl, trivial⟩ ?_
      refine S.seq ?_
      refine S.region ?_
      refine SO.v rfl (opv_move rfl) ?_
      refine SO.v rfl (opv_nilCheck rfl) ?_
      refine SO.v rfl (opv_fieldAddr Try.underlying63 rfl Try.sizeOf60 rfl rfl) ?_
      refine SO.b1 ?_
      refine SO.load1 rfl Try.isAgg60 rfl rfl ?_
      refine SO.v rfl (opv_move rfl) ?_
      refine SO.b1 ?_
      refine SO.openR fun raws118 A119 hrel120 hR121 => ?_
      obtain ⟨x113, hx114, h⟩ := opt_bind h
      obtain ⟨r115, hr116, hc117⟩ := relR.at hrel120 hx114
      refine SO.v rfl (opv_idx Try.underlying60 Try.sizeOf65 hR121 rfl rfl hr116) ?_
      refine SO.v rfl (opv_fieldIdx Try.underlying65 rfl Try.sizeOf55 hR121 hr116 rfl rfl) ?_
      refine SO.storeO1 (j := 7) (q := .sl (ekI .i64) ([])) (z' := ({ x113 with Kids := [] } : ref10_Slot)) Try.sizeOf55 hrel120 hx114 rfl rfl rfl rfl rfl rfl Rd.nil0 (fun raws122 hrel123 hR124 => ?_)
      refine SO.nil ?_
      refine S.to (ρ' := [(0, bp bp0 0), (2, .int .i64 a2), (6, .int .i64 0)]) ⟨rfl, rfl, rfl, trivial⟩ ?_
      refine S.seq ?_
      refine S.seq ?_
      refine S.region ?_
      refine SO.v rfl (opv_assign rfl) ?_
      refine SO.nil ?_
      obtain ⟨qv0_Slots_e3, hl3, h⟩ := opt_bind h
      refine S.closeR ?_
      refine S.b3 ?_
      refine S.b3 ?_
      refine S.b3 ?_
      refine S.b3 ?_
      refine S.to (ρ' := [(12, .int .i64 0), (0, bp bp0 0), (2, .int .i64 a2), (6, .int .i64 0)]) ⟨rfl, rfl, rfl, rfl, trivial⟩ ?_
      refine S.forloop (X := (Int × (List ref10_Slot)) × Unit) (O := (List ref10_Slot)) (fun m x => ref10_State_Replace.l3 a2 m x.1) (fun x => match x with | ((x12_3, qv0_Slots_3), _) => [(12, .int .i64 x12_3), (0, bp bp0 0), (2, .int .i64 a2), (6, .int .i64 0)]) (fun x => match x with | ((x12_3, qv0_Slots_3), _) => [OwnR 65 kr_ref10_Slot v0_Slots qv0_Slots_3, Box bp0 [v0_Slots, v0_Objs, .int .i64 a0.NS, .int .i64 a0.NO], OwnO 58 kr_ref10_Obj v0_Objs raws19 A20 a0.Objs, F]) (fun Sk => (fun qv0_Slots_e3 => ∀ _ : Unit, Sk [(6, .int .i64 0)] [OwnR 65 kr_ref10_Slot v0_Slots qv0_Slots_e3, Box bp0 [v0_Slots, v0_Objs, .int .i64 a0.NS, .int .i64 a0.NO], OwnO 58 kr_ref10_Obj v0_Objs raws19 A20 a0.Objs, F])) (fun _ => rfl) ?_ (m := k) (x := ((0, (((qv0_Slots_1.set a2.toNat ({ x77 with Parent := x35.Parent } : ref10_Slot)).set a1.toNat ({ x89 with Parent := -1 } : ref10_Slot)).set a2.toNat ({ x105 with Kids := x97.Kids } : ref10_Slot)).set a1.toNat ({ x113 with Kids := [] } : ref10_Slot)), ())) hl3 ?_
      · clear h hl3
        intro k x o_3 h hK3 ih3
        obtain ⟨⟨x12_3, qv0_Slots_3⟩, _⟩ := x
        replace h : ref10_State_Replace.l3 a2 (k + 1) (x12_3, qv0_Slots_3) = some o_3 := h
        first | rw [ref10_State_Replace.l3] at h | unfold ref10_State_Replace.l3 at h
        refine S.seq ?_
        refine S.seq ?_
        refine S.region ?_
        refine SO.v rfl (opv_move rfl) ?_
        refine SO.v rfl (opv_move rfl) ?_
        refine SO.v rfl (opv_nilCheck rfl) ?_
        refine SO.v rfl (opv_fieldAddr Try.underlying63 rfl Try.sizeOf60 rfl rfl) ?_
        refine SO.b1 ?_
        refine SO.load1 rfl Try.isAgg60 rfl rfl ?_
        refine SO.v rfl (opv_move rfl) ?_
        refine SO.b1 ?_
        refine SO.openR fun raws130 A131 hrel132 hR133 => ?_
        obtain ⟨x125, hx126, h⟩ := opt_bind h
        obtain ⟨r127, hr128, hc129⟩ := relR.at hrel132 hx126
        refine SO.v rfl (opv_idx Try.underlying60 Try.sizeOf65 hR133 rfl rfl hr128) ?_
        refine SO.v rfl (opv_fieldIdx Try.underlying65 rfl Try.sizeOf55 hR133 hr128 rfl rfl) ?_
        obtain ⟨u134, hu135, hru136⟩ := hc129.sl 7 rfl
        refine SO.loadI1 (j := 7) rfl Try.isAgg55 (Rd.head hR133) hr128 rfl rfl rfl hu135 ?_
        refine SO.v rfl (opv_lenR rfl Try.underlying55 hru136 rfl) ?_
        refine SO.v rfl (opv_lss rfl rfl) ?_
        refine SO.nil ?_
        refine S.to (ρ' := [(12, .int .i64 x12_3), (0, bp bp0 0), (2, .int .i64 a2), (6, .int .i64 0), (140, .bool (decide (x12_3 < (x125.Kids.length : Int))))]) ⟨rfl, rfl, rfl, rfl, rfl, trivial⟩ ?_
        rcases bool_or (decide (x12_3 < (x125.Kids.length : Int))) with b137 | b137
        · replace h := cond_t b137 h
          refine S.condT rfl b137 ?_
          refine S.skip ?_
          refine S.seq ?_
          refine S.block ?_
          obtain ⟨x138, hx139, h⟩ := opt_bind h
          obtain ⟨r140, hr141, hc142⟩ := relR.at hrel132 hx139
          obtain ⟨u143, hu144, hru145⟩ := hc142.sl 7 rfl
          obtain ⟨x146, hx147, h⟩ := opt_bind h
          obtain ⟨x148, hx149, h⟩ := opt_bind h
          obtain ⟨r150, hr151, hc152⟩ := relR.at hrel132 hx149
          refine S.draw' (Z := fun Q => ∀ (_ : Unit) (_ : Unit) (_ : Unit) (_ : Unit) (_ : Unit) (_ : Unit) (_ : Unit) (_ : Unit), Q [(12, .int .i64 x12_3), (0, bp bp0 0), (2, .int .i64 a2), (6, .int .i64 0)] [OwnR 65 kr_ref10_Slot v0_Slots (qv0_Slots_3.set x146.toNat ({ x148 with Parent := a2 } : ref10_Slot)), Box bp0 [v0_Slots, v0_Objs, .int .i64 a0.NS, .int .i64 a0.NO], OwnO 58 kr_ref10_Obj v0_Objs raws19 A20 a0.Objs, F]) (T := [tS 0 (bp bp0 0), tS 2 (.int .i64 a2), tS 12 (.int .i64 x12_3), tS 6 (.int .i64 0), tR (OwnO 65 kr_ref10_Slot v0_Slots raws130 A131 qv0_Slots_3), tR (Box bp0 [v0_Slots, v0_Objs, .int .i64 a0.NS, .int .i64 a0.NO]), tR (OwnO 58 kr_ref10_Obj v0_Objs raws19 A20 a0.Objs), tR (F), tS 143 (bp bp0 0), tS 144 (bp bp0 0), tS 145 (bp bp0 0), tS 146 (v0_Slots), tS 147 (bp bp0 0), tS 148 (bp bp0 0), tS 149 (bp bp0 0), tS 150 (v0_Slots), tS 151 (.int .i64 a2), tS 152 (idxp v0_Slots (a2.toNat * kr_ref10_Slot.sz)), tS 153 (idxp v0_Slots (a2.toNat * kr_ref10_Slot.sz + 7)), tS 154 (u143), tS 155 (.int .i64 x12_3), tS 156 (idxp u143 (x12_3.toNat * (ekI .i64).sz)), tS 157 (.int .i64 x146), tS 158 (.int .i64 a2), tS 159 (idxp v0_Slots (x146.toNat * kr_ref10_Slot.sz)), tS 160 (idxp v0_Slots (x146.toNat * kr_ref10_Slot.sz + 6)), tR (OwnR 65 kr_ref10_Slot v0_Slots (qv0_Slots_3.set x146.toNat ({ x148 with Parent := a2 } : ref10_Slot)))]) (D := [⟨[0], [], [8]⟩, ⟨[8], [], [9]⟩, ⟨[9], [], [10]⟩, ⟨[10, 5], [], [11]⟩, ⟨[0], [], [12]⟩, ⟨[12], [], [13]⟩, ⟨[13], [], [14]⟩, ⟨[14, 5], [], [15]⟩, ⟨[1], [], [16]⟩, ⟨[15, 16, 4], [], [17]⟩, ⟨[17, 4], [], [18]⟩, ⟨[18, 4], [], [19]⟩, ⟨[2], [], [20]⟩, ⟨[19, 20, 4], [], [21]⟩, ⟨[21, 4], [], [22]⟩, ⟨[1], [], [23]⟩, ⟨[11, 22, 4], [], [24]⟩, ⟨[24, 4], [], [25]⟩, ⟨[23, 25], [4], [26]⟩]) (ini := [0, 1, 2, 3, 4, 5, 6, 7]) (fin := [2, 0, 1, 3, 26, 5, 6, 7]) (bf := [[], [0], [0, 1], [0, 1, 2], [], [4], [4, 5], [4, 5, 6], [], [4, 5, 6, 7, 8], [4, 5, 6, 7, 8, 9], [4, 5, 6, 7, 8, 9, 10], [], [4, 5, 6, 7, 8, 9, 10, 11, 12], [4, 5, 6, 7, 8, 9, 10, 11, 12, 13], [], [0, 1, 2, 3, 4, 5, 6, 7, 8, 9, 10, 11, 12, 13, 14, 15], [0, 1, 2, 3, 4, 5, 6, 7, 8, 9, 10, 11, 12, 13, 14, 15, 16], [0, 1, 2, 3, 4, 5, 6, 7, 8, 9, 10, 11, 12, 13, 14, 15, 16, 17]]) (by kernel_rfl) (by kernel_rfl) (fun x w h1 h2 => (.cons () (.cons () (.cons () (.cons () (.cons () (.cons () (.cons () (.cons () (.nil ⟨EnvAll.of h1 ⟨rfl, rfl, rfl, rfl, trivial⟩, h2⟩)))))))))) (fun Q => by kernel_rfl) ⟨?_, ?_, ?_, ?_, ?_, ?_, ?_, ?_, ?_, ?_, ?_, ?_, ?_, ?_, ?_, ?_, ?_, ?_, ?_, trivial⟩ ?_
          · rintro Fr _
            refine SO.v rfl (opv_move rfl) ?_
            exact SO.nilZ fun a w h1 h2 h3 h4 h5 => PZ.of h1 h3 h5 (.cons () (.cons () (.nil ⟨EnvAll.of h2 ⟨rfl, rfl, trivial⟩, h4⟩)))
          · rintro Fr _
            refine SO.v rfl (opv_nilCheck rfl) ?_
            exact SO.nilZ fun a w h1 h2 h3 h4 h5 => PZ.of h1 h3 h5 (.cons () (.cons () (.nil ⟨EnvAll.of h2 ⟨rfl, rfl, trivial⟩, h4⟩)))
          · rintro Fr _
            refine SO.v rfl (opv_fieldAddr Try.underlying63 rfl Try.sizeOf60 rfl rfl) ?_
            exact SO.nilZ fun a w h1 h2 h3 h4 h5 => PZ.of h1 h3 h5 (.cons () (.cons () (.nil ⟨EnvAll.of h2 ⟨rfl, rfl, trivial⟩, h4⟩)))
          · rintro Fr _ _
            refine SO.load1 rfl Try.isAgg60 rfl rfl ?_
            exact SO.nilZ fun a w h1 h2 h3 h4 h5 => PZ.of h1 h3 h5 (.cons () (.cons () (.cons () (.nil ⟨EnvAll.of h2 ⟨rfl, rfl, trivial⟩, h4⟩))))
          · rintro Fr _
            refine SO.v rfl (opv_move rfl) ?_
            exact SO.nilZ fun a w h1 h2 h3 h4 h5 => PZ.of h1 h3 h5 (.cons () (.cons () (.nil ⟨EnvAll.of h2 ⟨rfl, rfl, trivial⟩, h4⟩)))
          · rintro Fr _
            refine SO.v rfl (opv_nilCheck rfl) ?_
            exact SO.nilZ fun a w h1 h2 h3 h4 h5 => PZ.of h1 h3 h5 (.cons () (.cons () (.nil ⟨EnvAll.of h2 ⟨rfl, rfl, trivial⟩, h4⟩)))
          · rintro Fr _
            refine SO.v rfl (opv_fieldAddr Try.underlying63 rfl Try.sizeOf60 rfl rfl) ?_
            exact SO.nilZ fun a w h1 h2 h3 h4 h5 => PZ.of h1 h3 h5 (.cons () (.cons () (.nil ⟨EnvAll.of h2 ⟨rfl, rfl, trivial⟩, h4⟩)))
          · rintro Fr _ _
            refine SO.load1 rfl Try.isAgg60 rfl rfl ?_
            exact SO.nilZ fun a w h1 h2 h3 h4 h5 => PZ.of h1 h3 h5 (.cons () (.cons () (.cons () (.nil ⟨EnvAll.of h2 ⟨rfl, rfl, trivial⟩, h4⟩))))
          · rintro Fr _
            refine SO.v rfl (opv_move rfl) ?_
            exact SO.nilZ fun a w h1 h2 h3 h4 h5 => PZ.of h1 h3 h5 (.cons () (.cons () (.nil ⟨EnvAll.of h2 ⟨rfl, rfl, trivial⟩, h4⟩)))
          · rintro Fr _ _ _
            refine SO.v rfl (opv_idx Try.underlying60 Try.sizeOf65 hR133 rfl rfl hr141) ?_
            exact SO.nilZ fun a w h1 h2 h3 h4 h5 => PZ.of h1 h3 h5 (.cons () (.cons () (.cons () (.cons () (.nil ⟨EnvAll.of h2 ⟨rfl, rfl, rfl, trivial⟩, h4⟩)))))
          · rintro Fr _ _
            refine SO.v rfl (opv_fieldIdx Try.underlying65 rfl Try.sizeOf55 hR133 hr141 rfl rfl) ?_
            exact SO.nilZ fun a w h1 h2 h3 h4 h5 => PZ.of h1 h3 h5 (.cons () (.cons () (.cons () (.nil ⟨EnvAll.of h2 ⟨rfl, rfl, trivial⟩, h4⟩))))
          · rintro Fr _ _
            refine SO.loadI1 (j := 7) rfl Try.isAgg55 (Rd.head hR133) hr141 rfl rfl rfl hu144 ?_
            exact SO.nilZ fun a w h1 h2 h3 h4 h5 => PZ.of h1 h3 h5 (.cons () (.cons () (.cons () (.nil ⟨EnvAll.of h2 ⟨rfl, rfl, trivial⟩, h4⟩))))
          · rintro Fr _
            refine SO.v rfl (opv_move rfl) ?_
            exact SO.nilZ fun a w h1 h2 h3 h4 h5 => PZ.of h1 h3 h5 (.cons () (.cons () (.nil ⟨EnvAll.of h2 ⟨rfl, rfl, trivial⟩, h4⟩)))
          · rintro Fr _ _ _
            refine SO.v rfl (opv_idx Try.underlying55 Try.sizeOf3 hru145 rfl rfl hx147) ?_
            exact SO.nilZ fun a w h1 h2 h3 h4 h5 => PZ.of h1 h3 h5 (.cons () (.cons () (.cons () (.cons () (.nil ⟨EnvAll.of h2 ⟨rfl, rfl, rfl, trivial⟩, h4⟩)))))
          · rintro Fr _ _
            refine SO.loadI1 (j := 0) rfl Try.isAgg3 (Rd.head (Rd.pool hru145)) hx147 rfl rfl rfl rfl ?_
            exact SO.nilZ fun a w h1 h2 h3 h4 h5 => PZ.of h1 h3 h5 (.cons () (.cons () (.cons () (.nil ⟨EnvAll.of h2 ⟨rfl, rfl, trivial⟩, h4⟩))))
          · rintro Fr _
            refine SO.v rfl (opv_move rfl) ?_
            exact SO.nilZ fun a w h1 h2 h3 h4 h5 => PZ.of h1 h3 h5 (.cons () (.cons () (.nil ⟨EnvAll.of h2 ⟨rfl, rfl, trivial⟩, h4⟩)))
          · rintro Fr _ _ _
            refine SO.v rfl (opv_idx Try.underlying60 Try.sizeOf65 hR133 rfl rfl hr151) ?_
            exact SO.nilZ fun a w h1 h2 h3 h4 h5 => PZ.of h1 h3 h5 (.cons () (.cons () (.cons () (.cons () (.nil ⟨EnvAll.of h2 ⟨rfl, rfl, rfl, trivial⟩, h4⟩)))))
          · rintro Fr _ _
            refine SO.v rfl (opv_fieldIdx Try.underlying65 rfl Try.sizeOf3 hR133 hr151 rfl rfl) ?_
            exact SO.nilZ fun a w h1 h2 h3 h4 h5 => PZ.of h1 h3 h5 (.cons () (.cons () (.cons () (.nil ⟨EnvAll.of h2 ⟨rfl, rfl, trivial⟩, h4⟩))))
          · rintro Fr _ _ _
            refine SO.storeO1 (j := 6) (q := .val (.int .i64 a2)) (z' := ({ x148 with Parent := a2 } : ref10_Slot)) Try.sizeOf3 hrel132 hx149 rfl rfl rfl rfl rfl rfl rfl (fun raws153 hrel154 hR155 => ?_)
            refine SO.closeR ?_
            exact SO.nilZ fun a w h1 h2 h3 h4 h5 => PZ.of h1 h3 h5 (.cons () (.cons () (.cons () (.nil ⟨EnvAll.of h2 ⟨rfl, rfl, trivial⟩, h4⟩))))
          rintro _ _ _ _ _ _ _ _
          refine S.to (ρ' := [(12, .int .i64 x12_3), (0, bp bp0 0), (2, .int .i64 a2), (6, .int .i64 0)]) ⟨rfl, rfl, rfl, rfl, trivial⟩ ?_
          refine S.inBlock ?_
          refine S.region ?_
          refine SO.v rfl (opv_move rfl) ?_
          refine SO.v rfl (opv_add rfl rfl) ?_
          refine SO.v rfl (opv_assign rfl) ?_
          refine SO.nil ?_
          refine S.b3 ?_
          refine S.b3 ?_
          refine S.b3 ?_
          refine S.b3 ?_
          refine S.to ?_ (ih3 ((w64 (x12_3 + 1), qv0_Slots_3.set x146.toNat ({ x148 with Parent := a2 } : ref10_Slot)), ()) h)
          exact ⟨rfl, rfl, rfl, rfl, trivial⟩
        · replace h := cond_f b137 h
          refine S.condF rfl b137 ?_
          refine S.exit rfl ?_
          cases h
          refine S.closeR ?_
          refine S.b3 ?_
          refine S.b3 ?_
          refine S.b3 ?_
          refine S.b3 ?_
          refine S.to ?_ (hK3 ())
          exact ⟨rfl, trivial⟩
      rintro _
      refine S.seq ?_
      refine S.region ?_
      refine SO.v rfl (opv_assign rfl) ?_
      refine SO.nil ?_
      cases h
      refine S.b2 ?_
      refine S.closeR ?_
      refine S.b3 ?_
      refine S.b1 ?_
      refine S.b2 ?_
      refine S.b3 ?_
      exact S.ret1 Try.func32 rfl rfl (fun w hs hk => hR w _ _ ⟨v0_Slots, v0_Objs, rfl, rfl⟩ hs hk)
end Go.Proofs
namespace Go.Proofs
open Go.Sl Go.RowKit
/-! 35 (*padstone/padstoneref10.State).Leaf -/
def ref10_State_Leaf.l1 (a0 : ref10_State) : Nat → (Int × Int) → Option (Int)
  | 0, _ => none
  | k + 1, (x6_1, x1_1) => (bif decide (x6_1 < 96) then ((at_ a0.Slots x1_1).bind fun x11 => some (decide (0 < (x11.Kids.length : Int)))) else (some false)).bind fun c9 => bif c9 then ((at_ a0.Slots x1_1).bind fun x20 => (at_ x20.Kids 0).bind fun x28 => ref10_State_Leaf.l1 a0 k (w64 (x6_1 + 1), x28)) else (some x1_1)
def ref10_State_Leaf.f (k : Nat) (a0 : ref10_State) (a1 : Int) : Option (Int) :=
  (ref10_slot.f a1).bind fun t5 => bif !t5 then (some (-1)) else ((ref10_State_Leaf.l1 a0 k (0, a1)).bind fun j1_e1 => some j1_e1)
set_option maxHeartbeats 8000000 in
set_option maxRecDepth 100000 in
theorem ref10_State_Leaf.ct (k : Nat) (bp0 : Nat) (v0_Slots : Value) (v0_Objs : Value) (raws_v0_Slots : List (Raw (kr_ref10_Slot).sz)) (A_v0_Slots : HProp) (raws_v0_Objs : List (Raw (kr_ref10_Obj).sz)) (A_v0_Objs : HProp) (a0 : ref10_State) (a1 : Int) (r0 : Int) (h : ref10_State_Leaf.f k a0 a1 = some r0) :
    Ct Try.prog 35 [bp bp0 0, .int .i64 a1] (fun _ => True) [Box bp0 [v0_Slots, v0_Objs, .int .i64 a0.NS, .int .i64 a0.NO], OwnO 65 kr_ref10_Slot v0_Slots raws_v0_Slots A_v0_Slots a0.Slots, OwnO 58 kr_ref10_Obj v0_Objs raws_v0_Objs A_v0_Objs a0.Objs] (fun u H' => u = .int .i64 r0 ∧ H' = [Box bp0 [v0_Slots, v0_Objs, .int .i64 a0.NS, .int .i64 a0.NO], OwnO 65 kr_ref10_Slot v0_Slots raws_v0_Slots A_v0_Slots a0.Slots, OwnO 58 kr_ref10_Obj v0_Objs raws_v0_Objs A_v0_Objs a0.Objs]) := by
  unfold ref10_State_Leaf.f at h
  refine Ct.intro (n := 38) Try.func35 rfl rfl rfl ?_
  intro R w0 F hF hR
  refine S.b1 ?_
  refine S.rdO fun hrel1 hR2 => ?_
  refine S.b2 ?_
  refine S.rdO fun hrel3 hR4 => ?_
  refine S.seq ?_
  refine S.region ?_
  refine SO.v rfl (opv_assign rfl) ?_
  refine SO.nil ?_
  refine S.seq ?_
  refine S.region ?_
  refine SO.v rfl (opv_move rfl) ?_
  obtain ⟨t5, ht6, h⟩ := opt_bind h
  refine SO.call (pre := []) rfl Try.call33 rfl rfl rfl (ref10_slot.ct _ _ ht6) trivial ?_
  rintro _ _ ⟨rfl, rfl⟩
  refine SO.v rfl (opv_assign rfl) ?_
  refine SO.nil ?_
  refine S.seq ?_
  refine S.seq ?_
  refine S.region ?_
  refine SO.v rfl (opv_move rfl) ?_
  refine SO.v rfl (opv_not rfl) ?_
  refine SO.nil ?_
  rcases bool_or (!t5) with b7 | b7
  · replace h := cond_t b7 h
    refine S.condT rfl b7 ?_
    refine S.seq ?_
    refine S.region ?_
    refine SO.v rfl (opv_assign rfl) ?_
    refine SO.nil ?_
    refine S.to (ρ' := [(4, .int .i64 (-1))]) ⟨rfl, trivial⟩ ?_
    cases h
    refine S.b3 ?_
    refine S.b1 ?_
    refine S.b2 ?_
    refine S.b3 ?_
    exact S.ret1 Try.func35 rfl rfl (fun w hs hk => hR w _ _ ⟨rfl, rfl⟩ hs hk)
  · replace h := cond_f b7 h
    refine S.condF rfl b7 ?_
    refine S.skip ?_
    refine S.seq ?_
    refine S.seq ?_
    refine S.region ?_
    refine SO.v rfl (opv_assign rfl) ?_
    refine SO.nil ?_
    obtain ⟨j1_e1, hl1, h⟩ := opt_bind h
    refine S.b3 ?_
    refine S.b3 ?_
    refine S.b3 ?_
    refine S.b3 ?_
    refine S.to (ρ' := [(6, .int .i64 0), (4, .int .i64 0), (0, bp bp0 0), (1, .int .i64 a1)]) ⟨rfl, rfl, rfl, rfl, trivial⟩ ?_
    refine S.forloop (X := (Int × Int) × Unit) (O := Int) (fun m x => ref10_State_Leaf.l1 a0 m x.1) (fun x => match x with | ((x6_1, x1_1), _) => [(6, .int .i64 x6_1), (4, .int .i64 0), (0, bp bp0 0), (1, .int .i64 x1_1)]) (fun x => match x with | ((x6_1, x1_1), _) => [OwnO 58 kr_ref10_Obj v0_Objs raws_v0_Objs A_v0_Objs a0.Objs, OwnO 65 kr_ref10_Slot v0_Slots raws_v0_Slots A_v0_Slots a0.Slots, Box bp0 [v0_Slots, v0_Objs, .int .i64 a0.NS, .int .i64 a0.NO], F]) (fun Sk => (fun j1_e1 => ∀ _ : Unit, Sk [(1, .int .i64 j1_e1), (4, .int .i64 0)] [OwnO 58 kr_ref10_Obj v0_Objs raws_v0_Objs A_v0_Objs a0.Objs, OwnO 65 kr_ref10_Slot v0_Slots raws_v0_Slots A_v0_Slots a0.Slots, Box bp0 [v0_Slots, v0_Objs, .int .i64 a0.NS, .int .i64 a0.NO], F])) (fun _ => rfl) ?_ (m := k) (x := ((0, a1), ())) hl1 ?_
    · clear h hl1
      intro k x o_1 h hK1 ih1
      obtain ⟨⟨x6_1, x1_1⟩, _⟩ := x
      replace h : ref10_State_Leaf.l1 a0 (k + 1) (x6_1, x1_1) = some o_1 := h
      first | rw [ref10_State_Leaf.l1] at h | unfold ref10_State_Leaf.l1 at h
      refine S.seq ?_
      refine S.seq ?_
      refine S.region ?_
      refine SO.v rfl (opv_move rfl) ?_
      refine SO.v rfl (opv_lss rfl rfl) ?_
      refine SO.v rfl (opv_move rfl) ?_
      obtain ⟨c9, hc10, hgk⟩ := opt_bind h
      refine SO.cut 11 24 (.bool c9) [OwnO 58 kr_ref10_Obj v0_Objs raws_v0_Objs A_v0_Objs a0.Objs, OwnO 65 kr_ref10_Slot v0_Slots raws_v0_Slots A_v0_Slots a0.Slots, Box bp0 [v0_Slots, v0_Objs, .int .i64 a0.NS, .int .i64 a0.NO], F] (fun l2 hk2 => ?_) ?_
      · clear hgk
        replace h := hc10
        rcases bool_or (decide (x6_1 < 96)) with b8 | b8
        · replace h := cond_t b8 h
          refine SO.takeT rfl rfl rfl b8 ?_
          refine SO.v rfl (opv_move rfl) ?_
          refine SO.takeT rfl rfl rfl b8 ?_
          refine SO.v rfl (opv_nilCheck rfl) ?_
          refine SO.takeT rfl rfl rfl b8 ?_
          refine SO.v rfl (opv_fieldAddr Try.underlying63 rfl Try.sizeOf60 rfl rfl) ?_
          refine SO.takeT rfl rfl rfl b8 ?_
          refine SO.b2 ?_
          refine SO.load1 rfl Try.isAgg60 rfl rfl ?_
          refine SO.takeT rfl rfl rfl b8 ?_
          refine SO.v rfl (opv_move rfl) ?_
          refine SO.takeT rfl rfl rfl b8 ?_
          obtain ⟨x11, hx12, h⟩ := opt_bind h
          obtain ⟨r13, hr14, hc15⟩ := relR.at hrel1 hx12
          refine SO.v rfl (opv_idx Try.underlying60 Try.sizeOf65 hR2 rfl rfl hr14) ?_
          refine SO.takeT rfl rfl rfl b8 ?_
          refine SO.v rfl (opv_fieldIdx Try.underlying65 rfl Try.sizeOf55 hR2 hr14 rfl rfl) ?_
          refine SO.takeT rfl rfl rfl b8 ?_
          obtain ⟨u16, hu17, hru18⟩ := hc15.sl 7 rfl
          refine SO.loadI1 (j := 7) rfl Try.isAgg55 (Rd.tail (Rd.tail (Rd.head hR2))) hr14 rfl rfl rfl hu17 ?_
          refine SO.takeT rfl rfl rfl b8 ?_
          refine SO.v rfl (opv_lenR rfl Try.underlying55 hru18 rfl) ?_
          refine SO.takeT rfl rfl rfl b8 ?_
          refine SO.v rfl (opv_gtr rfl rfl) ?_
          cases h
          refine SO.v rfl (opv_pick_t' b8 rfl rfl) ?_
          refine SO.b3 ?_
          refine SO.b1 ?_
          refine SO.b3 ?_
          refine SO.b3 ?_
          exact hk2.fitc (m := 11) rfl (rfl) rfl
        · replace h := cond_f b8 h
          refine SO.passF rfl rfl rfl b8 rfl rfl ?_
          refine SO.passF rfl rfl rfl b8 rfl rfl ?_
          refine SO.passF rfl rfl rfl b8 rfl rfl ?_
          refine SO.passF rfl rfl rfl b8 rfl rfl ?_
          refine SO.passF rfl rfl rfl b8 rfl rfl ?_
          refine SO.passF rfl rfl rfl b8 rfl rfl ?_
          refine SO.passF rfl rfl rfl b8 rfl rfl ?_
          refine SO.passF rfl rfl rfl b8 rfl rfl ?_
          refine SO.passF rfl rfl rfl b8 rfl rfl ?_
          refine SO.passF rfl rfl rfl b8 rfl rfl ?_
          cases h
          refine SO.v rfl (opv_pick_f' b8 rfl rfl) ?_
          refine SO.b3 ?_
          refine SO.b3 ?_
          refine SO.b3 ?_
          refine SO.b3 ?_
          exact hk2.fitc (m := 11) rfl (rfl) rfl
      clear hc10
      replace h := hgk
      refine SO.nil ?_
      rcases bool_or c9 with b19 | b19
      · replace h := cond_t b19 h
        refine S.condT rfl b19 ?_
        refine S.skip ?_
        refine S.seq ?_
        refine S.block ?_
        refine S.region ?_
        refine SO.v rfl (opv_move rfl) ?_
        refine SO.v rfl (opv_nilCheck rfl) ?_
        refine SO.v rfl (opv_fieldAddr Try.underlying63 rfl Try.sizeOf60 rfl rfl) ?_
        refine SO.b2 ?_
        refine SO.load1 rfl Try.isAgg60 rfl rfl ?_
        refine SO.v rfl (opv_move rfl) ?_
        obtain ⟨x20, hx21, h⟩ := opt_bind h
        obtain ⟨r22, hr23, hc24⟩ := relR.at hrel1 hx21
        refine SO.v rfl (opv_idx Try.underlying60 Try.sizeOf65 hR2 rfl rfl hr23) ?_
        refine SO.v rfl (opv_fieldIdx Try.underlying65 rfl Try.sizeOf55 hR2 hr23 rfl rfl) ?_
        obtain ⟨u25, hu26, hru27⟩ := hc24.sl 7 rfl
        refine SO.loadI1 (j := 7) rfl Try.isAgg55 (Rd.tail (Rd.tail (Rd.head hR2))) hr23 rfl rfl rfl hu26 ?_
        obtain ⟨x28, hx29, h⟩ := opt_bind h
        refine SO.v rfl (opv_idx Try.underlying55 Try.sizeOf3 hru27 rfl rfl hx29) ?_
        refine SO.loadI1 (j := 0) rfl Try.isAgg3 (Rd.tail (Rd.tail (Rd.head (Rd.pool hru27)))) hx29 rfl rfl rfl rfl ?_
        refine SO.v rfl (opv_assign rfl) ?_
        refine SO.nil ?_
        refine S.to (ρ' := [(6, .int .i64 x6_1), (4, .int .i64 0), (0, bp bp0 0), (1, .int .i64 x28)]) ⟨rfl, rfl, rfl, rfl, trivial⟩ ?_
        refine S.inBlock ?_
        refine S.region ?_
        refine SO.v rfl (opv_move rfl) ?_
        refine SO.v rfl (opv_add rfl rfl) ?_
        refine SO.v rfl (opv_assign rfl) ?_
        refine SO.nil ?_
        refine S.b3 ?_
        refine S.b1 ?_
        refine S.b3 ?_
        refine S.b3 ?_
        refine S.to ?_ (ih1 ((w64 (x6_1 + 1), x28), ()) h)
        exact ⟨rfl, rfl, rfl, rfl, trivial⟩
      · replace h := cond_f b19 h
        refine S.condF rfl b19 ?_
        refine S.exit rfl ?_
        cases h
        refine S.b3 ?_
        refine S.b3 ?_
        refine S.b3 ?_
        refine S.b3 ?_
        refine S.to ?_ (hK1 ())
        exact ⟨rfl, rfl, trivial⟩
    rintro _
    refine S.seq ?_
    refine S.region ?_
    refine SO.v rfl (opv_move rfl) ?_
    refine SO.v rfl (opv_assign rfl) ?_
    refine SO.nil ?_
    cases h
    refine S.b3 ?_
    refine S.b1 ?_
    refine S.b2 ?_
    refine S.b3 ?_
    exact S.ret1 Try.func35 rfl rfl (fun w hs hk => hR w _ _ ⟨rfl, rfl⟩ hs hk)
end Go.Proofs
namespace Go.Proofs
open Go.Sl Go.RowKit
/-! 12 (*padstone/padstoneref10.State).Delete -/
def ref10_State_Delete.f (k : Nat) (a0 : ref10_State) (a1 : Int) : Option ((Int × ref10_State)) :=
  (ref10_slot.f a1).bind fun t1 => bif !t1 then (some (2, a0)) else ((at_ a0.Slots a1).bind fun x4 => bif decide (0 < (x4.Kids.length : Int)) then (some (9, a0)) else ((ref10_State_Unlink.f k a0 a1).bind fun (t17, p18) => (at_ p18.Slots a1).bind fun x21 => some (0, ({ p18 with Slots := p18.Slots.set a1.toNat ({ x21 with Cap := (⟨0, 0, 0, 0, 0, 0⟩ : api_Cap) } : ref10_Slot) } : ref10_State))))
set_option maxHeartbeats 8000000 in
set_option maxRecDepth 100000 in
theorem ref10_State_Delete.ct (k : Nat) (bp0 : Nat) (v0_Slots : Value) (v0_Objs : Value) (a0 : ref10_State) (a1 : Int) (r0 : Int) (rp0 : ref10_State) (h : ref10_State_Delete.f k a0 a1 = some (r0, rp0)) :
    Ct Try.prog 12 [bp bp0 0, .int .i64 a1] (fun _ => True) [Box bp0 [v0_Slots, v0_Objs, .int .i64 a0.NS, .int .i64 a0.NO], OwnR 65 kr_ref10_Slot v0_Slots a0.Slots, OwnR 58 kr_ref10_Obj v0_Objs a0.Objs] (fun u H' => ∃ rw0_Slots rw0_Objs, u = .int .i64 r0 ∧ H' = [Box bp0 [rw0_Slots, rw0_Objs, .int .i64 rp0.NS, .int .i64 rp0.NO], OwnR 65 kr_ref10_Slot rw0_Slots rp0.Slots, OwnR 58 kr_ref10_Obj rw0_Objs rp0.Objs]) := by
  unfold ref10_State_Delete.f at h
  refine Ct.intro (n := 31) Try.func12 rfl rfl rfl ?_
  intro R w0 F hF hR
  refine S.seq ?_
  refine S.region ?_
  refine SO.v rfl (opv_assign rfl) ?_
  refine SO.nil ?_
  refine S.seq ?_
  refine S.region ?_
  refine SO.v rfl (opv_move rfl) ?_
  obtain ⟨t1, ht2, h⟩ := opt_bind h
  refine SO.call (pre := []) rfl Try.call33 rfl rfl rfl (ref10_slot.ct _ _ ht2) trivial ?_
  rintro _ _ ⟨rfl, rfl⟩
  refine SO.v rfl (opv_assign rfl) ?_
  refine SO.nil ?_
  refine S.seq ?_
  refine S.seq ?_
  refine S.region ?_
  refine SO.v rfl (opv_move rfl) ?_
  refine SO.v rfl (opv_not rfl) ?_
  refine SO.nil ?_
  rcases bool_or (!t1) with b3 | b3
  · replace h := cond_t b3 h
    refine S.condT rfl b3 ?_
    refine S.seq ?_
    refine S.region ?_
    refine SO.v rfl (opv_assign rfl) ?_
    refine SO.nil ?_
    refine S.to (ρ' := [(4, .int .i64 2)]) ⟨rfl, trivial⟩ ?_
    cases h
    refine S.b3 ?_
    refine S.b3 ?_
    refine S.b3 ?_
    refine S.b3 ?_
    exact S.ret1 Try.func12 rfl rfl (fun w hs hk => hR w _ _ ⟨v0_Slots, v0_Objs, rfl, rfl⟩ hs hk)
  · replace h := cond_f b3 h
    refine S.condF rfl b3 ?_
    refine S.skip ?_
    refine S.seq ?_
    refine S.seq ?_
    refine S.region ?_
    refine SO.v rfl (opv_move rfl) ?_
    refine SO.v rfl (opv_nilCheck rfl) ?_
    refine SO.v rfl (opv_fieldAddr Try.underlying63 rfl Try.sizeOf60 rfl rfl) ?_
    refine SO.load1 rfl Try.isAgg60 rfl rfl ?_
    refine SO.v rfl (opv_move rfl) ?_
    refine SO.b1 ?_
    refine SO.openR fun raws9 A10 hrel11 hR12 => ?_
    obtain ⟨x4, hx5, h⟩ := opt_bind h
    obtain ⟨r6, hr7, hc8⟩ := relR.at hrel11 hx5
    refine SO.v rfl (opv_idx Try.underlying60 Try.sizeOf65 hR12 rfl rfl hr7) ?_
    refine SO.v rfl (opv_fieldIdx Try.underlying65 rfl Try.sizeOf55 hR12 hr7 rfl rfl) ?_
    obtain ⟨u13, hu14, hru15⟩ := hc8.sl 7 rfl
    refine SO.loadI1 (j := 7) rfl Try.isAgg55 (Rd.head hR12) hr7 rfl rfl rfl hu14 ?_
    refine SO.v rfl (opv_lenR rfl Try.underlying55 hru15 rfl) ?_
    refine SO.v rfl (opv_gtr rfl rfl) ?_
    refine SO.nil ?_
    refine S.to (ρ' := [(0, bp bp0 0), (1, .int .i64 a1), (4, .int .i64 0), (19, .bool (decide (0 < (x4.Kids.length : Int))))]) ⟨rfl, rfl, rfl, rfl, trivial⟩ ?_
    rcases bool_or (decide (0 < (x4.Kids.length : Int))) with b16 | b16
    · replace h := cond_t b16 h
      refine S.condT rfl b16 ?_
      refine S.seq ?_
      refine S.region ?_
      refine SO.v rfl (opv_assign rfl) ?_
      refine SO.nil ?_
      cases h
      refine S.closeR ?_
      refine S.b3 ?_
      refine S.b3 ?_
      refine S.b2 ?_
      refine S.b3 ?_
      exact S.ret1 Try.func12 rfl rfl (fun w hs hk => hR w _ _ ⟨v0_Slots, v0_Objs, rfl, rfl⟩ hs hk)
    · replace h := cond_f b16 h
      refine S.condF rfl b16 ?_
      refine S.skip ?_
      refine S.seq ?_
      refine S.region ?_
      refine SO.v rfl (opv_move rfl) ?_
      refine SO.v rfl (opv_move rfl) ?_
      obtain ⟨⟨t17, p18⟩, ht19, h⟩ := opt_bind h
      refine SO.closeR ?_
      refine SO.b2 ?_
      refine SO.b1 ?_
      refine SO.b2 ?_
      refine SO.call (pre := [Box _ _, OwnR _ _ _ _, OwnR _ _ _ _]) rfl Try.call34 rfl rfl rfl (ref10_State_Unlink.ct _ bp0 v0_Slots v0_Objs _ _ _ _ ht19) trivial ?_
      rintro _ _ ⟨u20_Slots, u20_Objs, rfl, rfl⟩
      refine SO.nil ?_
      refine S.seq ?_
      refine S.region ?_
      refine SO.v rfl (opv_move rfl) ?_
      refine SO.v rfl (opv_nilCheck rfl) ?_
      refine SO.v rfl (opv_fieldAddr Try.underlying63 rfl Try.sizeOf60 rfl rfl) ?_
      refine SO.load1 rfl Try.isAgg60 rfl rfl ?_
      refine SO.v rfl (opv_move rfl) ?_
      refine SO.v rfl (opv_build (v := .agg #[.int .i64 0, .int .i64 0, .int .i64 0, .int .i64 0, .int .i64 0, .int .i64 0]) rfl (by intro w; kernel_rfl)) ?_
      refine SO.b1 ?_
      refine SO.openR fun raws26 A27 hrel28 hR29 => ?_
      obtain ⟨x21, hx22, h⟩ := opt_bind h
      obtain ⟨r23, hr24, hc25⟩ := relR.at hrel28 hx22
      refine SO.v rfl (opv_idx Try.underlying60 Try.sizeOf65 hR29 rfl rfl hr24) ?_
      refine SO.v rfl (opv_fieldIdx Try.underlying65 rfl Try.sizeOf45 hR29 hr24 rfl rfl) ?_
      refine SO.storeOP (j := 0) (us := [.int .i64 0, .int .i64 0, .int .i64 0, .int .i64 0, .int .i64 0, .int .i64 0]) (z' := ({ x21 with Cap := (⟨0, 0, 0, 0, 0, 0⟩ : api_Cap) } : ref10_Slot)) Try.sizeOf45 hrel28 hx22 rfl rfl rfl rfl rfl rfl rfl (fun raws30 hrel31 hR32 => ?_)
      refine SO.nil ?_
      refine S.to (ρ' := [(4, .int .i64 0)]) ⟨rfl, trivial⟩ ?_
      refine S.seq ?_
      refine S.region ?_
      refine SO.v rfl (opv_assign rfl) ?_
      refine SO.nil ?_
      cases h
      refine S.closeR ?_
      refine S.b3 ?_
      refine S.b3 ?_
      refine S.b2 ?_
      refine S.b3 ?_
      exact S.ret1 Try.func12 rfl rfl (fun w hs hk => hR w _ _ ⟨u20_Slots, u20_Objs, rfl, rfl⟩ hs hk)
end Go.Proofs
namespace Go.Proofs
open Go.Sl Go.RowKit
/-! 66 padstone/padstoneref01.in -/
def ref01_in.f (a0 : Int) (a1 : Int) : Option (Bool) :=
  some ((decide (0 ≤ a0)) && (decide (a0 ≤ a1)))
set_option maxHeartbeats 8000000 in
set_option maxRecDepth 100000 in
theorem ref01_in.ct (a0 : Int) (a1 : Int) (r0 : Bool) (h : ref01_in.f a0 a1 = some r0) :
    Ct Try.prog 66 [.int .i64 a0, .int .i64 a1] (fun _ => True) [] (fun u H' => u = .bool r0 ∧ H' = []) := by
  unfold ref01_in.f at h
  refine Ct.intro (n := 12) Try.func66 rfl rfl rfl ?_
  intro R w0 F hF hR
  refine S.seq ?_
  refine S.region ?_
  refine SO.v rfl (opv_assign rfl) ?_
  refine SO.nil ?_
  refine S.seq ?_
  refine S.region ?_
  refine SO.v rfl (opv_move rfl) ?_
  refine SO.v rfl (opv_geq rfl rfl) ?_
  refine SO.v rfl (opv_move rfl) ?_
  refine SO.cut 4 11 (.bool ((decide (0 ≤ a0)) && (decide (a0 ≤ a1)))) [F] (fun l2 hk2 => ?_) ?_
  · rcases bool_or (decide (0 ≤ a0)) with b1 | b1
    · refine SO.takeT rfl rfl rfl b1 ?_
      refine SO.v rfl (opv_move rfl) ?_
      refine SO.takeT rfl rfl rfl b1 ?_
      refine SO.v rfl (opv_move rfl) ?_
      refine SO.takeT rfl rfl rfl b1 ?_
      refine SO.v rfl (opv_leq rfl rfl) ?_
      refine SO.v rfl (opv_pick_t' b1 rfl rfl) ?_
      exact hk2.fitc (m := 4) rfl (and_t b1) rfl
    · refine SO.passF rfl rfl rfl b1 rfl rfl ?_
      refine SO.passF rfl rfl rfl b1 rfl rfl ?_
      refine SO.passF rfl rfl rfl b1 rfl rfl ?_
      refine SO.v rfl (opv_pick_f' b1 rfl rfl) ?_
      exact hk2.fitc (m := 4) rfl (and_f b1) rfl
  refine SO.v rfl (opv_assign rfl) ?_
  refine SO.nil ?_
  cases h
  exact S.ret1 Try.func66 rfl rfl (fun w hs hk => hR w _ _ ⟨rfl, rfl⟩ hs hk)
end Go.Proofs
namespace Go.Proofs
open Go.Sl Go.RowKit
/-! 67 padstone/padstoneref01.two -/
def ref01_two.l1 (a0 : Int) : Nat → (Int × Int) → Option (Int)
  | 0, _ => none
  | k + 1, (x4_1, x3_1) => bif decide (x4_1 < a0) then (ref01_two.l1 a0 k (w64 (x4_1 + 1), w64 (2 * x3_1))) else (some x3_1)
def ref01_two.f (k : Nat) (a0 : Int) : Option (Int) :=
  (ref01_two.l1 a0 k (0, 1)).bind fun j3_e1 => some j3_e1
set_option maxHeartbeats 8000000 in
set_option maxRecDepth 100000 in
theorem ref01_two.ct (k : Nat) (a0 : Int) (r0 : Int) (h : ref01_two.f k a0 = some r0) :
    Ct Try.prog 67 [.int .i64 a0] (fun _ => True) [] (fun u H' => u = .int .i64 r0 ∧ H' = []) := by
  unfold ref01_two.f at h
  refine Ct.intro (n := 13) Try.func67 rfl rfl rfl ?_
  intro R w0 F hF hR
  refine S.seq ?_
  refine S.region ?_
  refine SO.v rfl (opv_assign rfl) ?_
  refine SO.nil ?_
  refine S.seq ?_
  refine S.region ?_
  refine SO.v rfl (opv_assign rfl) ?_
  refine SO.nil ?_
  refine S.seq ?_
  refine S.seq ?_
  refine S.region ?_
  refine SO.v rfl (opv_assign rfl) ?_
  refine SO.nil ?_
  obtain ⟨j3_e1, hl1, h⟩ := opt_bind h
  refine S.to (ρ' := [(4, .int .i64 0), (3, .int .i64 1), (2, .int .i64 0), (0, .int .i64 a0)]) ⟨rfl, rfl, rfl, rfl, trivial⟩ ?_
  refine S.forloop (X := (Int × Int) × Unit) (O := Int) (fun m x => ref01_two.l1 a0 m x.1) (fun x => match x with | ((x4_1, x3_1), _) => [(4, .int .i64 x4_1), (3, .int .i64 x3_1), (2, .int .i64 0), (0, .int .i64 a0)]) (fun x => match x with | ((x4_1, x3_1), _) => [F]) (fun Sk => (fun j3_e1 => ∀ _ : Unit, Sk [(2, .int .i64 0), (3, .int .i64 j3_e1)] [F])) (fun _ => rfl) ?_ (m := k) (x := ((0, 1), ())) hl1 ?_
  · clear h hl1
    intro k x o_1 h hK1 ih1
    obtain ⟨⟨x4_1, x3_1⟩, _⟩ := x
    replace h : ref01_two.l1 a0 (k + 1) (x4_1, x3_1) = some o_1 := h
    first | rw [ref01_two.l1] at h | unfold ref01_two.l1 at h
    refine S.seq ?_
    refine S.seq ?_
    refine S.region ?_
    refine SO.v rfl (opv_move rfl) ?_
    refine SO.v rfl (opv_move rfl) ?_
    refine SO.v rfl (opv_lss rfl rfl) ?_
    refine SO.nil ?_
    rcases bool_or (decide (x4_1 < a0)) with b1 | b1
    · replace h := cond_t b1 h
      refine S.condT rfl b1 ?_
      refine S.skip ?_
      refine S.seq ?_
      refine S.block ?_
      refine S.region ?_
      refine SO.v rfl (opv_move rfl) ?_
      refine SO.v rfl (opv_mul rfl rfl) ?_
      refine SO.v rfl (opv_assign rfl) ?_
      refine SO.nil ?_
      refine S.inBlock ?_
      refine S.region ?_
      refine SO.v rfl (opv_move rfl) ?_
      refine SO.v rfl (opv_add rfl rfl) ?_
      refine SO.v rfl (opv_assign rfl) ?_
      refine SO.nil ?_
      refine S.to (ρ' := [(4, .int .i64 (w64 (x4_1 + 1))), (3, .int .i64 (w64 (2 * x3_1))), (2, .int .i64 0), (0, .int .i64 a0)]) ⟨rfl, rfl, rfl, rfl, trivial⟩ ?_
      refine S.to ?_ (ih1 ((w64 (x4_1 + 1), w64 (2 * x3_1)), ()) h)
      exact ⟨rfl, rfl, rfl, rfl, trivial⟩
    · replace h := cond_f b1 h
      refine S.condF rfl b1 ?_
      refine S.exit rfl ?_
      cases h
      refine S.to ?_ (hK1 ())
      exact ⟨rfl, rfl, trivial⟩
  rintro _
  refine S.seq ?_
  refine S.region ?_
  refine SO.v rfl (opv_move rfl) ?_
  refine SO.v rfl (opv_assign rfl) ?_
  refine SO.nil ?_
  cases h
  exact S.ret1 Try.func67 rfl rfl (fun w hs hk => hR w _ _ ⟨rfl, rfl⟩ hs hk)
end Go.Proofs
namespace Go.Proofs
open Go.Sl Go.RowKit
/-! 49 padstone/padstoneref01.May -/
def ref01_May.f (k : Nat) (a0 : api_Cap) : Option (Bool) :=
  (ref01_in.f a0.Kind 8).bind fun t2 => (ref01_in.f a0.Rights 7).bind fun t4 => (ref01_in.f a0.Obj 31).bind fun t6 => (ref01_in.f a0.Badge 65535).bind fun t8 => (ref01_in.f a0.Bits 8).bind fun t10 => bif ((((!t2) || (!t4)) || (!t6)) || (!t8)) || (!t10) then (some false) else (bif (a0.Kind == 0) && ((a0.Rights != 0) || (a0.Obj != 0)) then (some false) else (bif ((a0.Kind != 3) && (a0.Kind != 4)) && (a0.Badge != 0) then (some false) else (bif (a0.Kind != 2) && ((a0.Bits != 0) || (a0.Guard != 0)) then (some false) else ((bif decide (0 ≤ a0.Guard) then ((ref01_two.f k a0.Bits).bind fun t27 => some (decide (a0.Guard < t27))) else (some false)).bind fun j2_1 => some j2_1))))
set_option maxHeartbeats 8000000 in
set_option maxRecDepth 100000 in
theorem ref01_May.ct (k : Nat) (a0 : api_Cap) (r0 : Bool) (h : ref01_May.f k a0 = some r0) :
    Ct Try.prog 49 [.agg #[.int .i64 a0.Kind, .int .i64 a0.Rights, .int .i64 a0.Obj, .int .i64 a0.Badge, .int .i64 a0.Guard, .int .i64 a0.Bits]] (fun _ => True) [] (fun u H' => u = .bool r0 ∧ H' = []) := by
  unfold ref01_May.f at h
  refine Ct.intro (n := 91) Try.func49 rfl rfl rfl ?_
  intro R w0 F hF hR
  refine S.seq ?_
  refine S.region ?_
  refine SO.box rfl rfl rfl (fun b1 => ?_)
  refine SO.v rfl (opv_assign rfl) ?_
  refine SO.nil ?_
  refine S.seq ?_
  refine S.region ?_
  refine SO.v rfl (opv_fieldAddr Try.underlying45 rfl Try.sizeOf3 rfl rfl) ?_
  refine SO.load1 rfl Try.isAgg3 rfl rfl ?_
  obtain ⟨t2, ht3, h⟩ := opt_bind h
  refine SO.call (pre := []) rfl Try.call66 rfl rfl rfl (ref01_in.ct _ _ _ ht3) trivial ?_
  rintro _ _ ⟨rfl, rfl⟩
  refine SO.v rfl (opv_assign rfl) ?_
  refine SO.nil ?_
  refine S.seq ?_
  refine S.region ?_
  refine SO.v rfl (opv_fieldAddr Try.underlying45 rfl Try.sizeOf3 rfl rfl) ?_
  refine SO.load1 rfl Try.isAgg3 rfl rfl ?_
  obtain ⟨t4, ht5, h⟩ := opt_bind h
  refine SO.call (pre := []) rfl Try.call66 rfl rfl rfl (ref01_in.ct _ _ _ ht5) trivial ?_
  rintro _ _ ⟨rfl, rfl⟩
  refine SO.v rfl (opv_assign rfl) ?_
  refine SO.nil ?_
  refine S.to (ρ' := [(1, bp b1 0), (2, .bool false), (3, .bool t2), (4, .bool t4)]) ⟨rfl, rfl, rfl, rfl, trivial⟩ ?_
  refine S.seq ?_
  refine S.region ?_
  refine SO.v rfl (opv_fieldAddr Try.underlying45 rfl Try.sizeOf3 rfl rfl) ?_
  refine SO.load1 rfl Try.isAgg3 rfl rfl ?_
  obtain ⟨t6, ht7, h⟩ := opt_bind h
  refine SO.call (pre := []) rfl Try.call66 rfl rfl rfl (ref01_in.ct _ _ _ ht7) trivial ?_
  rintro _ _ ⟨rfl, rfl⟩
  refine SO.v rfl (opv_assign rfl) ?_
  refine SO.nil ?_
  refine S.seq ?_
  refine S.region ?_
  refine SO.v rfl (opv_fieldAddr Try.underlying45 rfl Try.sizeOf3 rfl rfl) ?_
  refine SO.load1 rfl Try.isAgg3 rfl rfl ?_
  obtain ⟨t8, ht9, h⟩ := opt_bind h
  refine SO.call (pre := []) rfl Try.call66 rfl rfl rfl (ref01_in.ct _ _ _ ht9) trivial ?_
  rintro _ _ ⟨rfl, rfl⟩
  refine SO.v rfl (opv_assign rfl) ?_
  refine SO.nil ?_
  refine S.seq ?_
  refine S.region ?_
  refine SO.v rfl (opv_fieldAddr Try.underlying45 rfl Try.sizeOf3 rfl rfl) ?_
  refine SO.load1 rfl Try.isAgg3 rfl rfl ?_
  obtain ⟨t10, ht11, h⟩ := opt_bind h
  refine SO.call (pre := []) rfl Try.call66 rfl rfl rfl (ref01_in.ct _ _ _ ht11) trivial ?_
  rintro _ _ ⟨rfl, rfl⟩
  refine SO.v rfl (opv_assign rfl) ?_
  refine SO.nil ?_
  refine S.to (ρ' := [(1, bp b1 0), (2, .bool false), (3, .bool t2), (4, .bool t4), (5, .bool t6), (6, .bool t8), (7, .bool t10)]) ⟨rfl, rfl, rfl, rfl, rfl, rfl, rfl, trivial⟩ ?_
  refine S.seq ?_
  refine S.seq ?_
  refine S.region ?_
  refine SO.v rfl (opv_move rfl) ?_
  refine SO.v rfl (opv_not rfl) ?_
  refine SO.v rfl (opv_move rfl) ?_
  refine SO.cut 3 28 (.bool ((!t2) || (!t4))) [Box b1 [.int .i64 a0.Kind, .int .i64 a0.Rights, .int .i64 a0.Obj, .int .i64 a0.Badge, .int .i64 a0.Guard, .int .i64 a0.Bits], F] (fun l2 hk2 => ?_) ?_
  · rcases bool_or (!t2) with b12 | b12
    · refine SO.passF rfl rfl rfl b12 rfl rfl ?_
      refine SO.passF rfl rfl rfl b12 rfl rfl ?_
      refine SO.v rfl (opv_pick_t' b12 rfl rfl) ?_
      refine SO.b1 ?_
      refine SO.b1 ?_
      exact hk2.fitc (m := 3) rfl (or_t b12) rfl
    · refine SO.takeT rfl rfl rfl b12 ?_
      refine SO.v rfl (opv_move rfl) ?_
      refine SO.takeT rfl rfl rfl b12 ?_
      refine SO.v rfl (opv_not rfl) ?_
      refine SO.v rfl (opv_pick_f' b12 rfl rfl) ?_
      refine SO.b1 ?_
      refine SO.b1 ?_
      exact hk2.fitc (m := 3) rfl (or_f b12) rfl
  refine SO.v rfl (opv_move rfl) ?_
  refine SO.cut 3 32 (.bool (((!t2) || (!t4)) || (!t6))) [Box b1 [.int .i64 a0.Kind, .int .i64 a0.Rights, .int .i64 a0.Obj, .int .i64 a0.Badge, .int .i64 a0.Guard, .int .i64 a0.Bits], F] (fun l2 hk2 => ?_) ?_
  · rcases bool_or ((!t2) || (!t4)) with b13 | b13
    · refine SO.passF rfl rfl rfl b13 rfl rfl ?_
      refine SO.passF rfl rfl rfl b13 rfl rfl ?_
      refine SO.v rfl (opv_pick_t' b13 rfl rfl) ?_
      refine SO.b1 ?_
      refine SO.b1 ?_
      exact hk2.fitc (m := 3) rfl (or_t b13) rfl
    · refine SO.takeT rfl rfl rfl b13 ?_
      refine SO.v rfl (opv_move rfl) ?_
      refine SO.takeT rfl rfl rfl b13 ?_
      refine SO.v rfl (opv_not rfl) ?_
      refine SO.v rfl (opv_pick_f' b13 rfl rfl) ?_
      refine SO.b1 ?_
      refine SO.b1 ?_
      exact hk2.fitc (m := 3) rfl (or_f b13) rfl
  refine SO.v rfl (opv_move rfl) ?_
  refine SO.cut 3 36 (.bool ((((!t2) || (!t4)) || (!t6)) || (!t8))) [Box b1 [.int .i64 a0.Kind, .int .i64 a0.Rights, .int .i64 a0.Obj, .int .i64 a0.Badge, .int .i64 a0.Guard, .int .i64 a0.Bits], F] (fun l2 hk2 => ?_) ?_
  · rcases bool_or (((!t2) || (!t4)) || (!t6)) with b14 | b14
    · refine SO.passF rfl rfl rfl b14 rfl rfl ?_
      refine SO.passF rfl rfl rfl b14 rfl rfl ?_
      refine SO.v rfl (opv_pick_t' b14 rfl rfl) ?_
      refine SO.b1 ?_
      refine SO.b1 ?_
      exact hk2.fitc (m := 3) rfl (or_t b14) rfl
    · refine SO.takeT rfl rfl rfl b14 ?_
      refine SO.v rfl (opv_move rfl) ?_
      refine SO.takeT rfl rfl rfl b14 ?_
      refine SO.v rfl (opv_not rfl) ?_
      refine SO.v rfl (opv_pick_f' b14 rfl rfl) ?_
      refine SO.b1 ?_
      refine SO.b1 ?_
      exact hk2.fitc (m := 3) rfl (or_f b14) rfl
  refine SO.v rfl (opv_move rfl) ?_
  refine SO.cut 3 40 (.bool (((((!t2) || (!t4)) || (!t6)) || (!t8)) || (!t10))) [Box b1 [.int .i64 a0.Kind, .int .i64 a0.Rights, .int .i64 a0.Obj, .int .i64 a0.Badge, .int .i64 a0.Guard, .int .i64 a0.Bits], F] (fun l2 hk2 => ?_) ?_
  · rcases bool_or ((((!t2) || (!t4)) || (!t6)) || (!t8)) with b15 | b15
    · refine SO.passF rfl rfl rfl b15 rfl rfl ?_
      refine SO.passF rfl rfl rfl b15 rfl rfl ?_
      refine SO.v rfl (opv_pick_t' b15 rfl rfl) ?_
      refine SO.b1 ?_
      refine SO.b1 ?_
      exact hk2.fitc (m := 3) rfl (or_t b15) rfl
    · refine SO.takeT rfl rfl rfl b15 ?_
      refine SO.v rfl (opv_move rfl) ?_
      refine SO.takeT rfl rfl rfl b15 ?_
      refine SO.v rfl (opv_not rfl) ?_
      refine SO.v rfl (opv_pick_f' b15 rfl rfl) ?_
      refine SO.b1 ?_
      refine SO.b1 ?_
      exact hk2.fitc (m := 3) rfl (or_f b15) rfl
  refine SO.nil ?_
  refine S.to (ρ' := [(1, bp b1 0), (2, .bool false), (40, .bool (((((!t2) || (!t4)) || (!t6)) || (!t8)) || (!t10)))]) ⟨rfl, rfl, rfl, trivial⟩ ?_
  rcases bool_or (((((!t2) || (!t4)) || (!t6)) || (!t8)) || (!t10)) with b16 | b16
  · replace h := cond_t b16 h
    refine S.condT rfl b16 ?_
    refine S.seq ?_
    refine S.region ?_
    refine SO.v rfl (opv_assign rfl) ?_
    refine SO.nil ?_
    cases h
    refine S.drop ?_
    exact S.ret1 Try.func49 rfl rfl (fun w hs hk => hR w _ _ ⟨rfl, rfl⟩ hs hk)
  · replace h := cond_f b16 h
    refine S.condF rfl b16 ?_
    refine S.skip ?_
    refine S.seq ?_
    refine S.seq ?_
    refine S.region ?_
    refine SO.v rfl (opv_fieldAddr Try.underlying45 rfl Try.sizeOf3 rfl rfl) ?_
    refine SO.load1 rfl Try.isAgg3 rfl rfl ?_
    refine SO.v rfl (opv_eql rfl rfl) ?_
    refine SO.v rfl (opv_move rfl) ?_
    refine SO.cut 9 53 (.bool ((a0.Kind == 0) && ((a0.Rights != 0) || (a0.Obj != 0)))) [Box b1 [.int .i64 a0.Kind, .int .i64 a0.Rights, .int .i64 a0.Obj, .int .i64 a0.Badge, .int .i64 a0.Guard, .int .i64 a0.Bits], F] (fun l2 hk2 => ?_) ?_
    · rcases bool_or (a0.Kind == 0) with b17 | b17
      · refine SO.takeT rfl rfl rfl b17 ?_
        refine SO.v rfl (opv_fieldAddr Try.underlying45 rfl Try.sizeOf3 rfl rfl) ?_
        refine SO.takeT rfl rfl rfl b17 ?_
        refine SO.load1 rfl Try.isAgg3 rfl rfl ?_
        refine SO.takeT rfl rfl rfl b17 ?_
        refine SO.v rfl (opv_neq rfl rfl) ?_
        refine SO.takeT rfl rfl rfl b17 ?_
        refine SO.v rfl (opv_move rfl) ?_
        refine SO.cut 4 52 (.bool ((a0.Rights != 0) || (a0.Obj != 0))) [Box b1 [.int .i64 a0.Kind, .int .i64 a0.Rights, .int .i64 a0.Obj, .int .i64 a0.Badge, .int .i64 a0.Guard, .int .i64 a0.Bits], F] (fun l2 hk2 => ?_) ?_
        · rcases bool_or (a0.Rights != 0) with b18 | b18
          · refine SO.passF rfl rfl rfl b18 rfl rfl ?_
            refine SO.passF rfl rfl rfl b18 rfl rfl ?_
            refine SO.passF rfl rfl rfl b18 rfl rfl ?_
            refine SO.takeT rfl rfl rfl b17 ?_
            refine SO.v rfl (opv_pick_t' b18 rfl rfl) ?_
            refine SO.b1 ?_
            refine SO.b1 ?_
            exact hk2.fitc (m := 4) rfl (or_t b18) rfl
          · refine SO.takeT rfl rfl rfl b18 ?_
            refine SO.v rfl (opv_fieldAddr Try.underlying45 rfl Try.sizeOf3 rfl rfl) ?_
            refine SO.takeT rfl rfl rfl b18 ?_
            refine SO.load1 rfl Try.isAgg3 rfl rfl ?_
            refine SO.takeT rfl rfl rfl b18 ?_
            refine SO.v rfl (opv_neq rfl rfl) ?_
            refine SO.takeT rfl rfl rfl b17 ?_
            refine SO.v rfl (opv_pick_f' b18 rfl rfl) ?_
            refine SO.b1 ?_
            refine SO.b1 ?_
            exact hk2.fitc (m := 4) rfl (or_f b18) rfl
        refine SO.v rfl (opv_pick_t' b17 rfl rfl) ?_
        refine SO.b1 ?_
        refine SO.b1 ?_
        exact hk2.fitc (m := 6) rfl (and_t b17) rfl
      · refine SO.passF rfl rfl rfl b17 rfl rfl ?_
        refine SO.passF rfl rfl rfl b17 rfl rfl ?_
        refine SO.passF rfl rfl rfl b17 rfl rfl ?_
        refine SO.passF rfl rfl rfl b17 rfl rfl ?_
        refine SO.pass_undef rfl rfl rfl rfl ?_
        refine SO.pass_undef rfl rfl rfl rfl ?_
        refine SO.pass_undef rfl rfl rfl rfl ?_
        refine SO.passF rfl rfl rfl b17 rfl rfl ?_
        refine SO.v rfl (opv_pick_f' b17 rfl rfl) ?_
        refine SO.b1 ?_
        refine SO.b1 ?_
        exact hk2.fitc (m := 9) rfl (and_f b17) rfl
    refine SO.nil ?_
    rcases bool_or ((a0.Kind == 0) && ((a0.Rights != 0) || (a0.Obj != 0))) with b19 | b19
    · replace h := cond_t b19 h
      refine S.condT rfl b19 ?_
      refine S.seq ?_
      refine S.region ?_
      refine SO.v rfl (opv_assign rfl) ?_
      refine SO.nil ?_
      refine S.to (ρ' := [(2, .bool false)]) ⟨rfl, trivial⟩ ?_
      cases h
      refine S.drop ?_
      exact S.ret1 Try.func49 rfl rfl (fun w hs hk => hR w _ _ ⟨rfl, rfl⟩ hs hk)
    · replace h := cond_f b19 h
      refine S.condF rfl b19 ?_
      refine S.skip ?_
      refine S.seq ?_
      refine S.seq ?_
      refine S.region ?_
      refine SO.v rfl (opv_fieldAddr Try.underlying45 rfl Try.sizeOf3 rfl rfl) ?_
      refine SO.load1 rfl Try.isAgg3 rfl rfl ?_
      refine SO.v rfl (opv_neq rfl rfl) ?_
      refine SO.v rfl (opv_move rfl) ?_
      refine SO.cut 4 61 (.bool ((a0.Kind != 3) && (a0.Kind != 4))) [Box b1 [.int .i64 a0.Kind, .int .i64 a0.Rights, .int .i64 a0.Obj, .int .i64 a0.Badge, .int .i64 a0.Guard, .int .i64 a0.Bits], F] (fun l2 hk2 => ?_) ?_
      · rcases bool_or (a0.Kind != 3) with b20 | b20
        · refine SO.takeT rfl rfl rfl b20 ?_
          refine SO.v rfl (opv_fieldAddr Try.underlying45 rfl Try.sizeOf3 rfl rfl) ?_
          refine SO.takeT rfl rfl rfl b20 ?_
          refine SO.load1 rfl Try.isAgg3 rfl rfl ?_
          refine SO.takeT rfl rfl rfl b20 ?_
          refine SO.v rfl (opv_neq rfl rfl) ?_
          refine SO.v rfl (opv_pick_t' b20 rfl rfl) ?_
          refine SO.b1 ?_
          refine SO.b1 ?_
          exact hk2.fitc (m := 4) rfl (and_t b20) rfl
        · refine SO.passF rfl rfl rfl b20 rfl rfl ?_
          refine SO.passF rfl rfl rfl b20 rfl rfl ?_
          refine SO.passF rfl rfl rfl b20 rfl rfl ?_
          refine SO.v rfl (opv_pick_f' b20 rfl rfl) ?_
          refine SO.b1 ?_
          refine SO.b1 ?_
          exact hk2.fitc (m := 4) rfl (and_f b20) rfl
      refine SO.v rfl (opv_move rfl) ?_
      refine SO.cut 4 66 (.bool (((a0.Kind != 3) && (a0.Kind != 4)) && (a0.Badge != 0))) [Box b1 [.int .i64 a0.Kind, .int .i64 a0.Rights, .int .i64 a0.Obj, .int .i64 a0.Badge, .int .i64 a0.Guard, .int .i64 a0.Bits], F] (fun l2 hk2 => ?_) ?_
      · rcases bool_or ((a0.Kind != 3) && (a0.Kind != 4)) with b21 | b21
        · refine SO.takeT rfl rfl rfl b21 ?_
          refine SO.v rfl (opv_fieldAddr Try.underlying45 rfl Try.sizeOf3 rfl rfl) ?_
          refine SO.takeT rfl rfl rfl b21 ?_
          refine SO.load1 rfl Try.isAgg3 rfl rfl ?_
          refine SO.takeT rfl rfl rfl b21 ?_
          refine SO.v rfl (opv_neq rfl rfl) ?_
          refine SO.v rfl (opv_pick_t' b21 rfl rfl) ?_
          refine SO.b1 ?_
          refine SO.b1 ?_
          exact hk2.fitc (m := 4) rfl (and_t b21) rfl
        · refine SO.passF rfl rfl rfl b21 rfl rfl ?_
          refine SO.passF rfl rfl rfl b21 rfl rfl ?_
          refine SO.passF rfl rfl rfl b21 rfl rfl ?_
          refine SO.v rfl (opv_pick_f' b21 rfl rfl) ?_
          refine SO.b1 ?_
          refine SO.b1 ?_
          exact hk2.fitc (m := 4) rfl (and_f b21) rfl
      refine SO.nil ?_
      refine S.to (ρ' := [(1, bp b1 0), (2, .bool false), (66, .bool (((a0.Kind != 3) && (a0.Kind != 4)) && (a0.Badge != 0)))]) ⟨rfl, rfl, rfl, trivial⟩ ?_
      rcases bool_or (((a0.Kind != 3) && (a0.Kind != 4)) && (a0.Badge != 0)) with b22 | b22
      · replace h := cond_t b22 h
        refine S.condT rfl b22 ?_
        refine S.seq ?_
        refine S.region ?_
        refine SO.v rfl (opv_assign rfl) ?_
        refine SO.nil ?_
        cases h
        refine S.drop ?_
        exact S.ret1 Try.func49 rfl rfl (fun w hs hk => hR w _ _ ⟨rfl, rfl⟩ hs hk)
      · replace h := cond_f b22 h
        refine S.condF rfl b22 ?_
        refine S.skip ?_
        refine S.seq ?_
        refine S.seq ?_
        refine S.region ?_
        refine SO.v rfl (opv_fieldAddr Try.underlying45 rfl Try.sizeOf3 rfl rfl) ?_
        refine SO.load1 rfl Try.isAgg3 rfl rfl ?_
        refine SO.v rfl (opv_neq rfl rfl) ?_
        refine SO.v rfl (opv_move rfl) ?_
        refine SO.cut 9 79 (.bool ((a0.Kind != 2) && ((a0.Bits != 0) || (a0.Guard != 0)))) [Box b1 [.int .i64 a0.Kind, .int .i64 a0.Rights, .int .i64 a0.Obj, .int .i64 a0.Badge, .int .i64 a0.Guard, .int .i64 a0.Bits], F] (fun l2 hk2 => ?_) ?_
        · rcases bool_or (a0.Kind != 2) with b23 | b23
          · refine SO.takeT rfl rfl rfl b23 ?_
            refine SO.v rfl (opv_fieldAddr Try.underlying45 rfl Try.sizeOf3 rfl rfl) ?_
            refine SO.takeT rfl rfl rfl b23 ?_
            refine SO.load1 rfl Try.isAgg3 rfl rfl ?_
            refine SO.takeT rfl rfl rfl b23 ?_
            refine SO.v rfl (opv_neq rfl rfl) ?_
            refine SO.takeT rfl rfl rfl b23 ?_
            refine SO.v rfl (opv_move rfl) ?_
            refine SO.cut 4 78 (.bool ((a0.Bits != 0) || (a0.Guard != 0))) [Box b1 [.int .i64 a0.Kind, .int .i64 a0.Rights, .int .i64 a0.Obj, .int .i64 a0.Badge, .int .i64 a0.Guard, .int .i64 a0.Bits], F] (fun l2 hk2 => ?_) ?_
            · rcases bool_or (a0.Bits != 0) with b24 | b24
              · refine SO.passF rfl rfl rfl b24 rfl rfl ?_
                refine SO.passF rfl rfl rfl b24 rfl rfl ?_
                refine SO.passF rfl rfl rfl b24 rfl rfl ?_
                refine SO.takeT rfl rfl rfl b23 ?_
                refine SO.v rfl (opv_pick_t' b24 rfl rfl) ?_
                refine SO.b1 ?_
                refine SO.b1 ?_
                exact hk2.fitc (m := 4) rfl (or_t b24) rfl
              · refine SO.takeT rfl rfl rfl b24 ?_
                refine SO.v rfl (opv_fieldAddr Try.underlying45 rfl Try.sizeOf3 rfl rfl) ?_
                refine SO.takeT rfl rfl rfl b24 ?_
                refine SO.load1 rfl Try.isAgg3 rfl rfl ?_
                refine SO.takeT rfl rfl rfl b24 ?_
                refine SO.v rfl (opv_neq rfl rfl) ?_
                refine SO.takeT rfl rfl rfl b23 ?_
                refine SO.v rfl (opv_pick_f' b24 rfl rfl) ?_
                refine SO.b1 ?_
                refine SO.b1 ?_
                exact hk2.fitc (m := 4) rfl (or_f b24) rfl
            refine SO.v rfl (opv_pick_t' b23 rfl rfl) ?_
            refine SO.b1 ?_
            refine SO.b1 ?_
            exact hk2.fitc (m := 6) rfl (and_t b23) rfl
          · refine SO.passF rfl rfl rfl b23 rfl rfl ?_
            refine SO.passF rfl rfl rfl b23 rfl rfl ?_
            refine SO.passF rfl rfl rfl b23 rfl rfl ?_
            refine SO.passF rfl rfl rfl b23 rfl rfl ?_
            refine SO.pass_undef rfl rfl rfl rfl ?_
            refine SO.pass_undef rfl rfl rfl rfl ?_
            refine SO.pass_undef rfl rfl rfl rfl ?_
            refine SO.passF rfl rfl rfl b23 rfl rfl ?_
            refine SO.v rfl (opv_pick_f' b23 rfl rfl) ?_
            refine SO.b1 ?_
            refine SO.b1 ?_
            exact hk2.fitc (m := 9) rfl (and_f b23) rfl
        refine SO.nil ?_
        rcases bool_or ((a0.Kind != 2) && ((a0.Bits != 0) || (a0.Guard != 0))) with b25 | b25
        · replace h := cond_t b25 h
          refine S.condT rfl b25 ?_
          refine S.seq ?_
          refine S.region ?_
          refine SO.v rfl (opv_assign rfl) ?_
          refine SO.nil ?_
          refine S.to (ρ' := [(2, .bool false)]) ⟨rfl, trivial⟩ ?_
          cases h
          refine S.drop ?_
          exact S.ret1 Try.func49 rfl rfl (fun w hs hk => hR w _ _ ⟨rfl, rfl⟩ hs hk)
        · replace h := cond_f b25 h
          refine S.condF rfl b25 ?_
          refine S.skip ?_
          refine S.seq ?_
          obtain ⟨j2_1, hC1, hJ1⟩ := opt_bind h
          clear h
          refine S.cutP (G := Unit) (fun _ => True) (fun _ => [(2, .bool j2_1)]) (fun _ => [Box b1 [.int .i64 a0.Kind, .int .i64 a0.Rights, .int .i64 a0.Obj, .int .i64 a0.Badge, .int .i64 a0.Guard, .int .i64 a0.Bits], F]) (fun hk1 => ?_) ?_
          · replace h := hC1
            rcases bool_or (decide (0 ≤ a0.Guard)) with b26 | b26
            · replace h := cond_t b26 h
              obtain ⟨t27, ht28, h⟩ := opt_bind h
              refine S.draw' (Z := fun Q => ∀ (_ : Unit) (_ : Unit) (_ : Unit), Q [(2, .bool (decide (a0.Guard < t27)))] [Box b1 [.int .i64 a0.Kind, .int .i64 a0.Rights, .int .i64 a0.Obj, .int .i64 a0.Badge, .int .i64 a0.Guard, .int .i64 a0.Bits], F]) (T := [tS 1 (bp b1 0), tR (Box b1 [.int .i64 a0.Kind, .int .i64 a0.Rights, .int .i64 a0.Obj, .int .i64 a0.Badge, .int .i64 a0.Guard, .int .i64 a0.Bits]), tR (F), tS 80 (bp b1 4), tS 81 (.int .i64 a0.Guard), tS 82 (.bool (decide (0 ≤ a0.Guard))), tS 83 (.bool (decide (0 ≤ a0.Guard))), tS 84 (bp b1 4), tS 85 (.int .i64 a0.Guard), tS 86 (bp b1 5), tS 87 (.int .i64 a0.Bits), tS 88 (.int .i64 t27), tS 89 (.bool (decide (a0.Guard < t27))), tS 90 (.bool (decide (a0.Guard < t27))), tS 2 (.bool (decide (a0.Guard < t27)))]) (D := [⟨[0], [], [3]⟩, ⟨[3, 1], [], [4]⟩, ⟨[4], [], [5]⟩, ⟨[5], [], [6]⟩, ⟨[0, 6], [], [7]⟩, ⟨[6, 7, 1], [], [8]⟩, ⟨[0, 6], [], [9]⟩, ⟨[6, 9, 1], [], [10]⟩, ⟨[6, 10], [], [11]⟩, ⟨[6, 8, 11], [], [12]⟩, ⟨[6, 12], [], [13]⟩, ⟨[13], [], [14]⟩]) (ini := [0, 1, 2]) (fin := [14, 1, 2]) (bf := [[], [0], [0, 1], [0, 1, 2], [0, 1, 2, 3], [0, 1, 2, 3, 4], [0, 1, 2, 3], [0, 1, 2, 3, 6], [0, 1, 2, 3, 6, 7], [0, 1, 2, 3, 4, 5, 6, 7, 8], [0, 1, 2, 3, 4, 5, 6, 7, 8, 9], [0, 1, 2, 3, 4, 5, 6, 7, 8, 9, 10]]) (by kernel_rfl) (by kernel_rfl) (fun x w h1 h2 => (.cons () (.cons () (.cons () (.nil ⟨EnvAll.of h1 ⟨rfl, trivial⟩, h2⟩))))) (fun Q => by kernel_rfl) ⟨?_, ?_, ?_, ?_, ?_, ?_, ?_, ?_, ?_, ?_, ?_, ?_, trivial⟩ ?_
              · rintro Fr _
                refine SO.v rfl (opv_fieldAddr Try.underlying45 rfl Try.sizeOf3 rfl rfl) ?_
                exact SO.nilZ fun a w h1 h2 h3 h4 h5 => PZ.of h1 h3 h5 (.cons () (.cons () (.nil ⟨EnvAll.of h2 ⟨rfl, rfl, trivial⟩, h4⟩)))
              · rintro Fr _ _
                refine SO.load1 rfl Try.isAgg3 rfl rfl ?_
                exact SO.nilZ fun a w h1 h2 h3 h4 h5 => PZ.of h1 h3 h5 (.cons () (.cons () (.cons () (.nil ⟨EnvAll.of h2 ⟨rfl, rfl, trivial⟩, h4⟩))))
              · rintro Fr _
                refine SO.v rfl (opv_geq rfl rfl) ?_
                exact SO.nilZ fun a w h1 h2 h3 h4 h5 => PZ.of h1 h3 h5 (.cons () (.cons () (.nil ⟨EnvAll.of h2 ⟨rfl, rfl, trivial⟩, h4⟩)))
              · rintro Fr _
                refine SO.v rfl (opv_move rfl) ?_
                exact SO.nilZ fun a w h1 h2 h3 h4 h5 => PZ.of h1 h3 h5 (.cons () (.cons () (.nil ⟨EnvAll.of h2 ⟨rfl, rfl, trivial⟩, h4⟩)))
              · rintro Fr _ _
                refine SO.takeT rfl rfl rfl b26 ?_
                refine SO.v rfl (opv_fieldAddr Try.underlying45 rfl Try.sizeOf3 rfl rfl) ?_
                exact SO.nilZ fun a w h1 h2 h3 h4 h5 => PZ.of h1 h3 h5 (.cons () (.cons () (.cons () (.nil ⟨EnvAll.of h2 ⟨rfl, rfl, rfl, trivial⟩, h4⟩))))
              · rintro Fr _ _ _
                refine SO.takeT rfl rfl rfl b26 ?_
                refine SO.load1 rfl Try.isAgg3 rfl rfl ?_
                exact SO.nilZ fun a w h1 h2 h3 h4 h5 => PZ.of h1 h3 h5 (.cons () (.cons () (.cons () (.cons () (.nil ⟨EnvAll.of h2 ⟨rfl, rfl, rfl, trivial⟩, h4⟩)))))
              · rintro Fr _ _
                refine SO.takeT rfl rfl rfl b26 ?_
                refine SO.v rfl (opv_fieldAddr Try.underlying45 rfl Try.sizeOf3 rfl rfl) ?_
                exact SO.nilZ fun a w h1 h2 h3 h4 h5 => PZ.of h1 h3 h5 (.cons () (.cons () (.cons () (.nil ⟨EnvAll.of h2 ⟨rfl, rfl, rfl, trivial⟩, h4⟩))))
              · rintro Fr _ _ _
                refine SO.takeT rfl rfl rfl b26 ?_
                refine SO.load1 rfl Try.isAgg3 rfl rfl ?_
                exact SO.nilZ fun a w h1 h2 h3 h4 h5 => PZ.of h1 h3 h5 (.cons () (.cons () (.cons () (.cons () (.nil ⟨EnvAll.of h2 ⟨rfl, rfl, rfl, trivial⟩, h4⟩)))))
              · rintro Fr _ _
                refine SO.takeT rfl rfl rfl b26 ?_
                refine SO.call (pre := []) rfl Try.call67 rfl rfl rfl (ref01_two.ct _ _ _ ht28) trivial ?_
                rintro _ _ ⟨rfl, rfl⟩
                exact SO.nilZ fun a w h1 h2 h3 h4 h5 => PZ.of h1 h3 h5 (.cons () (.cons () (.cons () (.nil ⟨EnvAll.of h2 ⟨rfl, rfl, rfl, trivial⟩, h4⟩))))
              · rintro Fr _ _ _
                refine SO.takeT rfl rfl rfl b26 ?_
                refine SO.v rfl (opv_lss rfl rfl) ?_
                exact SO.nilZ fun a w h1 h2 h3 h4 h5 => PZ.of h1 h3 h5 (.cons () (.cons () (.cons () (.cons () (.nil ⟨EnvAll.of h2 ⟨rfl, rfl, rfl, rfl, trivial⟩, h4⟩)))))
              · rintro Fr _ _
                refine SO.v rfl (opv_pick_t' b26 rfl rfl) ?_
                exact SO.nilZ fun a w h1 h2 h3 h4 h5 => PZ.of h1 h3 h5 (.cons () (.cons () (.cons () (.nil ⟨EnvAll.of h2 ⟨rfl, rfl, rfl, trivial⟩, h4⟩))))
              · rintro Fr _
                refine SO.v rfl (opv_assign rfl) ?_
                exact SO.nilZ fun a w h1 h2 h3 h4 h5 => PZ.of h1 h3 h5 (.cons () (.cons () (.nil ⟨EnvAll.of h2 ⟨rfl, rfl, trivial⟩, h4⟩)))
              rintro _ _ _
              refine S.to (ρ' := [(2, .bool (decide (a0.Guard < t27)))]) ⟨rfl, trivial⟩ ?_
              cases h
              refine S.b1 ?_
              refine S.b1 ?_
              refine S.to ?_ (hk1 () trivial)
              exact ⟨rfl, trivial⟩
            · replace h := cond_f b26 h
              refine S.draw' (Z := fun Q => ∀ (_ : Unit) (_ : Unit) (_ : Unit), Q [(2, .bool false)] [Box b1 [.int .i64 a0.Kind, .int .i64 a0.Rights, .int .i64 a0.Obj, .int .i64 a0.Badge, .int .i64 a0.Guard, .int .i64 a0.Bits], F]) (T := [tS 1 (bp b1 0), tR (Box b1 [.int .i64 a0.Kind, .int .i64 a0.Rights, .int .i64 a0.Obj, .int .i64 a0.Badge, .int .i64 a0.Guard, .int .i64 a0.Bits]), tR (F), tS 80 (bp b1 4), tS 81 (.int .i64 a0.Guard), tS 82 (.bool (decide (0 ≤ a0.Guard))), tS 83 (.bool (decide (0 ≤ a0.Guard))), tS 84 (undef), tS 85 (undef), tS 86 (undef), tS 87 (undef), tS 88 (undef), tS 89 (undef), tS 90 (.bool false), tS 2 (.bool false)]) (D := [⟨[0], [], [3]⟩, ⟨[3, 1], [], [4]⟩, ⟨[4], [], [5]⟩, ⟨[5], [], [6]⟩, ⟨[6], [], [7]⟩, ⟨[6], [], [8]⟩, ⟨[6], [], [9]⟩, ⟨[6], [], [10]⟩, ⟨[6], [], [11]⟩, ⟨[6], [], [12]⟩, ⟨[6, 12], [], [13]⟩, ⟨[13], [], [14]⟩]) (ini := [0, 1, 2]) (fin := [14, 1, 2]) (bf := [[], [0], [0, 1], [0, 1, 2], [0, 1, 2, 3], [0, 1, 2, 3, 4], [0, 1, 2, 3], [0, 1, 2, 3, 6], [0, 1, 2, 3, 6, 7], [0, 1, 2, 3, 4, 5, 6, 7, 8], [0, 1, 2, 3, 4, 5, 6, 7, 8, 9], [0, 1, 2, 3, 4, 5, 6, 7, 8, 9, 10]]) (by kernel_rfl) (by kernel_rfl) (fun x w h1 h2 => (.cons () (.cons () (.cons () (.nil ⟨EnvAll.of h1 ⟨rfl, trivial⟩, h2⟩))))) (fun Q => by kernel_rfl) ⟨?_, ?_, ?_, ?_, ?_, ?_, ?_, ?_, ?_, ?_, ?_, ?_, trivial⟩ ?_
              · rintro Fr _
                refine SO.v rfl (opv_fieldAddr Try.underlying45 rfl Try.sizeOf3 rfl rfl) ?_
                exact SO.nilZ fun a w h1 h2 h3 h4 h5 => PZ.of h1 h3 h5 (.cons () (.cons () (.nil ⟨EnvAll.of h2 ⟨rfl, rfl, trivial⟩, h4⟩)))
              · rintro Fr _ _
                refine SO.load1 rfl Try.isAgg3 rfl rfl ?_
                exact SO.nilZ fun a w h1 h2 h3 h4 h5 => PZ.of h1 h3 h5 (.cons () (.cons () (.cons () (.nil ⟨EnvAll.of h2 ⟨rfl, rfl, trivial⟩, h4⟩))))
              · rintro Fr _
                refine SO.v rfl (opv_geq rfl rfl) ?_
                exact SO.nilZ fun a w h1 h2 h3 h4 h5 => PZ.of h1 h3 h5 (.cons () (.cons () (.nil ⟨EnvAll.of h2 ⟨rfl, rfl, trivial⟩, h4⟩)))
              · rintro Fr _
                refine SO.v rfl (opv_move rfl) ?_
                exact SO.nilZ fun a w h1 h2 h3 h4 h5 => PZ.of h1 h3 h5 (.cons () (.cons () (.nil ⟨EnvAll.of h2 ⟨rfl, rfl, trivial⟩, h4⟩)))
              · rintro Fr _
                refine SO.passF rfl rfl rfl b26 rfl rfl ?_
                exact SO.nilZ fun a w h1 h2 h3 h4 h5 => PZ.of h1 h3 h5 (.cons () (.cons () (.nil ⟨EnvAll.of h2 ⟨rfl, rfl, trivial⟩, h4⟩)))
              · rintro Fr _
                refine SO.passF rfl rfl rfl b26 rfl rfl ?_
                exact SO.nilZ fun a w h1 h2 h3 h4 h5 => PZ.of h1 h3 h5 (.cons () (.cons () (.nil ⟨EnvAll.of h2 ⟨rfl, rfl, trivial⟩, h4⟩)))
              · rintro Fr _
                refine SO.passF rfl rfl rfl b26 rfl rfl ?_
                exact SO.nilZ fun a w h1 h2 h3 h4 h5 => PZ.of h1 h3 h5 (.cons () (.cons () (.nil ⟨EnvAll.of h2 ⟨rfl, rfl, trivial⟩, h4⟩)))
              · rintro Fr _
                refine SO.passF rfl rfl rfl b26 rfl rfl ?_
                exact SO.nilZ fun a w h1 h2 h3 h4 h5 => PZ.of h1 h3 h5 (.cons () (.cons () (.nil ⟨EnvAll.of h2 ⟨rfl, rfl, trivial⟩, h4⟩)))
              · rintro Fr _
                refine SO.passF rfl rfl rfl b26 rfl rfl ?_
                exact SO.nilZ fun a w h1 h2 h3 h4 h5 => PZ.of h1 h3 h5 (.cons () (.cons () (.nil ⟨EnvAll.of h2 ⟨rfl, rfl, trivial⟩, h4⟩)))
              · rintro Fr _
                refine SO.passF rfl rfl rfl b26 rfl rfl ?_
                exact SO.nilZ fun a w h1 h2 h3 h4 h5 => PZ.of h1 h3 h5 (.cons () (.cons () (.nil ⟨EnvAll.of h2 ⟨rfl, rfl, trivial⟩, h4⟩)))
              · rintro Fr _ _
                refine SO.v rfl (opv_pick_f' b26 rfl rfl) ?_
                exact SO.nilZ fun a w h1 h2 h3 h4 h5 => PZ.of h1 h3 h5 (.cons () (.cons () (.cons () (.nil ⟨EnvAll.of h2 ⟨rfl, rfl, rfl, trivial⟩, h4⟩))))
              · rintro Fr _
                refine SO.v rfl (opv_assign rfl) ?_
                exact SO.nilZ fun a w h1 h2 h3 h4 h5 => PZ.of h1 h3 h5 (.cons () (.cons () (.nil ⟨EnvAll.of h2 ⟨rfl, rfl, trivial⟩, h4⟩)))
              rintro _ _ _
              refine S.to (ρ' := [(2, .bool false)]) ⟨rfl, trivial⟩ ?_
              cases h
              refine S.b1 ?_
              refine S.b1 ?_
              refine S.to ?_ (hk1 () trivial)
              exact ⟨rfl, trivial⟩
          rintro _ -
          replace h := hJ1
          cases h
          refine S.drop ?_
          exact S.ret1 Try.func49 rfl rfl (fun w hs hk => hR w _ _ ⟨rfl, rfl⟩ hs hk)
end Go.Proofs
namespace Go.Proofs
open Go.Sl Go.RowKit
/-! 50 padstone/padstoneref01.both -/
def ref01_both.l1 (a0 : Int) (a1 : Int) : Nat → (Int × Int) → Option (Int)
  | 0, _ => none
  | k + 1, (x6_1, x5_1) => bif decide (x6_1 < 8) then ((chk (decide (x6_1 ≠ 0))).bind fun _ => (bif ((w64 (a0.tdiv x6_1)).tmod 2) == 1 then ((chk (decide (x6_1 ≠ 0))).bind fun _ => some (((w64 (a1.tdiv x6_1)).tmod 2) == 1)) else (some false)).bind fun c4 => bif c4 then (ref01_both.l1 a0 a1 k (w64 (2 * x6_1), w64 (x5_1 + x6_1))) else (ref01_both.l1 a0 a1 k (w64 (2 * x6_1), x5_1))) else (some x5_1)
def ref01_both.f (k : Nat) (a0 : Int) (a1 : Int) : Option (Int) :=
  (ref01_both.l1 a0 a1 k (1, 0)).bind fun j5_e1 => some j5_e1
set_option maxHeartbeats 8000000 in
set_option maxRecDepth 100000 in
theorem ref01_both.ct (k : Nat) (a0 : Int) (a1 : Int) (r0 : Int) (h : ref01_both.f k a0 a1 = some r0) :
    Ct Try.prog 50 [.int .i64 a0, .int .i64 a1] (fun _ => True) [] (fun u H' => u = .int .i64 r0 ∧ H' = []) := by
  unfold ref01_both.f at h
  refine Ct.intro (n := 27) Try.func50 rfl rfl rfl ?_
  intro R w0 F hF hR
  refine S.seq ?_
  refine S.region ?_
  refine SO.v rfl (opv_assign rfl) ?_
  refine SO.nil ?_
  refine S.seq ?_
  refine S.region ?_
  refine SO.v rfl (opv_assign rfl) ?_
  refine SO.nil ?_
  refine S.seq ?_
  refine S.seq ?_
  refine S.region ?_
  refine SO.v rfl (opv_assign rfl) ?_
  refine SO.nil ?_
  obtain ⟨j5_e1, hl1, h⟩ := opt_bind h
  refine S.to (ρ' := [(6, .int .i64 1), (5, .int .i64 0), (4, .int .i64 0), (0, .int .i64 a0), (1, .int .i64 a1)]) ⟨rfl, rfl, rfl, rfl, rfl, trivial⟩ ?_
  refine S.forloop (X := (Int × Int) × Unit) (O := Int) (fun m x => ref01_both.l1 a0 a1 m x.1) (fun x => match x with | ((x6_1, x5_1), _) => [(6, .int .i64 x6_1), (5, .int .i64 x5_1), (4, .int .i64 0), (0, .int .i64 a0), (1, .int .i64 a1)]) (fun x => match x with | ((x6_1, x5_1), _) => [F]) (fun Sk => (fun j5_e1 => ∀ _ : Unit, Sk [(4, .int .i64 0), (5, .int .i64 j5_e1)] [F])) (fun _ => rfl) ?_ (m := k) (x := ((1, 0), ())) hl1 ?_
  · clear h hl1
    intro k x o_1 h hK1 ih1
    obtain ⟨⟨x6_1, x5_1⟩, _⟩ := x
    replace h : ref01_both.l1 a0 a1 (k + 1) (x6_1, x5_1) = some o_1 := h
    first | rw [ref01_both.l1] at h | unfold ref01_both.l1 at h
    refine S.seq ?_
    refine S.seq ?_
    refine S.region ?_
    refine SO.v rfl (opv_move rfl) ?_
    refine SO.v rfl (opv_lss rfl rfl) ?_
    refine SO.nil ?_
    rcases bool_or (decide (x6_1 < 8)) with b1 | b1
    · replace h := cond_t b1 h
      refine S.condT rfl b1 ?_
      refine S.skip ?_
      refine S.seq ?_
      refine S.block ?_
      refine S.seq ?_
      refine S.region ?_
      refine SO.v rfl (opv_move rfl) ?_
      refine SO.v rfl (opv_move rfl) ?_
      obtain ⟨_, hc2, h⟩ := opt_bind h
      refine SO.v rfl (opv_quo rfl rfl (of_decide_eq_true (chk_some hc2))) ?_
      refine SO.v rfl (opv_rem rfl rfl (by decide)) ?_
      refine SO.v rfl (opv_eql rfl rfl) ?_
      refine SO.v rfl (opv_move rfl) ?_
      obtain ⟨c4, hc5, hgk⟩ := opt_bind h
      refine SO.cut 6 22 (.bool c4) [F] (fun l2 hk2 => ?_) ?_
      · clear hgk
        replace h := hc5
        rcases bool_or (((w64 (a0.tdiv x6_1)).tmod 2) == 1) with b3 | b3
        · replace h := cond_t b3 h
          refine SO.takeT rfl rfl rfl b3 ?_
          refine SO.v rfl (opv_move rfl) ?_
          refine SO.takeT rfl rfl rfl b3 ?_
          refine SO.v rfl (opv_move rfl) ?_
          refine SO.takeT rfl rfl rfl b3 ?_
          obtain ⟨_, hc6, h⟩ := opt_bind h
          refine SO.v rfl (opv_quo rfl rfl (of_decide_eq_true (chk_some hc6))) ?_
          refine SO.takeT rfl rfl rfl b3 ?_
          refine SO.v rfl (opv_rem rfl rfl (by decide)) ?_
          refine SO.takeT rfl rfl rfl b3 ?_
          refine SO.v rfl (opv_eql rfl rfl) ?_
          cases h
          refine SO.v rfl (opv_pick_t' b3 rfl rfl) ?_
          exact hk2.fitc (m := 6) rfl (rfl) rfl
        · replace h := cond_f b3 h
          refine SO.passF rfl rfl rfl b3 rfl rfl ?_
          refine SO.passF rfl rfl rfl b3 rfl rfl ?_
          refine SO.passF rfl rfl rfl b3 rfl rfl ?_
          refine SO.passF rfl rfl rfl b3 rfl rfl ?_
          refine SO.passF rfl rfl rfl b3 rfl rfl ?_
          cases h
          refine SO.v rfl (opv_pick_f' b3 rfl rfl) ?_
          exact hk2.fitc (m := 6) rfl (rfl) rfl
      clear hc5
      replace h := hgk
      refine SO.nil ?_
      refine S.to (ρ' := [(6, .int .i64 x6_1), (5, .int .i64 x5_1), (4, .int .i64 0), (0, .int .i64 a0), (1, .int .i64 a1), (22, .bool c4)]) ⟨rfl, rfl, rfl, rfl, rfl, rfl, trivial⟩ ?_
      rcases bool_or c4 with b7 | b7
      · replace h := cond_t b7 h
        refine S.condT rfl b7 ?_
        refine S.region ?_
        refine SO.v rfl (opv_move rfl) ?_
        refine SO.v rfl (opv_move rfl) ?_
        refine SO.v rfl (opv_add rfl rfl) ?_
        refine SO.v rfl (opv_assign rfl) ?_
        refine SO.nil ?_
        refine S.inBlock ?_
        refine S.region ?_
        refine SO.v rfl (opv_move rfl) ?_
        refine SO.v rfl (opv_mul rfl rfl) ?_
        refine SO.v rfl (opv_assign rfl) ?_
        refine SO.nil ?_
        refine S.to ?_ (ih1 ((w64 (2 * x6_1), w64 (x5_1 + x6_1)), ()) h)
        exact ⟨rfl, rfl, rfl, rfl, rfl, trivial⟩
      · replace h := cond_f b7 h
        refine S.condF rfl b7 ?_
        refine S.skip ?_
        refine S.inBlock ?_
        refine S.region ?_
        refine SO.v rfl (opv_move rfl) ?_
        refine SO.v rfl (opv_mul rfl rfl) ?_
        refine SO.v rfl (opv_assign rfl) ?_
        refine SO.nil ?_
        refine S.to ?_ (ih1 ((w64 (2 * x6_1), x5_1), ()) h)
        exact ⟨rfl, rfl, rfl, rfl, rfl, trivial⟩
    · replace h := cond_f b1 h
      refine S.condF rfl b1 ?_
      refine S.exit rfl ?_
      cases h
      refine S.to ?_ (hK1 ())
      exact ⟨rfl, rfl, trivial⟩
  rintro _
  refine S.seq ?_
  refine S.region ?_
  refine SO.v rfl (opv_move rfl) ?_
  refine SO.v rfl (opv_assign rfl) ?_
  refine SO.nil ?_
  cases h
  exact S.ret1 Try.func50 rfl rfl (fun w hs hk => hR w _ _ ⟨rfl, rfl⟩ hs hk)
end Go.Proofs
namespace Go.Proofs
open Go.Sl Go.RowKit
/-! 29 padstone/padstoneref01.Derive -/
def ref01_Derive.f (k : Nat) (a0 : api_Cap) (a1 : Int) : Option ((api_Cap × Int)) :=
  (ref01_May.f k a0).bind fun t3 => bif (((!t3) || (a0.Kind == 0)) || (decide (a1 < 0))) || (decide (7 < a1)) then (some ((⟨0, 0, 0, 0, 0, 0⟩ : api_Cap), 1)) else (bif a0.Kind == 1 then (some ((⟨0, 0, 0, 0, 0, 0⟩ : api_Cap), 5)) else ((ref01_both.f k a0.Rights a1).bind fun t10 => some (({ a0 with Rights := t10 } : api_Cap), 0)))
set_option maxHeartbeats 8000000 in
set_option maxRecDepth 100000 in
theorem ref01_Derive.ct (k : Nat) (a0 : api_Cap) (a1 : Int) (r0 : api_Cap) (r1 : Int) (h : ref01_Derive.f k a0 a1 = some (r0, r1)) :
    Ct Try.prog 29 [.agg #[.int .i64 a0.Kind, .int .i64 a0.Rights, .int .i64 a0.Obj, .int .i64 a0.Badge, .int .i64 a0.Guard, .int .i64 a0.Bits], .int .i64 a1] (fun _ => True) [] (fun u H' => u = .tuple #[.agg #[.int .i64 r0.Kind, .int .i64 r0.Rights, .int .i64 r0.Obj, .int .i64 r0.Badge, .int .i64 r0.Guard, .int .i64 r0.Bits], .int .i64 r1] ∧ H' = []) := by
  unfold ref01_Derive.f at h
  refine Ct.intro (n := 35) Try.func29 rfl rfl rfl ?_
  intro R w0 F hF hR
  refine S.seq ?_
  refine S.region ?_
  refine SO.box rfl rfl rfl (fun b1 => ?_)
  refine SO.alloc rfl Try.zeroValue45 rfl (fun b2 => ?_)
  refine SO.v rfl (opv_assign rfl) ?_
  refine SO.nil ?_
  refine S.seq ?_
  refine S.region ?_
  refine SO.b1 ?_
  refine SO.loadN rfl Try.isAgg45 Try.sizeOf45 rfl rfl rfl ?_
  obtain ⟨t3, ht4, h⟩ := opt_bind h
  refine SO.call (pre := []) rfl Try.call49 rfl rfl rfl (ref01_May.ct _ _ _ ht4) trivial ?_
  rintro _ _ ⟨rfl, rfl⟩
  refine SO.v rfl (opv_assign rfl) ?_
  refine SO.nil ?_
  refine S.seq ?_
  refine S.seq ?_
  refine S.region ?_
  refine SO.v rfl (opv_move rfl) ?_
  refine SO.v rfl (opv_not rfl) ?_
  refine SO.v rfl (opv_move rfl) ?_
  refine SO.cut 4 15 (.bool ((!t3) || (a0.Kind == 0))) [Box b1 [.int .i64 a0.Kind, .int .i64 a0.Rights, .int .i64 a0.Obj, .int .i64 a0.Badge, .int .i64 a0.Guard, .int .i64 a0.Bits], Box b2 [.int .i64 0, .int .i64 0, .int .i64 0, .int .i64 0, .int .i64 0, .int .i64 0], F] (fun l2 hk2 => ?_) ?_
  · rcases bool_or (!t3) with b5 | b5
    · refine SO.passF rfl rfl rfl b5 rfl rfl ?_
      refine SO.passF rfl rfl rfl b5 rfl rfl ?_
      refine SO.passF rfl rfl rfl b5 rfl rfl ?_
      refine SO.v rfl (opv_pick_t' b5 rfl rfl) ?_
      refine SO.b2 ?_
      refine SO.b2 ?_
      refine SO.b2 ?_
      exact hk2.fitc (m := 4) rfl (or_t b5) rfl
    · refine SO.takeT rfl rfl rfl b5 ?_
      refine SO.v rfl (opv_fieldAddr Try.underlying45 rfl Try.sizeOf3 rfl rfl) ?_
      refine SO.takeT rfl rfl rfl b5 ?_
      refine SO.load1 rfl Try.isAgg3 rfl rfl ?_
      refine SO.takeT rfl rfl rfl b5 ?_
      refine SO.v rfl (opv_eql rfl rfl) ?_
      refine SO.v rfl (opv_pick_f' b5 rfl rfl) ?_
      refine SO.b2 ?_
      refine SO.b2 ?_
      refine SO.b2 ?_
      exact hk2.fitc (m := 4) rfl (or_f b5) rfl
  refine SO.v rfl (opv_move rfl) ?_
  refine SO.cut 3 19 (.bool (((!t3) || (a0.Kind == 0)) || (decide (a1 < 0)))) [Box b1 [.int .i64 a0.Kind, .int .i64 a0.Rights, .int .i64 a0.Obj, .int .i64 a0.Badge, .int .i64 a0.Guard, .int .i64 a0.Bits], Box b2 [.int .i64 0, .int .i64 0, .int .i64 0, .int .i64 0, .int .i64 0, .int .i64 0], F] (fun l2 hk2 => ?_) ?_
  · rcases bool_or ((!t3) || (a0.Kind == 0)) with b6 | b6
    · refine SO.passF rfl rfl rfl b6 rfl rfl ?_
      refine SO.passF rfl rfl rfl b6 rfl rfl ?_
      refine SO.v rfl (opv_pick_t' b6 rfl rfl) ?_
      refine SO.b2 ?_
      refine SO.b2 ?_
      refine SO.b2 ?_
      exact hk2.fitc (m := 3) rfl (or_t b6) rfl
    · refine SO.takeT rfl rfl rfl b6 ?_
      refine SO.v rfl (opv_move rfl) ?_
      refine SO.takeT rfl rfl rfl b6 ?_
      refine SO.v rfl (opv_lss rfl rfl) ?_
      refine SO.v rfl (opv_pick_f' b6 rfl rfl) ?_
      refine SO.b2 ?_
      refine SO.b2 ?_
      refine SO.b2 ?_
      exact hk2.fitc (m := 3) rfl (or_f b6) rfl
  refine SO.v rfl (opv_move rfl) ?_
  refine SO.cut 3 23 (.bool ((((!t3) || (a0.Kind == 0)) || (decide (a1 < 0))) || (decide (7 < a1)))) [Box b1 [.int .i64 a0.Kind, .int .i64 a0.Rights, .int .i64 a0.Obj, .int .i64 a0.Badge, .int .i64 a0.Guard, .int .i64 a0.Bits], Box b2 [.int .i64 0, .int .i64 0, .int .i64 0, .int .i64 0, .int .i64 0, .int .i64 0], F] (fun l2 hk2 => ?_) ?_
  · rcases bool_or (((!t3) || (a0.Kind == 0)) || (decide (a1 < 0))) with b7 | b7
    · refine SO.passF rfl rfl rfl b7 rfl rfl ?_
      refine SO.passF rfl rfl rfl b7 rfl rfl ?_
      refine SO.v rfl (opv_pick_t' b7 rfl rfl) ?_
      refine SO.b2 ?_
      refine SO.b2 ?_
      refine SO.b2 ?_
      exact hk2.fitc (m := 3) rfl (or_t b7) rfl
    · refine SO.takeT rfl rfl rfl b7 ?_
      refine SO.v rfl (opv_move rfl) ?_
      refine SO.takeT rfl rfl rfl b7 ?_
      refine SO.v rfl (opv_gtr rfl rfl) ?_
      refine SO.v rfl (opv_pick_f' b7 rfl rfl) ?_
      refine SO.b2 ?_
      refine SO.b2 ?_
      refine SO.b2 ?_
      exact hk2.fitc (m := 3) rfl (or_f b7) rfl
  refine SO.nil ?_
  refine S.to (ρ' := [(1, .int .i64 a1), (2, bp b1 0), (4, bp b2 0), (5, .int .i64 0), (23, .bool ((((!t3) || (a0.Kind == 0)) || (decide (a1 < 0))) || (decide (7 < a1))))]) ⟨rfl, rfl, rfl, rfl, rfl, trivial⟩ ?_
  rcases bool_or ((((!t3) || (a0.Kind == 0)) || (decide (a1 < 0))) || (decide (7 < a1))) with b8 | b8
  · replace h := cond_t b8 h
    refine S.condT rfl b8 ?_
    refine S.seq ?_
    refine S.region ?_
    refine SO.v rfl (opv_build (v := .agg #[.int .i64 0, .int .i64 0, .int .i64 0, .int .i64 0, .int .i64 0, .int .i64 0]) rfl (by intro w; kernel_rfl)) ?_
    refine SO.b1 ?_
    refine SO.storeN Try.sizeOf45 rfl rfl rfl rfl rfl rfl ?_
    refine SO.v rfl (opv_assign rfl) ?_
    refine SO.nil ?_
    cases h
    refine S.b1 ?_
    refine S.drop ?_
    refine S.b1 ?_
    refine S.b1 ?_
    exact S.retC1 Try.func29 rfl rfl rfl Try.isAgg45 Try.sizeOf45 rfl rfl (fun w hs hk => hR w _ _ ⟨rfl, rfl⟩ hs.drop hk)
  · replace h := cond_f b8 h
    refine S.condF rfl b8 ?_
    refine S.skip ?_
    refine S.seq ?_
    refine S.seq ?_
    refine S.region ?_
    refine SO.v rfl (opv_fieldAddr Try.underlying45 rfl Try.sizeOf3 rfl rfl) ?_
    refine SO.load1 rfl Try.isAgg3 rfl rfl ?_
    refine SO.v rfl (opv_eql rfl rfl) ?_
    refine SO.nil ?_
    rcases bool_or (a0.Kind == 1) with b9 | b9
    · replace h := cond_t b9 h
      refine S.condT rfl b9 ?_
      refine S.seq ?_
      refine S.region ?_
      refine SO.v rfl (opv_build (v := .agg #[.int .i64 0, .int .i64 0, .int .i64 0, .int .i64 0, .int .i64 0, .int .i64 0]) rfl (by intro w; kernel_rfl)) ?_
      refine SO.b1 ?_
      refine SO.storeN Try.sizeOf45 rfl rfl rfl rfl rfl rfl ?_
      refine SO.v rfl (opv_assign rfl) ?_
      refine SO.nil ?_
      refine S.to (ρ' := [(4, bp b2 0), (5, .int .i64 5)]) ⟨rfl, rfl, trivial⟩ ?_
      cases h
      refine S.b1 ?_
      refine S.drop ?_
      refine S.b1 ?_
      refine S.b1 ?_
      exact S.retC1 Try.func29 rfl rfl rfl Try.isAgg45 Try.sizeOf45 rfl rfl (fun w hs hk => hR w _ _ ⟨rfl, rfl⟩ hs.drop hk)
    · replace h := cond_f b9 h
      refine S.condF rfl b9 ?_
      refine S.skip ?_
      refine S.seq ?_
      refine S.region ?_
      refine SO.v rfl (opv_fieldAddr Try.underlying45 rfl Try.sizeOf3 rfl rfl) ?_
      refine SO.load1 rfl Try.isAgg3 rfl rfl ?_
      refine SO.v rfl (opv_move rfl) ?_
      obtain ⟨t10, ht11, h⟩ := opt_bind h
      refine SO.call (pre := []) rfl Try.call50 rfl rfl rfl (ref01_both.ct _ _ _ _ ht11) trivial ?_
      rintro _ _ ⟨rfl, rfl⟩
      refine SO.v rfl (opv_fieldAddr Try.underlying45 rfl Try.sizeOf3 rfl rfl) ?_
      refine SO.store1 Try.sizeOf3 rfl rfl rfl rfl ?_
      refine SO.nil ?_
      refine S.to (ρ' := [(2, bp b1 0), (4, bp b2 0), (5, .int .i64 0)]) ⟨rfl, rfl, rfl, trivial⟩ ?_
      refine S.seq ?_
      refine S.region ?_
      refine SO.loadN rfl Try.isAgg45 Try.sizeOf45 rfl rfl rfl ?_
      refine SO.b1 ?_
      refine SO.storeN Try.sizeOf45 rfl rfl rfl rfl rfl rfl ?_
      refine SO.v rfl (opv_assign rfl) ?_
      refine SO.nil ?_
      cases h
      refine S.b1 ?_
      refine S.drop ?_
      refine S.b1 ?_
      refine S.b1 ?_
      exact S.retC1 Try.func29 rfl rfl rfl Try.isAgg45 Try.sizeOf45 rfl rfl (fun w hs hk => hR w _ _ ⟨rfl, rfl⟩ hs.drop hk)
end Go.Proofs
namespace Go.Proofs
open Go.Sl Go.RowKit
/-! 28 padstone/padstoneref01.Mint -/
def ref01_Mint.f (k : Nat) (a0 : api_Cap) (a1 : Int) (a2 : Int) : Option ((api_Cap × Int)) :=
  (ref01_May.f k a0).bind fun t3 => bif (((((!t3) || (a0.Kind == 0)) || (decide (a1 < 0))) || (decide (7 < a1))) || (decide (a2 < 1))) || (decide (65535 < a2)) then (some ((⟨0, 0, 0, 0, 0, 0⟩ : api_Cap), 1)) else (bif (a0.Kind != 3) && (a0.Kind != 4) then (some ((⟨0, 0, 0, 0, 0, 0⟩ : api_Cap), 5)) else (bif a0.Badge != 0 then (some ((⟨0, 0, 0, 0, 0, 0⟩ : api_Cap), 10)) else ((ref01_both.f k a0.Rights a1).bind fun t14 => some (({ a0 with Rights := t14, Badge := a2 } : api_Cap), 0))))
set_option maxHeartbeats 8000000 in
set_option maxRecDepth 100000 in
theorem ref01_Mint.ct (k : Nat) (a0 : api_Cap) (a1 : Int) (a2 : Int) (r0 : api_Cap) (r1 : Int) (h : ref01_Mint.f k a0 a1 a2 = some (r0, r1)) :
    Ct Try.prog 28 [.agg #[.int .i64 a0.Kind, .int .i64 a0.Rights, .int .i64 a0.Obj, .int .i64 a0.Badge, .int .i64 a0.Guard, .int .i64 a0.Bits], .int .i64 a1, .int .i64 a2] (fun _ => True) [] (fun u H' => u = .tuple #[.agg #[.int .i64 r0.Kind, .int .i64 r0.Rights, .int .i64 r0.Obj, .int .i64 r0.Badge, .int .i64 r0.Guard, .int .i64 r0.Bits], .int .i64 r1] ∧ H' = []) := by
  unfold ref01_Mint.f at h
  refine Ct.intro (n := 56) Try.func28 rfl rfl rfl ?_
  intro R w0 F hF hR
  refine S.seq ?_
  refine S.region ?_
  refine SO.box rfl rfl rfl (fun b1 => ?_)
  refine SO.alloc rfl Try.zeroValue45 rfl (fun b2 => ?_)
  refine SO.v rfl (opv_assign rfl) ?_
  refine SO.nil ?_
  refine S.seq ?_
  refine S.region ?_
  refine SO.b1 ?_
  refine SO.loadN rfl Try.isAgg45 Try.sizeOf45 rfl rfl rfl ?_
  obtain ⟨t3, ht4, h⟩ := opt_bind h
  refine SO.call (pre := []) rfl Try.call49 rfl rfl rfl (ref01_May.ct _ _ _ ht4) trivial ?_
  rintro _ _ ⟨rfl, rfl⟩
  refine SO.v rfl (opv_assign rfl) ?_
  refine SO.nil ?_
  refine S.seq ?_
  refine S.seq ?_
  refine S.region ?_
  refine SO.v rfl (opv_move rfl) ?_
  refine SO.v rfl (opv_not rfl) ?_
  refine SO.v rfl (opv_move rfl) ?_
  refine SO.cut 4 17 (.bool ((!t3) || (a0.Kind == 0))) [Box b1 [.int .i64 a0.Kind, .int .i64 a0.Rights, .int .i64 a0.Obj, .int .i64 a0.Badge, .int .i64 a0.Guard, .int .i64 a0.Bits], Box b2 [.int .i64 0, .int .i64 0, .int .i64 0, .int .i64 0, .int .i64 0, .int .i64 0], F] (fun l2 hk2 => ?_) ?_
  · rcases bool_or (!t3) with b5 | b5
    · refine SO.passF rfl rfl rfl b5 rfl rfl ?_
      refine SO.passF rfl rfl rfl b5 rfl rfl ?_
      refine SO.passF rfl rfl rfl b5 rfl rfl ?_
      refine SO.v rfl (opv_pick_t' b5 rfl rfl) ?_
      refine SO.b2 ?_
      refine SO.b2 ?_
      refine SO.b2 ?_
      exact hk2.fitc (m := 4) rfl (or_t b5) rfl
    · refine SO.takeT rfl rfl rfl b5 ?_
      refine SO.v rfl (opv_fieldAddr Try.underlying45 rfl Try.sizeOf3 rfl rfl) ?_
      refine SO.takeT rfl rfl rfl b5 ?_
      refine SO.load1 rfl Try.isAgg3 rfl rfl ?_
      refine SO.takeT rfl rfl rfl b5 ?_
      refine SO.v rfl (opv_eql rfl rfl) ?_
      refine SO.v rfl (opv_pick_f' b5 rfl rfl) ?_
      refine SO.b2 ?_
      refine SO.b2 ?_
      refine SO.b2 ?_
      exact hk2.fitc (m := 4) rfl (or_f b5) rfl
  refine SO.v rfl (opv_move rfl) ?_
  refine SO.cut 3 21 (.bool (((!t3) || (a0.Kind == 0)) || (decide (a1 < 0)))) [Box b1 [.int .i64 a0.Kind, .int .i64 a0.Rights, .int .i64 a0.Obj, .int .i64 a0.Badge, .int .i64 a0.Guard, .int .i64 a0.Bits], Box b2 [.int .i64 0, .int .i64 0, .int .i64 0, .int .i64 0, .int .i64 0, .int .i64 0], F] (fun l2 hk2 => ?_) ?_
  · rcases bool_or ((!t3) || (a0.Kind == 0)) with b6 | b6
    · refine SO.passF rfl rfl rfl b6 rfl rfl ?_
      refine SO.passF rfl rfl rfl b6 rfl rfl ?_
      refine SO.v rfl (opv_pick_t' b6 rfl rfl) ?_
      refine SO.b2 ?_
      refine SO.b2 ?_
      refine SO.b2 ?_
      exact hk2.fitc (m := 3) rfl (or_t b6) rfl
    · refine SO.takeT rfl rfl rfl b6 ?_
      refine SO.v rfl (opv_move rfl) ?_
      refine SO.takeT rfl rfl rfl b6 ?_
      refine SO.v rfl (opv_lss rfl rfl) ?_
      refine SO.v rfl (opv_pick_f' b6 rfl rfl) ?_
      refine SO.b2 ?_
      refine SO.b2 ?_
      refine SO.b2 ?_
      exact hk2.fitc (m := 3) rfl (or_f b6) rfl
  refine SO.v rfl (opv_move rfl) ?_
  refine SO.cut 3 25 (.bool ((((!t3) || (a0.Kind == 0)) || (decide (a1 < 0))) || (decide (7 < a1)))) [Box b1 [.int .i64 a0.Kind, .int .i64 a0.Rights, .int .i64 a0.Obj, .int .i64 a0.Badge, .int .i64 a0.Guard, .int .i64 a0.Bits], Box b2 [.int .i64 0, .int .i64 0, .int .i64 0, .int .i64 0, .int .i64 0, .int .i64 0], F] (fun l2 hk2 => ?_) ?_
  · rcases bool_or (((!t3) || (a0.Kind == 0)) || (decide (a1 < 0))) with b7 | b7
    · refine SO.passF rfl rfl rfl b7 rfl rfl ?_
      refine SO.passF rfl rfl rfl b7 rfl rfl ?_
      refine SO.v rfl (opv_pick_t' b7 rfl rfl) ?_
      refine SO.b2 ?_
      refine SO.b2 ?_
      refine SO.b2 ?_
      exact hk2.fitc (m := 3) rfl (or_t b7) rfl
    · refine SO.takeT rfl rfl rfl b7 ?_
      refine SO.v rfl (opv_move rfl) ?_
      refine SO.takeT rfl rfl rfl b7 ?_
      refine SO.v rfl (opv_gtr rfl rfl) ?_
      refine SO.v rfl (opv_pick_f' b7 rfl rfl) ?_
      refine SO.b2 ?_
      refine SO.b2 ?_
      refine SO.b2 ?_
      exact hk2.fitc (m := 3) rfl (or_f b7) rfl
  refine SO.v rfl (opv_move rfl) ?_
  refine SO.cut 3 29 (.bool (((((!t3) || (a0.Kind == 0)) || (decide (a1 < 0))) || (decide (7 < a1))) || (decide (a2 < 1)))) [Box b1 [.int .i64 a0.Kind, .int .i64 a0.Rights, .int .i64 a0.Obj, .int .i64 a0.Badge, .int .i64 a0.Guard, .int .i64 a0.Bits], Box b2 [.int .i64 0, .int .i64 0, .int .i64 0, .int .i64 0, .int .i64 0, .int .i64 0], F] (fun l2 hk2 => ?_) ?_
  · rcases bool_or ((((!t3) || (a0.Kind == 0)) || (decide (a1 < 0))) || (decide (7 < a1))) with b8 | b8
    · refine SO.passF rfl rfl rfl b8 rfl rfl ?_
      refine SO.passF rfl rfl rfl b8 rfl rfl ?_
      refine SO.v rfl (opv_pick_t' b8 rfl rfl) ?_
      refine SO.b2 ?_
      refine SO.b2 ?_
      refine SO.b2 ?_
      exact hk2.fitc (m := 3) rfl (or_t b8) rfl
    · refine SO.takeT rfl rfl rfl b8 ?_
      refine SO.v rfl (opv_move rfl) ?_
      refine SO.takeT rfl rfl rfl b8 ?_
      refine SO.v rfl (opv_lss rfl rfl) ?_
      refine SO.v rfl (opv_pick_f' b8 rfl rfl) ?_
      refine SO.b2 ?_
      refine SO.b2 ?_
      refine SO.b2 ?_
      exact hk2.fitc (m := 3) rfl (or_f b8) rfl
  refine SO.v rfl (opv_move rfl) ?_
  refine SO.cut 3 33 (.bool ((((((!t3) || (a0.Kind == 0)) || (decide (a1 < 0))) || (decide (7 < a1))) || (decide (a2 < 1))) || (decide (65535 < a2)))) [Box b1 [.int .i64 a0.Kind, .int .i64 a0.Rights, .int .i64 a0.Obj, .int .i64 a0.Badge, .int .i64 a0.Guard, .int .i64 a0.Bits], Box b2 [.int .i64 0, .int .i64 0, .int .i64 0, .int .i64 0, .int .i64 0, .int .i64 0], F] (fun l2 hk2 => ?_) ?_
  · rcases bool_or (((((!t3) || (a0.Kind == 0)) || (decide (a1 < 0))) || (decide (7 < a1))) || (decide (a2 < 1))) with b9 | b9
    · refine SO.passF rfl rfl rfl b9 rfl rfl ?_
      refine SO.passF rfl rfl rfl b9 rfl rfl ?_
      refine SO.v rfl (opv_pick_t' b9 rfl rfl) ?_
      refine SO.b2 ?_
      refine SO.b2 ?_
      refine SO.b2 ?_
      exact hk2.fitc (m := 3) rfl (or_t b9) rfl
    · refine SO.takeT rfl rfl rfl b9 ?_
      refine SO.v rfl (opv_move rfl) ?_
      refine SO.takeT rfl rfl rfl b9 ?_
      refine SO.v rfl (opv_gtr rfl rfl) ?_
      refine SO.v rfl (opv_pick_f' b9 rfl rfl) ?_
      refine SO.b2 ?_
      refine SO.b2 ?_
      refine SO.b2 ?_
      exact hk2.fitc (m := 3) rfl (or_f b9) rfl
  refine SO.nil ?_
  refine S.to (ρ' := [(1, .int .i64 a1), (2, .int .i64 a2), (3, bp b1 0), (6, bp b2 0), (7, .int .i64 0), (33, .bool ((((((!t3) || (a0.Kind == 0)) || (decide (a1 < 0))) || (decide (7 < a1))) || (decide (a2 < 1))) || (decide (65535 < a2))))]) ⟨rfl, rfl, rfl, rfl, rfl, rfl, trivial⟩ ?_
  rcases bool_or ((((((!t3) || (a0.Kind == 0)) || (decide (a1 < 0))) || (decide (7 < a1))) || (decide (a2 < 1))) || (decide (65535 < a2))) with b10 | b10
  · replace h := cond_t b10 h
    refine S.condT rfl b10 ?_
    refine S.seq ?_
    refine S.region ?_
    refine SO.v rfl (opv_build (v := .agg #[.int .i64 0, .int .i64 0, .int .i64 0, .int .i64 0, .int .i64 0, .int .i64 0]) rfl (by intro w; kernel_rfl)) ?_
    refine SO.b1 ?_
    refine SO.storeN Try.sizeOf45 rfl rfl rfl rfl rfl rfl ?_
    refine SO.v rfl (opv_assign rfl) ?_
    refine SO.nil ?_
    cases h
    refine S.b1 ?_
    refine S.drop ?_
    refine S.b1 ?_
    refine S.b1 ?_
    exact S.retC1 Try.func28 rfl rfl rfl Try.isAgg45 Try.sizeOf45 rfl rfl (fun w hs hk => hR w _ _ ⟨rfl, rfl⟩ hs.drop hk)
  · replace h := cond_f b10 h
    refine S.condF rfl b10 ?_
    refine S.skip ?_
    refine S.seq ?_
    refine S.seq ?_
    refine S.region ?_
    refine SO.v rfl (opv_fieldAddr Try.underlying45 rfl Try.sizeOf3 rfl rfl) ?_
    refine SO.load1 rfl Try.isAgg3 rfl rfl ?_
    refine SO.v rfl (opv_neq rfl rfl) ?_
    refine SO.v rfl (opv_move rfl) ?_
    refine SO.cut 4 42 (.bool ((a0.Kind != 3) && (a0.Kind != 4))) [Box b1 [.int .i64 a0.Kind, .int .i64 a0.Rights, .int .i64 a0.Obj, .int .i64 a0.Badge, .int .i64 a0.Guard, .int .i64 a0.Bits], Box b2 [.int .i64 0, .int .i64 0, .int .i64 0, .int .i64 0, .int .i64 0, .int .i64 0], F] (fun l2 hk2 => ?_) ?_
    · rcases bool_or (a0.Kind != 3) with b11 | b11
      · refine SO.takeT rfl rfl rfl b11 ?_
        refine SO.v rfl (opv_fieldAddr Try.underlying45 rfl Try.sizeOf3 rfl rfl) ?_
        refine SO.takeT rfl rfl rfl b11 ?_
        refine SO.load1 rfl Try.isAgg3 rfl rfl ?_
        refine SO.takeT rfl rfl rfl b11 ?_
        refine SO.v rfl (opv_neq rfl rfl) ?_
        refine SO.v rfl (opv_pick_t' b11 rfl rfl) ?_
        refine SO.b2 ?_
        refine SO.b2 ?_
        refine SO.b2 ?_
        exact hk2.fitc (m := 4) rfl (and_t b11) rfl
      · refine SO.passF rfl rfl rfl b11 rfl rfl ?_
        refine SO.passF rfl rfl rfl b11 rfl rfl ?_
        refine SO.passF rfl rfl rfl b11 rfl rfl ?_
        refine SO.v rfl (opv_pick_f' b11 rfl rfl) ?_
        refine SO.b2 ?_
        refine SO.b2 ?_
        refine SO.b2 ?_
        exact hk2.fitc (m := 4) rfl (and_f b11) rfl
    refine SO.nil ?_
    rcases bool_or ((a0.Kind != 3) && (a0.Kind != 4)) with b12 | b12
    · replace h := cond_t b12 h
      refine S.condT rfl b12 ?_
      refine S.seq ?_
      refine S.region ?_
      refine SO.v rfl (opv_build (v := .agg #[.int .i64 0, .int .i64 0, .int .i64 0, .int .i64 0, .int .i64 0, .int .i64 0]) rfl (by intro w; kernel_rfl)) ?_
      refine SO.b1 ?_
      refine SO.storeN Try.sizeOf45 rfl rfl rfl rfl rfl rfl ?_
      refine SO.v rfl (opv_assign rfl) ?_
      refine SO.nil ?_
      refine S.to (ρ' := [(6, bp b2 0), (7, .int .i64 5)]) ⟨rfl, rfl, trivial⟩ ?_
      cases h
      refine S.b1 ?_
      refine S.drop ?_
      refine S.b1 ?_
      refine S.b1 ?_
      exact S.retC1 Try.func28 rfl rfl rfl Try.isAgg45 Try.sizeOf45 rfl rfl (fun w hs hk => hR w _ _ ⟨rfl, rfl⟩ hs.drop hk)
    · replace h := cond_f b12 h
      refine S.condF rfl b12 ?_
      refine S.skip ?_
      refine S.seq ?_
      refine S.seq ?_
      refine S.region ?_
      refine SO.v rfl (opv_fieldAddr Try.underlying45 rfl Try.sizeOf3 rfl rfl) ?_
      refine SO.load1 rfl Try.isAgg3 rfl rfl ?_
      refine SO.v rfl (opv_neq rfl rfl) ?_
      refine SO.nil ?_
      refine S.to (ρ' := [(1, .int .i64 a1), (2, .int .i64 a2), (3, bp b1 0), (6, bp b2 0), (7, .int .i64 0), (46, .bool (a0.Badge != 0))]) ⟨rfl, rfl, rfl, rfl, rfl, rfl, trivial⟩ ?_
      rcases bool_or (a0.Badge != 0) with b13 | b13
      · replace h := cond_t b13 h
        refine S.condT rfl b13 ?_
        refine S.seq ?_
        refine S.region ?_
        refine SO.v rfl (opv_build (v := .agg #[.int .i64 0, .int .i64 0, .int .i64 0, .int .i64 0, .int .i64 0, .int .i64 0]) rfl (by intro w; kernel_rfl)) ?_
        refine SO.b1 ?_
        refine SO.storeN Try.sizeOf45 rfl rfl rfl rfl rfl rfl ?_
        refine SO.v rfl (opv_assign rfl) ?_
        refine SO.nil ?_
        cases h
        refine S.b1 ?_
        refine S.drop ?_
        refine S.b1 ?_
        refine S.b1 ?_
        exact S.retC1 Try.func28 rfl rfl rfl Try.isAgg45 Try.sizeOf45 rfl rfl (fun w hs hk => hR w _ _ ⟨rfl, rfl⟩ hs.drop hk)
      · replace h := cond_f b13 h
        refine S.condF rfl b13 ?_
        refine S.skip ?_
        refine S.seq ?_
        refine S.region ?_
        refine SO.v rfl (opv_fieldAddr Try.underlying45 rfl Try.sizeOf3 rfl rfl) ?_
        refine SO.load1 rfl Try.isAgg3 rfl rfl ?_
        refine SO.v rfl (opv_move rfl) ?_
        obtain ⟨t14, ht15, h⟩ := opt_bind h
        refine SO.call (pre := []) rfl Try.call50 rfl rfl rfl (ref01_both.ct _ _ _ _ ht15) trivial ?_
        rintro _ _ ⟨rfl, rfl⟩
        refine SO.v rfl (opv_fieldAddr Try.underlying45 rfl Try.sizeOf3 rfl rfl) ?_
        refine SO.store1 Try.sizeOf3 rfl rfl rfl rfl ?_
        refine SO.nil ?_
        refine S.to (ρ' := [(2, .int .i64 a2), (3, bp b1 0), (6, bp b2 0), (7, .int .i64 0)]) ⟨rfl, rfl, rfl, rfl, trivial⟩ ?_
        refine S.seq ?_
        refine S.region ?_
        refine SO.v rfl (opv_move rfl) ?_
        refine SO.v rfl (opv_fieldAddr Try.underlying45 rfl Try.sizeOf3 rfl rfl) ?_
        refine SO.store1 Try.sizeOf3 rfl rfl rfl rfl ?_
        refine SO.nil ?_
        refine S.seq ?_
        refine S.region ?_
        refine SO.loadN rfl Try.isAgg45 Try.sizeOf45 rfl rfl rfl ?_
        refine SO.b1 ?_
        refine SO.storeN Try.sizeOf45 rfl rfl rfl rfl rfl rfl ?_
        refine SO.v rfl (opv_assign rfl) ?_
        refine SO.nil ?_
        cases h
        refine S.b1 ?_
        refine S.drop ?_
        refine S.b1 ?_
        refine S.b1 ?_
        exact S.retC1 Try.func28 rfl rfl rfl Try.isAgg45 Try.sizeOf45 rfl rfl (fun w hs hk => hR w _ _ ⟨rfl, rfl⟩ hs.drop hk)
end Go.Proofs
namespace Go.Proofs
open Go.Sl Go.RowKit
/-! 31 padstone/padstoneref01.Mutate -/
def ref01_Mutate.f (k : Nat) (a0 : api_Cap) (a1 : Int) (a2 : Int) : Option ((api_Cap × Int)) :=
  (ref01_May.f k a0).bind fun t3 => bif (!t3) || (a0.Kind == 0) then (some ((⟨0, 0, 0, 0, 0, 0⟩ : api_Cap), 1)) else (bif a0.Kind != 2 then (some ((⟨0, 0, 0, 0, 0, 0⟩ : api_Cap), 5)) else ((ref01_May.f k ({ a0 with Guard := a1, Bits := a2 } : api_Cap)).bind fun t8 => bif !t8 then (some ((⟨0, 0, 0, 0, 0, 0⟩ : api_Cap), 1)) else (some (({ a0 with Guard := a1, Bits := a2 } : api_Cap), 0))))
set_option maxHeartbeats 8000000 in
set_option maxRecDepth 100000 in
theorem ref01_Mutate.ct (k : Nat) (a0 : api_Cap) (a1 : Int) (a2 : Int) (r0 : api_Cap) (r1 : Int) (h : ref01_Mutate.f k a0 a1 a2 = some (r0, r1)) :
    Ct Try.prog 31 [.agg #[.int .i64 a0.Kind, .int .i64 a0.Rights, .int .i64 a0.Obj, .int .i64 a0.Badge, .int .i64 a0.Guard, .int .i64 a0.Bits], .int .i64 a1, .int .i64 a2] (fun _ => True) [] (fun u H' => u = .tuple #[.agg #[.int .i64 r0.Kind, .int .i64 r0.Rights, .int .i64 r0.Obj, .int .i64 r0.Badge, .int .i64 r0.Guard, .int .i64 r0.Bits], .int .i64 r1] ∧ H' = []) := by
  unfold ref01_Mutate.f at h
  refine Ct.intro (n := 34) Try.func31 rfl rfl rfl ?_
  intro R w0 F hF hR
  refine S.seq ?_
  refine S.region ?_
  refine SO.box rfl rfl rfl (fun b1 => ?_)
  refine SO.alloc rfl Try.zeroValue45 rfl (fun b2 => ?_)
  refine SO.v rfl (opv_assign rfl) ?_
  refine SO.nil ?_
  refine S.seq ?_
  refine S.region ?_
  refine SO.b1 ?_
  refine SO.loadN rfl Try.isAgg45 Try.sizeOf45 rfl rfl rfl ?_
  obtain ⟨t3, ht4, h⟩ := opt_bind h
  refine SO.call (pre := []) rfl Try.call49 rfl rfl rfl (ref01_May.ct _ _ _ ht4) trivial ?_
  rintro _ _ ⟨rfl, rfl⟩
  refine SO.v rfl (opv_assign rfl) ?_
  refine SO.nil ?_
  refine S.seq ?_
  refine S.seq ?_
  refine S.region ?_
  refine SO.v rfl (opv_move rfl) ?_
  refine SO.v rfl (opv_not rfl) ?_
  refine SO.v rfl (opv_move rfl) ?_
  refine SO.cut 4 18 (.bool ((!t3) || (a0.Kind == 0))) [Box b1 [.int .i64 a0.Kind, .int .i64 a0.Rights, .int .i64 a0.Obj, .int .i64 a0.Badge, .int .i64 a0.Guard, .int .i64 a0.Bits], Box b2 [.int .i64 0, .int .i64 0, .int .i64 0, .int .i64 0, .int .i64 0, .int .i64 0], F] (fun l2 hk2 => ?_) ?_
  · rcases bool_or (!t3) with b5 | b5
    · refine SO.passF rfl rfl rfl b5 rfl rfl ?_
      refine SO.passF rfl rfl rfl b5 rfl rfl ?_
      refine SO.passF rfl rfl rfl b5 rfl rfl ?_
      refine SO.v rfl (opv_pick_t' b5 rfl rfl) ?_
      refine SO.b2 ?_
      refine SO.b2 ?_
      refine SO.b2 ?_
      exact hk2.fitc (m := 4) rfl (or_t b5) rfl
    · refine SO.takeT rfl rfl rfl b5 ?_
      refine SO.v rfl (opv_fieldAddr Try.underlying45 rfl Try.sizeOf3 rfl rfl) ?_
      refine SO.takeT rfl rfl rfl b5 ?_
      refine SO.load1 rfl Try.isAgg3 rfl rfl ?_
      refine SO.takeT rfl rfl rfl b5 ?_
      refine SO.v rfl (opv_eql rfl rfl) ?_
      refine SO.v rfl (opv_pick_f' b5 rfl rfl) ?_
      refine SO.b2 ?_
      refine SO.b2 ?_
      refine SO.b2 ?_
      exact hk2.fitc (m := 4) rfl (or_f b5) rfl
  refine SO.nil ?_
  refine S.to (ρ' := [(1, .int .i64 a1), (2, .int .i64 a2), (3, bp b1 0), (6, bp b2 0), (7, .int .i64 0), (18, .bool ((!t3) || (a0.Kind == 0)))]) ⟨rfl, rfl, rfl, rfl, rfl, rfl, trivial⟩ ?_
  rcases bool_or ((!t3) || (a0.Kind == 0)) with b6 | b6
  · replace h := cond_t b6 h
    refine S.condT rfl b6 ?_
    refine S.seq ?_
    refine S.region ?_
    refine SO.v rfl (opv_build (v := .agg #[.int .i64 0, .int .i64 0, .int .i64 0, .int .i64 0, .int .i64 0, .int .i64 0]) rfl (by intro w; kernel_rfl)) ?_
    refine SO.b1 ?_
    refine SO.storeN Try.sizeOf45 rfl rfl rfl rfl rfl rfl ?_
    refine SO.v rfl (opv_assign rfl) ?_
    refine SO.nil ?_
    cases h
    refine S.b1 ?_
    refine S.drop ?_
    refine S.b1 ?_
    refine S.b1 ?_
    exact S.retC1 Try.func31 rfl rfl rfl Try.isAgg45 Try.sizeOf45 rfl rfl (fun w hs hk => hR w _ _ ⟨rfl, rfl⟩ hs.drop hk)
  · replace h := cond_f b6 h
    refine S.condF rfl b6 ?_
    refine S.skip ?_
    refine S.seq ?_
    refine S.seq ?_
    refine S.region ?_
    refine SO.v rfl (opv_fieldAddr Try.underlying45 rfl Try.sizeOf3 rfl rfl) ?_
    refine SO.load1 rfl Try.isAgg3 rfl rfl ?_
    refine SO.v rfl (opv_neq rfl rfl) ?_
    refine SO.nil ?_
    rcases bool_or (a0.Kind != 2) with b7 | b7
    · replace h := cond_t b7 h
      refine S.condT rfl b7 ?_
      refine S.seq ?_
      refine S.region ?_
      refine SO.v rfl (opv_build (v := .agg #[.int .i64 0, .int .i64 0, .int .i64 0, .int .i64 0, .int .i64 0, .int .i64 0]) rfl (by intro w; kernel_rfl)) ?_
      refine SO.b1 ?_
      refine SO.storeN Try.sizeOf45 rfl rfl rfl rfl rfl rfl ?_
      refine SO.v rfl (opv_assign rfl) ?_
      refine SO.nil ?_
      refine S.to (ρ' := [(6, bp b2 0), (7, .int .i64 5)]) ⟨rfl, rfl, trivial⟩ ?_
      cases h
      refine S.b1 ?_
      refine S.drop ?_
      refine S.b1 ?_
      refine S.b1 ?_
      exact S.retC1 Try.func31 rfl rfl rfl Try.isAgg45 Try.sizeOf45 rfl rfl (fun w hs hk => hR w _ _ ⟨rfl, rfl⟩ hs.drop hk)
    · replace h := cond_f b7 h
      refine S.condF rfl b7 ?_
      refine S.skip ?_
      refine S.seq ?_
      refine S.region ?_
      refine SO.v rfl (opv_move rfl) ?_
      refine SO.v rfl (opv_fieldAddr Try.underlying45 rfl Try.sizeOf3 rfl rfl) ?_
      refine SO.store1 Try.sizeOf3 rfl rfl rfl rfl ?_
      refine SO.nil ?_
      refine S.to (ρ' := [(2, .int .i64 a2), (3, bp b1 0), (6, bp b2 0), (7, .int .i64 0)]) ⟨rfl, rfl, rfl, rfl, trivial⟩ ?_
      refine S.seq ?_
      refine S.region ?_
      refine SO.v rfl (opv_move rfl) ?_
      refine SO.v rfl (opv_fieldAddr Try.underlying45 rfl Try.sizeOf3 rfl rfl) ?_
      refine SO.store1 Try.sizeOf3 rfl rfl rfl rfl ?_
      refine SO.nil ?_
      refine S.seq ?_
      refine S.region ?_
      refine SO.loadN rfl Try.isAgg45 Try.sizeOf45 rfl rfl rfl ?_
      obtain ⟨t8, ht9, h⟩ := opt_bind h
      have ct11 := ref01_May.ct _ _ _ ht9
      dsimp only at ct11
      refine SO.call (pre := []) rfl Try.call49 rfl rfl rfl ct11 trivial ?_
      rintro _ _ ⟨rfl, rfl⟩
      refine SO.v rfl (opv_assign rfl) ?_
      refine SO.nil ?_
      refine S.seq ?_
      refine S.seq ?_
      refine S.region ?_
      refine SO.v rfl (opv_move rfl) ?_
      refine SO.v rfl (opv_not rfl) ?_
      refine SO.nil ?_
      refine S.to (ρ' := [(3, bp b1 0), (6, bp b2 0), (7, .int .i64 0), (31, .bool (!t8))]) ⟨rfl, rfl, rfl, rfl, trivial⟩ ?_
      rcases bool_or (!t8) with b10 | b10
      · replace h := cond_t b10 h
        refine S.condT rfl b10 ?_
        refine S.seq ?_
        refine S.region ?_
        refine SO.v rfl (opv_build (v := .agg #[.int .i64 0, .int .i64 0, .int .i64 0, .int .i64 0, .int .i64 0, .int .i64 0]) rfl (by intro w; kernel_rfl)) ?_
        refine SO.b1 ?_
        refine SO.storeN Try.sizeOf45 rfl rfl rfl rfl rfl rfl ?_
        refine SO.v rfl (opv_assign rfl) ?_
        refine SO.nil ?_
        cases h
        refine S.b1 ?_
        refine S.drop ?_
        refine S.b1 ?_
        refine S.b1 ?_
        exact S.retC1 Try.func31 rfl rfl rfl Try.isAgg45 Try.sizeOf45 rfl rfl (fun w hs hk => hR w _ _ ⟨rfl, rfl⟩ hs.drop hk)
      · replace h := cond_f b10 h
        refine S.condF rfl b10 ?_
        refine S.skip ?_
        refine S.seq ?_
        refine S.region ?_
        refine SO.loadN rfl Try.isAgg45 Try.sizeOf45 rfl rfl rfl ?_
        refine SO.b1 ?_
        refine SO.storeN Try.sizeOf45 rfl rfl rfl rfl rfl rfl ?_
        refine SO.v rfl (opv_assign rfl) ?_
        refine SO.nil ?_
        cases h
        refine S.b1 ?_
        refine S.drop ?_
        refine S.b1 ?_
        refine S.b1 ?_
        exact S.retC1 Try.func31 rfl rfl rfl Try.isAgg45 Try.sizeOf45 rfl rfl (fun w hs hk => hR w _ _ ⟨rfl, rfl⟩ hs.drop hk)
end Go.Proofs
namespace Go.Proofs
open Go.Sl Go.RowKit
/-! 30 (*padstone/padstoneref10.State).below -/
def ref10_State_below.f (a0 : ref10_State) (a1 : Int) (a2 : Int) (a3 : api_Cap) : Option ((Int × ref10_State)) :=
  (ref10_State_Link.f a0 a2 a1).bind fun (t2, p3) => bif t2 == 0 then ((at_ p3.Slots a2).bind fun x11 => some (t2, ({ p3 with Slots := p3.Slots.set a2.toNat ({ x11 with Cap := a3 } : ref10_Slot) } : ref10_State))) else (some (t2, p3))
set_option maxHeartbeats 8000000 in
set_option maxRecDepth 100000 in
theorem ref10_State_below.ct (bp0 : Nat) (v0_Slots : Value) (v0_Objs : Value) (a0 : ref10_State) (a1 : Int) (a2 : Int) (a3 : api_Cap) (r0 : Int) (rp0 : ref10_State) (h : ref10_State_below.f a0 a1 a2 a3 = some (r0, rp0)) :
    Ct Try.prog 30 [bp bp0 0, .int .i64 a1, .int .i64 a2, .agg #[.int .i64 a3.Kind, .int .i64 a3.Rights, .int .i64 a3.Obj, .int .i64 a3.Badge, .int .i64 a3.Guard, .int .i64 a3.Bits]] (fun _ => True) [Box bp0 [v0_Slots, v0_Objs, .int .i64 a0.NS, .int .i64 a0.NO], OwnR 65 kr_ref10_Slot v0_Slots a0.Slots, OwnR 58 kr_ref10_Obj v0_Objs a0.Objs] (fun u H' => ∃ rw0_Slots rw0_Objs, u = .int .i64 r0 ∧ H' = [Box bp0 [rw0_Slots, rw0_Objs, .int .i64 rp0.NS, .int .i64 rp0.NO], OwnR 65 kr_ref10_Slot rw0_Slots rp0.Slots, OwnR 58 kr_ref10_Obj rw0_Objs rp0.Objs]) := by
  unfold ref10_State_below.f at h
  refine Ct.intro (n := 25) Try.func30 rfl rfl rfl ?_
  intro R w0 F hF hR
  refine S.seq ?_
  refine S.region ?_
  refine SO.box rfl rfl rfl (fun b1 => ?_)
  refine SO.v rfl (opv_assign rfl) ?_
  refine SO.nil ?_
  refine S.seq ?_
  refine S.region ?_
  refine SO.v rfl (opv_move rfl) ?_
  refine SO.v rfl (opv_move rfl) ?_
  refine SO.v rfl (opv_move rfl) ?_
  obtain ⟨⟨t2, p3⟩, ht4, h⟩ := opt_bind h
  refine SO.b3 ?_
  refine SO.b3 ?_
  refine SO.b3 ?_
  refine SO.call (pre := [Box _ _, OwnR _ _ _ _, OwnR _ _ _ _]) rfl Try.call51 rfl rfl rfl (ref10_State_Link.ct bp0 v0_Slots v0_Objs _ _ _ _ _ ht4) trivial ?_
  rintro _ _ ⟨u5_Slots, u5_Objs, rfl, rfl⟩
  refine SO.v rfl (opv_assign rfl) ?_
  refine SO.nil ?_
  refine S.seq ?_
  refine S.seq ?_
  refine S.region ?_
  refine SO.v rfl (opv_move rfl) ?_
  refine SO.v rfl (opv_eql rfl rfl) ?_
  refine SO.nil ?_
  refine S.to (ρ' := [(0, bp bp0 0), (2, .int .i64 a2), (7, bp b1 0), (8, .int .i64 0), (9, .int .i64 t2), (15, .bool (t2 == 0))]) ⟨rfl, rfl, rfl, rfl, rfl, rfl, trivial⟩ ?_
  rcases bool_or (t2 == 0) with b6 | b6
  · replace h := cond_t b6 h
    refine S.condT rfl b6 ?_
    refine S.b1 ?_
    refine S.openR fun raws7 A8 hrel9 hR10 => ?_
    obtain ⟨x11, hx12, h⟩ := opt_bind h
    obtain ⟨r13, hr14, hc15⟩ := relR.at hrel9 hx12
    refine S.draw' (Z := fun Q => ∀ (_ : Unit) (_ : Unit) (_ : Unit) (_ : Unit) (_ : Unit) (_ : Unit), Q [(8, .int .i64 0), (9, .int .i64 t2)] [OwnR 65 kr_ref10_Slot u5_Slots (p3.Slots.set a2.toNat ({ x11 with Cap := a3 } : ref10_Slot)), Box bp0 [u5_Slots, u5_Objs, .int .i64 p3.NS, .int .i64 p3.NO], OwnR 58 kr_ref10_Obj u5_Objs p3.Objs, Box b1 [.int .i64 a3.Kind, .int .i64 a3.Rights, .int .i64 a3.Obj, .int .i64 a3.Badge, .int .i64 a3.Guard, .int .i64 a3.Bits], F]) (T := [tS 0 (bp bp0 0), tS 2 (.int .i64 a2), tS 7 (bp b1 0), tE [(8, .int .i64 0), (9, .int .i64 t2)], tR (OwnO 65 kr_ref10_Slot u5_Slots raws7 A8 p3.Slots), tR (Box bp0 [u5_Slots, u5_Objs, .int .i64 p3.NS, .int .i64 p3.NO]), tR (OwnR 58 kr_ref10_Obj u5_Objs p3.Objs), tR (Box b1 [.int .i64 a3.Kind, .int .i64 a3.Rights, .int .i64 a3.Obj, .int .i64 a3.Badge, .int .i64 a3.Guard, .int .i64 a3.Bits]), tR (F), tS 16 (bp bp0 0), tS 17 (bp bp0 0), tS 18 (bp bp0 0), tS 19 (u5_Slots), tS 20 (.int .i64 a2), tS 21 (.agg #[.int .i64 a3.Kind, .int .i64 a3.Rights, .int .i64 a3.Obj, .int .i64 a3.Badge, .int .i64 a3.Guard, .int .i64 a3.Bits]), tS 22 (idxp u5_Slots (a2.toNat * kr_ref10_Slot.sz)), tS 23 (idxp u5_Slots (a2.toNat * kr_ref10_Slot.sz)), tR (OwnR 65 kr_ref10_Slot u5_Slots (p3.Slots.set a2.toNat ({ x11 with Cap := a3 } : ref10_Slot)))]) (D := [⟨[0], [], [9]⟩, ⟨[9], [], [10]⟩, ⟨[10], [], [11]⟩, ⟨[11, 5], [], [12]⟩, ⟨[1], [], [13]⟩, ⟨[2, 7], [], [14]⟩, ⟨[12, 13, 4], [], [15]⟩, ⟨[15, 4], [], [16]⟩, ⟨[14, 16], [4], [17]⟩]) (ini := [0, 1, 2, 3, 4, 5, 6, 7, 8]) (fin := [3, 17, 5, 6, 7, 8]) (bf := [[], [0], [0, 1], [0, 1, 2], [], [], [0, 1, 2, 3, 4, 5], [0, 1, 2, 3, 4, 5, 6], [0, 1, 2, 3, 4, 5, 6, 7]]) (by kernel_rfl) (by kernel_rfl) (fun x w h1 h2 => (.cons () (.cons () (.cons () (.cons () (.cons () (.cons () (.cons () (.cons () (.cons () (.nil ⟨EnvAll.of h1 ⟨rfl, rfl, rfl, rfl, rfl, trivial⟩, h2⟩))))))))))) (fun Q => by kernel_rfl) ⟨?_, ?_, ?_, ?_, ?_, ?_, ?_, ?_, ?_, trivial⟩ ?_
    · rintro Fr _
      refine SO.v rfl (opv_move rfl) ?_
      exact SO.nilZ fun a w h1 h2 h3 h4 h5 => PZ.of h1 h3 h5 (.cons () (.cons () (.nil ⟨EnvAll.of h2 ⟨rfl, rfl, trivial⟩, h4⟩)))
    · rintro Fr _
      refine SO.v rfl (opv_nilCheck rfl) ?_
      exact SO.nilZ fun a w h1 h2 h3 h4 h5 => PZ.of h1 h3 h5 (.cons () (.cons () (.nil ⟨EnvAll.of h2 ⟨rfl, rfl, trivial⟩, h4⟩)))
    · rintro Fr _
      refine SO.v rfl (opv_fieldAddr Try.underlying63 rfl Try.sizeOf60 rfl rfl) ?_
      exact SO.nilZ fun a w h1 h2 h3 h4 h5 => PZ.of h1 h3 h5 (.cons () (.cons () (.nil ⟨EnvAll.of h2 ⟨rfl, rfl, trivial⟩, h4⟩)))
    · rintro Fr _ _
      refine SO.load1 rfl Try.isAgg60 rfl rfl ?_
      exact SO.nilZ fun a w h1 h2 h3 h4 h5 => PZ.of h1 h3 h5 (.cons () (.cons () (.cons () (.nil ⟨EnvAll.of h2 ⟨rfl, rfl, trivial⟩, h4⟩))))
    · rintro Fr _
      refine SO.v rfl (opv_move rfl) ?_
      exact SO.nilZ fun a w h1 h2 h3 h4 h5 => PZ.of h1 h3 h5 (.cons () (.cons () (.nil ⟨EnvAll.of h2 ⟨rfl, rfl, trivial⟩, h4⟩)))
    · rintro Fr _ _
      refine SO.loadN rfl Try.isAgg45 Try.sizeOf45 rfl rfl rfl ?_
      exact SO.nilZ fun a w h1 h2 h3 h4 h5 => PZ.of h1 h3 h5 (.cons () (.cons () (.cons () (.nil ⟨EnvAll.of h2 ⟨rfl, rfl, trivial⟩, h4⟩))))
    · rintro Fr _ _ _
      refine SO.v rfl (opv_idx Try.underlying60 Try.sizeOf65 hR10 rfl rfl hr14) ?_
      exact SO.nilZ fun a w h1 h2 h3 h4 h5 => PZ.of h1 h3 h5 (.cons () (.cons () (.cons () (.cons () (.nil ⟨EnvAll.of h2 ⟨rfl, rfl, rfl, trivial⟩, h4⟩)))))
    · rintro Fr _ _
      refine SO.v rfl (opv_fieldIdx Try.underlying65 rfl Try.sizeOf45 hR10 hr14 rfl rfl) ?_
      exact SO.nilZ fun a w h1 h2 h3 h4 h5 => PZ.of h1 h3 h5 (.cons () (.cons () (.cons () (.nil ⟨EnvAll.of h2 ⟨rfl, rfl, trivial⟩, h4⟩))))
    · rintro Fr _ _ _
      refine SO.storeOP (j := 0) (us := [.int .i64 a3.Kind, .int .i64 a3.Rights, .int .i64 a3.Obj, .int .i64 a3.Badge, .int .i64 a3.Guard, .int .i64 a3.Bits]) (z' := ({ x11 with Cap := a3 } : ref10_Slot)) Try.sizeOf45 hrel9 hx12 rfl rfl rfl rfl rfl rfl rfl (fun raws16 hrel17 hR18 => ?_)
      refine SO.closeR ?_
      exact SO.nilZ fun a w h1 h2 h3 h4 h5 => PZ.of h1 h3 h5 (.cons () (.cons () (.cons () (.nil ⟨EnvAll.of h2 ⟨rfl, rfl, trivial⟩, h4⟩))))
    rintro _ _ _ _ _ _
    refine S.to (ρ' := [(8, .int .i64 0), (9, .int .i64 t2)]) ⟨rfl, rfl, trivial⟩ ?_
    refine S.seq ?_
    refine S.region ?_
    refine SO.v rfl (opv_move rfl) ?_
    refine SO.v rfl (opv_assign rfl) ?_
    refine SO.nil ?_
    cases h
    refine S.b3 ?_
    refine S.drop ?_
    refine S.b3 ?_
    refine S.b3 ?_
    refine S.b2 ?_
    refine S.b3 ?_
    exact S.ret1 Try.func30 rfl rfl (fun w hs hk => hR w _ _ ⟨u5_Slots, u5_Objs, rfl, rfl⟩ hs hk)
  · replace h := cond_f b6 h
    refine S.condF rfl b6 ?_
    refine S.skip ?_
    refine S.seq ?_
    refine S.region ?_
    refine SO.v rfl (opv_move rfl) ?_
    refine SO.v rfl (opv_assign rfl) ?_
    refine SO.nil ?_
    cases h
    refine S.b3 ?_
    refine S.drop ?_
    refine S.b3 ?_
    refine S.b3 ?_
    refine S.b3 ?_
    refine S.b3 ?_
    exact S.ret1 Try.func30 rfl rfl (fun w hs hk => hR w _ _ ⟨u5_Slots, u5_Objs, rfl, rfl⟩ hs hk)
end Go.Proofs
namespace Go.Proofs
open Go.Sl Go.RowKit
/-! 27 (*padstone/padstoneref10.State).ends -/
def ref10_State_ends.f (a0 : ref10_State) (a1 : Int) (a2 : Int) : Option ((api_Cap × Int)) :=
  (ref10_slot.f a1).bind fun t6 => (ref10_slot.f a2).bind fun t8 => bif (!t6) || (!t8) then (some ((⟨0, 0, 0, 0, 0, 0⟩ : api_Cap), 2)) else ((at_ a0.Slots a1).bind fun x12 => bif x12.Cap.Kind == 0 then (some ((⟨0, 0, 0, 0, 0, 0⟩ : api_Cap), 2)) else ((at_ a0.Slots a2).bind fun x18 => bif x18.Cap.Kind != 0 then (some ((⟨0, 0, 0, 0, 0, 0⟩ : api_Cap), 8)) else ((at_ a0.Slots a1).bind fun x24 => some (x24.Cap, 0))))
set_option maxHeartbeats 8000000 in
set_option maxRecDepth 100000 in
theorem ref10_State_ends.ct (bp0 : Nat) (v0_Slots : Value) (v0_Objs : Value) (raws_v0_Slots : List (Raw (kr_ref10_Slot).sz)) (A_v0_Slots : HProp) (raws_v0_Objs : List (Raw (kr_ref10_Obj).sz)) (A_v0_Objs : HProp) (a0 : ref10_State) (a1 : Int) (a2 : Int) (r0 : api_Cap) (r1 : Int) (h : ref10_State_ends.f a0 a1 a2 = some (r0, r1)) :
    Ct Try.prog 27 [bp bp0 0, .int .i64 a1, .int .i64 a2] (fun _ => True) [Box bp0 [v0_Slots, v0_Objs, .int .i64 a0.NS, .int .i64 a0.NO], OwnO 65 kr_ref10_Slot v0_Slots raws_v0_Slots A_v0_Slots a0.Slots, OwnO 58 kr_ref10_Obj v0_Objs raws_v0_Objs A_v0_Objs a0.Objs] (fun u H' => u = .tuple #[.agg #[.int .i64 r0.Kind, .int .i64 r0.Rights, .int .i64 r0.Obj, .int .i64 r0.Badge, .int .i64 r0.Guard, .int .i64 r0.Bits], .int .i64 r1] ∧ H' = [Box bp0 [v0_Slots, v0_Objs, .int .i64 a0.NS, .int .i64 a0.NO], OwnO 65 kr_ref10_Slot v0_Slots raws_v0_Slots A_v0_Slots a0.Slots, OwnO 58 kr_ref10_Obj v0_Objs raws_v0_Objs A_v0_Objs a0.Objs]) := by
  unfold ref10_State_ends.f at h
  refine Ct.intro (n := 51) Try.func27 rfl rfl rfl ?_
  intro R w0 F hF hR
  refine S.b1 ?_
  refine S.rdO fun hrel1 hR2 => ?_
  refine S.b2 ?_
  refine S.rdO fun hrel3 hR4 => ?_
  refine S.seq ?_
  refine S.region ?_
  refine SO.alloc rfl Try.zeroValue45 rfl (fun b5 => ?_)
  refine SO.v rfl (opv_assign rfl) ?_
  refine SO.nil ?_
  refine S.seq ?_
  refine S.region ?_
  refine SO.v rfl (opv_move rfl) ?_
  obtain ⟨t6, ht7, h⟩ := opt_bind h
  refine SO.call (pre := []) rfl Try.call33 rfl rfl rfl (ref10_slot.ct _ _ ht7) trivial ?_
  rintro _ _ ⟨rfl, rfl⟩
  refine SO.v rfl (opv_assign rfl) ?_
  refine SO.nil ?_
  refine S.seq ?_
  refine S.region ?_
  refine SO.v rfl (opv_move rfl) ?_
  obtain ⟨t8, ht9, h⟩ := opt_bind h
  refine SO.call (pre := []) rfl Try.call33 rfl rfl rfl (ref10_slot.ct _ _ ht9) trivial ?_
  rintro _ _ ⟨rfl, rfl⟩
  refine SO.v rfl (opv_assign rfl) ?_
  refine SO.nil ?_
  refine S.seq ?_
  refine S.seq ?_
  refine S.region ?_
  refine SO.v rfl (opv_move rfl) ?_
  refine SO.v rfl (opv_not rfl) ?_
  refine SO.v rfl (opv_move rfl) ?_
  refine SO.cut 3 19 (.bool ((!t6) || (!t8))) [Box b5 [.int .i64 0, .int .i64 0, .int .i64 0, .int .i64 0, .int .i64 0, .int .i64 0], OwnO 58 kr_ref10_Obj v0_Objs raws_v0_Objs A_v0_Objs a0.Objs, OwnO 65 kr_ref10_Slot v0_Slots raws_v0_Slots A_v0_Slots a0.Slots, Box bp0 [v0_Slots, v0_Objs, .int .i64 a0.NS, .int .i64 a0.NO], F] (fun l2 hk2 => ?_) ?_
  · rcases bool_or (!t6) with b10 | b10
    · refine SO.passF rfl rfl rfl b10 rfl rfl ?_
      refine SO.passF rfl rfl rfl b10 rfl rfl ?_
      refine SO.v rfl (opv_pick_t' b10 rfl rfl) ?_
      refine SO.b4 ?_
      refine SO.b4 ?_
      refine SO.b4 ?_
      refine SO.b4 ?_
      refine SO.b4 ?_
      exact hk2.fitc (m := 3) rfl (or_t b10) rfl
    · refine SO.takeT rfl rfl rfl b10 ?_
      refine SO.v rfl (opv_move rfl) ?_
      refine SO.takeT rfl rfl rfl b10 ?_
      refine SO.v rfl (opv_not rfl) ?_
      refine SO.v rfl (opv_pick_f' b10 rfl rfl) ?_
      refine SO.b4 ?_
      refine SO.b4 ?_
      refine SO.b4 ?_
      refine SO.b4 ?_
      refine SO.b4 ?_
      exact hk2.fitc (m := 3) rfl (or_f b10) rfl
  refine SO.nil ?_
  refine S.to (ρ' := [(0, bp bp0 0), (1, .int .i64 a1), (2, .int .i64 a2), (6, bp b5 0), (7, .int .i64 0), (19, .bool ((!t6) || (!t8)))]) ⟨rfl, rfl, rfl, rfl, rfl, rfl, trivial⟩ ?_
  rcases bool_or ((!t6) || (!t8)) with b11 | b11
  · replace h := cond_t b11 h
    refine S.condT rfl b11 ?_
    refine S.seq ?_
    refine S.region ?_
    refine SO.v rfl (opv_build (v := .agg #[.int .i64 0, .int .i64 0, .int .i64 0, .int .i64 0, .int .i64 0, .int .i64 0]) rfl (by intro w; kernel_rfl)) ?_
    refine SO.storeN Try.sizeOf45 rfl rfl rfl rfl rfl rfl ?_
    refine SO.v rfl (opv_assign rfl) ?_
    refine SO.nil ?_
    cases h
    refine S.b4 ?_
    refine S.b2 ?_
    refine S.b3 ?_
    refine S.b4 ?_
    refine S.b4 ?_
    exact S.retC1 Try.func27 rfl rfl rfl Try.isAgg45 Try.sizeOf45 rfl rfl (fun w hs hk => hR w _ _ ⟨rfl, rfl⟩ hs.drop hk)
  · replace h := cond_f b11 h
    refine S.condF rfl b11 ?_
    refine S.skip ?_
    refine S.seq ?_
    refine S.seq ?_
    refine S.region ?_
    refine SO.v rfl (opv_move rfl) ?_
    refine SO.v rfl (opv_nilCheck rfl) ?_
    refine SO.v rfl (opv_fieldAddr Try.underlying63 rfl Try.sizeOf60 rfl rfl) ?_
    refine SO.b3 ?_
    refine SO.load1 rfl Try.isAgg60 rfl rfl ?_
    refine SO.v rfl (opv_move rfl) ?_
    obtain ⟨x12, hx13, h⟩ := opt_bind h
    obtain ⟨r14, hr15, hc16⟩ := relR.at hrel1 hx13
    refine SO.v rfl (opv_idx Try.underlying60 Try.sizeOf65 hR2 rfl rfl hr15) ?_
    refine SO.v rfl (opv_fieldIdx Try.underlying65 rfl Try.sizeOf45 hR2 hr15 rfl rfl) ?_
    refine SO.v rfl (opv_fieldIdx Try.underlying45 rfl Try.sizeOf3 hR2 hr15 rfl rfl) ?_
    refine SO.loadI1 (j := 0) rfl Try.isAgg3 (Rd.tail (Rd.tail (Rd.tail (Rd.head hR2)))) hr15 rfl rfl rfl (hc16.val rfl) ?_
    refine SO.v rfl (opv_eql rfl rfl) ?_
    refine SO.nil ?_
    refine S.to (ρ' := [(0, bp bp0 0), (1, .int .i64 a1), (2, .int .i64 a2), (6, bp b5 0), (7, .int .i64 0), (30, .bool (x12.Cap.Kind == 0))]) ⟨rfl, rfl, rfl, rfl, rfl, rfl, trivial⟩ ?_
    rcases bool_or (x12.Cap.Kind == 0) with b17 | b17
    · replace h := cond_t b17 h
      refine S.condT rfl b17 ?_
      refine S.seq ?_
      refine S.region ?_
      refine SO.v rfl (opv_build (v := .agg #[.int .i64 0, .int .i64 0, .int .i64 0, .int .i64 0, .int .i64 0, .int .i64 0]) rfl (by intro w; kernel_rfl)) ?_
      refine SO.b1 ?_
      refine SO.storeN Try.sizeOf45 rfl rfl rfl rfl rfl rfl ?_
      refine SO.v rfl (opv_assign rfl) ?_
      refine SO.nil ?_
      cases h
      refine S.b4 ?_
      refine S.b3 ?_
      refine S.b4 ?_
      refine S.b4 ?_
      refine S.b4 ?_
      exact S.retC1 Try.func27 rfl rfl rfl Try.isAgg45 Try.sizeOf45 rfl rfl (fun w hs hk => hR w _ _ ⟨rfl, rfl⟩ hs.drop hk)
    · replace h := cond_f b17 h
      refine S.condF rfl b17 ?_
      refine S.skip ?_
      refine S.seq ?_
      refine S.seq ?_
      refine S.region ?_
      refine SO.v rfl (opv_move rfl) ?_
      refine SO.v rfl (opv_nilCheck rfl) ?_
      refine SO.v rfl (opv_fieldAddr Try.underlying63 rfl Try.sizeOf60 rfl rfl) ?_
      refine SO.load1 rfl Try.isAgg60 rfl rfl ?_
      refine SO.v rfl (opv_move rfl) ?_
      obtain ⟨x18, hx19, h⟩ := opt_bind h
      obtain ⟨r20, hr21, hc22⟩ := relR.at hrel1 hx19
      refine SO.v rfl (opv_idx Try.underlying60 Try.sizeOf65 hR2 rfl rfl hr21) ?_
      refine SO.v rfl (opv_fieldIdx Try.underlying65 rfl Try.sizeOf45 hR2 hr21 rfl rfl) ?_
      refine SO.v rfl (opv_fieldIdx Try.underlying45 rfl Try.sizeOf3 hR2 hr21 rfl rfl) ?_
      refine SO.loadI1 (j := 0) rfl Try.isAgg3 (Rd.tail (Rd.tail (Rd.tail (Rd.head hR2)))) hr21 rfl rfl rfl (hc22.val rfl) ?_
      refine SO.v rfl (opv_neq rfl rfl) ?_
      refine SO.nil ?_
      refine S.to (ρ' := [(0, bp bp0 0), (1, .int .i64 a1), (6, bp b5 0), (7, .int .i64 0), (41, .bool (x18.Cap.Kind != 0))]) ⟨rfl, rfl, rfl, rfl, rfl, trivial⟩ ?_
      rcases bool_or (x18.Cap.Kind != 0) with b23 | b23
      · replace h := cond_t b23 h
        refine S.condT rfl b23 ?_
        refine S.seq ?_
        refine S.region ?_
        refine SO.v rfl (opv_build (v := .agg #[.int .i64 0, .int .i64 0, .int .i64 0, .int .i64 0, .int .i64 0, .int .i64 0]) rfl (by intro w; kernel_rfl)) ?_
        refine SO.b1 ?_
        refine SO.storeN Try.sizeOf45 rfl rfl rfl rfl rfl rfl ?_
        refine SO.v rfl (opv_assign rfl) ?_
        refine SO.nil ?_
        cases h
        refine S.b4 ?_
        refine S.b3 ?_
        refine S.b4 ?_
        refine S.b4 ?_
        refine S.b4 ?_
        exact S.retC1 Try.func27 rfl rfl rfl Try.isAgg45 Try.sizeOf45 rfl rfl (fun w hs hk => hR w _ _ ⟨rfl, rfl⟩ hs.drop hk)
      · replace h := cond_f b23 h
        refine S.condF rfl b23 ?_
        refine S.skip ?_
        refine S.seq ?_
        refine S.region ?_
        refine SO.v rfl (opv_move rfl) ?_
        refine SO.v rfl (opv_nilCheck rfl) ?_
        refine SO.v rfl (opv_fieldAddr Try.underlying63 rfl Try.sizeOf60 rfl rfl) ?_
        refine SO.load1 rfl Try.isAgg60 rfl rfl ?_
        refine SO.v rfl (opv_move rfl) ?_
        obtain ⟨x24, hx25, h⟩ := opt_bind h
        obtain ⟨r26, hr27, hc28⟩ := relR.at hrel1 hx25
        refine SO.v rfl (opv_idx Try.underlying60 Try.sizeOf65 hR2 rfl rfl hr27) ?_
        refine SO.v rfl (opv_fieldIdx Try.underlying65 rfl Try.sizeOf45 hR2 hr27 rfl rfl) ?_
        refine SO.loadIP (j := 0) rfl Try.isAgg45 Try.sizeOf45 (Rd.tail (Rd.tail (Rd.tail (Rd.head hR2)))) hr27 rfl rfl rfl (hc28.part (vs := [.int .i64 x24.Cap.Kind, .int .i64 x24.Cap.Rights, .int .i64 x24.Cap.Obj, .int .i64 x24.Cap.Badge, .int .i64 x24.Cap.Guard, .int .i64 x24.Cap.Bits]) rfl) ?_
        refine SO.b1 ?_
        refine SO.storeN Try.sizeOf45 rfl rfl rfl rfl rfl rfl ?_
        refine SO.v rfl (opv_assign rfl) ?_
        refine SO.nil ?_
        refine S.to (ρ' := [(6, bp b5 0), (7, .int .i64 0)]) ⟨rfl, rfl, trivial⟩ ?_
        cases h
        refine S.b4 ?_
        refine S.b3 ?_
        refine S.b4 ?_
        refine S.b4 ?_
        refine S.b4 ?_
        exact S.retC1 Try.func27 rfl rfl rfl Try.isAgg45 Try.sizeOf45 rfl rfl (fun w hs hk => hR w _ _ ⟨rfl, rfl⟩ hs.drop hk)
end Go.Proofs
