/- What the functions that StmGoes reaches come to, and that they do. On no condition. -/
import Derived.Test.YtmodeilahcbidaaFnStmGoes0
import Derived.Test.YtmodeilahcbidaaFr1
import Derived.Test.YtmodeilahcbidaaFnStmGoes1
set_option linter.all false
namespace Go.Proofs
open Go.Sl Go.RowKit
/-! 44 (*padstone/tx.Tx).Learn -/
def tx_Tx_Learn.f (a0 : tx_Tx) (a1 : Int) (a2 : api_Cell) : Option (tx_Tx) :=
  (bif decide (0 ≤ a1) then (some (decide (a1 < a0.cells))) else (some false)).bind fun c3 => bif c3 then ((mputO a0.l a1 a2).bind fun zs6 => some ({ a0 with l := zs6 } : tx_Tx)) else (some a0)
set_option maxHeartbeats 8000000 in
set_option maxRecDepth 100000 in
theorem tx_Tx_Learn.ct (bp0 : Nat) (v0_l : Value) (v0_out : Value) (a0 : tx_Tx) (a1 : Int) (a2 : api_Cell) (rp0 : tx_Tx) (h : tx_Tx_Learn.f a0 a1 a2 = some rp0) :
    Ct Try.prog 44 [bp bp0 0, .int .i64 a1, .agg #[.int .u64 a2.Value, .int .u32 a2.Version, .int .i64 a2.Mark]] (fun _ => True) [Box bp0 [.int .i64 a0.cells, v0_l, v0_out, .int .i64 a0.lack, .bool a0.fine], MapO (aggE ek_api_Cell) v0_l a0.l, MapO (Value.int .u64) v0_out a0.out] (fun u H' => ∃ rw0_l rw0_out, u = .tuple #[] ∧ H' = [Box bp0 [.int .i64 rp0.cells, rw0_l, rw0_out, .int .i64 rp0.lack, .bool rp0.fine], MapO (aggE ek_api_Cell) rw0_l rp0.l, MapO (Value.int .u64) rw0_out rp0.out]) := by
  unfold tx_Tx_Learn.f at h
  refine Ct.intro (n := 22) Try.func44 rfl rfl rfl ?_
  intro R w0 F hF hR
  refine S.seq ?_
  refine S.region ?_
  refine SO.box rfl rfl rfl (fun b1 => ?_)
  refine SO.nil ?_
  refine S.seq ?_
  refine S.region ?_
  refine SO.v rfl (opv_move rfl) ?_
  refine SO.v rfl (opv_geq rfl rfl) ?_
  refine SO.v rfl (opv_move rfl) ?_
  obtain ⟨c3, hc4, hgk⟩ := opt_bind h
  refine SO.cut 7 15 (.bool c3) [Box b1 [.int .u64 a2.Value, .int .u32 a2.Version, .int .i64 a2.Mark], Box bp0 [.int .i64 a0.cells, v0_l, v0_out, .int .i64 a0.lack, .bool a0.fine], MapO (aggE ek_api_Cell) v0_l a0.l, MapO (Value.int .u64) v0_out a0.out, F] (fun l2 hk2 => ?_) ?_
  · clear hgk
    replace h := hc4
    rcases bool_or (decide (0 ≤ a1)) with b2 | b2
    · replace h := cond_t b2 h
      refine SO.takeT rfl rfl rfl b2 ?_
      refine SO.v rfl (opv_move rfl) ?_
      refine SO.takeT rfl rfl rfl b2 ?_
      refine SO.v rfl (opv_move rfl) ?_
      refine SO.takeT rfl rfl rfl b2 ?_
      refine SO.v rfl (opv_nilCheck rfl) ?_
      refine SO.takeT rfl rfl rfl b2 ?_
      refine SO.v rfl (opv_fieldAddr Try.underlying97 rfl Try.sizeOf3 rfl rfl) ?_
      refine SO.takeT rfl rfl rfl b2 ?_
      refine SO.b1 ?_
      refine SO.load1 rfl Try.isAgg3 rfl rfl ?_
      refine SO.takeT rfl rfl rfl b2 ?_
      refine SO.v rfl (opv_lss rfl rfl) ?_
      cases h
      refine SO.v rfl (opv_pick_t' b2 rfl rfl) ?_
      refine SO.b4 ?_
      refine SO.b4 ?_
      refine SO.b4 ?_
      refine SO.b3 ?_
      refine SO.b4 ?_
      exact hk2.fitc (m := 7) rfl (rfl) rfl
    replace h := cond_f b2 h
    refine SO.passF rfl rfl rfl b2 rfl rfl ?_
    refine SO.passF rfl rfl rfl b2 rfl rfl ?_
    refine SO.passF rfl rfl rfl b2 rfl rfl ?_
    refine SO.passF rfl rfl rfl b2 rfl rfl ?_
    refine SO.passF rfl rfl rfl b2 rfl rfl ?_
    refine SO.passF rfl rfl rfl b2 rfl rfl ?_
    cases h
    refine SO.v rfl (opv_pick_f' b2 rfl rfl) ?_
    refine SO.b4 ?_
    refine SO.b4 ?_
    refine SO.b4 ?_
    refine SO.b4 ?_
    refine SO.b4 ?_
    exact hk2.fitc (m := 7) rfl (rfl) rfl
  clear hc4
  replace h := hgk
  refine SO.nil ?_
  rcases bool_or c3 with b5 | b5
  · replace h := cond_t b5 h
    refine S.condT rfl b5 ?_
    obtain ⟨zs6, hz7, h⟩ := opt_bind h
    refine S.draw2 (Y := fun Q => ∃ (_ _ _ _ _ _ _ _ : Unit), Q [(0, bp bp0 0), (1, .int .i64 a1), (5, bp b1 0)] [Box b1 [.int .u64 a2.Value, .int .u32 a2.Version, .int .i64 a2.Mark], Box bp0 [.int .i64 a0.cells, v0_l, v0_out, .int .i64 a0.lack, .bool a0.fine], MapO (aggE ek_api_Cell) v0_l a0.l, MapO (Value.int .u64) v0_out a0.out, F]) (Z := fun Q => ∀ (_ _ _ _ _ : Unit), Q [] [Box b1 [.int .u64 a2.Value, .int .u32 a2.Version, .int .i64 a2.Mark], Box bp0 [.int .i64 a0.cells, v0_l, v0_out, .int .i64 a0.lack, .bool a0.fine], MapO (aggE ek_api_Cell) v0_l zs6, MapO (Value.int .u64) v0_out a0.out, F]) (T := [tS 0 (bp bp0 0), tS 1 (.int .i64 a1), tS 5 (bp b1 0), tR (Box b1 [.int .u64 a2.Value, .int .u32 a2.Version, .int .i64 a2.Mark]), tR (Box bp0 [.int .i64 a0.cells, v0_l, v0_out, .int .i64 a0.lack, .bool a0.fine]), tR (MapO (aggE ek_api_Cell) v0_l a0.l), tR (MapO (Value.int .u64) v0_out a0.out), tR (F), tS 16 (bp bp0 0), tS 17 (bp bp0 0), tS 18 (bp bp0 1), tS 19 (v0_l), tS 20 (.int .i64 a1), tS 21 (.agg #[.int .u64 a2.Value, .int .u32 a2.Version, .int .i64 a2.Mark]), tR (MapO (aggE ek_api_Cell) v0_l zs6)]) (D := [⟨[0], [], [8]⟩, ⟨[8], [], [9]⟩, ⟨[9], [], [10]⟩, ⟨[10, 4], [], [11]⟩, ⟨[1], [], [12]⟩, ⟨[2, 3], [], [13]⟩, ⟨[11, 12, 13], [5], [14]⟩]) (ini := [0, 1, 2, 3, 4, 5, 6, 7]) (fin := [3, 4, 14, 6, 7]) (bf := [[], [0], [0, 1], [0, 1, 2], [], [], [0, 1, 2, 3, 4, 5]]) (by kernel_rfl) (by kernel_rfl) (fun Q => by kernel_rfl) (fun x w h1 h2 => ⟨(), (), (), (), (), (), (), (), EnvAll.of h1 ⟨rfl, rfl, rfl, trivial⟩, h2⟩) (fun Q => by kernel_rfl) ⟨?_, ?_, ?_, ?_, ?_, ?_, ?_, trivial⟩ ?_
    · rintro Fr _
      refine SO.v rfl (opv_move rfl) ?_
      exact SO.nilZ fun a w h1 h2 h3 h4 h5 => PZ.of h1 h3 h5 (.cons () (.cons () (.nil ⟨EnvAll.of h2 ⟨rfl, rfl, trivial⟩, h4⟩)))
    · rintro Fr _
      refine SO.v rfl (opv_nilCheck rfl) ?_
      exact SO.nilZ fun a w h1 h2 h3 h4 h5 => PZ.of h1 h3 h5 (.cons () (.cons () (.nil ⟨EnvAll.of h2 ⟨rfl, rfl, trivial⟩, h4⟩)))
    · rintro Fr _
      refine SO.v rfl (opv_fieldAddr Try.underlying97 rfl Try.sizeOf94 rfl rfl) ?_
      exact SO.nilZ fun a w h1 h2 h3 h4 h5 => PZ.of h1 h3 h5 (.cons () (.cons () (.nil ⟨EnvAll.of h2 ⟨rfl, rfl, trivial⟩, h4⟩)))
    · rintro Fr _ _
      refine SO.load1 rfl Try.isAgg94 rfl rfl ?_
      exact SO.nilZ fun a w h1 h2 h3 h4 h5 => PZ.of h1 h3 h5 (.cons () (.cons () (.cons () (.nil ⟨EnvAll.of h2 ⟨rfl, rfl, trivial⟩, h4⟩))))
    · rintro Fr _
      refine SO.v rfl (opv_move rfl) ?_
      exact SO.nilZ fun a w h1 h2 h3 h4 h5 => PZ.of h1 h3 h5 (.cons () (.cons () (.nil ⟨EnvAll.of h2 ⟨rfl, rfl, trivial⟩, h4⟩)))
    · rintro Fr _ _
      refine SO.loadN rfl Try.isAgg88 Try.sizeOf88 rfl rfl rfl ?_
      exact SO.nilZ fun a w h1 h2 h3 h4 h5 => PZ.of h1 h3 h5 (.cons () (.cons () (.cons () (.nil ⟨EnvAll.of h2 ⟨rfl, rfl, trivial⟩, h4⟩))))
    · rintro Fr _ _ _ _
      refine SO.mapUpdateO (enc := (aggE ek_api_Cell)) (u := a2) Try.underlying94 Try.underlying3 rfl rfl rfl hz7 ?_
      exact SO.nilZ fun a w h1 h2 h3 h4 h5 => PZ.of h1 h3 h5 (.cons () (.cons () (.cons () (.cons () (.nil ⟨EnvAll.of h2 ⟨rfl, rfl, rfl, trivial⟩, h4⟩)))))
    rintro _ _ _ _ _
    refine S.to (ρ' := []) trivial ?_
    cases h
    refine S.drop ?_
    refine S.b3 ?_
    refine S.b3 ?_
    refine S.b3 ?_
    refine S.b3 ?_
    exact S.fin0 Try.func44 rfl (fun w hs hk => hR w _ _ ⟨v0_l, v0_out, rfl, rfl⟩ hs hk)
  replace h := cond_f b5 h
  refine S.condF rfl b5 ?_
  refine S.skip ?_
  cases h
  refine S.drop ?_
  refine S.b3 ?_
  refine S.b3 ?_
  refine S.b3 ?_
  refine S.b3 ?_
  exact S.fin0 Try.func44 rfl (fun w hs hk => hR w _ _ ⟨v0_l, v0_out, rfl, rfl⟩ hs hk)
end Go.Proofs
namespace Go.Proofs
open Go.Sl Go.RowKit
/-! 107 (padstone/tx.seen).has -/
def tx_seen_has.f (a0 : tx_Tx) (a1 : Int) : Option ((Bool × tx_Tx)) :=
  (bif decide (a1 < 0) then (some true) else (some (decide (a0.cells ≤ a1)))).bind fun c3 => bif c3 then (some (false, a0)) else ((lkO a0.l a1 (⟨0, 0, 0⟩ : api_Cell)).bind fun (x6, c8) => (bif !c8 then (some (a0.lack == (-1))) else (some false)).bind fun c11 => bif c11 then (some (true, ({ a0 with lack := a1 } : tx_Tx))) else (some (true, a0)))
set_option maxHeartbeats 8000000 in
set_option maxRecDepth 100000 in
theorem tx_seen_has.ct (bp0 : Nat) (v0_l : Value) (v0_out : Value) (a0 : tx_Tx) (a1 : Int) (r0 : Bool) (rp0 : tx_Tx) (h : tx_seen_has.f a0 a1 = some (r0, rp0)) :
    Ct Try.prog 107 [.agg #[bp bp0 0], .int .i64 a1] (fun _ => True) [Box bp0 [.int .i64 a0.cells, v0_l, v0_out, .int .i64 a0.lack, .bool a0.fine], MapO (aggE ek_api_Cell) v0_l a0.l, MapO (Value.int .u64) v0_out a0.out] (fun u H' => ∃ rw0_l rw0_out, u = .bool r0 ∧ H' = [Box bp0 [.int .i64 rp0.cells, rw0_l, rw0_out, .int .i64 rp0.lack, .bool rp0.fine], MapO (aggE ek_api_Cell) rw0_l rp0.l, MapO (Value.int .u64) rw0_out rp0.out]) := by
  unfold tx_seen_has.f at h
  refine Ct.intro (n := 42) Try.func107 rfl rfl rfl ?_
  intro R w0 F hF hR
  refine S.seq ?_
  refine S.region ?_
  refine SO.box rfl rfl rfl (fun b1 => ?_)
  refine SO.v rfl (opv_assign rfl) ?_
  refine SO.nil ?_
  refine S.seq ?_
  refine S.region ?_
  refine SO.v rfl (opv_fieldAddr Try.underlying111 rfl Try.sizeOf70 rfl rfl) ?_
  refine SO.load1 rfl Try.isAgg70 rfl rfl ?_
  refine SO.v rfl (opv_assign rfl) ?_
  refine SO.nil ?_
  refine S.seq ?_
  refine S.seq ?_
  refine S.region ?_
  refine SO.v rfl (opv_move rfl) ?_
  refine SO.v rfl (opv_lss rfl rfl) ?_
  refine SO.v rfl (opv_move rfl) ?_
  obtain ⟨c3, hc4, hgk⟩ := opt_bind h
  refine SO.cut 7 19 (.bool c3) [Box b1 [bp bp0 0], Box bp0 [.int .i64 a0.cells, v0_l, v0_out, .int .i64 a0.lack, .bool a0.fine], MapO (aggE ek_api_Cell) v0_l a0.l, MapO (Value.int .u64) v0_out a0.out, F] (fun l2 hk2 => ?_) ?_
  · clear hgk
    replace h := hc4
    rcases bool_or (decide (a1 < 0)) with b2 | b2
    · replace h := cond_t b2 h
      refine SO.passF rfl rfl rfl b2 rfl rfl ?_
      refine SO.passF rfl rfl rfl b2 rfl rfl ?_
      refine SO.passF rfl rfl rfl b2 rfl rfl ?_
      refine SO.passF rfl rfl rfl b2 rfl rfl ?_
      refine SO.passF rfl rfl rfl b2 rfl rfl ?_
      refine SO.passF rfl rfl rfl b2 rfl rfl ?_
      cases h
      refine SO.v rfl (opv_pick_t' b2 rfl rfl) ?_
      refine SO.b4 ?_
      refine SO.b4 ?_
      refine SO.b4 ?_
      refine SO.b4 ?_
      refine SO.b4 ?_
      exact hk2.fitc (m := 7) rfl (rfl) rfl
    replace h := cond_f b2 h
    refine SO.takeT rfl rfl rfl b2 ?_
    refine SO.v rfl (opv_move rfl) ?_
    refine SO.takeT rfl rfl rfl b2 ?_
    refine SO.v rfl (opv_move rfl) ?_
    refine SO.takeT rfl rfl rfl b2 ?_
    refine SO.v rfl (opv_nilCheck rfl) ?_
    refine SO.takeT rfl rfl rfl b2 ?_
    refine SO.v rfl (opv_fieldAddr Try.underlying97 rfl Try.sizeOf3 rfl rfl) ?_
    refine SO.takeT rfl rfl rfl b2 ?_
    refine SO.b1 ?_
    refine SO.load1 rfl Try.isAgg3 rfl rfl ?_
    refine SO.takeT rfl rfl rfl b2 ?_
    refine SO.v rfl (opv_geq rfl rfl) ?_
    cases h
    refine SO.v rfl (opv_pick_f' b2 rfl rfl) ?_
    refine SO.b4 ?_
    refine SO.b4 ?_
    refine SO.b4 ?_
    refine SO.b3 ?_
    refine SO.b4 ?_
    exact hk2.fitc (m := 7) rfl (rfl) rfl
  clear hc4
  replace h := hgk
  refine SO.nil ?_
  refine S.to (ρ' := [(1, .int .i64 a1), (4, .bool false), (5, bp bp0 0), (19, .bool c3)]) ⟨rfl, rfl, rfl, rfl, trivial⟩ ?_
  rcases bool_or c3 with b5 | b5
  · replace h := cond_t b5 h
    refine S.condT rfl b5 ?_
    refine S.seq ?_
    refine S.region ?_
    refine SO.v rfl (opv_assign rfl) ?_
    refine SO.nil ?_
    cases h
    refine S.drop ?_
    refine S.b3 ?_
    refine S.b3 ?_
    refine S.b3 ?_
    refine S.b3 ?_
    exact S.ret1 Try.func107 rfl rfl (fun w hs hk => hR w _ _ ⟨v0_l, v0_out, rfl, rfl⟩ hs hk)
  replace h := cond_f b5 h
  refine S.condF rfl b5 ?_
  refine S.skip ?_
  refine S.seq ?_
  refine S.seq ?_
  refine S.region ?_
  refine SO.v rfl (opv_move rfl) ?_
  refine SO.v rfl (opv_nilCheck rfl) ?_
  refine SO.v rfl (opv_fieldAddr Try.underlying97 rfl Try.sizeOf94 rfl rfl) ?_
  refine SO.b1 ?_
  refine SO.load1 rfl Try.isAgg94 rfl rfl ?_
  refine SO.v rfl (opv_move rfl) ?_
  obtain ⟨⟨x6, c8⟩, hlk7, h⟩ := opt_bind h
  refine SO.b2 ?_
  refine SO.lookupOkO (enc := (aggE ek_api_Cell)) (zx := (⟨0, 0, 0⟩ : api_Cell)) rfl Try.underlying94 Try.underlying3 Try.zeroValue88 rfl rfl hlk7 ?_
  refine SO.v rfl (opv_move rfl) ?_
  refine SO.v rfl (opv_extract rfl rfl) ?_
  refine SO.v rfl (opv_extract rfl rfl) ?_
  refine SO.alloc rfl Try.zeroValue88 rfl (fun b9 => ?_)
  refine SO.storeN Try.sizeOf88 rfl rfl rfl rfl rfl rfl ?_
  refine SO.v rfl (opv_assign rfl) ?_
  refine SO.nil ?_
  refine S.to (ρ' := [(1, .int .i64 a1), (4, .bool false), (5, bp bp0 0), (7, .bool c8)]) ⟨rfl, rfl, rfl, rfl, trivial⟩ ?_
  refine S.seq ?_
  refine S.region ?_
  refine SO.v rfl (opv_move rfl) ?_
  refine SO.v rfl (opv_not rfl) ?_
  refine SO.v rfl (opv_move rfl) ?_
  obtain ⟨c11, hc12, hgk⟩ := opt_bind h
  refine SO.cut 6 37 (.bool c11) [Box b9 [.int .u64 x6.Value, .int .u32 x6.Version, .int .i64 x6.Mark], MapO (aggE ek_api_Cell) v0_l a0.l, Box bp0 [.int .i64 a0.cells, v0_l, v0_out, .int .i64 a0.lack, .bool a0.fine], Box b1 [bp bp0 0], MapO (Value.int .u64) v0_out a0.out, F] (fun l2 hk2 => ?_) ?_
  · clear hgk
    replace h := hc12
    rcases bool_or (!c8) with b10 | b10
    · replace h := cond_t b10 h
      refine SO.takeT rfl rfl rfl b10 ?_
      refine SO.v rfl (opv_move rfl) ?_
      refine SO.takeT rfl rfl rfl b10 ?_
      refine SO.v rfl (opv_nilCheck rfl) ?_
      refine SO.takeT rfl rfl rfl b10 ?_
      refine SO.v rfl (opv_fieldAddr Try.underlying97 rfl Try.sizeOf3 rfl rfl) ?_
      refine SO.takeT rfl rfl rfl b10 ?_
      refine SO.b2 ?_
      refine SO.load1 rfl Try.isAgg3 rfl rfl ?_
      refine SO.takeT rfl rfl rfl b10 ?_
      refine SO.v rfl (opv_eql rfl rfl) ?_
      cases h
      refine SO.v rfl (opv_pick_t' b10 rfl rfl) ?_
      refine SO.b5 ?_
      refine SO.b5 ?_
      refine SO.b5 ?_
      refine SO.b3 ?_
      refine SO.b5 ?_
      refine SO.b5 ?_
      exact hk2.fitc (m := 6) rfl (rfl) rfl
    replace h := cond_f b10 h
    refine SO.passF rfl rfl rfl b10 rfl rfl ?_
    refine SO.passF rfl rfl rfl b10 rfl rfl ?_
    refine SO.passF rfl rfl rfl b10 rfl rfl ?_
    refine SO.passF rfl rfl rfl b10 rfl rfl ?_
    refine SO.passF rfl rfl rfl b10 rfl rfl ?_
    cases h
    refine SO.v rfl (opv_pick_f' b10 rfl rfl) ?_
    refine SO.b5 ?_
    refine SO.b5 ?_
    refine SO.b5 ?_
    refine SO.b5 ?_
    refine SO.b5 ?_
    refine SO.b5 ?_
    exact hk2.fitc (m := 6) rfl (rfl) rfl
  clear hc12
  replace h := hgk
  refine SO.nil ?_
  rcases bool_or c11 with b13 | b13
  · replace h := cond_t b13 h
    refine S.condT rfl b13 ?_
    refine S.region ?_
    refine SO.v rfl (opv_move rfl) ?_
    refine SO.v rfl (opv_move rfl) ?_
    refine SO.v rfl (opv_nilCheck rfl) ?_
    refine SO.v rfl (opv_fieldAddr Try.underlying97 rfl Try.sizeOf3 rfl rfl) ?_
    refine SO.b2 ?_
    refine SO.store1 Try.sizeOf3 rfl rfl rfl rfl ?_
    refine SO.nil ?_
    refine S.to (ρ' := [(4, .bool false)]) ⟨rfl, trivial⟩ ?_
    refine S.seq ?_
    refine S.region ?_
    refine SO.v rfl (opv_assign rfl) ?_
    refine SO.nil ?_
    cases h
    refine S.b1 ?_
    refine S.drop ?_
    refine S.b2 ?_
    refine S.drop ?_
    refine S.b3 ?_
    refine S.b3 ?_
    refine S.b3 ?_
    refine S.b3 ?_
    exact S.ret1 Try.func107 rfl rfl (fun w hs hk => hR w _ _ ⟨v0_l, v0_out, rfl, rfl⟩ hs hk)
  replace h := cond_f b13 h
  refine S.condF rfl b13 ?_
  refine S.skip ?_
  refine S.seq ?_
  refine S.region ?_
  refine SO.v rfl (opv_assign rfl) ?_
  refine SO.nil ?_
  refine S.to (ρ' := [(4, .bool true)]) ⟨rfl, trivial⟩ ?_
  cases h
  refine S.drop ?_
  refine S.b2 ?_
  refine S.drop ?_
  refine S.b3 ?_
  refine S.b3 ?_
  refine S.b2 ?_
  refine S.b3 ?_
  exact S.ret1 Try.func107 rfl rfl (fun w hs hk => hR w _ _ ⟨v0_l, v0_out, rfl, rfl⟩ hs hk)
end Go.Proofs
namespace Go.Proofs
open Go.Sl Go.RowKit
/-! 105 (padstone/tx.seen).Read -/
def tx_seen_Read.f (a0 : tx_Tx) (a1 : Int) : Option ((Int × tx_Tx)) :=
  (tx_seen_has.f a0 a1).bind fun (t2, p3) => bif !t2 then (some (0, p3)) else ((lkO p3.out a1 (0 : Int)).bind fun (x7, c9) => bif c9 then (some (x7, p3)) else ((lk1 p3.l a1 (⟨0, 0, 0⟩ : api_Cell)).bind fun x11 => some (x11.Value, p3)))
set_option maxHeartbeats 8000000 in
set_option maxRecDepth 100000 in
theorem tx_seen_Read.ct (bp0 : Nat) (v0_l : Value) (v0_out : Value) (a0 : tx_Tx) (a1 : Int) (r0 : Int) (rp0 : tx_Tx) (h : tx_seen_Read.f a0 a1 = some (r0, rp0)) :
    Ct Try.prog 105 [.agg #[bp bp0 0], .int .i64 a1] (fun _ => True) [Box bp0 [.int .i64 a0.cells, v0_l, v0_out, .int .i64 a0.lack, .bool a0.fine], MapO (aggE ek_api_Cell) v0_l a0.l, MapO (Value.int .u64) v0_out a0.out] (fun u H' => ∃ rw0_l rw0_out, u = .int .u64 r0 ∧ H' = [Box bp0 [.int .i64 rp0.cells, rw0_l, rw0_out, .int .i64 rp0.lack, .bool rp0.fine], MapO (aggE ek_api_Cell) rw0_l rp0.l, MapO (Value.int .u64) rw0_out rp0.out]) := by
  unfold tx_seen_Read.f at h
  refine Ct.intro (n := 31) Try.func105 rfl rfl rfl ?_
  intro R w0 F hF hR
  refine S.seq ?_
  refine S.region ?_
  refine SO.box rfl rfl rfl (fun b1 => ?_)
  refine SO.v rfl (opv_assign rfl) ?_
  refine SO.nil ?_
  refine S.seq ?_
  refine S.seq ?_
  refine S.region ?_
  refine SO.loadN rfl Try.isAgg111 Try.sizeOf111 rfl rfl rfl ?_
  refine SO.v rfl (opv_move rfl) ?_
  obtain ⟨⟨t2, p3⟩, ht4, h⟩ := opt_bind h
  refine SO.b3 ?_
  refine SO.b3 ?_
  refine SO.b3 ?_
  refine SO.call (pre := [Box _ _, MapO _ _ _, MapO _ _ _]) rfl Try.call107 rfl rfl rfl (tx_seen_has.ct bp0 v0_l v0_out _ _ _ _ ht4) trivial ?_
  rintro _ _ ⟨u5_l, u5_out, rfl, rfl⟩
  refine SO.v rfl (opv_not rfl) ?_
  refine SO.nil ?_
  rcases bool_or (!t2) with b6 | b6
  · replace h := cond_t b6 h
    refine S.condT rfl b6 ?_
    refine S.seq ?_
    refine S.region ?_
    refine SO.v rfl (opv_assign rfl) ?_
    refine SO.nil ?_
    refine S.to (ρ' := [(4, .int .u64 0)]) ⟨rfl, trivial⟩ ?_
    cases h
    refine S.b3 ?_
    refine S.drop ?_
    refine S.b3 ?_
    refine S.b3 ?_
    refine S.b3 ?_
    refine S.b3 ?_
    exact S.ret1 Try.func105 rfl rfl (fun w hs hk => hR w _ _ ⟨u5_l, u5_out, rfl, rfl⟩ hs hk)
  replace h := cond_f b6 h
  refine S.condF rfl b6 ?_
  refine S.skip ?_
  refine S.seq ?_
  refine S.seq ?_
  refine S.region ?_
  refine SO.v rfl (opv_fieldAddr Try.underlying111 rfl Try.sizeOf70 rfl rfl) ?_
  refine SO.b3 ?_
  refine SO.load1 rfl Try.isAgg70 rfl rfl ?_
  refine SO.v rfl (opv_nilCheck rfl) ?_
  refine SO.v rfl (opv_fieldAddr Try.underlying97 rfl Try.sizeOf95 rfl rfl) ?_
  refine SO.b1 ?_
  refine SO.load1 rfl Try.isAgg95 rfl rfl ?_
  refine SO.v rfl (opv_move rfl) ?_
  obtain ⟨⟨x7, c9⟩, hlk8, h⟩ := opt_bind h
  refine SO.b3 ?_
  refine SO.lookupOkO (enc := (Value.int .u64)) (zx := (0 : Int)) rfl Try.underlying95 Try.underlying3 Try.zeroValue46 rfl rfl hlk8 ?_
  refine SO.v rfl (opv_move rfl) ?_
  refine SO.v rfl (opv_extract rfl rfl) ?_
  refine SO.v rfl (opv_extract rfl rfl) ?_
  refine SO.v rfl (opv_assign rfl) ?_
  refine SO.v rfl (opv_assign rfl) ?_
  refine SO.nil ?_
  refine S.to (ρ' := [(1, .int .i64 a1), (2, bp b1 0), (4, .int .u64 0), (5, .int .u64 x7), (6, .bool c9)]) ⟨rfl, rfl, rfl, rfl, rfl, trivial⟩ ?_
  refine S.seq ?_
  refine S.region ?_
  refine SO.v rfl (opv_move rfl) ?_
  refine SO.nil ?_
  rcases bool_or c9 with b10 | b10
  · replace h := cond_t b10 h
    refine S.condT rfl b10 ?_
    refine S.seq ?_
    refine S.region ?_
    refine SO.v rfl (opv_move rfl) ?_
    refine SO.v rfl (opv_assign rfl) ?_
    refine SO.nil ?_
    cases h
    refine S.b2 ?_
    refine S.drop ?_
    refine S.b3 ?_
    refine S.b1 ?_
    refine S.b3 ?_
    refine S.b3 ?_
    exact S.ret1 Try.func105 rfl rfl (fun w hs hk => hR w _ _ ⟨u5_l, u5_out, rfl, rfl⟩ hs hk)
  replace h := cond_f b10 h
  refine S.condF rfl b10 ?_
  refine S.skip ?_
  refine S.seq ?_
  refine S.region ?_
  refine SO.v rfl (opv_fieldAddr Try.underlying111 rfl Try.sizeOf70 rfl rfl) ?_
  refine SO.b2 ?_
  refine SO.load1 rfl Try.isAgg70 rfl rfl ?_
  refine SO.v rfl (opv_nilCheck rfl) ?_
  refine SO.v rfl (opv_fieldAddr Try.underlying97 rfl Try.sizeOf94 rfl rfl) ?_
  refine SO.b2 ?_
  refine SO.load1 rfl Try.isAgg94 rfl rfl ?_
  refine SO.v rfl (opv_move rfl) ?_
  obtain ⟨x11, hlk12, h⟩ := opt_bind h
  refine SO.b3 ?_
  refine SO.lookup1O (enc := (aggE ek_api_Cell)) (zx := (⟨0, 0, 0⟩ : api_Cell)) rfl Try.underlying94 Try.underlying3 Try.zeroValue88 rfl rfl hlk12 ?_
  refine SO.v rfl (opv_field Try.underlying88 rfl Try.isAgg46 rfl rfl) ?_
  refine SO.v rfl (opv_assign rfl) ?_
  refine SO.nil ?_
  refine S.to (ρ' := [(4, .int .u64 x11.Value)]) ⟨rfl, trivial⟩ ?_
  cases h
  refine S.b2 ?_
  refine S.drop ?_
  refine S.b3 ?_
  refine S.b3 ?_
  refine S.b2 ?_
  refine S.b3 ?_
  exact S.ret1 Try.func105 rfl rfl (fun w hs hk => hR w _ _ ⟨u5_l, u5_out, rfl, rfl⟩ hs hk)
end Go.Proofs
namespace Go.Proofs
open Go.Sl Go.RowKit
/-! 106 (padstone/tx.seen).Write -/
def tx_seen_Write.f (a0 : tx_Tx) (a1 : Int) (a2 : Int) : Option (tx_Tx) :=
  (tx_seen_has.f a0 a1).bind fun (t2, p3) => bif t2 then ((mputO p3.out a1 a2).bind fun zs7 => some ({ p3 with out := zs7 } : tx_Tx)) else (some p3)
set_option maxHeartbeats 8000000 in
set_option maxRecDepth 100000 in
theorem tx_seen_Write.ct (bp0 : Nat) (v0_l : Value) (v0_out : Value) (a0 : tx_Tx) (a1 : Int) (a2 : Int) (rp0 : tx_Tx) (h : tx_seen_Write.f a0 a1 a2 = some rp0) :
    Ct Try.prog 106 [.agg #[bp bp0 0], .int .i64 a1, .int .u64 a2] (fun _ => True) [Box bp0 [.int .i64 a0.cells, v0_l, v0_out, .int .i64 a0.lack, .bool a0.fine], MapO (aggE ek_api_Cell) v0_l a0.l, MapO (Value.int .u64) v0_out a0.out] (fun u H' => ∃ rw0_l rw0_out, u = .tuple #[] ∧ H' = [Box bp0 [.int .i64 rp0.cells, rw0_l, rw0_out, .int .i64 rp0.lack, .bool rp0.fine], MapO (aggE ek_api_Cell) rw0_l rp0.l, MapO (Value.int .u64) rw0_out rp0.out]) := by
  unfold tx_seen_Write.f at h
  refine Ct.intro (n := 16) Try.func106 rfl rfl rfl ?_
  intro R w0 F hF hR
  refine S.seq ?_
  refine S.region ?_
  refine SO.box rfl rfl rfl (fun b1 => ?_)
  refine SO.nil ?_
  refine S.seq ?_
  refine S.region ?_
  refine SO.loadN rfl Try.isAgg111 Try.sizeOf111 rfl rfl rfl ?_
  refine SO.v rfl (opv_move rfl) ?_
  obtain ⟨⟨t2, p3⟩, ht4, h⟩ := opt_bind h
  refine SO.b3 ?_
  refine SO.b3 ?_
  refine SO.b3 ?_
  refine SO.call (pre := [Box _ _, MapO _ _ _, MapO _ _ _]) rfl Try.call107 rfl rfl rfl (tx_seen_has.ct bp0 v0_l v0_out _ _ _ _ ht4) trivial ?_
  rintro _ _ ⟨u5_l, u5_out, rfl, rfl⟩
  refine SO.nil ?_
  rcases bool_or t2 with b6 | b6
  · replace h := cond_t b6 h
    refine S.condT rfl b6 ?_
    refine S.region ?_
    refine SO.v rfl (opv_fieldAddr Try.underlying111 rfl Try.sizeOf70 rfl rfl) ?_
    refine SO.b3 ?_
    refine SO.load1 rfl Try.isAgg70 rfl rfl ?_
    refine SO.v rfl (opv_nilCheck rfl) ?_
    refine SO.v rfl (opv_fieldAddr Try.underlying97 rfl Try.sizeOf95 rfl rfl) ?_
    refine SO.b1 ?_
    refine SO.load1 rfl Try.isAgg95 rfl rfl ?_
    refine SO.v rfl (opv_move rfl) ?_
    refine SO.v rfl (opv_move rfl) ?_
    obtain ⟨zs7, hz8, h⟩ := opt_bind h
    refine SO.b3 ?_
    refine SO.mapUpdateO (enc := (Value.int .u64)) (u := a2) Try.underlying95 Try.underlying3 rfl rfl rfl hz8 ?_
    refine SO.nil ?_
    refine S.to (ρ' := []) trivial ?_
    cases h
    refine S.b2 ?_
    refine S.drop ?_
    refine S.b3 ?_
    refine S.b1 ?_
    refine S.b3 ?_
    refine S.b3 ?_
    exact S.fin0 Try.func106 rfl (fun w hs hk => hR w _ _ ⟨u5_l, u5_out, rfl, rfl⟩ hs hk)
  replace h := cond_f b6 h
  refine S.condF rfl b6 ?_
  refine S.skip ?_
  cases h
  refine S.b3 ?_
  refine S.drop ?_
  refine S.b3 ?_
  refine S.b3 ?_
  refine S.b3 ?_
  refine S.b3 ?_
  exact S.fin0 Try.func106 rfl (fun w hs hk => hR w _ _ ⟨u5_l, u5_out, rfl, rfl⟩ hs hk)
end Go.Proofs
set_option linter.unusedVariables false
namespace Go.Proofs
open Go.Sl Go.RowKit
/-- A record, as it lies. -/
def TxR (b : Nat) (t : tx_Tx) : HProp := fun m => ∃ vl vo, stars [Box b [.int .i64 t.cells, vl, vo, .int .i64 t.lack, .bool t.fine], MapO (aggE ek_api_Cell) vl t.l, MapO (Value.int .u64) vo t.out] m
theorem TxR.open {w : World} {b : Nat} {t : tx_Tx} {H : List HProp} (h : Sat w (TxR b t :: H)) : ∃ vl vo, Sat w (Box b [.int .i64 t.cells, vl, vo, .int .i64 t.lack, .bool t.fine] :: MapO (aggE ek_api_Cell) vl t.l :: MapO (Value.int .u64) vo t.out :: H) := by
  obtain ⟨m1, m2, d, s1, s2, ⟨vl, vo, hx⟩, hr⟩ := h
  refine ⟨vl, vo, ?_⟩
  have : stars ([Box b [.int .i64 t.cells, vl, vo, .int .i64 t.lack, .bool t.fine], MapO (aggE ek_api_Cell) vl t.l, MapO (Value.int .u64) vo t.out] ++ H) (hp w) := (stars_append _ _ _).2 ⟨m1, m2, d, s1, s2, hx, hr⟩
  exact this
theorem TxR.close {w : World} {b : Nat} {t : tx_Tx} {vl vo : Value} {H : List HProp} (h : Sat w (Box b [.int .i64 t.cells, vl, vo, .int .i64 t.lack, .bool t.fine] :: MapO (aggE ek_api_Cell) vl t.l :: MapO (Value.int .u64) vo t.out :: H)) : Sat w (TxR b t :: H) := by
  have h2 : stars ([Box b [.int .i64 t.cells, vl, vo, .int .i64 t.lack, .bool t.fine], MapO (aggE ek_api_Cell) vl t.l, MapO (Value.int .u64) vo t.out] ++ H) (hp w) := h
  obtain ⟨m1, m2, d, s1, s2, hx, hr⟩ := (stars_append _ _ _).1 h2
  exact ⟨m1, m2, d, s1, s2, ⟨vl, vo, hx⟩, hr⟩
/-- A record that runs: its cells are few, what it writes are cells, each once. -/
def TxOk (t : tx_Tx) : Prop := (0 ≤ t.cells ∧ t.cells ≤ 1024) ∧ ∃ o, t.out = some o ∧ (o.map (·.1)).Nodup ∧ ∀ p ∈ o, 0 ≤ p.1 ∧ p.1 < t.cells
def hasS (t : tx_Tx) (i : Int) : Bool × tx_Tx := if i < 0 ∨ t.cells ≤ i then (false, t) else (true, if mfindO t.l i = none ∧ t.lack = -1 then { t with lack := i } else t)
theorem has_ok (t : tx_Tx) (i : Int) : tx_seen_has.f t i = some (hasS t i) := by
  unfold tx_seen_has.f hasS lkO
  by_cases h1 : i < 0
  · simp [h1]
  · by_cases h2 : t.cells ≤ i
    · simp [h1, h2]
    · cases h3 : mfindO t.l i with
      | none =>
        by_cases h4 : t.lack = -1
        · simp [h1, h2, h4]
        · have : (t.lack == -1) = false := beq_false_of_ne h4
          simp [h1, h2, h4, this]
      | some c => simp [h1, h2]
def rdS (t : tx_Tx) (i : Int) : Int × tx_Tx :=
  if (hasS t i).1 = true then (match mfindO (hasS t i).2.out i with | some x => (x, (hasS t i).2) | none => (((mfindO (hasS t i).2.l i).getD ⟨0, 0, 0⟩).Value, (hasS t i).2)) else (0, (hasS t i).2)
theorem rdS_ok (t : tx_Tx) (i : Int) : tx_seen_Read.f t i = some (rdS t i) := by
  unfold tx_seen_Read.f rdS
  rw [has_ok, Option.bind_some]
  cases h : hasS t i with
  | mk c t1 =>
    cases c with
    | false => simp
    | true =>
      simp only [lkO, lk1, Bool.not_true, cond_false, Option.bind_some, if_true]
      cases h2 : mfindO t1.out i <;> simp
theorem hasS_out (t : tx_Tx) (i : Int) : (hasS t i).2.out = t.out ∧ (hasS t i).2.cells = t.cells ∧ (hasS t i).2.l = t.l ∧ (hasS t i).2.fine = t.fine := by
  unfold hasS; split
  · exact ⟨rfl, rfl, rfl, rfl⟩
  · dsimp only; split <;> exact ⟨rfl, rfl, rfl, rfl⟩
theorem TxOk.has {t : tx_Tx} (h : TxOk t) (i : Int) : TxOk (hasS t i).2 := by
  obtain ⟨e1, e2, _, _⟩ := hasS_out t i
  unfold TxOk; rw [e1, e2]; exact h
theorem rdS_2 (t : tx_Tx) (i : Int) : (rdS t i).2 = (hasS t i).2 := by
  unfold rdS; split
  · split <;> rfl
  · rfl
def wrS (t : tx_Tx) (i x : Int) : tx_Tx := if (hasS t i).1 = true then { (hasS t i).2 with out := (hasS t i).2.out.map fun o => mset o i x } else (hasS t i).2
theorem mset_keys {α : Type} : ∀ (l : List (Int × α)) (k : Int) (v : α), (mset l k v).map (·.1) = if k ∈ l.map (·.1) then l.map (·.1) else l.map (·.1) ++ [k]
  | [], k, v => by simp [mset]
  | p :: l, k, v => by
    unfold mset
    by_cases h : p.1 = k
    · rw [if_pos h, if_pos (by simp [h])]; simp [h]
    · rw [if_neg h, List.map_cons, mset_keys l k v]
      have : (k ∈ (p :: l).map (·.1)) ↔ k ∈ l.map (·.1) := by
        rw [List.map_cons, List.mem_cons]
        exact ⟨fun z => z.resolve_left (fun e => h e.symm), .inr⟩
      by_cases c : k ∈ l.map (·.1)
      · rw [if_pos c, if_pos (this.2 c)]; rfl
      · rw [if_neg c, if_neg (fun z => c (this.1 z))]; rfl
theorem wfI64 {i : Int} (h1 : -9223372036854775808 ≤ i) (h2 : i ≤ 9223372036854775807) : (Lit.int .i64 i).wf = true := by
  simp [Lit.wf, IntKind.min, IntKind.max, IntKind.signed, IntKind.bits]; omega
theorem nodup_few : ∀ (n : Nat) (l : List Int), l.Nodup → (∀ x ∈ l, 0 ≤ x ∧ x < n) → l.length ≤ n
  | 0, l, _, h => by
    cases l with
    | nil => simp
    | cons a l => have := h a List.mem_cons_self; omega
  | n + 1, l, hn, h => by
    have h1 := nodup_few n (l.erase (n : Int)) (hn.erase _) (fun x hx => by
      have hm := (List.Nodup.mem_erase_iff hn).1 hx
      have := h x hm.2
      have := hm.1
      omega)
    have h2 : l.length ≤ (l.erase (n : Int)).length + 1 := by
      rw [List.length_erase]; split <;> omega
    omega
theorem wrS_ok {t : tx_Tx} (h : TxOk t) (i x : Int) : tx_seen_Write.f t i x = some (wrS t i x) := by
  unfold tx_seen_Write.f wrS
  rw [has_ok, Option.bind_some]
  have hh : (hasS t i).1 = true → 0 ≤ i ∧ i < t.cells := by
    unfold hasS; split
    · intro z; cases z
    · intro _; omega
  have hk := h.has i
  cases hs : hasS t i with
  | mk c t1 =>
    rw [hs] at hh hk
    cases c with
    | false => simp
    | true =>
      obtain ⟨hc, o, ho, hn, ha⟩ := hk
      dsimp only at hc ho ha
      have hin := hh rfl
      have hlen : o.length ≤ 1024 := by
        have := nodup_few t1.cells.toNat (o.map (·.1)) hn (fun y hy => by
          obtain ⟨p, hp, rfl⟩ := List.mem_map.1 hy
          have := ha p hp; omega)
        rw [List.length_map] at this; omega
      have hw : (Lit.int .i64 i).wf = true := by
        have : t.cells ≤ 1024 := h.1.2
        exact wfI64 (by omega) (by omega)
      simp only [cond_true, ho, mputO, Option.bind_some, mput, hw, Bool.true_and, Option.map_some, if_true]
      rw [decide_eq_true (by omega : o.length < 4294967296)]
      simp [ho]
theorem TxOk.wr {t : tx_Tx} (h : TxOk t) (i x : Int) : TxOk (wrS t i x) := by
  unfold wrS
  have hk := h.has i
  by_cases c : (hasS t i).1 = true
  · rw [if_pos c]
    have hin : 0 ≤ i ∧ i < t.cells := by
      unfold hasS at c; split at c
      · cases c
      · omega
    obtain ⟨_, e2, _, _⟩ := hasS_out t i
    obtain ⟨hc, o, ho, hn, ha⟩ := hk
    refine ⟨hc, mset o i x, by simp [ho], ?_, fun p hp => ?_⟩
    · rw [mset_keys]; split
      · exact hn
      · rename_i hni
        exact List.nodup_append.2 ⟨hn, by simp, fun a ha' b hb => by simp at hb; subst hb; exact fun e => hni (e ▸ ha')⟩
    · rcases mset_mem o i x p hp with z | z
      · exact ha p z
      · rw [z]; dsimp only; rw [e2]; exact hin
  · rw [if_neg c]; exact hk
abbrev seenI : VI := ⟨tx_Tx, fun s i => (tx_seen_Read.f s i).getD (0, s), fun s i x => (tx_seen_Write.f s i x).getD s⟩
def TxP (b : Nat) (t : tx_Tx) : HProp := fun m => TxOk t ∧ TxR b t m
theorem TxP.open {w : World} {b : Nat} {t : tx_Tx} {H : List HProp} (h : Sat w (TxP b t :: H)) : TxOk t ∧ Sat w (TxR b t :: H) := by
  obtain ⟨m1, m2, d, s1, s2, ⟨hk, hx⟩, hr⟩ := h
  exact ⟨hk, m1, m2, d, s1, s2, hx, hr⟩
theorem TxP.close {w : World} {b : Nat} {t : tx_Tx} {H : List HProp} (hk : TxOk t) (h : Sat w (TxR b t :: H)) : Sat w (TxP b t :: H) := h.weaken fun _ q => ⟨hk, q⟩
set_option maxRecDepth 100000 in
set_option maxHeartbeats 4000000 in
noncomputable def seenV (b : Nat) : VW Try.prog :=
  { seenI with
    t := 111, v := .agg #[bp b 0], rep := fun s => TxP b s
    rF := 105, rV := .agg #[bp b 0], wF := 106, wV := .agg #[bp b 0]
    rM := by intro w; kernel_rfl
    wM := by intro w; kernel_rfl
    rN := by intro w; kernel_rfl
    wN := by intro w; kernel_rfl
    rC := Try.call105, wC := Try.call106
    rCt := fun s i => by
      intro w F _ hs
      obtain ⟨hk, hs1⟩ := TxP.open hs
      obtain ⟨vl, vo, hs2⟩ := TxR.open hs1
      have hr := rdS_ok s i
      refine (tx_seen_Read.ct b vl vo s i (rdS s i).1 (rdS s i).2 hr w F trivial hs2).mono ?_
      rintro e w' ⟨u, H', rfl, ⟨wl, wo, rfl, rfl⟩, hs3, hk3⟩
      refine ⟨_, _, rfl, ⟨?_, rfl⟩, ?_, hk3⟩
      · show Value.int .u64 (rdS s i).1 = .int .u64 ((tx_seen_Read.f s i).getD (0, s)).1
        rw [hr]; rfl
      · show Sat w' ([TxP b ((tx_seen_Read.f s i).getD (0, s)).2] ++ [F])
        rw [hr]
        exact TxP.close (by show TxOk (rdS s i).2; rw [rdS_2]; exact hk.has i) (TxR.close hs3)
    wCt := fun s i x => by
      intro w F _ hs
      obtain ⟨hk, hs1⟩ := TxP.open hs
      obtain ⟨vl, vo, hs2⟩ := TxR.open hs1
      have hr := wrS_ok hk i x
      refine (tx_seen_Write.ct b vl vo s i x (wrS s i x) hr w F trivial hs2).mono ?_
      rintro e w' ⟨u, H', rfl, ⟨wl, wo, rfl, rfl⟩, hs3, hk3⟩
      refine ⟨_, _, rfl, ⟨rfl, rfl⟩, ?_, hk3⟩
      show Sat w' ([TxP b ((tx_seen_Write.f s i x).getD s)] ++ [F])
      rw [hr]
      exact TxP.close (hk.wr i x) (TxR.close hs3) }
def tx_Tx_Run.f {α : Type} (m : VM α) (t : tx_Tx) : Option (Int × Bool × α × tx_Tx) :=
  bif decide (0 ≤ t.cells) && decide (t.cells ≤ 1024) then (VM.run seenI m { t with out := some [], lack := -1 }).bind fun p => some (if p.2.lack = -1 then 0 else p.2.lack, p.2.lack == -1, p.1, { p.2 with fine := p.2.lack == -1 }) else none
theorem Ct.packs {P : Program} {g : FuncId} {vals : List Value} {rd : HProp → Prop} {A B A' B' : List HProp} {u0 : Value} (h : Ct P g vals rd (B ++ A) (fun u H' => u = u0 ∧ H' = B' ++ A')) : Ct P g vals rd (stars B :: A) (fun u H' => u = u0 ∧ H' = stars B' :: A') := by
  intro w F hF hs
  have h1 : Sat w ((A ++ [F]) ++ [stars B]) := hs.perm (List.perm_append_comm (l₁ := [stars B]) (l₂ := A ++ [F]))
  have h2 : Sat w ((B ++ A) ++ [F]) := (Sat.unpack h1).perm (by
    rw [List.append_assoc B A [F]]; exact List.perm_append_comm)
  refine (h w F hF h2).mono ?_
  rintro e w' ⟨u, H', rfl, ⟨rfl, rfl⟩, hs3, hk⟩
  refine ⟨_, _, rfl, ⟨rfl, rfl⟩, ?_, hk⟩
  have h3 : Sat w' ((A' ++ [F]) ++ B') := hs3.perm (by rw [List.append_assoc B' A' [F]]; exact List.perm_append_comm)
  exact (Sat.pack h3).perm (List.perm_append_comm (l₁ := A' ++ [F]) (l₂ := [stars B']))
theorem SO.closeTx {P : Program} {n : Nat} {Z : Act → World → Prop} {w0 : Beg} {ops : Array Oper} {l : List Oper} {ρ : Env} {H : List HProp} {b : Nat} {c k : Int} {fi : Bool} {L : Option (List (Int × api_Cell))} {O : Option (List (Int × Int))} {vl vo : Value} (hk : TxOk ⟨c, L, O, k, fi⟩) (h : SO P n Z w0 ops l ρ (TxP b ⟨c, L, O, k, fi⟩ :: H)) :
    SO P n Z w0 ops l ρ (Box b [.int .i64 c, vl, vo, .int .i64 k, .bool fi] :: MapO (aggE ek_api_Cell) vl L :: MapO (Value.int .u64) vo O :: H) := h.sat fun _ s => TxP.close hk (TxR.close s)
theorem SO.openTx {P : Program} {n : Nat} {Z : Act → World → Prop} {w0 : Beg} {ops : Array Oper} {l : List Oper} {ρ : Env} {H : List HProp} {b : Nat} {t : tx_Tx} (h : ∀ vl vo, SO P n Z w0 ops l ρ (Box b [.int .i64 t.cells, vl, vo, .int .i64 t.lack, .bool t.fine] :: MapO (aggE ek_api_Cell) vl t.l :: MapO (Value.int .u64) vo t.out :: H)) :
    SO P n Z w0 ops l ρ (TxP b t :: H) := by
  intro a w h1 h2 h3 h4 h5
  obtain ⟨_, h4⟩ := TxP.open h4
  obtain ⟨vl, vo, h4⟩ := TxR.open h4
  exact h vl vo a w h1 h2 h3 h4 h5
theorem opv_neqFN {P : Program} {ρ : Env} {t t2 : TypeId} {x : Operand} {fn : Fn} {us cs : Array Value} {u : TypeDesc} (ht : P.underlying t = some u) (hu : (match u with | .func .. => true | _ => false) = true) (hx : ev ρ x = some (.func fn us cs)) : OpV P ρ (.binOp .neq t x (.const .nilFunc) t2) (.bool true) :=
  fun r w d t' p af g hr => by
    have h0 : r (.const .nilFunc) = .nilFunc := hr _ _ rfl
    have key : ∀ d, (Op.equalIn (d + 2) t (.func fn us cs) .nilFunc).run P w = .ok false w := fun d => by
      cases u <;> first | (simp at hu; done) | simp [Op.equalIn, run_underlying ht]
    simp [execOp, hr x _ hx, h0, eqGuard, binOp, eql_run w key]
set_option maxRecDepth 100000 in
set_option maxHeartbeats 8000000 in
theorem tx_Tx_Run.ct {α : Type} (m : VM α) (fc : FuncId) (caps : List Value) (rd : HProp → Prop) (A B : List HProp) (bp0 : Nat) (vl vo : Value) (t : tx_Tx) (r0 : Int) (r1 : Bool) (a : α) (rp : tx_Tx) (h : tx_Tx_Run.f m t = some (r0, r1, a, rp))
    (hcall : ∀ (us : Array Value) (w : World), (callFunc fc us).run Try.prog w = .ok (.enter fc us) w) (hmono : ∀ (l : List HProp) (F : HProp), rd F → rd (stars (l ++ [F])))
    (hf : ∀ s s', VM.run seenI m s = some (a, s') → Ct Try.prog fc ((seenV bp0).val :: caps) rd (A ++ [(seenV bp0).rep s]) (fun u H' => u = .tuple #[] ∧ H' = B ++ [(seenV bp0).rep s'])) :
    Ct Try.prog 40 [bp bp0 0, .func (.func fc) #[] caps.toArray] rd ([Box bp0 [.int .i64 t.cells, vl, vo, .int .i64 t.lack, .bool t.fine], MapO (aggE ek_api_Cell) vl t.l, MapO (Value.int .u64) vo t.out] ++ A)
      (fun u H' => ∃ wl wo, u = .tuple #[.int .i64 r0, .bool r1] ∧ H' = [Box bp0 [.int .i64 rp.cells, wl, wo, .int .i64 rp.lack, .bool rp.fine], MapO (aggE ek_api_Cell) wl rp.l, MapO (Value.int .u64) wo rp.out] ++ B) := by
  unfold tx_Tx_Run.f at h
  cases hc : (decide (0 ≤ t.cells) && decide (t.cells ≤ 1024)) with
  | false => rw [hc] at h; cases h
  | true =>
  rw [hc, cond_true] at h
  simp only [Bool.and_eq_true, decide_eq_true_eq] at hc
  obtain ⟨⟨a', t2⟩, hrun, h⟩ := opt_bind h
  injection h with h; injection h with e1 h; injection h with e2 h; injection h with e3 e4
  dsimp only at e1 e2 e3 e4
  subst e3
  have hf1 := Ct.packs (hf _ _ hrun)
  have hok : TxOk ⟨t.cells, t.l, some [], -1, t.fine⟩ := ⟨hc, [], rfl, .nil, fun p hp => by cases hp⟩
  have main : Ct Try.prog 40 [bp bp0 0, .func (.func fc) #[] caps.toArray] rd [Box bp0 [.int .i64 t.cells, vl, vo, .int .i64 t.lack, .bool t.fine], MapO (aggE ek_api_Cell) vl t.l, MapO (Value.int .u64) vo t.out, stars A]
      (fun u H' => ∃ wl wo, u = .tuple #[.int .i64 r0, .bool r1] ∧ H' = [Box bp0 [.int .i64 rp.cells, wl, wo, .int .i64 rp.lack, .bool rp.fine], MapO (aggE ek_api_Cell) wl rp.l, MapO (Value.int .u64) wo rp.out, stars B]) := by
    refine Ct.intro (n := 37) Try.func40 rfl rfl rfl ?_
    intro R w0 F hF hR
    repeat refine S.seq ?_
    refine S.region ?_
    refine SO.v rfl (opv_assign rfl) ?_
    refine SO.v rfl (opv_assign rfl) ?_
    refine SO.nil ?_
    repeat refine S.seq ?_
    refine S.region ?_
    refine SO.v rfl (opv_move rfl) ?_
    refine SO.v rfl (opv_move rfl) ?_
    refine SO.makeMapO (Value.int .u64) rfl (fun v1 => ?_)
    refine SO.oneM fun h1 => ?_
    refine SO.v rfl (opv_nilCheck rfl) ?_
    refine SO.v rfl (opv_fieldAddr Try.underlying97 rfl Try.sizeOf95 rfl rfl) ?_
    refine SO.b1 ?_
    refine SO.store1 Try.sizeOf95 rfl rfl h1 rfl ?_
    refine SO.v rfl (opv_nilCheck rfl) ?_
    refine SO.v rfl (opv_fieldAddr Try.underlying97 rfl Try.sizeOf3 rfl rfl) ?_
    refine SO.store1 Try.sizeOf3 rfl rfl rfl rfl ?_
    refine SO.nil ?_
    repeat refine S.seq ?_
    refine S.region ?_
    refine SO.v rfl (opv_move rfl) ?_
    refine SO.v rfl (opv_neqFN Try.underlying100 rfl rfl) ?_
    refine SO.nil ?_
    refine S.cond_true rfl ?_
    repeat refine S.seq ?_
    refine S.region ?_
    refine SO.v rfl (opv_move rfl) ?_
    refine SO.v rfl (opv_move rfl) ?_
    refine SO.v rfl (opv_build (v := .agg #[bp bp0 0]) rfl (by intro w; kernel_rfl)) ?_
    refine SO.v rfl (opv_iface Try.underlying111 rfl rfl) ?_
    refine SO.b3 ?_
    refine SO.drop ?_
    refine SO.b2 ?_
    refine SO.b1 ?_
    refine SO.closeTx hok ?_
    refine SO.b1 ?_
    refine SO.call (pre := [stars A, (seenV bp0).rep { cells := t.cells, l := t.l, out := some [], lack := -1, fine := t.fine }]) rfl hcall rfl rfl rfl hf1 (hmono [] F hF) ?_
    rintro _ _ ⟨rfl, rfl⟩
    refine SO.b1 ?_
    refine SO.openTx (b := bp0) (t := t2) fun wl wo => ?_
    refine SO.nil ?_
    repeat refine S.seq ?_
    refine S.region ?_
    refine SO.v rfl (opv_move rfl) ?_
    refine SO.v rfl (opv_move rfl) ?_
    refine SO.v rfl (opv_nilCheck rfl) ?_
    refine SO.v rfl (opv_fieldAddr Try.underlying97 rfl Try.sizeOf3 rfl rfl) ?_
    refine SO.load1 rfl Try.isAgg3 rfl rfl ?_
    refine SO.v rfl (opv_eql rfl rfl) ?_
    refine SO.v rfl (opv_nilCheck rfl) ?_
    refine SO.v rfl (opv_fieldAddr Try.underlying97 rfl Try.sizeOf4 rfl rfl) ?_
    refine SO.store1 Try.sizeOf4 rfl rfl rfl rfl ?_
    refine SO.nil ?_
    repeat refine S.seq ?_
    refine S.region ?_
    refine SO.v rfl (opv_move rfl) ?_
    refine SO.v rfl (opv_nilCheck rfl) ?_
    refine SO.v rfl (opv_fieldAddr Try.underlying97 rfl Try.sizeOf4 rfl rfl) ?_
    refine SO.load1 rfl Try.isAgg4 rfl rfl ?_
    refine SO.v rfl (opv_not rfl) ?_
    refine SO.nil ?_
    rcases bool_or (t2.lack == -1) with b1 | b1
    · have hl : t2.lack = -1 := by simpa using b1
      rw [if_pos hl] at e1
      refine S.condF rfl (by rw [b1]; rfl) ?_
      refine S.skip ?_
      repeat refine S.seq ?_
      refine S.region ?_
      refine SO.v rfl (opv_assign rfl) ?_
      refine SO.v rfl (opv_assign rfl) ?_
      refine SO.nil ?_
      rw [← e1, ← e2, ← e4, b1] at hR
      rw [b1]
      exact S.ret2 Try.func40 rfl rfl rfl (fun w hs hk => hR w _ _ ⟨wl, wo, rfl, rfl⟩ hs hk)
    · have hl : ¬ t2.lack = -1 := by simpa using b1
      rw [if_neg hl] at e1
      refine S.condT rfl (by rw [b1]; rfl) ?_
      repeat refine S.seq ?_
      refine S.region ?_
      refine SO.v rfl (opv_move rfl) ?_
      refine SO.v rfl (opv_nilCheck rfl) ?_
      refine SO.v rfl (opv_fieldAddr Try.underlying97 rfl Try.sizeOf3 rfl rfl) ?_
      refine SO.load1 rfl Try.isAgg3 rfl rfl ?_
      refine SO.v rfl (opv_assign rfl) ?_
      refine SO.v rfl (opv_assign rfl) ?_
      refine SO.nil ?_
      rw [← e1, ← e2, ← e4, b1] at hR
      rw [b1]
      exact S.ret2 Try.func40 rfl rfl rfl (fun w hs hk => hR w _ _ ⟨wl, wo, rfl, rfl⟩ hs hk)
  intro w F hF hs
  have h1 : Sat w (([Box bp0 [.int .i64 t.cells, vl, vo, .int .i64 t.lack, .bool t.fine], MapO (aggE ek_api_Cell) vl t.l, MapO (Value.int .u64) vo t.out] ++ [F]) ++ A) := hs.perm (by
    rw [List.append_assoc, List.append_assoc]; exact List.Perm.append_left _ List.perm_append_comm)
  have h2 := (Sat.pack h1).perm (l' := [Box bp0 [.int .i64 t.cells, vl, vo, .int .i64 t.lack, .bool t.fine], MapO (aggE ek_api_Cell) vl t.l, MapO (Value.int .u64) vo t.out, stars A] ++ [F]) (List.Perm.append_left [_, _, _] (.swap _ _ _))
  refine (main w F hF h2).mono ?_
  rintro e w' ⟨u, H', rfl, ⟨wl, wo, rfl, rfl⟩, hs3, hk⟩
  refine ⟨_, _, rfl, ⟨wl, wo, rfl, rfl⟩, ?_, hk⟩
  have h4 : Sat w' (([Box bp0 [.int .i64 rp.cells, wl, wo, .int .i64 rp.lack, .bool rp.fine], MapO (aggE ek_api_Cell) wl rp.l, MapO (Value.int .u64) wo rp.out] ++ [F]) ++ [stars B]) := hs3.perm (List.Perm.append_left [_, _, _] (.swap _ _ _))
  refine (Sat.unpack h4).perm ?_
  rw [List.append_assoc, List.append_assoc]; exact List.Perm.append_left _ List.perm_append_comm

end Go.Proofs
set_option linter.unusedVariables false
namespace Go.Proofs
open Go.Sl Go.RowKit

/-! 10 (*padstone/stm.Machine).Step -/
def stm_Step_take.f (sa : word_Store) : Option (tx_Tx) :=
  (word_Store_Len.f sa).bind fun t11 => (tx_New.f t11).bind fun t13 => some t13
set_option maxHeartbeats 8000000 in
set_option maxRecDepth 100000 in
theorem stm_Step_take.ct (zb : List Nat) (bpm bps : Nat) (vl va vg vs : Value) (sa : word_Store) (dl : List desc_Desc) (el gl : List stm_Entry) (hle : zb.length = el.length) (ws : List Nat) (id : Int) (bw : Nat) (hbw : at_ ws id = some bw) (hin : stm_Machine_in.f ws id = some true) (tv dv tl : Value) (told : List Int) (JR : Value → HProp) (ff : FuncId) (fcs : List Value) (FR : HProp) (hcf : ∀ (us : Array Value) (w : World), (callFunc ff us).run Try.prog w = .ok (.enter ff us) w) (hct : ∀ (v : Value) (t : List Int), slices_Clone_int_int.f told = some t → Ct Try.prog ff (v :: fcs) (fun F => Rd (ekI .i64) v t F) [FR] (fun u H' => H' = [IsJob JR u, FR])) (hn : stm_next_n.f told = some ()) (rx : tx_Tx) (h : stm_Step_take.f sa = some rx) :
    Ct Try.prog 10 [bp bpm 0, .int .i64 id] (fun _ => True) [Box bpm [bp bps 0, vl, va, vg], Own 68 ekP vl ws, Own 105 ekMd va (zb.zip el), ZipR rep_desc_Desc zb dl, Own 44 ek_stm_Entry vg gl, Box bps [vs, .int .u32 sa.limit], Own 88 ek_api_Cell vs sa.l, Box bw [.func (.func ff) #[] fcs.toArray, .nilFunc, tv, dv, tl], Own 3 (ekI .i64) tl told, FR] (fun u H' => ∃ (jf : FuncId) (jcs : List Value) (wt : Value), u = .bool true ∧ H' = [Box bpm [bp bps 0, vl, va, vg], Own 68 ekP vl ws, Own 105 ekMd va (zb.zip el), ZipR rep_desc_Desc zb dl, Own 44 ek_stm_Entry vg gl, Box bps [vs, .int .u32 sa.limit], Own 88 ek_api_Cell vs sa.l, Box bw [.func (.func ff) #[] fcs.toArray, .func (.func jf) #[] jcs.toArray, wt, dv, tl], Own 3 (ekI .i64) tl told, TxO wt (some rx), JR (.func (.func jf) #[] jcs.toArray), FR]) := by
  unfold stm_Step_take.f at h
  refine Ct.intro (n := 68) Try.func10 rfl rfl rfl ?_
  intro R w0 F hF hR
  refine S.b1 ?_
  refine S.rd fun hr1 => ?_
  refine S.b2 ?_
  refine S.rd fun hr2 => ?_
  refine S.b4 ?_
  refine S.rd fun hr3 => ?_
  refine S.b6 ?_
  refine S.rd fun hr4 => ?_
  refine S.b8 ?_
  refine S.rd fun hr5 => ?_
  refine S.seq ?_
  refine S.region ?_
  refine SO.v rfl (opv_assign rfl) ?_
  refine SO.nil ?_
  refine S.seq ?_
  refine S.seq ?_
  refine S.region ?_
  refine SO.v rfl (opv_move rfl) ?_
  refine SO.v rfl (opv_move rfl) ?_
  refine SO.b4 ?_
  refine SO.b5 ?_
  refine SO.call (pre := [Box _ _, Own _ _ _ _]) rfl Try.call23 rfl rfl rfl (stm_Machine_in.ct bpm bps vl va vg ws id _ hin) trivial ?_
  rintro _ _ ⟨rfl, rfl⟩
  refine SO.v rfl (opv_not rfl) ?_
  refine SO.nil ?_
  refine S.cond_false rfl ?_
  refine S.skip ?_
  refine S.seq ?_
  refine S.region ?_
  refine SO.v rfl (opv_move rfl) ?_
  refine SO.v rfl (opv_nilCheck rfl) ?_
  refine SO.v rfl (opv_fieldAddr Try.underlying67 rfl Try.sizeOf64 rfl rfl) ?_
  refine SO.load1 rfl Try.isAgg64 rfl rfl ?_
  refine SO.v rfl (opv_move rfl) ?_
  refine SO.v rfl (opv_idx Try.underlying64 Try.sizeOf68 hr1 rfl rfl hbw) ?_
  refine SO.loadI1 (j := 0) rfl Try.isAgg68 (Rd.tail (Rd.head hr1)) hbw rfl rfl rfl rfl ?_
  refine SO.v rfl (opv_assign rfl) ?_
  refine SO.nil ?_
  refine S.to (ρ' := [(0, bp bpm 0), (1, .int .i64 id), (4, .bool false), (5, bp bw 0)]) ⟨rfl, rfl, rfl, rfl, trivial⟩ ?_
  refine S.seq ?_
  refine S.region ?_
  refine SO.v rfl (opv_move rfl) ?_
  refine SO.b9 ?_
  refine SO.b3 ?_
  refine SO.b9 ?_
  refine SO.call (pre := [Box _ _, Own _ _ _ _, FR]) rfl Try.call24 rfl rfl rfl (stm_next_n.ct bw tv dv tl told ff fcs FR (IsJob JR) hcf hct hn) trivial ?_
  rintro u6 _ rfl
  refine SO.b2 ?_
  refine SO.openJob fun jf9 jcs10 hu7 => ?_
  subst hu7
  refine SO.b2 ?_
  refine SO.rd fun hr8 => ?_
  refine SO.v rfl (opv_assign rfl) ?_
  refine SO.nil ?_
  refine S.seq ?_
  refine S.block ?_
  refine S.seq ?_
  refine S.region ?_
  refine SO.v rfl (opv_move rfl) ?_
  refine SO.v rfl (opv_eqlFV Try.underlying69 rfl rfl) ?_
  refine SO.v rfl (opv_assign rfl) ?_
  refine SO.nil ?_
  refine S.cond_false rfl ?_
  refine S.seq ?_
  refine S.region ?_
  refine SO.v rfl (opv_move rfl) ?_
  refine SO.v rfl (opv_nilCheck rfl) ?_
  refine SO.v rfl (opv_fieldAddr Try.underlying73 rfl Try.sizeOf69 rfl rfl) ?_
  refine SO.b2 ?_
  refine SO.load1 rfl Try.isAgg69 rfl rfl ?_
  refine SO.v rfl (opv_eqlFF Try.underlying69 rfl rfl) ?_
  refine SO.v rfl (opv_assign rfl) ?_
  refine SO.nil ?_
  refine S.to (ρ' := [(0, bp bpm 0), (1, .int .i64 id), (4, .bool false), (5, bp bw 0), (6, .func (.func jf9) #[] jcs10.toArray), (30, .bool true)]) ⟨rfl, rfl, rfl, rfl, rfl, rfl, trivial⟩ ?_
  refine S.cond_true rfl ?_
  refine S.region ?_
  refine SO.v rfl (opv_move rfl) ?_
  refine SO.v rfl (opv_move rfl) ?_
  refine SO.v rfl (opv_move rfl) ?_
  refine SO.v rfl (opv_move rfl) ?_
  refine SO.v rfl (opv_nilCheck rfl) ?_
  refine SO.v rfl (opv_fieldAddr Try.underlying67 rfl Try.sizeOf27 rfl rfl) ?_
  refine SO.b4 ?_
  refine SO.load1 rfl Try.isAgg27 rfl rfl ?_
  obtain ⟨t11, ht12, h⟩ := opt_bind h
  refine SO.b6 ?_
  refine SO.b10 ?_
  refine SO.call (pre := [Box _ _, Own _ _ _ _]) rfl Try.call26 rfl rfl rfl (word_Store_Len.ct bps vs _ _ ht12) trivial ?_
  rintro _ _ ⟨rfl, rfl⟩
  obtain ⟨t13, ht14, h⟩ := opt_bind h
  refine SO.call (pre := []) rfl Try.call25 rfl rfl rfl (tx_New.ct _ _ ht14) trivial ?_
  rintro _ _ ⟨b15, u16_l, u16_out, rfl, rfl⟩
  refine SO.v rfl (opv_nilCheck rfl) ?_
  refine SO.v rfl (opv_fieldAddr Try.underlying73 rfl Try.sizeOf69 rfl rfl) ?_
  refine SO.b6 ?_
  refine SO.store1 Try.sizeOf69 rfl rfl rfl rfl ?_
  refine SO.v rfl (opv_nilCheck rfl) ?_
  refine SO.v rfl (opv_fieldAddr Try.underlying73 rfl Try.sizeOf70 rfl rfl) ?_
  refine SO.store1 Try.sizeOf70 rfl rfl rfl rfl ?_
  refine SO.nil ?_
  refine S.to (ρ' := [(4, .bool false)]) ⟨rfl, trivial⟩ ?_
  refine S.inBlock ?_
  refine S.seq ?_
  refine S.region ?_
  refine SO.v rfl (opv_assign rfl) ?_
  refine SO.nil ?_
  cases h
  refine S.b3 ?_
  refine S.b3 ?_
  refine S.b3 ?_
  refine S.txSome ?_
  refine S.b12 ?_
  refine S.b8 ?_
  refine S.b8 ?_
  refine S.b3 ?_
  refine S.b8 ?_
  refine S.b5 ?_
  refine S.b7 ?_
  refine S.b7 ?_
  refine S.b10 ?_
  refine S.b12 ?_
  refine S.b12 ?_
  refine S.b12 ?_
  refine S.b12 ?_
  exact S.ret1 Try.func10 rfl rfl (fun w hs hk => hR w _ _ ⟨jf9, jcs10, (bp b15 0), rfl, rfl⟩ hs hk)
end Go.Proofs
set_option linter.unusedVariables false
namespace Go.Proofs
open Go.Sl Go.RowKit

/-! 39 padstone/stm.List$1 -/
variable {α : Type}
def stm_List1.f (told : List Int) (js : List α) : Option (Option α) :=
  bif decide ((js.length : Int) ≤ (told.length : Int)) then (some none) else ((at_ js (told.length : Int)).bind fun x3 => some (some x3))
set_option maxHeartbeats 8000000 in
set_option maxRecDepth 100000 in
theorem stm_List1.ct (jv : α → Value) (hjv : ∀ a, (jv a).oneCell' = true) (vt vj : Value) (b : Nat) (told : List Int) (js : List α) (r0 : Option α) (h : stm_List1.f told js = some r0) :
    Ct Try.prog 39 [vt, bp b 0] (fun F => Rd (ekI .i64) vt told F) [Box b [vj], Own 69 (ekV jv hjv) vj js] (fun u H' => u = Option.elim r0 .nilFunc jv ∧ H' = [Box b [vj], Own 69 (ekV jv hjv) vj js]) := by
  unfold stm_List1.f at h
  refine Ct.intro (n := 14) Try.func39 rfl rfl rfl ?_
  intro R w0 F hF hR
  refine S.b1 ?_
  refine S.rd fun hr1 => ?_
  refine S.seq ?_
  refine S.region ?_
  refine SO.v rfl (opv_assign rfl) ?_
  refine SO.nil ?_
  refine S.seq ?_
  refine S.seq ?_
  refine S.region ?_
  refine SO.v rfl (opv_move rfl) ?_
  refine SO.v rfl (opv_lenR rfl Try.underlying24 hF rfl) ?_
  refine SO.b1 ?_
  refine SO.load1 rfl Try.isAgg59 rfl rfl ?_
  refine SO.v rfl (opv_lenR rfl Try.underlying59 hr1 rfl) ?_
  refine SO.v rfl (opv_geq rfl rfl) ?_
  refine SO.nil ?_
  rcases bool_or (decide ((js.length : Int) ≤ (told.length : Int))) with b2 | b2
  · replace h := cond_t b2 h
    refine S.condT rfl b2 ?_
    refine S.seq ?_
    refine S.region ?_
    refine SO.v rfl (opv_assign rfl) ?_
    refine SO.nil ?_
    refine S.to (ρ' := [(3, .nilFunc)]) ⟨rfl, trivial⟩ ?_
    cases h
    refine S.b2 ?_
    refine S.b2 ?_
    refine S.b2 ?_
    exact S.ret1 Try.func39 rfl rfl (fun w hs hk => hR w _ _ ⟨rfl, rfl⟩ hs hk)
  replace h := cond_f b2 h
  refine S.condF rfl b2 ?_
  refine S.skip ?_
  refine S.seq ?_
  refine S.region ?_
  refine SO.load1 rfl Try.isAgg59 rfl rfl ?_
  refine SO.v rfl (opv_move rfl) ?_
  refine SO.v rfl (opv_lenR rfl Try.underlying24 hF rfl) ?_
  obtain ⟨x3, hx4, h⟩ := opt_bind h
  refine SO.v rfl (opv_idx Try.underlying59 Try.sizeOf69 hr1 rfl rfl hx4) ?_
  refine SO.loadI1 (j := 0) rfl Try.isAgg69 (Rd.tail (Rd.head hr1)) hx4 rfl rfl rfl rfl ?_
  refine SO.v rfl (opv_assign rfl) ?_
  refine SO.nil ?_
  refine S.to (ρ' := [(3, jv x3)]) ⟨rfl, trivial⟩ ?_
  cases h
  refine S.b2 ?_
  refine S.b2 ?_
  refine S.b2 ?_
  exact S.ret1 Try.func39 rfl rfl (fun w hs hk => hR w _ _ ⟨rfl, rfl⟩ hs hk)
end Go.Proofs
namespace Go.Proofs
open Go.Sl Go.RowKit
/-! 17 padstone/padstonelaw08.marks -/
def law08_marks.l1 (a0 : word_Store) : Nat → (Int × Int) → Option (Int)
  | 0, _ => none
  | k + 1, (x4_1, x3_1) => (word_Store_Len.f a0).bind fun t2 => bif decide (x4_1 < t2) then ((word_Store_Read.f a0 x4_1).bind fun (t5, t6) => bif t5.Mark != 0 then (law08_marks.l1 a0 k (w64 (x4_1 + 1), w64 (x3_1 + 1))) else (law08_marks.l1 a0 k (w64 (x4_1 + 1), x3_1))) else (some x3_1)
def law08_marks.f (k : Nat) (a0 : word_Store) : Option (Int) :=
  (law08_marks.l1 a0 k (0, 0)).bind fun j3_e1 => some j3_e1
set_option maxHeartbeats 8000000 in
set_option maxRecDepth 100000 in
theorem law08_marks.ct (k : Nat) (bp0 : Nat) (v0_l : Value) (a0 : word_Store) (r0 : Int) (h : law08_marks.f k a0 = some r0) :
    Ct Try.prog 17 [bp bp0 0] (fun _ => True) [Box bp0 [v0_l, .int .u32 a0.limit], Own 88 ek_api_Cell v0_l a0.l] (fun u H' => u = .int .i64 r0 ∧ H' = [Box bp0 [v0_l, .int .u32 a0.limit], Own 88 ek_api_Cell v0_l a0.l]) := by
  unfold law08_marks.f at h
  refine Ct.intro (n := 25) Try.func17 rfl rfl rfl ?_
  intro R w0 F hF hR
  refine S.b1 ?_
  refine S.rd fun hr1 => ?_
  refine S.seq ?_
  refine S.region ?_
  refine SO.v rfl (opv_assign rfl) ?_
  refine SO.nil ?_
  refine S.seq ?_
  refine S.region ?_
  refine SO.v rfl (opv_assign rfl) ?_
  refine SO.nil ?_
  refine S.seq ?_
  refine S.seq ?_
  refine S.region ?_
  refine SO.v rfl (opv_assign rfl) ?_
  refine SO.nil ?_
  obtain ⟨j3_e1, hlp1, h⟩ := opt_bind h
  refine S.b2 ?_
  refine S.b2 ?_
  refine S.b2 ?_
  refine S.to (ρ' := [(4, .int .i64 0), (3, .int .i64 0), (2, .int .i64 0), (0, bp bp0 0)]) ⟨rfl, rfl, rfl, rfl, trivial⟩ ?_
  refine S.forloop (X := (Int × Int) × Unit) (O := Int) (fun m x => law08_marks.l1 a0 m x.1) (fun x => match x with | ((x4_1, x3_1), _) => [(4, .int .i64 x4_1), (3, .int .i64 x3_1), (2, .int .i64 0), (0, bp bp0 0)]) (fun x => match x with | ((x4_1, x3_1), _) => [Own 88 ek_api_Cell v0_l a0.l, Box bp0 [v0_l, .int .u32 a0.limit], F]) (fun Sk => (fun j3_e1 => ∀ _ : Unit, Sk [(2, .int .i64 0), (3, .int .i64 j3_e1)] [Own 88 ek_api_Cell v0_l a0.l, Box bp0 [v0_l, .int .u32 a0.limit], F])) (fun _ => rfl) ?_ (m := k) (x := ((0, 0), ())) hlp1 ?_
  · clear h hlp1
    intro k x o_1 h hK1 ih1
    obtain ⟨⟨x4_1, x3_1⟩, _⟩ := x
    replace h : law08_marks.l1 a0 (k + 1) (x4_1, x3_1) = some o_1 := h
    first | rw [law08_marks.l1] at h | unfold law08_marks.l1 at h
    refine S.seq ?_
    refine S.seq ?_
    refine S.region ?_
    refine SO.v rfl (opv_move rfl) ?_
    refine SO.v rfl (opv_move rfl) ?_
    obtain ⟨t2, ht3, h⟩ := opt_bind h
    refine SO.b1 ?_
    refine SO.call (pre := [Box _ _, Own _ _ _ _]) rfl Try.call26 rfl rfl rfl (word_Store_Len.ct bp0 v0_l _ _ ht3) trivial ?_
    rintro _ _ ⟨rfl, rfl⟩
    refine SO.v rfl (opv_lss rfl rfl) ?_
    refine SO.nil ?_
    rcases bool_or (decide (x4_1 < t2)) with b4 | b4
    · replace h := cond_t b4 h
      refine S.condT rfl b4 ?_
      refine S.skip ?_
      refine S.seq ?_
      refine S.block ?_
      refine S.seq ?_
      refine S.region ?_
      refine SO.v rfl (opv_move rfl) ?_
      refine SO.v rfl (opv_move rfl) ?_
      obtain ⟨⟨t5, t6⟩, ht7, h⟩ := opt_bind h
      refine SO.b1 ?_
      refine SO.b1 ?_
      refine SO.call (pre := [Box _ _, Own _ _ _ _]) rfl Try.call35 rfl rfl rfl (word_Store_Read.ct bp0 v0_l _ _ _ _ ht7) trivial ?_
      rintro _ _ ⟨rfl, rfl⟩
      refine SO.v rfl (opv_move rfl) ?_
      refine SO.v rfl (opv_extract rfl rfl) ?_
      refine SO.v rfl (opv_extract rfl rfl) ?_
      refine SO.alloc rfl Try.zeroValue88 rfl (fun b8 => ?_)
      refine SO.storeN Try.sizeOf88 rfl rfl rfl rfl rfl rfl ?_
      refine SO.v rfl (opv_assign rfl) ?_
      refine SO.nil ?_
      refine S.to (ρ' := [(4, .int .i64 x4_1), (3, .int .i64 x3_1), (2, .int .i64 0), (0, bp bp0 0), (5, bp b8 0)]) ⟨rfl, rfl, rfl, rfl, rfl, trivial⟩ ?_
      refine S.seq ?_
      refine S.region ?_
      refine SO.v rfl (opv_fieldAddr Try.underlying88 rfl Try.sizeOf3 rfl rfl) ?_
      refine SO.load1 rfl Try.isAgg3 rfl rfl ?_
      refine SO.v rfl (opv_neq rfl rfl) ?_
      refine SO.nil ?_
      rcases bool_or (t5.Mark != 0) with b9 | b9
      · replace h := cond_t b9 h
        refine S.condT rfl b9 ?_
        refine S.region ?_
        refine SO.v rfl (opv_move rfl) ?_
        refine SO.v rfl (opv_add rfl rfl) ?_
        refine SO.v rfl (opv_assign rfl) ?_
        refine SO.nil ?_
        refine S.inBlock ?_
        refine S.region ?_
        refine SO.v rfl (opv_move rfl) ?_
        refine SO.v rfl (opv_add rfl rfl) ?_
        refine SO.v rfl (opv_assign rfl) ?_
        refine SO.nil ?_
        refine S.to (ρ' := [(4, .int .i64 (w64 (x4_1 + 1))), (3, .int .i64 (w64 (x3_1 + 1))), (2, .int .i64 0), (0, bp bp0 0)]) ⟨rfl, rfl, rfl, rfl, trivial⟩ ?_
        refine S.drop ?_
        refine S.b2 ?_
        refine S.b1 ?_
        refine S.b2 ?_
        refine S.to ?_ (ih1 ((w64 (x4_1 + 1), w64 (x3_1 + 1)), ()) h)
        exact ⟨rfl, rfl, rfl, rfl, trivial⟩
      replace h := cond_f b9 h
      refine S.condF rfl b9 ?_
      refine S.skip ?_
      refine S.inBlock ?_
      refine S.region ?_
      refine SO.v rfl (opv_move rfl) ?_
      refine SO.v rfl (opv_add rfl rfl) ?_
      refine SO.v rfl (opv_assign rfl) ?_
      refine SO.nil ?_
      refine S.drop ?_
      refine S.b2 ?_
      refine S.b1 ?_
      refine S.b2 ?_
      refine S.to ?_ (ih1 ((w64 (x4_1 + 1), x3_1), ()) h)
      exact ⟨rfl, rfl, rfl, rfl, trivial⟩
    replace h := cond_f b4 h
    refine S.condF rfl b4 ?_
    refine S.exit rfl ?_
    cases h
    refine S.b2 ?_
    refine S.b1 ?_
    refine S.b2 ?_
    refine S.to ?_ (hK1 ())
    exact ⟨rfl, rfl, trivial⟩
  rintro _
  refine S.seq ?_
  refine S.region ?_
  refine SO.v rfl (opv_move rfl) ?_
  refine SO.v rfl (opv_assign rfl) ?_
  refine SO.nil ?_
  cases h
  refine S.b2 ?_
  refine S.b1 ?_
  refine S.b2 ?_
  exact S.ret1 Try.func17 rfl rfl (fun w hs hk => hR w _ _ ⟨rfl, rfl⟩ hs hk)
end Go.Proofs
namespace Go.Proofs
open Go.Sl Go.RowKit
/-! 34 (padstone/view.Plain).has -/
def view_Plain_has.f (a0 : List Int) (a1 : Int) : Option (Bool) :=
  some ((decide (0 ≤ a1)) && (decide (a1 < (a0.length : Int))))
set_option maxHeartbeats 8000000 in
set_option maxRecDepth 100000 in
theorem view_Plain_has.ct (v0 : Value) (a0 : List Int) (a1 : Int) (r0 : Bool) (h : view_Plain_has.f a0 a1 = some r0) :
    Ct Try.prog 34 [v0, .int .i64 a1] (fun F => Rd (ekI .u64) v0 a0 F) [] (fun u H' => u = .bool r0 ∧ H' = []) := by
  unfold view_Plain_has.f at h
  refine Ct.intro (n := 13) Try.func34 rfl rfl rfl ?_
  intro R w0 F hF hR
  have hF0 := hF
  refine S.seq ?_
  refine S.region ?_
  refine SO.v rfl (opv_assign rfl) ?_
  refine SO.nil ?_
  refine S.seq ?_
  refine S.region ?_
  refine SO.v rfl (opv_move rfl) ?_
  refine SO.v rfl (opv_geq rfl rfl) ?_
  refine SO.v rfl (opv_move rfl) ?_
  refine SO.cut 5 12 (.bool ((decide (0 ≤ a1)) && (decide (a1 < (a0.length : Int))))) [F] (fun l2 hk2 => ?_) ?_
  · rcases bool_or (decide (0 ≤ a1)) with b1 | b1
    · refine SO.takeT rfl rfl rfl b1 ?_
      refine SO.v rfl (opv_move rfl) ?_
      refine SO.takeT rfl rfl rfl b1 ?_
      refine SO.v rfl (opv_move rfl) ?_
      refine SO.takeT rfl rfl rfl b1 ?_
      refine SO.v rfl (opv_lenR rfl Try.underlying40 hF0 rfl) ?_
      refine SO.takeT rfl rfl rfl b1 ?_
      refine SO.v rfl (opv_lss rfl rfl) ?_
      refine SO.v rfl (opv_pick_t' b1 rfl rfl) ?_
      exact hk2.fitc (m := 5) rfl (and_t b1) rfl
    refine SO.passF rfl rfl rfl b1 rfl rfl ?_
    refine SO.passF rfl rfl rfl b1 rfl rfl ?_
    refine SO.passF rfl rfl rfl b1 rfl rfl ?_
    refine SO.passF rfl rfl rfl b1 rfl rfl ?_
    refine SO.v rfl (opv_pick_f' b1 rfl rfl) ?_
    exact hk2.fitc (m := 5) rfl (and_f b1) rfl
  refine SO.v rfl (opv_assign rfl) ?_
  refine SO.nil ?_
  cases h
  exact S.ret1 Try.func34 rfl rfl (fun w hs hk => hR w _ _ ⟨rfl, rfl⟩ hs hk)
end Go.Proofs
namespace Go.Proofs
open Go.Sl Go.RowKit
/-! 16 (padstone/view.Plain).Read -/
def view_Plain_Read.f (a0 : List Int) (a1 : Int) : Option (Int) :=
  (view_Plain_has.f a0 a1).bind fun t1 => bif !t1 then (some 0) else ((at_ a0 a1).bind fun x4 => some x4)
set_option maxHeartbeats 8000000 in
set_option maxRecDepth 100000 in
theorem view_Plain_Read.ct (v0 : Value) (a0 : List Int) (a1 : Int) (r0 : Int) (h : view_Plain_Read.f a0 a1 = some r0) :
    Ct Try.prog 16 [v0, .int .i64 a1] (fun F => Rd (ekI .u64) v0 a0 F) [] (fun u H' => u = .int .u64 r0 ∧ H' = []) := by
  unfold view_Plain_Read.f at h
  refine Ct.intro (n := 13) Try.func16 rfl rfl rfl ?_
  intro R w0 F hF hR
  have hF0 := hF
  refine S.seq ?_
  refine S.region ?_
  refine SO.v rfl (opv_assign rfl) ?_
  refine SO.nil ?_
  refine S.seq ?_
  refine S.seq ?_
  refine S.region ?_
  refine SO.v rfl (opv_move rfl) ?_
  refine SO.v rfl (opv_move rfl) ?_
  obtain ⟨t1, ht2, h⟩ := opt_bind h
  refine SO.call (pre := []) rfl Try.call34 rfl rfl rfl (view_Plain_has.ct v0 _ _ _ ht2) (Rd.head hF0) ?_
  rintro _ _ ⟨rfl, rfl⟩
  refine SO.v rfl (opv_not rfl) ?_
  refine SO.nil ?_
  rcases bool_or (!t1) with b3 | b3
  · replace h := cond_t b3 h
    refine S.condT rfl b3 ?_
    refine S.seq ?_
    refine S.region ?_
    refine SO.v rfl (opv_assign rfl) ?_
    refine SO.nil ?_
    cases h
    exact S.ret1 Try.func16 rfl rfl (fun w hs hk => hR w _ _ ⟨rfl, rfl⟩ hs hk)
  replace h := cond_f b3 h
  refine S.condF rfl b3 ?_
  refine S.skip ?_
  refine S.seq ?_
  refine S.region ?_
  refine SO.v rfl (opv_move rfl) ?_
  refine SO.v rfl (opv_move rfl) ?_
  obtain ⟨x4, hx5, h⟩ := opt_bind h
  refine SO.v rfl (opv_idx Try.underlying40 Try.sizeOf46 hF0 rfl rfl hx5) ?_
  refine SO.loadI1 (j := 0) rfl Try.isAgg46 (Rd.head hF0) hx5 rfl rfl rfl rfl ?_
  refine SO.v rfl (opv_assign rfl) ?_
  refine SO.nil ?_
  refine S.to (ρ' := [(4, .int .u64 x4)]) ⟨rfl, trivial⟩ ?_
  cases h
  exact S.ret1 Try.func16 rfl rfl (fun w hs hk => hR w _ _ ⟨rfl, rfl⟩ hs hk)
end Go.Proofs
namespace Go.Proofs
open Go.Sl Go.RowKit
/-! 102 (padstone/view.Plain).Write -/
def view_Plain_Write.f (a0 : List Int) (a1 : Int) (a2 : Int) : Option ((List Int)) :=
  (view_Plain_has.f a0 a1).bind fun t2 => bif t2 then ((at_ a0 a1).bind fun x5 => some (a0.set a1.toNat a2)) else (some a0)
set_option maxHeartbeats 8000000 in
set_option maxRecDepth 100000 in
theorem view_Plain_Write.ct (v0 : Value) (a0 : List Int) (a1 : Int) (a2 : Int) (q0 : List Int) (h : view_Plain_Write.f a0 a1 a2 = some q0) :
    Ct Try.prog 102 [v0, .int .i64 a1, .int .u64 a2] (fun _ => True) [Own 46 (ekI .u64) v0 a0] (fun u H' => u = .tuple #[] ∧ H' = [Own 46 (ekI .u64) v0 q0]) := by
  unfold view_Plain_Write.f at h
  refine Ct.intro (n := 13) Try.func102 rfl rfl rfl ?_
  intro R w0 F hF hR
  refine S.rd fun hr1 => ?_
  refine S.seq ?_
  refine S.region ?_
  refine SO.v rfl (opv_move rfl) ?_
  refine SO.v rfl (opv_move rfl) ?_
  obtain ⟨t2, ht3, h⟩ := opt_bind h
  refine SO.call (pre := []) rfl Try.call34 rfl rfl rfl (view_Plain_has.ct v0 _ _ _ ht3) (Rd.head hr1) ?_
  rintro _ _ ⟨rfl, rfl⟩
  refine SO.nil ?_
  rcases bool_or t2 with b4 | b4
  · replace h := cond_t b4 h
    refine S.condT rfl b4 ?_
    refine S.region ?_
    refine SO.v rfl (opv_move rfl) ?_
    refine SO.v rfl (opv_move rfl) ?_
    refine SO.v rfl (opv_move rfl) ?_
    obtain ⟨x5, hx6, h⟩ := opt_bind h
    refine SO.v rfl (opv_idx Try.underlying40 Try.sizeOf46 hr1 rfl rfl hx6) ?_
    refine SO.storeI1 (j := 0) (z' := a2) Try.sizeOf46 hx6 rfl rfl rfl rfl rfl rfl ?_
    refine SO.rd fun hr7 => ?_
    refine SO.nil ?_
    refine S.to (ρ' := []) trivial ?_
    cases h
    refine S.b1 ?_
    refine S.b1 ?_
    exact S.fin0 Try.func102 rfl (fun w hs hk => hR w _ _ ⟨rfl, rfl⟩ hs hk)
  replace h := cond_f b4 h
  refine S.condF rfl b4 ?_
  refine S.skip ?_
  cases h
  refine S.b1 ?_
  refine S.b1 ?_
  exact S.fin0 Try.func102 rfl (fun w hs hk => hR w _ _ ⟨rfl, rfl⟩ hs hk)
end Go.Proofs
namespace Go.Proofs
open Go.Sl Go.RowKit
/-! A list of one's own, as a view. -/
theorem read_ok (s : List Int) (i : Int) : ∃ r, view_Plain_Read.f s i = some r := by
  cases h : view_Plain_Read.f s i with
  | some r => exact ⟨r, rfl⟩
  | none =>
    exfalso
    revert h
    unfold view_Plain_Read.f view_Plain_has.f
    by_cases h1 : 0 ≤ i ∧ i < (s.length : Int)
    · have : s[i.toNat]? = some s[i.toNat] := List.getElem?_eq_getElem (by omega)
      simp [h1, at_, this]
    · have : (decide (0 ≤ i) && decide (i < (s.length : Int))) = false := by simpa using h1
      simp [this]
theorem write_ok (s : List Int) (i x : Int) : ∃ r, view_Plain_Write.f s i x = some r := by
  cases h : view_Plain_Write.f s i x with
  | some r => exact ⟨r, rfl⟩
  | none =>
    exfalso
    revert h
    unfold view_Plain_Write.f view_Plain_has.f
    by_cases h1 : 0 ≤ i ∧ i < (s.length : Int)
    · have : s[i.toNat]? = some s[i.toNat] := List.getElem?_eq_getElem (by omega)
      simp [h1, at_, this]
    · have : (decide (0 ≤ i) && decide (i < (s.length : Int))) = false := by simpa using h1
      simp [this]
abbrev plainI : VI := ⟨List Int, fun s i => ((view_Plain_Read.f s i).getD 0, s), fun s i x => (view_Plain_Write.f s i x).getD s⟩
theorem ofRd {P : Program} {g : FuncId} {vals : List Value} {α : Type} {E : TypeId} {K : EK α} {v : Value} {xs : List α} {u0 : Value} (h : Ct P g vals (fun F => Rd K v xs F) [] (fun u H' => u = u0 ∧ H' = [])) :
    Ct P g vals (fun _ => True) [Own E K v xs] (fun u H' => u = u0 ∧ H' = [Own E K v xs]) := by
  intro w F _ hs
  have h2 : Sat w ([] ++ [stars [Own E K v xs, F]]) := Sat.pack (l1 := []) hs
  have hr : Rd K v xs (stars [Own E K v xs, F]) := by
    obtain ⟨m, hm, ho⟩ := Sat.head hs
    exact Rd.head (Own.rd ho)
  refine (h w _ hr h2).mono ?_
  rintro e w' ⟨u, H', he, ⟨hu, rfl⟩, hs', hk⟩
  exact ⟨u, _, he, ⟨hu, rfl⟩, Sat.unpack (l1 := []) hs', hk⟩
set_option maxRecDepth 100000 in
set_option maxHeartbeats 4000000 in
noncomputable def plainV (v : Value) : VW Try.prog :=
  { plainI with
    t := 40, v := v, rep := fun s => Own 46 (ekI .u64) v s
    rF := 16, rV := v, wF := 102, wV := v
    rM := by intro w; kernel_rfl
    wM := by intro w; kernel_rfl
    rN := by intro w; kernel_rfl
    wN := by intro w; kernel_rfl
    rC := Try.call16, wC := Try.call102
    rCt := fun s i => by
      obtain ⟨r, hr⟩ := read_ok s i
      have := ofRd (E := 46) (view_Plain_Read.ct v s i r hr)
      show Ct _ _ _ _ _ (fun u H' => u = .int .u64 ((view_Plain_Read.f s i).getD 0) ∧ H' = [Own 46 (ekI .u64) v s])
      rw [hr]; exact this
    wCt := fun s i x => by
      obtain ⟨r, hr⟩ := write_ok s i x
      have := view_Plain_Write.ct v s i x r hr
      show Ct _ _ _ _ _ (fun u H' => u = .tuple #[] ∧ H' = [Own 46 (ekI .u64) v ((view_Plain_Write.f s i x).getD s)])
      rw [hr]; exact this }
theorem plainV_rep (v : Value) (s : List Int) : (plainV v).rep s = Own 46 (ekI .u64) v s := rfl
theorem headEq {P : Program} {n : Nat} {Z : Act → World → Prop} {w0 : Beg} {ops : Array Oper} {l : List Oper} {ρ : Env} {A B : HProp} {rest : List HProp} (h : A = B) (k : SO P n Z w0 ops l ρ (B :: rest)) : SO P n Z w0 ops l ρ (A :: rest) := by
  subst h; exact k
end Go.Proofs
