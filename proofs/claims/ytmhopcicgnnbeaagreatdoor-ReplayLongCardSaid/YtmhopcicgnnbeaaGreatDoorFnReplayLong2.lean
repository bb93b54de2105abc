/- What the functions that ReplayLong reaches come to, and that they do. On no condition. -/
import Derived.Test.YtmhopcicgnnbeaaGreatDoorFnReplayLong0
import Derived.Test.YtmhopcicgnnbeaaGreatDoorFnReplayLong1
set_option linter.all false
namespace Go.Proofs
open Go.Sl Go.RowKit
/-! 39 padstone/call.Unpack -/
def call_Unpack.f (a0 : Int) : Option ((api_Reply × (Option Int))) :=
  bif decide (a0 < 0) then (some ((⟨0, 0, 0⟩ : api_Reply), (some 1))) else ((call_fits.f (⟨band .i64 a0 15, band .i64 (bshr .i64 a0 4) 2147483647, bshr .i64 a0 35⟩ : api_Reply)).bind fun t4 => bif !t4 then (some ((⟨0, 0, 0⟩ : api_Reply), (some 1))) else (some ((⟨band .i64 a0 15, band .i64 (bshr .i64 a0 4) 2147483647, bshr .i64 a0 35⟩ : api_Reply), none)))
set_option maxHeartbeats 8000000 in
set_option maxRecDepth 100000 in
theorem call_Unpack.ct (a0 : Int) (r0 : api_Reply) (r1 : Option Int) (h : call_Unpack.f a0 = some (r0, r1)) :
    Ct Tryz.prog 39 [.int .i64 a0] (fun _ => True) [] (fun u H' => u = .tuple #[.agg #[.int .i64 r0.Code, .int .i64 r0.Word, .int .i64 r0.Badge], errV 42 r1] ∧ H' = []) := by
  unfold call_Unpack.f at h
  refine Ct.intro (n := 23) Tryz.func39 rfl rfl rfl ?_
  intro R w0 F hF hR
  refine S.seq ?_
  refine S.region ?_
  refine SO.alloc rfl Tryz.zeroValue111 rfl (fun b1 => ?_)
  refine SO.v rfl (opv_assign rfl) ?_
  refine SO.nil ?_
  refine S.seq ?_
  refine S.seq ?_
  refine S.region ?_
  refine SO.v rfl (opv_move rfl) ?_
  refine SO.v rfl (opv_lss rfl rfl) ?_
  refine SO.nil ?_
  rcases bool_or (decide (a0 < 0)) with b2 | b2
  · replace h := cond_t b2 h
    refine S.condT rfl b2 ?_
    refine S.seq ?_
    refine S.region ?_
    refine SO.v rfl (opv_build (v := .agg #[.int .i64 0, .int .i64 0, .int .i64 0]) rfl (by intro w; kernel_rfl)) ?_
    refine SO.v rfl (opv_iface Tryz.underlying42 rfl rfl) ?_
    refine SO.storeN Tryz.sizeOf111 rfl rfl rfl rfl rfl rfl ?_
    refine SO.v rfl (opv_assign rfl) ?_
    refine SO.nil ?_
    cases h
    refine S.b1 ?_
    refine S.b1 ?_
    exact S.retC1 Tryz.func39 rfl rfl rfl Tryz.isAgg111 Tryz.sizeOf111 rfl rfl (fun w hs hk => hR w _ _ ⟨rfl, rfl⟩ hs.drop hk)
  replace h := cond_f b2 h
  refine S.condF rfl b2 ?_
  refine S.skip ?_
  refine S.seq ?_
  refine S.region ?_
  refine SO.v rfl (opv_move rfl) ?_
  refine SO.v rfl (opv_and rfl rfl) ?_
  refine SO.v rfl (opv_move rfl) ?_
  refine SO.v rfl (opv_shr rfl rfl (by decide)) ?_
  refine SO.v rfl (opv_and rfl rfl) ?_
  refine SO.v rfl (opv_move rfl) ?_
  refine SO.v rfl (opv_shr rfl rfl (by decide)) ?_
  refine SO.v rfl (opv_build (v := .agg #[.int .i64 (band .i64 a0 15), .int .i64 (band .i64 (bshr .i64 a0 4) 2147483647), .int .i64 (bshr .i64 a0 35)]) rfl (by intro w; kernel_rfl)) ?_
  refine SO.alloc rfl Tryz.zeroValue111 rfl (fun b3 => ?_)
  refine SO.storeN Tryz.sizeOf111 rfl rfl rfl rfl rfl rfl ?_
  refine SO.nil ?_
  refine S.to (ρ' := [(2, bp b1 0), (3, errV 42 none), (4, bp b3 0)]) ⟨rfl, rfl, rfl, trivial⟩ ?_
  refine S.seq ?_
  refine S.seq ?_
  refine S.region ?_
  refine SO.loadN rfl Tryz.isAgg111 Tryz.sizeOf111 rfl rfl rfl ?_
  obtain ⟨t4, ht5, h⟩ := opt_bind h
  have ct7 := call_fits.ct _ _ ht5
  try dsimp only at ct7
  refine SO.call (pre := []) rfl Tryz.call65 rfl rfl rfl ct7 trivial ?_
  rintro _ _ ⟨rfl, rfl⟩
  refine SO.v rfl (opv_not rfl) ?_
  refine SO.nil ?_
  rcases bool_or (!t4) with b6 | b6
  · replace h := cond_t b6 h
    refine S.condT rfl b6 ?_
    refine S.seq ?_
    refine S.region ?_
    refine SO.v rfl (opv_build (v := .agg #[.int .i64 0, .int .i64 0, .int .i64 0]) rfl (by intro w; kernel_rfl)) ?_
    refine SO.v rfl (opv_iface Tryz.underlying42 rfl rfl) ?_
    refine SO.b1 ?_
    refine SO.storeN Tryz.sizeOf111 rfl rfl rfl rfl rfl rfl ?_
    refine SO.v rfl (opv_assign rfl) ?_
    refine SO.nil ?_
    cases h
    refine S.b1 ?_
    refine S.drop ?_
    refine S.b1 ?_
    refine S.b1 ?_
    exact S.retC1 Tryz.func39 rfl rfl rfl Tryz.isAgg111 Tryz.sizeOf111 rfl rfl (fun w hs hk => hR w _ _ ⟨rfl, rfl⟩ hs.drop hk)
  replace h := cond_f b6 h
  refine S.condF rfl b6 ?_
  refine S.skip ?_
  refine S.seq ?_
  refine S.region ?_
  refine SO.loadN rfl Tryz.isAgg111 Tryz.sizeOf111 rfl rfl rfl ?_
  refine SO.b1 ?_
  refine SO.storeN Tryz.sizeOf111 rfl rfl rfl rfl rfl rfl ?_
  refine SO.v rfl (opv_assign rfl) ?_
  refine SO.nil ?_
  cases h
  refine S.b1 ?_
  refine S.drop ?_
  refine S.b1 ?_
  refine S.b1 ?_
  exact S.retC1 Tryz.func39 rfl rfl rfl Tryz.isAgg111 Tryz.sizeOf111 rfl rfl (fun w hs hk => hR w _ _ ⟨rfl, rfl⟩ hs.drop hk)
end Go.Proofs
namespace Go.Proofs
open Go.Sl Go.RowKit
/-! 25 padstone/kernel.Told -/
def kernel_Told.l1 (a0 : List Int) : Nat → (Int × (List api_Reply)) → Option ((List api_Reply))
  | 0, _ => none
  | k + 1, (x10_1, x3_1) => bif decide (x10_1 < (a0.length : Int)) then ((at_ a0 x10_1).bind fun x3 => (call_Unpack.f x3).bind fun (t5, t6) => bif x3 == (-1) then ((app x3_1 ([(⟨11, 0, 0⟩ : api_Reply)])).bind fun zs12 => kernel_Told.l1 a0 k (w64 (x10_1 + 1), zs12)) else (bif t6.isNone then ((app x3_1 ([t5])).bind fun zs19 => kernel_Told.l1 a0 k (w64 (x10_1 + 1), zs19)) else (kernel_Told.l1 a0 k (w64 (x10_1 + 1), x3_1)))) else (some x3_1)
def kernel_Told.f (k : Nat) (a0 : List Int) : Option ((List api_Reply)) :=
  (kernel_Told.l1 a0 k (0, [])).bind fun j3_e1 => some j3_e1
set_option maxHeartbeats 8000000 in
set_option maxRecDepth 100000 in
theorem kernel_Told.ct (k : Nat) (v0 : Value) (a0 : List Int) (r0 : List api_Reply) (h : kernel_Told.f k a0 = some r0) :
    Ct Tryz.prog 25 [v0] (fun F => Rd (ekI .i64) v0 a0 F) [] (fun u H' => ∃ v_r0, u = v_r0 ∧ H' = [Own 111 ek_api_Reply v_r0 r0]) := by
  unfold kernel_Told.f at h
  refine Ct.intro (n := 35) Tryz.func25 rfl rfl rfl ?_
  intro R w0 F hF hR
  have hF0 := hF
  refine S.seq ?_
  refine S.region ?_
  refine SO.v rfl (opv_assign rfl) ?_
  refine SO.nil ?_
  refine S.seq ?_
  refine S.region ?_
  refine SO.v rfl (opv_assign rfl) ?_
  refine SO.nil ?_
  refine S.seq ?_
  refine S.seq ?_
  refine S.region ?_
  refine SO.v rfl (opv_move rfl) ?_
  refine SO.v rfl (opv_lenR rfl Tryz.underlying29 hF0 rfl) ?_
  refine SO.v rfl (opv_move rfl) ?_
  refine SO.nil ?_
  obtain ⟨j3_e1, hlp1, h⟩ := opt_bind h
  refine S.newOwn 111 ek_api_Reply ?_
  refine S.b1 ?_
  refine S.b1 ?_
  refine S.to (ρ' := [(10, .int .i64 0), (9, .int .i64 (a0.length : Int)), (8, v0), (3, .slice none 0 0), (2, .slice none 0 0)]) ⟨rfl, rfl, rfl, rfl, rfl, trivial⟩ ?_
  refine S.forloop (X := (Int × (List api_Reply)) × Value) (O := (List api_Reply)) (fun m x => kernel_Told.l1 a0 m x.1) (fun x => match x with | ((x10_1, x3_1), v3_1) => [(10, .int .i64 x10_1), (9, .int .i64 (a0.length : Int)), (8, v0), (3, v3_1), (2, .slice none 0 0)]) (fun x => match x with | ((x10_1, x3_1), v3_1) => [Own 111 ek_api_Reply v3_1 x3_1, F]) (fun Sk => (fun j3_e1 => ∀ v3_e1 : Value, Sk [(2, .slice none 0 0), (3, v3_e1)] [Own 111 ek_api_Reply v3_e1 j3_e1, F])) (fun _ => rfl) ?_ (m := k) (x := ((0, []), .slice none 0 0)) hlp1 ?_
  · clear h hlp1
    intro k x o_1 h hK1 ih1
    obtain ⟨⟨x10_1, x3_1⟩, v3_1⟩ := x
    replace h : kernel_Told.l1 a0 (k + 1) (x10_1, x3_1) = some o_1 := h
    first | rw [kernel_Told.l1] at h | unfold kernel_Told.l1 at h
    refine S.rd fun hr1 => ?_
    refine S.seq ?_
    refine S.region ?_
    refine SO.v rfl (opv_lss rfl rfl) ?_
    refine SO.nil ?_
    refine S.seq ?_
    rcases bool_or (decide (x10_1 < (a0.length : Int))) with b2 | b2
    · replace h := cond_t b2 h
      refine S.condT rfl b2 ?_
      refine S.skip ?_
      refine S.seq ?_
      refine S.block ?_
      refine S.seq ?_
      refine S.region ?_
      obtain ⟨x3, hx4, h⟩ := opt_bind h
      refine SO.v rfl (opv_idx Tryz.underlying29 Tryz.sizeOf3 hF0 rfl rfl hx4) ?_
      refine SO.loadI1 (j := 0) rfl Tryz.isAgg3 (Rd.tail (Rd.head hF0)) hx4 rfl rfl rfl rfl ?_
      refine SO.v rfl (opv_assign rfl) ?_
      refine SO.nil ?_
      refine S.seq ?_
      refine S.region ?_
      refine SO.v rfl (opv_move rfl) ?_
      obtain ⟨⟨t5, t6⟩, ht7, h⟩ := opt_bind h
      refine SO.call (pre := []) rfl Tryz.call39 rfl rfl rfl (call_Unpack.ct _ _ _ ht7) trivial ?_
      rintro _ _ ⟨rfl, rfl⟩
      refine SO.v rfl (opv_move rfl) ?_
      refine SO.v rfl (opv_extract rfl rfl) ?_
      refine SO.v rfl (opv_extract rfl rfl) ?_
      refine SO.alloc rfl Tryz.zeroValue111 rfl (fun b8 => ?_)
      refine SO.storeN Tryz.sizeOf111 rfl rfl rfl rfl rfl rfl ?_
      refine SO.v rfl (opv_assign rfl) ?_
      refine SO.nil ?_
      refine S.to (ρ' := [(10, .int .i64 x10_1), (9, .int .i64 (a0.length : Int)), (8, v0), (3, v3_1), (2, .slice none 0 0), (5, .int .i64 x3), (6, bp b8 0), (7, errV 42 t6)]) ⟨rfl, rfl, rfl, rfl, rfl, rfl, rfl, rfl, trivial⟩ ?_
      refine S.block ?_
      refine S.seq ?_
      refine S.region ?_
      refine SO.v rfl (opv_move rfl) ?_
      refine SO.v rfl (opv_eql rfl rfl) ?_
      refine SO.v rfl (opv_assign rfl) ?_
      refine SO.nil ?_
      rcases bool_or (x3 == (-1)) with b9 | b9
      · replace h := cond_t b9 h
        refine S.condT rfl b9 ?_
        refine S.region ?_
        refine SO.v rfl (opv_move rfl) ?_
        refine SO.v rfl (opv_build (v := .agg #[.int .i64 11, .int .i64 0, .int .i64 0]) rfl (by intro w; kernel_rfl)) ?_
        refine SO.buildSlice (K := ek_api_Reply) (xs := [(⟨11, 0, 0⟩ : api_Reply)]) (cs := [.int .i64 11, .int .i64 0, .int .i64 0]) rfl Tryz.underlying77 Tryz.sizeOf111 Tryz.zeroValue111 rfl rfl rfl (by kernel_rfl) rfl rfl rfl (fun v10 hr11 => ?_)
        obtain ⟨zs12, hz13, h⟩ := opt_bind h
        refine SO.b2 ?_
        refine SO.append rfl Tryz.underlying77 Tryz.underlying77 inf111 rfl rfl rfl (by decide) rfl rfl rfl (Rd.head hr11) hz13 (fun v14 => ?_)
        refine SO.rd fun hr15 => ?_
        refine SO.v rfl (opv_assign rfl) ?_
        refine SO.nil ?_
        refine S.to (ρ' := [(10, .int .i64 x10_1), (9, .int .i64 (a0.length : Int)), (8, v0), (3, v14), (2, .slice none 0 0)]) ⟨rfl, rfl, rfl, rfl, rfl, trivial⟩ ?_
        refine S.inBlock ?_
        refine S.inBlock ?_
        refine S.region ?_
        refine SO.v rfl (opv_add rfl rfl) ?_
        refine SO.v rfl (opv_move rfl) ?_
        refine SO.nil ?_
        refine S.b1 ?_
        refine S.drop ?_
        refine S.b1 ?_
        refine S.drop ?_
        refine S.b1 ?_
        refine S.b1 ?_
        refine S.to ?_ (ih1 ((w64 (x10_1 + 1), zs12), v14) h)
        exact ⟨rfl, rfl, rfl, rfl, rfl, trivial⟩
      replace h := cond_f b9 h
      refine S.condF rfl b9 ?_
      refine S.seq ?_
      refine S.region ?_
      refine SO.v rfl (opv_move rfl) ?_
      refine SO.v rfl (opv_eqlN (e := t6) Tryz.underlying31 rfl) ?_
      refine SO.v rfl (opv_assign rfl) ?_
      refine SO.nil ?_
      refine S.to (ρ' := [(10, .int .i64 x10_1), (9, .int .i64 (a0.length : Int)), (8, v0), (3, v3_1), (2, .slice none 0 0), (6, bp b8 0), (26, .bool t6.isNone)]) ⟨rfl, rfl, rfl, rfl, rfl, rfl, rfl, trivial⟩ ?_
      rcases bool_or t6.isNone with b16 | b16
      · replace h := cond_t b16 h
        refine S.condT rfl b16 ?_
        refine S.region ?_
        refine SO.v rfl (opv_move rfl) ?_
        refine SO.loadN rfl Tryz.isAgg111 Tryz.sizeOf111 rfl rfl rfl ?_
        refine SO.buildSlice (K := ek_api_Reply) (xs := [t5]) (cs := [.int .i64 t5.Code, .int .i64 t5.Word, .int .i64 t5.Badge]) rfl Tryz.underlying77 Tryz.sizeOf111 Tryz.zeroValue111 rfl rfl rfl (by kernel_rfl) rfl rfl rfl (fun v17 hr18 => ?_)
        obtain ⟨zs19, hz20, h⟩ := opt_bind h
        refine SO.b2 ?_
        refine SO.append rfl Tryz.underlying77 Tryz.underlying77 inf111 rfl rfl rfl (by decide) rfl rfl rfl (Rd.head hr18) hz20 (fun v21 => ?_)
        refine SO.rd fun hr22 => ?_
        refine SO.v rfl (opv_assign rfl) ?_
        refine SO.nil ?_
        refine S.inBlock ?_
        refine S.inBlock ?_
        refine S.region ?_
        refine SO.v rfl (opv_add rfl rfl) ?_
        refine SO.v rfl (opv_move rfl) ?_
        refine SO.nil ?_
        refine S.to (ρ' := [(10, .int .i64 (w64 (x10_1 + 1))), (9, .int .i64 (a0.length : Int)), (8, v0), (3, v21), (2, .slice none 0 0)]) ⟨rfl, rfl, rfl, rfl, rfl, trivial⟩ ?_
        refine S.b1 ?_
        refine S.drop ?_
        refine S.b1 ?_
        refine S.drop ?_
        refine S.b1 ?_
        refine S.b1 ?_
        refine S.to ?_ (ih1 ((w64 (x10_1 + 1), zs19), v21) h)
        exact ⟨rfl, rfl, rfl, rfl, rfl, trivial⟩
      replace h := cond_f b16 h
      refine S.condF rfl b16 ?_
      refine S.skip ?_
      refine S.inBlock ?_
      refine S.inBlock ?_
      refine S.region ?_
      refine SO.v rfl (opv_add rfl rfl) ?_
      refine SO.v rfl (opv_move rfl) ?_
      refine SO.nil ?_
      refine S.drop ?_
      refine S.b1 ?_
      refine S.b1 ?_
      refine S.to ?_ (ih1 ((w64 (x10_1 + 1), x3_1), v3_1) h)
      exact ⟨rfl, rfl, rfl, rfl, rfl, trivial⟩
    replace h := cond_f b2 h
    refine S.condF rfl b2 ?_
    refine S.exit rfl ?_
    cases h
    refine S.b1 ?_
    refine S.b1 ?_
    refine S.to ?_ (hK1 v3_1)
    exact ⟨rfl, rfl, trivial⟩
  rintro v3_e1
  refine S.rd fun hr23 => ?_
  refine S.seq ?_
  refine S.region ?_
  refine SO.v rfl (opv_move rfl) ?_
  refine SO.v rfl (opv_assign rfl) ?_
  refine SO.nil ?_
  cases h
  refine S.b1 ?_
  refine S.b1 ?_
  exact S.ret1 Tryz.func25 rfl rfl (fun w hs hk => hR w _ _ ⟨v3_e1, rfl, rfl⟩ hs hk)
end Go.Proofs
set_option linter.unusedVariables false
namespace Go.Proofs
open Go.Sl Go.RowKit
theorem inf29_replay_Run_nil : Tryz.prog.info? 29 = some Tryz.t29 := by kernel_rfl
theorem inf58_replay_Run_nil : Tryz.prog.info? 58 = some Tryz.t58 := by kernel_rfl
theorem inf77_replay_Run_nil : Tryz.prog.info? 77 = some Tryz.t77 := by kernel_rfl
/-! 7 padstone/replay.Run -/
def replay_Run_nil.l1 (cs : List (List (List Int))) (xs19 : List (List Int)) : Nat → (Int × (List (List api_Reply))) → Option ((List (List api_Reply)))
  | 0, _ => none
  | k + 1, (x96_1, y23_1_1) => bif decide (x96_1 < (cs.length : Int)) then ((at_ xs19 x96_1).bind fun x33 => (kernel_Told.f k x33).bind fun t41 => (app y23_1_1 ([t41])).bind fun zs48 => replay_Run_nil.l1 cs xs19 k (w64 (x96_1 + 1), zs48)) else (some y23_1_1)
def replay_Run_nil.f (k : Nat) (ws : List Int) (lim : Int) (cs : List (List (List Int))) : Option ((Option Int × List Int × List (List api_Reply))) :=
  (kernel_New.f k ws lim cs).bind fun (t6, s4, ns5) => oE t6 ((lay_Size.f ).bind fun t9 => (mk_ (0 : Int) t9).bind fun xs13 => (mk_ ([] : List Int) (w64 ((cs.length : Int) + 1))).bind fun xs19 => (replay_Run_nil.l1 cs xs19 k (0, [])).bind fun y23_1_e1 => some (none, cpy xs13 ws, y23_1_e1)) (fun t6p => some ((some t6p), [], []))
set_option maxHeartbeats 8000000 in
set_option maxRecDepth 100000 in
theorem replay_Run_nil.ct (k : Nat) (v0 v2 : Value) (ws : List Int) (lim : Int) (cs : List (List (List Int))) (r0 : Option Int) (r1 : List Int) (r2 : List (List api_Reply)) (h : replay_Run_nil.f k ws lim cs = some (r0, r1, r2)) :
    Ct Tryz.prog 7 [.agg #[v0, .int .u32 lim, v2], .slice none 0 0, .slice none 0 0] (fun F => Rd (ekI .u64) v0 ws F ∧ Rd3 (ekI .u64) v2 cs F) [] (fun u H' => match r0 with | some c => (u = .tuple #[.agg #[.slice none 0 0, .slice none 0 0], errV 42 (some c)] ∧ H' = []) | none => (∃ v1 v2, u = .tuple #[.agg #[v1, v2], errV 42 none] ∧ H' = [Own 58 (ekI .u64) v1 r1, OwnR 77 (krS ek_api_Reply) v2 r2])) := by
  unfold replay_Run_nil.f at h
  refine Ct.intro (n := 111) Tryz.func7 rfl rfl rfl ?_
  intro R w0 F hF hR
  obtain ⟨hF0, hF2⟩ := hF
  obtain ⟨vs2, hF2, hl2, hR2⟩ := hF2
  refine S.seq ?_
  refine S.region ?_
  refine SO.box rfl rfl rfl (fun b1 => ?_)
  refine SO.box rfl rfl rfl (fun b2 => ?_)
  refine SO.alloc rfl Tryz.zeroValue38 rfl (fun b3 => ?_)
  refine SO.v rfl (opv_assign rfl) ?_
  refine SO.nil ?_
  refine S.seq ?_
  refine S.seq ?_
  refine S.region ?_
  refine SO.b2 ?_
  refine SO.loadN rfl Tryz.isAgg26 Tryz.sizeOf26 rfl rfl rfl ?_
  obtain ⟨⟨t6, s4, ns5⟩, ht7, h⟩ := opt_bind h
  rcases t6 with _ | t6p
  · replace h := oE_n h
    refine SO.call (pre := []) rfl Tryz.call6 rfl rfl rfl (kernel_New.ct k v0 v2 ws lim cs _ s4 ns5 ht7) ⟨(Rd.tail (Rd.tail (Rd.tail (Rd.head hF0)))), (Rd3.tail (Rd3.tail (Rd3.tail (Rd3.head ⟨_, hF2, hl2, hR2⟩))))⟩ ?_
    rintro _ _ ⟨b8, rfl, rfl⟩
    refine SO.v rfl (opv_move rfl) ?_
    refine SO.v rfl (opv_extract rfl rfl) ?_
    refine SO.v rfl (opv_extract rfl rfl) ?_
    refine SO.v rfl (opv_assign rfl) ?_
    refine SO.v rfl (opv_assign rfl) ?_
    refine SO.nil ?_
    refine S.to (ρ' := [(2, .slice none 0 0), (3, bp b1 0), (4, bp b2 0), (6, bp b3 0), (7, errV 42 none), (9, errV 42 (none : Option Int))]) ⟨rfl, rfl, rfl, rfl, rfl, rfl, trivial⟩ ?_
    refine S.seq ?_
    refine S.region ?_
    refine SO.v rfl (opv_move rfl) ?_
    refine SO.veq (v' := .bool false) rfl (opv_neqN (e := (none : Option Int)) Tryz.underlying31 rfl) rfl ?_
    refine SO.nil ?_
    refine S.cond_false rfl ?_
    refine S.skip ?_
    refine S.seq ?_
    refine S.region ?_
    obtain ⟨t9, ht10, h⟩ := opt_bind h
    refine SO.call (pre := []) rfl Tryz.call16 rfl rfl rfl (lay_Size.ct _ ht10) trivial ?_
    rintro _ _ ⟨rfl, rfl⟩
    obtain ⟨xs13, hx14, h⟩ := opt_bind h
    refine SO.makeSlice (K := ekI .u64) rfl Tryz.underlying74 inf58_replay_Run_nil rfl rfl rfl (by decide) rfl rfl rfl hx14 (fun v11 hr12 => ?_)
    refine SO.v rfl (opv_assign rfl) ?_
    refine SO.nil ?_
    refine S.seq ?_
    refine S.region ?_
    refine SO.v rfl (opv_move rfl) ?_
    refine SO.v rfl (opv_fieldAddr Tryz.underlying26 rfl Tryz.sizeOf22 rfl rfl) ?_
    refine SO.b2 ?_
    refine SO.load1 rfl Tryz.isAgg22 rfl rfl ?_
    refine SO.b1 ?_
    refine SO.copy rfl Tryz.underlying74 Tryz.sizeOf58 rfl rfl (Rd.tail (Rd.tail (Rd.tail (Rd.tail (Rd.head hF0))))) ?_
    refine SO.rd fun hr15 => ?_
    refine SO.nil ?_
    refine S.to (ρ' := [(2, .slice none 0 0), (3, bp b1 0), (4, bp b2 0), (6, bp b3 0), (7, errV 42 none), (10, v11)]) ⟨rfl, rfl, rfl, rfl, rfl, rfl, trivial⟩ ?_
    refine S.seq ?_
    refine S.region ?_
    refine SO.v rfl (opv_fieldAddr Tryz.underlying26 rfl Tryz.sizeOf24 rfl rfl) ?_
    refine SO.b1 ?_
    refine SO.load1 rfl Tryz.isAgg24 rfl rfl ?_
    refine SO.v rfl (opv_len2 rfl Tryz.underlying24 hF2 hl2 rfl) ?_
    refine SO.alloc rfl Tryz.zeroValue3 rfl (fun b16 => ?_)
    refine SO.store1 Tryz.sizeOf3 rfl rfl rfl rfl ?_
    refine SO.nil ?_
    refine S.seq ?_
    refine S.region ?_
    refine SO.load1 rfl Tryz.isAgg3 rfl rfl ?_
    refine SO.v rfl (opv_add rfl rfl) ?_
    obtain ⟨xs19, hx20, h⟩ := opt_bind h
    refine SO.makeSliceR (K := krS (ekI .i64)) (zc := [.slice none 0 0]) rfl Tryz.underlying75 inf29_replay_Run_nil rfl rfl rfl (by decide) rfl ⟨Rd.nil0, trivial⟩ rfl rfl hx20 (fun v17 => ?_)
    refine SO.alloc rfl Tryz.zeroValue75 rfl (fun b21 => ?_)
    refine SO.b1 ?_
    refine SO.oneR fun h122 => ?_
    refine SO.b1 ?_
    refine SO.store1 Tryz.sizeOf75 rfl rfl h122 rfl ?_
    refine SO.nil ?_
    refine S.seq ?_
    refine S.region ?_
    refine SO.v rfl (opv_makeFunc rfl rfl) ?_
    refine SO.v rfl (opv_assign rfl) ?_
    refine SO.nil ?_
    refine S.to (ρ' := [(2, .slice none 0 0), (6, bp b3 0), (7, errV 42 none), (10, v11), (11, bp b16 0), (12, bp b21 0), (13, .func (.func 23) #[] #[bp b16 0, bp b1 0, bp b21 0, bp b2 0])]) ⟨rfl, rfl, rfl, rfl, rfl, rfl, rfl, trivial⟩ ?_
    refine S.seq ?_
    refine S.seq ?_
    refine S.region ?_
    refine SO.v rfl (opv_move rfl) ?_
    refine SO.v rfl (opv_len rfl Tryz.underlying47 rfl) ?_
    refine SO.v rfl (opv_move rfl) ?_
    refine SO.nil ?_
    refine S.block ?_
    refine S.loop ?_
    refine S.seq ?_
    refine S.region ?_
    refine SO.veq (v' := .bool false) rfl (opv_lss rfl rfl) rfl ?_
    refine SO.nil ?_
    refine S.seq ?_
    refine S.cond_false rfl ?_
    refine S.exit rfl ?_
    refine S.seq ?_
    refine S.region ?_
    refine SO.v rfl (opv_move rfl) ?_
    have hB_ : ∀ (w : World) (u0_ : Value), u0_.oneCell' = true → (Instr.build 38 #[(0, u0_)]).run Tryz.prog w = .ok (.agg #[u0_, .slice none 0 0]) w := (by intro w u0_ hu0_; cases u0_ <;> first | (simp [Value.oneCell'] at hu0_; done) | kernel_rfl)
    refine SO.v rfl (opv_build (v := .agg #[v11, .slice none 0 0]) rfl (fun w => hB_ w v11 (Rd.one hr15))) ?_
    clear hB_
    refine SO.alloc rfl Tryz.zeroValue38 rfl (fun b23 => ?_)
    refine SO.storeN Tryz.sizeOf38 rfl rfl (all1 (Rd.one hr15) (all1 rfl rfl)) rfl rfl rfl ?_
    refine SO.nil ?_
    refine S.to (ρ' := [(6, bp b3 0), (7, errV 42 none), (11, bp b16 0), (12, bp b21 0), (18, bp b23 0)]) ⟨rfl, rfl, rfl, rfl, rfl, trivial⟩ ?_
    refine S.seq ?_
    refine S.seq ?_
    refine S.region ?_
    refine SO.b3 ?_
    refine SO.load1 rfl Tryz.isAgg3 rfl rfl ?_
    refine SO.v rfl (opv_move rfl) ?_
    refine SO.nil ?_
    obtain ⟨y23_1_e1, hlp1, h⟩ := opt_bind h
    refine S.newOwnR 77 (krS ek_api_Reply) ?_
    refine S.b10 ?_
    refine S.b10 ?_
    refine S.b10 ?_
    refine S.b10 ?_
    refine S.b10 ?_
    refine S.b10 ?_
    refine S.b10 ?_
    refine S.b10 ?_
    refine S.b10 ?_
    refine S.b10 ?_
    refine S.b10 ?_
    refine S.to (ρ' := [(96, .int .i64 0), (95, .int .i64 (cs.length : Int)), (6, bp b3 0), (7, errV 42 none), (12, bp b21 0), (18, bp b23 0)]) ⟨rfl, rfl, rfl, rfl, rfl, rfl, trivial⟩ ?_
    refine S.forloop (X := (Int × (List (List api_Reply))) × Value) (O := (List (List api_Reply))) (fun m x => replay_Run_nil.l1 cs xs19 m x.1) (fun x => match x with | ((x96_1, y23_1_1), vy23_1_1) => [(96, .int .i64 x96_1), (95, .int .i64 (cs.length : Int)), (6, bp b3 0), (7, errV 42 none), (12, bp b21 0), (18, bp b23 0)]) (fun x => match x with | ((x96_1, y23_1_1), vy23_1_1) => [OwnR 77 (krS ek_api_Reply) vy23_1_1 y23_1_1, Box b16 [.int .i64 (cs.length : Int)], Box b23 [v11, vy23_1_1], Box b21 [v17], OwnR 29 (krS (ekI .i64)) v17 xs19, Box b1 [v0, .int .u32 lim, v2], Own 58 (ekI .u64) v11 (cpy xs13 ws), KR b8 ns5 s4 [], Box b3 [.slice none 0 0, .slice none 0 0], Box b2 [.slice none 0 0], F]) (fun Sk => (fun y23_1_e1 => ∀ vy23_1_e1 : Value, Sk [(6, bp b3 0), (7, errV 42 none), (18, bp b23 0)] [OwnR 77 (krS ek_api_Reply) vy23_1_e1 y23_1_e1, Box b16 [.int .i64 (cs.length : Int)], Box b23 [v11, vy23_1_e1], Box b21 [v17], OwnR 29 (krS (ekI .i64)) v17 xs19, Box b1 [v0, .int .u32 lim, v2], Own 58 (ekI .u64) v11 (cpy xs13 ws), KR b8 ns5 s4 [], Box b3 [.slice none 0 0, .slice none 0 0], Box b2 [.slice none 0 0], F])) (fun _ => rfl) ?_ (m := k) (x := ((0, []), .slice none 0 0)) hlp1 ?_
    · clear h hlp1
      intro k x o_1 h hK1 ih1
      obtain ⟨⟨x96_1, y23_1_1⟩, vy23_1_1⟩ := x
      replace h : replay_Run_nil.l1 cs xs19 (k + 1) (x96_1, y23_1_1) = some o_1 := h
      first | rw [replay_Run_nil.l1] at h | unfold replay_Run_nil.l1 at h
      refine S.seq ?_
      refine S.region ?_
      refine SO.v rfl (opv_lss rfl rfl) ?_
      refine SO.nil ?_
      refine S.seq ?_
      rcases bool_or (decide (x96_1 < (cs.length : Int))) with b24 | b24
      · replace h := cond_t b24 h
        refine S.condT rfl b24 ?_
        refine S.skip ?_
        refine S.seq ?_
        refine S.block ?_
        refine S.seq ?_
        refine S.region ?_
        refine SO.v rfl (opv_move rfl) ?_
        refine SO.v rfl (opv_assign rfl) ?_
        refine SO.nil ?_
        refine S.openR fun raws25 A26 hrel27 hR28 => ?_
        refine S.b4 ?_
        refine S.openR fun raws29 A30 hrel31 hR32 => ?_
        obtain ⟨x33, hx34, h⟩ := opt_bind h
        obtain ⟨r35, hr36, hc37⟩ := relR.at hrel31 hx34
        obtain ⟨u38, hu39, hru40⟩ := hc37.sl 0 rfl
        obtain ⟨t41, ht42, h⟩ := opt_bind h
        obtain ⟨zs48, hz49, h⟩ := opt_bind h
        refine S.draw2 (Y := fun Q => ∃ (_ _ _ _ _ _ _ _ _ _ _ _ _ _ _ : Unit), Q [(18, bp b23 0), (12, bp b21 0), (19, .int .i64 x96_1), (96, .int .i64 x96_1), (95, .int .i64 (cs.length : Int)), (6, bp b3 0), (7, errV 42 none)] [OwnO 29 (krS (ekI .i64)) v17 raws29 A30 xs19, OwnO 77 (krS ek_api_Reply) vy23_1_1 raws25 A26 y23_1_1, Box b16 [.int .i64 (cs.length : Int)], Box b23 [v11, vy23_1_1], Box b21 [v17], Box b1 [v0, .int .u32 lim, v2], Own 58 (ekI .u64) v11 (cpy xs13 ws), KR b8 ns5 s4 [], Box b3 [.slice none 0 0, .slice none 0 0], Box b2 [.slice none 0 0], F]) (Z := fun Q => ∀ (_ _ _ : Unit) (v50 : Value) (_ _ _ _ _ _ _ _ _ : Unit), Q [(96, .int .i64 x96_1), (95, .int .i64 (cs.length : Int)), (6, bp b3 0), (7, errV 42 none), (12, bp b21 0), (18, bp b23 0), (107, v50)] [OwnR 77 (krS ek_api_Reply) v50 zs48, Box b23 [v11, v50], OwnO 29 (krS (ekI .i64)) v17 raws29 A30 xs19, Box b16 [.int .i64 (cs.length : Int)], Box b21 [v17], Box b1 [v0, .int .u32 lim, v2], Own 58 (ekI .u64) v11 (cpy xs13 ws), KR b8 ns5 s4 [], Box b3 [.slice none 0 0, .slice none 0 0], Box b2 [.slice none 0 0], F]) (T := [tS 18 (bp b23 0), tS 12 (bp b21 0), tS 19 (.int .i64 x96_1), tE [(96, .int .i64 x96_1), (95, .int .i64 (cs.length : Int)), (6, bp b3 0), (7, errV 42 none)], tR (OwnO 29 (krS (ekI .i64)) v17 raws29 A30 xs19), tR (OwnO 77 (krS ek_api_Reply) vy23_1_1 raws25 A26 y23_1_1), tR (Box b16 [.int .i64 (cs.length : Int)]), tR (Box b23 [v11, vy23_1_1]), tR (Box b21 [v17]), tR (Box b1 [v0, .int .u32 lim, v2]), tR (Own 58 (ekI .u64) v11 (cpy xs13 ws)), tR (KR b8 ns5 s4 []), tR (Box b3 [.slice none 0 0, .slice none 0 0]), tR (Box b2 [.slice none 0 0]), tR (F), tS 99 (bp b23 1), tS 100 (vy23_1_1), tS 101 (v17), tS 102 (.int .i64 x96_1), tS 103 (idxp v17 (x96_1.toNat * (krS (ekI .i64)).sz)), tS 104 (u38), ⟨Value, [105], (fun v43 => [(105, v43)]), (fun v43 => [Own 111 ek_api_Reply v43 t41]), fun _ => rfl⟩, ⟨Value, [106], (fun v46 => [(106, v46)]), (fun v46 => [OwnR 77 (krS ek_api_Reply) v46 ([t41])]), fun _ => rfl⟩, ⟨Value, [107], (fun v50 => [(107, v50)]), (fun v50 => [OwnR 77 (krS ek_api_Reply) v50 zs48]), fun _ => rfl⟩, tS 108 (bp b23 1), ⟨Value, [107], (fun v50 => [(107, v50)]), (fun v50 => [OwnR 77 (krS ek_api_Reply) v50 zs48, Box b23 [v11, v50]]), fun _ => rfl⟩]) (D := [⟨[0], [], [15]⟩, ⟨[15, 7], [], [16]⟩, ⟨[1, 8], [], [17]⟩, ⟨[2], [], [18]⟩, ⟨[17, 18, 4], [], [19]⟩, ⟨[19, 4], [], [20]⟩, ⟨[20, 4], [], [21]⟩, ⟨[], [21], [22]⟩, ⟨[16], [22, 5], [23]⟩, ⟨[0], [], [24]⟩, ⟨[24], [7, 23], [25]⟩]) (ini := [0, 1, 2, 3, 4, 5, 6, 7, 8, 9, 10, 11, 12, 13, 14]) (fin := [3, 1, 0, 25, 4, 6, 8, 9, 10, 11, 12, 13, 14]) (bf := [[], [0], [], [], [2, 3], [2, 3, 4], [2, 3, 4, 5], [2, 3, 4, 5, 6], [0, 1, 2, 3, 4, 5, 6, 7], [0, 1, 2, 3, 4, 5, 6, 7, 8], [0, 1, 2, 3, 4, 5, 6, 7, 8, 9]]) (by kernel_rfl) (by kernel_rfl) (fun Q => by kernel_rfl) (fun x w h1 h2 => ⟨(), (), (), (), (), (), (), (), (), (), (), (), (), (), (), EnvAll.of h1 ⟨rfl, rfl, rfl, rfl, rfl, rfl, rfl, trivial⟩, h2⟩) (fun Q => by kernel_rfl) ⟨?_, ?_, ?_, ?_, ?_, ?_, ?_, ?_, ?_, ?_, ?_, trivial⟩ ?_
        · rintro Fr _
          refine SO.v rfl (opv_fieldAddr Tryz.underlying38 rfl Tryz.sizeOf36 rfl rfl) ?_
          exact SO.nilZ fun a w h1 h2 h3 h4 h5 => PZ.of h1 h3 h5 (.cons () (.cons () (.nil ⟨EnvAll.of h2 ⟨rfl, rfl, trivial⟩, h4⟩)))
        · rintro Fr _ _
          refine SO.load1 rfl Tryz.isAgg36 rfl rfl ?_
          exact SO.nilZ fun a w h1 h2 h3 h4 h5 => PZ.of h1 h3 h5 (.cons () (.cons () (.cons () (.nil ⟨EnvAll.of h2 ⟨rfl, rfl, trivial⟩, h4⟩))))
        · rintro Fr _ _
          refine SO.load1 rfl Tryz.isAgg75 rfl rfl ?_
          exact SO.nilZ fun a w h1 h2 h3 h4 h5 => PZ.of h1 h3 h5 (.cons () (.cons () (.cons () (.nil ⟨EnvAll.of h2 ⟨rfl, rfl, trivial⟩, h4⟩))))
        · rintro Fr _
          refine SO.v rfl (opv_move rfl) ?_
          exact SO.nilZ fun a w h1 h2 h3 h4 h5 => PZ.of h1 h3 h5 (.cons () (.cons () (.nil ⟨EnvAll.of h2 ⟨rfl, rfl, trivial⟩, h4⟩)))
        · rintro Fr _ _ _
          refine SO.v rfl (opv_idx Tryz.underlying75 Tryz.sizeOf29 hR32 rfl rfl hr36) ?_
          exact SO.nilZ fun a w h1 h2 h3 h4 h5 => PZ.of h1 h3 h5 (.cons () (.cons () (.cons () (.cons () (.nil ⟨EnvAll.of h2 ⟨rfl, rfl, rfl, trivial⟩, h4⟩)))))
        · rintro Fr _ _
          refine SO.loadI1 (j := 0) rfl Tryz.isAgg29 (Rd.head hR32) hr36 rfl rfl rfl hu39 ?_
          exact SO.nilZ fun a w h1 h2 h3 h4 h5 => PZ.of h1 h3 h5 (.cons () (.cons () (.cons () (.nil ⟨EnvAll.of h2 ⟨rfl, rfl, trivial⟩, h4⟩))))
        · rintro Fr _ _
          refine SO.call (pre := []) rfl Tryz.call25 rfl rfl rfl (kernel_Told.ct _ u38 _ _ ht42) (Rd.head (Rd.pool hru40)) ?_
          rintro v43 _ ⟨_, rfl, rfl⟩
          refine SO.rd fun hr44 => ?_
          refine SO.b1 ?_
          exact SO.nilZ fun a w h1 h2 h3 h4 h5 => PZ.of h1 h3 h5 (.cons () (.cons () (.cons v43 (.nil ⟨EnvAll.of h2 ⟨rfl, rfl, trivial⟩, h4⟩))))
        · rintro Fr v43
          refine SO.rd fun hr45 => ?_
          refine SO.buildSliceR1 (K := krS ek_api_Reply) (y := t41) (cs := [v43]) rfl Tryz.underlying36 Tryz.sizeOf77 Tryz.zeroValue77 rfl rfl (fillV (Rd.one hr45)) ⟨hr45, trivial⟩ (fun v46 => ?_)
          exact SO.nilZ fun a w h1 h2 h3 h4 h5 => PZ.of h1 h3 h5 (.cons v46 (.nil ⟨EnvAll.of h2 ⟨rfl, trivial⟩, h4⟩))
        · rintro Fr _ v46 _
          refine SO.b1 ?_
          refine SO.closeR ?_
          refine SO.b1 ?_
          refine SO.b1 ?_
          refine SO.appendR rfl Tryz.underlying36 inf77_replay_Run_nil rfl rfl rfl (by decide) rfl rfl rfl hz49 (fun v50 => ?_)
          exact SO.nilZ fun a w h1 h2 h3 h4 h5 => PZ.of h1 h3 h5 (.cons () (.cons v50 (.nil ⟨EnvAll.of h2 ⟨rfl, rfl, trivial⟩, h4⟩)))
        · rintro Fr _
          refine SO.v rfl (opv_fieldAddr Tryz.underlying38 rfl Tryz.sizeOf36 rfl rfl) ?_
          exact SO.nilZ fun a w h1 h2 h3 h4 h5 => PZ.of h1 h3 h5 (.cons () (.cons () (.nil ⟨EnvAll.of h2 ⟨rfl, rfl, trivial⟩, h4⟩)))
        · rintro Fr _ _ v50
          refine SO.b1 ?_
          refine SO.oneR fun h151 => ?_
          refine SO.b1 ?_
          refine SO.store1 Tryz.sizeOf36 rfl rfl h151 rfl ?_
          refine SO.b1 ?_
          exact SO.nilZ fun a w h1 h2 h3 h4 h5 => PZ.of h1 h3 h5 (.cons () (.cons v50 (.nil ⟨EnvAll.of h2 ⟨rfl, rfl, trivial⟩, h4⟩)))
        rintro _ _ _ v50 _ _ _ _ _ _ _ _ _
        refine S.to (ρ' := [(96, .int .i64 x96_1), (95, .int .i64 (cs.length : Int)), (6, bp b3 0), (7, errV 42 none), (12, bp b21 0), (18, bp b23 0)]) ⟨rfl, rfl, rfl, rfl, rfl, rfl, trivial⟩ ?_
        refine S.inBlock ?_
        refine S.region ?_
        refine SO.v rfl (opv_add rfl rfl) ?_
        refine SO.v rfl (opv_move rfl) ?_
        refine SO.nil ?_
        refine S.b2 ?_
        refine S.closeR ?_
        refine S.b10 ?_
        refine S.b10 ?_
        refine S.b10 ?_
        refine S.b10 ?_
        refine S.b10 ?_
        refine S.b10 ?_
        refine S.b6 ?_
        refine S.b10 ?_
        refine S.b9 ?_
        refine S.b10 ?_
        refine S.b10 ?_
        refine S.to ?_ (ih1 ((w64 (x96_1 + 1), zs48), v50) h)
        exact ⟨rfl, rfl, rfl, rfl, rfl, rfl, trivial⟩
      replace h := cond_f b24 h
      refine S.condF rfl b24 ?_
      refine S.exit rfl ?_
      cases h
      refine S.b10 ?_
      refine S.b10 ?_
      refine S.b10 ?_
      refine S.b10 ?_
      refine S.b10 ?_
      refine S.b10 ?_
      refine S.b10 ?_
      refine S.b10 ?_
      refine S.b10 ?_
      refine S.b10 ?_
      refine S.b10 ?_
      refine S.to ?_ (hK1 vy23_1_1)
      exact ⟨rfl, rfl, rfl, trivial⟩
    rintro vy23_1_e1
    refine S.seq ?_
    refine S.region ?_
    refine SO.b2 ?_
    refine SO.loadN rfl Tryz.isAgg38 Tryz.sizeOf38 rfl rfl rfl ?_
    refine SO.b1 ?_
    refine SO.oneR fun h152 => ?_
    refine SO.b8 ?_
    refine SO.storeN Tryz.sizeOf38 rfl rfl (all1 (Rd.one hr15) (all1 h152 rfl)) rfl rfl rfl ?_
    refine SO.v rfl (opv_assign rfl) ?_
    refine SO.nil ?_
    cases h
    refine S.b2 ?_
    refine S.drop ?_
    refine S.b2 ?_
    refine S.drop ?_
    refine S.b2 ?_
    refine S.drop ?_
    refine S.b2 ?_
    refine S.drop ?_
    refine S.b2 ?_
    refine S.drop ?_
    refine S.b3 ?_
    refine S.drop ?_
    refine S.b3 ?_
    refine S.drop ?_
    refine S.b3 ?_
    refine S.b2 ?_
    refine S.b3 ?_
    refine S.b3 ?_
    exact S.retC1 Tryz.func7 rfl rfl rfl Tryz.isAgg38 Tryz.sizeOf38 rfl rfl (fun w hs hk => hR w _ _ ⟨v11, vy23_1_e1, rfl, rfl⟩ hs.drop hk)
  replace h := oE_s h
  refine SO.call (pre := []) rfl Tryz.call6 rfl rfl rfl (kernel_New.ct k v0 v2 ws lim cs _ s4 ns5 ht7) ⟨(Rd.tail (Rd.tail (Rd.tail (Rd.head hF0)))), (Rd3.tail (Rd3.tail (Rd3.tail (Rd3.head ⟨_, hF2, hl2, hR2⟩))))⟩ ?_
  rintro _ _ ⟨rfl, rfl⟩
  refine SO.v rfl (opv_move rfl) ?_
  refine SO.v rfl (opv_extract rfl rfl) ?_
  refine SO.v rfl (opv_extract rfl rfl) ?_
  refine SO.v rfl (opv_assign rfl) ?_
  refine SO.v rfl (opv_assign rfl) ?_
  refine SO.nil ?_
  refine S.to (ρ' := [(2, .slice none 0 0), (3, bp b1 0), (4, bp b2 0), (6, bp b3 0), (7, errV 42 none), (9, errV 42 (some t6p))]) ⟨rfl, rfl, rfl, rfl, rfl, rfl, trivial⟩ ?_
  refine S.seq ?_
  refine S.region ?_
  refine SO.v rfl (opv_move rfl) ?_
  refine SO.veq (v' := .bool true) rfl (opv_neqN (e := (some t6p)) Tryz.underlying31 rfl) rfl ?_
  refine SO.nil ?_
  refine S.cond_true rfl ?_
  refine S.seq ?_
  refine S.region ?_
  refine SO.v rfl (opv_build (v := .agg #[.slice none 0 0, .slice none 0 0]) rfl (by intro w; kernel_rfl)) ?_
  refine SO.v rfl (opv_move rfl) ?_
  refine SO.b1 ?_
  refine SO.storeN Tryz.sizeOf38 rfl rfl rfl rfl rfl rfl ?_
  refine SO.v rfl (opv_assign rfl) ?_
  refine SO.nil ?_
  refine S.to (ρ' := [(6, bp b3 0), (7, errV 42 (some t6p))]) ⟨rfl, rfl, trivial⟩ ?_
  cases h
  refine S.b1 ?_
  refine S.drop ?_
  refine S.b1 ?_
  refine S.drop ?_
  refine S.b1 ?_
  refine S.b1 ?_
  exact S.retC1 Tryz.func7 rfl rfl rfl Tryz.isAgg38 Tryz.sizeOf38 rfl rfl (fun w hs hk => hR w _ _ ⟨rfl, rfl⟩ hs.drop hk)
end Go.Proofs
set_option linter.unusedVariables false
namespace Go.Proofs
open Go.Sl Go.RowKit
/-! For up: a boot of one thread without calls. -/
theorem Rd3.of_nil {α : Type} {K : EK α} {v : Value} {xs : List SV} {ns : List Nat} {A : HProp} (hr : Rd ekS v xs A) (e1 : xs.length = ns.length) (e2 : ∀ (i : Nat) (x : SV) (n : Nat), xs[i]? = some x → ns[i]? = some n → lenS x.1 n) (hn : ns = [0]) : Rd3 K v [[]] A := by
  subst hn
  refine ⟨xs, hr, e1, fun i x l hx hl => ?_⟩
  cases i with
  | zero =>
    injection hl with hl
    subst hl
    exact ⟨[], (e2 0 x 0 hx rfl).rd0, rfl, fun i x l h => by simp at h⟩
  | succ i => simp at hl
def runUp (k : Nat) (ws : List Int) (lim : Int) (cs : List (List (List Int))) : Option (List Int × List (List api_Reply)) := (replay_Run_nil.f k ws lim cs).bind fun r => bif r.1.isNone then some r.2 else none
theorem runUp.ct (k : Nat) (v0 v2 : Value) (ws : List Int) (lim : Int) (cs : List (List (List Int))) (w : List Int) (rp : List (List api_Reply)) (h : runUp k ws lim cs = some (w, rp)) :
    Ct Tryz.prog 7 [.agg #[v0, .int .u32 lim, v2], .slice none 0 0, .slice none 0 0] (fun F => Rd (ekI .u64) v0 ws F ∧ Rd3 (ekI .u64) v2 cs F) [] (fun u H' => ∃ v1 v2, u = .tuple #[.agg #[v1, v2], errV 42 none] ∧ H' = [Own 58 (ekI .u64) v1 w, OwnR 77 (krS ek_api_Reply) v2 rp]) := by
  unfold runUp at h
  obtain ⟨⟨e, w', rp'⟩, h1, h⟩ := opt_bind h
  cases e with
  | some c => cases h
  | none =>
    cases h
    exact replay_Run_nil.ct k v0 v2 ws lim cs none w rp h1

end Go.Proofs
set_option linter.unusedVariables false
namespace Go.Proofs
open Go.Sl Go.RowKit
theorem inf42_law23_up : Tryz.prog.info? 42 = some Tryz.t42 := by kernel_rfl
/-! 4 padstone/padstonelaw23.up -/
def law23_up.f (k : Nat) : Option (Bool) :=
  (law22_Boot_up.f k).bind fun (ws1, zs2) => (chk (decide (zs2 = [0]))).bind fun _ => (runUp k ws1 9 [[]]).bind fun (w8, rp9) => (replay_Picks_up.f k ws1 9 [[]]).bind fun t18 => (replay_Run_up.f k ws1 9).bind fun _ => (ref10_Same.f k w8 ws1).bind fun t26 => (bif (t26 && true) && ((t18.length : Int) == 1) then ((at_ t18 0).bind fun x33 => some (x33 == 6)) else (some false)).bind fun c31 => some ((c31 && true) && ((some 10) == some 10))
set_option maxHeartbeats 8000000 in
set_option maxRecDepth 100000 in
theorem law23_up.ct (k : Nat) (r0 : Bool) (h : law23_up.f k  = some r0) :
    Ct Tryz.prog 4 [] (fun _ => True) [] (fun u H' => u = .bool r0 ∧ H' = []) := by
  unfold law23_up.f at h
  refine Ct.intro (n := 62) Tryz.func4 rfl rfl rfl ?_
  intro R w0 F hF hR
  refine S.seq ?_
  refine S.region ?_
  refine SO.v rfl (opv_assign rfl) ?_
  refine SO.nil ?_
  refine S.seq ?_
  refine S.region ?_
  obtain ⟨⟨ws1, zs2⟩, ht3, h⟩ := opt_bind h
  obtain ⟨_, hz4, h⟩ := opt_bind h
  refine SO.call (pre := []) rfl Tryz.call9 rfl rfl rfl (law22_Boot_up.ct k ws1 zs2 ht3) trivial ?_
  rintro _ _ ⟨v0, v2, rfl, rfl⟩
  refine SO.b1 ?_
  refine SO.openLens fun xs9 e91 e92 => ?_
  refine SO.rd fun hr9 => ?_
  have h39 : Rd3 (ekI .u64) v2 [[]] (Own 52 ekS v2 xs9) := Rd3.of_nil hr9 e91 e92 (of_decide_eq_true (chk_some hz4))
  refine SO.b1 ?_
  refine SO.rd fun hr5 => ?_
  refine SO.alloc rfl Tryz.zeroValue26 rfl (fun b6 => ?_)
  refine SO.storeN Tryz.sizeOf26 rfl rfl (all1 (Rd.one hr5) (all1 rfl (all1 (Rd.one hr9) rfl))) rfl rfl rfl ?_
  refine SO.nil ?_
  refine S.seq ?_
  refine S.region ?_
  refine SO.loadN rfl Tryz.isAgg26 Tryz.sizeOf26 rfl rfl rfl ?_
  obtain ⟨⟨w8, rp9⟩, ht7, h⟩ := opt_bind h
  refine SO.call (pre := []) rfl Tryz.call7 rfl rfl rfl (runUp.ct k v0 v2 ws1 9 [[]] w8 rp9 ht7) ⟨(Rd.tail (Rd.head hr5)), (Rd3.tail (Rd3.tail (Rd3.head h39)))⟩ ?_
  rintro _ _ ⟨v10, v11, rfl, rfl⟩
  refine SO.rd fun hr12 => ?_
  refine SO.v rfl (opv_move rfl) ?_
  refine SO.v rfl (opv_extract rfl rfl) ?_
  refine SO.v rfl (opv_extract rfl rfl) ?_
  refine SO.alloc rfl Tryz.zeroValue38 rfl (fun b13 => ?_)
  refine SO.b2 ?_
  refine SO.oneR fun h114 => ?_
  refine SO.b1 ?_
  refine SO.storeN Tryz.sizeOf38 rfl rfl (all1 (Rd.one hr12) (all1 h114 rfl)) rfl rfl rfl ?_
  refine SO.v rfl (opv_assign rfl) ?_
  refine SO.nil ?_
  refine S.seq ?_
  refine S.region ?_
  refine SO.b3 ?_
  refine SO.loadN rfl Tryz.isAgg26 Tryz.sizeOf26 rfl rfl rfl ?_
  refine SO.buildSlice (K := ekI .i64) (xs := [0, -7]) (cs := [.int .i64 0, .int .i64 (-7)]) rfl Tryz.underlying29 Tryz.sizeOf3 Tryz.zeroValue3 rfl rfl rfl (by kernel_rfl) rfl rfl rfl (fun v15 hr16 => ?_)
  obtain ⟨t18, ht17, h⟩ := opt_bind h
  refine SO.call (pre := []) rfl Tryz.call5 rfl rfl rfl (replay_Picks_up.ct k v15 v0 v2 ws1 9 [[]] t18 ht17) ⟨(Rd.tail (Rd.tail (Rd.tail (Rd.tail (Rd.tail (Rd.head hr5)))))), (Rd3.tail (Rd3.tail (Rd3.tail (Rd3.tail (Rd3.tail (Rd3.tail (Rd3.head h39))))))), (Rd.head hr16)⟩ ?_
  rintro _ _ ⟨b21, v19, rfl, rfl⟩
  refine SO.rd fun hr20 => ?_
  refine SO.v rfl (opv_move rfl) ?_
  refine SO.v rfl (opv_extract rfl rfl) ?_
  refine SO.v rfl (opv_extract rfl rfl) ?_
  refine SO.v rfl (opv_extract rfl rfl) ?_
  refine SO.v rfl (opv_assign rfl) ?_
  refine SO.v rfl (opv_assign rfl) ?_
  refine SO.v rfl (opv_assign rfl) ?_
  refine SO.nil ?_
  refine S.to (ρ' := [(0, .bool false), (1, bp b6 0), (2, bp b13 0), (3, errV 42 (none : Option Int)), (4, bp b21 0), (5, v19), (6, errV 42 (none : Option Int))]) ⟨rfl, rfl, rfl, rfl, rfl, rfl, rfl, trivial⟩ ?_
  refine S.seq ?_
  refine S.region ?_
  refine SO.b2 ?_
  refine SO.loadN rfl Tryz.isAgg26 Tryz.sizeOf26 rfl rfl rfl ?_
  refine SO.v rfl (opv_build (v := .agg #[.int .i64 0, .int .i64 0, .int .i64 0, .bool false]) rfl (by intro w; kernel_rfl)) ?_
  refine SO.buildSlice (K := ek_stm_Entry) (xs := [(⟨0, 0, 0, false⟩ : stm_Entry)]) (cs := [.int .i64 0, .int .i64 0, .int .i64 0, .bool false]) rfl Tryz.underlying47 Tryz.sizeOf46 Tryz.zeroValue46 rfl rfl rfl (by kernel_rfl) rfl rfl rfl (fun v22 hr23 => ?_)
  obtain ⟨_, ht24, h⟩ := opt_bind h
  refine SO.call (pre := []) rfl Tryz.call7 rfl rfl rfl (replay_Run_up.ct k v22 v0 v2 ws1 9 ht24) ⟨(Rd.tail (Rd.tail (Rd.tail (Rd.tail (Rd.tail (Rd.tail (Rd.tail (Rd.head hr5)))))))), (Rd3.tail (Rd3.tail (Rd3.tail (Rd3.tail (Rd3.tail (Rd3.tail (Rd3.tail (Rd3.tail (Rd3.head h39))))))))), (Rd.head hr23)⟩ ?_
  rintro _ _ ⟨rfl, rfl⟩
  refine SO.v rfl (opv_move rfl) ?_
  refine SO.v rfl (opv_extract rfl rfl) ?_
  refine SO.v rfl (opv_extract rfl rfl) ?_
  refine SO.alloc rfl Tryz.zeroValue38 rfl (fun b25 => ?_)
  refine SO.storeN Tryz.sizeOf38 rfl rfl rfl rfl rfl rfl ?_
  refine SO.v rfl (opv_assign rfl) ?_
  refine SO.nil ?_
  refine S.to (ρ' := [(0, .bool false), (1, bp b6 0), (2, bp b13 0), (3, errV 42 (none : Option Int)), (4, bp b21 0), (5, v19), (6, errV 42 (none : Option Int)), (8, errV 42 (some 10))]) ⟨rfl, rfl, rfl, rfl, rfl, rfl, rfl, rfl, trivial⟩ ?_
  refine S.seq ?_
  refine S.region ?_
  refine SO.v rfl (opv_move rfl) ?_
  refine SO.veq (v' := .bool true) rfl (opv_eqlN (e := (none : Option Int)) Tryz.underlying31 rfl) rfl ?_
  refine SO.v rfl (opv_move rfl) ?_
  refine SO.takeT rfl rfl rfl rfl ?_
  refine SO.v rfl (opv_fieldAddr Tryz.underlying38 rfl Tryz.sizeOf22 rfl rfl) ?_
  refine SO.takeT rfl rfl rfl rfl ?_
  refine SO.b5 ?_
  refine SO.load1 rfl Tryz.isAgg22 rfl rfl ?_
  refine SO.takeT rfl rfl rfl rfl ?_
  refine SO.v rfl (opv_fieldAddr Tryz.underlying26 rfl Tryz.sizeOf22 rfl rfl) ?_
  refine SO.takeT rfl rfl rfl rfl ?_
  refine SO.b3 ?_
  refine SO.load1 rfl Tryz.isAgg22 rfl rfl ?_
  refine SO.takeT rfl rfl rfl rfl ?_
  obtain ⟨t26, ht27, h⟩ := opt_bind h
  refine SO.call (pre := []) rfl Tryz.call10 rfl rfl rfl (ref10_Same.ct _ v10 v0 _ _ _ ht27) ⟨(Rd.tail (Rd.tail (Rd.tail (Rd.tail (Rd.tail (Rd.tail (Rd.tail (Rd.head hr12)))))))), (Rd.tail (Rd.tail (Rd.tail (Rd.tail (Rd.tail (Rd.tail (Rd.tail (Rd.tail (Rd.head hr5)))))))))⟩ ?_
  rintro _ _ ⟨rfl, rfl⟩
  refine SO.v rfl (opv_pick_tt rfl rfl) ?_
  refine SO.v rfl (opv_move rfl) ?_
  refine SO.cut 3 41 (.bool (t26 && true)) [Box b6 [v0, .int .u32 9, v2], Box b13 [v10, v11], Box b25 [.slice none 0 0, .slice none 0 0], Own 46 ek_stm_Entry v22 ([(⟨0, 0, 0, false⟩ : stm_Entry)]), Own 3 (ekI .i64) v19 t18, Own 3 (ekI .i64) v15 ([0, -7]), OwnR 77 (krS ek_api_Reply) v11 rp9, Own 58 (ekI .u64) v10 w8, Own 58 (ekI .u64) v0 ws1, Own 52 ekS v2 xs9, F] (fun l2 hk2 => ?_) ?_
  · rcases bool_or t26 with b28 | b28
    · refine SO.takeT rfl rfl rfl b28 ?_
      refine SO.v rfl (opv_move rfl) ?_
      refine SO.takeT rfl rfl rfl b28 ?_
      refine SO.v rfl (opv_neqP Tryz.underlying28 rfl) ?_
      refine SO.v rfl (opv_pick_t' b28 rfl rfl) ?_
      refine SO.b10 ?_
      refine SO.b10 ?_
      refine SO.b10 ?_
      refine SO.b10 ?_
      refine SO.b10 ?_
      refine SO.b10 ?_
      refine SO.b10 ?_
      refine SO.b10 ?_
      refine SO.b10 ?_
      refine SO.b10 ?_
      refine SO.b10 ?_
      exact hk2.fitc (m := 3) rfl (and_t b28) rfl
    refine SO.passF rfl rfl rfl b28 rfl rfl ?_
    refine SO.passF rfl rfl rfl b28 rfl rfl ?_
    refine SO.v rfl (opv_pick_f' b28 rfl rfl) ?_
    refine SO.b10 ?_
    refine SO.b10 ?_
    refine SO.b10 ?_
    refine SO.b10 ?_
    refine SO.b10 ?_
    refine SO.b10 ?_
    refine SO.b10 ?_
    refine SO.b10 ?_
    refine SO.b10 ?_
    refine SO.b10 ?_
    refine SO.b10 ?_
    exact hk2.fitc (m := 3) rfl (and_f b28) rfl
  refine SO.v rfl (opv_move rfl) ?_
  refine SO.cut 4 46 (.bool ((t26 && true) && ((t18.length : Int) == 1))) [Box b6 [v0, .int .u32 9, v2], Box b13 [v10, v11], Box b25 [.slice none 0 0, .slice none 0 0], Own 46 ek_stm_Entry v22 ([(⟨0, 0, 0, false⟩ : stm_Entry)]), Own 3 (ekI .i64) v19 t18, Own 3 (ekI .i64) v15 ([0, -7]), OwnR 77 (krS ek_api_Reply) v11 rp9, Own 58 (ekI .u64) v10 w8, Own 58 (ekI .u64) v0 ws1, Own 52 ekS v2 xs9, F] (fun l2 hk2 => ?_) ?_
  · rcases bool_or (t26 && true) with b29 | b29
    · refine SO.takeT rfl rfl rfl b29 ?_
      refine SO.v rfl (opv_move rfl) ?_
      refine SO.takeT rfl rfl rfl b29 ?_
      refine SO.v rfl (opv_lenR rfl Tryz.underlying29 hr20 rfl) ?_
      refine SO.takeT rfl rfl rfl b29 ?_
      refine SO.v rfl (opv_eql rfl rfl) ?_
      refine SO.v rfl (opv_pick_t' b29 rfl rfl) ?_
      refine SO.b10 ?_
      refine SO.b10 ?_
      refine SO.b10 ?_
      refine SO.b10 ?_
      refine SO.b10 ?_
      refine SO.b10 ?_
      refine SO.b10 ?_
      refine SO.b10 ?_
      refine SO.b10 ?_
      refine SO.b10 ?_
      refine SO.b10 ?_
      exact hk2.fitc (m := 4) rfl (and_t b29) rfl
    refine SO.passF rfl rfl rfl b29 rfl rfl ?_
    refine SO.passF rfl rfl rfl b29 rfl rfl ?_
    refine SO.passF rfl rfl rfl b29 rfl rfl ?_
    refine SO.v rfl (opv_pick_f' b29 rfl rfl) ?_
    refine SO.b10 ?_
    refine SO.b10 ?_
    refine SO.b10 ?_
    refine SO.b10 ?_
    refine SO.b10 ?_
    refine SO.b10 ?_
    refine SO.b10 ?_
    refine SO.b10 ?_
    refine SO.b10 ?_
    refine SO.b10 ?_
    refine SO.b10 ?_
    exact hk2.fitc (m := 4) rfl (and_f b29) rfl
  refine SO.v rfl (opv_move rfl) ?_
  obtain ⟨c31, hc32, hgk⟩ := opt_bind h
  refine SO.cut 5 52 (.bool c31) [Box b6 [v0, .int .u32 9, v2], Box b13 [v10, v11], Box b25 [.slice none 0 0, .slice none 0 0], Own 46 ek_stm_Entry v22 ([(⟨0, 0, 0, false⟩ : stm_Entry)]), Own 3 (ekI .i64) v19 t18, Own 3 (ekI .i64) v15 ([0, -7]), OwnR 77 (krS ek_api_Reply) v11 rp9, Own 58 (ekI .u64) v10 w8, Own 58 (ekI .u64) v0 ws1, Own 52 ekS v2 xs9, F] (fun l2 hk2 => ?_) ?_
  · clear hgk
    replace h := hc32
    rcases bool_or ((t26 && true) && ((t18.length : Int) == 1)) with b30 | b30
    · replace h := cond_t b30 h
      refine SO.takeT rfl rfl rfl b30 ?_
      refine SO.v rfl (opv_move rfl) ?_
      refine SO.takeT rfl rfl rfl b30 ?_
      obtain ⟨x33, hx34, h⟩ := opt_bind h
      refine SO.v rfl (opv_idx Tryz.underlying29 Tryz.sizeOf3 hr20 rfl rfl hx34) ?_
      refine SO.takeT rfl rfl rfl b30 ?_
      refine SO.loadI1 (j := 0) rfl Tryz.isAgg3 (Rd.tail (Rd.tail (Rd.tail (Rd.tail (Rd.head hr20))))) hx34 rfl rfl rfl rfl ?_
      refine SO.takeT rfl rfl rfl b30 ?_
      refine SO.v rfl (opv_eql rfl rfl) ?_
      cases h
      refine SO.v rfl (opv_pick_t' b30 rfl rfl) ?_
      refine SO.b10 ?_
      refine SO.b10 ?_
      refine SO.b10 ?_
      refine SO.b10 ?_
      refine SO.b10 ?_
      refine SO.b10 ?_
      refine SO.b10 ?_
      refine SO.b10 ?_
      refine SO.b10 ?_
      refine SO.b10 ?_
      refine SO.b10 ?_
      exact hk2.fitc (m := 5) rfl (rfl) rfl
    replace h := cond_f b30 h
    refine SO.passF rfl rfl rfl b30 rfl rfl ?_
    refine SO.passF rfl rfl rfl b30 rfl rfl ?_
    refine SO.passF rfl rfl rfl b30 rfl rfl ?_
    refine SO.passF rfl rfl rfl b30 rfl rfl ?_
    cases h
    refine SO.v rfl (opv_pick_f' b30 rfl rfl) ?_
    refine SO.b10 ?_
    refine SO.b10 ?_
    refine SO.b10 ?_
    refine SO.b10 ?_
    refine SO.b10 ?_
    refine SO.b10 ?_
    refine SO.b10 ?_
    refine SO.b10 ?_
    refine SO.b10 ?_
    refine SO.b10 ?_
    refine SO.b10 ?_
    exact hk2.fitc (m := 5) rfl (rfl) rfl
  clear hc32
  replace h := hgk
  refine SO.v rfl (opv_move rfl) ?_
  refine SO.cut 3 56 (.bool (c31 && true)) [Box b6 [v0, .int .u32 9, v2], Box b13 [v10, v11], Box b25 [.slice none 0 0, .slice none 0 0], Own 46 ek_stm_Entry v22 ([(⟨0, 0, 0, false⟩ : stm_Entry)]), Own 3 (ekI .i64) v19 t18, Own 3 (ekI .i64) v15 ([0, -7]), OwnR 77 (krS ek_api_Reply) v11 rp9, Own 58 (ekI .u64) v10 w8, Own 58 (ekI .u64) v0 ws1, Own 52 ekS v2 xs9, F] (fun l2 hk2 => ?_) ?_
  · rcases bool_or c31 with b35 | b35
    · refine SO.takeT rfl rfl rfl b35 ?_
      refine SO.v rfl (opv_move rfl) ?_
      refine SO.takeT rfl rfl rfl b35 ?_
      refine SO.veq (v' := .bool true) rfl (opv_eqlN (e := (none : Option Int)) Tryz.underlying31 rfl) rfl ?_
      refine SO.v rfl (opv_pick_t' b35 rfl rfl) ?_
      refine SO.b10 ?_
      refine SO.b10 ?_
      refine SO.b10 ?_
      refine SO.b10 ?_
      refine SO.b10 ?_
      refine SO.b10 ?_
      refine SO.b10 ?_
      refine SO.b10 ?_
      refine SO.b10 ?_
      refine SO.b10 ?_
      refine SO.b10 ?_
      exact hk2.fitc (m := 3) rfl (and_t b35) rfl
    refine SO.passF rfl rfl rfl b35 rfl rfl ?_
    refine SO.passF rfl rfl rfl b35 rfl rfl ?_
    refine SO.v rfl (opv_pick_f' b35 rfl rfl) ?_
    refine SO.b10 ?_
    refine SO.b10 ?_
    refine SO.b10 ?_
    refine SO.b10 ?_
    refine SO.b10 ?_
    refine SO.b10 ?_
    refine SO.b10 ?_
    refine SO.b10 ?_
    refine SO.b10 ?_
    refine SO.b10 ?_
    refine SO.b10 ?_
    exact hk2.fitc (m := 3) rfl (and_f b35) rfl
  refine SO.v rfl (opv_move rfl) ?_
  refine SO.cut 4 61 (.bool ((c31 && true) && ((some 10) == some 10))) [Box b6 [v0, .int .u32 9, v2], Box b13 [v10, v11], Box b25 [.slice none 0 0, .slice none 0 0], Own 46 ek_stm_Entry v22 ([(⟨0, 0, 0, false⟩ : stm_Entry)]), Own 3 (ekI .i64) v19 t18, Own 3 (ekI .i64) v15 ([0, -7]), OwnR 77 (krS ek_api_Reply) v11 rp9, Own 58 (ekI .u64) v10 w8, Own 58 (ekI .u64) v0 ws1, Own 52 ekS v2 xs9, F] (fun l2 hk2 => ?_) ?_
  · rcases bool_or (c31 && true) with b36 | b36
    · refine SO.takeT rfl rfl rfl b36 ?_
      refine SO.v rfl (opv_move rfl) ?_
      refine SO.takeT rfl rfl rfl b36 ?_
      refine SO.v rfl (opv_iface Tryz.underlying42 rfl rfl) ?_
      refine SO.takeT rfl rfl rfl b36 ?_
      refine SO.v rfl (opv_eqlE (e := (some 10)) (c := 10) Tryz.underlying31 Tryz.underlying42 inf42_law23_up rfl rfl rfl) ?_
      refine SO.v rfl (opv_pick_t' b36 rfl rfl) ?_
      refine SO.b10 ?_
      refine SO.b10 ?_
      refine SO.b10 ?_
      refine SO.b10 ?_
      refine SO.b10 ?_
      refine SO.b10 ?_
      refine SO.b10 ?_
      refine SO.b10 ?_
      refine SO.b10 ?_
      refine SO.b10 ?_
      refine SO.b10 ?_
      exact hk2.fitc (m := 4) rfl (and_t b36) rfl
    refine SO.passF rfl rfl rfl b36 rfl rfl ?_
    refine SO.passF rfl rfl rfl b36 rfl rfl ?_
    refine SO.passF rfl rfl rfl b36 rfl rfl ?_
    refine SO.v rfl (opv_pick_f' b36 rfl rfl) ?_
    refine SO.b10 ?_
    refine SO.b10 ?_
    refine SO.b10 ?_
    refine SO.b10 ?_
    refine SO.b10 ?_
    refine SO.b10 ?_
    refine SO.b10 ?_
    refine SO.b10 ?_
    refine SO.b10 ?_
    refine SO.b10 ?_
    refine SO.b10 ?_
    exact hk2.fitc (m := 4) rfl (and_f b36) rfl
  refine SO.v rfl (opv_assign rfl) ?_
  refine SO.nil ?_
  refine S.to (ρ' := [(0, .bool ((c31 && true) && ((some 10) == some 10)))]) ⟨rfl, trivial⟩ ?_
  cases h
  refine S.drop ?_
  refine S.drop ?_
  refine S.drop ?_
  refine S.drop ?_
  refine S.drop ?_
  refine S.drop ?_
  refine S.drop ?_
  refine S.drop ?_
  refine S.drop ?_
  refine S.drop ?_
  exact S.ret1 Tryz.func4 rfl rfl (fun w hs hk => hR w _ _ ⟨rfl, rfl⟩ hs hk)
end Go.Proofs
set_option linter.unusedVariables false
namespace Go.Proofs
open Go.Sl Go.RowKit

/-! 5 padstone/replay.Picks -/
def replay_Picks_large.f (ps : List Int) : Option (Unit) :=
  bif decide (20000 < (ps.length : Int)) then (some ()) else (none)
set_option maxHeartbeats 8000000 in
set_option maxRecDepth 100000 in
theorem replay_Picks_large.ct (vp : Value) (ps : List Int) (h : replay_Picks_large.f ps = some ()) :
    Ct Tryz.prog 5 [.agg #[.slice none 0 0, .int .u32 1, .slice none 0 0], vp] (fun F => Rd (ekI .i64) vp ps F) [] (fun u H' => ∃ p v, u = .tuple #[p, v, errV 42 (some 13)] ∧ H' = []) := by
  unfold replay_Picks_large.f at h
  refine Ct.intro (n := 47) Tryz.func5 rfl rfl rfl ?_
  intro R w0 F hF hR
  refine S.seq ?_
  refine S.region ?_
  refine SO.box rfl rfl rfl (fun b1 => ?_)
  refine SO.v rfl (opv_assign rfl) ?_
  refine SO.v rfl (opv_assign rfl) ?_
  refine SO.v rfl (opv_assign rfl) ?_
  refine SO.nil ?_
  refine S.seq ?_
  refine S.seq ?_
  refine S.region ?_
  refine SO.v rfl (opv_move rfl) ?_
  refine SO.v rfl (opv_lenR rfl Tryz.underlying29 hF rfl) ?_
  refine SO.v rfl (opv_gtr rfl rfl) ?_
  refine SO.nil ?_
  rcases bool_or (decide (20000 < (ps.length : Int))) with b2 | b2
  · replace h := cond_t b2 h
    refine S.condT rfl b2 ?_
    refine S.seq ?_
    refine S.region ?_
    refine SO.v rfl (opv_iface Tryz.underlying42 rfl rfl) ?_
    refine SO.v rfl (opv_assign rfl) ?_
    refine SO.v rfl (opv_assign rfl) ?_
    refine SO.v rfl (opv_assign rfl) ?_
    refine SO.nil ?_
    refine S.to (ρ' := [(4, .pointer none), (5, .slice none 0 0), (6, errV 42 (some 13))]) ⟨rfl, rfl, rfl, trivial⟩ ?_
    cases h
    refine S.drop ?_
    exact S.ret3 Tryz.func5 rfl rfl rfl rfl (fun w hs hk => hR w _ _ ⟨(.pointer none), (.slice none 0 0), rfl, rfl⟩ hs hk)
  replace h := cond_f b2 h
  refine S.condF rfl b2 ?_
  refine S.skip ?_
  refine S.seq ?_
  refine S.region ?_
  refine SO.loadN rfl Tryz.isAgg26 Tryz.sizeOf26 rfl rfl rfl ?_
  cases h
end Go.Proofs
set_option linter.unusedVariables false
namespace Go.Proofs
open Go.Sl Go.RowKit

/-! 5 padstone/replay.Picks -/
def replay_Picks_nil.f (k : Nat) (ws : List Int) (lim : Int) (cs : List (List (List Int))) : Option (Option Int) :=
  (kernel_New.f k ws lim cs).bind fun (t4, s2, ns3) => oE t4 (some none) (fun t4p => some (some t4p))
set_option maxHeartbeats 8000000 in
set_option maxRecDepth 100000 in
theorem replay_Picks_nil.ct (k : Nat) (v0 v2 : Value) (ws : List Int) (lim : Int) (cs : List (List (List Int))) (r0 : Option Int) (h : replay_Picks_nil.f k ws lim cs = some r0) :
    Ct Tryz.prog 5 [.agg #[v0, .int .u32 lim, v2], .slice none 0 0] (fun F => Rd (ekI .u64) v0 ws F ∧ Rd3 (ekI .u64) v2 cs F) [] (fun u H' => ∃ p v, u = .tuple #[p, v, errV 42 r0] ∧ H' = []) := by
  unfold replay_Picks_nil.f at h
  refine Ct.intro (n := 47) Tryz.func5 rfl rfl rfl ?_
  intro R w0 F hF hR
  obtain ⟨hF0, hF2⟩ := hF
  obtain ⟨vs2, hF2, hl2, hR2⟩ := hF2
  refine S.seq ?_
  refine S.region ?_
  refine SO.box rfl rfl rfl (fun b1 => ?_)
  refine SO.v rfl (opv_assign rfl) ?_
  refine SO.v rfl (opv_assign rfl) ?_
  refine SO.v rfl (opv_assign rfl) ?_
  refine SO.nil ?_
  refine S.seq ?_
  refine S.seq ?_
  refine S.region ?_
  refine SO.v rfl (opv_move rfl) ?_
  refine SO.v rfl (opv_len rfl Tryz.underlying29 rfl) ?_
  refine SO.veq (v' := .bool false) rfl (opv_gtr rfl rfl) rfl ?_
  refine SO.nil ?_
  refine S.cond_false rfl ?_
  refine S.skip ?_
  refine S.seq ?_
  refine S.region ?_
  refine SO.loadN rfl Tryz.isAgg26 Tryz.sizeOf26 rfl rfl rfl ?_
  obtain ⟨⟨t4, s2, ns3⟩, ht5, h⟩ := opt_bind h
  rcases t4 with _ | t4p
  · replace h := oE_n h
    refine SO.call (pre := []) rfl Tryz.call6 rfl rfl rfl (kernel_New.ct k v0 v2 ws lim cs _ s2 ns3 ht5) ⟨(Rd.tail (Rd.head hF0)), (Rd3.tail (Rd3.head ⟨_, hF2, hl2, hR2⟩))⟩ ?_
    rintro _ _ ⟨b6, rfl, rfl⟩
    refine SO.v rfl (opv_move rfl) ?_
    refine SO.v rfl (opv_extract rfl rfl) ?_
    refine SO.v rfl (opv_extract rfl rfl) ?_
    refine SO.v rfl (opv_assign rfl) ?_
    refine SO.v rfl (opv_assign rfl) ?_
    refine SO.nil ?_
    refine S.to (ρ' := [(1, .slice none 0 0), (4, .pointer none), (5, .slice none 0 0), (6, errV 42 none), (7, bp b6 0), (8, errV 42 (none : Option Int))]) ⟨rfl, rfl, rfl, rfl, rfl, rfl, trivial⟩ ?_
    refine S.seq ?_
    refine S.seq ?_
    refine S.region ?_
    refine SO.v rfl (opv_move rfl) ?_
    refine SO.veq (v' := .bool false) rfl (opv_neqN (e := (none : Option Int)) Tryz.underlying31 rfl) rfl ?_
    refine SO.nil ?_
    refine S.cond_false rfl ?_
    refine S.skip ?_
    refine S.seq ?_
    refine S.region ?_
    refine SO.v rfl (opv_assign rfl) ?_
    refine SO.nil ?_
    refine S.seq ?_
    refine S.seq ?_
    refine S.region ?_
    refine SO.v rfl (opv_move rfl) ?_
    refine SO.v rfl (opv_len rfl Tryz.underlying29 rfl) ?_
    refine SO.v rfl (opv_move rfl) ?_
    refine SO.nil ?_
    refine S.block ?_
    refine S.loop ?_
    refine S.seq ?_
    refine S.region ?_
    refine SO.veq (v' := .bool false) rfl (opv_lss rfl rfl) rfl ?_
    refine SO.nil ?_
    refine S.seq ?_
    refine S.cond_false rfl ?_
    refine S.exit rfl ?_
    refine S.seq ?_
    refine S.region ?_
    refine SO.v rfl (opv_move rfl) ?_
    refine SO.v rfl (opv_move rfl) ?_
    refine SO.v rfl (opv_assign rfl) ?_
    refine SO.v rfl (opv_assign rfl) ?_
    refine SO.v rfl (opv_assign rfl) ?_
    refine SO.nil ?_
    refine S.to (ρ' := [(4, bp b6 0), (5, .slice none 0 0), (6, errV 42 none)]) ⟨rfl, rfl, rfl, trivial⟩ ?_
    cases h
    refine S.drop ?_
    refine S.drop ?_
    exact S.ret3 Tryz.func5 rfl rfl rfl rfl (fun w hs hk => hR w _ _ ⟨(bp b6 0), (.slice none 0 0), rfl, rfl⟩ hs hk)
  replace h := oE_s h
  refine SO.call (pre := []) rfl Tryz.call6 rfl rfl rfl (kernel_New.ct k v0 v2 ws lim cs _ s2 ns3 ht5) ⟨(Rd.tail (Rd.head hF0)), (Rd3.tail (Rd3.head ⟨_, hF2, hl2, hR2⟩))⟩ ?_
  rintro _ _ ⟨rfl, rfl⟩
  refine SO.v rfl (opv_move rfl) ?_
  refine SO.v rfl (opv_extract rfl rfl) ?_
  refine SO.v rfl (opv_extract rfl rfl) ?_
  refine SO.v rfl (opv_assign rfl) ?_
  refine SO.v rfl (opv_assign rfl) ?_
  refine SO.nil ?_
  refine S.to (ρ' := [(1, .slice none 0 0), (4, .pointer none), (5, .slice none 0 0), (6, errV 42 none), (7, .pointer none), (8, errV 42 (some t4p))]) ⟨rfl, rfl, rfl, rfl, rfl, rfl, trivial⟩ ?_
  refine S.seq ?_
  refine S.seq ?_
  refine S.region ?_
  refine SO.v rfl (opv_move rfl) ?_
  refine SO.veq (v' := .bool true) rfl (opv_neqN (e := (some t4p)) Tryz.underlying31 rfl) rfl ?_
  refine SO.nil ?_
  refine S.cond_true rfl ?_
  refine S.seq ?_
  refine S.region ?_
  refine SO.v rfl (opv_move rfl) ?_
  refine SO.v rfl (opv_assign rfl) ?_
  refine SO.v rfl (opv_assign rfl) ?_
  refine SO.v rfl (opv_assign rfl) ?_
  refine SO.nil ?_
  cases h
  refine S.drop ?_
  exact S.ret3 Tryz.func5 rfl rfl rfl rfl (fun w hs hk => hR w _ _ ⟨(.pointer none), (.slice none 0 0), rfl, rfl⟩ hs hk)
end Go.Proofs
set_option linter.unusedVariables false
namespace Go.Proofs
open Go.Sl Go.RowKit
theorem inf3_law23_ReplayLong : Tryz.prog.info? 3 = some Tryz.t3 := by kernel_rfl
theorem inf42_law23_ReplayLong : Tryz.prog.info? 42 = some Tryz.t42 := by kernel_rfl
/-! 3 padstone/padstonelaw23.ReplayLong -/
def law23_ReplayLong.f (k : Nat) (more : Int) (ws : List Int) (lim : Int) (cs : List (List (List Int))) : Option (Bool) :=
  (law23_up.f k).bind fun t2 => bif (((decide (more < 0)) || (decide (10 < more))) || (decide (1000 < (ws.length : Int)))) || (decide (20 < (cs.length : Int))) then (some t2) else ((mk_ (0 : Int) (w64 (20001 + more))).bind fun xs10 => (replay_Picks_large.f xs10).bind fun _ => (kernel_New.f k ws lim cs).bind fun (t17, s15, ns16) => oE t17 ((replay_Run_nil.f k ws lim cs).bind fun (t20, w21, rp22) => oE t20 ((replay_Picks_nil.f k ws lim cs).bind fun t32 => (law00_Code.f k (none : Option Int)).bind fun t33 => (bif t2 && ((some 13) == some 13) then ((law00_Code.f k (none : Option Int)).bind fun t39 => some (t39 == t33)) else (some false)).bind fun c37 => (bif c37 then ((law00_Code.f k t32).bind fun t44 => some (t44 == t33)) else (some false)).bind fun c42 => some (c42 && (decide (0 ≤ t33)))) (fun t20p => (replay_Picks_nil.f k ws lim cs).bind fun t51 => (law00_Code.f k (none : Option Int)).bind fun t52 => (bif t2 && ((some 13) == some 13) then ((law00_Code.f k (some t20p)).bind fun t58 => some (t58 == t52)) else (some false)).bind fun c56 => (bif c56 then ((law00_Code.f k t51).bind fun t63 => some (t63 == t52)) else (some false)).bind fun c61 => some (c61 && (decide (0 ≤ t52))))) (fun t17p => (replay_Run_nil.f k ws lim cs).bind fun (t66, w67, rp68) => oE t66 ((replay_Picks_nil.f k ws lim cs).bind fun t78 => (law00_Code.f k (some t17p)).bind fun t79 => (bif t2 && ((some 13) == some 13) then ((law00_Code.f k (none : Option Int)).bind fun t85 => some (t85 == t79)) else (some false)).bind fun c83 => (bif c83 then ((law00_Code.f k t78).bind fun t90 => some (t90 == t79)) else (some false)).bind fun c88 => some (c88 && (decide (0 ≤ t79)))) (fun t66p => (replay_Picks_nil.f k ws lim cs).bind fun t97 => (law00_Code.f k (some t17p)).bind fun t98 => (bif t2 && ((some 13) == some 13) then ((law00_Code.f k (some t66p)).bind fun t104 => some (t104 == t98)) else (some false)).bind fun c102 => (bif c102 then ((law00_Code.f k t97).bind fun t109 => some (t109 == t98)) else (some false)).bind fun c107 => some (c107 && (decide (0 ≤ t98))))))
set_option maxHeartbeats 8000000 in
set_option maxRecDepth 100000 in
theorem law23_ReplayLong.ct (k : Nat) (more : Int) (v0 v2 : Value) (ws : List Int) (lim : Int) (cs : List (List (List Int))) (r0 : Bool) (h : law23_ReplayLong.f k more ws lim cs = some r0) :
    Ct Tryz.prog 3 [.int .i64 more, .agg #[v0, .int .u32 lim, v2]] (fun F => Rd (ekI .u64) v0 ws F ∧ Rd3 (ekI .u64) v2 cs F) [] (fun u H' => u = .bool r0 ∧ H' = []) := by
  unfold law23_ReplayLong.f at h
  refine Ct.intro (n := 86) Tryz.func3 rfl rfl rfl ?_
  intro R w0 F hF hR
  obtain ⟨hF0, hF2⟩ := hF
  obtain ⟨vs2, hF2, hl2, hR2⟩ := hF2
  refine S.seq ?_
  refine S.region ?_
  refine SO.box rfl rfl rfl (fun b1 => ?_)
  refine SO.v rfl (opv_assign rfl) ?_
  refine SO.nil ?_
  refine S.seq ?_
  refine S.region ?_
  obtain ⟨t2, ht3, h⟩ := opt_bind h
  refine SO.call (pre := []) rfl Tryz.call4 rfl rfl rfl (law23_up.ct k t2 ht3) trivial ?_
  rintro _ _ ⟨rfl, rfl⟩
  refine SO.v rfl (opv_assign rfl) ?_
  refine SO.nil ?_
  refine S.seq ?_
  refine S.seq ?_
  refine S.region ?_
  refine SO.v rfl (opv_move rfl) ?_
  refine SO.v rfl (opv_lss rfl rfl) ?_
  refine SO.v rfl (opv_move rfl) ?_
  refine SO.cut 3 23 (.bool ((decide (more < 0)) || (decide (10 < more)))) [Box b1 [v0, .int .u32 lim, v2], F] (fun l2 hk2 => ?_) ?_
  · rcases bool_or (decide (more < 0)) with b4 | b4
    · refine SO.passF rfl rfl rfl b4 rfl rfl ?_
      refine SO.passF rfl rfl rfl b4 rfl rfl ?_
      refine SO.v rfl (opv_pick_t' b4 rfl rfl) ?_
      refine SO.b1 ?_
      refine SO.b1 ?_
      exact hk2.fitc (m := 3) rfl (or_t b4) rfl
    refine SO.takeT rfl rfl rfl b4 ?_
    refine SO.v rfl (opv_move rfl) ?_
    refine SO.takeT rfl rfl rfl b4 ?_
    refine SO.v rfl (opv_gtr rfl rfl) ?_
    refine SO.v rfl (opv_pick_f' b4 rfl rfl) ?_
    refine SO.b1 ?_
    refine SO.b1 ?_
    exact hk2.fitc (m := 3) rfl (or_f b4) rfl
  refine SO.v rfl (opv_move rfl) ?_
  refine SO.cut 5 29 (.bool (((decide (more < 0)) || (decide (10 < more))) || (decide (1000 < (ws.length : Int))))) [Box b1 [v0, .int .u32 lim, v2], F] (fun l2 hk2 => ?_) ?_
  · rcases bool_or ((decide (more < 0)) || (decide (10 < more))) with b5 | b5
    · refine SO.passF rfl rfl rfl b5 rfl rfl ?_
      refine SO.passF rfl rfl rfl b5 rfl rfl ?_
      refine SO.passF rfl rfl rfl b5 rfl rfl ?_
      refine SO.passF rfl rfl rfl b5 rfl rfl ?_
      refine SO.v rfl (opv_pick_t' b5 rfl rfl) ?_
      refine SO.b1 ?_
      refine SO.b1 ?_
      exact hk2.fitc (m := 5) rfl (or_t b5) rfl
    refine SO.takeT rfl rfl rfl b5 ?_
    refine SO.v rfl (opv_fieldAddr Tryz.underlying26 rfl Tryz.sizeOf22 rfl rfl) ?_
    refine SO.takeT rfl rfl rfl b5 ?_
    refine SO.load1 rfl Tryz.isAgg22 rfl rfl ?_
    refine SO.takeT rfl rfl rfl b5 ?_
    refine SO.v rfl (opv_lenR rfl Tryz.underlying22 hF0 rfl) ?_
    refine SO.takeT rfl rfl rfl b5 ?_
    refine SO.v rfl (opv_gtr rfl rfl) ?_
    refine SO.v rfl (opv_pick_f' b5 rfl rfl) ?_
    refine SO.b1 ?_
    refine SO.b1 ?_
    exact hk2.fitc (m := 5) rfl (or_f b5) rfl
  refine SO.v rfl (opv_move rfl) ?_
  refine SO.cut 5 35 (.bool ((((decide (more < 0)) || (decide (10 < more))) || (decide (1000 < (ws.length : Int)))) || (decide (20 < (cs.length : Int))))) [Box b1 [v0, .int .u32 lim, v2], F] (fun l2 hk2 => ?_) ?_
  · rcases bool_or (((decide (more < 0)) || (decide (10 < more))) || (decide (1000 < (ws.length : Int)))) with b6 | b6
    · refine SO.passF rfl rfl rfl b6 rfl rfl ?_
      refine SO.passF rfl rfl rfl b6 rfl rfl ?_
      refine SO.passF rfl rfl rfl b6 rfl rfl ?_
      refine SO.passF rfl rfl rfl b6 rfl rfl ?_
      refine SO.v rfl (opv_pick_t' b6 rfl rfl) ?_
      refine SO.b1 ?_
      refine SO.b1 ?_
      exact hk2.fitc (m := 5) rfl (or_t b6) rfl
    refine SO.takeT rfl rfl rfl b6 ?_
    refine SO.v rfl (opv_fieldAddr Tryz.underlying26 rfl Tryz.sizeOf24 rfl rfl) ?_
    refine SO.takeT rfl rfl rfl b6 ?_
    refine SO.load1 rfl Tryz.isAgg24 rfl rfl ?_
    refine SO.takeT rfl rfl rfl b6 ?_
    refine SO.v rfl (opv_len2 rfl Tryz.underlying24 hF2 hl2 rfl) ?_
    refine SO.takeT rfl rfl rfl b6 ?_
    refine SO.v rfl (opv_gtr rfl rfl) ?_
    refine SO.v rfl (opv_pick_f' b6 rfl rfl) ?_
    refine SO.b1 ?_
    refine SO.b1 ?_
    exact hk2.fitc (m := 5) rfl (or_f b6) rfl
  refine SO.nil ?_
  refine S.to (ρ' := [(0, .int .i64 more), (3, bp b1 0), (4, .bool false), (5, .bool t2), (35, .bool ((((decide (more < 0)) || (decide (10 < more))) || (decide (1000 < (ws.length : Int)))) || (decide (20 < (cs.length : Int)))))]) ⟨rfl, rfl, rfl, rfl, rfl, trivial⟩ ?_
  rcases bool_or ((((decide (more < 0)) || (decide (10 < more))) || (decide (1000 < (ws.length : Int)))) || (decide (20 < (cs.length : Int)))) with b7 | b7
  · replace h := cond_t b7 h
    refine S.condT rfl b7 ?_
    refine S.seq ?_
    refine S.region ?_
    refine SO.v rfl (opv_move rfl) ?_
    refine SO.v rfl (opv_assign rfl) ?_
    refine SO.nil ?_
    cases h
    refine S.drop ?_
    exact S.ret1 Tryz.func3 rfl rfl (fun w hs hk => hR w _ _ ⟨rfl, rfl⟩ hs hk)
  replace h := cond_f b7 h
  refine S.condF rfl b7 ?_
  refine S.skip ?_
  refine S.seq ?_
  refine S.region ?_
  refine SO.v rfl (opv_build (v := .agg #[.slice none 0 0, .int .u32 1, .slice none 0 0]) rfl (by intro w; kernel_rfl)) ?_
  refine SO.v rfl (opv_move rfl) ?_
  refine SO.v rfl (opv_add rfl rfl) ?_
  obtain ⟨xs10, hx11, h⟩ := opt_bind h
  refine SO.makeSlice (K := ekI .i64) rfl Tryz.underlying29 inf3_law23_ReplayLong rfl rfl rfl (by decide) rfl rfl rfl hx11 (fun v8 hr9 => ?_)
  obtain ⟨_, ht12, h⟩ := opt_bind h
  refine SO.call (pre := []) rfl Tryz.call5 rfl rfl rfl (replay_Picks_large.ct v8 xs10 ht12) (Rd.head hr9) ?_
  rintro _ _ ⟨p13, v14, rfl, rfl⟩
  refine SO.v rfl (opv_move rfl) ?_
  refine SO.v rfl (opv_extract rfl rfl) ?_
  refine SO.v rfl (opv_extract rfl rfl) ?_
  refine SO.v rfl (opv_extract rfl rfl) ?_
  refine SO.v rfl (opv_assign rfl) ?_
  refine SO.v rfl (opv_assign rfl) ?_
  refine SO.v rfl (opv_assign rfl) ?_
  refine SO.nil ?_
  refine S.to (ρ' := [(3, bp b1 0), (4, .bool false), (5, .bool t2), (8, errV 42 (some 13))]) ⟨rfl, rfl, rfl, rfl, trivial⟩ ?_
  refine S.seq ?_
  refine S.region ?_
  refine SO.b1 ?_
  refine SO.loadN rfl Tryz.isAgg26 Tryz.sizeOf26 rfl rfl rfl ?_
  obtain ⟨⟨t17, s15, ns16⟩, ht18, h⟩ := opt_bind h
  rcases t17 with _ | t17p
  · replace h := oE_n h
    refine SO.call (pre := []) rfl Tryz.call6 rfl rfl rfl (kernel_New.ct k v0 v2 ws lim cs _ s15 ns16 ht18) ⟨(Rd.tail (Rd.tail (Rd.head hF0))), (Rd3.tail (Rd3.tail (Rd3.head ⟨_, hF2, hl2, hR2⟩)))⟩ ?_
    rintro _ _ ⟨b19, rfl, rfl⟩
    refine SO.v rfl (opv_move rfl) ?_
    refine SO.v rfl (opv_extract rfl rfl) ?_
    refine SO.v rfl (opv_extract rfl rfl) ?_
    refine SO.v rfl (opv_assign rfl) ?_
    refine SO.v rfl (opv_assign rfl) ?_
    refine SO.nil ?_
    refine S.seq ?_
    refine S.region ?_
    refine SO.b1 ?_
    refine SO.loadN rfl Tryz.isAgg26 Tryz.sizeOf26 rfl rfl rfl ?_
    obtain ⟨⟨t20, w21, rp22⟩, ht23, h⟩ := opt_bind h
    rcases t20 with _ | t20p
    · replace h := oE_n h
      refine SO.call (pre := []) rfl Tryz.call7 rfl rfl rfl (replay_Run_nil.ct k v0 v2 ws lim cs _ w21 rp22 ht23) ⟨(Rd.tail (Rd.tail (Rd.tail (Rd.head hF0)))), (Rd3.tail (Rd3.tail (Rd3.tail (Rd3.head ⟨_, hF2, hl2, hR2⟩))))⟩ ?_
      rintro _ _ ⟨v24, v25, rfl, rfl⟩
      refine SO.rd fun hr26 => ?_
      refine SO.v rfl (opv_move rfl) ?_
      refine SO.v rfl (opv_extract rfl rfl) ?_
      refine SO.v rfl (opv_extract rfl rfl) ?_
      refine SO.alloc rfl Tryz.zeroValue38 rfl (fun b27 => ?_)
      refine SO.b2 ?_
      refine SO.oneR fun h128 => ?_
      refine SO.b1 ?_
      refine SO.storeN Tryz.sizeOf38 rfl rfl (all1 (Rd.one hr26) (all1 h128 rfl)) rfl rfl rfl ?_
      refine SO.v rfl (opv_assign rfl) ?_
      refine SO.nil ?_
      refine S.to (ρ' := [(3, bp b1 0), (4, .bool false), (5, .bool t2), (8, errV 42 (some 13)), (10, errV 42 (none : Option Int)), (12, errV 42 (none : Option Int))]) ⟨rfl, rfl, rfl, rfl, rfl, rfl, trivial⟩ ?_
      refine S.seq ?_
      refine S.region ?_
      refine SO.b3 ?_
      refine SO.loadN rfl Tryz.isAgg26 Tryz.sizeOf26 rfl rfl rfl ?_
      obtain ⟨t32, ht29, h⟩ := opt_bind h
      refine SO.call (pre := []) rfl Tryz.call5 rfl rfl rfl (replay_Picks_nil.ct k v0 v2 ws lim cs t32 ht29) ⟨(Rd.tail (Rd.tail (Rd.tail (Rd.tail (Rd.tail (Rd.tail (Rd.head hF0))))))), (Rd3.tail (Rd3.tail (Rd3.tail (Rd3.tail (Rd3.tail (Rd3.tail (Rd3.head ⟨_, hF2, hl2, hR2⟩)))))))⟩ ?_
      rintro _ _ ⟨p30, v31, rfl, rfl⟩
      refine SO.v rfl (opv_move rfl) ?_
      refine SO.v rfl (opv_extract rfl rfl) ?_
      refine SO.v rfl (opv_extract rfl rfl) ?_
      refine SO.v rfl (opv_extract rfl rfl) ?_
      refine SO.v rfl (opv_assign rfl) ?_
      refine SO.v rfl (opv_assign rfl) ?_
      refine SO.v rfl (opv_assign rfl) ?_
      refine SO.nil ?_
      refine S.to (ρ' := [(4, .bool false), (5, .bool t2), (8, errV 42 (some 13)), (10, errV 42 (none : Option Int)), (12, errV 42 (none : Option Int)), (15, errV 42 t32)]) ⟨rfl, rfl, rfl, rfl, rfl, rfl, trivial⟩ ?_
      refine S.seq ?_
      refine S.region ?_
      refine SO.v rfl (opv_move rfl) ?_
      obtain ⟨t33, ht34, h⟩ := opt_bind h
      refine SO.call (pre := []) rfl Tryz.call8 rfl rfl rfl (law00_Code.ct _ _ _ ht34) trivial ?_
      rintro _ _ ⟨rfl, rfl⟩
      refine SO.v rfl (opv_assign rfl) ?_
      refine SO.nil ?_
      refine S.seq ?_
      refine S.region ?_
      refine SO.v rfl (opv_move rfl) ?_
      refine SO.v rfl (opv_move rfl) ?_
      refine SO.cut 4 69 (.bool (t2 && ((some 13) == some 13))) [Box b1 [v0, .int .u32 lim, v2], Box b27 [v24, v25], OwnR 77 (krS ek_api_Reply) v25 rp22, Own 58 (ekI .u64) v24 w21, KR b19 ns16 s15 [], Own 3 (ekI .i64) v8 xs10, F] (fun l2 hk2 => ?_) ?_
      · rcases bool_or t2 with b35 | b35
        · refine SO.takeT rfl rfl rfl b35 ?_
          refine SO.v rfl (opv_move rfl) ?_
          refine SO.takeT rfl rfl rfl b35 ?_
          refine SO.v rfl (opv_iface Tryz.underlying42 rfl rfl) ?_
          refine SO.takeT rfl rfl rfl b35 ?_
          refine SO.v rfl (opv_eqlE (e := (some 13)) (c := 13) Tryz.underlying31 Tryz.underlying42 inf42_law23_ReplayLong rfl rfl rfl) ?_
          refine SO.v rfl (opv_pick_t' b35 rfl rfl) ?_
          refine SO.b6 ?_
          refine SO.b6 ?_
          refine SO.b6 ?_
          refine SO.b6 ?_
          refine SO.b6 ?_
          refine SO.b6 ?_
          refine SO.b6 ?_
          exact hk2.fitc (m := 4) rfl (and_t b35) rfl
        refine SO.passF rfl rfl rfl b35 rfl rfl ?_
        refine SO.passF rfl rfl rfl b35 rfl rfl ?_
        refine SO.passF rfl rfl rfl b35 rfl rfl ?_
        refine SO.v rfl (opv_pick_f' b35 rfl rfl) ?_
        refine SO.b6 ?_
        refine SO.b6 ?_
        refine SO.b6 ?_
        refine SO.b6 ?_
        refine SO.b6 ?_
        refine SO.b6 ?_
        refine SO.b6 ?_
        exact hk2.fitc (m := 4) rfl (and_f b35) rfl
      refine SO.v rfl (opv_move rfl) ?_
      obtain ⟨c37, hc38, hgk⟩ := opt_bind h
      refine SO.cut 5 75 (.bool c37) [Box b1 [v0, .int .u32 lim, v2], Box b27 [v24, v25], OwnR 77 (krS ek_api_Reply) v25 rp22, Own 58 (ekI .u64) v24 w21, KR b19 ns16 s15 [], Own 3 (ekI .i64) v8 xs10, F] (fun l2 hk2 => ?_) ?_
      · clear hgk
        replace h := hc38
        rcases bool_or (t2 && ((some 13) == some 13)) with b36 | b36
        · replace h := cond_t b36 h
          refine SO.takeT rfl rfl rfl b36 ?_
          refine SO.v rfl (opv_move rfl) ?_
          refine SO.takeT rfl rfl rfl b36 ?_
          obtain ⟨t39, ht40, h⟩ := opt_bind h
          refine SO.call (pre := []) rfl Tryz.call8 rfl rfl rfl (law00_Code.ct _ _ _ ht40) trivial ?_
          rintro _ _ ⟨rfl, rfl⟩
          refine SO.takeT rfl rfl rfl b36 ?_
          refine SO.v rfl (opv_move rfl) ?_
          refine SO.takeT rfl rfl rfl b36 ?_
          refine SO.v rfl (opv_eql rfl rfl) ?_
          cases h
          refine SO.v rfl (opv_pick_t' b36 rfl rfl) ?_
          refine SO.b6 ?_
          refine SO.b6 ?_
          refine SO.b6 ?_
          refine SO.b6 ?_
          refine SO.b6 ?_
          refine SO.b6 ?_
          refine SO.b6 ?_
          exact hk2.fitc (m := 5) rfl (rfl) rfl
        replace h := cond_f b36 h
        refine SO.passF rfl rfl rfl b36 rfl rfl ?_
        refine SO.passF rfl rfl rfl b36 rfl rfl ?_
        refine SO.passF rfl rfl rfl b36 rfl rfl ?_
        refine SO.passF rfl rfl rfl b36 rfl rfl ?_
        cases h
        refine SO.v rfl (opv_pick_f' b36 rfl rfl) ?_
        refine SO.b6 ?_
        refine SO.b6 ?_
        refine SO.b6 ?_
        refine SO.b6 ?_
        refine SO.b6 ?_
        refine SO.b6 ?_
        refine SO.b6 ?_
        exact hk2.fitc (m := 5) rfl (rfl) rfl
      clear hc38
      replace h := hgk
      refine SO.v rfl (opv_move rfl) ?_
      obtain ⟨c42, hc43, hgk⟩ := opt_bind h
      refine SO.cut 5 81 (.bool c42) [Box b1 [v0, .int .u32 lim, v2], Box b27 [v24, v25], OwnR 77 (krS ek_api_Reply) v25 rp22, Own 58 (ekI .u64) v24 w21, KR b19 ns16 s15 [], Own 3 (ekI .i64) v8 xs10, F] (fun l2 hk2 => ?_) ?_
      · clear hgk
        replace h := hc43
        rcases bool_or c37 with b41 | b41
        · replace h := cond_t b41 h
          refine SO.takeT rfl rfl rfl b41 ?_
          refine SO.v rfl (opv_move rfl) ?_
          refine SO.takeT rfl rfl rfl b41 ?_
          obtain ⟨t44, ht45, h⟩ := opt_bind h
          refine SO.call (pre := []) rfl Tryz.call8 rfl rfl rfl (law00_Code.ct _ _ _ ht45) trivial ?_
          rintro _ _ ⟨rfl, rfl⟩
          refine SO.takeT rfl rfl rfl b41 ?_
          refine SO.v rfl (opv_move rfl) ?_
          refine SO.takeT rfl rfl rfl b41 ?_
          refine SO.v rfl (opv_eql rfl rfl) ?_
          cases h
          refine SO.v rfl (opv_pick_t' b41 rfl rfl) ?_
          refine SO.b6 ?_
          refine SO.b6 ?_
          refine SO.b6 ?_
          refine SO.b6 ?_
          refine SO.b6 ?_
          refine SO.b6 ?_
          refine SO.b6 ?_
          exact hk2.fitc (m := 5) rfl (rfl) rfl
        replace h := cond_f b41 h
        refine SO.passF rfl rfl rfl b41 rfl rfl ?_
        refine SO.passF rfl rfl rfl b41 rfl rfl ?_
        refine SO.passF rfl rfl rfl b41 rfl rfl ?_
        refine SO.passF rfl rfl rfl b41 rfl rfl ?_
        cases h
        refine SO.v rfl (opv_pick_f' b41 rfl rfl) ?_
        refine SO.b6 ?_
        refine SO.b6 ?_
        refine SO.b6 ?_
        refine SO.b6 ?_
        refine SO.b6 ?_
        refine SO.b6 ?_
        refine SO.b6 ?_
        exact hk2.fitc (m := 5) rfl (rfl) rfl
      clear hc43
      replace h := hgk
      refine SO.v rfl (opv_move rfl) ?_
      refine SO.cut 3 85 (.bool (c42 && (decide (0 ≤ t33)))) [Box b1 [v0, .int .u32 lim, v2], Box b27 [v24, v25], OwnR 77 (krS ek_api_Reply) v25 rp22, Own 58 (ekI .u64) v24 w21, KR b19 ns16 s15 [], Own 3 (ekI .i64) v8 xs10, F] (fun l2 hk2 => ?_) ?_
      · rcases bool_or c42 with b46 | b46
        · refine SO.takeT rfl rfl rfl b46 ?_
          refine SO.v rfl (opv_move rfl) ?_
          refine SO.takeT rfl rfl rfl b46 ?_
          refine SO.v rfl (opv_geq rfl rfl) ?_
          refine SO.v rfl (opv_pick_t' b46 rfl rfl) ?_
          refine SO.b6 ?_
          refine SO.b6 ?_
          refine SO.b6 ?_
          refine SO.b6 ?_
          refine SO.b6 ?_
          refine SO.b6 ?_
          refine SO.b6 ?_
          exact hk2.fitc (m := 3) rfl (and_t b46) rfl
        refine SO.passF rfl rfl rfl b46 rfl rfl ?_
        refine SO.passF rfl rfl rfl b46 rfl rfl ?_
        refine SO.v rfl (opv_pick_f' b46 rfl rfl) ?_
        refine SO.b6 ?_
        refine SO.b6 ?_
        refine SO.b6 ?_
        refine SO.b6 ?_
        refine SO.b6 ?_
        refine SO.b6 ?_
        refine SO.b6 ?_
        exact hk2.fitc (m := 3) rfl (and_f b46) rfl
      refine SO.v rfl (opv_assign rfl) ?_
      refine SO.nil ?_
      refine S.to (ρ' := [(4, .bool (c42 && (decide (0 ≤ t33))))]) ⟨rfl, trivial⟩ ?_
      cases h
      refine S.drop ?_
      refine S.drop ?_
      refine S.drop ?_
      refine S.drop ?_
      refine S.drop ?_
      refine S.drop ?_
      exact S.ret1 Tryz.func3 rfl rfl (fun w hs hk => hR w _ _ ⟨rfl, rfl⟩ hs hk)
    replace h := oE_s h
    refine SO.call (pre := []) rfl Tryz.call7 rfl rfl rfl (replay_Run_nil.ct k v0 v2 ws lim cs _ w21 rp22 ht23) ⟨(Rd.tail (Rd.tail (Rd.tail (Rd.head hF0)))), (Rd3.tail (Rd3.tail (Rd3.tail (Rd3.head ⟨_, hF2, hl2, hR2⟩))))⟩ ?_
    rintro _ _ ⟨rfl, rfl⟩
    refine SO.v rfl (opv_move rfl) ?_
    refine SO.v rfl (opv_extract rfl rfl) ?_
    refine SO.v rfl (opv_extract rfl rfl) ?_
    refine SO.alloc rfl Tryz.zeroValue38 rfl (fun b47 => ?_)
    refine SO.storeN Tryz.sizeOf38 rfl rfl rfl rfl rfl rfl ?_
    refine SO.v rfl (opv_assign rfl) ?_
    refine SO.nil ?_
    refine S.to (ρ' := [(3, bp b1 0), (4, .bool false), (5, .bool t2), (8, errV 42 (some 13)), (10, errV 42 (none : Option Int)), (12, errV 42 (some t20p))]) ⟨rfl, rfl, rfl, rfl, rfl, rfl, trivial⟩ ?_
    refine S.seq ?_
    refine S.region ?_
    refine SO.b1 ?_
    refine SO.loadN rfl Tryz.isAgg26 Tryz.sizeOf26 rfl rfl rfl ?_
    obtain ⟨t51, ht48, h⟩ := opt_bind h
    refine SO.call (pre := []) rfl Tryz.call5 rfl rfl rfl (replay_Picks_nil.ct k v0 v2 ws lim cs t51 ht48) ⟨(Rd.tail (Rd.tail (Rd.tail (Rd.tail (Rd.head hF0))))), (Rd3.tail (Rd3.tail (Rd3.tail (Rd3.tail (Rd3.head ⟨_, hF2, hl2, hR2⟩)))))⟩ ?_
    rintro _ _ ⟨p49, v50, rfl, rfl⟩
    refine SO.v rfl (opv_move rfl) ?_
    refine SO.v rfl (opv_extract rfl rfl) ?_
    refine SO.v rfl (opv_extract rfl rfl) ?_
    refine SO.v rfl (opv_extract rfl rfl) ?_
    refine SO.v rfl (opv_assign rfl) ?_
    refine SO.v rfl (opv_assign rfl) ?_
    refine SO.v rfl (opv_assign rfl) ?_
    refine SO.nil ?_
    refine S.to (ρ' := [(4, .bool false), (5, .bool t2), (8, errV 42 (some 13)), (10, errV 42 (none : Option Int)), (12, errV 42 (some t20p)), (15, errV 42 t51)]) ⟨rfl, rfl, rfl, rfl, rfl, rfl, trivial⟩ ?_
    refine S.seq ?_
    refine S.region ?_
    refine SO.v rfl (opv_move rfl) ?_
    obtain ⟨t52, ht53, h⟩ := opt_bind h
    refine SO.call (pre := []) rfl Tryz.call8 rfl rfl rfl (law00_Code.ct _ _ _ ht53) trivial ?_
    rintro _ _ ⟨rfl, rfl⟩
    refine SO.v rfl (opv_assign rfl) ?_
    refine SO.nil ?_
    refine S.seq ?_
    refine S.region ?_
    refine SO.v rfl (opv_move rfl) ?_
    refine SO.v rfl (opv_move rfl) ?_
    refine SO.cut 4 69 (.bool (t2 && ((some 13) == some 13))) [Box b1 [v0, .int .u32 lim, v2], Box b47 [.slice none 0 0, .slice none 0 0], KR b19 ns16 s15 [], Own 3 (ekI .i64) v8 xs10, F] (fun l2 hk2 => ?_) ?_
    · rcases bool_or t2 with b54 | b54
      · refine SO.takeT rfl rfl rfl b54 ?_
        refine SO.v rfl (opv_move rfl) ?_
        refine SO.takeT rfl rfl rfl b54 ?_
        refine SO.v rfl (opv_iface Tryz.underlying42 rfl rfl) ?_
        refine SO.takeT rfl rfl rfl b54 ?_
        refine SO.v rfl (opv_eqlE (e := (some 13)) (c := 13) Tryz.underlying31 Tryz.underlying42 inf42_law23_ReplayLong rfl rfl rfl) ?_
        refine SO.v rfl (opv_pick_t' b54 rfl rfl) ?_
        refine SO.b4 ?_
        refine SO.b4 ?_
        refine SO.b4 ?_
        refine SO.b4 ?_
        refine SO.b4 ?_
        exact hk2.fitc (m := 4) rfl (and_t b54) rfl
      refine SO.passF rfl rfl rfl b54 rfl rfl ?_
      refine SO.passF rfl rfl rfl b54 rfl rfl ?_
      refine SO.passF rfl rfl rfl b54 rfl rfl ?_
      refine SO.v rfl (opv_pick_f' b54 rfl rfl) ?_
      refine SO.b4 ?_
      refine SO.b4 ?_
      refine SO.b4 ?_
      refine SO.b4 ?_
      refine SO.b4 ?_
      exact hk2.fitc (m := 4) rfl (and_f b54) rfl
    refine SO.v rfl (opv_move rfl) ?_
    obtain ⟨c56, hc57, hgk⟩ := opt_bind h
    refine SO.cut 5 75 (.bool c56) [Box b1 [v0, .int .u32 lim, v2], Box b47 [.slice none 0 0, .slice none 0 0], KR b19 ns16 s15 [], Own 3 (ekI .i64) v8 xs10, F] (fun l2 hk2 => ?_) ?_
    · clear hgk
      replace h := hc57
      rcases bool_or (t2 && ((some 13) == some 13)) with b55 | b55
      · replace h := cond_t b55 h
        refine SO.takeT rfl rfl rfl b55 ?_
        refine SO.v rfl (opv_move rfl) ?_
        refine SO.takeT rfl rfl rfl b55 ?_
        obtain ⟨t58, ht59, h⟩ := opt_bind h
        refine SO.call (pre := []) rfl Tryz.call8 rfl rfl rfl (law00_Code.ct _ _ _ ht59) trivial ?_
        rintro _ _ ⟨rfl, rfl⟩
        refine SO.takeT rfl rfl rfl b55 ?_
        refine SO.v rfl (opv_move rfl) ?_
        refine SO.takeT rfl rfl rfl b55 ?_
        refine SO.v rfl (opv_eql rfl rfl) ?_
        cases h
        refine SO.v rfl (opv_pick_t' b55 rfl rfl) ?_
        refine SO.b4 ?_
        refine SO.b4 ?_
        refine SO.b4 ?_
        refine SO.b4 ?_
        refine SO.b4 ?_
        exact hk2.fitc (m := 5) rfl (rfl) rfl
      replace h := cond_f b55 h
      refine SO.passF rfl rfl rfl b55 rfl rfl ?_
      refine SO.passF rfl rfl rfl b55 rfl rfl ?_
      refine SO.passF rfl rfl rfl b55 rfl rfl ?_
      refine SO.passF rfl rfl rfl b55 rfl rfl ?_
      cases h
      refine SO.v rfl (opv_pick_f' b55 rfl rfl) ?_
      refine SO.b4 ?_
      refine SO.b4 ?_
      refine SO.b4 ?_
      refine SO.b4 ?_
      refine SO.b4 ?_
      exact hk2.fitc (m := 5) rfl (rfl) rfl
    clear hc57
    replace h := hgk
    refine SO.v rfl (opv_move rfl) ?_
    obtain ⟨c61, hc62, hgk⟩ := opt_bind h
    refine SO.cut 5 81 (.bool c61) [Box b1 [v0, .int .u32 lim, v2], Box b47 [.slice none 0 0, .slice none 0 0], KR b19 ns16 s15 [], Own 3 (ekI .i64) v8 xs10, F] (fun l2 hk2 => ?_) ?_
    · clear hgk
      replace h := hc62
      rcases bool_or c56 with b60 | b60
      · replace h := cond_t b60 h
        refine SO.takeT rfl rfl rfl b60 ?_
        refine SO.v rfl (opv_move rfl) ?_
        refine SO.takeT rfl rfl rfl b60 ?_
        obtain ⟨t63, ht64, h⟩ := opt_bind h
        refine SO.call (pre := []) rfl Tryz.call8 rfl rfl rfl (law00_Code.ct _ _ _ ht64) trivial ?_
        rintro _ _ ⟨rfl, rfl⟩
        refine SO.takeT rfl rfl rfl b60 ?_
        refine SO.v rfl (opv_move rfl) ?_
        refine SO.takeT rfl rfl rfl b60 ?_
        refine SO.v rfl (opv_eql rfl rfl) ?_
        cases h
        refine SO.v rfl (opv_pick_t' b60 rfl rfl) ?_
        refine SO.b4 ?_
        refine SO.b4 ?_
        refine SO.b4 ?_
        refine SO.b4 ?_
        refine SO.b4 ?_
        exact hk2.fitc (m := 5) rfl (rfl) rfl
      replace h := cond_f b60 h
      refine SO.passF rfl rfl rfl b60 rfl rfl ?_
      refine SO.passF rfl rfl rfl b60 rfl rfl ?_
      refine SO.passF rfl rfl rfl b60 rfl rfl ?_
      refine SO.passF rfl rfl rfl b60 rfl rfl ?_
      cases h
      refine SO.v rfl (opv_pick_f' b60 rfl rfl) ?_
      refine SO.b4 ?_
      refine SO.b4 ?_
      refine SO.b4 ?_
      refine SO.b4 ?_
      refine SO.b4 ?_
      exact hk2.fitc (m := 5) rfl (rfl) rfl
    clear hc62
    replace h := hgk
    refine SO.v rfl (opv_move rfl) ?_
    refine SO.cut 3 85 (.bool (c61 && (decide (0 ≤ t52)))) [Box b1 [v0, .int .u32 lim, v2], Box b47 [.slice none 0 0, .slice none 0 0], KR b19 ns16 s15 [], Own 3 (ekI .i64) v8 xs10, F] (fun l2 hk2 => ?_) ?_
    · rcases bool_or c61 with b65 | b65
      · refine SO.takeT rfl rfl rfl b65 ?_
        refine SO.v rfl (opv_move rfl) ?_
        refine SO.takeT rfl rfl rfl b65 ?_
        refine SO.v rfl (opv_geq rfl rfl) ?_
        refine SO.v rfl (opv_pick_t' b65 rfl rfl) ?_
        refine SO.b4 ?_
        refine SO.b4 ?_
        refine SO.b4 ?_
        refine SO.b4 ?_
        refine SO.b4 ?_
        exact hk2.fitc (m := 3) rfl (and_t b65) rfl
      refine SO.passF rfl rfl rfl b65 rfl rfl ?_
      refine SO.passF rfl rfl rfl b65 rfl rfl ?_
      refine SO.v rfl (opv_pick_f' b65 rfl rfl) ?_
      refine SO.b4 ?_
      refine SO.b4 ?_
      refine SO.b4 ?_
      refine SO.b4 ?_
      refine SO.b4 ?_
      exact hk2.fitc (m := 3) rfl (and_f b65) rfl
    refine SO.v rfl (opv_assign rfl) ?_
    refine SO.nil ?_
    refine S.to (ρ' := [(4, .bool (c61 && (decide (0 ≤ t52))))]) ⟨rfl, trivial⟩ ?_
    cases h
    refine S.drop ?_
    refine S.drop ?_
    refine S.drop ?_
    refine S.drop ?_
    exact S.ret1 Tryz.func3 rfl rfl (fun w hs hk => hR w _ _ ⟨rfl, rfl⟩ hs hk)
  replace h := oE_s h
  refine SO.call (pre := []) rfl Tryz.call6 rfl rfl rfl (kernel_New.ct k v0 v2 ws lim cs _ s15 ns16 ht18) ⟨(Rd.tail (Rd.tail (Rd.head hF0))), (Rd3.tail (Rd3.tail (Rd3.head ⟨_, hF2, hl2, hR2⟩)))⟩ ?_
  rintro _ _ ⟨rfl, rfl⟩
  refine SO.v rfl (opv_move rfl) ?_
  refine SO.v rfl (opv_extract rfl rfl) ?_
  refine SO.v rfl (opv_extract rfl rfl) ?_
  refine SO.v rfl (opv_assign rfl) ?_
  refine SO.v rfl (opv_assign rfl) ?_
  refine SO.nil ?_
  refine S.seq ?_
  refine S.region ?_
  refine SO.loadN rfl Tryz.isAgg26 Tryz.sizeOf26 rfl rfl rfl ?_
  obtain ⟨⟨t66, w67, rp68⟩, ht69, h⟩ := opt_bind h
  rcases t66 with _ | t66p
  · replace h := oE_n h
    refine SO.call (pre := []) rfl Tryz.call7 rfl rfl rfl (replay_Run_nil.ct k v0 v2 ws lim cs _ w67 rp68 ht69) ⟨(Rd.tail (Rd.tail (Rd.head hF0))), (Rd3.tail (Rd3.tail (Rd3.head ⟨_, hF2, hl2, hR2⟩)))⟩ ?_
    rintro _ _ ⟨v70, v71, rfl, rfl⟩
    refine SO.rd fun hr72 => ?_
    refine SO.v rfl (opv_move rfl) ?_
    refine SO.v rfl (opv_extract rfl rfl) ?_
    refine SO.v rfl (opv_extract rfl rfl) ?_
    refine SO.alloc rfl Tryz.zeroValue38 rfl (fun b73 => ?_)
    refine SO.b2 ?_
    refine SO.oneR fun h174 => ?_
    refine SO.b1 ?_
    refine SO.storeN Tryz.sizeOf38 rfl rfl (all1 (Rd.one hr72) (all1 h174 rfl)) rfl rfl rfl ?_
    refine SO.v rfl (opv_assign rfl) ?_
    refine SO.nil ?_
    refine S.to (ρ' := [(3, bp b1 0), (4, .bool false), (5, .bool t2), (8, errV 42 (some 13)), (10, errV 42 (some t17p)), (12, errV 42 (none : Option Int))]) ⟨rfl, rfl, rfl, rfl, rfl, rfl, trivial⟩ ?_
    refine S.seq ?_
    refine S.region ?_
    refine SO.b3 ?_
    refine SO.loadN rfl Tryz.isAgg26 Tryz.sizeOf26 rfl rfl rfl ?_
    obtain ⟨t78, ht75, h⟩ := opt_bind h
    refine SO.call (pre := []) rfl Tryz.call5 rfl rfl rfl (replay_Picks_nil.ct k v0 v2 ws lim cs t78 ht75) ⟨(Rd.tail (Rd.tail (Rd.tail (Rd.tail (Rd.tail (Rd.head hF0)))))), (Rd3.tail (Rd3.tail (Rd3.tail (Rd3.tail (Rd3.tail (Rd3.head ⟨_, hF2, hl2, hR2⟩))))))⟩ ?_
    rintro _ _ ⟨p76, v77, rfl, rfl⟩
    refine SO.v rfl (opv_move rfl) ?_
    refine SO.v rfl (opv_extract rfl rfl) ?_
    refine SO.v rfl (opv_extract rfl rfl) ?_
    refine SO.v rfl (opv_extract rfl rfl) ?_
    refine SO.v rfl (opv_assign rfl) ?_
    refine SO.v rfl (opv_assign rfl) ?_
    refine SO.v rfl (opv_assign rfl) ?_
    refine SO.nil ?_
    refine S.to (ρ' := [(4, .bool false), (5, .bool t2), (8, errV 42 (some 13)), (10, errV 42 (some t17p)), (12, errV 42 (none : Option Int)), (15, errV 42 t78)]) ⟨rfl, rfl, rfl, rfl, rfl, rfl, trivial⟩ ?_
    refine S.seq ?_
    refine S.region ?_
    refine SO.v rfl (opv_move rfl) ?_
    obtain ⟨t79, ht80, h⟩ := opt_bind h
    refine SO.call (pre := []) rfl Tryz.call8 rfl rfl rfl (law00_Code.ct _ _ _ ht80) trivial ?_
    rintro _ _ ⟨rfl, rfl⟩
    refine SO.v rfl (opv_assign rfl) ?_
    refine SO.nil ?_
    refine S.seq ?_
    refine S.region ?_
    refine SO.v rfl (opv_move rfl) ?_
    refine SO.v rfl (opv_move rfl) ?_
    refine SO.cut 4 69 (.bool (t2 && ((some 13) == some 13))) [Box b1 [v0, .int .u32 lim, v2], Box b73 [v70, v71], OwnR 77 (krS ek_api_Reply) v71 rp68, Own 58 (ekI .u64) v70 w67, Own 3 (ekI .i64) v8 xs10, F] (fun l2 hk2 => ?_) ?_
    · rcases bool_or t2 with b81 | b81
      · refine SO.takeT rfl rfl rfl b81 ?_
        refine SO.v rfl (opv_move rfl) ?_
        refine SO.takeT rfl rfl rfl b81 ?_
        refine SO.v rfl (opv_iface Tryz.underlying42 rfl rfl) ?_
        refine SO.takeT rfl rfl rfl b81 ?_
        refine SO.v rfl (opv_eqlE (e := (some 13)) (c := 13) Tryz.underlying31 Tryz.underlying42 inf42_law23_ReplayLong rfl rfl rfl) ?_
        refine SO.v rfl (opv_pick_t' b81 rfl rfl) ?_
        refine SO.b5 ?_
        refine SO.b5 ?_
        refine SO.b5 ?_
        refine SO.b5 ?_
        refine SO.b5 ?_
        refine SO.b5 ?_
        exact hk2.fitc (m := 4) rfl (and_t b81) rfl
      refine SO.passF rfl rfl rfl b81 rfl rfl ?_
      refine SO.passF rfl rfl rfl b81 rfl rfl ?_
      refine SO.passF rfl rfl rfl b81 rfl rfl ?_
      refine SO.v rfl (opv_pick_f' b81 rfl rfl) ?_
      refine SO.b5 ?_
      refine SO.b5 ?_
      refine SO.b5 ?_
      refine SO.b5 ?_
      refine SO.b5 ?_
      refine SO.b5 ?_
      exact hk2.fitc (m := 4) rfl (and_f b81) rfl
    refine SO.v rfl (opv_move rfl) ?_
    obtain ⟨c83, hc84, hgk⟩ := opt_bind h
    refine SO.cut 5 75 (.bool c83) [Box b1 [v0, .int .u32 lim, v2], Box b73 [v70, v71], OwnR 77 (krS ek_api_Reply) v71 rp68, Own 58 (ekI .u64) v70 w67, Own 3 (ekI .i64) v8 xs10, F] (fun l2 hk2 => ?_) ?_
    · clear hgk
      replace h := hc84
      rcases bool_or (t2 && ((some 13) == some 13)) with b82 | b82
      · replace h := cond_t b82 h
        refine SO.takeT rfl rfl rfl b82 ?_
        refine SO.v rfl (opv_move rfl) ?_
        refine SO.takeT rfl rfl rfl b82 ?_
        obtain ⟨t85, ht86, h⟩ := opt_bind h
        refine SO.call (pre := []) rfl Tryz.call8 rfl rfl rfl (law00_Code.ct _ _ _ ht86) trivial ?_
        rintro _ _ ⟨rfl, rfl⟩
        refine SO.takeT rfl rfl rfl b82 ?_
        refine SO.v rfl (opv_move rfl) ?_
        refine SO.takeT rfl rfl rfl b82 ?_
        refine SO.v rfl (opv_eql rfl rfl) ?_
        cases h
        refine SO.v rfl (opv_pick_t' b82 rfl rfl) ?_
        refine SO.b5 ?_
        refine SO.b5 ?_
        refine SO.b5 ?_
        refine SO.b5 ?_
        refine SO.b5 ?_
        refine SO.b5 ?_
        exact hk2.fitc (m := 5) rfl (rfl) rfl
      replace h := cond_f b82 h
      refine SO.passF rfl rfl rfl b82 rfl rfl ?_
      refine SO.passF rfl rfl rfl b82 rfl rfl ?_
      refine SO.passF rfl rfl rfl b82 rfl rfl ?_
      refine SO.passF rfl rfl rfl b82 rfl rfl ?_
      cases h
      refine SO.v rfl (opv_pick_f' b82 rfl rfl) ?_
      refine SO.b5 ?_
      refine SO.b5 ?_
      refine SO.b5 ?_
      refine SO.b5 ?_
      refine SO.b5 ?_
      refine SO.b5 ?_
      exact hk2.fitc (m := 5) rfl (rfl) rfl
    clear hc84
    replace h := hgk
    refine SO.v rfl (opv_move rfl) ?_
    obtain ⟨c88, hc89, hgk⟩ := opt_bind h
    refine SO.cut 5 81 (.bool c88) [Box b1 [v0, .int .u32 lim, v2], Box b73 [v70, v71], OwnR 77 (krS ek_api_Reply) v71 rp68, Own 58 (ekI .u64) v70 w67, Own 3 (ekI .i64) v8 xs10, F] (fun l2 hk2 => ?_) ?_
    · clear hgk
      replace h := hc89
      rcases bool_or c83 with b87 | b87
      · replace h := cond_t b87 h
        refine SO.takeT rfl rfl rfl b87 ?_
        refine SO.v rfl (opv_move rfl) ?_
        refine SO.takeT rfl rfl rfl b87 ?_
        obtain ⟨t90, ht91, h⟩ := opt_bind h
        refine SO.call (pre := []) rfl Tryz.call8 rfl rfl rfl (law00_Code.ct _ _ _ ht91) trivial ?_
        rintro _ _ ⟨rfl, rfl⟩
        refine SO.takeT rfl rfl rfl b87 ?_
        refine SO.v rfl (opv_move rfl) ?_
        refine SO.takeT rfl rfl rfl b87 ?_
        refine SO.v rfl (opv_eql rfl rfl) ?_
        cases h
        refine SO.v rfl (opv_pick_t' b87 rfl rfl) ?_
        refine SO.b5 ?_
        refine SO.b5 ?_
        refine SO.b5 ?_
        refine SO.b5 ?_
        refine SO.b5 ?_
        refine SO.b5 ?_
        exact hk2.fitc (m := 5) rfl (rfl) rfl
      replace h := cond_f b87 h
      refine SO.passF rfl rfl rfl b87 rfl rfl ?_
      refine SO.passF rfl rfl rfl b87 rfl rfl ?_
      refine SO.passF rfl rfl rfl b87 rfl rfl ?_
      refine SO.passF rfl rfl rfl b87 rfl rfl ?_
      cases h
      refine SO.v rfl (opv_pick_f' b87 rfl rfl) ?_
      refine SO.b5 ?_
      refine SO.b5 ?_
      refine SO.b5 ?_
      refine SO.b5 ?_
      refine SO.b5 ?_
      refine SO.b5 ?_
      exact hk2.fitc (m := 5) rfl (rfl) rfl
    clear hc89
    replace h := hgk
    refine SO.v rfl (opv_move rfl) ?_
    refine SO.cut 3 85 (.bool (c88 && (decide (0 ≤ t79)))) [Box b1 [v0, .int .u32 lim, v2], Box b73 [v70, v71], OwnR 77 (krS ek_api_Reply) v71 rp68, Own 58 (ekI .u64) v70 w67, Own 3 (ekI .i64) v8 xs10, F] (fun l2 hk2 => ?_) ?_
    · rcases bool_or c88 with b92 | b92
      · refine SO.takeT rfl rfl rfl b92 ?_
        refine SO.v rfl (opv_move rfl) ?_
        refine SO.takeT rfl rfl rfl b92 ?_
        refine SO.v rfl (opv_geq rfl rfl) ?_
        refine SO.v rfl (opv_pick_t' b92 rfl rfl) ?_
        refine SO.b5 ?_
        refine SO.b5 ?_
        refine SO.b5 ?_
        refine SO.b5 ?_
        refine SO.b5 ?_
        refine SO.b5 ?_
        exact hk2.fitc (m := 3) rfl (and_t b92) rfl
      refine SO.passF rfl rfl rfl b92 rfl rfl ?_
      refine SO.passF rfl rfl rfl b92 rfl rfl ?_
      refine SO.v rfl (opv_pick_f' b92 rfl rfl) ?_
      refine SO.b5 ?_
      refine SO.b5 ?_
      refine SO.b5 ?_
      refine SO.b5 ?_
      refine SO.b5 ?_
      refine SO.b5 ?_
      exact hk2.fitc (m := 3) rfl (and_f b92) rfl
    refine SO.v rfl (opv_assign rfl) ?_
    refine SO.nil ?_
    refine S.to (ρ' := [(4, .bool (c88 && (decide (0 ≤ t79))))]) ⟨rfl, trivial⟩ ?_
    cases h
    refine S.drop ?_
    refine S.drop ?_
    refine S.drop ?_
    refine S.drop ?_
    refine S.drop ?_
    exact S.ret1 Tryz.func3 rfl rfl (fun w hs hk => hR w _ _ ⟨rfl, rfl⟩ hs hk)
  replace h := oE_s h
  refine SO.call (pre := []) rfl Tryz.call7 rfl rfl rfl (replay_Run_nil.ct k v0 v2 ws lim cs _ w67 rp68 ht69) ⟨(Rd.tail (Rd.tail (Rd.head hF0))), (Rd3.tail (Rd3.tail (Rd3.head ⟨_, hF2, hl2, hR2⟩)))⟩ ?_
  rintro _ _ ⟨rfl, rfl⟩
  refine SO.v rfl (opv_move rfl) ?_
  refine SO.v rfl (opv_extract rfl rfl) ?_
  refine SO.v rfl (opv_extract rfl rfl) ?_
  refine SO.alloc rfl Tryz.zeroValue38 rfl (fun b93 => ?_)
  refine SO.storeN Tryz.sizeOf38 rfl rfl rfl rfl rfl rfl ?_
  refine SO.v rfl (opv_assign rfl) ?_
  refine SO.nil ?_
  refine S.to (ρ' := [(3, bp b1 0), (4, .bool false), (5, .bool t2), (8, errV 42 (some 13)), (10, errV 42 (some t17p)), (12, errV 42 (some t66p))]) ⟨rfl, rfl, rfl, rfl, rfl, rfl, trivial⟩ ?_
  refine S.seq ?_
  refine S.region ?_
  refine SO.b1 ?_
  refine SO.loadN rfl Tryz.isAgg26 Tryz.sizeOf26 rfl rfl rfl ?_
  obtain ⟨t97, ht94, h⟩ := opt_bind h
  refine SO.call (pre := []) rfl Tryz.call5 rfl rfl rfl (replay_Picks_nil.ct k v0 v2 ws lim cs t97 ht94) ⟨(Rd.tail (Rd.tail (Rd.tail (Rd.head hF0)))), (Rd3.tail (Rd3.tail (Rd3.tail (Rd3.head ⟨_, hF2, hl2, hR2⟩))))⟩ ?_
  rintro _ _ ⟨p95, v96, rfl, rfl⟩
  refine SO.v rfl (opv_move rfl) ?_
  refine SO.v rfl (opv_extract rfl rfl) ?_
  refine SO.v rfl (opv_extract rfl rfl) ?_
  refine SO.v rfl (opv_extract rfl rfl) ?_
  refine SO.v rfl (opv_assign rfl) ?_
  refine SO.v rfl (opv_assign rfl) ?_
  refine SO.v rfl (opv_assign rfl) ?_
  refine SO.nil ?_
  refine S.to (ρ' := [(4, .bool false), (5, .bool t2), (8, errV 42 (some 13)), (10, errV 42 (some t17p)), (12, errV 42 (some t66p)), (15, errV 42 t97)]) ⟨rfl, rfl, rfl, rfl, rfl, rfl, trivial⟩ ?_
  refine S.seq ?_
  refine S.region ?_
  refine SO.v rfl (opv_move rfl) ?_
  obtain ⟨t98, ht99, h⟩ := opt_bind h
  refine SO.call (pre := []) rfl Tryz.call8 rfl rfl rfl (law00_Code.ct _ _ _ ht99) trivial ?_
  rintro _ _ ⟨rfl, rfl⟩
  refine SO.v rfl (opv_assign rfl) ?_
  refine SO.nil ?_
  refine S.seq ?_
  refine S.region ?_
  refine SO.v rfl (opv_move rfl) ?_
  refine SO.v rfl (opv_move rfl) ?_
  refine SO.cut 4 69 (.bool (t2 && ((some 13) == some 13))) [Box b1 [v0, .int .u32 lim, v2], Box b93 [.slice none 0 0, .slice none 0 0], Own 3 (ekI .i64) v8 xs10, F] (fun l2 hk2 => ?_) ?_
  · rcases bool_or t2 with b100 | b100
    · refine SO.takeT rfl rfl rfl b100 ?_
      refine SO.v rfl (opv_move rfl) ?_
      refine SO.takeT rfl rfl rfl b100 ?_
      refine SO.v rfl (opv_iface Tryz.underlying42 rfl rfl) ?_
      refine SO.takeT rfl rfl rfl b100 ?_
      refine SO.v rfl (opv_eqlE (e := (some 13)) (c := 13) Tryz.underlying31 Tryz.underlying42 inf42_law23_ReplayLong rfl rfl rfl) ?_
      refine SO.v rfl (opv_pick_t' b100 rfl rfl) ?_
      refine SO.b3 ?_
      refine SO.b3 ?_
      refine SO.b3 ?_
      refine SO.b3 ?_
      exact hk2.fitc (m := 4) rfl (and_t b100) rfl
    refine SO.passF rfl rfl rfl b100 rfl rfl ?_
    refine SO.passF rfl rfl rfl b100 rfl rfl ?_
    refine SO.passF rfl rfl rfl b100 rfl rfl ?_
    refine SO.v rfl (opv_pick_f' b100 rfl rfl) ?_
    refine SO.b3 ?_
    refine SO.b3 ?_
    refine SO.b3 ?_
    refine SO.b3 ?_
    exact hk2.fitc (m := 4) rfl (and_f b100) rfl
  refine SO.v rfl (opv_move rfl) ?_
  obtain ⟨c102, hc103, hgk⟩ := opt_bind h
  refine SO.cut 5 75 (.bool c102) [Box b1 [v0, .int .u32 lim, v2], Box b93 [.slice none 0 0, .slice none 0 0], Own 3 (ekI .i64) v8 xs10, F] (fun l2 hk2 => ?_) ?_
  · clear hgk
    replace h := hc103
    rcases bool_or (t2 && ((some 13) == some 13)) with b101 | b101
    · replace h := cond_t b101 h
      refine SO.takeT rfl rfl rfl b101 ?_
      refine SO.v rfl (opv_move rfl) ?_
      refine SO.takeT rfl rfl rfl b101 ?_
      obtain ⟨t104, ht105, h⟩ := opt_bind h
      refine SO.call (pre := []) rfl Tryz.call8 rfl rfl rfl (law00_Code.ct _ _ _ ht105) trivial ?_
      rintro _ _ ⟨rfl, rfl⟩
      refine SO.takeT rfl rfl rfl b101 ?_
      refine SO.v rfl (opv_move rfl) ?_
      refine SO.takeT rfl rfl rfl b101 ?_
      refine SO.v rfl (opv_eql rfl rfl) ?_
      cases h
      refine SO.v rfl (opv_pick_t' b101 rfl rfl) ?_
      refine SO.b3 ?_
      refine SO.b3 ?_
      refine SO.b3 ?_
      refine SO.b3 ?_
      exact hk2.fitc (m := 5) rfl (rfl) rfl
    replace h := cond_f b101 h
    refine SO.passF rfl rfl rfl b101 rfl rfl ?_
    refine SO.passF rfl rfl rfl b101 rfl rfl ?_
    refine SO.passF rfl rfl rfl b101 rfl rfl ?_
    refine SO.passF rfl rfl rfl b101 rfl rfl ?_
    cases h
    refine SO.v rfl (opv_pick_f' b101 rfl rfl) ?_
    refine SO.b3 ?_
    refine SO.b3 ?_
    refine SO.b3 ?_
    refine SO.b3 ?_
    exact hk2.fitc (m := 5) rfl (rfl) rfl
  clear hc103
  replace h := hgk
  refine SO.v rfl (opv_move rfl) ?_
  obtain ⟨c107, hc108, hgk⟩ := opt_bind h
  refine SO.cut 5 81 (.bool c107) [Box b1 [v0, .int .u32 lim, v2], Box b93 [.slice none 0 0, .slice none 0 0], Own 3 (ekI .i64) v8 xs10, F] (fun l2 hk2 => ?_) ?_
  · clear hgk
    replace h := hc108
    rcases bool_or c102 with b106 | b106
    · replace h := cond_t b106 h
      refine SO.takeT rfl rfl rfl b106 ?_
      refine SO.v rfl (opv_move rfl) ?_
      refine SO.takeT rfl rfl rfl b106 ?_
      obtain ⟨t109, ht110, h⟩ := opt_bind h
      refine SO.call (pre := []) rfl Tryz.call8 rfl rfl rfl (law00_Code.ct _ _ _ ht110) trivial ?_
      rintro _ _ ⟨rfl, rfl⟩
      refine SO.takeT rfl rfl rfl b106 ?_
      refine SO.v rfl (opv_move rfl) ?_
      refine SO.takeT rfl rfl rfl b106 ?_
      refine SO.v rfl (opv_eql rfl rfl) ?_
      cases h
      refine SO.v rfl (opv_pick_t' b106 rfl rfl) ?_
      refine SO.b3 ?_
      refine SO.b3 ?_
      refine SO.b3 ?_
      refine SO.b3 ?_
      exact hk2.fitc (m := 5) rfl (rfl) rfl
    replace h := cond_f b106 h
    refine SO.passF rfl rfl rfl b106 rfl rfl ?_
    refine SO.passF rfl rfl rfl b106 rfl rfl ?_
    refine SO.passF rfl rfl rfl b106 rfl rfl ?_
    refine SO.passF rfl rfl rfl b106 rfl rfl ?_
    cases h
    refine SO.v rfl (opv_pick_f' b106 rfl rfl) ?_
    refine SO.b3 ?_
    refine SO.b3 ?_
    refine SO.b3 ?_
    refine SO.b3 ?_
    exact hk2.fitc (m := 5) rfl (rfl) rfl
  clear hc108
  replace h := hgk
  refine SO.v rfl (opv_move rfl) ?_
  refine SO.cut 3 85 (.bool (c107 && (decide (0 ≤ t98)))) [Box b1 [v0, .int .u32 lim, v2], Box b93 [.slice none 0 0, .slice none 0 0], Own 3 (ekI .i64) v8 xs10, F] (fun l2 hk2 => ?_) ?_
  · rcases bool_or c107 with b111 | b111
    · refine SO.takeT rfl rfl rfl b111 ?_
      refine SO.v rfl (opv_move rfl) ?_
      refine SO.takeT rfl rfl rfl b111 ?_
      refine SO.v rfl (opv_geq rfl rfl) ?_
      refine SO.v rfl (opv_pick_t' b111 rfl rfl) ?_
      refine SO.b3 ?_
      refine SO.b3 ?_
      refine SO.b3 ?_
      refine SO.b3 ?_
      exact hk2.fitc (m := 3) rfl (and_t b111) rfl
    refine SO.passF rfl rfl rfl b111 rfl rfl ?_
    refine SO.passF rfl rfl rfl b111 rfl rfl ?_
    refine SO.v rfl (opv_pick_f' b111 rfl rfl) ?_
    refine SO.b3 ?_
    refine SO.b3 ?_
    refine SO.b3 ?_
    refine SO.b3 ?_
    exact hk2.fitc (m := 3) rfl (and_f b111) rfl
  refine SO.v rfl (opv_assign rfl) ?_
  refine SO.nil ?_
  refine S.to (ρ' := [(4, .bool (c107 && (decide (0 ≤ t98))))]) ⟨rfl, trivial⟩ ?_
  cases h
  refine S.drop ?_
  refine S.drop ?_
  refine S.drop ?_
  exact S.ret1 Tryz.func3 rfl rfl (fun w hs hk => hR w _ _ ⟨rfl, rfl⟩ hs hk)
end Go.Proofs
