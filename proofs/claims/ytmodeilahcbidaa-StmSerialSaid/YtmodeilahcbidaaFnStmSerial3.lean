/- What the functions that StmSerial reaches come to, and that they do. On no condition. -/
import Derived.Test.YtmodeilahcbidaaFr1
import Derived.Shelf.SlIterI.Nil
import Derived.Shelf.SortM.Plain
import Derived.Shelf.SortM.SortNone
import Derived.Test.YtmodeilahcbidaaProg
import Derived.Test.YtmodeilahcbidaaFnStmSerial0
import Derived.Test.YtmodeilahcbidaaFnStmSerial1
import Derived.Test.YtmodeilahcbidaaFnStmSerial2
set_option linter.all false
/-! maps.Keys, slices.Sorted. -/
set_option linter.unusedVariables false
namespace Go.Proofs
open Go.RowKit Go.Maps Go.Sort Go.Shelf Go.Sl
def keysL55_ren : Go.Shelf.Ren := ⟨fun | 7 => 55 | 10 => 64 | n => n, fun | 23 => 94 | 26 => 3 | 3 => 88 | 28 => 123 | 0 => 0 | 27 => 122 | 33 => 37 | 4 => 4 | n => n, fun | n => n⟩
theorem keysL55 : Go.Proofs.SlLaysZI.n7 Try.prog keysL55_ren := {
  mixed := by kernel_rfl,
  f7 := ⟨Try.f55.name, by decide, Try.func55.trans (congrArg some (by kernel_rfl))⟩,
  f10 := ⟨Try.f64.name, by decide, Try.func64.trans (congrArg some (by kernel_rfl))⟩,
  t0 := Try.underlying0,
  a0 := Try.isAgg0,
  z0 := Try.sizeOf0,
  v0 := Try.zeroValue0,
  t4 := Try.underlying4,
  a4 := Try.isAgg4,
  z4 := Try.sizeOf4,
  v4 := Try.zeroValue4,
  t23 := Try.underlying94,
  a23 := Try.isAgg94,
  z23 := Try.sizeOf94,
  v23 := Try.zeroValue94,
  t26 := Try.underlying3,
  a26 := Try.isAgg3,
  z26 := Try.sizeOf3,
  v26 := Try.zeroValue3,
  t27 := Try.underlying122,
  a27 := Try.isAgg122,
  z27 := Try.sizeOf122,
  v27 := Try.zeroValue122,
  t28 := Try.underlying123,
  a28 := Try.isAgg123,
  z28 := Try.sizeOf123,
  v28 := Try.zeroValue123,
  t33 := Try.underlying37,
  a33 := Try.isAgg37,
  z33 := Try.sizeOf37,
  v33 := Try.zeroValue37 }
def sortedL_ren : Go.Shelf.Ren := ⟨fun | 6 => 54 | 8 => 62 | 9 => 63 | 11 => 66 | 13 => 68 | 12 => 67 | 23 => 78 | 24 => 79 | 14 => 69 | 15 => 70 | 16 => 71 | 17 => 72 | 18 => 73 | 19 => 74 | 20 => 75 | 21 => 76 | 22 => 77 | 25 => 80 | 26 => 81 | 27 => 82 | 28 => 83 | 29 => 84 | 30 => 85 | 31 => 86 | n => n, fun | 26 => 3 | 28 => 123 | 24 => 24 | 0 => 0 | 3 => 3 | 37 => 134 | 48 => 22 | 50 => 46 | 4 => 4 | 40 => 137 | 39 => 136 | 45 => 98 | 5 => 5 | 9 => 9 | 51 => 145 | 55 => 149 | 57 => 151 | 58 => 152 | 33 => 37 | n => n, fun | n => n⟩
theorem sortedL : Go.Proofs.SlLaysZI.n6 Try.prog sortedL_ren := {
  mixed := by kernel_rfl,
  f6 := ⟨Try.f54.name, by decide, Try.func54.trans (congrArg some (by kernel_rfl))⟩,
  f8 := ⟨Try.f62.name, by decide, Try.func62.trans (congrArg some (by kernel_rfl))⟩,
  f11 := ⟨Try.f66.name, by decide, Try.func66.trans (congrArg some (by kernel_rfl))⟩,
  t0 := Try.underlying0,
  a0 := Try.isAgg0,
  z0 := Try.sizeOf0,
  v0 := Try.zeroValue0,
  t24 := Try.underlying24,
  a24 := Try.isAgg24,
  z24 := Try.sizeOf24,
  v24 := Try.zeroValue24,
  t26 := Try.underlying3,
  a26 := Try.isAgg3,
  z26 := Try.sizeOf3,
  v26 := Try.zeroValue3,
  t28 := Try.underlying123,
  a28 := Try.isAgg123,
  z28 := Try.sizeOf123,
  v28 := Try.zeroValue123,
  i26 := by kernel_rfl }
def sortL_ren : Go.Shelf.Ren := ⟨fun | 5 => 63 | 8 => 68 | 7 => 67 | 19 => 78 | 20 => 79 | 10 => 69 | 11 => 70 | 12 => 71 | 13 => 72 | 14 => 73 | 15 => 74 | 16 => 75 | 17 => 76 | 18 => 77 | 30 => 80 | 31 => 81 | 32 => 82 | 33 => 83 | 34 => 84 | 35 => 85 | 40 => 86 | n => n, fun | 23 => 24 | 25 => 3 | 3 => 3 | 32 => 134 | 22 => 24 | 0 => 0 | 44 => 22 | 46 => 46 | 4 => 4 | 36 => 137 | 35 => 136 | 41 => 98 | 5 => 5 | 9 => 9 | 53 => 145 | 57 => 149 | 63 => 151 | 64 => 152 | n => n, fun | n => n⟩
theorem sortL : Go.Proofs.SlLaysM.n5 Try.prog sortL_ren := {
  mixed := by kernel_rfl,
  f5 := ⟨Try.f63.name, by decide, Try.func63.trans (congrArg some (by kernel_rfl))⟩,
  f7 := ⟨Try.f67.name, by decide, Try.func67.trans (congrArg some (by kernel_rfl))⟩,
  f8 := Try.func68.trans (congrArg some (by kernel_rfl)),
  f10 := ⟨Try.f69.name, by decide, Try.func69.trans (congrArg some (by kernel_rfl))⟩,
  f11 := ⟨Try.f70.name, by decide, Try.func70.trans (congrArg some (by kernel_rfl))⟩,
  f12 := ⟨Try.f71.name, by decide, Try.func71.trans (congrArg some (by kernel_rfl))⟩,
  f13 := ⟨Try.f72.name, by decide, Try.func72.trans (congrArg some (by kernel_rfl))⟩,
  f14 := ⟨Try.f73.name, by decide, Try.func73.trans (congrArg some (by kernel_rfl))⟩,
  f15 := ⟨Try.f74.name, by decide, Try.func74.trans (congrArg some (by kernel_rfl))⟩,
  f16 := ⟨Try.f75.name, by decide, Try.func75.trans (congrArg some (by kernel_rfl))⟩,
  f17 := ⟨Try.f76.name, by decide, Try.func76.trans (congrArg some (by kernel_rfl))⟩,
  f18 := ⟨Try.f77.name, by decide, Try.func77.trans (congrArg some (by kernel_rfl))⟩,
  f19 := Try.func78.trans (congrArg some (by kernel_rfl)),
  f20 := Try.func79.trans (congrArg some (by kernel_rfl)),
  f30 := ⟨Try.f80.name, by decide, Try.func80.trans (congrArg some (by kernel_rfl))⟩,
  f31 := Try.func81.trans (congrArg some (by kernel_rfl)),
  f32 := Try.func82.trans (congrArg some (by kernel_rfl)),
  f33 := ⟨Try.f83.name, by decide, Try.func83.trans (congrArg some (by kernel_rfl))⟩,
  f34 := ⟨Try.f84.name, by decide, Try.func84.trans (congrArg some (by kernel_rfl))⟩,
  f35 := ⟨Try.f85.name, by decide, Try.func85.trans (congrArg some (by kernel_rfl))⟩,
  f40 := ⟨Try.f86.name, by decide, Try.func86.trans (congrArg some (by kernel_rfl))⟩,
  t0 := Try.underlying0,
  a0 := Try.isAgg0,
  z0 := Try.sizeOf0,
  v0 := Try.zeroValue0,
  t3 := Try.underlying3,
  a3 := Try.isAgg3,
  z3 := Try.sizeOf3,
  v3 := Try.zeroValue3,
  t4 := Try.underlying4,
  a4 := Try.isAgg4,
  z4 := Try.sizeOf4,
  v4 := Try.zeroValue4,
  t5 := Try.underlying5,
  a5 := Try.isAgg5,
  z5 := Try.sizeOf5,
  v5 := Try.zeroValue5,
  t9 := Try.underlying9,
  a9 := Try.isAgg9,
  z9 := Try.sizeOf9,
  v9 := Try.zeroValue9,
  t22 := Try.underlying24,
  a22 := Try.isAgg24,
  z22 := Try.sizeOf24,
  v22 := Try.zeroValue24,
  t23 := Try.underlying24,
  a23 := Try.isAgg24,
  z23 := Try.sizeOf24,
  v23 := Try.zeroValue24,
  t25 := Try.underlying3,
  a25 := Try.isAgg3,
  z25 := Try.sizeOf3,
  v25 := Try.zeroValue3,
  t32 := Try.underlying134,
  a32 := Try.isAgg134,
  z32 := Try.sizeOf134,
  v32 := Try.zeroValue134,
  t35 := Try.underlying136,
  a35 := Try.isAgg136,
  z35 := Try.sizeOf136,
  v35 := Try.zeroValue136,
  t36 := Try.underlying137,
  a36 := Try.isAgg137,
  z36 := Try.sizeOf137,
  v36 := Try.zeroValue137,
  t41 := Try.underlying98,
  a41 := Try.isAgg98,
  z41 := Try.sizeOf98,
  v41 := Try.zeroValue98,
  t44 := Try.underlying22,
  a44 := Try.isAgg22,
  z44 := Try.sizeOf22,
  v44 := Try.zeroValue22,
  t46 := Try.underlying46,
  a46 := Try.isAgg46,
  z46 := Try.sizeOf46,
  v46 := Try.zeroValue46,
  t53 := Try.underlying145,
  a53 := Try.isAgg145,
  z53 := Try.sizeOf145,
  v53 := Try.zeroValue145,
  t57 := Try.underlying149,
  a57 := Try.isAgg149,
  z57 := Try.sizeOf149,
  v57 := Try.zeroValue149,
  t63 := Try.underlying151,
  a63 := Try.isAgg151,
  z63 := Try.sizeOf151,
  v63 := Try.zeroValue151,
  t64 := Try.underlying152,
  a64 := Try.isAgg152,
  z64 := Try.sizeOf152,
  v64 := Try.zeroValue152 }
theorem sortsAll (m : Nat) : AnyZI.SortsIn Try.prog sortedL_ren Fence.wide m :=
  ⟨fun blk off cap ss W hH hblk hsz => callsIn_wide.2 (AnyM.slices_Sort_int sortL blk off cap ss W hH hblk hsz),
   fun p cap W => callsIn_wide.2 (AnyM.slices_Sort_int_none sortL p cap W)⟩
theorem keysO_55 {α : Type} {enc : α → Value} (v : Value) (o : Option (List (Int × α))) : Ct Try.prog 55 [v] (fun _ => True) [MapO enc v o] (fun u H' => ∃ bm, u = .func (.func 64) #[] #[bp bm 0] ∧ H' = [Box bm [v], MapO enc v o]) :=
  Ct.keysO (n := 5) (T := 94) (fun mb W => AnyZI.keys_in keysL55 Fence.wide 5 trivial rfl mb W) v o
theorem sortedO_55 {α : Type} {enc : α → Value} (bm : Nat) (v : Value) (o : Option (List (Int × α))) (ys : List Int) (ho : skeysO o = some ys) : Ct Try.prog 54 [.func (.func 64) #[] #[bp bm 0]] (fun _ => True) [Box bm [v], MapO enc v o] (fun u H' => ∃ r, u = r ∧ H' = [Own 3 (ekI .i64) r ys, Box bm [v], MapO enc v o]) :=
  Ct.sortedO (n := 5) Try.underlying3 (fun w bm b nn D0 hbm hm hown hsz => AnyZI.sorted_in sortedL Fence.wide 5 trivial trivial trivial trivial rfl (by omega) (sortsAll _) (enters_of Try.func63 (by kernel_rfl) rfl) 64 #[.pointer (some ⟨bm, 0, none⟩)] trivial (enters_of Try.func64 (by kernel_rfl) rfl) _ _ (by simp only [maxLen]; omega) (by omega) _ (AnyZI.keys_gives (ρ := keysL55_ren) { keysL55 with } Fence.wide _ trivial rfl (by omega) bm b nn D0 w hbm hm hown)) bm v o ys ho
end Go.Proofs
namespace Go.Proofs
open Go.Sl Go.RowKit
/-! 50 padstone/view.Of[padstone/api.Cell] -/
def view_Of_api_Cell.l1 (a0 : Option (List (Int × api_Cell))) (ys2 : List Int) : Nat → (Int × (List view_Pair_api_Cell)) → Option ((List view_Pair_api_Cell))
  | 0, _ => none
  | k + 1, (x10_1, x3_1) => bif decide (x10_1 < (ys2.length : Int)) then ((at_ ys2 x10_1).bind fun x8 => (lk1 a0 x8 (⟨0, 0, 0⟩ : api_Cell)).bind fun x10 => (app x3_1 ([(⟨x8, x10⟩ : view_Pair_api_Cell)])).bind fun zs14 => view_Of_api_Cell.l1 a0 ys2 k (w64 (x10_1 + 1), zs14)) else (some x3_1)
def view_Of_api_Cell.f (k : Nat) (a0 : Option (List (Int × api_Cell))) : Option (((List view_Pair_api_Cell) × (Option (List (Int × api_Cell))))) :=
  (skeysO a0).bind fun ys2 => (view_Of_api_Cell.l1 a0 ys2 k (0, [])).bind fun j3_e1 => some (j3_e1, a0)
set_option maxHeartbeats 8000000 in
set_option maxRecDepth 100000 in
theorem view_Of_api_Cell.ct (k : Nat) (v0 : Value) (a0 : Option (List (Int × api_Cell))) (r0 : List view_Pair_api_Cell) (q0 : Option (List (Int × api_Cell))) (h : view_Of_api_Cell.f k a0 = some (r0, q0)) :
    Ct Try.prog 50 [v0] (fun _ => True) [MapO (aggE ek_api_Cell) v0 a0] (fun u H' => ∃ v_r0, u = v_r0 ∧ H' = [Own 118 ek_view_Pair_api_Cell v_r0 r0, MapO (aggE ek_api_Cell) v0 q0]) := by
  unfold view_Of_api_Cell.f at h
  refine Ct.intro (n := 24) Try.func50 rfl rfl rfl ?_
  intro R w0 F hF hR
  refine S.seq ?_
  refine S.region ?_
  refine SO.v rfl (opv_assign rfl) ?_
  refine SO.nil ?_
  refine S.seq ?_
  refine S.region ?_
  refine SO.v rfl (opv_assign rfl) ?_
  refine SO.nil ?_
  refine S.seq ?_
  refine S.seq ?_
  refine S.region ?_
  refine SO.v rfl (opv_move rfl) ?_
  refine SO.call (pre := [MapO _ _ _]) rfl Try.call55 rfl rfl rfl (keysO_55 (enc := (aggE ek_api_Cell)) v0 a0) trivial ?_
  rintro _ _ ⟨b1, rfl, rfl⟩
  obtain ⟨ys2, hy3, h⟩ := opt_bind h
  refine SO.b1 ?_
  refine SO.b1 ?_
  refine SO.call (pre := [Box _ _, MapO _ _ _]) rfl Try.call54 rfl rfl rfl (sortedO_55 (enc := (aggE ek_api_Cell)) b1 v0 a0 ys2 hy3) trivial ?_
  rintro v4 _ ⟨_, rfl, rfl⟩
  refine SO.rd fun hr5 => ?_
  refine SO.v rfl (opv_lenR rfl Try.underlying24 hr5 rfl) ?_
  refine SO.v rfl (opv_move rfl) ?_
  refine SO.nil ?_
  obtain ⟨j3_e1, hlp1, h⟩ := opt_bind h
  refine S.newOwn 118 ek_view_Pair_api_Cell ?_
  refine S.b4 ?_
  refine S.b4 ?_
  refine S.b4 ?_
  refine S.b4 ?_
  refine S.b4 ?_
  refine S.to (ρ' := [(10, .int .i64 0), (9, .int .i64 (ys2.length : Int)), (8, v4), (3, .slice none 0 0), (2, .slice none 0 0), (0, v0)]) ⟨rfl, rfl, rfl, rfl, rfl, rfl, trivial⟩ ?_
  refine S.forloop (X := (Int × (List view_Pair_api_Cell)) × Value) (O := (List view_Pair_api_Cell)) (fun m x => view_Of_api_Cell.l1 a0 ys2 m x.1) (fun x => match x with | ((x10_1, x3_1), v3_1) => [(10, .int .i64 x10_1), (9, .int .i64 (ys2.length : Int)), (8, v4), (3, v3_1), (2, .slice none 0 0), (0, v0)]) (fun x => match x with | ((x10_1, x3_1), v3_1) => [Own 118 ek_view_Pair_api_Cell v3_1 x3_1, Own 3 (ekI .i64) v4 ys2, Box b1 [v0], MapO (aggE ek_api_Cell) v0 a0, F]) (fun Sk => (fun j3_e1 => ∀ v3_e1 : Value, Sk [(2, .slice none 0 0), (3, v3_e1)] [Own 118 ek_view_Pair_api_Cell v3_e1 j3_e1, Own 3 (ekI .i64) v4 ys2, Box b1 [v0], MapO (aggE ek_api_Cell) v0 a0, F])) (fun _ => rfl) ?_ (m := k) (x := ((0, []), .slice none 0 0)) hlp1 ?_
  · clear h hlp1
    intro k x o_1 h hK1 ih1
    obtain ⟨⟨x10_1, x3_1⟩, v3_1⟩ := x
    replace h : view_Of_api_Cell.l1 a0 ys2 (k + 1) (x10_1, x3_1) = some o_1 := h
    first | rw [view_Of_api_Cell.l1] at h | unfold view_Of_api_Cell.l1 at h
    refine S.rd fun hr6 => ?_
    refine S.seq ?_
    refine S.region ?_
    refine SO.v rfl (opv_lss rfl rfl) ?_
    refine SO.nil ?_
    refine S.seq ?_
    rcases bool_or (decide (x10_1 < (ys2.length : Int))) with b7 | b7
    · replace h := cond_t b7 h
      refine S.condT rfl b7 ?_
      refine S.skip ?_
      refine S.seq ?_
      refine S.block ?_
      refine S.seq ?_
      refine S.region ?_
      obtain ⟨x8, hx9, h⟩ := opt_bind h
      refine SO.v rfl (opv_idx Try.underlying24 Try.sizeOf3 hr5 rfl rfl hx9) ?_
      refine SO.loadI1 (j := 0) rfl Try.isAgg3 (Rd.tail (Rd.head hr5)) hx9 rfl rfl rfl rfl ?_
      refine SO.v rfl (opv_assign rfl) ?_
      refine SO.nil ?_
      refine S.region ?_
      refine SO.v rfl (opv_move rfl) ?_
      refine SO.v rfl (opv_move rfl) ?_
      refine SO.v rfl (opv_move rfl) ?_
      refine SO.v rfl (opv_move rfl) ?_
      obtain ⟨x10, hlk11, h⟩ := opt_bind h
      refine SO.b3 ?_
      refine SO.lookup1O (enc := (aggE ek_api_Cell)) (zx := (⟨0, 0, 0⟩ : api_Cell)) rfl Try.underlying94 Try.underlying3 Try.zeroValue88 rfl rfl hlk11 ?_
      refine SO.v rfl (opv_build (v := .agg #[.int .i64 x8, .int .u64 x10.Value, .int .u32 x10.Version, .int .i64 x10.Mark]) rfl (by intro w; kernel_rfl)) ?_
      refine SO.buildSlice (K := ek_view_Pair_api_Cell) (xs := [(⟨x8, x10⟩ : view_Pair_api_Cell)]) (cs := [.int .i64 x8, .int .u64 x10.Value, .int .u32 x10.Version, .int .i64 x10.Mark]) rfl Try.underlying115 Try.sizeOf118 Try.zeroValue118 rfl rfl rfl (by kernel_rfl) rfl rfl rfl (fun v12 hr13 => ?_)
      obtain ⟨zs14, hz15, h⟩ := opt_bind h
      refine SO.b2 ?_
      refine SO.append rfl Try.underlying115 Try.underlying115 inf118 rfl rfl rfl (by decide) rfl rfl rfl (Rd.head hr13) hz15 (fun v16 => ?_)
      refine SO.rd fun hr17 => ?_
      refine SO.v rfl (opv_assign rfl) ?_
      refine SO.nil ?_
      refine S.to (ρ' := [(10, .int .i64 x10_1), (9, .int .i64 (ys2.length : Int)), (8, v4), (3, v16), (2, .slice none 0 0), (0, v0)]) ⟨rfl, rfl, rfl, rfl, rfl, rfl, trivial⟩ ?_
      refine S.inBlock ?_
      refine S.region ?_
      refine SO.v rfl (opv_add rfl rfl) ?_
      refine SO.v rfl (opv_move rfl) ?_
      refine SO.nil ?_
      refine S.b1 ?_
      refine S.drop ?_
      refine S.b4 ?_
      refine S.b2 ?_
      refine S.b4 ?_
      refine S.b4 ?_
      refine S.b4 ?_
      refine S.to ?_ (ih1 ((w64 (x10_1 + 1), zs14), v16) h)
      exact ⟨rfl, rfl, rfl, rfl, rfl, rfl, trivial⟩
    replace h := cond_f b7 h
    refine S.condF rfl b7 ?_
    refine S.exit rfl ?_
    cases h
    refine S.b4 ?_
    refine S.b4 ?_
    refine S.b4 ?_
    refine S.b4 ?_
    refine S.b4 ?_
    refine S.to ?_ (hK1 v3_1)
    exact ⟨rfl, rfl, trivial⟩
  rintro v3_e1
  refine S.rd fun hr18 => ?_
  refine S.seq ?_
  refine S.region ?_
  refine SO.v rfl (opv_move rfl) ?_
  refine SO.v rfl (opv_assign rfl) ?_
  refine SO.nil ?_
  cases h
  refine S.b1 ?_
  refine S.drop ?_
  refine S.b1 ?_
  refine S.drop ?_
  refine S.b2 ?_
  refine S.b2 ?_
  refine S.b2 ?_
  exact S.ret1 Try.func50 rfl rfl (fun w hs hk => hR w _ _ ⟨v3_e1, rfl, rfl⟩ hs hk)
end Go.Proofs
namespace Go.Proofs
open Go.Sl Go.RowKit
/-! 43 (*padstone/tx.Tx).Entries -/
def tx_Tx_Entries.l1 (a0 : tx_Tx) (t2 : List view_Pair_api_Cell) : Nat → ((List tx_Entry) × Int) → Option ((List tx_Entry))
  | 0, _ => none
  | k + 1, (x3_1, x20_1) => bif decide (x20_1 < (t2.length : Int)) then ((at_ t2 x20_1).bind fun x10 => (lkO a0.out x10.At (0 : Int)).bind fun (x14, c16) => bif c16 then ((app x3_1 ([(⟨x10.At, x10.Val.Version, x10.Val.Value, x14, x14 != x10.Val.Value⟩ : tx_Entry)])).bind fun zs20 => tx_Tx_Entries.l1 a0 t2 k (zs20, w64 (x20_1 + 1))) else ((app x3_1 ([(⟨x10.At, x10.Val.Version, x10.Val.Value, x10.Val.Value, false⟩ : tx_Entry)])).bind fun zs26 => tx_Tx_Entries.l1 a0 t2 k (zs26, w64 (x20_1 + 1)))) else (some x3_1)
def tx_Tx_Entries.f (k : Nat) (a0 : tx_Tx) : Option (((List tx_Entry) × tx_Tx)) :=
  bif !a0.fine then (some ([], a0)) else ((view_Of_api_Cell.f k a0.l).bind fun (t2, q3) => (tx_Tx_Entries.l1 a0 t2 k ([], 0)).bind fun j3_e1 => some (j3_e1, ({ a0 with l := q3 } : tx_Tx)))
set_option maxHeartbeats 8000000 in
set_option maxRecDepth 100000 in
theorem tx_Tx_Entries.ct (k : Nat) (bp0 : Nat) (v0_l : Value) (v0_out : Value) (a0 : tx_Tx) (r0 : List tx_Entry) (rp0 : tx_Tx) (h : tx_Tx_Entries.f k a0 = some (r0, rp0)) :
    Ct Try.prog 43 [bp bp0 0] (fun _ => True) [Box bp0 [.int .i64 a0.cells, v0_l, v0_out, .int .i64 a0.lack, .bool a0.fine], MapO (aggE ek_api_Cell) v0_l a0.l, MapO (Value.int .u64) v0_out a0.out] (fun u H' => ∃ v_r0 rw0_l rw0_out, u = v_r0 ∧ H' = [Own 114 ek_tx_Entry v_r0 r0, Box bp0 [.int .i64 rp0.cells, rw0_l, rw0_out, .int .i64 rp0.lack, .bool rp0.fine], MapO (aggE ek_api_Cell) rw0_l rp0.l, MapO (Value.int .u64) rw0_out rp0.out]) := by
  unfold tx_Tx_Entries.f at h
  refine Ct.intro (n := 60) Try.func43 rfl rfl rfl ?_
  intro R w0 F hF hR
  refine S.seq ?_
  refine S.region ?_
  refine SO.v rfl (opv_assign rfl) ?_
  refine SO.nil ?_
  refine S.seq ?_
  refine S.seq ?_
  refine S.region ?_
  refine SO.v rfl (opv_move rfl) ?_
  refine SO.v rfl (opv_nilCheck rfl) ?_
  refine SO.v rfl (opv_fieldAddr Try.underlying97 rfl Try.sizeOf4 rfl rfl) ?_
  refine SO.load1 rfl Try.isAgg4 rfl rfl ?_
  refine SO.v rfl (opv_not rfl) ?_
  refine SO.nil ?_
  rcases bool_or (!a0.fine) with b1 | b1
  · replace h := cond_t b1 h
    refine S.condT rfl b1 ?_
    refine S.seq ?_
    refine S.region ?_
    refine SO.v rfl (opv_assign rfl) ?_
    refine SO.nil ?_
    cases h
    refine S.newOwn 114 ek_tx_Entry ?_
    refine S.b4 ?_
    refine S.b4 ?_
    refine S.b4 ?_
    refine S.b4 ?_
    refine S.b4 ?_
    exact S.ret1 Try.func43 rfl rfl (fun w hs hk => hR w _ _ ⟨(.slice none 0 0), v0_l, v0_out, rfl, rfl⟩ hs hk)
  replace h := cond_f b1 h
  refine S.condF rfl b1 ?_
  refine S.skip ?_
  refine S.seq ?_
  refine S.region ?_
  refine SO.v rfl (opv_assign rfl) ?_
  refine SO.nil ?_
  refine S.seq ?_
  refine S.seq ?_
  refine S.region ?_
  refine SO.v rfl (opv_move rfl) ?_
  refine SO.v rfl (opv_nilCheck rfl) ?_
  refine SO.v rfl (opv_fieldAddr Try.underlying97 rfl Try.sizeOf94 rfl rfl) ?_
  refine SO.load1 rfl Try.isAgg94 rfl rfl ?_
  obtain ⟨⟨t2, q3⟩, ht4, h⟩ := opt_bind h
  refine SO.b1 ?_
  refine SO.call (pre := [MapO _ _ _]) rfl Try.call50 rfl rfl rfl (view_Of_api_Cell.ct _ v0_l _ _ _ ht4) trivial ?_
  rintro v5 _ ⟨_, rfl, rfl⟩
  refine SO.rd fun hr6 => ?_
  refine SO.v rfl (opv_lenR rfl Try.underlying115 hr6 rfl) ?_
  refine SO.v rfl (opv_move rfl) ?_
  refine SO.nil ?_
  refine S.to (ρ' := [(0, bp bp0 0), (2, .slice none 0 0), (3, .slice none 0 0), (18, v5), (19, .int .i64 (t2.length : Int)), (20, .int .i64 0)]) ⟨rfl, rfl, rfl, rfl, rfl, rfl, trivial⟩ ?_
  obtain ⟨j3_e1, hlp1, h⟩ := opt_bind h
  refine S.newOwn 114 ek_tx_Entry ?_
  refine S.b5 ?_
  refine S.b5 ?_
  refine S.b5 ?_
  refine S.b5 ?_
  refine S.b5 ?_
  refine S.b5 ?_
  refine S.to (ρ' := [(0, bp bp0 0), (2, .slice none 0 0), (3, .slice none 0 0), (18, v5), (19, .int .i64 (t2.length : Int)), (20, .int .i64 0)]) ⟨rfl, rfl, rfl, rfl, rfl, rfl, trivial⟩ ?_
  refine S.forloop (X := ((List tx_Entry) × Int) × Value) (O := (List tx_Entry)) (fun m x => tx_Tx_Entries.l1 a0 t2 m x.1) (fun x => match x with | ((x3_1, x20_1), v3_1) => [(0, bp bp0 0), (2, .slice none 0 0), (3, v3_1), (18, v5), (19, .int .i64 (t2.length : Int)), (20, .int .i64 x20_1)]) (fun x => match x with | ((x3_1, x20_1), v3_1) => [Own 114 ek_tx_Entry v3_1 x3_1, Own 118 ek_view_Pair_api_Cell v5 t2, MapO (aggE ek_api_Cell) v0_l q3, Box bp0 [.int .i64 a0.cells, v0_l, v0_out, .int .i64 a0.lack, .bool a0.fine], MapO (Value.int .u64) v0_out a0.out, F]) (fun Sk => (fun j3_e1 => ∀ v3_e1 : Value, Sk [(2, .slice none 0 0), (3, v3_e1)] [Own 114 ek_tx_Entry v3_e1 j3_e1, Own 118 ek_view_Pair_api_Cell v5 t2, MapO (aggE ek_api_Cell) v0_l q3, Box bp0 [.int .i64 a0.cells, v0_l, v0_out, .int .i64 a0.lack, .bool a0.fine], MapO (Value.int .u64) v0_out a0.out, F])) (fun _ => rfl) ?_ (m := k) (x := (([], 0), .slice none 0 0)) hlp1 ?_
  · clear h hlp1
    intro k x o_1 h hK1 ih1
    obtain ⟨⟨x3_1, x20_1⟩, v3_1⟩ := x
    replace h : tx_Tx_Entries.l1 a0 t2 (k + 1) (x3_1, x20_1) = some o_1 := h
    first | rw [tx_Tx_Entries.l1] at h | unfold tx_Tx_Entries.l1 at h
    refine S.rd fun hr8 => ?_
    refine S.seq ?_
    refine S.region ?_
    refine SO.v rfl (opv_lss rfl rfl) ?_
    refine SO.nil ?_
    refine S.seq ?_
    rcases bool_or (decide (x20_1 < (t2.length : Int))) with b9 | b9
    · replace h := cond_t b9 h
      refine S.condT rfl b9 ?_
      refine S.skip ?_
      refine S.seq ?_
      refine S.block ?_
      refine S.seq ?_
      refine S.region ?_
      obtain ⟨x10, hx11, h⟩ := opt_bind h
      refine SO.v rfl (opv_idx Try.underlying115 Try.sizeOf118 hr6 rfl rfl hx11) ?_
      refine SO.loadIN rfl Try.isAgg118 Try.sizeOf118 (Rd.tail (Rd.head hr6)) hx11 rfl rfl rfl ?_
      refine SO.alloc rfl Try.zeroValue118 rfl (fun b12 => ?_)
      refine SO.storeN Try.sizeOf118 rfl rfl rfl rfl rfl rfl ?_
      refine SO.nil ?_
      refine S.seq ?_
      refine S.region ?_
      refine SO.v rfl (opv_fieldAddr Try.underlying118 rfl Try.sizeOf3 rfl rfl) ?_
      refine SO.load1 rfl Try.isAgg3 rfl rfl ?_
      refine SO.v rfl (opv_fieldAddr Try.underlying118 rfl Try.sizeOf88 rfl rfl) ?_
      refine SO.v rfl (opv_fieldAddr Try.underlying88 rfl Try.sizeOf22 rfl rfl) ?_
      refine SO.load1 rfl Try.isAgg22 rfl rfl ?_
      refine SO.v rfl (opv_fieldAddr Try.underlying118 rfl Try.sizeOf88 rfl rfl) ?_
      refine SO.v rfl (opv_fieldAddr Try.underlying88 rfl Try.sizeOf46 rfl rfl) ?_
      refine SO.load1 rfl Try.isAgg46 rfl rfl ?_
      refine SO.v rfl (opv_fieldAddr Try.underlying118 rfl Try.sizeOf88 rfl rfl) ?_
      refine SO.v rfl (opv_fieldAddr Try.underlying88 rfl Try.sizeOf46 rfl rfl) ?_
      refine SO.load1 rfl Try.isAgg46 rfl rfl ?_
      refine SO.v rfl (opv_build (v := .agg #[.int .i64 x10.At, .int .u32 x10.Val.Version, .int .u64 x10.Val.Value, .int .u64 x10.Val.Value, .bool false]) rfl (by intro w; kernel_rfl)) ?_
      refine SO.alloc rfl Try.zeroValue114 rfl (fun b13 => ?_)
      refine SO.storeN Try.sizeOf114 rfl rfl rfl rfl rfl rfl ?_
      refine SO.nil ?_
      refine S.to (ρ' := [(0, bp bp0 0), (2, .slice none 0 0), (3, v3_1), (18, v5), (19, .int .i64 (t2.length : Int)), (20, .int .i64 x20_1), (5, bp b12 0), (6, bp b13 0)]) ⟨rfl, rfl, rfl, rfl, rfl, rfl, rfl, rfl, trivial⟩ ?_
      refine S.seq ?_
      refine S.seq ?_
      obtain ⟨⟨x14, c16⟩, hlk15, h⟩ := opt_bind h
      refine S.draw2 (Y := fun Q => ∃ (_ _ _ _ _ _ _ _ _ _ _ : Unit), Q [(0, bp bp0 0), (5, bp b12 0), (2, .slice none 0 0), (3, v3_1), (18, v5), (19, .int .i64 (t2.length : Int)), (20, .int .i64 x20_1), (6, bp b13 0)] [Box b13 [.int .i64 x10.At, .int .u32 x10.Val.Version, .int .u64 x10.Val.Value, .int .u64 x10.Val.Value, .bool false], Box b12 [.int .i64 x10.At, .int .u64 x10.Val.Value, .int .u32 x10.Val.Version, .int .i64 x10.Val.Mark], Own 114 ek_tx_Entry v3_1 x3_1, Own 118 ek_view_Pair_api_Cell v5 t2, MapO (aggE ek_api_Cell) v0_l q3, Box bp0 [.int .i64 a0.cells, v0_l, v0_out, .int .i64 a0.lack, .bool a0.fine], MapO (Value.int .u64) v0_out a0.out, F]) (Z := fun Q => ∀ (_ _ _ _ _ _ _ _ _ _ _ _ : Unit), Q [(0, bp bp0 0), (2, .slice none 0 0), (3, v3_1), (18, v5), (19, .int .i64 (t2.length : Int)), (20, .int .i64 x20_1), (6, bp b13 0), (7, .int .u64 x14), (8, .bool c16)] [Box b13 [.int .i64 x10.At, .int .u32 x10.Val.Version, .int .u64 x10.Val.Value, .int .u64 x10.Val.Value, .bool false], Box b12 [.int .i64 x10.At, .int .u64 x10.Val.Value, .int .u32 x10.Val.Version, .int .i64 x10.Val.Mark], Own 114 ek_tx_Entry v3_1 x3_1, Own 118 ek_view_Pair_api_Cell v5 t2, MapO (aggE ek_api_Cell) v0_l q3, Box bp0 [.int .i64 a0.cells, v0_l, v0_out, .int .i64 a0.lack, .bool a0.fine], MapO (Value.int .u64) v0_out a0.out, F]) (T := [tS 0 (bp bp0 0), tS 5 (bp b12 0), tE [(2, .slice none 0 0), (3, v3_1), (18, v5), (19, .int .i64 (t2.length : Int)), (20, .int .i64 x20_1), (6, bp b13 0)], tR (Box b13 [.int .i64 x10.At, .int .u32 x10.Val.Version, .int .u64 x10.Val.Value, .int .u64 x10.Val.Value, .bool false]), tR (Box b12 [.int .i64 x10.At, .int .u64 x10.Val.Value, .int .u32 x10.Val.Version, .int .i64 x10.Val.Mark]), tR (Own 114 ek_tx_Entry v3_1 x3_1), tR (Own 118 ek_view_Pair_api_Cell v5 t2), tR (MapO (aggE ek_api_Cell) v0_l q3), tR (Box bp0 [.int .i64 a0.cells, v0_l, v0_out, .int .i64 a0.lack, .bool a0.fine]), tR (MapO (Value.int .u64) v0_out a0.out), tR (F), tS 37 (bp bp0 0), tS 38 (bp bp0 0), tS 39 (bp bp0 2), tS 40 (v0_out), tS 41 (bp b12 0), tS 42 (.int .i64 x10.At), tS 43 (.tuple #[.int .u64 x14, .bool c16]), tS 36 (.tuple #[.int .u64 x14, .bool c16]), tS 44 (.int .u64 x14), tS 45 (.bool c16), tS 7 (.int .u64 x14), tS 8 (.bool c16)]) (D := [⟨[0], [], [11]⟩, ⟨[11], [], [12]⟩, ⟨[12], [], [13]⟩, ⟨[13, 8], [], [14]⟩, ⟨[1], [], [15]⟩, ⟨[15, 4], [], [16]⟩, ⟨[14, 16, 9], [], [17]⟩, ⟨[17], [], [18]⟩, ⟨[18], [], [19]⟩, ⟨[18], [], [20]⟩, ⟨[19], [], [21]⟩, ⟨[20], [], [22]⟩]) (ini := [0, 1, 2, 3, 4, 5, 6, 7, 8, 9, 10]) (fin := [0, 2, 21, 22, 3, 4, 5, 6, 7, 8, 9, 10]) (bf := [[], [0], [0, 1], [0, 1, 2], [], [4], [0, 1, 2, 3, 4, 5], [0, 1, 2, 3, 4, 5, 6], [0, 1, 2, 3, 4, 5, 6, 7], [0, 1, 2, 3, 4, 5, 6, 7], [0, 1, 2, 3, 4, 5, 6, 7, 8], [0, 1, 2, 3, 4, 5, 6, 7, 8, 9, 10]]) (by kernel_rfl) (by kernel_rfl) (fun Q => by kernel_rfl) (fun x w h1 h2 => ⟨(), (), (), (), (), (), (), (), (), (), (), EnvAll.of h1 ⟨rfl, rfl, rfl, rfl, rfl, rfl, rfl, rfl, trivial⟩, h2⟩) (fun Q => by kernel_rfl) ⟨?_, ?_, ?_, ?_, ?_, ?_, ?_, ?_, ?_, ?_, ?_, ?_, trivial⟩ ?_
      · rintro Fr _
        refine SO.v rfl (opv_move rfl) ?_
        exact SO.nilZ fun a w h1 h2 h3 h4 h5 => PZ.of h1 h3 h5 (.cons () (.cons () (.nil ⟨EnvAll.of h2 ⟨rfl, rfl, trivial⟩, h4⟩)))
      · rintro Fr _
        refine SO.v rfl (opv_nilCheck rfl) ?_
        exact SO.nilZ fun a w h1 h2 h3 h4 h5 => PZ.of h1 h3 h5 (.cons () (.cons () (.nil ⟨EnvAll.of h2 ⟨rfl, rfl, trivial⟩, h4⟩)))
      · rintro Fr _
        refine SO.v rfl (opv_fieldAddr Try.underlying97 rfl Try.sizeOf95 rfl rfl) ?_
        exact SO.nilZ fun a w h1 h2 h3 h4 h5 => PZ.of h1 h3 h5 (.cons () (.cons () (.nil ⟨EnvAll.of h2 ⟨rfl, rfl, trivial⟩, h4⟩)))
      · rintro Fr _ _
        refine SO.load1 rfl Try.isAgg95 rfl rfl ?_
        exact SO.nilZ fun a w h1 h2 h3 h4 h5 => PZ.of h1 h3 h5 (.cons () (.cons () (.cons () (.nil ⟨EnvAll.of h2 ⟨rfl, rfl, trivial⟩, h4⟩))))
      · rintro Fr _
        refine SO.v rfl (opv_fieldAddr Try.underlying118 rfl Try.sizeOf3 rfl rfl) ?_
        exact SO.nilZ fun a w h1 h2 h3 h4 h5 => PZ.of h1 h3 h5 (.cons () (.cons () (.nil ⟨EnvAll.of h2 ⟨rfl, rfl, trivial⟩, h4⟩)))
      · rintro Fr _ _
        refine SO.load1 rfl Try.isAgg3 rfl rfl ?_
        exact SO.nilZ fun a w h1 h2 h3 h4 h5 => PZ.of h1 h3 h5 (.cons () (.cons () (.cons () (.nil ⟨EnvAll.of h2 ⟨rfl, rfl, trivial⟩, h4⟩))))
      · rintro Fr _ _ _
        refine SO.lookupOkO (enc := (Value.int .u64)) (zx := (0 : Int)) rfl Try.underlying95 Try.underlying3 Try.zeroValue46 rfl rfl hlk15 ?_
        exact SO.nilZ fun a w h1 h2 h3 h4 h5 => PZ.of h1 h3 h5 (.cons () (.cons () (.cons () (.cons () (.nil ⟨EnvAll.of h2 ⟨rfl, rfl, rfl, trivial⟩, h4⟩)))))
      · rintro Fr _
        refine SO.v rfl (opv_move rfl) ?_
        exact SO.nilZ fun a w h1 h2 h3 h4 h5 => PZ.of h1 h3 h5 (.cons () (.cons () (.nil ⟨EnvAll.of h2 ⟨rfl, rfl, trivial⟩, h4⟩)))
      · rintro Fr _
        refine SO.v rfl (opv_extract rfl rfl) ?_
        exact SO.nilZ fun a w h1 h2 h3 h4 h5 => PZ.of h1 h3 h5 (.cons () (.cons () (.nil ⟨EnvAll.of h2 ⟨rfl, rfl, trivial⟩, h4⟩)))
      · rintro Fr _
        refine SO.v rfl (opv_extract rfl rfl) ?_
        exact SO.nilZ fun a w h1 h2 h3 h4 h5 => PZ.of h1 h3 h5 (.cons () (.cons () (.nil ⟨EnvAll.of h2 ⟨rfl, rfl, trivial⟩, h4⟩)))
      · rintro Fr _
        refine SO.v rfl (opv_assign rfl) ?_
        exact SO.nilZ fun a w h1 h2 h3 h4 h5 => PZ.of h1 h3 h5 (.cons () (.cons () (.nil ⟨EnvAll.of h2 ⟨rfl, rfl, trivial⟩, h4⟩)))
      · rintro Fr _
        refine SO.v rfl (opv_assign rfl) ?_
        exact SO.nilZ fun a w h1 h2 h3 h4 h5 => PZ.of h1 h3 h5 (.cons () (.cons () (.nil ⟨EnvAll.of h2 ⟨rfl, rfl, trivial⟩, h4⟩)))
      rintro _ _ _ _ _ _ _ _ _ _ _ _
      refine S.to (ρ' := [(0, bp bp0 0), (2, .slice none 0 0), (3, v3_1), (18, v5), (19, .int .i64 (t2.length : Int)), (20, .int .i64 x20_1), (6, bp b13 0), (7, .int .u64 x14), (8, .bool c16)]) ⟨rfl, rfl, rfl, rfl, rfl, rfl, rfl, rfl, rfl, trivial⟩ ?_
      refine S.seq ?_
      refine S.region ?_
      refine SO.v rfl (opv_move rfl) ?_
      refine SO.nil ?_
      rcases bool_or c16 with b17 | b17
      · replace h := cond_t b17 h
        refine S.condT rfl b17 ?_
        refine S.region ?_
        refine SO.v rfl (opv_move rfl) ?_
        refine SO.v rfl (opv_move rfl) ?_
        refine SO.v rfl (opv_fieldAddr Try.underlying114 rfl Try.sizeOf46 rfl rfl) ?_
        refine SO.load1 rfl Try.isAgg46 rfl rfl ?_
        refine SO.v rfl (opv_neq rfl rfl) ?_
        refine SO.v rfl (opv_fieldAddr Try.underlying114 rfl Try.sizeOf46 rfl rfl) ?_
        refine SO.store1 Try.sizeOf46 rfl rfl rfl rfl ?_
        refine SO.v rfl (opv_fieldAddr Try.underlying114 rfl Try.sizeOf4 rfl rfl) ?_
        refine SO.store1 Try.sizeOf4 rfl rfl rfl rfl ?_
        refine SO.nil ?_
        refine S.to (ρ' := [(0, bp bp0 0), (2, .slice none 0 0), (3, v3_1), (18, v5), (19, .int .i64 (t2.length : Int)), (20, .int .i64 x20_1), (6, bp b13 0)]) ⟨rfl, rfl, rfl, rfl, rfl, rfl, rfl, trivial⟩ ?_
        refine S.region ?_
        refine SO.v rfl (opv_move rfl) ?_
        refine SO.loadN rfl Try.isAgg114 Try.sizeOf114 rfl rfl rfl ?_
        refine SO.buildSlice (K := ek_tx_Entry) (xs := [(⟨x10.At, x10.Val.Version, x10.Val.Value, x14, x14 != x10.Val.Value⟩ : tx_Entry)]) (cs := [.int .i64 x10.At, .int .u32 x10.Val.Version, .int .u64 x10.Val.Value, .int .u64 x14, .bool (x14 != x10.Val.Value)]) rfl Try.underlying102 Try.sizeOf114 Try.zeroValue114 rfl rfl rfl (by kernel_rfl) rfl rfl rfl (fun v18 hr19 => ?_)
        obtain ⟨zs20, hz21, h⟩ := opt_bind h
        refine SO.b3 ?_
        refine SO.append rfl Try.underlying102 Try.underlying102 inf114 rfl rfl rfl (by decide) rfl rfl rfl (Rd.head hr19) hz21 (fun v22 => ?_)
        refine SO.rd fun hr23 => ?_
        refine SO.v rfl (opv_assign rfl) ?_
        refine SO.nil ?_
        refine S.inBlock ?_
        refine S.region ?_
        refine SO.v rfl (opv_add rfl rfl) ?_
        refine SO.v rfl (opv_move rfl) ?_
        refine SO.nil ?_
        refine S.b1 ?_
        refine S.drop ?_
        refine S.b1 ?_
        refine S.drop ?_
        refine S.b1 ?_
        refine S.drop ?_
        refine S.b5 ?_
        refine S.b5 ?_
        refine S.b5 ?_
        refine S.b5 ?_
        refine S.b5 ?_
        refine S.b5 ?_
        refine S.to ?_ (ih1 ((zs20, w64 (x20_1 + 1)), v22) h)
        exact ⟨rfl, rfl, rfl, rfl, rfl, rfl, trivial⟩
      replace h := cond_f b17 h
      refine S.condF rfl b17 ?_
      refine S.skip ?_
      refine S.region ?_
      refine SO.v rfl (opv_move rfl) ?_
      refine SO.loadN rfl Try.isAgg114 Try.sizeOf114 rfl rfl rfl ?_
      refine SO.buildSlice (K := ek_tx_Entry) (xs := [(⟨x10.At, x10.Val.Version, x10.Val.Value, x10.Val.Value, false⟩ : tx_Entry)]) (cs := [.int .i64 x10.At, .int .u32 x10.Val.Version, .int .u64 x10.Val.Value, .int .u64 x10.Val.Value, .bool false]) rfl Try.underlying102 Try.sizeOf114 Try.zeroValue114 rfl rfl rfl (by kernel_rfl) rfl rfl rfl (fun v24 hr25 => ?_)
      obtain ⟨zs26, hz27, h⟩ := opt_bind h
      refine SO.b3 ?_
      refine SO.append rfl Try.underlying102 Try.underlying102 inf114 rfl rfl rfl (by decide) rfl rfl rfl (Rd.head hr25) hz27 (fun v28 => ?_)
      refine SO.rd fun hr29 => ?_
      refine SO.v rfl (opv_assign rfl) ?_
      refine SO.nil ?_
      refine S.to (ρ' := [(0, bp bp0 0), (2, .slice none 0 0), (3, v28), (18, v5), (19, .int .i64 (t2.length : Int)), (20, .int .i64 x20_1)]) ⟨rfl, rfl, rfl, rfl, rfl, rfl, trivial⟩ ?_
      refine S.inBlock ?_
      refine S.region ?_
      refine SO.v rfl (opv_add rfl rfl) ?_
      refine SO.v rfl (opv_move rfl) ?_
      refine SO.nil ?_
      refine S.b1 ?_
      refine S.drop ?_
      refine S.b1 ?_
      refine S.drop ?_
      refine S.b1 ?_
      refine S.drop ?_
      refine S.b5 ?_
      refine S.b5 ?_
      refine S.b5 ?_
      refine S.b5 ?_
      refine S.b5 ?_
      refine S.b5 ?_
      refine S.to ?_ (ih1 ((zs26, w64 (x20_1 + 1)), v28) h)
      exact ⟨rfl, rfl, rfl, rfl, rfl, rfl, trivial⟩
    replace h := cond_f b9 h
    refine S.condF rfl b9 ?_
    refine S.exit rfl ?_
    cases h
    refine S.b5 ?_
    refine S.b5 ?_
    refine S.b5 ?_
    refine S.b5 ?_
    refine S.b5 ?_
    refine S.b5 ?_
    refine S.to ?_ (hK1 v3_1)
    exact ⟨rfl, rfl, trivial⟩
  rintro v3_e1
  refine S.rd fun hr30 => ?_
  refine S.seq ?_
  refine S.region ?_
  refine SO.v rfl (opv_move rfl) ?_
  refine SO.v rfl (opv_assign rfl) ?_
  refine SO.nil ?_
  cases h
  refine S.b1 ?_
  refine S.drop ?_
  refine S.b4 ?_
  refine S.b4 ?_
  refine S.b3 ?_
  refine S.b4 ?_
  refine S.b4 ?_
  exact S.ret1 Try.func43 rfl rfl (fun w hs hk => hR w _ _ ⟨v3_e1, v0_l, v0_out, rfl, rfl⟩ hs hk)
end Go.Proofs
set_option linter.unusedVariables false
namespace Go.Proofs
open Go.Sl Go.RowKit
theorem inf105_stm_Machine_run : Try.prog.info? 105 = some Try.t105 := by kernel_rfl
/-! 27 (*padstone/stm.Machine).run -/
def stm_Machine_run.f (k : Nat) (sa : word_Store) (dl : List desc_Desc) (el : List stm_Entry) (gl : List stm_Entry) (id : Int) (jm : VM Int) (told : List Int) (tt : tx_Tx) : Option (word_Store × (List desc_Desc) × (List stm_Entry) × (List stm_Entry) × tx_Tx × Bool) :=
  (tx_Tx_Run.f (jm) tt).bind fun (t7, t8, q9, p10) => bif t8 then ((tx_Tx_Entries.f k p10).bind fun (t14, p15) => (desc_New.f (w64 ((el.length : Int) + 1)) t14).bind fun t21 => (app el [(⟨id, (told.length : Int), q9, false⟩ : stm_Entry)]).bind fun zs32 => some (sa, dl ++ [t21], zs32, gl, p15, true)) else ((word_Store_Read.f sa t7).bind fun (t40, t41) => bif t41.isNone && (t40.Mark != 0) then ((stm_Machine_advance.f k sa dl el gl t40.Mark).bind fun (t46, t47, t48) => some (t46, t47, el, t48, p10, false)) else ((tx_Tx_Learn.f p10 t7 t40).bind fun p56 => some (sa, dl, el, gl, p56, false)))
set_option maxHeartbeats 8000000 in
set_option maxRecDepth 100000 in
theorem stm_Machine_run.ct (k : Nat) (zb : List Nat) (bpm bps : Nat) (vl va vg vs : Value) (sa : word_Store) (dl : List desc_Desc) (el gl : List stm_Entry) (hle : zb.length = el.length) (hld : zb.length = dl.length) (id : Int) (bw : Nat) (fv tl : Value) (told : List Int) (bt : Nat) (vt_l vt_out : Value) (tt : tx_Tx) (jf : FuncId) (jcs : List Value) (JX FR : HProp) (rdJ : HProp → Prop) (hmono : ∀ (l : List HProp) (F : HProp), rdJ F → rdJ (stars (l ++ [F]))) (hcj : ∀ (us : Array Value) (w : World), (callFunc jf us).run Try.prog w = .ok (.enter jf us) w) (jm : VM Int) (hj : ∀ (V : VW Try.prog) (s s' : V.S) (a : Int), VM.run V.toVI jm s = some (a, s') → Ct Try.prog jf (V.val :: jcs) rdJ [JX, FR, V.rep s] (fun u H' => u = .int .i64 a ∧ H' = [JX, FR, V.rep s'])) (rs : word_Store) (rd : List desc_Desc) (re rg : List stm_Entry) (rx : tx_Tx) (rn : Bool) (h : stm_Machine_run.f k sa dl el gl id jm told tt = some (rs, rd, re, rg, rx, rn)) :
    Ct Try.prog 27 [bp bpm 0, .int .i64 id, bp bw 0] (rdJ) [Box bpm [bp bps 0, vl, va, vg], Own 105 ekMd va (zb.zip el), ZipR rep_desc_Desc zb dl, Own 44 ek_stm_Entry vg gl, Box bps [vs, .int .u32 sa.limit], Own 88 ek_api_Cell vs sa.l, Box bw [fv, .func (.func jf) #[] jcs.toArray, bp bt 0, .pointer none, tl], Own 3 (ekI .i64) tl told, Box bt [.int .i64 tt.cells, vt_l, vt_out, .int .i64 tt.lack, .bool tt.fine], MapO (aggE ek_api_Cell) vt_l tt.l, MapO (Value.int .u64) vt_out tt.out, JX, FR] (fun u H' => ∃ (zb' : List Nat) (dv wa wg ws wt_l wt_out : Value), u = .tuple #[] ∧ H' = [Box bpm [bp bps 0, vl, wa, wg], Own 105 ekMd wa (zb'.zip re), ZipR rep_desc_Desc zb' rd, Own 44 ek_stm_Entry wg rg, Box bps [ws, .int .u32 rs.limit], Own 88 ek_api_Cell ws rs.l, Box bw [fv, .func (.func jf) #[] jcs.toArray, bp bt 0, dv, tl], Own 3 (ekI .i64) tl told, Box bt [.int .i64 rx.cells, wt_l, wt_out, .int .i64 rx.lack, .bool rx.fine], MapO (aggE ek_api_Cell) wt_l rx.l, MapO (Value.int .u64) wt_out rx.out, JX, FR] ∧ (rn = false ∧ zb' = zb ∧ dv = .pointer none ∨ rn = true ∧ ∃ b, zb' = zb ++ [b] ∧ dv = bp b 0)) := by
  unfold stm_Machine_run.f at h
  refine Ct.intro (n := 85) Try.func27 rfl rfl rfl ?_
  intro R w0 F hF hR
  refine S.b1 ?_
  refine S.rd fun hr1 => ?_
  refine S.b3 ?_
  refine S.rd fun hr2 => ?_
  refine S.b5 ?_
  refine S.rd fun hr3 => ?_
  refine S.b7 ?_
  refine S.rd fun hr4 => ?_
  refine S.seq ?_
  refine S.region ?_
  refine SO.box rfl rfl rfl (fun b5 => ?_)
  refine SO.nil ?_
  refine S.seq ?_
  refine S.region ?_
  refine SO.alloc rfl Try.zeroValue3 rfl (fun b6 => ?_)
  refine SO.store1 Try.sizeOf3 rfl rfl rfl rfl ?_
  refine SO.nil ?_
  refine S.seq ?_
  refine S.region ?_
  refine SO.b1 ?_
  refine SO.load1 rfl Try.isAgg68 rfl rfl ?_
  refine SO.v rfl (opv_nilCheck rfl) ?_
  refine SO.v rfl (opv_fieldAddr Try.underlying73 rfl Try.sizeOf70 rfl rfl) ?_
  refine SO.b9 ?_
  refine SO.load1 rfl Try.isAgg70 rfl rfl ?_
  refine SO.v rfl (opv_makeFunc rfl rfl) ?_
  obtain ⟨⟨t7, t8, q9, p10⟩, ht11, h⟩ := opt_bind h
  refine SO.b14 ?_
  refine SO.b14 ?_
  refine SO.b2 ?_
  refine SO.b4 ?_
  refine SO.b4 ?_
  refine SO.b14 ?_
  refine SO.b14 ?_
  refine SO.b14 ?_
  have ct59 := tx_Tx_Run.ct jm 41 [bp b5 0, bp b6 0] rdJ [Box b5 [bp bw 0], Box b6 [.int .i64 0], Box bw [fv, .func (.func jf) #[] jcs.toArray, bp bt 0, .pointer none, tl], JX, FR] [Box b5 [bp bw 0], Box b6 [.int .i64 q9], Box bw [fv, .func (.func jf) #[] jcs.toArray, bp bt 0, .pointer none, tl], JX, FR] bt vt_l vt_out tt t7 t8 q9 p10 ht11 Try.call41 hmono (fun s s' hrun => stm_run_1.ct (seenV bt) b5 b6 bw 0 q9 fv (bp bt 0) (.pointer none) tl jf jcs JX FR rdJ hmono hcj s s' (hj (seenV bt) s s' q9 hrun))
  refine SO.call (pre := [Box _ _, MapO _ _ _, MapO _ _ _, Box _ _, Box _ _, Box _ _, JX, FR]) rfl Try.call40 rfl rfl rfl ct59 (hmono [_, _, _, _, _, _, _] F hF) ?_
  rintro _ _ ⟨u12_l, u12_out, rfl, rfl⟩
  refine SO.v rfl (opv_move rfl) ?_
  refine SO.v rfl (opv_extract rfl rfl) ?_
  refine SO.v rfl (opv_extract rfl rfl) ?_
  refine SO.v rfl (opv_assign rfl) ?_
  refine SO.v rfl (opv_assign rfl) ?_
  refine SO.nil ?_
  refine S.to (ρ' := [(0, bp bpm 0), (1, .int .i64 id), (5, bp b5 0), (6, bp b6 0), (7, .int .i64 t7), (8, .bool t8)]) ⟨rfl, rfl, rfl, rfl, rfl, rfl, trivial⟩ ?_
  refine S.seq ?_
  refine S.seq ?_
  refine S.region ?_
  refine SO.v rfl (opv_move rfl) ?_
  refine SO.nil ?_
  rcases bool_or t8 with b13 | b13
  · replace h := cond_t b13 h
    refine S.condT rfl b13 ?_
    refine S.seq ?_
    obtain ⟨⟨t14, p15⟩, ht16, h⟩ := opt_bind h
    obtain ⟨t21, ht22, h⟩ := opt_bind h
    refine S.draw2 (Y := fun Q => ∃ (_ _ _ _ _ _ _ _ _ _ _ _ _ _ _ _ _ _ _ : Unit), Q [(5, bp b5 0), (0, bp bpm 0), (1, .int .i64 id), (6, bp b6 0)] [Box bt [.int .i64 p10.cells, u12_l, u12_out, .int .i64 p10.lack, .bool p10.fine], MapO (aggE ek_api_Cell) u12_l p10.l, MapO (Value.int .u64) u12_out p10.out, Box b5 [bp bw 0], Box b6 [.int .i64 q9], Box bw [fv, .func (.func jf) #[] jcs.toArray, bp bt 0, .pointer none, tl], JX, FR, Own 3 (ekI .i64) tl told, Own 88 ek_api_Cell vs sa.l, Own 44 ek_stm_Entry vg gl, Own 105 ekMd va (zb.zip el), Box bpm [bp bps 0, vl, va, vg], ZipR rep_desc_Desc zb dl, Box bps [vs, .int .u32 sa.limit], F]) (Z := fun Q => ∀ (_ _ _ : Unit) (g_3 : (Value × Nat)) (g_4 : (Value × Value × Value)) (_ _ _ _ _ _ _ _ _ _ _ _ : Unit), Q [(0, bp bpm 0), (1, .int .i64 id), (6, bp b6 0), (5, bp b5 0), (33, bp g_3.2 0), (32, g_4.1)] [Own 114 ek_tx_Entry g_3.1 t21.l, Box g_3.2 [.int .i64 t21.mark, g_3.1, .int .i64 t21.status, .int .i64 t21.at_], Box bw [fv, .func (.func jf) #[] jcs.toArray, bp bt 0, bp g_3.2 0, tl], Own 114 ek_tx_Entry g_4.1 t14, MapO (aggE ek_api_Cell) g_4.2.1 p15.l, MapO (Value.int .u64) g_4.2.2 p15.out, Box bt [.int .i64 p15.cells, g_4.2.1, g_4.2.2, .int .i64 p15.lack, .bool p15.fine], Box b5 [bp bw 0], Box b6 [.int .i64 q9], JX, FR, Own 3 (ekI .i64) tl told, Own 88 ek_api_Cell vs sa.l, Own 44 ek_stm_Entry vg gl, Own 105 ekMd va (zb.zip el), Box bpm [bp bps 0, vl, va, vg], ZipR rep_desc_Desc zb dl, Box bps [vs, .int .u32 sa.limit], F]) (T := [tS 5 (bp b5 0), tS 0 (bp bpm 0), tE [(1, .int .i64 id), (6, bp b6 0)], tR (Box bt [.int .i64 p10.cells, u12_l, u12_out, .int .i64 p10.lack, .bool p10.fine]), tR (MapO (aggE ek_api_Cell) u12_l p10.l), tR (MapO (Value.int .u64) u12_out p10.out), tR (Box b5 [bp bw 0]), tR (Box b6 [.int .i64 q9]), tR (Box bw [fv, .func (.func jf) #[] jcs.toArray, bp bt 0, .pointer none, tl]), tR (JX), tR (FR), tR (Own 3 (ekI .i64) tl told), tR (Own 88 ek_api_Cell vs sa.l), tR (Own 44 ek_stm_Entry vg gl), tR (Own 105 ekMd va (zb.zip el)), tR (Box bpm [bp bps 0, vl, va, vg]), tR (ZipR rep_desc_Desc zb dl), tR (Box bps [vs, .int .u32 sa.limit]), tR (F), tS 21 (bp bw 0), tS 22 (bp bpm 0), tS 23 (bp bpm 0), tS 24 (bp bpm 2), tS 25 (va), tS 26 (.int .i64 (el.length : Int)), tS 27 (.int .i64 (w64 ((el.length : Int) + 1))), tS 28 (bp bw 0), tS 29 (bp bw 0), tS 30 (bp bw 2), tS 31 (bp bt 0), ⟨(Value × Value × Value), [32], (fun x => match x with | (v17, u19_l, u19_out) => [(32, v17)]), (fun x => match x with | (v17, u19_l, u19_out) => [Own 114 ek_tx_Entry v17 t14, MapO (aggE ek_api_Cell) u19_l p15.l, MapO (Value.int .u64) u19_out p15.out, Box bt [.int .i64 p15.cells, u19_l, u19_out, .int .i64 p15.lack, .bool p15.fine]]), fun _ => rfl⟩, ⟨(Value × Nat), [33], (fun x => match x with | (u24_l, b23) => [(33, bp b23 0)]), (fun x => match x with | (u24_l, b23) => [Own 114 ek_tx_Entry u24_l t21.l, Box b23 [.int .i64 t21.mark, u24_l, .int .i64 t21.status, .int .i64 t21.at_]]), fun _ => rfl⟩, tS 34 (bp bw 0), tS 35 (bp bw 3), ⟨(Value × Nat), [33], (fun x => match x with | (u24_l, b23) => [(33, bp b23 0)]), (fun x => match x with | (u24_l, b23) => [Own 114 ek_tx_Entry u24_l t21.l, Box b23 [.int .i64 t21.mark, u24_l, .int .i64 t21.status, .int .i64 t21.at_], Box bw [fv, .func (.func jf) #[] jcs.toArray, bp bt 0, bp b23 0, tl]]), fun _ => rfl⟩]) (D := [⟨[0, 6], [], [19]⟩, ⟨[1], [], [20]⟩, ⟨[20], [], [21]⟩, ⟨[21], [], [22]⟩, ⟨[22, 15], [], [23]⟩, ⟨[23, 14], [], [24]⟩, ⟨[24], [], [25]⟩, ⟨[0, 6], [], [26]⟩, ⟨[26], [], [27]⟩, ⟨[27], [], [28]⟩, ⟨[28, 8], [], [29]⟩, ⟨[29], [3, 4, 5], [30]⟩, ⟨[25, 30], [], [31]⟩, ⟨[19], [], [32]⟩, ⟨[32], [], [33]⟩, ⟨[33], [8, 31], [34]⟩]) (ini := [0, 1, 2, 3, 4, 5, 6, 7, 8, 9, 10, 11, 12, 13, 14, 15, 16, 17, 18]) (fin := [1, 2, 0, 34, 30, 6, 7, 9, 10, 11, 12, 13, 14, 15, 16, 17, 18]) (bf := [[], [], [1], [1, 2], [1, 2, 3], [1, 2, 3, 4], [1, 2, 3, 4, 5], [], [7], [7, 8], [7, 8, 9], [7, 8, 9, 10], [1, 2, 3, 4, 5, 6, 7, 8, 9, 10, 11], [0, 1, 2, 3, 4, 5, 6, 7, 8, 9, 10, 11, 12], [0, 1, 2, 3, 4, 5, 6, 7, 8, 9, 10, 11, 12, 13], [0, 1, 2, 3, 4, 5, 6, 7, 8, 9, 10, 11, 12, 13, 14]]) (by kernel_rfl) (by kernel_rfl) (fun Q => by kernel_rfl) (fun x w h1 h2 => ⟨(), (), (), (), (), (), (), (), (), (), (), (), (), (), (), (), (), (), (), EnvAll.of h1 ⟨rfl, rfl, rfl, rfl, trivial⟩, h2⟩) (fun Q => by kernel_rfl) ⟨?_, ?_, ?_, ?_, ?_, ?_, ?_, ?_, ?_, ?_, ?_, ?_, ?_, ?_, ?_, ?_, trivial⟩ ?_
    · rintro Fr _ _
      refine SO.load1 rfl Try.isAgg68 rfl rfl ?_
      exact SO.nilZ fun a w h1 h2 h3 h4 h5 => PZ.of h1 h3 h5 (.cons () (.cons () (.cons () (.nil ⟨EnvAll.of h2 ⟨rfl, rfl, trivial⟩, h4⟩))))
    · rintro Fr _
      refine SO.v rfl (opv_move rfl) ?_
      exact SO.nilZ fun a w h1 h2 h3 h4 h5 => PZ.of h1 h3 h5 (.cons () (.cons () (.nil ⟨EnvAll.of h2 ⟨rfl, rfl, trivial⟩, h4⟩)))
    · rintro Fr _
      refine SO.v rfl (opv_nilCheck rfl) ?_
      exact SO.nilZ fun a w h1 h2 h3 h4 h5 => PZ.of h1 h3 h5 (.cons () (.cons () (.nil ⟨EnvAll.of h2 ⟨rfl, rfl, trivial⟩, h4⟩)))
    · rintro Fr _
      refine SO.v rfl (opv_fieldAddr Try.underlying67 rfl Try.sizeOf65 rfl rfl) ?_
      exact SO.nilZ fun a w h1 h2 h3 h4 h5 => PZ.of h1 h3 h5 (.cons () (.cons () (.nil ⟨EnvAll.of h2 ⟨rfl, rfl, trivial⟩, h4⟩)))
    · rintro Fr _ _
      refine SO.load1 rfl Try.isAgg65 rfl rfl ?_
      exact SO.nilZ fun a w h1 h2 h3 h4 h5 => PZ.of h1 h3 h5 (.cons () (.cons () (.cons () (.nil ⟨EnvAll.of h2 ⟨rfl, rfl, trivial⟩, h4⟩))))
    · rintro Fr _ _
      refine SO.v rfl (opv_lenZ hle rfl Try.underlying65 hr1 rfl) ?_
      exact SO.nilZ fun a w h1 h2 h3 h4 h5 => PZ.of h1 h3 h5 (.cons () (.cons () (.cons () (.nil ⟨EnvAll.of h2 ⟨rfl, rfl, trivial⟩, h4⟩))))
    · rintro Fr _
      refine SO.v rfl (opv_add rfl rfl) ?_
      exact SO.nilZ fun a w h1 h2 h3 h4 h5 => PZ.of h1 h3 h5 (.cons () (.cons () (.nil ⟨EnvAll.of h2 ⟨rfl, rfl, trivial⟩, h4⟩)))
    · rintro Fr _ _
      refine SO.load1 rfl Try.isAgg68 rfl rfl ?_
      exact SO.nilZ fun a w h1 h2 h3 h4 h5 => PZ.of h1 h3 h5 (.cons () (.cons () (.cons () (.nil ⟨EnvAll.of h2 ⟨rfl, rfl, trivial⟩, h4⟩))))
    · rintro Fr _
      refine SO.v rfl (opv_nilCheck rfl) ?_
      exact SO.nilZ fun a w h1 h2 h3 h4 h5 => PZ.of h1 h3 h5 (.cons () (.cons () (.nil ⟨EnvAll.of h2 ⟨rfl, rfl, trivial⟩, h4⟩)))
    · rintro Fr _
      refine SO.v rfl (opv_fieldAddr Try.underlying73 rfl Try.sizeOf70 rfl rfl) ?_
      exact SO.nilZ fun a w h1 h2 h3 h4 h5 => PZ.of h1 h3 h5 (.cons () (.cons () (.nil ⟨EnvAll.of h2 ⟨rfl, rfl, trivial⟩, h4⟩)))
    · rintro Fr _ _
      refine SO.load1 rfl Try.isAgg70 rfl rfl ?_
      exact SO.nilZ fun a w h1 h2 h3 h4 h5 => PZ.of h1 h3 h5 (.cons () (.cons () (.cons () (.nil ⟨EnvAll.of h2 ⟨rfl, rfl, trivial⟩, h4⟩))))
    · rintro Fr _ _ _ _
      refine SO.b2 ?_
      refine SO.b2 ?_
      refine SO.b2 ?_
      refine SO.call (pre := [Box _ _, MapO _ _ _, MapO _ _ _]) rfl Try.call43 rfl rfl rfl (tx_Tx_Entries.ct _ bt u12_l u12_out _ _ _ ht16) trivial ?_
      rintro v17 _ ⟨_, u19_l, u19_out, rfl, rfl⟩
      refine SO.rd fun hr18 => ?_
      refine SO.b1 ?_
      refine SO.b3 ?_
      refine SO.b3 ?_
      refine SO.b3 ?_
      exact SO.nilZ fun a w h1 h2 h3 h4 h5 => PZ.of h1 h3 h5 (.cons () (.cons (v17, u19_l, u19_out) (.nil ⟨EnvAll.of h2 ⟨rfl, rfl, trivial⟩, h4⟩)))
    · rintro Fr _ ⟨v17, u19_l, u19_out⟩
      refine SO.rd fun hr20 => ?_
      refine SO.call (pre := []) rfl Try.call42 rfl rfl rfl (desc_New.ct v17 _ _ _ ht22) (Rd.head hr20) ?_
      rintro _ _ ⟨b23, u24_l, rfl, rfl⟩
      refine SO.b1 ?_
      refine SO.rd fun hr25 => ?_
      refine SO.b1 ?_
      refine SO.b1 ?_
      refine SO.b5 ?_
      refine SO.b5 ?_
      refine SO.b5 ?_
      refine SO.b5 ?_
      exact SO.nilZ fun a w h1 h2 h3 h4 h5 => PZ.of h1 h3 h5 (.cons () (.cons (v17, u19_l, u19_out) (.cons (u24_l, b23) (.nil ⟨EnvAll.of h2 ⟨rfl, rfl, rfl, trivial⟩, h4⟩))))
    · rintro Fr _
      refine SO.v rfl (opv_nilCheck rfl) ?_
      exact SO.nilZ fun a w h1 h2 h3 h4 h5 => PZ.of h1 h3 h5 (.cons () (.cons () (.nil ⟨EnvAll.of h2 ⟨rfl, rfl, trivial⟩, h4⟩)))
    · rintro Fr _
      refine SO.v rfl (opv_fieldAddr Try.underlying73 rfl Try.sizeOf71 rfl rfl) ?_
      exact SO.nilZ fun a w h1 h2 h3 h4 h5 => PZ.of h1 h3 h5 (.cons () (.cons () (.nil ⟨EnvAll.of h2 ⟨rfl, rfl, trivial⟩, h4⟩)))
    · rintro Fr _ _ ⟨u24_l, b23⟩
      refine SO.b1 ?_
      refine SO.rd fun hr26 => ?_
      refine SO.b1 ?_
      refine SO.store1 Try.sizeOf71 rfl rfl rfl rfl ?_
      refine SO.b2 ?_
      refine SO.b2 ?_
      exact SO.nilZ fun a w h1 h2 h3 h4 h5 => PZ.of h1 h3 h5 (.cons () (.cons (u24_l, b23) (.nil ⟨EnvAll.of h2 ⟨rfl, rfl, trivial⟩, h4⟩)))
    rintro _ _ _ ⟨u24_l, b23⟩ ⟨v17, u19_l, u19_out⟩ _ _ _ _ _ _ _ _ _ _ _ _
    refine S.to (ρ' := [(0, bp bpm 0), (1, .int .i64 id), (6, bp b6 0), (5, bp b5 0)]) ⟨rfl, rfl, rfl, rfl, trivial⟩ ?_
    refine S.rd fun hr27 => ?_
    refine S.b3 ?_
    refine S.rd fun hr28 => ?_
    refine S.seq ?_
    obtain ⟨zs32, hz33, h⟩ := opt_bind h
    have hle36 : (zb ++ [b23]).length = zs32.length := by have q := (app_spec hz33).2; rw [q]; simp [hle]
    refine S.draw2 (Y := fun Q => ∃ (_ _ _ _ _ _ _ _ _ _ _ _ _ _ _ _ _ _ _ _ _ _ _ : Unit), Q [(0, bp bpm 0), (5, bp b5 0), (1, .int .i64 id), (6, bp b6 0)] [Own 114 ek_tx_Entry v17 t14, Own 114 ek_tx_Entry u24_l t21.l, Box b23 [.int .i64 t21.mark, u24_l, .int .i64 t21.status, .int .i64 t21.at_], Box bw [fv, .func (.func jf) #[] jcs.toArray, bp bt 0, bp b23 0, tl], MapO (aggE ek_api_Cell) u19_l p15.l, MapO (Value.int .u64) u19_out p15.out, Box bt [.int .i64 p15.cells, u19_l, u19_out, .int .i64 p15.lack, .bool p15.fine], Box b5 [bp bw 0], Box b6 [.int .i64 q9], JX, FR, Own 3 (ekI .i64) tl told, Own 88 ek_api_Cell vs sa.l, Own 44 ek_stm_Entry vg gl, Own 105 ekMd va (zb.zip el), Box bpm [bp bps 0, vl, va, vg], ZipR rep_desc_Desc zb dl, Box bps [vs, .int .u32 sa.limit], F]) (Z := fun Q => ∀ (v34 : Value) (v29 : Value) (_ _ _ _ _ _ _ _ _ _ _ _ _ _ _ _ _ : Unit), Q [(55, v34), (54, v29)] [Own 105 ekMd v34 ((zb ++ [b23]).zip zs32), Box bpm [bp bps 0, vl, v34, vg], Own 105 ekMd v29 ([(b23, (⟨id, (told.length : Int), q9, false⟩ : stm_Entry))]), Own 114 ek_tx_Entry v17 t14, Own 114 ek_tx_Entry u24_l t21.l, Box b23 [.int .i64 t21.mark, u24_l, .int .i64 t21.status, .int .i64 t21.at_], Box bw [fv, .func (.func jf) #[] jcs.toArray, bp bt 0, bp b23 0, tl], MapO (aggE ek_api_Cell) u19_l p15.l, MapO (Value.int .u64) u19_out p15.out, Box bt [.int .i64 p15.cells, u19_l, u19_out, .int .i64 p15.lack, .bool p15.fine], Box b5 [bp bw 0], Box b6 [.int .i64 q9], JX, FR, Own 3 (ekI .i64) tl told, Own 88 ek_api_Cell vs sa.l, Own 44 ek_stm_Entry vg gl, ZipR rep_desc_Desc zb dl, Box bps [vs, .int .u32 sa.limit], F]) (T := [tS 0 (bp bpm 0), tS 5 (bp b5 0), tS 1 (.int .i64 id), tS 6 (bp b6 0), tR (Own 114 ek_tx_Entry v17 t14), tR (Own 114 ek_tx_Entry u24_l t21.l), tR (Box b23 [.int .i64 t21.mark, u24_l, .int .i64 t21.status, .int .i64 t21.at_]), tR (Box bw [fv, .func (.func jf) #[] jcs.toArray, bp bt 0, bp b23 0, tl]), tR (MapO (aggE ek_api_Cell) u19_l p15.l), tR (MapO (Value.int .u64) u19_out p15.out), tR (Box bt [.int .i64 p15.cells, u19_l, u19_out, .int .i64 p15.lack, .bool p15.fine]), tR (Box b5 [bp bw 0]), tR (Box b6 [.int .i64 q9]), tR (JX), tR (FR), tR (Own 3 (ekI .i64) tl told), tR (Own 88 ek_api_Cell vs sa.l), tR (Own 44 ek_stm_Entry vg gl), tR (Own 105 ekMd va (zb.zip el)), tR (Box bpm [bp bps 0, vl, va, vg]), tR (ZipR rep_desc_Desc zb dl), tR (Box bps [vs, .int .u32 sa.limit]), tR (F), tS 36 (bp bpm 0), tS 37 (bp bpm 0), tS 38 (bp bpm 0), tS 39 (bp bpm 2), tS 40 (va), tS 41 (bp bw 0), tS 42 (bp bw 0), tS 43 (bp bw 3), tS 44 (bp b23 0), tS 45 (.int .i64 id), tS 46 (bp bw 0), tS 47 (bp bw 0), tS 48 (bp bw 4), tS 49 (tl), tS 50 (.int .i64 (told.length : Int)), tS 51 (.int .i64 q9), tS 52 (.agg #[.int .i64 id, .int .i64 (told.length : Int), .int .i64 q9, .bool false]), tS 53 (.agg #[bp b23 0, .int .i64 id, .int .i64 (told.length : Int), .int .i64 q9, .bool false]), ⟨Value, [54], (fun v29 => [(54, v29)]), (fun v29 => [Own 105 ekMd v29 ([(b23, (⟨id, (told.length : Int), q9, false⟩ : stm_Entry))])]), fun _ => rfl⟩, ⟨Value, [55], (fun v34 => [(55, v34)]), (fun v34 => [Own 105 ekMd v34 ((zb ++ [b23]).zip zs32)]), fun _ => rfl⟩, tS 56 (bp bpm 0), tS 57 (bp bpm 2), ⟨Value, [55], (fun v34 => [(55, v34)]), (fun v34 => [Own 105 ekMd v34 ((zb ++ [b23]).zip zs32), Box bpm [bp bps 0, vl, v34, vg]]), fun _ => rfl⟩]) (D := [⟨[0], [], [23]⟩, ⟨[0], [], [24]⟩, ⟨[24], [], [25]⟩, ⟨[25], [], [26]⟩, ⟨[26, 19], [], [27]⟩, ⟨[1, 11], [], [28]⟩, ⟨[28], [], [29]⟩, ⟨[29], [], [30]⟩, ⟨[30, 7], [], [31]⟩, ⟨[2], [], [32]⟩, ⟨[1, 11], [], [33]⟩, ⟨[33], [], [34]⟩, ⟨[34], [], [35]⟩, ⟨[35, 7], [], [36]⟩, ⟨[36, 15], [], [37]⟩, ⟨[3, 12], [], [38]⟩, ⟨[32, 37, 38], [], [39]⟩, ⟨[31, 39], [], [40]⟩, ⟨[40], [], [41]⟩, ⟨[27, 41], [18], [42]⟩, ⟨[23], [], [43]⟩, ⟨[43], [], [44]⟩, ⟨[44], [19, 42], [45]⟩]) (ini := [0, 1, 2, 3, 4, 5, 6, 7, 8, 9, 10, 11, 12, 13, 14, 15, 16, 17, 18, 19, 20, 21, 22]) (fin := [45, 41, 4, 5, 6, 7, 8, 9, 10, 11, 12, 13, 14, 15, 16, 17, 20, 21, 22]) (bf := [[], [], [1], [1, 2], [1, 2, 3], [], [5], [5, 6], [5, 6, 7], [], [], [10], [10, 11], [10, 11, 12], [10, 11, 12, 13], [], [9, 10, 11, 12, 13, 14, 15], [5, 6, 7, 8, 9, 10, 11, 12, 13, 14, 15, 16], [5, 6, 7, 8, 9, 10, 11, 12, 13, 14, 15, 16, 17], [1, 2, 3, 4, 5, 6, 7, 8, 9, 10, 11, 12, 13, 14, 15, 16, 17, 18], [0, 1, 2, 3, 4, 5, 6, 7, 8, 9, 10, 11, 12, 13, 14, 15, 16, 17, 18, 19], [0, 1, 2, 3, 4, 5, 6, 7, 8, 9, 10, 11, 12, 13, 14, 15, 16, 17, 18, 19, 20], [0, 1, 2, 3, 4, 5, 6, 7, 8, 9, 10, 11, 12, 13, 14, 15, 16, 17, 18, 19, 20, 21]]) (by kernel_rfl) (by kernel_rfl) (fun Q => by kernel_rfl) (fun x w h1 h2 => ⟨(), (), (), (), (), (), (), (), (), (), (), (), (), (), (), (), (), (), (), (), (), (), (), EnvAll.of h1 ⟨rfl, rfl, rfl, rfl, trivial⟩, h2⟩) (fun Q => by kernel_rfl) ⟨?_, ?_, ?_, ?_, ?_, ?_, ?_, ?_, ?_, ?_, ?_, ?_, ?_, ?_, ?_, ?_, ?_, ?_, ?_, ?_, ?_, ?_, ?_, trivial⟩ ?_
    · rintro Fr _
      refine SO.v rfl (opv_move rfl) ?_
      exact SO.nilZ fun a w h1 h2 h3 h4 h5 => PZ.of h1 h3 h5 (.cons () (.cons () (.nil ⟨EnvAll.of h2 ⟨rfl, rfl, trivial⟩, h4⟩)))
    · rintro Fr _
      refine SO.v rfl (opv_move rfl) ?_
      exact SO.nilZ fun a w h1 h2 h3 h4 h5 => PZ.of h1 h3 h5 (.cons () (.cons () (.nil ⟨EnvAll.of h2 ⟨rfl, rfl, trivial⟩, h4⟩)))
    · rintro Fr _
      refine SO.v rfl (opv_nilCheck rfl) ?_
      exact SO.nilZ fun a w h1 h2 h3 h4 h5 => PZ.of h1 h3 h5 (.cons () (.cons () (.nil ⟨EnvAll.of h2 ⟨rfl, rfl, trivial⟩, h4⟩)))
    · rintro Fr _
      refine SO.v rfl (opv_fieldAddr Try.underlying67 rfl Try.sizeOf65 rfl rfl) ?_
      exact SO.nilZ fun a w h1 h2 h3 h4 h5 => PZ.of h1 h3 h5 (.cons () (.cons () (.nil ⟨EnvAll.of h2 ⟨rfl, rfl, trivial⟩, h4⟩)))
    · rintro Fr _ _
      refine SO.load1 rfl Try.isAgg65 rfl rfl ?_
      exact SO.nilZ fun a w h1 h2 h3 h4 h5 => PZ.of h1 h3 h5 (.cons () (.cons () (.cons () (.nil ⟨EnvAll.of h2 ⟨rfl, rfl, trivial⟩, h4⟩))))
    · rintro Fr _ _
      refine SO.load1 rfl Try.isAgg68 rfl rfl ?_
      exact SO.nilZ fun a w h1 h2 h3 h4 h5 => PZ.of h1 h3 h5 (.cons () (.cons () (.cons () (.nil ⟨EnvAll.of h2 ⟨rfl, rfl, trivial⟩, h4⟩))))
    · rintro Fr _
      refine SO.v rfl (opv_nilCheck rfl) ?_
      exact SO.nilZ fun a w h1 h2 h3 h4 h5 => PZ.of h1 h3 h5 (.cons () (.cons () (.nil ⟨EnvAll.of h2 ⟨rfl, rfl, trivial⟩, h4⟩)))
    · rintro Fr _
      refine SO.v rfl (opv_fieldAddr Try.underlying73 rfl Try.sizeOf71 rfl rfl) ?_
      exact SO.nilZ fun a w h1 h2 h3 h4 h5 => PZ.of h1 h3 h5 (.cons () (.cons () (.nil ⟨EnvAll.of h2 ⟨rfl, rfl, trivial⟩, h4⟩)))
    · rintro Fr _ _
      refine SO.load1 rfl Try.isAgg71 rfl rfl ?_
      exact SO.nilZ fun a w h1 h2 h3 h4 h5 => PZ.of h1 h3 h5 (.cons () (.cons () (.cons () (.nil ⟨EnvAll.of h2 ⟨rfl, rfl, trivial⟩, h4⟩))))
    · rintro Fr _
      refine SO.v rfl (opv_move rfl) ?_
      exact SO.nilZ fun a w h1 h2 h3 h4 h5 => PZ.of h1 h3 h5 (.cons () (.cons () (.nil ⟨EnvAll.of h2 ⟨rfl, rfl, trivial⟩, h4⟩)))
    · rintro Fr _ _
      refine SO.load1 rfl Try.isAgg68 rfl rfl ?_
      exact SO.nilZ fun a w h1 h2 h3 h4 h5 => PZ.of h1 h3 h5 (.cons () (.cons () (.cons () (.nil ⟨EnvAll.of h2 ⟨rfl, rfl, trivial⟩, h4⟩))))
    · rintro Fr _
      refine SO.v rfl (opv_nilCheck rfl) ?_
      exact SO.nilZ fun a w h1 h2 h3 h4 h5 => PZ.of h1 h3 h5 (.cons () (.cons () (.nil ⟨EnvAll.of h2 ⟨rfl, rfl, trivial⟩, h4⟩)))
    · rintro Fr _
      refine SO.v rfl (opv_fieldAddr Try.underlying73 rfl Try.sizeOf24 rfl rfl) ?_
      exact SO.nilZ fun a w h1 h2 h3 h4 h5 => PZ.of h1 h3 h5 (.cons () (.cons () (.nil ⟨EnvAll.of h2 ⟨rfl, rfl, trivial⟩, h4⟩)))
    · rintro Fr _ _
      refine SO.load1 rfl Try.isAgg24 rfl rfl ?_
      exact SO.nilZ fun a w h1 h2 h3 h4 h5 => PZ.of h1 h3 h5 (.cons () (.cons () (.cons () (.nil ⟨EnvAll.of h2 ⟨rfl, rfl, trivial⟩, h4⟩))))
    · rintro Fr _ _
      refine SO.v rfl (opv_lenR rfl Try.underlying24 hr4 rfl) ?_
      exact SO.nilZ fun a w h1 h2 h3 h4 h5 => PZ.of h1 h3 h5 (.cons () (.cons () (.cons () (.nil ⟨EnvAll.of h2 ⟨rfl, rfl, trivial⟩, h4⟩))))
    · rintro Fr _ _
      refine SO.load1 rfl Try.isAgg3 rfl rfl ?_
      exact SO.nilZ fun a w h1 h2 h3 h4 h5 => PZ.of h1 h3 h5 (.cons () (.cons () (.cons () (.nil ⟨EnvAll.of h2 ⟨rfl, rfl, trivial⟩, h4⟩))))
    · rintro Fr _ _ _
      refine SO.v rfl (opv_build (v := .agg #[.int .i64 id, .int .i64 (told.length : Int), .int .i64 q9, .bool false]) rfl (by intro w; kernel_rfl)) ?_
      exact SO.nilZ fun a w h1 h2 h3 h4 h5 => PZ.of h1 h3 h5 (.cons () (.cons () (.cons () (.cons () (.nil ⟨EnvAll.of h2 ⟨rfl, rfl, rfl, rfl, trivial⟩, h4⟩)))))
    · rintro Fr _ _
      refine SO.v rfl (opv_build (v := .agg #[bp b23 0, .int .i64 id, .int .i64 (told.length : Int), .int .i64 q9, .bool false]) rfl (by intro w; kernel_rfl)) ?_
      exact SO.nilZ fun a w h1 h2 h3 h4 h5 => PZ.of h1 h3 h5 (.cons () (.cons () (.cons () (.nil ⟨EnvAll.of h2 ⟨rfl, rfl, rfl, trivial⟩, h4⟩))))
    · rintro Fr _
      refine SO.buildSlice (K := ekMd) (xs := [(b23, (⟨id, (told.length : Int), q9, false⟩ : stm_Entry))]) (cs := [bp b23 0, .int .i64 id, .int .i64 (told.length : Int), .int .i64 q9, .bool false]) rfl Try.underlying65 Try.sizeOf105 Try.zeroValue105 rfl rfl rfl (by kernel_rfl) rfl rfl rfl (fun v29 hr30 => ?_)
      exact SO.nilZ fun a w h1 h2 h3 h4 h5 => PZ.of h1 h3 h5 (.cons () (.cons v29 (.nil ⟨EnvAll.of h2 ⟨rfl, rfl, trivial⟩, h4⟩)))
    · rintro Fr _ v29 _
      refine SO.rd fun hr31 => ?_
      refine SO.b1 ?_
      refine SO.append rfl Try.underlying65 Try.underlying65 inf105_stm_Machine_run rfl rfl rfl (by decide) rfl rfl rfl (Rd.head hr31) (app_zip hle hz33) (fun v34 => ?_)
      refine SO.rd fun hr35 => ?_
      refine SO.b1 ?_
      exact SO.nilZ fun a w h1 h2 h3 h4 h5 => PZ.of h1 h3 h5 (.cons () (.cons v29 (.cons v34 (.nil ⟨EnvAll.of h2 ⟨rfl, rfl, rfl, trivial⟩, h4⟩))))
    · rintro Fr _
      refine SO.v rfl (opv_nilCheck rfl) ?_
      exact SO.nilZ fun a w h1 h2 h3 h4 h5 => PZ.of h1 h3 h5 (.cons () (.cons () (.nil ⟨EnvAll.of h2 ⟨rfl, rfl, trivial⟩, h4⟩)))
    · rintro Fr _
      refine SO.v rfl (opv_fieldAddr Try.underlying67 rfl Try.sizeOf65 rfl rfl) ?_
      exact SO.nilZ fun a w h1 h2 h3 h4 h5 => PZ.of h1 h3 h5 (.cons () (.cons () (.nil ⟨EnvAll.of h2 ⟨rfl, rfl, trivial⟩, h4⟩)))
    · rintro Fr _ _ v34
      refine SO.b1 ?_
      refine SO.rd fun hr37 => ?_
      refine SO.b1 ?_
      refine SO.store1 Try.sizeOf65 rfl rfl (Rd.one hr37) rfl ?_
      refine SO.b1 ?_
      exact SO.nilZ fun a w h1 h2 h3 h4 h5 => PZ.of h1 h3 h5 (.cons () (.cons v34 (.nil ⟨EnvAll.of h2 ⟨rfl, rfl, trivial⟩, h4⟩)))
    rintro v34 v29 _ _ _ _ _ _ _ _ _ _ _ _ _ _ _ _ _
    refine S.to (ρ' := []) trivial ?_
    refine S.rd fun hr38 => ?_
    refine S.b2 ?_
    refine S.rd fun hr39 => ?_
    cases h
    refine S.b17 ?_
    refine S.b5 ?_
    refine S.b6 ?_
    refine s_close_desc_Desc (t := t21) ?_
    refine S.snocZ hld ?_
    refine S.b1 ?_
    refine S.drop ?_
    refine S.b3 ?_
    refine S.drop ?_
    refine S.b7 ?_
    refine S.drop ?_
    refine S.b7 ?_
    refine S.drop ?_
    refine S.b13 ?_
    refine S.b9 ?_
    refine S.b9 ?_
    refine S.b8 ?_
    refine S.b8 ?_
    refine S.b9 ?_
    refine S.b10 ?_
    refine S.b10 ?_
    refine S.b11 ?_
    refine S.b13 ?_
    refine S.b13 ?_
    refine S.b11 ?_
    refine S.b12 ?_
    refine S.b13 ?_
    exact S.ret0 Try.func27 rfl (fun w hs hk => hR w _ _ ⟨(zb ++ [b23]), (bp b23 0), v34, vg, vs, u19_l, u19_out, rfl, rfl, (.inr ⟨rfl, b23, rfl, rfl⟩)⟩ hs hk)
  replace h := cond_f b13 h
  refine S.condF rfl b13 ?_
  refine S.skip ?_
  refine S.seq ?_
  refine S.region ?_
  refine SO.v rfl (opv_move rfl) ?_
  refine SO.v rfl (opv_nilCheck rfl) ?_
  refine SO.v rfl (opv_fieldAddr Try.underlying67 rfl Try.sizeOf27 rfl rfl) ?_
  refine SO.b12 ?_
  refine SO.load1 rfl Try.isAgg27 rfl rfl ?_
  refine SO.v rfl (opv_move rfl) ?_
  obtain ⟨⟨t40, t41⟩, ht42, h⟩ := opt_bind h
  refine SO.b10 ?_
  refine SO.b14 ?_
  refine SO.call (pre := [Box _ _, Own _ _ _ _]) rfl Try.call35 rfl rfl rfl (word_Store_Read.ct bps vs _ _ _ _ ht42) trivial ?_
  rintro _ _ ⟨rfl, rfl⟩
  refine SO.v rfl (opv_move rfl) ?_
  refine SO.v rfl (opv_extract rfl rfl) ?_
  refine SO.v rfl (opv_extract rfl rfl) ?_
  refine SO.alloc rfl Try.zeroValue88 rfl (fun b43 => ?_)
  refine SO.storeN Try.sizeOf88 rfl rfl rfl rfl rfl rfl ?_
  refine SO.v rfl (opv_assign rfl) ?_
  refine SO.nil ?_
  refine S.to (ρ' := [(0, bp bpm 0), (5, bp b5 0), (7, .int .i64 t7), (9, bp b43 0), (10, errV 60 t41)]) ⟨rfl, rfl, rfl, rfl, rfl, trivial⟩ ?_
  refine S.seq ?_
  refine S.seq ?_
  refine S.region ?_
  refine SO.v rfl (opv_move rfl) ?_
  refine SO.v rfl (opv_eqlN (e := t41) Try.underlying29 rfl) ?_
  refine SO.v rfl (opv_move rfl) ?_
  refine SO.cut 4 73 (.bool (t41.isNone && (t40.Mark != 0))) [Box b43 [.int .u64 t40.Value, .int .u32 t40.Version, .int .i64 t40.Mark], Box bps [vs, .int .u32 sa.limit], Own 88 ek_api_Cell vs sa.l, Box bpm [bp bps 0, vl, va, vg], Box bt [.int .i64 p10.cells, u12_l, u12_out, .int .i64 p10.lack, .bool p10.fine], MapO (aggE ek_api_Cell) u12_l p10.l, MapO (Value.int .u64) u12_out p10.out, Box b5 [bp bw 0], Box b6 [.int .i64 q9], Box bw [fv, .func (.func jf) #[] jcs.toArray, bp bt 0, .pointer none, tl], JX, FR, Own 3 (ekI .i64) tl told, Own 44 ek_stm_Entry vg gl, Own 105 ekMd va (zb.zip el), ZipR rep_desc_Desc zb dl, F] (fun l2 hk2 => ?_) ?_
  · rcases bool_or t41.isNone with b44 | b44
    · refine SO.takeT rfl rfl rfl b44 ?_
      refine SO.v rfl (opv_fieldAddr Try.underlying88 rfl Try.sizeOf3 rfl rfl) ?_
      refine SO.takeT rfl rfl rfl b44 ?_
      refine SO.load1 rfl Try.isAgg3 rfl rfl ?_
      refine SO.takeT rfl rfl rfl b44 ?_
      refine SO.v rfl (opv_neq rfl rfl) ?_
      refine SO.v rfl (opv_pick_t' b44 rfl rfl) ?_
      refine SO.b16 ?_
      refine SO.b16 ?_
      refine SO.b16 ?_
      refine SO.b16 ?_
      refine SO.b16 ?_
      refine SO.b16 ?_
      refine SO.b16 ?_
      refine SO.b16 ?_
      refine SO.b16 ?_
      refine SO.b16 ?_
      refine SO.b16 ?_
      refine SO.b16 ?_
      refine SO.b16 ?_
      refine SO.b16 ?_
      refine SO.b16 ?_
      refine SO.b16 ?_
      refine SO.b16 ?_
      exact hk2.fitc (m := 4) rfl (and_t b44) rfl
    refine SO.passF rfl rfl rfl b44 rfl rfl ?_
    refine SO.passF rfl rfl rfl b44 rfl rfl ?_
    refine SO.passF rfl rfl rfl b44 rfl rfl ?_
    refine SO.v rfl (opv_pick_f' b44 rfl rfl) ?_
    refine SO.b16 ?_
    refine SO.b16 ?_
    refine SO.b16 ?_
    refine SO.b16 ?_
    refine SO.b16 ?_
    refine SO.b16 ?_
    refine SO.b16 ?_
    refine SO.b16 ?_
    refine SO.b16 ?_
    refine SO.b16 ?_
    refine SO.b16 ?_
    refine SO.b16 ?_
    refine SO.b16 ?_
    refine SO.b16 ?_
    refine SO.b16 ?_
    refine SO.b16 ?_
    refine SO.b16 ?_
    exact hk2.fitc (m := 4) rfl (and_f b44) rfl
  refine SO.nil ?_
  rcases bool_or (t41.isNone && (t40.Mark != 0)) with b45 | b45
  · replace h := cond_t b45 h
    refine S.condT rfl b45 ?_
    refine S.seq ?_
    refine S.region ?_
    refine SO.v rfl (opv_move rfl) ?_
    refine SO.v rfl (opv_fieldAddr Try.underlying88 rfl Try.sizeOf3 rfl rfl) ?_
    refine SO.load1 rfl Try.isAgg3 rfl rfl ?_
    obtain ⟨⟨t46, t47, t48⟩, ht49, h⟩ := opt_bind h
    refine SO.b2 ?_
    refine SO.b2 ?_
    refine SO.b13 ?_
    refine SO.b15 ?_
    refine SO.b15 ?_
    refine SO.b6 ?_
    have ct55 := stm_Machine_advance.ct k zb bpm bps vl va vg vs sa dl el gl hle t40.Mark t46 t47 t48 ht49
    try dsimp only at ct55
    refine SO.call (pre := [Box _ _, Own _ _ _ _, ZipR _ _ _, Own _ _ _ _, Box _ _, Own _ _ _ _]) rfl Try.call30 rfl rfl rfl ct55 trivial ?_
    rintro _ _ ⟨v50, v51, rfl, rfl⟩
    refine SO.b3 ?_
    refine SO.rd fun hr52 => ?_
    refine SO.b5 ?_
    refine SO.rd fun hr53 => ?_
    refine SO.b3 ?_
    refine SO.rd fun hr54 => ?_
    refine SO.nil ?_
    refine S.to (ρ' := []) trivial ?_
    cases h
    refine S.b6 ?_
    refine S.drop ?_
    refine S.b9 ?_
    refine S.drop ?_
    refine S.b9 ?_
    refine S.drop ?_
    refine S.b13 ?_
    refine S.b12 ?_
    refine S.b12 ?_
    refine S.b11 ?_
    refine S.b11 ?_
    refine S.b11 ?_
    refine S.b13 ?_
    refine S.b13 ?_
    refine S.b9 ?_
    refine S.b13 ?_
    refine S.b11 ?_
    refine S.b13 ?_
    refine S.b12 ?_
    refine S.b13 ?_
    exact S.ret0 Try.func27 rfl (fun w hs hk => hR w _ _ ⟨zb, (.pointer none), va, v50, v51, u12_l, u12_out, rfl, rfl, (.inl ⟨rfl, rfl, rfl⟩)⟩ hs hk)
  replace h := cond_f b45 h
  refine S.condF rfl b45 ?_
  refine S.skip ?_
  obtain ⟨p56, ht57, h⟩ := opt_bind h
  refine S.draw2 (Y := fun Q => ∃ (_ _ _ _ _ _ _ _ _ _ _ _ _ _ _ _ _ _ _ _ : Unit), Q [(5, bp b5 0), (7, .int .i64 t7), (9, bp b43 0)] [Box b43 [.int .u64 t40.Value, .int .u32 t40.Version, .int .i64 t40.Mark], Box bps [vs, .int .u32 sa.limit], Own 88 ek_api_Cell vs sa.l, Box bpm [bp bps 0, vl, va, vg], Box bt [.int .i64 p10.cells, u12_l, u12_out, .int .i64 p10.lack, .bool p10.fine], MapO (aggE ek_api_Cell) u12_l p10.l, MapO (Value.int .u64) u12_out p10.out, Box b5 [bp bw 0], Box b6 [.int .i64 q9], Box bw [fv, .func (.func jf) #[] jcs.toArray, bp bt 0, .pointer none, tl], JX, FR, Own 3 (ekI .i64) tl told, Own 44 ek_stm_Entry vg gl, Own 105 ekMd va (zb.zip el), ZipR rep_desc_Desc zb dl, F]) (Z := fun Q => ∀ (g_0 : (Value × Value)) (_ _ _ _ _ _ _ _ _ _ _ _ _ _ : Unit), Q [(84, .tuple #[])] [MapO (aggE ek_api_Cell) g_0.1 p56.l, MapO (Value.int .u64) g_0.2 p56.out, Box bt [.int .i64 p56.cells, g_0.1, g_0.2, .int .i64 p56.lack, .bool p56.fine], Box b43 [.int .u64 t40.Value, .int .u32 t40.Version, .int .i64 t40.Mark], Box bps [vs, .int .u32 sa.limit], Own 88 ek_api_Cell vs sa.l, Box bpm [bp bps 0, vl, va, vg], Box b5 [bp bw 0], Box b6 [.int .i64 q9], Box bw [fv, .func (.func jf) #[] jcs.toArray, bp bt 0, .pointer none, tl], JX, FR, Own 3 (ekI .i64) tl told, Own 44 ek_stm_Entry vg gl, Own 105 ekMd va (zb.zip el), ZipR rep_desc_Desc zb dl, F]) (T := [tS 5 (bp b5 0), tS 7 (.int .i64 t7), tS 9 (bp b43 0), tR (Box b43 [.int .u64 t40.Value, .int .u32 t40.Version, .int .i64 t40.Mark]), tR (Box bps [vs, .int .u32 sa.limit]), tR (Own 88 ek_api_Cell vs sa.l), tR (Box bpm [bp bps 0, vl, va, vg]), tR (Box bt [.int .i64 p10.cells, u12_l, u12_out, .int .i64 p10.lack, .bool p10.fine]), tR (MapO (aggE ek_api_Cell) u12_l p10.l), tR (MapO (Value.int .u64) u12_out p10.out), tR (Box b5 [bp bw 0]), tR (Box b6 [.int .i64 q9]), tR (Box bw [fv, .func (.func jf) #[] jcs.toArray, bp bt 0, .pointer none, tl]), tR (JX), tR (FR), tR (Own 3 (ekI .i64) tl told), tR (Own 44 ek_stm_Entry vg gl), tR (Own 105 ekMd va (zb.zip el)), tR (ZipR rep_desc_Desc zb dl), tR (F), tS 78 (bp bw 0), tS 79 (bp bw 0), tS 80 (bp bw 2), tS 81 (bp bt 0), tS 82 (.int .i64 t7), tS 83 (.agg #[.int .u64 t40.Value, .int .u32 t40.Version, .int .i64 t40.Mark]), ⟨(Value × Value), [84], (fun x => match x with | (u58_l, u58_out) => [(84, .tuple #[])]), (fun x => match x with | (u58_l, u58_out) => [MapO (aggE ek_api_Cell) u58_l p56.l, MapO (Value.int .u64) u58_out p56.out, Box bt [.int .i64 p56.cells, u58_l, u58_out, .int .i64 p56.lack, .bool p56.fine]]), fun _ => rfl⟩]) (D := [⟨[0, 10], [], [20]⟩, ⟨[20], [], [21]⟩, ⟨[21], [], [22]⟩, ⟨[22, 12], [], [23]⟩, ⟨[1], [], [24]⟩, ⟨[2, 3], [], [25]⟩, ⟨[23, 24, 25], [7, 8, 9], [26]⟩]) (ini := [0, 1, 2, 3, 4, 5, 6, 7, 8, 9, 10, 11, 12, 13, 14, 15, 16, 17, 18, 19]) (fin := [26, 3, 4, 5, 6, 10, 11, 12, 13, 14, 15, 16, 17, 18, 19]) (bf := [[], [0], [0, 1], [0, 1, 2], [], [], [0, 1, 2, 3, 4, 5]]) (by kernel_rfl) (by kernel_rfl) (fun Q => by kernel_rfl) (fun x w h1 h2 => ⟨(), (), (), (), (), (), (), (), (), (), (), (), (), (), (), (), (), (), (), (), EnvAll.of h1 ⟨rfl, rfl, rfl, trivial⟩, h2⟩) (fun Q => by kernel_rfl) ⟨?_, ?_, ?_, ?_, ?_, ?_, ?_, trivial⟩ ?_
  · rintro Fr _ _
    refine SO.load1 rfl Try.isAgg68 rfl rfl ?_
    exact SO.nilZ fun a w h1 h2 h3 h4 h5 => PZ.of h1 h3 h5 (.cons () (.cons () (.cons () (.nil ⟨EnvAll.of h2 ⟨rfl, rfl, trivial⟩, h4⟩))))
  · rintro Fr _
    refine SO.v rfl (opv_nilCheck rfl) ?_
    exact SO.nilZ fun a w h1 h2 h3 h4 h5 => PZ.of h1 h3 h5 (.cons () (.cons () (.nil ⟨EnvAll.of h2 ⟨rfl, rfl, trivial⟩, h4⟩)))
  · rintro Fr _
    refine SO.v rfl (opv_fieldAddr Try.underlying73 rfl Try.sizeOf70 rfl rfl) ?_
    exact SO.nilZ fun a w h1 h2 h3 h4 h5 => PZ.of h1 h3 h5 (.cons () (.cons () (.nil ⟨EnvAll.of h2 ⟨rfl, rfl, trivial⟩, h4⟩)))
  · rintro Fr _ _
    refine SO.load1 rfl Try.isAgg70 rfl rfl ?_
    exact SO.nilZ fun a w h1 h2 h3 h4 h5 => PZ.of h1 h3 h5 (.cons () (.cons () (.cons () (.nil ⟨EnvAll.of h2 ⟨rfl, rfl, trivial⟩, h4⟩))))
  · rintro Fr _
    refine SO.v rfl (opv_move rfl) ?_
    exact SO.nilZ fun a w h1 h2 h3 h4 h5 => PZ.of h1 h3 h5 (.cons () (.cons () (.nil ⟨EnvAll.of h2 ⟨rfl, rfl, trivial⟩, h4⟩)))
  · rintro Fr _ _
    refine SO.loadN rfl Try.isAgg88 Try.sizeOf88 rfl rfl rfl ?_
    exact SO.nilZ fun a w h1 h2 h3 h4 h5 => PZ.of h1 h3 h5 (.cons () (.cons () (.cons () (.nil ⟨EnvAll.of h2 ⟨rfl, rfl, trivial⟩, h4⟩))))
  · refine spec2 (X := fun Q => ∀ (_ _ _ _ _ _ : Unit), Q [(81, bp bt 0), (82, .int .i64 t7), (83, .agg #[.int .u64 t40.Value, .int .u32 t40.Version, .int .i64 t40.Mark])] [Box bt [.int .i64 p10.cells, u12_l, u12_out, .int .i64 p10.lack, .bool p10.fine], MapO (aggE ek_api_Cell) u12_l p10.l, MapO (Value.int .u64) u12_out p10.out]) (fun Q => by kernel_rfl) ?_
    rintro Fr _ _ _ _ _ _
    refine SO.b2 ?_
    refine SO.b2 ?_
    refine SO.b2 ?_
    refine SO.call (pre := [Box _ _, MapO _ _ _, MapO _ _ _]) rfl Try.call44 rfl rfl rfl (tx_Tx_Learn.ct bt u12_l u12_out _ _ _ _ ht57) trivial ?_
    rintro _ _ ⟨u58_l, u58_out, rfl, rfl⟩
    refine SO.b2 ?_
    refine SO.b2 ?_
    exact SO.nilZ fun a w h1 h2 h3 h4 h5 => PZ.of h1 h3 h5 (.cons () (.cons () (.cons () (.cons (u58_l, u58_out) (.nil ⟨EnvAll.of h2 ⟨rfl, rfl, rfl, rfl, trivial⟩, h4⟩)))))
  rintro ⟨u58_l, u58_out⟩ _ _ _ _ _ _ _ _ _ _ _ _ _ _
  refine S.to (ρ' := []) trivial ?_
  cases h
  refine S.b3 ?_
  refine S.drop ?_
  refine S.b6 ?_
  refine S.drop ?_
  refine S.b6 ?_
  refine S.drop ?_
  refine S.b13 ?_
  refine S.b9 ?_
  refine S.b9 ?_
  refine S.b4 ?_
  refine S.b4 ?_
  refine S.b5 ?_
  refine S.b10 ?_
  refine S.b10 ?_
  refine S.b9 ?_
  refine S.b9 ?_
  refine S.b11 ?_
  refine S.b13 ?_
  refine S.b13 ?_
  refine S.b13 ?_
  exact S.fin0 Try.func27 rfl (fun w hs hk => hR w _ _ ⟨zb, (.pointer none), va, vg, vs, u58_l, u58_out, rfl, rfl, (.inl ⟨rfl, rfl, rfl⟩)⟩ hs hk)
end Go.Proofs
set_option linter.unusedVariables false
namespace Go.Proofs
open Go.Sl Go.RowKit

/-! 10 (*padstone/stm.Machine).Step -/
def stm_Step_run.f (k : Nat) (sa : word_Store) (dl : List desc_Desc) (el : List stm_Entry) (gl : List stm_Entry) (id : Int) (jm : VM Int) (told : List Int) (tt : tx_Tx) : Option (word_Store × (List desc_Desc) × (List stm_Entry) × (List stm_Entry) × tx_Tx × Bool) :=
  (stm_Machine_run.f k sa dl el gl id jm told tt).bind fun (t13, t14, t15, t16, t17, t18) => some (t13, t14, t15, t16, t17, t18)
set_option maxHeartbeats 8000000 in
set_option maxRecDepth 100000 in
theorem stm_Step_run.ct (k : Nat) (zb : List Nat) (bpm bps : Nat) (vl va vg vs : Value) (sa : word_Store) (dl : List desc_Desc) (el gl : List stm_Entry) (hle : zb.length = el.length) (hld : zb.length = dl.length) (ws : List Nat) (id : Int) (bw : Nat) (hbw : at_ ws id = some bw) (hin : stm_Machine_in.f ws id = some true)  (fv tl : Value) (told : List Int) (bt : Nat) (vt_l vt_out : Value) (tt : tx_Tx) (jf : FuncId) (jcs : List Value) (JX FR : HProp) (rdJ : HProp → Prop) (hmono : ∀ (l : List HProp) (F : HProp), rdJ F → rdJ (stars (l ++ [F]))) (hcj : ∀ (us : Array Value) (w : World), (callFunc jf us).run Try.prog w = .ok (.enter jf us) w) (jm : VM Int) (hj : ∀ (V : VW Try.prog) (s s' : V.S) (a : Int), VM.run V.toVI jm s = some (a, s') → Ct Try.prog jf (V.val :: jcs) rdJ [JX, FR, V.rep s] (fun u H' => u = .int .i64 a ∧ H' = [JX, FR, V.rep s'])) (rs : word_Store) (rd : List desc_Desc) (re rg : List stm_Entry) (rx : tx_Tx) (rn : Bool) (h : stm_Step_run.f k sa dl el gl id jm told tt = some (rs, rd, re, rg, rx, rn)) :
    Ct Try.prog 10 [bp bpm 0, .int .i64 id] (rdJ) [Box bpm [bp bps 0, vl, va, vg], Own 68 ekP vl ws, Own 105 ekMd va (zb.zip el), ZipR rep_desc_Desc zb dl, Own 44 ek_stm_Entry vg gl, Box bps [vs, .int .u32 sa.limit], Own 88 ek_api_Cell vs sa.l, Box bw [fv, .func (.func jf) #[] jcs.toArray, bp bt 0, .pointer none, tl], Own 3 (ekI .i64) tl told, Box bt [.int .i64 tt.cells, vt_l, vt_out, .int .i64 tt.lack, .bool tt.fine], MapO (aggE ek_api_Cell) vt_l tt.l, MapO (Value.int .u64) vt_out tt.out, JX, FR] (fun u H' => ∃ (zb' : List Nat) (dv wa wg ws' wt : Value), u = .bool true ∧ H' = [Box bpm [bp bps 0, vl, wa, wg], Own 68 ekP vl ws, Own 105 ekMd wa (zb'.zip re), ZipR rep_desc_Desc zb' rd, Own 44 ek_stm_Entry wg rg, Box bps [ws', .int .u32 rs.limit], Own 88 ek_api_Cell ws' rs.l, Box bw [fv, .func (.func jf) #[] jcs.toArray, wt, dv, tl], Own 3 (ekI .i64) tl told, TxO wt (some rx), JX, FR] ∧ (rn = false ∧ zb' = zb ∧ dv = .pointer none ∨ rn = true ∧ ∃ b, zb' = zb ++ [b] ∧ dv = bp b 0)) := by
  unfold stm_Step_run.f at h
  refine Ct.intro (n := 68) Try.func10 rfl rfl rfl ?_
  intro R w0 F hF hR
  refine S.b1 ?_
  refine S.rd fun hr1 => ?_
  refine S.b2 ?_
  refine S.rd fun hr2 => ?_
  refine S.b4 ?_
  refine S.rd fun hr3 => ?_
  refine S.b6 ?_
  refine S.rd fun hr4 => ?_
  refine S.b8 ?_
  refine S.rd fun hr5 => ?_
  refine S.seq ?_
  refine S.region ?_
  refine SO.v rfl (opv_assign rfl) ?_
  refine SO.nil ?_
  refine S.seq ?_
  refine S.seq ?_
  refine S.region ?_
  refine SO.v rfl (opv_move rfl) ?_
  refine SO.v rfl (opv_move rfl) ?_
  refine SO.b4 ?_
  refine SO.b5 ?_
  refine SO.call (pre := [Box _ _, Own _ _ _ _]) rfl Try.call23 rfl rfl rfl (stm_Machine_in.ct bpm bps vl va vg ws id _ hin) trivial ?_
  rintro _ _ ⟨rfl, rfl⟩
  refine SO.v rfl (opv_not rfl) ?_
  refine SO.nil ?_
  refine S.cond_false rfl ?_
  refine S.skip ?_
  refine S.seq ?_
  refine S.region ?_
  refine SO.v rfl (opv_move rfl) ?_
  refine SO.v rfl (opv_nilCheck rfl) ?_
  refine SO.v rfl (opv_fieldAddr Try.underlying67 rfl Try.sizeOf64 rfl rfl) ?_
  refine SO.load1 rfl Try.isAgg64 rfl rfl ?_
  refine SO.v rfl (opv_move rfl) ?_
  refine SO.v rfl (opv_idx Try.underlying64 Try.sizeOf68 hr1 rfl rfl hbw) ?_
  refine SO.loadI1 (j := 0) rfl Try.isAgg68 (Rd.tail (Rd.head hr1)) hbw rfl rfl rfl rfl ?_
  refine SO.v rfl (opv_assign rfl) ?_
  refine SO.nil ?_
  refine S.to (ρ' := [(0, bp bpm 0), (1, .int .i64 id), (4, .bool false), (5, bp bw 0)]) ⟨rfl, rfl, rfl, rfl, trivial⟩ ?_
  refine S.seq ?_
  refine S.region ?_
  refine SO.v rfl (opv_move rfl) ?_
  refine SO.b8 ?_
  refine SO.call (pre := [Box _ _]) rfl Try.call24 rfl rfl rfl (stm_next_s.ct bw fv (bp bt 0) (.pointer none) tl jf jcs) trivial ?_
  rintro _ _ ⟨rfl, rfl⟩
  refine SO.v rfl (opv_assign rfl) ?_
  refine SO.nil ?_
  refine S.seq ?_
  refine S.block ?_
  refine S.seq ?_
  refine S.region ?_
  refine SO.v rfl (opv_move rfl) ?_
  refine SO.v rfl (opv_eqlFV Try.underlying69 rfl rfl) ?_
  refine SO.v rfl (opv_assign rfl) ?_
  refine SO.nil ?_
  refine S.cond_false rfl ?_
  refine S.seq ?_
  refine S.region ?_
  refine SO.v rfl (opv_move rfl) ?_
  refine SO.v rfl (opv_nilCheck rfl) ?_
  refine SO.v rfl (opv_fieldAddr Try.underlying73 rfl Try.sizeOf69 rfl rfl) ?_
  refine SO.load1 rfl Try.isAgg69 rfl rfl ?_
  refine SO.v rfl (opv_eqlFV Try.underlying69 rfl rfl) ?_
  refine SO.v rfl (opv_assign rfl) ?_
  refine SO.nil ?_
  refine S.to (ρ' := [(0, bp bpm 0), (1, .int .i64 id), (4, .bool false), (5, bp bw 0), (6, .func (.func jf) #[] jcs.toArray), (30, .bool false)]) ⟨rfl, rfl, rfl, rfl, rfl, rfl, trivial⟩ ?_
  refine S.cond_false rfl ?_
  refine S.seq ?_
  refine S.region ?_
  refine SO.v rfl (opv_move rfl) ?_
  refine SO.v rfl (opv_nilCheck rfl) ?_
  refine SO.v rfl (opv_fieldAddr Try.underlying73 rfl Try.sizeOf71 rfl rfl) ?_
  refine SO.load1 rfl Try.isAgg71 rfl rfl ?_
  refine SO.v rfl (opv_eqlPN Try.underlying71 rfl) ?_
  refine SO.v rfl (opv_assign rfl) ?_
  refine SO.nil ?_
  refine S.to (ρ' := [(0, bp bpm 0), (1, .int .i64 id), (4, .bool false), (5, bp bw 0), (49, .bool true)]) ⟨rfl, rfl, rfl, rfl, rfl, trivial⟩ ?_
  refine S.cond_true rfl ?_
  refine S.region ?_
  refine SO.v rfl (opv_move rfl) ?_
  refine SO.v rfl (opv_move rfl) ?_
  refine SO.v rfl (opv_move rfl) ?_
  obtain ⟨⟨t13, t14, t15, t16, t17, t18⟩, ht19, h⟩ := opt_bind h
  refine SO.b13 ?_
  refine SO.b13 ?_
  refine SO.b13 ?_
  refine SO.b13 ?_
  refine SO.b13 ?_
  refine SO.b8 ?_
  refine SO.b6 ?_
  refine SO.b9 ?_
  refine SO.b13 ?_
  refine SO.b11 ?_
  refine SO.b13 ?_
  refine SO.b13 ?_
  refine SO.b12 ?_
  have hct_ := stm_Machine_run.ct k zb bpm bps vl va vg vs sa dl el gl hle hld id bw fv tl told bt vt_l vt_out tt jf jcs JX FR rdJ hmono hcj jm hj t13 t14 t15 t16 t17 t18 ht19
  refine SO.call (pre := [Box _ _, Own _ _ _ _, ZipR _ _ _, Own _ _ _ _, Box _ _, Own _ _ _ _, Box _ _, Own _ _ _ _, Box _ _, MapO _ _ _, MapO _ _ _, JX, FR]) rfl Try.call27 rfl rfl rfl hct_ (hmono [_] F hF) ?_
  rintro _ _ ⟨r6, r7, r8, r9, r10, r11, r12, rfl, rfl, hz20⟩
  refine SO.nil ?_
  refine S.to (ρ' := [(4, .bool false)]) ⟨rfl, trivial⟩ ?_
  refine S.inBlock ?_
  refine S.seq ?_
  refine S.region ?_
  refine SO.v rfl (opv_assign rfl) ?_
  refine SO.nil ?_
  cases h
  refine S.b10 ?_
  refine S.b10 ?_
  refine S.b10 ?_
  refine S.txSome ?_
  refine S.b12 ?_
  refine S.b11 ?_
  refine S.b11 ?_
  refine S.b3 ?_
  refine S.b11 ?_
  refine S.b11 ?_
  refine S.b11 ?_
  refine S.b11 ?_
  refine S.b11 ?_
  refine S.b11 ?_
  refine S.b11 ?_
  refine S.b12 ?_
  refine S.b12 ?_
  exact S.ret1 Try.func10 rfl rfl (fun w hs hk => hR w _ _ ⟨r6, r7, r8, r9, r10, (bp bt 0), rfl, rfl, hz20⟩ hs hk)
end Go.Proofs
set_option linter.unusedVariables false
namespace Go.Proofs
open Go.Sl Go.RowKit
/-! A machine, as it lies; a step of it, over any jobs and feeds. -/
def tells {ι : Type} (JR : ι → Value → HProp) : Option ι → Value → HProp
  | none => IsNil
  | some j => IsJob (JR j)
/-- Jobs, feeds: their values, what they own, what they come to. -/
structure FW where
  ι : Type
  σ : Type
  n : Nat
  fv : Nat → Value
  JR : ι → Value → HProp
  jm : ι → VM Int
  rdJ : HProp → Prop
  R : σ → HProp
  fd : σ → Nat → List Int → Option ι
  mono : ∀ (l : List HProp) (F : HProp), rdJ F → rdJ (stars (l ++ [F]))
  ffn : ∀ i, ∃ (ff : FuncId) (fcs : List Value), fv i = .func (.func ff) #[] fcs.toArray
  fok : ∀ i, i < n → ∃ (ff : FuncId) (fcs : List Value), fv i = .func (.func ff) #[] fcs.toArray ∧ (∀ (us : Array Value) (w : World), (callFunc ff us).run Try.prog w = .ok (.enter ff us) w) ∧
    ∀ (s : σ) (v : Value) (t : List Int), Ct Try.prog ff (v :: fcs) (fun F => Rd (ekI .i64) v t F) [R s] (fun u H' => H' = [tells JR (fd s i t) u, R s])
  jok : ∀ (j : ι) (v : Value) (m : PH), JR j v m → ∃ (jf : FuncId) (jcs : List Value), v = .func (.func jf) #[] jcs.toArray ∧ (∀ (us : Array Value) (w : World), (callFunc jf us).run Try.prog w = .ok (.enter jf us) w) ∧
    ∀ (s : σ) (V : VW Try.prog) (x x' : V.S) (a : Int), VM.run V.toVI (jm j) x = some (a, x') → Ct Try.prog jf (V.val :: jcs) rdJ [JR j v, R s, V.rep x] (fun u H' => u = .int .i64 a ∧ H' = [JR j v, R s, V.rep x'])
structure Wk (ι : Type) where
  fi : Nat
  job : Option ι
  t : Option tx_Tx
  d : Option Int
  told : List Int
structure Mc (ι : Type) where
  l : List (Wk ι)
  dl : List desc_Desc
  el : List stm_Entry
  log : List stm_Entry
def DPtr (zb : List Nat) (d : Option Int) (v : Value) : Prop := match d with
  | none => v = .pointer none
  | some i => ∃ b, at_ zb i = some b ∧ v = bp b 0
theorem DPtr.snoc {zb : List Nat} {d : Option Int} {v : Value} (b : Nat) (h : DPtr zb d v) : DPtr (zb ++ [b]) d v := by
  cases d with
  | none => exact h
  | some i =>
    obtain ⟨c, hc, e⟩ := h
    obtain ⟨h0, h1, h2⟩ := at_spec hc
    exact ⟨c, at_of h0 (by rw [List.getElem?_append_left (by omega)]; exact h2), e⟩
def WkR (W : FW) (zb : List Nat) (b : Nat) (w : Wk W.ι) : HProp := fun m => ∃ jv tv dv tl, w.fi < W.n ∧ DPtr zb w.d dv ∧ stars [Box b [W.fv w.fi, jv, tv, dv, tl], Own 3 (ekI .i64) tl w.told, TxO tv w.t, tells W.JR w.job jv] m
def McR (W : FW) (bpm bps : Nat) (M : Mc W.ι) (s : word_Store) : HProp := fun m => ∃ zb ws vl va vg vs, zb.length = M.el.length ∧ zb.length = M.dl.length ∧ ws.length = M.l.length ∧
  stars [Box bpm [bp bps 0, vl, va, vg], Own 68 ekP vl ws, Own 105 ekMd va (zb.zip M.el), ZipR rep_desc_Desc zb M.dl, Own 44 ek_stm_Entry vg M.log, Box bps [vs, .int .u32 s.limit], Own 88 ek_api_Cell vs s.l, ZipR (WkR W zb) ws M.l] m
section
variable {W : FW} {bpm bps : Nat} {M : Mc W.ι} {s : word_Store} {w : World} {H : List HProp}
theorem McR.open (h : Sat w (McR W bpm bps M s :: H)) : ∃ zb ws vl va vg vs, zb.length = M.el.length ∧ zb.length = M.dl.length ∧ ws.length = M.l.length ∧
    Sat w ([Box bpm [bp bps 0, vl, va, vg], Own 68 ekP vl ws, Own 105 ekMd va (zb.zip M.el), ZipR rep_desc_Desc zb M.dl, Own 44 ek_stm_Entry vg M.log, Box bps [vs, .int .u32 s.limit], Own 88 ek_api_Cell vs s.l, ZipR (WkR W zb) ws M.l] ++ H) := by
  obtain ⟨m1, m2, d, s1, s2, ⟨zb, ws, vl, va, vg, vs, h1, h2, h3, hx⟩, hr⟩ := h
  exact ⟨zb, ws, vl, va, vg, vs, h1, h2, h3, (stars_append _ H (hp w)).2 ⟨m1, m2, d, s1, s2, hx, hr⟩⟩
theorem McR.close {l : List (Wk W.ι)} {dl : List desc_Desc} {el lg : List stm_Entry} {zb ws : List Nat} {vl va vg vs : Value} (h1 : zb.length = el.length) (h2 : zb.length = dl.length) (h3 : ws.length = l.length)
    (h : Sat w ([Box bpm [bp bps 0, vl, va, vg], Own 68 ekP vl ws, Own 105 ekMd va (zb.zip el), ZipR rep_desc_Desc zb dl, Own 44 ek_stm_Entry vg lg, Box bps [vs, .int .u32 s.limit], Own 88 ek_api_Cell vs s.l, ZipR (WkR W zb) ws l] ++ H)) : Sat w (McR W bpm bps ⟨l, dl, el, lg⟩ s :: H) := by
  obtain ⟨m1, m2, d, s1, s2, hx, hr⟩ := (stars_append _ H (hp w)).1 h
  exact ⟨m1, m2, d, s1, s2, ⟨zb, ws, vl, va, vg, vs, h1, h2, h3, hx⟩, hr⟩
theorem WkR.open {zb : List Nat} {b : Nat} {x : Wk W.ι} (h : Sat w (WkR W zb b x :: H)) : ∃ jv tv dv tl, x.fi < W.n ∧ DPtr zb x.d dv ∧
    Sat w ([Box b [W.fv x.fi, jv, tv, dv, tl], Own 3 (ekI .i64) tl x.told, TxO tv x.t, tells W.JR x.job jv] ++ H) := by
  obtain ⟨m1, m2, d, s1, s2, ⟨jv, tv, dv, tl, h1, h2, hx⟩, hr⟩ := h
  exact ⟨jv, tv, dv, tl, h1, h2, (stars_append _ H (hp w)).2 ⟨m1, m2, d, s1, s2, hx, hr⟩⟩
theorem WkR.close {zb : List Nat} {b : Nat} {x : Wk W.ι} {jv tv dv tl : Value} (h1 : x.fi < W.n) (h2 : DPtr zb x.d dv)
    (h : Sat w ([Box b [W.fv x.fi, jv, tv, dv, tl], Own 3 (ekI .i64) tl x.told, TxO tv x.t, tells W.JR x.job jv] ++ H)) : Sat w (WkR W zb b x :: H) := by
  obtain ⟨m1, m2, d, s1, s2, hx, hr⟩ := (stars_append _ H (hp w)).1 h
  exact ⟨m1, m2, d, s1, s2, ⟨jv, tv, dv, tl, h1, h2, hx⟩, hr⟩
/-- One more descriptor: the others' pointers are as they were. -/
theorem WkR.snoc {zb : List Nat} {b c : Nat} {x : Wk W.ι} {m : PH} (h : WkR W zb b x m) : WkR W (zb ++ [c]) b x m := by
  obtain ⟨jv, tv, dv, tl, h1, h2, hx⟩ := h
  exact ⟨jv, tv, dv, tl, h1, h2.snoc c, hx⟩
theorem ZipH.snocW {zb ws : List Nat} {l : List (Wk W.ι)} {i c : Nat} {m : PH} (h : ZipH (WkR W zb) ws l i m) : ZipH (WkR W (zb ++ [c])) ws l i m := stars_map (fun _ _ _ => WkR.snoc) ws l i m h
end
/-- A step. -/
def stepM {ι : Type} (jm : ι → VM Int) (fd : Nat → List Int → Option ι) (k : Nat) (M : Mc ι) (s : word_Store) (id : Int) : Option (Bool × Mc ι × word_Store) :=
  bif decide (0 ≤ id) && decide (id < (M.l.length : Int)) then
    (at_ M.l id).bind fun x => match x.job with
      | none => (stm_next_n.f x.told).bind fun _ => match fd x.fi x.told with
        | none => some (false, M, s)
        | some j => (stm_Step_take.f s).bind fun t => some (true, { M with l := M.l.set id.toNat { x with job := some j, t := some t } }, s)
      | some j => match x.d, x.t with
        | none, none => none
        | none, some t => (stm_Step_run.f k s M.dl M.el M.log id (jm j) x.told t).bind fun (rs, rd, re, rg, rx, rn) => bif decide (re.length = M.el.length + cond rn 1 0) && decide (rd.length = M.dl.length + cond rn 1 0) then some (true, ⟨M.l.set id.toNat { x with t := some rx, d := cond rn (some (M.el.length : Int)) none }, rd, re, rg⟩, rs) else none
        | some i, t => (stm_Step_d.f k s M.dl M.el M.log i x.told t).bind fun (rs, rd, rg, rt, rx, rk, ro) => bif decide (rd.length = M.dl.length) then some (true, ⟨M.l.set id.toNat { x with job := cond rk (some j) none, t := rx, d := cond ro none (some i), told := rt }, rd, M.el, rg⟩, rs) else none
  else some (false, M, s)

theorem in_ok (ws : List Nat) (id : Int) : stm_Machine_in.f ws id = some (decide (0 ≤ id) && decide (id < (ws.length : Int))) := by
  unfold stm_Machine_in.f
  by_cases c : 0 ≤ id <;> simp [c]
theorem TxO.none_ {v : Value} {m : PH} (h : TxO v none m) : v = .pointer none := h
theorem cond_opt {α : Type} {c : Bool} {a : Option α} {b : α} (h : (bif c then a else none) = some b) : c = true ∧ a = some b := by
  cases c with
  | true => exact ⟨rfl, h⟩
  | false => cases h
set_option maxHeartbeats 4000000 in
theorem stm_Step.ct (W : FW) (σ : W.σ) (k : Nat) (bpm bps : Nat) (M M' : Mc W.ι) (s s' : word_Store) (id : Int) (r : Bool) (h : stepM W.jm (W.fd σ) k M s id = some (r, M', s')) :
    Ct Try.prog 10 [bp bpm 0, .int .i64 id] W.rdJ [McR W bpm bps M s, W.R σ] (fun u H' => u = .bool r ∧ H' = [McR W bpm bps M' s', W.R σ]) := by
  intro w F hF hs
  obtain ⟨zb, ws, vl, va, vg, vs, h1, h2, h3, hs⟩ := McR.open (H := [W.R σ, F]) hs
  unfold stepM at h
  cases hr : (decide (0 ≤ id) && decide (id < (M.l.length : Int))) with
  | false =>
    rw [hr] at h; cases h
    have hin : stm_Machine_in.f ws id = some false := by rw [in_ok, h3, hr]
    refine (Ct.use (l := [ZipR (WkR W zb) ws M.l, W.R σ, F]) (stm_Step_out.ct zb bpm bps vl va vg vs s M.dl M.el M.log h1 ws id hin) hs trivial).mono ?_
    rintro e w' ⟨u, H', rfl, ⟨rfl, rfl⟩, hs2, hk⟩
    exact ⟨_, _, rfl, ⟨rfl, rfl⟩, McR.close h1 h2 h3 hs2, hk⟩
  | true =>
    rw [hr, cond_true] at h
    have hin : stm_Machine_in.f ws id = some true := by rw [in_ok, h3, hr]
    obtain ⟨x, hx, h⟩ := opt_bind h
    obtain ⟨bw, hbw⟩ := at_len h3 hx
    replace hs := Sat.re hs [7, 0, 1, 2, 3, 4, 5, 6, 8, 9] (by kernel_rfl)
    simp only [List.map_cons, List.map_nil, List.getD_cons_zero, List.getD_cons_succ, List.cons_append, List.nil_append] at hs
    have hs := Sat.focusZ (R := WkR W zb) hbw hx hs
    obtain ⟨jv, tv, dv, tl, q1, q2, hs⟩ := WkR.open hs
    obtain ⟨ff, fcs, e1, e2, e3⟩ := W.fok x.fi q1
    cases hj : x.job with
    | none =>
      rw [hj] at h hs
      obtain ⟨_, hn, h⟩ := opt_bind h
      have hn : stm_next_n.f x.told = some () := hn
      -- nothing is under way: its cell is nil
      have hjv : jv = .nilFunc := by
        have hs0 := hs
        replace hs0 := Sat.re hs0 [3, 0, 1, 2, 4, 5, 6, 7, 8, 9, 10, 11, 12, 13] (by kernel_rfl)
        simp only [List.map_cons, List.map_nil, List.getD_cons_zero, List.getD_cons_succ, List.cons_append, List.nil_append] at hs0
        obtain ⟨m, _, hm⟩ := Sat.head hs0
        exact hm
      subst hjv
      have hcl : ∀ (v : Value) (t : List Int), slices_Clone_int_int.f x.told = some t → Ct Try.prog ff (v :: fcs) (fun F => Rd (ekI .i64) v t F) [W.R σ] (fun u H' => H' = [tells W.JR (W.fd σ x.fi x.told) u, W.R σ]) := by
        intro v t ht
        have : t = x.told := by have := (app_spec ht).2; simpa using this
        rw [this]; exact e3 σ v x.told
      cases hf : W.fd σ x.fi x.told with
      | none =>
        rw [hf] at h; cases h
        rw [hf] at hcl
        replace hs := Sat.re hs [5, 6, 7, 8, 9, 10, 11, 0, 1, 12, 2, 3, 4, 13] (by kernel_rfl)
        simp only [List.map_cons, List.map_nil, List.getD_cons_zero, List.getD_cons_succ, List.cons_append, List.nil_append] at hs
        rw [e1] at hs
        refine (Ct.use (l := [TxO tv x.t, tells W.JR none .nilFunc, ZipH (WkR W zb) ws M.l id.toNat, F]) (stm_Step_nil.ct zb bpm bps vl va vg vs s M.dl M.el M.log h1 ws id bw hbw hin tv dv tl x.told ff fcs (W.R σ) e2 hcl hn) hs trivial).mono ?_
        rintro e w' ⟨u, H', rfl, ⟨rfl, rfl⟩, hs2, hk⟩
        refine ⟨_, _, rfl, ⟨rfl, rfl⟩, ?_, hk⟩
        rw [← e1] at hs2
        have hs3 := hs2
        replace hs3 := Sat.re hs3 [7, 8, 10, 11, 12, 0, 1, 2, 3, 4, 5, 6, 9, 13] (by kernel_rfl)
        simp only [List.map_cons, List.map_nil, List.getD_cons_zero, List.getD_cons_succ, List.cons_append, List.nil_append] at hs3
        have hs4 := WkR.close (W := W) (x := x) q1 q2 (by rw [hj]; exact hs3)
        have hs5 := Sat.unfocusZ0 hbw hx hs4
        replace hs5 := Sat.re hs5 [1, 2, 3, 4, 5, 6, 7, 0, 8, 9] (by kernel_rfl)
        simp only [List.map_cons, List.map_nil, List.getD_cons_zero, List.getD_cons_succ, List.cons_append, List.nil_append] at hs5
        exact McR.close h1 h2 h3 hs5
      | some j =>
        rw [hf] at h hcl
        obtain ⟨t, ht, h⟩ := opt_bind h
        cases h
        replace hs := Sat.re hs [5, 6, 7, 8, 9, 10, 11, 0, 1, 12, 2, 3, 4, 13] (by kernel_rfl)
        simp only [List.map_cons, List.map_nil, List.getD_cons_zero, List.getD_cons_succ, List.cons_append, List.nil_append] at hs
        rw [e1] at hs
        refine (Ct.use (l := [TxO tv x.t, tells W.JR none .nilFunc, ZipH (WkR W zb) ws M.l id.toNat, F]) (stm_Step_take.ct zb bpm bps vl va vg vs s M.dl M.el M.log h1 ws id bw hbw hin tv dv tl x.told (W.JR j) ff fcs (W.R σ) e2 hcl hn t ht) hs trivial).mono ?_
        rintro e w' ⟨u, H', rfl, ⟨jf, jcs, wt, rfl, rfl⟩, hs2, hk⟩
        refine ⟨_, _, rfl, ⟨rfl, rfl⟩, ?_, hk⟩
        rw [← e1] at hs2
        have hs3 := hs2
        replace hs3 := Sat.re hs3 [10, 7, 8, 9, 14, 0, 1, 2, 3, 4, 5, 6, 11, 15] (by kernel_rfl)
        simp only [List.map_cons, List.map_nil, List.getD_cons_zero, List.getD_cons_succ, List.cons_append, List.nil_append] at hs3
        have hs3 := Sat.weaken (B := tells W.JR (some j) (.func (.func jf) #[] jcs.toArray)) hs3 (fun m q => ⟨⟨jf, jcs, rfl⟩, q⟩)
        replace hs3 := Sat.re hs3 [1, 2, 3, 0, 4, 5, 6, 7, 8, 9, 10, 11, 12, 13] (by kernel_rfl)
        simp only [List.map_cons, List.map_nil, List.getD_cons_zero, List.getD_cons_succ, List.cons_append, List.nil_append] at hs3
        have hs4 := WkR.close (W := W) (zb := zb) (x := { x with job := some j, t := some t }) q1 q2 hs3
        have hs5 := Sat.unfocusZ hbw hx hs4
        replace hs5 := Sat.re hs5 [1, 2, 3, 4, 5, 6, 7, 0, 8, 9] (by kernel_rfl)
        simp only [List.map_cons, List.map_nil, List.getD_cons_zero, List.getD_cons_succ, List.cons_append, List.nil_append] at hs5
        exact McR.close h1 h2 (by simpa using h3) hs5
    | some j =>
      rw [hj] at h hs
      -- the job's value
      replace hs := Sat.re hs [3, 0, 1, 2, 4, 5, 6, 7, 8, 9, 10, 11, 12, 13] (by kernel_rfl)
      simp only [List.map_cons, List.map_nil, List.getD_cons_zero, List.getD_cons_succ, List.cons_append, List.nil_append] at hs
      obtain ⟨jf, jcs, g1, g2, g3⟩ : ∃ (jf : FuncId) (jcs : List Value), jv = .func (.func jf) #[] jcs.toArray ∧ (∀ (us : Array Value) (w : World), (callFunc jf us).run Try.prog w = .ok (.enter jf us) w) ∧
          ∀ (V : VW Try.prog) (x x' : V.S) (a : Int), VM.run V.toVI (W.jm j) x = some (a, x') → Ct Try.prog jf (V.val :: jcs) W.rdJ [W.JR j jv, W.R σ, V.rep x] (fun u H' => u = .int .i64 a ∧ H' = [W.JR j jv, W.R σ, V.rep x']) := by
        obtain ⟨m, _, _, hm⟩ := Sat.head hs
        obtain ⟨jf, jcs, a, b, c⟩ := W.jok j jv m hm
        exact ⟨jf, jcs, a, b, c σ⟩
      have hs := Sat.weaken (B := W.JR j jv) hs (fun m q => q.2)
      subst g1
      cases hd : x.d with
      | none =>
        rw [hd] at h
        have hdv : dv = .pointer none := by rw [hd] at q2; exact q2
        subst hdv
        cases ht : x.t with
        | none => rw [ht] at h; cases h
        | some t =>
          rw [ht] at h hs
          obtain ⟨⟨rs, rd, re, rg, rx, rn⟩, hrun, h⟩ := opt_bind h
          obtain ⟨hg, h⟩ := cond_opt h
          simp only [Bool.and_eq_true, decide_eq_true_eq] at hg
          cases h
          -- the record, opened
          replace hs := Sat.re hs [3, 0, 1, 2, 4, 5, 6, 7, 8, 9, 10, 11, 12, 13] (by kernel_rfl)
          simp only [List.map_cons, List.map_nil, List.getD_cons_zero, List.getD_cons_succ, List.cons_append, List.nil_append] at hs
          obtain ⟨m1, m2, dj, s1, s2, ⟨bt, tvl, tvo, rfl, hx2⟩, hr2⟩ := hs
          have hs := (stars_append [Box bt [.int .i64 t.cells, tvl, tvo, .int .i64 t.lack, .bool t.fine], MapO (aggE ek_api_Cell) tvl t.l, MapO (Value.int .u64) tvo t.out] _ (hp w)).2 ⟨m1, m2, dj, s1, s2, hx2, hr2⟩
          have hs : Sat w ([Box bt [.int .i64 t.cells, tvl, tvo, .int .i64 t.lack, .bool t.fine], MapO (aggE ek_api_Cell) tvl t.l, MapO (Value.int .u64) tvo t.out, W.JR j (.func (.func jf) #[] jcs.toArray), Box bw [W.fv x.fi, .func (.func jf) #[] jcs.toArray, bp bt 0, .pointer none, tl], Own 3 (ekI .i64) tl x.told, ZipH (WkR W zb) ws M.l id.toNat,
            Box bpm [bp bps 0, vl, va, vg], Own 68 ekP vl ws, Own 105 ekMd va (zb.zip M.el), ZipR rep_desc_Desc zb M.dl, Own 44 ek_stm_Entry vg M.log, Box bps [vs, .int .u32 s.limit], Own 88 ek_api_Cell vs s.l, W.R σ, F]) := hs
          replace hs := Sat.re hs [7, 8, 9, 10, 11, 12, 13, 4, 5, 0, 1, 2, 3, 14, 6, 15] (by kernel_rfl)
          simp only [List.map_cons, List.map_nil, List.getD_cons_zero, List.getD_cons_succ, List.cons_append, List.nil_append] at hs
          refine (Ct.use (l := [ZipH (WkR W zb) ws M.l id.toNat, F]) (stm_Step_run.ct k zb bpm bps vl va vg vs s M.dl M.el M.log h1 h2 ws id bw hbw hin (W.fv x.fi) tl x.told bt tvl tvo t jf jcs (W.JR j (.func (.func jf) #[] jcs.toArray)) (W.R σ) W.rdJ W.mono g2 (W.jm j) (fun V a a' b hq => g3 V a a' b hq) _ rd re rg rx rn hrun) hs (W.mono [_] F hF)).mono ?_
          rintro e w' ⟨u, H', rfl, ⟨zb', dv, wa, wg, ws', wt, rfl, rfl, hz⟩, hs2, hk⟩
          refine ⟨_, _, rfl, ⟨rfl, rfl⟩, ?_, hk⟩
          have hs3 := hs2
          replace hs3 := Sat.re hs3 [10, 7, 8, 9, 12, 0, 1, 2, 3, 4, 5, 6, 11, 13] (by kernel_rfl)
          simp only [List.map_cons, List.map_nil, List.getD_cons_zero, List.getD_cons_succ, List.cons_append, List.nil_append] at hs3
          have hs3 := Sat.weaken (B := tells W.JR (some j) (.func (.func jf) #[] jcs.toArray)) hs3 (fun m q => ⟨⟨jf, jcs, rfl⟩, q⟩)
          replace hs3 := Sat.re hs3 [1, 2, 3, 0, 4, 5, 6, 7, 8, 9, 10, 11, 12, 13] (by kernel_rfl)
          simp only [List.map_cons, List.map_nil, List.getD_cons_zero, List.getD_cons_succ, List.cons_append, List.nil_append] at hs3
          rcases hz with ⟨rfl, rfl, rfl⟩ | ⟨rfl, b, rfl, rfl⟩
          · have hs4 := WkR.close (W := W) (zb := zb') (x := { x with job := some j, t := some rx, d := cond false (some (M.el.length : Int)) none }) q1 rfl hs3
            have hs5 := Sat.unfocusZ hbw hx hs4
            replace hs5 := Sat.re hs5 [1, 2, 3, 4, 5, 6, 7, 0, 8, 9] (by kernel_rfl)
            simp only [List.map_cons, List.map_nil, List.getD_cons_zero, List.getD_cons_succ, List.cons_append, List.nil_append] at hs5
            exact McR.close (by simp at hg ⊢; omega) (by simp at hg ⊢; omega) (by simpa using h3) hs5
          · have hlen : at_ (zb ++ [b]) (M.el.length : Int) = some b := at_of (by omega) (by simp [← h1])
            have hs4 := WkR.close (W := W) (zb := zb ++ [b]) (x := { x with job := some j, t := some rx, d := cond true (some (M.el.length : Int)) none }) q1 ⟨b, hlen, rfl⟩ hs3
            replace hs4 := Sat.re hs4 [1, 0, 2, 3, 4, 5, 6, 7, 8, 9, 10] (by kernel_rfl)
            simp only [List.map_cons, List.map_nil, List.getD_cons_zero, List.getD_cons_succ, List.cons_append, List.nil_append] at hs4
            have hs4 := Sat.weaken (B := ZipH (WkR W (zb ++ [b])) ws M.l id.toNat) hs4 (fun m q => ZipH.snocW q)
            replace hs4 := Sat.re hs4 [1, 0, 2, 3, 4, 5, 6, 7, 8, 9, 10] (by kernel_rfl)
            simp only [List.map_cons, List.map_nil, List.getD_cons_zero, List.getD_cons_succ, List.cons_append, List.nil_append] at hs4
            have hs5 := Sat.unfocusZ hbw hx hs4
            replace hs5 := Sat.re hs5 [1, 2, 3, 4, 5, 6, 7, 0, 8, 9] (by kernel_rfl)
            simp only [List.map_cons, List.map_nil, List.getD_cons_zero, List.getD_cons_succ, List.cons_append, List.nil_append] at hs5
            exact McR.close (by simp at hg ⊢; omega) (by simp at hg ⊢; omega) (by simpa using h3) hs5
      | some i =>
        rw [hd] at h
        obtain ⟨bd, hbd, rfl⟩ : ∃ b, at_ zb i = some b ∧ dv = bp b 0 := by rw [hd] at q2; exact q2
        obtain ⟨⟨rs, rd, rg, rt, rx, rk, ro⟩, hrun, h⟩ := opt_bind h
        obtain ⟨hg, h⟩ := cond_opt h
        simp only [decide_eq_true_eq] at hg
        cases h
        replace hs := Sat.re hs [5, 6, 7, 8, 9, 10, 11, 1, 2, 3, 0, 12, 4, 13] (by kernel_rfl)
        simp only [List.map_cons, List.map_nil, List.getD_cons_zero, List.getD_cons_succ, List.cons_append, List.nil_append] at hs
        refine (Ct.use (l := [W.R σ, ZipH (WkR W zb) ws M.l id.toNat, F]) (stm_Step_d.ct k zb bpm bps vl va vg vs s M.dl M.el M.log h1 ws id bw hbw hin jf jcs (W.JR j (.func (.func jf) #[] jcs.toArray)) (W.fv x.fi) tv tl i bd hbd x.told x.t _ rd rg rt rx rk ro hrun) hs trivial).mono ?_
        rintro e w' ⟨u, H', rfl, ⟨wg, ws', wv, wt, rfl, rfl⟩, hs2, hk⟩
        refine ⟨_, _, rfl, ⟨rfl, rfl⟩, ?_, hk⟩
        have hs3 := hs2
        replace hs3 := Sat.re hs3 [10, 7, 8, 9, 12, 0, 1, 2, 3, 4, 5, 6, 11, 13] (by kernel_rfl)
        simp only [List.map_cons, List.map_nil, List.getD_cons_zero, List.getD_cons_succ, List.cons_append, List.nil_append] at hs3
        have hs3 := Sat.weaken (B := tells W.JR (cond rk (some j) none) (cond rk (.func (.func jf) #[] jcs.toArray) .nilFunc)) hs3 (fun m q => by
          cases rk with
          | true => exact ⟨⟨jf, jcs, rfl⟩, q⟩
          | false => rfl)
        replace hs3 := Sat.re hs3 [1, 2, 3, 0, 4, 5, 6, 7, 8, 9, 10, 11, 12, 13] (by kernel_rfl)
        simp only [List.map_cons, List.map_nil, List.getD_cons_zero, List.getD_cons_succ, List.cons_append, List.nil_append] at hs3
        have hs4 := WkR.close (W := W) (zb := zb) (x := { x with job := cond rk (some j) none, t := rx, d := cond ro none (some i), told := rt }) q1 (by
          cases ro with
          | true => rfl
          | false => exact ⟨bd, hbd, rfl⟩) hs3
        have hs5 := Sat.unfocusZ hbw hx hs4
        replace hs5 := Sat.re hs5 [1, 2, 3, 4, 5, 6, 7, 0, 8, 9] (by kernel_rfl)
        simp only [List.map_cons, List.map_nil, List.getD_cons_zero, List.getD_cons_succ, List.cons_append, List.nil_append] at hs5
        exact McR.close h1 (by omega) (by simpa using h3) hs5

end Go.Proofs
set_option linter.unusedVariables false
namespace Go.Proofs
open Go.Sl Go.RowKit
/-! A machine's other calls. -/
theorem FW.one (W : FW) (i : Nat) : (W.fv i).oneCell' = true := by
  obtain ⟨ff, fcs, e⟩ := W.ffn i
  rw [e]; rfl
theorem sat_emp {w : World} {A : HProp} {H : List HProp} (hA : A (fun _ => none)) (h : Sat w H) : Sat w (A :: H) :=
  show stars (A :: H) (hp w) from ⟨fun _ => none, hp w, fun _ => .inl rfl, fun _ _ e => by simp at e, .refl _, hA, h⟩
theorem stars_emp {A : HProp} {H : List HProp} {m : PH} (hA : A (fun _ => none)) (h : stars H m) : stars (A :: H) m :=
  ⟨fun _ => none, m, fun _ => .inl rfl, fun _ _ e => by simp at e, .refl _, hA, h⟩
def newWk (ι : Type) (i : Nat) : Wk ι := ⟨i, none, none, none, []⟩
def newM (ι : Type) (l : List Nat) : Mc ι := ⟨l.map (newWk ι), [], [], []⟩
theorem newW (W : FW) : ∀ (ws ls : List Nat) (m : PH), (∀ i ∈ ls, i < W.n) → stars (zipR (NW W.fv) ws ls) m → stars (zipR (WkR W []) ws (ls.map (newWk W.ι))) m
  | [], [], _, _, h => h
  | [], _ :: _, _, _, h => h
  | _ :: _, [], _, _, h => h
  | b :: ws, i :: ls, m, hi, h => by
    obtain ⟨m1, m2, d, s1, s2, a, r⟩ := h
    refine ⟨m1, m2, d, s1, s2, ⟨.nilFunc, .pointer none, .pointer none, .slice none 0 0, hi i List.mem_cons_self, rfl, ?_⟩, newW W ws ls _ (fun j hj => hi j (List.mem_cons_of_mem _ hj)) r⟩
    have h1 : stars [Own 3 (ekI .i64) (.slice none 0 0) ([] : List Int), TxO (.pointer none) none, IsNil .nilFunc, Box b [W.fv i, .nilFunc, .pointer none, .pointer none, .slice none 0 0]] m1 :=
      stars_emp (Own.nil _ _ _) (stars_emp rfl (stars_emp rfl (stars_singleton a)))
    exact stars_perm (perm_idx _ (fun _ => True) [3, 0, 1, 2] rfl) h1
theorem stm_New.mc (W : FW) (k : Nat) (bps : Nat) (vs vf : Value) (s : word_Store) (fs ls : List Nat) (hfs : ∀ i ∈ ls, i < W.n) (h : stm_New.f k (fun _ => false) fs = some (some ls)) :
    Ct Try.prog 8 [bp bps 0, vf] (fun F => Rd (ekV W.fv W.one) vf fs F) [Box bps [vs, .int .u32 s.limit], Own 88 ek_api_Cell vs s.l] (fun u H' => ∃ b, u = .tuple #[bp b 0, errV 60 none] ∧ H' = [McR W b bps (newM W.ι ls) s]) := by
  intro w F hF hs
  refine (Ct.use (pre := []) (l := [Box bps [vs, .int .u32 s.limit], Own 88 ek_api_Cell vs s.l, F]) (stm_New.ct k W.fv W.one (fun _ => false) (fun i => by
    obtain ⟨ff, fcs, e⟩ := W.ffn i
    exact ⟨_, _, _, e⟩) bps vf fs (some ls) h) hs (Rd.tail (Rd.tail (Rd.head hF)))).mono ?_
  rintro e w' ⟨u, H', rfl, ⟨b, vl, rfl, rfl⟩, hs2, hk⟩
  refine ⟨_, _, rfl, ⟨b, rfl, rfl⟩, ?_, hk⟩
  replace hs2 := Sat.re hs2 [1, 0, 2, 3, 4] (by kernel_rfl)
  simp only [List.map_cons, List.map_nil, List.getD_cons_zero, List.getD_cons_succ, List.cons_append, List.nil_append] at hs2
  obtain ⟨ws, hl, hs3⟩ := Sat.openPt hs2
  have hs4 := sat_emp (A := Own 105 ekMd (.slice none 0 0) (([] : List Nat).zip [])) (Own.nil _ _ _) (sat_emp (A := ZipR rep_desc_Desc [] []) (ZipR.nil _) (sat_emp (A := Own 44 ek_stm_Entry (.slice none 0 0) []) (Own.nil _ _ _) hs3))
  replace hs4 := Sat.re hs4 [4, 5, 3, 0, 1, 2, 6, 7, 8] (by kernel_rfl)
  simp only [List.map_cons, List.map_nil, List.getD_cons_zero, List.getD_cons_succ, List.cons_append, List.nil_append] at hs4
  have hs4 := Sat.weaken (B := ZipR (WkR W []) ws (ls.map (newWk W.ι))) hs4 (fun m q => newW W ws ls m hfs q)
  replace hs4 := Sat.re hs4 [1, 2, 3, 4, 5, 6, 7, 0, 8] (by kernel_rfl)
  simp only [List.map_cons, List.map_nil, List.getD_cons_zero, List.getD_cons_succ, List.cons_append, List.nil_append] at hs4
  exact McR.close (H := [F]) (zb := []) rfl rfl (by simpa using hl) hs4
theorem stm_Log.mc (W : FW) (bpm bps : Nat) (M : Mc W.ι) (s : word_Store) (rl : List stm_Entry) (h : stm_Machine_Log.f M.log = some rl) :
    Ct Try.prog 12 [bp bpm 0] (fun _ => True) [McR W bpm bps M s] (fun u H' => ∃ vr, u = vr ∧ H' = [Own 44 ek_stm_Entry vr rl, McR W bpm bps M s]) := by
  intro w F hF hs
  obtain ⟨zb, ws, vl, va, vg, vs, h1, h2, h3, hs⟩ := McR.open (H := [F]) hs
  replace hs := Sat.re hs [0, 2, 3, 4, 5, 6, 1, 7, 8] (by kernel_rfl)
  simp only [List.map_cons, List.map_nil, List.getD_cons_zero, List.getD_cons_succ, List.cons_append, List.nil_append] at hs
  refine (Ct.use (l := [Own 68 ekP vl ws, ZipR (WkR W zb) ws M.l, F]) (stm_Machine_Log.ct zb bpm bps vl va vg vs s M.dl M.el M.log h1 rl h) hs trivial).mono ?_
  rintro e w' ⟨u, H', rfl, ⟨vr, rfl, rfl⟩, hs2, hk⟩
  refine ⟨_, _, rfl, ⟨_, rfl, rfl⟩, ?_, hk⟩
  replace hs2 := Sat.re hs2 [1, 7, 2, 3, 4, 5, 6, 8, 0, 9] (by kernel_rfl)
  simp only [List.map_cons, List.map_nil, List.getD_cons_zero, List.getD_cons_succ, List.cons_append, List.nil_append] at hs2
  have hs3 := McR.close (W := W) (H := [_, F]) h1 h2 h3 hs2
  replace hs3 := Sat.re hs3 [1, 0, 2] (by kernel_rfl)
  simp only [List.map_cons, List.map_nil, List.getD_cons_zero, List.getD_cons_succ, List.cons_append, List.nil_append] at hs3
  exact hs3
def inM {ι : Type} (M : Mc ι) (id : Int) : Bool := decide (0 ≤ id) && decide (id < (M.l.length : Int))
def toldM {ι : Type} (M : Mc ι) (id : Int) : Option (List Int) := bif inM M id then (at_ M.l id).bind fun x => stm_Told_in.f x.told else some []
def busyM {ι : Type} (M : Mc ι) (id : Int) : Option Bool := bif inM M id then (at_ M.l id).bind fun x => some x.job.isSome else some false
theorem stm_Told.mc (W : FW) (bpm bps : Nat) (M : Mc W.ι) (s : word_Store) (id : Int) (rl : List Int) (h : toldM M id = some rl) :
    Ct Try.prog 14 [bp bpm 0, .int .i64 id] (fun _ => True) [McR W bpm bps M s] (fun u H' => ∃ vr, u = vr ∧ H' = [Own 3 (ekI .i64) vr rl, McR W bpm bps M s]) := by
  intro w F hF hs
  obtain ⟨zb, ws, vl, va, vg, vs, h1, h2, h3, hs⟩ := McR.open (H := [F]) hs
  unfold toldM inM at h
  cases hr : (decide (0 ≤ id) && decide (id < (M.l.length : Int))) with
  | false =>
    rw [hr] at h; cases h
    refine (Ct.use (pre := [_, _]) (l := [_, _, _, _, _, _, F]) (stm_Told_out.ct bpm bps vl va vg ws id (by rw [in_ok, h3, hr])) hs trivial).mono ?_
    rintro e w' ⟨u, H', rfl, ⟨vr, rfl, rfl⟩, hs2, hk⟩
    refine ⟨_, _, rfl, ⟨_, rfl, rfl⟩, ?_, hk⟩
    replace hs2 := Sat.re hs2 [1, 2, 3, 4, 5, 6, 7, 8, 0, 9] (by kernel_rfl)
    simp only [List.map_cons, List.map_nil, List.getD_cons_zero, List.getD_cons_succ, List.cons_append, List.nil_append] at hs2
    have hs3 := McR.close (W := W) (H := [_, F]) h1 h2 h3 hs2
    replace hs3 := Sat.re hs3 [1, 0, 2] (by kernel_rfl)
    simp only [List.map_cons, List.map_nil, List.getD_cons_zero, List.getD_cons_succ, List.cons_append, List.nil_append] at hs3
    exact hs3
  | true =>
    rw [hr, cond_true] at h
    obtain ⟨x, hx, h⟩ := opt_bind h
    obtain ⟨bw, hbw⟩ := at_len h3 hx
    replace hs := Sat.re hs [7, 0, 1, 2, 3, 4, 5, 6, 8] (by kernel_rfl)
    simp only [List.map_cons, List.map_nil, List.getD_cons_zero, List.getD_cons_succ, List.cons_append, List.nil_append] at hs
    have hs := Sat.focusZ (R := WkR W zb) hbw hx hs
    obtain ⟨jv, tv, dv, tl, q1, q2, hs⟩ := WkR.open hs
    replace hs := Sat.re hs [5, 6, 0, 1, 2, 3, 4, 7, 8, 9, 10, 11, 12] (by kernel_rfl)
    simp only [List.map_cons, List.map_nil, List.getD_cons_zero, List.getD_cons_succ, List.cons_append, List.nil_append] at hs
    refine (Ct.use (pre := [_, _, _, _]) (l := [TxO tv x.t, tells W.JR x.job jv, ZipH (WkR W zb) ws M.l id.toNat, _, _, _, _, _, F]) (stm_Told_in.ct bpm bps vl va vg ws id bw hbw (by rw [in_ok, h3, hr]) (W.fv x.fi) jv tv dv tl x.told rl h) hs trivial).mono ?_
    rintro e w' ⟨u, H', rfl, ⟨vr, rfl, rfl⟩, hs2, hk⟩
    refine ⟨_, _, rfl, ⟨_, rfl, rfl⟩, ?_, hk⟩
    replace hs2 := Sat.re hs2 [3, 4, 5, 6, 7, 1, 2, 8, 9, 10, 11, 12, 0, 13] (by kernel_rfl)
    simp only [List.map_cons, List.map_nil, List.getD_cons_zero, List.getD_cons_succ, List.cons_append, List.nil_append] at hs2
    have hs4 := WkR.close (W := W) (x := x) q1 q2 hs2
    have hs5 := Sat.unfocusZ0 hbw hx hs4
    replace hs5 := Sat.re hs5 [1, 2, 3, 4, 5, 6, 7, 0, 8, 9] (by kernel_rfl)
    simp only [List.map_cons, List.map_nil, List.getD_cons_zero, List.getD_cons_succ, List.cons_append, List.nil_append] at hs5
    have hs3 := McR.close (W := W) (H := [_, F]) h1 h2 h3 hs5
    replace hs3 := Sat.re hs3 [1, 0, 2] (by kernel_rfl)
    simp only [List.map_cons, List.map_nil, List.getD_cons_zero, List.getD_cons_succ, List.cons_append, List.nil_append] at hs3
    exact hs3
theorem stm_Busy.mc (W : FW) (bpm bps : Nat) (M : Mc W.ι) (s : word_Store) (id : Int) (r : Bool) (h : busyM M id = some r) :
    Ct Try.prog 21 [bp bpm 0, .int .i64 id] (fun _ => True) [McR W bpm bps M s] (fun u H' => u = .bool r ∧ H' = [McR W bpm bps M s]) := by
  intro w F hF hs
  obtain ⟨zb, ws, vl, va, vg, vs, h1, h2, h3, hs⟩ := McR.open (H := [F]) hs
  unfold busyM inM at h
  cases hr : (decide (0 ≤ id) && decide (id < (M.l.length : Int))) with
  | false =>
    rw [hr] at h; cases h
    refine (Ct.use (pre := [_, _]) (l := [_, _, _, _, _, _, F]) (stm_Busy_out.ct bpm bps vl va vg ws id (by rw [in_ok, h3, hr])) hs trivial).mono ?_
    rintro e w' ⟨u, H', rfl, ⟨rfl, rfl⟩, hs2, hk⟩
    exact ⟨_, _, rfl, ⟨rfl, rfl⟩, McR.close (W := W) (H := [F]) h1 h2 h3 hs2, hk⟩
  | true =>
    rw [hr, cond_true] at h
    obtain ⟨x, hx, h⟩ := opt_bind h
    obtain ⟨bw, hbw⟩ := at_len h3 hx
    replace hs := Sat.re hs [7, 0, 1, 2, 3, 4, 5, 6, 8] (by kernel_rfl)
    simp only [List.map_cons, List.map_nil, List.getD_cons_zero, List.getD_cons_succ, List.cons_append, List.nil_append] at hs
    have hs := Sat.focusZ (R := WkR W zb) hbw hx hs
    obtain ⟨jv, tv, dv, tl, q1, q2, hs⟩ := WkR.open hs
    cases h
    have back : ∀ w', Sat w' ([Box bpm [bp bps 0, vl, va, vg], Own 68 ekP vl ws, Box bw [W.fv x.fi, jv, tv, dv, tl], Own 3 (ekI .i64) tl x.told, TxO tv x.t, tells W.JR x.job jv, ZipH (WkR W zb) ws M.l id.toNat, Own 105 ekMd va (zb.zip M.el), ZipR rep_desc_Desc zb M.dl, Own 44 ek_stm_Entry vg M.log, Box bps [vs, .int .u32 s.limit], Own 88 ek_api_Cell vs s.l, F]) → Sat w' [McR W bpm bps M s, F] := by
      intro w' hs2
      replace hs2 := Sat.re hs2 [2, 3, 4, 5, 6, 0, 1, 7, 8, 9, 10, 11, 12] (by kernel_rfl)
      simp only [List.map_cons, List.map_nil, List.getD_cons_zero, List.getD_cons_succ, List.cons_append, List.nil_append] at hs2
      have hs4 := WkR.close (W := W) (x := x) q1 q2 hs2
      have hs5 := Sat.unfocusZ0 hbw hx hs4
      replace hs5 := Sat.re hs5 [1, 2, 3, 4, 5, 6, 7, 0, 8] (by kernel_rfl)
      simp only [List.map_cons, List.map_nil, List.getD_cons_zero, List.getD_cons_succ, List.cons_append, List.nil_append] at hs5
      exact McR.close (W := W) (H := [F]) h1 h2 h3 hs5
    cases hj : x.job with
    | none =>
      have hjv : jv = .nilFunc := by
        have hs0 := hs
        replace hs0 := Sat.re hs0 [3] (by kernel_rfl)
        simp only [List.map_cons, List.map_nil, List.getD_cons_zero, List.getD_cons_succ, List.cons_append, List.nil_append] at hs0
        obtain ⟨m, _, hm⟩ := Sat.head hs0
        rw [hj] at hm; exact hm
      subst hjv
      replace hs := Sat.re hs [5, 6, 0, 1, 2, 3, 4, 7, 8, 9, 10, 11, 12] (by kernel_rfl)
      simp only [List.map_cons, List.map_nil, List.getD_cons_zero, List.getD_cons_succ, List.cons_append, List.nil_append] at hs
      refine (Ct.use (pre := [_, _, _]) (l := [_, _, _, _, _, _, _, _, _, F]) (stm_Busy_n.ct bpm bps vl va vg ws id bw hbw (by rw [in_ok, h3, hr]) (W.fv x.fi) tv dv tl) hs trivial).mono ?_
      rintro e w' ⟨u, H', rfl, ⟨rfl, rfl⟩, hs2, hk⟩
      exact ⟨_, _, rfl, ⟨rfl, rfl⟩, back w' hs2, hk⟩
    | some j =>
      obtain ⟨jf, jcs, g1⟩ : ∃ (jf : FuncId) (jcs : List Value), jv = .func (.func jf) #[] jcs.toArray := by
        have hs0 := hs
        replace hs0 := Sat.re hs0 [3] (by kernel_rfl)
        simp only [List.map_cons, List.map_nil, List.getD_cons_zero, List.getD_cons_succ, List.cons_append, List.nil_append] at hs0
        obtain ⟨m, _, hm⟩ := Sat.head hs0
        rw [hj] at hm; exact hm.1
      subst g1
      replace hs := Sat.re hs [5, 6, 0, 1, 2, 3, 4, 7, 8, 9, 10, 11, 12] (by kernel_rfl)
      simp only [List.map_cons, List.map_nil, List.getD_cons_zero, List.getD_cons_succ, List.cons_append, List.nil_append] at hs
      refine (Ct.use (pre := [_, _, _]) (l := [_, _, _, _, _, _, _, _, _, F]) (stm_Busy_s.ct bpm bps vl va vg ws id bw hbw (by rw [in_ok, h3, hr]) (W.fv x.fi) tv dv tl jf jcs) hs trivial).mono ?_
      rintro e w' ⟨u, H', rfl, ⟨rfl, rfl⟩, hs2, hk⟩
      exact ⟨_, _, rfl, ⟨rfl, rfl⟩, back w' hs2, hk⟩
/-! Whether nothing is left. -/
def idleM {ι : Type} (fd : Nat → List Int → Option ι) (x : Wk ι) : Bool := x.job.isSome || (fd x.fi x.told).isSome
def WkN (W : FW) (zb : List Nat) (b : Nat) (x : Wk W.ι) : HProp := fun m => stm_next_n.f x.told = some () ∧ WkR W zb b x m
theorem idle1 (W : FW) (σ : W.σ) (zb : List Nat) (b : Nat) (x : Wk W.ι) :
    Ct Try.prog 37 [bp b 0] (fun _ => True) [WkN W zb b x, W.R σ] (fun u H' => u = .bool (idleM (W.fd σ) x) ∧ H' = [WkN W zb b x, W.R σ]) := by
  intro w F hF hs
  obtain ⟨hn, hs⟩ : stm_next_n.f x.told = some () ∧ Sat w [WkR W zb b x, W.R σ, F] := by
    obtain ⟨m1, m2, d, s1, s2, ⟨hn, a⟩, r⟩ := hs
    exact ⟨hn, m1, m2, d, s1, s2, a, r⟩
  obtain ⟨jv, tv, dv, tl, q1, q2, hs⟩ := WkR.open hs
  obtain ⟨ff, fcs, e1, e2, e3⟩ := W.fok x.fi q1
  have back : ∀ w', Sat w' ([Box b [W.fv x.fi, jv, tv, dv, tl], Own 3 (ekI .i64) tl x.told, W.R σ, TxO tv x.t, tells W.JR x.job jv, F]) → Sat w' [WkN W zb b x, W.R σ, F] := by
    intro w' hs2
    replace hs2 := Sat.re hs2 [0, 1, 3, 4, 2, 5] (by kernel_rfl)
    simp only [List.map_cons, List.map_nil, List.getD_cons_zero, List.getD_cons_succ, List.cons_append, List.nil_append] at hs2
    exact (WkR.close (W := W) (x := x) (H := [_, _]) q1 q2 hs2).weaken fun m q => ⟨hn, q⟩
  cases hj : x.job with
  | none =>
    have hjv : jv = .nilFunc := by
      have hs0 := hs
      replace hs0 := Sat.re hs0 [3] (by kernel_rfl)
      simp only [List.map_cons, List.map_nil, List.getD_cons_zero, List.getD_cons_succ, List.cons_append, List.nil_append] at hs0
      obtain ⟨m, _, hm⟩ := Sat.head hs0
      rw [hj] at hm; exact hm
    subst hjv
    have hcl : ∀ (v : Value) (t : List Int), slices_Clone_int_int.f x.told = some t → Ct Try.prog ff (v :: fcs) (fun F => Rd (ekI .i64) v t F) [W.R σ] (fun u H' => H' = [tells W.JR (W.fd σ x.fi x.told) u, W.R σ]) := by
      intro v t ht
      have : t = x.told := by have := (app_spec ht).2; simpa using this
      rw [this]; exact e3 σ v x.told
    replace hs := Sat.re hs [0, 1, 4, 2, 3, 5] (by kernel_rfl)
    simp only [List.map_cons, List.map_nil, List.getD_cons_zero, List.getD_cons_succ, List.cons_append, List.nil_append] at hs
    rw [e1] at hs
    cases hf : W.fd σ x.fi x.told with
    | none =>
      rw [hf] at hcl
      refine (Ct.use (pre := [_, _, _]) (l := [_, _, F]) (stm_Idle1_n.ct b tv dv tl x.told ff fcs (W.R σ) e2 hcl hn) hs trivial).mono ?_
      rintro e w' ⟨u, H', rfl, ⟨rfl, rfl⟩, hs2, hk⟩
      rw [← e1] at hs2
      exact ⟨_, _, rfl, ⟨by simp [idleM, hj, hf], rfl⟩, back w' hs2, hk⟩
    | some j =>
      rw [hf] at hcl
      refine (Ct.use (pre := [_, _, _]) (l := [_, _, F]) (stm_Idle1_j.ct b tv dv tl x.told (W.JR j) ff fcs (W.R σ) e2 hcl hn) hs trivial).mono ?_
      rintro e w' ⟨u, H', rfl, ⟨rfl, rfl⟩, hs2, hk⟩
      rw [← e1] at hs2
      exact ⟨_, _, rfl, ⟨by simp [idleM, hj, hf], rfl⟩, back w' hs2, hk⟩
  | some j =>
    obtain ⟨jf, jcs, g1⟩ : ∃ (jf : FuncId) (jcs : List Value), jv = .func (.func jf) #[] jcs.toArray := by
      have hs0 := hs
      replace hs0 := Sat.re hs0 [3] (by kernel_rfl)
      simp only [List.map_cons, List.map_nil, List.getD_cons_zero, List.getD_cons_succ, List.cons_append, List.nil_append] at hs0
      obtain ⟨m, _, hm⟩ := Sat.head hs0
      rw [hj] at hm; exact hm.1
    subst g1
    replace hs := Sat.re hs [0, 1, 4, 2, 3, 5] (by kernel_rfl)
    simp only [List.map_cons, List.map_nil, List.getD_cons_zero, List.getD_cons_succ, List.cons_append, List.nil_append] at hs
    refine (Ct.use (pre := [_]) (l := [_, _, _, _, F]) (stm_Idle1_s.ct b (W.fv x.fi) tv dv tl jf jcs) hs trivial).mono ?_
    rintro e w' ⟨u, H', rfl, ⟨rfl, rfl⟩, hs2, hk⟩
    exact ⟨_, _, rfl, ⟨by simp [idleM, hj], rfl⟩, back w' hs2, hk⟩
theorem zipN (W : FW) (zb : List Nat) : ∀ (ws : List Nat) (l : List (Wk W.ι)) (m : PH), (∀ x ∈ l, stm_next_n.f x.told = some ()) → stars (zipR (WkR W zb) ws l) m → stars (zipR (WkN W zb) ws l) m
  | [], [], _, _, h => h
  | [], _ :: _, _, _, h => h
  | _ :: _, [], _, _, h => h
  | b :: ws, x :: l, m, hi, h => by
    obtain ⟨m1, m2, d, s1, s2, a, r⟩ := h
    exact ⟨m1, m2, d, s1, s2, ⟨hi x List.mem_cons_self, a⟩, zipN W zb ws l _ (fun j hj => hi j (List.mem_cons_of_mem _ hj)) r⟩
theorem stm_Idle.mc (W : FW) (σ : W.σ) (k : Nat) (bpm bps : Nat) (M : Mc W.ι) (s : word_Store) (r : Bool) (hn : ∀ x ∈ M.l, stm_next_n.f x.told = some ()) (h : stm_Idle.f k ((idleM (W.fd σ))) M.l = some r) :
    Ct Try.prog 18 [bp bpm 0] (fun _ => True) [McR W bpm bps M s, W.R σ] (fun u H' => u = .bool r ∧ H' = [McR W bpm bps M s, W.R σ]) := by
  intro w F hF hs
  obtain ⟨zb, ws, vl, va, vg, vs, h1, h2, h3, hs⟩ := McR.open (H := [_, F]) hs
  replace hs := Sat.re hs [7, 0, 1, 8, 2, 3, 4, 5, 6, 9] (by kernel_rfl)
  simp only [List.map_cons, List.map_nil, List.getD_cons_zero, List.getD_cons_succ, List.cons_append, List.nil_append] at hs
  have hs := Sat.weaken (B := ZipR (WkN W zb) ws M.l) hs (fun m q => zipN W zb ws M.l m hn q)
  replace hs := Sat.re hs [1, 2, 0, 3, 4, 5, 6, 7, 8, 9] (by kernel_rfl)
  simp only [List.map_cons, List.map_nil, List.getD_cons_zero, List.getD_cons_succ, List.cons_append, List.nil_append] at hs
  refine (Ct.use (pre := [_, _, _, _]) (l := [_, _, _, _, _, F]) (stm_Idle.ct k bpm bps vl va vg ws (WkN W zb) ((idleM (W.fd σ))) (W.R σ) M.l h3 (fun b z => idle1 W σ zb b z) r h) hs trivial).mono ?_
  rintro e w' ⟨u, H', rfl, ⟨rfl, rfl⟩, hs2, hk⟩
  refine ⟨_, _, rfl, ⟨rfl, rfl⟩, ?_, hk⟩
  replace hs2 := Sat.re hs2 [2, 0, 1, 3, 4, 5, 6, 7, 8, 9] (by kernel_rfl)
  simp only [List.map_cons, List.map_nil, List.getD_cons_zero, List.getD_cons_succ, List.cons_append, List.nil_append] at hs2
  have hs2 := Sat.weaken (B := ZipR (WkR W zb) ws M.l) hs2 (fun m q => stars_map0 (fun _ _ _ q => q.2) ws M.l m q)
  replace hs2 := Sat.re hs2 [1, 2, 4, 5, 6, 7, 8, 0, 3, 9] (by kernel_rfl)
  simp only [List.map_cons, List.map_nil, List.getD_cons_zero, List.getD_cons_succ, List.cons_append, List.nil_append] at hs2
  exact McR.close (W := W) (H := [_, F]) h1 h2 h3 hs2

end Go.Proofs
set_option linter.unusedVariables false
namespace Go.Proofs
open Go.Sl Go.RowKit

/-! 11 padstone/padstonelaw08.end -/
variable {ι : Type}
def law08_end.l2 (jm : ι → VM Int) (fd : Nat → List Int → Option ι) (workers : Int) : Nat → (Int × Bool × (Mc ι × word_Store)) → Option ((Bool × (Mc ι × word_Store)))
  | 0, _ => none
  | k + 1, (x9_2, x8_2, qMx_2) => bif decide (x9_2 < workers) then ((busyM qMx_2.1 x9_2).bind fun t3 => bif t3 then ((stepM jm fd k qMx_2.1 qMx_2.2 x9_2).bind fun (t6, m7, s8) => law08_end.l2 jm fd workers k (w64 (x9_2 + 1), true, (m7, s8))) else (law08_end.l2 jm fd workers k (w64 (x9_2 + 1), x8_2, qMx_2))) else (some (x8_2, qMx_2))
def law08_end.l1 (jm : ι → VM Int) (fd : Nat → List Int → Option ι) (workers : Int) (many : Int) : Nat → (Int × (Mc ι × word_Store)) → Option (Brk (Bool × Mc ι × word_Store) (Mc ι × word_Store))
  | 0, _ => none
  | k + 1, (x7_1, qMx_1) => bif decide (x7_1 < many) then ((law08_end.l2 jm fd workers k (0, false, qMx_1)).bind fun (j8_e2, qMx_e2) => bif !j8_e2 then (some (Brk.ret (true, qMx_e2))) else (law08_end.l1 jm fd workers many k (w64 (x7_1 + 1), qMx_e2))) else (some (Brk.nx qMx_1))
def law08_end.f (k : Nat) (jm : ι → VM Int) (fd : Nat → List Int → Option ι) (workers : Int) (many : Int) (X : Mc ι × word_Store) : Option ((Bool × Mc ι × word_Store)) :=
  (law08_end.l1 jm fd workers many k (0, X)).bind fun o1 => Brk.go o1 (fun r => some r) (fun qMx_e1 => some (false, qMx_e1))
set_option maxHeartbeats 8000000 in
set_option maxRecDepth 100000 in
theorem law08_end.ct (k : Nat) (W : FW) (σ : W.σ) (bm bps : Nat) (jm : W.ι → VM Int) (fd : Nat → List Int → Option W.ι) (hjm : W.jm = jm) (hfd : W.fd σ = fd) (workers many : Int) (X rX : Mc W.ι × word_Store) (r0 : Bool) (h : law08_end.f k jm fd workers many X = some (r0, rX)) :
    Ct Try.prog 11 [bp bm 0, .int .i64 workers, .int .i64 many] (W.rdJ) [McR W bm bps X.1 X.2, W.R σ] (fun u H' => u = .bool r0 ∧ H' = [McR W bm bps rX.1 rX.2, W.R σ]) := by
  unfold law08_end.f at h
  refine Ct.intro (n := 28) Try.func11 rfl rfl rfl ?_
  intro R w0 F hF hR
  refine S.seq ?_
  refine S.region ?_
  refine SO.v rfl (opv_assign rfl) ?_
  refine SO.nil ?_
  refine S.seq ?_
  refine S.seq ?_
  refine S.region ?_
  refine SO.v rfl (opv_assign rfl) ?_
  refine SO.nil ?_
  obtain ⟨o1, hlp1, h⟩ := opt_bind h
  refine S.b2 ?_
  refine S.b2 ?_
  refine S.b2 ?_
  refine S.to (ρ' := [(7, .int .i64 0), (6, .bool false), (0, bp bm 0), (1, .int .i64 workers), (2, .int .i64 many)]) ⟨rfl, rfl, rfl, rfl, rfl, trivial⟩ ?_
  refine S.forloop (X := (Int × (Mc W.ι × word_Store)) × Unit) (O := Brk (Bool × Mc W.ι × word_Store) (Mc W.ι × word_Store)) (fun m x => law08_end.l1 jm fd workers many m x.1) (fun x => match x with | ((x7_1, qMx_1), _) => [(7, .int .i64 x7_1), (6, .bool false), (0, bp bm 0), (1, .int .i64 workers), (2, .int .i64 many)]) (fun x => match x with | ((x7_1, qMx_1), _) => [McR W bm bps qMx_1.1 qMx_1.2, W.R σ, F]) (fun Sk o' => (∀ r', o' = Brk.ret r' → some r' = some (r0, rX)) ∧ ∀ qMx_e1 : (Mc W.ι × word_Store), ∀ _ : Unit, o' = Brk.nx qMx_e1 → Sk [(6, .bool false)] [McR W bm bps qMx_e1.1 qMx_e1.2, W.R σ, F]) (fun _ => rfl) ?_ (m := k) (x := ((0, X), ())) hlp1 ?_
  · clear h hlp1
    intro k x o_1 h hK1 ih1
    obtain ⟨⟨x7_1, qMx_1⟩, _⟩ := x
    replace h : law08_end.l1 jm fd workers many (k + 1) (x7_1, qMx_1) = some o_1 := h
    first | rw [law08_end.l1] at h | unfold law08_end.l1 at h
    refine S.seq ?_
    refine S.seq ?_
    refine S.region ?_
    refine SO.v rfl (opv_move rfl) ?_
    refine SO.v rfl (opv_move rfl) ?_
    refine SO.v rfl (opv_lss rfl rfl) ?_
    refine SO.nil ?_
    rcases bool_or (decide (x7_1 < many)) with b1 | b1
    · replace h := cond_t b1 h
      refine S.condT rfl b1 ?_
      refine S.skip ?_
      refine S.seq ?_
      refine S.block ?_
      refine S.seq ?_
      refine S.region ?_
      refine SO.v rfl (opv_assign rfl) ?_
      refine SO.nil ?_
      refine S.seq ?_
      refine S.seq ?_
      refine S.region ?_
      refine SO.v rfl (opv_assign rfl) ?_
      refine SO.nil ?_
      obtain ⟨⟨j8_e2, qMx_e2⟩, hlp2, h⟩ := opt_bind h
      refine S.b2 ?_
      refine S.b2 ?_
      refine S.b2 ?_
      refine S.to (ρ' := [(9, .int .i64 0), (8, .bool false), (7, .int .i64 x7_1), (6, .bool false), (0, bp bm 0), (1, .int .i64 workers), (2, .int .i64 many)]) ⟨rfl, rfl, rfl, rfl, rfl, rfl, rfl, trivial⟩ ?_
      refine S.forloop (X := (Int × Bool × (Mc W.ι × word_Store)) × Unit) (O := (Bool × (Mc W.ι × word_Store))) (fun m x => law08_end.l2 jm fd workers m x.1) (fun x => match x with | ((x9_2, x8_2, qMx_2), _) => [(9, .int .i64 x9_2), (8, .bool x8_2), (7, .int .i64 x7_1), (6, .bool false), (0, bp bm 0), (1, .int .i64 workers), (2, .int .i64 many)]) (fun x => match x with | ((x9_2, x8_2, qMx_2), _) => [McR W bm bps qMx_2.1 qMx_2.2, W.R σ, F]) (fun Sk => (fun x => match x with | (j8_e2, qMx_e2) => ∀ _ : Unit, Sk [(0, bp bm 0), (1, .int .i64 workers), (2, .int .i64 many), (6, .bool false), (7, .int .i64 x7_1), (8, .bool j8_e2)] [McR W bm bps qMx_e2.1 qMx_e2.2, W.R σ, F])) (fun _ => rfl) ?_ (m := k) (x := ((0, false, qMx_1), ())) hlp2 ?_
      · clear h hlp2
        intro k x o_2 h hK2 ih2
        obtain ⟨⟨x9_2, x8_2, qMx_2⟩, _⟩ := x
        replace h : law08_end.l2 jm fd workers (k + 1) (x9_2, x8_2, qMx_2) = some o_2 := h
        first | rw [law08_end.l2] at h | unfold law08_end.l2 at h
        refine S.seq ?_
        refine S.seq ?_
        refine S.region ?_
        refine SO.v rfl (opv_move rfl) ?_
        refine SO.v rfl (opv_move rfl) ?_
        refine SO.v rfl (opv_lss rfl rfl) ?_
        refine SO.nil ?_
        rcases bool_or (decide (x9_2 < workers)) with b2 | b2
        · replace h := cond_t b2 h
          refine S.condT rfl b2 ?_
          refine S.skip ?_
          refine S.seq ?_
          refine S.block ?_
          refine S.seq ?_
          refine S.region ?_
          refine SO.v rfl (opv_move rfl) ?_
          refine SO.v rfl (opv_move rfl) ?_
          obtain ⟨t3, ht4, h⟩ := opt_bind h
          refine SO.call (pre := [McR _ _ _ _ _]) rfl Try.call21 rfl rfl rfl (stm_Busy.mc W bm bps _ _ x9_2 _ ht4) trivial ?_
          rintro _ _ ⟨rfl, rfl⟩
          refine SO.nil ?_
          rcases bool_or t3 with b5 | b5
          · replace h := cond_t b5 h
            refine S.condT rfl b5 ?_
            refine S.seq ?_
            refine S.region ?_
            refine SO.v rfl (opv_assign rfl) ?_
            refine SO.nil ?_
            refine S.region ?_
            refine SO.v rfl (opv_move rfl) ?_
            refine SO.v rfl (opv_move rfl) ?_
            obtain ⟨⟨t6, m7, s8⟩, ht9, h⟩ := opt_bind h
            refine SO.b1 ?_
            refine SO.b1 ?_
            refine SO.call (pre := [McR _ _ _ _ _, W.R σ]) rfl Try.call10 rfl rfl rfl (stm_Step.ct W σ k bm bps _ m7 _ s8 x9_2 t6 (by rw [hjm, hfd]; exact ht9)) (W.mono [] F hF) ?_
            rintro _ _ ⟨rfl, rfl⟩
            refine SO.nil ?_
            refine S.to (ρ' := [(9, .int .i64 x9_2), (8, .bool true), (7, .int .i64 x7_1), (6, .bool false), (0, bp bm 0), (1, .int .i64 workers), (2, .int .i64 many)]) ⟨rfl, rfl, rfl, rfl, rfl, rfl, rfl, trivial⟩ ?_
            refine S.inBlock ?_
            refine S.region ?_
            refine SO.v rfl (opv_move rfl) ?_
            refine SO.v rfl (opv_add rfl rfl) ?_
            refine SO.v rfl (opv_assign rfl) ?_
            refine SO.nil ?_
            refine S.b2 ?_
            refine S.b2 ?_
            refine S.b2 ?_
            refine S.to ?_ (ih2 ((w64 (x9_2 + 1), true, (m7, s8)), ()) h)
            exact ⟨rfl, rfl, rfl, rfl, rfl, rfl, rfl, trivial⟩
          replace h := cond_f b5 h
          refine S.condF rfl b5 ?_
          refine S.skip ?_
          refine S.inBlock ?_
          refine S.region ?_
          refine SO.v rfl (opv_move rfl) ?_
          refine SO.v rfl (opv_add rfl rfl) ?_
          refine SO.v rfl (opv_assign rfl) ?_
          refine SO.nil ?_
          refine S.to (ρ' := [(9, .int .i64 (w64 (x9_2 + 1))), (8, .bool x8_2), (7, .int .i64 x7_1), (6, .bool false), (0, bp bm 0), (1, .int .i64 workers), (2, .int .i64 many)]) ⟨rfl, rfl, rfl, rfl, rfl, rfl, rfl, trivial⟩ ?_
          refine S.b2 ?_
          refine S.b2 ?_
          refine S.b2 ?_
          refine S.to ?_ (ih2 ((w64 (x9_2 + 1), x8_2, qMx_2), ()) h)
          exact ⟨rfl, rfl, rfl, rfl, rfl, rfl, rfl, trivial⟩
        replace h := cond_f b2 h
        refine S.condF rfl b2 ?_
        refine S.exit rfl ?_
        cases h
        refine S.b2 ?_
        refine S.b2 ?_
        refine S.b2 ?_
        refine S.to ?_ (hK2 ())
        exact ⟨rfl, rfl, rfl, rfl, rfl, rfl, trivial⟩
      rintro _
      refine S.seq ?_
      refine S.region ?_
      refine SO.v rfl (opv_move rfl) ?_
      refine SO.v rfl (opv_not rfl) ?_
      refine SO.nil ?_
      rcases bool_or (!j8_e2) with b10 | b10
      · replace h := cond_t b10 h
        refine S.condT rfl b10 ?_
        refine S.seq ?_
        refine S.region ?_
        refine SO.v rfl (opv_assign rfl) ?_
        refine SO.nil ?_
        refine S.to (ρ' := [(6, .bool true)]) ⟨rfl, trivial⟩ ?_
        cases h
        replace h := hK1.1 _ rfl
        cases h
        refine S.b2 ?_
        refine S.b2 ?_
        refine S.b2 ?_
        exact S.ret1 Try.func11 rfl rfl (fun w hs hk => hR w _ _ ⟨rfl, rfl⟩ hs hk)
      replace h := cond_f b10 h
      refine S.condF rfl b10 ?_
      refine S.skip ?_
      refine S.inBlock ?_
      refine S.region ?_
      refine SO.v rfl (opv_move rfl) ?_
      refine SO.v rfl (opv_add rfl rfl) ?_
      refine SO.v rfl (opv_assign rfl) ?_
      refine SO.nil ?_
      refine S.b2 ?_
      refine S.b2 ?_
      refine S.b2 ?_
      refine S.to ?_ (ih1 ((w64 (x7_1 + 1), qMx_e2), ()) h)
      exact ⟨rfl, rfl, rfl, rfl, rfl, trivial⟩
    replace h := cond_f b1 h
    refine S.condF rfl b1 ?_
    refine S.exit rfl ?_
    cases h
    refine S.b2 ?_
    refine S.b2 ?_
    refine S.b2 ?_
    refine S.to ?_ (hK1.2 qMx_1 () rfl)
    exact ⟨rfl, trivial⟩
  refine ⟨fun r' e' => ?_, ?_⟩
  · subst e'
    have h9 := Brk.of_ret h
    exact h9
  rintro qMx_e1 _ e'
  subst e'
  replace h := Brk.of_nx h
  refine S.seq ?_
  refine S.region ?_
  refine SO.v rfl (opv_assign rfl) ?_
  refine SO.nil ?_
  cases h
  refine S.b2 ?_
  refine S.b2 ?_
  refine S.b2 ?_
  exact S.ret1 Try.func11 rfl rfl (fun w hs hk => hR w _ _ ⟨rfl, rfl⟩ hs hk)
end Go.Proofs
set_option linter.unusedVariables false
namespace Go.Proofs
open Go.Sl Go.RowKit
/-! The jobs and feeds of law08. -/
theorem pick_perm {l : List HProp} {i : Nat} {A : HProp} (h : l[i]? = some A) : l.Perm (A :: l.eraseIdx i) := by
  induction l generalizing i with
  | nil => simp at h
  | cons B l ih =>
    cases i with
    | zero => simp at h; subst h; simp
    | succ i => exact ((ih (by simpa using h)).cons B).trans (.swap _ _ _)
theorem Sat.pickS {w : World} {l : List HProp} {i : Nat} {A : HProp} {H : List HProp} (h : l[i]? = some A) (hs : Sat w (stars l :: H)) : Sat w (A :: stars (l.eraseIdx i) :: H) := by
  obtain ⟨m1, m2, d, s1, s2, a, r⟩ := hs
  obtain ⟨n1, n2, e, t1, t2, x, y⟩ := stars_perm (pick_perm h) a
  have h2 : stars ([A] ++ [stars (l.eraseIdx i)]) m1 := ⟨n1, n2, e, t1, t2, x, stars_singleton y⟩
  exact (stars_append [A, stars (l.eraseIdx i)] H (hp w)).2 ⟨m1, m2, d, s1, s2, h2, r⟩
theorem Sat.unpickS {w : World} {l : List HProp} {i : Nat} {A : HProp} {H : List HProp} (h : l[i]? = some A) (hs : Sat w (A :: stars (l.eraseIdx i) :: H)) : Sat w (stars l :: H) := by
  have h1 : stars ([A, stars (l.eraseIdx i)] ++ H) (hp w) := hs
  obtain ⟨m1, m2, d, s1, s2, a, r⟩ := (stars_append _ _ _).1 h1
  obtain ⟨n1, n2, e, t1, t2, x, n3, _, _, t3, _, y, _⟩ := a
  have h2 : stars (A :: l.eraseIdx i) m1 := ⟨n1, n2, e, t1, t2, x, stars_mono _ t3 y⟩
  exact ⟨m1, m2, d, s1, s2, stars_perm (pick_perm h).symm h2, r⟩
theorem Sat.flat {w : World} {l H : List HProp} (hs : Sat w (stars l :: H)) : Sat w (l ++ H) := stars_flat hs
theorem Sat.unflat {w : World} {l H : List HProp} (hs : Sat w (l ++ H)) : Sat w (stars l :: H) := stars_unflat hs
def jv22 (b : Nat) : Value := .func (.func 22) #[] #[bp b 0]
def fv39 (b : Nat) : Value := .func (.func 39) #[] #[bp b 0]
theorem jv22_one (b : Nat) : (jv22 b).oneCell' = true := rfl
theorem fv39_one (b : Nat) : (fv39 b).oneCell' = true := rfl
/-- A feed, as it lies: its box, its row of jobs, each job's box with its ops. -/
structure F8 where
  fb : Nat
  vj : Value
  js : List (Nat × SV)
def F8R (x : F8) : HProp := stars [Box x.fb [x.vj], Own 69 (ekV jv22 jv22_one) x.vj (x.js.map (·.1)), stars (x.js.map fun y => Box y.1 [y.2.1])]
def R8 (G : List F8) : HProp := stars (G.map F8R)
abbrev rd8 (G : List F8) (l : List (List (List law06_Op))) (F : HProp) : Prop := ∀ (i j : Nat) (x : F8) (y : Nat × SV) (os : List (List law06_Op)) (ops : List law06_Op), G[i]? = some x → x.js[j]? = some y → l[i]? = some os → os[j]? = some ops → Rd ek_law06_Op y.2.1 ops F
def fd8 (l : List (List (List law06_Op))) (i : Nat) (t : List Int) : Option (List law06_Op) := l[i]?.bind fun os => os[t.length]?
theorem list1_ok {α : Type} (t : List Int) (js : List α) : stm_List1.f t js = some (js[t.length]?) := by
  unfold stm_List1.f
  by_cases c : (js.length : Int) ≤ (t.length : Int)
  · have h1 : js[t.length]? = none := List.getElem?_eq_none (by omega)
    simp [c, h1]
  · have h1 : js[t.length]? = some js[t.length] := List.getElem?_eq_getElem (by omega)
    have h2 : at_ js (t.length : Int) = some js[t.length] := at_of (by omega) (by simpa using h1)
    simp [c, h1, h2]
def JR8 (G : List F8) (l : List (List (List law06_Op))) (ops : List law06_Op) (v : Value) : HProp := fun _ => ∃ (i j : Nat) (x : F8) (y : Nat × SV) (os : List (List law06_Op)), G[i]? = some x ∧ x.js[j]? = some y ∧ l[i]? = some os ∧ os[j]? = some ops ∧ v = jv22 y.1
set_option maxHeartbeats 1000000 in
def fw8 (k : Nat) (G : List F8) (l : List (List (List law06_Op))) (h1 : G.length = l.length) (h2 : ∀ (i : Nat) (x : F8) (os : List (List law06_Op)), G[i]? = some x → l[i]? = some os → x.js.length = os.length) : FW where
  ι := List law06_Op
  σ := Unit
  n := G.length
  fv := fun i => fv39 ((G[i]?.map (·.fb)).getD 0)
  JR := JR8 G l
  jm := law08_jobs_1.f k
  rdJ := rd8 G l
  R := fun _ => R8 G
  fd := fun _ => fd8 l
  mono := fun L F h i j x y os ops e1 e2 e3 e4 => Rd.last (h i j x y os ops e1 e2 e3 e4) L
  ffn := fun i => ⟨_, [bp _ 0], rfl⟩
  fok := fun i hi => by
    have hx : G[i]? = some G[i] := List.getElem?_eq_getElem hi
    have ho : l[i]? = some (l[i]'(by omega)) := List.getElem?_eq_getElem (by omega)
    refine ⟨39, [bp G[i].fb 0], by simp [hx, fv39], Try.call39, fun _ v t w F hF hs => ?_⟩
    have hlen := h2 i _ _ hx ho
    have hp1 : (G.map F8R)[i]? = some (F8R G[i]) := by simp [hx]
    have hs := Sat.pickS hp1 hs
    have hs := Sat.flat (l := [Box G[i].fb [G[i].vj], Own 69 (ekV jv22 jv22_one) G[i].vj (G[i].js.map (·.1)), stars (G[i].js.map fun y => Box y.1 [y.2.1])]) hs
    have hs : Sat w ([Box G[i].fb [G[i].vj], Own 69 (ekV jv22 jv22_one) G[i].vj (G[i].js.map (·.1))] ++ [stars (G[i].js.map fun y => Box y.1 [y.2.1]), stars ((G.map F8R).eraseIdx i), F]) := hs
    refine (Ct.use (stm_List1.ct jv22 jv22_one v G[i].vj G[i].fb t (G[i].js.map (·.1)) _ (list1_ok t _)) hs (Rd.tail (Rd.tail (Rd.head hF)))).mono ?_
    rintro e w' ⟨u, H', rfl, ⟨hu, rfl⟩, hs2, hk⟩
    refine ⟨u, _, rfl, rfl, ?_, hk⟩
    have hs3 : Sat w' (R8 G :: [F]) := Sat.unpickS hp1 (Sat.unflat (l := [_, _, _]) hs2)
    have hpure : tells (JR8 G l) (fd8 l i t) u (fun _ => none) := by
      unfold fd8
      rw [ho, Option.bind_some]
      by_cases c : t.length < G[i].js.length
      · have a1 : (G[i].js.map (·.1))[t.length]? = some G[i].js[t.length].1 := by simp [c]
        have a2 : (l[i]'(by omega))[t.length]? = some ((l[i]'(by omega))[t.length]'(by omega)) := List.getElem?_eq_getElem (by omega)
        rw [a1] at hu
        rw [a2]
        exact ⟨⟨_, [bp _ 0], hu⟩, i, t.length, _, _, _, hx, List.getElem?_eq_getElem c, ho, a2, hu⟩
      · have a1 : (G[i].js.map (·.1))[t.length]? = none := List.getElem?_eq_none (by simp; omega)
        have a2 : (l[i]'(by omega))[t.length]? = none := List.getElem?_eq_none (by omega)
        rw [a1] at hu
        rw [a2]
        exact hu
    exact sat_emp hpure hs3
  jok := fun ops v m hm => by
    obtain ⟨i, j, x, y, os, e1, e2, e3, e4, rfl⟩ := hm
    refine ⟨_, [bp y.1 0], rfl, Try.call22, fun _ V s s' a hrun w F hF hs => ?_⟩
    have hp1 : (G.map F8R)[i]? = some (F8R x) := by simp [e1]
    have hp2 : (x.js.map fun y => Box y.1 [y.2.1])[j]? = some (Box y.1 [y.2.1]) := by simp [e2]
    have hs : Sat w [JR8 G l ops (jv22 y.1), R8 G, V.rep s, F] := hs
    replace hs := Sat.re hs [1, 0, 2, 3] (by kernel_rfl)
    simp only [List.map_cons, List.map_nil, List.getD_cons_zero, List.getD_cons_succ, List.cons_append, List.nil_append] at hs
    have hs := Sat.pickS hp1 hs
    have hs : Sat w [Box x.fb [x.vj], Own 69 (ekV jv22 jv22_one) x.vj (x.js.map (·.1)), stars (x.js.map fun y => Box y.1 [y.2.1]), stars ((G.map F8R).eraseIdx i), JR8 G l ops (jv22 y.1), V.rep s, F] := Sat.flat (l := [Box x.fb [x.vj], Own 69 (ekV jv22 jv22_one) x.vj (x.js.map (·.1)), stars (x.js.map fun y => Box y.1 [y.2.1])]) hs
    replace hs := Sat.re hs [2, 0, 1, 3, 4, 5, 6] (by kernel_rfl)
    simp only [List.map_cons, List.map_nil, List.getD_cons_zero, List.getD_cons_succ, List.cons_append, List.nil_append] at hs
    have hs := Sat.pickS hp2 hs
    replace hs := Sat.re hs [0, 6, 1, 2, 3, 4, 5, 7] (by kernel_rfl)
    simp only [List.map_cons, List.map_nil, List.getD_cons_zero, List.getD_cons_succ, List.cons_append, List.nil_append] at hs
    have hrd := hF i j x y os ops e1 e2 e3 e4
    refine (Ct.use (pre := [_, _]) (l := [_, _, _, _, _, F]) (law08_jobs_1.ct V k y.1 y.2.1 ops a s s' hrun) hs (Rd.last (l := [_, _, _, _, _]) hrd)).mono ?_
    rintro e w' ⟨u, H', rfl, ⟨rfl, rfl⟩, hs2, hk⟩
    refine ⟨_, _, rfl, ⟨rfl, rfl⟩, ?_, hk⟩
    replace hs2 := Sat.re hs2 [0, 2, 3, 4, 5, 6, 1, 7] (by kernel_rfl)
    simp only [List.map_cons, List.map_nil, List.getD_cons_zero, List.getD_cons_succ, List.cons_append, List.nil_append] at hs2
    have hs3 := Sat.unpickS hp2 hs2
    replace hs3 := Sat.re hs3 [1, 2, 0, 3, 4, 5, 6] (by kernel_rfl)
    simp only [List.map_cons, List.map_nil, List.getD_cons_zero, List.getD_cons_succ, List.cons_append, List.nil_append] at hs3
    have hs4 : Sat w' [R8 G, JR8 G l ops (jv22 y.1), V.rep s', F] := Sat.unpickS hp1 (Sat.unflat (l := [_, _, _]) hs3)
    replace hs4 := Sat.re hs4 [1, 0, 2, 3] (by kernel_rfl)
    simp only [List.map_cons, List.map_nil, List.getD_cons_zero, List.getD_cons_succ, List.cons_append, List.nil_append] at hs4
    exact hs4
/-! The rows while they are made. -/
def JobsR (v : Value) (ows : List SV) : HProp := fun m => ∃ js : List (Nat × SV), js.map (·.2) = ows ∧ stars [Own 69 (ekV jv22 jv22_one) v (js.map (·.1)), stars (js.map fun y => Box y.1 [y.2.1])] m
def FeedsR (v : Value) (vv : List (List SV)) : HProp := fun m => ∃ G : List F8, G.map (fun x => x.js.map (·.2)) = vv ∧ stars [Own 56 (ekV fv39 fv39_one) v (G.map (·.fb)), R8 G] m
theorem JobsR.nil (m : PH) : JobsR (.slice none 0 0) [] m := ⟨[], rfl, stars_emp (Own.nil _ _ _) (stars_singleton trivial)⟩
theorem FeedsR.nil (m : PH) : FeedsR (.slice none 0 0) [] m := ⟨[], rfl, stars_emp (Own.nil _ _ _) (stars_singleton trivial)⟩
section
variable {P : Program} {n : Nat} {Z : Act → World → Prop} {w0 : Beg} {ρ : Env} {H rest : List HProp} {ops : Array Oper} {l : List Oper} {v : Value}
theorem SO.openJobs {ows : List SV} (h : ∀ js : List (Nat × SV), js.map (·.2) = ows → SO P n Z w0 ops l ρ (Own 69 (ekV jv22 jv22_one) v (js.map (·.1)) :: stars (js.map fun y => Box y.1 [y.2.1]) :: rest)) : SO P n Z w0 ops l ρ (JobsR v ows :: rest) := by
  intro a w h1 h2 h3 h4 h5
  obtain ⟨m1, m2, d, s1, s2, ⟨js, e, hx⟩, hr⟩ := h4
  exact h js e a w h1 h2 h3 ((stars_append [_, _] rest (hp w)).2 ⟨m1, m2, d, s1, s2, hx, hr⟩) h5
theorem SO.closeJobs {js : List (Nat × SV)} {b : Nat} {u : SV} (h : SO P n Z w0 ops l ρ (JobsR v (js.map (·.2) ++ [u]) :: rest)) : SO P n Z w0 ops l ρ (Own 69 (ekV jv22 jv22_one) v (js.map (·.1) ++ [b]) :: stars (js.map fun y => Box y.1 [y.2.1]) :: Box b [u.1] :: rest) := h.sat fun w s => by
  have s1 : Sat w ([Own 69 (ekV jv22 jv22_one) v (js.map (·.1) ++ [b]), stars (js.map fun y => Box y.1 [y.2.1]), Box b [u.1]] ++ rest) := s
  obtain ⟨m1, m2, d, t1, t2, a, r⟩ := (stars_append _ rest (hp w)).1 s1
  refine ⟨m1, m2, d, t1, t2, ⟨js ++ [(b, u)], by simp, ?_⟩, r⟩
  obtain ⟨n1, n2, e, q1, q2, x, y⟩ := a
  refine ⟨n1, n2, e, q1, q2, by simpa using x, stars_singleton ?_⟩
  have y2 := stars_flat y
  simpa using y2
theorem SO.openFeeds {vv : List (List SV)} (h : ∀ G : List F8, G.map (fun x => x.js.map (·.2)) = vv → SO P n Z w0 ops l ρ (Own 56 (ekV fv39 fv39_one) v (G.map (·.fb)) :: R8 G :: rest)) : SO P n Z w0 ops l ρ (FeedsR v vv :: rest) := by
  intro a w h1 h2 h3 h4 h5
  obtain ⟨m1, m2, d, s1, s2, ⟨js, e, hx⟩, hr⟩ := h4
  exact h js e a w h1 h2 h3 ((stars_append [_, _] rest (hp w)).2 ⟨m1, m2, d, s1, s2, hx, hr⟩) h5
theorem SO.closeFeeds {G : List F8} {x : F8} {xx : List SV} (hx : x.js.map (·.2) = xx) (h : SO P n Z w0 ops l ρ (FeedsR v (G.map (fun x => x.js.map (·.2)) ++ [xx]) :: rest)) : SO P n Z w0 ops l ρ (Own 56 (ekV fv39 fv39_one) v (G.map (·.fb) ++ [x.fb]) :: R8 G :: F8R x :: rest) := h.sat fun w s => by
  have s1 : Sat w ([Own 56 (ekV fv39 fv39_one) v (G.map (·.fb) ++ [x.fb]), R8 G, F8R x] ++ rest) := s
  obtain ⟨m1, m2, d, t1, t2, a, r⟩ := (stars_append _ rest (hp w)).1 s1
  refine ⟨m1, m2, d, t1, t2, ⟨G ++ [x], by simp [hx], ?_⟩, r⟩
  obtain ⟨n1, n2, e, q1, q2, x, y⟩ := a
  refine ⟨n1, n2, e, q1, q2, by simpa using x, stars_singleton ?_⟩
  have y2 := stars_flat y
  simpa [R8] using y2
end
section
variable {P : Program} {f : FuncId} {Rr : Ending → World → Prop} {k : List Item} {n : Nat} {Z : Act → World → Prop} {w0 : Beg} {ρ : Env} {H rest : List HProp} {ops : Array Oper} {l : List Oper} {v : Value}
theorem SO.addR {A : HProp} (hA : ∀ m, A m) (h : SO P n Z w0 ops l ρ (A :: rest)) : SO P n Z w0 ops l ρ rest := h.sat fun _ s => sat_emp (hA _) s
theorem S.addR {A : HProp} (hA : ∀ m, A m) (h : S P f n Rr w0 k ρ (A :: rest)) : S P f n Rr w0 k ρ rest := h.sat fun _ s => sat_emp (hA _) s
theorem appJ {α β : Type} {js : List α} {p : α → β} {q : α → Nat} {xs zs : List β} {u : β} (b : Nat) (h : js.map p = xs) (hz : app xs [u] = some zs) : app (js.map q) [b] = some (js.map q ++ [b]) ∧ zs = js.map p ++ [u] := by
  obtain ⟨h1, rfl⟩ := app_spec hz
  subst h
  refine ⟨?_, rfl⟩
  unfold app; rw [decide_eq_true (by simpa using h1)]; rfl
theorem listJ {js : List (Nat × SV)} {xs zs : List SV} (h : js.map (·.2) = xs) (hz : app ([] : List SV) xs = some zs) : stm_List.f (js.map (·.1)) = some (js.map (·.1)) := by
  obtain ⟨h1, _⟩ := app_spec hz
  subst h
  unfold stm_List.f slices_Clone_stm_Job_stm_Job.f app
  rw [decide_eq_true (by simpa using h1)]; simp
theorem SO.packF8 {b : Nat} {vj : Value} {js : List (Nat × SV)} (h : SO P n Z w0 ops l ρ (F8R ⟨b, vj, js⟩ :: rest)) : SO P n Z w0 ops l ρ (Box b [vj] :: Own 69 (ekV jv22 jv22_one) vj (js.map (·.1)) :: stars (js.map fun y => Box y.1 [y.2.1]) :: rest) := h.sat fun w s => stars_unflat (A := [_, _, _]) s
end

end Go.Proofs
set_option linter.unusedVariables false
namespace Go.Proofs
open Go.Sl Go.RowKit
theorem inf56_law08_jobs : Try.prog.info? 56 = some Try.t56 := by kernel_rfl
theorem inf69_law08_jobs : Try.prog.info? 69 = some Try.t69 := by kernel_rfl
/-! 9 padstone/padstonelaw08.jobs -/
def law08_jobs.l2 (vv : List (List SV)) (x4_1 : Int) : Nat → (Int × (List SV)) → Option ((List SV))
  | 0, _ => none
  | k + 1, (x6_2, x5_2) => (at_ vv x4_1).bind fun x2 => bif decide (x6_2 < (x2.length : Int)) then ((at_ vv x4_1).bind fun x8 => (at_ x8 x6_2).bind fun x13 => (app x5_2 [x13]).bind fun zs20 => law08_jobs.l2 vv x4_1 k (w64 (x6_2 + 1), zs20)) else (some x5_2)
def law08_jobs.l1 (vv : List (List SV)) : Nat → (Int × (List (List SV))) → Option ((List (List SV)))
  | 0, _ => none
  | k + 1, (x4_1, x3_1) => bif decide (x4_1 < (vv.length : Int)) then ((law08_jobs.l2 vv x4_1 k (0, [])).bind fun j5_e2 => (app ([] : List SV) j5_e2).bind fun zs27 => (app x3_1 [j5_e2]).bind fun zs36 => law08_jobs.l1 vv k (w64 (x4_1 + 1), zs36)) else (some x3_1)
def law08_jobs.f (k : Nat) (vv : List (List SV)) : Option (List (List SV)) :=
  (law08_jobs.l1 vv k (0, [])).bind fun j3_e1 => some j3_e1
set_option maxHeartbeats 8000000 in
set_option maxRecDepth 100000 in
theorem law08_jobs.ct (k : Nat) (v0 : Value) (vv rl : List (List SV)) (h : law08_jobs.f k vv = some rl) :
    Ct Try.prog 9 [v0] (fun F => Rd2 ekS v0 vv F) [] (fun u H' => ∃ vf, u = vf ∧ H' = [FeedsR vf rl]) := by
  unfold law08_jobs.f at h
  refine Ct.intro (n := 40) Try.func9 rfl rfl rfl ?_
  intro R w0 F hF hR
  obtain ⟨vs0, hF0, hl0, hR0⟩ := hF
  refine S.seq ?_
  refine S.region ?_
  refine SO.v rfl (opv_assign rfl) ?_
  refine SO.nil ?_
  refine S.seq ?_
  refine S.region ?_
  refine SO.v rfl (opv_assign rfl) ?_
  refine SO.nil ?_
  refine S.seq ?_
  refine S.seq ?_
  refine S.region ?_
  refine SO.v rfl (opv_assign rfl) ?_
  refine SO.nil ?_
  obtain ⟨j3_e1, hlp1, h⟩ := opt_bind h
  refine S.addR FeedsR.nil ?_
  refine S.b1 ?_
  refine S.b1 ?_
  refine S.to (ρ' := [(4, .int .i64 0), (3, .slice none 0 0), (2, .slice none 0 0), (0, v0)]) ⟨rfl, rfl, rfl, rfl, trivial⟩ ?_
  refine S.forloop (X := (Int × (List (List SV))) × Value) (O := (List (List SV))) (fun m x => law08_jobs.l1 vv m x.1) (fun x => match x with | ((x4_1, x3_1), v3_1) => [(4, .int .i64 x4_1), (3, v3_1), (2, .slice none 0 0), (0, v0)]) (fun x => match x with | ((x4_1, x3_1), v3_1) => [FeedsR v3_1 x3_1, F]) (fun Sk => (fun j3_e1 => ∀ v3_e1 : Value, Sk [(2, .slice none 0 0), (3, v3_e1)] [FeedsR v3_e1 j3_e1, F])) (fun _ => rfl) ?_ (m := k) (x := ((0, []), .slice none 0 0)) hlp1 ?_
  · clear h hlp1
    intro k x o_1 h hK1 ih1
    obtain ⟨⟨x4_1, x3_1⟩, v3_1⟩ := x
    replace h : law08_jobs.l1 vv (k + 1) (x4_1, x3_1) = some o_1 := h
    first | rw [law08_jobs.l1] at h | unfold law08_jobs.l1 at h
    refine S.seq ?_
    refine S.seq ?_
    refine S.region ?_
    refine SO.v rfl (opv_move rfl) ?_
    refine SO.v rfl (opv_move rfl) ?_
    refine SO.v rfl (opv_len2 rfl Try.underlying23 hF0 hl0 rfl) ?_
    refine SO.v rfl (opv_lss rfl rfl) ?_
    refine SO.nil ?_
    rcases bool_or (decide (x4_1 < (vv.length : Int))) with b1 | b1
    · replace h := cond_t b1 h
      refine S.condT rfl b1 ?_
      refine S.skip ?_
      refine S.seq ?_
      refine S.block ?_
      refine S.seq ?_
      refine S.region ?_
      refine SO.v rfl (opv_assign rfl) ?_
      refine SO.nil ?_
      refine S.seq ?_
      refine S.seq ?_
      refine S.region ?_
      refine SO.v rfl (opv_assign rfl) ?_
      refine SO.nil ?_
      obtain ⟨j5_e2, hlp2, h⟩ := opt_bind h
      refine S.addR JobsR.nil ?_
      refine S.b2 ?_
      refine S.b2 ?_
      refine S.b2 ?_
      refine S.to (ρ' := [(6, .int .i64 0), (5, .slice none 0 0), (4, .int .i64 x4_1), (3, v3_1), (2, .slice none 0 0), (0, v0)]) ⟨rfl, rfl, rfl, rfl, rfl, rfl, trivial⟩ ?_
      refine S.forloop (X := (Int × (List SV)) × Value) (O := (List SV)) (fun m x => law08_jobs.l2 vv x4_1 m x.1) (fun x => match x with | ((x6_2, x5_2), v5_2) => [(6, .int .i64 x6_2), (5, v5_2), (4, .int .i64 x4_1), (3, v3_1), (2, .slice none 0 0), (0, v0)]) (fun x => match x with | ((x6_2, x5_2), v5_2) => [JobsR v5_2 x5_2, FeedsR v3_1 x3_1, F]) (fun Sk => (fun j5_e2 => ∀ v5_e2 : Value, Sk [(0, v0), (2, .slice none 0 0), (3, v3_1), (4, .int .i64 x4_1), (5, v5_e2)] [JobsR v5_e2 j5_e2, FeedsR v3_1 x3_1, F])) (fun _ => rfl) ?_ (m := k) (x := ((0, []), .slice none 0 0)) hlp2 ?_
      · clear h hlp2
        intro k x o_2 h hK2 ih2
        obtain ⟨⟨x6_2, x5_2⟩, v5_2⟩ := x
        replace h : law08_jobs.l2 vv x4_1 (k + 1) (x6_2, x5_2) = some o_2 := h
        first | rw [law08_jobs.l2] at h | unfold law08_jobs.l2 at h
        refine S.seq ?_
        refine S.seq ?_
        refine S.region ?_
        refine SO.v rfl (opv_move rfl) ?_
        refine SO.v rfl (opv_move rfl) ?_
        refine SO.v rfl (opv_move rfl) ?_
        obtain ⟨x2, hx3, h⟩ := opt_bind h
        obtain ⟨y4, hy5, hr6⟩ := Rd2.at_ hl0 hR0 hx3
        refine SO.v rfl (opv_idx Try.underlying23 Try.sizeOf45 hF0 rfl rfl hy5) ?_
        refine SO.loadI1 (j := 0) rfl Try.isAgg45 (Rd.tail (Rd.tail (Rd.head hF0))) hy5 rfl rfl rfl rfl ?_
        refine SO.v rfl (opv_lenR rfl Try.underlying45 hr6 rfl) ?_
        refine SO.v rfl (opv_lss rfl rfl) ?_
        refine SO.nil ?_
        rcases bool_or (decide (x6_2 < (x2.length : Int))) with b7 | b7
        · replace h := cond_t b7 h
          refine S.condT rfl b7 ?_
          refine S.skip ?_
          refine S.seq ?_
          refine S.block ?_
          refine S.seq ?_
          refine S.region ?_
          refine SO.v rfl (opv_move rfl) ?_
          refine SO.v rfl (opv_move rfl) ?_
          obtain ⟨x8, hx9, h⟩ := opt_bind h
          obtain ⟨y10, hy11, hr12⟩ := Rd2.at_ hl0 hR0 hx9
          refine SO.v rfl (opv_idx Try.underlying23 Try.sizeOf45 hF0 rfl rfl hy11) ?_
          refine SO.loadI1 (j := 0) rfl Try.isAgg45 (Rd.tail (Rd.tail (Rd.head hF0))) hy11 rfl rfl rfl rfl ?_
          refine SO.v rfl (opv_move rfl) ?_
          obtain ⟨x13, hx14, h⟩ := opt_bind h
          refine SO.v rfl (opv_idx Try.underlying45 Try.sizeOf48 hr12 rfl rfl hx14) ?_
          refine SO.loadI1 (j := 0) rfl Try.isAgg48 (Rd.tail (Rd.tail (Rd.head hr12))) hx14 rfl rfl rfl rfl ?_
          refine SO.alloc rfl Try.zeroValue48 rfl (fun b15 => ?_)
          refine SO.store1 Try.sizeOf48 rfl rfl x13.2 rfl ?_
          refine SO.nil ?_
          refine S.to (ρ' := [(6, .int .i64 x6_2), (5, v5_2), (4, .int .i64 x4_1), (3, v3_1), (2, .slice none 0 0), (0, v0), (7, bp b15 0)]) ⟨rfl, rfl, rfl, rfl, rfl, rfl, rfl, trivial⟩ ?_
          refine S.region ?_
          refine SO.v rfl (opv_move rfl) ?_
          refine SO.v rfl (opv_makeFunc rfl rfl) ?_
          refine SO.buildSlice (K := (ekV jv22 jv22_one)) (xs := [b15]) (cs := [jv22 b15]) rfl Try.underlying59 Try.sizeOf69 Try.zeroValue69 rfl rfl rfl (by kernel_rfl) rfl rfl rfl (fun v16 hr17 => ?_)
          obtain ⟨zs20, hz21, h⟩ := opt_bind h
          refine SO.b1 ?_
          refine SO.b2 ?_
          refine SO.openJobs fun js18 hjs19 => ?_
          obtain ⟨hap23, hzs24⟩ := appJ (q := fun x => x.1) b15 hjs19 hz21
          refine SO.append (K := (ekV jv22 jv22_one)) rfl Try.underlying59 Try.underlying59 inf69_law08_jobs rfl rfl rfl (by decide) rfl rfl rfl (Rd.tail (Rd.tail (Rd.head hr17))) hap23 (fun v22 => ?_)
          refine SO.closeJobs (u := x13) ?_
          rw [← hzs24]
          refine SO.b1 ?_
          refine SO.drop ?_
          refine SO.v rfl (opv_assign rfl) ?_
          refine SO.nil ?_
          refine S.inBlock ?_
          refine S.region ?_
          refine SO.v rfl (opv_move rfl) ?_
          refine SO.v rfl (opv_add rfl rfl) ?_
          refine SO.v rfl (opv_assign rfl) ?_
          refine SO.nil ?_
          refine S.to (ρ' := [(6, .int .i64 (w64 (x6_2 + 1))), (5, v22), (4, .int .i64 x4_1), (3, v3_1), (2, .slice none 0 0), (0, v0)]) ⟨rfl, rfl, rfl, rfl, rfl, rfl, trivial⟩ ?_
          refine S.b2 ?_
          refine S.b2 ?_
          refine S.b2 ?_
          refine S.to ?_ (ih2 ((w64 (x6_2 + 1), zs20), v22) h)
          exact ⟨rfl, rfl, rfl, rfl, rfl, rfl, trivial⟩
        replace h := cond_f b7 h
        refine S.condF rfl b7 ?_
        refine S.exit rfl ?_
        cases h
        refine S.b2 ?_
        refine S.b2 ?_
        refine S.b2 ?_
        refine S.to ?_ (hK2 v5_2)
        exact ⟨rfl, rfl, rfl, rfl, rfl, trivial⟩
      rintro v5_e2
      refine S.region ?_
      refine SO.v rfl (opv_move rfl) ?_
      refine SO.v rfl (opv_move rfl) ?_
      obtain ⟨zs27, hz28, h⟩ := opt_bind h
      refine SO.openJobs fun js25 hjs26 => ?_
      refine SO.rd fun hr29 => ?_
      refine SO.call (pre := []) rfl Try.call19 rfl rfl rfl (stm_List.ct jv22 jv22_one v5_e2 (js25.map (·.1)) _ (listJ hjs26 hz28)) (Rd.head hr29) ?_
      rintro _ _ ⟨b30, v31, rfl, rfl⟩
      refine SO.b2 ?_
      refine SO.drop ?_
      refine SO.packF8 ?_
      refine SO.buildSlice (K := (ekV fv39 fv39_one)) (xs := [b30]) (cs := [fv39 b30]) rfl Try.underlying35 Try.sizeOf56 Try.zeroValue56 rfl rfl rfl (by kernel_rfl) rfl rfl rfl (fun v32 hr33 => ?_)
      obtain ⟨zs36, hz37, h⟩ := opt_bind h
      refine SO.b1 ?_
      refine SO.b2 ?_
      refine SO.openFeeds fun js34 hjs35 => ?_
      obtain ⟨hap39, hzs40⟩ := appJ (q := fun x => x.fb) b30 hjs35 hz37
      refine SO.append (K := (ekV fv39 fv39_one)) rfl Try.underlying35 Try.underlying35 inf56_law08_jobs rfl rfl rfl (by decide) rfl rfl rfl (Rd.tail (Rd.tail (Rd.head hr33))) hap39 (fun v38 => ?_)
      refine SO.closeFeeds (x := ⟨b30, v31, js25⟩) hjs26 ?_
      rw [← hzs40]
      refine SO.b1 ?_
      refine SO.drop ?_
      refine SO.v rfl (opv_assign rfl) ?_
      refine SO.nil ?_
      refine S.inBlock ?_
      refine S.region ?_
      refine SO.v rfl (opv_move rfl) ?_
      refine SO.v rfl (opv_add rfl rfl) ?_
      refine SO.v rfl (opv_assign rfl) ?_
      refine SO.nil ?_
      refine S.to (ρ' := [(0, v0), (2, .slice none 0 0), (3, v38), (4, .int .i64 (w64 (x4_1 + 1)))]) ⟨rfl, rfl, rfl, rfl, trivial⟩ ?_
      refine S.b1 ?_
      refine S.b1 ?_
      refine S.to ?_ (ih1 ((w64 (x4_1 + 1), zs36), v38) h)
      exact ⟨rfl, rfl, rfl, rfl, trivial⟩
    replace h := cond_f b1 h
    refine S.condF rfl b1 ?_
    refine S.exit rfl ?_
    cases h
    refine S.b1 ?_
    refine S.b1 ?_
    refine S.to ?_ (hK1 v3_1)
    exact ⟨rfl, rfl, trivial⟩
  rintro v3_e1
  refine S.seq ?_
  refine S.region ?_
  refine SO.v rfl (opv_move rfl) ?_
  refine SO.v rfl (opv_assign rfl) ?_
  refine SO.nil ?_
  cases h
  refine S.b1 ?_
  refine S.b1 ?_
  exact S.ret1 Try.func9 rfl rfl (fun w hs hk => hR w _ _ ⟨v3_e1, rfl, rfl⟩ hs hk)
end Go.Proofs
set_option linter.unusedVariables false
namespace Go.Proofs
open Go.Sl Go.RowKit
/-! The jobs and feeds of law08.up. -/
def jvU (_ : Unit) : Value := .func (.func 20) #[] #[]
theorem jvU_one (a : Unit) : (jvU a).oneCell' = true := rfl
def FUR (x : Nat × Value) : HProp := stars [Box x.1 [x.2], Own 69 (ekV jvU jvU_one) x.2 [()]]
def RU (G : List (Nat × Value)) : HProp := stars (G.map FUR)
def fdU (_ : Nat) (t : List Int) : Option Unit := [()][t.length]?
def fwU (G : List (Nat × Value)) : FW where
  ι := Unit
  σ := Unit
  n := G.length
  fv := fun i => fv39 ((G[i]?.map (·.1)).getD 0)
  JR := fun _ v => fun _ => v = jvU ()
  jm := fun _ => law08_add.f
  rdJ := fun _ => True
  R := fun _ => RU G
  fd := fun _ => fdU
  mono := fun _ _ _ => trivial
  ffn := fun i => ⟨_, [bp _ 0], rfl⟩
  fok := fun i hi => by
    have hx : G[i]? = some G[i] := List.getElem?_eq_getElem hi
    refine ⟨39, [bp G[i].1 0], by simp [hx, fv39], Try.call39, fun _ v t w F hF hs => ?_⟩
    have hp1 : (G.map FUR)[i]? = some (FUR G[i]) := by simp [hx]
    have hs := Sat.pickS hp1 hs
    have hs := Sat.flat (l := [Box G[i].1 [G[i].2], Own 69 (ekV jvU jvU_one) G[i].2 [()]]) hs
    refine (Ct.use (l := [stars ((G.map FUR).eraseIdx i), F]) (stm_List1.ct jvU jvU_one v G[i].2 G[i].1 t [()] _ (list1_ok t _)) hs (Rd.tail (Rd.head hF))).mono ?_
    rintro e w' ⟨u, H', rfl, ⟨hu, rfl⟩, hs2, hk⟩
    refine ⟨u, _, rfl, rfl, ?_, hk⟩
    have hs3 : Sat w' (RU G :: [F]) := Sat.unpickS hp1 (Sat.unflat (l := [_, _]) hs2)
    have hpure : tells (fun (_ : Unit) v => fun _ => v = jvU ()) (fdU i t) u (fun _ => none) := by
      unfold fdU
      cases h : ([()] : List Unit)[t.length]? with
      | none => rw [h] at hu; exact hu
      | some z => rw [h] at hu; exact ⟨⟨_, [], hu⟩, hu⟩
    exact sat_emp hpure hs3
  jok := fun ops v m hm => by
    have hv : v = jvU () := hm
    subst hv
    refine ⟨_, [], rfl, Try.call20, fun _ V s s' a hrun w F hF hs => ?_⟩
    have hs : Sat w [(fun (_ : PH) => jvU () = jvU ()), RU G, V.rep s, F] := hs
    replace hs := Sat.re hs [2, 0, 1, 3] (by kernel_rfl)
    simp only [List.map_cons, List.map_nil, List.getD_cons_zero, List.getD_cons_succ, List.cons_append, List.nil_append] at hs
    refine (Ct.use (pre := [_]) (l := [_, _, F]) (law08_add.ct V a s s' hrun) hs trivial).mono ?_
    rintro e w' ⟨u, H', rfl, ⟨rfl, rfl⟩, hs2, hk⟩
    refine ⟨_, _, rfl, ⟨rfl, rfl⟩, ?_, hk⟩
    replace hs2 := Sat.re hs2 [2, 0, 3] (by kernel_rfl)
    simp only [List.map_cons, List.map_nil, List.getD_cons_zero, List.getD_cons_succ, List.cons_append, List.nil_append] at hs2
    exact sat_emp (A := fun _ => jvU () = jvU ()) rfl hs2

end Go.Proofs
set_option linter.unusedVariables false
namespace Go.Proofs
open Go.Sl Go.RowKit
/-! Three levels, told by the values of the second. -/
theorem Rd3.vv {α : Type} {K : EK α} {v : Value} {l : List (List (List α))} {F : HProp} (h : Rd3 K v l F) : ∃ vv : List (List SV), Rd2 ekS v vv F ∧ vv.length = l.length ∧
    ∀ (i : Nat) (row : List SV) (os : List (List α)), vv[i]? = some row → l[i]? = some os → row.length = os.length ∧ ∀ (j : Nat) (y : SV) (ops : List α), row[j]? = some y → os[j]? = some ops → Rd K y.1 ops F := by
  obtain ⟨vs, h1, h2, h3⟩ := h
  have key : ∀ i : Nat, ∃ ws : List SV, ∀ (x : SV) (os : List (List α)), vs[i]? = some x → l[i]? = some os → Rd ekS x.1 ws F ∧ ws.length = os.length ∧ ∀ (j : Nat) (y : SV) (ops : List α), ws[j]? = some y → os[j]? = some ops → Rd K y.1 ops F := fun i => by
    cases e1 : vs[i]? with
    | none => exact ⟨[], fun x os e => by cases e⟩
    | some x =>
      cases e2 : l[i]? with
      | none => exact ⟨[], fun x os _ e => by cases e⟩
      | some os =>
        obtain ⟨ws, a, b, c⟩ := h3 i x os e1 e2
        exact ⟨ws, fun x' os' q1 q2 => by cases q1; cases q2; exact ⟨a, b, c⟩⟩
  have hget : ∀ (i : Nat) (row : List SV), ((List.range l.length).map fun i => Classical.choose (key i))[i]? = some row → row = Classical.choose (key i) := fun i row e => by
    rw [List.getElem?_map] at e
    cases q : (List.range l.length)[i]? with
    | none => rw [q] at e; cases e
    | some n =>
      rw [q] at e
      have hn : n = i := by
        obtain ⟨q1, q2⟩ := List.getElem?_eq_some_iff.1 q
        simpa using q2.symm
      subst hn
      exact ((Option.some.inj e)).symm
  have hlv : vs.length = l.length := h2
  refine ⟨(List.range l.length).map fun i => Classical.choose (key i), ⟨vs, h1, by simpa using hlv, fun i x row e1 e2 => ?_⟩, by simp, fun i row os e1 e2 => ?_⟩
  · have hi : i < l.length := by have := (List.getElem?_eq_some_iff.1 e1).1; omega
    rw [hget i row e2]
    exact (Classical.choose_spec (key i) x l[i] e1 (List.getElem?_eq_getElem hi)).1
  · have hi : i < l.length := (List.getElem?_eq_some_iff.1 e2).1
    rw [hget i row e1]
    exact (Classical.choose_spec (key i) (vs[i]'(by omega)) os (List.getElem?_eq_getElem (by omega)) e2).2
theorem Rd.recode {α β : Type} {K : EK α} {K' : EK β} {v : Value} {xs : List α} {ys : List β} {A : HProp} (hs : K'.sz = K.sz) (hl : ys.length = xs.length) (he : ∀ (i : Nat) (x : α) (y : β), xs[i]? = some x → ys[i]? = some y → K'.enc y = K.enc x) (h : Rd K v xs A) : Rd K' v ys A := by
  obtain ⟨a, cap, ⟨hv, hc⟩, h⟩ := h
  refine ⟨a, cap, ⟨by rw [hl]; exact hv, by rw [hl]; exact hc⟩, fun i y hy => ?_⟩
  have hi : i < xs.length := by have := (List.getElem?_eq_some_iff.1 hy).1; omega
  obtain ⟨b, off, ha, h⟩ := h i xs[i] (List.getElem?_eq_getElem hi)
  refine ⟨b, off, ha, fun m hm => ?_⟩
  obtain ⟨all, E, fr, h1, h2⟩ := h m hm
  refine ⟨all, E, fr, h1, fun j hj => ?_⟩
  rw [hs] at hj ⊢
  rw [he i xs[i] y (List.getElem?_eq_getElem hi) hy]
  exact h2 j hj
/-- The feeds' row, by their numbers. -/
theorem feeds_rd (W : FW) (bs : List Nat) (hfv : ∀ (i b : Nat), bs[i]? = some b → W.fv i = fv39 b) {v : Value} {A : HProp} (h : Rd (ekV fv39 fv39_one) v bs A) : Rd (ekV W.fv W.one) v (List.range bs.length) A :=
  Rd.recode (K := ekV fv39 fv39_one) (K' := ekV W.fv W.one) (xs := bs) rfl (by simp) (fun i b y e1 e2 => by
    obtain ⟨q1, q2⟩ := List.getElem?_eq_some_iff.1 e2
    have : y = i := by simpa using q2.symm
    subst this
    show [W.fv y] = [fv39 b]
    rw [hfv y b e1]) h

end Go.Proofs
set_option linter.unusedVariables false
namespace Go.Proofs
open Go.Sl Go.RowKit
/-! What the laws ask of a machine, in plain words. -/
theorem join_some {α : Type} {x : Option (Option α)} {a : α} (h : (x.bind fun r => r) = some a) : x = some (some a) := by
  obtain ⟨y, e, q⟩ := opt_bind h
  rw [e, q]
/-- The store, beside all else of a machine. -/
def McH (W : FW) (bpm bps : Nat) (M : Mc W.ι) : HProp := fun m => ∃ zb ws vl va vg, zb.length = M.el.length ∧ zb.length = M.dl.length ∧ ws.length = M.l.length ∧
  stars [Box bpm [bp bps 0, vl, va, vg], Own 68 ekP vl ws, Own 105 ekMd va (zb.zip M.el), ZipR rep_desc_Desc zb M.dl, Own 44 ek_stm_Entry vg M.log, ZipR (WkR W zb) ws M.l] m
theorem McR.st {W : FW} {bpm bps : Nat} {M : Mc W.ι} {s : word_Store} {w : World} {H : List HProp} (h : Sat w (McR W bpm bps M s :: H)) : ∃ vs, Sat w (Box bps [vs, .int .u32 s.limit] :: Own 88 ek_api_Cell vs s.l :: McH W bpm bps M :: H) := by
  obtain ⟨zb, ws, vl, va, vg, vs, h1, h2, h3, hs⟩ := McR.open (H := H) h
  refine ⟨vs, ?_⟩
  have hs2 : Sat w ([Box bpm [bp bps 0, vl, va, vg], Own 68 ekP vl ws, Own 105 ekMd va (zb.zip M.el), ZipR rep_desc_Desc zb M.dl, Own 44 ek_stm_Entry vg M.log, Box bps [vs, .int .u32 s.limit], Own 88 ek_api_Cell vs s.l, ZipR (WkR W zb) ws M.l, stars H]) := Sat.pack (l1 := [_, _, _, _, _, _, _, _]) hs
  replace hs2 := Sat.re hs2 [5, 6, 0, 1, 2, 3, 4, 7, 8] (by kernel_rfl)
  simp only [List.map_cons, List.map_nil, List.getD_cons_zero, List.getD_cons_succ, List.cons_append, List.nil_append] at hs2
  obtain ⟨m1, m2, d, s1, s2, a, r⟩ := hs2
  obtain ⟨n1, n2, e, t1, t2, b, r⟩ := r
  refine ⟨m1, m2, d, s1, s2, a, n1, n2, e, t1, t2, b, ?_⟩
  obtain ⟨p1, p2, f, u1, u2, c, r⟩ := (stars_append [_, _, _, _, _, _] [stars H] n2).1 r
  obtain ⟨q1, q2, _, v1, _, x, _⟩ := r
  exact ⟨p1, p2, f, u1, u2, ⟨zb, ws, vl, va, vg, h1, h2, h3, c⟩, stars_mono _ v1 x⟩
theorem McR.unst {W : FW} {bpm bps : Nat} {M : Mc W.ι} {s : word_Store} {vs : Value} {w : World} {H : List HProp} (h : Sat w (Box bps [vs, .int .u32 s.limit] :: Own 88 ek_api_Cell vs s.l :: McH W bpm bps M :: H)) : Sat w (McR W bpm bps M s :: H) := by
  have h2 : Sat w ([Box bps [vs, .int .u32 s.limit], Own 88 ek_api_Cell vs s.l, McH W bpm bps M] ++ H) := h
  obtain ⟨m1, m2, d, s1, s2, a, r⟩ := (stars_append _ H (hp w)).1 h2
  obtain ⟨n1, n2, e, t1, t2, b, n3, n4, f, u1, u2, c, n5, _, _, v1, _, ⟨zb, ws, vl, va, vg, q1, q2, q3, x⟩, _⟩ := a
  refine ⟨m1, m2, d, s1, s2, ⟨zb, ws, vl, va, vg, vs, q1, q2, q3, ?_⟩, r⟩
  have h3 : stars ([Box bps [vs, .int .u32 s.limit], Own 88 ek_api_Cell vs s.l] ++ [Box bpm [bp bps 0, vl, va, vg], Own 68 ekP vl ws, Own 105 ekMd va (zb.zip M.el), ZipR rep_desc_Desc zb M.dl, Own 44 ek_stm_Entry vg M.log, ZipR (WkR W zb) ws M.l]) m1 :=
    ⟨n1, n2, e, t1, t2, b, n3, n4, f, u1, u2, c, stars_mono _ v1 x⟩
  exact stars_perm (perm_idx _ (fun _ => True) [2, 3, 4, 5, 6, 0, 1, 7] rfl) h3
theorem stm_Values.mc (W : FW) (k bpm bps : Nat) (M : Mc W.ι) (s : word_Store) (rl : List Int) (h : word_Store_Values.f k s = some rl) :
    Ct Try.prog 15 [bp bps 0] (fun _ => True) [McR W bpm bps M s] (fun u H' => ∃ vr, u = vr ∧ H' = [Own 46 (ekI .u64) vr rl, McR W bpm bps M s]) := by
  intro w F hF hs
  obtain ⟨vs, hs⟩ := McR.st hs
  refine (Ct.use (pre := [_, _]) (l := [_, F]) (word_Store_Values.ct k bps vs s rl h) hs trivial).mono ?_
  rintro e w' ⟨u, H', rfl, ⟨vr, rfl, rfl⟩, hs2, hk⟩
  refine ⟨_, _, rfl, ⟨_, rfl, rfl⟩, ?_, hk⟩
  replace hs2 := Sat.re hs2 [1, 2, 3, 0, 4] (by kernel_rfl)
  simp only [List.map_cons, List.map_nil, List.getD_cons_zero, List.getD_cons_succ, List.cons_append, List.nil_append] at hs2
  have hs3 := McR.unst hs2
  replace hs3 := Sat.re hs3 [1, 0, 2] (by kernel_rfl)
  simp only [List.map_cons, List.map_nil, List.getD_cons_zero, List.getD_cons_succ, List.cons_append, List.nil_append] at hs3
  exact hs3
theorem stm_marks.mc (W : FW) (k bpm bps : Nat) (M : Mc W.ι) (s : word_Store) (r : Int) (h : law08_marks.f k s = some r) :
    Ct Try.prog 17 [bp bps 0] (fun _ => True) [McR W bpm bps M s] (fun u H' => u = .int .i64 r ∧ H' = [McR W bpm bps M s]) := by
  intro w F hF hs
  obtain ⟨vs, hs⟩ := McR.st hs
  refine (Ct.use (pre := [_, _]) (l := [_, F]) (law08_marks.ct k bps vs s r h) hs trivial).mono ?_
  rintro e w' ⟨u, H', rfl, ⟨rfl, rfl⟩, hs2, hk⟩
  exact ⟨_, _, rfl, ⟨rfl, rfl⟩, McR.unst hs2, hk⟩
def newN (k n : Nat) : Option (List Nat) := (stm_New.f k (fun _ => false) (List.range n)).bind fun r => r.bind fun ls => bif ls.all (fun i => decide (i < n)) then some ls else none
theorem newN_some {k n : Nat} {ls : List Nat} (h : newN k n = some ls) : stm_New.f k (fun _ => false) (List.range n) = some (some ls) ∧ ∀ i ∈ ls, i < n := by
  unfold newN at h
  obtain ⟨r, e, h⟩ := opt_bind h
  obtain ⟨l2, e2, h⟩ := opt_bind h
  obtain ⟨c, h⟩ := cond_opt h
  cases h
  rw [e2] at e
  exact ⟨e, fun i hi => by simpa using List.all_eq_true.1 c i hi⟩
def toldsOk {ι : Type} (M : Mc ι) : Bool := M.l.all fun x => (stm_next_n.f x.told).isSome
theorem toldsOk_spec {ι : Type} {M : Mc ι} (h : toldsOk M = true) : ∀ x ∈ M.l, stm_next_n.f x.told = some () := fun x hx => by
  have := List.all_eq_true.1 h x hx
  cases e : stm_next_n.f x.told with
  | none => rw [e] at this; cases this
  | some u => rfl
def idlesM {ι : Type} (fd : Nat → List Int → Option ι) (k : Nat) (M : Mc ι) : Option Bool := bif toldsOk M then stm_Idle.f k (idleM fd) M.l else none
/-- How law08's jobs and feeds lie. -/
structure K8 (l : List (List (List law06_Op))) (jm : List law06_Op → VM Int) where
  k : Nat
  G : List F8
  h1 : G.length = l.length
  h2 : ∀ (i : Nat) (x : F8) (os : List (List law06_Op)), G[i]? = some x → l[i]? = some os → x.js.length = os.length
  hjm : law08_jobs_1.f k = jm
def K8.fw {l : List (List (List law06_Op))} {jm : List law06_Op → VM Int} (g : K8 l jm) : FW := fw8 g.k g.G l g.h1 g.h2
structure KU where
  G : List (Nat × Value)
def KU.fw (g : KU) : FW := fwU g.G
theorem mkK8 {l : List (List (List law06_Op))} {vv : List (List SV)} {F : HProp} {jm : List law06_Op → VM Int} {k : Nat} (hl : vv.length = l.length)
    (hR : ∀ (i : Nat) (row : List SV) (os : List (List law06_Op)), vv[i]? = some row → l[i]? = some os → row.length = os.length ∧ ∀ (j : Nat) (y : SV) (ops : List law06_Op), row[j]? = some y → os[j]? = some ops → Rd ek_law06_Op y.1 ops F)
    (hjm : some (law08_jobs_1.f k) = some jm) (G : List F8) (hG : G.map (fun x => x.js.map (·.2)) = vv) : ∃ g : K8 l jm, g.G = G ∧ rd8 G l F := by
  have hget : ∀ (i : Nat) (x : F8), G[i]? = some x → vv[i]? = some (x.js.map (·.2)) := fun i x e => by rw [← hG, List.getElem?_map, e]; rfl
  refine ⟨⟨k, G, by rw [← hl, ← hG, List.length_map], fun i x os e1 e2 => ?_, Option.some.inj hjm⟩, rfl, fun i j x y os ops e1 e2 e3 e4 => ?_⟩
  · have := (hR i _ os (hget i x e1) e2).1
    simpa using this
  · exact (hR i _ os (hget i x e1) e3).2 j y.2 ops (by rw [List.getElem?_map, e2]; rfl) e4

def M8 {l : List (List (List law06_Op))} {jm : List law06_Op → VM Int} (g : K8 l jm) (bm bps : Nat) (X : Mc (List law06_Op) × word_Store) : HProp := McR g.fw bm bps X.1 X.2
theorem step8.ct {l : List (List (List law06_Op))} {jm : List law06_Op → VM Int} (g : K8 l jm) (k bm bps : Nat) (X : Mc (List law06_Op) × word_Store) (r : Bool) (M : Mc (List law06_Op)) (s : word_Store) (id : Int) (h : stepM jm (fd8 l) k X.1 X.2 id = some (r, M, s)) :
    Ct Try.prog 10 [bp bm 0, .int .i64 id] (rd8 g.G l) [M8 g bm bps X, R8 g.G] (fun u H' => u = .bool r ∧ H' = [M8 g bm bps (M, s), R8 g.G]) :=
  stm_Step.ct g.fw () k bm bps X.1 M X.2 s id r (by rw [← g.hjm] at h; exact h)
theorem busy8.ct {l : List (List (List law06_Op))} {jm : List law06_Op → VM Int} (g : K8 l jm) (bm bps : Nat) (X : Mc (List law06_Op) × word_Store) (r : Bool) (id : Int) (h : busyM X.1 id = some r) :
    Ct Try.prog 21 [bp bm 0, .int .i64 id] (fun _ => True) [M8 g bm bps X] (fun u H' => u = .bool r ∧ H' = [M8 g bm bps X]) :=
  stm_Busy.mc g.fw bm bps X.1 X.2 id r h
theorem told8.ct {l : List (List (List law06_Op))} {jm : List law06_Op → VM Int} (g : K8 l jm) (bm bps : Nat) (X : Mc (List law06_Op) × word_Store) (r : List Int) (id : Int) (h : toldM X.1 id = some r) :
    Ct Try.prog 14 [bp bm 0, .int .i64 id] (fun _ => True) [M8 g bm bps X] (fun u H' => ∃ vr, u = vr ∧ H' = [Own 3 (ekI .i64) vr r, M8 g bm bps X]) :=
  stm_Told.mc g.fw bm bps X.1 X.2 id r h
theorem log8.ct {l : List (List (List law06_Op))} {jm : List law06_Op → VM Int} (g : K8 l jm) (bm bps : Nat) (X : Mc (List law06_Op) × word_Store) (r : List stm_Entry) (h : stm_Machine_Log.f X.1.log = some r) :
    Ct Try.prog 12 [bp bm 0] (fun _ => True) [M8 g bm bps X] (fun u H' => ∃ vr, u = vr ∧ H' = [Own 44 ek_stm_Entry vr r, M8 g bm bps X]) :=
  stm_Log.mc g.fw bm bps X.1 X.2 r h
theorem idle8.ct {l : List (List (List law06_Op))} {jm : List law06_Op → VM Int} (g : K8 l jm) (k bm bps : Nat) (X : Mc (List law06_Op) × word_Store) (r : Bool) (h : idlesM (fd8 l) k X.1 = some r) :
    Ct Try.prog 18 [bp bm 0] (fun _ => True) [M8 g bm bps X, R8 g.G] (fun u H' => u = .bool r ∧ H' = [M8 g bm bps X, R8 g.G]) := by
  unfold idlesM at h
  obtain ⟨h0, h⟩ := cond_opt h
  exact stm_Idle.mc g.fw () k bm bps X.1 X.2 r (toldsOk_spec h0) h
theorem values8.ct {l : List (List (List law06_Op))} {jm : List law06_Op → VM Int} (g : K8 l jm) (k bm bps : Nat) (X : Mc (List law06_Op) × word_Store) (r : List Int) (h : word_Store_Values.f k X.2 = some r) :
    Ct Try.prog 15 [bp bps 0] (fun _ => True) [M8 g bm bps X] (fun u H' => ∃ vr, u = vr ∧ H' = [Own 46 (ekI .u64) vr r, M8 g bm bps X]) :=
  stm_Values.mc g.fw k bm bps X.1 X.2 r h
theorem marks8.ct {l : List (List (List law06_Op))} {jm : List law06_Op → VM Int} (g : K8 l jm) (k bm bps : Nat) (X : Mc (List law06_Op) × word_Store) (r : Int) (h : law08_marks.f k X.2 = some r) :
    Ct Try.prog 17 [bp bps 0] (fun _ => True) [M8 g bm bps X] (fun u H' => u = .int .i64 r ∧ H' = [M8 g bm bps X]) :=
  stm_marks.mc g.fw k bm bps X.1 X.2 r h
theorem new8.ct {l : List (List (List law06_Op))} {jm : List law06_Op → VM Int} (g : K8 l jm) (k bps : Nat) (vs vf : Value) (s : word_Store) (ls : List Nat) (h : newN k l.length = some ls) :
    Ct Try.prog 8 [bp bps 0, vf] (fun F => Rd (ekV fv39 fv39_one) vf (g.G.map (·.fb)) F) [Box bps [vs, .int .u32 s.limit], Own 88 ek_api_Cell vs s.l] (fun u H' => ∃ b, u = .tuple #[bp b 0, errV 60 none] ∧ H' = [M8 g b bps (newM (List law06_Op) ls, s)]) := by
  intro w F hF hs
  obtain ⟨q1, q2⟩ := newN_some h
  have e : (g.G.map (·.fb)).length = l.length := by rw [List.length_map]; exact g.h1
  refine stm_New.mc g.fw k bps vs vf s (List.range l.length) ls (fun i hi => ?_) q1 w F ?_ hs
  · have := q2 i hi
    show i < g.G.length
    rw [g.h1]; exact this
  · have q := feeds_rd g.fw (g.G.map (·.fb)) (fun i b hb => ?_) hF
    · rw [e] at q; exact q
    · rw [List.getElem?_map] at hb
      show fv39 ((g.G[i]?.map _).getD 0) = fv39 b
      rw [hb]; rfl

def MU (g : KU) (bm bps : Nat) (X : Mc Unit × word_Store) : HProp := McR g.fw bm bps X.1 X.2
theorem stepU.ct (g : KU) (k bm bps : Nat) (X : Mc Unit × word_Store) (r : Bool) (M : Mc Unit) (s : word_Store) (id : Int) (h : stepM (fun _ => law08_add.f) fdU k X.1 X.2 id = some (r, M, s)) :
    Ct Try.prog 10 [bp bm 0, .int .i64 id] (fun _ => True) [MU g bm bps X, RU g.G] (fun u H' => u = .bool r ∧ H' = [MU g bm bps (M, s), RU g.G]) :=
  stm_Step.ct g.fw () k bm bps X.1 M X.2 s id r (by exact h)
theorem busyU.ct (g : KU) (bm bps : Nat) (X : Mc Unit × word_Store) (r : Bool) (id : Int) (h : busyM X.1 id = some r) :
    Ct Try.prog 21 [bp bm 0, .int .i64 id] (fun _ => True) [MU g bm bps X] (fun u H' => u = .bool r ∧ H' = [MU g bm bps X]) :=
  stm_Busy.mc g.fw bm bps X.1 X.2 id r h
theorem toldU.ct (g : KU) (bm bps : Nat) (X : Mc Unit × word_Store) (r : List Int) (id : Int) (h : toldM X.1 id = some r) :
    Ct Try.prog 14 [bp bm 0, .int .i64 id] (fun _ => True) [MU g bm bps X] (fun u H' => ∃ vr, u = vr ∧ H' = [Own 3 (ekI .i64) vr r, MU g bm bps X]) :=
  stm_Told.mc g.fw bm bps X.1 X.2 id r h
theorem logU.ct (g : KU) (bm bps : Nat) (X : Mc Unit × word_Store) (r : List stm_Entry) (h : stm_Machine_Log.f X.1.log = some r) :
    Ct Try.prog 12 [bp bm 0] (fun _ => True) [MU g bm bps X] (fun u H' => ∃ vr, u = vr ∧ H' = [Own 44 ek_stm_Entry vr r, MU g bm bps X]) :=
  stm_Log.mc g.fw bm bps X.1 X.2 r h
theorem idleU.ct (g : KU) (k bm bps : Nat) (X : Mc Unit × word_Store) (r : Bool) (h : idlesM fdU k X.1 = some r) :
    Ct Try.prog 18 [bp bm 0] (fun _ => True) [MU g bm bps X, RU g.G] (fun u H' => u = .bool r ∧ H' = [MU g bm bps X, RU g.G]) := by
  unfold idlesM at h
  obtain ⟨h0, h⟩ := cond_opt h
  exact stm_Idle.mc g.fw () k bm bps X.1 X.2 r (toldsOk_spec h0) h
theorem valuesU.ct (g : KU) (k bm bps : Nat) (X : Mc Unit × word_Store) (r : List Int) (h : word_Store_Values.f k X.2 = some r) :
    Ct Try.prog 15 [bp bps 0] (fun _ => True) [MU g bm bps X] (fun u H' => ∃ vr, u = vr ∧ H' = [Own 46 (ekI .u64) vr r, MU g bm bps X]) :=
  stm_Values.mc g.fw k bm bps X.1 X.2 r h
theorem marksU.ct (g : KU) (k bm bps : Nat) (X : Mc Unit × word_Store) (r : Int) (h : law08_marks.f k X.2 = some r) :
    Ct Try.prog 17 [bp bps 0] (fun _ => True) [MU g bm bps X] (fun u H' => u = .int .i64 r ∧ H' = [MU g bm bps X]) :=
  stm_marks.mc g.fw k bm bps X.1 X.2 r h
theorem newU.ct (g : KU) (k bps : Nat) (vs vf : Value) (s : word_Store) (ls : List Nat) (h : newN k g.G.length = some ls) :
    Ct Try.prog 8 [bp bps 0, vf] (fun F => Rd (ekV fv39 fv39_one) vf (g.G.map (·.1)) F) [Box bps [vs, .int .u32 s.limit], Own 88 ek_api_Cell vs s.l] (fun u H' => ∃ b, u = .tuple #[bp b 0, errV 60 none] ∧ H' = [MU g b bps (newM Unit ls, s)]) := by
  intro w F hF hs
  obtain ⟨q1, q2⟩ := newN_some h
  have e : (g.G.map (·.1)).length = g.G.length := by rw [List.length_map]
  refine stm_New.mc g.fw k bps vs vf s (List.range g.G.length) ls (fun i hi => ?_) q1 w F ?_ hs
  · have := q2 i hi
    show i < g.G.length
    exact this
  · have q := feeds_rd g.fw (g.G.map (·.1)) (fun i b hb => ?_) hF
    · rw [e] at q; exact q
    · rw [List.getElem?_map] at hb
      show fv39 ((g.G[i]?.map _).getD 0) = fv39 b
      rw [hb]; rfl

theorem end8.ct {l : List (List (List law06_Op))} {jm : List law06_Op → VM Int} (g : K8 l jm) (k bm bps : Nat) (X rX : Mc (List law06_Op) × word_Store) (workers many : Int) (r : Bool) (h : law08_end.f k jm (fd8 l) workers many X = some (r, rX)) :
    Ct Try.prog 11 [bp bm 0, .int .i64 workers, .int .i64 many] (rd8 g.G l) [M8 g bm bps X, R8 g.G] (fun u H' => u = .bool r ∧ H' = [M8 g bm bps rX, R8 g.G]) :=
  law08_end.ct k g.fw () bm bps jm (fd8 l) g.hjm rfl workers many X rX r h
theorem app_le {α : Type} (xs ys : List α) (h : xs.length + ys.length ≤ 1000) : app xs ys = some (xs ++ ys) := by
  unfold app; rw [decide_eq_true (by omega)]; rfl
theorem w64_sm {i : Int} (h1 : 0 ≤ i) (h2 : i ≤ 100000) : w64 i = i := w64_id (by omega) (by omega)
theorem jobs_l2 (vv : List (List SV)) (i : Nat) (row : List SV) (h : vv[i]? = some row) (hl : row.length ≤ 100) : ∀ (k j : Nat), j ≤ row.length → row.length - j < k → law08_jobs.l2 vv i k ((j : Int), row.take j) = some row := by
  have ha : at_ vv (i : Int) = some row := at_of (by omega) (by simpa using h)
  intro k
  induction k with
  | zero => intro j _ h; omega
  | succ k ih =>
    intro j hj hk
    unfold law08_jobs.l2
    rw [ha, Option.bind_some]
    by_cases c : j < row.length
    · rw [decide_eq_true (by omega), cond_true, Option.bind_some]
      have h1 : at_ row (j : Int) = some row[j] := at_of (by omega) (by simp [c])
      rw [h1, Option.bind_some, app_le _ _ (by simp; omega), Option.bind_some, w64_sm (by omega) (by omega)]
      have := ih (j + 1) (by omega) (by omega)
      rw [show row.take j ++ [row[j]] = row.take (j + 1) from by simp]
      exact_mod_cast this
    · rw [decide_eq_false (by omega), cond_false]
      rw [List.take_of_length_le (by omega)]
theorem jobs_l1 (vv : List (List SV)) (hv : vv.length ≤ 100) (hr : ∀ row ∈ vv, row.length ≤ 100) : ∀ (k i : Nat), i ≤ vv.length → vv.length - i + 101 < k → law08_jobs.l1 vv k ((i : Int), vv.take i) = some vv := by
  intro k
  induction k with
  | zero => intro i _ h; omega
  | succ k ih =>
    intro i hi hk
    unfold law08_jobs.l1
    by_cases c : i < vv.length
    · have hx : vv[i]? = some vv[i] := List.getElem?_eq_getElem c
      have hrow := hr vv[i] (List.getElem_mem c)
      rw [decide_eq_true (by omega), cond_true]
      have h0 := jobs_l2 vv i vv[i] hx hrow k 0 (by omega) (by omega)
      rw [List.take_zero] at h0
      have h0 : law08_jobs.l2 vv (i : Int) k (0, []) = some vv[i] := h0
      rw [h0, Option.bind_some, app_le _ _ (by simpa using by omega), Option.bind_some, app_le _ _ (by simp; omega), Option.bind_some, w64_sm (by omega) (by omega)]
      have := ih (i + 1) (by omega) (by omega)
      rw [show vv.take i ++ [vv[i]] = vv.take (i + 1) from by simp]
      exact_mod_cast this
    · rw [decide_eq_false (by omega), cond_false, List.take_of_length_le (by omega)]
theorem jobs_ok (vv : List (List SV)) (hv : vv.length ≤ 100) (hr : ∀ row ∈ vv, row.length ≤ 100) (k : Nat) (hk : 300 < k) : law08_jobs.f k vv = some vv := by
  unfold law08_jobs.f
  have := jobs_l1 vv hv hr k 0 (by omega) (by omega)
  rw [List.take_zero] at this
  have : law08_jobs.l1 vv k (0, []) = some vv := this
  rw [this]; rfl

def jobsOk (k : Nat) (l : List (List (List law06_Op))) : Bool := decide (300 < k) && decide (l.length ≤ 100) && l.all fun r => decide (r.length ≤ 100)
theorem jobs8.ct {l : List (List (List law06_Op))} {vv : List (List SV)} (hl : vv.length = l.length) (hrow : ∀ (i : Nat) (row : List SV) (os : List (List law06_Op)), vv[i]? = some row → l[i]? = some os → row.length = os.length) (k : Nat) (v0 : Value) (h : jobsOk k l = true) :
    Ct Try.prog 9 [v0] (fun F => Rd2 ekS v0 vv F) [] (fun u H' => ∃ vf, u = vf ∧ H' = [FeedsR vf vv]) := by
  unfold jobsOk at h
  simp only [Bool.and_eq_true, decide_eq_true_eq, List.all_eq_true] at h
  obtain ⟨⟨h1, h2⟩, h3⟩ := h
  refine law08_jobs.ct k v0 vv vv (jobs_ok vv (by omega) (fun row hrow' => ?_) k h1)
  obtain ⟨i, hi, e⟩ := List.mem_iff_getElem.1 hrow'
  have hi2 : i < l.length := by omega
  have := hrow i row l[i] (by rw [List.getElem?_eq_getElem hi, e]) (List.getElem?_eq_getElem hi2)
  have := h3 l[i] (List.getElem_mem hi2)
  omega

def nilU (_ : Unit) : Value := .nilFunc
theorem nilU_one (a : Unit) : (nilU a).oneCell' = true := rfl
theorem nilU_nil (a : Unit) : cond true (nilU a = .nilFunc) (∃ fn us cs, nilU a = .func fn us cs) := rfl
def newNil (k : Nat) : Option Unit := (stm_New.f k (fun _ => true) [()]).bind fun r => bif r.isNone then some () else none
theorem newNil_some {k : Nat} (h : newNil k = some ()) : stm_New.f k (fun _ => true) [()] = some (none : Option (List Unit)) := by
  unfold newNil at h
  obtain ⟨r, e, h⟩ := opt_bind h
  cases r with
  | none => exact e
  | some l => cases h
theorem newU2.ct (k bps : Nat) (vs vf : Value) (s : word_Store) (ls : List Nat) (b1 b2 : Nat) (v1 v2 : Value) (g : KU) (hg : g = ⟨[(b1, v1), (b2, v2)]⟩) (h : newN k 2 = some ls) :
    Ct Try.prog 8 [bp bps 0, vf] (fun F => Rd (ekV fv39 fv39_one) vf [b1, b2] F) [Box bps [vs, .int .u32 s.limit], Own 88 ek_api_Cell vs s.l] (fun u H' => ∃ b, u = .tuple #[bp b 0, errV 60 none] ∧ H' = [MU g b bps (newM Unit ls, s)]) := by
  subst hg
  exact newU.ct ⟨[(b1, v1), (b2, v2)]⟩ k bps vs vf s ls h
theorem SO.packU {P : Program} {n : Nat} {Z : Act → World → Prop} {w0 : Beg} {ρ : Env} {rest : List HProp} {ops : Array Oper} {l : List Oper} {b1 b2 : Nat} {v1 v2 : Value} {g : KU} (hg : g = ⟨[(b1, v1), (b2, v2)]⟩) (h : SO P n Z w0 ops l ρ (RU g.G :: rest)) :
    SO P n Z w0 ops l ρ (Box b1 [v1] :: Own 69 (ekV jvU jvU_one) v1 [()] :: Box b2 [v2] :: Own 69 (ekV jvU jvU_one) v2 [()] :: rest) := h.sat fun w hs => by
  subst hg
  have h2 : stars ([Box b1 [v1], Own 69 (ekV jvU jvU_one) v1 [()]] ++ (Box b2 [v2] :: Own 69 (ekV jvU jvU_one) v2 [()] :: rest)) (hp w) := hs
  obtain ⟨m1, m2, d, s1, s2, a, r⟩ := (stars_append _ _ _).1 h2
  obtain ⟨n1, n2, e, t1, t2, b, r⟩ := (stars_append [Box b2 [v2], Own 69 (ekV jvU jvU_one) v2 [()]] rest m2).1 r
  have h3 : stars ([FUR (b1, v1), FUR (b2, v2)] ++ rest) (hp w) := ⟨m1, m2, d, s1, s2, a, n1, n2, e, t1, t2, b, r⟩
  obtain ⟨q1, q2, f, u1, u2, c, r⟩ := (stars_append _ rest _).1 h3
  exact ⟨q1, q2, f, u1, u2, c, r⟩

end Go.Proofs
