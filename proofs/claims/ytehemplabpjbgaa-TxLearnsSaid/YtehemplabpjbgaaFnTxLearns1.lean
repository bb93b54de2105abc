/- What the functions that TxLearns reaches come to, and that they do. On no condition. -/
import Derived.Test.YtehemplabpjbgaaFr1
import Derived.Shelf.SlIterI.Nil
import Derived.Shelf.SortM.Plain
import Derived.Shelf.SortM.SortNone
import Derived.Test.YtehemplabpjbgaaProg
import Derived.Test.YtehemplabpjbgaaFnTxLearns0
set_option linter.all false
/-! maps.Keys, slices.Sorted. -/
set_option linter.unusedVariables false
namespace Go.Proofs
open Go.RowKit Go.Maps Go.Sort Go.Shelf Go.Sl
def keysL24_ren : Go.Shelf.Ren := ⟨fun | 7 => 24 | 10 => 33 | n => n, fun | 23 => 24 | 26 => 3 | 3 => 3 | 28 => 71 | 0 => 0 | 27 => 70 | 33 => 88 | 4 => 4 | n => n, fun | n => n⟩
theorem keysL24 : Go.Proofs.SlLaysZI.n7 Try.prog keysL24_ren := {
  mixed := by kernel_rfl,
  f7 := ⟨Try.f24.name, by decide, Try.func24.trans (congrArg some (by kernel_rfl))⟩,
  f10 := ⟨Try.f33.name, by decide, Try.func33.trans (congrArg some (by kernel_rfl))⟩,
  t0 := Try.underlying0,
  a0 := Try.isAgg0,
  z0 := Try.sizeOf0,
  v0 := Try.zeroValue0,
  t4 := Try.underlying4,
  a4 := Try.isAgg4,
  z4 := Try.sizeOf4,
  v4 := Try.zeroValue4,
  t23 := Try.underlying24,
  a23 := Try.isAgg24,
  z23 := Try.sizeOf24,
  v23 := Try.zeroValue24,
  t26 := Try.underlying3,
  a26 := Try.isAgg3,
  z26 := Try.sizeOf3,
  v26 := Try.zeroValue3,
  t27 := Try.underlying70,
  a27 := Try.isAgg70,
  z27 := Try.sizeOf70,
  v27 := Try.zeroValue70,
  t28 := Try.underlying71,
  a28 := Try.isAgg71,
  z28 := Try.sizeOf71,
  v28 := Try.zeroValue71,
  t33 := Try.underlying88,
  a33 := Try.isAgg88,
  z33 := Try.sizeOf88,
  v33 := Try.zeroValue88 }
def keysL34_ren : Go.Shelf.Ren := ⟨fun | 7 => 34 | 10 => 39 | n => n, fun | 23 => 73 | 26 => 3 | 3 => 38 | 28 => 71 | 0 => 0 | 27 => 70 | 33 => 88 | 4 => 4 | n => n, fun | n => n⟩
theorem keysL34 : Go.Proofs.SlLaysZI.n7 Try.prog keysL34_ren := {
  mixed := by kernel_rfl,
  f7 := ⟨Try.f34.name, by decide, Try.func34.trans (congrArg some (by kernel_rfl))⟩,
  f10 := ⟨Try.f39.name, by decide, Try.func39.trans (congrArg some (by kernel_rfl))⟩,
  t0 := Try.underlying0,
  a0 := Try.isAgg0,
  z0 := Try.sizeOf0,
  v0 := Try.zeroValue0,
  t4 := Try.underlying4,
  a4 := Try.isAgg4,
  z4 := Try.sizeOf4,
  v4 := Try.zeroValue4,
  t23 := Try.underlying73,
  a23 := Try.isAgg73,
  z23 := Try.sizeOf73,
  v23 := Try.zeroValue73,
  t26 := Try.underlying3,
  a26 := Try.isAgg3,
  z26 := Try.sizeOf3,
  v26 := Try.zeroValue3,
  t27 := Try.underlying70,
  a27 := Try.isAgg70,
  z27 := Try.sizeOf70,
  v27 := Try.zeroValue70,
  t28 := Try.underlying71,
  a28 := Try.isAgg71,
  z28 := Try.sizeOf71,
  v28 := Try.zeroValue71,
  t33 := Try.underlying88,
  a33 := Try.isAgg88,
  z33 := Try.sizeOf88,
  v33 := Try.zeroValue88 }
def sortedL_ren : Go.Shelf.Ren := ⟨fun | 6 => 23 | 8 => 31 | 9 => 32 | 11 => 36 | 13 => 38 | 12 => 37 | 23 => 49 | 24 => 50 | 14 => 40 | 15 => 41 | 16 => 42 | 17 => 43 | 18 => 44 | 19 => 45 | 20 => 46 | 21 => 47 | 22 => 48 | 25 => 51 | 26 => 52 | 27 => 53 | 28 => 54 | 29 => 55 | 30 => 56 | 31 => 57 | n => n, fun | 26 => 3 | 28 => 71 | 24 => 22 | 0 => 0 | 3 => 3 | 37 => 100 | 48 => 36 | 50 => 35 | 4 => 4 | 40 => 103 | 39 => 102 | 45 => 27 | 5 => 5 | 9 => 9 | 51 => 111 | 55 => 115 | 57 => 117 | 58 => 118 | 33 => 88 | n => n, fun | n => n⟩
theorem sortedL : Go.Proofs.SlLaysZI.n6 Try.prog sortedL_ren := {
  mixed := by kernel_rfl,
  f6 := ⟨Try.f23.name, by decide, Try.func23.trans (congrArg some (by kernel_rfl))⟩,
  f8 := ⟨Try.f31.name, by decide, Try.func31.trans (congrArg some (by kernel_rfl))⟩,
  f11 := ⟨Try.f36.name, by decide, Try.func36.trans (congrArg some (by kernel_rfl))⟩,
  t0 := Try.underlying0,
  a0 := Try.isAgg0,
  z0 := Try.sizeOf0,
  v0 := Try.zeroValue0,
  t24 := Try.underlying22,
  a24 := Try.isAgg22,
  z24 := Try.sizeOf22,
  v24 := Try.zeroValue22,
  t26 := Try.underlying3,
  a26 := Try.isAgg3,
  z26 := Try.sizeOf3,
  v26 := Try.zeroValue3,
  t28 := Try.underlying71,
  a28 := Try.isAgg71,
  z28 := Try.sizeOf71,
  v28 := Try.zeroValue71,
  i26 := by kernel_rfl }
def sortL_ren : Go.Shelf.Ren := ⟨fun | 5 => 32 | 8 => 38 | 7 => 37 | 19 => 49 | 20 => 50 | 10 => 40 | 11 => 41 | 12 => 42 | 13 => 43 | 14 => 44 | 15 => 45 | 16 => 46 | 17 => 47 | 18 => 48 | 30 => 51 | 31 => 52 | 32 => 53 | 33 => 54 | 34 => 55 | 35 => 56 | 40 => 57 | n => n, fun | 23 => 22 | 25 => 3 | 3 => 3 | 32 => 100 | 22 => 22 | 0 => 0 | 44 => 36 | 46 => 35 | 4 => 4 | 36 => 103 | 35 => 102 | 41 => 27 | 5 => 5 | 9 => 9 | 53 => 111 | 57 => 115 | 63 => 117 | 64 => 118 | n => n, fun | n => n⟩
theorem sortL : Go.Proofs.SlLaysM.n5 Try.prog sortL_ren := {
  mixed := by kernel_rfl,
  f5 := ⟨Try.f32.name, by decide, Try.func32.trans (congrArg some (by kernel_rfl))⟩,
  f7 := ⟨Try.f37.name, by decide, Try.func37.trans (congrArg some (by kernel_rfl))⟩,
  f8 := Try.func38.trans (congrArg some (by kernel_rfl)),
  f10 := ⟨Try.f40.name, by decide, Try.func40.trans (congrArg some (by kernel_rfl))⟩,
  f11 := ⟨Try.f41.name, by decide, Try.func41.trans (congrArg some (by kernel_rfl))⟩,
  f12 := ⟨Try.f42.name, by decide, Try.func42.trans (congrArg some (by kernel_rfl))⟩,
  f13 := ⟨Try.f43.name, by decide, Try.func43.trans (congrArg some (by kernel_rfl))⟩,
  f14 := ⟨Try.f44.name, by decide, Try.func44.trans (congrArg some (by kernel_rfl))⟩,
  f15 := ⟨Try.f45.name, by decide, Try.func45.trans (congrArg some (by kernel_rfl))⟩,
  f16 := ⟨Try.f46.name, by decide, Try.func46.trans (congrArg some (by kernel_rfl))⟩,
  f17 := ⟨Try.f47.name, by decide, Try.func47.trans (congrArg some (by kernel_rfl))⟩,
  f18 := ⟨Try.f48.name, by decide, Try.func48.trans (congrArg some (by kernel_rfl))⟩,
  f19 := Try.func49.trans (congrArg some (by kernel_rfl)),
  f20 := Try.func50.trans (congrArg some (by kernel_rfl)),
  f30 := ⟨Try.f51.name, by decide, Try.func51.trans (congrArg some (by kernel_rfl))⟩,
  f31 := Try.func52.trans (congrArg some (by kernel_rfl)),
  f32 := Try.func53.trans (congrArg some (by kernel_rfl)),
  f33 := ⟨Try.f54.name, by decide, Try.func54.trans (congrArg some (by kernel_rfl))⟩,
  f34 := ⟨Try.f55.name, by decide, Try.func55.trans (congrArg some (by kernel_rfl))⟩,
  f35 := ⟨Try.f56.name, by decide, Try.func56.trans (congrArg some (by kernel_rfl))⟩,
  f40 := ⟨Try.f57.name, by decide, Try.func57.trans (congrArg some (by kernel_rfl))⟩,
  t0 := Try.underlying0,
  a0 := Try.isAgg0,
  z0 := Try.sizeOf0,
  v0 := Try.zeroValue0,
  t3 := Try.underlying3,
  a3 := Try.isAgg3,
  z3 := Try.sizeOf3,
  v3 := Try.zeroValue3,
  t4 := Try.underlying4,
  a4 := Try.isAgg4,
  z4 := Try.sizeOf4,
  v4 := Try.zeroValue4,
  t5 := Try.underlying5,
  a5 := Try.isAgg5,
  z5 := Try.sizeOf5,
  v5 := Try.zeroValue5,
  t9 := Try.underlying9,
  a9 := Try.isAgg9,
  z9 := Try.sizeOf9,
  v9 := Try.zeroValue9,
  t22 := Try.underlying22,
  a22 := Try.isAgg22,
  z22 := Try.sizeOf22,
  v22 := Try.zeroValue22,
  t23 := Try.underlying22,
  a23 := Try.isAgg22,
  z23 := Try.sizeOf22,
  v23 := Try.zeroValue22,
  t25 := Try.underlying3,
  a25 := Try.isAgg3,
  z25 := Try.sizeOf3,
  v25 := Try.zeroValue3,
  t32 := Try.underlying100,
  a32 := Try.isAgg100,
  z32 := Try.sizeOf100,
  v32 := Try.zeroValue100,
  t35 := Try.underlying102,
  a35 := Try.isAgg102,
  z35 := Try.sizeOf102,
  v35 := Try.zeroValue102,
  t36 := Try.underlying103,
  a36 := Try.isAgg103,
  z36 := Try.sizeOf103,
  v36 := Try.zeroValue103,
  t41 := Try.underlying27,
  a41 := Try.isAgg27,
  z41 := Try.sizeOf27,
  v41 := Try.zeroValue27,
  t44 := Try.underlying36,
  a44 := Try.isAgg36,
  z44 := Try.sizeOf36,
  v44 := Try.zeroValue36,
  t46 := Try.underlying35,
  a46 := Try.isAgg35,
  z46 := Try.sizeOf35,
  v46 := Try.zeroValue35,
  t53 := Try.underlying111,
  a53 := Try.isAgg111,
  z53 := Try.sizeOf111,
  v53 := Try.zeroValue111,
  t57 := Try.underlying115,
  a57 := Try.isAgg115,
  z57 := Try.sizeOf115,
  v57 := Try.zeroValue115,
  t63 := Try.underlying117,
  a63 := Try.isAgg117,
  z63 := Try.sizeOf117,
  v63 := Try.zeroValue117,
  t64 := Try.underlying118,
  a64 := Try.isAgg118,
  z64 := Try.sizeOf118,
  v64 := Try.zeroValue118 }
theorem sortsAll (m : Nat) : AnyZI.SortsIn Try.prog sortedL_ren Fence.wide m :=
  ⟨fun blk off cap ss W hH hblk hsz => callsIn_wide.2 (AnyM.slices_Sort_int sortL blk off cap ss W hH hblk hsz),
   fun p cap W => callsIn_wide.2 (AnyM.slices_Sort_int_none sortL p cap W)⟩
theorem keysO_24 {α : Type} {enc : α → Value} (v : Value) (o : Option (List (Int × α))) : Ct Try.prog 24 [v] (fun _ => True) [MapO enc v o] (fun u H' => ∃ bm, u = .func (.func 33) #[] #[bp bm 0] ∧ H' = [Box bm [v], MapO enc v o]) :=
  Ct.keysO (n := 5) (T := 24) (fun mb W => AnyZI.keys_in keysL24 Fence.wide 5 trivial rfl mb W) v o
theorem sortedO_24 {α : Type} {enc : α → Value} (bm : Nat) (v : Value) (o : Option (List (Int × α))) (ys : List Int) (ho : skeysO o = some ys) : Ct Try.prog 23 [.func (.func 33) #[] #[bp bm 0]] (fun _ => True) [Box bm [v], MapO enc v o] (fun u H' => ∃ r, u = r ∧ H' = [Own 3 (ekI .i64) r ys, Box bm [v], MapO enc v o]) :=
  Ct.sortedO (n := 5) Try.underlying3 (fun w bm b nn D0 hbm hm hown hsz => AnyZI.sorted_in sortedL Fence.wide 5 trivial trivial trivial trivial rfl (by omega) (sortsAll _) (enters_of Try.func32 (by kernel_rfl) rfl) 33 #[.pointer (some ⟨bm, 0, none⟩)] trivial (enters_of Try.func33 (by kernel_rfl) rfl) _ _ (by simp only [maxLen]; omega) (by omega) _ (AnyZI.keys_gives (ρ := keysL24_ren) { keysL24 with } Fence.wide _ trivial rfl (by omega) bm b nn D0 w hbm hm hown)) bm v o ys ho
theorem keysO_34 {α : Type} {enc : α → Value} (v : Value) (o : Option (List (Int × α))) : Ct Try.prog 34 [v] (fun _ => True) [MapO enc v o] (fun u H' => ∃ bm, u = .func (.func 39) #[] #[bp bm 0] ∧ H' = [Box bm [v], MapO enc v o]) :=
  Ct.keysO (n := 5) (T := 73) (fun mb W => AnyZI.keys_in keysL34 Fence.wide 5 trivial rfl mb W) v o
theorem sortedO_34 {α : Type} {enc : α → Value} (bm : Nat) (v : Value) (o : Option (List (Int × α))) (ys : List Int) (ho : skeysO o = some ys) : Ct Try.prog 23 [.func (.func 39) #[] #[bp bm 0]] (fun _ => True) [Box bm [v], MapO enc v o] (fun u H' => ∃ r, u = r ∧ H' = [Own 3 (ekI .i64) r ys, Box bm [v], MapO enc v o]) :=
  Ct.sortedO (n := 5) Try.underlying3 (fun w bm b nn D0 hbm hm hown hsz => AnyZI.sorted_in sortedL Fence.wide 5 trivial trivial trivial trivial rfl (by omega) (sortsAll _) (enters_of Try.func32 (by kernel_rfl) rfl) 39 #[.pointer (some ⟨bm, 0, none⟩)] trivial (enters_of Try.func39 (by kernel_rfl) rfl) _ _ (by simp only [maxLen]; omega) (by omega) _ (AnyZI.keys_gives (ρ := keysL34_ren) { keysL34 with } Fence.wide _ trivial rfl (by omega) bm b nn D0 w hbm hm hown)) bm v o ys ho
end Go.Proofs
namespace Go.Proofs
open Go.Sl Go.RowKit
/-! 27 padstone/view.Of[padstone/api.Cell] -/
def view_Of_api_Cell.l1 (a0 : Option (List (Int × api_Cell))) (ys2 : List Int) : Nat → (Int × (List view_Pair_api_Cell)) → Option ((List view_Pair_api_Cell))
  | 0, _ => none
  | k + 1, (x10_1, x3_1) => bif decide (x10_1 < (ys2.length : Int)) then ((at_ ys2 x10_1).bind fun x8 => (lk1 a0 x8 (⟨0, 0, 0⟩ : api_Cell)).bind fun x10 => (app x3_1 ([(⟨x8, x10⟩ : view_Pair_api_Cell)])).bind fun zs14 => view_Of_api_Cell.l1 a0 ys2 k (w64 (x10_1 + 1), zs14)) else (some x3_1)
def view_Of_api_Cell.f (k : Nat) (a0 : Option (List (Int × api_Cell))) : Option (((List view_Pair_api_Cell) × (Option (List (Int × api_Cell))))) :=
  (skeysO a0).bind fun ys2 => (view_Of_api_Cell.l1 a0 ys2 k (0, [])).bind fun j3_e1 => some (j3_e1, a0)
set_option maxHeartbeats 8000000 in
set_option maxRecDepth 100000 in
theorem view_Of_api_Cell.ct (k : Nat) (v0 : Value) (a0 : Option (List (Int × api_Cell))) (r0 : List view_Pair_api_Cell) (q0 : Option (List (Int × api_Cell))) (h : view_Of_api_Cell.f k a0 = some (r0, q0)) :
    Ct Try.prog 27 [v0] (fun _ => True) [MapO (aggE ek_api_Cell) v0 a0] (fun u H' => ∃ v_r0, u = v_r0 ∧ H' = [Own 82 ek_view_Pair_api_Cell v_r0 r0, MapO (aggE ek_api_Cell) v0 q0]) := by
  unfold view_Of_api_Cell.f at h
  refine Ct.intro (n := 24) Try.func27 rfl rfl rfl ?_
  intro R w0 F hF hR
  refine S.seq ?_
  refine S.region ?_
  refine SO.v rfl (opv_assign rfl) ?_
  refine SO.nil ?_
  refine S.seq ?_
  refine S.region ?_
  refine SO.v rfl (opv_assign rfl) ?_
  refine SO.nil ?_
  refine S.seq ?_
  refine S.seq ?_
  refine S.region ?_
  refine SO.v rfl (opv_move rfl) ?_
  refine SO.call (pre := [MapO _ _ _]) rfl Try.call34 rfl rfl rfl (keysO_34 (enc := (aggE ek_api_Cell)) v0 a0) trivial ?_
  rintro _ _ ⟨b1, rfl, rfl⟩
  obtain ⟨ys2, hy3, h⟩ := opt_bind h
  refine SO.b1 ?_
  refine SO.b1 ?_
  refine SO.call (pre := [Box _ _, MapO _ _ _]) rfl Try.call23 rfl rfl rfl (sortedO_34 (enc := (aggE ek_api_Cell)) b1 v0 a0 ys2 hy3) trivial ?_
  rintro v4 _ ⟨_, rfl, rfl⟩
  refine SO.rd fun hr5 => ?_
  refine SO.v rfl (opv_lenR rfl Try.underlying22 hr5 rfl) ?_
  refine SO.v rfl (opv_move rfl) ?_
  refine SO.nil ?_
  obtain ⟨j3_e1, hlp1, h⟩ := opt_bind h
  refine S.newOwn 82 ek_view_Pair_api_Cell ?_
  refine S.b4 ?_
  refine S.b4 ?_
  refine S.b4 ?_
  refine S.b4 ?_
  refine S.b4 ?_
  refine S.to (ρ' := [(10, .int .i64 0), (9, .int .i64 (ys2.length : Int)), (8, v4), (3, .slice none 0 0), (2, .slice none 0 0), (0, v0)]) ⟨rfl, rfl, rfl, rfl, rfl, rfl, trivial⟩ ?_
  refine S.forloop (X := (Int × (List view_Pair_api_Cell)) × Value) (O := (List view_Pair_api_Cell)) (fun m x => view_Of_api_Cell.l1 a0 ys2 m x.1) (fun x => match x with | ((x10_1, x3_1), v3_1) => [(10, .int .i64 x10_1), (9, .int .i64 (ys2.length : Int)), (8, v4), (3, v3_1), (2, .slice none 0 0), (0, v0)]) (fun x => match x with | ((x10_1, x3_1), v3_1) => [Own 82 ek_view_Pair_api_Cell v3_1 x3_1, Own 3 (ekI .i64) v4 ys2, Box b1 [v0], MapO (aggE ek_api_Cell) v0 a0, F]) (fun Sk => (fun j3_e1 => ∀ v3_e1 : Value, Sk [(2, .slice none 0 0), (3, v3_e1)] [Own 82 ek_view_Pair_api_Cell v3_e1 j3_e1, Own 3 (ekI .i64) v4 ys2, Box b1 [v0], MapO (aggE ek_api_Cell) v0 a0, F])) (fun _ => rfl) ?_ (m := k) (x := ((0, []), .slice none 0 0)) hlp1 ?_
  · clear h hlp1
    intro k x o_1 h hK1 ih1
    obtain ⟨⟨x10_1, x3_1⟩, v3_1⟩ := x
    replace h : view_Of_api_Cell.l1 a0 ys2 (k + 1) (x10_1, x3_1) = some o_1 := h
    first | rw [view_Of_api_Cell.l1] at h | unfold view_Of_api_Cell.l1 at h
    refine S.rd fun hr6 => ?_
    refine S.seq ?_
    refine S.region ?_
    refine SO.v rfl (opv_lss rfl rfl) ?_
    refine SO.nil ?_
    refine S.seq ?_
    rcases bool_or (decide (x10_1 < (ys2.length : Int))) with b7 | b7
    · replace h := cond_t b7 h
      refine S.condT rfl b7 ?_
      refine S.skip ?_
      refine S.seq ?_
      refine S.block ?_
      refine S.seq ?_
      refine S.region ?_
      obtain ⟨x8, hx9, h⟩ := opt_bind h
      refine SO.v rfl (opv_idx Try.underlying22 Try.sizeOf3 hr5 rfl rfl hx9) ?_
      refine SO.loadI1 (j := 0) rfl Try.isAgg3 (Rd.tail (Rd.head hr5)) hx9 rfl rfl rfl rfl ?_
      refine SO.v rfl (opv_assign rfl) ?_
      refine SO.nil ?_
      refine S.region ?_
      refine SO.v rfl (opv_move rfl) ?_
      refine SO.v rfl (opv_move rfl) ?_
      refine SO.v rfl (opv_move rfl) ?_
      refine SO.v rfl (opv_move rfl) ?_
      obtain ⟨x10, hlk11, h⟩ := opt_bind h
      refine SO.b3 ?_
      refine SO.lookup1O (enc := (aggE ek_api_Cell)) (zx := (⟨0, 0, 0⟩ : api_Cell)) rfl Try.underlying73 Try.underlying3 Try.zeroValue38 rfl rfl hlk11 ?_
      refine SO.v rfl (opv_build (v := .agg #[.int .i64 x8, .int .u64 x10.Value, .int .u32 x10.Version, .int .i64 x10.Mark]) rfl (by intro w; kernel_rfl)) ?_
      refine SO.buildSlice (K := ek_view_Pair_api_Cell) (xs := [(⟨x8, x10⟩ : view_Pair_api_Cell)]) (cs := [.int .i64 x8, .int .u64 x10.Value, .int .u32 x10.Version, .int .i64 x10.Mark]) rfl Try.underlying79 Try.sizeOf82 Try.zeroValue82 rfl rfl rfl (by kernel_rfl) rfl rfl rfl (fun v12 hr13 => ?_)
      obtain ⟨zs14, hz15, h⟩ := opt_bind h
      refine SO.b2 ?_
      refine SO.append rfl Try.underlying79 Try.underlying79 inf82 rfl rfl rfl (by decide) rfl rfl rfl (Rd.head hr13) hz15 (fun v16 => ?_)
      refine SO.rd fun hr17 => ?_
      refine SO.v rfl (opv_assign rfl) ?_
      refine SO.nil ?_
      refine S.to (ρ' := [(10, .int .i64 x10_1), (9, .int .i64 (ys2.length : Int)), (8, v4), (3, v16), (2, .slice none 0 0), (0, v0)]) ⟨rfl, rfl, rfl, rfl, rfl, rfl, trivial⟩ ?_
      refine S.inBlock ?_
      refine S.region ?_
      refine SO.v rfl (opv_add rfl rfl) ?_
      refine SO.v rfl (opv_move rfl) ?_
      refine SO.nil ?_
      refine S.b1 ?_
      refine S.drop ?_
      refine S.b4 ?_
      refine S.b2 ?_
      refine S.b4 ?_
      refine S.b4 ?_
      refine S.b4 ?_
      refine S.to ?_ (ih1 ((w64 (x10_1 + 1), zs14), v16) h)
      exact ⟨rfl, rfl, rfl, rfl, rfl, rfl, trivial⟩
    replace h := cond_f b7 h
    refine S.condF rfl b7 ?_
    refine S.exit rfl ?_
    cases h
    refine S.b4 ?_
    refine S.b4 ?_
    refine S.b4 ?_
    refine S.b4 ?_
    refine S.b4 ?_
    refine S.to ?_ (hK1 v3_1)
    exact ⟨rfl, rfl, trivial⟩
  rintro v3_e1
  refine S.rd fun hr18 => ?_
  refine S.seq ?_
  refine S.region ?_
  refine SO.v rfl (opv_move rfl) ?_
  refine SO.v rfl (opv_assign rfl) ?_
  refine SO.nil ?_
  cases h
  refine S.b1 ?_
  refine S.drop ?_
  refine S.b1 ?_
  refine S.drop ?_
  refine S.b2 ?_
  refine S.b2 ?_
  refine S.b2 ?_
  exact S.ret1 Try.func27 rfl rfl (fun w hs hk => hR w _ _ ⟨v3_e1, rfl, rfl⟩ hs hk)
end Go.Proofs
namespace Go.Proofs
open Go.Sl Go.RowKit
/-! 13 (*padstone/tx.Tx).Entries -/
def tx_Tx_Entries.l1 (a0 : tx_Tx) (t2 : List view_Pair_api_Cell) : Nat → ((List tx_Entry) × Int) → Option ((List tx_Entry))
  | 0, _ => none
  | k + 1, (x3_1, x20_1) => bif decide (x20_1 < (t2.length : Int)) then ((at_ t2 x20_1).bind fun x10 => (lkO a0.out x10.At (0 : Int)).bind fun (x14, c16) => bif c16 then ((app x3_1 ([(⟨x10.At, x10.Val.Version, x10.Val.Value, x14, x14 != x10.Val.Value⟩ : tx_Entry)])).bind fun zs20 => tx_Tx_Entries.l1 a0 t2 k (zs20, w64 (x20_1 + 1))) else ((app x3_1 ([(⟨x10.At, x10.Val.Version, x10.Val.Value, x10.Val.Value, false⟩ : tx_Entry)])).bind fun zs26 => tx_Tx_Entries.l1 a0 t2 k (zs26, w64 (x20_1 + 1)))) else (some x3_1)
def tx_Tx_Entries.f (k : Nat) (a0 : tx_Tx) : Option (((List tx_Entry) × tx_Tx)) :=
  bif !a0.fine then (some ([], a0)) else ((view_Of_api_Cell.f k a0.l).bind fun (t2, q3) => (tx_Tx_Entries.l1 a0 t2 k ([], 0)).bind fun j3_e1 => some (j3_e1, ({ a0 with l := q3 } : tx_Tx)))
set_option maxHeartbeats 8000000 in
set_option maxRecDepth 100000 in
theorem tx_Tx_Entries.ct (k : Nat) (bp0 : Nat) (v0_l : Value) (v0_out : Value) (a0 : tx_Tx) (r0 : List tx_Entry) (rp0 : tx_Tx) (h : tx_Tx_Entries.f k a0 = some (r0, rp0)) :
    Ct Try.prog 13 [bp bp0 0] (fun _ => True) [Box bp0 [.int .i64 a0.cells, v0_l, v0_out, .int .i64 a0.lack, .bool a0.fine], MapO (aggE ek_api_Cell) v0_l a0.l, MapO (Value.int .u64) v0_out a0.out] (fun u H' => ∃ v_r0 rw0_l rw0_out, u = v_r0 ∧ H' = [Own 63 ek_tx_Entry v_r0 r0, Box bp0 [.int .i64 rp0.cells, rw0_l, rw0_out, .int .i64 rp0.lack, .bool rp0.fine], MapO (aggE ek_api_Cell) rw0_l rp0.l, MapO (Value.int .u64) rw0_out rp0.out]) := by
  unfold tx_Tx_Entries.f at h
  refine Ct.intro (n := 60) Try.func13 rfl rfl rfl ?_
  intro R w0 F hF hR
  refine S.seq ?_
  refine S.region ?_
  refine SO.v rfl (opv_assign rfl) ?_
  refine SO.nil ?_
  refine S.seq ?_
  refine S.seq ?_
  refine S.region ?_
  refine SO.v rfl (opv_move rfl) ?_
  refine SO.v rfl (opv_nilCheck rfl) ?_
  refine SO.v rfl (opv_fieldAddr Try.underlying76 rfl Try.sizeOf4 rfl rfl) ?_
  refine SO.load1 rfl Try.isAgg4 rfl rfl ?_
  refine SO.v rfl (opv_not rfl) ?_
  refine SO.nil ?_
  rcases bool_or (!a0.fine) with b1 | b1
  · replace h := cond_t b1 h
    refine S.condT rfl b1 ?_
    refine S.seq ?_
    refine S.region ?_
    refine SO.v rfl (opv_assign rfl) ?_
    refine SO.nil ?_
    cases h
    refine S.newOwn 63 ek_tx_Entry ?_
    refine S.b4 ?_
    refine S.b4 ?_
    refine S.b4 ?_
    refine S.b4 ?_
    refine S.b4 ?_
    exact S.ret1 Try.func13 rfl rfl (fun w hs hk => hR w _ _ ⟨(.slice none 0 0), v0_l, v0_out, rfl, rfl⟩ hs hk)
  replace h := cond_f b1 h
  refine S.condF rfl b1 ?_
  refine S.skip ?_
  refine S.seq ?_
  refine S.region ?_
  refine SO.v rfl (opv_assign rfl) ?_
  refine SO.nil ?_
  refine S.seq ?_
  refine S.seq ?_
  refine S.region ?_
  refine SO.v rfl (opv_move rfl) ?_
  refine SO.v rfl (opv_nilCheck rfl) ?_
  refine SO.v rfl (opv_fieldAddr Try.underlying76 rfl Try.sizeOf73 rfl rfl) ?_
  refine SO.load1 rfl Try.isAgg73 rfl rfl ?_
  obtain ⟨⟨t2, q3⟩, ht4, h⟩ := opt_bind h
  refine SO.b1 ?_
  refine SO.call (pre := [MapO _ _ _]) rfl Try.call27 rfl rfl rfl (view_Of_api_Cell.ct _ v0_l _ _ _ ht4) trivial ?_
  rintro v5 _ ⟨_, rfl, rfl⟩
  refine SO.rd fun hr6 => ?_
  refine SO.v rfl (opv_lenR rfl Try.underlying79 hr6 rfl) ?_
  refine SO.v rfl (opv_move rfl) ?_
  refine SO.nil ?_
  refine S.to (ρ' := [(0, bp bp0 0), (2, .slice none 0 0), (3, .slice none 0 0), (18, v5), (19, .int .i64 (t2.length : Int)), (20, .int .i64 0)]) ⟨rfl, rfl, rfl, rfl, rfl, rfl, trivial⟩ ?_
  obtain ⟨j3_e1, hlp1, h⟩ := opt_bind h
  refine S.newOwn 63 ek_tx_Entry ?_
  refine S.b5 ?_
  refine S.b5 ?_
  refine S.b5 ?_
  refine S.b5 ?_
  refine S.b5 ?_
  refine S.b5 ?_
  refine S.to (ρ' := [(0, bp bp0 0), (2, .slice none 0 0), (3, .slice none 0 0), (18, v5), (19, .int .i64 (t2.length : Int)), (20, .int .i64 0)]) ⟨rfl, rfl, rfl, rfl, rfl, rfl, trivial⟩ ?_
  refine S.forloop (X := ((List tx_Entry) × Int) × Value) (O := (List tx_Entry)) (fun m x => tx_Tx_Entries.l1 a0 t2 m x.1) (fun x => match x with | ((x3_1, x20_1), v3_1) => [(0, bp bp0 0), (2, .slice none 0 0), (3, v3_1), (18, v5), (19, .int .i64 (t2.length : Int)), (20, .int .i64 x20_1)]) (fun x => match x with | ((x3_1, x20_1), v3_1) => [Own 63 ek_tx_Entry v3_1 x3_1, Own 82 ek_view_Pair_api_Cell v5 t2, MapO (aggE ek_api_Cell) v0_l q3, Box bp0 [.int .i64 a0.cells, v0_l, v0_out, .int .i64 a0.lack, .bool a0.fine], MapO (Value.int .u64) v0_out a0.out, F]) (fun Sk => (fun j3_e1 => ∀ v3_e1 : Value, Sk [(2, .slice none 0 0), (3, v3_e1)] [Own 63 ek_tx_Entry v3_e1 j3_e1, Own 82 ek_view_Pair_api_Cell v5 t2, MapO (aggE ek_api_Cell) v0_l q3, Box bp0 [.int .i64 a0.cells, v0_l, v0_out, .int .i64 a0.lack, .bool a0.fine], MapO (Value.int .u64) v0_out a0.out, F])) (fun _ => rfl) ?_ (m := k) (x := (([], 0), .slice none 0 0)) hlp1 ?_
  · clear h hlp1
    intro k x o_1 h hK1 ih1
    obtain ⟨⟨x3_1, x20_1⟩, v3_1⟩ := x
    replace h : tx_Tx_Entries.l1 a0 t2 (k + 1) (x3_1, x20_1) = some o_1 := h
    first | rw [tx_Tx_Entries.l1] at h | unfold tx_Tx_Entries.l1 at h
    refine S.rd fun hr8 => ?_
    refine S.seq ?_
    refine S.region ?_
    refine SO.v rfl (opv_lss rfl rfl) ?_
    refine SO.nil ?_
    refine S.seq ?_
    rcases bool_or (decide (x20_1 < (t2.length : Int))) with b9 | b9
    · replace h := cond_t b9 h
      refine S.condT rfl b9 ?_
      refine S.skip ?_
      refine S.seq ?_
      refine S.block ?_
      refine S.seq ?_
      refine S.region ?_
      obtain ⟨x10, hx11, h⟩ := opt_bind h
      refine SO.v rfl (opv_idx Try.underlying79 Try.sizeOf82 hr6 rfl rfl hx11) ?_
      refine SO.loadIN rfl Try.isAgg82 Try.sizeOf82 (Rd.tail (Rd.head hr6)) hx11 rfl rfl rfl ?_
      refine SO.alloc rfl Try.zeroValue82 rfl (fun b12 => ?_)
      refine SO.storeN Try.sizeOf82 rfl rfl rfl rfl rfl rfl ?_
      refine SO.nil ?_
      refine S.seq ?_
      refine S.region ?_
      refine SO.v rfl (opv_fieldAddr Try.underlying82 rfl Try.sizeOf3 rfl rfl) ?_
      refine SO.load1 rfl Try.isAgg3 rfl rfl ?_
      refine SO.v rfl (opv_fieldAddr Try.underlying82 rfl Try.sizeOf38 rfl rfl) ?_
      refine SO.v rfl (opv_fieldAddr Try.underlying38 rfl Try.sizeOf36 rfl rfl) ?_
      refine SO.load1 rfl Try.isAgg36 rfl rfl ?_
      refine SO.v rfl (opv_fieldAddr Try.underlying82 rfl Try.sizeOf38 rfl rfl) ?_
      refine SO.v rfl (opv_fieldAddr Try.underlying38 rfl Try.sizeOf35 rfl rfl) ?_
      refine SO.load1 rfl Try.isAgg35 rfl rfl ?_
      refine SO.v rfl (opv_fieldAddr Try.underlying82 rfl Try.sizeOf38 rfl rfl) ?_
      refine SO.v rfl (opv_fieldAddr Try.underlying38 rfl Try.sizeOf35 rfl rfl) ?_
      refine SO.load1 rfl Try.isAgg35 rfl rfl ?_
      refine SO.v rfl (opv_build (v := .agg #[.int .i64 x10.At, .int .u32 x10.Val.Version, .int .u64 x10.Val.Value, .int .u64 x10.Val.Value, .bool false]) rfl (by intro w; kernel_rfl)) ?_
      refine SO.alloc rfl Try.zeroValue63 rfl (fun b13 => ?_)
      refine SO.storeN Try.sizeOf63 rfl rfl rfl rfl rfl rfl ?_
      refine SO.nil ?_
      refine S.to (ρ' := [(0, bp bp0 0), (2, .slice none 0 0), (3, v3_1), (18, v5), (19, .int .i64 (t2.length : Int)), (20, .int .i64 x20_1), (5, bp b12 0), (6, bp b13 0)]) ⟨rfl, rfl, rfl, rfl, rfl, rfl, rfl, rfl, trivial⟩ ?_
      refine S.seq ?_
      refine S.seq ?_
      obtain ⟨⟨x14, c16⟩, hlk15, h⟩ := opt_bind h
      refine S.draw2 (Y := fun Q => ∃ (_ _ _ _ _ _ _ _ _ _ _ : Unit), Q [(0, bp bp0 0), (5, bp b12 0), (2, .slice none 0 0), (3, v3_1), (18, v5), (19, .int .i64 (t2.length : Int)), (20, .int .i64 x20_1), (6, bp b13 0)] [Box b13 [.int .i64 x10.At, .int .u32 x10.Val.Version, .int .u64 x10.Val.Value, .int .u64 x10.Val.Value, .bool false], Box b12 [.int .i64 x10.At, .int .u64 x10.Val.Value, .int .u32 x10.Val.Version, .int .i64 x10.Val.Mark], Own 63 ek_tx_Entry v3_1 x3_1, Own 82 ek_view_Pair_api_Cell v5 t2, MapO (aggE ek_api_Cell) v0_l q3, Box bp0 [.int .i64 a0.cells, v0_l, v0_out, .int .i64 a0.lack, .bool a0.fine], MapO (Value.int .u64) v0_out a0.out, F]) (Z := fun Q => ∀ (_ _ _ _ _ _ _ _ _ _ _ _ : Unit), Q [(0, bp bp0 0), (2, .slice none 0 0), (3, v3_1), (18, v5), (19, .int .i64 (t2.length : Int)), (20, .int .i64 x20_1), (6, bp b13 0), (7, .int .u64 x14), (8, .bool c16)] [Box b13 [.int .i64 x10.At, .int .u32 x10.Val.Version, .int .u64 x10.Val.Value, .int .u64 x10.Val.Value, .bool false], Box b12 [.int .i64 x10.At, .int .u64 x10.Val.Value, .int .u32 x10.Val.Version, .int .i64 x10.Val.Mark], Own 63 ek_tx_Entry v3_1 x3_1, Own 82 ek_view_Pair_api_Cell v5 t2, MapO (aggE ek_api_Cell) v0_l q3, Box bp0 [.int .i64 a0.cells, v0_l, v0_out, .int .i64 a0.lack, .bool a0.fine], MapO (Value.int .u64) v0_out a0.out, F]) (T := [tS 0 (bp bp0 0), tS 5 (bp b12 0), tE [(2, .slice none 0 0), (3, v3_1), (18, v5), (19, .int .i64 (t2.length : Int)), (20, .int .i64 x20_1), (6, bp b13 0)], tR (Box b13 [.int .i64 x10.At, .int .u32 x10.Val.Version, .int .u64 x10.Val.Value, .int .u64 x10.Val.Value, .bool false]), tR (Box b12 [.int .i64 x10.At, .int .u64 x10.Val.Value, .int .u32 x10.Val.Version, .int .i64 x10.Val.Mark]), tR (Own 63 ek_tx_Entry v3_1 x3_1), tR (Own 82 ek_view_Pair_api_Cell v5 t2), tR (MapO (aggE ek_api_Cell) v0_l q3), tR (Box bp0 [.int .i64 a0.cells, v0_l, v0_out, .int .i64 a0.lack, .bool a0.fine]), tR (MapO (Value.int .u64) v0_out a0.out), tR (F), tS 37 (bp bp0 0), tS 38 (bp bp0 0), tS 39 (bp bp0 2), tS 40 (v0_out), tS 41 (bp b12 0), tS 42 (.int .i64 x10.At), tS 43 (.tuple #[.int .u64 x14, .bool c16]), tS 36 (.tuple #[.int .u64 x14, .bool c16]), tS 44 (.int .u64 x14), tS 45 (.bool c16), tS 7 (.int .u64 x14), tS 8 (.bool c16)]) (D := [⟨[0], [], [11]⟩, ⟨[11], [], [12]⟩, ⟨[12], [], [13]⟩, ⟨[13, 8], [], [14]⟩, ⟨[1], [], [15]⟩, ⟨[15, 4], [], [16]⟩, ⟨[14, 16, 9], [], [17]⟩, ⟨[17], [], [18]⟩, ⟨[18], [], [19]⟩, ⟨[18], [], [20]⟩, ⟨[19], [], [21]⟩, ⟨[20], [], [22]⟩]) (ini := [0, 1, 2, 3, 4, 5, 6, 7, 8, 9, 10]) (fin := [0, 2, 21, 22, 3, 4, 5, 6, 7, 8, 9, 10]) (bf := [[], [0], [0, 1], [0, 1, 2], [], [4], [0, 1, 2, 3, 4, 5], [0, 1, 2, 3, 4, 5, 6], [0, 1, 2, 3, 4, 5, 6, 7], [0, 1, 2, 3, 4, 5, 6, 7], [0, 1, 2, 3, 4, 5, 6, 7, 8], [0, 1, 2, 3, 4, 5, 6, 7, 8, 9, 10]]) (by kernel_rfl) (by kernel_rfl) (fun Q => by kernel_rfl) (fun x w h1 h2 => ⟨(), (), (), (), (), (), (), (), (), (), (), EnvAll.of h1 ⟨rfl, rfl, rfl, rfl, rfl, rfl, rfl, rfl, trivial⟩, h2⟩) (fun Q => by kernel_rfl) ⟨?_, ?_, ?_, ?_, ?_, ?_, ?_, ?_, ?_, ?_, ?_, ?_, trivial⟩ ?_
      · rintro Fr _
        refine SO.v rfl (opv_move rfl) ?_
        exact SO.nilZ fun a w h1 h2 h3 h4 h5 => PZ.of h1 h3 h5 (.cons () (.cons () (.nil ⟨EnvAll.of h2 ⟨rfl, rfl, trivial⟩, h4⟩)))
      · rintro Fr _
        refine SO.v rfl (opv_nilCheck rfl) ?_
        exact SO.nilZ fun a w h1 h2 h3 h4 h5 => PZ.of h1 h3 h5 (.cons () (.cons () (.nil ⟨EnvAll.of h2 ⟨rfl, rfl, trivial⟩, h4⟩)))
      · rintro Fr _
        refine SO.v rfl (opv_fieldAddr Try.underlying76 rfl Try.sizeOf74 rfl rfl) ?_
        exact SO.nilZ fun a w h1 h2 h3 h4 h5 => PZ.of h1 h3 h5 (.cons () (.cons () (.nil ⟨EnvAll.of h2 ⟨rfl, rfl, trivial⟩, h4⟩)))
      · rintro Fr _ _
        refine SO.load1 rfl Try.isAgg74 rfl rfl ?_
        exact SO.nilZ fun a w h1 h2 h3 h4 h5 => PZ.of h1 h3 h5 (.cons () (.cons () (.cons () (.nil ⟨EnvAll.of h2 ⟨rfl, rfl, trivial⟩, h4⟩))))
      · rintro Fr _
        refine SO.v rfl (opv_fieldAddr Try.underlying82 rfl Try.sizeOf3 rfl rfl) ?_
        exact SO.nilZ fun a w h1 h2 h3 h4 h5 => PZ.of h1 h3 h5 (.cons () (.cons () (.nil ⟨EnvAll.of h2 ⟨rfl, rfl, trivial⟩, h4⟩)))
      · rintro Fr _ _
        refine SO.load1 rfl Try.isAgg3 rfl rfl ?_
        exact SO.nilZ fun a w h1 h2 h3 h4 h5 => PZ.of h1 h3 h5 (.cons () (.cons () (.cons () (.nil ⟨EnvAll.of h2 ⟨rfl, rfl, trivial⟩, h4⟩))))
      · rintro Fr _ _ _
        refine SO.lookupOkO (enc := (Value.int .u64)) (zx := (0 : Int)) rfl Try.underlying74 Try.underlying3 Try.zeroValue35 rfl rfl hlk15 ?_
        exact SO.nilZ fun a w h1 h2 h3 h4 h5 => PZ.of h1 h3 h5 (.cons () (.cons () (.cons () (.cons () (.nil ⟨EnvAll.of h2 ⟨rfl, rfl, rfl, trivial⟩, h4⟩)))))
      · rintro Fr _
        refine SO.v rfl (opv_move rfl) ?_
        exact SO.nilZ fun a w h1 h2 h3 h4 h5 => PZ.of h1 h3 h5 (.cons () (.cons () (.nil ⟨EnvAll.of h2 ⟨rfl, rfl, trivial⟩, h4⟩)))
      · rintro Fr _
        refine SO.v rfl (opv_extract rfl rfl) ?_
        exact SO.nilZ fun a w h1 h2 h3 h4 h5 => PZ.of h1 h3 h5 (.cons () (.cons () (.nil ⟨EnvAll.of h2 ⟨rfl, rfl, trivial⟩, h4⟩)))
      · rintro Fr _
        refine SO.v rfl (opv_extract rfl rfl) ?_
        exact SO.nilZ fun a w h1 h2 h3 h4 h5 => PZ.of h1 h3 h5 (.cons () (.cons () (.nil ⟨EnvAll.of h2 ⟨rfl, rfl, trivial⟩, h4⟩)))
      · rintro Fr _
        refine SO.v rfl (opv_assign rfl) ?_
        exact SO.nilZ fun a w h1 h2 h3 h4 h5 => PZ.of h1 h3 h5 (.cons () (.cons () (.nil ⟨EnvAll.of h2 ⟨rfl, rfl, trivial⟩, h4⟩)))
      · rintro Fr _
        refine SO.v rfl (opv_assign rfl) ?_
        exact SO.nilZ fun a w h1 h2 h3 h4 h5 => PZ.of h1 h3 h5 (.cons () (.cons () (.nil ⟨EnvAll.of h2 ⟨rfl, rfl, trivial⟩, h4⟩)))
      rintro _ _ _ _ _ _ _ _ _ _ _ _
      refine S.to (ρ' := [(0, bp bp0 0), (2, .slice none 0 0), (3, v3_1), (18, v5), (19, .int .i64 (t2.length : Int)), (20, .int .i64 x20_1), (6, bp b13 0), (7, .int .u64 x14), (8, .bool c16)]) ⟨rfl, rfl, rfl, rfl, rfl, rfl, rfl, rfl, rfl, trivial⟩ ?_
      refine S.seq ?_
      refine S.region ?_
      refine SO.v rfl (opv_move rfl) ?_
      refine SO.nil ?_
      rcases bool_or c16 with b17 | b17
      · replace h := cond_t b17 h
        refine S.condT rfl b17 ?_
        refine S.region ?_
        refine SO.v rfl (opv_move rfl) ?_
        refine SO.v rfl (opv_move rfl) ?_
        refine SO.v rfl (opv_fieldAddr Try.underlying63 rfl Try.sizeOf35 rfl rfl) ?_
        refine SO.load1 rfl Try.isAgg35 rfl rfl ?_
        refine SO.v rfl (opv_neq rfl rfl) ?_
        refine SO.v rfl (opv_fieldAddr Try.underlying63 rfl Try.sizeOf35 rfl rfl) ?_
        refine SO.store1 Try.sizeOf35 rfl rfl rfl rfl ?_
        refine SO.v rfl (opv_fieldAddr Try.underlying63 rfl Try.sizeOf4 rfl rfl) ?_
        refine SO.store1 Try.sizeOf4 rfl rfl rfl rfl ?_
        refine SO.nil ?_
        refine S.to (ρ' := [(0, bp bp0 0), (2, .slice none 0 0), (3, v3_1), (18, v5), (19, .int .i64 (t2.length : Int)), (20, .int .i64 x20_1), (6, bp b13 0)]) ⟨rfl, rfl, rfl, rfl, rfl, rfl, rfl, trivial⟩ ?_
        refine S.region ?_
        refine SO.v rfl (opv_move rfl) ?_
        refine SO.loadN rfl Try.isAgg63 Try.sizeOf63 rfl rfl rfl ?_
        refine SO.buildSlice (K := ek_tx_Entry) (xs := [(⟨x10.At, x10.Val.Version, x10.Val.Value, x14, x14 != x10.Val.Value⟩ : tx_Entry)]) (cs := [.int .i64 x10.At, .int .u32 x10.Val.Version, .int .u64 x10.Val.Value, .int .u64 x14, .bool (x14 != x10.Val.Value)]) rfl Try.underlying45 Try.sizeOf63 Try.zeroValue63 rfl rfl rfl (by kernel_rfl) rfl rfl rfl (fun v18 hr19 => ?_)
        obtain ⟨zs20, hz21, h⟩ := opt_bind h
        refine SO.b3 ?_
        refine SO.append rfl Try.underlying45 Try.underlying45 inf63 rfl rfl rfl (by decide) rfl rfl rfl (Rd.head hr19) hz21 (fun v22 => ?_)
        refine SO.rd fun hr23 => ?_
        refine SO.v rfl (opv_assign rfl) ?_
        refine SO.nil ?_
        refine S.inBlock ?_
        refine S.region ?_
        refine SO.v rfl (opv_add rfl rfl) ?_
        refine SO.v rfl (opv_move rfl) ?_
        refine SO.nil ?_
        refine S.b1 ?_
        refine S.drop ?_
        refine S.b1 ?_
        refine S.drop ?_
        refine S.b1 ?_
        refine S.drop ?_
        refine S.b5 ?_
        refine S.b5 ?_
        refine S.b5 ?_
        refine S.b5 ?_
        refine S.b5 ?_
        refine S.b5 ?_
        refine S.to ?_ (ih1 ((zs20, w64 (x20_1 + 1)), v22) h)
        exact ⟨rfl, rfl, rfl, rfl, rfl, rfl, trivial⟩
      replace h := cond_f b17 h
      refine S.condF rfl b17 ?_
      refine S.skip ?_
      refine S.region ?_
      refine SO.v rfl (opv_move rfl) ?_
      refine SO.loadN rfl Try.isAgg63 Try.sizeOf63 rfl rfl rfl ?_
      refine SO.buildSlice (K := ek_tx_Entry) (xs := [(⟨x10.At, x10.Val.Version, x10.Val.Value, x10.Val.Value, false⟩ : tx_Entry)]) (cs := [.int .i64 x10.At, .int .u32 x10.Val.Version, .int .u64 x10.Val.Value, .int .u64 x10.Val.Value, .bool false]) rfl Try.underlying45 Try.sizeOf63 Try.zeroValue63 rfl rfl rfl (by kernel_rfl) rfl rfl rfl (fun v24 hr25 => ?_)
      obtain ⟨zs26, hz27, h⟩ := opt_bind h
      refine SO.b3 ?_
      refine SO.append rfl Try.underlying45 Try.underlying45 inf63 rfl rfl rfl (by decide) rfl rfl rfl (Rd.head hr25) hz27 (fun v28 => ?_)
      refine SO.rd fun hr29 => ?_
      refine SO.v rfl (opv_assign rfl) ?_
      refine SO.nil ?_
      refine S.to (ρ' := [(0, bp bp0 0), (2, .slice none 0 0), (3, v28), (18, v5), (19, .int .i64 (t2.length : Int)), (20, .int .i64 x20_1)]) ⟨rfl, rfl, rfl, rfl, rfl, rfl, trivial⟩ ?_
      refine S.inBlock ?_
      refine S.region ?_
      refine SO.v rfl (opv_add rfl rfl) ?_
      refine SO.v rfl (opv_move rfl) ?_
      refine SO.nil ?_
      refine S.b1 ?_
      refine S.drop ?_
      refine S.b1 ?_
      refine S.drop ?_
      refine S.b1 ?_
      refine S.drop ?_
      refine S.b5 ?_
      refine S.b5 ?_
      refine S.b5 ?_
      refine S.b5 ?_
      refine S.b5 ?_
      refine S.b5 ?_
      refine S.to ?_ (ih1 ((zs26, w64 (x20_1 + 1)), v28) h)
      exact ⟨rfl, rfl, rfl, rfl, rfl, rfl, trivial⟩
    replace h := cond_f b9 h
    refine S.condF rfl b9 ?_
    refine S.exit rfl ?_
    cases h
    refine S.b5 ?_
    refine S.b5 ?_
    refine S.b5 ?_
    refine S.b5 ?_
    refine S.b5 ?_
    refine S.b5 ?_
    refine S.to ?_ (hK1 v3_1)
    exact ⟨rfl, rfl, trivial⟩
  rintro v3_e1
  refine S.rd fun hr30 => ?_
  refine S.seq ?_
  refine S.region ?_
  refine SO.v rfl (opv_move rfl) ?_
  refine SO.v rfl (opv_assign rfl) ?_
  refine SO.nil ?_
  cases h
  refine S.b1 ?_
  refine S.drop ?_
  refine S.b4 ?_
  refine S.b4 ?_
  refine S.b3 ?_
  refine S.b4 ?_
  refine S.b4 ?_
  exact S.ret1 Try.func13 rfl rfl (fun w hs hk => hR w _ _ ⟨v3_e1, v0_l, v0_out, rfl, rfl⟩ hs hk)
end Go.Proofs
namespace Go.Proofs
open Go.Sl Go.RowKit
/-! 8 padstone/padstonelaw06.up -/
def law06_up.f (k : Nat) : Option (Bool) :=
  (tx_New.f 5).bind fun t1 => (tx_Tx_Run.f (law06_up_1.f ) t1).bind fun (t6, t7, _, p8) => (tx_Tx_Learn.f p8 3 (⟨8, 2, 0⟩ : api_Cell)).bind fun p11 => (tx_Tx_Run.f (law06_up_2.f ) p11).bind fun (t15, t16, _, p17) => (tx_Tx_Entries.f k p17).bind fun (t20, p21) => (bif ((t6 == 3) && (!t7)) && t16 then ((tx_Tx_Reads.f p21).bind fun t31 => some (t31 == 1)) else (some false)).bind fun c29 => (bif c29 && ((t20.length : Int) == 1) then ((at_ t20 0).bind fun x37 => some (x37.New == 9)) else (some false)).bind fun c35 => (bif c35 then ((at_ t20 0).bind fun x42 => some x42.Write) else (some false)).bind fun c40 => (bif c40 then ((at_ t20 0).bind fun x47 => some (x47.Version == 2)) else (some false)).bind fun c45 => some c45
set_option maxHeartbeats 8000000 in
set_option maxRecDepth 100000 in
theorem law06_up.ct (k : Nat) (r0 : Bool) (h : law06_up.f k  = some r0) :
    Ct Try.prog 8 [] (fun _ => True) [] (fun u H' => u = .bool r0 ∧ H' = []) := by
  unfold law06_up.f at h
  refine Ct.intro (n := 64) Try.func8 rfl rfl rfl ?_
  intro R w0 F hF hR
  refine S.seq ?_
  refine S.region ?_
  refine SO.v rfl (opv_assign rfl) ?_
  refine SO.nil ?_
  refine S.seq ?_
  refine S.region ?_
  obtain ⟨t1, ht2, h⟩ := opt_bind h
  refine SO.call (pre := []) rfl Try.call9 rfl rfl rfl (tx_New.ct _ _ ht2) trivial ?_
  rintro _ _ ⟨b3, u4_l, u4_out, rfl, rfl⟩
  refine SO.v rfl (opv_assign rfl) ?_
  refine SO.nil ?_
  refine S.seq ?_
  refine S.seq ?_
  refine S.region ?_
  refine SO.v rfl (opv_move rfl) ?_
  refine SO.v rfl (opv_eqlP Try.underlying31 rfl) ?_
  refine SO.nil ?_
  refine S.cond_false rfl ?_
  refine S.skip ?_
  refine S.seq ?_
  refine S.region ?_
  refine SO.v rfl (opv_move rfl) ?_
  obtain ⟨⟨t6, t7, _, p8⟩, ht9, h⟩ := opt_bind h
  refine SO.b2 ?_
  refine SO.b2 ?_
  refine SO.b2 ?_
  have ct51 := tx_Tx_Run.ct (law06_up_1.f ) 25 [] (fun _ => True) [] [] b3 u4_l u4_out t1 t6 t7 () p8 ht9 Try.call25 (fun _ _ _ => trivial) (fun s s' hrun => law06_up_1.ct (seenV b3) _ _ hrun)
  try dsimp only at ct51
  refine SO.call (pre := [Box _ _, MapO _ _ _, MapO _ _ _]) rfl Try.call11 rfl rfl rfl ct51 trivial ?_
  rintro _ _ ⟨u10_l, u10_out, rfl, rfl⟩
  refine SO.v rfl (opv_move rfl) ?_
  refine SO.v rfl (opv_extract rfl rfl) ?_
  refine SO.v rfl (opv_extract rfl rfl) ?_
  refine SO.v rfl (opv_assign rfl) ?_
  refine SO.v rfl (opv_assign rfl) ?_
  refine SO.nil ?_
  refine S.to (ρ' := [(0, .bool false), (1, bp b3 0), (2, .int .i64 t6), (3, .bool t7)]) ⟨rfl, rfl, rfl, rfl, trivial⟩ ?_
  refine S.seq ?_
  refine S.region ?_
  refine SO.v rfl (opv_move rfl) ?_
  refine SO.v rfl (opv_build (v := .agg #[.int .u64 8, .int .u32 2, .int .i64 0]) rfl (by intro w; kernel_rfl)) ?_
  obtain ⟨p11, ht12, h⟩ := opt_bind h
  refine SO.b2 ?_
  refine SO.b2 ?_
  refine SO.b2 ?_
  have ct50 := tx_Tx_Learn.ct b3 u10_l u10_out _ _ _ _ ht12
  try dsimp only at ct50
  refine SO.call (pre := [Box _ _, MapO _ _ _, MapO _ _ _]) rfl Try.call10 rfl rfl rfl ct50 trivial ?_
  rintro _ _ ⟨u13_l, u13_out, rfl, rfl⟩
  refine SO.nil ?_
  refine S.seq ?_
  refine S.region ?_
  refine SO.v rfl (opv_move rfl) ?_
  obtain ⟨⟨t15, t16, _, p17⟩, ht18, h⟩ := opt_bind h
  refine SO.b2 ?_
  refine SO.b2 ?_
  refine SO.b2 ?_
  have ct49 := tx_Tx_Run.ct (law06_up_2.f ) 26 [] (fun _ => True) [] [] b3 u13_l u13_out p11 t15 t16 () p17 ht18 Try.call26 (fun _ _ _ => trivial) (fun s s' hrun => law06_up_2.ct (seenV b3) _ _ hrun)
  try dsimp only at ct49
  refine SO.call (pre := [Box _ _, MapO _ _ _, MapO _ _ _]) rfl Try.call11 rfl rfl rfl ct49 trivial ?_
  rintro _ _ ⟨u19_l, u19_out, rfl, rfl⟩
  refine SO.v rfl (opv_move rfl) ?_
  refine SO.v rfl (opv_extract rfl rfl) ?_
  refine SO.v rfl (opv_extract rfl rfl) ?_
  refine SO.v rfl (opv_assign rfl) ?_
  refine SO.v rfl (opv_assign rfl) ?_
  refine SO.nil ?_
  refine S.to (ρ' := [(0, .bool false), (1, bp b3 0), (2, .int .i64 t6), (3, .bool t7), (5, .bool t16)]) ⟨rfl, rfl, rfl, rfl, rfl, trivial⟩ ?_
  refine S.seq ?_
  refine S.region ?_
  refine SO.v rfl (opv_move rfl) ?_
  obtain ⟨⟨t20, p21⟩, ht22, h⟩ := opt_bind h
  refine SO.b2 ?_
  refine SO.b2 ?_
  refine SO.b2 ?_
  refine SO.call (pre := [Box _ _, MapO _ _ _, MapO _ _ _]) rfl Try.call13 rfl rfl rfl (tx_Tx_Entries.ct _ b3 u19_l u19_out _ _ _ ht22) trivial ?_
  rintro v23 _ ⟨_, u25_l, u25_out, rfl, rfl⟩
  refine SO.rd fun hr24 => ?_
  refine SO.v rfl (opv_assign rfl) ?_
  refine SO.nil ?_
  refine S.seq ?_
  refine S.region ?_
  refine SO.v rfl (opv_move rfl) ?_
  refine SO.v rfl (opv_eql rfl rfl) ?_
  refine SO.v rfl (opv_move rfl) ?_
  refine SO.cut 3 30 (.bool ((t6 == 3) && (!t7))) [Own 63 ek_tx_Entry v23 t20, Box b3 [.int .i64 p21.cells, u25_l, u25_out, .int .i64 p21.lack, .bool p21.fine], MapO (aggE ek_api_Cell) u25_l p21.l, MapO (Value.int .u64) u25_out p21.out, F] (fun l2 hk2 => ?_) ?_
  · rcases bool_or (t6 == 3) with b26 | b26
    · refine SO.takeT rfl rfl rfl b26 ?_
      refine SO.v rfl (opv_move rfl) ?_
      refine SO.takeT rfl rfl rfl b26 ?_
      refine SO.v rfl (opv_not rfl) ?_
      refine SO.v rfl (opv_pick_t' b26 rfl rfl) ?_
      refine SO.b4 ?_
      refine SO.b4 ?_
      refine SO.b4 ?_
      refine SO.b4 ?_
      refine SO.b4 ?_
      exact hk2.fitc (m := 3) rfl (and_t b26) rfl
    refine SO.passF rfl rfl rfl b26 rfl rfl ?_
    refine SO.passF rfl rfl rfl b26 rfl rfl ?_
    refine SO.v rfl (opv_pick_f' b26 rfl rfl) ?_
    refine SO.b4 ?_
    refine SO.b4 ?_
    refine SO.b4 ?_
    refine SO.b4 ?_
    refine SO.b4 ?_
    exact hk2.fitc (m := 3) rfl (and_f b26) rfl
  refine SO.v rfl (opv_move rfl) ?_
  refine SO.cut 2 33 (.bool (((t6 == 3) && (!t7)) && t16)) [Own 63 ek_tx_Entry v23 t20, Box b3 [.int .i64 p21.cells, u25_l, u25_out, .int .i64 p21.lack, .bool p21.fine], MapO (aggE ek_api_Cell) u25_l p21.l, MapO (Value.int .u64) u25_out p21.out, F] (fun l2 hk2 => ?_) ?_
  · rcases bool_or ((t6 == 3) && (!t7)) with b27 | b27
    · refine SO.takeT rfl rfl rfl b27 ?_
      refine SO.v rfl (opv_move rfl) ?_
      refine SO.v rfl (opv_pick_t' b27 rfl rfl) ?_
      refine SO.b4 ?_
      refine SO.b4 ?_
      refine SO.b4 ?_
      refine SO.b4 ?_
      refine SO.b4 ?_
      exact hk2.fitc (m := 2) rfl (and_t b27) rfl
    refine SO.passF rfl rfl rfl b27 rfl rfl ?_
    refine SO.v rfl (opv_pick_f' b27 rfl rfl) ?_
    refine SO.b4 ?_
    refine SO.b4 ?_
    refine SO.b4 ?_
    refine SO.b4 ?_
    refine SO.b4 ?_
    exact hk2.fitc (m := 2) rfl (and_f b27) rfl
  refine SO.v rfl (opv_move rfl) ?_
  obtain ⟨c29, hc30, hgk⟩ := opt_bind h
  refine SO.cut 4 38 (.bool c29) [Own 63 ek_tx_Entry v23 t20, Box b3 [.int .i64 p21.cells, u25_l, u25_out, .int .i64 p21.lack, .bool p21.fine], MapO (aggE ek_api_Cell) u25_l p21.l, MapO (Value.int .u64) u25_out p21.out, F] (fun l2 hk2 => ?_) ?_
  · clear hgk
    replace h := hc30
    rcases bool_or (((t6 == 3) && (!t7)) && t16) with b28 | b28
    · replace h := cond_t b28 h
      refine SO.takeT rfl rfl rfl b28 ?_
      refine SO.v rfl (opv_move rfl) ?_
      refine SO.takeT rfl rfl rfl b28 ?_
      obtain ⟨t31, ht32, h⟩ := opt_bind h
      refine SO.b3 ?_
      refine SO.b3 ?_
      refine SO.b3 ?_
      refine SO.call (pre := [Box _ _, MapO _ _ _, MapO _ _ _]) rfl Try.call19 rfl rfl rfl (tx_Tx_Reads.ct b3 u25_l u25_out _ _ ht32) trivial ?_
      rintro _ _ ⟨rfl, rfl⟩
      refine SO.takeT rfl rfl rfl b28 ?_
      refine SO.v rfl (opv_eql rfl rfl) ?_
      cases h
      refine SO.v rfl (opv_pick_t' b28 rfl rfl) ?_
      refine SO.b4 ?_
      refine SO.b3 ?_
      refine SO.b3 ?_
      refine SO.b3 ?_
      refine SO.b4 ?_
      exact hk2.fitc (m := 4) rfl (rfl) rfl
    replace h := cond_f b28 h
    refine SO.passF rfl rfl rfl b28 rfl rfl ?_
    refine SO.passF rfl rfl rfl b28 rfl rfl ?_
    refine SO.passF rfl rfl rfl b28 rfl rfl ?_
    cases h
    refine SO.v rfl (opv_pick_f' b28 rfl rfl) ?_
    refine SO.b4 ?_
    refine SO.b4 ?_
    refine SO.b4 ?_
    refine SO.b4 ?_
    refine SO.b4 ?_
    exact hk2.fitc (m := 4) rfl (rfl) rfl
  clear hc30
  replace h := hgk
  refine SO.v rfl (opv_move rfl) ?_
  refine SO.cut 4 43 (.bool (c29 && ((t20.length : Int) == 1))) [Own 63 ek_tx_Entry v23 t20, Box b3 [.int .i64 p21.cells, u25_l, u25_out, .int .i64 p21.lack, .bool p21.fine], MapO (aggE ek_api_Cell) u25_l p21.l, MapO (Value.int .u64) u25_out p21.out, F] (fun l2 hk2 => ?_) ?_
  · rcases bool_or c29 with b33 | b33
    · refine SO.takeT rfl rfl rfl b33 ?_
      refine SO.v rfl (opv_move rfl) ?_
      refine SO.takeT rfl rfl rfl b33 ?_
      refine SO.v rfl (opv_lenR rfl Try.underlying45 hr24 rfl) ?_
      refine SO.takeT rfl rfl rfl b33 ?_
      refine SO.v rfl (opv_eql rfl rfl) ?_
      refine SO.v rfl (opv_pick_t' b33 rfl rfl) ?_
      refine SO.b4 ?_
      refine SO.b4 ?_
      refine SO.b4 ?_
      refine SO.b4 ?_
      refine SO.b4 ?_
      exact hk2.fitc (m := 4) rfl (and_t b33) rfl
    refine SO.passF rfl rfl rfl b33 rfl rfl ?_
    refine SO.passF rfl rfl rfl b33 rfl rfl ?_
    refine SO.passF rfl rfl rfl b33 rfl rfl ?_
    refine SO.v rfl (opv_pick_f' b33 rfl rfl) ?_
    refine SO.b4 ?_
    refine SO.b4 ?_
    refine SO.b4 ?_
    refine SO.b4 ?_
    refine SO.b4 ?_
    exact hk2.fitc (m := 4) rfl (and_f b33) rfl
  refine SO.v rfl (opv_move rfl) ?_
  obtain ⟨c35, hc36, hgk⟩ := opt_bind h
  refine SO.cut 6 50 (.bool c35) [Own 63 ek_tx_Entry v23 t20, Box b3 [.int .i64 p21.cells, u25_l, u25_out, .int .i64 p21.lack, .bool p21.fine], MapO (aggE ek_api_Cell) u25_l p21.l, MapO (Value.int .u64) u25_out p21.out, F] (fun l2 hk2 => ?_) ?_
  · clear hgk
    replace h := hc36
    rcases bool_or (c29 && ((t20.length : Int) == 1)) with b34 | b34
    · replace h := cond_t b34 h
      refine SO.takeT rfl rfl rfl b34 ?_
      refine SO.v rfl (opv_move rfl) ?_
      refine SO.takeT rfl rfl rfl b34 ?_
      obtain ⟨x37, hx38, h⟩ := opt_bind h
      refine SO.v rfl (opv_idx Try.underlying45 Try.sizeOf63 hr24 rfl rfl hx38) ?_
      refine SO.takeT rfl rfl rfl b34 ?_
      refine SO.v rfl (opv_fieldIdx Try.underlying63 rfl Try.sizeOf35 hr24 hx38 rfl rfl) ?_
      refine SO.takeT rfl rfl rfl b34 ?_
      refine SO.loadI1 (j := 3) rfl Try.isAgg35 (Rd.head hr24) hx38 rfl rfl rfl rfl ?_
      refine SO.takeT rfl rfl rfl b34 ?_
      refine SO.v rfl (opv_eql rfl rfl) ?_
      cases h
      refine SO.v rfl (opv_pick_t' b34 rfl rfl) ?_
      refine SO.b4 ?_
      refine SO.b4 ?_
      refine SO.b4 ?_
      refine SO.b4 ?_
      refine SO.b4 ?_
      exact hk2.fitc (m := 6) rfl (rfl) rfl
    replace h := cond_f b34 h
    refine SO.passF rfl rfl rfl b34 rfl rfl ?_
    refine SO.passF rfl rfl rfl b34 rfl rfl ?_
    refine SO.passF rfl rfl rfl b34 rfl rfl ?_
    refine SO.passF rfl rfl rfl b34 rfl rfl ?_
    refine SO.passF rfl rfl rfl b34 rfl rfl ?_
    cases h
    refine SO.v rfl (opv_pick_f' b34 rfl rfl) ?_
    refine SO.b4 ?_
    refine SO.b4 ?_
    refine SO.b4 ?_
    refine SO.b4 ?_
    refine SO.b4 ?_
    exact hk2.fitc (m := 6) rfl (rfl) rfl
  clear hc36
  replace h := hgk
  refine SO.v rfl (opv_move rfl) ?_
  obtain ⟨c40, hc41, hgk⟩ := opt_bind h
  refine SO.cut 5 56 (.bool c40) [Own 63 ek_tx_Entry v23 t20, Box b3 [.int .i64 p21.cells, u25_l, u25_out, .int .i64 p21.lack, .bool p21.fine], MapO (aggE ek_api_Cell) u25_l p21.l, MapO (Value.int .u64) u25_out p21.out, F] (fun l2 hk2 => ?_) ?_
  · clear hgk
    replace h := hc41
    rcases bool_or c35 with b39 | b39
    · replace h := cond_t b39 h
      refine SO.takeT rfl rfl rfl b39 ?_
      refine SO.v rfl (opv_move rfl) ?_
      refine SO.takeT rfl rfl rfl b39 ?_
      obtain ⟨x42, hx43, h⟩ := opt_bind h
      refine SO.v rfl (opv_idx Try.underlying45 Try.sizeOf63 hr24 rfl rfl hx43) ?_
      refine SO.takeT rfl rfl rfl b39 ?_
      refine SO.v rfl (opv_fieldIdx Try.underlying63 rfl Try.sizeOf4 hr24 hx43 rfl rfl) ?_
      refine SO.takeT rfl rfl rfl b39 ?_
      refine SO.loadI1 (j := 4) rfl Try.isAgg4 (Rd.head hr24) hx43 rfl rfl rfl rfl ?_
      cases h
      refine SO.v rfl (opv_pick_t' b39 rfl rfl) ?_
      refine SO.b4 ?_
      refine SO.b4 ?_
      refine SO.b4 ?_
      refine SO.b4 ?_
      refine SO.b4 ?_
      exact hk2.fitc (m := 5) rfl (rfl) rfl
    replace h := cond_f b39 h
    refine SO.passF rfl rfl rfl b39 rfl rfl ?_
    refine SO.passF rfl rfl rfl b39 rfl rfl ?_
    refine SO.passF rfl rfl rfl b39 rfl rfl ?_
    refine SO.passF rfl rfl rfl b39 rfl rfl ?_
    cases h
    refine SO.v rfl (opv_pick_f' b39 rfl rfl) ?_
    refine SO.b4 ?_
    refine SO.b4 ?_
    refine SO.b4 ?_
    refine SO.b4 ?_
    refine SO.b4 ?_
    exact hk2.fitc (m := 5) rfl (rfl) rfl
  clear hc41
  replace h := hgk
  refine SO.v rfl (opv_move rfl) ?_
  obtain ⟨c45, hc46, hgk⟩ := opt_bind h
  refine SO.cut 6 63 (.bool c45) [Own 63 ek_tx_Entry v23 t20, Box b3 [.int .i64 p21.cells, u25_l, u25_out, .int .i64 p21.lack, .bool p21.fine], MapO (aggE ek_api_Cell) u25_l p21.l, MapO (Value.int .u64) u25_out p21.out, F] (fun l2 hk2 => ?_) ?_
  · clear hgk
    replace h := hc46
    rcases bool_or c40 with b44 | b44
    · replace h := cond_t b44 h
      refine SO.takeT rfl rfl rfl b44 ?_
      refine SO.v rfl (opv_move rfl) ?_
      refine SO.takeT rfl rfl rfl b44 ?_
      obtain ⟨x47, hx48, h⟩ := opt_bind h
      refine SO.v rfl (opv_idx Try.underlying45 Try.sizeOf63 hr24 rfl rfl hx48) ?_
      refine SO.takeT rfl rfl rfl b44 ?_
      refine SO.v rfl (opv_fieldIdx Try.underlying63 rfl Try.sizeOf36 hr24 hx48 rfl rfl) ?_
      refine SO.takeT rfl rfl rfl b44 ?_
      refine SO.loadI1 (j := 1) rfl Try.isAgg36 (Rd.head hr24) hx48 rfl rfl rfl rfl ?_
      refine SO.takeT rfl rfl rfl b44 ?_
      refine SO.v rfl (opv_eql rfl rfl) ?_
      cases h
      refine SO.v rfl (opv_pick_t' b44 rfl rfl) ?_
      refine SO.b4 ?_
      refine SO.b4 ?_
      refine SO.b4 ?_
      refine SO.b4 ?_
      refine SO.b4 ?_
      exact hk2.fitc (m := 6) rfl (rfl) rfl
    replace h := cond_f b44 h
    refine SO.passF rfl rfl rfl b44 rfl rfl ?_
    refine SO.passF rfl rfl rfl b44 rfl rfl ?_
    refine SO.passF rfl rfl rfl b44 rfl rfl ?_
    refine SO.passF rfl rfl rfl b44 rfl rfl ?_
    refine SO.passF rfl rfl rfl b44 rfl rfl ?_
    cases h
    refine SO.v rfl (opv_pick_f' b44 rfl rfl) ?_
    refine SO.b4 ?_
    refine SO.b4 ?_
    refine SO.b4 ?_
    refine SO.b4 ?_
    refine SO.b4 ?_
    exact hk2.fitc (m := 6) rfl (rfl) rfl
  clear hc46
  replace h := hgk
  refine SO.v rfl (opv_assign rfl) ?_
  refine SO.nil ?_
  refine S.to (ρ' := [(0, .bool c45)]) ⟨rfl, trivial⟩ ?_
  cases h
  refine S.drop ?_
  refine S.drop ?_
  refine S.drop ?_
  refine S.drop ?_
  exact S.ret1 Try.func8 rfl rfl (fun w hs hk => hR w _ _ ⟨rfl, rfl⟩ hs hk)
end Go.Proofs
