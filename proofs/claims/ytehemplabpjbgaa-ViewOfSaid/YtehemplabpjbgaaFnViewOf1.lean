/- What the functions that ViewOf reaches come to, and that they do. On no condition. -/
import Derived.Test.YtehemplabpjbgaaFr1
import Derived.Shelf.SlIterI.Nil
import Derived.Shelf.SortM.Plain
import Derived.Shelf.SortM.SortNone
import Derived.Test.YtehemplabpjbgaaProg
import Derived.Test.YtehemplabpjbgaaFnViewOf0
set_option linter.all false
/-! maps.Keys, slices.Sorted. -/
set_option linter.unusedVariables false
namespace Go.Proofs
open Go.RowKit Go.Maps Go.Sort Go.Shelf Go.Sl
def keysL24_ren : Go.Shelf.Ren := ⟨fun | 7 => 24 | 10 => 33 | n => n, fun | 23 => 24 | 26 => 3 | 3 => 3 | 28 => 71 | 0 => 0 | 27 => 70 | 33 => 88 | 4 => 4 | n => n, fun | n => n⟩
theorem keysL24 : Go.Proofs.SlLaysZI.n7 Try.prog keysL24_ren := {
  mixed := by kernel_rfl,
  f7 := ⟨Try.f24.name, by decide, Try.func24.trans (congrArg some (by kernel_rfl))⟩,
  f10 := ⟨Try.f33.name, by decide, Try.func33.trans (congrArg some (by kernel_rfl))⟩,
  t0 := Try.underlying0,
  a0 := Try.isAgg0,
  z0 := Try.sizeOf0,
  v0 := Try.zeroValue0,
  t4 := Try.underlying4,
  a4 := Try.isAgg4,
  z4 := Try.sizeOf4,
  v4 := Try.zeroValue4,
  t23 := Try.underlying24,
  a23 := Try.isAgg24,
  z23 := Try.sizeOf24,
  v23 := Try.zeroValue24,
  t26 := Try.underlying3,
  a26 := Try.isAgg3,
  z26 := Try.sizeOf3,
  v26 := Try.zeroValue3,
  t27 := Try.underlying70,
  a27 := Try.isAgg70,
  z27 := Try.sizeOf70,
  v27 := Try.zeroValue70,
  t28 := Try.underlying71,
  a28 := Try.isAgg71,
  z28 := Try.sizeOf71,
  v28 := Try.zeroValue71,
  t33 := Try.underlying88,
  a33 := Try.isAgg88,
  z33 := Try.sizeOf88,
  v33 := Try.zeroValue88 }
def keysL34_ren : Go.Shelf.Ren := ⟨fun | 7 => 34 | 10 => 39 | n => n, fun | 23 => 73 | 26 => 3 | 3 => 38 | 28 => 71 | 0 => 0 | 27 => 70 | 33 => 88 | 4 => 4 | n => n, fun | n => n⟩
theorem keysL34 : Go.Proofs.SlLaysZI.n7 Try.prog keysL34_ren := {
  mixed := by kernel_rfl,
  f7 := ⟨Try.f34.name, by decide, Try.func34.trans (congrArg some (by kernel_rfl))⟩,
  f10 := ⟨Try.f39.name, by decide, Try.func39.trans (congrArg some (by kernel_rfl))⟩,
  t0 := Try.underlying0,
  a0 := Try.isAgg0,
  z0 := Try.sizeOf0,
  v0 := Try.zeroValue0,
  t4 := Try.underlying4,
  a4 := Try.isAgg4,
  z4 := Try.sizeOf4,
  v4 := Try.zeroValue4,
  t23 := Try.underlying73,
  a23 := Try.isAgg73,
  z23 := Try.sizeOf73,
  v23 := Try.zeroValue73,
  t26 := Try.underlying3,
  a26 := Try.isAgg3,
  z26 := Try.sizeOf3,
  v26 := Try.zeroValue3,
  t27 := Try.underlying70,
  a27 := Try.isAgg70,
  z27 := Try.sizeOf70,
  v27 := Try.zeroValue70,
  t28 := Try.underlying71,
  a28 := Try.isAgg71,
  z28 := Try.sizeOf71,
  v28 := Try.zeroValue71,
  t33 := Try.underlying88,
  a33 := Try.isAgg88,
  z33 := Try.sizeOf88,
  v33 := Try.zeroValue88 }
def sortedL_ren : Go.Shelf.Ren := ⟨fun | 6 => 23 | 8 => 31 | 9 => 32 | 11 => 36 | 13 => 38 | 12 => 37 | 23 => 49 | 24 => 50 | 14 => 40 | 15 => 41 | 16 => 42 | 17 => 43 | 18 => 44 | 19 => 45 | 20 => 46 | 21 => 47 | 22 => 48 | 25 => 51 | 26 => 52 | 27 => 53 | 28 => 54 | 29 => 55 | 30 => 56 | 31 => 57 | n => n, fun | 26 => 3 | 28 => 71 | 24 => 22 | 0 => 0 | 3 => 3 | 37 => 100 | 48 => 36 | 50 => 35 | 4 => 4 | 40 => 103 | 39 => 102 | 45 => 27 | 5 => 5 | 9 => 9 | 51 => 111 | 55 => 115 | 57 => 117 | 58 => 118 | 33 => 88 | n => n, fun | n => n⟩
theorem sortedL : Go.Proofs.SlLaysZI.n6 Try.prog sortedL_ren := {
  mixed := by kernel_rfl,
  f6 := ⟨Try.f23.name, by decide, Try.func23.trans (congrArg some (by kernel_rfl))⟩,
  f8 := ⟨Try.f31.name, by decide, Try.func31.trans (congrArg some (by kernel_rfl))⟩,
  f11 := ⟨Try.f36.name, by decide, Try.func36.trans (congrArg some (by kernel_rfl))⟩,
  t0 := Try.underlying0,
  a0 := Try.isAgg0,
  z0 := Try.sizeOf0,
  v0 := Try.zeroValue0,
  t24 := Try.underlying22,
  a24 := Try.isAgg22,
  z24 := Try.sizeOf22,
  v24 := Try.zeroValue22,
  t26 := Try.underlying3,
  a26 := Try.isAgg3,
  z26 := Try.sizeOf3,
  v26 := Try.zeroValue3,
  t28 := Try.underlying71,
  a28 := Try.isAgg71,
  z28 := Try.sizeOf71,
  v28 := Try.zeroValue71,
  i26 := by kernel_rfl }
def sortL_ren : Go.Shelf.Ren := ⟨fun | 5 => 32 | 8 => 38 | 7 => 37 | 19 => 49 | 20 => 50 | 10 => 40 | 11 => 41 | 12 => 42 | 13 => 43 | 14 => 44 | 15 => 45 | 16 => 46 | 17 => 47 | 18 => 48 | 30 => 51 | 31 => 52 | 32 => 53 | 33 => 54 | 34 => 55 | 35 => 56 | 40 => 57 | n => n, fun | 23 => 22 | 25 => 3 | 3 => 3 | 32 => 100 | 22 => 22 | 0 => 0 | 44 => 36 | 46 => 35 | 4 => 4 | 36 => 103 | 35 => 102 | 41 => 27 | 5 => 5 | 9 => 9 | 53 => 111 | 57 => 115 | 63 => 117 | 64 => 118 | n => n, fun | n => n⟩
theorem sortL : Go.Proofs.SlLaysM.n5 Try.prog sortL_ren := {
  mixed := by kernel_rfl,
  f5 := ⟨Try.f32.name, by decide, Try.func32.trans (congrArg some (by kernel_rfl))⟩,
  f7 := ⟨Try.f37.name, by decide, Try.func37.trans (congrArg some (by kernel_rfl))⟩,
  f8 := Try.func38.trans (congrArg some (by kernel_rfl)),
  f10 := ⟨Try.f40.name, by decide, Try.func40.trans (congrArg some (by kernel_rfl))⟩,
  f11 := ⟨Try.f41.name, by decide, Try.func41.trans (congrArg some (by kernel_rfl))⟩,
  f12 := ⟨Try.f42.name, by decide, Try.func42.trans (congrArg some (by kernel_rfl))⟩,
  f13 := ⟨Try.f43.name, by decide, Try.func43.trans (congrArg some (by kernel_rfl))⟩,
  f14 := ⟨Try.f44.name, by decide, Try.func44.trans (congrArg some (by kernel_rfl))⟩,
  f15 := ⟨Try.f45.name, by decide, Try.func45.trans (congrArg some (by kernel_rfl))⟩,
  f16 := ⟨Try.f46.name, by decide, Try.func46.trans (congrArg some (by kernel_rfl))⟩,
  f17 := ⟨Try.f47.name, by decide, Try.func47.trans (congrArg some (by kernel_rfl))⟩,
  f18 := ⟨Try.f48.name, by decide, Try.func48.trans (congrArg some (by kernel_rfl))⟩,
  f19 := Try.func49.trans (congrArg some (by kernel_rfl)),
  f20 := Try.func50.trans (congrArg some (by kernel_rfl)),
  f30 := ⟨Try.f51.name, by decide, Try.func51.trans (congrArg some (by kernel_rfl))⟩,
  f31 := Try.func52.trans (congrArg some (by kernel_rfl)),
  f32 := Try.func53.trans (congrArg some (by kernel_rfl)),
  f33 := ⟨Try.f54.name, by decide, Try.func54.trans (congrArg some (by kernel_rfl))⟩,
  f34 := ⟨Try.f55.name, by decide, Try.func55.trans (congrArg some (by kernel_rfl))⟩,
  f35 := ⟨Try.f56.name, by decide, Try.func56.trans (congrArg some (by kernel_rfl))⟩,
  f40 := ⟨Try.f57.name, by decide, Try.func57.trans (congrArg some (by kernel_rfl))⟩,
  t0 := Try.underlying0,
  a0 := Try.isAgg0,
  z0 := Try.sizeOf0,
  v0 := Try.zeroValue0,
  t3 := Try.underlying3,
  a3 := Try.isAgg3,
  z3 := Try.sizeOf3,
  v3 := Try.zeroValue3,
  t4 := Try.underlying4,
  a4 := Try.isAgg4,
  z4 := Try.sizeOf4,
  v4 := Try.zeroValue4,
  t5 := Try.underlying5,
  a5 := Try.isAgg5,
  z5 := Try.sizeOf5,
  v5 := Try.zeroValue5,
  t9 := Try.underlying9,
  a9 := Try.isAgg9,
  z9 := Try.sizeOf9,
  v9 := Try.zeroValue9,
  t22 := Try.underlying22,
  a22 := Try.isAgg22,
  z22 := Try.sizeOf22,
  v22 := Try.zeroValue22,
  t23 := Try.underlying22,
  a23 := Try.isAgg22,
  z23 := Try.sizeOf22,
  v23 := Try.zeroValue22,
  t25 := Try.underlying3,
  a25 := Try.isAgg3,
  z25 := Try.sizeOf3,
  v25 := Try.zeroValue3,
  t32 := Try.underlying100,
  a32 := Try.isAgg100,
  z32 := Try.sizeOf100,
  v32 := Try.zeroValue100,
  t35 := Try.underlying102,
  a35 := Try.isAgg102,
  z35 := Try.sizeOf102,
  v35 := Try.zeroValue102,
  t36 := Try.underlying103,
  a36 := Try.isAgg103,
  z36 := Try.sizeOf103,
  v36 := Try.zeroValue103,
  t41 := Try.underlying27,
  a41 := Try.isAgg27,
  z41 := Try.sizeOf27,
  v41 := Try.zeroValue27,
  t44 := Try.underlying36,
  a44 := Try.isAgg36,
  z44 := Try.sizeOf36,
  v44 := Try.zeroValue36,
  t46 := Try.underlying35,
  a46 := Try.isAgg35,
  z46 := Try.sizeOf35,
  v46 := Try.zeroValue35,
  t53 := Try.underlying111,
  a53 := Try.isAgg111,
  z53 := Try.sizeOf111,
  v53 := Try.zeroValue111,
  t57 := Try.underlying115,
  a57 := Try.isAgg115,
  z57 := Try.sizeOf115,
  v57 := Try.zeroValue115,
  t63 := Try.underlying117,
  a63 := Try.isAgg117,
  z63 := Try.sizeOf117,
  v63 := Try.zeroValue117,
  t64 := Try.underlying118,
  a64 := Try.isAgg118,
  z64 := Try.sizeOf118,
  v64 := Try.zeroValue118 }
theorem sortsAll (m : Nat) : AnyZI.SortsIn Try.prog sortedL_ren Fence.wide m :=
  ⟨fun blk off cap ss W hH hblk hsz => callsIn_wide.2 (AnyM.slices_Sort_int sortL blk off cap ss W hH hblk hsz),
   fun p cap W => callsIn_wide.2 (AnyM.slices_Sort_int_none sortL p cap W)⟩
theorem keysO_24 {α : Type} {enc : α → Value} (v : Value) (o : Option (List (Int × α))) : Ct Try.prog 24 [v] (fun _ => True) [MapO enc v o] (fun u H' => ∃ bm, u = .func (.func 33) #[] #[bp bm 0] ∧ H' = [Box bm [v], MapO enc v o]) :=
  Ct.keysO (n := 5) (T := 24) (fun mb W => AnyZI.keys_in keysL24 Fence.wide 5 trivial rfl mb W) v o
theorem sortedO_24 {α : Type} {enc : α → Value} (bm : Nat) (v : Value) (o : Option (List (Int × α))) (ys : List Int) (ho : skeysO o = some ys) : Ct Try.prog 23 [.func (.func 33) #[] #[bp bm 0]] (fun _ => True) [Box bm [v], MapO enc v o] (fun u H' => ∃ r, u = r ∧ H' = [Own 3 (ekI .i64) r ys, Box bm [v], MapO enc v o]) :=
  Ct.sortedO (n := 5) Try.underlying3 (fun w bm b nn D0 hbm hm hown hsz => AnyZI.sorted_in sortedL Fence.wide 5 trivial trivial trivial trivial rfl (by omega) (sortsAll _) (enters_of Try.func32 (by kernel_rfl) rfl) 33 #[.pointer (some ⟨bm, 0, none⟩)] trivial (enters_of Try.func33 (by kernel_rfl) rfl) _ _ (by simp only [maxLen]; omega) (by omega) _ (AnyZI.keys_gives (ρ := keysL24_ren) { keysL24 with } Fence.wide _ trivial rfl (by omega) bm b nn D0 w hbm hm hown)) bm v o ys ho
theorem keysO_34 {α : Type} {enc : α → Value} (v : Value) (o : Option (List (Int × α))) : Ct Try.prog 34 [v] (fun _ => True) [MapO enc v o] (fun u H' => ∃ bm, u = .func (.func 39) #[] #[bp bm 0] ∧ H' = [Box bm [v], MapO enc v o]) :=
  Ct.keysO (n := 5) (T := 73) (fun mb W => AnyZI.keys_in keysL34 Fence.wide 5 trivial rfl mb W) v o
theorem sortedO_34 {α : Type} {enc : α → Value} (bm : Nat) (v : Value) (o : Option (List (Int × α))) (ys : List Int) (ho : skeysO o = some ys) : Ct Try.prog 23 [.func (.func 39) #[] #[bp bm 0]] (fun _ => True) [Box bm [v], MapO enc v o] (fun u H' => ∃ r, u = r ∧ H' = [Own 3 (ekI .i64) r ys, Box bm [v], MapO enc v o]) :=
  Ct.sortedO (n := 5) Try.underlying3 (fun w bm b nn D0 hbm hm hown hsz => AnyZI.sorted_in sortedL Fence.wide 5 trivial trivial trivial trivial rfl (by omega) (sortsAll _) (enters_of Try.func32 (by kernel_rfl) rfl) 39 #[.pointer (some ⟨bm, 0, none⟩)] trivial (enters_of Try.func39 (by kernel_rfl) rfl) _ _ (by simp only [maxLen]; omega) (by omega) _ (AnyZI.keys_gives (ρ := keysL34_ren) { keysL34 with } Fence.wide _ trivial rfl (by omega) bm b nn D0 w hbm hm hown)) bm v o ys ho
end Go.Proofs
namespace Go.Proofs
open Go.Sl Go.RowKit
/-! 7 padstone/view.Of[int] -/
def view_Of_int.l1 (a0 : Option (List (Int × Int))) (ys2 : List Int) : Nat → (Int × (List view_Pair_int)) → Option ((List view_Pair_int))
  | 0, _ => none
  | k + 1, (x10_1, x3_1) => bif decide (x10_1 < (ys2.length : Int)) then ((at_ ys2 x10_1).bind fun x8 => (lk1 a0 x8 (0 : Int)).bind fun x10 => (app x3_1 ([(⟨x8, x10⟩ : view_Pair_int)])).bind fun zs14 => view_Of_int.l1 a0 ys2 k (w64 (x10_1 + 1), zs14)) else (some x3_1)
def view_Of_int.f (k : Nat) (a0 : Option (List (Int × Int))) : Option (((List view_Pair_int) × (Option (List (Int × Int))))) :=
  (skeysO a0).bind fun ys2 => (view_Of_int.l1 a0 ys2 k (0, [])).bind fun j3_e1 => some (j3_e1, a0)
set_option maxHeartbeats 8000000 in
set_option maxRecDepth 100000 in
theorem view_Of_int.ct (k : Nat) (v0 : Value) (a0 : Option (List (Int × Int))) (r0 : List view_Pair_int) (q0 : Option (List (Int × Int))) (h : view_Of_int.f k a0 = some (r0, q0)) :
    Ct Try.prog 7 [v0] (fun _ => True) [MapO (Value.int .i64) v0 a0] (fun u H' => ∃ v_r0, u = v_r0 ∧ H' = [Own 29 ek_view_Pair_int v_r0 r0, MapO (Value.int .i64) v0 q0]) := by
  unfold view_Of_int.f at h
  refine Ct.intro (n := 24) Try.func7 rfl rfl rfl ?_
  intro R w0 F hF hR
  refine S.seq ?_
  refine S.region ?_
  refine SO.v rfl (opv_assign rfl) ?_
  refine SO.nil ?_
  refine S.seq ?_
  refine S.region ?_
  refine SO.v rfl (opv_assign rfl) ?_
  refine SO.nil ?_
  refine S.seq ?_
  refine S.seq ?_
  refine S.region ?_
  refine SO.v rfl (opv_move rfl) ?_
  refine SO.call (pre := [MapO _ _ _]) rfl Try.call24 rfl rfl rfl (keysO_24 (enc := (Value.int .i64)) v0 a0) trivial ?_
  rintro _ _ ⟨b1, rfl, rfl⟩
  obtain ⟨ys2, hy3, h⟩ := opt_bind h
  refine SO.b1 ?_
  refine SO.b1 ?_
  refine SO.call (pre := [Box _ _, MapO _ _ _]) rfl Try.call23 rfl rfl rfl (sortedO_24 (enc := (Value.int .i64)) b1 v0 a0 ys2 hy3) trivial ?_
  rintro v4 _ ⟨_, rfl, rfl⟩
  refine SO.rd fun hr5 => ?_
  refine SO.v rfl (opv_lenR rfl Try.underlying22 hr5 rfl) ?_
  refine SO.v rfl (opv_move rfl) ?_
  refine SO.nil ?_
  obtain ⟨j3_e1, hl1, h⟩ := opt_bind h
  refine S.newOwn 29 ek_view_Pair_int ?_
  refine S.b4 ?_
  refine S.b4 ?_
  refine S.b4 ?_
  refine S.b4 ?_
  refine S.b4 ?_
  refine S.to (ρ' := [(10, .int .i64 0), (9, .int .i64 (ys2.length : Int)), (8, v4), (3, .slice none 0 0), (2, .slice none 0 0), (0, v0)]) ⟨rfl, rfl, rfl, rfl, rfl, rfl, trivial⟩ ?_
  refine S.forloop (X := (Int × (List view_Pair_int)) × Value) (O := (List view_Pair_int)) (fun m x => view_Of_int.l1 a0 ys2 m x.1) (fun x => match x with | ((x10_1, x3_1), v3_1) => [(10, .int .i64 x10_1), (9, .int .i64 (ys2.length : Int)), (8, v4), (3, v3_1), (2, .slice none 0 0), (0, v0)]) (fun x => match x with | ((x10_1, x3_1), v3_1) => [Own 29 ek_view_Pair_int v3_1 x3_1, Own 3 (ekI .i64) v4 ys2, Box b1 [v0], MapO (Value.int .i64) v0 a0, F]) (fun Sk => (fun j3_e1 => ∀ v3_e1 : Value, Sk [(2, .slice none 0 0), (3, v3_e1)] [Own 29 ek_view_Pair_int v3_e1 j3_e1, Own 3 (ekI .i64) v4 ys2, Box b1 [v0], MapO (Value.int .i64) v0 a0, F])) (fun _ => rfl) ?_ (m := k) (x := ((0, []), .slice none 0 0)) hl1 ?_
  · clear h hl1
    intro k x o_1 h hK1 ih1
    obtain ⟨⟨x10_1, x3_1⟩, v3_1⟩ := x
    replace h : view_Of_int.l1 a0 ys2 (k + 1) (x10_1, x3_1) = some o_1 := h
    first | rw [view_Of_int.l1] at h | unfold view_Of_int.l1 at h
    refine S.rd fun hr6 => ?_
    refine S.seq ?_
    refine S.region ?_
    refine SO.v rfl (opv_lss rfl rfl) ?_
    refine SO.nil ?_
    refine S.seq ?_
    rcases bool_or (decide (x10_1 < (ys2.length : Int))) with b7 | b7
    · replace h := cond_t b7 h
      refine S.condT rfl b7 ?_
      refine S.skip ?_
      refine S.seq ?_
      refine S.block ?_
      refine S.seq ?_
      refine S.region ?_
      obtain ⟨x8, hx9, h⟩ := opt_bind h
      refine SO.v rfl (opv_idx Try.underlying22 Try.sizeOf3 hr5 rfl rfl hx9) ?_
      refine SO.loadI1 (j := 0) rfl Try.isAgg3 (Rd.tail (Rd.head hr5)) hx9 rfl rfl rfl rfl ?_
      refine SO.v rfl (opv_assign rfl) ?_
      refine SO.nil ?_
      refine S.region ?_
      refine SO.v rfl (opv_move rfl) ?_
      refine SO.v rfl (opv_move rfl) ?_
      refine SO.v rfl (opv_move rfl) ?_
      refine SO.v rfl (opv_move rfl) ?_
      obtain ⟨x10, hl11, h⟩ := opt_bind h
      refine SO.b3 ?_
      refine SO.lookup1O (enc := (Value.int .i64)) (zx := (0 : Int)) rfl Try.underlying24 Try.underlying3 Try.zeroValue3 rfl rfl hl11 ?_
      refine SO.v rfl (opv_build (v := .agg #[.int .i64 x8, .int .i64 x10]) rfl (by intro w; kernel_rfl)) ?_
      refine SO.buildSlice (K := ek_view_Pair_int) (xs := [(⟨x8, x10⟩ : view_Pair_int)]) (cs := [.int .i64 x8, .int .i64 x10]) rfl Try.underlying25 Try.sizeOf29 Try.zeroValue29 rfl rfl rfl (by kernel_rfl) rfl rfl rfl (fun v12 hr13 => ?_)
      obtain ⟨zs14, hz15, h⟩ := opt_bind h
      refine SO.b2 ?_
      refine SO.append rfl Try.underlying25 Try.underlying25 inf29 rfl rfl rfl (by decide) rfl rfl rfl (Rd.head hr13) hz15 (fun v16 => ?_)
      refine SO.rd fun hr17 => ?_
      refine SO.v rfl (opv_assign rfl) ?_
      refine SO.nil ?_
      refine S.to (ρ' := [(10, .int .i64 x10_1), (9, .int .i64 (ys2.length : Int)), (8, v4), (3, v16), (2, .slice none 0 0), (0, v0)]) ⟨rfl, rfl, rfl, rfl, rfl, rfl, trivial⟩ ?_
      refine S.inBlock ?_
      refine S.region ?_
      refine SO.v rfl (opv_add rfl rfl) ?_
      refine SO.v rfl (opv_move rfl) ?_
      refine SO.nil ?_
      refine S.b1 ?_
      refine S.drop ?_
      refine S.b4 ?_
      refine S.b2 ?_
      refine S.b4 ?_
      refine S.b4 ?_
      refine S.b4 ?_
      refine S.to ?_ (ih1 ((w64 (x10_1 + 1), zs14), v16) h)
      exact ⟨rfl, rfl, rfl, rfl, rfl, rfl, trivial⟩
    · replace h := cond_f b7 h
      refine S.condF rfl b7 ?_
      refine S.exit rfl ?_
      cases h
      refine S.b4 ?_
      refine S.b4 ?_
      refine S.b4 ?_
      refine S.b4 ?_
      refine S.b4 ?_
      refine S.to ?_ (hK1 v3_1)
      exact ⟨rfl, rfl, trivial⟩
  rintro v3_e1
  refine S.rd fun hr18 => ?_
  refine S.seq ?_
  refine S.region ?_
  refine SO.v rfl (opv_move rfl) ?_
  refine SO.v rfl (opv_assign rfl) ?_
  refine SO.nil ?_
  cases h
  refine S.b1 ?_
  refine S.drop ?_
  refine S.b1 ?_
  refine S.drop ?_
  refine S.b2 ?_
  refine S.b2 ?_
  refine S.b2 ?_
  exact S.ret1 Try.func7 rfl rfl (fun w hs hk => hR w _ _ ⟨v3_e1, rfl, rfl⟩ hs hk)
end Go.Proofs
namespace Go.Proofs
open Go.Sl Go.RowKit
/-! 3 padstone/padstonelaw05.ViewOf -/
def law05_ViewOf.l1 (a0 : List Int) (a1 : List Int) : Nat → (Int × (Option (List (Int × Int)))) → Option ((Option (List (Int × Int))))
  | 0, _ => none
  | k + 1, (x7_1, qv5_1) => bif decide (x7_1 < (a0.length : Int)) then ((at_ a0 x7_1).bind fun x7 => (at_ a1 x7_1).bind fun x9 => (mputO qv5_1 x7 x9).bind fun zs11 => law05_ViewOf.l1 a0 a1 k (w64 (x7_1 + 1), zs11)) else (some qv5_1)
def law05_ViewOf.l2 (t13 : List view_Pair_int) (q14 : Option (List (Int × Int))) : Nat → Int → Option (Brk Bool Unit)
  | 0, _ => none
  | k + 1, x9_2 => bif decide (x9_2 < (t13.length : Int)) then ((at_ t13 x9_2).bind fun x21 => (lkO q14 x21.At (0 : Int)).bind fun (x23, c25) => (bif !c25 then (some true) else ((at_ t13 x9_2).bind fun x27 => bif x23 != x27.Val then (some true) else (bif decide (0 < x9_2) then ((at_ t13 x9_2).bind fun x31 => (at_ t13 (w64 (x9_2 - 1))).bind fun x33 => some (decide (x31.At ≤ x33.At))) else (some false)))).bind fun j91_3 => bif j91_3 then (some (Brk.ret false)) else (law05_ViewOf.l2 t13 q14 k (w64 (x9_2 + 1)))) else (some (Brk.nx ()))
def law05_ViewOf.f (k : Nat) (a0 : List Int) (a1 : List Int) : Option (Bool) :=
  (law05_up.f ).bind fun t1 => bif (decide (100 < (a0.length : Int))) || (decide ((a1.length : Int) < (a0.length : Int))) then (some t1) else ((law05_ViewOf.l1 a0 a1 k (0, (some [] : Option (List (Int × Int))))).bind fun qv5_e1 => (view_Of_int.f k qv5_e1).bind fun (t13, q14) => bif (t13.length : Int) != (mlenO q14) then (some false) else ((law05_ViewOf.l2 t13 q14 k 0).bind fun o2 => Brk.go o2 (fun r => some r) (fun _ => some t1)))
set_option maxHeartbeats 8000000 in
set_option maxRecDepth 100000 in
theorem law05_ViewOf.ct (k : Nat) (v0 : Value) (v1 : Value) (a0 : List Int) (a1 : List Int) (r0 : Bool) (h : law05_ViewOf.f k a0 a1 = some r0) :
    Ct Try.prog 3 [v0, v1] (fun F => Rd (ekI .i64) v0 a0 F ∧ Rd (ekI .i64) v1 a1 F) [] (fun u H' => u = .bool r0 ∧ H' = []) := by
  unfold law05_ViewOf.f at h
  refine Ct.intro (n := 93) Try.func3 rfl rfl rfl ?_
  intro R w0 F hF hR
  obtain ⟨hF0, hF1⟩ := hF
  refine S.seq ?_
  refine S.region ?_
  refine SO.v rfl (opv_assign rfl) ?_
  refine SO.nil ?_
  refine S.seq ?_
  refine S.region ?_
  obtain ⟨t1, ht2, h⟩ := opt_bind h
  refine SO.call (pre := []) rfl Try.call6 rfl rfl rfl (law05_up.ct _ ht2) trivial ?_
  rintro _ _ ⟨rfl, rfl⟩
  refine SO.v rfl (opv_assign rfl) ?_
  refine SO.nil ?_
  refine S.seq ?_
  refine S.seq ?_
  refine S.region ?_
  refine SO.v rfl (opv_move rfl) ?_
  refine SO.v rfl (opv_lenR rfl Try.underlying22 hF0 rfl) ?_
  refine SO.v rfl (opv_gtr rfl rfl) ?_
  refine SO.v rfl (opv_move rfl) ?_
  refine SO.cut 6 22 (.bool ((decide (100 < (a0.length : Int))) || (decide ((a1.length : Int) < (a0.length : Int))))) [F] (fun l2 hk2 => ?_) ?_
  · rcases bool_or (decide (100 < (a0.length : Int))) with b3 | b3
    · refine SO.passF rfl rfl rfl b3 rfl rfl ?_
      refine SO.passF rfl rfl rfl b3 rfl rfl ?_
      refine SO.passF rfl rfl rfl b3 rfl rfl ?_
      refine SO.passF rfl rfl rfl b3 rfl rfl ?_
      refine SO.passF rfl rfl rfl b3 rfl rfl ?_
      refine SO.v rfl (opv_pick_t' b3 rfl rfl) ?_
      exact hk2.fitc (m := 6) rfl (or_t b3) rfl
    · refine SO.takeT rfl rfl rfl b3 ?_
      refine SO.v rfl (opv_move rfl) ?_
      refine SO.takeT rfl rfl rfl b3 ?_
      refine SO.v rfl (opv_lenR rfl Try.underlying22 hF1 rfl) ?_
      refine SO.takeT rfl rfl rfl b3 ?_
      refine SO.v rfl (opv_move rfl) ?_
      refine SO.takeT rfl rfl rfl b3 ?_
      refine SO.v rfl (opv_lenR rfl Try.underlying22 hF0 rfl) ?_
      refine SO.takeT rfl rfl rfl b3 ?_
      refine SO.v rfl (opv_lss rfl rfl) ?_
      refine SO.v rfl (opv_pick_f' b3 rfl rfl) ?_
      exact hk2.fitc (m := 6) rfl (or_f b3) rfl
  refine SO.nil ?_
  rcases bool_or ((decide (100 < (a0.length : Int))) || (decide ((a1.length : Int) < (a0.length : Int)))) with b4 | b4
  · replace h := cond_t b4 h
    refine S.condT rfl b4 ?_
    refine S.seq ?_
    refine S.region ?_
    refine SO.v rfl (opv_move rfl) ?_
    refine SO.v rfl (opv_assign rfl) ?_
    refine SO.nil ?_
    refine S.to (ρ' := [(4, .bool t1)]) ⟨rfl, trivial⟩ ?_
    cases h
    exact S.ret1 Try.func3 rfl rfl (fun w hs hk => hR w _ _ ⟨rfl, rfl⟩ hs hk)
  · replace h := cond_f b4 h
    refine S.condF rfl b4 ?_
    refine S.skip ?_
    refine S.seq ?_
    refine S.region ?_
    refine SO.makeMapO (Value.int .i64) rfl (fun v5 => ?_)
    refine SO.v rfl (opv_assign rfl) ?_
    refine SO.nil ?_
    refine S.to (ρ' := [(0, v0), (1, v1), (4, .bool false), (5, .bool t1), (6, v5)]) ⟨rfl, rfl, rfl, rfl, rfl, trivial⟩ ?_
    refine S.seq ?_
    refine S.seq ?_
    refine S.region ?_
    refine SO.v rfl (opv_assign rfl) ?_
    refine SO.nil ?_
    obtain ⟨qv5_e1, hl1, h⟩ := opt_bind h
    refine S.b1 ?_
    refine S.b1 ?_
    refine S.to (ρ' := [(7, .int .i64 0), (0, v0), (1, v1), (4, .bool false), (5, .bool t1), (6, v5)]) ⟨rfl, rfl, rfl, rfl, rfl, rfl, trivial⟩ ?_
    refine S.forloop (X := (Int × (Option (List (Int × Int)))) × Unit) (O := (Option (List (Int × Int)))) (fun m x => law05_ViewOf.l1 a0 a1 m x.1) (fun x => match x with | ((x7_1, qv5_1), _) => [(7, .int .i64 x7_1), (0, v0), (1, v1), (4, .bool false), (5, .bool t1), (6, v5)]) (fun x => match x with | ((x7_1, qv5_1), _) => [MapO (Value.int .i64) v5 qv5_1, F]) (fun Sk => (fun qv5_e1 => ∀ _ : Unit, Sk [(4, .bool false), (5, .bool t1), (6, v5)] [MapO (Value.int .i64) v5 qv5_e1, F])) (fun _ => rfl) ?_ (m := k) (x := ((0, (some [] : Option (List (Int × Int)))), ())) hl1 ?_
    · clear h hl1
      intro k x o_1 h hK1 ih1
      obtain ⟨⟨x7_1, qv5_1⟩, _⟩ := x
      replace h : law05_ViewOf.l1 a0 a1 (k + 1) (x7_1, qv5_1) = some o_1 := h
      first | rw [law05_ViewOf.l1] at h | unfold law05_ViewOf.l1 at h
      refine S.seq ?_
      refine S.seq ?_
      refine S.region ?_
      refine SO.v rfl (opv_move rfl) ?_
      refine SO.v rfl (opv_move rfl) ?_
      refine SO.v rfl (opv_lenR rfl Try.underlying22 hF0 rfl) ?_
      refine SO.v rfl (opv_lss rfl rfl) ?_
      refine SO.nil ?_
      rcases bool_or (decide (x7_1 < (a0.length : Int))) with b6 | b6
      · replace h := cond_t b6 h
        refine S.condT rfl b6 ?_
        refine S.skip ?_
        refine S.seq ?_
        refine S.block ?_
        obtain ⟨x7, hx8, h⟩ := opt_bind h
        obtain ⟨x9, hx10, h⟩ := opt_bind h
        obtain ⟨zs11, hz12, h⟩ := opt_bind h
        refine S.draw' (Z := fun Q => ∀ (_ : Unit) (_ : Unit) (_ : Unit) (_ : Unit) (_ : Unit) (_ : Unit) (_ : Unit), Q [(7, .int .i64 x7_1), (0, v0), (1, v1), (4, .bool false), (5, .bool t1), (6, v5)] [MapO (Value.int .i64) v5 zs11, F]) (T := [tS 6 (v5), tS 0 (v0), tS 7 (.int .i64 x7_1), tS 1 (v1), tE [(4, .bool false), (5, .bool t1)], tR (MapO (Value.int .i64) v5 qv5_1), tR (F), tS 31 (v5), tS 32 (v0), tS 33 (.int .i64 x7_1), tS 34 (idxp v0 (x7_1.toNat * (ekI .i64).sz)), tS 35 (.int .i64 x7), tS 36 (v1), tS 37 (.int .i64 x7_1), tS 38 (idxp v1 (x7_1.toNat * (ekI .i64).sz)), tS 39 (.int .i64 x9), tR (MapO (Value.int .i64) v5 zs11)]) (D := [⟨[0], [], [7]⟩, ⟨[1], [], [8]⟩, ⟨[2], [], [9]⟩, ⟨[8, 9, 6], [], [10]⟩, ⟨[10, 6], [], [11]⟩, ⟨[3], [], [12]⟩, ⟨[2], [], [13]⟩, ⟨[12, 13, 6], [], [14]⟩, ⟨[14, 6], [], [15]⟩, ⟨[7, 11, 15], [5], [16]⟩]) (ini := [0, 1, 2, 3, 4, 5, 6]) (fin := [2, 1, 3, 4, 0, 16, 6]) (bf := [[], [], [], [1, 2], [1, 2, 3], [], [], [5, 6], [5, 6, 7], [0, 1, 2, 3, 4, 5, 6, 7, 8]]) (by kernel_rfl) (by kernel_rfl) (fun x w h1 h2 => (.cons () (.cons () (.cons () (.cons () (.cons () (.cons () (.cons () (.nil ⟨EnvAll.of h1 ⟨rfl, rfl, rfl, rfl, rfl, rfl, trivial⟩, h2⟩))))))))) (fun Q => by kernel_rfl) ⟨?_, ?_, ?_, ?_, ?_, ?_, ?_, ?_, ?_, ?_, trivial⟩ ?_
        · rintro Fr _
          refine SO.v rfl (opv_move rfl) ?_
          exact SO.nilZ fun a w h1 h2 h3 h4 h5 => PZ.of h1 h3 h5 (.cons () (.cons () (.nil ⟨EnvAll.of h2 ⟨rfl, rfl, trivial⟩, h4⟩)))
        · rintro Fr _
          refine SO.v rfl (opv_move rfl) ?_
          exact SO.nilZ fun a w h1 h2 h3 h4 h5 => PZ.of h1 h3 h5 (.cons () (.cons () (.nil ⟨EnvAll.of h2 ⟨rfl, rfl, trivial⟩, h4⟩)))
        · rintro Fr _
          refine SO.v rfl (opv_move rfl) ?_
          exact SO.nilZ fun a w h1 h2 h3 h4 h5 => PZ.of h1 h3 h5 (.cons () (.cons () (.nil ⟨EnvAll.of h2 ⟨rfl, rfl, trivial⟩, h4⟩)))
        · rintro Fr _ _ _
          refine SO.v rfl (opv_idx Try.underlying22 Try.sizeOf3 hF0 rfl rfl hx8) ?_
          exact SO.nilZ fun a w h1 h2 h3 h4 h5 => PZ.of h1 h3 h5 (.cons () (.cons () (.cons () (.cons () (.nil ⟨EnvAll.of h2 ⟨rfl, rfl, rfl, trivial⟩, h4⟩)))))
        · rintro Fr _ _
          refine SO.loadI1 (j := 0) rfl Try.isAgg3 (Rd.head hF0) hx8 rfl rfl rfl rfl ?_
          exact SO.nilZ fun a w h1 h2 h3 h4 h5 => PZ.of h1 h3 h5 (.cons () (.cons () (.cons () (.nil ⟨EnvAll.of h2 ⟨rfl, rfl, trivial⟩, h4⟩))))
        · rintro Fr _
          refine SO.v rfl (opv_move rfl) ?_
          exact SO.nilZ fun a w h1 h2 h3 h4 h5 => PZ.of h1 h3 h5 (.cons () (.cons () (.nil ⟨EnvAll.of h2 ⟨rfl, rfl, trivial⟩, h4⟩)))
        · rintro Fr _
          refine SO.v rfl (opv_move rfl) ?_
          exact SO.nilZ fun a w h1 h2 h3 h4 h5 => PZ.of h1 h3 h5 (.cons () (.cons () (.nil ⟨EnvAll.of h2 ⟨rfl, rfl, trivial⟩, h4⟩)))
        · rintro Fr _ _ _
          refine SO.v rfl (opv_idx Try.underlying22 Try.sizeOf3 hF1 rfl rfl hx10) ?_
          exact SO.nilZ fun a w h1 h2 h3 h4 h5 => PZ.of h1 h3 h5 (.cons () (.cons () (.cons () (.cons () (.nil ⟨EnvAll.of h2 ⟨rfl, rfl, rfl, trivial⟩, h4⟩)))))
        · rintro Fr _ _
          refine SO.loadI1 (j := 0) rfl Try.isAgg3 (Rd.head hF1) hx10 rfl rfl rfl rfl ?_
          exact SO.nilZ fun a w h1 h2 h3 h4 h5 => PZ.of h1 h3 h5 (.cons () (.cons () (.cons () (.nil ⟨EnvAll.of h2 ⟨rfl, rfl, trivial⟩, h4⟩))))
        · rintro Fr _ _ _ _
          refine SO.mapUpdateO (enc := (Value.int .i64)) (u := x9) Try.underlying24 Try.underlying3 rfl rfl rfl hz12 ?_
          exact SO.nilZ fun a w h1 h2 h3 h4 h5 => PZ.of h1 h3 h5 (.cons () (.cons () (.cons () (.cons () (.nil ⟨EnvAll.of h2 ⟨rfl, rfl, rfl, trivial⟩, h4⟩)))))
        rintro _ _ _ _ _ _ _
        refine S.to (ρ' := [(7, .int .i64 x7_1), (0, v0), (1, v1), (4, .bool false), (5, .bool t1), (6, v5)]) ⟨rfl, rfl, rfl, rfl, rfl, rfl, trivial⟩ ?_
        refine S.inBlock ?_
        refine S.region ?_
        refine SO.v rfl (opv_move rfl) ?_
        refine SO.v rfl (opv_add rfl rfl) ?_
        refine SO.v rfl (opv_assign rfl) ?_
        refine SO.nil ?_
        refine S.b1 ?_
        refine S.b1 ?_
        refine S.to ?_ (ih1 ((w64 (x7_1 + 1), zs11), ()) h)
        exact ⟨rfl, rfl, rfl, rfl, rfl, rfl, trivial⟩
      · replace h := cond_f b6 h
        refine S.condF rfl b6 ?_
        refine S.exit rfl ?_
        cases h
        refine S.b1 ?_
        refine S.b1 ?_
        refine S.to ?_ (hK1 ())
        exact ⟨rfl, rfl, rfl, trivial⟩
    rintro _
    refine S.seq ?_
    refine S.region ?_
    refine SO.v rfl (opv_move rfl) ?_
    obtain ⟨⟨t13, q14⟩, ht15, h⟩ := opt_bind h
    refine SO.call (pre := [MapO _ _ _]) rfl Try.call7 rfl rfl rfl (view_Of_int.ct _ v5 _ _ _ ht15) trivial ?_
    rintro v16 _ ⟨_, rfl, rfl⟩
    refine SO.rd fun hr17 => ?_
    refine SO.v rfl (opv_assign rfl) ?_
    refine SO.nil ?_
    refine S.seq ?_
    refine S.seq ?_
    refine S.region ?_
    refine SO.v rfl (opv_move rfl) ?_
    refine SO.v rfl (opv_lenR rfl Try.underlying25 hr17 rfl) ?_
    refine SO.v rfl (opv_move rfl) ?_
    refine SO.b1 ?_
    refine SO.lenMapO (enc := (Value.int .i64)) rfl Try.underlying24 rfl ?_
    refine SO.v rfl (opv_neq rfl rfl) ?_
    refine SO.nil ?_
    rcases bool_or ((t13.length : Int) != (mlenO q14)) with b19 | b19
    · replace h := cond_t b19 h
      refine S.condT rfl b19 ?_
      refine S.seq ?_
      refine S.region ?_
      refine SO.v rfl (opv_assign rfl) ?_
      refine SO.nil ?_
      refine S.to (ρ' := [(4, .bool false)]) ⟨rfl, trivial⟩ ?_
      cases h
      refine S.drop ?_
      refine S.drop ?_
      exact S.ret1 Try.func3 rfl rfl (fun w hs hk => hR w _ _ ⟨rfl, rfl⟩ hs hk)
    · replace h := cond_f b19 h
      refine S.condF rfl b19 ?_
      refine S.skip ?_
      refine S.seq ?_
      refine S.seq ?_
      refine S.region ?_
      refine SO.v rfl (opv_assign rfl) ?_
      refine SO.nil ?_
      refine S.to (ρ' := [(4, .bool false), (5, .bool t1), (6, v5), (8, v16), (9, .int .i64 0)]) ⟨rfl, rfl, rfl, rfl, rfl, trivial⟩ ?_
      obtain ⟨o2, hl2, h⟩ := opt_bind h
      refine S.b2 ?_
      refine S.b2 ?_
      refine S.b2 ?_
      refine S.to (ρ' := [(4, .bool false), (5, .bool t1), (6, v5), (8, v16), (9, .int .i64 0)]) ⟨rfl, rfl, rfl, rfl, rfl, trivial⟩ ?_
      refine S.forloop (X := Int × Unit) (O := Brk Bool Unit) (fun m x => law05_ViewOf.l2 t13 q14 m x.1) (fun x => match x with | (x9_2, _) => [(4, .bool false), (5, .bool t1), (6, v5), (8, v16), (9, .int .i64 x9_2)]) (fun x => match x with | (x9_2, _) => [MapO (Value.int .i64) v5 q14, Own 29 ek_view_Pair_int v16 t13, F]) (fun Sk o' => (∀ r', o' = Brk.ret r' → some r' = some r0) ∧ ∀ _ : Unit, ∀ _ : Unit, o' = Brk.nx () → Sk [(4, .bool false), (5, .bool t1)] [MapO (Value.int .i64) v5 q14, Own 29 ek_view_Pair_int v16 t13, F]) (fun _ => rfl) ?_ (m := k) (x := (0, ())) hl2 ?_
      · clear h hl2
        intro k x o_2 h hK2 ih2
        obtain ⟨x9_2, _⟩ := x
        replace h : law05_ViewOf.l2 t13 q14 (k + 1) x9_2 = some o_2 := h
        first | rw [law05_ViewOf.l2] at h | unfold law05_ViewOf.l2 at h
        refine S.seq ?_
        refine S.seq ?_
        refine S.region ?_
        refine SO.v rfl (opv_move rfl) ?_
        refine SO.v rfl (opv_move rfl) ?_
        refine SO.v rfl (opv_lenR rfl Try.underlying25 hr17 rfl) ?_
        refine SO.v rfl (opv_lss rfl rfl) ?_
        refine SO.nil ?_
        rcases bool_or (decide (x9_2 < (t13.length : Int))) with b20 | b20
        · replace h := cond_t b20 h
          refine S.condT rfl b20 ?_
          refine S.skip ?_
          refine S.seq ?_
          refine S.block ?_
          refine S.seq ?_
          refine S.region ?_
          refine SO.v rfl (opv_move rfl) ?_
          refine SO.v rfl (opv_move rfl) ?_
          refine SO.v rfl (opv_move rfl) ?_
          obtain ⟨x21, hx22, h⟩ := opt_bind h
          refine SO.v rfl (opv_idx Try.underlying25 Try.sizeOf29 hr17 rfl rfl hx22) ?_
          refine SO.v rfl (opv_fieldIdx Try.underlying29 rfl Try.sizeOf3 hr17 hx22 rfl rfl) ?_
          refine SO.loadI1 (j := 0) rfl Try.isAgg3 (Rd.tail (Rd.head hr17)) hx22 rfl rfl rfl rfl ?_
          obtain ⟨⟨x23, c25⟩, hl24, h⟩ := opt_bind h
          refine SO.lookupOkO (enc := (Value.int .i64)) (zx := (0 : Int)) rfl Try.underlying24 Try.underlying3 Try.zeroValue3 rfl rfl hl24 ?_
          refine SO.v rfl (opv_move rfl) ?_
          refine SO.v rfl (opv_extract rfl rfl) ?_
          refine SO.v rfl (opv_extract rfl rfl) ?_
          refine SO.v rfl (opv_assign rfl) ?_
          refine SO.v rfl (opv_assign rfl) ?_
          refine SO.nil ?_
          refine S.to (ρ' := [(4, .bool false), (5, .bool t1), (6, v5), (8, v16), (9, .int .i64 x9_2), (10, .int .i64 x23), (11, .bool c25)]) ⟨rfl, rfl, rfl, rfl, rfl, rfl, rfl, trivial⟩ ?_
          refine S.seq ?_
          obtain ⟨j91_3, hC3, hJ3⟩ := opt_bind h
          clear h
          refine S.cutP (G := Unit) (fun _ => True) (fun _ => [(4, .bool false), (5, .bool t1), (6, v5), (8, v16), (9, .int .i64 x9_2), (91, .bool j91_3)]) (fun _ => [MapO (Value.int .i64) v5 q14, Own 29 ek_view_Pair_int v16 t13, F]) (fun hk3 => ?_) ?_
          · replace h := hC3
            rcases bool_or (!c25) with b26 | b26
            · replace h := cond_t b26 h
              refine S.draw' (Z := fun Q => ∀ (_ : Unit) (_ : Unit) (_ : Unit) (_ : Unit) (_ : Unit) (_ : Unit) (_ : Unit), Q [(4, .bool false), (5, .bool t1), (6, v5), (8, v16), (9, .int .i64 x9_2), (91, .bool true)] [MapO (Value.int .i64) v5 q14, Own 29 ek_view_Pair_int v16 t13, F]) (T := [tS 11 (.bool c25), tS 10 (.int .i64 x23), tS 8 (v16), tS 9 (.int .i64 x9_2), tE [(4, .bool false), (5, .bool t1), (6, v5)], tR (MapO (Value.int .i64) v5 q14), tR (Own 29 ek_view_Pair_int v16 t13), tR (F), tS 63 (.bool c25), tS 64 (.bool (!c25)), tS 65 (.bool (!c25)), tS 66 (undef), tS 67 (undef), tS 68 (undef), tS 69 (undef), tS 70 (undef), tS 71 (undef), tS 72 (undef), tS 73 (.bool true), tS 74 (.bool true), tS 75 (undef), tS 76 (undef), tS 77 (undef), tS 78 (undef), tS 79 (undef), tS 80 (undef), tS 81 (undef), tS 82 (undef), tS 83 (undef), tS 84 (undef), tS 85 (undef), tS 86 (undef), tS 87 (undef), tS 88 (undef), tS 89 (undef), tS 90 (undef), tS 91 (.bool true)]) (D := [⟨[0], [], [8]⟩, ⟨[8], [], [9]⟩, ⟨[9], [], [10]⟩, ⟨[10], [], [11]⟩, ⟨[10], [], [12]⟩, ⟨[10], [], [13]⟩, ⟨[10], [], [14]⟩, ⟨[10], [], [15]⟩, ⟨[10], [], [16]⟩, ⟨[10], [], [17]⟩, ⟨[10, 17], [], [18]⟩, ⟨[18], [], [19]⟩, ⟨[19], [], [20]⟩, ⟨[19], [], [21]⟩, ⟨[19], [], [22]⟩, ⟨[22], [], [23]⟩, ⟨[22], [], [24]⟩, ⟨[22], [], [25]⟩, ⟨[22], [], [26]⟩, ⟨[22], [], [27]⟩, ⟨[22], [], [28]⟩, ⟨[22], [], [29]⟩, ⟨[22], [], [30]⟩, ⟨[22], [], [31]⟩, ⟨[22], [], [32]⟩, ⟨[22], [], [33]⟩, ⟨[22], [], [34]⟩, ⟨[19], [], [35]⟩, ⟨[19, 35], [], [36]⟩]) (ini := [0, 1, 2, 3, 4, 5, 6, 7]) (fin := [4, 2, 3, 36, 5, 6, 7]) (bf := [[], [0], [0, 1], [0, 1, 2], [0, 1, 2], [0, 1, 2], [0, 1, 2, 4, 5], [0, 1, 2, 4, 5, 6], [0, 1, 2, 4, 5, 6, 7], [0, 1, 2, 3, 4, 5, 6, 7, 8], [0, 1, 2, 3, 4, 5, 6, 7, 8, 9], [0, 1, 2, 3, 4, 5, 6, 7, 8, 9, 10], [0, 1, 2, 3, 4, 5, 6, 7, 8, 9, 10, 11], [0, 1, 2, 3, 4, 5, 6, 7, 8, 9, 10, 11, 12], [0, 1, 2, 3, 4, 5, 6, 7, 8, 9, 10, 11, 12, 13], [0, 1, 2, 3, 4, 5, 6, 7, 8, 9, 10, 11, 12, 13, 14], [0, 1, 2, 3, 4, 5, 6, 7, 8, 9, 10, 11, 12, 13, 14], [0, 1, 2, 3, 4, 5, 6, 7, 8, 9, 10, 11, 12, 13, 14, 15, 16], [0, 1, 2, 3, 4, 5, 6, 7, 8, 9, 10, 11, 12, 13, 14, 15, 16, 17], [0, 1, 2, 3, 4, 5, 6, 7, 8, 9, 10, 11, 12, 13, 14, 15, 16, 17, 18], [0, 1, 2, 3, 4, 5, 6, 7, 8, 9, 10, 11, 12, 13, 14], [0, 1, 2, 3, 4, 5, 6, 7, 8, 9, 10, 11, 12, 13, 14], [0, 1, 2, 3, 4, 5, 6, 7, 8, 9, 10, 11, 12, 13, 14, 21], [0, 1, 2, 3, 4, 5, 6, 7, 8, 9, 10, 11, 12, 13, 14, 20, 21, 22], [0, 1, 2, 3, 4, 5, 6, 7, 8, 9, 10, 11, 12, 13, 14, 20, 21, 22, 23], [0, 1, 2, 3, 4, 5, 6, 7, 8, 9, 10, 11, 12, 13, 14, 20, 21, 22, 23, 24], [0, 1, 2, 3, 4, 5, 6, 7, 8, 9, 10, 11, 12, 13, 14, 15, 16, 17, 18, 19, 20, 21, 22, 23, 24, 25], [0, 1, 2, 3, 4, 5, 6, 7, 8, 9, 10, 11, 12, 13, 14, 15, 16, 17, 18, 19, 20, 21, 22, 23, 24, 25, 26], [0, 1, 2, 3, 4, 5, 6, 7, 8, 9, 10, 11, 12, 13, 14, 15, 16, 17, 18, 19, 20, 21, 22, 23, 24, 25, 26, 27]]) (by kernel_rfl) (by kernel_rfl) (fun x w h1 h2 => (.cons () (.cons () (.cons () (.cons () (.cons () (.cons () (.cons () (.cons () (.nil ⟨EnvAll.of h1 ⟨rfl, rfl, rfl, rfl, rfl, rfl, rfl, trivial⟩, h2⟩)))))))))) (fun Q => by kernel_rfl) ⟨?_, ?_, ?_, ?_, ?_, ?_, ?_, ?_, ?_, ?_, ?_, ?_, ?_, ?_, ?_, ?_, ?_, ?_, ?_, ?_, ?_, ?_, ?_, ?_, ?_, ?_, ?_, ?_, ?_, trivial⟩ ?_
              · rintro Fr _
                refine SO.v rfl (opv_move rfl) ?_
                exact SO.nilZ fun a w h1 h2 h3 h4 h5 => PZ.of h1 h3 h5 (.cons () (.cons () (.nil ⟨EnvAll.of h2 ⟨rfl, rfl, trivial⟩, h4⟩)))
              · rintro Fr _
                refine SO.v rfl (opv_not rfl) ?_
                exact SO.nilZ fun a w h1 h2 h3 h4 h5 => PZ.of h1 h3 h5 (.cons () (.cons () (.nil ⟨EnvAll.of h2 ⟨rfl, rfl, trivial⟩, h4⟩)))
              · rintro Fr _
                refine SO.v rfl (opv_move rfl) ?_
                exact SO.nilZ fun a w h1 h2 h3 h4 h5 => PZ.of h1 h3 h5 (.cons () (.cons () (.nil ⟨EnvAll.of h2 ⟨rfl, rfl, trivial⟩, h4⟩)))
              · rintro Fr _
                refine SO.passF rfl rfl rfl b26 rfl rfl ?_
                exact SO.nilZ fun a w h1 h2 h3 h4 h5 => PZ.of h1 h3 h5 (.cons () (.cons () (.nil ⟨EnvAll.of h2 ⟨rfl, rfl, trivial⟩, h4⟩)))
              · rintro Fr _
                refine SO.passF rfl rfl rfl b26 rfl rfl ?_
                exact SO.nilZ fun a w h1 h2 h3 h4 h5 => PZ.of h1 h3 h5 (.cons () (.cons () (.nil ⟨EnvAll.of h2 ⟨rfl, rfl, trivial⟩, h4⟩)))
              · rintro Fr _
                refine SO.passF rfl rfl rfl b26 rfl rfl ?_
                exact SO.nilZ fun a w h1 h2 h3 h4 h5 => PZ.of h1 h3 h5 (.cons () (.cons () (.nil ⟨EnvAll.of h2 ⟨rfl, rfl, trivial⟩, h4⟩)))
              · rintro Fr _
                refine SO.passF rfl rfl rfl b26 rfl rfl ?_
                exact SO.nilZ fun a w h1 h2 h3 h4 h5 => PZ.of h1 h3 h5 (.cons () (.cons () (.nil ⟨EnvAll.of h2 ⟨rfl, rfl, trivial⟩, h4⟩)))
              · rintro Fr _
                refine SO.passF rfl rfl rfl b26 rfl rfl ?_
                exact SO.nilZ fun a w h1 h2 h3 h4 h5 => PZ.of h1 h3 h5 (.cons () (.cons () (.nil ⟨EnvAll.of h2 ⟨rfl, rfl, trivial⟩, h4⟩)))
              · rintro Fr _
                refine SO.passF rfl rfl rfl b26 rfl rfl ?_
                exact SO.nilZ fun a w h1 h2 h3 h4 h5 => PZ.of h1 h3 h5 (.cons () (.cons () (.nil ⟨EnvAll.of h2 ⟨rfl, rfl, trivial⟩, h4⟩)))
              · rintro Fr _
                refine SO.passF rfl rfl rfl b26 rfl rfl ?_
                exact SO.nilZ fun a w h1 h2 h3 h4 h5 => PZ.of h1 h3 h5 (.cons () (.cons () (.nil ⟨EnvAll.of h2 ⟨rfl, rfl, trivial⟩, h4⟩)))
              · rintro Fr _ _
                refine SO.v rfl (opv_pick_t' b26 rfl rfl) ?_
                exact SO.nilZ fun a w h1 h2 h3 h4 h5 => PZ.of h1 h3 h5 (.cons () (.cons () (.cons () (.nil ⟨EnvAll.of h2 ⟨rfl, rfl, rfl, trivial⟩, h4⟩))))
              · rintro Fr _
                refine SO.v rfl (opv_move rfl) ?_
                exact SO.nilZ fun a w h1 h2 h3 h4 h5 => PZ.of h1 h3 h5 (.cons () (.cons () (.nil ⟨EnvAll.of h2 ⟨rfl, rfl, trivial⟩, h4⟩)))
              · rintro Fr _
                refine SO.passF rfl rfl rfl rfl rfl rfl ?_
                exact SO.nilZ fun a w h1 h2 h3 h4 h5 => PZ.of h1 h3 h5 (.cons () (.cons () (.nil ⟨EnvAll.of h2 ⟨rfl, rfl, trivial⟩, h4⟩)))
              · rintro Fr _
                refine SO.passF rfl rfl rfl rfl rfl rfl ?_
                exact SO.nilZ fun a w h1 h2 h3 h4 h5 => PZ.of h1 h3 h5 (.cons () (.cons () (.nil ⟨EnvAll.of h2 ⟨rfl, rfl, trivial⟩, h4⟩)))
              · rintro Fr _
                refine SO.passF rfl rfl rfl rfl rfl rfl ?_
                exact SO.nilZ fun a w h1 h2 h3 h4 h5 => PZ.of h1 h3 h5 (.cons () (.cons () (.nil ⟨EnvAll.of h2 ⟨rfl, rfl, trivial⟩, h4⟩)))
              · rintro Fr _
                refine SO.pass_undef rfl rfl rfl rfl ?_
                exact SO.nilZ fun a w h1 h2 h3 h4 h5 => PZ.of h1 h3 h5 (.cons () (.cons () (.nil ⟨EnvAll.of h2 ⟨rfl, rfl, trivial⟩, h4⟩)))
              · rintro Fr _
                refine SO.pass_undef rfl rfl rfl rfl ?_
                exact SO.nilZ fun a w h1 h2 h3 h4 h5 => PZ.of h1 h3 h5 (.cons () (.cons () (.nil ⟨EnvAll.of h2 ⟨rfl, rfl, trivial⟩, h4⟩)))
              · rintro Fr _
                refine SO.pass_undef rfl rfl rfl rfl ?_
                exact SO.nilZ fun a w h1 h2 h3 h4 h5 => PZ.of h1 h3 h5 (.cons () (.cons () (.nil ⟨EnvAll.of h2 ⟨rfl, rfl, trivial⟩, h4⟩)))
              · rintro Fr _
                refine SO.pass_undef rfl rfl rfl rfl ?_
                exact SO.nilZ fun a w h1 h2 h3 h4 h5 => PZ.of h1 h3 h5 (.cons () (.cons () (.nil ⟨EnvAll.of h2 ⟨rfl, rfl, trivial⟩, h4⟩)))
              · rintro Fr _
                refine SO.pass_undef rfl rfl rfl rfl ?_
                exact SO.nilZ fun a w h1 h2 h3 h4 h5 => PZ.of h1 h3 h5 (.cons () (.cons () (.nil ⟨EnvAll.of h2 ⟨rfl, rfl, trivial⟩, h4⟩)))
              · rintro Fr _
                refine SO.pass_undef rfl rfl rfl rfl ?_
                exact SO.nilZ fun a w h1 h2 h3 h4 h5 => PZ.of h1 h3 h5 (.cons () (.cons () (.nil ⟨EnvAll.of h2 ⟨rfl, rfl, trivial⟩, h4⟩)))
              · rintro Fr _
                refine SO.pass_undef rfl rfl rfl rfl ?_
                exact SO.nilZ fun a w h1 h2 h3 h4 h5 => PZ.of h1 h3 h5 (.cons () (.cons () (.nil ⟨EnvAll.of h2 ⟨rfl, rfl, trivial⟩, h4⟩)))
              · rintro Fr _
                refine SO.pass_undef rfl rfl rfl rfl ?_
                exact SO.nilZ fun a w h1 h2 h3 h4 h5 => PZ.of h1 h3 h5 (.cons () (.cons () (.nil ⟨EnvAll.of h2 ⟨rfl, rfl, trivial⟩, h4⟩)))
              · rintro Fr _
                refine SO.pass_undef rfl rfl rfl rfl ?_
                exact SO.nilZ fun a w h1 h2 h3 h4 h5 => PZ.of h1 h3 h5 (.cons () (.cons () (.nil ⟨EnvAll.of h2 ⟨rfl, rfl, trivial⟩, h4⟩)))
              · rintro Fr _
                refine SO.pass_undef rfl rfl rfl rfl ?_
                exact SO.nilZ fun a w h1 h2 h3 h4 h5 => PZ.of h1 h3 h5 (.cons () (.cons () (.nil ⟨EnvAll.of h2 ⟨rfl, rfl, trivial⟩, h4⟩)))
              · rintro Fr _
                refine SO.pass_undef rfl rfl rfl rfl ?_
                exact SO.nilZ fun a w h1 h2 h3 h4 h5 => PZ.of h1 h3 h5 (.cons () (.cons () (.nil ⟨EnvAll.of h2 ⟨rfl, rfl, trivial⟩, h4⟩)))
              · rintro Fr _
                refine SO.pass_undef rfl rfl rfl rfl ?_
                exact SO.nilZ fun a w h1 h2 h3 h4 h5 => PZ.of h1 h3 h5 (.cons () (.cons () (.nil ⟨EnvAll.of h2 ⟨rfl, rfl, trivial⟩, h4⟩)))
              · rintro Fr _
                refine SO.passF rfl rfl rfl rfl rfl rfl ?_
                exact SO.nilZ fun a w h1 h2 h3 h4 h5 => PZ.of h1 h3 h5 (.cons () (.cons () (.nil ⟨EnvAll.of h2 ⟨rfl, rfl, trivial⟩, h4⟩)))
              · rintro Fr _ _
                refine SO.v rfl (opv_pick_tt rfl rfl) ?_
                exact SO.nilZ fun a w h1 h2 h3 h4 h5 => PZ.of h1 h3 h5 (.cons () (.cons () (.cons () (.nil ⟨EnvAll.of h2 ⟨rfl, rfl, rfl, trivial⟩, h4⟩))))
              rintro _ _ _ _ _ _ _
              refine S.to (ρ' := [(4, .bool false), (5, .bool t1), (6, v5), (8, v16), (9, .int .i64 x9_2), (91, .bool true)]) ⟨rfl, rfl, rfl, rfl, rfl, rfl, trivial⟩ ?_
              cases h
              refine S.b2 ?_
              refine S.b2 ?_
              refine S.b2 ?_
              refine S.to ?_ (hk3 () trivial)
              exact ⟨rfl, rfl, rfl, rfl, rfl, rfl, trivial⟩
            · replace h := cond_f b26 h
              obtain ⟨x27, hx28, h⟩ := opt_bind h
              rcases bool_or (x23 != x27.Val) with b29 | b29
              · replace h := cond_t b29 h
                refine S.draw' (Z := fun Q => ∀ (_ : Unit) (_ : Unit) (_ : Unit) (_ : Unit) (_ : Unit) (_ : Unit) (_ : Unit), Q [(4, .bool false), (5, .bool t1), (6, v5), (8, v16), (9, .int .i64 x9_2), (91, .bool true)] [MapO (Value.int .i64) v5 q14, Own 29 ek_view_Pair_int v16 t13, F]) (T := [tS 11 (.bool c25), tS 10 (.int .i64 x23), tS 8 (v16), tS 9 (.int .i64 x9_2), tE [(4, .bool false), (5, .bool t1), (6, v5)], tR (MapO (Value.int .i64) v5 q14), tR (Own 29 ek_view_Pair_int v16 t13), tR (F), tS 63 (.bool c25), tS 64 (.bool (!c25)), tS 65 (.bool (!c25)), tS 66 (.int .i64 x23), tS 67 (v16), tS 68 (.int .i64 x9_2), tS 69 (idxp v16 (x9_2.toNat * ek_view_Pair_int.sz)), tS 70 (idxp v16 (x9_2.toNat * ek_view_Pair_int.sz + 1)), tS 71 (.int .i64 x27.Val), tS 72 (.bool (x23 != x27.Val)), tS 73 (.bool (x23 != x27.Val)), tS 74 (.bool (x23 != x27.Val)), tS 75 (undef), tS 76 (undef), tS 77 (undef), tS 78 (undef), tS 79 (undef), tS 80 (undef), tS 81 (undef), tS 82 (undef), tS 83 (undef), tS 84 (undef), tS 85 (undef), tS 86 (undef), tS 87 (undef), tS 88 (undef), tS 89 (undef), tS 90 (undef), tS 91 (.bool true)]) (D := [⟨[0], [], [8]⟩, ⟨[8], [], [9]⟩, ⟨[9], [], [10]⟩, ⟨[1, 10], [], [11]⟩, ⟨[2, 10], [], [12]⟩, ⟨[3, 10], [], [13]⟩, ⟨[10, 12, 13, 6], [], [14]⟩, ⟨[10, 14, 6], [], [15]⟩, ⟨[10, 15, 6], [], [16]⟩, ⟨[10, 11, 16], [], [17]⟩, ⟨[10, 17], [], [18]⟩, ⟨[18], [], [19]⟩, ⟨[19], [], [20]⟩, ⟨[19], [], [21]⟩, ⟨[19], [], [22]⟩, ⟨[22], [], [23]⟩, ⟨[22], [], [24]⟩, ⟨[22], [], [25]⟩, ⟨[22], [], [26]⟩, ⟨[22], [], [27]⟩, ⟨[22], [], [28]⟩, ⟨[22], [], [29]⟩, ⟨[22], [], [30]⟩, ⟨[22], [], [31]⟩, ⟨[22], [], [32]⟩, ⟨[22], [], [33]⟩, ⟨[22], [], [34]⟩, ⟨[19], [], [35]⟩, ⟨[19, 35], [], [36]⟩]) (ini := [0, 1, 2, 3, 4, 5, 6, 7]) (fin := [4, 2, 3, 36, 5, 6, 7]) (bf := [[], [0], [0, 1], [0, 1, 2], [0, 1, 2], [0, 1, 2], [0, 1, 2, 4, 5], [0, 1, 2, 4, 5, 6], [0, 1, 2, 4, 5, 6, 7], [0, 1, 2, 3, 4, 5, 6, 7, 8], [0, 1, 2, 3, 4, 5, 6, 7, 8, 9], [0, 1, 2, 3, 4, 5, 6, 7, 8, 9, 10], [0, 1, 2, 3, 4, 5, 6, 7, 8, 9, 10, 11], [0, 1, 2, 3, 4, 5, 6, 7, 8, 9, 10, 11, 12], [0, 1, 2, 3, 4, 5, 6, 7, 8, 9, 10, 11, 12, 13], [0, 1, 2, 3, 4, 5, 6, 7, 8, 9, 10, 11, 12, 13, 14], [0, 1, 2, 3, 4, 5, 6, 7, 8, 9, 10, 11, 12, 13, 14], [0, 1, 2, 3, 4, 5, 6, 7, 8, 9, 10, 11, 12, 13, 14, 15, 16], [0, 1, 2, 3, 4, 5, 6, 7, 8, 9, 10, 11, 12, 13, 14, 15, 16, 17], [0, 1, 2, 3, 4, 5, 6, 7, 8, 9, 10, 11, 12, 13, 14, 15, 16, 17, 18], [0, 1, 2, 3, 4, 5, 6, 7, 8, 9, 10, 11, 12, 13, 14], [0, 1, 2, 3, 4, 5, 6, 7, 8, 9, 10, 11, 12, 13, 14], [0, 1, 2, 3, 4, 5, 6, 7, 8, 9, 10, 11, 12, 13, 14, 21], [0, 1, 2, 3, 4, 5, 6, 7, 8, 9, 10, 11, 12, 13, 14, 20, 21, 22], [0, 1, 2, 3, 4, 5, 6, 7, 8, 9, 10, 11, 12, 13, 14, 20, 21, 22, 23], [0, 1, 2, 3, 4, 5, 6, 7, 8, 9, 10, 11, 12, 13, 14, 20, 21, 22, 23, 24], [0, 1, 2, 3, 4, 5, 6, 7, 8, 9, 10, 11, 12, 13, 14, 15, 16, 17, 18, 19, 20, 21, 22, 23, 24, 25], [0, 1, 2, 3, 4, 5, 6, 7, 8, 9, 10, 11, 12, 13, 14, 15, 16, 17, 18, 19, 20, 21, 22, 23, 24, 25, 26], [0, 1, 2, 3, 4, 5, 6, 7, 8, 9, 10, 11, 12, 13, 14, 15, 16, 17, 18, 19, 20, 21, 22, 23, 24, 25, 26, 27]]) (by kernel_rfl) (by kernel_rfl) (fun x w h1 h2 => (.cons () (.cons () (.cons () (.cons () (.cons () (.cons () (.cons () (.cons () (.nil ⟨EnvAll.of h1 ⟨rfl, rfl, rfl, rfl, rfl, rfl, rfl, trivial⟩, h2⟩)))))))))) (fun Q => by kernel_rfl) ⟨?_, ?_, ?_, ?_, ?_, ?_, ?_, ?_, ?_, ?_, ?_, ?_, ?_, ?_, ?_, ?_, ?_, ?_, ?_, ?_, ?_, ?_, ?_, ?_, ?_, ?_, ?_, ?_, ?_, trivial⟩ ?_
                · rintro Fr _
                  refine SO.v rfl (opv_move rfl) ?_
                  exact SO.nilZ fun a w h1 h2 h3 h4 h5 => PZ.of h1 h3 h5 (.cons () (.cons () (.nil ⟨EnvAll.of h2 ⟨rfl, rfl, trivial⟩, h4⟩)))
                · rintro Fr _
                  refine SO.v rfl (opv_not rfl) ?_
                  exact SO.nilZ fun a w h1 h2 h3 h4 h5 => PZ.of h1 h3 h5 (.cons () (.cons () (.nil ⟨EnvAll.of h2 ⟨rfl, rfl, trivial⟩, h4⟩)))
                · rintro Fr _
                  refine SO.v rfl (opv_move rfl) ?_
                  exact SO.nilZ fun a w h1 h2 h3 h4 h5 => PZ.of h1 h3 h5 (.cons () (.cons () (.nil ⟨EnvAll.of h2 ⟨rfl, rfl, trivial⟩, h4⟩)))
                · rintro Fr _ _
                  refine SO.takeT rfl rfl rfl b26 ?_
                  refine SO.v rfl (opv_move rfl) ?_
                  exact SO.nilZ fun a w h1 h2 h3 h4 h5 => PZ.of h1 h3 h5 (.cons () (.cons () (.cons () (.nil ⟨EnvAll.of h2 ⟨rfl, rfl, rfl, trivial⟩, h4⟩))))
                · rintro Fr _ _
                  refine SO.takeT rfl rfl rfl b26 ?_
                  refine SO.v rfl (opv_move rfl) ?_
                  exact SO.nilZ fun a w h1 h2 h3 h4 h5 => PZ.of h1 h3 h5 (.cons () (.cons () (.cons () (.nil ⟨EnvAll.of h2 ⟨rfl, rfl, rfl, trivial⟩, h4⟩))))
                · rintro Fr _ _
                  refine SO.takeT rfl rfl rfl b26 ?_
                  refine SO.v rfl (opv_move rfl) ?_
                  exact SO.nilZ fun a w h1 h2 h3 h4 h5 => PZ.of h1 h3 h5 (.cons () (.cons () (.cons () (.nil ⟨EnvAll.of h2 ⟨rfl, rfl, rfl, trivial⟩, h4⟩))))
                · rintro Fr _ _ _ _
                  refine SO.takeT rfl rfl rfl b26 ?_
                  refine SO.v rfl (opv_idx Try.underlying25 Try.sizeOf29 hr17 rfl rfl hx28) ?_
                  exact SO.nilZ fun a w h1 h2 h3 h4 h5 => PZ.of h1 h3 h5 (.cons () (.cons () (.cons () (.cons () (.cons () (.nil ⟨EnvAll.of h2 ⟨rfl, rfl, rfl, rfl, trivial⟩, h4⟩))))))
                · rintro Fr _ _ _
                  refine SO.takeT rfl rfl rfl b26 ?_
                  refine SO.v rfl (opv_fieldIdx Try.underlying29 rfl Try.sizeOf3 hr17 hx28 rfl rfl) ?_
                  exact SO.nilZ fun a w h1 h2 h3 h4 h5 => PZ.of h1 h3 h5 (.cons () (.cons () (.cons () (.cons () (.nil ⟨EnvAll.of h2 ⟨rfl, rfl, rfl, trivial⟩, h4⟩)))))
                · rintro Fr _ _ _
                  refine SO.takeT rfl rfl rfl b26 ?_
                  refine SO.loadI1 (j := 1) rfl Try.isAgg3 (Rd.head hr17) hx28 rfl rfl rfl rfl ?_
                  exact SO.nilZ fun a w h1 h2 h3 h4 h5 => PZ.of h1 h3 h5 (.cons () (.cons () (.cons () (.cons () (.nil ⟨EnvAll.of h2 ⟨rfl, rfl, rfl, trivial⟩, h4⟩)))))
                · rintro Fr _ _ _
                  refine SO.takeT rfl rfl rfl b26 ?_
                  refine SO.v rfl (opv_neq rfl rfl) ?_
                  exact SO.nilZ fun a w h1 h2 h3 h4 h5 => PZ.of h1 h3 h5 (.cons () (.cons () (.cons () (.cons () (.nil ⟨EnvAll.of h2 ⟨rfl, rfl, rfl, rfl, trivial⟩, h4⟩)))))
                · rintro Fr _ _
                  refine SO.v rfl (opv_pick_f' b26 rfl rfl) ?_
                  exact SO.nilZ fun a w h1 h2 h3 h4 h5 => PZ.of h1 h3 h5 (.cons () (.cons () (.cons () (.nil ⟨EnvAll.of h2 ⟨rfl, rfl, rfl, trivial⟩, h4⟩))))
                · rintro Fr _
                  refine SO.v rfl (opv_move rfl) ?_
                  exact SO.nilZ fun a w h1 h2 h3 h4 h5 => PZ.of h1 h3 h5 (.cons () (.cons () (.nil ⟨EnvAll.of h2 ⟨rfl, rfl, trivial⟩, h4⟩)))
                · rintro Fr _
                  refine SO.passF rfl rfl rfl b29 rfl rfl ?_
                  exact SO.nilZ fun a w h1 h2 h3 h4 h5 => PZ.of h1 h3 h5 (.cons () (.cons () (.nil ⟨EnvAll.of h2 ⟨rfl, rfl, trivial⟩, h4⟩)))
                · rintro Fr _
                  refine SO.passF rfl rfl rfl b29 rfl rfl ?_
                  exact SO.nilZ fun a w h1 h2 h3 h4 h5 => PZ.of h1 h3 h5 (.cons () (.cons () (.nil ⟨EnvAll.of h2 ⟨rfl, rfl, trivial⟩, h4⟩)))
                · rintro Fr _
                  refine SO.passF rfl rfl rfl b29 rfl rfl ?_
                  exact SO.nilZ fun a w h1 h2 h3 h4 h5 => PZ.of h1 h3 h5 (.cons () (.cons () (.nil ⟨EnvAll.of h2 ⟨rfl, rfl, trivial⟩, h4⟩)))
                · rintro Fr _
                  refine SO.pass_undef rfl rfl rfl rfl ?_
                  exact SO.nilZ fun a w h1 h2 h3 h4 h5 => PZ.of h1 h3 h5 (.cons () (.cons () (.nil ⟨EnvAll.of h2 ⟨rfl, rfl, trivial⟩, h4⟩)))
                · rintro Fr _
                  refine SO.pass_undef rfl rfl rfl rfl ?_
                  exact SO.nilZ fun a w h1 h2 h3 h4 h5 => PZ.of h1 h3 h5 (.cons () (.cons () (.nil ⟨EnvAll.of h2 ⟨rfl, rfl, trivial⟩, h4⟩)))
                · rintro Fr _
                  refine SO.pass_undef rfl rfl rfl rfl ?_
                  exact SO.nilZ fun a w h1 h2 h3 h4 h5 => PZ.of h1 h3 h5 (.cons () (.cons () (.nil ⟨EnvAll.of h2 ⟨rfl, rfl, trivial⟩, h4⟩)))
                · rintro Fr _
                  refine SO.pass_undef rfl rfl rfl rfl ?_
                  exact SO.nilZ fun a w h1 h2 h3 h4 h5 => PZ.of h1 h3 h5 (.cons () (.cons () (.nil ⟨EnvAll.of h2 ⟨rfl, rfl, trivial⟩, h4⟩)))
                · rintro Fr _
                  refine SO.pass_undef rfl rfl rfl rfl ?_
                  exact SO.nilZ fun a w h1 h2 h3 h4 h5 => PZ.of h1 h3 h5 (.cons () (.cons () (.nil ⟨EnvAll.of h2 ⟨rfl, rfl, trivial⟩, h4⟩)))
                · rintro Fr _
                  refine SO.pass_undef rfl rfl rfl rfl ?_
                  exact SO.nilZ fun a w h1 h2 h3 h4 h5 => PZ.of h1 h3 h5 (.cons () (.cons () (.nil ⟨EnvAll.of h2 ⟨rfl, rfl, trivial⟩, h4⟩)))
                · rintro Fr _
                  refine SO.pass_undef rfl rfl rfl rfl ?_
                  exact SO.nilZ fun a w h1 h2 h3 h4 h5 => PZ.of h1 h3 h5 (.cons () (.cons () (.nil ⟨EnvAll.of h2 ⟨rfl, rfl, trivial⟩, h4⟩)))
                · rintro Fr _
                  refine SO.pass_undef rfl rfl rfl rfl ?_
                  exact SO.nilZ fun a w h1 h2 h3 h4 h5 => PZ.of h1 h3 h5 (.cons () (.cons () (.nil ⟨EnvAll.of h2 ⟨rfl, rfl, trivial⟩, h4⟩)))
                · rintro Fr _
                  refine SO.pass_undef rfl rfl rfl rfl ?_
                  exact SO.nilZ fun a w h1 h2 h3 h4 h5 => PZ.of h1 h3 h5 (.cons () (.cons () (.nil ⟨EnvAll.of h2 ⟨rfl, rfl, trivial⟩, h4⟩)))
                · rintro Fr _
                  refine SO.pass_undef rfl rfl rfl rfl ?_
                  exact SO.nilZ fun a w h1 h2 h3 h4 h5 => PZ.of h1 h3 h5 (.cons () (.cons () (.nil ⟨EnvAll.of h2 ⟨rfl, rfl, trivial⟩, h4⟩)))
                · rintro Fr _
                  refine SO.pass_undef rfl rfl rfl rfl ?_
                  exact SO.nilZ fun a w h1 h2 h3 h4 h5 => PZ.of h1 h3 h5 (.cons () (.cons () (.nil ⟨EnvAll.of h2 ⟨rfl, rfl, trivial⟩, h4⟩)))
                · rintro Fr _
                  refine SO.pass_undef rfl rfl rfl rfl ?_
                  exact SO.nilZ fun a w h1 h2 h3 h4 h5 => PZ.of h1 h3 h5 (.cons () (.cons () (.nil ⟨EnvAll.of h2 ⟨rfl, rfl, trivial⟩, h4⟩)))
                · rintro Fr _
                  refine SO.passF rfl rfl rfl b29 rfl rfl ?_
                  exact SO.nilZ fun a w h1 h2 h3 h4 h5 => PZ.of h1 h3 h5 (.cons () (.cons () (.nil ⟨EnvAll.of h2 ⟨rfl, rfl, trivial⟩, h4⟩)))
                · rintro Fr _ _
                  refine SO.v rfl (opv_pick_t' b29 rfl rfl) ?_
                  exact SO.nilZ fun a w h1 h2 h3 h4 h5 => PZ.of h1 h3 h5 (.cons () (.cons () (.cons () (.nil ⟨EnvAll.of h2 ⟨rfl, rfl, rfl, trivial⟩, h4⟩))))
                rintro _ _ _ _ _ _ _
                refine S.to (ρ' := [(4, .bool false), (5, .bool t1), (6, v5), (8, v16), (9, .int .i64 x9_2), (91, .bool true)]) ⟨rfl, rfl, rfl, rfl, rfl, rfl, trivial⟩ ?_
                cases h
                refine S.b2 ?_
                refine S.b2 ?_
                refine S.b2 ?_
                refine S.to ?_ (hk3 () trivial)
                exact ⟨rfl, rfl, rfl, rfl, rfl, rfl, trivial⟩
              · replace h := cond_f b29 h
                rcases bool_or (decide (0 < x9_2)) with b30 | b30
                · replace h := cond_t b30 h
                  obtain ⟨x31, hx32, h⟩ := opt_bind h
                  obtain ⟨x33, hx34, h⟩ := opt_bind h
                  refine S.draw' (Z := fun Q => ∀ (_ : Unit) (_ : Unit) (_ : Unit) (_ : Unit) (_ : Unit) (_ : Unit) (_ : Unit), Q [(4, .bool false), (5, .bool t1), (6, v5), (8, v16), (9, .int .i64 x9_2), (91, .bool (decide (x31.At ≤ x33.At)))] [MapO (Value.int .i64) v5 q14, Own 29 ek_view_Pair_int v16 t13, F]) (T := [tS 11 (.bool c25), tS 10 (.int .i64 x23), tS 8 (v16), tS 9 (.int .i64 x9_2), tE [(4, .bool false), (5, .bool t1), (6, v5)], tR (MapO (Value.int .i64) v5 q14), tR (Own 29 ek_view_Pair_int v16 t13), tR (F), tS 63 (.bool c25), tS 64 (.bool (!c25)), tS 65 (.bool (!c25)), tS 66 (.int .i64 x23), tS 67 (v16), tS 68 (.int .i64 x9_2), tS 69 (idxp v16 (x9_2.toNat * ek_view_Pair_int.sz)), tS 70 (idxp v16 (x9_2.toNat * ek_view_Pair_int.sz + 1)), tS 71 (.int .i64 x27.Val), tS 72 (.bool (x23 != x27.Val)), tS 73 (.bool (x23 != x27.Val)), tS 74 (.bool (x23 != x27.Val)), tS 75 (.int .i64 x9_2), tS 76 (.bool (decide (0 < x9_2))), tS 77 (.bool (decide (0 < x9_2))), tS 78 (v16), tS 79 (.int .i64 x9_2), tS 80 (idxp v16 (x9_2.toNat * ek_view_Pair_int.sz)), tS 81 (idxp v16 (x9_2.toNat * ek_view_Pair_int.sz)), tS 82 (.int .i64 x31.At), tS 83 (v16), tS 84 (.int .i64 x9_2), tS 85 (.int .i64 (w64 (x9_2 - 1))), tS 86 (idxp v16 ((w64 (x9_2 - 1)).toNat * ek_view_Pair_int.sz)), tS 87 (idxp v16 ((w64 (x9_2 - 1)).toNat * ek_view_Pair_int.sz)), tS 88 (.int .i64 x33.At), tS 89 (.bool (decide (x31.At ≤ x33.At))), tS 90 (.bool (decide (x31.At ≤ x33.At))), tS 91 (.bool (decide (x31.At ≤ x33.At)))]) (D := [⟨[0], [], [8]⟩, ⟨[8], [], [9]⟩, ⟨[9], [], [10]⟩, ⟨[1, 10], [], [11]⟩, ⟨[2, 10], [], [12]⟩, ⟨[3, 10], [], [13]⟩, ⟨[10, 12, 13, 6], [], [14]⟩, ⟨[10, 14, 6], [], [15]⟩, ⟨[10, 15, 6], [], [16]⟩, ⟨[10, 11, 16], [], [17]⟩, ⟨[10, 17], [], [18]⟩, ⟨[18], [], [19]⟩, ⟨[3, 19], [], [20]⟩, ⟨[19, 20], [], [21]⟩, ⟨[19, 21], [], [22]⟩, ⟨[2, 22], [], [23]⟩, ⟨[3, 22], [], [24]⟩, ⟨[22, 23, 24, 6], [], [25]⟩, ⟨[22, 25, 6], [], [26]⟩, ⟨[22, 26, 6], [], [27]⟩, ⟨[2, 22], [], [28]⟩, ⟨[3, 22], [], [29]⟩, ⟨[22, 29], [], [30]⟩, ⟨[22, 28, 30, 6], [], [31]⟩, ⟨[22, 31, 6], [], [32]⟩, ⟨[22, 32, 6], [], [33]⟩, ⟨[22, 27, 33], [], [34]⟩, ⟨[19, 22, 34], [], [35]⟩, ⟨[19, 35], [], [36]⟩]) (ini := [0, 1, 2, 3, 4, 5, 6, 7]) (fin := [4, 2, 3, 36, 5, 6, 7]) (bf := [[], [0], [0, 1], [0, 1, 2], [0, 1, 2], [0, 1, 2], [0, 1, 2, 4, 5], [0, 1, 2, 4, 5, 6], [0, 1, 2, 4, 5, 6, 7], [0, 1, 2, 3, 4, 5, 6, 7, 8], [0, 1, 2, 3, 4, 5, 6, 7, 8, 9], [0, 1, 2, 3, 4, 5, 6, 7, 8, 9, 10], [0, 1, 2, 3, 4, 5, 6, 7, 8, 9, 10, 11], [0, 1, 2, 3, 4, 5, 6, 7, 8, 9, 10, 11, 12], [0, 1, 2, 3, 4, 5, 6, 7, 8, 9, 10, 11, 12, 13], [0, 1, 2, 3, 4, 5, 6, 7, 8, 9, 10, 11, 12, 13, 14], [0, 1, 2, 3, 4, 5, 6, 7, 8, 9, 10, 11, 12, 13, 14], [0, 1, 2, 3, 4, 5, 6, 7, 8, 9, 10, 11, 12, 13, 14, 15, 16], [0, 1, 2, 3, 4, 5, 6, 7, 8, 9, 10, 11, 12, 13, 14, 15, 16, 17], [0, 1, 2, 3, 4, 5, 6, 7, 8, 9, 10, 11, 12, 13, 14, 15, 16, 17, 18], [0, 1, 2, 3, 4, 5, 6, 7, 8, 9, 10, 11, 12, 13, 14], [0, 1, 2, 3, 4, 5, 6, 7, 8, 9, 10, 11, 12, 13, 14], [0, 1, 2, 3, 4, 5, 6, 7, 8, 9, 10, 11, 12, 13, 14, 21], [0, 1, 2, 3, 4, 5, 6, 7, 8, 9, 10, 11, 12, 13, 14, 20, 21, 22], [0, 1, 2, 3, 4, 5, 6, 7, 8, 9, 10, 11, 12, 13, 14, 20, 21, 22, 23], [0, 1, 2, 3, 4, 5, 6, 7, 8, 9, 10, 11, 12, 13, 14, 20, 21, 22, 23, 24], [0, 1, 2, 3, 4, 5, 6, 7, 8, 9, 10, 11, 12, 13, 14, 15, 16, 17, 18, 19, 20, 21, 22, 23, 24, 25], [0, 1, 2, 3, 4, 5, 6, 7, 8, 9, 10, 11, 12, 13, 14, 15, 16, 17, 18, 19, 20, 21, 22, 23, 24, 25, 26], [0, 1, 2, 3, 4, 5, 6, 7, 8, 9, 10, 11, 12, 13, 14, 15, 16, 17, 18, 19, 20, 21, 22, 23, 24, 25, 26, 27]]) (by kernel_rfl) (by kernel_rfl) (fun x w h1 h2 => (.cons () (.cons () (.cons () (.cons () (.cons () (.cons () (.cons () (.cons () (.nil ⟨EnvAll.of h1 ⟨rfl, rfl, rfl, rfl, rfl, rfl, rfl, trivial⟩, h2⟩)))))))))) (fun Q => by kernel_rfl) ⟨?_, ?_, ?_, ?_, ?_, ?_, ?_, ?_, ?_, ?_, ?_, ?_, ?_, ?_, ?_, ?_, ?_, ?_, ?_, ?_, ?_, ?_, ?_, ?_, ?_, ?_, ?_, ?_, ?_, trivial⟩ ?_
                  · rintro Fr _
                    refine SO.v rfl (opv_move rfl) ?_
                    exact SO.nilZ fun a w h1 h2 h3 h4 h5 => PZ.of h1 h3 h5 (.cons () (.cons () (.nil ⟨EnvAll.of h2 ⟨rfl, rfl, trivial⟩, h4⟩)))
                  · rintro Fr _
                    refine SO.v rfl (opv_not rfl) ?_
                    exact SO.nilZ fun a w h1 h2 h3 h4 h5 => PZ.of h1 h3 h5 (.cons () (.cons () (.nil ⟨EnvAll.of h2 ⟨rfl, rfl, trivial⟩, h4⟩)))
                  · rintro Fr _
                    refine SO.v rfl (opv_move rfl) ?_
                    exact SO.nilZ fun a w h1 h2 h3 h4 h5 => PZ.of h1 h3 h5 (.cons () (.cons () (.nil ⟨EnvAll.of h2 ⟨rfl, rfl, trivial⟩, h4⟩)))
                  · rintro Fr _ _
                    refine SO.takeT rfl rfl rfl b26 ?_
                    refine SO.v rfl (opv_move rfl) ?_
                    exact SO.nilZ fun a w h1 h2 h3 h4 h5 => PZ.of h1 h3 h5 (.cons () (.cons () (.cons () (.nil ⟨EnvAll.of h2 ⟨rfl, rfl, rfl, trivial⟩, h4⟩))))
                  · rintro Fr _ _
                    refine SO.takeT rfl rfl rfl b26 ?_
                    refine SO.v rfl (opv_move rfl) ?_
                    exact SO.nilZ fun a w h1 h2 h3 h4 h5 => PZ.of h1 h3 h5 (.cons () (.cons () (.cons () (.nil ⟨EnvAll.of h2 ⟨rfl, rfl, rfl, trivial⟩, h4⟩))))
                  · rintro Fr _ _
                    refine SO.takeT rfl rfl rfl b26 ?_
                    refine SO.v rfl (opv_move rfl) ?_
                    exact SO.nilZ fun a w h1 h2 h3 h4 h5 => PZ.of h1 h3 h5 (.cons () (.cons () (.cons () (.nil ⟨EnvAll.of h2 ⟨rfl, rfl, rfl, trivial⟩, h4⟩))))
                  · rintro Fr _ _ _ _
                    refine SO.takeT rfl rfl rfl b26 ?_
                    refine SO.v rfl (opv_idx Try.underlying25 Try.sizeOf29 hr17 rfl rfl hx28) ?_
                    exact SO.nilZ fun a w h1 h2 h3 h4 h5 => PZ.of h1 h3 h5 (.cons () (.cons () (.cons () (.cons () (.cons () (.nil ⟨EnvAll.of h2 ⟨rfl, rfl, rfl, rfl, trivial⟩, h4⟩))))))
                  · rintro Fr _ _ _
                    refine SO.takeT rfl rfl rfl b26 ?_
                    refine SO.v rfl (opv_fieldIdx Try.underlying29 rfl Try.sizeOf3 hr17 hx28 rfl rfl) ?_
                    exact SO.nilZ fun a w h1 h2 h3 h4 h5 => PZ.of h1 h3 h5 (.cons () (.cons () (.cons () (.cons () (.nil ⟨EnvAll.of h2 ⟨rfl, rfl, rfl, trivial⟩, h4⟩)))))
                  · rintro Fr _ _ _
                    refine SO.takeT rfl rfl rfl b26 ?_
                    refine SO.loadI1 (j := 1) rfl Try.isAgg3 (Rd.head hr17) hx28 rfl rfl rfl rfl ?_
                    exact SO.nilZ fun a w h1 h2 h3 h4 h5 => PZ.of h1 h3 h5 (.cons () (.cons () (.cons () (.cons () (.nil ⟨EnvAll.of h2 ⟨rfl, rfl, rfl, trivial⟩, h4⟩)))))
                  · rintro Fr _ _ _
                    refine SO.takeT rfl rfl rfl b26 ?_
                    refine SO.v rfl (opv_neq rfl rfl) ?_
                    exact SO.nilZ fun a w h1 h2 h3 h4 h5 => PZ.of h1 h3 h5 (.cons () (.cons () (.cons () (.cons () (.nil ⟨EnvAll.of h2 ⟨rfl, rfl, rfl, rfl, trivial⟩, h4⟩)))))
                  · rintro Fr _ _
                    refine SO.v rfl (opv_pick_f' b26 rfl rfl) ?_
                    exact SO.nilZ fun a w h1 h2 h3 h4 h5 => PZ.of h1 h3 h5 (.cons () (.cons () (.cons () (.nil ⟨EnvAll.of h2 ⟨rfl, rfl, rfl, trivial⟩, h4⟩))))
                  · rintro Fr _
                    refine SO.v rfl (opv_move rfl) ?_
                    exact SO.nilZ fun a w h1 h2 h3 h4 h5 => PZ.of h1 h3 h5 (.cons () (.cons () (.nil ⟨EnvAll.of h2 ⟨rfl, rfl, trivial⟩, h4⟩)))
                  · rintro Fr _ _
                    refine SO.takeT rfl rfl rfl b29 ?_
                    refine SO.v rfl (opv_move rfl) ?_
                    exact SO.nilZ fun a w h1 h2 h3 h4 h5 => PZ.of h1 h3 h5 (.cons () (.cons () (.cons () (.nil ⟨EnvAll.of h2 ⟨rfl, rfl, rfl, trivial⟩, h4⟩))))
                  · rintro Fr _ _
                    refine SO.takeT rfl rfl rfl b29 ?_
                    refine SO.v rfl (opv_gtr rfl rfl) ?_
                    exact SO.nilZ fun a w h1 h2 h3 h4 h5 => PZ.of h1 h3 h5 (.cons () (.cons () (.cons () (.nil ⟨EnvAll.of h2 ⟨rfl, rfl, rfl, trivial⟩, h4⟩))))
                  · rintro Fr _ _
                    refine SO.takeT rfl rfl rfl b29 ?_
                    refine SO.v rfl (opv_move rfl) ?_
                    exact SO.nilZ fun a w h1 h2 h3 h4 h5 => PZ.of h1 h3 h5 (.cons () (.cons () (.cons () (.nil ⟨EnvAll.of h2 ⟨rfl, rfl, rfl, trivial⟩, h4⟩))))
                  · rintro Fr _ _
                    refine SO.takeT rfl rfl rfl b30 ?_
                    refine SO.v rfl (opv_move rfl) ?_
                    exact SO.nilZ fun a w h1 h2 h3 h4 h5 => PZ.of h1 h3 h5 (.cons () (.cons () (.cons () (.nil ⟨EnvAll.of h2 ⟨rfl, rfl, rfl, trivial⟩, h4⟩))))
                  · rintro Fr _ _
                    refine SO.takeT rfl rfl rfl b30 ?_
                    refine SO.v rfl (opv_move rfl) ?_
                    exact SO.nilZ fun a w h1 h2 h3 h4 h5 => PZ.of h1 h3 h5 (.cons () (.cons () (.cons () (.nil ⟨EnvAll.of h2 ⟨rfl, rfl, rfl, trivial⟩, h4⟩))))
                  · rintro Fr _ _ _ _
                    refine SO.takeT rfl rfl rfl b30 ?_
                    refine SO.v rfl (opv_idx Try.underlying25 Try.sizeOf29 hr17 rfl rfl hx32) ?_
                    exact SO.nilZ fun a w h1 h2 h3 h4 h5 => PZ.of h1 h3 h5 (.cons () (.cons () (.cons () (.cons () (.cons () (.nil ⟨EnvAll.of h2 ⟨rfl, rfl, rfl, rfl, trivial⟩, h4⟩))))))
                  · rintro Fr _ _ _
                    refine SO.takeT rfl rfl rfl b30 ?_
                    refine SO.v rfl (opv_fieldIdx Try.underlying29 rfl Try.sizeOf3 hr17 hx32 rfl rfl) ?_
                    exact SO.nilZ fun a w h1 h2 h3 h4 h5 => PZ.of h1 h3 h5 (.cons () (.cons () (.cons () (.cons () (.nil ⟨EnvAll.of h2 ⟨rfl, rfl, rfl, trivial⟩, h4⟩)))))
                  · rintro Fr _ _ _
                    refine SO.takeT rfl rfl rfl b30 ?_
                    refine SO.loadI1 (j := 0) rfl Try.isAgg3 (Rd.head hr17) hx32 rfl rfl rfl rfl ?_
                    exact SO.nilZ fun a w h1 h2 h3 h4 h5 => PZ.of h1 h3 h5 (.cons () (.cons () (.cons () (.cons () (.nil ⟨EnvAll.of h2 ⟨rfl, rfl, rfl, trivial⟩, h4⟩)))))
                  · rintro Fr _ _
                    refine SO.takeT rfl rfl rfl b30 ?_
                    refine SO.v rfl (opv_move rfl) ?_
                    exact SO.nilZ fun a w h1 h2 h3 h4 h5 => PZ.of h1 h3 h5 (.cons () (.cons () (.cons () (.nil ⟨EnvAll.of h2 ⟨rfl, rfl, rfl, trivial⟩, h4⟩))))
                  · rintro Fr _ _
                    refine SO.takeT rfl rfl rfl b30 ?_
                    refine SO.v rfl (opv_move rfl) ?_
                    exact SO.nilZ fun a w h1 h2 h3 h4 h5 => PZ.of h1 h3 h5 (.cons () (.cons () (.cons () (.nil ⟨EnvAll.of h2 ⟨rfl, rfl, rfl, trivial⟩, h4⟩))))
                  · rintro Fr _ _
                    refine SO.takeT rfl rfl rfl b30 ?_
                    refine SO.v rfl (opv_sub rfl rfl) ?_
                    exact SO.nilZ fun a w h1 h2 h3 h4 h5 => PZ.of h1 h3 h5 (.cons () (.cons () (.cons () (.nil ⟨EnvAll.of h2 ⟨rfl, rfl, rfl, trivial⟩, h4⟩))))
                  · rintro Fr _ _ _ _
                    refine SO.takeT rfl rfl rfl b30 ?_
                    refine SO.v rfl (opv_idx Try.underlying25 Try.sizeOf29 hr17 rfl rfl hx34) ?_
                    exact SO.nilZ fun a w h1 h2 h3 h4 h5 => PZ.of h1 h3 h5 (.cons () (.cons () (.cons () (.cons () (.cons () (.nil ⟨EnvAll.of h2 ⟨rfl, rfl, rfl, rfl, trivial⟩, h4⟩))))))
                  · rintro Fr _ _ _
                    refine SO.takeT rfl rfl rfl b30 ?_
                    refine SO.v rfl (opv_fieldIdx Try.underlying29 rfl Try.sizeOf3 hr17 hx34 rfl rfl) ?_
                    exact SO.nilZ fun a w h1 h2 h3 h4 h5 => PZ.of h1 h3 h5 (.cons () (.cons () (.cons () (.cons () (.nil ⟨EnvAll.of h2 ⟨rfl, rfl, rfl, trivial⟩, h4⟩)))))
                  · rintro Fr _ _ _
                    refine SO.takeT rfl rfl rfl b30 ?_
                    refine SO.loadI1 (j := 0) rfl Try.isAgg3 (Rd.head hr17) hx34 rfl rfl rfl rfl ?_
                    exact SO.nilZ fun a w h1 h2 h3 h4 h5 => PZ.of h1 h3 h5 (.cons () (.cons () (.cons () (.cons () (.nil ⟨EnvAll.of h2 ⟨rfl, rfl, rfl, trivial⟩, h4⟩)))))
                  · rintro Fr _ _ _
                    refine SO.takeT rfl rfl rfl b30 ?_
                    refine SO.v rfl (opv_leq rfl rfl) ?_
                    exact SO.nilZ fun a w h1 h2 h3 h4 h5 => PZ.of h1 h3 h5 (.cons () (.cons () (.cons () (.cons () (.nil ⟨EnvAll.of h2 ⟨rfl, rfl, rfl, rfl, trivial⟩, h4⟩)))))
                  · rintro Fr _ _ _
                    refine SO.takeT rfl rfl rfl b29 ?_
                    refine SO.v rfl (opv_pick_t' b30 rfl rfl) ?_
                    exact SO.nilZ fun a w h1 h2 h3 h4 h5 => PZ.of h1 h3 h5 (.cons () (.cons () (.cons () (.cons () (.nil ⟨EnvAll.of h2 ⟨rfl, rfl, rfl, rfl, trivial⟩, h4⟩)))))
                  · rintro Fr _ _
                    refine SO.v rfl (opv_pick_f' b29 rfl rfl) ?_
                    exact SO.nilZ fun a w h1 h2 h3 h4 h5 => PZ.of h1 h3 h5 (.cons () (.cons () (.cons () (.nil ⟨EnvAll.of h2 ⟨rfl, rfl, rfl, trivial⟩, h4⟩))))
                  rintro _ _ _ _ _ _ _
                  refine S.to (ρ' := [(4, .bool false), (5, .bool t1), (6, v5), (8, v16), (9, .int .i64 x9_2), (91, .bool (decide (x31.At ≤ x33.At)))]) ⟨rfl, rfl, rfl, rfl, rfl, rfl, trivial⟩ ?_
                  cases h
                  refine S.b2 ?_
                  refine S.b2 ?_
                  refine S.b2 ?_
                  refine S.to ?_ (hk3 () trivial)
                  exact ⟨rfl, rfl, rfl, rfl, rfl, rfl, trivial⟩
                · replace h := cond_f b30 h
                  refine S.draw' (Z := fun Q => ∀ (_ : Unit) (_ : Unit) (_ : Unit) (_ : Unit) (_ : Unit) (_ : Unit) (_ : Unit), Q [(4, .bool false), (5, .bool t1), (6, v5), (8, v16), (9, .int .i64 x9_2), (91, .bool false)] [MapO (Value.int .i64) v5 q14, Own 29 ek_view_Pair_int v16 t13, F]) (T := [tS 11 (.bool c25), tS 10 (.int .i64 x23), tS 8 (v16), tS 9 (.int .i64 x9_2), tE [(4, .bool false), (5, .bool t1), (6, v5)], tR (MapO (Value.int .i64) v5 q14), tR (Own 29 ek_view_Pair_int v16 t13), tR (F), tS 63 (.bool c25), tS 64 (.bool (!c25)), tS 65 (.bool (!c25)), tS 66 (.int .i64 x23), tS 67 (v16), tS 68 (.int .i64 x9_2), tS 69 (idxp v16 (x9_2.toNat * ek_view_Pair_int.sz)), tS 70 (idxp v16 (x9_2.toNat * ek_view_Pair_int.sz + 1)), tS 71 (.int .i64 x27.Val), tS 72 (.bool (x23 != x27.Val)), tS 73 (.bool (x23 != x27.Val)), tS 74 (.bool (x23 != x27.Val)), tS 75 (.int .i64 x9_2), tS 76 (.bool (decide (0 < x9_2))), tS 77 (.bool (decide (0 < x9_2))), tS 78 (undef), tS 79 (undef), tS 80 (undef), tS 81 (undef), tS 82 (undef), tS 83 (undef), tS 84 (undef), tS 85 (undef), tS 86 (undef), tS 87 (undef), tS 88 (undef), tS 89 (undef), tS 90 (.bool false), tS 91 (.bool false)]) (D := [⟨[0], [], [8]⟩, ⟨[8], [], [9]⟩, ⟨[9], [], [10]⟩, ⟨[1, 10], [], [11]⟩, ⟨[2, 10], [], [12]⟩, ⟨[3, 10], [], [13]⟩, ⟨[10, 12, 13, 6], [], [14]⟩, ⟨[10, 14, 6], [], [15]⟩, ⟨[10, 15, 6], [], [16]⟩, ⟨[10, 11, 16], [], [17]⟩, ⟨[10, 17], [], [18]⟩, ⟨[18], [], [19]⟩, ⟨[3, 19], [], [20]⟩, ⟨[19, 20], [], [21]⟩, ⟨[19, 21], [], [22]⟩, ⟨[22], [], [23]⟩, ⟨[22], [], [24]⟩, ⟨[22], [], [25]⟩, ⟨[22], [], [26]⟩, ⟨[22], [], [27]⟩, ⟨[22], [], [28]⟩, ⟨[22], [], [29]⟩, ⟨[22], [], [30]⟩, ⟨[22], [], [31]⟩, ⟨[22], [], [32]⟩, ⟨[22], [], [33]⟩, ⟨[22], [], [34]⟩, ⟨[19, 22, 34], [], [35]⟩, ⟨[19, 35], [], [36]⟩]) (ini := [0, 1, 2, 3, 4, 5, 6, 7]) (fin := [4, 2, 3, 36, 5, 6, 7]) (bf := [[], [0], [0, 1], [0, 1, 2], [0, 1, 2], [0, 1, 2], [0, 1, 2, 4, 5], [0, 1, 2, 4, 5, 6], [0, 1, 2, 4, 5, 6, 7], [0, 1, 2, 3, 4, 5, 6, 7, 8], [0, 1, 2, 3, 4, 5, 6, 7, 8, 9], [0, 1, 2, 3, 4, 5, 6, 7, 8, 9, 10], [0, 1, 2, 3, 4, 5, 6, 7, 8, 9, 10, 11], [0, 1, 2, 3, 4, 5, 6, 7, 8, 9, 10, 11, 12], [0, 1, 2, 3, 4, 5, 6, 7, 8, 9, 10, 11, 12, 13], [0, 1, 2, 3, 4, 5, 6, 7, 8, 9, 10, 11, 12, 13, 14], [0, 1, 2, 3, 4, 5, 6, 7, 8, 9, 10, 11, 12, 13, 14], [0, 1, 2, 3, 4, 5, 6, 7, 8, 9, 10, 11, 12, 13, 14, 15, 16], [0, 1, 2, 3, 4, 5, 6, 7, 8, 9, 10, 11, 12, 13, 14, 15, 16, 17], [0, 1, 2, 3, 4, 5, 6, 7, 8, 9, 10, 11, 12, 13, 14, 15, 16, 17, 18], [0, 1, 2, 3, 4, 5, 6, 7, 8, 9, 10, 11, 12, 13, 14], [0, 1, 2, 3, 4, 5, 6, 7, 8, 9, 10, 11, 12, 13, 14], [0, 1, 2, 3, 4, 5, 6, 7, 8, 9, 10, 11, 12, 13, 14, 21], [0, 1, 2, 3, 4, 5, 6, 7, 8, 9, 10, 11, 12, 13, 14, 20, 21, 22], [0, 1, 2, 3, 4, 5, 6, 7, 8, 9, 10, 11, 12, 13, 14, 20, 21, 22, 23], [0, 1, 2, 3, 4, 5, 6, 7, 8, 9, 10, 11, 12, 13, 14, 20, 21, 22, 23, 24], [0, 1, 2, 3, 4, 5, 6, 7, 8, 9, 10, 11, 12, 13, 14, 15, 16, 17, 18, 19, 20, 21, 22, 23, 24, 25], [0, 1, 2, 3, 4, 5, 6, 7, 8, 9, 10, 11, 12, 13, 14, 15, 16, 17, 18, 19, 20, 21, 22, 23, 24, 25, 26], [0, 1, 2, 3, 4, 5, 6, 7, 8, 9, 10, 11, 12, 13, 14, 15, 16, 17, 18, 19, 20, 21, 22, 23, 24, 25, 26, 27]]) (by kernel_rfl) (by kernel_rfl) (fun x w h1 h2 => (.cons () (.cons () (.cons () (.cons () (.cons () (.cons () (.cons () (.cons () (.nil ⟨EnvAll.of h1 ⟨rfl, rfl, rfl, rfl, rfl, rfl, rfl, trivial⟩, h2⟩)))))))))) (fun Q => by kernel_rfl) ⟨?_, ?_, ?_, ?_, ?_, ?_, ?_, ?_, ?_, ?_, ?_, ?_, ?_, ?_, ?_, ?_, ?_, ?_, ?_, ?_, ?_, ?_, ?_, ?_, ?_, ?_, ?_, ?_, ?_, trivial⟩ ?_
                  · rintro Fr _
                    refine SO.v rfl (opv_move rfl) ?_
                    exact SO.nilZ fun a w h1 h2 h3 h4 h5 => PZ.of h1 h3 h5 (.cons () (.cons () (.nil ⟨EnvAll.of h2 ⟨rfl, rfl, trivial⟩, h4⟩)))
                  · rintro Fr _
                    refine SO.v rfl (opv_not rfl) ?_
                    exact SO.nilZ fun a w h1 h2 h3 h4 h5 => PZ.of h1 h3 h5 (.cons () (.cons () (.nil ⟨EnvAll.of h2 ⟨rfl, rfl, trivial⟩, h4⟩)))
                  · rintro Fr _
                    refine SO.v rfl (opv_move rfl) ?_
                    exact SO.nilZ fun a w h1 h2 h3 h4 h5 => PZ.of h1 h3 h5 (.cons () (.cons () (.nil ⟨EnvAll.of h2 ⟨rfl, rfl, trivial⟩, h4⟩)))
                  · rintro Fr _ _
                    refine SO.takeT rfl rfl rfl b26 ?_
                    refine SO.v rfl (opv_move rfl) ?_
                    exact SO.nilZ fun a w h1 h2 h3 h4 h5 => PZ.of h1 h3 h5 (.cons () (.cons () (.cons () (.nil ⟨EnvAll.of h2 ⟨rfl, rfl, rfl, trivial⟩, h4⟩))))
                  · rintro Fr _ _
                    refine SO.takeT rfl rfl rfl b26 ?_
                    refine SO.v rfl (opv_move rfl) ?_
                    exact SO.nilZ fun a w h1 h2 h3 h4 h5 => PZ.of h1 h3 h5 (.cons () (.cons () (.cons () (.nil ⟨EnvAll.of h2 ⟨rfl, rfl, rfl, trivial⟩, h4⟩))))
                  · rintro Fr _ _
                    refine SO.takeT rfl rfl rfl b26 ?_
                    refine SO.v rfl (opv_move rfl) ?_
                    exact SO.nilZ fun a w h1 h2 h3 h4 h5 => PZ.of h1 h3 h5 (.cons () (.cons () (.cons () (.nil ⟨EnvAll.of h2 ⟨rfl, rfl, rfl, trivial⟩, h4⟩))))
                  · rintro Fr _ _ _ _
                    refine SO.takeT rfl rfl rfl b26 ?_
                    refine SO.v rfl (opv_idx Try.underlying25 Try.sizeOf29 hr17 rfl rfl hx28) ?_
                    exact SO.nilZ fun a w h1 h2 h3 h4 h5 => PZ.of h1 h3 h5 (.cons () (.cons () (.cons () (.cons () (.cons () (.nil ⟨EnvAll.of h2 ⟨rfl, rfl, rfl, rfl, trivial⟩, h4⟩))))))
                  · rintro Fr _ _ _
                    refine SO.takeT rfl rfl rfl b26 ?_
                    refine SO.v rfl (opv_fieldIdx Try.underlying29 rfl Try.sizeOf3 hr17 hx28 rfl rfl) ?_
                    exact SO.nilZ fun a w h1 h2 h3 h4 h5 => PZ.of h1 h3 h5 (.cons () (.cons () (.cons () (.cons () (.nil ⟨EnvAll.of h2 ⟨rfl, rfl, rfl, trivial⟩, h4⟩)))))
                  · rintro Fr _ _ _
                    refine SO.takeT rfl rfl rfl b26 ?_
                    refine SO.loadI1 (j := 1) rfl Try.isAgg3 (Rd.head hr17) hx28 rfl rfl rfl rfl ?_
                    exact SO.nilZ fun a w h1 h2 h3 h4 h5 => PZ.of h1 h3 h5 (.cons () (.cons () (.cons () (.cons () (.nil ⟨EnvAll.of h2 ⟨rfl, rfl, rfl, trivial⟩, h4⟩)))))
                  · rintro Fr _ _ _
                    refine SO.takeT rfl rfl rfl b26 ?_
                    refine SO.v rfl (opv_neq rfl rfl) ?_
                    exact SO.nilZ fun a w h1 h2 h3 h4 h5 => PZ.of h1 h3 h5 (.cons () (.cons () (.cons () (.cons () (.nil ⟨EnvAll.of h2 ⟨rfl, rfl, rfl, rfl, trivial⟩, h4⟩)))))
                  · rintro Fr _ _
                    refine SO.v rfl (opv_pick_f' b26 rfl rfl) ?_
                    exact SO.nilZ fun a w h1 h2 h3 h4 h5 => PZ.of h1 h3 h5 (.cons () (.cons () (.cons () (.nil ⟨EnvAll.of h2 ⟨rfl, rfl, rfl, trivial⟩, h4⟩))))
                  · rintro Fr _
                    refine SO.v rfl (opv_move rfl) ?_
                    exact SO.nilZ fun a w h1 h2 h3 h4 h5 => PZ.of h1 h3 h5 (.cons () (.cons () (.nil ⟨EnvAll.of h2 ⟨rfl, rfl, trivial⟩, h4⟩)))
                  · rintro Fr _ _
                    refine SO.takeT rfl rfl rfl b29 ?_
                    refine SO.v rfl (opv_move rfl) ?_
                    exact SO.nilZ fun a w h1 h2 h3 h4 h5 => PZ.of h1 h3 h5 (.cons () (.cons () (.cons () (.nil ⟨EnvAll.of h2 ⟨rfl, rfl, rfl, trivial⟩, h4⟩))))
                  · rintro Fr _ _
                    refine SO.takeT rfl rfl rfl b29 ?_
                    refine SO.v rfl (opv_gtr rfl rfl) ?_
                    exact SO.nilZ fun a w h1 h2 h3 h4 h5 => PZ.of h1 h3 h5 (.cons () (.cons () (.cons () (.nil ⟨EnvAll.of h2 ⟨rfl, rfl, rfl, trivial⟩, h4⟩))))
                  · rintro Fr _ _
                    refine SO.takeT rfl rfl rfl b29 ?_
                    refine SO.v rfl (opv_move rfl) ?_
                    exact SO.nilZ fun a w h1 h2 h3 h4 h5 => PZ.of h1 h3 h5 (.cons () (.cons () (.cons () (.nil ⟨EnvAll.of h2 ⟨rfl, rfl, rfl, trivial⟩, h4⟩))))
                  · rintro Fr _
                    refine SO.passF rfl rfl rfl b30 rfl rfl ?_
                    exact SO.nilZ fun a w h1 h2 h3 h4 h5 => PZ.of h1 h3 h5 (.cons () (.cons () (.nil ⟨EnvAll.of h2 ⟨rfl, rfl, trivial⟩, h4⟩)))
                  · rintro Fr _
                    refine SO.passF rfl rfl rfl b30 rfl rfl ?_
                    exact SO.nilZ fun a w h1 h2 h3 h4 h5 => PZ.of h1 h3 h5 (.cons () (.cons () (.nil ⟨EnvAll.of h2 ⟨rfl, rfl, trivial⟩, h4⟩)))
                  · rintro Fr _
                    refine SO.passF rfl rfl rfl b30 rfl rfl ?_
                    exact SO.nilZ fun a w h1 h2 h3 h4 h5 => PZ.of h1 h3 h5 (.cons () (.cons () (.nil ⟨EnvAll.of h2 ⟨rfl, rfl, trivial⟩, h4⟩)))
                  · rintro Fr _
                    refine SO.passF rfl rfl rfl b30 rfl rfl ?_
                    exact SO.nilZ fun a w h1 h2 h3 h4 h5 => PZ.of h1 h3 h5 (.cons () (.cons () (.nil ⟨EnvAll.of h2 ⟨rfl, rfl, trivial⟩, h4⟩)))
                  · rintro Fr _
                    refine SO.passF rfl rfl rfl b30 rfl rfl ?_
                    exact SO.nilZ fun a w h1 h2 h3 h4 h5 => PZ.of h1 h3 h5 (.cons () (.cons () (.nil ⟨EnvAll.of h2 ⟨rfl, rfl, trivial⟩, h4⟩)))
                  · rintro Fr _
                    refine SO.passF rfl rfl rfl b30 rfl rfl ?_
                    exact SO.nilZ fun a w h1 h2 h3 h4 h5 => PZ.of h1 h3 h5 (.cons () (.cons () (.nil ⟨EnvAll.of h2 ⟨rfl, rfl, trivial⟩, h4⟩)))
                  · rintro Fr _
                    refine SO.passF rfl rfl rfl b30 rfl rfl ?_
                    exact SO.nilZ fun a w h1 h2 h3 h4 h5 => PZ.of h1 h3 h5 (.cons () (.cons () (.nil ⟨EnvAll.of h2 ⟨rfl, rfl, trivial⟩, h4⟩)))
                  · rintro Fr _
                    refine SO.passF rfl rfl rfl b30 rfl rfl ?_
                    exact SO.nilZ fun a w h1 h2 h3 h4 h5 => PZ.of h1 h3 h5 (.cons () (.cons () (.nil ⟨EnvAll.of h2 ⟨rfl, rfl, trivial⟩, h4⟩)))
                  · rintro Fr _
                    refine SO.passF rfl rfl rfl b30 rfl rfl ?_
                    exact SO.nilZ fun a w h1 h2 h3 h4 h5 => PZ.of h1 h3 h5 (.cons () (.cons () (.nil ⟨EnvAll.of h2 ⟨rfl, rfl, trivial⟩, h4⟩)))
                  · rintro Fr _
                    refine SO.passF rfl rfl rfl b30 rfl rfl ?_
                    exact SO.nilZ fun a w h1 h2 h3 h4 h5 => PZ.of h1 h3 h5 (.cons () (.cons () (.nil ⟨EnvAll.of h2 ⟨rfl, rfl, trivial⟩, h4⟩)))
                  · rintro Fr _
                    refine SO.passF rfl rfl rfl b30 rfl rfl ?_
                    exact SO.nilZ fun a w h1 h2 h3 h4 h5 => PZ.of h1 h3 h5 (.cons () (.cons () (.nil ⟨EnvAll.of h2 ⟨rfl, rfl, trivial⟩, h4⟩)))
                  · rintro Fr _
                    refine SO.passF rfl rfl rfl b30 rfl rfl ?_
                    exact SO.nilZ fun a w h1 h2 h3 h4 h5 => PZ.of h1 h3 h5 (.cons () (.cons () (.nil ⟨EnvAll.of h2 ⟨rfl, rfl, trivial⟩, h4⟩)))
                  · rintro Fr _ _ _
                    refine SO.takeT rfl rfl rfl b29 ?_
                    refine SO.v rfl (opv_pick_f' b30 rfl rfl) ?_
                    exact SO.nilZ fun a w h1 h2 h3 h4 h5 => PZ.of h1 h3 h5 (.cons () (.cons () (.cons () (.cons () (.nil ⟨EnvAll.of h2 ⟨rfl, rfl, rfl, rfl, trivial⟩, h4⟩)))))
                  · rintro Fr _ _
                    refine SO.v rfl (opv_pick_f' b29 rfl rfl) ?_
                    exact SO.nilZ fun a w h1 h2 h3 h4 h5 => PZ.of h1 h3 h5 (.cons () (.cons () (.cons () (.nil ⟨EnvAll.of h2 ⟨rfl, rfl, rfl, trivial⟩, h4⟩))))
                  rintro _ _ _ _ _ _ _
                  refine S.to (ρ' := [(4, .bool false), (5, .bool t1), (6, v5), (8, v16), (9, .int .i64 x9_2), (91, .bool false)]) ⟨rfl, rfl, rfl, rfl, rfl, rfl, trivial⟩ ?_
                  cases h
                  refine S.b2 ?_
                  refine S.b2 ?_
                  refine S.b2 ?_
                  refine S.to ?_ (hk3 () trivial)
                  exact ⟨rfl, rfl, rfl, rfl, rfl, rfl, trivial⟩
          rintro _ -
          replace h := hJ3
          rcases bool_or j91_3 with b35 | b35
          · replace h := cond_t b35 h
            refine S.condT rfl b35 ?_
            refine S.seq ?_
            refine S.region ?_
            refine SO.v rfl (opv_assign rfl) ?_
            refine SO.nil ?_
            cases h
            replace h := hK2.1 _ rfl
            cases h
            refine S.drop ?_
            refine S.drop ?_
            exact S.ret1 Try.func3 rfl rfl (fun w hs hk => hR w _ _ ⟨rfl, rfl⟩ hs hk)
          · replace h := cond_f b35 h
            refine S.condF rfl b35 ?_
            refine S.skip ?_
            refine S.inBlock ?_
            refine S.region ?_
            refine SO.v rfl (opv_move rfl) ?_
            refine SO.v rfl (opv_add rfl rfl) ?_
            refine SO.v rfl (opv_assign rfl) ?_
            refine SO.nil ?_
            refine S.b2 ?_
            refine S.b2 ?_
            refine S.b2 ?_
            refine S.to ?_ (ih2 (w64 (x9_2 + 1), ()) h)
            exact ⟨rfl, rfl, rfl, rfl, rfl, trivial⟩
        · replace h := cond_f b20 h
          refine S.condF rfl b20 ?_
          refine S.exit rfl ?_
          cases h
          refine S.b2 ?_
          refine S.b2 ?_
          refine S.b2 ?_
          refine S.to ?_ (hK2.2 () () rfl)
          exact ⟨rfl, rfl, trivial⟩
      refine ⟨fun r' e' => ?_, ?_⟩
      · subst e'
        have h9 := Brk.of_ret h
        exact h9
      rintro _ _ e'
      subst e'
      replace h := Brk.of_nx h
      refine S.seq ?_
      refine S.region ?_
      refine SO.v rfl (opv_move rfl) ?_
      refine SO.v rfl (opv_assign rfl) ?_
      refine SO.nil ?_
      cases h
      refine S.drop ?_
      refine S.drop ?_
      exact S.ret1 Try.func3 rfl rfl (fun w hs hk => hR w _ _ ⟨rfl, rfl⟩ hs hk)
end Go.Proofs
