/- What the functions that InvokeLess reaches come to, and that they do. On no condition. -/
import Derived.Test.YtgagncmcdggpiaaGreatDoorFr1
import Derived.Shelf.SlIterI.Nil
import Derived.Shelf.SortM.Plain
import Derived.Shelf.SortM.SortNone
import Derived.Test.YtgagncmcdggpiaaGreatDoorProg
import Derived.Test.YtgagncmcdggpiaaGreatDoorFnInvokeLess0
import Derived.Test.YtgagncmcdggpiaaGreatDoorFnInvokeLess2
import Derived.Test.YtgagncmcdggpiaaGreatDoorFnInvokeLess3
set_option linter.all false
namespace Go.Proofs
open Go.RowKit Go.Maps Go.Sort Go.Shelf Go.Sl
def keysL42_ren : Go.Shelf.Ren := ⟨fun | 7 => 42 | 10 => 88 | n => n, fun | 23 => 67 | 26 => 3 | 3 => 55 | 28 => 103 | 0 => 0 | 27 => 102 | 33 => 41 | 4 => 4 | n => n, fun | n => n⟩
theorem keysL42 : Go.Proofs.SlLaysZI.n7 Tryz.prog keysL42_ren := {
  mixed := by kernel_rfl,
  f7 := ⟨Tryz.f42.name, by decide, Tryz.func42.trans (congrArg some (by kernel_rfl))⟩,
  f10 := ⟨Tryz.f88.name, by decide, Tryz.func88.trans (congrArg some (by kernel_rfl))⟩,
  t0 := Tryz.underlying0,
  a0 := Tryz.isAgg0,
  z0 := Tryz.sizeOf0,
  v0 := Tryz.zeroValue0,
  t4 := Tryz.underlying4,
  a4 := Tryz.isAgg4,
  z4 := Tryz.sizeOf4,
  v4 := Tryz.zeroValue4,
  t23 := Tryz.underlying67,
  a23 := Tryz.isAgg67,
  z23 := Tryz.sizeOf67,
  v23 := Tryz.zeroValue67,
  t26 := Tryz.underlying3,
  a26 := Tryz.isAgg3,
  z26 := Tryz.sizeOf3,
  v26 := Tryz.zeroValue3,
  t27 := Tryz.underlying102,
  a27 := Tryz.isAgg102,
  z27 := Tryz.sizeOf102,
  v27 := Tryz.zeroValue102,
  t28 := Tryz.underlying103,
  a28 := Tryz.isAgg103,
  z28 := Tryz.sizeOf103,
  v28 := Tryz.zeroValue103,
  t33 := Tryz.underlying41,
  a33 := Tryz.isAgg41,
  z33 := Tryz.sizeOf41,
  v33 := Tryz.zeroValue41 }
def sortedL_ren : Go.Shelf.Ren := ⟨fun | 6 => 41 | 8 => 86 | 9 => 87 | 11 => 147 | 13 => 149 | 12 => 148 | 23 => 198 | 24 => 199 | 14 => 189 | 15 => 190 | 16 => 191 | 17 => 192 | 18 => 193 | 19 => 194 | 20 => 195 | 21 => 196 | 22 => 197 | 25 => 207 | 26 => 208 | 27 => 209 | 28 => 210 | 29 => 211 | 30 => 212 | 31 => 213 | n => n, fun | 26 => 3 | 28 => 103 | 24 => 43 | 0 => 0 | 3 => 3 | 37 => 193 | 48 => 210 | 50 => 55 | 4 => 4 | 40 => 204 | 39 => 203 | 45 => 89 | 5 => 5 | 9 => 9 | 51 => 216 | 55 => 220 | 57 => 222 | 58 => 105 | 33 => 41 | n => n, fun | n => n⟩
theorem sortedL : Go.Proofs.SlLaysZI.n6 Tryz.prog sortedL_ren := {
  mixed := by kernel_rfl,
  f6 := ⟨Tryz.f41.name, by decide, Tryz.func41.trans (congrArg some (by kernel_rfl))⟩,
  f8 := ⟨Tryz.f86.name, by decide, Tryz.func86.trans (congrArg some (by kernel_rfl))⟩,
  f11 := ⟨Tryz.f147.name, by decide, Tryz.func147.trans (congrArg some (by kernel_rfl))⟩,
  t0 := Tryz.underlying0,
  a0 := Tryz.isAgg0,
  z0 := Tryz.sizeOf0,
  v0 := Tryz.zeroValue0,
  t24 := Tryz.underlying43,
  a24 := Tryz.isAgg43,
  z24 := Tryz.sizeOf43,
  v24 := Tryz.zeroValue43,
  t26 := Tryz.underlying3,
  a26 := Tryz.isAgg3,
  z26 := Tryz.sizeOf3,
  v26 := Tryz.zeroValue3,
  t28 := Tryz.underlying103,
  a28 := Tryz.isAgg103,
  z28 := Tryz.sizeOf103,
  v28 := Tryz.zeroValue103,
  i26 := by kernel_rfl }
def sortL_ren : Go.Shelf.Ren := ⟨fun | 5 => 87 | 8 => 149 | 7 => 148 | 19 => 198 | 20 => 199 | 10 => 189 | 11 => 190 | 12 => 191 | 13 => 192 | 14 => 193 | 15 => 194 | 16 => 195 | 17 => 196 | 18 => 197 | 30 => 207 | 31 => 208 | 32 => 209 | 33 => 210 | 34 => 211 | 35 => 212 | 40 => 213 | n => n, fun | 23 => 43 | 25 => 3 | 3 => 3 | 32 => 193 | 22 => 43 | 0 => 0 | 44 => 210 | 46 => 55 | 4 => 4 | 36 => 204 | 35 => 203 | 41 => 89 | 5 => 5 | 9 => 9 | 53 => 216 | 57 => 220 | 63 => 222 | 64 => 105 | n => n, fun | n => n⟩
theorem sortL : Go.Proofs.SlLaysM.n5 Tryz.prog sortL_ren := {
  mixed := by kernel_rfl,
  f5 := ⟨Tryz.f87.name, by decide, Tryz.func87.trans (congrArg some (by kernel_rfl))⟩,
  f7 := ⟨Tryz.f148.name, by decide, Tryz.func148.trans (congrArg some (by kernel_rfl))⟩,
  f8 := Tryz.func149.trans (congrArg some (by kernel_rfl)),
  f10 := ⟨Tryz.f189.name, by decide, Tryz.func189.trans (congrArg some (by kernel_rfl))⟩,
  f11 := ⟨Tryz.f190.name, by decide, Tryz.func190.trans (congrArg some (by kernel_rfl))⟩,
  f12 := ⟨Tryz.f191.name, by decide, Tryz.func191.trans (congrArg some (by kernel_rfl))⟩,
  f13 := ⟨Tryz.f192.name, by decide, Tryz.func192.trans (congrArg some (by kernel_rfl))⟩,
  f14 := ⟨Tryz.f193.name, by decide, Tryz.func193.trans (congrArg some (by kernel_rfl))⟩,
  f15 := ⟨Tryz.f194.name, by decide, Tryz.func194.trans (congrArg some (by kernel_rfl))⟩,
  f16 := ⟨Tryz.f195.name, by decide, Tryz.func195.trans (congrArg some (by kernel_rfl))⟩,
  f17 := ⟨Tryz.f196.name, by decide, Tryz.func196.trans (congrArg some (by kernel_rfl))⟩,
  f18 := ⟨Tryz.f197.name, by decide, Tryz.func197.trans (congrArg some (by kernel_rfl))⟩,
  f19 := Tryz.func198.trans (congrArg some (by kernel_rfl)),
  f20 := Tryz.func199.trans (congrArg some (by kernel_rfl)),
  f30 := ⟨Tryz.f207.name, by decide, Tryz.func207.trans (congrArg some (by kernel_rfl))⟩,
  f31 := Tryz.func208.trans (congrArg some (by kernel_rfl)),
  f32 := Tryz.func209.trans (congrArg some (by kernel_rfl)),
  f33 := ⟨Tryz.f210.name, by decide, Tryz.func210.trans (congrArg some (by kernel_rfl))⟩,
  f34 := ⟨Tryz.f211.name, by decide, Tryz.func211.trans (congrArg some (by kernel_rfl))⟩,
  f35 := ⟨Tryz.f212.name, by decide, Tryz.func212.trans (congrArg some (by kernel_rfl))⟩,
  f40 := ⟨Tryz.f213.name, by decide, Tryz.func213.trans (congrArg some (by kernel_rfl))⟩,
  t0 := Tryz.underlying0,
  a0 := Tryz.isAgg0,
  z0 := Tryz.sizeOf0,
  v0 := Tryz.zeroValue0,
  t3 := Tryz.underlying3,
  a3 := Tryz.isAgg3,
  z3 := Tryz.sizeOf3,
  v3 := Tryz.zeroValue3,
  t4 := Tryz.underlying4,
  a4 := Tryz.isAgg4,
  z4 := Tryz.sizeOf4,
  v4 := Tryz.zeroValue4,
  t5 := Tryz.underlying5,
  a5 := Tryz.isAgg5,
  z5 := Tryz.sizeOf5,
  v5 := Tryz.zeroValue5,
  t9 := Tryz.underlying9,
  a9 := Tryz.isAgg9,
  z9 := Tryz.sizeOf9,
  v9 := Tryz.zeroValue9,
  t22 := Tryz.underlying43,
  a22 := Tryz.isAgg43,
  z22 := Tryz.sizeOf43,
  v22 := Tryz.zeroValue43,
  t23 := Tryz.underlying43,
  a23 := Tryz.isAgg43,
  z23 := Tryz.sizeOf43,
  v23 := Tryz.zeroValue43,
  t25 := Tryz.underlying3,
  a25 := Tryz.isAgg3,
  z25 := Tryz.sizeOf3,
  v25 := Tryz.zeroValue3,
  t32 := Tryz.underlying193,
  a32 := Tryz.isAgg193,
  z32 := Tryz.sizeOf193,
  v32 := Tryz.zeroValue193,
  t35 := Tryz.underlying203,
  a35 := Tryz.isAgg203,
  z35 := Tryz.sizeOf203,
  v35 := Tryz.zeroValue203,
  t36 := Tryz.underlying204,
  a36 := Tryz.isAgg204,
  z36 := Tryz.sizeOf204,
  v36 := Tryz.zeroValue204,
  t41 := Tryz.underlying89,
  a41 := Tryz.isAgg89,
  z41 := Tryz.sizeOf89,
  v41 := Tryz.zeroValue89,
  t44 := Tryz.underlying210,
  a44 := Tryz.isAgg210,
  z44 := Tryz.sizeOf210,
  v44 := Tryz.zeroValue210,
  t46 := Tryz.underlying55,
  a46 := Tryz.isAgg55,
  z46 := Tryz.sizeOf55,
  v46 := Tryz.zeroValue55,
  t53 := Tryz.underlying216,
  a53 := Tryz.isAgg216,
  z53 := Tryz.sizeOf216,
  v53 := Tryz.zeroValue216,
  t57 := Tryz.underlying220,
  a57 := Tryz.isAgg220,
  z57 := Tryz.sizeOf220,
  v57 := Tryz.zeroValue220,
  t63 := Tryz.underlying222,
  a63 := Tryz.isAgg222,
  z63 := Tryz.sizeOf222,
  v63 := Tryz.zeroValue222,
  t64 := Tryz.underlying105,
  a64 := Tryz.isAgg105,
  z64 := Tryz.sizeOf105,
  v64 := Tryz.zeroValue105 }
theorem sortsAll (m : Nat) : AnyZI.SortsIn Tryz.prog sortedL_ren Fence.wide m :=
  ⟨fun blk off cap ss W hH hblk hsz => callsIn_wide.2 (AnyM.slices_Sort_int sortL blk off cap ss W hH hblk hsz),
   fun p cap W => callsIn_wide.2 (AnyM.slices_Sort_int_none sortL p cap W)⟩
theorem keysO_42 {α : Type} {enc : α → Value} (v : Value) (o : Option (List (Int × α))) : Ct Tryz.prog 42 [v] (fun _ => True) [MapO enc v o] (fun u H' => ∃ bm, u = .func (.func 88) #[] #[bp bm 0] ∧ H' = [Box bm [v], MapO enc v o]) :=
  Ct.keysO (n := 5) (T := 67) (fun mb W => AnyZI.keys_in keysL42 Fence.wide 5 trivial rfl mb W) v o
theorem sortedO_42 {α : Type} {enc : α → Value} (bm : Nat) (v : Value) (o : Option (List (Int × α))) (ys : List Int) (ho : skeysO o = some ys) : Ct Tryz.prog 41 [.func (.func 88) #[] #[bp bm 0]] (fun _ => True) [Box bm [v], MapO enc v o] (fun u H' => ∃ r, u = r ∧ H' = [Own 3 (ekI .i64) r ys, Box bm [v], MapO enc v o]) :=
  Ct.sortedO (n := 5) Tryz.underlying3 (fun w bm b nn D0 hbm hm hown hsz => AnyZI.sorted_in sortedL Fence.wide 5 trivial trivial trivial trivial rfl (by omega) (sortsAll _) (enters_of Tryz.func87 (by kernel_rfl) rfl) 88 #[.pointer (some ⟨bm, 0, none⟩)] trivial (enters_of Tryz.func88 (by kernel_rfl) rfl) _ _ (by simp only [maxLen]; omega) (by omega) _ (AnyZI.keys_gives (ρ := keysL42_ren) { keysL42 with } Fence.wide _ trivial rfl (by omega) bm b nn D0 w hbm hm hown)) bm v o ys ho
open Go.Sl Go.RowKit
def view_Of_uint64.l1 (a0 : Option (List (Int × Int))) (ys2 : List Int) : Nat → (Int × (List view_Pair_uint64)) → Option ((List view_Pair_uint64))
  | 0, _ => none
  | k + 1, (x10_1, x3_1) => bif decide (x10_1 < (ys2.length : Int)) then ((at_ ys2 x10_1).bind fun x8 => (lk1 a0 x8 (0 : Int)).bind fun x10 => (app x3_1 ([(⟨x8, x10⟩ : view_Pair_uint64)])).bind fun zs14 => view_Of_uint64.l1 a0 ys2 k (w64 (x10_1 + 1), zs14)) else (some x3_1)
def view_Of_uint64.f (k : Nat) (a0 : Option (List (Int × Int))) : Option (((List view_Pair_uint64) × (Option (List (Int × Int))))) :=
  (skeysO a0).bind fun ys2 => (view_Of_uint64.l1 a0 ys2 k (0, [])).bind fun j3_e1 => some (j3_e1, a0)
set_option maxHeartbeats 8000000 in
set_option maxRecDepth 100000 in
theorem view_Of_uint64.ct (k : Nat) (v0 : Value) (a0 : Option (List (Int × Int))) (r0 : List view_Pair_uint64) (q0 : Option (List (Int × Int))) (h : view_Of_uint64.f k a0 = some (r0, q0)) :
    Ct Tryz.prog 23 [v0] (fun _ => True) [MapO (Value.int .u64) v0 a0] (fun u H' => ∃ v_r0, u = v_r0 ∧ H' = [Own 81 ek_view_Pair_uint64 v_r0 r0, MapO (Value.int .u64) v0 q0]) := by
 unfold view_Of_uint64.f at h
 refine Ct.intro (n := 24) Tryz.func23 rfl rfl rfl ?_
 intro R w0 F hF hR
 refine S.seq <| S.region <| ag rfl <| SO.nil <| S.seq <| S.region <| ag rfl <| SO.nil <| S.seq <| S.seq <| S.region <| mv rfl <| SO.call (pre := [MapO _ _ _]) rfl Tryz.call42 rfl rfl rfl (keysO_42 (enc := (Value.int .u64)) v0 a0) trivial ?_
 rintro _ _ ⟨b1, rfl, rfl⟩
 obtain ⟨ys2, hy3, h⟩ := opt_bind h
 refine SO.b1 <| SO.b1 <| SO.call (pre := [Box _ _, MapO _ _ _]) rfl Tryz.call41 rfl rfl rfl (sortedO_42 (enc := (Value.int .u64)) b1 v0 a0 ys2 hy3) trivial ?_
 rintro v4 _ ⟨_, rfl, rfl⟩
 refine SO.rd fun hr5 => vv (opv_lenR rfl Tryz.underlying43 hr5 rfl) <| mv rfl <| SO.nil ?_
 obtain ⟨j3_e1, hlp1, h⟩ := opt_bind h
 refine S.newOwn 81 ek_view_Pair_uint64 <| S.b4 <| S.b4 <| S.b4 <| S.b4 <| S.b4 <| tt [(10, .int .i64 0), (9, .int .i64 (ys2.length : Int)), (8, v4), (3, .slice none 0 0), (2, .slice none 0 0), (0, v0)] rfl ?_
 refine S.forloop (X := (Int × (List view_Pair_uint64)) × Value) (O := (List view_Pair_uint64)) (fun m x => view_Of_uint64.l1 a0 ys2 m x.1) (fun x => match x with | ((x10_1, x3_1), v3_1) => [(10, .int .i64 x10_1), (9, .int .i64 (ys2.length : Int)), (8, v4), (3, v3_1), (2, .slice none 0 0), (0, v0)]) (fun x => match x with | ((x10_1, x3_1), v3_1) => [Own 81 ek_view_Pair_uint64 v3_1 x3_1, Own 3 (ekI .i64) v4 ys2, Box b1 [v0], MapO (Value.int .u64) v0 a0, F]) (fun Sk => (fun j3_e1 => ∀ v3_e1 : Value, Sk [(2, .slice none 0 0), (3, v3_e1)] [Own 81 ek_view_Pair_uint64 v3_e1 j3_e1, Own 3 (ekI .i64) v4 ys2, Box b1 [v0], MapO (Value.int .u64) v0 a0, F])) (fun _ => rfl) ?_ (m := k) (x := ((0, []), .slice none 0 0)) hlp1 ?_
 ·clear h hlp1
  intro k x o_1 h hK1 ih1
  obtain ⟨⟨x10_1, x3_1⟩, v3_1⟩ := x
  replace h : view_Of_uint64.l1 a0 ys2 (k + 1) (x10_1, x3_1) = some o_1 := h
  first | rw [view_Of_uint64.l1] at h | unfold view_Of_uint64.l1 at h
  refine S.rd fun hr6 => S.seq <| S.region <| vv (opv_lss rfl rfl) <| SO.nil <| S.seq ?_
  rcases bool_or (decide (x10_1 < (ys2.length : Int))) with b7 | b7
  ·replace h := cond_t b7 h
   refine S.condT rfl b7 <| S.skip <| S.seq <| S.block <| S.seq <| S.region ?_
   obtain ⟨x8, hx9, h⟩ := opt_bind h
   refine vv (opv_idx Tryz.underlying43 Tryz.sizeOf3 hr5 rfl rfl hx9) <| SO.loadI1 (j := 0) rfl Tryz.isAgg3 (Rd.tail (Rd.head hr5)) hx9 rfl rfl rfl rfl <| ag rfl <| SO.nil <| S.region <| mv rfl <| mv rfl <| mv rfl <| mv rfl ?_
   obtain ⟨x10, hlk11, h⟩ := opt_bind h
   refine SO.b3 <| SO.lookup1O (enc := (Value.int .u64)) (zx := (0 : Int)) rfl Tryz.underlying67 Tryz.underlying3 Tryz.zeroValue55 rfl rfl hlk11 <| vv (opv_build (v := .agg #[.int .i64 x8, .int .u64 x10]) rfl (by intro w; kernel_rfl)) <| SO.buildSlice (K := ek_view_Pair_uint64) (xs := [(⟨x8, x10⟩ : view_Pair_uint64)]) (cs := [.int .i64 x8, .int .u64 x10]) rfl Tryz.underlying78 Tryz.sizeOf81 Tryz.zeroValue81 rfl rfl rfl (by kernel_rfl) rfl rfl rfl fun v12 hr13 => ?_
   obtain ⟨zs14, hz15, h⟩ := opt_bind h
   refine SO.b2 <| SO.append rfl Tryz.underlying78 Tryz.underlying78 inf81 rfl rfl rfl (by decide) rfl rfl rfl (Rd.head hr13) hz15 fun v16 => SO.rd fun hr17 => ag rfl <| SO.nil <| tt [(10, .int .i64 x10_1), (9, .int .i64 (ys2.length : Int)), (8, v4), (3, v16), (2, .slice none 0 0), (0, v0)] rfl <| S.inBlock <| S.region <| vv (opv_add rfl rfl) <| mv rfl <| SO.nil <| S.b1 <| S.drop <| S.b4 <| S.b2 <| S.b4 <| S.b4 <| S.b4 ?_
   refine S.to ?_ (ih1 ((w64 (x10_1 + 1), zs14), v16) h)
   exact ⟨rfl, rfl, rfl, rfl, rfl, rfl, trivial⟩
  replace h := cond_f b7 h
  refine S.condF rfl b7 <| S.exit rfl ?_
  cases h
  refine S.b4 <| S.b4 <| S.b4 <| S.b4 <| S.b4 ?_
  refine S.to ?_ (hK1 v3_1)
  exact ⟨rfl, rfl, trivial⟩
 rintro v3_e1
 refine S.rd fun hr18 => S.seq <| S.region <| mv rfl <| ag rfl <| SO.nil ?_
 cases h
 exact S.b1 <| S.drop <| S.b1 <| S.drop <| S.b2 <| S.b2 <| S.b2 <| S.ret1 Tryz.func23 rfl rfl (hR · _ _ ⟨v3_e1, rfl, rfl⟩)
def _root_.Go.Sl.VM.draft {α : Type} : VM α → List (Int × Int) → VM (α × List (Int × Int))
  | .ret a, o => .ret (a, o)
  | .fail, _ => .fail
  | .rd i k, o => match mfind o i with
    | some x => (k x).draft o
    | none => .rd i fun x => (k x).draft o
  | .wr i v k, o => k.draft (mset o i v)
def draftP (V : VW Tryz.prog) (b : Nat) (s : V.S × List (Int × Int)) : HProp := stars [V.rep s.1, MapL (.int .u64) b s.2]
theorem Ct.pack1 {P : Program} {g : FuncId} {vals : List Value} {A B : List HProp} {u0 : Value} (h : Ct P g vals (fun _ => True) A (fun u H' => u = u0 ∧ H' = B)) : Ct P g vals (fun _ => True) [stars A] (fun u H' => u = u0 ∧ H' = [stars B]) := by
  intro w F _ hs
  have h1 : Sat w (A ++ [F]) := (Sat.unpack (hs.perm (.swap _ _ _) : Sat w ([F] ++ [stars A]))).perm (List.perm_append_comm (l₁ := [F]) (l₂ := A))
  refine (h w F trivial h1).mono ?_
  rintro e w' ⟨u, H', rfl, ⟨rfl, rfl⟩, hs2, hk⟩
  refine ⟨_, _, rfl, ⟨rfl, rfl⟩, ?_, hk⟩
  exact (Sat.pack (l1 := [F]) (hs2.perm (List.perm_append_comm (l₁ := H') (l₂ := [F])))).perm (.swap _ _ _)
set_option maxRecDepth 100000 in
set_option maxHeartbeats 4000000 in
noncomputable def draftV (V : VW Tryz.prog) (b : Nat) : VW Tryz.prog :=
  { draftI V.toVI with
    t := 69, v := .agg #[V.val, .map (some b)], rep := draftP V b
    rF := 234, rV := .agg #[V.val, .map (some b)], wF := 235, wV := .agg #[V.val, .map (some b)]
    rM := by intro w; kernel_rfl
    wM := by intro w; kernel_rfl
    rN := by intro w; kernel_rfl
    wN := by intro w; kernel_rfl
    rC := Tryz.call234, wC := Tryz.call235
    rCt := fun s i => Ct.pack1 (invoke_draft_Read.ct V b s.1 s.2 i)
    wCt := fun s i x => Ct.pack1 (invoke_draft_Write.ct V b s.1 s.2 i x) }
theorem draft_run {α : Type} (V : VI) (m : VM α) : ∀ (o : List (Int × Int)) (s : V.S) (a : α) (o' : List (Int × Int)) (s' : V.S), VM.run V (m.draft o) s = some ((a, o'), s') → VM.run (draftI V) m (s, o) = some (a, (s', o')) := by
  induction m with
  | ret a => intro o s b o' s' h; cases h; rfl
  | fail => intro o s b o' s' h; cases h
  | rd i k ih =>
    intro o s b o' s' h
    unfold VM.draft at h
    unfold VM.run
    cases hf : mfind o i with
    | some x =>
      rw [hf] at h
      have e : (draftI V).rd (s, o) i = (x, (s, o)) := by show (match mfind o i with | some x => (x, (s, o)) | none => _) = _; rw [hf]
      rw [e]; exact ih x o s b o' s' h
    | none =>
      rw [hf] at h
      have e : (draftI V).rd (s, o) i = ((V.rd s i).1, ((V.rd s i).2, o)) := by show (match mfind o i with | some x => (x, (s, o)) | none => _) = _; rw [hf]
      rw [e]; exact ih _ o _ b o' s' h
  | wr i v k ih =>
    intro o s b o' s' h
    exact ih _ _ b o' s' h
section
variable {P : Program} {f : FuncId} {n : Nat} {Z : Act → World → Prop} {R : Ending → World → Prop} {w0 : Beg} {k : List Item} {ρ : Env} {rest : List HProp} {ops : Array Oper} {l : List Oper} {A B : HProp}
theorem Sat.star2 {w : World} (h : Sat w (A :: B :: rest)) : Sat w (stars [A, B] :: rest) :=
  (Sat.pack (l1 := rest) (h.perm (List.perm_append_comm (l₁ := [A, B]) (l₂ := rest)))).perm (List.perm_append_comm (l₁ := rest) (l₂ := [stars [A, B]]))
theorem Sat.unstar2 {w : World} (h : Sat w (stars [A, B] :: rest)) : Sat w (A :: B :: rest) :=
  (Sat.unpack (l1 := rest) (h.perm (List.perm_append_comm (l₁ := [stars [A, B]]) (l₂ := rest)))).perm (List.perm_append_comm (l₁ := rest) (l₂ := [A, B]))
theorem SO.star2 (h : SO P n Z w0 ops l ρ (stars [A, B] :: rest)) : SO P n Z w0 ops l ρ (A :: B :: rest) := h.sat fun _ s => Sat.star2 s
theorem SO.unstar2 (h : SO P n Z w0 ops l ρ (A :: B :: rest)) : SO P n Z w0 ops l ρ (stars [A, B] :: rest) := h.sat fun _ s => Sat.unstar2 s
theorem SO.toL {enc : Int → Value} {b : Nat} {o : List (Int × Int)} (h : SO P n Z w0 ops l ρ (MapL enc b o :: rest)) : SO P n Z w0 ops l ρ (MapB enc b o :: rest) := h.sat fun _ s => s.weaken fun _ q => q.toL
theorem SO.toO {enc : Int → Value} {b : Nat} {o : List (Int × Int)} (hf : fewB o = true) (h : SO P n Z w0 ops l ρ (MapO enc (.map (some b)) (some o) :: rest)) : SO P n Z w0 ops l ρ (MapL enc b o :: rest) := h.sat fun _ s => s.weaken fun _ q => ⟨b, rfl, q.toB hf⟩
end
def invoke_Do.l1 (ps : List view_Pair_uint64) : Nat → Int → VM Unit
  | 0, _ => .fail
  | k + 1, x => bif decide (x < (ps.length : Int)) then (VM.opt (at_ ps x)).bind fun p => .wr p.At p.Val (invoke_Do.l1 ps k (w64 (x + 1))) else .ret ()
def invoke_Do.f (k : Nat) (a1 : Int) (a2 : api_Call) : VM (api_Reply × Bool) :=
  (VM.opt (call_May.f a2)).bind fun t1 => (bif !t1 then VM.ret true else (invoke_Ready.f a1).bind fun t2 => VM.ret (!t2)).bind fun c3 => bif c3 then VM.ret ((⟨1, 0, 0⟩ : api_Reply), false) else
    (VM.draft (invoke_doer_do.f k ⟨a1, a2, 0, ⟨0, 0, 0, 0, 0, 0⟩⟩) []).bind fun p => bif p.1.2.1.isSome then (VM.opt (invoke_number.f p.1.2.1)).bind fun n => VM.ret ((⟨n, 0, 0⟩ : api_Reply), false) else
      (VM.opt (chk (fewB p.2))).bind fun _ => (VM.opt (view_Of_uint64.f k (some p.2))).bind fun q => (invoke_Do.l1 q.1 k 0).bind fun _ => (invoke_Ready.f a1).bind fun t4 => bif !t4 then VM.ret ((⟨0, 0, 0⟩ : api_Reply), true) else VM.ret ((⟨0, band .i64 p.1.1.Word 2147483647, band .i64 p.1.1.Badge 65535⟩ : api_Reply), false)
set_option maxHeartbeats 8000000 in
set_option maxRecDepth 100000 in
theorem invoke_Do.ct (V : VW Tryz.prog) (k : Nat) (a1 : Int) (a2 : api_Call) (r0 : api_Reply) (r1 : Bool) (s s' : V.S) (h : VM.run V.toVI (invoke_Do.f k a1 a2) s = some ((r0, r1), s')) :
    Ct Tryz.prog 8 [V.val, .int .i64 a1, .agg #[.int .i64 a2.Op, .int .i64 a2.Cap, .int .i64 a2.A, .int .i64 a2.B, .int .i64 a2.C, .int .i64 a2.D]] RdG [V.rep s] (fun u H' => u = .tuple #[.agg #[.int .i64 r0.Code, .int .i64 r0.Word, .int .i64 r0.Badge], .bool r1] ∧ H' = [V.rep s']) := by
 unfold invoke_Do.f at h
 refine Ct.intro (n := 70) Tryz.func8 rfl rfl rfl ?_
 intro R w0 F hF hR
 repeat refine S.seq ?_
 refine S.region <| SO.box rfl rfl rfl fun b1 => SO.alloc rfl Tryz.zeroValue34 rfl fun b2 => ag rfl <| SO.nil ?_
 repeat refine S.seq ?_
 refine S.region <| SO.b1 <| SO.loadN rfl Tryz.isAgg30 Tryz.sizeOf30 rfl rfl rfl ?_
 obtain ⟨t1, ht1, h⟩ := VM.opt_some V.toVI h
 refine SO.call (pre := []) rfl Tryz.call20 rfl rfl rfl (call_May.ct _ _ ht1) trivial ?_
 rintro _ _ ⟨rfl, rfl⟩
 refine vv (opv_not rfl) <| mv rfl ?_
 obtain ⟨c3, s3, hc3, h⟩ := VM.bind_some V.toVI h
 refine SO.b1 <| SO.b2 ?_
 refine SO.cut 5 22 (.bool c3) [V.rep s3, Box b2 [.int .i64 0, .int .i64 0, .int .i64 0], Box b1 [.int .i64 a2.Op, .int .i64 a2.Cap, .int .i64 a2.A, .int .i64 a2.B, .int .i64 a2.C, .int .i64 a2.D], F] (fun l2 hk2 => ?_) ?_
 ·rcases bool_or (!t1) with b5 | b5
  ·replace hc3 := VM.cond_t V.toVI b5 hc3
   obtain ⟨rfl, rfl⟩ := VM.ret_some V.toVI hc3
   exact pf rfl rfl rfl b5 <| pf rfl rfl rfl b5 <| pf rfl rfl rfl b5 <| pf rfl rfl rfl b5 <| vv (opv_pick_t' b5 rfl rfl) <| hk2.fitc (m := 5) rfl rfl rfl
  ·replace hc3 := VM.cond_f V.toVI b5 hc3
   obtain ⟨t2, s2, ht2, hc3⟩ := VM.bind_some V.toVI hc3
   obtain ⟨rfl, rfl⟩ := VM.ret_some V.toVI hc3
   refine SO.takeT rfl rfl rfl b5 <| mv rfl <| SO.takeT rfl rfl rfl b5 <| mv rfl <| SO.takeT rfl rfl rfl b5 <| SO.call (pre := [V.rep _]) rfl Tryz.call13 rfl rfl rfl (invoke_Ready.ct V _ _ _ _ ht2) trivial ?_
   rintro _ _ ⟨rfl, rfl⟩
   exact SO.takeT rfl rfl rfl b5 <| vv (opv_not rfl) <| vv (opv_pick_f' b5 rfl rfl) <| hk2.fitc (m := 5) rfl rfl rfl
 refine SO.nil ?_
 rcases bool_or c3 with b6 | b6
 ·replace h := VM.cond_t V.toVI b6 h
  obtain ⟨hq, rfl⟩ := VM.ret_some V.toVI h
  cases hq
  refine S.condT rfl b6 ?_
  repeat refine S.seq ?_
  exact S.region <| vv (opv_build (v := .agg #[.int .i64 1, .int .i64 0, .int .i64 0]) rfl (by intro w; kernel_rfl)) <| SO.b1 <| SO.storeN Tryz.sizeOf34 rfl rfl rfl rfl rfl rfl <| ag rfl <| SO.nil <| S.b2 <| S.drop <| S.retC1 Tryz.func8 rfl rfl rfl Tryz.isAgg34 Tryz.sizeOf34 rfl rfl (fun w hs hk => hR w _ _ ⟨rfl, rfl⟩ hs.drop hk)
 replace h := VM.cond_f V.toVI b6 h
 refine S.condF rfl b6 <| S.skip ?_
 repeat refine S.seq ?_
 refine S.region <| mv rfl <| SO.makeMap (Value.int .u64) rfl fun bm => vv (opv_build (v := .agg #[V.val, .map (some bm)]) rfl (by intro w; kernel_rfl)) <| SO.alloc rfl Tryz.zeroValue69 rfl fun b3 => SO.storeN Tryz.sizeOf69 rfl rfl rfl rfl rfl rfl <| SO.nil ?_
 repeat refine S.seq ?_
 refine S.region <| SO.loadN rfl Tryz.isAgg69 Tryz.sizeOf69 rfl rfl rfl <| vv (opv_iface (v := .agg #[V.val, .map (some bm)]) Tryz.underlying69 rfl rfl) <| mv rfl <| SO.b4 <| SO.loadN rfl Tryz.isAgg30 Tryz.sizeOf30 rfl rfl rfl <| vv (opv_build (v := .agg #[(draftV V bm).val, .int .i64 a1, .int .i64 a2.Op, .int .i64 a2.Cap, .int .i64 a2.A, .int .i64 a2.B, .int .i64 a2.C, .int .i64 a2.D, .int .i64 0, .int .i64 0, .int .i64 0, .int .i64 0, .int .i64 0, .int .i64 0, .int .i64 0]) rfl (by intro w; kernel_rfl)) <| SO.box rfl rfl rfl fun b4 => ag rfl <| SO.nil ?_
 obtain ⟨⟨⟨r, e, d'⟩, o⟩, s4, hd, h⟩ := VM.bind_some V.toVI h
 have hd2 := draft_run V.toVI _ _ _ _ _ _ hd
 repeat refine S.seq ?_
 refine S.region <| mv rfl <| SO.b3 <| SO.toL <| SO.b4 <| SO.star2 <| SO.b1 <| SO.call (pre := [Box _ _, (draftV V bm).rep (s3, [])]) rfl Tryz.call21 rfl rfl rfl (invoke_doer_do.ct (draftV V bm) k b4 ⟨a1, a2, 0, ⟨0, 0, 0, 0, 0, 0⟩⟩ r e d' (s3, []) (s4, o) hd2) trivial ?_
 rintro _ _ ⟨rfl, rfl⟩
 refine SO.b1 <| SO.unstar2 (A := V.rep s4) (B := MapL (.int .u64) bm o) <| mv rfl <| vv (opv_extract rfl rfl) <| vv (opv_extract rfl rfl) <| SO.alloc rfl Tryz.zeroValue34 rfl fun b5 => SO.storeN Tryz.sizeOf34 rfl rfl rfl rfl rfl rfl <| ag rfl <| SO.nil ?_
 repeat refine S.seq ?_
 refine S.region <| mv rfl <| vv (opv_neqN Tryz.underlying74 rfl) <| SO.nil ?_
 dsimp only at h
 rcases bool_or e.isSome with b7 | b7
 ·replace h := VM.cond_t V.toVI b7 h
  obtain ⟨n, hn, h⟩ := VM.opt_some V.toVI h
  obtain ⟨hq, rfl⟩ := VM.ret_some V.toVI h
  cases hq
  refine S.condT rfl b7 ?_
  repeat refine S.seq ?_
  refine S.region <| mv rfl <| SO.call (pre := []) rfl Tryz.call22 rfl rfl rfl (invoke_number.ct _ _ hn) hF.one.tail.tail.tail.tail.tail.tail.tail ?_
  rintro _ _ ⟨rfl, rfl⟩
  exact vv (opv_build (v := .agg #[.int .i64 n, .int .i64 0, .int .i64 0]) rfl (by intro w; kernel_rfl)) <| SO.b6 <| SO.storeN Tryz.sizeOf34 rfl rfl rfl rfl rfl rfl <| ag rfl <| SO.nil <| S.b1 <| S.drop <| S.b2 <| S.drop <| S.b2 <| S.drop <| S.b2 <| S.drop <| S.b2 <| S.drop <| S.retC1 Tryz.func8 rfl rfl rfl Tryz.isAgg34 Tryz.sizeOf34 rfl rfl (fun w hs hk => hR w _ _ ⟨rfl, rfl⟩ hs.drop hk)
 replace h := VM.cond_f V.toVI b7 h
 refine S.condF rfl b7 <| S.skip ?_
 obtain ⟨_, hchk, h⟩ := VM.opt_some V.toVI h
 have hfew := chk_some hchk
 obtain ⟨⟨ps, q2⟩, hq, h⟩ := VM.opt_some V.toVI h
 repeat refine S.seq ?_
 refine S.region <| SO.b5 <| fa Tryz.underlying69 rfl Tryz.sizeOf67 rfl rfl <| ld Tryz.isAgg67 rfl rfl <| SO.b3 <| SO.toO hfew <| SO.call (pre := [MapO _ _ _]) rfl Tryz.call23 rfl rfl rfl (view_Of_uint64.ct k _ (some o) ps q2 hq) trivial ?_
 rintro v9 _ ⟨_, rfl, rfl⟩
 refine SO.rd fun hr9 => vv (opv_lenR rfl Tryz.underlying78 hr9 rfl) <| mv rfl <| SO.nil ?_
 obtain ⟨_, s5, hl1, h⟩ := VM.bind_some V.toVI h
 refine S.b1 <| S.drop <| S.b1 <| S.drop <| S.b3 <| S.drop <| S.b3 <| S.drop <| tt [(47, .int .i64 0), (46, .int .i64 (ps.length : Int)), (45, v9), (0, V.val), (1, .int .i64 a1), (6, bp b2 0), (10, bp b5 0)] rfl ?_
 repeat refine S.seq ?_
 refine S.forloop (X := Int × V.S) (O := Unit × V.S) (fun m x => VM.run V.toVI (invoke_Do.l1 ps m x.1) x.2) (fun x => [(47, .int .i64 x.1), (46, .int .i64 (ps.length : Int)), (45, v9), (0, V.val), (1, .int .i64 a1), (6, bp b2 0), (10, bp b5 0)])
  (fun x => [Own 81 ek_view_Pair_uint64 v9 ps, Box b5 [.int .i64 r.Code, .int .i64 r.Word, .int .i64 r.Badge], V.rep x.2, Box b2 [.int .i64 0, .int .i64 0, .int .i64 0], F]) (fun Sk o => Sk [(0, V.val), (1, .int .i64 a1), (6, bp b2 0), (10, bp b5 0)] [Own 81 ek_view_Pair_uint64 v9 ps, Box b5 [.int .i64 r.Code, .int .i64 r.Word, .int .i64 r.Badge], V.rep o.2, Box b2 [.int .i64 0, .int .i64 0, .int .i64 0], F]) (fun _ => rfl) ?_ (m := k) (x := (0, s4)) hl1 ?_
 ·clear h hl1
  intro m x o1 h hK ih
  obtain ⟨x, sx⟩ := x
  replace h : VM.run V.toVI (invoke_Do.l1 ps (m + 1) x) sx = some o1 := h
  rw [invoke_Do.l1] at h
  refine S.rd fun hr6 => S.seq <| S.region <| vv (opv_lss rfl rfl) <| SO.nil <| S.seq ?_
  rcases bool_or (decide (x < (ps.length : Int))) with b8 | b8
  ·replace h := VM.cond_t V.toVI b8 h
   obtain ⟨p, hp, h⟩ := VM.opt_some V.toVI h
   refine S.condT rfl b8 <| S.skip <| S.seq <| S.block <| S.seq <| S.region <| vv (opv_idx Tryz.underlying78 Tryz.sizeOf81 hr6 rfl rfl hp) <| SO.loadIN rfl Tryz.isAgg81 Tryz.sizeOf81 (Rd.head hr6) hp rfl rfl rfl <| SO.alloc rfl Tryz.zeroValue81 rfl fun b6 => SO.storeN Tryz.sizeOf81 rfl rfl rfl rfl rfl rfl <| SO.nil <| S.region <| mv rfl <| fa Tryz.underlying81 rfl Tryz.sizeOf3 rfl rfl <| ld Tryz.isAgg3 rfl rfl <| fa Tryz.underlying81 rfl Tryz.sizeOf55 rfl rfl <| ld Tryz.isAgg55 rfl rfl <| SO.b3 <| SO.vwrite V rfl rfl rfl rfl <| SO.nil <| S.inBlock <| S.region <| vv (opv_add rfl rfl) <| mv rfl ?_
   refine SO.nil <| S.b1 <| S.drop <| S.b2 <| S.b2 ?_
   refine S.to ?_ (ih (w64 (x + 1), V.wr sx p.At p.Val) h)
   exact ⟨rfl, rfl, rfl, rfl, rfl, rfl, rfl, trivial⟩
  replace h := VM.cond_f V.toVI b8 h
  refine S.condF rfl b8 <| S.exit rfl ?_
  cases h
  refine S.to ?_ hK
  exact ⟨rfl, rfl, rfl, rfl, trivial⟩
 obtain ⟨t4, s6, ht4, h⟩ := VM.bind_some V.toVI h
 repeat refine S.seq ?_
 refine S.region <| mv rfl <| mv rfl <| SO.b2 <| SO.call (pre := [V.rep _]) rfl Tryz.call13 rfl rfl rfl (invoke_Ready.ct V _ _ _ _ ht4) trivial ?_
 rintro _ _ ⟨rfl, rfl⟩
 refine vv (opv_not rfl) <| SO.nil ?_
 rcases bool_or (!t4) with b9 | b9
 ·replace h := VM.cond_t V.toVI b9 h
  obtain ⟨hq, rfl⟩ := VM.ret_some V.toVI h
  cases hq
  refine S.condT rfl b9 ?_
  repeat refine S.seq ?_
  exact S.region <| vv (opv_build (v := .agg #[.int .i64 0, .int .i64 0, .int .i64 0]) rfl (by intro w; kernel_rfl)) <| SO.b3 <| SO.storeN Tryz.sizeOf34 rfl rfl rfl rfl rfl rfl <| ag rfl <| SO.nil <| S.b2 <| S.drop <| S.b2 <| S.drop <| S.retC1 Tryz.func8 rfl rfl rfl Tryz.isAgg34 Tryz.sizeOf34 rfl rfl (fun w hs hk => hR w _ _ ⟨rfl, rfl⟩ hs.drop hk)
 replace h := VM.cond_f V.toVI b9 h
 obtain ⟨hq, rfl⟩ := VM.ret_some V.toVI h
 cases hq
 refine S.condF rfl b9 <| S.skip ?_
 repeat refine S.seq ?_
 exact S.region <| SO.b2 <| fa Tryz.underlying34 rfl Tryz.sizeOf3 rfl rfl <| ld Tryz.isAgg3 rfl rfl <| vv (opv_and rfl rfl) <| fa Tryz.underlying34 rfl Tryz.sizeOf3 rfl rfl <| ld Tryz.isAgg3 rfl rfl <| vv (opv_and rfl rfl) <| vv (opv_build (v := .agg #[.int .i64 0, .int .i64 (band .i64 r.Word 2147483647), .int .i64 (band .i64 r.Badge 65535)]) rfl (by intro w; kernel_rfl)) <| SO.b3 <| SO.storeN Tryz.sizeOf34 rfl rfl rfl rfl rfl rfl <| ag rfl <| SO.nil <| S.b1 <| S.drop <| S.b2 <| S.drop <| S.retC1 Tryz.func8 rfl rfl rfl Tryz.isAgg34 Tryz.sizeOf34 rfl rfl (fun w hs hk => hR w _ _ ⟨rfl, rfl⟩ hs.drop hk)
def law21_up.f (k : Nat) : Option (Bool) :=
  (ref10_Boot.f k 1).bind fun t1 => (ref10_State_Words.f k t1).bind fun t13 => (VM.run plainI (invoke_Do.f k 0 (⟨5, 2, 0, 0, 0, 0⟩ : api_Call)) t13).bind fun ((t17, t18), s20) => (VM.run plainI (invoke_Do.f k 0 (⟨7, 2, 0, 0, 0, 0⟩ : api_Call)) s20).bind fun ((t23, t24), s26) => (VM.run plainI (invoke_Do.f k 0 (⟨6, 2, 0, 0, 0, 0⟩ : api_Call)) s26).bind fun ((t29, t30), s32) => (VM.run plainI (invoke_Woken.f 0) s32).bind fun ((t35, t36), s38) => (bif (t17.Code == 0) && (!t18) then (some (t23.Word == 1)) else (some false)).bind fun c43 => (bif ((c43 && (!t24)) && t30) && (!t36) then ((VM.run plainI (invoke_Ready.f 0) s38).bind fun (t53, s55) => some (!t53, s55)) else (some (false, s38))).bind fun (c49, w51) => some c49
set_option maxHeartbeats 8000000 in
set_option maxRecDepth 100000 in
theorem law21_up.ct (k : Nat) (r0 : Bool) (h : law21_up.f k  = some r0) :
    Ct Tryz.prog 5 [] (fun F => RdG F) [] (fun u H' => u = .bool r0 ∧ H' = []) := by
 unfold law21_up.f at h
 refine Ct.intro (n := 68) Tryz.func5 rfl rfl rfl ?_
 intro R w0 F hF hR
 have hG := hF
 refine S.seq <| S.region <| ag rfl <| SO.nil <| S.seq <| S.region ?_
 obtain ⟨t1, ht2, h⟩ := opt_bind h
 refine SO.call (pre := []) rfl Tryz.call6 rfl rfl rfl (ref10_Boot.ct _ _ _ ht2) trivial ?_
 rintro _ _ ⟨b3, u4_Slots, u4_Objs, rfl, rfl⟩
 obtain ⟨t13, ht14, h⟩ := opt_bind h
 refine SO.b1 <| SO.openR fun raws5 A6 hrel7 hR8 => SO.b2 <| SO.openR fun raws9 A10 hrel11 hR12 => SO.b1 <| SO.b2 <| SO.call (pre := [Box _ _, OwnO _ _ _ _ _ _, OwnO _ _ _ _ _ _]) rfl Tryz.call7 rfl rfl rfl (ref10_State_Words.ct _ b3 u4_Slots u4_Objs raws5 A6 raws9 A10 _ _ ht14) trivial ?_
 rintro v15 _ ⟨_, rfl, rfl⟩
 refine SO.rd fun hr16 => ag rfl <| SO.nil <| S.seq <| S.region <| mv rfl <| vv (opv_iface Tryz.underlying27 rfl rfl) <| vv (opv_build (v := .agg #[.int .i64 5, .int .i64 2, .int .i64 0, .int .i64 0, .int .i64 0, .int .i64 0]) rfl (by intro w; kernel_rfl)) ?_
 obtain ⟨⟨⟨t17, t18⟩, s20⟩, ht19, h⟩ := opt_bind h
 have ct59 := invoke_Do.ct (plainV v15) _ _ _ _ _ _ _ ht19
 try dsimp only at ct59
 refine SO.call (pre := [(plainV v15).rep _]) rfl Tryz.call8 rfl rfl rfl ct59 hG.head.tail.tail.tail ?_
 rintro _ _ ⟨rfl, rfl⟩
 refine headEq (plainV_rep _ _) <| SO.rd fun hr21 => mv rfl <| vv (opv_extract rfl rfl) <| vv (opv_extract rfl rfl) <| SO.alloc rfl Tryz.zeroValue34 rfl fun b22 => SO.storeN Tryz.sizeOf34 rfl rfl rfl rfl rfl rfl <| ag rfl <| SO.nil <| tt [(0, .bool false), (1, v15), (2, bp b22 0), (3, .bool t18)] rfl <| S.seq <| S.region <| mv rfl <| vv (opv_iface Tryz.underlying27 rfl rfl) <| vv (opv_build (v := .agg #[.int .i64 7, .int .i64 2, .int .i64 0, .int .i64 0, .int .i64 0, .int .i64 0]) rfl (by intro w; kernel_rfl)) ?_
 obtain ⟨⟨⟨t23, t24⟩, s26⟩, ht25, h⟩ := opt_bind h
 refine SO.b1 ?_
 have ct58 := invoke_Do.ct (plainV v15) _ _ _ _ _ _ _ ht25
 try dsimp only at ct58
 refine SO.call (pre := [(plainV v15).rep _]) rfl Tryz.call8 rfl rfl rfl ct58 hG.head.tail.tail.tail.tail ?_
 rintro _ _ ⟨rfl, rfl⟩
 refine headEq (plainV_rep _ _) <| SO.rd fun hr27 => mv rfl <| vv (opv_extract rfl rfl) <| vv (opv_extract rfl rfl) <| SO.alloc rfl Tryz.zeroValue34 rfl fun b28 => SO.storeN Tryz.sizeOf34 rfl rfl rfl rfl rfl rfl <| ag rfl <| SO.nil <| tt [(0, .bool false), (1, v15), (2, bp b22 0), (3, .bool t18), (4, bp b28 0), (5, .bool t24)] rfl <| S.seq <| S.region <| mv rfl <| vv (opv_iface Tryz.underlying27 rfl rfl) <| vv (opv_build (v := .agg #[.int .i64 6, .int .i64 2, .int .i64 0, .int .i64 0, .int .i64 0, .int .i64 0]) rfl (by intro w; kernel_rfl)) ?_
 obtain ⟨⟨⟨t29, t30⟩, s32⟩, ht31, h⟩ := opt_bind h
 refine SO.b1 ?_
 have ct57 := invoke_Do.ct (plainV v15) _ _ _ _ _ _ _ ht31
 try dsimp only at ct57
 refine SO.call (pre := [(plainV v15).rep _]) rfl Tryz.call8 rfl rfl rfl ct57 hG.head.tail.tail.tail.tail.tail ?_
 rintro _ _ ⟨rfl, rfl⟩
 refine headEq (plainV_rep _ _) <| SO.rd fun hr33 => mv rfl <| vv (opv_extract rfl rfl) <| vv (opv_extract rfl rfl) <| SO.alloc rfl Tryz.zeroValue34 rfl fun b34 => SO.storeN Tryz.sizeOf34 rfl rfl rfl rfl rfl rfl <| ag rfl <| SO.nil <| tt [(0, .bool false), (1, v15), (2, bp b22 0), (3, .bool t18), (4, bp b28 0), (5, .bool t24), (7, .bool t30)] rfl <| S.seq <| S.region <| mv rfl <| vv (opv_iface Tryz.underlying27 rfl rfl) ?_
 obtain ⟨⟨⟨t35, t36⟩, s38⟩, ht37, h⟩ := opt_bind h
 refine SO.b1 <| SO.call (pre := [(plainV v15).rep _]) rfl Tryz.call11 rfl rfl rfl (invoke_Woken.ct (plainV v15) _ _ _ _ _ ht37) trivial ?_
 rintro _ _ ⟨rfl, rfl⟩
 refine headEq (plainV_rep _ _) <| SO.rd fun hr39 => mv rfl <| vv (opv_extract rfl rfl) <| vv (opv_extract rfl rfl) <| SO.alloc rfl Tryz.zeroValue34 rfl fun b40 => SO.storeN Tryz.sizeOf34 rfl rfl rfl rfl rfl rfl <| ag rfl <| SO.nil <| tt [(0, .bool false), (1, v15), (2, bp b22 0), (3, .bool t18), (4, bp b28 0), (5, .bool t24), (7, .bool t30), (9, .bool t36)] rfl <| S.seq <| S.region <| fa Tryz.underlying34 rfl Tryz.sizeOf3 rfl rfl <| SO.b4 <| ld Tryz.isAgg3 rfl rfl <| vv (opv_eql rfl rfl) <| mv rfl ?_
 refine SO.cut 3 45 (.bool ((t17.Code == 0) && (!t18))) [Box b22 [.int .i64 t17.Code, .int .i64 t17.Word, .int .i64 t17.Badge], Box b40 [.int .i64 t35.Code, .int .i64 t35.Word, .int .i64 t35.Badge], Own 55 (ekI .u64) v15 s38, Box b34 [.int .i64 t29.Code, .int .i64 t29.Word, .int .i64 t29.Badge], Box b28 [.int .i64 t23.Code, .int .i64 t23.Word, .int .i64 t23.Badge], Box b3 [u4_Slots, u4_Objs, .int .i64 t1.NS, .int .i64 t1.NO], OwnO 62 kr_ref10_Slot u4_Slots raws5 A6 t1.Slots, OwnO 48 kr_ref10_Obj u4_Objs raws9 A10 t1.Objs, F] (fun l2 hk2 => ?_) ?_
 ·rcases bool_or (t17.Code == 0) with b41 | b41
  ·exact SO.takeT rfl rfl rfl b41 <| mv rfl <| SO.takeT rfl rfl rfl b41 <| vv (opv_not rfl) <| vv (opv_pick_t' b41 rfl rfl) <| SO.b8 <| SO.b8 <| SO.b8 <| SO.b8 <| SO.b8 <| SO.b8 <| SO.b8 <| SO.b8 <| SO.b8 <| hk2.fitc (m := 3) rfl (and_t b41) rfl
  exact pf rfl rfl rfl b41 <| pf rfl rfl rfl b41 <| vv (opv_pick_f' b41 rfl rfl) <| SO.b8 <| SO.b8 <| SO.b8 <| SO.b8 <| SO.b8 <| SO.b8 <| SO.b8 <| SO.b8 <| SO.b8 <| hk2.fitc (m := 3) rfl (and_f b41) rfl
 refine mv rfl ?_
 obtain ⟨c43, hc44, hgk⟩ := opt_bind h
 refine SO.cut 4 50 (.bool c43) [Box b22 [.int .i64 t17.Code, .int .i64 t17.Word, .int .i64 t17.Badge], Box b40 [.int .i64 t35.Code, .int .i64 t35.Word, .int .i64 t35.Badge], Own 55 (ekI .u64) v15 s38, Box b34 [.int .i64 t29.Code, .int .i64 t29.Word, .int .i64 t29.Badge], Box b28 [.int .i64 t23.Code, .int .i64 t23.Word, .int .i64 t23.Badge], Box b3 [u4_Slots, u4_Objs, .int .i64 t1.NS, .int .i64 t1.NO], OwnO 62 kr_ref10_Slot u4_Slots raws5 A6 t1.Slots, OwnO 48 kr_ref10_Obj u4_Objs raws9 A10 t1.Objs, F] (fun l2 hk2 => ?_) ?_
 ·clear hgk
  replace h := hc44
  rcases bool_or ((t17.Code == 0) && (!t18)) with b42 | b42
  ·replace h := cond_t b42 h
   refine SO.takeT rfl rfl rfl b42 <| fa Tryz.underlying34 rfl Tryz.sizeOf3 rfl rfl <| SO.takeT rfl rfl rfl b42 <| SO.b4 <| ld Tryz.isAgg3 rfl rfl <| SO.takeT rfl rfl rfl b42 <| vv (opv_eql rfl rfl) ?_
   cases h
   exact vv (opv_pick_t' b42 rfl rfl) <| SO.b8 <| SO.b8 <| SO.b8 <| SO.b8 <| SO.b4 <| SO.b8 <| SO.b8 <| SO.b8 <| SO.b8 <| hk2.fitc (m := 4) rfl (rfl) rfl
  replace h := cond_f b42 h
  refine pf rfl rfl rfl b42 <| pf rfl rfl rfl b42 <| pf rfl rfl rfl b42 ?_
  cases h
  exact vv (opv_pick_f' b42 rfl rfl) <| SO.b8 <| SO.b8 <| SO.b8 <| SO.b8 <| SO.b8 <| SO.b8 <| SO.b8 <| SO.b8 <| SO.b8 <| hk2.fitc (m := 4) rfl (rfl) rfl
 clear hc44
 replace h := hgk
 refine mv rfl ?_
 refine SO.cut 3 54 (.bool (c43 && (!t24))) [Box b22 [.int .i64 t17.Code, .int .i64 t17.Word, .int .i64 t17.Badge], Box b40 [.int .i64 t35.Code, .int .i64 t35.Word, .int .i64 t35.Badge], Own 55 (ekI .u64) v15 s38, Box b34 [.int .i64 t29.Code, .int .i64 t29.Word, .int .i64 t29.Badge], Box b28 [.int .i64 t23.Code, .int .i64 t23.Word, .int .i64 t23.Badge], Box b3 [u4_Slots, u4_Objs, .int .i64 t1.NS, .int .i64 t1.NO], OwnO 62 kr_ref10_Slot u4_Slots raws5 A6 t1.Slots, OwnO 48 kr_ref10_Obj u4_Objs raws9 A10 t1.Objs, F] (fun l2 hk2 => ?_) ?_
 ·rcases bool_or c43 with b45 | b45
  ·exact SO.takeT rfl rfl rfl b45 <| mv rfl <| SO.takeT rfl rfl rfl b45 <| vv (opv_not rfl) <| vv (opv_pick_t' b45 rfl rfl) <| SO.b8 <| SO.b8 <| SO.b8 <| SO.b8 <| SO.b8 <| SO.b8 <| SO.b8 <| SO.b8 <| SO.b8 <| hk2.fitc (m := 3) rfl (and_t b45) rfl
  exact pf rfl rfl rfl b45 <| pf rfl rfl rfl b45 <| vv (opv_pick_f' b45 rfl rfl) <| SO.b8 <| SO.b8 <| SO.b8 <| SO.b8 <| SO.b8 <| SO.b8 <| SO.b8 <| SO.b8 <| SO.b8 <| hk2.fitc (m := 3) rfl (and_f b45) rfl
 refine mv rfl ?_
 refine SO.cut 2 57 (.bool ((c43 && (!t24)) && t30)) [Box b22 [.int .i64 t17.Code, .int .i64 t17.Word, .int .i64 t17.Badge], Box b40 [.int .i64 t35.Code, .int .i64 t35.Word, .int .i64 t35.Badge], Own 55 (ekI .u64) v15 s38, Box b34 [.int .i64 t29.Code, .int .i64 t29.Word, .int .i64 t29.Badge], Box b28 [.int .i64 t23.Code, .int .i64 t23.Word, .int .i64 t23.Badge], Box b3 [u4_Slots, u4_Objs, .int .i64 t1.NS, .int .i64 t1.NO], OwnO 62 kr_ref10_Slot u4_Slots raws5 A6 t1.Slots, OwnO 48 kr_ref10_Obj u4_Objs raws9 A10 t1.Objs, F] (fun l2 hk2 => ?_) ?_
 ·rcases bool_or (c43 && (!t24)) with b46 | b46
  ·exact SO.takeT rfl rfl rfl b46 <| mv rfl <| vv (opv_pick_t' b46 rfl rfl) <| SO.b8 <| SO.b8 <| SO.b8 <| SO.b8 <| SO.b8 <| SO.b8 <| SO.b8 <| SO.b8 <| SO.b8 <| hk2.fitc (m := 2) rfl (and_t b46) rfl
  exact pf rfl rfl rfl b46 <| vv (opv_pick_f' b46 rfl rfl) <| SO.b8 <| SO.b8 <| SO.b8 <| SO.b8 <| SO.b8 <| SO.b8 <| SO.b8 <| SO.b8 <| SO.b8 <| hk2.fitc (m := 2) rfl (and_f b46) rfl
 refine mv rfl ?_
 refine SO.cut 3 61 (.bool (((c43 && (!t24)) && t30) && (!t36))) [Box b22 [.int .i64 t17.Code, .int .i64 t17.Word, .int .i64 t17.Badge], Box b40 [.int .i64 t35.Code, .int .i64 t35.Word, .int .i64 t35.Badge], Own 55 (ekI .u64) v15 s38, Box b34 [.int .i64 t29.Code, .int .i64 t29.Word, .int .i64 t29.Badge], Box b28 [.int .i64 t23.Code, .int .i64 t23.Word, .int .i64 t23.Badge], Box b3 [u4_Slots, u4_Objs, .int .i64 t1.NS, .int .i64 t1.NO], OwnO 62 kr_ref10_Slot u4_Slots raws5 A6 t1.Slots, OwnO 48 kr_ref10_Obj u4_Objs raws9 A10 t1.Objs, F] (fun l2 hk2 => ?_) ?_
 ·rcases bool_or ((c43 && (!t24)) && t30) with b47 | b47
  ·exact SO.takeT rfl rfl rfl b47 <| mv rfl <| SO.takeT rfl rfl rfl b47 <| vv (opv_not rfl) <| vv (opv_pick_t' b47 rfl rfl) <| SO.b8 <| SO.b8 <| SO.b8 <| SO.b8 <| SO.b8 <| SO.b8 <| SO.b8 <| SO.b8 <| SO.b8 <| hk2.fitc (m := 3) rfl (and_t b47) rfl
  exact pf rfl rfl rfl b47 <| pf rfl rfl rfl b47 <| vv (opv_pick_f' b47 rfl rfl) <| SO.b8 <| SO.b8 <| SO.b8 <| SO.b8 <| SO.b8 <| SO.b8 <| SO.b8 <| SO.b8 <| SO.b8 <| hk2.fitc (m := 3) rfl (and_f b47) rfl
 refine mv rfl ?_
 obtain ⟨⟨c49, w51⟩, hc50, hgk⟩ := opt_bind h
 refine SO.cut 5 67 (.bool c49) [Box b22 [.int .i64 t17.Code, .int .i64 t17.Word, .int .i64 t17.Badge], Box b40 [.int .i64 t35.Code, .int .i64 t35.Word, .int .i64 t35.Badge], Own 55 (ekI .u64) v15 w51, Box b34 [.int .i64 t29.Code, .int .i64 t29.Word, .int .i64 t29.Badge], Box b28 [.int .i64 t23.Code, .int .i64 t23.Word, .int .i64 t23.Badge], Box b3 [u4_Slots, u4_Objs, .int .i64 t1.NS, .int .i64 t1.NO], OwnO 62 kr_ref10_Slot u4_Slots raws5 A6 t1.Slots, OwnO 48 kr_ref10_Obj u4_Objs raws9 A10 t1.Objs, F] (fun l2 hk2 => ?_) ?_
 ·clear hgk
  replace h := hc50
  rcases bool_or (((c43 && (!t24)) && t30) && (!t36)) with b48 | b48
  ·replace h := cond_t b48 h
   refine SO.takeT rfl rfl rfl b48 <| mv rfl <| SO.takeT rfl rfl rfl b48 <| vv (opv_iface Tryz.underlying27 rfl rfl) <| SO.takeT rfl rfl rfl b48 ?_
   obtain ⟨⟨t53, s55⟩, ht54, h⟩ := opt_bind h
   refine SO.b2 <| SO.call (pre := [(plainV v15).rep _]) rfl Tryz.call13 rfl rfl rfl (invoke_Ready.ct (plainV v15) _ _ _ _ ht54) trivial ?_
   rintro _ _ ⟨rfl, rfl⟩
   refine headEq (plainV_rep _ _) <| SO.rd fun hr56 => SO.takeT rfl rfl rfl b48 <| vv (opv_not rfl) ?_
   cases h
   exact vv (opv_pick_t' b48 rfl rfl) <| SO.b8 <| SO.b8 <| SO.b8 <| SO.b8 <| SO.b8 <| SO.b8 <| SO.b6 <| SO.b8 <| SO.b8 <| hk2.fitc (m := 5) rfl (rfl) rfl
  replace h := cond_f b48 h
  refine pf rfl rfl rfl b48 <| pf rfl rfl rfl b48 <| pf rfl rfl rfl b48 <| pf rfl rfl rfl b48 ?_
  cases h
  exact vv (opv_pick_f' b48 rfl rfl) <| SO.b8 <| SO.b8 <| SO.b8 <| SO.b8 <| SO.b8 <| SO.b8 <| SO.b8 <| SO.b8 <| SO.b8 <| hk2.fitc (m := 5) rfl (rfl) rfl
 clear hc50
 replace h := hgk
 refine SO.b2 <| SO.rd fun hr52 => ag rfl <| SO.nil <| tt [(0, .bool c49)] rfl ?_
 cases h
 exact S.b6 <| S.closeR <| S.b7 <| S.closeR <| S.drop <| S.drop <| S.drop <| S.drop <| S.drop <| S.drop <| S.drop <| S.drop <| S.ret1 Tryz.func5 rfl rfl (hR · _ _ ⟨rfl, rfl⟩)
def law21_InvokeLess.l4 (t84 : api_Cap) : Nat → (Int × Bool × (List Int)) → Option ((Bool × (List Int)))
  | 0, _ => none
  | k + 1, (x20_4, x19_4, qv61_4) => bif decide (x20_4 < 96) then ((bif x19_4 then (some (true, qv61_4)) else ((VM.run plainI (cspace_Cap.f k x20_4) qv61_4).bind fun (t96, s98) => (law21_within.f t84 t96).bind fun t100 => some (t100, s98))).bind fun (j19_5, qv61_5) => law21_InvokeLess.l4 t84 k (w64 (x20_4 + 1), j19_5, qv61_5)) else (some (x19_4, qv61_4))
def law21_InvokeLess.l2 : Nat → (Int × (List Int) × (List Int)) → Option (Brk Bool ((List Int) × (List Int)))
  | 0, _ => none
  | k + 1, (x17_2, qv21_2, qv61_2) => bif decide (x17_2 < 96) then ((VM.run plainI (cspace_Cap.f k x17_2) qv21_2).bind fun (t84, s86) => (bif t84.Kind == 0 then (some true) else ((at_ qv61_2 737).bind fun x90 => some (decide ((w64 x90) ≤ t84.Obj)))).bind fun j131_3 => bif j131_3 then (law21_InvokeLess.l2  k (w64 (x17_2 + 1), s86, qv61_2)) else ((law21_InvokeLess.l4 t84 k (0, false, qv61_2)).bind fun (j19_e4, qv61_e4) => bif !j19_e4 then (some (Brk.ret false)) else (law21_InvokeLess.l2  k (w64 (x17_2 + 1), s86, qv61_e4)))) else (some (Brk.nx (qv21_2, qv61_2)))
def law21_InvokeLess.l1 (a1 : List law21_Deed) : Nat → (Int × (List Int) × (List Int)) → Option (Brk Bool ((List Int) × (List Int)))
  | 0, _ => none
  | k + 1, (x10_1, qv21_1, qv23_1) => bif decide (x10_1 < (a1.length : Int)) then ((app ([]) qv23_1).bind fun zs33 => (at_ a1 x10_1).bind fun x37 => (at_ a1 x10_1).bind fun x39 => (VM.run plainI (invoke_Do.f k x37.T x39.C) qv23_1).bind fun ((t41, t42), s44) => (bif t41.Code != 0 then ((bif t42 then (some true) else ((ref10_Same.f k zs33 s44).bind fun t54 => some (!t54))).bind fun c52 => some c52) else (some false)).bind fun c49 => bif c49 then (some (Brk.ret false)) else ((app ([]) qv21_1).bind fun zs59 => (at_ a1 x10_1).bind fun x63 => (at_ a1 x10_1).bind fun x65 => (VM.run plainI (invoke_Do.f k x63.T x65.C) qv21_1).bind fun ((t67, t68), s70) => bif t67.Code != 0 then ((bif t68 then (some true) else ((ref10_Same.f k zs59 s70).bind fun t78 => some (!t78))).bind fun c76 => bif c76 then (some (Brk.ret false)) else (law21_InvokeLess.l1 a1 k (w64 (x10_1 + 1), s70, s44))) else ((law21_InvokeLess.l2 k (0, s70, zs59)).bind fun o2 => Brk.go o2 (fun r => some (Brk.ret r)) (fun (qv21_e2, qv61_e2) => law21_InvokeLess.l1 a1 k (w64 (x10_1 + 1), qv21_e2, s44))))) else (some (Brk.nx (qv23_1, qv21_1)))
def law21_InvokeLess.f (k : Nat) (a0 : Int) (a1 : List law21_Deed) (a2 : List Int) : Option (Bool) :=
  (law21_up.f k ).bind fun t1 => bif (((decide (a0 < 1)) || (decide (7 < a0))) || (decide (60 < (a1.length : Int)))) || (decide (738 < (a2.length : Int))) then (some t1) else ((ref10_Boot.f k a0).bind fun t7 => (ref10_State_Words.f k t7).bind fun t19 => (mk_ 0 738).bind fun xs25 => (law21_InvokeLess.l1 a1 k (0, t19, cpy xs25 a2)).bind fun o1 => Brk.go o1 (fun r => some r) (fun (qv23_e1, qv21_e1) => (bif t1 then ((law10_Pick.f (-1) 3).bind fun t113 => some (t113 == 0)) else (some false)).bind fun c111 => some c111))
set_option maxHeartbeats 8000000 in
set_option maxRecDepth 100000 in
theorem law21_InvokeLess.ct (k : Nat) (v1 : Value) (v2 : Value) (a0 : Int) (a1 : List law21_Deed) (a2 : List Int) (r0 : Bool) (h : law21_InvokeLess.f k a0 a1 a2 = some r0) :
    Ct Tryz.prog 4 [.int .i64 a0, v1, v2] (fun F => Rd ek_law21_Deed v1 a1 F ∧ Rd (ekI .u64) v2 a2 F ∧ RdG F) [] (fun u H' => u = .bool r0 ∧ H' = []) := by
 unfold law21_InvokeLess.f at h
 refine Ct.intro (n := 152) Tryz.func4 rfl rfl rfl ?_
 intro R w0 F hF hR
 obtain ⟨hF1, hF2, hG⟩ := hF
 refine S.seq <| S.region <| ag rfl <| SO.nil <| S.seq <| S.region ?_
 obtain ⟨t1, ht2, h⟩ := opt_bind h
 refine SO.call (pre := []) rfl Tryz.call5 rfl rfl rfl (law21_up.ct _ _ ht2) hG.head ?_
 rintro _ _ ⟨rfl, rfl⟩
 refine ag rfl <| SO.nil <| S.seq <| S.seq <| S.region <| mv rfl <| vv (opv_lss rfl rfl) <| mv rfl ?_
 refine SO.cut 3 27 (.bool ((decide (a0 < 1)) || (decide (7 < a0)))) [F] (fun l2 hk2 => ?_) ?_
 ·rcases bool_or (decide (a0 < 1)) with b3 | b3
  ·exact pf rfl rfl rfl b3 <| pf rfl rfl rfl b3 <| vv (opv_pick_t' b3 rfl rfl) <| hk2.fitc (m := 3) rfl (or_t b3) rfl
  exact SO.takeT rfl rfl rfl b3 <| mv rfl <| SO.takeT rfl rfl rfl b3 <| vv (opv_gtr rfl rfl) <| vv (opv_pick_f' b3 rfl rfl) <| hk2.fitc (m := 3) rfl (or_f b3) rfl
 refine mv rfl ?_
 refine SO.cut 4 32 (.bool (((decide (a0 < 1)) || (decide (7 < a0))) || (decide (60 < (a1.length : Int))))) [F] (fun l2 hk2 => ?_) ?_
 ·rcases bool_or ((decide (a0 < 1)) || (decide (7 < a0))) with b4 | b4
  ·exact pf rfl rfl rfl b4 <| pf rfl rfl rfl b4 <| pf rfl rfl rfl b4 <| vv (opv_pick_t' b4 rfl rfl) <| hk2.fitc (m := 4) rfl (or_t b4) rfl
  exact SO.takeT rfl rfl rfl b4 <| mv rfl <| SO.takeT rfl rfl rfl b4 <| vv (opv_lenR rfl Tryz.underlying22 hF1 rfl) <| SO.takeT rfl rfl rfl b4 <| vv (opv_gtr rfl rfl) <| vv (opv_pick_f' b4 rfl rfl) <| hk2.fitc (m := 4) rfl (or_f b4) rfl
 refine mv rfl ?_
 refine SO.cut 4 37 (.bool ((((decide (a0 < 1)) || (decide (7 < a0))) || (decide (60 < (a1.length : Int)))) || (decide (738 < (a2.length : Int))))) [F] (fun l2 hk2 => ?_) ?_
 ·rcases bool_or (((decide (a0 < 1)) || (decide (7 < a0))) || (decide (60 < (a1.length : Int)))) with b5 | b5
  ·exact pf rfl rfl rfl b5 <| pf rfl rfl rfl b5 <| pf rfl rfl rfl b5 <| vv (opv_pick_t' b5 rfl rfl) <| hk2.fitc (m := 4) rfl (or_t b5) rfl
  exact SO.takeT rfl rfl rfl b5 <| mv rfl <| SO.takeT rfl rfl rfl b5 <| vv (opv_lenR rfl Tryz.underlying26 hF2 rfl) <| SO.takeT rfl rfl rfl b5 <| vv (opv_gtr rfl rfl) <| vv (opv_pick_f' b5 rfl rfl) <| hk2.fitc (m := 4) rfl (or_f b5) rfl
 refine SO.nil <| tt [(0, .int .i64 a0), (1, v1), (2, v2), (6, .bool false), (7, .bool t1), (37, .bool ((((decide (a0 < 1)) || (decide (7 < a0))) || (decide (60 < (a1.length : Int)))) || (decide (738 < (a2.length : Int)))))] rfl ?_
 rcases bool_or ((((decide (a0 < 1)) || (decide (7 < a0))) || (decide (60 < (a1.length : Int)))) || (decide (738 < (a2.length : Int)))) with b6 | b6
 ·replace h := cond_t b6 h
  refine S.condT rfl b6 <| S.seq <| S.region <| mv rfl <| ag rfl <| SO.nil ?_
  cases h
  exact S.ret1 Tryz.func4 rfl rfl (hR · _ _ ⟨rfl, rfl⟩)
 replace h := cond_f b6 h
 refine S.condF rfl b6 <| S.skip <| S.seq <| S.region <| mv rfl ?_
 obtain ⟨t7, ht8, h⟩ := opt_bind h
 refine SO.call (pre := []) rfl Tryz.call6 rfl rfl rfl (ref10_Boot.ct _ _ _ ht8) trivial ?_
 rintro _ _ ⟨b9, u10_Slots, u10_Objs, rfl, rfl⟩
 obtain ⟨t19, ht20, h⟩ := opt_bind h
 refine SO.b1 <| SO.openR fun raws11 A12 hrel13 hR14 => SO.b2 <| SO.openR fun raws15 A16 hrel17 hR18 => SO.b1 <| SO.b2 <| SO.call (pre := [Box _ _, OwnO _ _ _ _ _ _, OwnO _ _ _ _ _ _]) rfl Tryz.call7 rfl rfl rfl (ref10_State_Words.ct _ b9 u10_Slots u10_Objs raws11 A12 raws15 A16 _ _ ht20) trivial ?_
 rintro v21 _ ⟨_, rfl, rfl⟩
 refine SO.rd fun hr22 => ag rfl <| SO.nil <| S.seq <| S.region ?_
 obtain ⟨xs25, hx26, h⟩ := opt_bind h
 refine SO.makeSlice (K := ekI .u64) rfl Tryz.underlying26 inf55 rfl rfl rfl (by decide) rfl rfl rfl hx26 fun v23 hr24 => ag rfl <| SO.nil <| S.seq <| S.region <| mv rfl <| mv rfl <| SO.copy rfl Tryz.underlying27 Tryz.sizeOf55 rfl rfl (Rd.tail (Rd.tail (Rd.tail (Rd.tail (Rd.head hF2))))) <| SO.rd fun hr27 => SO.nil <| tt [(1, v1), (6, .bool false), (7, .bool t1), (8, v21), (9, v23)] rfl <| S.seq <| S.seq <| S.region <| ag rfl <| SO.nil ?_
 obtain ⟨o1, hlp1, h⟩ := opt_bind h
 refine S.b5 <| S.b5 <| S.b5 <| S.b5 <| S.b5 <| S.b5 <| tt [(10, .int .i64 0), (1, v1), (6, .bool false), (7, .bool t1), (8, v21), (9, v23)] rfl ?_
 refine S.forloop (X := (Int × (List Int) × (List Int)) × Unit) (O := Brk Bool ((List Int) × (List Int))) (fun m x => law21_InvokeLess.l1 a1 m x.1) (fun x => match x with | ((x10_1, qv21_1, qv23_1), _) => [(10, .int .i64 x10_1), (1, v1), (6, .bool false), (7, .bool t1), (8, v21), (9, v23)]) (fun x => match x with | ((x10_1, qv21_1, qv23_1), _) => [Own 55 (ekI .u64) v23 qv23_1, Own 55 (ekI .u64) v21 qv21_1, Box b9 [u10_Slots, u10_Objs, .int .i64 t7.NS, .int .i64 t7.NO], OwnO 62 kr_ref10_Slot u10_Slots raws11 A12 t7.Slots, OwnO 48 kr_ref10_Obj u10_Objs raws15 A16 t7.Objs, F]) (fun Sk o' => (∀ r', o' = Brk.ret r' → some r' = some r0) ∧ ∀ j : ((List Int) × (List Int)), match j with | (qv23_e1, qv21_e1) => ∀ _ : Unit, o' = Brk.nx (qv23_e1, qv21_e1) → Sk [(6, .bool false), (7, .bool t1)] [Own 55 (ekI .u64) v23 qv23_e1, Own 55 (ekI .u64) v21 qv21_e1, Box b9 [u10_Slots, u10_Objs, .int .i64 t7.NS, .int .i64 t7.NO], OwnO 62 kr_ref10_Slot u10_Slots raws11 A12 t7.Slots, OwnO 48 kr_ref10_Obj u10_Objs raws15 A16 t7.Objs, F]) (fun _ => rfl) ?_ (m := k) (x := ((0, t19, cpy xs25 a2), ())) hlp1 ?_
 ·clear h hlp1
  intro k x o_1 h hK1 ih1
  obtain ⟨⟨x10_1, qv21_1, qv23_1⟩, _⟩ := x
  replace h : law21_InvokeLess.l1 a1 (k + 1) (x10_1, qv21_1, qv23_1) = some o_1 := h
  first | rw [law21_InvokeLess.l1] at h | unfold law21_InvokeLess.l1 at h
  refine S.rd fun hr28 => S.b1 <| S.rd fun hr29 => S.seq <| S.seq <| S.region <| mv rfl <| mv rfl <| vv (opv_lenR rfl Tryz.underlying22 hF1 rfl) <| vv (opv_lss rfl rfl) <| SO.nil ?_
  rcases bool_or (decide (x10_1 < (a1.length : Int))) with b30 | b30
  ·replace h := cond_t b30 h
   refine S.condT rfl b30 <| S.skip <| S.seq <| S.block <| S.seq <| S.region <| SO.buildSlice0 (ekI .u64) rfl Tryz.underlying26 Tryz.sizeOf55 fun v31 hr32 => mv rfl ?_
   obtain ⟨zs33, hz34, h⟩ := opt_bind h
   refine SO.append rfl Tryz.underlying26 Tryz.underlying27 inf55 rfl rfl rfl (by decide) rfl rfl rfl (Rd.tail (Rd.head hr28)) hz34 fun v35 => SO.rd fun hr36 => ag rfl <| SO.nil <| tt [(10, .int .i64 x10_1), (1, v1), (6, .bool false), (7, .bool t1), (8, v21), (9, v23), (11, v35)] rfl <| S.seq ?_
   obtain ⟨x37, hx38, h⟩ := opt_bind h
   obtain ⟨x39, hx40, h⟩ := opt_bind h
   obtain ⟨⟨⟨t41, t42⟩, s44⟩, ht43, h⟩ := opt_bind h
   refine S.draw2 (Y := fun Q => ∃ (_ _ _ _ _ _ _ _ _ _ _ : Unit), Q [(9, v23), (1, v1), (10, .int .i64 x10_1), (6, .bool false), (7, .bool t1), (8, v21), (11, v35)] [Own 55 (ekI .u64) v35 zs33, Own 55 (ekI .u64) v21 qv21_1, Own 55 (ekI .u64) v23 qv23_1, Box b9 [u10_Slots, u10_Objs, .int .i64 t7.NS, .int .i64 t7.NO], OwnO 62 kr_ref10_Slot u10_Slots raws11 A12 t7.Slots, OwnO 48 kr_ref10_Obj u10_Objs raws15 A16 t7.Objs, F]) (Z := fun Q => ∀ (_ _ _ _ : Unit) (b46 : Nat) (_ _ _ _ _ _ _ _ : Unit), Q [(10, .int .i64 x10_1), (1, v1), (6, .bool false), (7, .bool t1), (8, v21), (11, v35), (9, v23), (12, bp b46 0), (13, .bool t42)] [Box b46 [.int .i64 t41.Code, .int .i64 t41.Word, .int .i64 t41.Badge], Own 55 (ekI .u64) v35 zs33, Own 55 (ekI .u64) v21 qv21_1, Own 55 (ekI .u64) v23 s44, Box b9 [u10_Slots, u10_Objs, .int .i64 t7.NS, .int .i64 t7.NO], OwnO 62 kr_ref10_Slot u10_Slots raws11 A12 t7.Slots, OwnO 48 kr_ref10_Obj u10_Objs raws15 A16 t7.Objs, F]) (T := [tS 9 (v23), tS 1 (v1), tS 10 (.int .i64 x10_1), tE [(6, .bool false), (7, .bool t1), (8, v21), (11, v35)], tR (Own 55 (ekI .u64) v35 zs33), tR (Own 55 (ekI .u64) v21 qv21_1), tR (Own 55 (ekI .u64) v23 qv23_1), tR (Box b9 [u10_Slots, u10_Objs, .int .i64 t7.NS, .int .i64 t7.NO]), tR (OwnO 62 kr_ref10_Slot u10_Slots raws11 A12 t7.Slots), tR (OwnO 48 kr_ref10_Obj u10_Objs raws15 A16 t7.Objs), tR (F), tS 56 (v23), tS 57 ((plainV v23).val), tS 58 (v1), tS 59 (.int .i64 x10_1), tS 60 (idxp v1 (x10_1.toNat * ek_law21_Deed.sz)), tS 61 (idxp v1 (x10_1.toNat * ek_law21_Deed.sz)), tS 62 (.int .i64 x37.T), tS 63 (v1), tS 64 (.int .i64 x10_1), tS 65 (idxp v1 (x10_1.toNat * ek_law21_Deed.sz)), tS 66 (idxp v1 (x10_1.toNat * ek_law21_Deed.sz + 1)), tS 67 (.agg #[.int .i64 x39.C.Op, .int .i64 x39.C.Cap, .int .i64 x39.C.A, .int .i64 x39.C.B, .int .i64 x39.C.C, .int .i64 x39.C.D]), tR (Own 55 (ekI .u64) v23 s44), tS 68 (.tuple #[.agg #[.int .i64 t41.Code, .int .i64 t41.Word, .int .i64 t41.Badge], .bool t42]), tS 55 (.tuple #[.agg #[.int .i64 t41.Code, .int .i64 t41.Word, .int .i64 t41.Badge], .bool t42]), tS 69 (.agg #[.int .i64 t41.Code, .int .i64 t41.Word, .int .i64 t41.Badge]), tS 70 (.bool t42), ⟨Nat, [12], (fun b46 => [(12, bp b46 0)]), (fun b46 => [Box b46 [.int .i64 0, .int .i64 0, .int .i64 0]]), fun _ => rfl⟩, ⟨Nat, [12], (fun b46 => [(12, bp b46 0)]), (fun b46 => [Box b46 [.int .i64 t41.Code, .int .i64 t41.Word, .int .i64 t41.Badge]]), fun _ => rfl⟩, tS 13 (.bool t42)]) (D := [⟨[0], [], [11]⟩, ⟨[11], [], [12]⟩, ⟨[1], [], [13]⟩, ⟨[2], [], [14]⟩, ⟨[13, 14, 10], [], [15]⟩, ⟨[15, 10], [], [16]⟩, ⟨[16, 10], [], [17]⟩, ⟨[1], [], [18]⟩, ⟨[2], [], [19]⟩, ⟨[18, 19, 10], [], [20]⟩, ⟨[20, 10], [], [21]⟩, ⟨[21, 10], [], [22]⟩, ⟨[12, 17, 22, 10], [6], [23, 24]⟩, ⟨[24], [], [25]⟩, ⟨[25], [], [26]⟩, ⟨[25], [], [27]⟩, ⟨[], [], [28]⟩, ⟨[26], [28], [29]⟩, ⟨[27], [], [30]⟩]) (ini := [0, 1, 2, 3, 4, 5, 6, 7, 8, 9, 10]) (fin := [2, 1, 3, 0, 29, 30, 4, 5, 23, 7, 8, 9, 10]) (bf := [[], [0], [], [], [2, 3], [2, 3, 4], [2, 3, 4, 5], [], [], [7, 8], [7, 8, 9], [7, 8, 9, 10], [0, 1, 2, 3, 4, 5, 6, 7, 8, 9, 10, 11], [0, 1, 2, 3, 4, 5, 6, 7, 8, 9, 10, 11, 12], [0, 1, 2, 3, 4, 5, 6, 7, 8, 9, 10, 11, 12, 13], [0, 1, 2, 3, 4, 5, 6, 7, 8, 9, 10, 11, 12, 13], [], [0, 1, 2, 3, 4, 5, 6, 7, 8, 9, 10, 11, 12, 13, 14, 16], [0, 1, 2, 3, 4, 5, 6, 7, 8, 9, 10, 11, 12, 13, 14, 15, 16, 17]]) (by kernel_rfl) (by kernel_rfl) (fun Q => by kernel_rfl) (fun x w h1 h2 => ⟨(), (), (), (), (), (), (), (), (), (), (), EnvAll.of h1 ⟨rfl, rfl, rfl, rfl, rfl, rfl, rfl, trivial⟩, h2⟩) (fun Q => by kernel_rfl) ⟨?_, ?_, ?_, ?_, ?_, ?_, ?_, ?_, ?_, ?_, ?_, ?_, ?_, ?_, ?_, ?_, ?_, ?_, ?_, trivial⟩ ?_
   ·rintro Fr _
    exact mv rfl <| nz2 rfl () () rfl
   ·rintro Fr _
    exact vv (opv_iface Tryz.underlying27 rfl rfl) <| nz2 rfl () () rfl
   ·rintro Fr _
    exact mv rfl <| nz2 rfl () () rfl
   ·rintro Fr _
    exact mv rfl <| nz2 rfl () () rfl
   ·rintro Fr _ _ _
    exact vv (opv_idx Tryz.underlying22 Tryz.sizeOf32 hF1 rfl rfl hx38) <| nz4 rfl () () () () rfl
   ·rintro Fr _ _
    exact vv (opv_fieldIdx Tryz.underlying32 rfl Tryz.sizeOf3 hF1 hx38 rfl rfl) <| nz3 rfl () () () rfl
   ·rintro Fr _ _
    exact SO.loadI1 (j := 0) rfl Tryz.isAgg3 (Rd.head hF1) hx38 rfl rfl rfl rfl <| nz3 rfl () () () rfl
   ·rintro Fr _
    exact mv rfl <| nz2 rfl () () rfl
   ·rintro Fr _
    exact mv rfl <| nz2 rfl () () rfl
   ·rintro Fr _ _ _
    exact vv (opv_idx Tryz.underlying22 Tryz.sizeOf32 hF1 rfl rfl hx40) <| nz4 rfl () () () () rfl
   ·rintro Fr _ _
    exact vv (opv_fieldIdx Tryz.underlying32 rfl Tryz.sizeOf30 hF1 hx40 rfl rfl) <| nz3 rfl () () () rfl
   ·rintro Fr _ _
    exact SO.loadIP (j := 1) rfl Tryz.isAgg30 Tryz.sizeOf30 (Rd.head hF1) hx40 rfl rfl rfl rfl <| nz3 rfl () () () rfl
   ·refine spec2 (X := fun Q => ∀ (_ _ _ _ _ : Unit), Q [(57, (plainV v23).val), (62, .int .i64 x37.T), (67, .agg #[.int .i64 x39.C.Op, .int .i64 x39.C.Cap, .int .i64 x39.C.A, .int .i64 x39.C.B, .int .i64 x39.C.C, .int .i64 x39.C.D])] [F, Own 55 (ekI .u64) v23 qv23_1]) (fun Q => by kernel_rfl) ?_
    rintro Fr _ _ _ _ _
    refine SO.b1 <| SO.call (pre := [(plainV v23).rep _]) rfl Tryz.call8 rfl rfl rfl (invoke_Do.ct (plainV v23) _ _ _ _ _ _ _ ht43) hG.head ?_
    rintro _ _ ⟨rfl, rfl⟩
    exact headEq (plainV_rep _ _) <| SO.rd fun hr45 => SO.b1 <| SO.nilZ fun a w h1 h2 h3 h4 h5 => PZ.of2 (Y := fun Q => ∃ (_ _ _ _ _ _ : Unit), Q [(57, (plainV v23).val), (62, .int .i64 x37.T), (67, .agg #[.int .i64 x39.C.Op, .int .i64 x39.C.Cap, .int .i64 x39.C.A, .int .i64 x39.C.B, .int .i64 x39.C.C, .int .i64 x39.C.D]), (68, .tuple #[.agg #[.int .i64 t41.Code, .int .i64 t41.Word, .int .i64 t41.Badge], .bool t42])] [F, Own 55 (ekI .u64) v23 s44]) (fun Q => by kernel_rfl) h1 h3 h5 ⟨(), (), (), (), (), (), EnvAll.of h2 ⟨rfl, rfl, rfl, rfl, trivial⟩, h4⟩
   ·rintro Fr _
    exact mv rfl <| nz2 rfl () () rfl
   ·rintro Fr _
    exact vv (opv_extract rfl rfl) <| nz2 rfl () () rfl
   ·rintro Fr _
    exact vv (opv_extract rfl rfl) <| nz2 rfl () () rfl
   ·rintro Fr
    exact SO.alloc rfl Tryz.zeroValue34 rfl fun b46 => SO.nilZ fun a w h1 h2 h3 h4 h5 => PZ.of h1 h3 h5 (.cons b46 (.nil ⟨EnvAll.of h2 ⟨rfl, trivial⟩, h4⟩))
   ·rintro Fr _ b46
    exact SO.storeN Tryz.sizeOf34 rfl rfl rfl rfl rfl rfl <| SO.nilZ fun a w h1 h2 h3 h4 h5 => PZ.of h1 h3 h5 (.cons () (.cons b46 (.nil ⟨EnvAll.of h2 ⟨rfl, rfl, trivial⟩, h4⟩)))
   ·rintro Fr _
    exact ag rfl <| nz2 rfl () () rfl
   rintro _ _ _ _ b46 _ _ _ _ _ _ _ _
   refine tt [(10, .int .i64 x10_1), (1, v1), (6, .bool false), (7, .bool t1), (8, v21), (11, v35), (9, v23), (12, bp b46 0), (13, .bool t42)] rfl <| S.b3 <| S.rd fun hr47 => S.seq <| S.seq <| S.region <| fa Tryz.underlying34 rfl Tryz.sizeOf3 rfl rfl <| SO.b1 <| ld Tryz.isAgg3 rfl rfl <| vv (opv_neq rfl rfl) <| mv rfl ?_
   obtain ⟨c49, hc50, hgk⟩ := opt_bind h
   refine SO.cut 8 82 (.bool c49) [Box b46 [.int .i64 t41.Code, .int .i64 t41.Word, .int .i64 t41.Badge], Own 55 (ekI .u64) v23 s44, Own 55 (ekI .u64) v35 zs33, Own 55 (ekI .u64) v21 qv21_1, Box b9 [u10_Slots, u10_Objs, .int .i64 t7.NS, .int .i64 t7.NO], OwnO 62 kr_ref10_Slot u10_Slots raws11 A12 t7.Slots, OwnO 48 kr_ref10_Obj u10_Objs raws15 A16 t7.Objs, F] (fun l2 hk2 => ?_) ?_
   ·clear hgk
    replace h := hc50
    rcases bool_or (t41.Code != 0) with b48 | b48
    ·replace h := cond_t b48 h
     refine SO.takeT rfl rfl rfl b48 <| mv rfl <| SO.takeT rfl rfl rfl b48 <| mv rfl ?_
     obtain ⟨c52, hc53, hgk⟩ := opt_bind h
     refine SO.cut 5 81 (.bool c52) [Box b46 [.int .i64 t41.Code, .int .i64 t41.Word, .int .i64 t41.Badge], Own 55 (ekI .u64) v23 s44, Own 55 (ekI .u64) v35 zs33, Own 55 (ekI .u64) v21 qv21_1, Box b9 [u10_Slots, u10_Objs, .int .i64 t7.NS, .int .i64 t7.NO], OwnO 62 kr_ref10_Slot u10_Slots raws11 A12 t7.Slots, OwnO 48 kr_ref10_Obj u10_Objs raws15 A16 t7.Objs, F] (fun l2 hk2 => ?_) ?_
     ·clear hgk
      replace h := hc53
      rcases bool_or t42 with b51 | b51
      ·replace h := cond_t b51 h
       refine pf rfl rfl rfl b51 <| pf rfl rfl rfl b51 <| pf rfl rfl rfl b51 <| pf rfl rfl rfl b51 ?_
       cases h
       exact SO.takeT rfl rfl rfl b48 <| vv (opv_pick_t' b51 rfl rfl) <| SO.b7 <| SO.b7 <| SO.b7 <| SO.b7 <| SO.b7 <| SO.b7 <| SO.b7 <| SO.b7 <| hk2.fitc (m := 5) rfl (rfl) rfl
      replace h := cond_f b51 h
      refine SO.takeT rfl rfl rfl b51 <| mv rfl <| SO.takeT rfl rfl rfl b51 <| mv rfl <| SO.takeT rfl rfl rfl b51 ?_
      obtain ⟨t54, ht55, h⟩ := opt_bind h
      refine SO.call (pre := []) rfl Tryz.call10 rfl rfl rfl (ref10_Same.ct _ v35 v23 _ _ _ ht55) ⟨(Rd.tail (Rd.tail (Rd.head hr36))), (Rd.tail (Rd.head hr47))⟩ ?_
      rintro _ _ ⟨rfl, rfl⟩
      refine SO.takeT rfl rfl rfl b51 <| vv (opv_not rfl) ?_
      cases h
      exact SO.takeT rfl rfl rfl b48 <| vv (opv_pick_f' b51 rfl rfl) <| SO.b7 <| SO.b7 <| SO.b7 <| SO.b7 <| SO.b7 <| SO.b7 <| SO.b7 <| SO.b7 <| hk2.fitc (m := 5) rfl (rfl) rfl
     clear hc53
     replace h := hgk
     cases h
     exact vv (opv_pick_t' b48 rfl rfl) <| SO.b7 <| SO.b7 <| SO.b7 <| SO.b7 <| SO.b7 <| SO.b7 <| SO.b7 <| SO.b7 <| hk2.fitc (m := 4) rfl (rfl) rfl
    replace h := cond_f b48 h
    refine pf rfl rfl rfl b48 <| pf rfl rfl rfl b48 <| SO.pass_undef rfl rfl rfl rfl <| SO.pass_undef rfl rfl rfl rfl <| SO.pass_undef rfl rfl rfl rfl <| SO.pass_undef rfl rfl rfl rfl <| pf rfl rfl rfl b48 ?_
    cases h
    exact vv (opv_pick_f' b48 rfl rfl) <| SO.b7 <| SO.b7 <| SO.b7 <| SO.b7 <| SO.b7 <| SO.b7 <| SO.b7 <| SO.b7 <| hk2.fitc (m := 8) rfl (rfl) rfl
   clear hc50
   replace h := hgk
   refine SO.nil <| tt [(10, .int .i64 x10_1), (1, v1), (6, .bool false), (7, .bool t1), (8, v21), (9, v23), (82, .bool c49)] rfl ?_
   rcases bool_or c49 with b56 | b56
   ·replace h := cond_t b56 h
    refine S.condT rfl b56 <| S.seq <| S.region <| ag rfl <| SO.nil ?_
    cases h
    replace h := hK1.1 _ rfl
    cases h
    exact S.b5 <| S.closeR <| S.b6 <| S.closeR <| S.drop <| S.drop <| S.drop <| S.drop <| S.drop <| S.drop <| S.drop <| S.ret1 Tryz.func4 rfl rfl (hR · _ _ ⟨rfl, rfl⟩)
   replace h := cond_f b56 h
   refine S.condF rfl b56 <| S.skip <| S.seq <| S.region <| SO.buildSlice0 (ekI .u64) rfl Tryz.underlying26 Tryz.sizeOf55 fun v57 hr58 => mv rfl ?_
   obtain ⟨zs59, hz60, h⟩ := opt_bind h
   refine SO.append rfl Tryz.underlying26 Tryz.underlying27 inf55 rfl rfl rfl (by decide) rfl rfl rfl (Rd.tail (Rd.tail (Rd.tail (Rd.head hr29)))) hz60 fun v61 => SO.rd fun hr62 => ag rfl <| SO.nil <| S.seq ?_
   obtain ⟨x63, hx64, h⟩ := opt_bind h
   obtain ⟨x65, hx66, h⟩ := opt_bind h
   obtain ⟨⟨⟨t67, t68⟩, s70⟩, ht69, h⟩ := opt_bind h
   refine S.draw2 (Y := fun Q => ∃ (_ _ _ _ _ _ _ _ _ _ _ _ _ : Unit), Q [(8, v21), (1, v1), (10, .int .i64 x10_1), (14, v61), (6, .bool false), (7, .bool t1), (9, v23)] [Own 55 (ekI .u64) v61 zs59, Box b46 [.int .i64 t41.Code, .int .i64 t41.Word, .int .i64 t41.Badge], Own 55 (ekI .u64) v23 s44, Own 55 (ekI .u64) v35 zs33, Own 55 (ekI .u64) v21 qv21_1, Box b9 [u10_Slots, u10_Objs, .int .i64 t7.NS, .int .i64 t7.NO], OwnO 62 kr_ref10_Slot u10_Slots raws11 A12 t7.Slots, OwnO 48 kr_ref10_Obj u10_Objs raws15 A16 t7.Objs, F]) (Z := fun Q => ∀ (_ _ _ _ : Unit) (b72 : Nat) (_ _ _ _ _ _ _ _ _ _ : Unit), Q [(10, .int .i64 x10_1), (1, v1), (14, v61), (6, .bool false), (7, .bool t1), (9, v23), (8, v21), (15, bp b72 0), (16, .bool t68)] [Box b72 [.int .i64 t67.Code, .int .i64 t67.Word, .int .i64 t67.Badge], Own 55 (ekI .u64) v61 zs59, Box b46 [.int .i64 t41.Code, .int .i64 t41.Word, .int .i64 t41.Badge], Own 55 (ekI .u64) v23 s44, Own 55 (ekI .u64) v35 zs33, Own 55 (ekI .u64) v21 s70, Box b9 [u10_Slots, u10_Objs, .int .i64 t7.NS, .int .i64 t7.NO], OwnO 62 kr_ref10_Slot u10_Slots raws11 A12 t7.Slots, OwnO 48 kr_ref10_Obj u10_Objs raws15 A16 t7.Objs, F]) (T := [tS 8 (v21), tS 1 (v1), tS 10 (.int .i64 x10_1), tE [(14, v61), (6, .bool false), (7, .bool t1), (9, v23)], tR (Own 55 (ekI .u64) v61 zs59), tR (Box b46 [.int .i64 t41.Code, .int .i64 t41.Word, .int .i64 t41.Badge]), tR (Own 55 (ekI .u64) v23 s44), tR (Own 55 (ekI .u64) v35 zs33), tR (Own 55 (ekI .u64) v21 qv21_1), tR (Box b9 [u10_Slots, u10_Objs, .int .i64 t7.NS, .int .i64 t7.NO]), tR (OwnO 62 kr_ref10_Slot u10_Slots raws11 A12 t7.Slots), tR (OwnO 48 kr_ref10_Obj u10_Objs raws15 A16 t7.Objs), tR (F), tS 87 (v21), tS 88 ((plainV v21).val), tS 89 (v1), tS 90 (.int .i64 x10_1), tS 91 (idxp v1 (x10_1.toNat * ek_law21_Deed.sz)), tS 92 (idxp v1 (x10_1.toNat * ek_law21_Deed.sz)), tS 93 (.int .i64 x63.T), tS 94 (v1), tS 95 (.int .i64 x10_1), tS 96 (idxp v1 (x10_1.toNat * ek_law21_Deed.sz)), tS 97 (idxp v1 (x10_1.toNat * ek_law21_Deed.sz + 1)), tS 98 (.agg #[.int .i64 x65.C.Op, .int .i64 x65.C.Cap, .int .i64 x65.C.A, .int .i64 x65.C.B, .int .i64 x65.C.C, .int .i64 x65.C.D]), tR (Own 55 (ekI .u64) v21 s70), tS 99 (.tuple #[.agg #[.int .i64 t67.Code, .int .i64 t67.Word, .int .i64 t67.Badge], .bool t68]), tS 86 (.tuple #[.agg #[.int .i64 t67.Code, .int .i64 t67.Word, .int .i64 t67.Badge], .bool t68]), tS 100 (.agg #[.int .i64 t67.Code, .int .i64 t67.Word, .int .i64 t67.Badge]), tS 101 (.bool t68), ⟨Nat, [15], (fun b72 => [(15, bp b72 0)]), (fun b72 => [Box b72 [.int .i64 0, .int .i64 0, .int .i64 0]]), fun _ => rfl⟩, ⟨Nat, [15], (fun b72 => [(15, bp b72 0)]), (fun b72 => [Box b72 [.int .i64 t67.Code, .int .i64 t67.Word, .int .i64 t67.Badge]]), fun _ => rfl⟩, tS 16 (.bool t68)]) (D := [⟨[0], [], [13]⟩, ⟨[13], [], [14]⟩, ⟨[1], [], [15]⟩, ⟨[2], [], [16]⟩, ⟨[15, 16, 12], [], [17]⟩, ⟨[17, 12], [], [18]⟩, ⟨[18, 12], [], [19]⟩, ⟨[1], [], [20]⟩, ⟨[2], [], [21]⟩, ⟨[20, 21, 12], [], [22]⟩, ⟨[22, 12], [], [23]⟩, ⟨[23, 12], [], [24]⟩, ⟨[14, 19, 24, 12], [8], [25, 26]⟩, ⟨[26], [], [27]⟩, ⟨[27], [], [28]⟩, ⟨[27], [], [29]⟩, ⟨[], [], [30]⟩, ⟨[28], [30], [31]⟩, ⟨[29], [], [32]⟩]) (ini := [0, 1, 2, 3, 4, 5, 6, 7, 8, 9, 10, 11, 12]) (fin := [2, 1, 3, 0, 31, 32, 4, 5, 6, 7, 25, 9, 10, 11, 12]) (bf := [[], [0], [], [], [2, 3], [2, 3, 4], [2, 3, 4, 5], [], [], [7, 8], [7, 8, 9], [7, 8, 9, 10], [0, 1, 2, 3, 4, 5, 6, 7, 8, 9, 10, 11], [0, 1, 2, 3, 4, 5, 6, 7, 8, 9, 10, 11, 12], [0, 1, 2, 3, 4, 5, 6, 7, 8, 9, 10, 11, 12, 13], [0, 1, 2, 3, 4, 5, 6, 7, 8, 9, 10, 11, 12, 13], [], [0, 1, 2, 3, 4, 5, 6, 7, 8, 9, 10, 11, 12, 13, 14, 16], [0, 1, 2, 3, 4, 5, 6, 7, 8, 9, 10, 11, 12, 13, 14, 15, 16, 17]]) (by kernel_rfl) (by kernel_rfl) (fun Q => by kernel_rfl) (fun x w h1 h2 => ⟨(), (), (), (), (), (), (), (), (), (), (), (), (), EnvAll.of h1 ⟨rfl, rfl, rfl, rfl, rfl, rfl, rfl, trivial⟩, h2⟩) (fun Q => by kernel_rfl) ⟨?_, ?_, ?_, ?_, ?_, ?_, ?_, ?_, ?_, ?_, ?_, ?_, ?_, ?_, ?_, ?_, ?_, ?_, ?_, trivial⟩ ?_
   ·rintro Fr _
    exact mv rfl <| nz2 rfl () () rfl
   ·rintro Fr _
    exact vv (opv_iface Tryz.underlying27 rfl rfl) <| nz2 rfl () () rfl
   ·rintro Fr _
    exact mv rfl <| nz2 rfl () () rfl
   ·rintro Fr _
    exact mv rfl <| nz2 rfl () () rfl
   ·rintro Fr _ _ _
    exact vv (opv_idx Tryz.underlying22 Tryz.sizeOf32 hF1 rfl rfl hx64) <| nz4 rfl () () () () rfl
   ·rintro Fr _ _
    exact vv (opv_fieldIdx Tryz.underlying32 rfl Tryz.sizeOf3 hF1 hx64 rfl rfl) <| nz3 rfl () () () rfl
   ·rintro Fr _ _
    exact SO.loadI1 (j := 0) rfl Tryz.isAgg3 (Rd.head hF1) hx64 rfl rfl rfl rfl <| nz3 rfl () () () rfl
   ·rintro Fr _
    exact mv rfl <| nz2 rfl () () rfl
   ·rintro Fr _
    exact mv rfl <| nz2 rfl () () rfl
   ·rintro Fr _ _ _
    exact vv (opv_idx Tryz.underlying22 Tryz.sizeOf32 hF1 rfl rfl hx66) <| nz4 rfl () () () () rfl
   ·rintro Fr _ _
    exact vv (opv_fieldIdx Tryz.underlying32 rfl Tryz.sizeOf30 hF1 hx66 rfl rfl) <| nz3 rfl () () () rfl
   ·rintro Fr _ _
    exact SO.loadIP (j := 1) rfl Tryz.isAgg30 Tryz.sizeOf30 (Rd.head hF1) hx66 rfl rfl rfl rfl <| nz3 rfl () () () rfl
   ·refine spec2 (X := fun Q => ∀ (_ _ _ _ _ : Unit), Q [(88, (plainV v21).val), (93, .int .i64 x63.T), (98, .agg #[.int .i64 x65.C.Op, .int .i64 x65.C.Cap, .int .i64 x65.C.A, .int .i64 x65.C.B, .int .i64 x65.C.C, .int .i64 x65.C.D])] [F, Own 55 (ekI .u64) v21 qv21_1]) (fun Q => by kernel_rfl) ?_
    rintro Fr _ _ _ _ _
    refine SO.b1 <| SO.call (pre := [(plainV v21).rep _]) rfl Tryz.call8 rfl rfl rfl (invoke_Do.ct (plainV v21) _ _ _ _ _ _ _ ht69) hG.head ?_
    rintro _ _ ⟨rfl, rfl⟩
    exact headEq (plainV_rep _ _) <| SO.rd fun hr71 => SO.b1 <| SO.nilZ fun a w h1 h2 h3 h4 h5 => PZ.of2 (Y := fun Q => ∃ (_ _ _ _ _ _ : Unit), Q [(88, (plainV v21).val), (93, .int .i64 x63.T), (98, .agg #[.int .i64 x65.C.Op, .int .i64 x65.C.Cap, .int .i64 x65.C.A, .int .i64 x65.C.B, .int .i64 x65.C.C, .int .i64 x65.C.D]), (99, .tuple #[.agg #[.int .i64 t67.Code, .int .i64 t67.Word, .int .i64 t67.Badge], .bool t68])] [F, Own 55 (ekI .u64) v21 s70]) (fun Q => by kernel_rfl) h1 h3 h5 ⟨(), (), (), (), (), (), EnvAll.of h2 ⟨rfl, rfl, rfl, rfl, trivial⟩, h4⟩
   ·rintro Fr _
    exact mv rfl <| nz2 rfl () () rfl
   ·rintro Fr _
    exact vv (opv_extract rfl rfl) <| nz2 rfl () () rfl
   ·rintro Fr _
    exact vv (opv_extract rfl rfl) <| nz2 rfl () () rfl
   ·rintro Fr
    exact SO.alloc rfl Tryz.zeroValue34 rfl fun b72 => SO.nilZ fun a w h1 h2 h3 h4 h5 => PZ.of h1 h3 h5 (.cons b72 (.nil ⟨EnvAll.of h2 ⟨rfl, trivial⟩, h4⟩))
   ·rintro Fr _ b72
    exact SO.storeN Tryz.sizeOf34 rfl rfl rfl rfl rfl rfl <| SO.nilZ fun a w h1 h2 h3 h4 h5 => PZ.of h1 h3 h5 (.cons () (.cons b72 (.nil ⟨EnvAll.of h2 ⟨rfl, rfl, trivial⟩, h4⟩)))
   ·rintro Fr _
    exact ag rfl <| nz2 rfl () () rfl
   rintro _ _ _ _ b72 _ _ _ _ _ _ _ _ _ _
   refine tt [(10, .int .i64 x10_1), (1, v1), (14, v61), (6, .bool false), (7, .bool t1), (9, v23), (8, v21), (15, bp b72 0), (16, .bool t68)] rfl <| S.b5 <| S.rd fun hr73 => S.seq <| S.seq <| S.region <| fa Tryz.underlying34 rfl Tryz.sizeOf3 rfl rfl <| SO.b1 <| ld Tryz.isAgg3 rfl rfl <| vv (opv_neq rfl rfl) <| SO.nil ?_
   rcases bool_or (t67.Code != 0) with b74 | b74
   ·replace h := cond_t b74 h
    refine S.condT rfl b74 <| S.seq <| S.seq <| S.region <| mv rfl <| mv rfl ?_
    obtain ⟨c76, hc77, hgk⟩ := opt_bind h
    refine SO.cut 5 111 (.bool c76) [Box b72 [.int .i64 t67.Code, .int .i64 t67.Word, .int .i64 t67.Badge], Own 55 (ekI .u64) v21 s70, Own 55 (ekI .u64) v61 zs59, Box b46 [.int .i64 t41.Code, .int .i64 t41.Word, .int .i64 t41.Badge], Own 55 (ekI .u64) v23 s44, Own 55 (ekI .u64) v35 zs33, Box b9 [u10_Slots, u10_Objs, .int .i64 t7.NS, .int .i64 t7.NO], OwnO 62 kr_ref10_Slot u10_Slots raws11 A12 t7.Slots, OwnO 48 kr_ref10_Obj u10_Objs raws15 A16 t7.Objs, F] (fun l2 hk2 => ?_) ?_
    ·clear hgk
     replace h := hc77
     rcases bool_or t68 with b75 | b75
     ·replace h := cond_t b75 h
      refine pf rfl rfl rfl b75 <| pf rfl rfl rfl b75 <| pf rfl rfl rfl b75 <| pf rfl rfl rfl b75 ?_
      cases h
      exact vv (opv_pick_t' b75 rfl rfl) <| SO.b9 <| SO.b9 <| SO.b9 <| SO.b9 <| SO.b9 <| SO.b9 <| SO.b9 <| SO.b9 <| SO.b9 <| SO.b9 <| hk2.fitc (m := 5) rfl (rfl) rfl
     replace h := cond_f b75 h
     refine SO.takeT rfl rfl rfl b75 <| mv rfl <| SO.takeT rfl rfl rfl b75 <| mv rfl <| SO.takeT rfl rfl rfl b75 ?_
     obtain ⟨t78, ht79, h⟩ := opt_bind h
     refine SO.call (pre := []) rfl Tryz.call10 rfl rfl rfl (ref10_Same.ct _ v61 v21 _ _ _ ht79) ⟨(Rd.tail (Rd.tail (Rd.head hr62))), (Rd.tail (Rd.head hr73))⟩ ?_
     rintro _ _ ⟨rfl, rfl⟩
     refine SO.takeT rfl rfl rfl b75 <| vv (opv_not rfl) ?_
     cases h
     exact vv (opv_pick_f' b75 rfl rfl) <| SO.b9 <| SO.b9 <| SO.b9 <| SO.b9 <| SO.b9 <| SO.b9 <| SO.b9 <| SO.b9 <| SO.b9 <| SO.b9 <| hk2.fitc (m := 5) rfl (rfl) rfl
    clear hc77
    replace h := hgk
    refine SO.nil <| tt [(10, .int .i64 x10_1), (1, v1), (6, .bool false), (7, .bool t1), (9, v23), (8, v21), (111, .bool c76)] rfl ?_
    rcases bool_or c76 with b80 | b80
    ·replace h := cond_t b80 h
     refine S.condT rfl b80 <| S.seq <| S.region <| ag rfl <| SO.nil ?_
     cases h
     replace h := hK1.1 _ rfl
     cases h
     exact S.b7 <| S.closeR <| S.b8 <| S.closeR <| S.drop <| S.drop <| S.drop <| S.drop <| S.drop <| S.drop <| S.drop <| S.drop <| S.drop <| S.ret1 Tryz.func4 rfl rfl (hR · _ _ ⟨rfl, rfl⟩)
    replace h := cond_f b80 h
    refine S.condF rfl b80 <| S.skip <| S.exit rfl <| S.region <| mv rfl <| vv (opv_add rfl rfl) <| ag rfl <| SO.nil <| S.drop <| S.b1 <| S.drop <| S.b1 <| S.drop <| S.b2 <| S.drop <| S.b5 <| S.b5 <| S.b5 <| S.b5 <| S.b4 <| S.b5 ?_
    refine S.to ?_ (ih1 ((w64 (x10_1 + 1), s70, s44), ()) h)
    exact ⟨rfl, rfl, rfl, rfl, rfl, rfl, trivial⟩
   replace h := cond_f b74 h
   refine S.condF rfl b74 <| S.skip <| S.seq <| S.region <| ag rfl <| SO.nil ?_
   obtain ⟨o2, hlp2, h⟩ := opt_bind h
   refine S.b9 <| S.b9 <| S.b9 <| S.b9 <| S.b9 <| S.b9 <| S.b9 <| S.b9 <| S.b9 <| S.b9 <| tt [(17, .int .i64 0), (10, .int .i64 x10_1), (1, v1), (14, v61), (6, .bool false), (7, .bool t1), (9, v23), (8, v21)] rfl ?_
   refine S.forloop (X := (Int × (List Int) × (List Int)) × Unit) (O := Brk Bool ((List Int) × (List Int))) (fun m x => law21_InvokeLess.l2  m x.1) (fun x => match x with | ((x17_2, qv21_2, qv61_2), _) => [(17, .int .i64 x17_2), (10, .int .i64 x10_1), (1, v1), (14, v61), (6, .bool false), (7, .bool t1), (9, v23), (8, v21)]) (fun x => match x with | ((x17_2, qv21_2, qv61_2), _) => [Box b72 [.int .i64 t67.Code, .int .i64 t67.Word, .int .i64 t67.Badge], Own 55 (ekI .u64) v21 qv21_2, Own 55 (ekI .u64) v61 qv61_2, Box b46 [.int .i64 t41.Code, .int .i64 t41.Word, .int .i64 t41.Badge], Own 55 (ekI .u64) v23 s44, Own 55 (ekI .u64) v35 zs33, Box b9 [u10_Slots, u10_Objs, .int .i64 t7.NS, .int .i64 t7.NO], OwnO 62 kr_ref10_Slot u10_Slots raws11 A12 t7.Slots, OwnO 48 kr_ref10_Obj u10_Objs raws15 A16 t7.Objs, F]) (fun Sk o' => (∀ r', o' = Brk.ret r' → some (Brk.ret r') = some o_1) ∧ ∀ j : ((List Int) × (List Int)), match j with | (qv21_e2, qv61_e2) => ∀ _ : Unit, o' = Brk.nx (qv21_e2, qv61_e2) → Sk [(1, v1), (6, .bool false), (7, .bool t1), (8, v21), (9, v23), (10, .int .i64 x10_1)] [Box b72 [.int .i64 t67.Code, .int .i64 t67.Word, .int .i64 t67.Badge], Own 55 (ekI .u64) v21 qv21_e2, Own 55 (ekI .u64) v61 qv61_e2, Box b46 [.int .i64 t41.Code, .int .i64 t41.Word, .int .i64 t41.Badge], Own 55 (ekI .u64) v23 s44, Own 55 (ekI .u64) v35 zs33, Box b9 [u10_Slots, u10_Objs, .int .i64 t7.NS, .int .i64 t7.NO], OwnO 62 kr_ref10_Slot u10_Slots raws11 A12 t7.Slots, OwnO 48 kr_ref10_Obj u10_Objs raws15 A16 t7.Objs, F]) (fun _ => rfl) ?_ (m := k) (x := ((0, s70, zs59), ())) hlp2 ?_
   ·clear h hlp2
    intro k x o_2 h hK2 ih2
    obtain ⟨⟨x17_2, qv21_2, qv61_2⟩, _⟩ := x
    replace h : law21_InvokeLess.l2  (k + 1) (x17_2, qv21_2, qv61_2) = some o_2 := h
    first | rw [law21_InvokeLess.l2] at h | unfold law21_InvokeLess.l2 at h
    refine S.b1 <| S.rd fun hr81 => S.b2 <| S.rd fun hr82 => S.seq <| S.seq <| S.region <| mv rfl <| vv (opv_lss rfl rfl) <| SO.nil ?_
    rcases bool_or (decide (x17_2 < 96)) with b83 | b83
    ·replace h := cond_t b83 h
     refine S.condT rfl b83 <| S.skip <| S.seq <| S.block <| S.seq <| S.region <| mv rfl <| vv (opv_iface Tryz.underlying27 rfl rfl) <| mv rfl ?_
     obtain ⟨⟨t84, s86⟩, ht85, h⟩ := opt_bind h
     refine SO.b1 <| SO.call (pre := [(plainV v21).rep _]) rfl Tryz.call14 rfl rfl rfl (cspace_Cap.ct (plainV v21) _ _ _ _ _ ht85) trivial ?_
     rintro _ _ ⟨rfl, rfl⟩
     refine headEq (plainV_rep _ _) <| SO.rd fun hr87 => SO.alloc rfl Tryz.zeroValue45 rfl fun b88 => SO.storeN Tryz.sizeOf45 rfl rfl rfl rfl rfl rfl <| SO.nil <| S.seq <| S.seq ?_
     obtain ⟨j131_3, hC3, hJ3⟩ := opt_bind h
     clear h
     refine S.cutP (G := Unit) (fun _ => True) (fun _ => [(1, v1), (6, .bool false), (7, .bool t1), (8, v21), (9, v23), (10, .int .i64 x10_1), (14, v61), (17, .int .i64 x17_2), (18, bp b88 0), (131, .bool j131_3)]) (fun _ => [Box b88 [.int .i64 t84.Kind, .int .i64 t84.Rights, .int .i64 t84.Obj, .int .i64 t84.Badge, .int .i64 t84.Guard, .int .i64 t84.Bits], Own 55 (ekI .u64) v21 s86, Own 55 (ekI .u64) v61 qv61_2, Box b72 [.int .i64 t67.Code, .int .i64 t67.Word, .int .i64 t67.Badge], Box b46 [.int .i64 t41.Code, .int .i64 t41.Word, .int .i64 t41.Badge], Own 55 (ekI .u64) v23 s44, Own 55 (ekI .u64) v35 zs33, Box b9 [u10_Slots, u10_Objs, .int .i64 t7.NS, .int .i64 t7.NO], OwnO 62 kr_ref10_Slot u10_Slots raws11 A12 t7.Slots, OwnO 48 kr_ref10_Obj u10_Objs raws15 A16 t7.Objs, F]) (fun hk3 => ?_) ?_
     ·replace h := hC3
      rcases bool_or (t84.Kind == 0) with b89 | b89
      ·replace h := cond_t b89 h
       refine S.draw2 (Y := fun Q => ∃ (_ _ _ _ _ _ _ _ _ _ _ _ _ _ : Unit), Q [(18, bp b88 0), (14, v61), (17, .int .i64 x17_2), (10, .int .i64 x10_1), (1, v1), (6, .bool false), (7, .bool t1), (9, v23), (8, v21)] [Box b88 [.int .i64 t84.Kind, .int .i64 t84.Rights, .int .i64 t84.Obj, .int .i64 t84.Badge, .int .i64 t84.Guard, .int .i64 t84.Bits], Own 55 (ekI .u64) v21 s86, Own 55 (ekI .u64) v61 qv61_2, Box b72 [.int .i64 t67.Code, .int .i64 t67.Word, .int .i64 t67.Badge], Box b46 [.int .i64 t41.Code, .int .i64 t41.Word, .int .i64 t41.Badge], Own 55 (ekI .u64) v23 s44, Own 55 (ekI .u64) v35 zs33, Box b9 [u10_Slots, u10_Objs, .int .i64 t7.NS, .int .i64 t7.NO], OwnO 62 kr_ref10_Slot u10_Slots raws11 A12 t7.Slots, OwnO 48 kr_ref10_Obj u10_Objs raws15 A16 t7.Objs, F]) (Z := fun Q => ∀ (_ _ _ _ _ _ _ _ _ _ _ _ _ _ _ : Unit), Q [(17, .int .i64 x17_2), (10, .int .i64 x10_1), (1, v1), (6, .bool false), (7, .bool t1), (9, v23), (8, v21), (14, v61), (18, bp b88 0), (131, .bool true)] [Box b88 [.int .i64 t84.Kind, .int .i64 t84.Rights, .int .i64 t84.Obj, .int .i64 t84.Badge, .int .i64 t84.Guard, .int .i64 t84.Bits], Own 55 (ekI .u64) v21 s86, Own 55 (ekI .u64) v61 qv61_2, Box b72 [.int .i64 t67.Code, .int .i64 t67.Word, .int .i64 t67.Badge], Box b46 [.int .i64 t41.Code, .int .i64 t41.Word, .int .i64 t41.Badge], Own 55 (ekI .u64) v23 s44, Own 55 (ekI .u64) v35 zs33, Box b9 [u10_Slots, u10_Objs, .int .i64 t7.NS, .int .i64 t7.NO], OwnO 62 kr_ref10_Slot u10_Slots raws11 A12 t7.Slots, OwnO 48 kr_ref10_Obj u10_Objs raws15 A16 t7.Objs, F]) (T := [tS 18 (bp b88 0), tS 14 (v61), tE [(17, .int .i64 x17_2), (10, .int .i64 x10_1), (1, v1), (6, .bool false), (7, .bool t1), (9, v23), (8, v21)], tR (Box b88 [.int .i64 t84.Kind, .int .i64 t84.Rights, .int .i64 t84.Obj, .int .i64 t84.Badge, .int .i64 t84.Guard, .int .i64 t84.Bits]), tR (Own 55 (ekI .u64) v21 s86), tR (Own 55 (ekI .u64) v61 qv61_2), tR (Box b72 [.int .i64 t67.Code, .int .i64 t67.Word, .int .i64 t67.Badge]), tR (Box b46 [.int .i64 t41.Code, .int .i64 t41.Word, .int .i64 t41.Badge]), tR (Own 55 (ekI .u64) v23 s44), tR (Own 55 (ekI .u64) v35 zs33), tR (Box b9 [u10_Slots, u10_Objs, .int .i64 t7.NS, .int .i64 t7.NO]), tR (OwnO 62 kr_ref10_Slot u10_Slots raws11 A12 t7.Slots), tR (OwnO 48 kr_ref10_Obj u10_Objs raws15 A16 t7.Objs), tR (F), tS 120 (bp b88 0), tS 121 (.int .i64 t84.Kind), tS 122 (.bool (t84.Kind == 0)), tS 123 (.bool (t84.Kind == 0)), tS 124 (undef), tS 125 (undef), tS 126 (undef), tS 127 (undef), tS 128 (undef), tS 129 (undef), tS 130 (undef), tS 131 (.bool true)]) (D := [⟨[0], [], [14]⟩, ⟨[14, 3], [], [15]⟩, ⟨[15], [], [16]⟩, ⟨[16], [], [17]⟩, ⟨[17], [], [18]⟩, ⟨[17], [], [19]⟩, ⟨[17], [], [20]⟩, ⟨[17], [], [21]⟩, ⟨[17], [], [22]⟩, ⟨[17], [], [23]⟩, ⟨[17], [], [24]⟩, ⟨[17, 24], [], [25]⟩]) (ini := [0, 1, 2, 3, 4, 5, 6, 7, 8, 9, 10, 11, 12, 13]) (fin := [2, 1, 0, 25, 3, 4, 5, 6, 7, 8, 9, 10, 11, 12, 13]) (bf := [[], [0], [0, 1], [0, 1, 2], [0, 1, 2, 3], [0, 1, 2, 3, 4], [0, 1, 2, 3], [0, 1, 2, 3, 6], [0, 1, 2, 3, 6, 7], [0, 1, 2, 3, 6, 7, 8], [0, 1, 2, 3, 4, 5, 6, 7, 8, 9], [0, 1, 2, 3, 4, 5, 6, 7, 8, 9, 10]]) (by kernel_rfl) (by kernel_rfl) (fun Q => by kernel_rfl) (fun x w h1 h2 => ⟨(), (), (), (), (), (), (), (), (), (), (), (), (), (), EnvAll.of h1 ⟨rfl, rfl, rfl, rfl, rfl, rfl, rfl, rfl, rfl, trivial⟩, h2⟩) (fun Q => by kernel_rfl) ⟨?_, ?_, ?_, ?_, ?_, ?_, ?_, ?_, ?_, ?_, ?_, ?_, trivial⟩ ?_
       ·rintro Fr _
        exact fa Tryz.underlying45 rfl Tryz.sizeOf3 rfl rfl <| nz2 rfl () () rfl
       ·rintro Fr _ _
        exact ld Tryz.isAgg3 rfl rfl <| nz3 rfl () () () rfl
       ·rintro Fr _
        exact vv (opv_eql rfl rfl) <| nz2 rfl () () rfl
       ·rintro Fr _
        exact mv rfl <| nz2 rfl () () rfl
       ·rintro Fr _
        exact pf rfl rfl rfl b89 <| nz2 rfl () () rfl
       ·rintro Fr _
        exact pf rfl rfl rfl b89 <| nz2 rfl () () rfl
       ·rintro Fr _
        exact pf rfl rfl rfl b89 <| nz2 rfl () () rfl
       ·rintro Fr _
        exact pf rfl rfl rfl b89 <| nz2 rfl () () rfl
       ·rintro Fr _
        exact pf rfl rfl rfl b89 <| nz2 rfl () () rfl
       ·rintro Fr _
        exact pf rfl rfl rfl b89 <| nz2 rfl () () rfl
       ·rintro Fr _
        exact pf rfl rfl rfl b89 <| nz2 rfl () () rfl
       ·rintro Fr _ _
        exact vv (opv_pick_t' b89 rfl rfl) <| nz3 rfl () () () rfl
       rintro _ _ _ _ _ _ _ _ _ _ _ _ _ _ _
       refine tt [(17, .int .i64 x17_2), (10, .int .i64 x10_1), (1, v1), (6, .bool false), (7, .bool t1), (9, v23), (8, v21), (14, v61), (18, bp b88 0), (131, .bool true)] rfl ?_
       cases h
       refine S.b10 <| S.b10 <| S.b10 <| S.b10 <| S.b10 <| S.b10 <| S.b10 <| S.b10 <| S.b10 <| S.b10 <| S.b10 ?_
       refine S.to ?_ (hk3 () trivial)
       exact ⟨rfl, rfl, rfl, rfl, rfl, rfl, rfl, rfl, rfl, rfl, trivial⟩
      replace h := cond_f b89 h
      obtain ⟨x90, hx91, h⟩ := opt_bind h
      refine S.draw2 (Y := fun Q => ∃ (_ _ _ _ _ _ _ _ _ _ _ _ _ _ : Unit), Q [(18, bp b88 0), (14, v61), (17, .int .i64 x17_2), (10, .int .i64 x10_1), (1, v1), (6, .bool false), (7, .bool t1), (9, v23), (8, v21)] [Box b88 [.int .i64 t84.Kind, .int .i64 t84.Rights, .int .i64 t84.Obj, .int .i64 t84.Badge, .int .i64 t84.Guard, .int .i64 t84.Bits], Own 55 (ekI .u64) v21 s86, Own 55 (ekI .u64) v61 qv61_2, Box b72 [.int .i64 t67.Code, .int .i64 t67.Word, .int .i64 t67.Badge], Box b46 [.int .i64 t41.Code, .int .i64 t41.Word, .int .i64 t41.Badge], Own 55 (ekI .u64) v23 s44, Own 55 (ekI .u64) v35 zs33, Box b9 [u10_Slots, u10_Objs, .int .i64 t7.NS, .int .i64 t7.NO], OwnO 62 kr_ref10_Slot u10_Slots raws11 A12 t7.Slots, OwnO 48 kr_ref10_Obj u10_Objs raws15 A16 t7.Objs, F]) (Z := fun Q => ∀ (_ _ _ _ _ _ _ _ _ _ _ _ _ _ _ : Unit), Q [(17, .int .i64 x17_2), (10, .int .i64 x10_1), (1, v1), (6, .bool false), (7, .bool t1), (9, v23), (8, v21), (14, v61), (18, bp b88 0), (131, .bool (decide ((w64 x90) ≤ t84.Obj)))] [Box b88 [.int .i64 t84.Kind, .int .i64 t84.Rights, .int .i64 t84.Obj, .int .i64 t84.Badge, .int .i64 t84.Guard, .int .i64 t84.Bits], Own 55 (ekI .u64) v21 s86, Own 55 (ekI .u64) v61 qv61_2, Box b72 [.int .i64 t67.Code, .int .i64 t67.Word, .int .i64 t67.Badge], Box b46 [.int .i64 t41.Code, .int .i64 t41.Word, .int .i64 t41.Badge], Own 55 (ekI .u64) v23 s44, Own 55 (ekI .u64) v35 zs33, Box b9 [u10_Slots, u10_Objs, .int .i64 t7.NS, .int .i64 t7.NO], OwnO 62 kr_ref10_Slot u10_Slots raws11 A12 t7.Slots, OwnO 48 kr_ref10_Obj u10_Objs raws15 A16 t7.Objs, F]) (T := [tS 18 (bp b88 0), tS 14 (v61), tE [(17, .int .i64 x17_2), (10, .int .i64 x10_1), (1, v1), (6, .bool false), (7, .bool t1), (9, v23), (8, v21)], tR (Box b88 [.int .i64 t84.Kind, .int .i64 t84.Rights, .int .i64 t84.Obj, .int .i64 t84.Badge, .int .i64 t84.Guard, .int .i64 t84.Bits]), tR (Own 55 (ekI .u64) v21 s86), tR (Own 55 (ekI .u64) v61 qv61_2), tR (Box b72 [.int .i64 t67.Code, .int .i64 t67.Word, .int .i64 t67.Badge]), tR (Box b46 [.int .i64 t41.Code, .int .i64 t41.Word, .int .i64 t41.Badge]), tR (Own 55 (ekI .u64) v23 s44), tR (Own 55 (ekI .u64) v35 zs33), tR (Box b9 [u10_Slots, u10_Objs, .int .i64 t7.NS, .int .i64 t7.NO]), tR (OwnO 62 kr_ref10_Slot u10_Slots raws11 A12 t7.Slots), tR (OwnO 48 kr_ref10_Obj u10_Objs raws15 A16 t7.Objs), tR (F), tS 120 (bp b88 0), tS 121 (.int .i64 t84.Kind), tS 122 (.bool (t84.Kind == 0)), tS 123 (.bool (t84.Kind == 0)), tS 124 (bp b88 2), tS 125 (.int .i64 t84.Obj), tS 126 (v61), tS 127 (idxp v61 ((737 : Int).toNat * (ekI .u64).sz)), tS 128 (.int .u64 x90), tS 129 (.int .i64 (w64 x90)), tS 130 (.bool (decide ((w64 x90) ≤ t84.Obj))), tS 131 (.bool (decide ((w64 x90) ≤ t84.Obj)))]) (D := [⟨[0], [], [14]⟩, ⟨[14, 3], [], [15]⟩, ⟨[15], [], [16]⟩, ⟨[16], [], [17]⟩, ⟨[0, 17], [], [18]⟩, ⟨[17, 18, 3], [], [19]⟩, ⟨[1, 17], [], [20]⟩, ⟨[17, 20, 5], [], [21]⟩, ⟨[17, 21, 5], [], [22]⟩, ⟨[17, 22], [], [23]⟩, ⟨[17, 19, 23], [], [24]⟩, ⟨[17, 24], [], [25]⟩]) (ini := [0, 1, 2, 3, 4, 5, 6, 7, 8, 9, 10, 11, 12, 13]) (fin := [2, 1, 0, 25, 3, 4, 5, 6, 7, 8, 9, 10, 11, 12, 13]) (bf := [[], [0], [0, 1], [0, 1, 2], [0, 1, 2, 3], [0, 1, 2, 3, 4], [0, 1, 2, 3], [0, 1, 2, 3, 6], [0, 1, 2, 3, 6, 7], [0, 1, 2, 3, 6, 7, 8], [0, 1, 2, 3, 4, 5, 6, 7, 8, 9], [0, 1, 2, 3, 4, 5, 6, 7, 8, 9, 10]]) (by kernel_rfl) (by kernel_rfl) (fun Q => by kernel_rfl) (fun x w h1 h2 => ⟨(), (), (), (), (), (), (), (), (), (), (), (), (), (), EnvAll.of h1 ⟨rfl, rfl, rfl, rfl, rfl, rfl, rfl, rfl, rfl, trivial⟩, h2⟩) (fun Q => by kernel_rfl) ⟨?_, ?_, ?_, ?_, ?_, ?_, ?_, ?_, ?_, ?_, ?_, ?_, trivial⟩ ?_
      ·rintro Fr _
       exact fa Tryz.underlying45 rfl Tryz.sizeOf3 rfl rfl <| nz2 rfl () () rfl
      ·rintro Fr _ _
       exact ld Tryz.isAgg3 rfl rfl <| nz3 rfl () () () rfl
      ·rintro Fr _
       exact vv (opv_eql rfl rfl) <| nz2 rfl () () rfl
      ·rintro Fr _
       exact mv rfl <| nz2 rfl () () rfl
      ·rintro Fr _ _
       exact SO.takeT rfl rfl rfl b89 <| fa Tryz.underlying45 rfl Tryz.sizeOf3 rfl rfl <| nz3 rfl () () () rfl
      ·rintro Fr _ _ _
       exact SO.takeT rfl rfl rfl b89 <| ld Tryz.isAgg3 rfl rfl <| nz4 rfl () () () () rfl
      ·rintro Fr _ _
       exact SO.takeT rfl rfl rfl b89 <| mv rfl <| nz3 rfl () () () rfl
      ·rintro Fr _ _ _
       exact SO.takeT rfl rfl rfl b89 <| vv (opv_idx Tryz.underlying26 Tryz.sizeOf55 hr82 rfl rfl hx91) <| nz4 rfl () () () () rfl
      ·rintro Fr _ _ _
       exact SO.takeT rfl rfl rfl b89 <| SO.loadI1 (j := 0) rfl Tryz.isAgg55 (Rd.head hr82) hx91 rfl rfl rfl rfl <| nz4 rfl () () () () rfl
      ·rintro Fr _ _
       exact SO.takeT rfl rfl rfl b89 <| vv (opv_conv Tryz.underlying55 Tryz.underlying3 rfl) <| nz3 rfl () () () rfl
      ·rintro Fr _ _ _
       exact SO.takeT rfl rfl rfl b89 <| vv (opv_geq rfl rfl) <| nz4 rfl () () () () rfl
      ·rintro Fr _ _
       exact vv (opv_pick_f' b89 rfl rfl) <| nz3 rfl () () () rfl
      rintro _ _ _ _ _ _ _ _ _ _ _ _ _ _ _
      refine tt [(17, .int .i64 x17_2), (10, .int .i64 x10_1), (1, v1), (6, .bool false), (7, .bool t1), (9, v23), (8, v21), (14, v61), (18, bp b88 0), (131, .bool (decide ((w64 x90) ≤ t84.Obj)))] rfl ?_
      cases h
      refine S.b10 <| S.b10 <| S.b10 <| S.b10 <| S.b10 <| S.b10 <| S.b10 <| S.b10 <| S.b10 <| S.b10 <| S.b10 ?_
      refine S.to ?_ (hk3 () trivial)
      exact ⟨rfl, rfl, rfl, rfl, rfl, rfl, rfl, rfl, rfl, rfl, trivial⟩
     rintro _ -
     replace h := hJ3
     rcases bool_or j131_3 with b92 | b92
     ·replace h := cond_t b92 h
      refine S.condT rfl b92 <| S.exit rfl <| S.region <| mv rfl <| vv (opv_add rfl rfl) <| ag rfl <| SO.nil <| S.drop <| S.b9 <| S.b9 <| S.b9 <| S.b9 <| S.b9 <| S.b9 <| S.b9 <| S.b8 <| S.b8 <| S.b9 ?_
      refine S.to ?_ (ih2 ((w64 (x17_2 + 1), s86, qv61_2), ()) h)
      exact ⟨rfl, rfl, rfl, rfl, rfl, rfl, rfl, rfl, trivial⟩
     replace h := cond_f b92 h
     refine S.condF rfl b92 <| S.skip <| S.seq <| S.region <| ag rfl <| SO.nil <| S.seq <| S.seq <| S.region <| ag rfl <| SO.nil ?_
     obtain ⟨⟨j19_e4, qv61_e4⟩, hlp4, h⟩ := opt_bind h
     refine S.b10 <| S.b10 <| S.b10 <| S.b10 <| S.b10 <| S.b10 <| S.b10 <| S.b10 <| S.b10 <| S.b10 <| S.b10 <| tt [(20, .int .i64 0), (19, .bool false), (1, v1), (6, .bool false), (7, .bool t1), (8, v21), (9, v23), (10, .int .i64 x10_1), (14, v61), (17, .int .i64 x17_2), (18, bp b88 0)] rfl ?_
     refine S.forloop (X := (Int × Bool × (List Int)) × Unit) (O := (Bool × (List Int))) (fun m x => law21_InvokeLess.l4 t84 m x.1) (fun x => match x with | ((x20_4, x19_4, qv61_4), _) => [(20, .int .i64 x20_4), (19, .bool x19_4), (1, v1), (6, .bool false), (7, .bool t1), (8, v21), (9, v23), (10, .int .i64 x10_1), (14, v61), (17, .int .i64 x17_2), (18, bp b88 0)]) (fun x => match x with | ((x20_4, x19_4, qv61_4), _) => [Box b88 [.int .i64 t84.Kind, .int .i64 t84.Rights, .int .i64 t84.Obj, .int .i64 t84.Badge, .int .i64 t84.Guard, .int .i64 t84.Bits], Own 55 (ekI .u64) v21 s86, Own 55 (ekI .u64) v61 qv61_4, Box b72 [.int .i64 t67.Code, .int .i64 t67.Word, .int .i64 t67.Badge], Box b46 [.int .i64 t41.Code, .int .i64 t41.Word, .int .i64 t41.Badge], Own 55 (ekI .u64) v23 s44, Own 55 (ekI .u64) v35 zs33, Box b9 [u10_Slots, u10_Objs, .int .i64 t7.NS, .int .i64 t7.NO], OwnO 62 kr_ref10_Slot u10_Slots raws11 A12 t7.Slots, OwnO 48 kr_ref10_Obj u10_Objs raws15 A16 t7.Objs, F]) (fun Sk => (fun x => match x with | (j19_e4, qv61_e4) => ∀ _ : Unit, Sk [(1, v1), (6, .bool false), (7, .bool t1), (8, v21), (9, v23), (10, .int .i64 x10_1), (14, v61), (17, .int .i64 x17_2), (19, .bool j19_e4)] [Box b88 [.int .i64 t84.Kind, .int .i64 t84.Rights, .int .i64 t84.Obj, .int .i64 t84.Badge, .int .i64 t84.Guard, .int .i64 t84.Bits], Own 55 (ekI .u64) v21 s86, Own 55 (ekI .u64) v61 qv61_e4, Box b72 [.int .i64 t67.Code, .int .i64 t67.Word, .int .i64 t67.Badge], Box b46 [.int .i64 t41.Code, .int .i64 t41.Word, .int .i64 t41.Badge], Own 55 (ekI .u64) v23 s44, Own 55 (ekI .u64) v35 zs33, Box b9 [u10_Slots, u10_Objs, .int .i64 t7.NS, .int .i64 t7.NO], OwnO 62 kr_ref10_Slot u10_Slots raws11 A12 t7.Slots, OwnO 48 kr_ref10_Obj u10_Objs raws15 A16 t7.Objs, F])) (fun _ => rfl) ?_ (m := k) (x := ((0, false, qv61_2), ())) hlp4 ?_
     ·clear h hlp4
      intro k x o_4 h hK4 ih4
      obtain ⟨⟨x20_4, x19_4, qv61_4⟩, _⟩ := x
      replace h : law21_InvokeLess.l4 t84 (k + 1) (x20_4, x19_4, qv61_4) = some o_4 := h
      first | rw [law21_InvokeLess.l4] at h | unfold law21_InvokeLess.l4 at h
      refine S.b2 <| S.rd fun hr93 => S.seq <| S.seq <| S.region <| mv rfl <| vv (opv_lss rfl rfl) <| SO.nil ?_
      rcases bool_or (decide (x20_4 < 96)) with b94 | b94
      ·replace h := cond_t b94 h
       refine S.condT rfl b94 <| S.skip <| S.seq <| S.block ?_
       obtain ⟨⟨j19_5, qv61_5⟩, hC5, hJ5⟩ := opt_bind h
       clear h
       refine S.cutP (G := Unit) (fun _ => True) (fun _ => [(1, v1), (6, .bool false), (7, .bool t1), (8, v21), (9, v23), (10, .int .i64 x10_1), (14, v61), (17, .int .i64 x17_2), (18, bp b88 0), (19, .bool j19_5), (20, .int .i64 x20_4)]) (fun _ => [Own 55 (ekI .u64) v61 qv61_5, Box b88 [.int .i64 t84.Kind, .int .i64 t84.Rights, .int .i64 t84.Obj, .int .i64 t84.Badge, .int .i64 t84.Guard, .int .i64 t84.Bits], Own 55 (ekI .u64) v21 s86, Box b72 [.int .i64 t67.Code, .int .i64 t67.Word, .int .i64 t67.Badge], Box b46 [.int .i64 t41.Code, .int .i64 t41.Word, .int .i64 t41.Badge], Own 55 (ekI .u64) v23 s44, Own 55 (ekI .u64) v35 zs33, Box b9 [u10_Slots, u10_Objs, .int .i64 t7.NS, .int .i64 t7.NO], OwnO 62 kr_ref10_Slot u10_Slots raws11 A12 t7.Slots, OwnO 48 kr_ref10_Obj u10_Objs raws15 A16 t7.Objs, F]) (fun hk5 => ?_) ?_
       ·replace h := hC5
        rcases bool_or x19_4 with b95 | b95
        ·replace h := cond_t b95 h
         refine S.draw2 (Y := fun Q => ∃ (_ _ _ _ _ _ _ _ _ _ _ _ _ _ _ _ : Unit), Q [(19, .bool x19_4), (18, bp b88 0), (14, v61), (20, .int .i64 x20_4), (1, v1), (6, .bool false), (7, .bool t1), (8, v21), (9, v23), (10, .int .i64 x10_1), (17, .int .i64 x17_2)] [Own 55 (ekI .u64) v61 qv61_4, Box b88 [.int .i64 t84.Kind, .int .i64 t84.Rights, .int .i64 t84.Obj, .int .i64 t84.Badge, .int .i64 t84.Guard, .int .i64 t84.Bits], Own 55 (ekI .u64) v21 s86, Box b72 [.int .i64 t67.Code, .int .i64 t67.Word, .int .i64 t67.Badge], Box b46 [.int .i64 t41.Code, .int .i64 t41.Word, .int .i64 t41.Badge], Own 55 (ekI .u64) v23 s44, Own 55 (ekI .u64) v35 zs33, Box b9 [u10_Slots, u10_Objs, .int .i64 t7.NS, .int .i64 t7.NO], OwnO 62 kr_ref10_Slot u10_Slots raws11 A12 t7.Slots, OwnO 48 kr_ref10_Obj u10_Objs raws15 A16 t7.Objs, F]) (Z := fun Q => ∀ (_ _ _ _ _ _ _ _ _ _ _ _ _ _ _ _ : Unit), Q [(20, .int .i64 x20_4), (19, .bool true), (1, v1), (6, .bool false), (7, .bool t1), (8, v21), (9, v23), (10, .int .i64 x10_1), (17, .int .i64 x17_2), (14, v61), (18, bp b88 0)] [Own 55 (ekI .u64) v61 qv61_4, Box b88 [.int .i64 t84.Kind, .int .i64 t84.Rights, .int .i64 t84.Obj, .int .i64 t84.Badge, .int .i64 t84.Guard, .int .i64 t84.Bits], Own 55 (ekI .u64) v21 s86, Box b72 [.int .i64 t67.Code, .int .i64 t67.Word, .int .i64 t67.Badge], Box b46 [.int .i64 t41.Code, .int .i64 t41.Word, .int .i64 t41.Badge], Own 55 (ekI .u64) v23 s44, Own 55 (ekI .u64) v35 zs33, Box b9 [u10_Slots, u10_Objs, .int .i64 t7.NS, .int .i64 t7.NO], OwnO 62 kr_ref10_Slot u10_Slots raws11 A12 t7.Slots, OwnO 48 kr_ref10_Obj u10_Objs raws15 A16 t7.Objs, F]) (T := [tS 19 (.bool x19_4), tS 18 (bp b88 0), tS 14 (v61), tS 20 (.int .i64 x20_4), tE [(1, v1), (6, .bool false), (7, .bool t1), (8, v21), (9, v23), (10, .int .i64 x10_1), (17, .int .i64 x17_2)], tR (Own 55 (ekI .u64) v61 qv61_4), tR (Box b88 [.int .i64 t84.Kind, .int .i64 t84.Rights, .int .i64 t84.Obj, .int .i64 t84.Badge, .int .i64 t84.Guard, .int .i64 t84.Bits]), tR (Own 55 (ekI .u64) v21 s86), tR (Box b72 [.int .i64 t67.Code, .int .i64 t67.Word, .int .i64 t67.Badge]), tR (Box b46 [.int .i64 t41.Code, .int .i64 t41.Word, .int .i64 t41.Badge]), tR (Own 55 (ekI .u64) v23 s44), tR (Own 55 (ekI .u64) v35 zs33), tR (Box b9 [u10_Slots, u10_Objs, .int .i64 t7.NS, .int .i64 t7.NO]), tR (OwnO 62 kr_ref10_Slot u10_Slots raws11 A12 t7.Slots), tR (OwnO 48 kr_ref10_Obj u10_Objs raws15 A16 t7.Objs), tR (F), tS 136 (.bool x19_4), tS 137 (.bool x19_4), tS 138 (undef), tS 139 (undef), tS 140 (undef), tS 141 (undef), tS 142 (undef), tS 143 (undef), tS 144 (.bool true), tS 19 (.bool true)]) (D := [⟨[0], [], [16]⟩, ⟨[16], [], [17]⟩, ⟨[17], [], [18]⟩, ⟨[17], [], [19]⟩, ⟨[17], [], [20]⟩, ⟨[17], [], [21]⟩, ⟨[17], [], [22]⟩, ⟨[17], [], [23]⟩, ⟨[17, 23], [], [24]⟩, ⟨[24], [0], [25]⟩]) (ini := [0, 1, 2, 3, 4, 5, 6, 7, 8, 9, 10, 11, 12, 13, 14, 15]) (fin := [3, 25, 4, 2, 1, 5, 6, 7, 8, 9, 10, 11, 12, 13, 14, 15]) (bf := [[], [0], [0, 1], [0, 1], [0, 1, 3], [0, 1], [0, 1, 3, 4, 5], [0, 1, 2, 3, 4, 5, 6], [0, 1, 2, 3, 4, 5, 6, 7], [0, 1, 2, 3, 4, 5, 6, 7, 8]]) (by kernel_rfl) (by kernel_rfl) (fun Q => by kernel_rfl) (fun x w h1 h2 => ⟨(), (), (), (), (), (), (), (), (), (), (), (), (), (), (), (), EnvAll.of h1 ⟨rfl, rfl, rfl, rfl, rfl, rfl, rfl, rfl, rfl, rfl, rfl, trivial⟩, h2⟩) (fun Q => by kernel_rfl) ⟨?_, ?_, ?_, ?_, ?_, ?_, ?_, ?_, ?_, ?_, trivial⟩ ?_
         ·rintro Fr _
          exact mv rfl <| nz2 rfl () () rfl
         ·rintro Fr _
          exact mv rfl <| nz2 rfl () () rfl
         ·rintro Fr _
          exact pf rfl rfl rfl b95 <| nz2 rfl () () rfl
         ·rintro Fr _
          exact pf rfl rfl rfl b95 <| nz2 rfl () () rfl
         ·rintro Fr _
          exact pf rfl rfl rfl b95 <| nz2 rfl () () rfl
         ·rintro Fr _
          exact pf rfl rfl rfl b95 <| nz2 rfl () () rfl
         ·rintro Fr _
          exact pf rfl rfl rfl b95 <| nz2 rfl () () rfl
         ·rintro Fr _
          exact pf rfl rfl rfl b95 <| nz2 rfl () () rfl
         ·rintro Fr _ _
          exact vv (opv_pick_t' b95 rfl rfl) <| nz3 rfl () () () rfl
         ·rintro Fr _ _
          exact ag rfl <| nz2 rfl () () rfl
         rintro _ _ _ _ _ _ _ _ _ _ _ _ _ _ _ _
         refine tt [(20, .int .i64 x20_4), (19, .bool true), (1, v1), (6, .bool false), (7, .bool t1), (8, v21), (9, v23), (10, .int .i64 x10_1), (17, .int .i64 x17_2), (14, v61), (18, bp b88 0)] rfl ?_
         cases h
         refine S.b10 <| S.b10 <| S.b10 <| S.b10 <| S.b10 <| S.b10 <| S.b10 <| S.b10 <| S.b10 <| S.b10 <| S.b10 ?_
         refine S.to ?_ (hk5 () trivial)
         exact ⟨rfl, rfl, rfl, rfl, rfl, rfl, rfl, rfl, rfl, rfl, rfl, trivial⟩
        replace h := cond_f b95 h
        obtain ⟨⟨t96, s98⟩, ht97, h⟩ := opt_bind h
        obtain ⟨t100, ht101, h⟩ := opt_bind h
        refine S.draw2 (Y := fun Q => ∃ (_ _ _ _ _ _ _ _ _ _ _ _ _ _ _ _ : Unit), Q [(19, .bool x19_4), (18, bp b88 0), (14, v61), (20, .int .i64 x20_4), (1, v1), (6, .bool false), (7, .bool t1), (8, v21), (9, v23), (10, .int .i64 x10_1), (17, .int .i64 x17_2)] [Own 55 (ekI .u64) v61 qv61_4, Box b88 [.int .i64 t84.Kind, .int .i64 t84.Rights, .int .i64 t84.Obj, .int .i64 t84.Badge, .int .i64 t84.Guard, .int .i64 t84.Bits], Own 55 (ekI .u64) v21 s86, Box b72 [.int .i64 t67.Code, .int .i64 t67.Word, .int .i64 t67.Badge], Box b46 [.int .i64 t41.Code, .int .i64 t41.Word, .int .i64 t41.Badge], Own 55 (ekI .u64) v23 s44, Own 55 (ekI .u64) v35 zs33, Box b9 [u10_Slots, u10_Objs, .int .i64 t7.NS, .int .i64 t7.NO], OwnO 62 kr_ref10_Slot u10_Slots raws11 A12 t7.Slots, OwnO 48 kr_ref10_Obj u10_Objs raws15 A16 t7.Objs, F]) (Z := fun Q => ∀ (_ _ _ _ _ _ _ _ _ _ _ _ _ _ _ _ : Unit), Q [(20, .int .i64 x20_4), (19, .bool t100), (1, v1), (6, .bool false), (7, .bool t1), (8, v21), (9, v23), (10, .int .i64 x10_1), (17, .int .i64 x17_2), (14, v61), (18, bp b88 0)] [Own 55 (ekI .u64) v61 s98, Box b88 [.int .i64 t84.Kind, .int .i64 t84.Rights, .int .i64 t84.Obj, .int .i64 t84.Badge, .int .i64 t84.Guard, .int .i64 t84.Bits], Own 55 (ekI .u64) v21 s86, Box b72 [.int .i64 t67.Code, .int .i64 t67.Word, .int .i64 t67.Badge], Box b46 [.int .i64 t41.Code, .int .i64 t41.Word, .int .i64 t41.Badge], Own 55 (ekI .u64) v23 s44, Own 55 (ekI .u64) v35 zs33, Box b9 [u10_Slots, u10_Objs, .int .i64 t7.NS, .int .i64 t7.NO], OwnO 62 kr_ref10_Slot u10_Slots raws11 A12 t7.Slots, OwnO 48 kr_ref10_Obj u10_Objs raws15 A16 t7.Objs, F]) (T := [tS 19 (.bool x19_4), tS 18 (bp b88 0), tS 14 (v61), tS 20 (.int .i64 x20_4), tE [(1, v1), (6, .bool false), (7, .bool t1), (8, v21), (9, v23), (10, .int .i64 x10_1), (17, .int .i64 x17_2)], tR (Own 55 (ekI .u64) v61 qv61_4), tR (Box b88 [.int .i64 t84.Kind, .int .i64 t84.Rights, .int .i64 t84.Obj, .int .i64 t84.Badge, .int .i64 t84.Guard, .int .i64 t84.Bits]), tR (Own 55 (ekI .u64) v21 s86), tR (Box b72 [.int .i64 t67.Code, .int .i64 t67.Word, .int .i64 t67.Badge]), tR (Box b46 [.int .i64 t41.Code, .int .i64 t41.Word, .int .i64 t41.Badge]), tR (Own 55 (ekI .u64) v23 s44), tR (Own 55 (ekI .u64) v35 zs33), tR (Box b9 [u10_Slots, u10_Objs, .int .i64 t7.NS, .int .i64 t7.NO]), tR (OwnO 62 kr_ref10_Slot u10_Slots raws11 A12 t7.Slots), tR (OwnO 48 kr_ref10_Obj u10_Objs raws15 A16 t7.Objs), tR (F), tS 136 (.bool x19_4), tS 137 (.bool x19_4), tS 138 (.agg #[.int .i64 t84.Kind, .int .i64 t84.Rights, .int .i64 t84.Obj, .int .i64 t84.Badge, .int .i64 t84.Guard, .int .i64 t84.Bits]), tS 139 (v61), tS 140 ((plainV v61).val), tS 141 (.int .i64 x20_4), tR (Own 55 (ekI .u64) v61 s98), tS 142 (.agg #[.int .i64 t96.Kind, .int .i64 t96.Rights, .int .i64 t96.Obj, .int .i64 t96.Badge, .int .i64 t96.Guard, .int .i64 t96.Bits]), tS 143 (.bool t100), tS 144 (.bool t100), tS 19 (.bool t100)]) (D := [⟨[0], [], [16]⟩, ⟨[16], [], [17]⟩, ⟨[1, 17, 6], [], [18]⟩, ⟨[2, 17], [], [19]⟩, ⟨[17, 19], [], [20]⟩, ⟨[3, 17], [], [21]⟩, ⟨[17, 20, 21], [5], [22, 23]⟩, ⟨[17, 18, 23], [], [24]⟩, ⟨[17, 24], [], [25]⟩, ⟨[25], [0], [26]⟩]) (ini := [0, 1, 2, 3, 4, 5, 6, 7, 8, 9, 10, 11, 12, 13, 14, 15]) (fin := [3, 26, 4, 2, 1, 22, 6, 7, 8, 9, 10, 11, 12, 13, 14, 15]) (bf := [[], [0], [0, 1], [0, 1], [0, 1, 3], [0, 1], [0, 1, 3, 4, 5], [0, 1, 2, 3, 4, 5, 6], [0, 1, 2, 3, 4, 5, 6, 7], [0, 1, 2, 3, 4, 5, 6, 7, 8]]) (by kernel_rfl) (by kernel_rfl) (fun Q => by kernel_rfl) (fun x w h1 h2 => ⟨(), (), (), (), (), (), (), (), (), (), (), (), (), (), (), (), EnvAll.of h1 ⟨rfl, rfl, rfl, rfl, rfl, rfl, rfl, rfl, rfl, rfl, rfl, trivial⟩, h2⟩) (fun Q => by kernel_rfl) ⟨?_, ?_, ?_, ?_, ?_, ?_, ?_, ?_, ?_, ?_, trivial⟩ ?_
        ·rintro Fr _
         exact mv rfl <| nz2 rfl () () rfl
        ·rintro Fr _
         exact mv rfl <| nz2 rfl () () rfl
        ·rintro Fr _ _ _
         exact SO.takeT rfl rfl rfl b95 <| SO.loadN rfl Tryz.isAgg45 Tryz.sizeOf45 rfl rfl rfl <| nz4 rfl () () () () rfl
        ·rintro Fr _ _
         exact SO.takeT rfl rfl rfl b95 <| mv rfl <| nz3 rfl () () () rfl
        ·rintro Fr _ _
         exact SO.takeT rfl rfl rfl b95 <| vv (opv_iface Tryz.underlying27 rfl rfl) <| nz3 rfl () () () rfl
        ·rintro Fr _ _
         exact SO.takeT rfl rfl rfl b95 <| mv rfl <| nz3 rfl () () () rfl
        ·rintro Fr _ _ _ _
         refine SO.takeT rfl rfl rfl b95 <| SO.call (pre := [(plainV v61).rep _]) rfl Tryz.call14 rfl rfl rfl (cspace_Cap.ct (plainV v61) _ _ _ _ _ ht97) trivial ?_
         rintro _ _ ⟨rfl, rfl⟩
         exact headEq (plainV_rep _ _) <| SO.rd fun hr99 => SO.nilZ fun a w h1 h2 h3 h4 h5 => PZ.of2 (Y := fun Q => ∃ (_ _ _ _ _ : Unit), Q [(137, .bool x19_4), (140, (plainV v61).val), (141, .int .i64 x20_4), (142, .agg #[.int .i64 t96.Kind, .int .i64 t96.Rights, .int .i64 t96.Obj, .int .i64 t96.Badge, .int .i64 t96.Guard, .int .i64 t96.Bits])] [Own 55 (ekI .u64) v61 s98]) (fun Q => by kernel_rfl) h1 h3 h5 ⟨(), (), (), (), (), EnvAll.of h2 ⟨rfl, rfl, rfl, rfl, trivial⟩, h4⟩
        ·rintro Fr _ _ _
         refine SO.takeT rfl rfl rfl b95 <| SO.call (pre := []) rfl Tryz.call15 rfl rfl rfl (law21_within.ct _ _ _ ht101) trivial ?_
         rintro _ _ ⟨rfl, rfl⟩
         exact nz4 rfl () () () () rfl
        ·rintro Fr _ _
         exact vv (opv_pick_f' b95 rfl rfl) <| nz3 rfl () () () rfl
        ·rintro Fr _ _
         exact ag rfl <| nz2 rfl () () rfl
        rintro _ _ _ _ _ _ _ _ _ _ _ _ _ _ _ _
        refine tt [(20, .int .i64 x20_4), (19, .bool t100), (1, v1), (6, .bool false), (7, .bool t1), (8, v21), (9, v23), (10, .int .i64 x10_1), (17, .int .i64 x17_2), (14, v61), (18, bp b88 0)] rfl <| S.rd fun hr102 => ?_
        cases h
        refine S.b10 <| S.b10 <| S.b10 <| S.b10 <| S.b10 <| S.b10 <| S.b10 <| S.b10 <| S.b10 <| S.b10 <| S.b10 ?_
        refine S.to ?_ (hk5 () trivial)
        exact ⟨rfl, rfl, rfl, rfl, rfl, rfl, rfl, rfl, rfl, rfl, rfl, trivial⟩
       rintro _ -
       replace h := hJ5
       refine S.rd fun hr103 => S.inBlock <| S.region <| mv rfl <| vv (opv_add rfl rfl) <| ag rfl <| SO.nil <| S.b10 <| S.b10 <| S.b10 <| S.b10 <| S.b10 <| S.b10 <| S.b10 <| S.b10 <| S.b8 <| S.b10 <| S.b10 ?_
       refine S.to ?_ (ih4 ((w64 (x20_4 + 1), j19_5, qv61_5), ()) h)
       exact ⟨rfl, rfl, rfl, rfl, rfl, rfl, rfl, rfl, rfl, rfl, rfl, trivial⟩
      replace h := cond_f b94 h
      refine S.condF rfl b94 <| S.exit rfl ?_
      cases h
      refine S.b10 <| S.b10 <| S.b10 <| S.b10 <| S.b10 <| S.b10 <| S.b10 <| S.b10 <| S.b8 <| S.b10 <| S.b10 ?_
      refine S.to ?_ (hK4 ())
      exact ⟨rfl, rfl, rfl, rfl, rfl, rfl, rfl, rfl, rfl, trivial⟩
     rintro _
     refine S.b2 <| S.rd fun hr104 => S.seq <| S.region <| mv rfl <| vv (opv_not rfl) <| SO.nil ?_
     rcases bool_or (!j19_e4) with b105 | b105
     ·replace h := cond_t b105 h
      refine S.condT rfl b105 <| S.seq <| S.region <| ag rfl <| SO.nil <| tt [(6, .bool false)] rfl ?_
      cases h
      replace h := hK2.1 _ rfl
      cases h
      replace h := hK1.1 _ rfl
      cases h
      exact S.b8 <| S.closeR <| S.b9 <| S.closeR <| S.drop <| S.drop <| S.drop <| S.drop <| S.drop <| S.drop <| S.drop <| S.drop <| S.drop <| S.drop <| S.ret1 Tryz.func4 rfl rfl (hR · _ _ ⟨rfl, rfl⟩)
     replace h := cond_f b105 h
     refine S.condF rfl b105 <| S.skip <| S.inBlock <| S.region <| mv rfl <| vv (opv_add rfl rfl) <| ag rfl <| SO.nil <| S.b1 <| S.drop <| S.b9 <| S.b9 <| S.b9 <| S.b9 <| S.b9 <| S.b9 <| S.b9 <| S.b7 <| S.b8 <| S.b9 ?_
     refine S.to ?_ (ih2 ((w64 (x17_2 + 1), s86, qv61_e4), ()) h)
     exact ⟨rfl, rfl, rfl, rfl, rfl, rfl, rfl, rfl, trivial⟩
    replace h := cond_f b83 h
    refine S.condF rfl b83 <| S.exit rfl ?_
    cases h
    refine S.b9 <| S.b9 <| S.b9 <| S.b9 <| S.b9 <| S.b9 <| S.b9 <| S.b7 <| S.b8 <| S.b9 ?_
    refine S.to ?_ (hK2.2 (qv21_2, qv61_2) () rfl)
    exact ⟨rfl, rfl, rfl, rfl, rfl, rfl, trivial⟩
   refine ⟨fun r' e' => ?_, ?_⟩
   ·subst e'
    have h9 := Brk.of_ret h
    exact h9
   rintro ⟨qv21_e2, qv61_e2⟩ _ e'
   subst e'
   replace h := Brk.of_nx h
   refine S.b1 <| S.rd fun hr106 => S.b2 <| S.rd fun hr107 => S.inBlock <| S.region <| mv rfl <| vv (opv_add rfl rfl) <| ag rfl <| SO.nil <| S.drop <| S.b1 <| S.drop <| S.b1 <| S.drop <| S.b2 <| S.drop <| S.b5 <| S.b5 <| S.b5 <| S.b5 <| S.b4 <| S.b5 ?_
   refine S.to ?_ (ih1 ((w64 (x10_1 + 1), qv21_e2, s44), ()) h)
   exact ⟨rfl, rfl, rfl, rfl, rfl, rfl, trivial⟩
  replace h := cond_f b30 h
  refine S.condF rfl b30 <| S.exit rfl ?_
  cases h
  refine S.b5 <| S.b5 <| S.b5 <| S.b5 <| S.b4 <| S.b5 ?_
  refine S.to ?_ (hK1.2 (qv23_1, qv21_1) () rfl)
  exact ⟨rfl, rfl, trivial⟩
 refine ⟨fun r' e' => ?_, ?_⟩
 ·subst e'
  have h9 := Brk.of_ret h
  exact h9
 rintro ⟨qv23_e1, qv21_e1⟩ _ e'
 subst e'
 replace h := Brk.of_nx h
 refine S.rd fun hr108 => S.b1 <| S.rd fun hr109 => S.seq <| S.region <| mv rfl <| mv rfl ?_
 obtain ⟨c111, hc112, hgk⟩ := opt_bind h
 refine SO.cut 3 151 (.bool c111) [Own 55 (ekI .u64) v21 qv21_e1, Own 55 (ekI .u64) v23 qv23_e1, Box b9 [u10_Slots, u10_Objs, .int .i64 t7.NS, .int .i64 t7.NO], OwnO 62 kr_ref10_Slot u10_Slots raws11 A12 t7.Slots, OwnO 48 kr_ref10_Obj u10_Objs raws15 A16 t7.Objs, F] (fun l2 hk2 => ?_) ?_
 ·clear hgk
  replace h := hc112
  rcases bool_or t1 with b110 | b110
  ·replace h := cond_t b110 h
   refine SO.takeT rfl rfl rfl b110 ?_
   obtain ⟨t113, ht114, h⟩ := opt_bind h
   refine SO.call (pre := []) rfl Tryz.call16 rfl rfl rfl (law10_Pick.ct _ _ _ ht114) trivial ?_
   rintro _ _ ⟨rfl, rfl⟩
   refine SO.takeT rfl rfl rfl b110 <| vv (opv_eql rfl rfl) ?_
   cases h
   exact vv (opv_pick_t' b110 rfl rfl) <| SO.b5 <| SO.b5 <| SO.b5 <| SO.b5 <| SO.b5 <| SO.b5 <| hk2.fitc (m := 3) rfl (rfl) rfl
  replace h := cond_f b110 h
  refine pf rfl rfl rfl b110 <| pf rfl rfl rfl b110 ?_
  cases h
  exact vv (opv_pick_f' b110 rfl rfl) <| SO.b5 <| SO.b5 <| SO.b5 <| SO.b5 <| SO.b5 <| SO.b5 <| hk2.fitc (m := 3) rfl (rfl) rfl
 clear hc112
 replace h := hgk
 refine ag rfl <| SO.nil ?_
 cases h
 exact S.b3 <| S.closeR <| S.b4 <| S.closeR <| S.drop <| S.drop <| S.drop <| S.drop <| S.drop <| S.ret1 Tryz.func4 rfl rfl (hR · _ _ ⟨rfl, rfl⟩)
end Go.Proofs

