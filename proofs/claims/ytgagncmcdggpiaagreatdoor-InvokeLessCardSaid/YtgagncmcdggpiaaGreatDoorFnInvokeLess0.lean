/- What the functions that InvokeLess reaches come to, and that they do. On no condition. -/
import Derived.Test.YtgagncmcdggpiaaGreatDoorFr1
import Derived.Test.YtgagncmcdggpiaaGreatDoorProg
import Derived.WalkKit
import Derived.LaidEql
import Derived.Stop.Asserts
import Derived.RowKitTokens
set_option linter.all false
namespace Go.Proofs
open Go.Sl Go.RowKit
theorem inf3 : Tryz.prog.info? 3 = some Tryz.t3 := by kernel_rfl
theorem inf48 : Tryz.prog.info? 48 = some Tryz.t48 := by kernel_rfl
theorem inf55 : Tryz.prog.info? 55 = some Tryz.t55 := by kernel_rfl
theorem inf62 : Tryz.prog.info? 62 = some Tryz.t62 := by kernel_rfl
theorem inf81 : Tryz.prog.info? 81 = some Tryz.t81 := by kernel_rfl
structure api_Cap where
  Kind : Int
  Rights : Int
  Obj : Int
  Badge : Int
  Guard : Int
  Bits : Int
  deriving DecidableEq, Inhabited
def ek_api_Cap : EK api_Cap := ⟨6, fun x => [.int .i64 x.Kind, .int .i64 x.Rights, .int .i64 x.Obj, .int .i64 x.Badge, .int .i64 x.Guard, .int .i64 x.Bits], fun _ => rfl, fun x v hv => by
  simp only [List.mem_cons, List.not_mem_nil, or_false] at hv
  rcases hv with rfl | rfl | rfl | rfl | rfl | rfl <;> rfl, by decide⟩
theorem eqI_api_Cap (x y : api_Cap) : eqI [x.Kind, x.Rights, x.Obj, x.Badge, x.Guard, x.Bits] [y.Kind, y.Rights, y.Obj, y.Badge, y.Guard, y.Bits] = decide (x = y) := by
  cases x; cases y
  rw [Bool.eq_iff_iff]
  simp [eqI]
theorem fi_api_Cap : ∀ fs, Tryz.prog.underlying 45 = some (.struct fs) → FI Tryz.prog fs.toList 0 [.i64, .i64, .i64, .i64, .i64, .i64] := by
  intro fs h
  rw [Tryz.underlying45] at h
  injection h with h
  injection h with h
  subst h
  exact ⟨by decide, Tryz.underlying3, rfl, ⟨by decide, Tryz.underlying3, rfl, ⟨by decide, Tryz.underlying3, rfl, ⟨by decide, Tryz.underlying3, rfl, ⟨by decide, Tryz.underlying3, rfl, ⟨by decide, Tryz.underlying3, rfl, trivial⟩⟩⟩⟩⟩⟩
theorem eq_eql_api_Cap {ρ : Env} {t2 : TypeId} {x y : api_Cap} {a b : Operand} (ha : ev ρ a = some (.agg (encI [.i64, .i64, .i64, .i64, .i64, .i64] [x.Kind, x.Rights, x.Obj, x.Badge, x.Guard, x.Bits]).toArray)) (hb : ev ρ b = some (.agg (encI [.i64, .i64, .i64, .i64, .i64, .i64] [y.Kind, y.Rights, y.Obj, y.Badge, y.Guard, y.Bits]).toArray)) : OpV Tryz.prog ρ (.binOp .eql 45 a b t2) (.bool (decide (x = y))) :=
  opv_eqlS Tryz.underlying45 Tryz.stoodInHeld45 Tryz.eqGuardType45 (fi_api_Cap _ Tryz.underlying45) rfl rfl ha hb (by rw [eqI_api_Cap])
structure ref10_Obj where
  Kind : Int
  Size : Int
  Used : Int
  First : Int
  Radix : Int
  Wait : Int
  Queue : List Int
  Word : Int
  State : Int
  Owing : Int
  Badge : Int
  Prio : Int
  On : Int
  Owes : Int
  Root : api_Cap
  Pages : A4
  Right : A4
  In : Int
  Page : Int
  Bound : Int
  Mask : Int
  deriving DecidableEq, Inhabited
def kr_ref10_Obj : EKR ref10_Obj := ⟨32, fun x => [.val (.int .i64 x.Kind), .val (.int .i64 x.Size), .val (.int .i64 x.Used), .val (.int .i64 x.First), .val (.int .i64 x.Radix), .val (.int .i64 x.Wait), .sl (ekI .i64) x.Queue, .val (.int .i64 x.Word), .val (.int .i64 x.State), .val (.int .i64 x.Owing), .val (.int .i64 x.Badge), .val (.int .i64 x.Prio), .val (.int .i64 x.On), .val (.int .i64 x.Owes), .val (.int .i64 x.Root.Kind), .val (.int .i64 x.Root.Rights), .val (.int .i64 x.Root.Obj), .val (.int .i64 x.Root.Badge), .val (.int .i64 x.Root.Guard), .val (.int .i64 x.Root.Bits), .val (.int .i64 x.Pages.a0), .val (.int .i64 x.Pages.a1), .val (.int .i64 x.Pages.a2), .val (.int .i64 x.Pages.a3), .val (.int .i64 x.Right.a0), .val (.int .i64 x.Right.a1), .val (.int .i64 x.Right.a2), .val (.int .i64 x.Right.a3), .val (.int .i64 x.In), .val (.int .i64 x.Page), .val (.int .i64 x.Bound), .val (.int .i64 x.Mask)], fun _ => rfl, fun x v hv => by
  simp only [List.mem_cons, List.not_mem_nil, or_false, CellP.val.injEq, reduceCtorEq, false_or] at hv
  rcases hv with rfl | rfl | rfl | rfl | rfl | rfl | rfl | rfl | rfl | rfl | rfl | rfl | rfl | rfl | rfl | rfl | rfl | rfl | rfl | rfl | rfl | rfl | rfl | rfl | rfl | rfl | rfl | rfl | rfl | rfl | rfl <;> rfl, by decide⟩
structure ref10_Slot where
  Cap : api_Cap
  Parent : Int
  Kids : List Int
  deriving DecidableEq, Inhabited
def kr_ref10_Slot : EKR ref10_Slot := ⟨8, fun x => [.val (.int .i64 x.Cap.Kind), .val (.int .i64 x.Cap.Rights), .val (.int .i64 x.Cap.Obj), .val (.int .i64 x.Cap.Badge), .val (.int .i64 x.Cap.Guard), .val (.int .i64 x.Cap.Bits), .val (.int .i64 x.Parent), .sl (ekI .i64) x.Kids], fun _ => rfl, fun x v hv => by
  simp only [List.mem_cons, List.not_mem_nil, or_false, CellP.val.injEq, reduceCtorEq, false_or] at hv
  rcases hv with rfl | rfl | rfl | rfl | rfl | rfl | rfl <;> rfl, by decide⟩
structure ref10_State where
  Slots : List ref10_Slot
  Objs : List ref10_Obj
  NS : Int
  NO : Int
  deriving DecidableEq, Inhabited
structure api_Call where
  Op : Int
  Cap : Int
  A : Int
  B : Int
  C : Int
  D : Int
  deriving DecidableEq, Inhabited
structure invoke_doer where
  t : Int
  c : api_Call
  slot : Int
  cap : api_Cap
  deriving DecidableEq, Inhabited
structure api_Reply where
  Code : Int
  Word : Int
  Badge : Int
  deriving DecidableEq, Inhabited
structure view_Pair_uint64 where
  At : Int
  Val : Int
  deriving DecidableEq, Inhabited
def ek_view_Pair_uint64 : EK view_Pair_uint64 := ⟨2, fun x => [.int .i64 x.At, .int .u64 x.Val], fun _ => rfl, fun x v hv => by
  simp only [List.mem_cons, List.not_mem_nil, or_false] at hv
  rcases hv with rfl | rfl <;> rfl, by decide⟩
structure law21_Deed where
  T : Int
  C : api_Call
  deriving DecidableEq, Inhabited
def ek_law21_Deed : EK law21_Deed := ⟨7, fun x => [.int .i64 x.T, .int .i64 x.C.Op, .int .i64 x.C.Cap, .int .i64 x.C.A, .int .i64 x.C.B, .int .i64 x.C.C, .int .i64 x.C.D], fun _ => rfl, fun x v hv => by
  simp only [List.mem_cons, List.not_mem_nil, or_false] at hv
  rcases hv with rfl | rfl | rfl | rfl | rfl | rfl | rfl <;> rfl, by decide⟩
def view_Plain_has.f (a0 : List Int) (a1 : Int) : Option (Bool) :=
  some ((decide (0 ≤ a1)) && (decide (a1 < (a0.length : Int))))
set_option maxHeartbeats 8000000 in
set_option maxRecDepth 100000 in
theorem view_Plain_has.ct (v0 : Value) (a0 : List Int) (a1 : Int) (r0 : Bool) (h : view_Plain_has.f a0 a1 = some r0) :
    Ct Tryz.prog 233 [v0, .int .i64 a1] (fun F => Rd (ekI .u64) v0 a0 F) [] (fun u H' => u = .bool r0 ∧ H' = []) := by
 unfold view_Plain_has.f at h
 refine Ct.intro (n := 13) Tryz.func233 rfl rfl rfl ?_
 intro R w0 F hF hR
 have hF0 := hF
 refine S.seq <| S.region <| ag rfl <| SO.nil <| S.seq <| S.region <| mv rfl <| vv (opv_geq rfl rfl) <| mv rfl ?_
 refine SO.cut 5 12 (.bool ((decide (0 ≤ a1)) && (decide (a1 < (a0.length : Int))))) [F] (fun l2 hk2 => ?_) ?_
 ·rcases bool_or (decide (0 ≤ a1)) with b1 | b1
  ·exact SO.takeT rfl rfl rfl b1 <| mv rfl <| SO.takeT rfl rfl rfl b1 <| mv rfl <| SO.takeT rfl rfl rfl b1 <| vv (opv_lenR rfl Tryz.underlying27 hF0 rfl) <| SO.takeT rfl rfl rfl b1 <| vv (opv_lss rfl rfl) <| vv (opv_pick_t' b1 rfl rfl) <| hk2.fitc (m := 5) rfl (and_t b1) rfl
  exact pf rfl rfl rfl b1 <| pf rfl rfl rfl b1 <| pf rfl rfl rfl b1 <| pf rfl rfl rfl b1 <| vv (opv_pick_f' b1 rfl rfl) <| hk2.fitc (m := 5) rfl (and_f b1) rfl
 refine ag rfl <| SO.nil ?_
 cases h
 exact S.ret1 Tryz.func233 rfl rfl (hR · _ _ ⟨rfl, rfl⟩)
def view_Plain_Read.f (a0 : List Int) (a1 : Int) : Option (Int) :=
  (view_Plain_has.f a0 a1).bind fun t1 => bif !t1 then (some 0) else ((at_ a0 a1).bind fun x4 => some x4)
set_option maxHeartbeats 8000000 in
set_option maxRecDepth 100000 in
theorem view_Plain_Read.ct (v0 : Value) (a0 : List Int) (a1 : Int) (r0 : Int) (h : view_Plain_Read.f a0 a1 = some r0) :
    Ct Tryz.prog 231 [v0, .int .i64 a1] (fun F => Rd (ekI .u64) v0 a0 F) [] (fun u H' => u = .int .u64 r0 ∧ H' = []) := by
 unfold view_Plain_Read.f at h
 refine Ct.intro (n := 13) Tryz.func231 rfl rfl rfl ?_
 intro R w0 F hF hR
 have hF0 := hF
 refine S.seq <| S.region <| ag rfl <| SO.nil <| S.seq <| S.seq <| S.region <| mv rfl <| mv rfl ?_
 obtain ⟨t1, ht2, h⟩ := opt_bind h
 refine SO.call (pre := []) rfl Tryz.call233 rfl rfl rfl (view_Plain_has.ct v0 _ _ _ ht2) (Rd.head hF0) ?_
 rintro _ _ ⟨rfl, rfl⟩
 refine vv (opv_not rfl) <| SO.nil ?_
 rcases bool_or (!t1) with b3 | b3
 ·replace h := cond_t b3 h
  refine S.condT rfl b3 <| S.seq <| S.region <| ag rfl <| SO.nil ?_
  cases h
  exact S.ret1 Tryz.func231 rfl rfl (hR · _ _ ⟨rfl, rfl⟩)
 replace h := cond_f b3 h
 refine S.condF rfl b3 <| S.skip <| S.seq <| S.region <| mv rfl <| mv rfl ?_
 obtain ⟨x4, hx5, h⟩ := opt_bind h
 refine vv (opv_idx Tryz.underlying27 Tryz.sizeOf55 hF0 rfl rfl hx5) <| SO.loadI1 (j := 0) rfl Tryz.isAgg55 (Rd.head hF0) hx5 rfl rfl rfl rfl <| ag rfl <| SO.nil <| tt [(4, .int .u64 x4)] rfl ?_
 cases h
 exact S.ret1 Tryz.func231 rfl rfl (hR · _ _ ⟨rfl, rfl⟩)
def view_Plain_Write.f (a0 : List Int) (a1 : Int) (a2 : Int) : Option ((List Int)) :=
  (view_Plain_has.f a0 a1).bind fun t2 => bif t2 then ((at_ a0 a1).bind fun x5 => some (a0.set a1.toNat a2)) else (some a0)
set_option maxHeartbeats 8000000 in
set_option maxRecDepth 100000 in
theorem view_Plain_Write.ct (v0 : Value) (a0 : List Int) (a1 : Int) (a2 : Int) (q0 : List Int) (h : view_Plain_Write.f a0 a1 a2 = some q0) :
    Ct Tryz.prog 232 [v0, .int .i64 a1, .int .u64 a2] (fun _ => True) [Own 55 (ekI .u64) v0 a0] (fun u H' => u = .tuple #[] ∧ H' = [Own 55 (ekI .u64) v0 q0]) := by
 unfold view_Plain_Write.f at h
 refine Ct.intro (n := 13) Tryz.func232 rfl rfl rfl ?_
 intro R w0 F hF hR
 refine S.rd fun hr1 => S.seq <| S.region <| mv rfl <| mv rfl ?_
 obtain ⟨t2, ht3, h⟩ := opt_bind h
 refine SO.call (pre := []) rfl Tryz.call233 rfl rfl rfl (view_Plain_has.ct v0 _ _ _ ht3) (Rd.head hr1) ?_
 rintro _ _ ⟨rfl, rfl⟩
 refine SO.nil ?_
 rcases bool_or t2 with b4 | b4
 ·replace h := cond_t b4 h
  refine S.condT rfl b4 <| S.region <| mv rfl <| mv rfl <| mv rfl ?_
  obtain ⟨x5, hx6, h⟩ := opt_bind h
  refine vv (opv_idx Tryz.underlying27 Tryz.sizeOf55 hr1 rfl rfl hx6) <| SO.storeI1 (j := 0) (z' := a2) Tryz.sizeOf55 hx6 rfl rfl rfl rfl rfl rfl <| SO.rd fun hr7 => SO.nil <| S.to (ρ' := []) trivial ?_
  cases h
  exact S.b1 <| S.b1 <| S.fin0 Tryz.func232 rfl (hR · _ _ ⟨rfl, rfl⟩)
 replace h := cond_f b4 h
 refine S.condF rfl b4 <| S.skip ?_
 cases h
 exact S.b1 <| S.b1 <| S.fin0 Tryz.func232 rfl (hR · _ _ ⟨rfl, rfl⟩)
theorem read_ok (s : List Int) (i : Int) : ∃ r, view_Plain_Read.f s i = some r := by
  cases h : view_Plain_Read.f s i with
  | some r => exact ⟨r, rfl⟩
  | none =>
    exfalso
    revert h
    unfold view_Plain_Read.f view_Plain_has.f
    by_cases h1 : 0 ≤ i ∧ i < (s.length : Int)
    · have : s[i.toNat]? = some s[i.toNat] := List.getElem?_eq_getElem (by omega)
      simp [h1, at_, this]
    · have : (decide (0 ≤ i) && decide (i < (s.length : Int))) = false := by simpa using h1
      simp [this]
theorem write_ok (s : List Int) (i x : Int) : ∃ r, view_Plain_Write.f s i x = some r := by
  cases h : view_Plain_Write.f s i x with
  | some r => exact ⟨r, rfl⟩
  | none =>
    exfalso
    revert h
    unfold view_Plain_Write.f view_Plain_has.f
    by_cases h1 : 0 ≤ i ∧ i < (s.length : Int)
    · have : s[i.toNat]? = some s[i.toNat] := List.getElem?_eq_getElem (by omega)
      simp [h1, at_, this]
    · have : (decide (0 ≤ i) && decide (i < (s.length : Int))) = false := by simpa using h1
      simp [this]
abbrev plainI : VI := ⟨List Int, fun s i => ((view_Plain_Read.f s i).getD 0, s), fun s i x => (view_Plain_Write.f s i x).getD s⟩
theorem ofRd {P : Program} {g : FuncId} {vals : List Value} {α : Type} {E : TypeId} {K : EK α} {v : Value} {xs : List α} {u0 : Value} (h : Ct P g vals (fun F => Rd K v xs F) [] (fun u H' => u = u0 ∧ H' = [])) :
    Ct P g vals (fun _ => True) [Own E K v xs] (fun u H' => u = u0 ∧ H' = [Own E K v xs]) := by
 intro w F _ hs
 have h2 : Sat w ([] ++ [stars [Own E K v xs, F]]) := Sat.pack (l1 := []) hs
 have hr : Rd K v xs (stars [Own E K v xs, F]) := by
  obtain ⟨m, hm, ho⟩ := Sat.head hs
  exact Rd.head (Own.rd ho)
 refine (h w _ hr h2).mono ?_
 rintro e w' ⟨u, H', he, ⟨hu, rfl⟩, hs', hk⟩
 exact ⟨u, _, he, ⟨hu, rfl⟩, Sat.unpack (l1 := []) hs', hk⟩
set_option maxRecDepth 100000 in
set_option maxHeartbeats 4000000 in
noncomputable def plainV (v : Value) : VW Tryz.prog :=
  { plainI with
    t := 27, v := v, rep := fun s => Own 55 (ekI .u64) v s
    rF := 231, rV := v, wF := 232, wV := v
    rM := by intro w; kernel_rfl
    wM := by intro w; kernel_rfl
    rN := by intro w; kernel_rfl
    wN := by intro w; kernel_rfl
    rC := Tryz.call231, wC := Tryz.call232
    rCt := fun s i => by
      obtain ⟨r, hr⟩ := read_ok s i
      have := ofRd (E := 55) (view_Plain_Read.ct v s i r hr)
      show Ct _ _ _ _ _ (fun u H' => u = .int .u64 ((view_Plain_Read.f s i).getD 0) ∧ H' = [Own 55 (ekI .u64) v s])
      rw [hr]; exact this
    wCt := fun s i x => by
      obtain ⟨r, hr⟩ := write_ok s i x
      have := view_Plain_Write.ct v s i x r hr
      show Ct _ _ _ _ _ (fun u H' => u = .tuple #[] ∧ H' = [Own 55 (ekI .u64) v ((view_Plain_Write.f s i x).getD s)])
      rw [hr]; exact this }
theorem plainV_rep (v : Value) (s : List Int) : (plainV v).rep s = Own 55 (ekI .u64) v s := rfl
theorem headEq {P : Program} {n : Nat} {Z : Act → World → Prop} {w0 : Beg} {ops : Array Oper} {l : List Oper} {ρ : Env} {A B : HProp} {rest : List HProp} (h : A = B) (k : SO P n Z w0 ops l ρ (B :: rest)) : SO P n Z w0 ops l ρ (A :: rest) := by
  subst h; exact k
def lay_in.f (a0 : Int) (a1 : Int) : Option (Bool) :=
  some ((decide (0 ≤ a0)) && (decide (a0 < a1)))
set_option maxHeartbeats 8000000 in
set_option maxRecDepth 100000 in
theorem lay_in.ct (a0 : Int) (a1 : Int) (r0 : Bool) (h : lay_in.f a0 a1 = some r0) :
    Ct Tryz.prog 50 [.int .i64 a0, .int .i64 a1] (fun _ => True) [] (fun u H' => u = .bool r0 ∧ H' = []) := by
 unfold lay_in.f at h
 refine Ct.intro (n := 12) Tryz.func50 rfl rfl rfl ?_
 intro R w0 F hF hR
 refine S.seq <| S.region <| ag rfl <| SO.nil <| S.seq <| S.region <| mv rfl <| vv (opv_geq rfl rfl) <| mv rfl ?_
 refine SO.cut 4 11 (.bool ((decide (0 ≤ a0)) && (decide (a0 < a1)))) [F] (fun l2 hk2 => ?_) ?_
 ·rcases bool_or (decide (0 ≤ a0)) with b1 | b1
  ·exact SO.takeT rfl rfl rfl b1 <| mv rfl <| SO.takeT rfl rfl rfl b1 <| mv rfl <| SO.takeT rfl rfl rfl b1 <| vv (opv_lss rfl rfl) <| vv (opv_pick_t' b1 rfl rfl) <| hk2.fitc (m := 4) rfl (and_t b1) rfl
  exact pf rfl rfl rfl b1 <| pf rfl rfl rfl b1 <| pf rfl rfl rfl b1 <| vv (opv_pick_f' b1 rfl rfl) <| hk2.fitc (m := 4) rfl (and_f b1) rfl
 refine ag rfl <| SO.nil ?_
 cases h
 exact S.ret1 Tryz.func50 rfl rfl (hR · _ _ ⟨rfl, rfl⟩)
def lay_Slot.f (a0 : Int) (a1 : Int) : Option ((Int × Bool)) :=
  (lay_in.f a0 96).bind fun t1 => (bif !t1 then (some true) else ((lay_in.f a1 5).bind fun t6 => some (!t6))).bind fun c4 => bif c4 then (some (0, false)) else (some (w64 ((w64 (a0 * 5)) + a1), true))
set_option maxHeartbeats 8000000 in
set_option maxRecDepth 100000 in
theorem lay_Slot.ct (a0 : Int) (a1 : Int) (r0 : Int) (r1 : Bool) (h : lay_Slot.f a0 a1 = some (r0, r1)) :
    Ct Tryz.prog 31 [.int .i64 a0, .int .i64 a1] (fun _ => True) [] (fun u H' => u = .tuple #[.int .i64 r0, .bool r1] ∧ H' = []) := by
 unfold lay_Slot.f at h
 refine Ct.intro (n := 18) Tryz.func31 rfl rfl rfl ?_
 intro R w0 F hF hR
 refine S.seq <| S.region <| ag rfl <| ag rfl <| SO.nil <| S.seq <| S.seq <| S.region <| mv rfl ?_
 obtain ⟨t1, ht2, h⟩ := opt_bind h
 refine SO.call (pre := []) rfl Tryz.call50 rfl rfl rfl (lay_in.ct _ _ _ ht2) trivial ?_
 rintro _ _ ⟨rfl, rfl⟩
 refine vv (opv_not rfl) <| mv rfl ?_
 obtain ⟨c4, hc5, hgk⟩ := opt_bind h
 refine SO.cut 4 13 (.bool c4) [F] (fun l2 hk2 => ?_) ?_
 ·clear hgk
  replace h := hc5
  rcases bool_or (!t1) with b3 | b3
  ·replace h := cond_t b3 h
   refine pf rfl rfl rfl b3 <| pf rfl rfl rfl b3 <| pf rfl rfl rfl b3 ?_
   cases h
   exact vv (opv_pick_t' b3 rfl rfl) <| hk2.fitc (m := 4) rfl (rfl) rfl
  replace h := cond_f b3 h
  refine SO.takeT rfl rfl rfl b3 <| mv rfl <| SO.takeT rfl rfl rfl b3 ?_
  obtain ⟨t6, ht7, h⟩ := opt_bind h
  refine SO.call (pre := []) rfl Tryz.call50 rfl rfl rfl (lay_in.ct _ _ _ ht7) trivial ?_
  rintro _ _ ⟨rfl, rfl⟩
  refine SO.takeT rfl rfl rfl b3 <| vv (opv_not rfl) ?_
  cases h
  exact vv (opv_pick_f' b3 rfl rfl) <| hk2.fitc (m := 4) rfl (rfl) rfl
 clear hc5
 replace h := hgk
 refine SO.nil ?_
 rcases bool_or c4 with b8 | b8
 ·replace h := cond_t b8 h
  refine S.condT rfl b8 <| S.seq <| S.region <| ag rfl <| ag rfl <| SO.nil <| tt [(4, .int .i64 0), (5, .bool false)] rfl ?_
  cases h
  exact S.ret2 Tryz.func31 rfl rfl rfl (hR · _ _ ⟨rfl, rfl⟩)
 replace h := cond_f b8 h
 refine S.condF rfl b8 <| S.skip <| S.seq <| S.region <| mv rfl <| vv (opv_mul rfl rfl) <| mv rfl <| vv (opv_add rfl rfl) <| ag rfl <| ag rfl <| SO.nil <| tt [(4, .int .i64 (w64 ((w64 (a0 * 5)) + a1))), (5, .bool true)] rfl ?_
 cases h
 exact S.ret2 Tryz.func31 rfl rfl rfl (hR · _ _ ⟨rfl, rfl⟩)
def pack_May_1.f (a0 : Int) (a1 : Int) : Option (Bool) :=
  some ((decide (0 ≤ a0)) && (decide (a0 ≤ a1)))
set_option maxHeartbeats 8000000 in
set_option maxRecDepth 100000 in
theorem pack_May_1.ct (a0 : Int) (a1 : Int) (r0 : Bool) (h : pack_May_1.f a0 a1 = some r0) :
    Ct Tryz.prog 114 [.int .i64 a0, .int .i64 a1] (fun _ => True) [] (fun u H' => u = .bool r0 ∧ H' = []) := by
 unfold pack_May_1.f at h
 refine Ct.intro (n := 12) Tryz.func114 rfl rfl rfl ?_
 intro R w0 F hF hR
 refine S.seq <| S.region <| ag rfl <| SO.nil <| S.seq <| S.region <| mv rfl <| vv (opv_geq rfl rfl) <| mv rfl ?_
 refine SO.cut 4 11 (.bool ((decide (0 ≤ a0)) && (decide (a0 ≤ a1)))) [F] (fun l2 hk2 => ?_) ?_
 ·rcases bool_or (decide (0 ≤ a0)) with b1 | b1
  ·exact SO.takeT rfl rfl rfl b1 <| mv rfl <| SO.takeT rfl rfl rfl b1 <| mv rfl <| SO.takeT rfl rfl rfl b1 <| vv (opv_leq rfl rfl) <| vv (opv_pick_t' b1 rfl rfl) <| hk2.fitc (m := 4) rfl (and_t b1) rfl
  exact pf rfl rfl rfl b1 <| pf rfl rfl rfl b1 <| pf rfl rfl rfl b1 <| vv (opv_pick_f' b1 rfl rfl) <| hk2.fitc (m := 4) rfl (and_f b1) rfl
 refine ag rfl <| SO.nil ?_
 cases h
 exact S.ret1 Tryz.func114 rfl rfl (hR · _ _ ⟨rfl, rfl⟩)
def pack_May.f (a0 : api_Cap) : Option (Bool) :=
  bif a0.Kind == 0 then (some (decide (a0 = (⟨0, 0, 0, 0, 0, 0⟩ : api_Cap)))) else ((pack_May_1.f a0.Kind 8).bind fun t4 => (bif !t4 then (some true) else ((pack_May_1.f a0.Rights 7).bind fun t9 => some (!t9))).bind fun c7 => (bif c7 then (some true) else ((pack_May_1.f a0.Obj 31).bind fun t14 => some (!t14))).bind fun c12 => (bif c12 then (some true) else ((pack_May_1.f a0.Badge 65535).bind fun t19 => some (!t19))).bind fun c17 => (bif c17 then (some true) else ((pack_May_1.f a0.Bits 8).bind fun t24 => some (!t24))).bind fun c22 => bif c22 then (some false) else (bif ((!((a0.Kind == 3) || (a0.Kind == 4))) && (a0.Badge != 0)) || ((a0.Kind != 2) && ((a0.Bits != 0) || (a0.Guard != 0))) then (some false) else ((chk (decide (0 ≤ a0.Bits))).bind fun _ => (pack_May_1.f a0.Guard (w64 ((bshl .i64 1 a0.Bits) - 1))).bind fun t33 => some t33)))
set_option maxHeartbeats 8000000 in
set_option maxRecDepth 100000 in
theorem pack_May.ct (a0 : api_Cap) (r0 : Bool) (h : pack_May.f a0 = some r0) :
    Ct Tryz.prog 52 [.agg #[.int .i64 a0.Kind, .int .i64 a0.Rights, .int .i64 a0.Obj, .int .i64 a0.Badge, .int .i64 a0.Guard, .int .i64 a0.Bits]] (fun _ => True) [] (fun u H' => u = .bool r0 ∧ H' = []) := by
 unfold pack_May.f at h
 refine Ct.intro (n := 85) Tryz.func52 rfl rfl rfl ?_
 intro R w0 F hF hR
 refine S.seq <| S.region <| SO.box rfl rfl rfl fun b1 => ag rfl <| SO.nil <| S.seq <| S.region <| ag rfl <| SO.nil <| S.seq <| S.region <| fa Tryz.underlying45 rfl Tryz.sizeOf3 rfl rfl <| ld Tryz.isAgg3 rfl rfl <| vv (opv_eql rfl rfl) <| mv rfl ?_
 refine SO.cut 4 12 (.bool ((a0.Kind == 3) || (a0.Kind == 4))) [Box b1 [.int .i64 a0.Kind, .int .i64 a0.Rights, .int .i64 a0.Obj, .int .i64 a0.Badge, .int .i64 a0.Guard, .int .i64 a0.Bits], F] (fun l2 hk2 => ?_) ?_
 ·rcases bool_or (a0.Kind == 3) with b2 | b2
  ·exact pf rfl rfl rfl b2 <| pf rfl rfl rfl b2 <| pf rfl rfl rfl b2 <| vv (opv_pick_t' b2 rfl rfl) <| SO.b1 <| SO.b1 <| hk2.fitc (m := 4) rfl (or_t b2) rfl
  exact SO.takeT rfl rfl rfl b2 <| fa Tryz.underlying45 rfl Tryz.sizeOf3 rfl rfl <| SO.takeT rfl rfl rfl b2 <| ld Tryz.isAgg3 rfl rfl <| SO.takeT rfl rfl rfl b2 <| vv (opv_eql rfl rfl) <| vv (opv_pick_f' b2 rfl rfl) <| SO.b1 <| SO.b1 <| hk2.fitc (m := 4) rfl (or_f b2) rfl
 refine ag rfl <| SO.nil <| S.seq <| S.block <| S.seq <| S.region <| fa Tryz.underlying45 rfl Tryz.sizeOf3 rfl rfl <| ld Tryz.isAgg3 rfl rfl <| vv (opv_eql rfl rfl) <| ag rfl <| SO.nil <| tt [(1, bp b1 0), (2, .bool false), (3, .func (.func 114) #[] #[]), (4, .bool ((a0.Kind == 3) || (a0.Kind == 4))), (13, .bool (a0.Kind == 0))] rfl ?_
 rcases bool_or (a0.Kind == 0) with b3 | b3
 ·replace h := cond_t b3 h
  refine S.condT rfl b3 <| S.seq <| S.region <| SO.loadN rfl Tryz.isAgg45 Tryz.sizeOf45 rfl rfl rfl <| vv (opv_build (v := .agg #[.int .i64 0, .int .i64 0, .int .i64 0, .int .i64 0, .int .i64 0, .int .i64 0]) rfl (by intro w; kernel_rfl)) <| vv (eq_eql_api_Cap (x := a0) (y := (⟨0, 0, 0, 0, 0, 0⟩ : api_Cap)) rfl rfl) <| ag rfl <| SO.nil <| tt [(2, .bool (decide (a0 = (⟨0, 0, 0, 0, 0, 0⟩ : api_Cap))))] rfl ?_
  cases h
  exact S.drop <| S.ret1 Tryz.func52 rfl rfl (hR · _ _ ⟨rfl, rfl⟩)
 replace h := cond_f b3 h
 refine S.condF rfl b3 <| S.seq <| S.region <| mv rfl <| fa Tryz.underlying45 rfl Tryz.sizeOf3 rfl rfl <| ld Tryz.isAgg3 rfl rfl ?_
 obtain ⟨t4, ht5, h⟩ := opt_bind h
 refine SO.call (pre := []) rfl Tryz.call114 rfl rfl rfl (pack_May_1.ct _ _ _ ht5) trivial ?_
 rintro _ _ ⟨rfl, rfl⟩
 refine vv (opv_not rfl) <| mv rfl ?_
 obtain ⟨c7, hc8, hgk⟩ := opt_bind h
 refine SO.cut 6 32 (.bool c7) [Box b1 [.int .i64 a0.Kind, .int .i64 a0.Rights, .int .i64 a0.Obj, .int .i64 a0.Badge, .int .i64 a0.Guard, .int .i64 a0.Bits], F] (fun l2 hk2 => ?_) ?_
 ·clear hgk
  replace h := hc8
  rcases bool_or (!t4) with b6 | b6
  ·replace h := cond_t b6 h
   refine pf rfl rfl rfl b6 <| pf rfl rfl rfl b6 <| pf rfl rfl rfl b6 <| pf rfl rfl rfl b6 <| pf rfl rfl rfl b6 ?_
   cases h
   exact vv (opv_pick_t' b6 rfl rfl) <| SO.b1 <| SO.b1 <| hk2.fitc (m := 6) rfl (rfl) rfl
  replace h := cond_f b6 h
  refine SO.takeT rfl rfl rfl b6 <| mv rfl <| SO.takeT rfl rfl rfl b6 <| fa Tryz.underlying45 rfl Tryz.sizeOf3 rfl rfl <| SO.takeT rfl rfl rfl b6 <| ld Tryz.isAgg3 rfl rfl <| SO.takeT rfl rfl rfl b6 ?_
  obtain ⟨t9, ht10, h⟩ := opt_bind h
  refine SO.call (pre := []) rfl Tryz.call114 rfl rfl rfl (pack_May_1.ct _ _ _ ht10) trivial ?_
  rintro _ _ ⟨rfl, rfl⟩
  refine SO.takeT rfl rfl rfl b6 <| vv (opv_not rfl) ?_
  cases h
  exact vv (opv_pick_f' b6 rfl rfl) <| SO.b1 <| SO.b1 <| hk2.fitc (m := 6) rfl (rfl) rfl
 clear hc8
 replace h := hgk
 refine mv rfl ?_
 obtain ⟨c12, hc13, hgk⟩ := opt_bind h
 refine SO.cut 6 39 (.bool c12) [Box b1 [.int .i64 a0.Kind, .int .i64 a0.Rights, .int .i64 a0.Obj, .int .i64 a0.Badge, .int .i64 a0.Guard, .int .i64 a0.Bits], F] (fun l2 hk2 => ?_) ?_
 ·clear hgk
  replace h := hc13
  rcases bool_or c7 with b11 | b11
  ·replace h := cond_t b11 h
   refine pf rfl rfl rfl b11 <| pf rfl rfl rfl b11 <| pf rfl rfl rfl b11 <| pf rfl rfl rfl b11 <| pf rfl rfl rfl b11 ?_
   cases h
   exact vv (opv_pick_t' b11 rfl rfl) <| SO.b1 <| SO.b1 <| hk2.fitc (m := 6) rfl (rfl) rfl
  replace h := cond_f b11 h
  refine SO.takeT rfl rfl rfl b11 <| mv rfl <| SO.takeT rfl rfl rfl b11 <| fa Tryz.underlying45 rfl Tryz.sizeOf3 rfl rfl <| SO.takeT rfl rfl rfl b11 <| ld Tryz.isAgg3 rfl rfl <| SO.takeT rfl rfl rfl b11 ?_
  obtain ⟨t14, ht15, h⟩ := opt_bind h
  refine SO.call (pre := []) rfl Tryz.call114 rfl rfl rfl (pack_May_1.ct _ _ _ ht15) trivial ?_
  rintro _ _ ⟨rfl, rfl⟩
  refine SO.takeT rfl rfl rfl b11 <| vv (opv_not rfl) ?_
  cases h
  exact vv (opv_pick_f' b11 rfl rfl) <| SO.b1 <| SO.b1 <| hk2.fitc (m := 6) rfl (rfl) rfl
 clear hc13
 replace h := hgk
 refine mv rfl ?_
 obtain ⟨c17, hc18, hgk⟩ := opt_bind h
 refine SO.cut 6 46 (.bool c17) [Box b1 [.int .i64 a0.Kind, .int .i64 a0.Rights, .int .i64 a0.Obj, .int .i64 a0.Badge, .int .i64 a0.Guard, .int .i64 a0.Bits], F] (fun l2 hk2 => ?_) ?_
 ·clear hgk
  replace h := hc18
  rcases bool_or c12 with b16 | b16
  ·replace h := cond_t b16 h
   refine pf rfl rfl rfl b16 <| pf rfl rfl rfl b16 <| pf rfl rfl rfl b16 <| pf rfl rfl rfl b16 <| pf rfl rfl rfl b16 ?_
   cases h
   exact vv (opv_pick_t' b16 rfl rfl) <| SO.b1 <| SO.b1 <| hk2.fitc (m := 6) rfl (rfl) rfl
  replace h := cond_f b16 h
  refine SO.takeT rfl rfl rfl b16 <| mv rfl <| SO.takeT rfl rfl rfl b16 <| fa Tryz.underlying45 rfl Tryz.sizeOf3 rfl rfl <| SO.takeT rfl rfl rfl b16 <| ld Tryz.isAgg3 rfl rfl <| SO.takeT rfl rfl rfl b16 ?_
  obtain ⟨t19, ht20, h⟩ := opt_bind h
  refine SO.call (pre := []) rfl Tryz.call114 rfl rfl rfl (pack_May_1.ct _ _ _ ht20) trivial ?_
  rintro _ _ ⟨rfl, rfl⟩
  refine SO.takeT rfl rfl rfl b16 <| vv (opv_not rfl) ?_
  cases h
  exact vv (opv_pick_f' b16 rfl rfl) <| SO.b1 <| SO.b1 <| hk2.fitc (m := 6) rfl (rfl) rfl
 clear hc18
 replace h := hgk
 refine mv rfl ?_
 obtain ⟨c22, hc23, hgk⟩ := opt_bind h
 refine SO.cut 6 53 (.bool c22) [Box b1 [.int .i64 a0.Kind, .int .i64 a0.Rights, .int .i64 a0.Obj, .int .i64 a0.Badge, .int .i64 a0.Guard, .int .i64 a0.Bits], F] (fun l2 hk2 => ?_) ?_
 ·clear hgk
  replace h := hc23
  rcases bool_or c17 with b21 | b21
  ·replace h := cond_t b21 h
   refine pf rfl rfl rfl b21 <| pf rfl rfl rfl b21 <| pf rfl rfl rfl b21 <| pf rfl rfl rfl b21 <| pf rfl rfl rfl b21 ?_
   cases h
   exact vv (opv_pick_t' b21 rfl rfl) <| SO.b1 <| SO.b1 <| hk2.fitc (m := 6) rfl (rfl) rfl
  replace h := cond_f b21 h
  refine SO.takeT rfl rfl rfl b21 <| mv rfl <| SO.takeT rfl rfl rfl b21 <| fa Tryz.underlying45 rfl Tryz.sizeOf3 rfl rfl <| SO.takeT rfl rfl rfl b21 <| ld Tryz.isAgg3 rfl rfl <| SO.takeT rfl rfl rfl b21 ?_
  obtain ⟨t24, ht25, h⟩ := opt_bind h
  refine SO.call (pre := []) rfl Tryz.call114 rfl rfl rfl (pack_May_1.ct _ _ _ ht25) trivial ?_
  rintro _ _ ⟨rfl, rfl⟩
  refine SO.takeT rfl rfl rfl b21 <| vv (opv_not rfl) ?_
  cases h
  exact vv (opv_pick_f' b21 rfl rfl) <| SO.b1 <| SO.b1 <| hk2.fitc (m := 6) rfl (rfl) rfl
 clear hc23
 replace h := hgk
 refine ag rfl <| SO.nil <| tt [(1, bp b1 0), (2, .bool false), (3, .func (.func 114) #[] #[]), (4, .bool ((a0.Kind == 3) || (a0.Kind == 4))), (20, .bool c22)] rfl ?_
 rcases bool_or c22 with b26 | b26
 ·replace h := cond_t b26 h
  refine S.condT rfl b26 <| S.seq <| S.region <| ag rfl <| SO.nil ?_
  cases h
  exact S.drop <| S.ret1 Tryz.func52 rfl rfl (hR · _ _ ⟨rfl, rfl⟩)
 replace h := cond_f b26 h
 refine S.condF rfl b26 <| S.seq <| S.region <| mv rfl <| vv (opv_not rfl) <| mv rfl ?_
 refine SO.cut 4 61 (.bool ((!((a0.Kind == 3) || (a0.Kind == 4))) && (a0.Badge != 0))) [Box b1 [.int .i64 a0.Kind, .int .i64 a0.Rights, .int .i64 a0.Obj, .int .i64 a0.Badge, .int .i64 a0.Guard, .int .i64 a0.Bits], F] (fun l2 hk2 => ?_) ?_
 ·rcases bool_or (!((a0.Kind == 3) || (a0.Kind == 4))) with b27 | b27
  ·exact SO.takeT rfl rfl rfl b27 <| fa Tryz.underlying45 rfl Tryz.sizeOf3 rfl rfl <| SO.takeT rfl rfl rfl b27 <| ld Tryz.isAgg3 rfl rfl <| SO.takeT rfl rfl rfl b27 <| vv (opv_neq rfl rfl) <| vv (opv_pick_t' b27 rfl rfl) <| SO.b1 <| SO.b1 <| hk2.fitc (m := 4) rfl (and_t b27) rfl
  exact pf rfl rfl rfl b27 <| pf rfl rfl rfl b27 <| pf rfl rfl rfl b27 <| vv (opv_pick_f' b27 rfl rfl) <| SO.b1 <| SO.b1 <| hk2.fitc (m := 4) rfl (and_f b27) rfl
 refine mv rfl ?_
 refine SO.cut 14 76 (.bool (((!((a0.Kind == 3) || (a0.Kind == 4))) && (a0.Badge != 0)) || ((a0.Kind != 2) && ((a0.Bits != 0) || (a0.Guard != 0))))) [Box b1 [.int .i64 a0.Kind, .int .i64 a0.Rights, .int .i64 a0.Obj, .int .i64 a0.Badge, .int .i64 a0.Guard, .int .i64 a0.Bits], F] (fun l2 hk2 => ?_) ?_
 ·rcases bool_or ((!((a0.Kind == 3) || (a0.Kind == 4))) && (a0.Badge != 0)) with b28 | b28
  ·exact pf rfl rfl rfl b28 <| pf rfl rfl rfl b28 <| pf rfl rfl rfl b28 <| pf rfl rfl rfl b28 <| SO.pass_undef rfl rfl rfl rfl <| SO.pass_undef rfl rfl rfl rfl <| SO.pass_undef rfl rfl rfl rfl <| SO.pass_undef rfl rfl rfl rfl <| SO.pass_undef rfl rfl rfl rfl <| SO.pass_undef rfl rfl rfl rfl <| SO.pass_undef rfl rfl rfl rfl <| SO.pass_undef rfl rfl rfl rfl <| pf rfl rfl rfl b28 <| vv (opv_pick_t' b28 rfl rfl) <| SO.b1 <| SO.b1 <| hk2.fitc (m := 14) rfl (or_t b28) rfl
  refine SO.takeT rfl rfl rfl b28 <| fa Tryz.underlying45 rfl Tryz.sizeOf3 rfl rfl <| SO.takeT rfl rfl rfl b28 <| ld Tryz.isAgg3 rfl rfl <| SO.takeT rfl rfl rfl b28 <| vv (opv_neq rfl rfl) <| SO.takeT rfl rfl rfl b28 <| mv rfl ?_
  refine SO.cut 9 75 (.bool ((a0.Kind != 2) && ((a0.Bits != 0) || (a0.Guard != 0)))) [Box b1 [.int .i64 a0.Kind, .int .i64 a0.Rights, .int .i64 a0.Obj, .int .i64 a0.Badge, .int .i64 a0.Guard, .int .i64 a0.Bits], F] (fun l2 hk2 => ?_) ?_
  ·rcases bool_or (a0.Kind != 2) with b29 | b29
   ·refine SO.takeT rfl rfl rfl b29 <| fa Tryz.underlying45 rfl Tryz.sizeOf3 rfl rfl <| SO.takeT rfl rfl rfl b29 <| ld Tryz.isAgg3 rfl rfl <| SO.takeT rfl rfl rfl b29 <| vv (opv_neq rfl rfl) <| SO.takeT rfl rfl rfl b29 <| mv rfl ?_
    refine SO.cut 4 74 (.bool ((a0.Bits != 0) || (a0.Guard != 0))) [Box b1 [.int .i64 a0.Kind, .int .i64 a0.Rights, .int .i64 a0.Obj, .int .i64 a0.Badge, .int .i64 a0.Guard, .int .i64 a0.Bits], F] (fun l2 hk2 => ?_) ?_
    ·rcases bool_or (a0.Bits != 0) with b30 | b30
     ·exact pf rfl rfl rfl b30 <| pf rfl rfl rfl b30 <| pf rfl rfl rfl b30 <| SO.takeT rfl rfl rfl b29 <| vv (opv_pick_t' b30 rfl rfl) <| SO.b1 <| SO.b1 <| hk2.fitc (m := 4) rfl (or_t b30) rfl
     exact SO.takeT rfl rfl rfl b30 <| fa Tryz.underlying45 rfl Tryz.sizeOf3 rfl rfl <| SO.takeT rfl rfl rfl b30 <| ld Tryz.isAgg3 rfl rfl <| SO.takeT rfl rfl rfl b30 <| vv (opv_neq rfl rfl) <| SO.takeT rfl rfl rfl b29 <| vv (opv_pick_f' b30 rfl rfl) <| SO.b1 <| SO.b1 <| hk2.fitc (m := 4) rfl (or_f b30) rfl
    exact SO.takeT rfl rfl rfl b28 <| vv (opv_pick_t' b29 rfl rfl) <| SO.b1 <| SO.b1 <| hk2.fitc (m := 6) rfl (and_t b29) rfl
   exact pf rfl rfl rfl b29 <| pf rfl rfl rfl b29 <| pf rfl rfl rfl b29 <| pf rfl rfl rfl b29 <| SO.pass_undef rfl rfl rfl rfl <| SO.pass_undef rfl rfl rfl rfl <| SO.pass_undef rfl rfl rfl rfl <| pf rfl rfl rfl b29 <| SO.takeT rfl rfl rfl b28 <| vv (opv_pick_f' b29 rfl rfl) <| SO.b1 <| SO.b1 <| hk2.fitc (m := 9) rfl (and_f b29) rfl
  exact vv (opv_pick_f' b28 rfl rfl) <| SO.b1 <| SO.b1 <| hk2.fitc (m := 6) rfl (or_f b28) rfl
 refine ag rfl <| SO.nil <| tt [(1, bp b1 0), (2, .bool false), (3, .func (.func 114) #[] #[]), (54, .bool (((!((a0.Kind == 3) || (a0.Kind == 4))) && (a0.Badge != 0)) || ((a0.Kind != 2) && ((a0.Bits != 0) || (a0.Guard != 0)))))] rfl ?_
 rcases bool_or (((!((a0.Kind == 3) || (a0.Kind == 4))) && (a0.Badge != 0)) || ((a0.Kind != 2) && ((a0.Bits != 0) || (a0.Guard != 0)))) with b31 | b31
 ·replace h := cond_t b31 h
  refine S.condT rfl b31 <| S.seq <| S.region <| ag rfl <| SO.nil ?_
  cases h
  exact S.drop <| S.ret1 Tryz.func52 rfl rfl (hR · _ _ ⟨rfl, rfl⟩)
 replace h := cond_f b31 h
 refine S.condF rfl b31 <| S.skip <| S.inBlock <| S.seq ?_
 obtain ⟨_, hc32, h⟩ := opt_bind h
 obtain ⟨t33, ht34, h⟩ := opt_bind h
 refine S.draw2 (Y := fun Q => ∃ (_ _ _ _ : Unit), Q [(3, .func (.func 114) #[] #[]), (1, bp b1 0)] [Box b1 [.int .i64 a0.Kind, .int .i64 a0.Rights, .int .i64 a0.Obj, .int .i64 a0.Badge, .int .i64 a0.Guard, .int .i64 a0.Bits], F]) (Z := fun Q => ∀ (_ _ _ : Unit), Q [(2, .bool t33)] [Box b1 [.int .i64 a0.Kind, .int .i64 a0.Rights, .int .i64 a0.Obj, .int .i64 a0.Badge, .int .i64 a0.Guard, .int .i64 a0.Bits], F]) (T := [tS 3 (.func (.func 114) #[] #[]), tS 1 (bp b1 0), tR (Box b1 [.int .i64 a0.Kind, .int .i64 a0.Rights, .int .i64 a0.Obj, .int .i64 a0.Badge, .int .i64 a0.Guard, .int .i64 a0.Bits]), tR (F), tS 77 (.func (.func 114) #[] #[]), tS 78 (bp b1 4), tS 79 (.int .i64 a0.Guard), tS 80 (bp b1 5), tS 81 (.int .i64 a0.Bits), tS 82 (.int .i64 (bshl .i64 1 a0.Bits)), tS 83 (.int .i64 (w64 ((bshl .i64 1 a0.Bits) - 1))), tS 84 (.bool t33), tS 2 (.bool t33)]) (D := [⟨[0], [], [4]⟩, ⟨[1], [], [5]⟩, ⟨[5, 2], [], [6]⟩, ⟨[1], [], [7]⟩, ⟨[7, 2], [], [8]⟩, ⟨[8], [], [9]⟩, ⟨[9], [], [10]⟩, ⟨[4, 6, 10], [], [11]⟩, ⟨[11], [], [12]⟩]) (ini := [0, 1, 2, 3]) (fin := [12, 2, 3]) (bf := [[], [], [1], [], [3], [3, 4], [3, 4, 5], [0, 1, 2, 3, 4, 5, 6], [0, 1, 2, 3, 4, 5, 6, 7]]) (by kernel_rfl) (by kernel_rfl) (fun Q => by kernel_rfl) (fun x w h1 h2 => ⟨(), (), (), (), EnvAll.of h1 ⟨rfl, rfl, trivial⟩, h2⟩) (fun Q => by kernel_rfl) ⟨?_, ?_, ?_, ?_, ?_, ?_, ?_, ?_, ?_, trivial⟩ ?_
 ·rintro Fr _
  exact mv rfl <| nz2 rfl () () rfl
 ·rintro Fr _
  exact fa Tryz.underlying45 rfl Tryz.sizeOf3 rfl rfl <| nz2 rfl () () rfl
 ·rintro Fr _ _
  exact ld Tryz.isAgg3 rfl rfl <| nz3 rfl () () () rfl
 ·rintro Fr _
  exact fa Tryz.underlying45 rfl Tryz.sizeOf3 rfl rfl <| nz2 rfl () () rfl
 ·rintro Fr _ _
  exact ld Tryz.isAgg3 rfl rfl <| nz3 rfl () () () rfl
 ·rintro Fr _
  exact vv (opv_shl rfl rfl (of_decide_eq_true (chk_some hc32))) <| nz2 rfl () () rfl
 ·rintro Fr _
  exact vv (opv_sub rfl rfl) <| nz2 rfl () () rfl
 ·rintro Fr _ _ _
  refine SO.call (pre := []) rfl Tryz.call114 rfl rfl rfl (pack_May_1.ct _ _ _ ht34) trivial ?_
  rintro _ _ ⟨rfl, rfl⟩
  exact nz4 rfl () () () () rfl
 ·rintro Fr _
  exact ag rfl <| nz2 rfl () () rfl
 rintro _ _ _
 refine tt [(2, .bool t33)] rfl ?_
 cases h
 exact S.drop <| S.ret1 Tryz.func52 rfl rfl (hR · _ _ ⟨rfl, rfl⟩)
def pack_widths.f : Option ((List Int)) :=
  some ([4, 3, 5, 16, 4, 8])
set_option maxHeartbeats 8000000 in
set_option maxRecDepth 100000 in
theorem pack_widths.ct (r0 : List Int) (h : pack_widths.f  = some r0) :
    Ct Tryz.prog 51 [] (fun _ => True) [] (fun u H' => ∃ v_r0, u = v_r0 ∧ H' = [Own 3 (ekI .i64) v_r0 r0]) := by
 unfold pack_widths.f at h
 refine Ct.intro (n := 2) Tryz.func51 rfl rfl rfl ?_
 intro R w0 F hF hR
 refine S.seq <| S.region <| ag rfl <| SO.nil <| S.seq <| S.region <| SO.buildSlice (K := ekI .i64) (xs := [4, 3, 5, 16, 4, 8]) (cs := [.int .i64 4, .int .i64 3, .int .i64 5, .int .i64 16, .int .i64 4, .int .i64 8]) rfl Tryz.underlying43 Tryz.sizeOf3 Tryz.zeroValue3 rfl rfl rfl (by kernel_rfl) rfl rfl rfl fun v1 hr2 => ag rfl <| SO.nil ?_
 cases h
 exact S.b1 <| S.b1 <| S.ret1 Tryz.func51 rfl rfl (hR · _ _ ⟨v1, rfl, rfl⟩)
def pack_Get.l1 (t2 : List Int) : Nat → (Int × Int × (List Int)) → Option (((List Int) × Int))
  | 0, _ => none
  | k + 1, (x12_1, x5_1, x4_1) => bif decide (x12_1 < (t2.length : Int)) then ((at_ t2 x12_1).bind fun x8 => (chk (decide (0 ≤ x8))).bind fun _ => (app x4_1 ([w64 (band .u64 x5_1 (wu64 ((bshl .u64 1 x8) - 1)))])).bind fun zs13 => (chk (decide (0 ≤ x8))).bind fun _ => pack_Get.l1 t2 k (w64 (x12_1 + 1), bshr .u64 x5_1 x8, zs13)) else (some (x4_1, x5_1))
def pack_Get.f (k : Nat) (a0 : Int) : Option ((api_Cap × (Option Int))) :=
  (pack_widths.f ).bind fun t2 => (pack_Get.l1 t2 k (0, a0, [])).bind fun (j4_e1, j5_e1) => (at_ j4_e1 0).bind fun x19 => (at_ j4_e1 1).bind fun x21 => (at_ j4_e1 2).bind fun x23 => (at_ j4_e1 3).bind fun x25 => (at_ j4_e1 4).bind fun x27 => (at_ j4_e1 5).bind fun x29 => (bif j5_e1 != 0 then (some true) else ((pack_May.f (⟨x19, x21, x23, x25, x29, x27⟩ : api_Cap)).bind fun t35 => some (!t35))).bind fun c33 => bif c33 then (some ((⟨0, 0, 0, 0, 0, 0⟩ : api_Cap), (some 1))) else (some ((⟨x19, x21, x23, x25, x29, x27⟩ : api_Cap), none))
set_option maxHeartbeats 8000000 in
set_option maxRecDepth 100000 in
theorem pack_Get.ct (k : Nat) (a0 : Int) (r0 : api_Cap) (r1 : Option Int) (h : pack_Get.f k a0 = some (r0, r1)) :
    Ct Tryz.prog 32 [.int .u64 a0] (fun _ => True) [] (fun u H' => u = .tuple #[.agg #[.int .i64 r0.Kind, .int .i64 r0.Rights, .int .i64 r0.Obj, .int .i64 r0.Badge, .int .i64 r0.Guard, .int .i64 r0.Bits], errV 98 r1] ∧ H' = []) := by
 unfold pack_Get.f at h
 refine Ct.intro (n := 58) Tryz.func32 rfl rfl rfl ?_
 intro R w0 F hF hR
 refine S.seq <| S.region <| SO.alloc rfl Tryz.zeroValue45 rfl fun b1 => ag rfl <| SO.nil <| S.seq <| S.region <| ag rfl <| SO.nil <| S.seq <| S.region <| mv rfl <| ag rfl <| SO.nil <| S.seq <| S.seq <| S.region ?_
 obtain ⟨t2, ht3, h⟩ := opt_bind h
 refine SO.call (pre := []) rfl Tryz.call51 rfl rfl rfl (pack_widths.ct _ ht3) trivial ?_
 rintro v4 _ ⟨_, rfl, rfl⟩
 refine SO.rd fun hr5 => vv (opv_lenR rfl Tryz.underlying43 hr5 rfl) <| mv rfl <| SO.nil ?_
 obtain ⟨⟨j4_e1, j5_e1⟩, hlp1, h⟩ := opt_bind h
 refine S.newOwn 3 (ekI .i64) <| S.b3 <| S.b3 <| S.b3 <| S.b3 <| tt [(12, .int .i64 0), (11, .int .i64 (t2.length : Int)), (10, v4), (5, .int .u64 a0), (4, .slice none 0 0), (3, errV 98 none), (2, bp b1 0)] rfl ?_
 refine S.forloop (X := (Int × Int × (List Int)) × Value) (O := ((List Int) × Int)) (fun m x => pack_Get.l1 t2 m x.1) (fun x => match x with | ((x12_1, x5_1, x4_1), v4_1) => [(12, .int .i64 x12_1), (11, .int .i64 (t2.length : Int)), (10, v4), (5, .int .u64 x5_1), (4, v4_1), (3, errV 98 none), (2, bp b1 0)]) (fun x => match x with | ((x12_1, x5_1, x4_1), v4_1) => [Own 3 (ekI .i64) v4_1 x4_1, Own 3 (ekI .i64) v4 t2, Box b1 [.int .i64 0, .int .i64 0, .int .i64 0, .int .i64 0, .int .i64 0, .int .i64 0], F]) (fun Sk => (fun x => match x with | (j4_e1, j5_e1) => ∀ v4_e1 : Value, Sk [(2, bp b1 0), (3, errV 98 none), (4, v4_e1), (5, .int .u64 j5_e1)] [Own 3 (ekI .i64) v4_e1 j4_e1, Own 3 (ekI .i64) v4 t2, Box b1 [.int .i64 0, .int .i64 0, .int .i64 0, .int .i64 0, .int .i64 0, .int .i64 0], F])) (fun _ => rfl) ?_ (m := k) (x := ((0, a0, []), .slice none 0 0)) hlp1 ?_
 ·clear h hlp1
  intro k x o_1 h hK1 ih1
  obtain ⟨⟨x12_1, x5_1, x4_1⟩, v4_1⟩ := x
  replace h : pack_Get.l1 t2 (k + 1) (x12_1, x5_1, x4_1) = some o_1 := h
  first | rw [pack_Get.l1] at h | unfold pack_Get.l1 at h
  refine S.rd fun hr6 => S.seq <| S.region <| vv (opv_lss rfl rfl) <| SO.nil <| S.seq ?_
  rcases bool_or (decide (x12_1 < (t2.length : Int))) with b7 | b7
  ·replace h := cond_t b7 h
   refine S.condT rfl b7 <| S.skip <| S.seq <| S.block <| S.seq <| S.region ?_
   obtain ⟨x8, hx9, h⟩ := opt_bind h
   refine vv (opv_idx Tryz.underlying43 Tryz.sizeOf3 hr5 rfl rfl hx9) <| SO.loadI1 (j := 0) rfl Tryz.isAgg3 (Rd.tail (Rd.head hr5)) hx9 rfl rfl rfl rfl <| ag rfl <| SO.nil <| S.seq <| S.region <| mv rfl <| mv rfl <| mv rfl ?_
   obtain ⟨_, hc10, h⟩ := opt_bind h
   refine vv (opv_shl rfl rfl (of_decide_eq_true (chk_some hc10))) <| vv (opv_sub rfl rfl) <| vv (opv_and rfl rfl) <| vv (opv_conv Tryz.underlying55 Tryz.underlying3 rfl) <| SO.buildSlice (K := ekI .i64) (xs := [w64 (band .u64 x5_1 (wu64 ((bshl .u64 1 x8) - 1)))]) (cs := [.int .i64 (w64 (band .u64 x5_1 (wu64 ((bshl .u64 1 x8) - 1))))]) rfl Tryz.underlying43 Tryz.sizeOf3 Tryz.zeroValue3 rfl rfl rfl (by kernel_rfl) rfl rfl rfl fun v11 hr12 => ?_
   obtain ⟨zs13, hz14, h⟩ := opt_bind h
   refine SO.b1 <| SO.append rfl Tryz.underlying43 Tryz.underlying43 inf3 rfl rfl rfl (by decide) rfl rfl rfl (Rd.head hr12) hz14 fun v15 => SO.rd fun hr16 => ag rfl <| SO.nil <| tt [(12, .int .i64 x12_1), (11, .int .i64 (t2.length : Int)), (10, v4), (5, .int .u64 x5_1), (4, v15), (3, errV 98 none), (2, bp b1 0), (7, .int .i64 x8)] rfl <| S.region <| mv rfl <| mv rfl ?_
   obtain ⟨_, hc17, h⟩ := opt_bind h
   refine vv (opv_shr rfl rfl (of_decide_eq_true (chk_some hc17))) <| ag rfl <| SO.nil <| S.inBlock <| S.region <| vv (opv_add rfl rfl) <| mv rfl <| SO.nil <| S.b1 <| S.drop <| S.b3 <| S.b3 <| S.b3 <| S.b3 ?_
   refine S.to ?_ (ih1 ((w64 (x12_1 + 1), bshr .u64 x5_1 x8, zs13), v15) h)
   exact ⟨rfl, rfl, rfl, rfl, rfl, rfl, rfl, trivial⟩
  replace h := cond_f b7 h
  refine S.condF rfl b7 <| S.exit rfl ?_
  cases h
  refine S.b3 <| S.b3 <| S.b3 <| S.b3 ?_
  refine S.to ?_ (hK1 v4_1)
  exact ⟨rfl, rfl, rfl, rfl, trivial⟩
 rintro v4_e1
 refine S.rd fun hr18 => S.seq ?_
 obtain ⟨x19, hx20, h⟩ := opt_bind h
 obtain ⟨x21, hx22, h⟩ := opt_bind h
 obtain ⟨x23, hx24, h⟩ := opt_bind h
 obtain ⟨x25, hx26, h⟩ := opt_bind h
 obtain ⟨x27, hx28, h⟩ := opt_bind h
 obtain ⟨x29, hx30, h⟩ := opt_bind h
 refine S.draw2 (Y := fun Q => ∃ (_ _ _ _ _ _ : Unit), Q [(4, v4_e1), (2, bp b1 0), (3, errV 98 none), (5, .int .u64 j5_e1)] [Own 3 (ekI .i64) v4_e1 j4_e1, Own 3 (ekI .i64) v4 t2, Box b1 [.int .i64 0, .int .i64 0, .int .i64 0, .int .i64 0, .int .i64 0, .int .i64 0], F]) (Z := fun Q => ∀ (_ : Unit) (b31 : Nat) (_ _ _ _ : Unit), Q [(2, bp b1 0), (3, errV 98 none), (5, .int .u64 j5_e1), (8, bp b31 0)] [Box b31 [.int .i64 x19, .int .i64 x21, .int .i64 x23, .int .i64 x25, .int .i64 x29, .int .i64 x27], Own 3 (ekI .i64) v4_e1 j4_e1, Own 3 (ekI .i64) v4 t2, Box b1 [.int .i64 0, .int .i64 0, .int .i64 0, .int .i64 0, .int .i64 0, .int .i64 0], F]) (T := [tS 4 (v4_e1), tE [(2, bp b1 0), (3, errV 98 none), (5, .int .u64 j5_e1)], tR (Own 3 (ekI .i64) v4_e1 j4_e1), tR (Own 3 (ekI .i64) v4 t2), tR (Box b1 [.int .i64 0, .int .i64 0, .int .i64 0, .int .i64 0, .int .i64 0, .int .i64 0]), tR (F), tS 29 (v4_e1), tS 30 (idxp v4_e1 ((0 : Int).toNat * (ekI .i64).sz)), tS 31 (.int .i64 x19), tS 32 (v4_e1), tS 33 (idxp v4_e1 ((1 : Int).toNat * (ekI .i64).sz)), tS 34 (.int .i64 x21), tS 35 (v4_e1), tS 36 (idxp v4_e1 ((2 : Int).toNat * (ekI .i64).sz)), tS 37 (.int .i64 x23), tS 38 (v4_e1), tS 39 (idxp v4_e1 ((3 : Int).toNat * (ekI .i64).sz)), tS 40 (.int .i64 x25), tS 41 (v4_e1), tS 42 (idxp v4_e1 ((4 : Int).toNat * (ekI .i64).sz)), tS 43 (.int .i64 x27), tS 44 (v4_e1), tS 45 (idxp v4_e1 ((5 : Int).toNat * (ekI .i64).sz)), tS 46 (.int .i64 x29), tS 47 (.agg #[.int .i64 x19, .int .i64 x21, .int .i64 x23, .int .i64 x25, .int .i64 x29, .int .i64 x27]), ⟨Nat, [8], (fun b31 => [(8, bp b31 0)]), (fun b31 => [Box b31 [.int .i64 0, .int .i64 0, .int .i64 0, .int .i64 0, .int .i64 0, .int .i64 0]]), fun _ => rfl⟩, ⟨Nat, [8], (fun b31 => [(8, bp b31 0)]), (fun b31 => [Box b31 [.int .i64 x19, .int .i64 x21, .int .i64 x23, .int .i64 x25, .int .i64 x29, .int .i64 x27]]), fun _ => rfl⟩]) (D := [⟨[0], [], [6]⟩, ⟨[6, 2], [], [7]⟩, ⟨[7, 2], [], [8]⟩, ⟨[0], [], [9]⟩, ⟨[9, 2], [], [10]⟩, ⟨[10, 2], [], [11]⟩, ⟨[0], [], [12]⟩, ⟨[12, 2], [], [13]⟩, ⟨[13, 2], [], [14]⟩, ⟨[0], [], [15]⟩, ⟨[15, 2], [], [16]⟩, ⟨[16, 2], [], [17]⟩, ⟨[0], [], [18]⟩, ⟨[18, 2], [], [19]⟩, ⟨[19, 2], [], [20]⟩, ⟨[0], [], [21]⟩, ⟨[21, 2], [], [22]⟩, ⟨[22, 2], [], [23]⟩, ⟨[8, 11, 14, 17, 20, 23], [], [24]⟩, ⟨[], [], [25]⟩, ⟨[24], [25], [26]⟩]) (ini := [0, 1, 2, 3, 4, 5]) (fin := [1, 26, 2, 3, 4, 5]) (bf := [[], [0], [0, 1], [], [3], [3, 4], [], [6], [6, 7], [], [9], [9, 10], [], [12], [12, 13], [], [15], [15, 16], [0, 1, 2, 3, 4, 5, 6, 7, 8, 9, 10, 11, 12, 13, 14, 15, 16, 17], [], [0, 1, 2, 3, 4, 5, 6, 7, 8, 9, 10, 11, 12, 13, 14, 15, 16, 17, 18, 19]]) (by kernel_rfl) (by kernel_rfl) (fun Q => by kernel_rfl) (fun x w h1 h2 => ⟨(), (), (), (), (), (), EnvAll.of h1 ⟨rfl, rfl, rfl, rfl, trivial⟩, h2⟩) (fun Q => by kernel_rfl) ⟨?_, ?_, ?_, ?_, ?_, ?_, ?_, ?_, ?_, ?_, ?_, ?_, ?_, ?_, ?_, ?_, ?_, ?_, ?_, ?_, ?_, trivial⟩ ?_
 ·rintro Fr _
  exact mv rfl <| nz2 rfl () () rfl
 ·rintro Fr _ _
  exact vv (opv_idx Tryz.underlying43 Tryz.sizeOf3 hr18 rfl rfl hx20) <| nz3 rfl () () () rfl
 ·rintro Fr _ _
  exact SO.loadI1 (j := 0) rfl Tryz.isAgg3 (Rd.head hr18) hx20 rfl rfl rfl rfl <| nz3 rfl () () () rfl
 ·rintro Fr _
  exact mv rfl <| nz2 rfl () () rfl
 ·rintro Fr _ _
  exact vv (opv_idx Tryz.underlying43 Tryz.sizeOf3 hr18 rfl rfl hx22) <| nz3 rfl () () () rfl
 ·rintro Fr _ _
  exact SO.loadI1 (j := 0) rfl Tryz.isAgg3 (Rd.head hr18) hx22 rfl rfl rfl rfl <| nz3 rfl () () () rfl
 ·rintro Fr _
  exact mv rfl <| nz2 rfl () () rfl
 ·rintro Fr _ _
  exact vv (opv_idx Tryz.underlying43 Tryz.sizeOf3 hr18 rfl rfl hx24) <| nz3 rfl () () () rfl
 ·rintro Fr _ _
  exact SO.loadI1 (j := 0) rfl Tryz.isAgg3 (Rd.head hr18) hx24 rfl rfl rfl rfl <| nz3 rfl () () () rfl
 ·rintro Fr _
  exact mv rfl <| nz2 rfl () () rfl
 ·rintro Fr _ _
  exact vv (opv_idx Tryz.underlying43 Tryz.sizeOf3 hr18 rfl rfl hx26) <| nz3 rfl () () () rfl
 ·rintro Fr _ _
  exact SO.loadI1 (j := 0) rfl Tryz.isAgg3 (Rd.head hr18) hx26 rfl rfl rfl rfl <| nz3 rfl () () () rfl
 ·rintro Fr _
  exact mv rfl <| nz2 rfl () () rfl
 ·rintro Fr _ _
  exact vv (opv_idx Tryz.underlying43 Tryz.sizeOf3 hr18 rfl rfl hx28) <| nz3 rfl () () () rfl
 ·rintro Fr _ _
  exact SO.loadI1 (j := 0) rfl Tryz.isAgg3 (Rd.head hr18) hx28 rfl rfl rfl rfl <| nz3 rfl () () () rfl
 ·rintro Fr _
  exact mv rfl <| nz2 rfl () () rfl
 ·rintro Fr _ _
  exact vv (opv_idx Tryz.underlying43 Tryz.sizeOf3 hr18 rfl rfl hx30) <| nz3 rfl () () () rfl
 ·rintro Fr _ _
  exact SO.loadI1 (j := 0) rfl Tryz.isAgg3 (Rd.head hr18) hx30 rfl rfl rfl rfl <| nz3 rfl () () () rfl
 ·refine spec2 (X := fun Q => ∀ (_ _ _ _ _ _ : Unit), Q [(31, .int .i64 x19), (34, .int .i64 x21), (37, .int .i64 x23), (40, .int .i64 x25), (43, .int .i64 x27), (46, .int .i64 x29)] []) (fun Q => by kernel_rfl) ?_
  rintro Fr _ _ _ _ _ _
  exact vv (opv_build (v := .agg #[.int .i64 x19, .int .i64 x21, .int .i64 x23, .int .i64 x25, .int .i64 x29, .int .i64 x27]) rfl (by intro w; kernel_rfl)) <| SO.nilZ fun a w h1 h2 h3 h4 h5 => PZ.of2 (Y := fun Q => ∃ (_ _ _ _ _ _ _ : Unit), Q [(31, .int .i64 x19), (34, .int .i64 x21), (37, .int .i64 x23), (40, .int .i64 x25), (43, .int .i64 x27), (46, .int .i64 x29), (47, .agg #[.int .i64 x19, .int .i64 x21, .int .i64 x23, .int .i64 x25, .int .i64 x29, .int .i64 x27])] []) (fun Q => by kernel_rfl) h1 h3 h5 ⟨(), (), (), (), (), (), (), EnvAll.of h2 ⟨rfl, rfl, rfl, rfl, rfl, rfl, rfl, trivial⟩, h4⟩
 ·rintro Fr
  exact SO.alloc rfl Tryz.zeroValue45 rfl fun b31 => SO.nilZ fun a w h1 h2 h3 h4 h5 => PZ.of h1 h3 h5 (.cons b31 (.nil ⟨EnvAll.of h2 ⟨rfl, trivial⟩, h4⟩))
 ·rintro Fr _ b31
  exact SO.storeN Tryz.sizeOf45 rfl rfl rfl rfl rfl rfl <| SO.nilZ fun a w h1 h2 h3 h4 h5 => PZ.of h1 h3 h5 (.cons () (.cons b31 (.nil ⟨EnvAll.of h2 ⟨rfl, rfl, trivial⟩, h4⟩)))
 rintro _ b31 _ _ _ _
 refine tt [(2, bp b1 0), (3, errV 98 none), (5, .int .u64 j5_e1), (8, bp b31 0)] rfl <| S.seq <| S.seq <| S.region <| mv rfl <| vv (opv_neq rfl rfl) <| mv rfl ?_
 obtain ⟨c33, hc34, hgk⟩ := opt_bind h
 refine SO.cut 4 54 (.bool c33) [Box b31 [.int .i64 x19, .int .i64 x21, .int .i64 x23, .int .i64 x25, .int .i64 x29, .int .i64 x27], Own 3 (ekI .i64) v4_e1 j4_e1, Own 3 (ekI .i64) v4 t2, Box b1 [.int .i64 0, .int .i64 0, .int .i64 0, .int .i64 0, .int .i64 0, .int .i64 0], F] (fun l2 hk2 => ?_) ?_
 ·clear hgk
  replace h := hc34
  rcases bool_or (j5_e1 != 0) with b32 | b32
  ·replace h := cond_t b32 h
   refine pf rfl rfl rfl b32 <| pf rfl rfl rfl b32 <| pf rfl rfl rfl b32 ?_
   cases h
   exact vv (opv_pick_t' b32 rfl rfl) <| SO.b4 <| SO.b4 <| SO.b4 <| SO.b4 <| SO.b4 <| hk2.fitc (m := 4) rfl (rfl) rfl
  replace h := cond_f b32 h
  refine SO.takeT rfl rfl rfl b32 <| SO.loadN rfl Tryz.isAgg45 Tryz.sizeOf45 rfl rfl rfl <| SO.takeT rfl rfl rfl b32 ?_
  obtain ⟨t35, ht36, h⟩ := opt_bind h
  have ct37 := pack_May.ct _ _ ht36
  try dsimp only at ct37
  refine SO.call (pre := []) rfl Tryz.call52 rfl rfl rfl ct37 trivial ?_
  rintro _ _ ⟨rfl, rfl⟩
  refine SO.takeT rfl rfl rfl b32 <| vv (opv_not rfl) ?_
  cases h
  exact vv (opv_pick_f' b32 rfl rfl) <| SO.b4 <| SO.b4 <| SO.b4 <| SO.b4 <| SO.b4 <| hk2.fitc (m := 4) rfl (rfl) rfl
 clear hc34
 replace h := hgk
 refine SO.nil ?_
 rcases bool_or c33 with b38 | b38
 ·replace h := cond_t b38 h
  refine S.condT rfl b38 <| S.seq <| S.region <| vv (opv_build (v := .agg #[.int .i64 0, .int .i64 0, .int .i64 0, .int .i64 0, .int .i64 0, .int .i64 0]) rfl (by intro w; kernel_rfl)) <| vv (opv_iface Tryz.underlying98 rfl rfl) <| SO.b3 <| SO.storeN Tryz.sizeOf45 rfl rfl rfl rfl rfl rfl <| ag rfl <| SO.nil <| tt [(2, bp b1 0), (3, errV 98 (some 1))] rfl ?_
  cases h
  exact S.b1 <| S.drop <| S.b1 <| S.drop <| S.b1 <| S.drop <| S.b1 <| S.b1 <| S.retC1 Tryz.func32 rfl rfl rfl Tryz.isAgg45 Tryz.sizeOf45 rfl rfl (fun w hs hk => hR w _ _ ⟨rfl, rfl⟩ hs.drop hk)
 replace h := cond_f b38 h
 refine S.condF rfl b38 <| S.skip <| S.seq <| S.region <| SO.loadN rfl Tryz.isAgg45 Tryz.sizeOf45 rfl rfl rfl <| SO.b3 <| SO.storeN Tryz.sizeOf45 rfl rfl rfl rfl rfl rfl <| ag rfl <| SO.nil <| tt [(2, bp b1 0), (3, errV 98 none)] rfl ?_
 cases h
 exact S.b1 <| S.drop <| S.b1 <| S.drop <| S.b1 <| S.drop <| S.b1 <| S.b1 <| S.retC1 Tryz.func32 rfl rfl rfl Tryz.isAgg45 Tryz.sizeOf45 rfl rfl (fun w hs hk => hR w _ _ ⟨rfl, rfl⟩ hs.drop hk)
def cspace_Cap.f (k : Nat) (a1 : Int) : VM (api_Cap) :=
  (VM.opt (lay_Slot.f a1 0)).bind fun (t2, t3) => bif !t3 then (VM.ret (⟨0, 0, 0, 0, 0, 0⟩ : api_Cap)) else (VM.rd t2 fun t6 => (VM.opt (pack_Get.f k t6)).bind fun (t9, t10) => bif t10.isSome then (VM.ret (⟨0, 0, 0, 0, 0, 0⟩ : api_Cap)) else (VM.ret t9))
set_option maxHeartbeats 8000000 in
set_option maxRecDepth 100000 in
theorem cspace_Cap.ct (V : VW Tryz.prog) (k : Nat) (a1 : Int) (r0 : api_Cap) (s s' : V.S) (h : VM.run V.toVI (cspace_Cap.f k a1) s = some (r0, s')) :
    Ct Tryz.prog 14 [V.val, .int .i64 a1] (fun _ => True) [V.rep s] (fun u H' => u = .agg #[.int .i64 r0.Kind, .int .i64 r0.Rights, .int .i64 r0.Obj, .int .i64 r0.Badge, .int .i64 r0.Guard, .int .i64 r0.Bits] ∧ H' = [V.rep s']) := by
 unfold cspace_Cap.f at h
 refine Ct.intro (n := 28) Tryz.func14 rfl rfl rfl ?_
 intro R w0 F hF hR
 refine S.seq <| S.region <| SO.alloc rfl Tryz.zeroValue45 rfl fun b1 => SO.nil <| S.seq <| S.region <| mv rfl ?_
 obtain ⟨⟨t2, t3⟩, ht4, h⟩ := VM.opt_some V.toVI h
 refine SO.call (pre := []) rfl Tryz.call31 rfl rfl rfl (lay_Slot.ct _ _ _ _ ht4) trivial ?_
 rintro _ _ ⟨rfl, rfl⟩
 refine mv rfl <| vv (opv_extract rfl rfl) <| vv (opv_extract rfl rfl) <| ag rfl <| ag rfl <| SO.nil <| S.seq <| S.seq <| S.region <| mv rfl <| vv (opv_not rfl) <| SO.nil <| tt [(0, V.val), (4, bp b1 0), (5, .int .i64 t2), (15, .bool (!t3))] rfl ?_
 rcases bool_or (!t3) with b5 | b5
 ·replace h := VM.cond_t V.toVI b5 h
  refine S.condT rfl b5 <| S.seq <| S.region <| vv (opv_build (v := .agg #[.int .i64 0, .int .i64 0, .int .i64 0, .int .i64 0, .int .i64 0, .int .i64 0]) rfl (by intro w; kernel_rfl)) <| SO.storeN Tryz.sizeOf45 rfl rfl rfl rfl rfl rfl <| SO.nil ?_
  obtain ⟨hq, rfl⟩ := VM.ret_some V.toVI h
  cases hq
  exact S.b2 <| S.b2 <| S.b2 <| S.retC Tryz.func14 rfl rfl Tryz.isAgg45 Tryz.sizeOf45 rfl rfl (fun w hs hk => hR w _ _ ⟨rfl, rfl⟩ hs.drop hk)
 replace h := VM.cond_f V.toVI b5 h
 refine S.condF rfl b5 <| S.skip <| S.seq <| S.region <| mv rfl <| mv rfl ?_
 obtain ⟨t6, s7, hv8, h⟩ := VM.rd_some V.toVI h
 refine SO.b1 <| SO.vread' V rfl rfl rfl hv8 ?_
 obtain ⟨⟨t9, t10⟩, ht11, h⟩ := VM.opt_some V.toVI h
 refine SO.call (pre := []) rfl Tryz.call32 rfl rfl rfl (pack_Get.ct _ _ _ _ ht11) trivial ?_
 rintro _ _ ⟨rfl, rfl⟩
 refine mv rfl <| vv (opv_extract rfl rfl) <| vv (opv_extract rfl rfl) <| SO.alloc rfl Tryz.zeroValue45 rfl fun b12 => SO.storeN Tryz.sizeOf45 rfl rfl rfl rfl rfl rfl <| ag rfl <| SO.nil <| tt [(4, bp b1 0), (7, bp b12 0), (8, errV 98 t10)] rfl <| S.seq <| S.seq <| S.region <| mv rfl <| vv (opv_neqN (e := t10) Tryz.underlying74 rfl) <| SO.nil ?_
 rcases bool_or t10.isSome with b13 | b13
 ·replace h := VM.cond_t V.toVI b13 h
  refine S.condT rfl b13 <| S.seq <| S.region <| vv (opv_build (v := .agg #[.int .i64 0, .int .i64 0, .int .i64 0, .int .i64 0, .int .i64 0, .int .i64 0]) rfl (by intro w; kernel_rfl)) <| SO.b2 <| SO.storeN Tryz.sizeOf45 rfl rfl rfl rfl rfl rfl <| SO.nil ?_
  obtain ⟨hq, rfl⟩ := VM.ret_some V.toVI h
  cases hq
  exact S.b1 <| S.drop <| S.b2 <| S.b2 <| S.b2 <| S.retC Tryz.func14 rfl rfl Tryz.isAgg45 Tryz.sizeOf45 rfl rfl (fun w hs hk => hR w _ _ ⟨rfl, rfl⟩ hs.drop hk)
 replace h := VM.cond_f V.toVI b13 h
 refine S.condF rfl b13 <| S.skip <| S.seq <| S.region <| SO.loadN rfl Tryz.isAgg45 Tryz.sizeOf45 rfl rfl rfl <| SO.b2 <| SO.storeN Tryz.sizeOf45 rfl rfl rfl rfl rfl rfl <| SO.nil ?_
 obtain ⟨hq, rfl⟩ := VM.ret_some V.toVI h
 cases hq
 exact S.b1 <| S.drop <| S.b2 <| S.b2 <| S.b2 <| S.retC Tryz.func14 rfl rfl Tryz.isAgg45 Tryz.sizeOf45 rfl rfl (fun w hs hk => hR w _ _ ⟨rfl, rfl⟩ hs.drop hk)
abbrev draftI (V : VI) : VI := ⟨V.S × List (Int × Int), fun s i => match mfind s.2 i with | some x => (x, s) | none => ((V.rd s.1 i).1, ((V.rd s.1 i).2, s.2)), fun s i x => (s.1, mset s.2 i x)⟩
set_option maxRecDepth 100000 in
set_option maxHeartbeats 8000000 in
theorem invoke_draft_Read.ct (V : VW Tryz.prog) (b : Nat) (s : V.S) (o : List (Int × Int)) (i : Int) : Ct Tryz.prog 234 [.agg #[V.val, .map (some b)], .int .i64 i] (fun _ => True) [V.rep s, MapL (.int .u64) b o]
    (fun u H' => u = .int .u64 ((draftI V.toVI).rd (s, o) i).1 ∧ H' = [V.rep ((draftI V.toVI).rd (s, o) i).2.1, MapL (.int .u64) b ((draftI V.toVI).rd (s, o) i).2.2]) := by
 refine Ct.intro (n := 20) Tryz.func234 rfl rfl rfl ?_
 intro R w0 F hF hR
 repeat refine S.seq ?_
 refine S.region <| SO.box rfl rfl rfl fun b1 => ag rfl <| SO.nil ?_
 repeat refine S.seq ?_
 refine S.region <| fa Tryz.underlying69 rfl Tryz.sizeOf67 rfl rfl <| ld Tryz.isAgg67 rfl rfl <| mv rfl <| SO.b2 <| SO.lookupOkL (enc := Value.int .u64) (z := .int .u64 0) rfl Tryz.underlying67 Tryz.underlying3 Tryz.zeroValue55 rfl rfl <| mv rfl <| vv (opv_extract rfl rfl) <| vv (opv_extract rfl rfl) <| ag rfl <| ag rfl <| SO.nil ?_
 repeat refine S.seq ?_
 refine S.region <| mv rfl <| SO.nil ?_
 cases hf : mfind o i with
 | some x =>
  have e : (draftI V.toVI).rd (s, o) i = (x, (s, o)) := by show (match mfind o i with | some x => (x, (s, o)) | none => _) = _; rw [hf]
  rw [e] at hR
  refine S.condT rfl rfl ?_
  repeat refine S.seq ?_
  exact S.region <| mv rfl <| ag rfl <| SO.nil <| S.b1 <| S.drop <| S.b1 <| S.ret1 Tryz.func234 rfl rfl (hR · _ _ ⟨rfl, rfl⟩)
 | none =>
  have e : (draftI V.toVI).rd (s, o) i = ((V.rd s i).1, ((V.rd s i).2, o)) := by show (match mfind o i with | some x => (x, (s, o)) | none => _) = _; rw [hf]
  rw [e] at hR
  refine S.condF rfl rfl <| S.skip ?_
  repeat refine S.seq ?_
  exact S.region <| SO.b1 <| fa Tryz.underlying69 rfl Tryz.sizeOf65 rfl rfl <| ld Tryz.isAgg65 rfl rfl <| mv rfl <| SO.b2 <| SO.vread V rfl rfl rfl <| ag rfl <| SO.nil <| S.b1 <| S.drop <| S.ret1 Tryz.func234 rfl rfl (hR · _ _ ⟨rfl, rfl⟩)
set_option maxRecDepth 100000 in
set_option maxHeartbeats 8000000 in
theorem invoke_draft_Write.ct (V : VW Tryz.prog) (b : Nat) (s : V.S) (o : List (Int × Int)) (i x : Int) : Ct Tryz.prog 235 [.agg #[V.val, .map (some b)], .int .i64 i, .int .u64 x] (fun _ => True) [V.rep s, MapL (.int .u64) b o]
    (fun u H' => u = .tuple #[] ∧ H' = [V.rep s, MapL (.int .u64) b (mset o i x)]) := by
 refine Ct.intro (n := 10) Tryz.func235 rfl rfl rfl ?_
 intro R w0 F hF hR
 repeat refine S.seq ?_
 refine S.region <| SO.box rfl rfl rfl fun b1 => SO.nil ?_
 repeat refine S.seq ?_
 exact S.region <| fa Tryz.underlying69 rfl Tryz.sizeOf67 rfl rfl <| ld Tryz.isAgg67 rfl rfl <| mv rfl <| mv rfl <| SO.b2 <| SO.mapUpdateL (enc := Value.int .u64) Tryz.underlying67 Tryz.underlying3 rfl rfl rfl <| SO.nil <| S.b1 <| S.drop <| S.b1 <| S.fin0 Tryz.func235 rfl (hR · _ _ ⟨rfl, rfl⟩)
end Go.Proofs
namespace Go.Proofs
open Go.RowKit Go.Extern.Stop Go.Stop Go.Extern
theorem As.nil (t : Value) (w : World) : Calls Tryz.prog 40 #[.nilIface, t] w fun e w' => e = .returned (.bool false) ∧ w' = w := by
  go_enter Tryz.func40, Tryz.ntmps40
  go_wp2
  go_ret
  exact ⟨rfl, rfl⟩
theorem As.valueOfP (t : Addr) (w : World) : (ReflectliteValue.unpack (.iface 100 (.pointer (some t)))).run Tryz.prog w
    = .ok (.agg #[.pointer (some ⟨1, 100, none⟩), .pointer (some ⟨w.heap.size, 0, none⟩), .int .u64 150]) (w.alloc (.cells #[.pointer (some t)] 100)) := by kernel_rfl
theorem As.typeP (a : Addr) (w : World) : (ReflectliteValue.methodAny (ReflectliteValue.valueError "reflectlite.Value.Type" 0) (fun t _ _ _ => ReflectliteType.toType t) #[.agg #[.pointer (some ⟨1, 100, none⟩), .pointer (some a), .int .u64 150]]).run Tryz.prog w
    = .ok (.iface 178 (.agg #[.pointer (some ⟨1, 100, none⟩)])) w := by kernel_rfl
theorem As.methodKind (h : Value) (w : World) : (Go.method 354 178 (.agg #[h]) "Kind").run Tryz.prog w = .ok (228, h) w := by kernel_rfl
theorem As.kindP (w : World) : ((ReflectliteType.abiMethod fun t => (fun a : Nat => Value.int IntKind.u8 (a : Int)) <$> Rtype.kind t) #[.pointer (some ⟨1, 100, none⟩)]).run Tryz.prog w = .ok (.int .u8 22) w := by kernel_rfl
theorem As.kindC (w : World) : ((ReflectliteType.abiMethod fun t => (fun a : Nat => Value.int IntKind.u8 (a : Int)) <$> Rtype.kind t) #[.pointer (some ⟨1, 98, none⟩)]).run Tryz.prog w = .ok (.int .u8 2) w := by kernel_rfl
theorem As.rlm (z : Sem Value) (f : TypeId → Addr → Nat → Nat → Sem Value) (v : Value) :
    ReflectliteValue.method z f #[v] = (do match ← ReflectliteValue.parts v with | none => z | some (t, a, fl) => f t a fl (fl % 32)) := rfl
theorem As.partsP (a : Addr) (w : World) : (ReflectliteValue.parts (.agg #[.pointer (some ⟨1, 100, none⟩), .pointer (some a), .int .u64 150])).run Tryz.prog w = .ok (some (100, a, 150)) w := by kernel_rfl
theorem As.isNilP (a p : Addr) (W : World) (ha : W.cell? a = some (.pointer (some p))) :
    (ReflectliteValue.method (ReflectliteValue.valueError "reflectlite.Value.IsNil" 0) ReflectliteValue.isNil #[.agg #[.pointer (some ⟨1, 100, none⟩), .pointer (some a), .int .u64 150]]).run Tryz.prog W = .ok (.bool false) W := by
 rw [As.rlm]
 simp only [Sem.run_bind, As.partsP, Result.andThen]
 simp [ReflectliteValue.isNil, loadVar, isAgg, underlying, Tryz.underlying100, ha, Result.andThen]
theorem As.methodElem (h : Value) (w : World) : (Go.method 354 178 (.agg #[h]) "Elem").run Tryz.prog w = .ok (243, .agg #[h]) w := by kernel_rfl
theorem As.methodImplements (h : Value) (w : World) : (Go.method 354 178 (.agg #[h]) "Implements").run Tryz.prog w = .ok (244, .agg #[h]) w := by kernel_rfl
theorem As.methodAssignableTo (h : Value) (w : World) : (Go.method 354 178 (.agg #[h]) "AssignableTo").run Tryz.prog w = .ok (241, .agg #[h]) w := by kernel_rfl
theorem As.elemP (w : World) : (ReflectliteType.method ReflectliteType.elem #[.agg #[.pointer (some ⟨1, 100, none⟩)]]).run Tryz.prog w = .ok (.iface 178 (.agg #[.pointer (some ⟨1, 98, none⟩)])) w := by kernel_rfl
theorem As.implementsC (w : World) : (ReflectliteType.relation "Implements" ReflectliteType.implements_ #[.agg #[.pointer (some ⟨1, 98, none⟩)], .iface 178 (.agg #[.pointer (some ⟨1, 74, none⟩)])]).run Tryz.prog w = .ok (.bool true) w := by kernel_rfl
theorem As.typeOfC (v : Value) (w : World) : (ReflectliteType.typeOf #[.iface 98 v]).run Tryz.prog w = .ok (.iface 178 (.agg #[.pointer (some ⟨1, 98, none⟩)])) w := by kernel_rfl
theorem As.assignableC (w : World) : (ReflectliteType.relation "AssignableTo" ReflectliteType.assignableTo #[.agg #[.pointer (some ⟨1, 98, none⟩)], .iface 178 (.agg #[.pointer (some ⟨1, 98, none⟩)])]).run Tryz.prog w = .ok (.bool true) w := by kernel_rfl
theorem As.valueOfC (c : Int) (w : World) : (ReflectliteValue.unpack (.iface 98 (.int .i64 c))).run Tryz.prog w
    = .ok (.agg #[.pointer (some ⟨1, 98, none⟩), .pointer (some ⟨w.heap.size, 0, none⟩), .int .u64 130]) (w.alloc (.cells #[.int .i64 c] 98)) := by kernel_rfl
theorem As.elemOfP (w : World) : (Rtype.elem? 100).run Tryz.prog w = .ok (some 98) w := by kernel_rfl
theorem As.mkC (p : Addr) (w : World) : (ReflectliteValue.mk 98 p ReflectliteValue.flagAddr).run Tryz.prog w = .ok (.agg #[.pointer (some ⟨1, 98, none⟩), .pointer (some p), .int .u64 386]) w := by kernel_rfl
theorem As.elemVP (a p : Addr) (W : World) (ha : W.cell? a = some (.pointer (some p))) :
    (ReflectliteValue.method (ReflectliteValue.valueError "reflectlite.Value.Elem" 0) ReflectliteValue.elem #[.agg #[.pointer (some ⟨1, 100, none⟩), .pointer (some a), .int .u64 150]]).run Tryz.prog W
      = .ok (.agg #[.pointer (some ⟨1, 98, none⟩), .pointer (some p), .int .u64 386]) W := by
 rw [As.rlm]
 simp only [Sem.run_bind, As.partsP, Result.andThen]
 simp [ReflectliteValue.elem, loadVar, isAgg, underlying, Tryz.underlying100, ha, Result.andThen, As.elemOfP, As.mkC]
theorem As.rls (v x : Value) : ReflectliteValue.set #[v, x] = (do
    let (some (dst, a, fl), some (src, b, _)) := (← ReflectliteValue.parts v, ← ReflectliteValue.parts x)
      | unsupported (.noEntry "extern/(internal/reflectlite.Value).Set.zeroValue")
    if fl / ReflectliteValue.flagAddr % 2 == 0 then unsupported (.noEntry "extern/(internal/reflectlite.Value).Set.unaddressable")
    let val ← loadVar src b
    if ← Rtype.directlyAssignable dst src then storeVar dst a val
    else if ← Rtype.implements dst src then
      if (← Rtype.kind src) == 20 then
        match val with
        | .nilIface => unsupported (.noEntry "extern/reflectlite: a nil value of one interface type handed on as a value of another")
        | _ => storeVar dst a val
      else storeVar dst a (.iface src val)
    else panicString ("reflectlite.Set: value of type " ++ (← Rtype.spelt src) ++ " is not assignable to type " ++ (← Rtype.spelt dst))
    pure (.tuple #[])) := rfl
theorem As.partsCa (a : Addr) (w : World) : (ReflectliteValue.parts (.agg #[.pointer (some ⟨1, 98, none⟩), .pointer (some a), .int .u64 386])).run Tryz.prog w = .ok (some (98, a, 386)) w := by kernel_rfl
theorem As.partsC (a : Addr) (w : World) : (ReflectliteValue.parts (.agg #[.pointer (some ⟨1, 98, none⟩), .pointer (some a), .int .u64 130])).run Tryz.prog w = .ok (some (98, a, 130)) w := by kernel_rfl
theorem As.directC (w : World) : (Rtype.directlyAssignable 98 98).run Tryz.prog w = .ok true w := by kernel_rfl
theorem As.setC (ta b : Addr) (c : Int) (old : Value) (W : World) (hb : W.cell? b = some (.int .i64 c)) (ht : W.cell? ta = some old) (hf : W.frozen? ta = false) :
    (ReflectliteValue.set #[.agg #[.pointer (some ⟨1, 98, none⟩), .pointer (some ta), .int .u64 386], .agg #[.pointer (some ⟨1, 98, none⟩), .pointer (some b), .int .u64 130]]).run Tryz.prog W
      = .ok (.tuple #[]) (W.setCell ta (.int .i64 c)) := by
 rw [As.rls]
 simp only [Sem.run_bind, As.partsCa, As.partsC, Result.andThen]
 simp [ReflectliteValue.flagAddr, loadVar, isAgg, underlying, Tryz.underlying98, hb, Result.andThen, As.directC, storeVar, Value.cells, storeCells, Addr.add]
 rw [run_store Tryz.prog W ta _ _ (by rfl)]
 simp [ht, hf]
set_option maxHeartbeats 4000000 in
theorem As.hit (c : Int) (t : Addr) (old : Value) (w : World) (hg : w.cell? ⟨0, 0, none⟩ = some (.iface 178 (.agg #[.pointer (some ⟨1, 74, none⟩)]))) (ht0 : w.cell? t = some old) (hf0 : w.frozen? t = false) :
    Calls Tryz.prog 40 #[.iface 98 (.int .i64 c), .iface 100 (.pointer (some t))] w fun ev w' => ev = .returned (.bool true) ∧ w' = ((((w.alloc (.cells #[.pointer (some t)] 100)).alloc (.cells #[.pointer (some ⟨1, 100, none⟩), .pointer (some ⟨w.heap.size, 0, none⟩), .int .u64 150] 132)).alloc (.cells #[.pointer (some ⟨1, 100, none⟩), .pointer (some ⟨w.heap.size, 0, none⟩), .int .u64 150] 132)).alloc (.cells #[.int .i64 c] 98)).setCell t (.int .i64 c) := by
 have h6 := @run_callFunc_extern Tryz.prog 82 _ (fun args => ReflectliteValue.unpack (args.getD 0 (.tuple #[]))) Tryz.func82 (by kernel_rfl) (by kernel_rfl) (by kernel_rfl) (by kernel_rfl)
 have h7 := @run_callFunc_extern Tryz.prog 83 _ (ReflectliteValue.methodAny (ReflectliteValue.valueError "reflectlite.Value.Type" 0) (fun t _ _ _ => ReflectliteType.toType t)) Tryz.func83 (by kernel_rfl) (by kernel_rfl) (by kernel_rfl) (by kernel_rfl)
 have h8 := @run_callFunc_extern Tryz.prog 84 _ (ReflectliteValue.method (ReflectliteValue.valueError "reflectlite.Value.IsNil" 0) ReflectliteValue.isNil) Tryz.func84 (by kernel_rfl) (by kernel_rfl) (by kernel_rfl) (by kernel_rfl)
 have h27 := @run_callFunc_extern Tryz.prog 228 _ (ReflectliteType.abiMethod fun t => do pure (.int .u8 (← Rtype.kind t))) Tryz.func228 (by kernel_rfl) (by kernel_rfl) (by kernel_rfl) (by kernel_rfl)
 have h37 := @run_callFunc_extern Tryz.prog 243 _ (ReflectliteType.method ReflectliteType.elem) Tryz.func243 (by kernel_rfl) (by kernel_rfl) (by kernel_rfl) (by kernel_rfl)
 have h38 := @run_callFunc_extern Tryz.prog 244 _ (ReflectliteType.relation "Implements" ReflectliteType.implements_) Tryz.func244 (by kernel_rfl) (by kernel_rfl) (by kernel_rfl) (by kernel_rfl)
 have h10 := @run_callFunc_extern Tryz.prog 144 _ ReflectliteType.typeOf Tryz.func144 (by kernel_rfl) (by kernel_rfl) (by kernel_rfl) (by kernel_rfl)
 have h35 := @run_callFunc_extern Tryz.prog 241 _ (ReflectliteType.relation "AssignableTo" ReflectliteType.assignableTo) Tryz.func241 (by kernel_rfl) (by kernel_rfl) (by kernel_rfl) (by kernel_rfl)
 have h11 := @run_callFunc_extern Tryz.prog 145 _ (ReflectliteValue.method (ReflectliteValue.valueError "reflectlite.Value.Elem" 0) ReflectliteValue.elem) Tryz.func145 (by kernel_rfl) (by kernel_rfl) (by kernel_rfl) (by kernel_rfl)
 have h12 := @run_callFunc_extern Tryz.prog 146 _ ReflectliteValue.set Tryz.func146 (by kernel_rfl) (by kernel_rfl) (by kernel_rfl) (by kernel_rfl)
 have tO := As.typeOfC
 have mA := As.methodAssignableTo
 have a25 := As.assignableC
 have v25 := As.valueOfC
 have f6 := As.valueOfP
 have f7 := As.typeP
 have mK := As.methodKind
 have mE := As.methodElem
 have mI := As.methodImplements
 have k27 := As.kindP
 have k25 := As.kindC
 have e27 := As.elemP
 have i25 := As.implementsC
 have n8 := As.isNilP ⟨w.heap.size, 0, none⟩ t ((w.alloc (.cells #[.pointer (some t)] 100)).alloc (.cells #[.pointer (some ⟨1, 100, none⟩), .pointer (some ⟨w.heap.size, 0, none⟩), .int .u64 150] 132)) (by simp)
 have hlt : 0 < w.heap.size := by
  rcases Nat.eq_zero_or_pos w.heap.size with h0 | h
  ·simp [World.cell?, h0] at hg
  ·exact h
 have hg2 : ((w.alloc (.cells #[.pointer (some t)] 100)).alloc (.cells #[.pointer (some ⟨1, 100, none⟩), .pointer (some ⟨w.heap.size, 0, none⟩), .int .u64 150] 132)).cell? ⟨0, 0, none⟩ = some (.iface 178 (.agg #[.pointer (some ⟨1, 74, none⟩)])) := by
  rw [World.cell?_alloc_lt _ _ ⟨0, 0, none⟩ (by simp), World.cell?_alloc_lt _ _ ⟨0, 0, none⟩ hlt]; exact hg
 have htl : t.block < w.heap.size := by
  rcases Nat.lt_or_ge t.block w.heap.size with h | h
  ·exact h
  ·simp [World.cell?, Array.getElem?_eq_none h] at ht0
 have el := As.elemVP ⟨w.heap.size, 0, none⟩ t (((w.alloc (.cells #[.pointer (some t)] 100)).alloc (.cells #[.pointer (some ⟨1, 100, none⟩), .pointer (some ⟨w.heap.size, 0, none⟩), .int .u64 150] 132)).alloc (.cells #[.pointer (some ⟨1, 100, none⟩), .pointer (some ⟨w.heap.size, 0, none⟩), .int .u64 150] 132)) (by rw [World.cell?_alloc_lt _ _ ⟨w.heap.size, 0, none⟩ (by simp; omega)]; simp)
 have st := As.setC t ⟨w.heap.size + 1 + 1 + 1, 0, none⟩ c old ((((w.alloc (.cells #[.pointer (some t)] 100)).alloc (.cells #[.pointer (some ⟨1, 100, none⟩), .pointer (some ⟨w.heap.size, 0, none⟩), .int .u64 150] 132)).alloc (.cells #[.pointer (some ⟨1, 100, none⟩), .pointer (some ⟨w.heap.size, 0, none⟩), .int .u64 150] 132)).alloc (.cells #[.int .i64 c] 98))
  (by rw [World.cell?_alloc_at _ _ _ _ (by simp)]; rfl)
  (by rw [World.cell?_alloc_lt _ _ t (by simp; omega), World.cell?_alloc_lt _ _ t (by simp; omega), World.cell?_alloc_lt _ _ t (by simp; omega), World.cell?_alloc_lt _ _ t htl]; exact ht0)
  (by rw [World.frozen?_alloc_old _ _ t (by simp; omega), World.frozen?_alloc_old _ _ t (by simp; omega), World.frozen?_alloc_old _ _ t (by simp; omega), World.frozen?_alloc_old _ _ t (Nat.ne_of_lt htl)]; exact hf0)
 go_enter Tryz.func40, Tryz.ntmps40
 go_wp2
 refine wp_loop_rounds 1 ?_
 rw [rounds_succ]
 go_wp2
 go_ret
 exact ⟨rfl, rfl⟩
end Go.Proofs
namespace Go.Proofs
open Go.Sl Go.RowKit
def RdG (F : HProp) : Prop := ∀ m, F m → ∃ c E fr, m 0 = some (.cells c E fr) ∧ c[0]? = some (.iface 178 (.agg #[.pointer (some ⟨1, 74, none⟩)]))
theorem RdG.tail {A : HProp} {l : List HProp} (h : RdG (stars l)) : RdG (stars (A :: l)) := fun m ⟨m1, m2, d, s1, s2, hA, hB⟩ => by
  obtain ⟨c, E, fr, h1, h2⟩ := h m2 hB
  exact ⟨c, E, fr, s2 _ _ h1, h2⟩
theorem RdG.head {F : HProp} {l : List HProp} (h : RdG F) : RdG (stars (F :: l)) := fun m ⟨m1, m2, d, s1, s2, hA, hB⟩ => by
  obtain ⟨c, E, fr, h1, h2⟩ := h m1 hA
  exact ⟨c, E, fr, s1 _ _ h1, h2⟩
theorem RdG.one {F : HProp} (h : RdG F) : RdG (stars [F]) := fun m ⟨m1, m2, d, s1, s2, hA, hB⟩ => by
  obtain ⟨c, E, fr, h1, h2⟩ := h m1 hA
  exact ⟨c, E, fr, s1 _ _ h1, h2⟩
theorem RdG.all {F : HProp} (h : RdG F) : ∀ (l : List HProp), RdG (stars (l ++ [F]))
  | [] => h.one
  | _ :: l => (h.all l).tail
theorem RdG.cell {w : World} {l : List HProp} (h : RdG (stars l)) (hs : Sat w l) : w.cell? ⟨0, 0, none⟩ = some (.iface 178 (.agg #[.pointer (some ⟨1, 74, none⟩)])) := by
  obtain ⟨c, E, fr, h1, h2⟩ := h _ hs
  rw [cell_of_blk h1]; exact h2
theorem as_ct (b : Nat) (c o : Int) : Ct Tryz.prog 40 [.iface 98 (.int .i64 c), .iface 100 (bp b 0)] RdG [Box b [.int .i64 o]] (fun u H' => u = .bool true ∧ H' = [Box b [.int .i64 c]]) := by
  intro w F hF hs
  have hg := RdG.cell (hF.all _) hs
  obtain ⟨m, hm, E, hb⟩ := Sat.head (l := [F]) hs
  have hw := hm b _ hb
  refine (As.hit c ⟨b, 0, none⟩ (.int .i64 o) w hg (by rw [cell_of_blk hw]; rfl) (frozen_of_blk hw)).mono ?_
  rintro e w' ⟨rfl, rfl⟩
  refine ⟨_, _, rfl, ⟨rfl, rfl⟩, ?_, ?_⟩
  · have s1 := (((Sat.alloc hs (.cells #[.pointer (some ⟨b, 0, none⟩)] 100 (0, 0)) (fun _ => True) trivial).drop.alloc (.cells #[.pointer (some ⟨1, 100, none⟩), .pointer (some ⟨w.heap.size, 0, none⟩), .int .u64 150] 132 (0, 0)) (fun _ => True) trivial).drop.alloc (.cells #[.pointer (some ⟨1, 100, none⟩), .pointer (some ⟨w.heap.size, 0, none⟩), .int .u64 150] 132 (0, 0)) (fun _ => True) trivial).drop.alloc (.cells #[.int .i64 c] 98 (0, 0)) (fun _ => True) trivial
    exact s1.drop.setCell (A' := Box b [.int .i64 c]) (l := [F]) fun m ⟨E, h1⟩ _ => ⟨_, E, _, h1, E, by simp⟩
  · exact ((((Keep.alloc _ _).trans (.alloc _ _)).trans (.alloc _ _)).trans (.alloc _ _)).trans (.setCell _ _ _)
theorem as_nil_ct (t : Value) : Ct Tryz.prog 40 [.nilIface, t] (fun _ => True) [] (fun u H' => u = .bool false ∧ H' = []) := by
  intro w F hF hs
  refine (As.nil t w).mono ?_
  rintro e w' ⟨rfl, rfl⟩
  exact ⟨_, _, rfl, ⟨rfl, rfl⟩, hs, .refl _⟩
def invoke_number.f (a0 : Option Int) : Option Int := some (a0.getD 0)
set_option maxRecDepth 100000 in
set_option maxHeartbeats 8000000 in
theorem invoke_number.ct (a0 : Option Int) (r0 : Int) (h : invoke_number.f a0 = some r0) : Ct Tryz.prog 22 [errV 98 a0] RdG [] (fun u H' => u = .int .i64 r0 ∧ H' = []) := by
  unfold invoke_number.f at h
  injection h with h
  refine Ct.intro (n := 8) Tryz.func22 rfl rfl rfl ?_
  intro R w0 F hF hR
  repeat refine S.seq ?_
  refine S.region ?_
  refine SO.v rfl (opv_assign rfl) ?_
  refine SO.nil ?_
  repeat refine S.seq ?_
  refine S.region ?_
  refine SO.alloc rfl Tryz.zeroValue98 rfl (fun b1 => ?_)
  refine SO.nil ?_
  repeat refine S.seq ?_
  refine S.region ?_
  refine SO.v rfl (opv_move rfl) ?_
  refine SO.v rfl (opv_iface Tryz.underlying100 rfl rfl) ?_
  cases a0 with
  | none =>
    refine SO.call (pre := []) rfl Tryz.call40 rfl rfl rfl (as_nil_ct _) trivial ?_
    rintro _ _ ⟨rfl, rfl⟩
    refine SO.nil ?_
    refine S.condF rfl rfl ?_
    refine S.skip ?_
    repeat refine S.seq ?_
    refine S.region ?_
    refine SO.v rfl (opv_assign rfl) ?_
    refine SO.nil ?_
    refine S.drop ?_
    subst h
    exact S.ret1 Tryz.func22 rfl rfl (fun w hs hk => hR w _ _ ⟨rfl, rfl⟩ hs hk)
  | some c =>
    refine SO.call (pre := [Box b1 [.int .i64 0]]) rfl Tryz.call40 rfl rfl rfl (as_ct b1 c 0) hF.one ?_
    rintro _ _ ⟨rfl, rfl⟩
    refine SO.nil ?_
    refine S.condT rfl rfl ?_
    repeat refine S.seq ?_
    refine S.region ?_
    refine SO.load1 rfl Tryz.isAgg98 rfl rfl ?_
    refine SO.v rfl (opv_assign rfl) ?_
    refine SO.nil ?_
    refine S.drop ?_
    subst h
    exact S.ret1 Tryz.func22 rfl rfl (fun w hs hk => hR w _ _ ⟨rfl, rfl⟩ hs hk)
def call_in.f (a0 : Int) (a1 : Int) : Option (Bool) :=
  some ((decide (0 ≤ a0)) && (decide (a0 ≤ a1)))
set_option maxHeartbeats 8000000 in
set_option maxRecDepth 100000 in
theorem call_in.ct (a0 : Int) (a1 : Int) (r0 : Bool) (h : call_in.f a0 a1 = some r0) :
    Ct Tryz.prog 33 [.int .i64 a0, .int .i64 a1] (fun _ => True) [] (fun u H' => u = .bool r0 ∧ H' = []) := by
 unfold call_in.f at h
 refine Ct.intro (n := 12) Tryz.func33 rfl rfl rfl ?_
 intro R w0 F hF hR
 refine S.seq <| S.region <| ag rfl <| SO.nil <| S.seq <| S.region <| mv rfl <| vv (opv_geq rfl rfl) <| mv rfl ?_
 refine SO.cut 4 11 (.bool ((decide (0 ≤ a0)) && (decide (a0 ≤ a1)))) [F] (fun l2 hk2 => ?_) ?_
 ·rcases bool_or (decide (0 ≤ a0)) with b1 | b1
  ·exact SO.takeT rfl rfl rfl b1 <| mv rfl <| SO.takeT rfl rfl rfl b1 <| mv rfl <| SO.takeT rfl rfl rfl b1 <| vv (opv_leq rfl rfl) <| vv (opv_pick_t' b1 rfl rfl) <| hk2.fitc (m := 4) rfl (and_t b1) rfl
  exact pf rfl rfl rfl b1 <| pf rfl rfl rfl b1 <| pf rfl rfl rfl b1 <| vv (opv_pick_f' b1 rfl rfl) <| hk2.fitc (m := 4) rfl (and_f b1) rfl
 refine ag rfl <| SO.nil ?_
 cases h
 exact S.ret1 Tryz.func33 rfl rfl (hR · _ _ ⟨rfl, rfl⟩)
def call_May.f (a0 : api_Call) : Option (Bool) :=
  (bif (decide (1 ≤ a0.Op)) && (decide (a0.Op ≤ 22)) then ((call_in.f a0.Cap 65535).bind fun t6 => some t6) else (some false)).bind fun c4 => (bif c4 then ((call_in.f a0.A 2147483647).bind fun t11 => some t11) else (some false)).bind fun c9 => (bif c9 then ((call_in.f a0.B 2147483647).bind fun t16 => some t16) else (some false)).bind fun c14 => (bif c14 then ((call_in.f a0.C 2147483647).bind fun t21 => some t21) else (some false)).bind fun c19 => (bif c19 then ((call_in.f a0.D 2147483647).bind fun t26 => some t26) else (some false)).bind fun c24 => some c24
set_option maxHeartbeats 8000000 in
set_option maxRecDepth 100000 in
theorem call_May.ct (a0 : api_Call) (r0 : Bool) (h : call_May.f a0 = some r0) :
    Ct Tryz.prog 20 [.agg #[.int .i64 a0.Op, .int .i64 a0.Cap, .int .i64 a0.A, .int .i64 a0.B, .int .i64 a0.C, .int .i64 a0.D]] (fun _ => True) [] (fun u H' => u = .bool r0 ∧ H' = []) := by
 unfold call_May.f at h
 refine Ct.intro (n := 36) Tryz.func20 rfl rfl rfl ?_
 intro R w0 F hF hR
 refine S.seq <| S.region <| SO.box rfl rfl rfl fun b1 => ag rfl <| SO.nil <| S.seq <| S.region <| fa Tryz.underlying30 rfl Tryz.sizeOf3 rfl rfl <| ld Tryz.isAgg3 rfl rfl <| vv (opv_geq rfl rfl) <| mv rfl ?_
 refine SO.cut 4 10 (.bool ((decide (1 ≤ a0.Op)) && (decide (a0.Op ≤ 22)))) [Box b1 [.int .i64 a0.Op, .int .i64 a0.Cap, .int .i64 a0.A, .int .i64 a0.B, .int .i64 a0.C, .int .i64 a0.D], F] (fun l2 hk2 => ?_) ?_
 ·rcases bool_or (decide (1 ≤ a0.Op)) with b2 | b2
  ·exact SO.takeT rfl rfl rfl b2 <| fa Tryz.underlying30 rfl Tryz.sizeOf3 rfl rfl <| SO.takeT rfl rfl rfl b2 <| ld Tryz.isAgg3 rfl rfl <| SO.takeT rfl rfl rfl b2 <| vv (opv_leq rfl rfl) <| vv (opv_pick_t' b2 rfl rfl) <| SO.b1 <| SO.b1 <| hk2.fitc (m := 4) rfl (and_t b2) rfl
  exact pf rfl rfl rfl b2 <| pf rfl rfl rfl b2 <| pf rfl rfl rfl b2 <| vv (opv_pick_f' b2 rfl rfl) <| SO.b1 <| SO.b1 <| hk2.fitc (m := 4) rfl (and_f b2) rfl
 refine mv rfl ?_
 obtain ⟨c4, hc5, hgk⟩ := opt_bind h
 refine SO.cut 4 15 (.bool c4) [Box b1 [.int .i64 a0.Op, .int .i64 a0.Cap, .int .i64 a0.A, .int .i64 a0.B, .int .i64 a0.C, .int .i64 a0.D], F] (fun l2 hk2 => ?_) ?_
 ·clear hgk
  replace h := hc5
  rcases bool_or ((decide (1 ≤ a0.Op)) && (decide (a0.Op ≤ 22))) with b3 | b3
  ·replace h := cond_t b3 h
   refine SO.takeT rfl rfl rfl b3 <| fa Tryz.underlying30 rfl Tryz.sizeOf3 rfl rfl <| SO.takeT rfl rfl rfl b3 <| ld Tryz.isAgg3 rfl rfl <| SO.takeT rfl rfl rfl b3 ?_
   obtain ⟨t6, ht7, h⟩ := opt_bind h
   refine SO.call (pre := []) rfl Tryz.call33 rfl rfl rfl (call_in.ct _ _ _ ht7) trivial ?_
   rintro _ _ ⟨rfl, rfl⟩
   cases h
   exact vv (opv_pick_t' b3 rfl rfl) <| SO.b1 <| SO.b1 <| hk2.fitc (m := 4) rfl (rfl) rfl
  replace h := cond_f b3 h
  refine pf rfl rfl rfl b3 <| pf rfl rfl rfl b3 <| pf rfl rfl rfl b3 ?_
  cases h
  exact vv (opv_pick_f' b3 rfl rfl) <| SO.b1 <| SO.b1 <| hk2.fitc (m := 4) rfl (rfl) rfl
 clear hc5
 replace h := hgk
 refine mv rfl ?_
 obtain ⟨c9, hc10, hgk⟩ := opt_bind h
 refine SO.cut 4 20 (.bool c9) [Box b1 [.int .i64 a0.Op, .int .i64 a0.Cap, .int .i64 a0.A, .int .i64 a0.B, .int .i64 a0.C, .int .i64 a0.D], F] (fun l2 hk2 => ?_) ?_
 ·clear hgk
  replace h := hc10
  rcases bool_or c4 with b8 | b8
  ·replace h := cond_t b8 h
   refine SO.takeT rfl rfl rfl b8 <| fa Tryz.underlying30 rfl Tryz.sizeOf3 rfl rfl <| SO.takeT rfl rfl rfl b8 <| ld Tryz.isAgg3 rfl rfl <| SO.takeT rfl rfl rfl b8 ?_
   obtain ⟨t11, ht12, h⟩ := opt_bind h
   refine SO.call (pre := []) rfl Tryz.call33 rfl rfl rfl (call_in.ct _ _ _ ht12) trivial ?_
   rintro _ _ ⟨rfl, rfl⟩
   cases h
   exact vv (opv_pick_t' b8 rfl rfl) <| SO.b1 <| SO.b1 <| hk2.fitc (m := 4) rfl (rfl) rfl
  replace h := cond_f b8 h
  refine pf rfl rfl rfl b8 <| pf rfl rfl rfl b8 <| pf rfl rfl rfl b8 ?_
  cases h
  exact vv (opv_pick_f' b8 rfl rfl) <| SO.b1 <| SO.b1 <| hk2.fitc (m := 4) rfl (rfl) rfl
 clear hc10
 replace h := hgk
 refine mv rfl ?_
 obtain ⟨c14, hc15, hgk⟩ := opt_bind h
 refine SO.cut 4 25 (.bool c14) [Box b1 [.int .i64 a0.Op, .int .i64 a0.Cap, .int .i64 a0.A, .int .i64 a0.B, .int .i64 a0.C, .int .i64 a0.D], F] (fun l2 hk2 => ?_) ?_
 ·clear hgk
  replace h := hc15
  rcases bool_or c9 with b13 | b13
  ·replace h := cond_t b13 h
   refine SO.takeT rfl rfl rfl b13 <| fa Tryz.underlying30 rfl Tryz.sizeOf3 rfl rfl <| SO.takeT rfl rfl rfl b13 <| ld Tryz.isAgg3 rfl rfl <| SO.takeT rfl rfl rfl b13 ?_
   obtain ⟨t16, ht17, h⟩ := opt_bind h
   refine SO.call (pre := []) rfl Tryz.call33 rfl rfl rfl (call_in.ct _ _ _ ht17) trivial ?_
   rintro _ _ ⟨rfl, rfl⟩
   cases h
   exact vv (opv_pick_t' b13 rfl rfl) <| SO.b1 <| SO.b1 <| hk2.fitc (m := 4) rfl (rfl) rfl
  replace h := cond_f b13 h
  refine pf rfl rfl rfl b13 <| pf rfl rfl rfl b13 <| pf rfl rfl rfl b13 ?_
  cases h
  exact vv (opv_pick_f' b13 rfl rfl) <| SO.b1 <| SO.b1 <| hk2.fitc (m := 4) rfl (rfl) rfl
 clear hc15
 replace h := hgk
 refine mv rfl ?_
 obtain ⟨c19, hc20, hgk⟩ := opt_bind h
 refine SO.cut 4 30 (.bool c19) [Box b1 [.int .i64 a0.Op, .int .i64 a0.Cap, .int .i64 a0.A, .int .i64 a0.B, .int .i64 a0.C, .int .i64 a0.D], F] (fun l2 hk2 => ?_) ?_
 ·clear hgk
  replace h := hc20
  rcases bool_or c14 with b18 | b18
  ·replace h := cond_t b18 h
   refine SO.takeT rfl rfl rfl b18 <| fa Tryz.underlying30 rfl Tryz.sizeOf3 rfl rfl <| SO.takeT rfl rfl rfl b18 <| ld Tryz.isAgg3 rfl rfl <| SO.takeT rfl rfl rfl b18 ?_
   obtain ⟨t21, ht22, h⟩ := opt_bind h
   refine SO.call (pre := []) rfl Tryz.call33 rfl rfl rfl (call_in.ct _ _ _ ht22) trivial ?_
   rintro _ _ ⟨rfl, rfl⟩
   cases h
   exact vv (opv_pick_t' b18 rfl rfl) <| SO.b1 <| SO.b1 <| hk2.fitc (m := 4) rfl (rfl) rfl
  replace h := cond_f b18 h
  refine pf rfl rfl rfl b18 <| pf rfl rfl rfl b18 <| pf rfl rfl rfl b18 ?_
  cases h
  exact vv (opv_pick_f' b18 rfl rfl) <| SO.b1 <| SO.b1 <| hk2.fitc (m := 4) rfl (rfl) rfl
 clear hc20
 replace h := hgk
 refine mv rfl ?_
 obtain ⟨c24, hc25, hgk⟩ := opt_bind h
 refine SO.cut 4 35 (.bool c24) [Box b1 [.int .i64 a0.Op, .int .i64 a0.Cap, .int .i64 a0.A, .int .i64 a0.B, .int .i64 a0.C, .int .i64 a0.D], F] (fun l2 hk2 => ?_) ?_
 ·clear hgk
  replace h := hc25
  rcases bool_or c19 with b23 | b23
  ·replace h := cond_t b23 h
   refine SO.takeT rfl rfl rfl b23 <| fa Tryz.underlying30 rfl Tryz.sizeOf3 rfl rfl <| SO.takeT rfl rfl rfl b23 <| ld Tryz.isAgg3 rfl rfl <| SO.takeT rfl rfl rfl b23 ?_
   obtain ⟨t26, ht27, h⟩ := opt_bind h
   refine SO.call (pre := []) rfl Tryz.call33 rfl rfl rfl (call_in.ct _ _ _ ht27) trivial ?_
   rintro _ _ ⟨rfl, rfl⟩
   cases h
   exact vv (opv_pick_t' b23 rfl rfl) <| SO.b1 <| SO.b1 <| hk2.fitc (m := 4) rfl (rfl) rfl
  replace h := cond_f b23 h
  refine pf rfl rfl rfl b23 <| pf rfl rfl rfl b23 <| pf rfl rfl rfl b23 ?_
  cases h
  exact vv (opv_pick_f' b23 rfl rfl) <| SO.b1 <| SO.b1 <| hk2.fitc (m := 4) rfl (rfl) rfl
 clear hc25
 replace h := hgk
 refine ag rfl <| SO.nil <| tt [(2, .bool c24)] rfl ?_
 cases h
 exact S.drop <| S.ret1 Tryz.func20 rfl rfl (hR · _ _ ⟨rfl, rfl⟩)
def lay_Obj.f (a0 : Int) (a1 : Int) : Option ((Int × Bool)) :=
  (lay_in.f a0 32).bind fun t1 => (bif !t1 then (some true) else ((lay_in.f a1 8).bind fun t6 => some (!t6))).bind fun c4 => bif c4 then (some (0, false)) else (some (w64 ((w64 (480 + (w64 (a0 * 8)))) + a1), true))
set_option maxHeartbeats 8000000 in
set_option maxRecDepth 100000 in
theorem lay_Obj.ct (a0 : Int) (a1 : Int) (r0 : Int) (r1 : Bool) (h : lay_Obj.f a0 a1 = some (r0, r1)) :
    Ct Tryz.prog 49 [.int .i64 a0, .int .i64 a1] (fun _ => True) [] (fun u H' => u = .tuple #[.int .i64 r0, .bool r1] ∧ H' = []) := by
 unfold lay_Obj.f at h
 refine Ct.intro (n := 19) Tryz.func49 rfl rfl rfl ?_
 intro R w0 F hF hR
 refine S.seq <| S.region <| ag rfl <| ag rfl <| SO.nil <| S.seq <| S.seq <| S.region <| mv rfl ?_
 obtain ⟨t1, ht2, h⟩ := opt_bind h
 refine SO.call (pre := []) rfl Tryz.call50 rfl rfl rfl (lay_in.ct _ _ _ ht2) trivial ?_
 rintro _ _ ⟨rfl, rfl⟩
 refine vv (opv_not rfl) <| mv rfl ?_
 obtain ⟨c4, hc5, hgk⟩ := opt_bind h
 refine SO.cut 4 13 (.bool c4) [F] (fun l2 hk2 => ?_) ?_
 ·clear hgk
  replace h := hc5
  rcases bool_or (!t1) with b3 | b3
  ·replace h := cond_t b3 h
   refine pf rfl rfl rfl b3 <| pf rfl rfl rfl b3 <| pf rfl rfl rfl b3 ?_
   cases h
   exact vv (opv_pick_t' b3 rfl rfl) <| hk2.fitc (m := 4) rfl (rfl) rfl
  replace h := cond_f b3 h
  refine SO.takeT rfl rfl rfl b3 <| mv rfl <| SO.takeT rfl rfl rfl b3 ?_
  obtain ⟨t6, ht7, h⟩ := opt_bind h
  refine SO.call (pre := []) rfl Tryz.call50 rfl rfl rfl (lay_in.ct _ _ _ ht7) trivial ?_
  rintro _ _ ⟨rfl, rfl⟩
  refine SO.takeT rfl rfl rfl b3 <| vv (opv_not rfl) ?_
  cases h
  exact vv (opv_pick_f' b3 rfl rfl) <| hk2.fitc (m := 4) rfl (rfl) rfl
 clear hc5
 replace h := hgk
 refine SO.nil ?_
 rcases bool_or c4 with b8 | b8
 ·replace h := cond_t b8 h
  refine S.condT rfl b8 <| S.seq <| S.region <| ag rfl <| ag rfl <| SO.nil <| tt [(4, .int .i64 0), (5, .bool false)] rfl ?_
  cases h
  exact S.ret2 Tryz.func49 rfl rfl rfl (hR · _ _ ⟨rfl, rfl⟩)
 replace h := cond_f b8 h
 refine S.condF rfl b8 <| S.skip <| S.seq <| S.region <| mv rfl <| vv (opv_mul rfl rfl) <| vv (opv_add rfl rfl) <| mv rfl <| vv (opv_add rfl rfl) <| ag rfl <| ag rfl <| SO.nil <| tt [(4, .int .i64 (w64 ((w64 (480 + (w64 (a0 * 8)))) + a1))), (5, .bool true)] rfl ?_
 cases h
 exact S.ret2 Tryz.func49 rfl rfl rfl (hR · _ _ ⟨rfl, rfl⟩)
def lay_Field.f (a1 : Int) (a2 : Int) : VM (Int) :=
  (VM.opt (lay_Obj.f a1 a2)).bind fun (t1, t2) => bif !t2 then (VM.ret 0) else (VM.rd t1 fun t5 => bif decide (4611686018427387904 < t5) then (VM.ret 0) else (VM.ret (w64 t5)))
set_option maxHeartbeats 8000000 in
set_option maxRecDepth 100000 in
theorem lay_Field.ct (V : VW Tryz.prog) (a1 : Int) (a2 : Int) (r0 : Int) (s s' : V.S) (h : VM.run V.toVI (lay_Field.f a1 a2) s = some (r0, s')) :
    Ct Tryz.prog 27 [V.val, .int .i64 a1, .int .i64 a2] (fun _ => True) [V.rep s] (fun u H' => u = .int .i64 r0 ∧ H' = [V.rep s']) := by
 unfold lay_Field.f at h
 refine Ct.intro (n := 25) Tryz.func27 rfl rfl rfl ?_
 intro R w0 F hF hR
 refine S.seq <| S.region <| ag rfl <| SO.nil <| S.seq <| S.region <| mv rfl <| mv rfl ?_
 obtain ⟨⟨t1, t2⟩, ht3, h⟩ := VM.opt_some V.toVI h
 refine SO.call (pre := []) rfl Tryz.call49 rfl rfl rfl (lay_Obj.ct _ _ _ _ ht3) trivial ?_
 rintro _ _ ⟨rfl, rfl⟩
 refine mv rfl <| vv (opv_extract rfl rfl) <| vv (opv_extract rfl rfl) <| ag rfl <| ag rfl <| SO.nil <| tt [(0, V.val), (6, .int .i64 0), (7, .int .i64 t1), (8, .bool t2)] rfl <| S.seq <| S.seq <| S.region <| mv rfl <| vv (opv_not rfl) <| SO.nil ?_
 rcases bool_or (!t2) with b4 | b4
 ·replace h := VM.cond_t V.toVI b4 h
  refine S.condT rfl b4 <| S.seq <| S.region <| ag rfl <| SO.nil ?_
  obtain ⟨hq, rfl⟩ := VM.ret_some V.toVI h
  cases hq
  exact S.b1 <| S.b1 <| S.ret1 Tryz.func27 rfl rfl (hR · _ _ ⟨rfl, rfl⟩)
 replace h := VM.cond_f V.toVI b4 h
 refine S.condF rfl b4 <| S.skip <| S.seq <| S.region <| mv rfl <| mv rfl ?_
 obtain ⟨t5, s6, hv7, h⟩ := VM.rd_some V.toVI h
 refine SO.vread' V rfl rfl rfl hv7 <| ag rfl <| SO.nil <| tt [(6, .int .i64 0), (9, .int .u64 t5)] rfl <| S.seq <| S.seq <| S.region <| mv rfl <| vv (opv_gtr rfl rfl) <| SO.nil ?_
 rcases bool_or (decide (4611686018427387904 < t5)) with b8 | b8
 ·replace h := VM.cond_t V.toVI b8 h
  refine S.condT rfl b8 <| S.seq <| S.region <| ag rfl <| SO.nil ?_
  obtain ⟨hq, rfl⟩ := VM.ret_some V.toVI h
  cases hq
  exact S.b1 <| S.b1 <| S.ret1 Tryz.func27 rfl rfl (hR · _ _ ⟨rfl, rfl⟩)
 replace h := VM.cond_f V.toVI b8 h
 refine S.condF rfl b8 <| S.skip <| S.seq <| S.region <| mv rfl <| vv (opv_conv Tryz.underlying55 Tryz.underlying3 rfl) <| ag rfl <| SO.nil ?_
 obtain ⟨hq, rfl⟩ := VM.ret_some V.toVI h
 cases hq
 exact S.b1 <| S.b1 <| S.ret1 Tryz.func27 rfl rfl (hR · _ _ ⟨rfl, rfl⟩)
def endp_State.f (a1 : Int) : VM (Int) :=
  (lay_Field.f a1 1).bind fun t1 => VM.ret t1
set_option maxHeartbeats 8000000 in
set_option maxRecDepth 100000 in
theorem endp_State.ct (V : VW Tryz.prog) (a1 : Int) (r0 : Int) (s s' : V.S) (h : VM.run V.toVI (endp_State.f a1) s = some (r0, s')) :
    Ct Tryz.prog 30 [V.val, .int .i64 a1] (fun _ => True) [V.rep s] (fun u H' => u = .int .i64 r0 ∧ H' = [V.rep s']) := by
 unfold endp_State.f at h
 refine Ct.intro (n := 8) Tryz.func30 rfl rfl rfl ?_
 intro R w0 F hF hR
 refine S.seq <| S.region <| ag rfl <| SO.nil <| S.seq <| S.region <| mv rfl <| mv rfl ?_
 obtain ⟨t1, s3, ht2, h⟩ := VM.bind_some V.toVI h
 refine SO.call (pre := [V.rep _]) rfl Tryz.call27 rfl rfl rfl (lay_Field.ct V _ _ _ _ _ ht2) trivial ?_
 rintro _ _ ⟨rfl, rfl⟩
 refine ag rfl <| SO.nil ?_
 obtain ⟨hq, rfl⟩ := VM.ret_some V.toVI h
 cases hq
 exact S.b1 <| S.b1 <| S.ret1 Tryz.func30 rfl rfl (hR · _ _ ⟨rfl, rfl⟩)
def lay_Is.f (a1 : Int) (a2 : Int) : VM (Bool) :=
  (VM.opt (lay_Obj.f a1 0)).bind fun (t1, t2) => (bif t2 && (decide (0 ≤ a2)) then (VM.rd t1 fun t8 => VM.ret (t8 == (wu64 a2))) else (VM.ret false)).bind fun c6 => VM.ret c6
set_option maxHeartbeats 8000000 in
set_option maxRecDepth 100000 in
theorem lay_Is.ct (V : VW Tryz.prog) (a1 : Int) (a2 : Int) (r0 : Bool) (s s' : V.S) (h : VM.run V.toVI (lay_Is.f a1 a2) s = some (r0, s')) :
    Ct Tryz.prog 29 [V.val, .int .i64 a1, .int .i64 a2] (fun _ => True) [V.rep s] (fun u H' => u = .bool r0 ∧ H' = [V.rep s']) := by
 unfold lay_Is.f at h
 refine Ct.intro (n := 27) Tryz.func29 rfl rfl rfl ?_
 intro R w0 F hF hR
 refine S.seq <| S.region <| ag rfl <| SO.nil <| S.seq <| S.region <| mv rfl ?_
 obtain ⟨⟨t1, t2⟩, ht3, h⟩ := VM.opt_some V.toVI h
 refine SO.call (pre := []) rfl Tryz.call49 rfl rfl rfl (lay_Obj.ct _ _ _ _ ht3) trivial ?_
 rintro _ _ ⟨rfl, rfl⟩
 refine mv rfl <| vv (opv_extract rfl rfl) <| vv (opv_extract rfl rfl) <| ag rfl <| ag rfl <| SO.nil <| S.seq <| S.region <| mv rfl <| mv rfl ?_
 refine SO.cut 3 18 (.bool (t2 && (decide (0 ≤ a2)))) [V.rep s, F] (fun l2 hk2 => ?_) ?_
 ·rcases bool_or t2 with b4 | b4
  ·exact SO.takeT rfl rfl rfl b4 <| mv rfl <| SO.takeT rfl rfl rfl b4 <| vv (opv_geq rfl rfl) <| vv (opv_pick_t' b4 rfl rfl) <| SO.b1 <| SO.b1 <| hk2.fitc (m := 3) rfl (and_t b4) rfl
  exact pf rfl rfl rfl b4 <| pf rfl rfl rfl b4 <| vv (opv_pick_f' b4 rfl rfl) <| SO.b1 <| SO.b1 <| hk2.fitc (m := 3) rfl (and_f b4) rfl
 refine mv rfl ?_
 obtain ⟨c6, s11, hc7, hgk⟩ := VM.bind_some V.toVI h
 refine SO.cut 7 26 (.bool c6) [V.rep s11, F] (fun l2 hk2 => ?_) ?_
 ·clear hgk
  replace h := hc7
  rcases bool_or (t2 && (decide (0 ≤ a2))) with b5 | b5
  ·replace h := VM.cond_t V.toVI b5 h
   refine SO.takeT rfl rfl rfl b5 <| mv rfl <| SO.takeT rfl rfl rfl b5 <| mv rfl <| SO.takeT rfl rfl rfl b5 ?_
   obtain ⟨t8, s9, hv10, h⟩ := VM.rd_some V.toVI h
   refine SO.vread' V rfl rfl rfl hv10 <| SO.takeT rfl rfl rfl b5 <| mv rfl <| SO.takeT rfl rfl rfl b5 <| vv (opv_conv Tryz.underlying3 Tryz.underlying55 rfl) <| SO.takeT rfl rfl rfl b5 <| vv (opv_eql rfl rfl) ?_
   obtain ⟨hq, rfl⟩ := VM.ret_some V.toVI h
   cases hq
   exact vv (opv_pick_t' b5 rfl rfl) <| SO.b1 <| SO.b1 <| hk2.fitc (m := 7) rfl (rfl) rfl
  replace h := VM.cond_f V.toVI b5 h
  refine pf rfl rfl rfl b5 <| pf rfl rfl rfl b5 <| pf rfl rfl rfl b5 <| pf rfl rfl rfl b5 <| pf rfl rfl rfl b5 <| pf rfl rfl rfl b5 ?_
  obtain ⟨hq, rfl⟩ := VM.ret_some V.toVI h
  cases hq
  exact vv (opv_pick_f' b5 rfl rfl) <| SO.b1 <| SO.b1 <| hk2.fitc (m := 7) rfl (rfl) rfl
 clear hc7
 replace h := hgk
 refine ag rfl <| SO.nil <| tt [(6, .bool c6)] rfl ?_
 obtain ⟨hq, rfl⟩ := VM.ret_some V.toVI h
 cases hq
 exact S.b1 <| S.b1 <| S.ret1 Tryz.func29 rfl rfl (hR · _ _ ⟨rfl, rfl⟩)
def invoke_Ready.f (a1 : Int) : VM (Bool) :=
  (lay_Is.f a1 5).bind fun t1 => (bif t1 then ((endp_State.f a1).bind fun t7 => VM.ret (t7 == 1)) else (VM.ret false)).bind fun c5 => VM.ret c5
set_option maxHeartbeats 8000000 in
set_option maxRecDepth 100000 in
theorem invoke_Ready.ct (V : VW Tryz.prog) (a1 : Int) (r0 : Bool) (s s' : V.S) (h : VM.run V.toVI (invoke_Ready.f a1) s = some (r0, s')) :
    Ct Tryz.prog 13 [V.val, .int .i64 a1] (fun _ => True) [V.rep s] (fun u H' => u = .bool r0 ∧ H' = [V.rep s']) := by
 unfold invoke_Ready.f at h
 refine Ct.intro (n := 14) Tryz.func13 rfl rfl rfl ?_
 intro R w0 F hF hR
 refine S.seq <| S.region <| ag rfl <| SO.nil <| S.seq <| S.region <| mv rfl <| mv rfl ?_
 obtain ⟨t1, s3, ht2, h⟩ := VM.bind_some V.toVI h
 refine SO.call (pre := [V.rep _]) rfl Tryz.call29 rfl rfl rfl (lay_Is.ct V _ _ _ _ _ ht2) trivial ?_
 rintro _ _ ⟨rfl, rfl⟩
 refine mv rfl ?_
 obtain ⟨c5, s10, hc6, hgk⟩ := VM.bind_some V.toVI h
 refine SO.cut 5 13 (.bool c5) [V.rep s10, F] (fun l2 hk2 => ?_) ?_
 ·clear hgk
  replace h := hc6
  rcases bool_or t1 with b4 | b4
  ·replace h := VM.cond_t V.toVI b4 h
   refine SO.takeT rfl rfl rfl b4 <| mv rfl <| SO.takeT rfl rfl rfl b4 <| mv rfl <| SO.takeT rfl rfl rfl b4 ?_
   obtain ⟨t7, s9, ht8, h⟩ := VM.bind_some V.toVI h
   refine SO.call (pre := [V.rep _]) rfl Tryz.call30 rfl rfl rfl (endp_State.ct V _ _ _ _ ht8) trivial ?_
   rintro _ _ ⟨rfl, rfl⟩
   refine SO.takeT rfl rfl rfl b4 <| vv (opv_eql rfl rfl) ?_
   obtain ⟨hq, rfl⟩ := VM.ret_some V.toVI h
   cases hq
   exact vv (opv_pick_t' b4 rfl rfl) <| SO.b1 <| SO.b1 <| hk2.fitc (m := 5) rfl (rfl) rfl
  replace h := VM.cond_f V.toVI b4 h
  refine pf rfl rfl rfl b4 <| pf rfl rfl rfl b4 <| pf rfl rfl rfl b4 <| pf rfl rfl rfl b4 ?_
  obtain ⟨hq, rfl⟩ := VM.ret_some V.toVI h
  cases hq
  exact vv (opv_pick_f' b4 rfl rfl) <| SO.b1 <| SO.b1 <| hk2.fitc (m := 5) rfl (rfl) rfl
 clear hc6
 replace h := hgk
 refine ag rfl <| SO.nil <| tt [(4, .bool c5)] rfl ?_
 obtain ⟨hq, rfl⟩ := VM.ret_some V.toVI h
 cases hq
 exact S.b1 <| S.b1 <| S.ret1 Tryz.func13 rfl rfl (hR · _ _ ⟨rfl, rfl⟩)
def lay_Put.f (a1 : Int) (a2 : Int) (a3 : Int) : VM (Unit) :=
  (VM.opt (lay_Obj.f a1 a2)).bind fun (t1, t2) => bif t2 && (decide (0 ≤ a3)) then (VM.wr t1 (wu64 a3) (VM.ret ())) else (VM.ret ())
set_option maxHeartbeats 8000000 in
set_option maxRecDepth 100000 in
theorem lay_Put.ct (V : VW Tryz.prog) (a1 : Int) (a2 : Int) (a3 : Int) (s s' : V.S) (h : VM.run V.toVI (lay_Put.f a1 a2 a3) s = some ((), s')) :
    Ct Tryz.prog 55 [V.val, .int .i64 a1, .int .i64 a2, .int .i64 a3] (fun _ => True) [V.rep s] (fun u H' => u = .tuple #[] ∧ H' = [V.rep s']) := by
 unfold lay_Put.f at h
 refine Ct.intro (n := 26) Tryz.func55 rfl rfl rfl ?_
 intro R w0 F hF hR
 refine S.seq <| S.region <| mv rfl <| mv rfl ?_
 obtain ⟨⟨t1, t2⟩, ht3, h⟩ := VM.opt_some V.toVI h
 refine SO.call (pre := []) rfl Tryz.call49 rfl rfl rfl (lay_Obj.ct _ _ _ _ ht3) trivial ?_
 rintro _ _ ⟨rfl, rfl⟩
 refine mv rfl <| vv (opv_extract rfl rfl) <| vv (opv_extract rfl rfl) <| ag rfl <| ag rfl <| SO.nil <| tt [(0, V.val), (3, .int .i64 a3), (8, .int .i64 t1), (9, .bool t2)] rfl <| S.seq <| S.region <| mv rfl <| mv rfl ?_
 refine SO.cut 3 20 (.bool (t2 && (decide (0 ≤ a3)))) [V.rep s, F] (fun l2 hk2 => ?_) ?_
 ·rcases bool_or t2 with b4 | b4
  ·exact SO.takeT rfl rfl rfl b4 <| mv rfl <| SO.takeT rfl rfl rfl b4 <| vv (opv_geq rfl rfl) <| vv (opv_pick_t' b4 rfl rfl) <| SO.b1 <| SO.b1 <| hk2.fitc (m := 3) rfl (and_t b4) rfl
  exact pf rfl rfl rfl b4 <| pf rfl rfl rfl b4 <| vv (opv_pick_f' b4 rfl rfl) <| SO.b1 <| SO.b1 <| hk2.fitc (m := 3) rfl (and_f b4) rfl
 refine SO.nil ?_
 rcases bool_or (t2 && (decide (0 ≤ a3))) with b5 | b5
 ·replace h := VM.cond_t V.toVI b5 h
  refine S.condT rfl b5 <| S.region <| mv rfl <| mv rfl <| mv rfl <| vv (opv_conv Tryz.underlying3 Tryz.underlying55 rfl) ?_
  obtain ⟨s6, hv7, h⟩ := VM.wr_some V.toVI h
  refine SO.vwrite' V rfl rfl rfl rfl hv7 <| SO.nil <| S.to (ρ' := []) trivial ?_
  obtain ⟨hq, rfl⟩ := VM.ret_some V.toVI h
  cases hq
  exact S.b1 <| S.b1 <| S.fin0 Tryz.func55 rfl (hR · _ _ ⟨rfl, rfl⟩)
 replace h := VM.cond_f V.toVI b5 h
 refine S.condF rfl b5 <| S.skip ?_
 obtain ⟨hq, rfl⟩ := VM.ret_some V.toVI h
 cases hq
 exact S.b1 <| S.b1 <| S.fin0 Tryz.func55 rfl (hR · _ _ ⟨rfl, rfl⟩)
def endp_on.f (a1 : Int) (a2 : Int) : VM (Unit) :=
  (lay_Field.f a1 5).bind fun t1 => (lay_Put.f a1 5 (w64 ((t1.tmod 256) + (w64 (256 * a2))))).bind fun _ => VM.ret ()
set_option maxHeartbeats 8000000 in
set_option maxRecDepth 100000 in
theorem endp_on.ct (V : VW Tryz.prog) (a1 : Int) (a2 : Int) (s s' : V.S) (h : VM.run V.toVI (endp_on.f a1 a2) s = some ((), s')) :
    Ct Tryz.prog 115 [V.val, .int .i64 a1, .int .i64 a2] (fun _ => True) [V.rep s] (fun u H' => u = .tuple #[] ∧ H' = [V.rep s']) := by
 unfold endp_on.f at h
 refine Ct.intro (n := 16) Tryz.func115 rfl rfl rfl ?_
 intro R w0 F hF hR
 refine S.region <| mv rfl <| mv rfl <| mv rfl <| mv rfl ?_
 obtain ⟨t1, s3, ht2, h⟩ := VM.bind_some V.toVI h
 refine SO.call (pre := [V.rep _]) rfl Tryz.call27 rfl rfl rfl (lay_Field.ct V _ _ _ _ _ ht2) trivial ?_
 rintro _ _ ⟨rfl, rfl⟩
 refine vv (opv_rem rfl rfl (by decide)) <| mv rfl <| vv (opv_mul rfl rfl) <| vv (opv_add rfl rfl) ?_
 obtain ⟨_, s5, ht4, h⟩ := VM.bind_some V.toVI h
 refine SO.call (pre := [V.rep _]) rfl Tryz.call55 rfl rfl rfl (lay_Put.ct V _ _ _ _ _ ht4) trivial ?_
 rintro _ _ ⟨rfl, rfl⟩
 refine SO.nil <| S.to (ρ' := []) trivial ?_
 obtain ⟨hq, rfl⟩ := VM.ret_some V.toVI h
 cases hq
 exact S.b1 <| S.b1 <| S.fin0 Tryz.func115 rfl (hR · _ _ ⟨rfl, rfl⟩)
def endp_Wake.f (a1 : Int) (a2 : Int) (a3 : Int) : VM (Unit) :=
  (lay_Put.f a1 1 1).bind fun _ => (lay_Put.f a1 3 a2).bind fun _ => (lay_Put.f a1 4 a3).bind fun _ => (endp_on.f a1 0).bind fun _ => VM.ret ()
set_option maxHeartbeats 8000000 in
set_option maxRecDepth 100000 in
theorem endp_Wake.ct (V : VW Tryz.prog) (a1 : Int) (a2 : Int) (a3 : Int) (s s' : V.S) (h : VM.run V.toVI (endp_Wake.f a1 a2 a3) s = some ((), s')) :
    Ct Tryz.prog 56 [V.val, .int .i64 a1, .int .i64 a2, .int .i64 a3] (fun _ => True) [V.rep s] (fun u H' => u = .tuple #[] ∧ H' = [V.rep s']) := by
 unfold endp_Wake.f at h
 refine Ct.intro (n := 22) Tryz.func56 rfl rfl rfl ?_
 intro R w0 F hF hR
 refine S.seq <| S.region <| mv rfl <| mv rfl ?_
 obtain ⟨_, s2, ht1, h⟩ := VM.bind_some V.toVI h
 refine SO.call (pre := [V.rep _]) rfl Tryz.call55 rfl rfl rfl (lay_Put.ct V _ _ _ _ _ ht1) trivial ?_
 rintro _ _ ⟨rfl, rfl⟩
 refine SO.nil <| S.seq <| S.region <| mv rfl <| mv rfl <| mv rfl ?_
 obtain ⟨_, s4, ht3, h⟩ := VM.bind_some V.toVI h
 refine SO.call (pre := [V.rep _]) rfl Tryz.call55 rfl rfl rfl (lay_Put.ct V _ _ _ _ _ ht3) trivial ?_
 rintro _ _ ⟨rfl, rfl⟩
 refine SO.nil <| tt [(0, V.val), (1, .int .i64 a1), (3, .int .i64 a3)] rfl <| S.seq <| S.region <| mv rfl <| mv rfl <| mv rfl ?_
 obtain ⟨_, s6, ht5, h⟩ := VM.bind_some V.toVI h
 refine SO.call (pre := [V.rep _]) rfl Tryz.call55 rfl rfl rfl (lay_Put.ct V _ _ _ _ _ ht5) trivial ?_
 rintro _ _ ⟨rfl, rfl⟩
 refine SO.nil <| S.region <| mv rfl <| mv rfl ?_
 obtain ⟨_, s8, ht7, h⟩ := VM.bind_some V.toVI h
 refine SO.call (pre := [V.rep _]) rfl Tryz.call115 rfl rfl rfl (endp_on.ct V _ _ _ _ ht7) trivial ?_
 rintro _ _ ⟨rfl, rfl⟩
 refine SO.nil <| S.to (ρ' := []) trivial ?_
 obtain ⟨hq, rfl⟩ := VM.ret_some V.toVI h
 cases hq
 exact S.b1 <| S.b1 <| S.fin0 Tryz.func56 rfl (hR · _ _ ⟨rfl, rfl⟩)
def endp_there.f (a0 : Int) : Option (Bool) :=
  (lay_Obj.f a0 0).bind fun (t1, t2) => some t2
set_option maxHeartbeats 8000000 in
set_option maxRecDepth 100000 in
theorem endp_there.ct (a0 : Int) (r0 : Bool) (h : endp_there.f a0 = some r0) :
    Ct Tryz.prog 53 [.int .i64 a0] (fun _ => True) [] (fun u H' => u = .bool r0 ∧ H' = []) := by
 unfold endp_there.f at h
 refine Ct.intro (n := 11) Tryz.func53 rfl rfl rfl ?_
 intro R w0 F hF hR
 refine S.seq <| S.region <| ag rfl <| SO.nil <| S.seq <| S.region <| mv rfl ?_
 obtain ⟨⟨t1, t2⟩, ht3, h⟩ := opt_bind h
 refine SO.call (pre := []) rfl Tryz.call49 rfl rfl rfl (lay_Obj.ct _ _ _ _ ht3) trivial ?_
 rintro _ _ ⟨rfl, rfl⟩
 refine mv rfl <| vv (opv_extract rfl rfl) <| vv (opv_extract rfl rfl) <| ag rfl <| ag rfl <| SO.nil <| tt [(2, .bool false), (4, .bool t2)] rfl <| S.seq <| S.region <| mv rfl <| ag rfl <| SO.nil ?_
 cases h
 exact S.ret1 Tryz.func53 rfl rfl (hR · _ _ ⟨rfl, rfl⟩)
def lay_Ref.f (a1 : Int) (a2 : Int) : VM ((Int × Bool)) :=
  (lay_Field.f a1 a2).bind fun t1 => bif (decide (t1 < 1)) || (decide (32 < t1)) then (VM.ret (0, false)) else (VM.ret (w64 (t1 - 1), true))
set_option maxHeartbeats 8000000 in
set_option maxRecDepth 100000 in
theorem lay_Ref.ct (V : VW Tryz.prog) (a1 : Int) (a2 : Int) (r0 : Int) (r1 : Bool) (s s' : V.S) (h : VM.run V.toVI (lay_Ref.f a1 a2) s = some ((r0, r1), s')) :
    Ct Tryz.prog 54 [V.val, .int .i64 a1, .int .i64 a2] (fun _ => True) [V.rep s] (fun u H' => u = .tuple #[.int .i64 r0, .bool r1] ∧ H' = [V.rep s']) := by
 unfold lay_Ref.f at h
 refine Ct.intro (n := 21) Tryz.func54 rfl rfl rfl ?_
 intro R w0 F hF hR
 refine S.seq <| S.region <| ag rfl <| ag rfl <| SO.nil <| S.seq <| S.region <| mv rfl <| mv rfl <| mv rfl ?_
 obtain ⟨t1, s3, ht2, h⟩ := VM.bind_some V.toVI h
 refine SO.call (pre := [V.rep _]) rfl Tryz.call27 rfl rfl rfl (lay_Field.ct V _ _ _ _ _ ht2) trivial ?_
 rintro _ _ ⟨rfl, rfl⟩
 refine ag rfl <| SO.nil <| tt [(6, .int .i64 0), (7, .bool false), (8, .int .i64 t1)] rfl <| S.seq <| S.seq <| S.region <| mv rfl <| vv (opv_lss rfl rfl) <| mv rfl ?_
 refine SO.cut 3 18 (.bool ((decide (t1 < 1)) || (decide (32 < t1)))) [V.rep s3, F] (fun l2 hk2 => ?_) ?_
 ·rcases bool_or (decide (t1 < 1)) with b4 | b4
  ·exact pf rfl rfl rfl b4 <| pf rfl rfl rfl b4 <| vv (opv_pick_t' b4 rfl rfl) <| SO.b1 <| SO.b1 <| hk2.fitc (m := 3) rfl (or_t b4) rfl
  exact SO.takeT rfl rfl rfl b4 <| mv rfl <| SO.takeT rfl rfl rfl b4 <| vv (opv_gtr rfl rfl) <| vv (opv_pick_f' b4 rfl rfl) <| SO.b1 <| SO.b1 <| hk2.fitc (m := 3) rfl (or_f b4) rfl
 refine SO.nil ?_
 rcases bool_or ((decide (t1 < 1)) || (decide (32 < t1))) with b5 | b5
 ·replace h := VM.cond_t V.toVI b5 h
  refine S.condT rfl b5 <| S.seq <| S.region <| ag rfl <| ag rfl <| SO.nil ?_
  obtain ⟨hq, rfl⟩ := VM.ret_some V.toVI h
  cases hq
  exact S.b1 <| S.b1 <| S.ret2 Tryz.func54 rfl rfl rfl (hR · _ _ ⟨rfl, rfl⟩)
 replace h := VM.cond_f V.toVI b5 h
 refine S.condF rfl b5 <| S.skip <| S.seq <| S.region <| mv rfl <| vv (opv_sub rfl rfl) <| ag rfl <| ag rfl <| SO.nil <| tt [(6, .int .i64 (w64 (t1 - 1))), (7, .bool true)] rfl ?_
 obtain ⟨hq, rfl⟩ := VM.ret_some V.toVI h
 cases hq
 exact S.b1 <| S.b1 <| S.ret2 Tryz.func54 rfl rfl rfl (hR · _ _ ⟨rfl, rfl⟩)
def endp_Answer.f (a1 : Int) (a2 : Int) : VM ((Option Int)) :=
  (VM.opt (endp_there.f a1)).bind fun t1 => bif !t1 then (VM.ret (some 2)) else ((lay_Ref.f a1 6).bind fun (t4, t5) => bif !t5 then (VM.ret (some 10)) else ((lay_Put.f a1 6 0).bind fun _ => (lay_Put.f t4 2 0).bind fun _ => (endp_Wake.f t4 a2 0).bind fun _ => VM.ret none))
set_option maxHeartbeats 8000000 in
set_option maxRecDepth 100000 in
theorem endp_Answer.ct (V : VW Tryz.prog) (a1 : Int) (a2 : Int) (r0 : Option Int) (s s' : V.S) (h : VM.run V.toVI (endp_Answer.f a1 a2) s = some (r0, s')) :
    Ct Tryz.prog 34 [V.val, .int .i64 a1, .int .i64 a2] (fun _ => True) [V.rep s] (fun u H' => u = errV 98 r0 ∧ H' = [V.rep s']) := by
 unfold endp_Answer.f at h
 refine Ct.intro (n := 32) Tryz.func34 rfl rfl rfl ?_
 intro R w0 F hF hR
 refine S.seq <| S.region <| ag rfl <| SO.nil <| S.seq <| S.seq <| S.region <| mv rfl ?_
 obtain ⟨t1, ht2, h⟩ := VM.opt_some V.toVI h
 refine SO.call (pre := []) rfl Tryz.call53 rfl rfl rfl (endp_there.ct _ _ ht2) trivial ?_
 rintro _ _ ⟨rfl, rfl⟩
 refine vv (opv_not rfl) <| SO.nil ?_
 rcases bool_or (!t1) with b3 | b3
 ·replace h := VM.cond_t V.toVI b3 h
  refine S.condT rfl b3 <| S.seq <| S.region <| vv (opv_iface Tryz.underlying98 rfl rfl) <| ag rfl <| SO.nil <| tt [(6, errV 98 (some 2))] rfl ?_
  obtain ⟨hq, rfl⟩ := VM.ret_some V.toVI h
  cases hq
  exact S.b1 <| S.b1 <| S.ret1 Tryz.func34 rfl rfl (hR · _ _ ⟨rfl, rfl⟩)
 replace h := VM.cond_f V.toVI b3 h
 refine S.condF rfl b3 <| S.skip <| S.seq <| S.region <| mv rfl <| mv rfl ?_
 obtain ⟨⟨t4, t5⟩, s7, ht6, h⟩ := VM.bind_some V.toVI h
 refine SO.call (pre := [V.rep _]) rfl Tryz.call54 rfl rfl rfl (lay_Ref.ct V _ _ _ _ _ _ ht6) trivial ?_
 rintro _ _ ⟨rfl, rfl⟩
 refine mv rfl <| vv (opv_extract rfl rfl) <| vv (opv_extract rfl rfl) <| ag rfl <| ag rfl <| SO.nil <| tt [(0, V.val), (1, .int .i64 a1), (2, .int .i64 a2), (6, errV 98 none), (7, .int .i64 t4), (8, .bool t5)] rfl <| S.seq <| S.seq <| S.region <| mv rfl <| vv (opv_not rfl) <| SO.nil ?_
 rcases bool_or (!t5) with b8 | b8
 ·replace h := VM.cond_t V.toVI b8 h
  refine S.condT rfl b8 <| S.seq <| S.region <| vv (opv_iface Tryz.underlying98 rfl rfl) <| ag rfl <| SO.nil <| tt [(6, errV 98 (some 10))] rfl ?_
  obtain ⟨hq, rfl⟩ := VM.ret_some V.toVI h
  cases hq
  exact S.b1 <| S.b1 <| S.ret1 Tryz.func34 rfl rfl (hR · _ _ ⟨rfl, rfl⟩)
 replace h := VM.cond_f V.toVI b8 h
 refine S.condF rfl b8 <| S.skip <| S.seq <| S.region <| mv rfl <| mv rfl ?_
 obtain ⟨_, s10, ht9, h⟩ := VM.bind_some V.toVI h
 refine SO.call (pre := [V.rep _]) rfl Tryz.call55 rfl rfl rfl (lay_Put.ct V _ _ _ _ _ ht9) trivial ?_
 rintro _ _ ⟨rfl, rfl⟩
 refine SO.nil <| tt [(0, V.val), (2, .int .i64 a2), (6, errV 98 none), (7, .int .i64 t4)] rfl <| S.seq <| S.region <| mv rfl <| mv rfl ?_
 obtain ⟨_, s12, ht11, h⟩ := VM.bind_some V.toVI h
 refine SO.call (pre := [V.rep _]) rfl Tryz.call55 rfl rfl rfl (lay_Put.ct V _ _ _ _ _ ht11) trivial ?_
 rintro _ _ ⟨rfl, rfl⟩
 refine SO.nil <| S.seq <| S.region <| mv rfl <| mv rfl <| mv rfl ?_
 obtain ⟨_, s14, ht13, h⟩ := VM.bind_some V.toVI h
 refine SO.call (pre := [V.rep _]) rfl Tryz.call56 rfl rfl rfl (endp_Wake.ct V _ _ _ _ _ ht13) trivial ?_
 rintro _ _ ⟨rfl, rfl⟩
 refine SO.nil <| tt [(6, errV 98 none)] rfl <| S.seq <| S.region <| ag rfl <| SO.nil ?_
 obtain ⟨hq, rfl⟩ := VM.ret_some V.toVI h
 cases hq
 exact S.b1 <| S.b1 <| S.ret1 Tryz.func34 rfl rfl (hR · _ _ ⟨rfl, rfl⟩)
def cspace_Fine.f (a1 : api_Cap) : VM (Bool) :=
  (bif a1.Kind != 2 then (VM.ret true) else ((lay_Is.f a1.Obj 2).bind fun t5 => VM.ret (!t5))).bind fun c3 => bif c3 then (VM.ret false) else ((lay_Field.f a1.Obj 2).bind fun t10 => (bif decide (t10 ≤ 5) then ((lay_Field.f a1.Obj 1).bind fun t14 => (VM.opt (chk (decide (0 ≤ t10)))).bind fun _ => VM.ret (decide (t14 ≤ (w64 (96 - (bshl .i64 1 t10)))))) else (VM.ret false)).bind fun j4_1 => VM.ret j4_1)
set_option maxHeartbeats 8000000 in
set_option maxRecDepth 100000 in
theorem cspace_Fine.ct (V : VW Tryz.prog) (a1 : api_Cap) (r0 : Bool) (s s' : V.S) (h : VM.run V.toVI (cspace_Fine.f a1) s = some (r0, s')) :
    Ct Tryz.prog 116 [V.val, .agg #[.int .i64 a1.Kind, .int .i64 a1.Rights, .int .i64 a1.Obj, .int .i64 a1.Badge, .int .i64 a1.Guard, .int .i64 a1.Bits]] (fun _ => True) [V.rep s] (fun u H' => u = .bool r0 ∧ H' = [V.rep s']) := by
 unfold cspace_Fine.f at h
 refine Ct.intro (n := 32) Tryz.func116 rfl rfl rfl ?_
 intro R w0 F hF hR
 refine S.seq <| S.region <| SO.box rfl rfl rfl fun b1 => ag rfl <| SO.nil <| S.seq <| S.seq <| S.region <| fa Tryz.underlying45 rfl Tryz.sizeOf3 rfl rfl <| ld Tryz.isAgg3 rfl rfl <| vv (opv_neq rfl rfl) <| mv rfl ?_
 obtain ⟨c3, s8, hc4, hgk⟩ := VM.bind_some V.toVI h
 refine SO.cut 6 15 (.bool c3) [Box b1 [.int .i64 a1.Kind, .int .i64 a1.Rights, .int .i64 a1.Obj, .int .i64 a1.Badge, .int .i64 a1.Guard, .int .i64 a1.Bits], V.rep s8, F] (fun l2 hk2 => ?_) ?_
 ·clear hgk
  replace h := hc4
  rcases bool_or (a1.Kind != 2) with b2 | b2
  ·replace h := VM.cond_t V.toVI b2 h
   refine pf rfl rfl rfl b2 <| pf rfl rfl rfl b2 <| pf rfl rfl rfl b2 <| pf rfl rfl rfl b2 <| pf rfl rfl rfl b2 ?_
   obtain ⟨hq, rfl⟩ := VM.ret_some V.toVI h
   cases hq
   exact vv (opv_pick_t' b2 rfl rfl) <| SO.b2 <| SO.b2 <| SO.b2 <| hk2.fitc (m := 6) rfl (rfl) rfl
  replace h := VM.cond_f V.toVI b2 h
  refine SO.takeT rfl rfl rfl b2 <| mv rfl <| SO.takeT rfl rfl rfl b2 <| fa Tryz.underlying45 rfl Tryz.sizeOf3 rfl rfl <| SO.takeT rfl rfl rfl b2 <| ld Tryz.isAgg3 rfl rfl <| SO.takeT rfl rfl rfl b2 ?_
  obtain ⟨t5, s7, ht6, h⟩ := VM.bind_some V.toVI h
  refine SO.b1 <| SO.call (pre := [V.rep _]) rfl Tryz.call29 rfl rfl rfl (lay_Is.ct V _ _ _ _ _ ht6) trivial ?_
  rintro _ _ ⟨rfl, rfl⟩
  refine SO.takeT rfl rfl rfl b2 <| vv (opv_not rfl) ?_
  obtain ⟨hq, rfl⟩ := VM.ret_some V.toVI h
  cases hq
  exact vv (opv_pick_f' b2 rfl rfl) <| SO.b2 <| SO.b1 <| SO.b2 <| hk2.fitc (m := 6) rfl (rfl) rfl
 clear hc4
 replace h := hgk
 refine SO.nil ?_
 rcases bool_or c3 with b9 | b9
 ·replace h := VM.cond_t V.toVI b9 h
  refine S.condT rfl b9 <| S.seq <| S.region <| ag rfl <| SO.nil <| tt [(4, .bool false)] rfl ?_
  obtain ⟨hq, rfl⟩ := VM.ret_some V.toVI h
  cases hq
  exact S.drop <| S.b1 <| S.b1 <| S.ret1 Tryz.func116 rfl rfl (hR · _ _ ⟨rfl, rfl⟩)
 replace h := VM.cond_f V.toVI b9 h
 refine S.condF rfl b9 <| S.skip <| S.seq <| S.region <| mv rfl <| fa Tryz.underlying45 rfl Tryz.sizeOf3 rfl rfl <| ld Tryz.isAgg3 rfl rfl ?_
 obtain ⟨t10, s12, ht11, h⟩ := VM.bind_some V.toVI h
 refine SO.b1 <| SO.call (pre := [V.rep _]) rfl Tryz.call27 rfl rfl rfl (lay_Field.ct V _ _ _ _ _ ht11) trivial ?_
 rintro _ _ ⟨rfl, rfl⟩
 refine ag rfl <| SO.nil <| tt [(0, V.val), (3, bp b1 0), (4, .bool false), (5, .int .i64 t10)] rfl <| S.seq ?_
 obtain ⟨j4_1, s_1, hC1, hJ1⟩ := VM.bind_some V.toVI h
 clear h
 refine S.cutP (G := Unit) (fun _ => True) (fun _ => [(4, .bool j4_1)]) (fun _ => [V.rep s_1, Box b1 [.int .i64 a1.Kind, .int .i64 a1.Rights, .int .i64 a1.Obj, .int .i64 a1.Badge, .int .i64 a1.Guard, .int .i64 a1.Bits], F]) (fun hk1 => ?_) ?_
 ·replace h := hC1
  rcases bool_or (decide (t10 ≤ 5)) with b13 | b13
  ·replace h := VM.cond_t V.toVI b13 h
   obtain ⟨t14, s16, ht15, h⟩ := VM.bind_some V.toVI h
   obtain ⟨_, hc17, h⟩ := VM.opt_some V.toVI h
   refine S.draw2 (Y := fun Q => ∃ (_ _ _ _ _ _ : Unit), Q [(5, .int .i64 t10), (0, V.val), (3, bp b1 0)] [V.rep s12, Box b1 [.int .i64 a1.Kind, .int .i64 a1.Rights, .int .i64 a1.Obj, .int .i64 a1.Badge, .int .i64 a1.Guard, .int .i64 a1.Bits], F]) (Z := fun Q => ∀ (_ _ _ _ : Unit), Q [(4, .bool (decide (t14 ≤ (w64 (96 - (bshl .i64 1 t10))))))] [V.rep s16, Box b1 [.int .i64 a1.Kind, .int .i64 a1.Rights, .int .i64 a1.Obj, .int .i64 a1.Badge, .int .i64 a1.Guard, .int .i64 a1.Bits], F]) (T := [tS 5 (.int .i64 t10), tS 0 (V.val), tS 3 (bp b1 0), tR (V.rep s12), tR (Box b1 [.int .i64 a1.Kind, .int .i64 a1.Rights, .int .i64 a1.Obj, .int .i64 a1.Badge, .int .i64 a1.Guard, .int .i64 a1.Bits]), tR (F), tS 20 (.int .i64 t10), tS 21 (.bool (decide (t10 ≤ 5))), tS 22 (.bool (decide (t10 ≤ 5))), tS 23 (V.val), tS 24 (bp b1 2), tS 25 (.int .i64 a1.Obj), tR (V.rep s16), tS 26 (.int .i64 t14), tS 27 (.int .i64 t10), tS 28 (.int .i64 (bshl .i64 1 t10)), tS 29 (.int .i64 (w64 (96 - (bshl .i64 1 t10)))), tS 30 (.bool (decide (t14 ≤ (w64 (96 - (bshl .i64 1 t10)))))), tS 31 (.bool (decide (t14 ≤ (w64 (96 - (bshl .i64 1 t10)))))), tS 4 (.bool (decide (t14 ≤ (w64 (96 - (bshl .i64 1 t10))))))]) (D := [⟨[0], [], [6]⟩, ⟨[6], [], [7]⟩, ⟨[7], [], [8]⟩, ⟨[1, 8], [], [9]⟩, ⟨[2, 8], [], [10]⟩, ⟨[8, 10, 4], [], [11]⟩, ⟨[8, 9, 11], [3], [12, 13]⟩, ⟨[0, 8], [], [14]⟩, ⟨[8, 14], [], [15]⟩, ⟨[8, 15], [], [16]⟩, ⟨[8, 13, 16], [], [17]⟩, ⟨[8, 17], [], [18]⟩, ⟨[18], [], [19]⟩]) (ini := [0, 1, 2, 3, 4, 5]) (fin := [19, 12, 4, 5]) (bf := [[], [0], [0, 1], [0, 1, 2], [0, 1, 2], [0, 1, 2, 4], [0, 1, 2, 3, 4, 5], [0, 1, 2], [0, 1, 2, 7], [0, 1, 2, 7, 8], [0, 1, 2, 3, 4, 5, 6, 7, 8, 9], [0, 1, 2, 3, 4, 5, 6, 7, 8, 9, 10], [0, 1, 2, 3, 4, 5, 6, 7, 8, 9, 10, 11]]) (by kernel_rfl) (by kernel_rfl) (fun Q => by kernel_rfl) (fun x w h1 h2 => ⟨(), (), (), (), (), (), EnvAll.of h1 ⟨rfl, rfl, rfl, trivial⟩, h2⟩) (fun Q => by kernel_rfl) ⟨?_, ?_, ?_, ?_, ?_, ?_, ?_, ?_, ?_, ?_, ?_, ?_, ?_, trivial⟩ ?_
   ·rintro Fr _
    exact mv rfl <| nz2 rfl () () rfl
   ·rintro Fr _
    exact vv (opv_leq rfl rfl) <| nz2 rfl () () rfl
   ·rintro Fr _
    exact mv rfl <| nz2 rfl () () rfl
   ·rintro Fr _ _
    exact SO.takeT rfl rfl rfl b13 <| mv rfl <| nz3 rfl () () () rfl
   ·rintro Fr _ _
    exact SO.takeT rfl rfl rfl b13 <| fa Tryz.underlying45 rfl Tryz.sizeOf3 rfl rfl <| nz3 rfl () () () rfl
   ·rintro Fr _ _ _
    exact SO.takeT rfl rfl rfl b13 <| ld Tryz.isAgg3 rfl rfl <| nz4 rfl () () () () rfl
   ·rintro Fr _ _ _ _
    refine SO.takeT rfl rfl rfl b13 <| SO.call (pre := [V.rep _]) rfl Tryz.call27 rfl rfl rfl (lay_Field.ct V _ _ _ _ _ ht15) trivial ?_
    rintro _ _ ⟨rfl, rfl⟩
    exact SO.nilZ fun a w h1 h2 h3 h4 h5 => PZ.of2 (Y := fun Q => ∃ (_ _ _ _ _ : Unit), Q [(22, .bool (decide (t10 ≤ 5))), (23, V.val), (25, .int .i64 a1.Obj), (26, .int .i64 t14)] [V.rep s16]) (fun Q => by kernel_rfl) h1 h3 h5 ⟨(), (), (), (), (), EnvAll.of h2 ⟨rfl, rfl, rfl, rfl, trivial⟩, h4⟩
   ·rintro Fr _ _
    exact SO.takeT rfl rfl rfl b13 <| mv rfl <| nz3 rfl () () () rfl
   ·rintro Fr _ _
    exact SO.takeT rfl rfl rfl b13 <| vv (opv_shl rfl rfl (of_decide_eq_true (chk_some hc17))) <| nz3 rfl () () () rfl
   ·rintro Fr _ _
    exact SO.takeT rfl rfl rfl b13 <| vv (opv_sub rfl rfl) <| nz3 rfl () () () rfl
   ·rintro Fr _ _ _
    exact SO.takeT rfl rfl rfl b13 <| vv (opv_leq rfl rfl) <| nz4 rfl () () () () rfl
   ·rintro Fr _ _
    exact vv (opv_pick_t' b13 rfl rfl) <| nz3 rfl () () () rfl
   ·rintro Fr _
    exact ag rfl <| nz2 rfl () () rfl
   rintro _ _ _ _
   refine tt [(4, .bool (decide (t14 ≤ (w64 (96 - (bshl .i64 1 t10))))))] rfl ?_
   obtain ⟨hq, rfl⟩ := VM.ret_some V.toVI h
   cases hq
   refine S.b2 <| S.b2 <| S.b2 ?_
   refine S.to ?_ (hk1 () trivial)
   exact ⟨rfl, trivial⟩
  replace h := VM.cond_f V.toVI b13 h
  refine S.draw2 (Y := fun Q => ∃ (_ _ _ _ _ _ : Unit), Q [(5, .int .i64 t10), (0, V.val), (3, bp b1 0)] [V.rep s12, Box b1 [.int .i64 a1.Kind, .int .i64 a1.Rights, .int .i64 a1.Obj, .int .i64 a1.Badge, .int .i64 a1.Guard, .int .i64 a1.Bits], F]) (Z := fun Q => ∀ (_ _ _ _ : Unit), Q [(4, .bool false)] [V.rep s12, Box b1 [.int .i64 a1.Kind, .int .i64 a1.Rights, .int .i64 a1.Obj, .int .i64 a1.Badge, .int .i64 a1.Guard, .int .i64 a1.Bits], F]) (T := [tS 5 (.int .i64 t10), tS 0 (V.val), tS 3 (bp b1 0), tR (V.rep s12), tR (Box b1 [.int .i64 a1.Kind, .int .i64 a1.Rights, .int .i64 a1.Obj, .int .i64 a1.Badge, .int .i64 a1.Guard, .int .i64 a1.Bits]), tR (F), tS 20 (.int .i64 t10), tS 21 (.bool (decide (t10 ≤ 5))), tS 22 (.bool (decide (t10 ≤ 5))), tS 23 (undef), tS 24 (undef), tS 25 (undef), tS 26 (undef), tS 27 (undef), tS 28 (undef), tS 29 (undef), tS 30 (undef), tS 31 (.bool false), tS 4 (.bool false)]) (D := [⟨[0], [], [6]⟩, ⟨[6], [], [7]⟩, ⟨[7], [], [8]⟩, ⟨[8], [], [9]⟩, ⟨[8], [], [10]⟩, ⟨[8], [], [11]⟩, ⟨[8], [], [12]⟩, ⟨[8], [], [13]⟩, ⟨[8], [], [14]⟩, ⟨[8], [], [15]⟩, ⟨[8], [], [16]⟩, ⟨[8, 16], [], [17]⟩, ⟨[17], [], [18]⟩]) (ini := [0, 1, 2, 3, 4, 5]) (fin := [18, 3, 4, 5]) (bf := [[], [0], [0, 1], [0, 1, 2], [0, 1, 2], [0, 1, 2, 4], [0, 1, 2, 3, 4, 5], [0, 1, 2], [0, 1, 2, 7], [0, 1, 2, 7, 8], [0, 1, 2, 3, 4, 5, 6, 7, 8, 9], [0, 1, 2, 3, 4, 5, 6, 7, 8, 9, 10], [0, 1, 2, 3, 4, 5, 6, 7, 8, 9, 10, 11]]) (by kernel_rfl) (by kernel_rfl) (fun Q => by kernel_rfl) (fun x w h1 h2 => ⟨(), (), (), (), (), (), EnvAll.of h1 ⟨rfl, rfl, rfl, trivial⟩, h2⟩) (fun Q => by kernel_rfl) ⟨?_, ?_, ?_, ?_, ?_, ?_, ?_, ?_, ?_, ?_, ?_, ?_, ?_, trivial⟩ ?_
  ·rintro Fr _
   exact mv rfl <| nz2 rfl () () rfl
  ·rintro Fr _
   exact vv (opv_leq rfl rfl) <| nz2 rfl () () rfl
  ·rintro Fr _
   exact mv rfl <| nz2 rfl () () rfl
  ·rintro Fr _
   exact pf rfl rfl rfl b13 <| nz2 rfl () () rfl
  ·rintro Fr _
   exact pf rfl rfl rfl b13 <| nz2 rfl () () rfl
  ·rintro Fr _
   exact pf rfl rfl rfl b13 <| nz2 rfl () () rfl
  ·rintro Fr _
   exact pf rfl rfl rfl b13 <| nz2 rfl () () rfl
  ·rintro Fr _
   exact pf rfl rfl rfl b13 <| nz2 rfl () () rfl
  ·rintro Fr _
   exact pf rfl rfl rfl b13 <| nz2 rfl () () rfl
  ·rintro Fr _
   exact pf rfl rfl rfl b13 <| nz2 rfl () () rfl
  ·rintro Fr _
   exact pf rfl rfl rfl b13 <| nz2 rfl () () rfl
  ·rintro Fr _ _
   exact vv (opv_pick_f' b13 rfl rfl) <| nz3 rfl () () () rfl
  ·rintro Fr _
   exact ag rfl <| nz2 rfl () () rfl
  rintro _ _ _ _
  refine tt [(4, .bool false)] rfl ?_
  obtain ⟨hq, rfl⟩ := VM.ret_some V.toVI h
  cases hq
  refine S.b2 <| S.b2 <| S.b2 ?_
  refine S.to ?_ (hk1 () trivial)
  exact ⟨rfl, trivial⟩
 rintro _ -
 replace h := hJ1
 obtain ⟨hq, rfl⟩ := VM.ret_some V.toVI h
 cases hq
 exact S.b1 <| S.drop <| S.b1 <| S.b1 <| S.ret1 Tryz.func116 rfl rfl (hR · _ _ ⟨rfl, rfl⟩)
def guard_fits.f (a0 : Int) (a1 : Int) : Option (Bool) :=
  some ((((decide (0 ≤ a0)) && (decide (a0 < 65536))) && (decide (0 ≤ a1))) && (decide (a1 ≤ 16)))
set_option maxHeartbeats 8000000 in
set_option maxRecDepth 100000 in
theorem guard_fits.ct (a0 : Int) (a1 : Int) (r0 : Bool) (h : guard_fits.f a0 a1 = some r0) :
    Ct Tryz.prog 171 [.int .i64 a0, .int .i64 a1] (fun _ => True) [] (fun u H' => u = .bool r0 ∧ H' = []) := by
 unfold guard_fits.f at h
 refine Ct.intro (n := 19) Tryz.func171 rfl rfl rfl ?_
 intro R w0 F hF hR
 refine S.seq <| S.region <| ag rfl <| SO.nil <| S.seq <| S.region <| mv rfl <| vv (opv_geq rfl rfl) <| mv rfl ?_
 refine SO.cut 3 10 (.bool ((decide (0 ≤ a0)) && (decide (a0 < 65536)))) [F] (fun l2 hk2 => ?_) ?_
 ·rcases bool_or (decide (0 ≤ a0)) with b1 | b1
  ·exact SO.takeT rfl rfl rfl b1 <| mv rfl <| SO.takeT rfl rfl rfl b1 <| vv (opv_lss rfl rfl) <| vv (opv_pick_t' b1 rfl rfl) <| hk2.fitc (m := 3) rfl (and_t b1) rfl
  exact pf rfl rfl rfl b1 <| pf rfl rfl rfl b1 <| vv (opv_pick_f' b1 rfl rfl) <| hk2.fitc (m := 3) rfl (and_f b1) rfl
 refine mv rfl ?_
 refine SO.cut 3 14 (.bool (((decide (0 ≤ a0)) && (decide (a0 < 65536))) && (decide (0 ≤ a1)))) [F] (fun l2 hk2 => ?_) ?_
 ·rcases bool_or ((decide (0 ≤ a0)) && (decide (a0 < 65536))) with b2 | b2
  ·exact SO.takeT rfl rfl rfl b2 <| mv rfl <| SO.takeT rfl rfl rfl b2 <| vv (opv_geq rfl rfl) <| vv (opv_pick_t' b2 rfl rfl) <| hk2.fitc (m := 3) rfl (and_t b2) rfl
  exact pf rfl rfl rfl b2 <| pf rfl rfl rfl b2 <| vv (opv_pick_f' b2 rfl rfl) <| hk2.fitc (m := 3) rfl (and_f b2) rfl
 refine mv rfl ?_
 refine SO.cut 3 18 (.bool ((((decide (0 ≤ a0)) && (decide (a0 < 65536))) && (decide (0 ≤ a1))) && (decide (a1 ≤ 16)))) [F] (fun l2 hk2 => ?_) ?_
 ·rcases bool_or (((decide (0 ≤ a0)) && (decide (a0 < 65536))) && (decide (0 ≤ a1))) with b3 | b3
  ·exact SO.takeT rfl rfl rfl b3 <| mv rfl <| SO.takeT rfl rfl rfl b3 <| vv (opv_leq rfl rfl) <| vv (opv_pick_t' b3 rfl rfl) <| hk2.fitc (m := 3) rfl (and_t b3) rfl
  exact pf rfl rfl rfl b3 <| pf rfl rfl rfl b3 <| vv (opv_pick_f' b3 rfl rfl) <| hk2.fitc (m := 3) rfl (and_f b3) rfl
 refine ag rfl <| SO.nil <| tt [(4, .bool ((((decide (0 ≤ a0)) && (decide (a0 < 65536))) && (decide (0 ≤ a1))) && (decide (a1 ≤ 16))))] rfl ?_
 cases h
 exact S.ret1 Tryz.func171 rfl rfl (hR · _ _ ⟨rfl, rfl⟩)
def guard_Top.f (a0 : Int) (a1 : Int) (a2 : Int) : Option ((Int × (Option Int))) :=
  (guard_fits.f a0 a1).bind fun t1 => bif (!t1) || (decide (a2 < 0)) then (some (0, (some 1))) else (bif decide (a1 < a2) then (some (0, (some 4))) else ((chk (decide (0 ≤ a1))).bind fun _ => (chk (decide (0 ≤ w64 (a1 - a2)))).bind fun _ => some (bshr .i64 (band .i64 a0 (w64 ((bshl .i64 1 a1) - 1))) (w64 (a1 - a2)), none)))
set_option maxHeartbeats 8000000 in
set_option maxRecDepth 100000 in
theorem guard_Top.ct (a0 : Int) (a1 : Int) (a2 : Int) (r0 : Int) (r1 : Option Int) (h : guard_Top.f a0 a1 a2 = some (r0, r1)) :
    Ct Tryz.prog 172 [.int .i64 a0, .int .i64 a1, .int .i64 a2] (fun _ => True) [] (fun u H' => u = .tuple #[.int .i64 r0, errV 98 r1] ∧ H' = []) := by
 unfold guard_Top.f at h
 refine Ct.intro (n := 32) Tryz.func172 rfl rfl rfl ?_
 intro R w0 F hF hR
 refine S.seq <| S.region <| ag rfl <| ag rfl <| SO.nil <| S.seq <| S.block <| S.seq <| S.region <| mv rfl <| mv rfl ?_
 obtain ⟨t1, ht2, h⟩ := opt_bind h
 refine SO.call (pre := []) rfl Tryz.call171 rfl rfl rfl (guard_fits.ct _ _ _ ht2) trivial ?_
 rintro _ _ ⟨rfl, rfl⟩
 refine vv (opv_not rfl) <| mv rfl ?_
 refine SO.cut 3 16 (.bool ((!t1) || (decide (a2 < 0)))) [F] (fun l2 hk2 => ?_) ?_
 ·rcases bool_or (!t1) with b3 | b3
  ·exact pf rfl rfl rfl b3 <| pf rfl rfl rfl b3 <| vv (opv_pick_t' b3 rfl rfl) <| hk2.fitc (m := 3) rfl (or_t b3) rfl
  exact SO.takeT rfl rfl rfl b3 <| mv rfl <| SO.takeT rfl rfl rfl b3 <| vv (opv_lss rfl rfl) <| vv (opv_pick_f' b3 rfl rfl) <| hk2.fitc (m := 3) rfl (or_f b3) rfl
 refine ag rfl <| SO.nil ?_
 rcases bool_or ((!t1) || (decide (a2 < 0))) with b4 | b4
 ·replace h := cond_t b4 h
  refine S.condT rfl b4 <| S.seq <| S.region <| vv (opv_iface Tryz.underlying98 rfl rfl) <| ag rfl <| ag rfl <| SO.nil <| tt [(6, .int .i64 0), (7, errV 98 (some 1))] rfl ?_
  cases h
  exact S.ret2 Tryz.func172 rfl rfl rfl (hR · _ _ ⟨rfl, rfl⟩)
 replace h := cond_f b4 h
 refine S.condF rfl b4 <| S.seq <| S.region <| mv rfl <| mv rfl <| vv (opv_gtr rfl rfl) <| ag rfl <| SO.nil <| tt [(0, .int .i64 a0), (1, .int .i64 a1), (2, .int .i64 a2), (6, .int .i64 0), (7, errV 98 none), (18, .bool (decide (a1 < a2)))] rfl ?_
 rcases bool_or (decide (a1 < a2)) with b5 | b5
 ·replace h := cond_t b5 h
  refine S.condT rfl b5 <| S.seq <| S.region <| vv (opv_iface Tryz.underlying98 rfl rfl) <| ag rfl <| ag rfl <| SO.nil ?_
  cases h
  exact S.ret2 Tryz.func172 rfl rfl rfl (hR · _ _ ⟨rfl, rfl⟩)
 replace h := cond_f b5 h
 refine S.condF rfl b5 <| S.skip <| S.inBlock <| S.seq <| S.region <| mv rfl <| mv rfl ?_
 obtain ⟨_, hc6, h⟩ := opt_bind h
 refine vv (opv_shl rfl rfl (of_decide_eq_true (chk_some hc6))) <| vv (opv_sub rfl rfl) <| vv (opv_and rfl rfl) <| mv rfl <| mv rfl <| vv (opv_sub rfl rfl) ?_
 obtain ⟨_, hc7, h⟩ := opt_bind h
 refine vv (opv_shr rfl rfl (of_decide_eq_true (chk_some hc7))) <| ag rfl <| ag rfl <| SO.nil <| tt [(6, .int .i64 (bshr .i64 (band .i64 a0 (w64 ((bshl .i64 1 a1) - 1))) (w64 (a1 - a2)))), (7, errV 98 none)] rfl ?_
 cases h
 exact S.ret2 Tryz.func172 rfl rfl rfl (hR · _ _ ⟨rfl, rfl⟩)
def guard_Walk.f (a0 : Int) (a1 : Int) (a2 : Int) (a3 : Int) (a4 : Int) : Option ((Int × Int × (Option Int))) :=
  (guard_fits.f a0 a1).bind fun t1 => (bif (((!t1) || (decide (a3 < 0))) || (decide (8 < a3))) || (decide (a2 < 0)) then (some true) else ((chk (decide (0 ≤ a3))).bind fun _ => some (decide ((bshl .i64 1 a3) ≤ a2)))).bind fun c7 => bif (c7 || (decide (a4 < 0))) || (decide (5 < a4)) then (some (0, 0, (some 1))) else (bif decide (a1 < (w64 (a3 + a4))) then (some (0, 0, (some 4))) else ((guard_Top.f a0 a1 a3).bind fun (t14, t15) => bif t15.isSome || (t14 != a2) then (some (0, 0, (some 3))) else ((guard_Top.f a0 (w64 (a1 - a3)) a4).bind fun (t19, t20) => some (t19, w64 ((w64 (a1 - a3)) - a4), t20))))
set_option maxHeartbeats 8000000 in
set_option maxRecDepth 100000 in
theorem guard_Walk.ct (a0 : Int) (a1 : Int) (a2 : Int) (a3 : Int) (a4 : Int) (r0 : Int) (r1 : Int) (r2 : Option Int) (h : guard_Walk.f a0 a1 a2 a3 a4 = some (r0, r1, r2)) :
    Ct Tryz.prog 117 [.int .i64 a0, .int .i64 a1, .int .i64 a2, .int .i64 a3, .int .i64 a4] (fun _ => True) [] (fun u H' => u = .tuple #[.int .i64 r0, .int .i64 r1, errV 98 r2] ∧ H' = []) := by
 unfold guard_Walk.f at h
 refine Ct.intro (n := 86) Tryz.func117 rfl rfl rfl ?_
 intro R w0 F hF hR
 refine S.seq <| S.region <| ag rfl <| ag rfl <| ag rfl <| SO.nil <| S.seq <| S.block <| S.seq <| S.region <| mv rfl <| mv rfl ?_
 obtain ⟨t1, ht2, h⟩ := opt_bind h
 refine SO.call (pre := []) rfl Tryz.call171 rfl rfl rfl (guard_fits.ct _ _ _ ht2) trivial ?_
 rintro _ _ ⟨rfl, rfl⟩
 refine vv (opv_not rfl) <| mv rfl ?_
 refine SO.cut 3 25 (.bool ((!t1) || (decide (a3 < 0)))) [F] (fun l2 hk2 => ?_) ?_
 ·rcases bool_or (!t1) with b3 | b3
  ·exact pf rfl rfl rfl b3 <| pf rfl rfl rfl b3 <| vv (opv_pick_t' b3 rfl rfl) <| hk2.fitc (m := 3) rfl (or_t b3) rfl
  exact SO.takeT rfl rfl rfl b3 <| mv rfl <| SO.takeT rfl rfl rfl b3 <| vv (opv_lss rfl rfl) <| vv (opv_pick_f' b3 rfl rfl) <| hk2.fitc (m := 3) rfl (or_f b3) rfl
 refine mv rfl ?_
 refine SO.cut 3 29 (.bool (((!t1) || (decide (a3 < 0))) || (decide (8 < a3)))) [F] (fun l2 hk2 => ?_) ?_
 ·rcases bool_or ((!t1) || (decide (a3 < 0))) with b4 | b4
  ·exact pf rfl rfl rfl b4 <| pf rfl rfl rfl b4 <| vv (opv_pick_t' b4 rfl rfl) <| hk2.fitc (m := 3) rfl (or_t b4) rfl
  exact SO.takeT rfl rfl rfl b4 <| mv rfl <| SO.takeT rfl rfl rfl b4 <| vv (opv_gtr rfl rfl) <| vv (opv_pick_f' b4 rfl rfl) <| hk2.fitc (m := 3) rfl (or_f b4) rfl
 refine mv rfl ?_
 refine SO.cut 3 33 (.bool ((((!t1) || (decide (a3 < 0))) || (decide (8 < a3))) || (decide (a2 < 0)))) [F] (fun l2 hk2 => ?_) ?_
 ·rcases bool_or (((!t1) || (decide (a3 < 0))) || (decide (8 < a3))) with b5 | b5
  ·exact pf rfl rfl rfl b5 <| pf rfl rfl rfl b5 <| vv (opv_pick_t' b5 rfl rfl) <| hk2.fitc (m := 3) rfl (or_t b5) rfl
  exact SO.takeT rfl rfl rfl b5 <| mv rfl <| SO.takeT rfl rfl rfl b5 <| vv (opv_lss rfl rfl) <| vv (opv_pick_f' b5 rfl rfl) <| hk2.fitc (m := 3) rfl (or_f b5) rfl
 refine mv rfl ?_
 obtain ⟨c7, hc8, hgk⟩ := opt_bind h
 refine SO.cut 5 39 (.bool c7) [F] (fun l2 hk2 => ?_) ?_
 ·clear hgk
  replace h := hc8
  rcases bool_or ((((!t1) || (decide (a3 < 0))) || (decide (8 < a3))) || (decide (a2 < 0))) with b6 | b6
  ·replace h := cond_t b6 h
   refine pf rfl rfl rfl b6 <| pf rfl rfl rfl b6 <| pf rfl rfl rfl b6 <| pf rfl rfl rfl b6 ?_
   cases h
   exact vv (opv_pick_t' b6 rfl rfl) <| hk2.fitc (m := 5) rfl (rfl) rfl
  replace h := cond_f b6 h
  refine SO.takeT rfl rfl rfl b6 <| mv rfl <| SO.takeT rfl rfl rfl b6 <| mv rfl <| SO.takeT rfl rfl rfl b6 ?_
  obtain ⟨_, hc9, h⟩ := opt_bind h
  refine vv (opv_shl rfl rfl (of_decide_eq_true (chk_some hc9))) <| SO.takeT rfl rfl rfl b6 <| vv (opv_geq rfl rfl) ?_
  cases h
  exact vv (opv_pick_f' b6 rfl rfl) <| hk2.fitc (m := 5) rfl (rfl) rfl
 clear hc8
 replace h := hgk
 refine mv rfl ?_
 refine SO.cut 3 43 (.bool (c7 || (decide (a4 < 0)))) [F] (fun l2 hk2 => ?_) ?_
 ·rcases bool_or c7 with b10 | b10
  ·exact pf rfl rfl rfl b10 <| pf rfl rfl rfl b10 <| vv (opv_pick_t' b10 rfl rfl) <| hk2.fitc (m := 3) rfl (or_t b10) rfl
  exact SO.takeT rfl rfl rfl b10 <| mv rfl <| SO.takeT rfl rfl rfl b10 <| vv (opv_lss rfl rfl) <| vv (opv_pick_f' b10 rfl rfl) <| hk2.fitc (m := 3) rfl (or_f b10) rfl
 refine mv rfl ?_
 refine SO.cut 3 47 (.bool ((c7 || (decide (a4 < 0))) || (decide (5 < a4)))) [F] (fun l2 hk2 => ?_) ?_
 ·rcases bool_or (c7 || (decide (a4 < 0))) with b11 | b11
  ·exact pf rfl rfl rfl b11 <| pf rfl rfl rfl b11 <| vv (opv_pick_t' b11 rfl rfl) <| hk2.fitc (m := 3) rfl (or_t b11) rfl
  exact SO.takeT rfl rfl rfl b11 <| mv rfl <| SO.takeT rfl rfl rfl b11 <| vv (opv_gtr rfl rfl) <| vv (opv_pick_f' b11 rfl rfl) <| hk2.fitc (m := 3) rfl (or_f b11) rfl
 refine ag rfl <| SO.nil <| tt [(0, .int .i64 a0), (1, .int .i64 a1), (2, .int .i64 a2), (3, .int .i64 a3), (4, .int .i64 a4), (10, .int .i64 0), (11, .int .i64 0), (12, errV 98 none), (17, .bool ((c7 || (decide (a4 < 0))) || (decide (5 < a4))))] rfl ?_
 rcases bool_or ((c7 || (decide (a4 < 0))) || (decide (5 < a4))) with b12 | b12
 ·replace h := cond_t b12 h
  refine S.condT rfl b12 <| S.seq <| S.region <| vv (opv_iface Tryz.underlying98 rfl rfl) <| ag rfl <| ag rfl <| ag rfl <| SO.nil <| tt [(10, .int .i64 0), (11, .int .i64 0), (12, errV 98 (some 1))] rfl ?_
  cases h
  exact S.ret3 Tryz.func117 rfl rfl rfl rfl (hR · _ _ ⟨rfl, rfl⟩)
 replace h := cond_f b12 h
 refine S.condF rfl b12 <| S.seq <| S.region <| mv rfl <| mv rfl <| vv (opv_add rfl rfl) <| mv rfl <| vv (opv_gtr rfl rfl) <| ag rfl <| SO.nil ?_
 rcases bool_or (decide (a1 < (w64 (a3 + a4)))) with b13 | b13
 ·replace h := cond_t b13 h
  refine S.condT rfl b13 <| S.seq <| S.region <| vv (opv_iface Tryz.underlying98 rfl rfl) <| ag rfl <| ag rfl <| ag rfl <| SO.nil <| tt [(10, .int .i64 0), (11, .int .i64 0), (12, errV 98 (some 4))] rfl ?_
  cases h
  exact S.ret3 Tryz.func117 rfl rfl rfl rfl (hR · _ _ ⟨rfl, rfl⟩)
 replace h := cond_f b13 h
 refine S.condF rfl b13 <| S.skip <| S.inBlock <| S.seq <| S.seq <| S.region <| mv rfl <| mv rfl <| mv rfl ?_
 obtain ⟨⟨t14, t15⟩, ht16, h⟩ := opt_bind h
 refine SO.call (pre := []) rfl Tryz.call172 rfl rfl rfl (guard_Top.ct _ _ _ _ _ ht16) trivial ?_
 rintro _ _ ⟨rfl, rfl⟩
 refine mv rfl <| vv (opv_extract rfl rfl) <| vv (opv_extract rfl rfl) <| ag rfl <| ag rfl <| SO.nil <| tt [(0, .int .i64 a0), (1, .int .i64 a1), (2, .int .i64 a2), (3, .int .i64 a3), (4, .int .i64 a4), (10, .int .i64 0), (11, .int .i64 0), (12, errV 98 none), (13, .int .i64 t14), (14, errV 98 t15)] rfl <| S.seq <| S.region <| mv rfl <| vv (opv_neqN (e := t15) Tryz.underlying74 rfl) <| mv rfl ?_
 refine SO.cut 4 69 (.bool (t15.isSome || (t14 != a2))) [F] (fun l2 hk2 => ?_) ?_
 ·rcases bool_or t15.isSome with b17 | b17
  ·exact pf rfl rfl rfl b17 <| pf rfl rfl rfl b17 <| pf rfl rfl rfl b17 <| vv (opv_pick_t' b17 rfl rfl) <| hk2.fitc (m := 4) rfl (or_t b17) rfl
  exact SO.takeT rfl rfl rfl b17 <| mv rfl <| SO.takeT rfl rfl rfl b17 <| mv rfl <| SO.takeT rfl rfl rfl b17 <| vv (opv_neq rfl rfl) <| vv (opv_pick_f' b17 rfl rfl) <| hk2.fitc (m := 4) rfl (or_f b17) rfl
 refine SO.nil ?_
 rcases bool_or (t15.isSome || (t14 != a2)) with b18 | b18
 ·replace h := cond_t b18 h
  refine S.condT rfl b18 <| S.seq <| S.region <| vv (opv_iface Tryz.underlying98 rfl rfl) <| ag rfl <| ag rfl <| ag rfl <| SO.nil <| tt [(10, .int .i64 0), (11, .int .i64 0), (12, errV 98 (some 3))] rfl ?_
  cases h
  exact S.ret3 Tryz.func117 rfl rfl rfl rfl (hR · _ _ ⟨rfl, rfl⟩)
 replace h := cond_f b18 h
 refine S.condF rfl b18 <| S.skip <| S.seq <| S.region <| mv rfl <| mv rfl <| vv (opv_sub rfl rfl) <| ag rfl <| SO.nil <| tt [(0, .int .i64 a0), (1, .int .i64 (w64 (a1 - a3))), (4, .int .i64 a4), (10, .int .i64 0), (11, .int .i64 0), (12, errV 98 none)] rfl <| S.seq <| S.region <| mv rfl <| mv rfl <| mv rfl ?_
 obtain ⟨⟨t19, t20⟩, ht21, h⟩ := opt_bind h
 refine SO.call (pre := []) rfl Tryz.call172 rfl rfl rfl (guard_Top.ct _ _ _ _ _ ht21) trivial ?_
 rintro _ _ ⟨rfl, rfl⟩
 refine mv rfl <| vv (opv_extract rfl rfl) <| vv (opv_extract rfl rfl) <| ag rfl <| ag rfl <| SO.nil <| tt [(1, .int .i64 (w64 (a1 - a3))), (4, .int .i64 a4), (10, .int .i64 0), (11, .int .i64 0), (12, errV 98 none), (15, .int .i64 t19), (16, errV 98 t20)] rfl <| S.seq <| S.region <| mv rfl <| mv rfl <| mv rfl <| vv (opv_sub rfl rfl) <| mv rfl <| ag rfl <| ag rfl <| ag rfl <| SO.nil <| tt [(10, .int .i64 t19), (11, .int .i64 (w64 ((w64 (a1 - a3)) - a4))), (12, errV 98 t20)] rfl ?_
 cases h
 exact S.ret3 Tryz.func117 rfl rfl rfl rfl (hR · _ _ ⟨rfl, rfl⟩)
def cspace_Lookup.l1 (a2 : Int) : Nat → (Int × Int × Int × Int × Int × Int × Int × Int) → VM (Brk (Int × (Option Int)) (Int × Int × Int × Int × Int × Int))
  | 0, _ => VM.fail
  | k + 1, (x27_1, x8_1, y1_0_1, y1_1_1, y1_2_1, y1_3_1, y1_4_1, y1_5_1) => bif decide (x27_1 < 16) then ((lay_Field.f y1_2_1 2).bind fun t9 => (VM.opt (guard_Walk.f a2 x8_1 y1_4_1 y1_5_1 t9)).bind fun (t12, t13, t14) => bif t14.isSome then (VM.ret (Brk.ret (0, t14))) else ((lay_Field.f y1_2_1 1).bind fun t17 => bif t13 == 0 then (VM.ret (Brk.ret (w64 (t17 + t12), none))) else ((cspace_Cap.f k (w64 (t17 + t12))).bind fun t21 => (cspace_Fine.f t21).bind fun t24 => bif !t24 then (VM.ret (Brk.nx (t21.Kind, t21.Rights, t21.Obj, t21.Badge, t21.Guard, t21.Bits))) else (cspace_Lookup.l1 a2 k (w64 (x27_1 + 1), t13, t21.Kind, t21.Rights, t21.Obj, t21.Badge, t21.Guard, t21.Bits))))) else (VM.ret (Brk.nx (y1_0_1, y1_1_1, y1_2_1, y1_3_1, y1_4_1, y1_5_1)))
def cspace_Lookup.f (k : Nat) (a1 : api_Cap) (a2 : Int) : VM ((Int × (Option Int))) :=
  bif (decide (a2 < 0)) || (decide (65536 ≤ a2)) then (VM.ret (0, (some 1))) else ((cspace_Fine.f a1).bind fun t4 => bif !t4 then (VM.ret (0, (some 5))) else ((cspace_Lookup.l1 a2 k (0, 16, a1.Kind, a1.Rights, a1.Obj, a1.Badge, a1.Guard, a1.Bits)).bind fun o1 => Brk.go o1 (fun r => VM.ret r) (fun (y1_0_e1, y1_1_e1, y1_2_e1, y1_3_e1, y1_4_e1, y1_5_e1) => VM.ret (0, (some 4)))))
set_option maxHeartbeats 8000000 in
set_option maxRecDepth 100000 in
theorem cspace_Lookup.ct (V : VW Tryz.prog) (k : Nat) (a1 : api_Cap) (a2 : Int) (r0 : Int) (r1 : Option Int) (s s' : V.S) (h : VM.run V.toVI (cspace_Lookup.f k a1 a2) s = some ((r0, r1), s')) :
    Ct Tryz.prog 57 [V.val, .agg #[.int .i64 a1.Kind, .int .i64 a1.Rights, .int .i64 a1.Obj, .int .i64 a1.Badge, .int .i64 a1.Guard, .int .i64 a1.Bits], .int .i64 a2] (fun _ => True) [V.rep s] (fun u H' => u = .tuple #[.int .i64 r0, errV 98 r1] ∧ H' = [V.rep s']) := by
 unfold cspace_Lookup.f at h
 refine Ct.intro (n := 66) Tryz.func57 rfl rfl rfl ?_
 intro R w0 F hF hR
 refine S.seq <| S.region <| SO.box rfl rfl rfl fun b1 => ag rfl <| ag rfl <| SO.nil <| S.seq <| S.block <| S.seq <| S.region <| mv rfl <| vv (opv_lss rfl rfl) <| mv rfl ?_
 refine SO.cut 3 19 (.bool ((decide (a2 < 0)) || (decide (65536 ≤ a2)))) [Box b1 [.int .i64 a1.Kind, .int .i64 a1.Rights, .int .i64 a1.Obj, .int .i64 a1.Badge, .int .i64 a1.Guard, .int .i64 a1.Bits], V.rep s, F] (fun l2 hk2 => ?_) ?_
 ·rcases bool_or (decide (a2 < 0)) with b2 | b2
  ·exact pf rfl rfl rfl b2 <| pf rfl rfl rfl b2 <| vv (opv_pick_t' b2 rfl rfl) <| SO.b2 <| SO.b2 <| SO.b2 <| hk2.fitc (m := 3) rfl (or_t b2) rfl
  exact SO.takeT rfl rfl rfl b2 <| mv rfl <| SO.takeT rfl rfl rfl b2 <| vv (opv_geq rfl rfl) <| vv (opv_pick_f' b2 rfl rfl) <| SO.b2 <| SO.b2 <| SO.b2 <| hk2.fitc (m := 3) rfl (or_f b2) rfl
 refine ag rfl <| SO.nil ?_
 rcases bool_or ((decide (a2 < 0)) || (decide (65536 ≤ a2))) with b3 | b3
 ·replace h := VM.cond_t V.toVI b3 h
  refine S.condT rfl b3 <| S.seq <| S.region <| vv (opv_iface Tryz.underlying98 rfl rfl) <| ag rfl <| ag rfl <| SO.nil <| tt [(6, .int .i64 0), (7, errV 98 (some 1))] rfl ?_
  obtain ⟨hq, rfl⟩ := VM.ret_some V.toVI h
  cases hq
  exact S.drop <| S.b1 <| S.b1 <| S.ret2 Tryz.func57 rfl rfl rfl (hR · _ _ ⟨rfl, rfl⟩)
 replace h := VM.cond_f V.toVI b3 h
 refine S.condF rfl b3 <| S.seq <| S.region <| mv rfl <| SO.loadN rfl Tryz.isAgg45 Tryz.sizeOf45 rfl rfl rfl ?_
 obtain ⟨t4, s6, ht5, h⟩ := VM.bind_some V.toVI h
 refine SO.b1 <| SO.call (pre := [V.rep _]) rfl Tryz.call116 rfl rfl rfl (cspace_Fine.ct V _ _ _ _ ht5) trivial ?_
 rintro _ _ ⟨rfl, rfl⟩
 refine vv (opv_not rfl) <| ag rfl <| SO.nil <| tt [(0, V.val), (2, .int .i64 a2), (4, bp b1 0), (6, .int .i64 0), (7, errV 98 none), (21, .bool (!t4))] rfl ?_
 rcases bool_or (!t4) with b7 | b7
 ·replace h := VM.cond_t V.toVI b7 h
  refine S.condT rfl b7 <| S.seq <| S.region <| vv (opv_iface Tryz.underlying98 rfl rfl) <| ag rfl <| ag rfl <| SO.nil ?_
  obtain ⟨hq, rfl⟩ := VM.ret_some V.toVI h
  cases hq
  exact S.b1 <| S.drop <| S.b1 <| S.b1 <| S.ret2 Tryz.func57 rfl rfl rfl (hR · _ _ ⟨rfl, rfl⟩)
 replace h := VM.cond_f V.toVI b7 h
 refine S.condF rfl b7 <| S.skip <| S.inBlock <| S.seq <| S.region <| ag rfl <| SO.nil <| S.seq <| S.seq <| S.region <| mv rfl <| SO.nil ?_
 obtain ⟨o1, so_1, hlp1, h⟩ := VM.bind_some V.toVI h
 refine S.b2 <| S.b2 <| S.b2 <| tt [(27, .int .i64 0), (8, .int .i64 16), (0, V.val), (2, .int .i64 a2), (4, bp b1 0), (6, .int .i64 0), (7, errV 98 none)] rfl ?_
 refine S.forloop (X := ((Int × Int × Int × Int × Int × Int × Int × Int) × V.S) × Unit) (O := (Brk (Int × (Option Int)) (Int × Int × Int × Int × Int × Int)) × V.S) (fun m x => VM.run V.toVI (cspace_Lookup.l1 a2 m x.1.1) x.1.2) (fun x => match x with | (((x27_1, x8_1, y1_0_1, y1_1_1, y1_2_1, y1_3_1, y1_4_1, y1_5_1), sx_1), _) => [(27, .int .i64 x27_1), (8, .int .i64 x8_1), (0, V.val), (2, .int .i64 a2), (4, bp b1 0), (6, .int .i64 0), (7, errV 98 none)]) (fun x => match x with | (((x27_1, x8_1, y1_0_1, y1_1_1, y1_2_1, y1_3_1, y1_4_1, y1_5_1), sx_1), _) => [V.rep sx_1, Box b1 [.int .i64 y1_0_1, .int .i64 y1_1_1, .int .i64 y1_2_1, .int .i64 y1_3_1, .int .i64 y1_4_1, .int .i64 y1_5_1], F]) (fun Sk oo => match oo with | (o', so') => (∀ r', o' = Brk.ret r' → VM.run V.toVI (VM.ret r') so' = some ((r0, r1), s')) ∧ ∀ j : (Int × Int × Int × Int × Int × Int), match j with | (y1_0_e1, y1_1_e1, y1_2_e1, y1_3_e1, y1_4_e1, y1_5_e1) => ∀ _ : Unit, o' = Brk.nx (y1_0_e1, y1_1_e1, y1_2_e1, y1_3_e1, y1_4_e1, y1_5_e1) → Sk [(6, .int .i64 0), (7, errV 98 none)] [V.rep so', Box b1 [.int .i64 y1_0_e1, .int .i64 y1_1_e1, .int .i64 y1_2_e1, .int .i64 y1_3_e1, .int .i64 y1_4_e1, .int .i64 y1_5_e1], F]) (fun _ => rfl) ?_ (m := k) (x := (((0, 16, a1.Kind, a1.Rights, a1.Obj, a1.Badge, a1.Guard, a1.Bits), s6), ())) hlp1 ?_
 ·clear h hlp1
  intro k x o_1 h hK1 ih1
  obtain ⟨⟨⟨x27_1, x8_1, y1_0_1, y1_1_1, y1_2_1, y1_3_1, y1_4_1, y1_5_1⟩, sx_1⟩, _⟩ := x
  obtain ⟨o_1, so_1_⟩ := o_1
  replace h : VM.run V.toVI (cspace_Lookup.l1 a2 (k + 1) (x27_1, x8_1, y1_0_1, y1_1_1, y1_2_1, y1_3_1, y1_4_1, y1_5_1)) sx_1 = some (o_1, so_1_) := h
  first | rw [cspace_Lookup.l1] at h | unfold cspace_Lookup.l1 at h
  refine S.seq <| S.region <| vv (opv_lss rfl rfl) <| SO.nil <| S.seq ?_
  rcases bool_or (decide (x27_1 < 16)) with b8 | b8
  ·replace h := VM.cond_t V.toVI b8 h
   refine S.condT rfl b8 <| S.skip <| S.seq <| S.block <| S.seq ?_
   obtain ⟨t9, s11, ht10, h⟩ := VM.bind_some V.toVI h
   obtain ⟨⟨t12, t13, t14⟩, ht15, h⟩ := VM.opt_some V.toVI h
   refine S.draw2 (Y := fun Q => ∃ (_ _ _ _ _ _ _ _ : Unit), Q [(2, .int .i64 a2), (8, .int .i64 x8_1), (4, bp b1 0), (0, V.val), (27, .int .i64 x27_1), (6, .int .i64 0), (7, errV 98 none)] [V.rep sx_1, Box b1 [.int .i64 y1_0_1, .int .i64 y1_1_1, .int .i64 y1_2_1, .int .i64 y1_3_1, .int .i64 y1_4_1, .int .i64 y1_5_1], F]) (Z := fun Q => ∀ (_ _ _ _ _ _ _ _ _ _ : Unit), Q [(27, .int .i64 x27_1), (6, .int .i64 0), (7, errV 98 none), (0, V.val), (2, .int .i64 a2), (4, bp b1 0), (9, .int .i64 t12), (10, .int .i64 t13), (11, errV 98 t14)] [V.rep s11, Box b1 [.int .i64 y1_0_1, .int .i64 y1_1_1, .int .i64 y1_2_1, .int .i64 y1_3_1, .int .i64 y1_4_1, .int .i64 y1_5_1], F]) (T := [tS 2 (.int .i64 a2), tS 8 (.int .i64 x8_1), tS 4 (bp b1 0), tS 0 (V.val), tE [(27, .int .i64 x27_1), (6, .int .i64 0), (7, errV 98 none)], tR (V.rep sx_1), tR (Box b1 [.int .i64 y1_0_1, .int .i64 y1_1_1, .int .i64 y1_2_1, .int .i64 y1_3_1, .int .i64 y1_4_1, .int .i64 y1_5_1]), tR (F), tS 30 (.int .i64 a2), tS 31 (.int .i64 x8_1), tS 32 (bp b1 4), tS 33 (.int .i64 y1_4_1), tS 34 (bp b1 5), tS 35 (.int .i64 y1_5_1), tS 36 (V.val), tS 37 (bp b1 2), tS 38 (.int .i64 y1_2_1), tR (V.rep s11), tS 39 (.int .i64 t9), tS 40 (.tuple #[.int .i64 t12, .int .i64 t13, errV 98 t14]), tS 29 (.tuple #[.int .i64 t12, .int .i64 t13, errV 98 t14]), tS 41 (.int .i64 t12), tS 42 (.int .i64 t13), tS 43 (errV 98 t14), tS 9 (.int .i64 t12), tS 10 (.int .i64 t13), tS 11 (errV 98 t14)]) (D := [⟨[0], [], [8]⟩, ⟨[1], [], [9]⟩, ⟨[2], [], [10]⟩, ⟨[10, 6], [], [11]⟩, ⟨[2], [], [12]⟩, ⟨[12, 6], [], [13]⟩, ⟨[3], [], [14]⟩, ⟨[2], [], [15]⟩, ⟨[15, 6], [], [16]⟩, ⟨[14, 16], [5], [17, 18]⟩, ⟨[8, 9, 11, 13, 18], [], [19]⟩, ⟨[19], [], [20]⟩, ⟨[20], [], [21]⟩, ⟨[20], [], [22]⟩, ⟨[20], [], [23]⟩, ⟨[21], [], [24]⟩, ⟨[22], [], [25]⟩, ⟨[23], [], [26]⟩]) (ini := [0, 1, 2, 3, 4, 5, 6, 7]) (fin := [4, 3, 0, 2, 24, 25, 26, 17, 6, 7]) (bf := [[], [], [], [2], [], [4], [], [], [7], [6, 7, 8], [0, 1, 2, 3, 4, 5, 6, 7, 8, 9], [0, 1, 2, 3, 4, 5, 6, 7, 8, 9, 10], [0, 1, 2, 3, 4, 5, 6, 7, 8, 9, 10, 11], [0, 1, 2, 3, 4, 5, 6, 7, 8, 9, 10, 11], [0, 1, 2, 3, 4, 5, 6, 7, 8, 9, 10, 11], [0, 1, 2, 3, 4, 5, 6, 7, 8, 9, 10, 11, 12], [0, 1, 2, 3, 4, 5, 6, 7, 8, 9, 10, 11, 12, 13, 15], [0, 1, 2, 3, 4, 5, 6, 7, 8, 9, 10, 11, 12, 13, 14, 15, 16]]) (by kernel_rfl) (by kernel_rfl) (fun Q => by kernel_rfl) (fun x w h1 h2 => ⟨(), (), (), (), (), (), (), (), EnvAll.of h1 ⟨rfl, rfl, rfl, rfl, rfl, rfl, rfl, trivial⟩, h2⟩) (fun Q => by kernel_rfl) ⟨?_, ?_, ?_, ?_, ?_, ?_, ?_, ?_, ?_, ?_, ?_, ?_, ?_, ?_, ?_, ?_, ?_, ?_, trivial⟩ ?_
   ·rintro Fr _
    exact mv rfl <| nz2 rfl () () rfl
   ·rintro Fr _
    exact mv rfl <| nz2 rfl () () rfl
   ·rintro Fr _
    exact fa Tryz.underlying45 rfl Tryz.sizeOf3 rfl rfl <| nz2 rfl () () rfl
   ·rintro Fr _ _
    exact ld Tryz.isAgg3 rfl rfl <| nz3 rfl () () () rfl
   ·rintro Fr _
    exact fa Tryz.underlying45 rfl Tryz.sizeOf3 rfl rfl <| nz2 rfl () () rfl
   ·rintro Fr _ _
    exact ld Tryz.isAgg3 rfl rfl <| nz3 rfl () () () rfl
   ·rintro Fr _
    exact mv rfl <| nz2 rfl () () rfl
   ·rintro Fr _
    exact fa Tryz.underlying45 rfl Tryz.sizeOf3 rfl rfl <| nz2 rfl () () rfl
   ·rintro Fr _ _
    exact ld Tryz.isAgg3 rfl rfl <| nz3 rfl () () () rfl
   ·rintro Fr _ _ _
    refine SO.call (pre := [V.rep _]) rfl Tryz.call27 rfl rfl rfl (lay_Field.ct V _ _ _ _ _ ht10) trivial ?_
    rintro _ _ ⟨rfl, rfl⟩
    exact nz4 rfl () () () () rfl
   ·refine spec2 (X := fun Q => ∀ (_ _ _ _ _ : Unit), Q [(30, .int .i64 a2), (31, .int .i64 x8_1), (33, .int .i64 y1_4_1), (35, .int .i64 y1_5_1), (39, .int .i64 t9)] []) (fun Q => by kernel_rfl) ?_
    rintro Fr _ _ _ _ _
    refine SO.call (pre := []) rfl Tryz.call117 rfl rfl rfl (guard_Walk.ct _ _ _ _ _ _ _ _ ht15) trivial ?_
    rintro _ _ ⟨rfl, rfl⟩
    exact SO.nilZ fun a w h1 h2 h3 h4 h5 => PZ.of2 (Y := fun Q => ∃ (_ _ _ _ _ _ : Unit), Q [(30, .int .i64 a2), (31, .int .i64 x8_1), (33, .int .i64 y1_4_1), (35, .int .i64 y1_5_1), (39, .int .i64 t9), (40, .tuple #[.int .i64 t12, .int .i64 t13, errV 98 t14])] []) (fun Q => by kernel_rfl) h1 h3 h5 ⟨(), (), (), (), (), (), EnvAll.of h2 ⟨rfl, rfl, rfl, rfl, rfl, rfl, trivial⟩, h4⟩
   ·rintro Fr _
    exact mv rfl <| nz2 rfl () () rfl
   ·rintro Fr _
    exact vv (opv_extract rfl rfl) <| nz2 rfl () () rfl
   ·rintro Fr _
    exact vv (opv_extract rfl rfl) <| nz2 rfl () () rfl
   ·rintro Fr _
    exact vv (opv_extract rfl rfl) <| nz2 rfl () () rfl
   ·rintro Fr _
    exact ag rfl <| nz2 rfl () () rfl
   ·rintro Fr _
    exact ag rfl <| nz2 rfl () () rfl
   ·rintro Fr _
    exact ag rfl <| nz2 rfl () () rfl
   rintro _ _ _ _ _ _ _ _ _ _
   refine tt [(27, .int .i64 x27_1), (6, .int .i64 0), (7, errV 98 none), (0, V.val), (2, .int .i64 a2), (4, bp b1 0), (9, .int .i64 t12), (10, .int .i64 t13), (11, errV 98 t14)] rfl <| S.seq <| S.seq <| S.region <| mv rfl <| vv (opv_neqN (e := t14) Tryz.underlying74 rfl) <| SO.nil ?_
   rcases bool_or t14.isSome with b16 | b16
   ·replace h := VM.cond_t V.toVI b16 h
    refine S.condT rfl b16 <| S.seq <| S.region <| mv rfl <| ag rfl <| ag rfl <| SO.nil <| tt [(6, .int .i64 0), (7, errV 98 t14)] rfl ?_
    obtain ⟨hq, rfl⟩ := VM.ret_some V.toVI h
    cases hq
    replace h := hK1.1 _ rfl
    obtain ⟨hq, rfl⟩ := VM.ret_some V.toVI h
    cases hq
    exact S.b1 <| S.drop <| S.b1 <| S.b1 <| S.ret2 Tryz.func57 rfl rfl rfl (hR · _ _ ⟨rfl, rfl⟩)
   replace h := VM.cond_f V.toVI b16 h
   refine S.condF rfl b16 <| S.skip <| S.seq <| S.region <| mv rfl <| fa Tryz.underlying45 rfl Tryz.sizeOf3 rfl rfl <| SO.b1 <| ld Tryz.isAgg3 rfl rfl ?_
   obtain ⟨t17, s19, ht18, h⟩ := VM.bind_some V.toVI h
   refine SO.b1 <| SO.call (pre := [V.rep _]) rfl Tryz.call27 rfl rfl rfl (lay_Field.ct V _ _ _ _ _ ht18) trivial ?_
   rintro _ _ ⟨rfl, rfl⟩
   refine mv rfl <| vv (opv_add rfl rfl) <| ag rfl <| SO.nil <| tt [(27, .int .i64 x27_1), (6, .int .i64 0), (7, errV 98 none), (0, V.val), (2, .int .i64 a2), (4, bp b1 0), (10, .int .i64 t13), (12, .int .i64 (w64 (t17 + t12)))] rfl <| S.seq <| S.seq <| S.region <| mv rfl <| vv (opv_eql rfl rfl) <| SO.nil ?_
   rcases bool_or (t13 == 0) with b20 | b20
   ·replace h := VM.cond_t V.toVI b20 h
    refine S.condT rfl b20 <| S.seq <| S.region <| mv rfl <| ag rfl <| ag rfl <| SO.nil <| tt [(6, .int .i64 (w64 (t17 + t12))), (7, errV 98 none)] rfl ?_
    obtain ⟨hq, rfl⟩ := VM.ret_some V.toVI h
    cases hq
    replace h := hK1.1 _ rfl
    obtain ⟨hq, rfl⟩ := VM.ret_some V.toVI h
    cases hq
    exact S.b1 <| S.drop <| S.b1 <| S.b1 <| S.ret2 Tryz.func57 rfl rfl rfl (hR · _ _ ⟨rfl, rfl⟩)
   replace h := VM.cond_f V.toVI b20 h
   refine S.condF rfl b20 <| S.skip <| S.seq <| S.region <| mv rfl <| ag rfl <| SO.nil <| S.seq <| S.region <| mv rfl <| mv rfl ?_
   obtain ⟨t21, s23, ht22, h⟩ := VM.bind_some V.toVI h
   refine SO.call (pre := [V.rep _]) rfl Tryz.call14 rfl rfl rfl (cspace_Cap.ct V _ _ _ _ _ ht22) trivial ?_
   rintro _ _ ⟨rfl, rfl⟩
   refine SO.b1 <| SO.storeN Tryz.sizeOf45 rfl rfl rfl rfl rfl rfl <| SO.nil <| tt [(27, .int .i64 x27_1), (6, .int .i64 0), (7, errV 98 none), (0, V.val), (2, .int .i64 a2), (4, bp b1 0), (8, .int .i64 t13)] rfl <| S.seq <| S.region <| mv rfl <| SO.loadN rfl Tryz.isAgg45 Tryz.sizeOf45 rfl rfl rfl ?_
   obtain ⟨t24, s26, ht25, h⟩ := VM.bind_some V.toVI h
   refine SO.b1 <| SO.call (pre := [V.rep _]) rfl Tryz.call116 rfl rfl rfl (cspace_Fine.ct V _ _ _ _ ht25) trivial ?_
   rintro _ _ ⟨rfl, rfl⟩
   refine vv (opv_not rfl) <| SO.nil ?_
   rcases bool_or (!t24) with b27 | b27
   ·replace h := VM.cond_t V.toVI b27 h
    refine S.condT rfl b27 <| S.exit rfl ?_
    obtain ⟨hq, rfl⟩ := VM.ret_some V.toVI h
    cases hq
    refine S.b2 <| S.b2 <| S.b2 ?_
    refine S.to ?_ (hK1.2 (t21.Kind, t21.Rights, t21.Obj, t21.Badge, t21.Guard, t21.Bits) () rfl)
    exact ⟨rfl, rfl, trivial⟩
   replace h := VM.cond_f V.toVI b27 h
   refine S.condF rfl b27 <| S.skip <| S.inBlock <| S.region <| vv (opv_add rfl rfl) <| mv rfl <| SO.nil <| S.b2 <| S.b2 <| S.b2 ?_
   refine S.to ?_ (ih1 (((w64 (x27_1 + 1), t13, t21.Kind, t21.Rights, t21.Obj, t21.Badge, t21.Guard, t21.Bits), s26), ()) h)
   exact ⟨rfl, rfl, rfl, rfl, rfl, rfl, rfl, trivial⟩
  replace h := VM.cond_f V.toVI b8 h
  refine S.condF rfl b8 <| S.exit rfl ?_
  obtain ⟨hq, rfl⟩ := VM.ret_some V.toVI h
  cases hq
  refine S.b2 <| S.b2 <| S.b2 ?_
  refine S.to ?_ (hK1.2 (y1_0_1, y1_1_1, y1_2_1, y1_3_1, y1_4_1, y1_5_1) () rfl)
  exact ⟨rfl, rfl, trivial⟩
 refine ⟨fun r' e' => ?_, ?_⟩
 ·subst e'
  have h9 := VM.of_ret h
  exact h9
 rintro ⟨y1_0_e1, y1_1_e1, y1_2_e1, y1_3_e1, y1_4_e1, y1_5_e1⟩ _ e'
 subst e'
 replace h := VM.of_nx h
 refine S.seq <| S.region <| vv (opv_iface Tryz.underlying98 rfl rfl) <| ag rfl <| ag rfl <| SO.nil ?_
 obtain ⟨hq, rfl⟩ := VM.ret_some V.toVI h
 cases hq
 exact S.b1 <| S.drop <| S.b1 <| S.b1 <| S.ret2 Tryz.func57 rfl rfl rfl (hR · _ _ ⟨rfl, rfl⟩)
def tcb_Root.f (k : Nat) (a1 : Int) : VM (api_Cap) :=
  (lay_Is.f a1 5).bind fun t2 => bif !t2 then (VM.ret (⟨0, 0, 0, 0, 0, 0⟩ : api_Cap)) else ((lay_Field.f a1 7).bind fun t6 => (VM.opt (pack_Get.f k (wu64 t6))).bind fun (t9, t10) => bif t10.isSome then (VM.ret (⟨0, 0, 0, 0, 0, 0⟩ : api_Cap)) else (VM.ret t9))
set_option maxHeartbeats 8000000 in
set_option maxRecDepth 100000 in
theorem tcb_Root.ct (V : VW Tryz.prog) (k : Nat) (a1 : Int) (r0 : api_Cap) (s s' : V.S) (h : VM.run V.toVI (tcb_Root.f k a1) s = some (r0, s')) :
    Ct Tryz.prog 58 [V.val, .int .i64 a1] (fun _ => True) [V.rep s] (fun u H' => u = .agg #[.int .i64 r0.Kind, .int .i64 r0.Rights, .int .i64 r0.Obj, .int .i64 r0.Badge, .int .i64 r0.Guard, .int .i64 r0.Bits] ∧ H' = [V.rep s']) := by
 unfold tcb_Root.f at h
 refine Ct.intro (n := 24) Tryz.func58 rfl rfl rfl ?_
 intro R w0 F hF hR
 refine S.seq <| S.region <| SO.alloc rfl Tryz.zeroValue45 rfl fun b1 => SO.nil <| S.seq <| S.seq <| S.region <| mv rfl <| mv rfl ?_
 obtain ⟨t2, s4, ht3, h⟩ := VM.bind_some V.toVI h
 refine SO.b1 <| SO.call (pre := [V.rep _]) rfl Tryz.call29 rfl rfl rfl (lay_Is.ct V _ _ _ _ _ ht3) trivial ?_
 rintro _ _ ⟨rfl, rfl⟩
 refine vv (opv_not rfl) <| SO.nil ?_
 rcases bool_or (!t2) with b5 | b5
 ·replace h := VM.cond_t V.toVI b5 h
  refine S.condT rfl b5 <| S.seq <| S.region <| vv (opv_build (v := .agg #[.int .i64 0, .int .i64 0, .int .i64 0, .int .i64 0, .int .i64 0, .int .i64 0]) rfl (by intro w; kernel_rfl)) <| SO.b1 <| SO.storeN Tryz.sizeOf45 rfl rfl rfl rfl rfl rfl <| SO.nil <| tt [(4, bp b1 0)] rfl ?_
  obtain ⟨hq, rfl⟩ := VM.ret_some V.toVI h
  cases hq
  exact S.b2 <| S.b2 <| S.b2 <| S.retC Tryz.func58 rfl rfl Tryz.isAgg45 Tryz.sizeOf45 rfl rfl (fun w hs hk => hR w _ _ ⟨rfl, rfl⟩ hs.drop hk)
 replace h := VM.cond_f V.toVI b5 h
 refine S.condF rfl b5 <| S.skip <| S.seq <| S.region <| mv rfl <| mv rfl ?_
 obtain ⟨t6, s8, ht7, h⟩ := VM.bind_some V.toVI h
 refine SO.call (pre := [V.rep _]) rfl Tryz.call27 rfl rfl rfl (lay_Field.ct V _ _ _ _ _ ht7) trivial ?_
 rintro _ _ ⟨rfl, rfl⟩
 refine vv (opv_conv Tryz.underlying3 Tryz.underlying55 rfl) ?_
 obtain ⟨⟨t9, t10⟩, ht11, h⟩ := VM.opt_some V.toVI h
 refine SO.call (pre := []) rfl Tryz.call32 rfl rfl rfl (pack_Get.ct _ _ _ _ ht11) trivial ?_
 rintro _ _ ⟨rfl, rfl⟩
 refine mv rfl <| vv (opv_extract rfl rfl) <| vv (opv_extract rfl rfl) <| SO.alloc rfl Tryz.zeroValue45 rfl fun b12 => SO.storeN Tryz.sizeOf45 rfl rfl rfl rfl rfl rfl <| ag rfl <| SO.nil <| tt [(4, bp b1 0), (5, bp b12 0), (6, errV 98 t10)] rfl <| S.seq <| S.seq <| S.region <| mv rfl <| vv (opv_neqN (e := t10) Tryz.underlying74 rfl) <| SO.nil ?_
 rcases bool_or t10.isSome with b13 | b13
 ·replace h := VM.cond_t V.toVI b13 h
  refine S.condT rfl b13 <| S.seq <| S.region <| vv (opv_build (v := .agg #[.int .i64 0, .int .i64 0, .int .i64 0, .int .i64 0, .int .i64 0, .int .i64 0]) rfl (by intro w; kernel_rfl)) <| SO.b2 <| SO.storeN Tryz.sizeOf45 rfl rfl rfl rfl rfl rfl <| SO.nil ?_
  obtain ⟨hq, rfl⟩ := VM.ret_some V.toVI h
  cases hq
  exact S.b1 <| S.drop <| S.b2 <| S.b2 <| S.b2 <| S.retC Tryz.func58 rfl rfl Tryz.isAgg45 Tryz.sizeOf45 rfl rfl (fun w hs hk => hR w _ _ ⟨rfl, rfl⟩ hs.drop hk)
 replace h := VM.cond_f V.toVI b13 h
 refine S.condF rfl b13 <| S.skip <| S.seq <| S.region <| SO.loadN rfl Tryz.isAgg45 Tryz.sizeOf45 rfl rfl rfl <| SO.b2 <| SO.storeN Tryz.sizeOf45 rfl rfl rfl rfl rfl rfl <| SO.nil ?_
 obtain ⟨hq, rfl⟩ := VM.ret_some V.toVI h
 cases hq
 exact S.b1 <| S.drop <| S.b2 <| S.b2 <| S.b2 <| S.retC Tryz.func58 rfl rfl Tryz.isAgg45 Tryz.sizeOf45 rfl rfl (fun w hs hk => hR w _ _ ⟨rfl, rfl⟩ hs.drop hk)
def invoke_doer_find.f (k : Nat) (a0 : invoke_doer) (a1 : Int) : VM ((Int × (Option Int))) :=
  (tcb_Root.f k a0.t).bind fun t1 => (cspace_Lookup.f k t1 a1).bind fun (t4, t5) => VM.ret (t4, t5)
set_option maxHeartbeats 8000000 in
set_option maxRecDepth 100000 in
theorem invoke_doer_find.ct (V : VW Tryz.prog) (k : Nat) (bp0 : Nat) (a0 : invoke_doer) (a1 : Int) (r0 : Int) (r1 : Option Int) (s s' : V.S) (h : VM.run V.toVI (invoke_doer_find.f k a0 a1) s = some ((r0, r1), s')) :
    Ct Tryz.prog 35 [bp bp0 0, .int .i64 a1] (fun _ => True) [Box bp0 [V.val, .int .i64 a0.t, .int .i64 a0.c.Op, .int .i64 a0.c.Cap, .int .i64 a0.c.A, .int .i64 a0.c.B, .int .i64 a0.c.C, .int .i64 a0.c.D, .int .i64 a0.slot, .int .i64 a0.cap.Kind, .int .i64 a0.cap.Rights, .int .i64 a0.cap.Obj, .int .i64 a0.cap.Badge, .int .i64 a0.cap.Guard, .int .i64 a0.cap.Bits], V.rep s] (fun u H' => u = .tuple #[.int .i64 r0, errV 98 r1] ∧ H' = [Box bp0 [V.val, .int .i64 a0.t, .int .i64 a0.c.Op, .int .i64 a0.c.Cap, .int .i64 a0.c.A, .int .i64 a0.c.B, .int .i64 a0.c.C, .int .i64 a0.c.D, .int .i64 a0.slot, .int .i64 a0.cap.Kind, .int .i64 a0.cap.Rights, .int .i64 a0.cap.Obj, .int .i64 a0.cap.Badge, .int .i64 a0.cap.Guard, .int .i64 a0.cap.Bits], V.rep s']) := by
 unfold invoke_doer_find.f at h
 refine Ct.intro (n := 23) Tryz.func35 rfl rfl rfl ?_
 intro R w0 F hF hR
 refine S.seq <| S.region <| ag rfl <| ag rfl <| SO.nil <| S.seq ?_
 obtain ⟨t1, s3, ht2, h⟩ := VM.bind_some V.toVI h
 obtain ⟨⟨t4, t5⟩, s7, ht6, h⟩ := VM.bind_some V.toVI h
 refine S.draw2 (Y := fun Q => ∃ (_ _ _ _ _ : Unit), Q [(0, bp bp0 0), (1, .int .i64 a1)] [Box bp0 [V.val, .int .i64 a0.t, .int .i64 a0.c.Op, .int .i64 a0.c.Cap, .int .i64 a0.c.A, .int .i64 a0.c.B, .int .i64 a0.c.C, .int .i64 a0.c.D, .int .i64 a0.slot, .int .i64 a0.cap.Kind, .int .i64 a0.cap.Rights, .int .i64 a0.cap.Obj, .int .i64 a0.cap.Badge, .int .i64 a0.cap.Guard, .int .i64 a0.cap.Bits], V.rep s, F]) (Z := fun Q => ∀ (_ _ _ _ _ : Unit), Q [(4, .int .i64 t4), (5, errV 98 t5)] [Box bp0 [V.val, .int .i64 a0.t, .int .i64 a0.c.Op, .int .i64 a0.c.Cap, .int .i64 a0.c.A, .int .i64 a0.c.B, .int .i64 a0.c.C, .int .i64 a0.c.D, .int .i64 a0.slot, .int .i64 a0.cap.Kind, .int .i64 a0.cap.Rights, .int .i64 a0.cap.Obj, .int .i64 a0.cap.Badge, .int .i64 a0.cap.Guard, .int .i64 a0.cap.Bits], V.rep s7, F]) (T := [tS 0 (bp bp0 0), tS 1 (.int .i64 a1), tR (Box bp0 [V.val, .int .i64 a0.t, .int .i64 a0.c.Op, .int .i64 a0.c.Cap, .int .i64 a0.c.A, .int .i64 a0.c.B, .int .i64 a0.c.C, .int .i64 a0.c.D, .int .i64 a0.slot, .int .i64 a0.cap.Kind, .int .i64 a0.cap.Rights, .int .i64 a0.cap.Obj, .int .i64 a0.cap.Badge, .int .i64 a0.cap.Guard, .int .i64 a0.cap.Bits]), tR (V.rep s), tR (F), tS 6 (bp bp0 0), tS 7 (bp bp0 0), tS 8 (bp bp0 0), tS 9 (V.val), tS 10 (bp bp0 0), tS 11 (bp bp0 0), tS 12 (bp bp0 0), tS 13 (V.val), tS 14 (bp bp0 0), tS 15 (bp bp0 0), tS 16 (bp bp0 1), tS 17 (.int .i64 a0.t), tR (V.rep s3), tS 18 (.agg #[.int .i64 t1.Kind, .int .i64 t1.Rights, .int .i64 t1.Obj, .int .i64 t1.Badge, .int .i64 t1.Guard, .int .i64 t1.Bits]), tS 19 (.int .i64 a1), tR (V.rep s7), tS 20 (.tuple #[.int .i64 t4, errV 98 t5]), tS 21 (.int .i64 t4), tS 22 (errV 98 t5), tS 4 (.int .i64 t4), tS 5 (errV 98 t5)]) (D := [⟨[0], [], [5]⟩, ⟨[5], [], [6]⟩, ⟨[6], [], [7]⟩, ⟨[7, 2], [], [8]⟩, ⟨[0], [], [9]⟩, ⟨[9], [], [10]⟩, ⟨[10], [], [11]⟩, ⟨[11, 2], [], [12]⟩, ⟨[0], [], [13]⟩, ⟨[13], [], [14]⟩, ⟨[14], [], [15]⟩, ⟨[15, 2], [], [16]⟩, ⟨[12, 16], [3], [17, 18]⟩, ⟨[1], [], [19]⟩, ⟨[8, 18, 19], [17], [20, 21]⟩, ⟨[21], [], [22]⟩, ⟨[21], [], [23]⟩, ⟨[22], [], [24]⟩, ⟨[23], [], [25]⟩]) (ini := [0, 1, 2, 3, 4]) (fin := [24, 25, 2, 20, 4]) (bf := [[], [0], [0, 1], [0, 1, 2], [], [4], [4, 5], [4, 5, 6], [], [8], [8, 9], [8, 9, 10], [4, 5, 6, 7, 8, 9, 10, 11], [], [0, 1, 2, 3, 4, 5, 6, 7, 8, 9, 10, 11, 12, 13], [0, 1, 2, 3, 4, 5, 6, 7, 8, 9, 10, 11, 12, 13, 14], [0, 1, 2, 3, 4, 5, 6, 7, 8, 9, 10, 11, 12, 13, 14], [0, 1, 2, 3, 4, 5, 6, 7, 8, 9, 10, 11, 12, 13, 14, 15, 16], [0, 1, 2, 3, 4, 5, 6, 7, 8, 9, 10, 11, 12, 13, 14, 15, 16, 17]]) (by kernel_rfl) (by kernel_rfl) (fun Q => by kernel_rfl) (fun x w h1 h2 => ⟨(), (), (), (), (), EnvAll.of h1 ⟨rfl, rfl, trivial⟩, h2⟩) (fun Q => by kernel_rfl) ⟨?_, ?_, ?_, ?_, ?_, ?_, ?_, ?_, ?_, ?_, ?_, ?_, ?_, ?_, ?_, ?_, ?_, ?_, ?_, trivial⟩ ?_
 ·rintro Fr _
  exact mv rfl <| nz2 rfl () () rfl
 ·rintro Fr _
  exact nc rfl <| nz2 rfl () () rfl
 ·rintro Fr _
  exact fa Tryz.underlying72 rfl Tryz.sizeOf65 rfl rfl <| nz2 rfl () () rfl
 ·rintro Fr _ _
  exact ld Tryz.isAgg65 rfl rfl <| nz3 rfl () () () rfl
 ·rintro Fr _
  exact mv rfl <| nz2 rfl () () rfl
 ·rintro Fr _
  exact nc rfl <| nz2 rfl () () rfl
 ·rintro Fr _
  exact fa Tryz.underlying72 rfl Tryz.sizeOf65 rfl rfl <| nz2 rfl () () rfl
 ·rintro Fr _ _
  exact ld Tryz.isAgg65 rfl rfl <| nz3 rfl () () () rfl
 ·rintro Fr _
  exact mv rfl <| nz2 rfl () () rfl
 ·rintro Fr _
  exact nc rfl <| nz2 rfl () () rfl
 ·rintro Fr _
  exact fa Tryz.underlying72 rfl Tryz.sizeOf3 rfl rfl <| nz2 rfl () () rfl
 ·rintro Fr _ _
  exact ld Tryz.isAgg3 rfl rfl <| nz3 rfl () () () rfl
 ·rintro Fr _ _ _
  refine SO.call (pre := [V.rep _]) rfl Tryz.call58 rfl rfl rfl (tcb_Root.ct V _ _ _ _ _ ht2) trivial ?_
  rintro _ _ ⟨rfl, rfl⟩
  exact nz4 rfl () () () () rfl
 ·rintro Fr _
  exact mv rfl <| nz2 rfl () () rfl
 ·rintro Fr _ _ _ _
  refine SO.call (pre := [V.rep _]) rfl Tryz.call57 rfl rfl rfl (cspace_Lookup.ct V _ _ _ _ _ _ _ ht6) trivial ?_
  rintro _ _ ⟨rfl, rfl⟩
  exact SO.nilZ fun a w h1 h2 h3 h4 h5 => PZ.of2 (Y := fun Q => ∃ (_ _ _ _ _ : Unit), Q [(9, V.val), (18, .agg #[.int .i64 t1.Kind, .int .i64 t1.Rights, .int .i64 t1.Obj, .int .i64 t1.Badge, .int .i64 t1.Guard, .int .i64 t1.Bits]), (19, .int .i64 a1), (20, .tuple #[.int .i64 t4, errV 98 t5])] [V.rep s7]) (fun Q => by kernel_rfl) h1 h3 h5 ⟨(), (), (), (), (), EnvAll.of h2 ⟨rfl, rfl, rfl, rfl, trivial⟩, h4⟩
 ·rintro Fr _
  exact vv (opv_extract rfl rfl) <| nz2 rfl () () rfl
 ·rintro Fr _
  exact vv (opv_extract rfl rfl) <| nz2 rfl () () rfl
 ·rintro Fr _
  exact ag rfl <| nz2 rfl () () rfl
 ·rintro Fr _
  exact ag rfl <| nz2 rfl () () rfl
 rintro _ _ _ _ _
 refine tt [(4, .int .i64 t4), (5, errV 98 t5)] rfl ?_
 obtain ⟨hq, rfl⟩ := VM.ret_some V.toVI h
 cases hq
 exact S.b2 <| S.b2 <| S.b2 <| S.ret2 Tryz.func35 rfl rfl rfl (hR · _ _ ⟨rfl, rfl⟩)
def rights_Has.f (a0 : api_Cap) (a1 : Int) : Option (Bool) :=
  some ((band .i64 a0.Rights a1) == a1)
set_option maxHeartbeats 8000000 in
set_option maxRecDepth 100000 in
theorem rights_Has.ct (a0 : api_Cap) (a1 : Int) (r0 : Bool) (h : rights_Has.f a0 a1 = some r0) :
    Ct Tryz.prog 118 [.agg #[.int .i64 a0.Kind, .int .i64 a0.Rights, .int .i64 a0.Obj, .int .i64 a0.Badge, .int .i64 a0.Guard, .int .i64 a0.Bits], .int .i64 a1] (fun _ => True) [] (fun u H' => u = .bool r0 ∧ H' = []) := by
 unfold rights_Has.f at h
 refine Ct.intro (n := 11) Tryz.func118 rfl rfl rfl ?_
 intro R w0 F hF hR
 refine S.seq <| S.region <| SO.box rfl rfl rfl fun b1 => ag rfl <| SO.nil <| S.seq <| S.region <| fa Tryz.underlying45 rfl Tryz.sizeOf3 rfl rfl <| ld Tryz.isAgg3 rfl rfl <| mv rfl <| vv (opv_and rfl rfl) <| mv rfl <| vv (opv_eql rfl rfl) <| ag rfl <| SO.nil <| tt [(4, .bool ((band .i64 a0.Rights a1) == a1))] rfl ?_
 cases h
 exact S.drop <| S.ret1 Tryz.func118 rfl rfl (hR · _ _ ⟨rfl, rfl⟩)
def invoke_is.f (a0 : api_Cap) (a1 : Int) (a2 : Int) : Option ((Option Int)) :=
  bif a0.Kind != a1 then (some (some 5)) else ((rights_Has.f a0 a2).bind fun t3 => bif !t3 then (some (some 6)) else (some none))
set_option maxHeartbeats 8000000 in
set_option maxRecDepth 100000 in
theorem invoke_is.ct (a0 : api_Cap) (a1 : Int) (a2 : Int) (r0 : Option Int) (h : invoke_is.f a0 a1 a2 = some r0) :
    Ct Tryz.prog 59 [.agg #[.int .i64 a0.Kind, .int .i64 a0.Rights, .int .i64 a0.Obj, .int .i64 a0.Badge, .int .i64 a0.Guard, .int .i64 a0.Bits], .int .i64 a1, .int .i64 a2] (fun _ => True) [] (fun u H' => u = errV 98 r0 ∧ H' = []) := by
 unfold invoke_is.f at h
 refine Ct.intro (n := 19) Tryz.func59 rfl rfl rfl ?_
 intro R w0 F hF hR
 refine S.seq <| S.region <| SO.box rfl rfl rfl fun b1 => ag rfl <| SO.nil <| S.seq <| S.block <| S.seq <| S.region <| fa Tryz.underlying45 rfl Tryz.sizeOf3 rfl rfl <| ld Tryz.isAgg3 rfl rfl <| mv rfl <| vv (opv_neq rfl rfl) <| ag rfl <| SO.nil ?_
 rcases bool_or (a0.Kind != a1) with b2 | b2
 ·replace h := cond_t b2 h
  refine S.condT rfl b2 <| S.seq <| S.region <| vv (opv_iface Tryz.underlying98 rfl rfl) <| ag rfl <| SO.nil <| tt [(6, errV 98 (some 5))] rfl ?_
  cases h
  exact S.drop <| S.ret1 Tryz.func59 rfl rfl (hR · _ _ ⟨rfl, rfl⟩)
 replace h := cond_f b2 h
 refine S.condF rfl b2 <| S.seq <| S.region <| SO.loadN rfl Tryz.isAgg45 Tryz.sizeOf45 rfl rfl rfl <| mv rfl ?_
 obtain ⟨t3, ht4, h⟩ := opt_bind h
 refine SO.call (pre := []) rfl Tryz.call118 rfl rfl rfl (rights_Has.ct _ _ _ ht4) trivial ?_
 rintro _ _ ⟨rfl, rfl⟩
 refine vv (opv_not rfl) <| ag rfl <| SO.nil <| tt [(6, errV 98 none), (13, .bool (!t3))] rfl ?_
 rcases bool_or (!t3) with b5 | b5
 ·replace h := cond_t b5 h
  refine S.condT rfl b5 <| S.seq <| S.region <| vv (opv_iface Tryz.underlying98 rfl rfl) <| ag rfl <| SO.nil ?_
  cases h
  exact S.drop <| S.ret1 Tryz.func59 rfl rfl (hR · _ _ ⟨rfl, rfl⟩)
 replace h := cond_f b5 h
 refine S.condF rfl b5 <| S.skip <| S.inBlock <| S.seq <| S.region <| ag rfl <| SO.nil ?_
 cases h
 exact S.drop <| S.ret1 Tryz.func59 rfl rfl (hR · _ _ ⟨rfl, rfl⟩)
def invoke_doer_other.f (k : Nat) (a0 : invoke_doer) (a1 : Int) (a2 : Int) : VM ((api_Cap × (Option Int))) :=
  (invoke_doer_find.f k a0 a0.c.A).bind fun (t2, t3) => bif t3.isSome then (VM.ret ((⟨0, 0, 0, 0, 0, 0⟩ : api_Cap), t3)) else ((cspace_Cap.f k t2).bind fun t7 => (VM.opt (invoke_is.f t7 a1 a2)).bind fun t11 => VM.ret (t7, t11))
set_option maxHeartbeats 8000000 in
set_option maxRecDepth 100000 in
theorem invoke_doer_other.ct (V : VW Tryz.prog) (k : Nat) (bp0 : Nat) (a0 : invoke_doer) (a1 : Int) (a2 : Int) (r0 : api_Cap) (r1 : Option Int) (s s' : V.S) (h : VM.run V.toVI (invoke_doer_other.f k a0 a1 a2) s = some ((r0, r1), s')) :
    Ct Tryz.prog 76 [bp bp0 0, .int .i64 a1, .int .i64 a2] (fun _ => True) [Box bp0 [V.val, .int .i64 a0.t, .int .i64 a0.c.Op, .int .i64 a0.c.Cap, .int .i64 a0.c.A, .int .i64 a0.c.B, .int .i64 a0.c.C, .int .i64 a0.c.D, .int .i64 a0.slot, .int .i64 a0.cap.Kind, .int .i64 a0.cap.Rights, .int .i64 a0.cap.Obj, .int .i64 a0.cap.Badge, .int .i64 a0.cap.Guard, .int .i64 a0.cap.Bits], V.rep s] (fun u H' => u = .tuple #[.agg #[.int .i64 r0.Kind, .int .i64 r0.Rights, .int .i64 r0.Obj, .int .i64 r0.Badge, .int .i64 r0.Guard, .int .i64 r0.Bits], errV 98 r1] ∧ H' = [Box bp0 [V.val, .int .i64 a0.t, .int .i64 a0.c.Op, .int .i64 a0.c.Cap, .int .i64 a0.c.A, .int .i64 a0.c.B, .int .i64 a0.c.C, .int .i64 a0.c.D, .int .i64 a0.slot, .int .i64 a0.cap.Kind, .int .i64 a0.cap.Rights, .int .i64 a0.cap.Obj, .int .i64 a0.cap.Badge, .int .i64 a0.cap.Guard, .int .i64 a0.cap.Bits], V.rep s']) := by
 unfold invoke_doer_other.f at h
 refine Ct.intro (n := 36) Tryz.func76 rfl rfl rfl ?_
 intro R w0 F hF hR
 refine S.seq <| S.region <| SO.alloc rfl Tryz.zeroValue45 rfl fun b1 => ag rfl <| SO.nil <| S.seq <| S.region <| mv rfl <| mv rfl <| nc rfl <| fa Tryz.underlying72 rfl Tryz.sizeOf30 rfl rfl <| fa Tryz.underlying30 rfl Tryz.sizeOf3 rfl rfl <| SO.b1 <| ld Tryz.isAgg3 rfl rfl ?_
 obtain ⟨⟨t2, t3⟩, s5, ht4, h⟩ := VM.bind_some V.toVI h
 refine SO.b2 <| SO.b1 <| SO.call (pre := [Box _ _, V.rep _]) rfl Tryz.call35 rfl rfl rfl (invoke_doer_find.ct V _ bp0 _ _ _ _ _ _ ht4) trivial ?_
 rintro _ _ ⟨rfl, rfl⟩
 refine mv rfl <| vv (opv_extract rfl rfl) <| vv (opv_extract rfl rfl) <| ag rfl <| ag rfl <| SO.nil <| tt [(0, bp bp0 0), (1, .int .i64 a1), (2, .int .i64 a2), (6, bp b1 0), (7, errV 98 none), (8, .int .i64 t2), (9, errV 98 t3)] rfl <| S.seq <| S.seq <| S.region <| mv rfl <| vv (opv_neqN (e := t3) Tryz.underlying74 rfl) <| SO.nil ?_
 rcases bool_or t3.isSome with b6 | b6
 ·replace h := VM.cond_t V.toVI b6 h
  refine S.condT rfl b6 <| S.seq <| S.region <| vv (opv_build (v := .agg #[.int .i64 0, .int .i64 0, .int .i64 0, .int .i64 0, .int .i64 0, .int .i64 0]) rfl (by intro w; kernel_rfl)) <| mv rfl <| SO.b2 <| SO.storeN Tryz.sizeOf45 rfl rfl rfl rfl rfl rfl <| ag rfl <| SO.nil <| tt [(6, bp b1 0), (7, errV 98 t3)] rfl ?_
  obtain ⟨hq, rfl⟩ := VM.ret_some V.toVI h
  cases hq
  exact S.b3 <| S.b3 <| S.b3 <| S.b3 <| S.retC1 Tryz.func76 rfl rfl rfl Tryz.isAgg45 Tryz.sizeOf45 rfl rfl (fun w hs hk => hR w _ _ ⟨rfl, rfl⟩ hs.drop hk)
 replace h := VM.cond_f V.toVI b6 h
 refine S.condF rfl b6 <| S.skip <| S.seq <| S.region <| mv rfl <| nc rfl <| fa Tryz.underlying72 rfl Tryz.sizeOf65 rfl rfl <| ld Tryz.isAgg65 rfl rfl <| mv rfl ?_
 obtain ⟨t7, s9, ht8, h⟩ := VM.bind_some V.toVI h
 refine SO.b1 <| SO.call (pre := [V.rep _]) rfl Tryz.call14 rfl rfl rfl (cspace_Cap.ct V _ _ _ _ _ ht8) trivial ?_
 rintro _ _ ⟨rfl, rfl⟩
 refine SO.alloc rfl Tryz.zeroValue45 rfl fun b10 => SO.storeN Tryz.sizeOf45 rfl rfl rfl rfl rfl rfl <| SO.nil <| tt [(1, .int .i64 a1), (2, .int .i64 a2), (6, bp b1 0), (7, errV 98 none), (10, bp b10 0)] rfl <| S.seq ?_
 obtain ⟨t11, ht12, h⟩ := VM.opt_some V.toVI h
 refine S.draw2 (Y := fun Q => ∃ (_ _ _ _ _ _ _ _ _ : Unit), Q [(10, bp b10 0), (1, .int .i64 a1), (2, .int .i64 a2), (6, bp b1 0)] [Box b10 [.int .i64 t7.Kind, .int .i64 t7.Rights, .int .i64 t7.Obj, .int .i64 t7.Badge, .int .i64 t7.Guard, .int .i64 t7.Bits], V.rep s9, Box bp0 [V.val, .int .i64 a0.t, .int .i64 a0.c.Op, .int .i64 a0.c.Cap, .int .i64 a0.c.A, .int .i64 a0.c.B, .int .i64 a0.c.C, .int .i64 a0.c.D, .int .i64 a0.slot, .int .i64 a0.cap.Kind, .int .i64 a0.cap.Rights, .int .i64 a0.cap.Obj, .int .i64 a0.cap.Badge, .int .i64 a0.cap.Guard, .int .i64 a0.cap.Bits], Box b1 [.int .i64 0, .int .i64 0, .int .i64 0, .int .i64 0, .int .i64 0, .int .i64 0], F]) (Z := fun Q => ∀ (_ _ _ _ _ _ _ : Unit), Q [(6, bp b1 0), (7, errV 98 t11)] [Box b10 [.int .i64 t7.Kind, .int .i64 t7.Rights, .int .i64 t7.Obj, .int .i64 t7.Badge, .int .i64 t7.Guard, .int .i64 t7.Bits], V.rep s9, Box bp0 [V.val, .int .i64 a0.t, .int .i64 a0.c.Op, .int .i64 a0.c.Cap, .int .i64 a0.c.A, .int .i64 a0.c.B, .int .i64 a0.c.C, .int .i64 a0.c.D, .int .i64 a0.slot, .int .i64 a0.cap.Kind, .int .i64 a0.cap.Rights, .int .i64 a0.cap.Obj, .int .i64 a0.cap.Badge, .int .i64 a0.cap.Guard, .int .i64 a0.cap.Bits], Box b1 [.int .i64 t7.Kind, .int .i64 t7.Rights, .int .i64 t7.Obj, .int .i64 t7.Badge, .int .i64 t7.Guard, .int .i64 t7.Bits], F]) (T := [tS 10 (bp b10 0), tS 1 (.int .i64 a1), tS 2 (.int .i64 a2), tS 6 (bp b1 0), tR (Box b10 [.int .i64 t7.Kind, .int .i64 t7.Rights, .int .i64 t7.Obj, .int .i64 t7.Badge, .int .i64 t7.Guard, .int .i64 t7.Bits]), tR (V.rep s9), tR (Box bp0 [V.val, .int .i64 a0.t, .int .i64 a0.c.Op, .int .i64 a0.c.Cap, .int .i64 a0.c.A, .int .i64 a0.c.B, .int .i64 a0.c.C, .int .i64 a0.c.D, .int .i64 a0.slot, .int .i64 a0.cap.Kind, .int .i64 a0.cap.Rights, .int .i64 a0.cap.Obj, .int .i64 a0.cap.Badge, .int .i64 a0.cap.Guard, .int .i64 a0.cap.Bits]), tR (Box b1 [.int .i64 0, .int .i64 0, .int .i64 0, .int .i64 0, .int .i64 0, .int .i64 0]), tR (F), tS 31 (.agg #[.int .i64 t7.Kind, .int .i64 t7.Rights, .int .i64 t7.Obj, .int .i64 t7.Badge, .int .i64 t7.Guard, .int .i64 t7.Bits]), tS 32 (.agg #[.int .i64 t7.Kind, .int .i64 t7.Rights, .int .i64 t7.Obj, .int .i64 t7.Badge, .int .i64 t7.Guard, .int .i64 t7.Bits]), tS 33 (.int .i64 a1), tS 34 (.int .i64 a2), tS 35 (errV 98 t11), tR (Box b1 [.int .i64 t7.Kind, .int .i64 t7.Rights, .int .i64 t7.Obj, .int .i64 t7.Badge, .int .i64 t7.Guard, .int .i64 t7.Bits]), tS 7 (errV 98 t11)]) (D := [⟨[0, 4], [], [9]⟩, ⟨[0, 4], [], [10]⟩, ⟨[1], [], [11]⟩, ⟨[2], [], [12]⟩, ⟨[10, 11, 12], [], [13]⟩, ⟨[3, 9], [7], [14]⟩, ⟨[13], [], [15]⟩]) (ini := [0, 1, 2, 3, 4, 5, 6, 7, 8]) (fin := [3, 15, 4, 5, 6, 14, 8]) (bf := [[], [], [], [], [1, 2, 3], [0, 1, 2, 3, 4], [0, 1, 2, 3, 4, 5]]) (by kernel_rfl) (by kernel_rfl) (fun Q => by kernel_rfl) (fun x w h1 h2 => ⟨(), (), (), (), (), (), (), (), (), EnvAll.of h1 ⟨rfl, rfl, rfl, rfl, trivial⟩, h2⟩) (fun Q => by kernel_rfl) ⟨?_, ?_, ?_, ?_, ?_, ?_, ?_, trivial⟩ ?_
 ·rintro Fr _ _
  exact SO.loadN rfl Tryz.isAgg45 Tryz.sizeOf45 rfl rfl rfl <| nz3 rfl () () () rfl
 ·rintro Fr _ _
  exact SO.loadN rfl Tryz.isAgg45 Tryz.sizeOf45 rfl rfl rfl <| nz3 rfl () () () rfl
 ·rintro Fr _
  exact mv rfl <| nz2 rfl () () rfl
 ·rintro Fr _
  exact mv rfl <| nz2 rfl () () rfl
 ·rintro Fr _ _ _
  refine SO.call (pre := []) rfl Tryz.call59 rfl rfl rfl (invoke_is.ct _ _ _ _ ht12) trivial ?_
  rintro _ _ ⟨rfl, rfl⟩
  exact nz4 rfl () () () () rfl
 ·rintro Fr _ _ _
  exact SO.storeN Tryz.sizeOf45 rfl rfl rfl rfl rfl rfl <| nz3 rfl () () () rfl
 ·rintro Fr _
  exact ag rfl <| nz2 rfl () () rfl
 rintro _ _ _ _ _ _ _
 refine tt [(6, bp b1 0), (7, errV 98 t11)] rfl ?_
 obtain ⟨hq, rfl⟩ := VM.ret_some V.toVI h
 cases hq
 exact S.drop <| S.b3 <| S.b1 <| S.b2 <| S.b3 <| S.retC1 Tryz.func76 rfl rfl rfl Tryz.isAgg45 Tryz.sizeOf45 rfl rfl (fun w hs hk => hR w _ _ ⟨rfl, rfl⟩ hs.drop hk)
def invoke_signed.f (a0 : api_Cap) : Option (Int) :=
  some (if a0.Badge < 1 then 1 else a0.Badge)
set_option maxHeartbeats 8000000 in
set_option maxRecDepth 100000 in
theorem invoke_signed.ct (a0 : api_Cap) (r0 : Int) (h : invoke_signed.f a0 = some r0) :
    Ct Tryz.prog 63 [.agg #[.int .i64 a0.Kind, .int .i64 a0.Rights, .int .i64 a0.Obj, .int .i64 a0.Badge, .int .i64 a0.Guard, .int .i64 a0.Bits]] (fun _ => True) [] (fun u H' => u = .int .i64 r0 ∧ H' = []) := by
 unfold invoke_signed.f at h
 refine Ct.intro (n := 6) Tryz.func63 rfl rfl rfl ?_
 intro R w0 F hF hR
 refine S.seq <| S.region <| SO.box rfl rfl rfl fun b1 => ag rfl <| SO.nil <| S.seq <| S.region <| fa Tryz.underlying45 rfl Tryz.sizeOf3 rfl rfl <| ld Tryz.isAgg3 rfl rfl <| vv (opv_max rfl rfl) <| ag rfl <| SO.nil ?_
 cases h
 exact S.drop <| S.ret1 Tryz.func63 rfl rfl (hR · _ _ ⟨rfl, rfl⟩)
def irq_Ack.f (a1 : Int) : VM ((Option Int)) :=
  (lay_Is.f a1 8).bind fun t1 => bif !t1 then (VM.ret (some 2)) else ((lay_Field.f a1 3).bind fun t5 => bif t5 == 0 then (VM.ret (some 10)) else ((lay_Put.f a1 3 0).bind fun _ => VM.ret none))
set_option maxHeartbeats 8000000 in
set_option maxRecDepth 100000 in
theorem irq_Ack.ct (V : VW Tryz.prog) (a1 : Int) (r0 : Option Int) (s s' : V.S) (h : VM.run V.toVI (irq_Ack.f a1) s = some (r0, s')) :
    Ct Tryz.prog 81 [V.val, .int .i64 a1] (fun _ => True) [V.rep s] (fun u H' => u = errV 98 r0 ∧ H' = [V.rep s']) := by
 unfold irq_Ack.f at h
 refine Ct.intro (n := 20) Tryz.func81 rfl rfl rfl ?_
 intro R w0 F hF hR
 refine S.seq <| S.region <| ag rfl <| SO.nil <| S.seq <| S.block <| S.seq <| S.region <| mv rfl <| mv rfl ?_
 obtain ⟨t1, s3, ht2, h⟩ := VM.bind_some V.toVI h
 refine SO.call (pre := [V.rep _]) rfl Tryz.call29 rfl rfl rfl (lay_Is.ct V _ _ _ _ _ ht2) trivial ?_
 rintro _ _ ⟨rfl, rfl⟩
 refine vv (opv_not rfl) <| ag rfl <| SO.nil ?_
 rcases bool_or (!t1) with b4 | b4
 ·replace h := VM.cond_t V.toVI b4 h
  refine S.condT rfl b4 <| S.seq <| S.region <| vv (opv_iface Tryz.underlying98 rfl rfl) <| ag rfl <| SO.nil <| tt [(4, errV 98 (some 2))] rfl ?_
  obtain ⟨hq, rfl⟩ := VM.ret_some V.toVI h
  cases hq
  exact S.b1 <| S.b1 <| S.ret1 Tryz.func81 rfl rfl (hR · _ _ ⟨rfl, rfl⟩)
 replace h := VM.cond_f V.toVI b4 h
 refine S.condF rfl b4 <| S.seq <| S.region <| mv rfl <| mv rfl ?_
 obtain ⟨t5, s7, ht6, h⟩ := VM.bind_some V.toVI h
 refine SO.call (pre := [V.rep _]) rfl Tryz.call27 rfl rfl rfl (lay_Field.ct V _ _ _ _ _ ht6) trivial ?_
 rintro _ _ ⟨rfl, rfl⟩
 refine vv (opv_eql rfl rfl) <| ag rfl <| SO.nil <| tt [(0, V.val), (1, .int .i64 a1), (4, errV 98 none), (11, .bool (t5 == 0))] rfl ?_
 rcases bool_or (t5 == 0) with b8 | b8
 ·replace h := VM.cond_t V.toVI b8 h
  refine S.condT rfl b8 <| S.seq <| S.region <| vv (opv_iface Tryz.underlying98 rfl rfl) <| ag rfl <| SO.nil ?_
  obtain ⟨hq, rfl⟩ := VM.ret_some V.toVI h
  cases hq
  exact S.b1 <| S.b1 <| S.ret1 Tryz.func81 rfl rfl (hR · _ _ ⟨rfl, rfl⟩)
 replace h := VM.cond_f V.toVI b8 h
 refine S.condF rfl b8 <| S.skip <| S.inBlock <| S.seq <| S.region <| mv rfl <| mv rfl ?_
 obtain ⟨_, s10, ht9, h⟩ := VM.bind_some V.toVI h
 refine SO.call (pre := [V.rep _]) rfl Tryz.call55 rfl rfl rfl (lay_Put.ct V _ _ _ _ _ ht9) trivial ?_
 rintro _ _ ⟨rfl, rfl⟩
 refine SO.nil <| S.seq <| S.region <| ag rfl <| SO.nil ?_
 obtain ⟨hq, rfl⟩ := VM.ret_some V.toVI h
 cases hq
 exact S.b1 <| S.b1 <| S.ret1 Tryz.func81 rfl rfl (hR · _ _ ⟨rfl, rfl⟩)
def irq_Bind.f (a1 : Int) (a2 : Int) (a3 : Int) : VM ((Option Int)) :=
  (lay_Is.f a1 8).bind fun t1 => (bif !t1 then (VM.ret true) else ((lay_Is.f a2 4).bind fun t7 => VM.ret (!t7))).bind fun c5 => bif c5 then (VM.ret (some 2)) else ((lay_Put.f a1 1 (w64 (a2 + 1))).bind fun _ => (lay_Put.f a1 2 (band .i64 a3 65535)).bind fun _ => (lay_Put.f a1 3 0).bind fun _ => VM.ret none)
set_option maxHeartbeats 8000000 in
set_option maxRecDepth 100000 in
theorem irq_Bind.ct (V : VW Tryz.prog) (a1 : Int) (a2 : Int) (a3 : Int) (r0 : Option Int) (s s' : V.S) (h : VM.run V.toVI (irq_Bind.f a1 a2 a3) s = some (r0, s')) :
    Ct Tryz.prog 80 [V.val, .int .i64 a1, .int .i64 a2, .int .i64 a3] (fun _ => True) [V.rep s] (fun u H' => u = errV 98 r0 ∧ H' = [V.rep s']) := by
 unfold irq_Bind.f at h
 refine Ct.intro (n := 33) Tryz.func80 rfl rfl rfl ?_
 intro R w0 F hF hR
 refine S.seq <| S.region <| ag rfl <| SO.nil <| S.seq <| S.seq <| S.region <| mv rfl <| mv rfl ?_
 obtain ⟨t1, s3, ht2, h⟩ := VM.bind_some V.toVI h
 refine SO.call (pre := [V.rep _]) rfl Tryz.call29 rfl rfl rfl (lay_Is.ct V _ _ _ _ _ ht2) trivial ?_
 rintro _ _ ⟨rfl, rfl⟩
 refine vv (opv_not rfl) <| mv rfl ?_
 obtain ⟨c5, s10, hc6, hgk⟩ := VM.bind_some V.toVI h
 refine SO.cut 5 18 (.bool c5) [V.rep s10, F] (fun l2 hk2 => ?_) ?_
 ·clear hgk
  replace h := hc6
  rcases bool_or (!t1) with b4 | b4
  ·replace h := VM.cond_t V.toVI b4 h
   refine pf rfl rfl rfl b4 <| pf rfl rfl rfl b4 <| pf rfl rfl rfl b4 <| pf rfl rfl rfl b4 ?_
   obtain ⟨hq, rfl⟩ := VM.ret_some V.toVI h
   cases hq
   exact vv (opv_pick_t' b4 rfl rfl) <| SO.b1 <| SO.b1 <| hk2.fitc (m := 5) rfl (rfl) rfl
  replace h := VM.cond_f V.toVI b4 h
  refine SO.takeT rfl rfl rfl b4 <| mv rfl <| SO.takeT rfl rfl rfl b4 <| mv rfl <| SO.takeT rfl rfl rfl b4 ?_
  obtain ⟨t7, s9, ht8, h⟩ := VM.bind_some V.toVI h
  refine SO.call (pre := [V.rep _]) rfl Tryz.call29 rfl rfl rfl (lay_Is.ct V _ _ _ _ _ ht8) trivial ?_
  rintro _ _ ⟨rfl, rfl⟩
  refine SO.takeT rfl rfl rfl b4 <| vv (opv_not rfl) ?_
  obtain ⟨hq, rfl⟩ := VM.ret_some V.toVI h
  cases hq
  exact vv (opv_pick_f' b4 rfl rfl) <| SO.b1 <| SO.b1 <| hk2.fitc (m := 5) rfl (rfl) rfl
 clear hc6
 replace h := hgk
 refine SO.nil ?_
 rcases bool_or c5 with b11 | b11
 ·replace h := VM.cond_t V.toVI b11 h
  refine S.condT rfl b11 <| S.seq <| S.region <| vv (opv_iface Tryz.underlying98 rfl rfl) <| ag rfl <| SO.nil <| tt [(8, errV 98 (some 2))] rfl ?_
  obtain ⟨hq, rfl⟩ := VM.ret_some V.toVI h
  cases hq
  exact S.b1 <| S.b1 <| S.ret1 Tryz.func80 rfl rfl (hR · _ _ ⟨rfl, rfl⟩)
 replace h := VM.cond_f V.toVI b11 h
 refine S.condF rfl b11 <| S.skip <| S.seq <| S.region <| mv rfl <| mv rfl <| mv rfl <| vv (opv_add rfl rfl) ?_
 obtain ⟨_, s13, ht12, h⟩ := VM.bind_some V.toVI h
 refine SO.call (pre := [V.rep _]) rfl Tryz.call55 rfl rfl rfl (lay_Put.ct V _ _ _ _ _ ht12) trivial ?_
 rintro _ _ ⟨rfl, rfl⟩
 refine SO.nil <| tt [(0, V.val), (1, .int .i64 a1), (3, .int .i64 a3), (8, errV 98 none)] rfl <| S.seq <| S.region <| mv rfl <| mv rfl <| mv rfl <| vv (opv_and rfl rfl) ?_
 obtain ⟨_, s15, ht14, h⟩ := VM.bind_some V.toVI h
 refine SO.call (pre := [V.rep _]) rfl Tryz.call55 rfl rfl rfl (lay_Put.ct V _ _ _ _ _ ht14) trivial ?_
 rintro _ _ ⟨rfl, rfl⟩
 refine SO.nil <| S.seq <| S.region <| mv rfl <| mv rfl ?_
 obtain ⟨_, s17, ht16, h⟩ := VM.bind_some V.toVI h
 refine SO.call (pre := [V.rep _]) rfl Tryz.call55 rfl rfl rfl (lay_Put.ct V _ _ _ _ _ ht16) trivial ?_
 rintro _ _ ⟨rfl, rfl⟩
 refine SO.nil <| tt [(8, errV 98 none)] rfl <| S.seq <| S.region <| ag rfl <| SO.nil ?_
 obtain ⟨hq, rfl⟩ := VM.ret_some V.toVI h
 cases hq
 exact S.b1 <| S.b1 <| S.ret1 Tryz.func80 rfl rfl (hR · _ _ ⟨rfl, rfl⟩)
def space_at.f (a0 : Int) : Option (Int) :=
  some (w64 (1 + a0))
set_option maxHeartbeats 8000000 in
set_option maxRecDepth 100000 in
theorem space_at.ct (a0 : Int) (r0 : Int) (h : space_at.f a0 = some r0) :
    Ct Tryz.prog 143 [.int .i64 a0] (fun _ => True) [] (fun u H' => u = .int .i64 r0 ∧ H' = []) := by
 unfold space_at.f at h
 refine Ct.intro (n := 5) Tryz.func143 rfl rfl rfl ?_
 intro R w0 F hF hR
 refine S.seq <| S.region <| ag rfl <| SO.nil <| S.seq <| S.region <| mv rfl <| vv (opv_add rfl rfl) <| ag rfl <| SO.nil ?_
 cases h
 exact S.ret1 Tryz.func143 rfl rfl (hR · _ _ ⟨rfl, rfl⟩)
def space_in.f (a0 : Int) : Option (Bool) :=
  some ((decide (0 ≤ a0)) && (decide (a0 < 4)))
set_option maxHeartbeats 8000000 in
set_option maxRecDepth 100000 in
theorem space_in.ct (a0 : Int) (r0 : Bool) (h : space_in.f a0 = some r0) :
    Ct Tryz.prog 142 [.int .i64 a0] (fun _ => True) [] (fun u H' => u = .bool r0 ∧ H' = []) := by
 unfold space_in.f at h
 refine Ct.intro (n := 9) Tryz.func142 rfl rfl rfl ?_
 intro R w0 F hF hR
 refine S.seq <| S.region <| ag rfl <| SO.nil <| S.seq <| S.region <| mv rfl <| vv (opv_geq rfl rfl) <| mv rfl ?_
 refine SO.cut 3 8 (.bool ((decide (0 ≤ a0)) && (decide (a0 < 4)))) [F] (fun l2 hk2 => ?_) ?_
 ·rcases bool_or (decide (0 ≤ a0)) with b1 | b1
  ·exact SO.takeT rfl rfl rfl b1 <| mv rfl <| SO.takeT rfl rfl rfl b1 <| vv (opv_lss rfl rfl) <| vv (opv_pick_t' b1 rfl rfl) <| hk2.fitc (m := 3) rfl (and_t b1) rfl
  exact pf rfl rfl rfl b1 <| pf rfl rfl rfl b1 <| vv (opv_pick_f' b1 rfl rfl) <| hk2.fitc (m := 3) rfl (and_f b1) rfl
 refine ag rfl <| SO.nil ?_
 cases h
 exact S.ret1 Tryz.func142 rfl rfl (hR · _ _ ⟨rfl, rfl⟩)
def space_Page.f (a1 : Int) (a2 : Int) : VM ((Int × Int × Bool)) :=
  (lay_Is.f a1 7).bind fun t1 => (bif !t1 then (VM.ret true) else ((VM.opt (space_in.f a2)).bind fun t7 => VM.ret (!t7))).bind fun c5 => bif c5 then (VM.ret (0, 0, false)) else ((VM.opt (space_at.f a2)).bind fun t11 => (lay_Field.f a1 t11).bind fun t13 => bif (decide ((w64 ((w64 (t13.tdiv 8)) - 1)) < 0)) || (decide (32 ≤ (w64 ((w64 (t13.tdiv 8)) - 1)))) then (VM.ret (0, 0, false)) else (VM.ret (w64 ((w64 (t13.tdiv 8)) - 1), t13.tmod 8, true)))
set_option maxHeartbeats 8000000 in
set_option maxRecDepth 100000 in
theorem space_Page.ct (V : VW Tryz.prog) (a1 : Int) (a2 : Int) (r0 : Int) (r1 : Int) (r2 : Bool) (s s' : V.S) (h : VM.run V.toVI (space_Page.f a1 a2) s = some ((r0, r1, r2), s')) :
    Ct Tryz.prog 141 [V.val, .int .i64 a1, .int .i64 a2] (fun _ => True) [V.rep s] (fun u H' => u = .tuple #[.int .i64 r0, .int .i64 r1, .bool r2] ∧ H' = [V.rep s']) := by
 unfold space_Page.f at h
 refine Ct.intro (n := 37) Tryz.func141 rfl rfl rfl ?_
 intro R w0 F hF hR
 refine S.seq <| S.region <| ag rfl <| ag rfl <| ag rfl <| SO.nil <| S.seq <| S.seq <| S.region <| mv rfl <| mv rfl ?_
 obtain ⟨t1, s3, ht2, h⟩ := VM.bind_some V.toVI h
 refine SO.call (pre := [V.rep _]) rfl Tryz.call29 rfl rfl rfl (lay_Is.ct V _ _ _ _ _ ht2) trivial ?_
 rintro _ _ ⟨rfl, rfl⟩
 refine vv (opv_not rfl) <| mv rfl ?_
 obtain ⟨c5, s9, hc6, hgk⟩ := VM.bind_some V.toVI h
 refine SO.cut 4 19 (.bool c5) [V.rep s9, F] (fun l2 hk2 => ?_) ?_
 ·clear hgk
  replace h := hc6
  rcases bool_or (!t1) with b4 | b4
  ·replace h := VM.cond_t V.toVI b4 h
   refine pf rfl rfl rfl b4 <| pf rfl rfl rfl b4 <| pf rfl rfl rfl b4 ?_
   obtain ⟨hq, rfl⟩ := VM.ret_some V.toVI h
   cases hq
   exact vv (opv_pick_t' b4 rfl rfl) <| SO.b1 <| SO.b1 <| hk2.fitc (m := 4) rfl (rfl) rfl
  replace h := VM.cond_f V.toVI b4 h
  refine SO.takeT rfl rfl rfl b4 <| mv rfl <| SO.takeT rfl rfl rfl b4 ?_
  obtain ⟨t7, ht8, h⟩ := VM.opt_some V.toVI h
  refine SO.call (pre := []) rfl Tryz.call142 rfl rfl rfl (space_in.ct _ _ ht8) trivial ?_
  rintro _ _ ⟨rfl, rfl⟩
  refine SO.takeT rfl rfl rfl b4 <| vv (opv_not rfl) ?_
  obtain ⟨hq, rfl⟩ := VM.ret_some V.toVI h
  cases hq
  exact vv (opv_pick_f' b4 rfl rfl) <| SO.b1 <| SO.b1 <| hk2.fitc (m := 4) rfl (rfl) rfl
 clear hc6
 replace h := hgk
 refine SO.nil ?_
 rcases bool_or c5 with b10 | b10
 ·replace h := VM.cond_t V.toVI b10 h
  refine S.condT rfl b10 <| S.seq <| S.region <| ag rfl <| ag rfl <| ag rfl <| SO.nil <| tt [(6, .int .i64 0), (7, .int .i64 0), (8, .bool false)] rfl ?_
  obtain ⟨hq, rfl⟩ := VM.ret_some V.toVI h
  cases hq
  exact S.b1 <| S.b1 <| S.ret3 Tryz.func141 rfl rfl rfl rfl (hR · _ _ ⟨rfl, rfl⟩)
 replace h := VM.cond_f V.toVI b10 h
 refine S.condF rfl b10 <| S.skip <| S.seq <| S.region <| mv rfl <| mv rfl <| mv rfl ?_
 obtain ⟨t11, ht12, h⟩ := VM.opt_some V.toVI h
 refine SO.call (pre := []) rfl Tryz.call143 rfl rfl rfl (space_at.ct _ _ ht12) trivial ?_
 rintro _ _ ⟨rfl, rfl⟩
 obtain ⟨t13, s15, ht14, h⟩ := VM.bind_some V.toVI h
 refine SO.call (pre := [V.rep _]) rfl Tryz.call27 rfl rfl rfl (lay_Field.ct V _ _ _ _ _ ht14) trivial ?_
 rintro _ _ ⟨rfl, rfl⟩
 refine ag rfl <| SO.nil <| tt [(6, .int .i64 0), (7, .int .i64 0), (8, .bool false), (9, .int .i64 t13)] rfl <| S.seq <| S.region <| mv rfl <| vv (opv_quo rfl rfl (by decide)) <| vv (opv_sub rfl rfl) <| ag rfl <| SO.nil <| S.seq <| S.seq <| S.region <| mv rfl <| vv (opv_lss rfl rfl) <| mv rfl ?_
 refine SO.cut 3 33 (.bool ((decide ((w64 ((w64 (t13.tdiv 8)) - 1)) < 0)) || (decide (32 ≤ (w64 ((w64 (t13.tdiv 8)) - 1)))))) [V.rep s15, F] (fun l2 hk2 => ?_) ?_
 ·rcases bool_or (decide ((w64 ((w64 (t13.tdiv 8)) - 1)) < 0)) with b16 | b16
  ·exact pf rfl rfl rfl b16 <| pf rfl rfl rfl b16 <| vv (opv_pick_t' b16 rfl rfl) <| SO.b1 <| SO.b1 <| hk2.fitc (m := 3) rfl (or_t b16) rfl
  exact SO.takeT rfl rfl rfl b16 <| mv rfl <| SO.takeT rfl rfl rfl b16 <| vv (opv_geq rfl rfl) <| vv (opv_pick_f' b16 rfl rfl) <| SO.b1 <| SO.b1 <| hk2.fitc (m := 3) rfl (or_f b16) rfl
 refine SO.nil ?_
 rcases bool_or ((decide ((w64 ((w64 (t13.tdiv 8)) - 1)) < 0)) || (decide (32 ≤ (w64 ((w64 (t13.tdiv 8)) - 1))))) with b17 | b17
 ·replace h := VM.cond_t V.toVI b17 h
  refine S.condT rfl b17 <| S.seq <| S.region <| ag rfl <| ag rfl <| ag rfl <| SO.nil <| tt [(6, .int .i64 0), (7, .int .i64 0), (8, .bool false)] rfl ?_
  obtain ⟨hq, rfl⟩ := VM.ret_some V.toVI h
  cases hq
  exact S.b1 <| S.b1 <| S.ret3 Tryz.func141 rfl rfl rfl rfl (hR · _ _ ⟨rfl, rfl⟩)
 replace h := VM.cond_f V.toVI b17 h
 refine S.condF rfl b17 <| S.skip <| S.seq <| S.region <| mv rfl <| mv rfl <| vv (opv_rem rfl rfl (by decide)) <| ag rfl <| ag rfl <| ag rfl <| SO.nil <| tt [(6, .int .i64 (w64 ((w64 (t13.tdiv 8)) - 1))), (7, .int .i64 (t13.tmod 8)), (8, .bool true)] rfl ?_
 obtain ⟨hq, rfl⟩ := VM.ret_some V.toVI h
 cases hq
 exact S.b1 <| S.b1 <| S.ret3 Tryz.func141 rfl rfl rfl rfl (hR · _ _ ⟨rfl, rfl⟩)
def space_Map.f (a1 : Int) (a2 : Int) (a3 : Int) (a4 : Int) : VM ((Option Int)) :=
  (lay_Ref.f a1 1).bind fun (t1, t2) => (space_Page.f a2 a3).bind fun (t5, t6, t7) => (lay_Is.f a1 6).bind fun t10 => (bif !t10 then (VM.ret true) else ((lay_Is.f a2 7).bind fun t16 => VM.ret (!t16))).bind fun c14 => bif c14 then (VM.ret (some 2)) else ((VM.opt (space_in.f a3)).bind fun t21 => bif ((!t21) || (decide (a4 < 0))) || (decide (7 < a4)) then (VM.ret (some 1)) else (bif t2 then (VM.ret (some 10)) else (bif t7 then (VM.ret (some 8)) else ((VM.opt (space_at.f a3)).bind fun t28 => (lay_Put.f a2 t28 (w64 ((w64 (8 * (w64 (a1 + 1)))) + a4))).bind fun _ => (lay_Put.f a1 1 (w64 (a2 + 1))).bind fun _ => (lay_Put.f a1 2 a3).bind fun _ => VM.ret none))))
set_option maxHeartbeats 8000000 in
set_option maxRecDepth 100000 in
theorem space_Map.ct (V : VW Tryz.prog) (a1 : Int) (a2 : Int) (a3 : Int) (a4 : Int) (r0 : Option Int) (s s' : V.S) (h : VM.run V.toVI (space_Map.f a1 a2 a3 a4) s = some (r0, s')) :
    Ct Tryz.prog 78 [V.val, .int .i64 a1, .int .i64 a2, .int .i64 a3, .int .i64 a4] (fun _ => True) [V.rep s] (fun u H' => u = errV 98 r0 ∧ H' = [V.rep s']) := by
 unfold space_Map.f at h
 refine Ct.intro (n := 80) Tryz.func78 rfl rfl rfl ?_
 intro R w0 F hF hR
 refine S.seq <| S.region <| ag rfl <| SO.nil <| S.seq <| S.region <| mv rfl <| mv rfl ?_
 obtain ⟨⟨t1, t2⟩, s4, ht3, h⟩ := VM.bind_some V.toVI h
 refine SO.call (pre := [V.rep _]) rfl Tryz.call54 rfl rfl rfl (lay_Ref.ct V _ _ _ _ _ _ ht3) trivial ?_
 rintro _ _ ⟨rfl, rfl⟩
 refine mv rfl <| vv (opv_extract rfl rfl) <| vv (opv_extract rfl rfl) <| ag rfl <| ag rfl <| SO.nil <| tt [(0, V.val), (1, .int .i64 a1), (2, .int .i64 a2), (3, .int .i64 a3), (4, .int .i64 a4), (10, errV 98 none), (12, .bool t2)] rfl <| S.seq <| S.region <| mv rfl <| mv rfl <| mv rfl ?_
 obtain ⟨⟨t5, t6, t7⟩, s9, ht8, h⟩ := VM.bind_some V.toVI h
 refine SO.call (pre := [V.rep _]) rfl Tryz.call141 rfl rfl rfl (space_Page.ct V _ _ _ _ _ _ _ ht8) trivial ?_
 rintro _ _ ⟨rfl, rfl⟩
 refine mv rfl <| vv (opv_extract rfl rfl) <| vv (opv_extract rfl rfl) <| vv (opv_extract rfl rfl) <| ag rfl <| ag rfl <| ag rfl <| SO.nil <| tt [(0, V.val), (1, .int .i64 a1), (2, .int .i64 a2), (3, .int .i64 a3), (4, .int .i64 a4), (10, errV 98 none), (12, .bool t2), (15, .bool t7)] rfl <| S.seq <| S.block <| S.seq <| S.region <| mv rfl <| mv rfl ?_
 obtain ⟨t10, s12, ht11, h⟩ := VM.bind_some V.toVI h
 refine SO.call (pre := [V.rep _]) rfl Tryz.call29 rfl rfl rfl (lay_Is.ct V _ _ _ _ _ ht11) trivial ?_
 rintro _ _ ⟨rfl, rfl⟩
 refine vv (opv_not rfl) <| mv rfl ?_
 obtain ⟨c14, s19, hc15, hgk⟩ := VM.bind_some V.toVI h
 refine SO.cut 5 40 (.bool c14) [V.rep s19, F] (fun l2 hk2 => ?_) ?_
 ·clear hgk
  replace h := hc15
  rcases bool_or (!t10) with b13 | b13
  ·replace h := VM.cond_t V.toVI b13 h
   refine pf rfl rfl rfl b13 <| pf rfl rfl rfl b13 <| pf rfl rfl rfl b13 <| pf rfl rfl rfl b13 ?_
   obtain ⟨hq, rfl⟩ := VM.ret_some V.toVI h
   cases hq
   exact vv (opv_pick_t' b13 rfl rfl) <| SO.b1 <| SO.b1 <| hk2.fitc (m := 5) rfl (rfl) rfl
  replace h := VM.cond_f V.toVI b13 h
  refine SO.takeT rfl rfl rfl b13 <| mv rfl <| SO.takeT rfl rfl rfl b13 <| mv rfl <| SO.takeT rfl rfl rfl b13 ?_
  obtain ⟨t16, s18, ht17, h⟩ := VM.bind_some V.toVI h
  refine SO.call (pre := [V.rep _]) rfl Tryz.call29 rfl rfl rfl (lay_Is.ct V _ _ _ _ _ ht17) trivial ?_
  rintro _ _ ⟨rfl, rfl⟩
  refine SO.takeT rfl rfl rfl b13 <| vv (opv_not rfl) ?_
  obtain ⟨hq, rfl⟩ := VM.ret_some V.toVI h
  cases hq
  exact vv (opv_pick_f' b13 rfl rfl) <| SO.b1 <| SO.b1 <| hk2.fitc (m := 5) rfl (rfl) rfl
 clear hc15
 replace h := hgk
 refine ag rfl <| SO.nil ?_
 rcases bool_or c14 with b20 | b20
 ·replace h := VM.cond_t V.toVI b20 h
  refine S.condT rfl b20 <| S.seq <| S.region <| vv (opv_iface Tryz.underlying98 rfl rfl) <| ag rfl <| SO.nil <| tt [(10, errV 98 (some 2))] rfl ?_
  obtain ⟨hq, rfl⟩ := VM.ret_some V.toVI h
  cases hq
  exact S.b1 <| S.b1 <| S.ret1 Tryz.func78 rfl rfl (hR · _ _ ⟨rfl, rfl⟩)
 replace h := VM.cond_f V.toVI b20 h
 refine S.condF rfl b20 <| S.seq <| S.region <| mv rfl ?_
 obtain ⟨t21, ht22, h⟩ := VM.opt_some V.toVI h
 refine SO.call (pre := []) rfl Tryz.call142 rfl rfl rfl (space_in.ct _ _ ht22) trivial ?_
 rintro _ _ ⟨rfl, rfl⟩
 refine vv (opv_not rfl) <| mv rfl ?_
 refine SO.cut 3 49 (.bool ((!t21) || (decide (a4 < 0)))) [V.rep s19, F] (fun l2 hk2 => ?_) ?_
 ·rcases bool_or (!t21) with b23 | b23
  ·exact pf rfl rfl rfl b23 <| pf rfl rfl rfl b23 <| vv (opv_pick_t' b23 rfl rfl) <| SO.b1 <| SO.b1 <| hk2.fitc (m := 3) rfl (or_t b23) rfl
  exact SO.takeT rfl rfl rfl b23 <| mv rfl <| SO.takeT rfl rfl rfl b23 <| vv (opv_lss rfl rfl) <| vv (opv_pick_f' b23 rfl rfl) <| SO.b1 <| SO.b1 <| hk2.fitc (m := 3) rfl (or_f b23) rfl
 refine mv rfl ?_
 refine SO.cut 3 53 (.bool (((!t21) || (decide (a4 < 0))) || (decide (7 < a4)))) [V.rep s19, F] (fun l2 hk2 => ?_) ?_
 ·rcases bool_or ((!t21) || (decide (a4 < 0))) with b24 | b24
  ·exact pf rfl rfl rfl b24 <| pf rfl rfl rfl b24 <| vv (opv_pick_t' b24 rfl rfl) <| SO.b1 <| SO.b1 <| hk2.fitc (m := 3) rfl (or_t b24) rfl
  exact SO.takeT rfl rfl rfl b24 <| mv rfl <| SO.takeT rfl rfl rfl b24 <| vv (opv_gtr rfl rfl) <| vv (opv_pick_f' b24 rfl rfl) <| SO.b1 <| SO.b1 <| hk2.fitc (m := 3) rfl (or_f b24) rfl
 refine ag rfl <| SO.nil <| tt [(0, V.val), (1, .int .i64 a1), (2, .int .i64 a2), (3, .int .i64 a3), (4, .int .i64 a4), (10, errV 98 none), (12, .bool t2), (15, .bool t7), (42, .bool (((!t21) || (decide (a4 < 0))) || (decide (7 < a4))))] rfl ?_
 rcases bool_or (((!t21) || (decide (a4 < 0))) || (decide (7 < a4))) with b25 | b25
 ·replace h := VM.cond_t V.toVI b25 h
  refine S.condT rfl b25 <| S.seq <| S.region <| vv (opv_iface Tryz.underlying98 rfl rfl) <| ag rfl <| SO.nil <| tt [(10, errV 98 (some 1))] rfl ?_
  obtain ⟨hq, rfl⟩ := VM.ret_some V.toVI h
  cases hq
  exact S.b1 <| S.b1 <| S.ret1 Tryz.func78 rfl rfl (hR · _ _ ⟨rfl, rfl⟩)
 replace h := VM.cond_f V.toVI b25 h
 refine S.condF rfl b25 <| S.seq <| S.region <| mv rfl <| ag rfl <| SO.nil ?_
 rcases bool_or t2 with b26 | b26
 ·replace h := VM.cond_t V.toVI b26 h
  refine S.condT rfl b26 <| S.seq <| S.region <| vv (opv_iface Tryz.underlying98 rfl rfl) <| ag rfl <| SO.nil <| tt [(10, errV 98 (some 10))] rfl ?_
  obtain ⟨hq, rfl⟩ := VM.ret_some V.toVI h
  cases hq
  exact S.b1 <| S.b1 <| S.ret1 Tryz.func78 rfl rfl (hR · _ _ ⟨rfl, rfl⟩)
 replace h := VM.cond_f V.toVI b26 h
 refine S.condF rfl b26 <| S.seq <| S.region <| mv rfl <| ag rfl <| SO.nil ?_
 rcases bool_or t7 with b27 | b27
 ·replace h := VM.cond_t V.toVI b27 h
  refine S.condT rfl b27 <| S.seq <| S.region <| vv (opv_iface Tryz.underlying98 rfl rfl) <| ag rfl <| SO.nil <| tt [(10, errV 98 (some 8))] rfl ?_
  obtain ⟨hq, rfl⟩ := VM.ret_some V.toVI h
  cases hq
  exact S.b1 <| S.b1 <| S.ret1 Tryz.func78 rfl rfl (hR · _ _ ⟨rfl, rfl⟩)
 replace h := VM.cond_f V.toVI b27 h
 refine S.condF rfl b27 <| S.skip <| S.inBlock <| S.seq <| S.region <| mv rfl <| mv rfl <| mv rfl ?_
 obtain ⟨t28, ht29, h⟩ := VM.opt_some V.toVI h
 refine SO.call (pre := []) rfl Tryz.call143 rfl rfl rfl (space_at.ct _ _ ht29) trivial ?_
 rintro _ _ ⟨rfl, rfl⟩
 refine mv rfl <| vv (opv_add rfl rfl) <| vv (opv_mul rfl rfl) <| mv rfl <| vv (opv_add rfl rfl) ?_
 obtain ⟨_, s31, ht30, h⟩ := VM.bind_some V.toVI h
 refine SO.call (pre := [V.rep _]) rfl Tryz.call55 rfl rfl rfl (lay_Put.ct V _ _ _ _ _ ht30) trivial ?_
 rintro _ _ ⟨rfl, rfl⟩
 refine SO.nil <| tt [(0, V.val), (1, .int .i64 a1), (2, .int .i64 a2), (3, .int .i64 a3), (10, errV 98 none)] rfl <| S.seq <| S.region <| mv rfl <| mv rfl <| mv rfl <| vv (opv_add rfl rfl) ?_
 obtain ⟨_, s33, ht32, h⟩ := VM.bind_some V.toVI h
 refine SO.call (pre := [V.rep _]) rfl Tryz.call55 rfl rfl rfl (lay_Put.ct V _ _ _ _ _ ht32) trivial ?_
 rintro _ _ ⟨rfl, rfl⟩
 refine SO.nil <| S.seq <| S.region <| mv rfl <| mv rfl <| mv rfl ?_
 obtain ⟨_, s35, ht34, h⟩ := VM.bind_some V.toVI h
 refine SO.call (pre := [V.rep _]) rfl Tryz.call55 rfl rfl rfl (lay_Put.ct V _ _ _ _ _ ht34) trivial ?_
 rintro _ _ ⟨rfl, rfl⟩
 refine SO.nil <| tt [(10, errV 98 none)] rfl <| S.seq <| S.region <| ag rfl <| SO.nil ?_
 obtain ⟨hq, rfl⟩ := VM.ret_some V.toVI h
 cases hq
 exact S.b1 <| S.b1 <| S.ret1 Tryz.func78 rfl rfl (hR · _ _ ⟨rfl, rfl⟩)
def space_Unmap.f (a1 : Int) : VM ((Option Int)) :=
  (lay_Is.f a1 6).bind fun t1 => bif !t1 then (VM.ret (some 2)) else ((lay_Ref.f a1 1).bind fun (t5, t6) => bif !t6 then (VM.ret (some 10)) else ((lay_Field.f a1 2).bind fun t10 => (space_Page.f t5 t10).bind fun (t13, t14, t15) => bif t15 && (t13 == a1) then ((VM.opt (space_at.f t10)).bind fun t20 => (lay_Put.f t5 t20 0).bind fun _ => (lay_Put.f a1 1 0).bind fun _ => (lay_Put.f a1 2 0).bind fun _ => VM.ret none) else ((lay_Put.f a1 1 0).bind fun _ => (lay_Put.f a1 2 0).bind fun _ => VM.ret none)))
set_option maxHeartbeats 8000000 in
set_option maxRecDepth 100000 in
theorem space_Unmap.ct (V : VW Tryz.prog) (a1 : Int) (r0 : Option Int) (s s' : V.S) (h : VM.run V.toVI (space_Unmap.f a1) s = some (r0, s')) :
    Ct Tryz.prog 79 [V.val, .int .i64 a1] (fun _ => True) [V.rep s] (fun u H' => u = errV 98 r0 ∧ H' = [V.rep s']) := by
 unfold space_Unmap.f at h
 refine Ct.intro (n := 53) Tryz.func79 rfl rfl rfl ?_
 intro R w0 F hF hR
 refine S.seq <| S.region <| ag rfl <| SO.nil <| S.seq <| S.seq <| S.region <| mv rfl <| mv rfl ?_
 obtain ⟨t1, s3, ht2, h⟩ := VM.bind_some V.toVI h
 refine SO.call (pre := [V.rep _]) rfl Tryz.call29 rfl rfl rfl (lay_Is.ct V _ _ _ _ _ ht2) trivial ?_
 rintro _ _ ⟨rfl, rfl⟩
 refine vv (opv_not rfl) <| SO.nil ?_
 rcases bool_or (!t1) with b4 | b4
 ·replace h := VM.cond_t V.toVI b4 h
  refine S.condT rfl b4 <| S.seq <| S.region <| vv (opv_iface Tryz.underlying98 rfl rfl) <| ag rfl <| SO.nil <| tt [(4, errV 98 (some 2))] rfl ?_
  obtain ⟨hq, rfl⟩ := VM.ret_some V.toVI h
  cases hq
  exact S.b1 <| S.b1 <| S.ret1 Tryz.func79 rfl rfl (hR · _ _ ⟨rfl, rfl⟩)
 replace h := VM.cond_f V.toVI b4 h
 refine S.condF rfl b4 <| S.skip <| S.seq <| S.region <| mv rfl <| mv rfl ?_
 obtain ⟨⟨t5, t6⟩, s8, ht7, h⟩ := VM.bind_some V.toVI h
 refine SO.call (pre := [V.rep _]) rfl Tryz.call54 rfl rfl rfl (lay_Ref.ct V _ _ _ _ _ _ ht7) trivial ?_
 rintro _ _ ⟨rfl, rfl⟩
 refine mv rfl <| vv (opv_extract rfl rfl) <| vv (opv_extract rfl rfl) <| ag rfl <| ag rfl <| SO.nil <| tt [(0, V.val), (1, .int .i64 a1), (4, errV 98 none), (5, .int .i64 t5), (6, .bool t6)] rfl <| S.seq <| S.seq <| S.region <| mv rfl <| vv (opv_not rfl) <| SO.nil ?_
 rcases bool_or (!t6) with b9 | b9
 ·replace h := VM.cond_t V.toVI b9 h
  refine S.condT rfl b9 <| S.seq <| S.region <| vv (opv_iface Tryz.underlying98 rfl rfl) <| ag rfl <| SO.nil <| tt [(4, errV 98 (some 10))] rfl ?_
  obtain ⟨hq, rfl⟩ := VM.ret_some V.toVI h
  cases hq
  exact S.b1 <| S.b1 <| S.ret1 Tryz.func79 rfl rfl (hR · _ _ ⟨rfl, rfl⟩)
 replace h := VM.cond_f V.toVI b9 h
 refine S.condF rfl b9 <| S.skip <| S.seq <| S.region <| mv rfl <| mv rfl ?_
 obtain ⟨t10, s12, ht11, h⟩ := VM.bind_some V.toVI h
 refine SO.call (pre := [V.rep _]) rfl Tryz.call27 rfl rfl rfl (lay_Field.ct V _ _ _ _ _ ht11) trivial ?_
 rintro _ _ ⟨rfl, rfl⟩
 refine ag rfl <| SO.nil <| S.seq <| S.seq <| S.region <| mv rfl <| mv rfl <| mv rfl ?_
 obtain ⟨⟨t13, t14, t15⟩, s17, ht16, h⟩ := VM.bind_some V.toVI h
 refine SO.call (pre := [V.rep _]) rfl Tryz.call141 rfl rfl rfl (space_Page.ct V _ _ _ _ _ _ _ ht16) trivial ?_
 rintro _ _ ⟨rfl, rfl⟩
 refine mv rfl <| vv (opv_extract rfl rfl) <| vv (opv_extract rfl rfl) <| vv (opv_extract rfl rfl) <| ag rfl <| ag rfl <| ag rfl <| SO.nil <| tt [(0, V.val), (1, .int .i64 a1), (4, errV 98 none), (5, .int .i64 t5), (7, .int .i64 t10), (8, .int .i64 t13), (10, .bool t15)] rfl <| S.seq <| S.region <| mv rfl <| mv rfl ?_
 refine SO.cut 4 41 (.bool (t15 && (t13 == a1))) [V.rep s17, F] (fun l2 hk2 => ?_) ?_
 ·rcases bool_or t15 with b18 | b18
  ·exact SO.takeT rfl rfl rfl b18 <| mv rfl <| SO.takeT rfl rfl rfl b18 <| mv rfl <| SO.takeT rfl rfl rfl b18 <| vv (opv_eql rfl rfl) <| vv (opv_pick_t' b18 rfl rfl) <| SO.b1 <| SO.b1 <| hk2.fitc (m := 4) rfl (and_t b18) rfl
  exact pf rfl rfl rfl b18 <| pf rfl rfl rfl b18 <| pf rfl rfl rfl b18 <| vv (opv_pick_f' b18 rfl rfl) <| SO.b1 <| SO.b1 <| hk2.fitc (m := 4) rfl (and_f b18) rfl
 refine SO.nil ?_
 rcases bool_or (t15 && (t13 == a1)) with b19 | b19
 ·replace h := VM.cond_t V.toVI b19 h
  refine S.condT rfl b19 <| S.region <| mv rfl <| mv rfl <| mv rfl ?_
  obtain ⟨t20, ht21, h⟩ := VM.opt_some V.toVI h
  refine SO.call (pre := []) rfl Tryz.call143 rfl rfl rfl (space_at.ct _ _ ht21) trivial ?_
  rintro _ _ ⟨rfl, rfl⟩
  obtain ⟨_, s23, ht22, h⟩ := VM.bind_some V.toVI h
  refine SO.call (pre := [V.rep _]) rfl Tryz.call55 rfl rfl rfl (lay_Put.ct V _ _ _ _ _ ht22) trivial ?_
  rintro _ _ ⟨rfl, rfl⟩
  refine SO.nil <| tt [(0, V.val), (1, .int .i64 a1), (4, errV 98 none)] rfl <| S.seq <| S.region <| mv rfl <| mv rfl ?_
  obtain ⟨_, s25, ht24, h⟩ := VM.bind_some V.toVI h
  refine SO.call (pre := [V.rep _]) rfl Tryz.call55 rfl rfl rfl (lay_Put.ct V _ _ _ _ _ ht24) trivial ?_
  rintro _ _ ⟨rfl, rfl⟩
  refine SO.nil <| S.seq <| S.region <| mv rfl <| mv rfl ?_
  obtain ⟨_, s27, ht26, h⟩ := VM.bind_some V.toVI h
  refine SO.call (pre := [V.rep _]) rfl Tryz.call55 rfl rfl rfl (lay_Put.ct V _ _ _ _ _ ht26) trivial ?_
  rintro _ _ ⟨rfl, rfl⟩
  refine SO.nil <| tt [(4, errV 98 none)] rfl <| S.seq <| S.region <| ag rfl <| SO.nil ?_
  obtain ⟨hq, rfl⟩ := VM.ret_some V.toVI h
  cases hq
  exact S.b1 <| S.b1 <| S.ret1 Tryz.func79 rfl rfl (hR · _ _ ⟨rfl, rfl⟩)
 replace h := VM.cond_f V.toVI b19 h
 refine S.condF rfl b19 <| S.skip <| S.seq <| S.region <| mv rfl <| mv rfl ?_
 obtain ⟨_, s29, ht28, h⟩ := VM.bind_some V.toVI h
 refine SO.call (pre := [V.rep _]) rfl Tryz.call55 rfl rfl rfl (lay_Put.ct V _ _ _ _ _ ht28) trivial ?_
 rintro _ _ ⟨rfl, rfl⟩
 refine SO.nil <| tt [(0, V.val), (1, .int .i64 a1), (4, errV 98 none)] rfl <| S.seq <| S.region <| mv rfl <| mv rfl ?_
 obtain ⟨_, s31, ht30, h⟩ := VM.bind_some V.toVI h
 refine SO.call (pre := [V.rep _]) rfl Tryz.call55 rfl rfl rfl (lay_Put.ct V _ _ _ _ _ ht30) trivial ?_
 rintro _ _ ⟨rfl, rfl⟩
 refine SO.nil <| S.seq <| S.region <| ag rfl <| SO.nil ?_
 obtain ⟨hq, rfl⟩ := VM.ret_some V.toVI h
 cases hq
 exact S.b1 <| S.b1 <| S.ret1 Tryz.func79 rfl rfl (hR · _ _ ⟨rfl, rfl⟩)
def invoke_doer_device.f (k : Nat) (a0 : invoke_doer) : VM ((Option Int)) :=
  (bif a0.c.Op == 20 then (VM.ret ((6, 2) : (Int × Int))) else (bif a0.c.Op == 21 then (bif a0.c.Op == 21 then (VM.ret ((8, 2) : (Int × Int))) else (VM.ret ((6, 1) : (Int × Int)))) else (bif a0.c.Op == 22 then (VM.ret ((8, 2) : (Int × Int))) else (VM.ret ((6, 1) : (Int × Int)))))).bind fun (j3_1, j4_1) => (VM.opt (invoke_is.f a0.cap j3_1 j4_1)).bind fun t5 => bif t5.isSome then (VM.ret t5) else (bif a0.c.Op == 19 then ((invoke_doer_other.f k a0 7 2).bind fun (t9, t10) => bif t10.isSome then (VM.ret t10) else (bif decide (7 < a0.c.C) then (VM.ret (some 1)) else ((space_Map.f a0.cap.Obj t9.Obj a0.c.B (band .i64 a0.cap.Rights a0.c.C)).bind fun t16 => VM.ret t16))) else (bif a0.c.Op == 20 then ((space_Unmap.f a0.cap.Obj).bind fun t20 => VM.ret t20) else (bif a0.c.Op == 21 then ((invoke_doer_other.f k a0 4 2).bind fun (t24, t25) => bif t25.isSome then (VM.ret t25) else ((VM.opt (invoke_signed.f t24)).bind fun t30 => (irq_Bind.f a0.cap.Obj t24.Obj t30).bind fun t32 => VM.ret t32)) else ((irq_Ack.f a0.cap.Obj).bind fun t35 => VM.ret t35))))
set_option maxHeartbeats 8000000 in
set_option maxRecDepth 100000 in
theorem invoke_doer_device.ct (V : VW Tryz.prog) (k : Nat) (bp0 : Nat) (a0 : invoke_doer) (r0 : Option Int) (s s' : V.S) (h : VM.run V.toVI (invoke_doer_device.f k a0) s = some (r0, s')) :
    Ct Tryz.prog 39 [bp bp0 0] (fun _ => True) [Box bp0 [V.val, .int .i64 a0.t, .int .i64 a0.c.Op, .int .i64 a0.c.Cap, .int .i64 a0.c.A, .int .i64 a0.c.B, .int .i64 a0.c.C, .int .i64 a0.c.D, .int .i64 a0.slot, .int .i64 a0.cap.Kind, .int .i64 a0.cap.Rights, .int .i64 a0.cap.Obj, .int .i64 a0.cap.Badge, .int .i64 a0.cap.Guard, .int .i64 a0.cap.Bits], V.rep s] (fun u H' => u = errV 98 r0 ∧ H' = [Box bp0 [V.val, .int .i64 a0.t, .int .i64 a0.c.Op, .int .i64 a0.c.Cap, .int .i64 a0.c.A, .int .i64 a0.c.B, .int .i64 a0.c.C, .int .i64 a0.c.D, .int .i64 a0.slot, .int .i64 a0.cap.Kind, .int .i64 a0.cap.Rights, .int .i64 a0.cap.Obj, .int .i64 a0.cap.Badge, .int .i64 a0.cap.Guard, .int .i64 a0.cap.Bits], V.rep s']) := by
 unfold invoke_doer_device.f at h
 refine Ct.intro (n := 126) Tryz.func39 rfl rfl rfl ?_
 intro R w0 F hF hR
 refine S.seq <| S.region <| ag rfl <| SO.nil <| S.seq <| S.region <| ag rfl <| ag rfl <| SO.nil <| S.seq <| S.seq <| S.region <| mv rfl <| nc rfl <| fa Tryz.underlying72 rfl Tryz.sizeOf30 rfl rfl <| fa Tryz.underlying30 rfl Tryz.sizeOf3 rfl rfl <| ld Tryz.isAgg3 rfl rfl <| SO.nil ?_
 obtain ⟨⟨j3_1, j4_1⟩, s_1, hC1, hJ1⟩ := VM.bind_some V.toVI h
 clear h
 refine S.cutP (G := Unit) (fun _ => True) (fun _ => [(0, bp bp0 0), (2, errV 98 none), (3, .int .i64 j3_1), (4, .int .i64 j4_1)]) (fun _ => [Box bp0 [V.val, .int .i64 a0.t, .int .i64 a0.c.Op, .int .i64 a0.c.Cap, .int .i64 a0.c.A, .int .i64 a0.c.B, .int .i64 a0.c.C, .int .i64 a0.c.D, .int .i64 a0.slot, .int .i64 a0.cap.Kind, .int .i64 a0.cap.Rights, .int .i64 a0.cap.Obj, .int .i64 a0.cap.Badge, .int .i64 a0.cap.Guard, .int .i64 a0.cap.Bits], V.rep s_1, F]) (fun hk1 => ?_) ?_
 ·replace h := hC1
  refine S.block <| S.seq <| S.region <| vv (opv_eql rfl rfl) <| ag rfl <| SO.nil ?_
  rcases bool_or (a0.c.Op == 20) with b1 | b1
  ·replace h := VM.cond_t V.toVI b1 h
   refine S.condT rfl b1 <| S.region <| ag rfl <| SO.nil <| tt [(0, bp bp0 0), (2, errV 98 none), (3, .int .i64 6), (4, .int .i64 2)] rfl <| S.inBlock ?_
   obtain ⟨hq, rfl⟩ := VM.ret_some V.toVI h
   cases hq
   refine S.b2 <| S.b2 <| S.b2 ?_
   refine S.to ?_ (hk1 () trivial)
   exact ⟨rfl, rfl, rfl, rfl, trivial⟩
  replace h := VM.cond_f V.toVI b1 h
  refine S.condF rfl b1 <| S.seq <| S.seq <| S.region <| vv (opv_eql rfl rfl) <| ag rfl <| SO.nil <| tt [(0, bp bp0 0), (2, errV 98 none), (3, .int .i64 6), (4, .int .i64 1), (14, .int .i64 a0.c.Op), (17, .bool (a0.c.Op == 21))] rfl ?_
  rcases bool_or (a0.c.Op == 21) with b2 | b2
  ·replace h := VM.cond_t V.toVI b2 h
   refine S.condT rfl b2 <| S.skip ?_
   rcases bool_or (a0.c.Op == 21) with b3 | b3
   ·replace h := VM.cond_t V.toVI b3 h
    refine S.condT rfl b3 <| S.region <| ag rfl <| ag rfl <| SO.nil <| S.inBlock ?_
    obtain ⟨hq, rfl⟩ := VM.ret_some V.toVI h
    cases hq
    refine S.b2 <| S.b2 <| S.b2 ?_
    refine S.to ?_ (hk1 () trivial)
    exact ⟨rfl, rfl, rfl, rfl, trivial⟩
   replace h := VM.cond_f V.toVI b3 h
   refine S.condF rfl b3 <| S.skip <| S.inBlock ?_
   obtain ⟨hq, rfl⟩ := VM.ret_some V.toVI h
   cases hq
   refine S.b2 <| S.b2 <| S.b2 ?_
   refine S.to ?_ (hk1 () trivial)
   exact ⟨rfl, rfl, rfl, rfl, trivial⟩
  replace h := VM.cond_f V.toVI b2 h
  refine S.condF rfl b2 <| S.region <| vv (opv_eql rfl rfl) <| ag rfl <| SO.nil ?_
  rcases bool_or (a0.c.Op == 22) with b4 | b4
  ·replace h := VM.cond_t V.toVI b4 h
   refine S.condT rfl b4 <| S.region <| ag rfl <| ag rfl <| SO.nil <| S.inBlock ?_
   obtain ⟨hq, rfl⟩ := VM.ret_some V.toVI h
   cases hq
   refine S.b2 <| S.b2 <| S.b2 ?_
   refine S.to ?_ (hk1 () trivial)
   exact ⟨rfl, rfl, rfl, rfl, trivial⟩
  replace h := VM.cond_f V.toVI b4 h
  refine S.condF rfl b4 <| S.skip <| S.inBlock ?_
  obtain ⟨hq, rfl⟩ := VM.ret_some V.toVI h
  cases hq
  refine S.b2 <| S.b2 <| S.b2 ?_
  refine S.to ?_ (hk1 () trivial)
  exact ⟨rfl, rfl, rfl, rfl, trivial⟩
 rintro _ -
 replace h := hJ1
 refine S.seq <| S.seq <| S.region <| mv rfl <| nc rfl <| fa Tryz.underlying72 rfl Tryz.sizeOf45 rfl rfl <| SO.loadN rfl Tryz.isAgg45 Tryz.sizeOf45 rfl rfl rfl <| mv rfl <| mv rfl ?_
 obtain ⟨t5, ht6, h⟩ := VM.opt_some V.toVI h
 refine SO.call (pre := []) rfl Tryz.call59 rfl rfl rfl (invoke_is.ct _ _ _ _ ht6) trivial ?_
 rintro _ _ ⟨rfl, rfl⟩
 refine ag rfl <| SO.nil <| tt [(0, bp bp0 0), (2, errV 98 none), (5, errV 98 t5)] rfl <| S.seq <| S.region <| mv rfl <| vv (opv_neqN (e := t5) Tryz.underlying74 rfl) <| SO.nil ?_
 rcases bool_or t5.isSome with b7 | b7
 ·replace h := VM.cond_t V.toVI b7 h
  refine S.condT rfl b7 <| S.seq <| S.region <| mv rfl <| ag rfl <| SO.nil ?_
  obtain ⟨hq, rfl⟩ := VM.ret_some V.toVI h
  cases hq
  exact S.b2 <| S.b2 <| S.b2 <| S.ret1 Tryz.func39 rfl rfl (hR · _ _ ⟨rfl, rfl⟩)
 replace h := VM.cond_f V.toVI b7 h
 refine S.condF rfl b7 <| S.skip <| S.seq <| S.seq <| S.region <| mv rfl <| nc rfl <| fa Tryz.underlying72 rfl Tryz.sizeOf30 rfl rfl <| fa Tryz.underlying30 rfl Tryz.sizeOf3 rfl rfl <| ld Tryz.isAgg3 rfl rfl <| SO.nil <| tt [(0, bp bp0 0), (2, errV 98 none), (34, .int .i64 a0.c.Op)] rfl <| S.block <| S.seq <| S.region <| vv (opv_eql rfl rfl) <| ag rfl <| SO.nil ?_
 rcases bool_or (a0.c.Op == 19) with b8 | b8
 ·replace h := VM.cond_t V.toVI b8 h
  refine S.condT rfl b8 <| S.seq <| S.region <| mv rfl ?_
  obtain ⟨⟨t9, t10⟩, s12, ht11, h⟩ := VM.bind_some V.toVI h
  refine SO.b1 <| SO.b1 <| SO.call (pre := [Box _ _, V.rep _]) rfl Tryz.call76 rfl rfl rfl (invoke_doer_other.ct V _ bp0 _ _ _ _ _ _ _ ht11) trivial ?_
  rintro _ _ ⟨rfl, rfl⟩
  refine mv rfl <| vv (opv_extract rfl rfl) <| vv (opv_extract rfl rfl) <| SO.alloc rfl Tryz.zeroValue45 rfl fun b13 => SO.storeN Tryz.sizeOf45 rfl rfl rfl rfl rfl rfl <| ag rfl <| SO.nil <| tt [(0, bp bp0 0), (2, errV 98 none), (6, bp b13 0), (7, errV 98 t10)] rfl <| S.seq <| S.seq <| S.region <| mv rfl <| vv (opv_neqN (e := t10) Tryz.underlying74 rfl) <| SO.nil ?_
  rcases bool_or t10.isSome with b14 | b14
  ·replace h := VM.cond_t V.toVI b14 h
   refine S.condT rfl b14 <| S.seq <| S.region <| mv rfl <| ag rfl <| SO.nil ?_
   obtain ⟨hq, rfl⟩ := VM.ret_some V.toVI h
   cases hq
   exact S.drop <| S.b2 <| S.b2 <| S.b2 <| S.ret1 Tryz.func39 rfl rfl (hR · _ _ ⟨rfl, rfl⟩)
  replace h := VM.cond_f V.toVI b14 h
  refine S.condF rfl b14 <| S.skip <| S.seq <| S.seq <| S.region <| mv rfl <| nc rfl <| fa Tryz.underlying72 rfl Tryz.sizeOf30 rfl rfl <| fa Tryz.underlying30 rfl Tryz.sizeOf3 rfl rfl <| SO.b1 <| ld Tryz.isAgg3 rfl rfl <| vv (opv_gtr rfl rfl) <| SO.nil <| tt [(0, bp bp0 0), (2, errV 98 none), (6, bp b13 0), (50, .bool (decide (7 < a0.c.C)))] rfl ?_
  rcases bool_or (decide (7 < a0.c.C)) with b15 | b15
  ·replace h := VM.cond_t V.toVI b15 h
   refine S.condT rfl b15 <| S.seq <| S.region <| vv (opv_iface Tryz.underlying98 rfl rfl) <| ag rfl <| SO.nil ?_
   obtain ⟨hq, rfl⟩ := VM.ret_some V.toVI h
   cases hq
   exact S.b1 <| S.drop <| S.b2 <| S.b2 <| S.b2 <| S.ret1 Tryz.func39 rfl rfl (hR · _ _ ⟨rfl, rfl⟩)
  replace h := VM.cond_f V.toVI b15 h
  refine S.condF rfl b15 <| S.skip <| S.seq ?_
  obtain ⟨t16, s18, ht17, h⟩ := VM.bind_some V.toVI h
  refine S.draw2 (Y := fun Q => ∃ (_ _ _ _ _ _ : Unit), Q [(0, bp bp0 0), (6, bp b13 0)] [Box bp0 [V.val, .int .i64 a0.t, .int .i64 a0.c.Op, .int .i64 a0.c.Cap, .int .i64 a0.c.A, .int .i64 a0.c.B, .int .i64 a0.c.C, .int .i64 a0.c.D, .int .i64 a0.slot, .int .i64 a0.cap.Kind, .int .i64 a0.cap.Rights, .int .i64 a0.cap.Obj, .int .i64 a0.cap.Badge, .int .i64 a0.cap.Guard, .int .i64 a0.cap.Bits], Box b13 [.int .i64 t9.Kind, .int .i64 t9.Rights, .int .i64 t9.Obj, .int .i64 t9.Badge, .int .i64 t9.Guard, .int .i64 t9.Bits], V.rep s12, F]) (Z := fun Q => ∀ (_ _ _ _ _ : Unit), Q [(2, errV 98 t16)] [Box bp0 [V.val, .int .i64 a0.t, .int .i64 a0.c.Op, .int .i64 a0.c.Cap, .int .i64 a0.c.A, .int .i64 a0.c.B, .int .i64 a0.c.C, .int .i64 a0.c.D, .int .i64 a0.slot, .int .i64 a0.cap.Kind, .int .i64 a0.cap.Rights, .int .i64 a0.cap.Obj, .int .i64 a0.cap.Badge, .int .i64 a0.cap.Guard, .int .i64 a0.cap.Bits], Box b13 [.int .i64 t9.Kind, .int .i64 t9.Rights, .int .i64 t9.Obj, .int .i64 t9.Badge, .int .i64 t9.Guard, .int .i64 t9.Bits], V.rep s18, F]) (T := [tS 0 (bp bp0 0), tS 6 (bp b13 0), tR (Box bp0 [V.val, .int .i64 a0.t, .int .i64 a0.c.Op, .int .i64 a0.c.Cap, .int .i64 a0.c.A, .int .i64 a0.c.B, .int .i64 a0.c.C, .int .i64 a0.c.D, .int .i64 a0.slot, .int .i64 a0.cap.Kind, .int .i64 a0.cap.Rights, .int .i64 a0.cap.Obj, .int .i64 a0.cap.Badge, .int .i64 a0.cap.Guard, .int .i64 a0.cap.Bits]), tR (Box b13 [.int .i64 t9.Kind, .int .i64 t9.Rights, .int .i64 t9.Obj, .int .i64 t9.Badge, .int .i64 t9.Guard, .int .i64 t9.Bits]), tR (V.rep s12), tR (F), tS 52 (bp bp0 0), tS 53 (bp bp0 0), tS 54 (bp bp0 0), tS 55 (V.val), tS 56 (bp bp0 0), tS 57 (bp bp0 0), tS 58 (bp bp0 9), tS 59 (bp bp0 11), tS 60 (.int .i64 a0.cap.Obj), tS 61 (bp b13 2), tS 62 (.int .i64 t9.Obj), tS 63 (bp bp0 0), tS 64 (bp bp0 0), tS 65 (bp bp0 2), tS 66 (bp bp0 5), tS 67 (.int .i64 a0.c.B), tS 68 (bp bp0 0), tS 69 (bp bp0 0), tS 70 (bp bp0 9), tS 71 (bp bp0 10), tS 72 (.int .i64 a0.cap.Rights), tS 73 (bp bp0 0), tS 74 (bp bp0 0), tS 75 (bp bp0 2), tS 76 (bp bp0 6), tS 77 (.int .i64 a0.c.C), tS 78 (.int .i64 (band .i64 a0.cap.Rights a0.c.C)), tR (V.rep s18), tS 79 (errV 98 t16), tS 2 (errV 98 t16)]) (D := [⟨[0], [], [6]⟩, ⟨[6], [], [7]⟩, ⟨[7], [], [8]⟩, ⟨[8, 2], [], [9]⟩, ⟨[0], [], [10]⟩, ⟨[10], [], [11]⟩, ⟨[11], [], [12]⟩, ⟨[12], [], [13]⟩, ⟨[13, 2], [], [14]⟩, ⟨[1], [], [15]⟩, ⟨[15, 3], [], [16]⟩, ⟨[0], [], [17]⟩, ⟨[17], [], [18]⟩, ⟨[18], [], [19]⟩, ⟨[19], [], [20]⟩, ⟨[20, 2], [], [21]⟩, ⟨[0], [], [22]⟩, ⟨[22], [], [23]⟩, ⟨[23], [], [24]⟩, ⟨[24], [], [25]⟩, ⟨[25, 2], [], [26]⟩, ⟨[0], [], [27]⟩, ⟨[27], [], [28]⟩, ⟨[28], [], [29]⟩, ⟨[29], [], [30]⟩, ⟨[30, 2], [], [31]⟩, ⟨[26, 31], [], [32]⟩, ⟨[9, 14, 16, 21, 32], [4], [33, 34]⟩, ⟨[34], [], [35]⟩]) (ini := [0, 1, 2, 3, 4, 5]) (fin := [35, 2, 3, 33, 5]) (bf := [[], [0], [0, 1], [0, 1, 2], [], [4], [4, 5], [4, 5, 6], [4, 5, 6, 7], [], [9], [], [11], [11, 12], [11, 12, 13], [11, 12, 13, 14], [], [16], [16, 17], [16, 17, 18], [16, 17, 18, 19], [], [21], [21, 22], [21, 22, 23], [21, 22, 23, 24], [16, 17, 18, 19, 20, 21, 22, 23, 24, 25], [0, 1, 2, 3, 4, 5, 6, 7, 8, 9, 10, 11, 12, 13, 14, 15, 16, 17, 18, 19, 20, 21, 22, 23, 24, 25, 26], [0, 1, 2, 3, 4, 5, 6, 7, 8, 9, 10, 11, 12, 13, 14, 15, 16, 17, 18, 19, 20, 21, 22, 23, 24, 25, 26, 27]]) (by kernel_rfl) (by kernel_rfl) (fun Q => by kernel_rfl) (fun x w h1 h2 => ⟨(), (), (), (), (), (), EnvAll.of h1 ⟨rfl, rfl, trivial⟩, h2⟩) (fun Q => by kernel_rfl) ⟨?_, ?_, ?_, ?_, ?_, ?_, ?_, ?_, ?_, ?_, ?_, ?_, ?_, ?_, ?_, ?_, ?_, ?_, ?_, ?_, ?_, ?_, ?_, ?_, ?_, ?_, ?_, ?_, ?_, trivial⟩ ?_
  ·rintro Fr _
   exact mv rfl <| nz2 rfl () () rfl
  ·rintro Fr _
   exact nc rfl <| nz2 rfl () () rfl
  ·rintro Fr _
   exact fa Tryz.underlying72 rfl Tryz.sizeOf65 rfl rfl <| nz2 rfl () () rfl
  ·rintro Fr _ _
   exact ld Tryz.isAgg65 rfl rfl <| nz3 rfl () () () rfl
  ·rintro Fr _
   exact mv rfl <| nz2 rfl () () rfl
  ·rintro Fr _
   exact nc rfl <| nz2 rfl () () rfl
  ·rintro Fr _
   exact fa Tryz.underlying72 rfl Tryz.sizeOf45 rfl rfl <| nz2 rfl () () rfl
  ·rintro Fr _
   exact fa Tryz.underlying45 rfl Tryz.sizeOf3 rfl rfl <| nz2 rfl () () rfl
  ·rintro Fr _ _
   exact ld Tryz.isAgg3 rfl rfl <| nz3 rfl () () () rfl
  ·rintro Fr _
   exact fa Tryz.underlying45 rfl Tryz.sizeOf3 rfl rfl <| nz2 rfl () () rfl
  ·rintro Fr _ _
   exact ld Tryz.isAgg3 rfl rfl <| nz3 rfl () () () rfl
  ·rintro Fr _
   exact mv rfl <| nz2 rfl () () rfl
  ·rintro Fr _
   exact nc rfl <| nz2 rfl () () rfl
  ·rintro Fr _
   exact fa Tryz.underlying72 rfl Tryz.sizeOf30 rfl rfl <| nz2 rfl () () rfl
  ·rintro Fr _
   exact fa Tryz.underlying30 rfl Tryz.sizeOf3 rfl rfl <| nz2 rfl () () rfl
  ·rintro Fr _ _
   exact ld Tryz.isAgg3 rfl rfl <| nz3 rfl () () () rfl
  ·rintro Fr _
   exact mv rfl <| nz2 rfl () () rfl
  ·rintro Fr _
   exact nc rfl <| nz2 rfl () () rfl
  ·rintro Fr _
   exact fa Tryz.underlying72 rfl Tryz.sizeOf45 rfl rfl <| nz2 rfl () () rfl
  ·rintro Fr _
   exact fa Tryz.underlying45 rfl Tryz.sizeOf3 rfl rfl <| nz2 rfl () () rfl
  ·rintro Fr _ _
   exact ld Tryz.isAgg3 rfl rfl <| nz3 rfl () () () rfl
  ·rintro Fr _
   exact mv rfl <| nz2 rfl () () rfl
  ·rintro Fr _
   exact nc rfl <| nz2 rfl () () rfl
  ·rintro Fr _
   exact fa Tryz.underlying72 rfl Tryz.sizeOf30 rfl rfl <| nz2 rfl () () rfl
  ·rintro Fr _
   exact fa Tryz.underlying30 rfl Tryz.sizeOf3 rfl rfl <| nz2 rfl () () rfl
  ·rintro Fr _ _
   exact ld Tryz.isAgg3 rfl rfl <| nz3 rfl () () () rfl
  ·rintro Fr _ _
   exact vv (opv_and rfl rfl) <| nz3 rfl () () () rfl
  ·refine spec2 (X := fun Q => ∀ (_ _ _ _ _ _ : Unit), Q [(55, V.val), (60, .int .i64 a0.cap.Obj), (62, .int .i64 t9.Obj), (67, .int .i64 a0.c.B), (78, .int .i64 (band .i64 a0.cap.Rights a0.c.C))] [V.rep s12]) (fun Q => by kernel_rfl) ?_
   rintro Fr _ _ _ _ _ _
   refine SO.call (pre := [V.rep _]) rfl Tryz.call78 rfl rfl rfl (space_Map.ct V _ _ _ _ _ _ _ ht17) trivial ?_
   rintro _ _ ⟨rfl, rfl⟩
   exact SO.nilZ fun a w h1 h2 h3 h4 h5 => PZ.of2 (Y := fun Q => ∃ (_ _ _ _ _ _ _ : Unit), Q [(55, V.val), (60, .int .i64 a0.cap.Obj), (62, .int .i64 t9.Obj), (67, .int .i64 a0.c.B), (78, .int .i64 (band .i64 a0.cap.Rights a0.c.C)), (79, errV 98 t16)] [V.rep s18]) (fun Q => by kernel_rfl) h1 h3 h5 ⟨(), (), (), (), (), (), (), EnvAll.of h2 ⟨rfl, rfl, rfl, rfl, rfl, rfl, trivial⟩, h4⟩
  ·rintro Fr _
   exact ag rfl <| nz2 rfl () () rfl
  rintro _ _ _ _ _
  refine tt [(2, errV 98 t16)] rfl ?_
  obtain ⟨hq, rfl⟩ := VM.ret_some V.toVI h
  cases hq
  exact S.b1 <| S.drop <| S.b2 <| S.b2 <| S.b2 <| S.ret1 Tryz.func39 rfl rfl (hR · _ _ ⟨rfl, rfl⟩)
 replace h := VM.cond_f V.toVI b8 h
 refine S.condF rfl b8 <| S.seq <| S.region <| vv (opv_eql rfl rfl) <| ag rfl <| SO.nil ?_
 rcases bool_or (a0.c.Op == 20) with b19 | b19
 ·replace h := VM.cond_t V.toVI b19 h
  refine S.condT rfl b19 <| S.seq ?_
  obtain ⟨t20, s22, ht21, h⟩ := VM.bind_some V.toVI h
  refine S.draw2 (Y := fun Q => ∃ (_ _ _ _ : Unit), Q [(0, bp bp0 0)] [Box bp0 [V.val, .int .i64 a0.t, .int .i64 a0.c.Op, .int .i64 a0.c.Cap, .int .i64 a0.c.A, .int .i64 a0.c.B, .int .i64 a0.c.C, .int .i64 a0.c.D, .int .i64 a0.slot, .int .i64 a0.cap.Kind, .int .i64 a0.cap.Rights, .int .i64 a0.cap.Obj, .int .i64 a0.cap.Badge, .int .i64 a0.cap.Guard, .int .i64 a0.cap.Bits], V.rep s_1, F]) (Z := fun Q => ∀ (_ _ _ _ : Unit), Q [(2, errV 98 t20)] [Box bp0 [V.val, .int .i64 a0.t, .int .i64 a0.c.Op, .int .i64 a0.c.Cap, .int .i64 a0.c.A, .int .i64 a0.c.B, .int .i64 a0.c.C, .int .i64 a0.c.D, .int .i64 a0.slot, .int .i64 a0.cap.Kind, .int .i64 a0.cap.Rights, .int .i64 a0.cap.Obj, .int .i64 a0.cap.Badge, .int .i64 a0.cap.Guard, .int .i64 a0.cap.Bits], V.rep s22, F]) (T := [tS 0 (bp bp0 0), tR (Box bp0 [V.val, .int .i64 a0.t, .int .i64 a0.c.Op, .int .i64 a0.c.Cap, .int .i64 a0.c.A, .int .i64 a0.c.B, .int .i64 a0.c.C, .int .i64 a0.c.D, .int .i64 a0.slot, .int .i64 a0.cap.Kind, .int .i64 a0.cap.Rights, .int .i64 a0.cap.Obj, .int .i64 a0.cap.Badge, .int .i64 a0.cap.Guard, .int .i64 a0.cap.Bits]), tR (V.rep s_1), tR (F), tS 82 (bp bp0 0), tS 83 (bp bp0 0), tS 84 (bp bp0 0), tS 85 (V.val), tS 86 (bp bp0 0), tS 87 (bp bp0 0), tS 88 (bp bp0 9), tS 89 (bp bp0 11), tS 90 (.int .i64 a0.cap.Obj), tR (V.rep s22), tS 91 (errV 98 t20), tS 2 (errV 98 t20)]) (D := [⟨[0], [], [4]⟩, ⟨[4], [], [5]⟩, ⟨[5], [], [6]⟩, ⟨[6, 1], [], [7]⟩, ⟨[0], [], [8]⟩, ⟨[8], [], [9]⟩, ⟨[9], [], [10]⟩, ⟨[10], [], [11]⟩, ⟨[11, 1], [], [12]⟩, ⟨[7, 12], [2], [13, 14]⟩, ⟨[14], [], [15]⟩]) (ini := [0, 1, 2, 3]) (fin := [15, 1, 13, 3]) (bf := [[], [0], [0, 1], [0, 1, 2], [], [4], [4, 5], [4, 5, 6], [4, 5, 6, 7], [0, 1, 2, 3, 4, 5, 6, 7, 8], [0, 1, 2, 3, 4, 5, 6, 7, 8, 9]]) (by kernel_rfl) (by kernel_rfl) (fun Q => by kernel_rfl) (fun x w h1 h2 => ⟨(), (), (), (), EnvAll.of h1 ⟨rfl, trivial⟩, h2⟩) (fun Q => by kernel_rfl) ⟨?_, ?_, ?_, ?_, ?_, ?_, ?_, ?_, ?_, ?_, ?_, trivial⟩ ?_
  ·rintro Fr _
   exact mv rfl <| nz2 rfl () () rfl
  ·rintro Fr _
   exact nc rfl <| nz2 rfl () () rfl
  ·rintro Fr _
   exact fa Tryz.underlying72 rfl Tryz.sizeOf65 rfl rfl <| nz2 rfl () () rfl
  ·rintro Fr _ _
   exact ld Tryz.isAgg65 rfl rfl <| nz3 rfl () () () rfl
  ·rintro Fr _
   exact mv rfl <| nz2 rfl () () rfl
  ·rintro Fr _
   exact nc rfl <| nz2 rfl () () rfl
  ·rintro Fr _
   exact fa Tryz.underlying72 rfl Tryz.sizeOf45 rfl rfl <| nz2 rfl () () rfl
  ·rintro Fr _
   exact fa Tryz.underlying45 rfl Tryz.sizeOf3 rfl rfl <| nz2 rfl () () rfl
  ·rintro Fr _ _
   exact ld Tryz.isAgg3 rfl rfl <| nz3 rfl () () () rfl
  ·rintro Fr _ _ _
   refine SO.call (pre := [V.rep _]) rfl Tryz.call79 rfl rfl rfl (space_Unmap.ct V _ _ _ _ ht21) trivial ?_
   rintro _ _ ⟨rfl, rfl⟩
   exact nz4 rfl () () () () rfl
  ·rintro Fr _
   exact ag rfl <| nz2 rfl () () rfl
  rintro _ _ _ _
  refine tt [(2, errV 98 t20)] rfl ?_
  obtain ⟨hq, rfl⟩ := VM.ret_some V.toVI h
  cases hq
  exact S.b2 <| S.b2 <| S.b2 <| S.ret1 Tryz.func39 rfl rfl (hR · _ _ ⟨rfl, rfl⟩)
 replace h := VM.cond_f V.toVI b19 h
 refine S.condF rfl b19 <| S.seq <| S.region <| vv (opv_eql rfl rfl) <| ag rfl <| SO.nil ?_
 rcases bool_or (a0.c.Op == 21) with b23 | b23
 ·replace h := VM.cond_t V.toVI b23 h
  refine S.condT rfl b23 <| S.seq <| S.region <| mv rfl ?_
  obtain ⟨⟨t24, t25⟩, s27, ht26, h⟩ := VM.bind_some V.toVI h
  refine SO.b1 <| SO.b1 <| SO.call (pre := [Box _ _, V.rep _]) rfl Tryz.call76 rfl rfl rfl (invoke_doer_other.ct V _ bp0 _ _ _ _ _ _ _ ht26) trivial ?_
  rintro _ _ ⟨rfl, rfl⟩
  refine mv rfl <| vv (opv_extract rfl rfl) <| vv (opv_extract rfl rfl) <| SO.alloc rfl Tryz.zeroValue45 rfl fun b28 => SO.storeN Tryz.sizeOf45 rfl rfl rfl rfl rfl rfl <| ag rfl <| SO.nil <| tt [(0, bp bp0 0), (2, errV 98 none), (8, bp b28 0), (9, errV 98 t25)] rfl <| S.seq <| S.seq <| S.region <| mv rfl <| vv (opv_neqN (e := t25) Tryz.underlying74 rfl) <| SO.nil ?_
  rcases bool_or t25.isSome with b29 | b29
  ·replace h := VM.cond_t V.toVI b29 h
   refine S.condT rfl b29 <| S.seq <| S.region <| mv rfl <| ag rfl <| SO.nil ?_
   obtain ⟨hq, rfl⟩ := VM.ret_some V.toVI h
   cases hq
   exact S.drop <| S.b2 <| S.b2 <| S.b2 <| S.ret1 Tryz.func39 rfl rfl (hR · _ _ ⟨rfl, rfl⟩)
  replace h := VM.cond_f V.toVI b29 h
  refine S.condF rfl b29 <| S.skip <| S.seq ?_
  obtain ⟨t30, ht31, h⟩ := VM.opt_some V.toVI h
  obtain ⟨t32, s34, ht33, h⟩ := VM.bind_some V.toVI h
  refine S.draw2 (Y := fun Q => ∃ (_ _ _ _ _ _ : Unit), Q [(0, bp bp0 0), (8, bp b28 0)] [Box b28 [.int .i64 t24.Kind, .int .i64 t24.Rights, .int .i64 t24.Obj, .int .i64 t24.Badge, .int .i64 t24.Guard, .int .i64 t24.Bits], Box bp0 [V.val, .int .i64 a0.t, .int .i64 a0.c.Op, .int .i64 a0.c.Cap, .int .i64 a0.c.A, .int .i64 a0.c.B, .int .i64 a0.c.C, .int .i64 a0.c.D, .int .i64 a0.slot, .int .i64 a0.cap.Kind, .int .i64 a0.cap.Rights, .int .i64 a0.cap.Obj, .int .i64 a0.cap.Badge, .int .i64 a0.cap.Guard, .int .i64 a0.cap.Bits], V.rep s27, F]) (Z := fun Q => ∀ (_ _ _ _ _ : Unit), Q [(2, errV 98 t32)] [Box b28 [.int .i64 t24.Kind, .int .i64 t24.Rights, .int .i64 t24.Obj, .int .i64 t24.Badge, .int .i64 t24.Guard, .int .i64 t24.Bits], Box bp0 [V.val, .int .i64 a0.t, .int .i64 a0.c.Op, .int .i64 a0.c.Cap, .int .i64 a0.c.A, .int .i64 a0.c.B, .int .i64 a0.c.C, .int .i64 a0.c.D, .int .i64 a0.slot, .int .i64 a0.cap.Kind, .int .i64 a0.cap.Rights, .int .i64 a0.cap.Obj, .int .i64 a0.cap.Badge, .int .i64 a0.cap.Guard, .int .i64 a0.cap.Bits], V.rep s34, F]) (T := [tS 0 (bp bp0 0), tS 8 (bp b28 0), tR (Box b28 [.int .i64 t24.Kind, .int .i64 t24.Rights, .int .i64 t24.Obj, .int .i64 t24.Badge, .int .i64 t24.Guard, .int .i64 t24.Bits]), tR (Box bp0 [V.val, .int .i64 a0.t, .int .i64 a0.c.Op, .int .i64 a0.c.Cap, .int .i64 a0.c.A, .int .i64 a0.c.B, .int .i64 a0.c.C, .int .i64 a0.c.D, .int .i64 a0.slot, .int .i64 a0.cap.Kind, .int .i64 a0.cap.Rights, .int .i64 a0.cap.Obj, .int .i64 a0.cap.Badge, .int .i64 a0.cap.Guard, .int .i64 a0.cap.Bits]), tR (V.rep s27), tR (F), tS 102 (bp bp0 0), tS 103 (bp bp0 0), tS 104 (bp bp0 0), tS 105 (V.val), tS 106 (bp bp0 0), tS 107 (bp bp0 0), tS 108 (bp bp0 9), tS 109 (bp bp0 11), tS 110 (.int .i64 a0.cap.Obj), tS 111 (bp b28 2), tS 112 (.int .i64 t24.Obj), tS 113 (.agg #[.int .i64 t24.Kind, .int .i64 t24.Rights, .int .i64 t24.Obj, .int .i64 t24.Badge, .int .i64 t24.Guard, .int .i64 t24.Bits]), tS 114 (.int .i64 t30), tR (V.rep s34), tS 115 (errV 98 t32), tS 2 (errV 98 t32)]) (D := [⟨[0], [], [6]⟩, ⟨[6], [], [7]⟩, ⟨[7], [], [8]⟩, ⟨[8, 3], [], [9]⟩, ⟨[0], [], [10]⟩, ⟨[10], [], [11]⟩, ⟨[11], [], [12]⟩, ⟨[12], [], [13]⟩, ⟨[13, 3], [], [14]⟩, ⟨[1], [], [15]⟩, ⟨[15, 2], [], [16]⟩, ⟨[1, 2], [], [17]⟩, ⟨[17], [], [18]⟩, ⟨[9, 14, 16, 18], [4], [19, 20]⟩, ⟨[20], [], [21]⟩]) (ini := [0, 1, 2, 3, 4, 5]) (fin := [21, 2, 3, 19, 5]) (bf := [[], [0], [0, 1], [0, 1, 2], [], [4], [4, 5], [4, 5, 6], [4, 5, 6, 7], [], [9], [], [11], [0, 1, 2, 3, 4, 5, 6, 7, 8, 9, 10, 11, 12], [0, 1, 2, 3, 4, 5, 6, 7, 8, 9, 10, 11, 12, 13]]) (by kernel_rfl) (by kernel_rfl) (fun Q => by kernel_rfl) (fun x w h1 h2 => ⟨(), (), (), (), (), (), EnvAll.of h1 ⟨rfl, rfl, trivial⟩, h2⟩) (fun Q => by kernel_rfl) ⟨?_, ?_, ?_, ?_, ?_, ?_, ?_, ?_, ?_, ?_, ?_, ?_, ?_, ?_, ?_, trivial⟩ ?_
  ·rintro Fr _
   exact mv rfl <| nz2 rfl () () rfl
  ·rintro Fr _
   exact nc rfl <| nz2 rfl () () rfl
  ·rintro Fr _
   exact fa Tryz.underlying72 rfl Tryz.sizeOf65 rfl rfl <| nz2 rfl () () rfl
  ·rintro Fr _ _
   exact ld Tryz.isAgg65 rfl rfl <| nz3 rfl () () () rfl
  ·rintro Fr _
   exact mv rfl <| nz2 rfl () () rfl
  ·rintro Fr _
   exact nc rfl <| nz2 rfl () () rfl
  ·rintro Fr _
   exact fa Tryz.underlying72 rfl Tryz.sizeOf45 rfl rfl <| nz2 rfl () () rfl
  ·rintro Fr _
   exact fa Tryz.underlying45 rfl Tryz.sizeOf3 rfl rfl <| nz2 rfl () () rfl
  ·rintro Fr _ _
   exact ld Tryz.isAgg3 rfl rfl <| nz3 rfl () () () rfl
  ·rintro Fr _
   exact fa Tryz.underlying45 rfl Tryz.sizeOf3 rfl rfl <| nz2 rfl () () rfl
  ·rintro Fr _ _
   exact ld Tryz.isAgg3 rfl rfl <| nz3 rfl () () () rfl
  ·rintro Fr _ _
   exact SO.loadN rfl Tryz.isAgg45 Tryz.sizeOf45 rfl rfl rfl <| nz3 rfl () () () rfl
  ·rintro Fr _
   refine SO.call (pre := []) rfl Tryz.call63 rfl rfl rfl (invoke_signed.ct _ _ ht31) trivial ?_
   rintro _ _ ⟨rfl, rfl⟩
   exact nz2 rfl () () rfl
  ·refine spec2 (X := fun Q => ∀ (_ _ _ _ _ : Unit), Q [(105, V.val), (110, .int .i64 a0.cap.Obj), (112, .int .i64 t24.Obj), (114, .int .i64 t30)] [V.rep s27]) (fun Q => by kernel_rfl) ?_
   rintro Fr _ _ _ _ _
   refine SO.call (pre := [V.rep _]) rfl Tryz.call80 rfl rfl rfl (irq_Bind.ct V _ _ _ _ _ _ ht33) trivial ?_
   rintro _ _ ⟨rfl, rfl⟩
   exact SO.nilZ fun a w h1 h2 h3 h4 h5 => PZ.of2 (Y := fun Q => ∃ (_ _ _ _ _ _ : Unit), Q [(105, V.val), (110, .int .i64 a0.cap.Obj), (112, .int .i64 t24.Obj), (114, .int .i64 t30), (115, errV 98 t32)] [V.rep s34]) (fun Q => by kernel_rfl) h1 h3 h5 ⟨(), (), (), (), (), (), EnvAll.of h2 ⟨rfl, rfl, rfl, rfl, rfl, trivial⟩, h4⟩
  ·rintro Fr _
   exact ag rfl <| nz2 rfl () () rfl
  rintro _ _ _ _ _
  refine tt [(2, errV 98 t32)] rfl ?_
  obtain ⟨hq, rfl⟩ := VM.ret_some V.toVI h
  cases hq
  exact S.drop <| S.b2 <| S.b2 <| S.b2 <| S.ret1 Tryz.func39 rfl rfl (hR · _ _ ⟨rfl, rfl⟩)
 replace h := VM.cond_f V.toVI b23 h
 refine S.condF rfl b23 <| S.skip <| S.inBlock <| S.seq ?_
 obtain ⟨t35, s37, ht36, h⟩ := VM.bind_some V.toVI h
 refine S.draw2 (Y := fun Q => ∃ (_ _ _ _ : Unit), Q [(0, bp bp0 0)] [Box bp0 [V.val, .int .i64 a0.t, .int .i64 a0.c.Op, .int .i64 a0.c.Cap, .int .i64 a0.c.A, .int .i64 a0.c.B, .int .i64 a0.c.C, .int .i64 a0.c.D, .int .i64 a0.slot, .int .i64 a0.cap.Kind, .int .i64 a0.cap.Rights, .int .i64 a0.cap.Obj, .int .i64 a0.cap.Badge, .int .i64 a0.cap.Guard, .int .i64 a0.cap.Bits], V.rep s_1, F]) (Z := fun Q => ∀ (_ _ _ _ : Unit), Q [(2, errV 98 t35)] [Box bp0 [V.val, .int .i64 a0.t, .int .i64 a0.c.Op, .int .i64 a0.c.Cap, .int .i64 a0.c.A, .int .i64 a0.c.B, .int .i64 a0.c.C, .int .i64 a0.c.D, .int .i64 a0.slot, .int .i64 a0.cap.Kind, .int .i64 a0.cap.Rights, .int .i64 a0.cap.Obj, .int .i64 a0.cap.Badge, .int .i64 a0.cap.Guard, .int .i64 a0.cap.Bits], V.rep s37, F]) (T := [tS 0 (bp bp0 0), tR (Box bp0 [V.val, .int .i64 a0.t, .int .i64 a0.c.Op, .int .i64 a0.c.Cap, .int .i64 a0.c.A, .int .i64 a0.c.B, .int .i64 a0.c.C, .int .i64 a0.c.D, .int .i64 a0.slot, .int .i64 a0.cap.Kind, .int .i64 a0.cap.Rights, .int .i64 a0.cap.Obj, .int .i64 a0.cap.Badge, .int .i64 a0.cap.Guard, .int .i64 a0.cap.Bits]), tR (V.rep s_1), tR (F), tS 116 (bp bp0 0), tS 117 (bp bp0 0), tS 118 (bp bp0 0), tS 119 (V.val), tS 120 (bp bp0 0), tS 121 (bp bp0 0), tS 122 (bp bp0 9), tS 123 (bp bp0 11), tS 124 (.int .i64 a0.cap.Obj), tR (V.rep s37), tS 125 (errV 98 t35), tS 2 (errV 98 t35)]) (D := [⟨[0], [], [4]⟩, ⟨[4], [], [5]⟩, ⟨[5], [], [6]⟩, ⟨[6, 1], [], [7]⟩, ⟨[0], [], [8]⟩, ⟨[8], [], [9]⟩, ⟨[9], [], [10]⟩, ⟨[10], [], [11]⟩, ⟨[11, 1], [], [12]⟩, ⟨[7, 12], [2], [13, 14]⟩, ⟨[14], [], [15]⟩]) (ini := [0, 1, 2, 3]) (fin := [15, 1, 13, 3]) (bf := [[], [0], [0, 1], [0, 1, 2], [], [4], [4, 5], [4, 5, 6], [4, 5, 6, 7], [0, 1, 2, 3, 4, 5, 6, 7, 8], [0, 1, 2, 3, 4, 5, 6, 7, 8, 9]]) (by kernel_rfl) (by kernel_rfl) (fun Q => by kernel_rfl) (fun x w h1 h2 => ⟨(), (), (), (), EnvAll.of h1 ⟨rfl, trivial⟩, h2⟩) (fun Q => by kernel_rfl) ⟨?_, ?_, ?_, ?_, ?_, ?_, ?_, ?_, ?_, ?_, ?_, trivial⟩ ?_
 ·rintro Fr _
  exact mv rfl <| nz2 rfl () () rfl
 ·rintro Fr _
  exact nc rfl <| nz2 rfl () () rfl
 ·rintro Fr _
  exact fa Tryz.underlying72 rfl Tryz.sizeOf65 rfl rfl <| nz2 rfl () () rfl
 ·rintro Fr _ _
  exact ld Tryz.isAgg65 rfl rfl <| nz3 rfl () () () rfl
 ·rintro Fr _
  exact mv rfl <| nz2 rfl () () rfl
 ·rintro Fr _
  exact nc rfl <| nz2 rfl () () rfl
 ·rintro Fr _
  exact fa Tryz.underlying72 rfl Tryz.sizeOf45 rfl rfl <| nz2 rfl () () rfl
 ·rintro Fr _
  exact fa Tryz.underlying45 rfl Tryz.sizeOf3 rfl rfl <| nz2 rfl () () rfl
 ·rintro Fr _ _
  exact ld Tryz.isAgg3 rfl rfl <| nz3 rfl () () () rfl
 ·rintro Fr _ _ _
  refine SO.call (pre := [V.rep _]) rfl Tryz.call81 rfl rfl rfl (irq_Ack.ct V _ _ _ _ ht36) trivial ?_
  rintro _ _ ⟨rfl, rfl⟩
  exact nz4 rfl () () () () rfl
 ·rintro Fr _
  exact ag rfl <| nz2 rfl () () rfl
 rintro _ _ _ _
 refine tt [(2, errV 98 t35)] rfl ?_
 obtain ⟨hq, rfl⟩ := VM.ret_some V.toVI h
 cases hq
 exact S.b2 <| S.b2 <| S.b2 <| S.ret1 Tryz.func39 rfl rfl (hR · _ _ ⟨rfl, rfl⟩)
def queue_there.f (a0 : Int) : Option (Bool) :=
  (lay_Obj.f a0 0).bind fun (t1, t2) => some t2
set_option maxHeartbeats 8000000 in
set_option maxRecDepth 100000 in
theorem queue_there.ct (a0 : Int) (r0 : Bool) (h : queue_there.f a0 = some r0) :
    Ct Tryz.prog 203 [.int .i64 a0] (fun _ => True) [] (fun u H' => u = .bool r0 ∧ H' = []) := by
 unfold queue_there.f at h
 refine Ct.intro (n := 11) Tryz.func203 rfl rfl rfl ?_
 intro R w0 F hF hR
 refine S.seq <| S.region <| ag rfl <| SO.nil <| S.seq <| S.region <| mv rfl ?_
 obtain ⟨⟨t1, t2⟩, ht3, h⟩ := opt_bind h
 refine SO.call (pre := []) rfl Tryz.call49 rfl rfl rfl (lay_Obj.ct _ _ _ _ ht3) trivial ?_
 rintro _ _ ⟨rfl, rfl⟩
 refine mv rfl <| vv (opv_extract rfl rfl) <| vv (opv_extract rfl rfl) <| ag rfl <| ag rfl <| SO.nil <| tt [(2, .bool false), (4, .bool t2)] rfl <| S.seq <| S.region <| mv rfl <| ag rfl <| SO.nil ?_
 cases h
 exact S.ret1 Tryz.func203 rfl rfl (hR · _ _ ⟨rfl, rfl⟩)
def queue_Push.f (a1 : Int) (a2 : Int) : VM ((Option Int)) :=
  (VM.opt (queue_there.f a1)).bind fun t1 => (bif !t1 then (VM.ret true) else ((VM.opt (queue_there.f a2)).bind fun t6 => VM.ret (!t6))).bind fun c4 => bif c4 then (VM.ret (some 2)) else ((lay_Put.f a2 2 0).bind fun _ => (lay_Ref.f a1 3).bind fun (t12, t13) => bif t13 then ((lay_Put.f t12 2 (w64 (a2 + 1))).bind fun _ => (lay_Put.f a1 3 (w64 (a2 + 1))).bind fun _ => VM.ret none) else ((lay_Put.f a1 2 (w64 (a2 + 1))).bind fun _ => (lay_Put.f a1 3 (w64 (a2 + 1))).bind fun _ => VM.ret none))
set_option maxHeartbeats 8000000 in
set_option maxRecDepth 100000 in
theorem queue_Push.ct (V : VW Tryz.prog) (a1 : Int) (a2 : Int) (r0 : Option Int) (s s' : V.S) (h : VM.run V.toVI (queue_Push.f a1 a2) s = some (r0, s')) :
    Ct Tryz.prog 174 [V.val, .int .i64 a1, .int .i64 a2] (fun _ => True) [V.rep s] (fun u H' => u = errV 98 r0 ∧ H' = [V.rep s']) := by
 unfold queue_Push.f at h
 refine Ct.intro (n := 43) Tryz.func174 rfl rfl rfl ?_
 intro R w0 F hF hR
 refine S.seq <| S.region <| ag rfl <| SO.nil <| S.seq <| S.seq <| S.region <| mv rfl ?_
 obtain ⟨t1, ht2, h⟩ := VM.opt_some V.toVI h
 refine SO.call (pre := []) rfl Tryz.call203 rfl rfl rfl (queue_there.ct _ _ ht2) trivial ?_
 rintro _ _ ⟨rfl, rfl⟩
 refine vv (opv_not rfl) <| mv rfl ?_
 obtain ⟨c4, s8, hc5, hgk⟩ := VM.bind_some V.toVI h
 refine SO.cut 4 16 (.bool c4) [V.rep s8, F] (fun l2 hk2 => ?_) ?_
 ·clear hgk
  replace h := hc5
  rcases bool_or (!t1) with b3 | b3
  ·replace h := VM.cond_t V.toVI b3 h
   refine pf rfl rfl rfl b3 <| pf rfl rfl rfl b3 <| pf rfl rfl rfl b3 ?_
   obtain ⟨hq, rfl⟩ := VM.ret_some V.toVI h
   cases hq
   exact vv (opv_pick_t' b3 rfl rfl) <| SO.b1 <| SO.b1 <| hk2.fitc (m := 4) rfl (rfl) rfl
  replace h := VM.cond_f V.toVI b3 h
  refine SO.takeT rfl rfl rfl b3 <| mv rfl <| SO.takeT rfl rfl rfl b3 ?_
  obtain ⟨t6, ht7, h⟩ := VM.opt_some V.toVI h
  refine SO.call (pre := []) rfl Tryz.call203 rfl rfl rfl (queue_there.ct _ _ ht7) trivial ?_
  rintro _ _ ⟨rfl, rfl⟩
  refine SO.takeT rfl rfl rfl b3 <| vv (opv_not rfl) ?_
  obtain ⟨hq, rfl⟩ := VM.ret_some V.toVI h
  cases hq
  exact vv (opv_pick_f' b3 rfl rfl) <| SO.b1 <| SO.b1 <| hk2.fitc (m := 4) rfl (rfl) rfl
 clear hc5
 replace h := hgk
 refine SO.nil ?_
 rcases bool_or c4 with b9 | b9
 ·replace h := VM.cond_t V.toVI b9 h
  refine S.condT rfl b9 <| S.seq <| S.region <| vv (opv_iface Tryz.underlying98 rfl rfl) <| ag rfl <| SO.nil <| tt [(6, errV 98 (some 2))] rfl ?_
  obtain ⟨hq, rfl⟩ := VM.ret_some V.toVI h
  cases hq
  exact S.b1 <| S.b1 <| S.ret1 Tryz.func174 rfl rfl (hR · _ _ ⟨rfl, rfl⟩)
 replace h := VM.cond_f V.toVI b9 h
 refine S.condF rfl b9 <| S.skip <| S.seq <| S.region <| mv rfl <| mv rfl ?_
 obtain ⟨_, s11, ht10, h⟩ := VM.bind_some V.toVI h
 refine SO.call (pre := [V.rep _]) rfl Tryz.call55 rfl rfl rfl (lay_Put.ct V _ _ _ _ _ ht10) trivial ?_
 rintro _ _ ⟨rfl, rfl⟩
 refine SO.nil <| tt [(0, V.val), (1, .int .i64 a1), (2, .int .i64 a2), (6, errV 98 none)] rfl <| S.seq <| S.region <| mv rfl <| mv rfl ?_
 obtain ⟨⟨t12, t13⟩, s15, ht14, h⟩ := VM.bind_some V.toVI h
 refine SO.call (pre := [V.rep _]) rfl Tryz.call54 rfl rfl rfl (lay_Ref.ct V _ _ _ _ _ _ ht14) trivial ?_
 rintro _ _ ⟨rfl, rfl⟩
 refine mv rfl <| vv (opv_extract rfl rfl) <| vv (opv_extract rfl rfl) <| ag rfl <| ag rfl <| SO.nil <| S.seq <| S.seq <| S.region <| mv rfl <| SO.nil <| tt [(0, V.val), (1, .int .i64 a1), (2, .int .i64 a2), (6, errV 98 none), (7, .int .i64 t12), (27, .bool t13)] rfl ?_
 rcases bool_or t13 with b16 | b16
 ·replace h := VM.cond_t V.toVI b16 h
  refine S.condT rfl b16 <| S.region <| mv rfl <| mv rfl <| mv rfl <| vv (opv_add rfl rfl) ?_
  obtain ⟨_, s18, ht17, h⟩ := VM.bind_some V.toVI h
  refine SO.call (pre := [V.rep _]) rfl Tryz.call55 rfl rfl rfl (lay_Put.ct V _ _ _ _ _ ht17) trivial ?_
  rintro _ _ ⟨rfl, rfl⟩
  refine SO.nil <| tt [(0, V.val), (1, .int .i64 a1), (2, .int .i64 a2), (6, errV 98 none)] rfl <| S.seq <| S.region <| mv rfl <| mv rfl <| mv rfl <| vv (opv_add rfl rfl) ?_
  obtain ⟨_, s20, ht19, h⟩ := VM.bind_some V.toVI h
  refine SO.call (pre := [V.rep _]) rfl Tryz.call55 rfl rfl rfl (lay_Put.ct V _ _ _ _ _ ht19) trivial ?_
  rintro _ _ ⟨rfl, rfl⟩
  refine SO.nil <| tt [(6, errV 98 none)] rfl <| S.seq <| S.region <| ag rfl <| SO.nil ?_
  obtain ⟨hq, rfl⟩ := VM.ret_some V.toVI h
  cases hq
  exact S.b1 <| S.b1 <| S.ret1 Tryz.func174 rfl rfl (hR · _ _ ⟨rfl, rfl⟩)
 replace h := VM.cond_f V.toVI b16 h
 refine S.condF rfl b16 <| S.region <| mv rfl <| mv rfl <| mv rfl <| vv (opv_add rfl rfl) ?_
 obtain ⟨_, s22, ht21, h⟩ := VM.bind_some V.toVI h
 refine SO.call (pre := [V.rep _]) rfl Tryz.call55 rfl rfl rfl (lay_Put.ct V _ _ _ _ _ ht21) trivial ?_
 rintro _ _ ⟨rfl, rfl⟩
 refine SO.nil <| tt [(0, V.val), (1, .int .i64 a1), (2, .int .i64 a2), (6, errV 98 none)] rfl <| S.seq <| S.region <| mv rfl <| mv rfl <| mv rfl <| vv (opv_add rfl rfl) ?_
 obtain ⟨_, s24, ht23, h⟩ := VM.bind_some V.toVI h
 refine SO.call (pre := [V.rep _]) rfl Tryz.call55 rfl rfl rfl (lay_Put.ct V _ _ _ _ _ ht23) trivial ?_
 rintro _ _ ⟨rfl, rfl⟩
 refine SO.nil <| tt [(6, errV 98 none)] rfl <| S.seq <| S.region <| ag rfl <| SO.nil ?_
 obtain ⟨hq, rfl⟩ := VM.ret_some V.toVI h
 cases hq
 exact S.b1 <| S.b1 <| S.ret1 Tryz.func174 rfl rfl (hR · _ _ ⟨rfl, rfl⟩)
def endp_Block.f (a1 : Int) (a2 : Int) (a3 : Int) : VM (Unit) :=
  (queue_Push.f a1 a2).bind fun t1 => bif t1.isSome then (VM.ret ()) else ((lay_Put.f a2 1 a3).bind fun _ => (endp_on.f a2 (w64 (a1 + 1))).bind fun _ => VM.ret ())
set_option maxHeartbeats 8000000 in
set_option maxRecDepth 100000 in
theorem endp_Block.ct (V : VW Tryz.prog) (a1 : Int) (a2 : Int) (a3 : Int) (s s' : V.S) (h : VM.run V.toVI (endp_Block.f a1 a2 a3) s = some ((), s')) :
    Ct Tryz.prog 122 [V.val, .int .i64 a1, .int .i64 a2, .int .i64 a3] (fun _ => True) [V.rep s] (fun u H' => u = .tuple #[] ∧ H' = [V.rep s']) := by
 unfold endp_Block.f at h
 refine Ct.intro (n := 24) Tryz.func122 rfl rfl rfl ?_
 intro R w0 F hF hR
 refine S.seq <| S.seq <| S.region <| mv rfl <| mv rfl <| mv rfl ?_
 obtain ⟨t1, s3, ht2, h⟩ := VM.bind_some V.toVI h
 refine SO.call (pre := [V.rep _]) rfl Tryz.call174 rfl rfl rfl (queue_Push.ct V _ _ _ _ _ ht2) trivial ?_
 rintro _ _ ⟨rfl, rfl⟩
 refine ag rfl <| SO.nil <| S.seq <| S.region <| mv rfl <| vv (opv_neqN (e := t1) Tryz.underlying74 rfl) <| SO.nil ?_
 rcases bool_or t1.isSome with b4 | b4
 ·replace h := VM.cond_t V.toVI b4 h
  refine S.condT rfl b4 ?_
  obtain ⟨hq, rfl⟩ := VM.ret_some V.toVI h
  cases hq
  exact S.b1 <| S.b1 <| S.ret0 Tryz.func122 rfl (hR · _ _ ⟨rfl, rfl⟩)
 replace h := VM.cond_f V.toVI b4 h
 refine S.condF rfl b4 <| S.skip <| S.seq <| S.region <| mv rfl <| mv rfl <| mv rfl ?_
 obtain ⟨_, s6, ht5, h⟩ := VM.bind_some V.toVI h
 refine SO.call (pre := [V.rep _]) rfl Tryz.call55 rfl rfl rfl (lay_Put.ct V _ _ _ _ _ ht5) trivial ?_
 rintro _ _ ⟨rfl, rfl⟩
 refine SO.nil <| tt [(0, V.val), (1, .int .i64 a1), (2, .int .i64 a2)] rfl <| S.region <| mv rfl <| mv rfl <| mv rfl <| vv (opv_add rfl rfl) ?_
 obtain ⟨_, s8, ht7, h⟩ := VM.bind_some V.toVI h
 refine SO.call (pre := [V.rep _]) rfl Tryz.call115 rfl rfl rfl (endp_on.ct V _ _ _ _ ht7) trivial ?_
 rintro _ _ ⟨rfl, rfl⟩
 refine SO.nil <| S.to (ρ' := []) trivial ?_
 obtain ⟨hq, rfl⟩ := VM.ret_some V.toVI h
 cases hq
 exact S.b1 <| S.b1 <| S.fin0 Tryz.func122 rfl (hR · _ _ ⟨rfl, rfl⟩)
def endp_owe.f (a1 : Int) (a2 : Int) : VM (Unit) :=
  (lay_Put.f a2 1 4).bind fun _ => (endp_on.f a2 0).bind fun _ => (lay_Put.f a2 2 (w64 (a1 + 1))).bind fun _ => (lay_Put.f a1 6 (w64 (a2 + 1))).bind fun _ => VM.ret ()
set_option maxHeartbeats 8000000 in
set_option maxRecDepth 100000 in
theorem endp_owe.ct (V : VW Tryz.prog) (a1 : Int) (a2 : Int) (s s' : V.S) (h : VM.run V.toVI (endp_owe.f a1 a2) s = some ((), s')) :
    Ct Tryz.prog 121 [V.val, .int .i64 a1, .int .i64 a2] (fun _ => True) [V.rep s] (fun u H' => u = .tuple #[] ∧ H' = [V.rep s']) := by
 unfold endp_owe.f at h
 refine Ct.intro (n := 22) Tryz.func121 rfl rfl rfl ?_
 intro R w0 F hF hR
 refine S.seq <| S.region <| mv rfl <| mv rfl ?_
 obtain ⟨_, s2, ht1, h⟩ := VM.bind_some V.toVI h
 refine SO.call (pre := [V.rep _]) rfl Tryz.call55 rfl rfl rfl (lay_Put.ct V _ _ _ _ _ ht1) trivial ?_
 rintro _ _ ⟨rfl, rfl⟩
 refine SO.nil <| S.seq <| S.region <| mv rfl <| mv rfl ?_
 obtain ⟨_, s4, ht3, h⟩ := VM.bind_some V.toVI h
 refine SO.call (pre := [V.rep _]) rfl Tryz.call115 rfl rfl rfl (endp_on.ct V _ _ _ _ ht3) trivial ?_
 rintro _ _ ⟨rfl, rfl⟩
 refine SO.nil <| S.seq <| S.region <| mv rfl <| mv rfl <| mv rfl <| vv (opv_add rfl rfl) ?_
 obtain ⟨_, s6, ht5, h⟩ := VM.bind_some V.toVI h
 refine SO.call (pre := [V.rep _]) rfl Tryz.call55 rfl rfl rfl (lay_Put.ct V _ _ _ _ _ ht5) trivial ?_
 rintro _ _ ⟨rfl, rfl⟩
 refine SO.nil <| tt [(0, V.val), (1, .int .i64 a1), (2, .int .i64 a2)] rfl <| S.region <| mv rfl <| mv rfl <| mv rfl <| vv (opv_add rfl rfl) ?_
 obtain ⟨_, s8, ht7, h⟩ := VM.bind_some V.toVI h
 refine SO.call (pre := [V.rep _]) rfl Tryz.call55 rfl rfl rfl (lay_Put.ct V _ _ _ _ _ ht7) trivial ?_
 rintro _ _ ⟨rfl, rfl⟩
 refine SO.nil <| S.to (ρ' := []) trivial ?_
 obtain ⟨hq, rfl⟩ := VM.ret_some V.toVI h
 cases hq
 exact S.b1 <| S.b1 <| S.fin0 Tryz.func121 rfl (hR · _ _ ⟨rfl, rfl⟩)
def queue_List.l1 : Nat → ((List Int) × Int × Bool) → VM ((List Int))
  | 0, _ => VM.fail
  | k + 1, (x5_1, x6_1, x7_1) => bif x7_1 && (decide ((x5_1.length : Int) < 32)) then ((VM.opt (app x5_1 ([x6_1]))).bind fun zs10 => (lay_Ref.f x6_1 2).bind fun (t14, t15) => queue_List.l1  k (zs10, t14, t15)) else (VM.ret x5_1)
def queue_List.f (k : Nat) (a1 : Int) : VM ((List Int)) :=
  (lay_Ref.f a1 2).bind fun (t1, t2) => (queue_List.l1 k ([], t1, t2)).bind fun j5_e1 => VM.ret j5_e1
set_option maxHeartbeats 8000000 in
set_option maxRecDepth 100000 in
theorem queue_List.ct (V : VW Tryz.prog) (k : Nat) (a1 : Int) (r0 : List Int) (s s' : V.S) (h : VM.run V.toVI (queue_List.f k a1) s = some (r0, s')) :
    Ct Tryz.prog 173 [V.val, .int .i64 a1] (fun _ => True) [V.rep s] (fun u H' => ∃ v_r0, u = v_r0 ∧ H' = [Own 3 (ekI .i64) v_r0 r0, V.rep s']) := by
 unfold queue_List.f at h
 refine Ct.intro (n := 31) Tryz.func173 rfl rfl rfl ?_
 intro R w0 F hF hR
 refine S.seq <| S.region <| ag rfl <| SO.nil <| S.seq <| S.region <| ag rfl <| SO.nil <| S.seq <| S.seq <| S.region <| mv rfl <| mv rfl ?_
 obtain ⟨⟨t1, t2⟩, s4, ht3, h⟩ := VM.bind_some V.toVI h
 refine SO.call (pre := [V.rep _]) rfl Tryz.call54 rfl rfl rfl (lay_Ref.ct V _ _ _ _ _ _ ht3) trivial ?_
 rintro _ _ ⟨rfl, rfl⟩
 refine mv rfl <| vv (opv_extract rfl rfl) <| vv (opv_extract rfl rfl) <| ag rfl <| ag rfl <| SO.nil <| tt [(0, V.val), (4, .slice none 0 0), (5, .slice none 0 0), (6, .int .i64 t1), (7, .bool t2)] rfl ?_
 obtain ⟨j5_e1, so_1, hlp1, h⟩ := VM.bind_some V.toVI h
 refine S.newOwn 3 (ekI .i64) <| S.b2 <| S.b2 <| S.b2 <| tt [(0, V.val), (4, .slice none 0 0), (5, .slice none 0 0), (6, .int .i64 t1), (7, .bool t2)] rfl ?_
 refine S.forloop (X := (((List Int) × Int × Bool) × V.S) × Value) (O := ((List Int)) × V.S) (fun m x => VM.run V.toVI (queue_List.l1  m x.1.1) x.1.2) (fun x => match x with | (((x5_1, x6_1, x7_1), sx_1), v5_1) => [(0, V.val), (4, .slice none 0 0), (5, v5_1), (6, .int .i64 x6_1), (7, .bool x7_1)]) (fun x => match x with | (((x5_1, x6_1, x7_1), sx_1), v5_1) => [Own 3 (ekI .i64) v5_1 x5_1, V.rep sx_1, F]) (fun Sk oo => match oo with | (j5_e1, so_1) => ∀ v5_e1 : Value, Sk [(4, .slice none 0 0), (5, v5_e1)] [Own 3 (ekI .i64) v5_e1 j5_e1, V.rep so_1, F]) (fun _ => rfl) ?_ (m := k) (x := ((([], t1, t2), s4), .slice none 0 0)) hlp1 ?_
 ·clear h hlp1
  intro k x o_1 h hK1 ih1
  obtain ⟨⟨⟨x5_1, x6_1, x7_1⟩, sx_1⟩, v5_1⟩ := x
  obtain ⟨o_1, so_1_⟩ := o_1
  replace h : VM.run V.toVI (queue_List.l1  (k + 1) (x5_1, x6_1, x7_1)) sx_1 = some (o_1, so_1_) := h
  first | rw [queue_List.l1] at h | unfold queue_List.l1 at h
  refine S.rd fun hr5 => S.seq <| S.seq <| S.region <| mv rfl <| mv rfl ?_
  refine SO.cut 4 19 (.bool (x7_1 && (decide ((x5_1.length : Int) < 32)))) [Own 3 (ekI .i64) v5_1 x5_1, V.rep sx_1, F] (fun l2 hk2 => ?_) ?_
  ·rcases bool_or x7_1 with b6 | b6
   ·exact SO.takeT rfl rfl rfl b6 <| mv rfl <| SO.takeT rfl rfl rfl b6 <| vv (opv_lenR rfl Tryz.underlying43 hr5 rfl) <| SO.takeT rfl rfl rfl b6 <| vv (opv_lss rfl rfl) <| vv (opv_pick_t' b6 rfl rfl) <| SO.b2 <| SO.b2 <| SO.b2 <| hk2.fitc (m := 4) rfl (and_t b6) rfl
   exact pf rfl rfl rfl b6 <| pf rfl rfl rfl b6 <| pf rfl rfl rfl b6 <| vv (opv_pick_f' b6 rfl rfl) <| SO.b2 <| SO.b2 <| SO.b2 <| hk2.fitc (m := 4) rfl (and_f b6) rfl
  refine SO.nil ?_
  rcases bool_or (x7_1 && (decide ((x5_1.length : Int) < 32))) with b7 | b7
  ·replace h := VM.cond_t V.toVI b7 h
   refine S.condT rfl b7 <| S.skip <| S.seq <| S.block <| S.region <| mv rfl <| mv rfl <| SO.buildSlice (K := ekI .i64) (xs := [x6_1]) (cs := [.int .i64 x6_1]) rfl Tryz.underlying43 Tryz.sizeOf3 Tryz.zeroValue3 rfl rfl rfl (by kernel_rfl) rfl rfl rfl fun v8 hr9 => ?_
   obtain ⟨zs10, hz11, h⟩ := VM.opt_some V.toVI h
   refine SO.b1 <| SO.append rfl Tryz.underlying43 Tryz.underlying43 inf3 rfl rfl rfl (by decide) rfl rfl rfl (Rd.head hr9) hz11 fun v12 => SO.rd fun hr13 => ag rfl <| SO.nil <| tt [(0, V.val), (4, .slice none 0 0), (5, v12), (6, .int .i64 x6_1)] rfl <| S.inBlock <| S.region <| mv rfl <| mv rfl ?_
   obtain ⟨⟨t14, t15⟩, s17, ht16, h⟩ := VM.bind_some V.toVI h
   refine SO.b2 <| SO.call (pre := [V.rep _]) rfl Tryz.call54 rfl rfl rfl (lay_Ref.ct V _ _ _ _ _ _ ht16) trivial ?_
   rintro _ _ ⟨rfl, rfl⟩
   refine mv rfl <| vv (opv_extract rfl rfl) <| vv (opv_extract rfl rfl) <| ag rfl <| ag rfl <| SO.nil <| S.b2 <| S.drop <| S.b2 <| S.b1 <| S.b2 ?_
   refine S.to ?_ (ih1 (((zs10, t14, t15), s17), v12) h)
   exact ⟨rfl, rfl, rfl, rfl, rfl, trivial⟩
  replace h := VM.cond_f V.toVI b7 h
  refine S.condF rfl b7 <| S.exit rfl ?_
  obtain ⟨hq, rfl⟩ := VM.ret_some V.toVI h
  cases hq
  refine S.b2 <| S.b2 <| S.b2 ?_
  refine S.to ?_ (hK1 v5_1)
  exact ⟨rfl, rfl, trivial⟩
 rintro v5_e1
 refine S.rd fun hr18 => S.seq <| S.region <| mv rfl <| ag rfl <| SO.nil ?_
 obtain ⟨hq, rfl⟩ := VM.ret_some V.toVI h
 cases hq
 exact S.b2 <| S.b2 <| S.b2 <| S.ret1 Tryz.func173 rfl rfl (hR · _ _ ⟨v5_e1, rfl, rfl⟩)
def endp_rest.f (k : Nat) (a1 : Int) : VM (Unit) :=
  (queue_List.f k a1).bind fun t1 => bif (t1.length : Int) == 0 then ((lay_Put.f a1 1 0).bind fun _ => VM.ret ()) else (VM.ret ())
set_option maxHeartbeats 8000000 in
set_option maxRecDepth 100000 in
theorem endp_rest.ct (V : VW Tryz.prog) (k : Nat) (a1 : Int) (s s' : V.S) (h : VM.run V.toVI (endp_rest.f k a1) s = some ((), s')) :
    Ct Tryz.prog 120 [V.val, .int .i64 a1] (fun _ => True) [V.rep s] (fun u H' => u = .tuple #[] ∧ H' = [V.rep s']) := by
 unfold endp_rest.f at h
 refine Ct.intro (n := 12) Tryz.func120 rfl rfl rfl ?_
 intro R w0 F hF hR
 refine S.seq <| S.region <| mv rfl <| mv rfl ?_
 obtain ⟨t1, s3, ht2, h⟩ := VM.bind_some V.toVI h
 refine SO.call (pre := [V.rep _]) rfl Tryz.call173 rfl rfl rfl (queue_List.ct V _ _ _ _ _ ht2) trivial ?_
 rintro v4 _ ⟨_, rfl, rfl⟩
 refine SO.rd fun hr5 => vv (opv_lenR rfl Tryz.underlying43 hr5 rfl) <| vv (opv_eql rfl rfl) <| SO.nil ?_
 rcases bool_or ((t1.length : Int) == 0) with b6 | b6
 ·replace h := VM.cond_t V.toVI b6 h
  refine S.condT rfl b6 <| S.region <| mv rfl <| mv rfl ?_
  obtain ⟨_, s8, ht7, h⟩ := VM.bind_some V.toVI h
  refine SO.b1 <| SO.call (pre := [V.rep _]) rfl Tryz.call55 rfl rfl rfl (lay_Put.ct V _ _ _ _ _ ht7) trivial ?_
  rintro _ _ ⟨rfl, rfl⟩
  refine SO.nil <| S.to (ρ' := []) trivial ?_
  obtain ⟨hq, rfl⟩ := VM.ret_some V.toVI h
  cases hq
  exact S.b1 <| S.drop <| S.b1 <| S.b1 <| S.fin0 Tryz.func120 rfl (hR · _ _ ⟨rfl, rfl⟩)
 replace h := VM.cond_f V.toVI b6 h
 refine S.condF rfl b6 <| S.skip ?_
 obtain ⟨hq, rfl⟩ := VM.ret_some V.toVI h
 cases hq
 exact S.drop <| S.b1 <| S.b1 <| S.fin0 Tryz.func120 rfl (hR · _ _ ⟨rfl, rfl⟩)
def queue_Pop.f (a1 : Int) : VM ((Int × Bool)) :=
  (lay_Ref.f a1 2).bind fun (t1, t2) => bif !t2 then (VM.ret (0, false)) else ((lay_Field.f t1 2).bind fun t6 => (lay_Put.f a1 2 t6).bind fun _ => (lay_Ref.f t1 2).bind fun (t11, t12) => bif !t12 then ((lay_Put.f a1 2 0).bind fun _ => (lay_Put.f a1 3 0).bind fun _ => (lay_Put.f t1 2 0).bind fun _ => VM.ret (t1, true)) else ((lay_Put.f t1 2 0).bind fun _ => VM.ret (t1, true)))
set_option maxHeartbeats 8000000 in
set_option maxRecDepth 100000 in
theorem queue_Pop.ct (V : VW Tryz.prog) (a1 : Int) (r0 : Int) (r1 : Bool) (s s' : V.S) (h : VM.run V.toVI (queue_Pop.f a1) s = some ((r0, r1), s')) :
    Ct Tryz.prog 119 [V.val, .int .i64 a1] (fun _ => True) [V.rep s] (fun u H' => u = .tuple #[.int .i64 r0, .bool r1] ∧ H' = [V.rep s']) := by
 unfold queue_Pop.f at h
 refine Ct.intro (n := 44) Tryz.func119 rfl rfl rfl ?_
 intro R w0 F hF hR
 refine S.seq <| S.region <| ag rfl <| ag rfl <| SO.nil <| S.seq <| S.region <| mv rfl <| mv rfl ?_
 obtain ⟨⟨t1, t2⟩, s4, ht3, h⟩ := VM.bind_some V.toVI h
 refine SO.call (pre := [V.rep _]) rfl Tryz.call54 rfl rfl rfl (lay_Ref.ct V _ _ _ _ _ _ ht3) trivial ?_
 rintro _ _ ⟨rfl, rfl⟩
 refine mv rfl <| vv (opv_extract rfl rfl) <| vv (opv_extract rfl rfl) <| ag rfl <| ag rfl <| SO.nil <| S.seq <| S.seq <| S.region <| mv rfl <| vv (opv_not rfl) <| SO.nil <| tt [(0, V.val), (1, .int .i64 a1), (4, .int .i64 0), (5, .bool false), (6, .int .i64 t1), (18, .bool (!t2))] rfl ?_
 rcases bool_or (!t2) with b5 | b5
 ·replace h := VM.cond_t V.toVI b5 h
  refine S.condT rfl b5 <| S.seq <| S.region <| ag rfl <| ag rfl <| SO.nil ?_
  obtain ⟨hq, rfl⟩ := VM.ret_some V.toVI h
  cases hq
  exact S.b1 <| S.b1 <| S.ret2 Tryz.func119 rfl rfl rfl (hR · _ _ ⟨rfl, rfl⟩)
 replace h := VM.cond_f V.toVI b5 h
 refine S.condF rfl b5 <| S.skip <| S.seq <| S.region <| mv rfl <| mv rfl ?_
 obtain ⟨t6, s8, ht7, h⟩ := VM.bind_some V.toVI h
 refine SO.call (pre := [V.rep _]) rfl Tryz.call27 rfl rfl rfl (lay_Field.ct V _ _ _ _ _ ht7) trivial ?_
 rintro _ _ ⟨rfl, rfl⟩
 refine ag rfl <| SO.nil <| S.seq <| S.region <| mv rfl <| mv rfl <| mv rfl ?_
 obtain ⟨_, s10, ht9, h⟩ := VM.bind_some V.toVI h
 refine SO.call (pre := [V.rep _]) rfl Tryz.call55 rfl rfl rfl (lay_Put.ct V _ _ _ _ _ ht9) trivial ?_
 rintro _ _ ⟨rfl, rfl⟩
 refine SO.nil <| tt [(0, V.val), (1, .int .i64 a1), (4, .int .i64 0), (5, .bool false), (6, .int .i64 t1)] rfl <| S.seq <| S.seq <| S.region <| mv rfl <| mv rfl ?_
 obtain ⟨⟨t11, t12⟩, s14, ht13, h⟩ := VM.bind_some V.toVI h
 refine SO.call (pre := [V.rep _]) rfl Tryz.call54 rfl rfl rfl (lay_Ref.ct V _ _ _ _ _ _ ht13) trivial ?_
 rintro _ _ ⟨rfl, rfl⟩
 refine mv rfl <| vv (opv_extract rfl rfl) <| vv (opv_extract rfl rfl) <| ag rfl <| ag rfl <| SO.nil <| tt [(0, V.val), (1, .int .i64 a1), (4, .int .i64 0), (5, .bool false), (6, .int .i64 t1), (10, .bool t12)] rfl <| S.seq <| S.region <| mv rfl <| vv (opv_not rfl) <| SO.nil ?_
 rcases bool_or (!t12) with b15 | b15
 ·replace h := VM.cond_t V.toVI b15 h
  refine S.condT rfl b15 <| S.seq <| S.region <| mv rfl <| mv rfl ?_
  obtain ⟨_, s17, ht16, h⟩ := VM.bind_some V.toVI h
  refine SO.call (pre := [V.rep _]) rfl Tryz.call55 rfl rfl rfl (lay_Put.ct V _ _ _ _ _ ht16) trivial ?_
  rintro _ _ ⟨rfl, rfl⟩
  refine SO.nil <| S.region <| mv rfl <| mv rfl ?_
  obtain ⟨_, s19, ht18, h⟩ := VM.bind_some V.toVI h
  refine SO.call (pre := [V.rep _]) rfl Tryz.call55 rfl rfl rfl (lay_Put.ct V _ _ _ _ _ ht18) trivial ?_
  rintro _ _ ⟨rfl, rfl⟩
  refine SO.nil <| tt [(0, V.val), (4, .int .i64 0), (5, .bool false), (6, .int .i64 t1)] rfl <| S.seq <| S.region <| mv rfl <| mv rfl ?_
  obtain ⟨_, s21, ht20, h⟩ := VM.bind_some V.toVI h
  refine SO.call (pre := [V.rep _]) rfl Tryz.call55 rfl rfl rfl (lay_Put.ct V _ _ _ _ _ ht20) trivial ?_
  rintro _ _ ⟨rfl, rfl⟩
  refine SO.nil <| S.seq <| S.region <| mv rfl <| ag rfl <| ag rfl <| SO.nil ?_
  obtain ⟨hq, rfl⟩ := VM.ret_some V.toVI h
  cases hq
  exact S.b1 <| S.b1 <| S.ret2 Tryz.func119 rfl rfl rfl (hR · _ _ ⟨rfl, rfl⟩)
 replace h := VM.cond_f V.toVI b15 h
 refine S.condF rfl b15 <| S.skip <| S.seq <| S.region <| mv rfl <| mv rfl ?_
 obtain ⟨_, s23, ht22, h⟩ := VM.bind_some V.toVI h
 refine SO.call (pre := [V.rep _]) rfl Tryz.call55 rfl rfl rfl (lay_Put.ct V _ _ _ _ _ ht22) trivial ?_
 rintro _ _ ⟨rfl, rfl⟩
 refine SO.nil <| tt [(4, .int .i64 0), (5, .bool false), (6, .int .i64 t1)] rfl <| S.seq <| S.region <| mv rfl <| ag rfl <| ag rfl <| SO.nil ?_
 obtain ⟨hq, rfl⟩ := VM.ret_some V.toVI h
 cases hq
 exact S.b1 <| S.b1 <| S.ret2 Tryz.func119 rfl rfl rfl (hR · _ _ ⟨rfl, rfl⟩)
end Go.Proofs

