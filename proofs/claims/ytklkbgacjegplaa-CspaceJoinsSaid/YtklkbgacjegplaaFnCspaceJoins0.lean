/- What the functions that CspaceJoins reaches come to, and that they do. On no condition. -/
import Derived.Test.YtklkbgacjegplaaSlRich
import Derived.Test.YtklkbgacjegplaaProg
set_option linter.all false
namespace Go.Proofs
open Go.Sl Go.RowKit
theorem inf3 : Try.prog.info? 3 = some Try.t3 := by kernel_rfl
theorem inf38 : Try.prog.info? 38 = some Try.t38 := by kernel_rfl
theorem inf61 : Try.prog.info? 61 = some Try.t61 := by kernel_rfl
theorem inf71 : Try.prog.info? 71 = some Try.t71 := by kernel_rfl
theorem inf72 : Try.prog.info? 72 = some Try.t72 := by kernel_rfl
structure api_Cap where
  Kind : Int
  Rights : Int
  Obj : Int
  Badge : Int
  Guard : Int
  Bits : Int
  deriving DecidableEq, Inhabited
def ek_api_Cap : EK api_Cap := ⟨6, fun x => [.int .i64 x.Kind, .int .i64 x.Rights, .int .i64 x.Obj, .int .i64 x.Badge, .int .i64 x.Guard, .int .i64 x.Bits], fun _ => rfl, fun x v hv => by
  simp only [List.mem_cons, List.not_mem_nil, or_false] at hv
  rcases hv with rfl | rfl | rfl | rfl | rfl | rfl <;> rfl, by decide⟩
theorem eqI_api_Cap (x y : api_Cap) : eqI [x.Kind, x.Rights, x.Obj, x.Badge, x.Guard, x.Bits] [y.Kind, y.Rights, y.Obj, y.Badge, y.Guard, y.Bits] = decide (x = y) := by
  cases x; cases y
  rw [Bool.eq_iff_iff]
  simp [eqI]
theorem fi_api_Cap : ∀ fs, Try.prog.underlying 24 = some (.struct fs) → FI Try.prog fs.toList 0 [.i64, .i64, .i64, .i64, .i64, .i64] := by
  intro fs h
  rw [Try.underlying24] at h
  injection h with h
  injection h with h
  subst h
  exact ⟨by decide, Try.underlying3, rfl, ⟨by decide, Try.underlying3, rfl, ⟨by decide, Try.underlying3, rfl, ⟨by decide, Try.underlying3, rfl, ⟨by decide, Try.underlying3, rfl, ⟨by decide, Try.underlying3, rfl, trivial⟩⟩⟩⟩⟩⟩
theorem eq_eql_api_Cap {ρ : Env} {t2 : TypeId} {x y : api_Cap} {a b : Operand} (ha : ev ρ a = some (.agg (encI [.i64, .i64, .i64, .i64, .i64, .i64] [x.Kind, x.Rights, x.Obj, x.Badge, x.Guard, x.Bits]).toArray)) (hb : ev ρ b = some (.agg (encI [.i64, .i64, .i64, .i64, .i64, .i64] [y.Kind, y.Rights, y.Obj, y.Badge, y.Guard, y.Bits]).toArray)) : OpV Try.prog ρ (.binOp .eql 24 a b t2) (.bool (decide (x = y))) :=
  opv_eqlS Try.underlying24 Try.stoodInHeld24 Try.eqGuardType24 (fi_api_Cap _ Try.underlying24) rfl rfl ha hb (by rw [eqI_api_Cap])
theorem eq_neq_api_Cap {ρ : Env} {t2 : TypeId} {x y : api_Cap} {a b : Operand} (ha : ev ρ a = some (.agg (encI [.i64, .i64, .i64, .i64, .i64, .i64] [x.Kind, x.Rights, x.Obj, x.Badge, x.Guard, x.Bits]).toArray)) (hb : ev ρ b = some (.agg (encI [.i64, .i64, .i64, .i64, .i64, .i64] [y.Kind, y.Rights, y.Obj, y.Badge, y.Guard, y.Bits]).toArray)) : OpV Try.prog ρ (.binOp .neq 24 a b t2) (.bool (!decide (x = y))) :=
  opv_neqS Try.underlying24 Try.stoodInHeld24 Try.eqGuardType24 (fi_api_Cap _ Try.underlying24) rfl rfl ha hb (by rw [eqI_api_Cap])
structure ref10_Obj where
  Kind : Int
  Size : Int
  Used : Int
  First : Int
  Radix : Int
  Wait : Int
  Queue : List Int
  Word : Int
  State : Int
  Owing : Int
  Badge : Int
  Prio : Int
  On : Int
  Owes : Int
  Root : api_Cap
  Pages : A4
  Right : A4
  In : Int
  Page : Int
  Bound : Int
  Mask : Int
  deriving DecidableEq, Inhabited
def kr_ref10_Obj : EKR ref10_Obj := ⟨32, fun x => [.val (.int .i64 x.Kind), .val (.int .i64 x.Size), .val (.int .i64 x.Used), .val (.int .i64 x.First), .val (.int .i64 x.Radix), .val (.int .i64 x.Wait), .sl (ekI .i64) x.Queue, .val (.int .i64 x.Word), .val (.int .i64 x.State), .val (.int .i64 x.Owing), .val (.int .i64 x.Badge), .val (.int .i64 x.Prio), .val (.int .i64 x.On), .val (.int .i64 x.Owes), .val (.int .i64 x.Root.Kind), .val (.int .i64 x.Root.Rights), .val (.int .i64 x.Root.Obj), .val (.int .i64 x.Root.Badge), .val (.int .i64 x.Root.Guard), .val (.int .i64 x.Root.Bits), .val (.int .i64 x.Pages.a0), .val (.int .i64 x.Pages.a1), .val (.int .i64 x.Pages.a2), .val (.int .i64 x.Pages.a3), .val (.int .i64 x.Right.a0), .val (.int .i64 x.Right.a1), .val (.int .i64 x.Right.a2), .val (.int .i64 x.Right.a3), .val (.int .i64 x.In), .val (.int .i64 x.Page), .val (.int .i64 x.Bound), .val (.int .i64 x.Mask)], fun _ => rfl, fun x v hv => by
  simp only [List.mem_cons, List.not_mem_nil, or_false, CellP.val.injEq, reduceCtorEq, false_or] at hv
  rcases hv with rfl | rfl | rfl | rfl | rfl | rfl | rfl | rfl | rfl | rfl | rfl | rfl | rfl | rfl | rfl | rfl | rfl | rfl | rfl | rfl | rfl | rfl | rfl | rfl | rfl | rfl | rfl | rfl | rfl | rfl | rfl <;> rfl, by decide⟩
structure ref10_Slot where
  Cap : api_Cap
  Parent : Int
  Kids : List Int
  deriving DecidableEq, Inhabited
def kr_ref10_Slot : EKR ref10_Slot := ⟨8, fun x => [.val (.int .i64 x.Cap.Kind), .val (.int .i64 x.Cap.Rights), .val (.int .i64 x.Cap.Obj), .val (.int .i64 x.Cap.Badge), .val (.int .i64 x.Cap.Guard), .val (.int .i64 x.Cap.Bits), .val (.int .i64 x.Parent), .sl (ekI .i64) x.Kids], fun _ => rfl, fun x v hv => by
  simp only [List.mem_cons, List.not_mem_nil, or_false, CellP.val.injEq, reduceCtorEq, false_or] at hv
  rcases hv with rfl | rfl | rfl | rfl | rfl | rfl | rfl <;> rfl, by decide⟩
structure ref10_State where
  Slots : List ref10_Slot
  Objs : List ref10_Obj
  NS : Int
  NO : Int
  deriving DecidableEq, Inhabited
structure law13_Deed where
  Delete : Bool
  A : Int
  B : Int
  Kind : Int
  Bits : Int
  deriving DecidableEq, Inhabited
def ek_law13_Deed : EK law13_Deed := ⟨5, fun x => [.bool x.Delete, .int .i64 x.A, .int .i64 x.B, .int .i64 x.Kind, .int .i64 x.Bits], fun _ => rfl, fun x v hv => by
  simp only [List.mem_cons, List.not_mem_nil, or_false] at hv
  rcases hv with rfl | rfl | rfl | rfl | rfl <;> rfl, by decide⟩
end Go.Proofs
namespace Go.Proofs
open Go.Sl Go.RowKit
/-! 75 (padstone/view.Plain).has -/
def view_Plain_has.f (a0 : List Int) (a1 : Int) : Option (Bool) :=
  some ((decide (0 ≤ a1)) && (decide (a1 < (a0.length : Int))))
set_option maxHeartbeats 8000000 in
set_option maxRecDepth 100000 in
theorem view_Plain_has.ct (v0 : Value) (a0 : List Int) (a1 : Int) (r0 : Bool) (h : view_Plain_has.f a0 a1 = some r0) :
    Ct Try.prog 75 [v0, .int .i64 a1] (fun F => Rd (ekI .u64) v0 a0 F) [] (fun u H' => u = .bool r0 ∧ H' = []) := by
  unfold view_Plain_has.f at h
  refine Ct.intro (n := 13) Try.func75 rfl rfl rfl ?_
  intro R w0 F hF hR
  have hF0 := hF
  refine S.seq ?_
  refine S.region ?_
  refine SO.v rfl (opv_assign rfl) ?_
  refine SO.nil ?_
  refine S.seq ?_
  refine S.region ?_
  refine SO.v rfl (opv_move rfl) ?_
  refine SO.v rfl (opv_geq rfl rfl) ?_
  refine SO.v rfl (opv_move rfl) ?_
  refine SO.cut 5 12 (.bool ((decide (0 ≤ a1)) && (decide (a1 < (a0.length : Int))))) [F] (fun l2 hk2 => ?_) ?_
  · rcases bool_or (decide (0 ≤ a1)) with b1 | b1
    · refine SO.takeT rfl rfl rfl b1 ?_
      refine SO.v rfl (opv_move rfl) ?_
      refine SO.takeT rfl rfl rfl b1 ?_
      refine SO.v rfl (opv_move rfl) ?_
      refine SO.takeT rfl rfl rfl b1 ?_
      refine SO.v rfl (opv_lenR rfl Try.underlying26 hF0 rfl) ?_
      refine SO.takeT rfl rfl rfl b1 ?_
      refine SO.v rfl (opv_lss rfl rfl) ?_
      refine SO.v rfl (opv_pick_t' b1 rfl rfl) ?_
      exact hk2.fitc (m := 5) rfl (and_t b1) rfl
    · refine SO.passF rfl rfl rfl b1 rfl rfl ?_
      refine SO.passF rfl rfl rfl b1 rfl rfl ?_
      refine SO.passF rfl rfl rfl b1 rfl rfl ?_
      refine SO.passF rfl rfl rfl b1 rfl rfl ?_
      refine SO.v rfl (opv_pick_f' b1 rfl rfl) ?_
      exact hk2.fitc (m := 5) rfl (and_f b1) rfl
  refine SO.v rfl (opv_assign rfl) ?_
  refine SO.nil ?_
  cases h
  exact S.ret1 Try.func75 rfl rfl (fun w hs hk => hR w _ _ ⟨rfl, rfl⟩ hs hk)
end Go.Proofs
namespace Go.Proofs
open Go.Sl Go.RowKit
/-! 73 (padstone/view.Plain).Read -/
def view_Plain_Read.f (a0 : List Int) (a1 : Int) : Option (Int) :=
  (view_Plain_has.f a0 a1).bind fun t1 => bif !t1 then (some 0) else ((at_ a0 a1).bind fun x4 => some x4)
set_option maxHeartbeats 8000000 in
set_option maxRecDepth 100000 in
theorem view_Plain_Read.ct (v0 : Value) (a0 : List Int) (a1 : Int) (r0 : Int) (h : view_Plain_Read.f a0 a1 = some r0) :
    Ct Try.prog 73 [v0, .int .i64 a1] (fun F => Rd (ekI .u64) v0 a0 F) [] (fun u H' => u = .int .u64 r0 ∧ H' = []) := by
  unfold view_Plain_Read.f at h
  refine Ct.intro (n := 13) Try.func73 rfl rfl rfl ?_
  intro R w0 F hF hR
  have hF0 := hF
  refine S.seq ?_
  refine S.region ?_
  refine SO.v rfl (opv_assign rfl) ?_
  refine SO.nil ?_
  refine S.seq ?_
  refine S.seq ?_
  refine S.region ?_
  refine SO.v rfl (opv_move rfl) ?_
  refine SO.v rfl (opv_move rfl) ?_
  obtain ⟨t1, ht2, h⟩ := opt_bind h
  refine SO.call (pre := []) rfl Try.call75 rfl rfl rfl (view_Plain_has.ct v0 _ _ _ ht2) (Rd.head hF0) ?_
  rintro _ _ ⟨rfl, rfl⟩
  refine SO.v rfl (opv_not rfl) ?_
  refine SO.nil ?_
  rcases bool_or (!t1) with b3 | b3
  · replace h := cond_t b3 h
    refine S.condT rfl b3 ?_
    refine S.seq ?_
    refine S.region ?_
    refine SO.v rfl (opv_assign rfl) ?_
    refine SO.nil ?_
    cases h
    exact S.ret1 Try.func73 rfl rfl (fun w hs hk => hR w _ _ ⟨rfl, rfl⟩ hs hk)
  · replace h := cond_f b3 h
    refine S.condF rfl b3 ?_
    refine S.skip ?_
    refine S.seq ?_
    refine S.region ?_
    refine SO.v rfl (opv_move rfl) ?_
    refine SO.v rfl (opv_move rfl) ?_
    obtain ⟨x4, hx5, h⟩ := opt_bind h
    refine SO.v rfl (opv_idx Try.underlying26 Try.sizeOf72 hF0 rfl rfl hx5) ?_
    refine SO.loadI1 (j := 0) rfl Try.isAgg72 (Rd.head hF0) hx5 rfl rfl rfl rfl ?_
    refine SO.v rfl (opv_assign rfl) ?_
    refine SO.nil ?_
    refine S.to (ρ' := [(4, .int .u64 x4)]) ⟨rfl, trivial⟩ ?_
    cases h
    exact S.ret1 Try.func73 rfl rfl (fun w hs hk => hR w _ _ ⟨rfl, rfl⟩ hs hk)
end Go.Proofs
namespace Go.Proofs
open Go.Sl Go.RowKit
/-! 74 (padstone/view.Plain).Write -/
def view_Plain_Write.f (a0 : List Int) (a1 : Int) (a2 : Int) : Option ((List Int)) :=
  (view_Plain_has.f a0 a1).bind fun t2 => bif t2 then ((at_ a0 a1).bind fun x5 => some (a0.set a1.toNat a2)) else (some a0)
set_option maxHeartbeats 8000000 in
set_option maxRecDepth 100000 in
theorem view_Plain_Write.ct (v0 : Value) (a0 : List Int) (a1 : Int) (a2 : Int) (q0 : List Int) (h : view_Plain_Write.f a0 a1 a2 = some q0) :
    Ct Try.prog 74 [v0, .int .i64 a1, .int .u64 a2] (fun _ => True) [Own 72 (ekI .u64) v0 a0] (fun u H' => u = .tuple #[] ∧ H' = [Own 72 (ekI .u64) v0 q0]) := by
  unfold view_Plain_Write.f at h
  refine Ct.intro (n := 13) Try.func74 rfl rfl rfl ?_
  intro R w0 F hF hR
  refine S.rd fun hr1 => ?_
  refine S.seq ?_
  refine S.region ?_
  refine SO.v rfl (opv_move rfl) ?_
  refine SO.v rfl (opv_move rfl) ?_
  obtain ⟨t2, ht3, h⟩ := opt_bind h
  refine SO.call (pre := []) rfl Try.call75 rfl rfl rfl (view_Plain_has.ct v0 _ _ _ ht3) (Rd.head hr1) ?_
  rintro _ _ ⟨rfl, rfl⟩
  refine SO.nil ?_
  rcases bool_or t2 with b4 | b4
  · replace h := cond_t b4 h
    refine S.condT rfl b4 ?_
    refine S.region ?_
    refine SO.v rfl (opv_move rfl) ?_
    refine SO.v rfl (opv_move rfl) ?_
    refine SO.v rfl (opv_move rfl) ?_
    obtain ⟨x5, hx6, h⟩ := opt_bind h
    refine SO.v rfl (opv_idx Try.underlying26 Try.sizeOf72 hr1 rfl rfl hx6) ?_
    refine SO.storeI1 (j := 0) (z' := a2) Try.sizeOf72 hx6 rfl rfl rfl rfl rfl rfl ?_
    refine SO.rd fun hr7 => ?_
    refine SO.nil ?_
    refine S.to (ρ' := []) trivial ?_
    cases h
    refine S.b1 ?_
    refine S.b1 ?_
    exact S.fin0 Try.func74 rfl (fun w hs hk => hR w _ _ ⟨rfl, rfl⟩ hs hk)
  · replace h := cond_f b4 h
    refine S.condF rfl b4 ?_
    refine S.skip ?_
    cases h
    refine S.b1 ?_
    refine S.b1 ?_
    exact S.fin0 Try.func74 rfl (fun w hs hk => hR w _ _ ⟨rfl, rfl⟩ hs hk)
end Go.Proofs
namespace Go.Proofs
open Go.Sl Go.RowKit
/-! A list of one's own, as a view. -/
theorem read_ok (s : List Int) (i : Int) : ∃ r, view_Plain_Read.f s i = some r := by
  cases h : view_Plain_Read.f s i with
  | some r => exact ⟨r, rfl⟩
  | none =>
    exfalso
    revert h
    unfold view_Plain_Read.f view_Plain_has.f
    by_cases h1 : 0 ≤ i ∧ i < (s.length : Int)
    · have : s[i.toNat]? = some s[i.toNat] := List.getElem?_eq_getElem (by omega)
      simp [h1, at_, this]
    · have : (decide (0 ≤ i) && decide (i < (s.length : Int))) = false := by simpa using h1
      simp [this]
theorem write_ok (s : List Int) (i x : Int) : ∃ r, view_Plain_Write.f s i x = some r := by
  cases h : view_Plain_Write.f s i x with
  | some r => exact ⟨r, rfl⟩
  | none =>
    exfalso
    revert h
    unfold view_Plain_Write.f view_Plain_has.f
    by_cases h1 : 0 ≤ i ∧ i < (s.length : Int)
    · have : s[i.toNat]? = some s[i.toNat] := List.getElem?_eq_getElem (by omega)
      simp [h1, at_, this]
    · have : (decide (0 ≤ i) && decide (i < (s.length : Int))) = false := by simpa using h1
      simp [this]
abbrev plainI : VI := ⟨List Int, fun s i => ((view_Plain_Read.f s i).getD 0, s), fun s i x => (view_Plain_Write.f s i x).getD s⟩
theorem ofRd {P : Program} {g : FuncId} {vals : List Value} {α : Type} {E : TypeId} {K : EK α} {v : Value} {xs : List α} {u0 : Value} (h : Ct P g vals (fun F => Rd K v xs F) [] (fun u H' => u = u0 ∧ H' = [])) :
    Ct P g vals (fun _ => True) [Own E K v xs] (fun u H' => u = u0 ∧ H' = [Own E K v xs]) := by
  intro w F _ hs
  have h2 : Sat w ([] ++ [stars [Own E K v xs, F]]) := Sat.pack (l1 := []) hs
  have hr : Rd K v xs (stars [Own E K v xs, F]) := by
    obtain ⟨m, hm, ho⟩ := Sat.head hs
    exact Rd.head (Own.rd ho)
  refine (h w _ hr h2).mono ?_
  rintro e w' ⟨u, H', he, ⟨hu, rfl⟩, hs', hk⟩
  exact ⟨u, _, he, ⟨hu, rfl⟩, Sat.unpack (l1 := []) hs', hk⟩
set_option maxRecDepth 100000 in
set_option maxHeartbeats 4000000 in
noncomputable def plainV (v : Value) : VW Try.prog :=
  { plainI with
    t := 26, v := v, rep := fun s => Own 72 (ekI .u64) v s
    rF := 73, rV := v, wF := 74, wV := v
    rM := by intro w; kernel_rfl
    wM := by intro w; kernel_rfl
    rC := Try.call73, wC := Try.call74
    rCt := fun s i => by
      obtain ⟨r, hr⟩ := read_ok s i
      have := ofRd (E := 72) (view_Plain_Read.ct v s i r hr)
      show Ct _ _ _ _ _ (fun u H' => u = .int .u64 ((view_Plain_Read.f s i).getD 0) ∧ H' = [Own 72 (ekI .u64) v s])
      rw [hr]; exact this
    wCt := fun s i x => by
      obtain ⟨r, hr⟩ := write_ok s i x
      have := view_Plain_Write.ct v s i x r hr
      show Ct _ _ _ _ _ (fun u H' => u = .tuple #[] ∧ H' = [Own 72 (ekI .u64) v ((view_Plain_Write.f s i x).getD s)])
      rw [hr]; exact this }
theorem plainV_rep (v : Value) (s : List Int) : (plainV v).rep s = Own 72 (ekI .u64) v s := rfl
theorem headEq {P : Program} {n : Nat} {Z : Act → World → Prop} {w0 : World} {ops : Array Oper} {l : List Oper} {ρ : Env} {A B : HProp} {rest : List HProp} (h : A = B) (k : SO P n Z w0 ops l ρ (B :: rest)) : SO P n Z w0 ops l ρ (A :: rest) := by
  subst h; exact k
end Go.Proofs
namespace Go.Proofs
open Go.Sl Go.RowKit
/-! 54 padstone/lay.in -/
def lay_in.f (a0 : Int) (a1 : Int) : Option (Bool) :=
  some ((decide (0 ≤ a0)) && (decide (a0 < a1)))
set_option maxHeartbeats 8000000 in
set_option maxRecDepth 100000 in
theorem lay_in.ct (a0 : Int) (a1 : Int) (r0 : Bool) (h : lay_in.f a0 a1 = some r0) :
    Ct Try.prog 54 [.int .i64 a0, .int .i64 a1] (fun _ => True) [] (fun u H' => u = .bool r0 ∧ H' = []) := by
  unfold lay_in.f at h
  refine Ct.intro (n := 12) Try.func54 rfl rfl rfl ?_
  intro R w0 F hF hR
  refine S.seq ?_
  refine S.region ?_
  refine SO.v rfl (opv_assign rfl) ?_
  refine SO.nil ?_
  refine S.seq ?_
  refine S.region ?_
  refine SO.v rfl (opv_move rfl) ?_
  refine SO.v rfl (opv_geq rfl rfl) ?_
  refine SO.v rfl (opv_move rfl) ?_
  refine SO.cut 4 11 (.bool ((decide (0 ≤ a0)) && (decide (a0 < a1)))) [F] (fun l2 hk2 => ?_) ?_
  · rcases bool_or (decide (0 ≤ a0)) with b1 | b1
    · refine SO.takeT rfl rfl rfl b1 ?_
      refine SO.v rfl (opv_move rfl) ?_
      refine SO.takeT rfl rfl rfl b1 ?_
      refine SO.v rfl (opv_move rfl) ?_
      refine SO.takeT rfl rfl rfl b1 ?_
      refine SO.v rfl (opv_lss rfl rfl) ?_
      refine SO.v rfl (opv_pick_t' b1 rfl rfl) ?_
      exact hk2.fitc (m := 4) rfl (and_t b1) rfl
    · refine SO.passF rfl rfl rfl b1 rfl rfl ?_
      refine SO.passF rfl rfl rfl b1 rfl rfl ?_
      refine SO.passF rfl rfl rfl b1 rfl rfl ?_
      refine SO.v rfl (opv_pick_f' b1 rfl rfl) ?_
      exact hk2.fitc (m := 4) rfl (and_f b1) rfl
  refine SO.v rfl (opv_assign rfl) ?_
  refine SO.nil ?_
  cases h
  exact S.ret1 Try.func54 rfl rfl (fun w hs hk => hR w _ _ ⟨rfl, rfl⟩ hs hk)
end Go.Proofs
namespace Go.Proofs
open Go.Sl Go.RowKit
/-! 43 padstone/lay.Obj -/
def lay_Obj.f (a0 : Int) (a1 : Int) : Option ((Int × Bool)) :=
  (lay_in.f a0 32).bind fun t1 => (bif !t1 then (some true) else ((lay_in.f a1 8).bind fun t6 => some (!t6))).bind fun c4 => bif c4 then (some (0, false)) else (some (w64 ((w64 (480 + (w64 (a0 * 8)))) + a1), true))
set_option maxHeartbeats 8000000 in
set_option maxRecDepth 100000 in
theorem lay_Obj.ct (a0 : Int) (a1 : Int) (r0 : Int) (r1 : Bool) (h : lay_Obj.f a0 a1 = some (r0, r1)) :
    Ct Try.prog 43 [.int .i64 a0, .int .i64 a1] (fun _ => True) [] (fun u H' => u = .tuple #[.int .i64 r0, .bool r1] ∧ H' = []) := by
  unfold lay_Obj.f at h
  refine Ct.intro (n := 19) Try.func43 rfl rfl rfl ?_
  intro R w0 F hF hR
  refine S.seq ?_
  refine S.region ?_
  refine SO.v rfl (opv_assign rfl) ?_
  refine SO.v rfl (opv_assign rfl) ?_
  refine SO.nil ?_
  refine S.seq ?_
  refine S.seq ?_
  refine S.region ?_
  refine SO.v rfl (opv_move rfl) ?_
  obtain ⟨t1, ht2, h⟩ := opt_bind h
  refine SO.call (pre := []) rfl Try.call54 rfl rfl rfl (lay_in.ct _ _ _ ht2) trivial ?_
  rintro _ _ ⟨rfl, rfl⟩
  refine SO.v rfl (opv_not rfl) ?_
  refine SO.v rfl (opv_move rfl) ?_
  obtain ⟨c4, hc5, hgk⟩ := opt_bind h
  refine SO.cut 4 13 (.bool c4) [F] (fun l2 hk2 => ?_) ?_
  · clear hgk
    replace h := hc5
    rcases bool_or (!t1) with b3 | b3
    · replace h := cond_t b3 h
      refine SO.passF rfl rfl rfl b3 rfl rfl ?_
      refine SO.passF rfl rfl rfl b3 rfl rfl ?_
      refine SO.passF rfl rfl rfl b3 rfl rfl ?_
      cases h
      refine SO.v rfl (opv_pick_t' b3 rfl rfl) ?_
      exact hk2.fitc (m := 4) rfl (rfl) rfl
    · replace h := cond_f b3 h
      refine SO.takeT rfl rfl rfl b3 ?_
      refine SO.v rfl (opv_move rfl) ?_
      refine SO.takeT rfl rfl rfl b3 ?_
      obtain ⟨t6, ht7, h⟩ := opt_bind h
      refine SO.call (pre := []) rfl Try.call54 rfl rfl rfl (lay_in.ct _ _ _ ht7) trivial ?_
      rintro _ _ ⟨rfl, rfl⟩
      refine SO.takeT rfl rfl rfl b3 ?_
      refine SO.v rfl (opv_not rfl) ?_
      cases h
      refine SO.v rfl (opv_pick_f' b3 rfl rfl) ?_
      exact hk2.fitc (m := 4) rfl (rfl) rfl
  clear hc5
  replace h := hgk
  refine SO.nil ?_
  rcases bool_or c4 with b8 | b8
  · replace h := cond_t b8 h
    refine S.condT rfl b8 ?_
    refine S.seq ?_
    refine S.region ?_
    refine SO.v rfl (opv_assign rfl) ?_
    refine SO.v rfl (opv_assign rfl) ?_
    refine SO.nil ?_
    cases h
    exact S.ret2 Try.func43 rfl rfl rfl (fun w hs hk => hR w _ _ ⟨rfl, rfl⟩ hs hk)
  · replace h := cond_f b8 h
    refine S.condF rfl b8 ?_
    refine S.skip ?_
    refine S.seq ?_
    refine S.region ?_
    refine SO.v rfl (opv_move rfl) ?_
    refine SO.v rfl (opv_mul rfl rfl) ?_
    refine SO.v rfl (opv_add rfl rfl) ?_
    refine SO.v rfl (opv_move rfl) ?_
    refine SO.v rfl (opv_add rfl rfl) ?_
    refine SO.v rfl (opv_assign rfl) ?_
    refine SO.v rfl (opv_assign rfl) ?_
    refine SO.nil ?_
    refine S.to (ρ' := [(4, .int .i64 (w64 ((w64 (480 + (w64 (a0 * 8)))) + a1))), (5, .bool true)]) ⟨rfl, rfl, trivial⟩ ?_
    cases h
    exact S.ret2 Try.func43 rfl rfl rfl (fun w hs hk => hR w _ _ ⟨rfl, rfl⟩ hs hk)
end Go.Proofs
namespace Go.Proofs
open Go.Sl Go.RowKit
/-! 24 padstone/lay.Field -/
def lay_Field.f (a1 : Int) (a2 : Int) : VM (Int) :=
  (VM.opt (lay_Obj.f a1 a2)).bind fun (t1, t2) => bif !t2 then (VM.ret 0) else (VM.rd t1 fun t5 => bif decide (4611686018427387904 < t5) then (VM.ret 0) else (VM.ret (w64 t5)))
set_option maxHeartbeats 8000000 in
set_option maxRecDepth 100000 in
theorem lay_Field.ct (V : VW Try.prog) (a1 : Int) (a2 : Int) (r0 : Int) (s s' : V.S) (h : VM.run V.toVI (lay_Field.f a1 a2) s = some (r0, s')) :
    Ct Try.prog 24 [V.val, .int .i64 a1, .int .i64 a2] (fun _ => True) [V.rep s] (fun u H' => u = .int .i64 r0 ∧ H' = [V.rep s']) := by
  unfold lay_Field.f at h
  refine Ct.intro (n := 25) Try.func24 rfl rfl rfl ?_
  intro R w0 F hF hR
  refine S.seq ?_
  refine S.region ?_
  refine SO.v rfl (opv_assign rfl) ?_
  refine SO.nil ?_
  refine S.seq ?_
  refine S.region ?_
  refine SO.v rfl (opv_move rfl) ?_
  refine SO.v rfl (opv_move rfl) ?_
  obtain ⟨⟨t1, t2⟩, ht3, h⟩ := VM.opt_some V.toVI h
  refine SO.call (pre := []) rfl Try.call43 rfl rfl rfl (lay_Obj.ct _ _ _ _ ht3) trivial ?_
  rintro _ _ ⟨rfl, rfl⟩
  refine SO.v rfl (opv_move rfl) ?_
  refine SO.v rfl (opv_extract rfl rfl) ?_
  refine SO.v rfl (opv_extract rfl rfl) ?_
  refine SO.v rfl (opv_assign rfl) ?_
  refine SO.v rfl (opv_assign rfl) ?_
  refine SO.nil ?_
  refine S.to (ρ' := [(0, V.val), (6, .int .i64 0), (7, .int .i64 t1), (8, .bool t2)]) ⟨rfl, rfl, rfl, rfl, trivial⟩ ?_
  refine S.seq ?_
  refine S.seq ?_
  refine S.region ?_
  refine SO.v rfl (opv_move rfl) ?_
  refine SO.v rfl (opv_not rfl) ?_
  refine SO.nil ?_
  rcases bool_or (!t2) with b4 | b4
  · replace h := VM.cond_t V.toVI b4 h
    refine S.condT rfl b4 ?_
    refine S.seq ?_
    refine S.region ?_
    refine SO.v rfl (opv_assign rfl) ?_
    refine SO.nil ?_
    obtain ⟨hq, rfl⟩ := VM.ret_some V.toVI h
    cases hq
    refine S.b1 ?_
    refine S.b1 ?_
    exact S.ret1 Try.func24 rfl rfl (fun w hs hk => hR w _ _ ⟨rfl, rfl⟩ hs hk)
  · replace h := VM.cond_f V.toVI b4 h
    refine S.condF rfl b4 ?_
    refine S.skip ?_
    refine S.seq ?_
    refine S.region ?_
    refine SO.v rfl (opv_move rfl) ?_
    refine SO.v rfl (opv_move rfl) ?_
    obtain ⟨t5, s6, hv7, h⟩ := VM.rd_some V.toVI h
    refine SO.vread' V rfl rfl rfl hv7 ?_
    refine SO.v rfl (opv_assign rfl) ?_
    refine SO.nil ?_
    refine S.to (ρ' := [(6, .int .i64 0), (9, .int .u64 t5)]) ⟨rfl, rfl, trivial⟩ ?_
    refine S.seq ?_
    refine S.seq ?_
    refine S.region ?_
    refine SO.v rfl (opv_move rfl) ?_
    refine SO.v rfl (opv_gtr rfl rfl) ?_
    refine SO.nil ?_
    rcases bool_or (decide (4611686018427387904 < t5)) with b8 | b8
    · replace h := VM.cond_t V.toVI b8 h
      refine S.condT rfl b8 ?_
      refine S.seq ?_
      refine S.region ?_
      refine SO.v rfl (opv_assign rfl) ?_
      refine SO.nil ?_
      obtain ⟨hq, rfl⟩ := VM.ret_some V.toVI h
      cases hq
      refine S.b1 ?_
      refine S.b1 ?_
      exact S.ret1 Try.func24 rfl rfl (fun w hs hk => hR w _ _ ⟨rfl, rfl⟩ hs hk)
    · replace h := VM.cond_f V.toVI b8 h
      refine S.condF rfl b8 ?_
      refine S.skip ?_
      refine S.seq ?_
      refine S.region ?_
      refine SO.v rfl (opv_move rfl) ?_
      refine SO.v rfl (opv_conv Try.underlying72 Try.underlying3 rfl) ?_
      refine SO.v rfl (opv_assign rfl) ?_
      refine SO.nil ?_
      obtain ⟨hq, rfl⟩ := VM.ret_some V.toVI h
      cases hq
      refine S.b1 ?_
      refine S.b1 ?_
      exact S.ret1 Try.func24 rfl rfl (fun w hs hk => hR w _ _ ⟨rfl, rfl⟩ hs hk)
end Go.Proofs
namespace Go.Proofs
open Go.Sl Go.RowKit
/-! 25 padstone/lay.Is -/
def lay_Is.f (a1 : Int) (a2 : Int) : VM (Bool) :=
  (VM.opt (lay_Obj.f a1 0)).bind fun (t1, t2) => (bif t2 && (decide (0 ≤ a2)) then (VM.rd t1 fun t8 => VM.ret (t8 == (wu64 a2))) else (VM.ret false)).bind fun c6 => VM.ret c6
set_option maxHeartbeats 8000000 in
set_option maxRecDepth 100000 in
theorem lay_Is.ct (V : VW Try.prog) (a1 : Int) (a2 : Int) (r0 : Bool) (s s' : V.S) (h : VM.run V.toVI (lay_Is.f a1 a2) s = some (r0, s')) :
    Ct Try.prog 25 [V.val, .int .i64 a1, .int .i64 a2] (fun _ => True) [V.rep s] (fun u H' => u = .bool r0 ∧ H' = [V.rep s']) := by
  unfold lay_Is.f at h
  refine Ct.intro (n := 27) Try.func25 rfl rfl rfl ?_
  intro R w0 F hF hR
  refine S.seq ?_
  refine S.region ?_
  refine SO.v rfl (opv_assign rfl) ?_
  refine SO.nil ?_
  refine S.seq ?_
  refine S.region ?_
  refine SO.v rfl (opv_move rfl) ?_
  obtain ⟨⟨t1, t2⟩, ht3, h⟩ := VM.opt_some V.toVI h
  refine SO.call (pre := []) rfl Try.call43 rfl rfl rfl (lay_Obj.ct _ _ _ _ ht3) trivial ?_
  rintro _ _ ⟨rfl, rfl⟩
  refine SO.v rfl (opv_move rfl) ?_
  refine SO.v rfl (opv_extract rfl rfl) ?_
  refine SO.v rfl (opv_extract rfl rfl) ?_
  refine SO.v rfl (opv_assign rfl) ?_
  refine SO.v rfl (opv_assign rfl) ?_
  refine SO.nil ?_
  refine S.seq ?_
  refine S.region ?_
  refine SO.v rfl (opv_move rfl) ?_
  refine SO.v rfl (opv_move rfl) ?_
  refine SO.cut 3 18 (.bool (t2 && (decide (0 ≤ a2)))) [V.rep s, F] (fun l2 hk2 => ?_) ?_
  · rcases bool_or t2 with b4 | b4
    · refine SO.takeT rfl rfl rfl b4 ?_
      refine SO.v rfl (opv_move rfl) ?_
      refine SO.takeT rfl rfl rfl b4 ?_
      refine SO.v rfl (opv_geq rfl rfl) ?_
      refine SO.v rfl (opv_pick_t' b4 rfl rfl) ?_
      refine SO.b1 ?_
      refine SO.b1 ?_
      exact hk2.fitc (m := 3) rfl (and_t b4) rfl
    · refine SO.passF rfl rfl rfl b4 rfl rfl ?_
      refine SO.passF rfl rfl rfl b4 rfl rfl ?_
      refine SO.v rfl (opv_pick_f' b4 rfl rfl) ?_
      refine SO.b1 ?_
      refine SO.b1 ?_
      exact hk2.fitc (m := 3) rfl (and_f b4) rfl
  refine SO.v rfl (opv_move rfl) ?_
  obtain ⟨c6, s11, hc7, hgk⟩ := VM.bind_some V.toVI h
  refine SO.cut 7 26 (.bool c6) [V.rep s11, F] (fun l2 hk2 => ?_) ?_
  · clear hgk
    replace h := hc7
    rcases bool_or (t2 && (decide (0 ≤ a2))) with b5 | b5
    · replace h := VM.cond_t V.toVI b5 h
      refine SO.takeT rfl rfl rfl b5 ?_
      refine SO.v rfl (opv_move rfl) ?_
      refine SO.takeT rfl rfl rfl b5 ?_
      refine SO.v rfl (opv_move rfl) ?_
      refine SO.takeT rfl rfl rfl b5 ?_
      obtain ⟨t8, s9, hv10, h⟩ := VM.rd_some V.toVI h
      refine SO.vread' V rfl rfl rfl hv10 ?_
      refine SO.takeT rfl rfl rfl b5 ?_
      refine SO.v rfl (opv_move rfl) ?_
      refine SO.takeT rfl rfl rfl b5 ?_
      refine SO.v rfl (opv_conv Try.underlying3 Try.underlying72 rfl) ?_
      refine SO.takeT rfl rfl rfl b5 ?_
      refine SO.v rfl (opv_eql rfl rfl) ?_
      obtain ⟨hq, rfl⟩ := VM.ret_some V.toVI h
      cases hq
      refine SO.v rfl (opv_pick_t' b5 rfl rfl) ?_
      refine SO.b1 ?_
      refine SO.b1 ?_
      exact hk2.fitc (m := 7) rfl (rfl) rfl
    · replace h := VM.cond_f V.toVI b5 h
      refine SO.passF rfl rfl rfl b5 rfl rfl ?_
      refine SO.passF rfl rfl rfl b5 rfl rfl ?_
      refine SO.passF rfl rfl rfl b5 rfl rfl ?_
      refine SO.passF rfl rfl rfl b5 rfl rfl ?_
      refine SO.passF rfl rfl rfl b5 rfl rfl ?_
      refine SO.passF rfl rfl rfl b5 rfl rfl ?_
      obtain ⟨hq, rfl⟩ := VM.ret_some V.toVI h
      cases hq
      refine SO.v rfl (opv_pick_f' b5 rfl rfl) ?_
      refine SO.b1 ?_
      refine SO.b1 ?_
      exact hk2.fitc (m := 7) rfl (rfl) rfl
  clear hc7
  replace h := hgk
  refine SO.v rfl (opv_assign rfl) ?_
  refine SO.nil ?_
  refine S.to (ρ' := [(6, .bool c6)]) ⟨rfl, trivial⟩ ?_
  obtain ⟨hq, rfl⟩ := VM.ret_some V.toVI h
  cases hq
  refine S.b1 ?_
  refine S.b1 ?_
  exact S.ret1 Try.func25 rfl rfl (fun w hs hk => hR w _ _ ⟨rfl, rfl⟩ hs hk)
end Go.Proofs
namespace Go.Proofs
open Go.Sl Go.RowKit
/-! 9 padstone/cspace.Fine -/
def cspace_Fine.f (a1 : api_Cap) : VM (Bool) :=
  (bif a1.Kind != 2 then (VM.ret true) else ((lay_Is.f a1.Obj 2).bind fun t5 => VM.ret (!t5))).bind fun c3 => bif c3 then (VM.ret false) else ((lay_Field.f a1.Obj 2).bind fun t10 => (bif decide (t10 ≤ 5) then ((lay_Field.f a1.Obj 1).bind fun t14 => (VM.opt (chk (decide (0 ≤ t10)))).bind fun _ => VM.ret (decide (t14 ≤ (w64 (96 - (bshl .i64 1 t10)))))) else (VM.ret false)).bind fun j4_1 => VM.ret j4_1)
set_option maxHeartbeats 8000000 in
set_option maxRecDepth 100000 in
theorem cspace_Fine.ct (V : VW Try.prog) (a1 : api_Cap) (r0 : Bool) (s s' : V.S) (h : VM.run V.toVI (cspace_Fine.f a1) s = some (r0, s')) :
    Ct Try.prog 9 [V.val, .agg #[.int .i64 a1.Kind, .int .i64 a1.Rights, .int .i64 a1.Obj, .int .i64 a1.Badge, .int .i64 a1.Guard, .int .i64 a1.Bits]] (fun _ => True) [V.rep s] (fun u H' => u = .bool r0 ∧ H' = [V.rep s']) := by
  unfold cspace_Fine.f at h
  refine Ct.intro (n := 32) Try.func9 rfl rfl rfl ?_
  intro R w0 F hF hR
  refine S.seq ?_
  refine S.region ?_
  refine SO.box rfl rfl rfl (fun b1 => ?_)
  refine SO.v rfl (opv_assign rfl) ?_
  refine SO.nil ?_
  refine S.seq ?_
  refine S.seq ?_
  refine S.region ?_
  refine SO.v rfl (opv_fieldAddr Try.underlying24 rfl Try.sizeOf3 rfl rfl) ?_
  refine SO.load1 rfl Try.isAgg3 rfl rfl ?_
  refine SO.v rfl (opv_neq rfl rfl) ?_
  refine SO.v rfl (opv_move rfl) ?_
  obtain ⟨c3, s8, hc4, hgk⟩ := VM.bind_some V.toVI h
  refine SO.cut 6 15 (.bool c3) [Box b1 [.int .i64 a1.Kind, .int .i64 a1.Rights, .int .i64 a1.Obj, .int .i64 a1.Badge, .int .i64 a1.Guard, .int .i64 a1.Bits], V.rep s8, F] (fun l2 hk2 => ?_) ?_
  · clear hgk
    replace h := hc4
    rcases bool_or (a1.Kind != 2) with b2 | b2
    · replace h := VM.cond_t V.toVI b2 h
      refine SO.passF rfl rfl rfl b2 rfl rfl ?_
      refine SO.passF rfl rfl rfl b2 rfl rfl ?_
      refine SO.passF rfl rfl rfl b2 rfl rfl ?_
      refine SO.passF rfl rfl rfl b2 rfl rfl ?_
      refine SO.passF rfl rfl rfl b2 rfl rfl ?_
      obtain ⟨hq, rfl⟩ := VM.ret_some V.toVI h
      cases hq
      refine SO.v rfl (opv_pick_t' b2 rfl rfl) ?_
      refine SO.b2 ?_
      refine SO.b2 ?_
      refine SO.b2 ?_
      exact hk2.fitc (m := 6) rfl (rfl) rfl
    · replace h := VM.cond_f V.toVI b2 h
      refine SO.takeT rfl rfl rfl b2 ?_
      refine SO.v rfl (opv_move rfl) ?_
      refine SO.takeT rfl rfl rfl b2 ?_
      refine SO.v rfl (opv_fieldAddr Try.underlying24 rfl Try.sizeOf3 rfl rfl) ?_
      refine SO.takeT rfl rfl rfl b2 ?_
      refine SO.load1 rfl Try.isAgg3 rfl rfl ?_
      refine SO.takeT rfl rfl rfl b2 ?_
      obtain ⟨t5, s7, ht6, h⟩ := VM.bind_some V.toVI h
      refine SO.b1 ?_
      refine SO.call (pre := [V.rep _]) rfl Try.call25 rfl rfl rfl (lay_Is.ct V _ _ _ _ _ ht6) trivial ?_
      rintro _ _ ⟨rfl, rfl⟩
      refine SO.takeT rfl rfl rfl b2 ?_
      refine SO.v rfl (opv_not rfl) ?_
      obtain ⟨hq, rfl⟩ := VM.ret_some V.toVI h
      cases hq
      refine SO.v rfl (opv_pick_f' b2 rfl rfl) ?_
      refine SO.b2 ?_
      refine SO.b1 ?_
      refine SO.b2 ?_
      exact hk2.fitc (m := 6) rfl (rfl) rfl
  clear hc4
  replace h := hgk
  refine SO.nil ?_
  rcases bool_or c3 with b9 | b9
  · replace h := VM.cond_t V.toVI b9 h
    refine S.condT rfl b9 ?_
    refine S.seq ?_
    refine S.region ?_
    refine SO.v rfl (opv_assign rfl) ?_
    refine SO.nil ?_
    obtain ⟨hq, rfl⟩ := VM.ret_some V.toVI h
    cases hq
    refine S.drop ?_
    refine S.b1 ?_
    refine S.b1 ?_
    exact S.ret1 Try.func9 rfl rfl (fun w hs hk => hR w _ _ ⟨rfl, rfl⟩ hs hk)
  · replace h := VM.cond_f V.toVI b9 h
    refine S.condF rfl b9 ?_
    refine S.skip ?_
    refine S.seq ?_
    refine S.region ?_
    refine SO.v rfl (opv_move rfl) ?_
    refine SO.v rfl (opv_fieldAddr Try.underlying24 rfl Try.sizeOf3 rfl rfl) ?_
    refine SO.load1 rfl Try.isAgg3 rfl rfl ?_
    obtain ⟨t10, s12, ht11, h⟩ := VM.bind_some V.toVI h
    refine SO.b1 ?_
    refine SO.call (pre := [V.rep _]) rfl Try.call24 rfl rfl rfl (lay_Field.ct V _ _ _ _ _ ht11) trivial ?_
    rintro _ _ ⟨rfl, rfl⟩
    refine SO.v rfl (opv_assign rfl) ?_
    refine SO.nil ?_
    refine S.to (ρ' := [(0, V.val), (3, bp b1 0), (4, .bool false), (5, .int .i64 t10)]) ⟨rfl, rfl, rfl, rfl, trivial⟩ ?_
    refine S.seq ?_
    obtain ⟨j4_1, s_1, hC1, hJ1⟩ := VM.bind_some V.toVI h
    clear h
    refine S.cutP (G := Unit) (fun _ => True) (fun _ => [(4, .bool j4_1)]) (fun _ => [V.rep s_1, Box b1 [.int .i64 a1.Kind, .int .i64 a1.Rights, .int .i64 a1.Obj, .int .i64 a1.Badge, .int .i64 a1.Guard, .int .i64 a1.Bits], F]) (fun hk1 => ?_) ?_
    · replace h := hC1
      rcases bool_or (decide (t10 ≤ 5)) with b13 | b13
      · replace h := VM.cond_t V.toVI b13 h
        obtain ⟨t14, s16, ht15, h⟩ := VM.bind_some V.toVI h
        obtain ⟨_, hc17, h⟩ := VM.opt_some V.toVI h
        refine S.draw' (Z := fun Q => ∀ (_ : Unit) (_ : Unit) (_ : Unit) (_ : Unit), Q [(4, .bool (decide (t14 ≤ (w64 (96 - (bshl .i64 1 t10))))))] [V.rep s16, Box b1 [.int .i64 a1.Kind, .int .i64 a1.Rights, .int .i64 a1.Obj, .int .i64 a1.Badge, .int .i64 a1.Guard, .int .i64 a1.Bits], F]) (T := [tS 5 (.int .i64 t10), tS 0 (V.val), tS 3 (bp b1 0), tR (V.rep s12), tR (Box b1 [.int .i64 a1.Kind, .int .i64 a1.Rights, .int .i64 a1.Obj, .int .i64 a1.Badge, .int .i64 a1.Guard, .int .i64 a1.Bits]), tR (F), tS 20 (.int .i64 t10), tS 21 (.bool (decide (t10 ≤ 5))), tS 22 (.bool (decide (t10 ≤ 5))), tS 23 (V.val), tS 24 (bp b1 2), tS 25 (.int .i64 a1.Obj), tR (V.rep s16), tS 26 (.int .i64 t14), tS 27 (.int .i64 t10), tS 28 (.int .i64 (bshl .i64 1 t10)), tS 29 (.int .i64 (w64 (96 - (bshl .i64 1 t10)))), tS 30 (.bool (decide (t14 ≤ (w64 (96 - (bshl .i64 1 t10)))))), tS 31 (.bool (decide (t14 ≤ (w64 (96 - (bshl .i64 1 t10)))))), tS 4 (.bool (decide (t14 ≤ (w64 (96 - (bshl .i64 1 t10))))))]) (D := [⟨[0], [], [6]⟩, ⟨[6], [], [7]⟩, ⟨[7], [], [8]⟩, ⟨[1, 8], [], [9]⟩, ⟨[2, 8], [], [10]⟩, ⟨[8, 10, 4], [], [11]⟩, ⟨[8, 9, 11], [3], [12, 13]⟩, ⟨[0, 8], [], [14]⟩, ⟨[8, 14], [], [15]⟩, ⟨[8, 15], [], [16]⟩, ⟨[8, 13, 16], [], [17]⟩, ⟨[8, 17], [], [18]⟩, ⟨[18], [], [19]⟩]) (ini := [0, 1, 2, 3, 4, 5]) (fin := [19, 12, 4, 5]) (bf := [[], [0], [0, 1], [0, 1, 2], [0, 1, 2], [0, 1, 2, 4], [0, 1, 2, 3, 4, 5], [0, 1, 2], [0, 1, 2, 7], [0, 1, 2, 7, 8], [0, 1, 2, 3, 4, 5, 6, 7, 8, 9], [0, 1, 2, 3, 4, 5, 6, 7, 8, 9, 10], [0, 1, 2, 3, 4, 5, 6, 7, 8, 9, 10, 11]]) (by kernel_rfl) (by kernel_rfl) (fun x w h1 h2 => (.cons () (.cons () (.cons () (.cons () (.cons () (.cons () (.nil ⟨EnvAll.of h1 ⟨rfl, rfl, rfl, trivial⟩, h2⟩)))))))) (fun Q => by kernel_rfl) ⟨?_, ?_, ?_, ?_, ?_, ?_, ?_, ?_, ?_, ?_, ?_, ?_, ?_, trivial⟩ ?_
        · rintro Fr _
          refine SO.v rfl (opv_move rfl) ?_
          exact SO.nilZ fun a w h1 h2 h3 h4 h5 => PZ.of h1 h3 h5 (.cons () (.cons () (.nil ⟨EnvAll.of h2 ⟨rfl, rfl, trivial⟩, h4⟩)))
        · rintro Fr _
          refine SO.v rfl (opv_leq rfl rfl) ?_
          exact SO.nilZ fun a w h1 h2 h3 h4 h5 => PZ.of h1 h3 h5 (.cons () (.cons () (.nil ⟨EnvAll.of h2 ⟨rfl, rfl, trivial⟩, h4⟩)))
        · rintro Fr _
          refine SO.v rfl (opv_move rfl) ?_
          exact SO.nilZ fun a w h1 h2 h3 h4 h5 => PZ.of h1 h3 h5 (.cons () (.cons () (.nil ⟨EnvAll.of h2 ⟨rfl, rfl, trivial⟩, h4⟩)))
        · rintro Fr _ _
          refine SO.takeT rfl rfl rfl b13 ?_
          refine SO.v rfl (opv_move rfl) ?_
          exact SO.nilZ fun a w h1 h2 h3 h4 h5 => PZ.of h1 h3 h5 (.cons () (.cons () (.cons () (.nil ⟨EnvAll.of h2 ⟨rfl, rfl, rfl, trivial⟩, h4⟩))))
        · rintro Fr _ _
          refine SO.takeT rfl rfl rfl b13 ?_
          refine SO.v rfl (opv_fieldAddr Try.underlying24 rfl Try.sizeOf3 rfl rfl) ?_
          exact SO.nilZ fun a w h1 h2 h3 h4 h5 => PZ.of h1 h3 h5 (.cons () (.cons () (.cons () (.nil ⟨EnvAll.of h2 ⟨rfl, rfl, rfl, trivial⟩, h4⟩))))
        · rintro Fr _ _ _
          refine SO.takeT rfl rfl rfl b13 ?_
          refine SO.load1 rfl Try.isAgg3 rfl rfl ?_
          exact SO.nilZ fun a w h1 h2 h3 h4 h5 => PZ.of h1 h3 h5 (.cons () (.cons () (.cons () (.cons () (.nil ⟨EnvAll.of h2 ⟨rfl, rfl, rfl, trivial⟩, h4⟩)))))
        · rintro Fr _ _ _ _
          refine SO.takeT rfl rfl rfl b13 ?_
          refine SO.call (pre := [V.rep _]) rfl Try.call24 rfl rfl rfl (lay_Field.ct V _ _ _ _ _ ht15) trivial ?_
          rintro _ _ ⟨rfl, rfl⟩
          exact SO.nilZ fun a w h1 h2 h3 h4 h5 => PZ.of h1 h3 h5 (.cons () (.cons () (.cons () (.cons () (.cons () (.nil ⟨EnvAll.of h2 ⟨rfl, rfl, rfl, rfl, trivial⟩, h4⟩))))))
        · rintro Fr _ _
          refine SO.takeT rfl rfl rfl b13 ?_
          refine SO.v rfl (opv_move rfl) ?_
          exact SO.nilZ fun a w h1 h2 h3 h4 h5 => PZ.of h1 h3 h5 (.cons () (.cons () (.cons () (.nil ⟨EnvAll.of h2 ⟨rfl, rfl, rfl, trivial⟩, h4⟩))))
        · rintro Fr _ _
          refine SO.takeT rfl rfl rfl b13 ?_
          refine SO.v rfl (opv_shl rfl rfl (of_decide_eq_true (chk_some hc17))) ?_
          exact SO.nilZ fun a w h1 h2 h3 h4 h5 => PZ.of h1 h3 h5 (.cons () (.cons () (.cons () (.nil ⟨EnvAll.of h2 ⟨rfl, rfl, rfl, trivial⟩, h4⟩))))
        · rintro Fr _ _
          refine SO.takeT rfl rfl rfl b13 ?_
          refine SO.v rfl (opv_sub rfl rfl) ?_
          exact SO.nilZ fun a w h1 h2 h3 h4 h5 => PZ.of h1 h3 h5 (.cons () (.cons () (.cons () (.nil ⟨EnvAll.of h2 ⟨rfl, rfl, rfl, trivial⟩, h4⟩))))
        · rintro Fr _ _ _
          refine SO.takeT rfl rfl rfl b13 ?_
          refine SO.v rfl (opv_leq rfl rfl) ?_
          exact SO.nilZ fun a w h1 h2 h3 h4 h5 => PZ.of h1 h3 h5 (.cons () (.cons () (.cons () (.cons () (.nil ⟨EnvAll.of h2 ⟨rfl, rfl, rfl, rfl, trivial⟩, h4⟩)))))
        · rintro Fr _ _
          refine SO.v rfl (opv_pick_t' b13 rfl rfl) ?_
          exact SO.nilZ fun a w h1 h2 h3 h4 h5 => PZ.of h1 h3 h5 (.cons () (.cons () (.cons () (.nil ⟨EnvAll.of h2 ⟨rfl, rfl, rfl, trivial⟩, h4⟩))))
        · rintro Fr _
          refine SO.v rfl (opv_assign rfl) ?_
          exact SO.nilZ fun a w h1 h2 h3 h4 h5 => PZ.of h1 h3 h5 (.cons () (.cons () (.nil ⟨EnvAll.of h2 ⟨rfl, rfl, trivial⟩, h4⟩)))
        rintro _ _ _ _
        refine S.to (ρ' := [(4, .bool (decide (t14 ≤ (w64 (96 - (bshl .i64 1 t10))))))]) ⟨rfl, trivial⟩ ?_
        obtain ⟨hq, rfl⟩ := VM.ret_some V.toVI h
        cases hq
        refine S.b2 ?_
        refine S.b2 ?_
        refine S.b2 ?_
        refine S.to ?_ (hk1 () trivial)
        exact ⟨rfl, trivial⟩
      · replace h := VM.cond_f V.toVI b13 h
        refine S.draw' (Z := fun Q => ∀ (_ : Unit) (_ : Unit) (_ : Unit) (_ : Unit), Q [(4, .bool false)] [V.rep s12, Box b1 [.int .i64 a1.Kind, .int .i64 a1.Rights, .int .i64 a1.Obj, .int .i64 a1.Badge, .int .i64 a1.Guard, .int .i64 a1.Bits], F]) (T := [tS 5 (.int .i64 t10), tS 0 (V.val), tS 3 (bp b1 0), tR (V.rep s12), tR (Box b1 [.int .i64 a1.Kind, .int .i64 a1.Rights, .int .i64 a1.Obj, .int .i64 a1.Badge, .int .i64 a1.Guard, .int .i64 a1.Bits]), tR (F), tS 20 (.int .i64 t10), tS 21 (.bool (decide (t10 ≤ 5))), tS 22 (.bool (decide (t10 ≤ 5))), tS 23 (undef), tS 24 (undef), tS 25 (undef), tS 26 (undef), tS 27 (undef), tS 28 (undef), tS 29 (undef), tS 30 (undef), tS 31 (.bool false), tS 4 (.bool false)]) (D := [⟨[0], [], [6]⟩, ⟨[6], [], [7]⟩, ⟨[7], [], [8]⟩, ⟨[8], [], [9]⟩, ⟨[8], [], [10]⟩, ⟨[8], [], [11]⟩, ⟨[8], [], [12]⟩, ⟨[8], [], [13]⟩, ⟨[8], [], [14]⟩, ⟨[8], [], [15]⟩, ⟨[8], [], [16]⟩, ⟨[8, 16], [], [17]⟩, ⟨[17], [], [18]⟩]) (ini := [0, 1, 2, 3, 4, 5]) (fin := [18, 3, 4, 5]) (bf := [[], [0], [0, 1], [0, 1, 2], [0, 1, 2], [0, 1, 2, 4], [0, 1, 2, 3, 4, 5], [0, 1, 2], [0, 1, 2, 7], [0, 1, 2, 7, 8], [0, 1, 2, 3, 4, 5, 6, 7, 8, 9], [0, 1, 2, 3, 4, 5, 6, 7, 8, 9, 10], [0, 1, 2, 3, 4, 5, 6, 7, 8, 9, 10, 11]]) (by kernel_rfl) (by kernel_rfl) (fun x w h1 h2 => (.cons () (.cons () (.cons () (.cons () (.cons () (.cons () (.nil ⟨EnvAll.of h1 ⟨rfl, rfl, rfl, trivial⟩, h2⟩)))))))) (fun Q => by kernel_rfl) ⟨?_, ?_, ?_, ?_, ?_, ?_, ?_, ?_, ?_, ?_, ?_, ?_, ?_, trivial⟩ ?_
        · rintro Fr _
          refine SO.v rfl (opv_move rfl) ?_
          exact SO.nilZ fun a w h1 h2 h3 h4 h5 => PZ.of h1 h3 h5 (.cons () (.cons () (.nil ⟨EnvAll.of h2 ⟨rfl, rfl, trivial⟩, h4⟩)))
        · rintro Fr _
          refine SO.v rfl (opv_leq rfl rfl) ?_
          exact SO.nilZ fun a w h1 h2 h3 h4 h5 => PZ.of h1 h3 h5 (.cons () (.cons () (.nil ⟨EnvAll.of h2 ⟨rfl, rfl, trivial⟩, h4⟩)))
        · rintro Fr _
          refine SO.v rfl (opv_move rfl) ?_
          exact SO.nilZ fun a w h1 h2 h3 h4 h5 => PZ.of h1 h3 h5 (.cons () (.cons () (.nil ⟨EnvAll.of h2 ⟨rfl, rfl, trivial⟩, h4⟩)))
        · rintro Fr _
          refine SO.passF rfl rfl rfl b13 rfl rfl ?_
          exact SO.nilZ fun a w h1 h2 h3 h4 h5 => PZ.of h1 h3 h5 (.cons () (.cons () (.nil ⟨EnvAll.of h2 ⟨rfl, rfl, trivial⟩, h4⟩)))
        · rintro Fr _
          refine SO.passF rfl rfl rfl b13 rfl rfl ?_
          exact SO.nilZ fun a w h1 h2 h3 h4 h5 => PZ.of h1 h3 h5 (.cons () (.cons () (.nil ⟨EnvAll.of h2 ⟨rfl, rfl, trivial⟩, h4⟩)))
        · rintro Fr _
          refine SO.passF rfl rfl rfl b13 rfl rfl ?_
          exact SO.nilZ fun a w h1 h2 h3 h4 h5 => PZ.of h1 h3 h5 (.cons () (.cons () (.nil ⟨EnvAll.of h2 ⟨rfl, rfl, trivial⟩, h4⟩)))
        · rintro Fr _
          refine SO.passF rfl rfl rfl b13 rfl rfl ?_
          exact SO.nilZ fun a w h1 h2 h3 h4 h5 => PZ.of h1 h3 h5 (.cons () (.cons () (.nil ⟨EnvAll.of h2 ⟨rfl, rfl, trivial⟩, h4⟩)))
        · rintro Fr _
          refine SO.passF rfl rfl rfl b13 rfl rfl ?_
          exact SO.nilZ fun a w h1 h2 h3 h4 h5 => PZ.of h1 h3 h5 (.cons () (.cons () (.nil ⟨EnvAll.of h2 ⟨rfl, rfl, trivial⟩, h4⟩)))
        · rintro Fr _
          refine SO.passF rfl rfl rfl b13 rfl rfl ?_
          exact SO.nilZ fun a w h1 h2 h3 h4 h5 => PZ.of h1 h3 h5 (.cons () (.cons () (.nil ⟨EnvAll.of h2 ⟨rfl, rfl, trivial⟩, h4⟩)))
        · rintro Fr _
          refine SO.passF rfl rfl rfl b13 rfl rfl ?_
          exact SO.nilZ fun a w h1 h2 h3 h4 h5 => PZ.of h1 h3 h5 (.cons () (.cons () (.nil ⟨EnvAll.of h2 ⟨rfl, rfl, trivial⟩, h4⟩)))
        · rintro Fr _
          refine SO.passF rfl rfl rfl b13 rfl rfl ?_
          exact SO.nilZ fun a w h1 h2 h3 h4 h5 => PZ.of h1 h3 h5 (.cons () (.cons () (.nil ⟨EnvAll.of h2 ⟨rfl, rfl, trivial⟩, h4⟩)))
        · rintro Fr _ _
          refine SO.v rfl (opv_pick_f' b13 rfl rfl) ?_
          exact SO.nilZ fun a w h1 h2 h3 h4 h5 => PZ.of h1 h3 h5 (.cons () (.cons () (.cons () (.nil ⟨EnvAll.of h2 ⟨rfl, rfl, rfl, trivial⟩, h4⟩))))
        · rintro Fr _
          refine SO.v rfl (opv_assign rfl) ?_
          exact SO.nilZ fun a w h1 h2 h3 h4 h5 => PZ.of h1 h3 h5 (.cons () (.cons () (.nil ⟨EnvAll.of h2 ⟨rfl, rfl, trivial⟩, h4⟩)))
        rintro _ _ _ _
        refine S.to (ρ' := [(4, .bool false)]) ⟨rfl, trivial⟩ ?_
        obtain ⟨hq, rfl⟩ := VM.ret_some V.toVI h
        cases hq
        refine S.b2 ?_
        refine S.b2 ?_
        refine S.b2 ?_
        refine S.to ?_ (hk1 () trivial)
        exact ⟨rfl, trivial⟩
    rintro _ -
    replace h := hJ1
    obtain ⟨hq, rfl⟩ := VM.ret_some V.toVI h
    cases hq
    refine S.b1 ?_
    refine S.drop ?_
    refine S.b1 ?_
    refine S.b1 ?_
    exact S.ret1 Try.func9 rfl rfl (fun w hs hk => hR w _ _ ⟨rfl, rfl⟩ hs hk)
end Go.Proofs
namespace Go.Proofs
open Go.Sl Go.RowKit
/-! 39 padstone/lay.Slot -/
def lay_Slot.f (a0 : Int) (a1 : Int) : Option ((Int × Bool)) :=
  (lay_in.f a0 96).bind fun t1 => (bif !t1 then (some true) else ((lay_in.f a1 5).bind fun t6 => some (!t6))).bind fun c4 => bif c4 then (some (0, false)) else (some (w64 ((w64 (a0 * 5)) + a1), true))
set_option maxHeartbeats 8000000 in
set_option maxRecDepth 100000 in
theorem lay_Slot.ct (a0 : Int) (a1 : Int) (r0 : Int) (r1 : Bool) (h : lay_Slot.f a0 a1 = some (r0, r1)) :
    Ct Try.prog 39 [.int .i64 a0, .int .i64 a1] (fun _ => True) [] (fun u H' => u = .tuple #[.int .i64 r0, .bool r1] ∧ H' = []) := by
  unfold lay_Slot.f at h
  refine Ct.intro (n := 18) Try.func39 rfl rfl rfl ?_
  intro R w0 F hF hR
  refine S.seq ?_
  refine S.region ?_
  refine SO.v rfl (opv_assign rfl) ?_
  refine SO.v rfl (opv_assign rfl) ?_
  refine SO.nil ?_
  refine S.seq ?_
  refine S.seq ?_
  refine S.region ?_
  refine SO.v rfl (opv_move rfl) ?_
  obtain ⟨t1, ht2, h⟩ := opt_bind h
  refine SO.call (pre := []) rfl Try.call54 rfl rfl rfl (lay_in.ct _ _ _ ht2) trivial ?_
  rintro _ _ ⟨rfl, rfl⟩
  refine SO.v rfl (opv_not rfl) ?_
  refine SO.v rfl (opv_move rfl) ?_
  obtain ⟨c4, hc5, hgk⟩ := opt_bind h
  refine SO.cut 4 13 (.bool c4) [F] (fun l2 hk2 => ?_) ?_
  · clear hgk
    replace h := hc5
    rcases bool_or (!t1) with b3 | b3
    · replace h := cond_t b3 h
      refine SO.passF rfl rfl rfl b3 rfl rfl ?_
      refine SO.passF rfl rfl rfl b3 rfl rfl ?_
      refine SO.passF rfl rfl rfl b3 rfl rfl ?_
      cases h
      refine SO.v rfl (opv_pick_t' b3 rfl rfl) ?_
      exact hk2.fitc (m := 4) rfl (rfl) rfl
    · replace h := cond_f b3 h
      refine SO.takeT rfl rfl rfl b3 ?_
      refine SO.v rfl (opv_move rfl) ?_
      refine SO.takeT rfl rfl rfl b3 ?_
      obtain ⟨t6, ht7, h⟩ := opt_bind h
      refine SO.call (pre := []) rfl Try.call54 rfl rfl rfl (lay_in.ct _ _ _ ht7) trivial ?_
      rintro _ _ ⟨rfl, rfl⟩
      refine SO.takeT rfl rfl rfl b3 ?_
      refine SO.v rfl (opv_not rfl) ?_
      cases h
      refine SO.v rfl (opv_pick_f' b3 rfl rfl) ?_
      exact hk2.fitc (m := 4) rfl (rfl) rfl
  clear hc5
  replace h := hgk
  refine SO.nil ?_
  rcases bool_or c4 with b8 | b8
  · replace h := cond_t b8 h
    refine S.condT rfl b8 ?_
    refine S.seq ?_
    refine S.region ?_
    refine SO.v rfl (opv_assign rfl) ?_
    refine SO.v rfl (opv_assign rfl) ?_
    refine SO.nil ?_
    cases h
    exact S.ret2 Try.func39 rfl rfl rfl (fun w hs hk => hR w _ _ ⟨rfl, rfl⟩ hs hk)
  · replace h := cond_f b8 h
    refine S.condF rfl b8 ?_
    refine S.skip ?_
    refine S.seq ?_
    refine S.region ?_
    refine SO.v rfl (opv_move rfl) ?_
    refine SO.v rfl (opv_mul rfl rfl) ?_
    refine SO.v rfl (opv_move rfl) ?_
    refine SO.v rfl (opv_add rfl rfl) ?_
    refine SO.v rfl (opv_assign rfl) ?_
    refine SO.v rfl (opv_assign rfl) ?_
    refine SO.nil ?_
    refine S.to (ρ' := [(4, .int .i64 (w64 ((w64 (a0 * 5)) + a1))), (5, .bool true)]) ⟨rfl, rfl, trivial⟩ ?_
    cases h
    exact S.ret2 Try.func39 rfl rfl rfl (fun w hs hk => hR w _ _ ⟨rfl, rfl⟩ hs hk)
end Go.Proofs
namespace Go.Proofs
open Go.Sl Go.RowKit
/-! 57 padstone/pack.May$1 -/
def pack_May_1.f (a0 : Int) (a1 : Int) : Option (Bool) :=
  some ((decide (0 ≤ a0)) && (decide (a0 ≤ a1)))
set_option maxHeartbeats 8000000 in
set_option maxRecDepth 100000 in
theorem pack_May_1.ct (a0 : Int) (a1 : Int) (r0 : Bool) (h : pack_May_1.f a0 a1 = some r0) :
    Ct Try.prog 57 [.int .i64 a0, .int .i64 a1] (fun _ => True) [] (fun u H' => u = .bool r0 ∧ H' = []) := by
  unfold pack_May_1.f at h
  refine Ct.intro (n := 12) Try.func57 rfl rfl rfl ?_
  intro R w0 F hF hR
  refine S.seq ?_
  refine S.region ?_
  refine SO.v rfl (opv_assign rfl) ?_
  refine SO.nil ?_
  refine S.seq ?_
  refine S.region ?_
  refine SO.v rfl (opv_move rfl) ?_
  refine SO.v rfl (opv_geq rfl rfl) ?_
  refine SO.v rfl (opv_move rfl) ?_
  refine SO.cut 4 11 (.bool ((decide (0 ≤ a0)) && (decide (a0 ≤ a1)))) [F] (fun l2 hk2 => ?_) ?_
  · rcases bool_or (decide (0 ≤ a0)) with b1 | b1
    · refine SO.takeT rfl rfl rfl b1 ?_
      refine SO.v rfl (opv_move rfl) ?_
      refine SO.takeT rfl rfl rfl b1 ?_
      refine SO.v rfl (opv_move rfl) ?_
      refine SO.takeT rfl rfl rfl b1 ?_
      refine SO.v rfl (opv_leq rfl rfl) ?_
      refine SO.v rfl (opv_pick_t' b1 rfl rfl) ?_
      exact hk2.fitc (m := 4) rfl (and_t b1) rfl
    · refine SO.passF rfl rfl rfl b1 rfl rfl ?_
      refine SO.passF rfl rfl rfl b1 rfl rfl ?_
      refine SO.passF rfl rfl rfl b1 rfl rfl ?_
      refine SO.v rfl (opv_pick_f' b1 rfl rfl) ?_
      exact hk2.fitc (m := 4) rfl (and_f b1) rfl
  refine SO.v rfl (opv_assign rfl) ?_
  refine SO.nil ?_
  cases h
  exact S.ret1 Try.func57 rfl rfl (fun w hs hk => hR w _ _ ⟨rfl, rfl⟩ hs hk)
end Go.Proofs
namespace Go.Proofs
open Go.Sl Go.RowKit
/-! 56 padstone/pack.May -/
def pack_May.f (a0 : api_Cap) : Option (Bool) :=
  bif a0.Kind == 0 then (some (decide (a0 = (⟨0, 0, 0, 0, 0, 0⟩ : api_Cap)))) else ((pack_May_1.f a0.Kind 8).bind fun t4 => (bif !t4 then (some true) else ((pack_May_1.f a0.Rights 7).bind fun t9 => some (!t9))).bind fun c7 => (bif c7 then (some true) else ((pack_May_1.f a0.Obj 31).bind fun t14 => some (!t14))).bind fun c12 => (bif c12 then (some true) else ((pack_May_1.f a0.Badge 65535).bind fun t19 => some (!t19))).bind fun c17 => (bif c17 then (some true) else ((pack_May_1.f a0.Bits 8).bind fun t24 => some (!t24))).bind fun c22 => bif c22 then (some false) else (bif ((!((a0.Kind == 3) || (a0.Kind == 4))) && (a0.Badge != 0)) || ((a0.Kind != 2) && ((a0.Bits != 0) || (a0.Guard != 0))) then (some false) else ((chk (decide (0 ≤ a0.Bits))).bind fun _ => (pack_May_1.f a0.Guard (w64 ((bshl .i64 1 a0.Bits) - 1))).bind fun t33 => some t33)))
set_option maxHeartbeats 8000000 in
set_option maxRecDepth 100000 in
theorem pack_May.ct (a0 : api_Cap) (r0 : Bool) (h : pack_May.f a0 = some r0) :
    Ct Try.prog 56 [.agg #[.int .i64 a0.Kind, .int .i64 a0.Rights, .int .i64 a0.Obj, .int .i64 a0.Badge, .int .i64 a0.Guard, .int .i64 a0.Bits]] (fun _ => True) [] (fun u H' => u = .bool r0 ∧ H' = []) := by
  unfold pack_May.f at h
  refine Ct.intro (n := 85) Try.func56 rfl rfl rfl ?_
  intro R w0 F hF hR
  refine S.seq ?_
  refine S.region ?_
  refine SO.box rfl rfl rfl (fun b1 => ?_)
  refine SO.v rfl (opv_assign rfl) ?_
  refine SO.nil ?_
  refine S.seq ?_
  refine S.region ?_
  refine SO.v rfl (opv_assign rfl) ?_
  refine SO.nil ?_
  refine S.seq ?_
  refine S.region ?_
  refine SO.v rfl (opv_fieldAddr Try.underlying24 rfl Try.sizeOf3 rfl rfl) ?_
  refine SO.load1 rfl Try.isAgg3 rfl rfl ?_
  refine SO.v rfl (opv_eql rfl rfl) ?_
  refine SO.v rfl (opv_move rfl) ?_
  refine SO.cut 4 12 (.bool ((a0.Kind == 3) || (a0.Kind == 4))) [Box b1 [.int .i64 a0.Kind, .int .i64 a0.Rights, .int .i64 a0.Obj, .int .i64 a0.Badge, .int .i64 a0.Guard, .int .i64 a0.Bits], F] (fun l2 hk2 => ?_) ?_
  · rcases bool_or (a0.Kind == 3) with b2 | b2
    · refine SO.passF rfl rfl rfl b2 rfl rfl ?_
      refine SO.passF rfl rfl rfl b2 rfl rfl ?_
      refine SO.passF rfl rfl rfl b2 rfl rfl ?_
      refine SO.v rfl (opv_pick_t' b2 rfl rfl) ?_
      refine SO.b1 ?_
      refine SO.b1 ?_
      exact hk2.fitc (m := 4) rfl (or_t b2) rfl
    · refine SO.takeT rfl rfl rfl b2 ?_
      refine SO.v rfl (opv_fieldAddr Try.underlying24 rfl Try.sizeOf3 rfl rfl) ?_
      refine SO.takeT rfl rfl rfl b2 ?_
      refine SO.load1 rfl Try.isAgg3 rfl rfl ?_
      refine SO.takeT rfl rfl rfl b2 ?_
      refine SO.v rfl (opv_eql rfl rfl) ?_
      refine SO.v rfl (opv_pick_f' b2 rfl rfl) ?_
      refine SO.b1 ?_
      refine SO.b1 ?_
      exact hk2.fitc (m := 4) rfl (or_f b2) rfl
  refine SO.v rfl (opv_assign rfl) ?_
  refine SO.nil ?_
  refine S.seq ?_
  refine S.block ?_
  refine S.seq ?_
  refine S.region ?_
  refine SO.v rfl (opv_fieldAddr Try.underlying24 rfl Try.sizeOf3 rfl rfl) ?_
  refine SO.load1 rfl Try.isAgg3 rfl rfl ?_
  refine SO.v rfl (opv_eql rfl rfl) ?_
  refine SO.v rfl (opv_assign rfl) ?_
  refine SO.nil ?_
  refine S.to (ρ' := [(1, bp b1 0), (2, .bool false), (3, .func (.func 57) #[] #[]), (4, .bool ((a0.Kind == 3) || (a0.Kind == 4))), (13, .bool (a0.Kind == 0))]) ⟨rfl, rfl, rfl, rfl, rfl, trivial⟩ ?_
  rcases bool_or (a0.Kind == 0) with b3 | b3
  · replace h := cond_t b3 h
    refine S.condT rfl b3 ?_
    refine S.seq ?_
    refine S.region ?_
    refine SO.loadN rfl Try.isAgg24 Try.sizeOf24 rfl rfl rfl ?_
    refine SO.v rfl (opv_build (v := .agg #[.int .i64 0, .int .i64 0, .int .i64 0, .int .i64 0, .int .i64 0, .int .i64 0]) rfl (by intro w; kernel_rfl)) ?_
    refine SO.v rfl (eq_eql_api_Cap (x := a0) (y := (⟨0, 0, 0, 0, 0, 0⟩ : api_Cap)) rfl rfl) ?_
    refine SO.v rfl (opv_assign rfl) ?_
    refine SO.nil ?_
    cases h
    refine S.drop ?_
    exact S.ret1 Try.func56 rfl rfl (fun w hs hk => hR w _ _ ⟨rfl, rfl⟩ hs hk)
  · replace h := cond_f b3 h
    refine S.condF rfl b3 ?_
    refine S.seq ?_
    refine S.region ?_
    refine SO.v rfl (opv_move rfl) ?_
    refine SO.v rfl (opv_fieldAddr Try.underlying24 rfl Try.sizeOf3 rfl rfl) ?_
    refine SO.load1 rfl Try.isAgg3 rfl rfl ?_
    obtain ⟨t4, ht5, h⟩ := opt_bind h
    refine SO.call (pre := []) rfl Try.call57 rfl rfl rfl (pack_May_1.ct _ _ _ ht5) trivial ?_
    rintro _ _ ⟨rfl, rfl⟩
    refine SO.v rfl (opv_not rfl) ?_
    refine SO.v rfl (opv_move rfl) ?_
    obtain ⟨c7, hc8, hgk⟩ := opt_bind h
    refine SO.cut 6 32 (.bool c7) [Box b1 [.int .i64 a0.Kind, .int .i64 a0.Rights, .int .i64 a0.Obj, .int .i64 a0.Badge, .int .i64 a0.Guard, .int .i64 a0.Bits], F] (fun l2 hk2 => ?_) ?_
    · clear hgk
      replace h := hc8
      rcases bool_or (!t4) with b6 | b6
      · replace h := cond_t b6 h
        refine SO.passF rfl rfl rfl b6 rfl rfl ?_
        refine SO.passF rfl rfl rfl b6 rfl rfl ?_
        refine SO.passF rfl rfl rfl b6 rfl rfl ?_
        refine SO.passF rfl rfl rfl b6 rfl rfl ?_
        refine SO.passF rfl rfl rfl b6 rfl rfl ?_
        cases h
        refine SO.v rfl (opv_pick_t' b6 rfl rfl) ?_
        refine SO.b1 ?_
        refine SO.b1 ?_
        exact hk2.fitc (m := 6) rfl (rfl) rfl
      · replace h := cond_f b6 h
        refine SO.takeT rfl rfl rfl b6 ?_
        refine SO.v rfl (opv_move rfl) ?_
        refine SO.takeT rfl rfl rfl b6 ?_
        refine SO.v rfl (opv_fieldAddr Try.underlying24 rfl Try.sizeOf3 rfl rfl) ?_
        refine SO.takeT rfl rfl rfl b6 ?_
        refine SO.load1 rfl Try.isAgg3 rfl rfl ?_
        refine SO.takeT rfl rfl rfl b6 ?_
        obtain ⟨t9, ht10, h⟩ := opt_bind h
        refine SO.call (pre := []) rfl Try.call57 rfl rfl rfl (pack_May_1.ct _ _ _ ht10) trivial ?_
        rintro _ _ ⟨rfl, rfl⟩
        refine SO.takeT rfl rfl rfl b6 ?_
        refine SO.v rfl (opv_not rfl) ?_
        cases h
        refine SO.v rfl (opv_pick_f' b6 rfl rfl) ?_
        refine SO.b1 ?_
        refine SO.b1 ?_
        exact hk2.fitc (m := 6) rfl (rfl) rfl
    clear hc8
    replace h := hgk
    refine SO.v rfl (opv_move rfl) ?_
    obtain ⟨c12, hc13, hgk⟩ := opt_bind h
    refine SO.cut 6 39 (.bool c12) [Box b1 [.int .i64 a0.Kind, .int .i64 a0.Rights, .int .i64 a0.Obj, .int .i64 a0.Badge, .int .i64 a0.Guard, .int .i64 a0.Bits], F] (fun l2 hk2 => ?_) ?_
    · clear hgk
      replace h := hc13
      rcases bool_or c7 with b11 | b11
      · replace h := cond_t b11 h
        refine SO.passF rfl rfl rfl b11 rfl rfl ?_
        refine SO.passF rfl rfl rfl b11 rfl rfl ?_
        refine SO.passF rfl rfl rfl b11 rfl rfl ?_
        refine SO.passF rfl rfl rfl b11 rfl rfl ?_
        refine SO.passF rfl rfl rfl b11 rfl rfl ?_
        cases h
        refine SO.v rfl (opv_pick_t' b11 rfl rfl) ?_
        refine SO.b1 ?_
        refine SO.b1 ?_
        exact hk2.fitc (m := 6) rfl (rfl) rfl
      · replace h := cond_f b11 h
        refine SO.takeT rfl rfl rfl b11 ?_
        refine SO.v rfl (opv_move rfl) ?_
        refine SO.takeT rfl rfl rfl b11 ?_
        refine SO.v rfl (opv_fieldAddr Try.underlying24 rfl Try.sizeOf3 rfl rfl) ?_
        refine SO.takeT rfl rfl rfl b11 ?_
        refine SO.load1 rfl Try.isAgg3 rfl rfl ?_
        refine SO.takeT rfl rfl rfl b11 ?_
        obtain ⟨t14, ht15, h⟩ := opt_bind h
        refine SO.call (pre := []) rfl Try.call57 rfl rfl rfl (pack_May_1.ct _ _ _ ht15) trivial ?_
        rintro _ _ ⟨rfl, rfl⟩
        refine SO.takeT rfl rfl rfl b11 ?_
        refine SO.v rfl (opv_not rfl) ?_
        cases h
        refine SO.v rfl (opv_pick_f' b11 rfl rfl) ?_
        refine SO.b1 ?_
        refine SO.b1 ?_
        exact hk2.fitc (m := 6) rfl (rfl) rfl
    clear hc13
    replace h := hgk
    refine SO.v rfl (opv_move rfl) ?_
    obtain ⟨c17, hc18, hgk⟩ := opt_bind h
    refine SO.cut 6 46 (.bool c17) [Box b1 [.int .i64 a0.Kind, .int .i64 a0.Rights, .int .i64 a0.Obj, .int .i64 a0.Badge, .int .i64 a0.Guard, .int .i64 a0.Bits], F] (fun l2 hk2 => ?_) ?_
    · clear hgk
      replace h := hc18
      rcases bool_or c12 with b16 | b16
      · replace h := cond_t b16 h
        refine SO.passF rfl rfl rfl b16 rfl rfl ?_
        refine SO.passF rfl rfl rfl b16 rfl rfl ?_
        refine SO.passF rfl rfl rfl b16 rfl rfl ?_
        refine SO.passF rfl rfl rfl b16 rfl rfl ?_
        refine SO.passF rfl rfl rfl b16 rfl rfl ?_
        cases h
        refine SO.v rfl (opv_pick_t' b16 rfl rfl) ?_
        refine SO.b1 ?_
        refine SO.b1 ?_
        exact hk2.fitc (m := 6) rfl (rfl) rfl
      · replace h := cond_f b16 h
        refine SO.takeT rfl rfl rfl b16 ?_
        refine SO.v rfl (opv_move rfl) ?_
        refine SO.takeT rfl rfl rfl b16 ?_
        refine SO.v rfl (opv_fieldAddr Try.underlying24 rfl Try.sizeOf3 rfl rfl) ?_
        refine SO.takeT rfl rfl rfl b16 ?_
        refine SO.load1 rfl Try.isAgg3 rfl rfl ?_
        refine SO.takeT rfl rfl rfl b16 ?_
        obtain ⟨t19, ht20, h⟩ := opt_bind h
        refine SO.call (pre := []) rfl Try.call57 rfl rfl rfl (pack_May_1.ct _ _ _ ht20) trivial ?_
        rintro _ _ ⟨rfl, rfl⟩
        refine SO.takeT rfl rfl rfl b16 ?_
        refine SO.v rfl (opv_not rfl) ?_
        cases h
        refine SO.v rfl (opv_pick_f' b16 rfl rfl) ?_
        refine SO.b1 ?_
        refine SO.b1 ?_
        exact hk2.fitc (m := 6) rfl (rfl) rfl
    clear hc18
    replace h := hgk
    refine SO.v rfl (opv_move rfl) ?_
    obtain ⟨c22, hc23, hgk⟩ := opt_bind h
    refine SO.cut 6 53 (.bool c22) [Box b1 [.int .i64 a0.Kind, .int .i64 a0.Rights, .int .i64 a0.Obj, .int .i64 a0.Badge, .int .i64 a0.Guard, .int .i64 a0.Bits], F] (fun l2 hk2 => ?_) ?_
    · clear hgk
      replace h := hc23
      rcases bool_or c17 with b21 | b21
      · replace h := cond_t b21 h
        refine SO.passF rfl rfl rfl b21 rfl rfl ?_
        refine SO.passF rfl rfl rfl b21 rfl rfl ?_
        refine SO.passF rfl rfl rfl b21 rfl rfl ?_
        refine SO.passF rfl rfl rfl b21 rfl rfl ?_
        refine SO.passF rfl rfl rfl b21 rfl rfl ?_
        cases h
        refine SO.v rfl (opv_pick_t' b21 rfl rfl) ?_
        refine SO.b1 ?_
        refine SO.b1 ?_
        exact hk2.fitc (m := 6) rfl (rfl) rfl
      · replace h := cond_f b21 h
        refine SO.takeT rfl rfl rfl b21 ?_
        refine SO.v rfl (opv_move rfl) ?_
        refine SO.takeT rfl rfl rfl b21 ?_
        refine SO.v rfl (opv_fieldAddr Try.underlying24 rfl Try.sizeOf3 rfl rfl) ?_
        refine SO.takeT rfl rfl rfl b21 ?_
        refine SO.load1 rfl Try.isAgg3 rfl rfl ?_
        refine SO.takeT rfl rfl rfl b21 ?_
        obtain ⟨t24, ht25, h⟩ := opt_bind h
        refine SO.call (pre := []) rfl Try.call57 rfl rfl rfl (pack_May_1.ct _ _ _ ht25) trivial ?_
        rintro _ _ ⟨rfl, rfl⟩
        refine SO.takeT rfl rfl rfl b21 ?_
        refine SO.v rfl (opv_not rfl) ?_
        cases h
        refine SO.v rfl (opv_pick_f' b21 rfl rfl) ?_
        refine SO.b1 ?_
        refine SO.b1 ?_
        exact hk2.fitc (m := 6) rfl (rfl) rfl
    clear hc23
    replace h := hgk
    refine SO.v rfl (opv_assign rfl) ?_
    refine SO.nil ?_
    refine S.to (ρ' := [(1, bp b1 0), (2, .bool false), (3, .func (.func 57) #[] #[]), (4, .bool ((a0.Kind == 3) || (a0.Kind == 4))), (20, .bool c22)]) ⟨rfl, rfl, rfl, rfl, rfl, trivial⟩ ?_
    rcases bool_or c22 with b26 | b26
    · replace h := cond_t b26 h
      refine S.condT rfl b26 ?_
      refine S.seq ?_
      refine S.region ?_
      refine SO.v rfl (opv_assign rfl) ?_
      refine SO.nil ?_
      cases h
      refine S.drop ?_
      exact S.ret1 Try.func56 rfl rfl (fun w hs hk => hR w _ _ ⟨rfl, rfl⟩ hs hk)
    · replace h := cond_f b26 h
      refine S.condF rfl b26 ?_
      refine S.seq ?_
      refine S.region ?_
      refine SO.v rfl (opv_move rfl) ?_
      refine SO.v rfl (opv_not rfl) ?_
      refine SO.v rfl (opv_move rfl) ?_
      refine SO.cut 4 61 (.bool ((!((a0.Kind == 3) || (a0.Kind == 4))) && (a0.Badge != 0))) [Box b1 [.int .i64 a0.Kind, .int .i64 a0.Rights, .int .i64 a0.Obj, .int .i64 a0.Badge, .int .i64 a0.Guard, .int .i64 a0.Bits], F] (fun l2 hk2 => ?_) ?_
      · rcases bool_or (!((a0.Kind == 3) || (a0.Kind == 4))) with b27 | b27
        · refine SO.takeT rfl rfl rfl b27 ?_
          refine SO.v rfl (opv_fieldAddr Try.underlying24 rfl Try.sizeOf3 rfl rfl) ?_
          refine SO.takeT rfl rfl rfl b27 ?_
          refine SO.load1 rfl Try.isAgg3 rfl rfl ?_
          refine SO.takeT rfl rfl rfl b27 ?_
          refine SO.v rfl (opv_neq rfl rfl) ?_
          refine SO.v rfl (opv_pick_t' b27 rfl rfl) ?_
          refine SO.b1 ?_
          refine SO.b1 ?_
          exact hk2.fitc (m := 4) rfl (and_t b27) rfl
        · refine SO.passF rfl rfl rfl b27 rfl rfl ?_
          refine SO.passF rfl rfl rfl b27 rfl rfl ?_
          refine SO.passF rfl rfl rfl b27 rfl rfl ?_
          refine SO.v rfl (opv_pick_f' b27 rfl rfl) ?_
          refine SO.b1 ?_
          refine SO.b1 ?_
          exact hk2.fitc (m := 4) rfl (and_f b27) rfl
      refine SO.v rfl (opv_move rfl) ?_
      refine SO.cut 14 76 (.bool (((!((a0.Kind == 3) || (a0.Kind == 4))) && (a0.Badge != 0)) || ((a0.Kind != 2) && ((a0.Bits != 0) || (a0.Guard != 0))))) [Box b1 [.int .i64 a0.Kind, .int .i64 a0.Rights, .int .i64 a0.Obj, .int .i64 a0.Badge, .int .i64 a0.Guard, .int .i64 a0.Bits], F] (fun l2 hk2 => ?_) ?_
      · rcases bool_or ((!((a0.Kind == 3) || (a0.Kind == 4))) && (a0.Badge != 0)) with b28 | b28
        · refine SO.passF rfl rfl rfl b28 rfl rfl ?_
          refine SO.passF rfl rfl rfl b28 rfl rfl ?_
          refine SO.passF rfl rfl rfl b28 rfl rfl ?_
          refine SO.passF rfl rfl rfl b28 rfl rfl ?_
          refine SO.pass_undef rfl rfl rfl rfl ?_
          refine SO.pass_undef rfl rfl rfl rfl ?_
          refine SO.pass_undef rfl rfl rfl rfl ?_
          refine SO.pass_undef rfl rfl rfl rfl ?_
          refine SO.pass_undef rfl rfl rfl rfl ?_
          refine SO.pass_undef rfl rfl rfl rfl ?_
          refine SO.pass_undef rfl rfl rfl rfl ?_
          refine SO.pass_undef rfl rfl rfl rfl ?_
          refine SO.passF rfl rfl rfl b28 rfl rfl ?_
          refine SO.v rfl (opv_pick_t' b28 rfl rfl) ?_
          refine SO.b1 ?_
          refine SO.b1 ?_
          exact hk2.fitc (m := 14) rfl (or_t b28) rfl
        · refine SO.takeT rfl rfl rfl b28 ?_
          refine SO.v rfl (opv_fieldAddr Try.underlying24 rfl Try.sizeOf3 rfl rfl) ?_
          refine SO.takeT rfl rfl rfl b28 ?_
          refine SO.load1 rfl Try.isAgg3 rfl rfl ?_
          refine SO.takeT rfl rfl rfl b28 ?_
          refine SO.v rfl (opv_neq rfl rfl) ?_
          refine SO.takeT rfl rfl rfl b28 ?_
          refine SO.v rfl (opv_move rfl) ?_
          refine SO.cut 9 75 (.bool ((a0.Kind != 2) && ((a0.Bits != 0) || (a0.Guard != 0)))) [Box b1 [.int .i64 a0.Kind, .int .i64 a0.Rights, .int .i64 a0.Obj, .int .i64 a0.Badge, .int .i64 a0.Guard, .int .i64 a0.Bits], F] (fun l2 hk2 => ?_) ?_
          · rcases bool_or (a0.Kind != 2) with b29 | b29
            · refine SO.takeT rfl rfl rfl b29 ?_
              refine SO.v rfl (opv_fieldAddr Try.underlying24 rfl Try.sizeOf3 rfl rfl) ?_
              refine SO.takeT rfl rfl rfl b29 ?_
              refine SO.load1 rfl Try.isAgg3 rfl rfl ?_
              refine SO.takeT rfl rfl rfl b29 ?_
              refine SO.v rfl (opv_neq rfl rfl) ?_
              refine SO.takeT rfl rfl rfl b29 ?_
              refine SO.v rfl (opv_move rfl) ?_
              refine SO.cut 4 74 (.bool ((a0.Bits != 0) || (a0.Guard != 0))) [Box b1 [.int .i64 a0.Kind, .int .i64 a0.Rights, .int .i64 a0.Obj, .int .i64 a0.Badge, .int .i64 a0.Guard, .int .i64 a0.Bits], F] (fun l2 hk2 => ?_) ?_
              · rcases bool_or (a0.Bits != 0) with b30 | b30
                · refine SO.passF rfl rfl rfl b30 rfl rfl ?_
                  refine SO.passF rfl rfl rfl b30 rfl rfl ?_
                  refine SO.passF rfl rfl rfl b30 rfl rfl ?_
                  refine SO.takeT rfl rfl rfl b29 ?_
                  refine SO.v rfl (opv_pick_t' b30 rfl rfl) ?_
                  refine SO.b1 ?_
                  refine SO.b1 ?_
                  exact hk2.fitc (m := 4) rfl (or_t b30) rfl
                · refine SO.takeT rfl rfl rfl b30 ?_
                  refine SO.v rfl (opv_fieldAddr Try.underlying24 rfl Try.sizeOf3 rfl rfl) ?_
                  refine SO.takeT rfl rfl rfl b30 ?_
                  refine SO.load1 rfl Try.isAgg3 rfl rfl ?_
                  refine SO.takeT rfl rfl rfl b30 ?_
                  refine SO.v rfl (opv_neq rfl rfl) ?_
                  refine SO.takeT rfl rfl rfl b29 ?_
                  refine SO.v rfl (opv_pick_f' b30 rfl rfl) ?_
                  refine SO.b1 ?_
                  refine SO.b1 ?_
                  exact hk2.fitc (m := 4) rfl (or_f b30) rfl
              refine SO.takeT rfl rfl rfl b28 ?_
              refine SO.v rfl (opv_pick_t' b29 rfl rfl) ?_
              refine SO.b1 ?_
              refine SO.b1 ?_
              exact hk2.fitc (m := 6) rfl (and_t b29) rfl
            · refine SO.passF rfl rfl rfl b29 rfl rfl ?_
              refine SO.passF rfl rfl rfl b29 rfl rfl ?_
              refine SO.passF rfl rfl rfl b29 rfl rfl ?_
              refine SO.passF rfl rfl rfl b29 rfl rfl ?_
              refine SO.pass_undef rfl rfl rfl rfl ?_
              refine SO.pass_undef rfl rfl rfl rfl ?_
              refine SO.pass_undef rfl rfl rfl rfl ?_
              refine SO.passF rfl rfl rfl b29 rfl rfl ?_
              refine SO.takeT rfl rfl rfl b28 ?_
              refine SO.v rfl (opv_pick_f' b29 rfl rfl) ?_
              refine SO.b1 ?_
              refine SO.b1 ?_
              exact hk2.fitc (m := 9) rfl (and_f b29) rfl
          refine SO.v rfl (opv_pick_f' b28 rfl rfl) ?_
          refine SO.b1 ?_
          refine SO.b1 ?_
          exact hk2.fitc (m := 6) rfl (or_f b28) rfl
      refine SO.v rfl (opv_assign rfl) ?_
      refine SO.nil ?_
      refine S.to (ρ' := [(1, bp b1 0), (2, .bool false), (3, .func (.func 57) #[] #[]), (54, .bool (((!((a0.Kind == 3) || (a0.Kind == 4))) && (a0.Badge != 0)) || ((a0.Kind != 2) && ((a0.Bits != 0) || (a0.Guard != 0)))))]) ⟨rfl, rfl, rfl, rfl, trivial⟩ ?_
      rcases bool_or (((!((a0.Kind == 3) || (a0.Kind == 4))) && (a0.Badge != 0)) || ((a0.Kind != 2) && ((a0.Bits != 0) || (a0.Guard != 0)))) with b31 | b31
      · replace h := cond_t b31 h
        refine S.condT rfl b31 ?_
        refine S.seq ?_
        refine S.region ?_
        refine SO.v rfl (opv_assign rfl) ?_
        refine SO.nil ?_
        cases h
        refine S.drop ?_
        exact S.ret1 Try.func56 rfl rfl (fun w hs hk => hR w _ _ ⟨rfl, rfl⟩ hs hk)
      · replace h := cond_f b31 h
        refine S.condF rfl b31 ?_
        refine S.skip ?_
        refine S.inBlock ?_
        refine S.seq ?_
        obtain ⟨_, hc32, h⟩ := opt_bind h
        obtain ⟨t33, ht34, h⟩ := opt_bind h
        refine S.draw' (Z := fun Q => ∀ (_ : Unit) (_ : Unit) (_ : Unit), Q [(2, .bool t33)] [Box b1 [.int .i64 a0.Kind, .int .i64 a0.Rights, .int .i64 a0.Obj, .int .i64 a0.Badge, .int .i64 a0.Guard, .int .i64 a0.Bits], F]) (T := [tS 3 (.func (.func 57) #[] #[]), tS 1 (bp b1 0), tR (Box b1 [.int .i64 a0.Kind, .int .i64 a0.Rights, .int .i64 a0.Obj, .int .i64 a0.Badge, .int .i64 a0.Guard, .int .i64 a0.Bits]), tR (F), tS 77 (.func (.func 57) #[] #[]), tS 78 (bp b1 4), tS 79 (.int .i64 a0.Guard), tS 80 (bp b1 5), tS 81 (.int .i64 a0.Bits), tS 82 (.int .i64 (bshl .i64 1 a0.Bits)), tS 83 (.int .i64 (w64 ((bshl .i64 1 a0.Bits) - 1))), tS 84 (.bool t33), tS 2 (.bool t33)]) (D := [⟨[0], [], [4]⟩, ⟨[1], [], [5]⟩, ⟨[5, 2], [], [6]⟩, ⟨[1], [], [7]⟩, ⟨[7, 2], [], [8]⟩, ⟨[8], [], [9]⟩, ⟨[9], [], [10]⟩, ⟨[4, 6, 10], [], [11]⟩, ⟨[11], [], [12]⟩]) (ini := [0, 1, 2, 3]) (fin := [12, 2, 3]) (bf := [[], [], [1], [], [3], [3, 4], [3, 4, 5], [0, 1, 2, 3, 4, 5, 6], [0, 1, 2, 3, 4, 5, 6, 7]]) (by kernel_rfl) (by kernel_rfl) (fun x w h1 h2 => (.cons () (.cons () (.cons () (.cons () (.nil ⟨EnvAll.of h1 ⟨rfl, rfl, trivial⟩, h2⟩)))))) (fun Q => by kernel_rfl) ⟨?_, ?_, ?_, ?_, ?_, ?_, ?_, ?_, ?_, trivial⟩ ?_
        · rintro Fr _
          refine SO.v rfl (opv_move rfl) ?_
          exact SO.nilZ fun a w h1 h2 h3 h4 h5 => PZ.of h1 h3 h5 (.cons () (.cons () (.nil ⟨EnvAll.of h2 ⟨rfl, rfl, trivial⟩, h4⟩)))
        · rintro Fr _
          refine SO.v rfl (opv_fieldAddr Try.underlying24 rfl Try.sizeOf3 rfl rfl) ?_
          exact SO.nilZ fun a w h1 h2 h3 h4 h5 => PZ.of h1 h3 h5 (.cons () (.cons () (.nil ⟨EnvAll.of h2 ⟨rfl, rfl, trivial⟩, h4⟩)))
        · rintro Fr _ _
          refine SO.load1 rfl Try.isAgg3 rfl rfl ?_
          exact SO.nilZ fun a w h1 h2 h3 h4 h5 => PZ.of h1 h3 h5 (.cons () (.cons () (.cons () (.nil ⟨EnvAll.of h2 ⟨rfl, rfl, trivial⟩, h4⟩))))
        · rintro Fr _
          refine SO.v rfl (opv_fieldAddr Try.underlying24 rfl Try.sizeOf3 rfl rfl) ?_
          exact SO.nilZ fun a w h1 h2 h3 h4 h5 => PZ.of h1 h3 h5 (.cons () (.cons () (.nil ⟨EnvAll.of h2 ⟨rfl, rfl, trivial⟩, h4⟩)))
        · rintro Fr _ _
          refine SO.load1 rfl Try.isAgg3 rfl rfl ?_
          exact SO.nilZ fun a w h1 h2 h3 h4 h5 => PZ.of h1 h3 h5 (.cons () (.cons () (.cons () (.nil ⟨EnvAll.of h2 ⟨rfl, rfl, trivial⟩, h4⟩))))
        · rintro Fr _
          refine SO.v rfl (opv_shl rfl rfl (of_decide_eq_true (chk_some hc32))) ?_
          exact SO.nilZ fun a w h1 h2 h3 h4 h5 => PZ.of h1 h3 h5 (.cons () (.cons () (.nil ⟨EnvAll.of h2 ⟨rfl, rfl, trivial⟩, h4⟩)))
        · rintro Fr _
          refine SO.v rfl (opv_sub rfl rfl) ?_
          exact SO.nilZ fun a w h1 h2 h3 h4 h5 => PZ.of h1 h3 h5 (.cons () (.cons () (.nil ⟨EnvAll.of h2 ⟨rfl, rfl, trivial⟩, h4⟩)))
        · rintro Fr _ _ _
          refine SO.call (pre := []) rfl Try.call57 rfl rfl rfl (pack_May_1.ct _ _ _ ht34) trivial ?_
          rintro _ _ ⟨rfl, rfl⟩
          exact SO.nilZ fun a w h1 h2 h3 h4 h5 => PZ.of h1 h3 h5 (.cons () (.cons () (.cons () (.cons () (.nil ⟨EnvAll.of h2 ⟨rfl, rfl, rfl, rfl, trivial⟩, h4⟩)))))
        · rintro Fr _
          refine SO.v rfl (opv_assign rfl) ?_
          exact SO.nilZ fun a w h1 h2 h3 h4 h5 => PZ.of h1 h3 h5 (.cons () (.cons () (.nil ⟨EnvAll.of h2 ⟨rfl, rfl, trivial⟩, h4⟩)))
        rintro _ _ _
        refine S.to (ρ' := [(2, .bool t33)]) ⟨rfl, trivial⟩ ?_
        cases h
        refine S.drop ?_
        exact S.ret1 Try.func56 rfl rfl (fun w hs hk => hR w _ _ ⟨rfl, rfl⟩ hs hk)
end Go.Proofs
namespace Go.Proofs
open Go.Sl Go.RowKit
/-! 55 padstone/pack.widths -/
def pack_widths.f : Option ((List Int)) :=
  some ([4, 3, 5, 16, 4, 8])
set_option maxHeartbeats 8000000 in
set_option maxRecDepth 100000 in
theorem pack_widths.ct (r0 : List Int) (h : pack_widths.f  = some r0) :
    Ct Try.prog 55 [] (fun _ => True) [] (fun u H' => ∃ v_r0, u = v_r0 ∧ H' = [Own 3 (ekI .i64) v_r0 r0]) := by
  unfold pack_widths.f at h
  refine Ct.intro (n := 2) Try.func55 rfl rfl rfl ?_
  intro R w0 F hF hR
  refine S.seq ?_
  refine S.region ?_
  refine SO.v rfl (opv_assign rfl) ?_
  refine SO.nil ?_
  refine S.seq ?_
  refine S.region ?_
  refine SO.buildSlice (K := ekI .i64) (xs := [4, 3, 5, 16, 4, 8]) (cs := [.int .i64 4, .int .i64 3, .int .i64 5, .int .i64 16, .int .i64 4, .int .i64 8]) rfl Try.underlying35 Try.sizeOf3 Try.zeroValue3 rfl rfl rfl (by kernel_rfl) rfl rfl rfl (fun v1 hr2 => ?_)
  refine SO.v rfl (opv_assign rfl) ?_
  refine SO.nil ?_
  cases h
  refine S.b1 ?_
  refine S.b1 ?_
  exact S.ret1 Try.func55 rfl rfl (fun w hs hk => hR w _ _ ⟨v1, rfl, rfl⟩ hs hk)
end Go.Proofs
namespace Go.Proofs
open Go.Sl Go.RowKit
/-! 40 padstone/pack.Get -/
def pack_Get.l1 (t2 : List Int) : Nat → (Int × Int × (List Int)) → Option (((List Int) × Int))
  | 0, _ => none
  | k + 1, (x12_1, x5_1, x4_1) => bif decide (x12_1 < (t2.length : Int)) then ((at_ t2 x12_1).bind fun x8 => (chk (decide (0 ≤ x8))).bind fun _ => (app x4_1 ([w64 (band .u64 x5_1 (wu64 ((bshl .u64 1 x8) - 1)))])).bind fun zs13 => (chk (decide (0 ≤ x8))).bind fun _ => pack_Get.l1 t2 k (w64 (x12_1 + 1), bshr .u64 x5_1 x8, zs13)) else (some (x4_1, x5_1))
def pack_Get.f (k : Nat) (a0 : Int) : Option ((api_Cap × (Option Int))) :=
  (pack_widths.f ).bind fun t2 => (pack_Get.l1 t2 k (0, a0, [])).bind fun (j4_e1, j5_e1) => (at_ j4_e1 0).bind fun x19 => (at_ j4_e1 1).bind fun x21 => (at_ j4_e1 2).bind fun x23 => (at_ j4_e1 3).bind fun x25 => (at_ j4_e1 4).bind fun x27 => (at_ j4_e1 5).bind fun x29 => (bif j5_e1 != 0 then (some true) else ((pack_May.f (⟨x19, x21, x23, x25, x29, x27⟩ : api_Cap)).bind fun t35 => some (!t35))).bind fun c33 => bif c33 then (some ((⟨0, 0, 0, 0, 0, 0⟩ : api_Cap), (some 1))) else (some ((⟨x19, x21, x23, x25, x29, x27⟩ : api_Cap), none))
set_option maxHeartbeats 8000000 in
set_option maxRecDepth 100000 in
theorem pack_Get.ct (k : Nat) (a0 : Int) (r0 : api_Cap) (r1 : Option Int) (h : pack_Get.f k a0 = some (r0, r1)) :
    Ct Try.prog 40 [.int .u64 a0] (fun _ => True) [] (fun u H' => u = .tuple #[.agg #[.int .i64 r0.Kind, .int .i64 r0.Rights, .int .i64 r0.Obj, .int .i64 r0.Badge, .int .i64 r0.Guard, .int .i64 r0.Bits], errV 61 r1] ∧ H' = []) := by
  unfold pack_Get.f at h
  refine Ct.intro (n := 58) Try.func40 rfl rfl rfl ?_
  intro R w0 F hF hR
  refine S.seq ?_
  refine S.region ?_
  refine SO.alloc rfl Try.zeroValue24 rfl (fun b1 => ?_)
  refine SO.v rfl (opv_assign rfl) ?_
  refine SO.nil ?_
  refine S.seq ?_
  refine S.region ?_
  refine SO.v rfl (opv_assign rfl) ?_
  refine SO.nil ?_
  refine S.seq ?_
  refine S.region ?_
  refine SO.v rfl (opv_move rfl) ?_
  refine SO.v rfl (opv_assign rfl) ?_
  refine SO.nil ?_
  refine S.seq ?_
  refine S.seq ?_
  refine S.region ?_
  obtain ⟨t2, ht3, h⟩ := opt_bind h
  refine SO.call (pre := []) rfl Try.call55 rfl rfl rfl (pack_widths.ct _ ht3) trivial ?_
  rintro v4 _ ⟨_, rfl, rfl⟩
  refine SO.rd fun hr5 => ?_
  refine SO.v rfl (opv_lenR rfl Try.underlying35 hr5 rfl) ?_
  refine SO.v rfl (opv_move rfl) ?_
  refine SO.nil ?_
  obtain ⟨⟨j4_e1, j5_e1⟩, hl1, h⟩ := opt_bind h
  refine S.newOwn 3 (ekI .i64) ?_
  refine S.b3 ?_
  refine S.b3 ?_
  refine S.b3 ?_
  refine S.b3 ?_
  refine S.to (ρ' := [(12, .int .i64 0), (11, .int .i64 (t2.length : Int)), (10, v4), (5, .int .u64 a0), (4, .slice none 0 0), (3, errV 61 none), (2, bp b1 0)]) ⟨rfl, rfl, rfl, rfl, rfl, rfl, rfl, trivial⟩ ?_
  refine S.forloop (X := (Int × Int × (List Int)) × Value) (O := ((List Int) × Int)) (fun m x => pack_Get.l1 t2 m x.1) (fun x => match x with | ((x12_1, x5_1, x4_1), v4_1) => [(12, .int .i64 x12_1), (11, .int .i64 (t2.length : Int)), (10, v4), (5, .int .u64 x5_1), (4, v4_1), (3, errV 61 none), (2, bp b1 0)]) (fun x => match x with | ((x12_1, x5_1, x4_1), v4_1) => [Own 3 (ekI .i64) v4_1 x4_1, Own 3 (ekI .i64) v4 t2, Box b1 [.int .i64 0, .int .i64 0, .int .i64 0, .int .i64 0, .int .i64 0, .int .i64 0], F]) (fun Sk => (fun x => match x with | (j4_e1, j5_e1) => ∀ v4_e1 : Value, Sk [(2, bp b1 0), (3, errV 61 none), (4, v4_e1), (5, .int .u64 j5_e1)] [Own 3 (ekI .i64) v4_e1 j4_e1, Own 3 (ekI .i64) v4 t2, Box b1 [.int .i64 0, .int .i64 0, .int .i64 0, .int .i64 0, .int .i64 0, .int .i64 0], F])) (fun _ => rfl) ?_ (m := k) (x := ((0, a0, []), .slice none 0 0)) hl1 ?_
  · clear h hl1
    intro k x o_1 h hK1 ih1
    obtain ⟨⟨x12_1, x5_1, x4_1⟩, v4_1⟩ := x
    replace h : pack_Get.l1 t2 (k + 1) (x12_1, x5_1, x4_1) = some o_1 := h
    first | rw [pack_Get.l1] at h | unfold pack_Get.l1 at h
    refine S.rd fun hr6 => ?_
    refine S.seq ?_
    refine S.region ?_
    refine SO.v rfl (opv_lss rfl rfl) ?_
    refine SO.nil ?_
    refine S.seq ?_
    rcases bool_or (decide (x12_1 < (t2.length : Int))) with b7 | b7
    · replace h := cond_t b7 h
      refine S.condT rfl b7 ?_
      refine S.skip ?_
      refine S.seq ?_
      refine S.block ?_
      refine S.seq ?_
      refine S.region ?_
      obtain ⟨x8, hx9, h⟩ := opt_bind h
      refine SO.v rfl (opv_idx Try.underlying35 Try.sizeOf3 hr5 rfl rfl hx9) ?_
      refine SO.loadI1 (j := 0) rfl Try.isAgg3 (Rd.tail (Rd.head hr5)) hx9 rfl rfl rfl rfl ?_
      refine SO.v rfl (opv_assign rfl) ?_
      refine SO.nil ?_
      refine S.seq ?_
      refine S.region ?_
      refine SO.v rfl (opv_move rfl) ?_
      refine SO.v rfl (opv_move rfl) ?_
      refine SO.v rfl (opv_move rfl) ?_
      obtain ⟨_, hc10, h⟩ := opt_bind h
      refine SO.v rfl (opv_shl rfl rfl (of_decide_eq_true (chk_some hc10))) ?_
      refine SO.v rfl (opv_sub rfl rfl) ?_
      refine SO.v rfl (opv_and rfl rfl) ?_
      refine SO.v rfl (opv_conv Try.underlying72 Try.underlying3 rfl) ?_
      refine SO.buildSlice (K := ekI .i64) (xs := [w64 (band .u64 x5_1 (wu64 ((bshl .u64 1 x8) - 1)))]) (cs := [.int .i64 (w64 (band .u64 x5_1 (wu64 ((bshl .u64 1 x8) - 1))))]) rfl Try.underlying35 Try.sizeOf3 Try.zeroValue3 rfl rfl rfl (by kernel_rfl) rfl rfl rfl (fun v11 hr12 => ?_)
      obtain ⟨zs13, hz14, h⟩ := opt_bind h
      refine SO.b1 ?_
      refine SO.append rfl Try.underlying35 inf3 rfl rfl rfl (by decide) rfl rfl rfl (Rd.head hr12) hz14 (fun v15 => ?_)
      refine SO.rd fun hr16 => ?_
      refine SO.v rfl (opv_assign rfl) ?_
      refine SO.nil ?_
      refine S.region ?_
      refine SO.v rfl (opv_move rfl) ?_
      refine SO.v rfl (opv_move rfl) ?_
      obtain ⟨_, hc17, h⟩ := opt_bind h
      refine SO.v rfl (opv_shr rfl rfl (of_decide_eq_true (chk_some hc17))) ?_
      refine SO.v rfl (opv_assign rfl) ?_
      refine SO.nil ?_
      refine S.inBlock ?_
      refine S.region ?_
      refine SO.v rfl (opv_add rfl rfl) ?_
      refine SO.v rfl (opv_move rfl) ?_
      refine SO.nil ?_
      refine S.b1 ?_
      refine S.drop ?_
      refine S.b3 ?_
      refine S.b3 ?_
      refine S.b3 ?_
      refine S.b3 ?_
      refine S.to ?_ (ih1 ((w64 (x12_1 + 1), bshr .u64 x5_1 x8, zs13), v15) h)
      exact ⟨rfl, rfl, rfl, rfl, rfl, rfl, rfl, trivial⟩
    · replace h := cond_f b7 h
      refine S.condF rfl b7 ?_
      refine S.exit rfl ?_
      cases h
      refine S.b3 ?_
      refine S.b3 ?_
      refine S.b3 ?_
      refine S.b3 ?_
      refine S.to ?_ (hK1 v4_1)
      exact ⟨rfl, rfl, rfl, rfl, trivial⟩
  rintro v4_e1
  refine S.rd fun hr18 => ?_
  refine S.seq ?_
  obtain ⟨x19, hx20, h⟩ := opt_bind h
  obtain ⟨x21, hx22, h⟩ := opt_bind h
  obtain ⟨x23, hx24, h⟩ := opt_bind h
  obtain ⟨x25, hx26, h⟩ := opt_bind h
  obtain ⟨x27, hx28, h⟩ := opt_bind h
  obtain ⟨x29, hx30, h⟩ := opt_bind h
  refine S.draw' (Z := fun Q => ∀ (_ : Unit) (b31 : Nat) (_ : Unit) (_ : Unit) (_ : Unit) (_ : Unit), Q [(2, bp b1 0), (3, errV 61 none), (5, .int .u64 j5_e1), (8, bp b31 0)] [Box b31 [.int .i64 x19, .int .i64 x21, .int .i64 x23, .int .i64 x25, .int .i64 x29, .int .i64 x27], Own 3 (ekI .i64) v4_e1 j4_e1, Own 3 (ekI .i64) v4 t2, Box b1 [.int .i64 0, .int .i64 0, .int .i64 0, .int .i64 0, .int .i64 0, .int .i64 0], F]) (T := [tS 4 (v4_e1), tE [(2, bp b1 0), (3, errV 61 none), (5, .int .u64 j5_e1)], tR (Own 3 (ekI .i64) v4_e1 j4_e1), tR (Own 3 (ekI .i64) v4 t2), tR (Box b1 [.int .i64 0, .int .i64 0, .int .i64 0, .int .i64 0, .int .i64 0, .int .i64 0]), tR (F), tS 29 (v4_e1), tS 30 (idxp v4_e1 ((0 : Int).toNat * (ekI .i64).sz)), tS 31 (.int .i64 x19), tS 32 (v4_e1), tS 33 (idxp v4_e1 ((1 : Int).toNat * (ekI .i64).sz)), tS 34 (.int .i64 x21), tS 35 (v4_e1), tS 36 (idxp v4_e1 ((2 : Int).toNat * (ekI .i64).sz)), tS 37 (.int .i64 x23), tS 38 (v4_e1), tS 39 (idxp v4_e1 ((3 : Int).toNat * (ekI .i64).sz)), tS 40 (.int .i64 x25), tS 41 (v4_e1), tS 42 (idxp v4_e1 ((4 : Int).toNat * (ekI .i64).sz)), tS 43 (.int .i64 x27), tS 44 (v4_e1), tS 45 (idxp v4_e1 ((5 : Int).toNat * (ekI .i64).sz)), tS 46 (.int .i64 x29), tS 47 (.agg #[.int .i64 x19, .int .i64 x21, .int .i64 x23, .int .i64 x25, .int .i64 x29, .int .i64 x27]), ⟨Nat, [8], (fun b31 => [(8, bp b31 0)]), (fun b31 => [Box b31 [.int .i64 0, .int .i64 0, .int .i64 0, .int .i64 0, .int .i64 0, .int .i64 0]]), fun _ => rfl⟩, ⟨Nat, [8], (fun b31 => [(8, bp b31 0)]), (fun b31 => [Box b31 [.int .i64 x19, .int .i64 x21, .int .i64 x23, .int .i64 x25, .int .i64 x29, .int .i64 x27]]), fun _ => rfl⟩]) (D := [⟨[0], [], [6]⟩, ⟨[6, 2], [], [7]⟩, ⟨[7, 2], [], [8]⟩, ⟨[0], [], [9]⟩, ⟨[9, 2], [], [10]⟩, ⟨[10, 2], [], [11]⟩, ⟨[0], [], [12]⟩, ⟨[12, 2], [], [13]⟩, ⟨[13, 2], [], [14]⟩, ⟨[0], [], [15]⟩, ⟨[15, 2], [], [16]⟩, ⟨[16, 2], [], [17]⟩, ⟨[0], [], [18]⟩, ⟨[18, 2], [], [19]⟩, ⟨[19, 2], [], [20]⟩, ⟨[0], [], [21]⟩, ⟨[21, 2], [], [22]⟩, ⟨[22, 2], [], [23]⟩, ⟨[8, 11, 14, 17, 20, 23], [], [24]⟩, ⟨[], [], [25]⟩, ⟨[24], [25], [26]⟩]) (ini := [0, 1, 2, 3, 4, 5]) (fin := [1, 26, 2, 3, 4, 5]) (bf := [[], [0], [0, 1], [], [3], [3, 4], [], [6], [6, 7], [], [9], [9, 10], [], [12], [12, 13], [], [15], [15, 16], [0, 1, 2, 3, 4, 5, 6, 7, 8, 9, 10, 11, 12, 13, 14, 15, 16, 17], [], [0, 1, 2, 3, 4, 5, 6, 7, 8, 9, 10, 11, 12, 13, 14, 15, 16, 17, 18, 19]]) (by kernel_rfl) (by kernel_rfl) (fun x w h1 h2 => (.cons () (.cons () (.cons () (.cons () (.cons () (.cons () (.nil ⟨EnvAll.of h1 ⟨rfl, rfl, rfl, rfl, trivial⟩, h2⟩)))))))) (fun Q => by kernel_rfl) ⟨?_, ?_, ?_, ?_, ?_, ?_, ?_, ?_, ?_, ?_, ?_, ?_, ?_, ?_, ?_, ?_, ?_, ?_, ?_, ?_, ?_, trivial⟩ ?_
  · rintro Fr _
    refine SO.v rfl (opv_move rfl) ?_
    exact SO.nilZ fun a w h1 h2 h3 h4 h5 => PZ.of h1 h3 h5 (.cons () (.cons () (.nil ⟨EnvAll.of h2 ⟨rfl, rfl, trivial⟩, h4⟩)))
  · rintro Fr _ _
    refine SO.v rfl (opv_idx Try.underlying35 Try.sizeOf3 hr18 rfl rfl hx20) ?_
    exact SO.nilZ fun a w h1 h2 h3 h4 h5 => PZ.of h1 h3 h5 (.cons () (.cons () (.cons () (.nil ⟨EnvAll.of h2 ⟨rfl, rfl, trivial⟩, h4⟩))))
  · rintro Fr _ _
    refine SO.loadI1 (j := 0) rfl Try.isAgg3 (Rd.head hr18) hx20 rfl rfl rfl rfl ?_
    exact SO.nilZ fun a w h1 h2 h3 h4 h5 => PZ.of h1 h3 h5 (.cons () (.cons () (.cons () (.nil ⟨EnvAll.of h2 ⟨rfl, rfl, trivial⟩, h4⟩))))
  · rintro Fr _
    refine SO.v rfl (opv_move rfl) ?_
    exact SO.nilZ fun a w h1 h2 h3 h4 h5 => PZ.of h1 h3 h5 (.cons () (.cons () (.nil ⟨EnvAll.of h2 ⟨rfl, rfl, trivial⟩, h4⟩)))
  · rintro Fr _ _
    refine SO.v rfl (opv_idx Try.underlying35 Try.sizeOf3 hr18 rfl rfl hx22) ?_
    exact SO.nilZ fun a w h1 h2 h3 h4 h5 => PZ.of h1 h3 h5 (.cons () (.cons () (.cons () (.nil ⟨EnvAll.of h2 ⟨rfl, rfl, trivial⟩, h4⟩))))
  · rintro Fr _ _
    refine SO.loadI1 (j := 0) rfl Try.isAgg3 (Rd.head hr18) hx22 rfl rfl rfl rfl ?_
    exact SO.nilZ fun a w h1 h2 h3 h4 h5 => PZ.of h1 h3 h5 (.cons () (.cons () (.cons () (.nil ⟨EnvAll.of h2 ⟨rfl, rfl, trivial⟩, h4⟩))))
  · rintro Fr _
    refine SO.v rfl (opv_move rfl) ?_
    exact SO.nilZ fun a w h1 h2 h3 h4 h5 => PZ.of h1 h3 h5 (.cons () (.cons () (.nil ⟨EnvAll.of h2 ⟨rfl, rfl, trivial⟩, h4⟩)))
  · rintro Fr _ _
    refine SO.v rfl (opv_idx Try.underlying35 Try.sizeOf3 hr18 rfl rfl hx24) ?_
    exact SO.nilZ fun a w h1 h2 h3 h4 h5 => PZ.of h1 h3 h5 (.cons () (.cons () (.cons () (.nil ⟨EnvAll.of h2 ⟨rfl, rfl, trivial⟩, h4⟩))))
  · rintro Fr _ _
    refine SO.loadI1 (j := 0) rfl Try.isAgg3 (Rd.head hr18) hx24 rfl rfl rfl rfl ?_
    exact SO.nilZ fun a w h1 h2 h3 h4 h5 => PZ.of h1 h3 h5 (.cons () (.cons () (.cons () (.nil ⟨EnvAll.of h2 ⟨rfl, rfl, trivial⟩, h4⟩))))
  · rintro Fr _
    refine SO.v rfl (opv_move rfl) ?_
    exact SO.nilZ fun a w h1 h2 h3 h4 h5 => PZ.of h1 h3 h5 (.cons () (.cons () (.nil ⟨EnvAll.of h2 ⟨rfl, rfl, trivial⟩, h4⟩)))
  · rintro Fr _ _
    refine SO.v rfl (opv_idx Try.underlying35 Try.sizeOf3 hr18 rfl rfl hx26) ?_
    exact SO.nilZ fun a w h1 h2 h3 h4 h5 => PZ.of h1 h3 h5 (.cons () (.cons () (.cons () (.nil ⟨EnvAll.of h2 ⟨rfl, rfl, trivial⟩, h4⟩))))
  · rintro Fr _ _
    refine SO.loadI1 (j := 0) rfl Try.isAgg3 (Rd.head hr18) hx26 rfl rfl rfl rfl ?_
    exact SO.nilZ fun a w h1 h2 h3 h4 h5 => PZ.of h1 h3 h5 (.cons () (.cons () (.cons () (.nil ⟨EnvAll.of h2 ⟨rfl, rfl, trivial⟩, h4⟩))))
  · rintro Fr _
    refine SO.v rfl (opv_move rfl) ?_
    exact SO.nilZ fun a w h1 h2 h3 h4 h5 => PZ.of h1 h3 h5 (.cons () (.cons () (.nil ⟨EnvAll.of h2 ⟨rfl, rfl, trivial⟩, h4⟩)))
  · rintro Fr _ _
    refine SO.v rfl (opv_idx Try.underlying35 Try.sizeOf3 hr18 rfl rfl hx28) ?_
    exact SO.nilZ fun a w h1 h2 h3 h4 h5 => PZ.of h1 h3 h5 (.cons () (.cons () (.cons () (.nil ⟨EnvAll.of h2 ⟨rfl, rfl, trivial⟩, h4⟩))))
  · rintro Fr _ _
    refine SO.loadI1 (j := 0) rfl Try.isAgg3 (Rd.head hr18) hx28 rfl rfl rfl rfl ?_
    exact SO.nilZ fun a w h1 h2 h3 h4 h5 => PZ.of h1 h3 h5 (.cons () (.cons () (.cons () (.nil ⟨EnvAll.of h2 ⟨rfl, rfl, trivial⟩, h4⟩))))
  · rintro Fr _
    refine SO.v rfl (opv_move rfl) ?_
    exact SO.nilZ fun a w h1 h2 h3 h4 h5 => PZ.of h1 h3 h5 (.cons () (.cons () (.nil ⟨EnvAll.of h2 ⟨rfl, rfl, trivial⟩, h4⟩)))
  · rintro Fr _ _
    refine SO.v rfl (opv_idx Try.underlying35 Try.sizeOf3 hr18 rfl rfl hx30) ?_
    exact SO.nilZ fun a w h1 h2 h3 h4 h5 => PZ.of h1 h3 h5 (.cons () (.cons () (.cons () (.nil ⟨EnvAll.of h2 ⟨rfl, rfl, trivial⟩, h4⟩))))
  · rintro Fr _ _
    refine SO.loadI1 (j := 0) rfl Try.isAgg3 (Rd.head hr18) hx30 rfl rfl rfl rfl ?_
    exact SO.nilZ fun a w h1 h2 h3 h4 h5 => PZ.of h1 h3 h5 (.cons () (.cons () (.cons () (.nil ⟨EnvAll.of h2 ⟨rfl, rfl, trivial⟩, h4⟩))))
  · rintro Fr _ _ _ _ _ _
    refine SO.v rfl (opv_build (v := .agg #[.int .i64 x19, .int .i64 x21, .int .i64 x23, .int .i64 x25, .int .i64 x29, .int .i64 x27]) rfl (by intro w; kernel_rfl)) ?_
    exact SO.nilZ fun a w h1 h2 h3 h4 h5 => PZ.of h1 h3 h5 (.cons () (.cons () (.cons () (.cons () (.cons () (.cons () (.cons () (.nil ⟨EnvAll.of h2 ⟨rfl, rfl, rfl, rfl, rfl, rfl, rfl, trivial⟩, h4⟩))))))))
  · rintro Fr 
    refine SO.alloc rfl Try.zeroValue24 rfl (fun b31 => ?_)
    exact SO.nilZ fun a w h1 h2 h3 h4 h5 => PZ.of h1 h3 h5 (.cons b31 (.nil ⟨EnvAll.of h2 ⟨rfl, trivial⟩, h4⟩))
  · rintro Fr _ b31
    refine SO.storeN Try.sizeOf24 rfl rfl rfl rfl rfl rfl ?_
    exact SO.nilZ fun a w h1 h2 h3 h4 h5 => PZ.of h1 h3 h5 (.cons () (.cons b31 (.nil ⟨EnvAll.of h2 ⟨rfl, rfl, trivial⟩, h4⟩)))
  rintro _ b31 _ _ _ _
  refine S.to (ρ' := [(2, bp b1 0), (3, errV 61 none), (5, .int .u64 j5_e1), (8, bp b31 0)]) ⟨rfl, rfl, rfl, rfl, trivial⟩ ?_
  refine S.seq ?_
  refine S.seq ?_
  refine S.region ?_
  refine SO.v rfl (opv_move rfl) ?_
  refine SO.v rfl (opv_neq rfl rfl) ?_
  refine SO.v rfl (opv_move rfl) ?_
  obtain ⟨c33, hc34, hgk⟩ := opt_bind h
  refine SO.cut 4 54 (.bool c33) [Box b31 [.int .i64 x19, .int .i64 x21, .int .i64 x23, .int .i64 x25, .int .i64 x29, .int .i64 x27], Own 3 (ekI .i64) v4_e1 j4_e1, Own 3 (ekI .i64) v4 t2, Box b1 [.int .i64 0, .int .i64 0, .int .i64 0, .int .i64 0, .int .i64 0, .int .i64 0], F] (fun l2 hk2 => ?_) ?_
  · clear hgk
    replace h := hc34
    rcases bool_or (j5_e1 != 0) with b32 | b32
    · replace h := cond_t b32 h
      refine SO.passF rfl rfl rfl b32 rfl rfl ?_
      refine SO.passF rfl rfl rfl b32 rfl rfl ?_
      refine SO.passF rfl rfl rfl b32 rfl rfl ?_
      cases h
      refine SO.v rfl (opv_pick_t' b32 rfl rfl) ?_
      refine SO.b4 ?_
      refine SO.b4 ?_
      refine SO.b4 ?_
      refine SO.b4 ?_
      refine SO.b4 ?_
      exact hk2.fitc (m := 4) rfl (rfl) rfl
    · replace h := cond_f b32 h
      refine SO.takeT rfl rfl rfl b32 ?_
      refine SO.loadN rfl Try.isAgg24 Try.sizeOf24 rfl rfl rfl ?_
      refine SO.takeT rfl rfl rfl b32 ?_
      obtain ⟨t35, ht36, h⟩ := opt_bind h
      have ct37 := pack_May.ct _ _ ht36
      dsimp only at ct37
      refine SO.call (pre := []) rfl Try.call56 rfl rfl rfl ct37 trivial ?_
      rintro _ _ ⟨rfl, rfl⟩
      refine SO.takeT rfl rfl rfl b32 ?_
      refine SO.v rfl (opv_not rfl) ?_
      cases h
      refine SO.v rfl (opv_pick_f' b32 rfl rfl) ?_
      refine SO.b4 ?_
      refine SO.b4 ?_
      refine SO.b4 ?_
      refine SO.b4 ?_
      refine SO.b4 ?_
      exact hk2.fitc (m := 4) rfl (rfl) rfl
  clear hc34
  replace h := hgk
  refine SO.nil ?_
  rcases bool_or c33 with b38 | b38
  · replace h := cond_t b38 h
    refine S.condT rfl b38 ?_
    refine S.seq ?_
    refine S.region ?_
    refine SO.v rfl (opv_build (v := .agg #[.int .i64 0, .int .i64 0, .int .i64 0, .int .i64 0, .int .i64 0, .int .i64 0]) rfl (by intro w; kernel_rfl)) ?_
    refine SO.v rfl (opv_iface Try.underlying61 rfl rfl) ?_
    refine SO.b3 ?_
    refine SO.storeN Try.sizeOf24 rfl rfl rfl rfl rfl rfl ?_
    refine SO.v rfl (opv_assign rfl) ?_
    refine SO.nil ?_
    refine S.to (ρ' := [(2, bp b1 0), (3, errV 61 (some 1)), (8, bp b31 0)]) ⟨rfl, rfl, rfl, trivial⟩ ?_
    cases h
    refine S.b1 ?_
    refine S.drop ?_
    refine S.b1 ?_
    refine S.drop ?_
    refine S.b1 ?_
    refine S.drop ?_
    refine S.b1 ?_
    refine S.b1 ?_
    exact S.retC1 Try.func40 rfl rfl rfl Try.isAgg24 Try.sizeOf24 rfl rfl (fun w hs hk => hR w _ _ ⟨rfl, rfl⟩ hs.drop hk)
  · replace h := cond_f b38 h
    refine S.condF rfl b38 ?_
    refine S.skip ?_
    refine S.seq ?_
    refine S.region ?_
    refine SO.loadN rfl Try.isAgg24 Try.sizeOf24 rfl rfl rfl ?_
    refine SO.b3 ?_
    refine SO.storeN Try.sizeOf24 rfl rfl rfl rfl rfl rfl ?_
    refine SO.v rfl (opv_assign rfl) ?_
    refine SO.nil ?_
    refine S.to (ρ' := [(2, bp b1 0), (3, errV 61 none)]) ⟨rfl, rfl, trivial⟩ ?_
    cases h
    refine S.b1 ?_
    refine S.drop ?_
    refine S.b1 ?_
    refine S.drop ?_
    refine S.b1 ?_
    refine S.drop ?_
    refine S.b1 ?_
    refine S.b1 ?_
    exact S.retC1 Try.func40 rfl rfl rfl Try.isAgg24 Try.sizeOf24 rfl rfl (fun w hs hk => hR w _ _ ⟨rfl, rfl⟩ hs.drop hk)
end Go.Proofs
namespace Go.Proofs
open Go.Sl Go.RowKit
/-! 22 padstone/cspace.Cap -/
def cspace_Cap.f (k : Nat) (a1 : Int) : VM (api_Cap) :=
  (VM.opt (lay_Slot.f a1 0)).bind fun (t2, t3) => bif !t3 then (VM.ret (⟨0, 0, 0, 0, 0, 0⟩ : api_Cap)) else (VM.rd t2 fun t6 => (VM.opt (pack_Get.f k t6)).bind fun (t9, t10) => bif t10.isSome then (VM.ret (⟨0, 0, 0, 0, 0, 0⟩ : api_Cap)) else (VM.ret t9))
set_option maxHeartbeats 8000000 in
set_option maxRecDepth 100000 in
theorem cspace_Cap.ct (V : VW Try.prog) (k : Nat) (a1 : Int) (r0 : api_Cap) (s s' : V.S) (h : VM.run V.toVI (cspace_Cap.f k a1) s = some (r0, s')) :
    Ct Try.prog 22 [V.val, .int .i64 a1] (fun _ => True) [V.rep s] (fun u H' => u = .agg #[.int .i64 r0.Kind, .int .i64 r0.Rights, .int .i64 r0.Obj, .int .i64 r0.Badge, .int .i64 r0.Guard, .int .i64 r0.Bits] ∧ H' = [V.rep s']) := by
  unfold cspace_Cap.f at h
  refine Ct.intro (n := 28) Try.func22 rfl rfl rfl ?_
  intro R w0 F hF hR
  refine S.seq ?_
  refine S.region ?_
  refine SO.alloc rfl Try.zeroValue24 rfl (fun b1 => ?_)
  refine SO.nil ?_
  refine S.seq ?_
  refine S.region ?_
  refine SO.v rfl (opv_move rfl) ?_
  obtain ⟨⟨t2, t3⟩, ht4, h⟩ := VM.opt_some V.toVI h
  refine SO.call (pre := []) rfl Try.call39 rfl rfl rfl (lay_Slot.ct _ _ _ _ ht4) trivial ?_
  rintro _ _ ⟨rfl, rfl⟩
  refine SO.v rfl (opv_move rfl) ?_
  refine SO.v rfl (opv_extract rfl rfl) ?_
  refine SO.v rfl (opv_extract rfl rfl) ?_
  refine SO.v rfl (opv_assign rfl) ?_
  refine SO.v rfl (opv_assign rfl) ?_
  refine SO.nil ?_
  refine S.seq ?_
  refine S.seq ?_
  refine S.region ?_
  refine SO.v rfl (opv_move rfl) ?_
  refine SO.v rfl (opv_not rfl) ?_
  refine SO.nil ?_
  refine S.to (ρ' := [(0, V.val), (4, bp b1 0), (5, .int .i64 t2), (15, .bool (!t3))]) ⟨rfl, rfl, rfl, rfl, trivial⟩ ?_
  rcases bool_or (!t3) with b5 | b5
  · replace h := VM.cond_t V.toVI b5 h
    refine S.condT rfl b5 ?_
    refine S.seq ?_
    refine S.region ?_
    refine SO.v rfl (opv_build (v := .agg #[.int .i64 0, .int .i64 0, .int .i64 0, .int .i64 0, .int .i64 0, .int .i64 0]) rfl (by intro w; kernel_rfl)) ?_
    refine SO.storeN Try.sizeOf24 rfl rfl rfl rfl rfl rfl ?_
    refine SO.nil ?_
    obtain ⟨hq, rfl⟩ := VM.ret_some V.toVI h
    cases hq
    refine S.b2 ?_
    refine S.b2 ?_
    refine S.b2 ?_
    exact S.retC Try.func22 rfl rfl Try.isAgg24 Try.sizeOf24 rfl rfl (fun w hs hk => hR w _ _ ⟨rfl, rfl⟩ hs.drop hk)
  · replace h := VM.cond_f V.toVI b5 h
    refine S.condF rfl b5 ?_
    refine S.skip ?_
    refine S.seq ?_
    refine S.region ?_
    refine SO.v rfl (opv_move rfl) ?_
    refine SO.v rfl (opv_move rfl) ?_
    obtain ⟨t6, s7, hv8, h⟩ := VM.rd_some V.toVI h
    refine SO.b1 ?_
    refine SO.vread' V rfl rfl rfl hv8 ?_
    obtain ⟨⟨t9, t10⟩, ht11, h⟩ := VM.opt_some V.toVI h
    refine SO.call (pre := []) rfl Try.call40 rfl rfl rfl (pack_Get.ct _ _ _ _ ht11) trivial ?_
    rintro _ _ ⟨rfl, rfl⟩
    refine SO.v rfl (opv_move rfl) ?_
    refine SO.v rfl (opv_extract rfl rfl) ?_
    refine SO.v rfl (opv_extract rfl rfl) ?_
    refine SO.alloc rfl Try.zeroValue24 rfl (fun b12 => ?_)
    refine SO.storeN Try.sizeOf24 rfl rfl rfl rfl rfl rfl ?_
    refine SO.v rfl (opv_assign rfl) ?_
    refine SO.nil ?_
    refine S.to (ρ' := [(4, bp b1 0), (7, bp b12 0), (8, errV 61 t10)]) ⟨rfl, rfl, rfl, trivial⟩ ?_
    refine S.seq ?_
    refine S.seq ?_
    refine S.region ?_
    refine SO.v rfl (opv_move rfl) ?_
    refine SO.v rfl (opv_neqN (e := t10) Try.underlying28 rfl) ?_
    refine SO.nil ?_
    rcases bool_or t10.isSome with b13 | b13
    · replace h := VM.cond_t V.toVI b13 h
      refine S.condT rfl b13 ?_
      refine S.seq ?_
      refine S.region ?_
      refine SO.v rfl (opv_build (v := .agg #[.int .i64 0, .int .i64 0, .int .i64 0, .int .i64 0, .int .i64 0, .int .i64 0]) rfl (by intro w; kernel_rfl)) ?_
      refine SO.b2 ?_
      refine SO.storeN Try.sizeOf24 rfl rfl rfl rfl rfl rfl ?_
      refine SO.nil ?_
      obtain ⟨hq, rfl⟩ := VM.ret_some V.toVI h
      cases hq
      refine S.b1 ?_
      refine S.drop ?_
      refine S.b2 ?_
      refine S.b2 ?_
      refine S.b2 ?_
      exact S.retC Try.func22 rfl rfl Try.isAgg24 Try.sizeOf24 rfl rfl (fun w hs hk => hR w _ _ ⟨rfl, rfl⟩ hs.drop hk)
    · replace h := VM.cond_f V.toVI b13 h
      refine S.condF rfl b13 ?_
      refine S.skip ?_
      refine S.seq ?_
      refine S.region ?_
      refine SO.loadN rfl Try.isAgg24 Try.sizeOf24 rfl rfl rfl ?_
      refine SO.b2 ?_
      refine SO.storeN Try.sizeOf24 rfl rfl rfl rfl rfl rfl ?_
      refine SO.nil ?_
      obtain ⟨hq, rfl⟩ := VM.ret_some V.toVI h
      cases hq
      refine S.b1 ?_
      refine S.drop ?_
      refine S.b2 ?_
      refine S.b2 ?_
      refine S.b2 ?_
      exact S.retC Try.func22 rfl rfl Try.isAgg24 Try.sizeOf24 rfl rfl (fun w hs hk => hR w _ _ ⟨rfl, rfl⟩ hs.drop hk)
end Go.Proofs
namespace Go.Proofs
open Go.Sl Go.RowKit
/-! 41 padstone/guard.fits -/
def guard_fits.f (a0 : Int) (a1 : Int) : Option (Bool) :=
  some ((((decide (0 ≤ a0)) && (decide (a0 < 65536))) && (decide (0 ≤ a1))) && (decide (a1 ≤ 16)))
set_option maxHeartbeats 8000000 in
set_option maxRecDepth 100000 in
theorem guard_fits.ct (a0 : Int) (a1 : Int) (r0 : Bool) (h : guard_fits.f a0 a1 = some r0) :
    Ct Try.prog 41 [.int .i64 a0, .int .i64 a1] (fun _ => True) [] (fun u H' => u = .bool r0 ∧ H' = []) := by
  unfold guard_fits.f at h
  refine Ct.intro (n := 19) Try.func41 rfl rfl rfl ?_
  intro R w0 F hF hR
  refine S.seq ?_
  refine S.region ?_
  refine SO.v rfl (opv_assign rfl) ?_
  refine SO.nil ?_
  refine S.seq ?_
  refine S.region ?_
  refine SO.v rfl (opv_move rfl) ?_
  refine SO.v rfl (opv_geq rfl rfl) ?_
  refine SO.v rfl (opv_move rfl) ?_
  refine SO.cut 3 10 (.bool ((decide (0 ≤ a0)) && (decide (a0 < 65536)))) [F] (fun l2 hk2 => ?_) ?_
  · rcases bool_or (decide (0 ≤ a0)) with b1 | b1
    · refine SO.takeT rfl rfl rfl b1 ?_
      refine SO.v rfl (opv_move rfl) ?_
      refine SO.takeT rfl rfl rfl b1 ?_
      refine SO.v rfl (opv_lss rfl rfl) ?_
      refine SO.v rfl (opv_pick_t' b1 rfl rfl) ?_
      exact hk2.fitc (m := 3) rfl (and_t b1) rfl
    · refine SO.passF rfl rfl rfl b1 rfl rfl ?_
      refine SO.passF rfl rfl rfl b1 rfl rfl ?_
      refine SO.v rfl (opv_pick_f' b1 rfl rfl) ?_
      exact hk2.fitc (m := 3) rfl (and_f b1) rfl
  refine SO.v rfl (opv_move rfl) ?_
  refine SO.cut 3 14 (.bool (((decide (0 ≤ a0)) && (decide (a0 < 65536))) && (decide (0 ≤ a1)))) [F] (fun l2 hk2 => ?_) ?_
  · rcases bool_or ((decide (0 ≤ a0)) && (decide (a0 < 65536))) with b2 | b2
    · refine SO.takeT rfl rfl rfl b2 ?_
      refine SO.v rfl (opv_move rfl) ?_
      refine SO.takeT rfl rfl rfl b2 ?_
      refine SO.v rfl (opv_geq rfl rfl) ?_
      refine SO.v rfl (opv_pick_t' b2 rfl rfl) ?_
      exact hk2.fitc (m := 3) rfl (and_t b2) rfl
    · refine SO.passF rfl rfl rfl b2 rfl rfl ?_
      refine SO.passF rfl rfl rfl b2 rfl rfl ?_
      refine SO.v rfl (opv_pick_f' b2 rfl rfl) ?_
      exact hk2.fitc (m := 3) rfl (and_f b2) rfl
  refine SO.v rfl (opv_move rfl) ?_
  refine SO.cut 3 18 (.bool ((((decide (0 ≤ a0)) && (decide (a0 < 65536))) && (decide (0 ≤ a1))) && (decide (a1 ≤ 16)))) [F] (fun l2 hk2 => ?_) ?_
  · rcases bool_or (((decide (0 ≤ a0)) && (decide (a0 < 65536))) && (decide (0 ≤ a1))) with b3 | b3
    · refine SO.takeT rfl rfl rfl b3 ?_
      refine SO.v rfl (opv_move rfl) ?_
      refine SO.takeT rfl rfl rfl b3 ?_
      refine SO.v rfl (opv_leq rfl rfl) ?_
      refine SO.v rfl (opv_pick_t' b3 rfl rfl) ?_
      exact hk2.fitc (m := 3) rfl (and_t b3) rfl
    · refine SO.passF rfl rfl rfl b3 rfl rfl ?_
      refine SO.passF rfl rfl rfl b3 rfl rfl ?_
      refine SO.v rfl (opv_pick_f' b3 rfl rfl) ?_
      exact hk2.fitc (m := 3) rfl (and_f b3) rfl
  refine SO.v rfl (opv_assign rfl) ?_
  refine SO.nil ?_
  refine S.to (ρ' := [(4, .bool ((((decide (0 ≤ a0)) && (decide (a0 < 65536))) && (decide (0 ≤ a1))) && (decide (a1 ≤ 16))))]) ⟨rfl, trivial⟩ ?_
  cases h
  exact S.ret1 Try.func41 rfl rfl (fun w hs hk => hR w _ _ ⟨rfl, rfl⟩ hs hk)
end Go.Proofs
namespace Go.Proofs
open Go.Sl Go.RowKit
/-! 42 padstone/guard.Top -/
def guard_Top.f (a0 : Int) (a1 : Int) (a2 : Int) : Option ((Int × (Option Int))) :=
  (guard_fits.f a0 a1).bind fun t1 => bif (!t1) || (decide (a2 < 0)) then (some (0, (some 1))) else (bif decide (a1 < a2) then (some (0, (some 4))) else ((chk (decide (0 ≤ a1))).bind fun _ => (chk (decide (0 ≤ w64 (a1 - a2)))).bind fun _ => some (bshr .i64 (band .i64 a0 (w64 ((bshl .i64 1 a1) - 1))) (w64 (a1 - a2)), none)))
set_option maxHeartbeats 8000000 in
set_option maxRecDepth 100000 in
theorem guard_Top.ct (a0 : Int) (a1 : Int) (a2 : Int) (r0 : Int) (r1 : Option Int) (h : guard_Top.f a0 a1 a2 = some (r0, r1)) :
    Ct Try.prog 42 [.int .i64 a0, .int .i64 a1, .int .i64 a2] (fun _ => True) [] (fun u H' => u = .tuple #[.int .i64 r0, errV 61 r1] ∧ H' = []) := by
  unfold guard_Top.f at h
  refine Ct.intro (n := 32) Try.func42 rfl rfl rfl ?_
  intro R w0 F hF hR
  refine S.seq ?_
  refine S.region ?_
  refine SO.v rfl (opv_assign rfl) ?_
  refine SO.v rfl (opv_assign rfl) ?_
  refine SO.nil ?_
  refine S.seq ?_
  refine S.block ?_
  refine S.seq ?_
  refine S.region ?_
  refine SO.v rfl (opv_move rfl) ?_
  refine SO.v rfl (opv_move rfl) ?_
  obtain ⟨t1, ht2, h⟩ := opt_bind h
  refine SO.call (pre := []) rfl Try.call41 rfl rfl rfl (guard_fits.ct _ _ _ ht2) trivial ?_
  rintro _ _ ⟨rfl, rfl⟩
  refine SO.v rfl (opv_not rfl) ?_
  refine SO.v rfl (opv_move rfl) ?_
  refine SO.cut 3 16 (.bool ((!t1) || (decide (a2 < 0)))) [F] (fun l2 hk2 => ?_) ?_
  · rcases bool_or (!t1) with b3 | b3
    · refine SO.passF rfl rfl rfl b3 rfl rfl ?_
      refine SO.passF rfl rfl rfl b3 rfl rfl ?_
      refine SO.v rfl (opv_pick_t' b3 rfl rfl) ?_
      exact hk2.fitc (m := 3) rfl (or_t b3) rfl
    · refine SO.takeT rfl rfl rfl b3 ?_
      refine SO.v rfl (opv_move rfl) ?_
      refine SO.takeT rfl rfl rfl b3 ?_
      refine SO.v rfl (opv_lss rfl rfl) ?_
      refine SO.v rfl (opv_pick_f' b3 rfl rfl) ?_
      exact hk2.fitc (m := 3) rfl (or_f b3) rfl
  refine SO.v rfl (opv_assign rfl) ?_
  refine SO.nil ?_
  rcases bool_or ((!t1) || (decide (a2 < 0))) with b4 | b4
  · replace h := cond_t b4 h
    refine S.condT rfl b4 ?_
    refine S.seq ?_
    refine S.region ?_
    refine SO.v rfl (opv_iface Try.underlying61 rfl rfl) ?_
    refine SO.v rfl (opv_assign rfl) ?_
    refine SO.v rfl (opv_assign rfl) ?_
    refine SO.nil ?_
    refine S.to (ρ' := [(0, .int .i64 a0), (1, .int .i64 a1), (2, .int .i64 a2), (6, .int .i64 0), (7, errV 61 (some 1))]) ⟨rfl, rfl, rfl, rfl, rfl, trivial⟩ ?_
    cases h
    exact S.ret2 Try.func42 rfl rfl rfl (fun w hs hk => hR w _ _ ⟨rfl, rfl⟩ hs hk)
  · replace h := cond_f b4 h
    refine S.condF rfl b4 ?_
    refine S.seq ?_
    refine S.region ?_
    refine SO.v rfl (opv_move rfl) ?_
    refine SO.v rfl (opv_move rfl) ?_
    refine SO.v rfl (opv_gtr rfl rfl) ?_
    refine SO.v rfl (opv_assign rfl) ?_
    refine SO.nil ?_
    refine S.to (ρ' := [(0, .int .i64 a0), (1, .int .i64 a1), (2, .int .i64 a2), (6, .int .i64 0), (7, errV 61 none), (18, .bool (decide (a1 < a2)))]) ⟨rfl, rfl, rfl, rfl, rfl, rfl, trivial⟩ ?_
    rcases bool_or (decide (a1 < a2)) with b5 | b5
    · replace h := cond_t b5 h
      refine S.condT rfl b5 ?_
      refine S.seq ?_
      refine S.region ?_
      refine SO.v rfl (opv_iface Try.underlying61 rfl rfl) ?_
      refine SO.v rfl (opv_assign rfl) ?_
      refine SO.v rfl (opv_assign rfl) ?_
      refine SO.nil ?_
      cases h
      exact S.ret2 Try.func42 rfl rfl rfl (fun w hs hk => hR w _ _ ⟨rfl, rfl⟩ hs hk)
    · replace h := cond_f b5 h
      refine S.condF rfl b5 ?_
      refine S.skip ?_
      refine S.inBlock ?_
      refine S.seq ?_
      refine S.region ?_
      refine SO.v rfl (opv_move rfl) ?_
      refine SO.v rfl (opv_move rfl) ?_
      obtain ⟨_, hc6, h⟩ := opt_bind h
      refine SO.v rfl (opv_shl rfl rfl (of_decide_eq_true (chk_some hc6))) ?_
      refine SO.v rfl (opv_sub rfl rfl) ?_
      refine SO.v rfl (opv_and rfl rfl) ?_
      refine SO.v rfl (opv_move rfl) ?_
      refine SO.v rfl (opv_move rfl) ?_
      refine SO.v rfl (opv_sub rfl rfl) ?_
      obtain ⟨_, hc7, h⟩ := opt_bind h
      refine SO.v rfl (opv_shr rfl rfl (of_decide_eq_true (chk_some hc7))) ?_
      refine SO.v rfl (opv_assign rfl) ?_
      refine SO.v rfl (opv_assign rfl) ?_
      refine SO.nil ?_
      refine S.to (ρ' := [(6, .int .i64 (bshr .i64 (band .i64 a0 (w64 ((bshl .i64 1 a1) - 1))) (w64 (a1 - a2)))), (7, errV 61 none)]) ⟨rfl, rfl, trivial⟩ ?_
      cases h
      exact S.ret2 Try.func42 rfl rfl rfl (fun w hs hk => hR w _ _ ⟨rfl, rfl⟩ hs hk)
end Go.Proofs
namespace Go.Proofs
open Go.Sl Go.RowKit
/-! 23 padstone/guard.Walk -/
def guard_Walk.f (a0 : Int) (a1 : Int) (a2 : Int) (a3 : Int) (a4 : Int) : Option ((Int × Int × (Option Int))) :=
  (guard_fits.f a0 a1).bind fun t1 => (bif (((!t1) || (decide (a3 < 0))) || (decide (8 < a3))) || (decide (a2 < 0)) then (some true) else ((chk (decide (0 ≤ a3))).bind fun _ => some (decide ((bshl .i64 1 a3) ≤ a2)))).bind fun c7 => bif (c7 || (decide (a4 < 0))) || (decide (5 < a4)) then (some (0, 0, (some 1))) else (bif decide (a1 < (w64 (a3 + a4))) then (some (0, 0, (some 4))) else ((guard_Top.f a0 a1 a3).bind fun (t14, t15) => bif t15.isSome || (t14 != a2) then (some (0, 0, (some 3))) else ((guard_Top.f a0 (w64 (a1 - a3)) a4).bind fun (t19, t20) => some (t19, w64 ((w64 (a1 - a3)) - a4), t20))))
set_option maxHeartbeats 8000000 in
set_option maxRecDepth 100000 in
theorem guard_Walk.ct (a0 : Int) (a1 : Int) (a2 : Int) (a3 : Int) (a4 : Int) (r0 : Int) (r1 : Int) (r2 : Option Int) (h : guard_Walk.f a0 a1 a2 a3 a4 = some (r0, r1, r2)) :
    Ct Try.prog 23 [.int .i64 a0, .int .i64 a1, .int .i64 a2, .int .i64 a3, .int .i64 a4] (fun _ => True) [] (fun u H' => u = .tuple #[.int .i64 r0, .int .i64 r1, errV 61 r2] ∧ H' = []) := by
  unfold guard_Walk.f at h
  refine Ct.intro (n := 86) Try.func23 rfl rfl rfl ?_
  intro R w0 F hF hR
  refine S.seq ?_
  refine S.region ?_
  refine SO.v rfl (opv_assign rfl) ?_
  refine SO.v rfl (opv_assign rfl) ?_
  refine SO.v rfl (opv_assign rfl) ?_
  refine SO.nil ?_
  refine S.seq ?_
  refine S.block ?_
  refine S.seq ?_
  refine S.region ?_
  refine SO.v rfl (opv_move rfl) ?_
  refine SO.v rfl (opv_move rfl) ?_
  obtain ⟨t1, ht2, h⟩ := opt_bind h
  refine SO.call (pre := []) rfl Try.call41 rfl rfl rfl (guard_fits.ct _ _ _ ht2) trivial ?_
  rintro _ _ ⟨rfl, rfl⟩
  refine SO.v rfl (opv_not rfl) ?_
  refine SO.v rfl (opv_move rfl) ?_
  refine SO.cut 3 25 (.bool ((!t1) || (decide (a3 < 0)))) [F] (fun l2 hk2 => ?_) ?_
  · rcases bool_or (!t1) with b3 | b3
    · refine SO.passF rfl rfl rfl b3 rfl rfl ?_
      refine SO.passF rfl rfl rfl b3 rfl rfl ?_
      refine SO.v rfl (opv_pick_t' b3 rfl rfl) ?_
      exact hk2.fitc (m := 3) rfl (or_t b3) rfl
    · refine SO.takeT rfl rfl rfl b3 ?_
      refine SO.v rfl (opv_move rfl) ?_
      refine SO.takeT rfl rfl rfl b3 ?_
      refine SO.v rfl (opv_lss rfl rfl) ?_
      refine SO.v rfl (opv_pick_f' b3 rfl rfl) ?_
      exact hk2.fitc (m := 3) rfl (or_f b3) rfl
  refine SO.v rfl (opv_move rfl) ?_
  refine SO.cut 3 29 (.bool (((!t1) || (decide (a3 < 0))) || (decide (8 < a3)))) [F] (fun l2 hk2 => ?_) ?_
  · rcases bool_or ((!t1) || (decide (a3 < 0))) with b4 | b4
    · refine SO.passF rfl rfl rfl b4 rfl rfl ?_
      refine SO.passF rfl rfl rfl b4 rfl rfl ?_
      refine SO.v rfl (opv_pick_t' b4 rfl rfl) ?_
      exact hk2.fitc (m := 3) rfl (or_t b4) rfl
    · refine SO.takeT rfl rfl rfl b4 ?_
      refine SO.v rfl (opv_move rfl) ?_
      refine SO.takeT rfl rfl rfl b4 ?_
      refine SO.v rfl (opv_gtr rfl rfl) ?_
      refine SO.v rfl (opv_pick_f' b4 rfl rfl) ?_
      exact hk2.fitc (m := 3) rfl (or_f b4) rfl
  refine SO.v rfl (opv_move rfl) ?_
  refine SO.cut 3 33 (.bool ((((!t1) || (decide (a3 < 0))) || (decide (8 < a3))) || (decide (a2 < 0)))) [F] (fun l2 hk2 => ?_) ?_
  · rcases bool_or (((!t1) || (decide (a3 < 0))) || (decide (8 < a3))) with b5 | b5
    · refine SO.passF rfl rfl rfl b5 rfl rfl ?_
      refine SO.passF rfl rfl rfl b5 rfl rfl ?_
      refine SO.v rfl (opv_pick_t' b5 rfl rfl) ?_
      exact hk2.fitc (m := 3) rfl (or_t b5) rfl
    · refine SO.takeT rfl rfl rfl b5 ?_
      refine SO.v rfl (opv_move rfl) ?_
      refine SO.takeT rfl rfl rfl b5 ?_
      refine SO.v rfl (opv_lss rfl rfl) ?_
      refine SO.v rfl (opv_pick_f' b5 rfl rfl) ?_
      exact hk2.fitc (m := 3) rfl (or_f b5) rfl
  refine SO.v rfl (opv_move rfl) ?_
  obtain ⟨c7, hc8, hgk⟩ := opt_bind h
  refine SO.cut 5 39 (.bool c7) [F] (fun l2 hk2 => ?_) ?_
  · clear hgk
    replace h := hc8
    rcases bool_or ((((!t1) || (decide (a3 < 0))) || (decide (8 < a3))) || (decide (a2 < 0))) with b6 | b6
    · replace h := cond_t b6 h
      refine SO.passF rfl rfl rfl b6 rfl rfl ?_
      refine SO.passF rfl rfl rfl b6 rfl rfl ?_
      refine SO.passF rfl rfl rfl b6 rfl rfl ?_
      refine SO.passF rfl rfl rfl b6 rfl rfl ?_
      cases h
      refine SO.v rfl (opv_pick_t' b6 rfl rfl) ?_
      exact hk2.fitc (m := 5) rfl (rfl) rfl
    · replace h := cond_f b6 h
      refine SO.takeT rfl rfl rfl b6 ?_
      refine SO.v rfl (opv_move rfl) ?_
      refine SO.takeT rfl rfl rfl b6 ?_
      refine SO.v rfl (opv_move rfl) ?_
      refine SO.takeT rfl rfl rfl b6 ?_
      obtain ⟨_, hc9, h⟩ := opt_bind h
      refine SO.v rfl (opv_shl rfl rfl (of_decide_eq_true (chk_some hc9))) ?_
      refine SO.takeT rfl rfl rfl b6 ?_
      refine SO.v rfl (opv_geq rfl rfl) ?_
      cases h
      refine SO.v rfl (opv_pick_f' b6 rfl rfl) ?_
      exact hk2.fitc (m := 5) rfl (rfl) rfl
  clear hc8
  replace h := hgk
  refine SO.v rfl (opv_move rfl) ?_
  refine SO.cut 3 43 (.bool (c7 || (decide (a4 < 0)))) [F] (fun l2 hk2 => ?_) ?_
  · rcases bool_or c7 with b10 | b10
    · refine SO.passF rfl rfl rfl b10 rfl rfl ?_
      refine SO.passF rfl rfl rfl b10 rfl rfl ?_
      refine SO.v rfl (opv_pick_t' b10 rfl rfl) ?_
      exact hk2.fitc (m := 3) rfl (or_t b10) rfl
    · refine SO.takeT rfl rfl rfl b10 ?_
      refine SO.v rfl (opv_move rfl) ?_
      refine SO.takeT rfl rfl rfl b10 ?_
      refine SO.v rfl (opv_lss rfl rfl) ?_
      refine SO.v rfl (opv_pick_f' b10 rfl rfl) ?_
      exact hk2.fitc (m := 3) rfl (or_f b10) rfl
  refine SO.v rfl (opv_move rfl) ?_
  refine SO.cut 3 47 (.bool ((c7 || (decide (a4 < 0))) || (decide (5 < a4)))) [F] (fun l2 hk2 => ?_) ?_
  · rcases bool_or (c7 || (decide (a4 < 0))) with b11 | b11
    · refine SO.passF rfl rfl rfl b11 rfl rfl ?_
      refine SO.passF rfl rfl rfl b11 rfl rfl ?_
      refine SO.v rfl (opv_pick_t' b11 rfl rfl) ?_
      exact hk2.fitc (m := 3) rfl (or_t b11) rfl
    · refine SO.takeT rfl rfl rfl b11 ?_
      refine SO.v rfl (opv_move rfl) ?_
      refine SO.takeT rfl rfl rfl b11 ?_
      refine SO.v rfl (opv_gtr rfl rfl) ?_
      refine SO.v rfl (opv_pick_f' b11 rfl rfl) ?_
      exact hk2.fitc (m := 3) rfl (or_f b11) rfl
  refine SO.v rfl (opv_assign rfl) ?_
  refine SO.nil ?_
  refine S.to (ρ' := [(0, .int .i64 a0), (1, .int .i64 a1), (2, .int .i64 a2), (3, .int .i64 a3), (4, .int .i64 a4), (10, .int .i64 0), (11, .int .i64 0), (12, errV 61 none), (17, .bool ((c7 || (decide (a4 < 0))) || (decide (5 < a4))))]) ⟨rfl, rfl, rfl, rfl, rfl, rfl, rfl, rfl, rfl, trivial⟩ ?_
  rcases bool_or ((c7 || (decide (a4 < 0))) || (decide (5 < a4))) with b12 | b12
  · replace h := cond_t b12 h
    refine S.condT rfl b12 ?_
    refine S.seq ?_
    refine S.region ?_
    refine SO.v rfl (opv_iface Try.underlying61 rfl rfl) ?_
    refine SO.v rfl (opv_assign rfl) ?_
    refine SO.v rfl (opv_assign rfl) ?_
    refine SO.v rfl (opv_assign rfl) ?_
    refine SO.nil ?_
    cases h
    exact S.ret3 Try.func23 rfl rfl rfl rfl (fun w hs hk => hR w _ _ ⟨rfl, rfl⟩ hs hk)
  · replace h := cond_f b12 h
    refine S.condF rfl b12 ?_
    refine S.seq ?_
    refine S.region ?_
    refine SO.v rfl (opv_move rfl) ?_
    refine SO.v rfl (opv_move rfl) ?_
    refine SO.v rfl (opv_add rfl rfl) ?_
    refine SO.v rfl (opv_move rfl) ?_
    refine SO.v rfl (opv_gtr rfl rfl) ?_
    refine SO.v rfl (opv_assign rfl) ?_
    refine SO.nil ?_
    rcases bool_or (decide (a1 < (w64 (a3 + a4)))) with b13 | b13
    · replace h := cond_t b13 h
      refine S.condT rfl b13 ?_
      refine S.seq ?_
      refine S.region ?_
      refine SO.v rfl (opv_iface Try.underlying61 rfl rfl) ?_
      refine SO.v rfl (opv_assign rfl) ?_
      refine SO.v rfl (opv_assign rfl) ?_
      refine SO.v rfl (opv_assign rfl) ?_
      refine SO.nil ?_
      refine S.to (ρ' := [(0, .int .i64 a0), (1, .int .i64 a1), (2, .int .i64 a2), (3, .int .i64 a3), (4, .int .i64 a4), (10, .int .i64 0), (11, .int .i64 0), (12, errV 61 (some 4))]) ⟨rfl, rfl, rfl, rfl, rfl, rfl, rfl, rfl, trivial⟩ ?_
      cases h
      exact S.ret3 Try.func23 rfl rfl rfl rfl (fun w hs hk => hR w _ _ ⟨rfl, rfl⟩ hs hk)
    · replace h := cond_f b13 h
      refine S.condF rfl b13 ?_
      refine S.skip ?_
      refine S.inBlock ?_
      refine S.seq ?_
      refine S.seq ?_
      refine S.region ?_
      refine SO.v rfl (opv_move rfl) ?_
      refine SO.v rfl (opv_move rfl) ?_
      refine SO.v rfl (opv_move rfl) ?_
      obtain ⟨⟨t14, t15⟩, ht16, h⟩ := opt_bind h
      refine SO.call (pre := []) rfl Try.call42 rfl rfl rfl (guard_Top.ct _ _ _ _ _ ht16) trivial ?_
      rintro _ _ ⟨rfl, rfl⟩
      refine SO.v rfl (opv_move rfl) ?_
      refine SO.v rfl (opv_extract rfl rfl) ?_
      refine SO.v rfl (opv_extract rfl rfl) ?_
      refine SO.v rfl (opv_assign rfl) ?_
      refine SO.v rfl (opv_assign rfl) ?_
      refine SO.nil ?_
      refine S.to (ρ' := [(0, .int .i64 a0), (1, .int .i64 a1), (2, .int .i64 a2), (3, .int .i64 a3), (4, .int .i64 a4), (10, .int .i64 0), (11, .int .i64 0), (12, errV 61 none), (13, .int .i64 t14), (14, errV 61 t15)]) ⟨rfl, rfl, rfl, rfl, rfl, rfl, rfl, rfl, rfl, rfl, trivial⟩ ?_
      refine S.seq ?_
      refine S.region ?_
      refine SO.v rfl (opv_move rfl) ?_
      refine SO.v rfl (opv_neqN (e := t15) Try.underlying28 rfl) ?_
      refine SO.v rfl (opv_move rfl) ?_
      refine SO.cut 4 69 (.bool (t15.isSome || (t14 != a2))) [F] (fun l2 hk2 => ?_) ?_
      · rcases bool_or t15.isSome with b17 | b17
        · refine SO.passF rfl rfl rfl b17 rfl rfl ?_
          refine SO.passF rfl rfl rfl b17 rfl rfl ?_
          refine SO.passF rfl rfl rfl b17 rfl rfl ?_
          refine SO.v rfl (opv_pick_t' b17 rfl rfl) ?_
          exact hk2.fitc (m := 4) rfl (or_t b17) rfl
        · refine SO.takeT rfl rfl rfl b17 ?_
          refine SO.v rfl (opv_move rfl) ?_
          refine SO.takeT rfl rfl rfl b17 ?_
          refine SO.v rfl (opv_move rfl) ?_
          refine SO.takeT rfl rfl rfl b17 ?_
          refine SO.v rfl (opv_neq rfl rfl) ?_
          refine SO.v rfl (opv_pick_f' b17 rfl rfl) ?_
          exact hk2.fitc (m := 4) rfl (or_f b17) rfl
      refine SO.nil ?_
      rcases bool_or (t15.isSome || (t14 != a2)) with b18 | b18
      · replace h := cond_t b18 h
        refine S.condT rfl b18 ?_
        refine S.seq ?_
        refine S.region ?_
        refine SO.v rfl (opv_iface Try.underlying61 rfl rfl) ?_
        refine SO.v rfl (opv_assign rfl) ?_
        refine SO.v rfl (opv_assign rfl) ?_
        refine SO.v rfl (opv_assign rfl) ?_
        refine SO.nil ?_
        refine S.to (ρ' := [(0, .int .i64 a0), (1, .int .i64 a1), (3, .int .i64 a3), (4, .int .i64 a4), (10, .int .i64 0), (11, .int .i64 0), (12, errV 61 (some 3))]) ⟨rfl, rfl, rfl, rfl, rfl, rfl, rfl, trivial⟩ ?_
        cases h
        exact S.ret3 Try.func23 rfl rfl rfl rfl (fun w hs hk => hR w _ _ ⟨rfl, rfl⟩ hs hk)
      · replace h := cond_f b18 h
        refine S.condF rfl b18 ?_
        refine S.skip ?_
        refine S.seq ?_
        refine S.region ?_
        refine SO.v rfl (opv_move rfl) ?_
        refine SO.v rfl (opv_move rfl) ?_
        refine SO.v rfl (opv_sub rfl rfl) ?_
        refine SO.v rfl (opv_assign rfl) ?_
        refine SO.nil ?_
        refine S.to (ρ' := [(0, .int .i64 a0), (1, .int .i64 (w64 (a1 - a3))), (4, .int .i64 a4), (10, .int .i64 0), (11, .int .i64 0), (12, errV 61 none)]) ⟨rfl, rfl, rfl, rfl, rfl, rfl, trivial⟩ ?_
        refine S.seq ?_
        refine S.region ?_
        refine SO.v rfl (opv_move rfl) ?_
        refine SO.v rfl (opv_move rfl) ?_
        refine SO.v rfl (opv_move rfl) ?_
        obtain ⟨⟨t19, t20⟩, ht21, h⟩ := opt_bind h
        refine SO.call (pre := []) rfl Try.call42 rfl rfl rfl (guard_Top.ct _ _ _ _ _ ht21) trivial ?_
        rintro _ _ ⟨rfl, rfl⟩
        refine SO.v rfl (opv_move rfl) ?_
        refine SO.v rfl (opv_extract rfl rfl) ?_
        refine SO.v rfl (opv_extract rfl rfl) ?_
        refine SO.v rfl (opv_assign rfl) ?_
        refine SO.v rfl (opv_assign rfl) ?_
        refine SO.nil ?_
        refine S.to (ρ' := [(1, .int .i64 (w64 (a1 - a3))), (4, .int .i64 a4), (10, .int .i64 0), (11, .int .i64 0), (12, errV 61 none), (15, .int .i64 t19), (16, errV 61 t20)]) ⟨rfl, rfl, rfl, rfl, rfl, rfl, rfl, trivial⟩ ?_
        refine S.seq ?_
        refine S.region ?_
        refine SO.v rfl (opv_move rfl) ?_
        refine SO.v rfl (opv_move rfl) ?_
        refine SO.v rfl (opv_move rfl) ?_
        refine SO.v rfl (opv_sub rfl rfl) ?_
        refine SO.v rfl (opv_move rfl) ?_
        refine SO.v rfl (opv_assign rfl) ?_
        refine SO.v rfl (opv_assign rfl) ?_
        refine SO.v rfl (opv_assign rfl) ?_
        refine SO.nil ?_
        refine S.to (ρ' := [(10, .int .i64 t19), (11, .int .i64 (w64 ((w64 (a1 - a3)) - a4))), (12, errV 61 t20)]) ⟨rfl, rfl, rfl, trivial⟩ ?_
        cases h
        exact S.ret3 Try.func23 rfl rfl rfl rfl (fun w hs hk => hR w _ _ ⟨rfl, rfl⟩ hs hk)
end Go.Proofs
namespace Go.Proofs
open Go.Sl Go.RowKit
/-! 8 padstone/cspace.Lookup -/
def cspace_Lookup.l1 (a2 : Int) : Nat → (Int × Int × Int × Int × Int × Int × Int × Int) → VM (Brk (Int × (Option Int)) (Int × Int × Int × Int × Int × Int))
  | 0, _ => VM.fail
  | k + 1, (x27_1, x8_1, y1_0_1, y1_1_1, y1_2_1, y1_3_1, y1_4_1, y1_5_1) => bif decide (x27_1 < 16) then ((lay_Field.f y1_2_1 2).bind fun t9 => (VM.opt (guard_Walk.f a2 x8_1 y1_4_1 y1_5_1 t9)).bind fun (t12, t13, t14) => bif t14.isSome then (VM.ret (Brk.ret (0, t14))) else ((lay_Field.f y1_2_1 1).bind fun t17 => bif t13 == 0 then (VM.ret (Brk.ret (w64 (t17 + t12), none))) else ((cspace_Cap.f k (w64 (t17 + t12))).bind fun t21 => (cspace_Fine.f t21).bind fun t24 => bif !t24 then (VM.ret (Brk.nx (t21.Kind, t21.Rights, t21.Obj, t21.Badge, t21.Guard, t21.Bits))) else (cspace_Lookup.l1 a2 k (w64 (x27_1 + 1), t13, t21.Kind, t21.Rights, t21.Obj, t21.Badge, t21.Guard, t21.Bits))))) else (VM.ret (Brk.nx (y1_0_1, y1_1_1, y1_2_1, y1_3_1, y1_4_1, y1_5_1)))
def cspace_Lookup.f (k : Nat) (a1 : api_Cap) (a2 : Int) : VM ((Int × (Option Int))) :=
  bif (decide (a2 < 0)) || (decide (65536 ≤ a2)) then (VM.ret (0, (some 1))) else ((cspace_Fine.f a1).bind fun t4 => bif !t4 then (VM.ret (0, (some 5))) else ((cspace_Lookup.l1 a2 k (0, 16, a1.Kind, a1.Rights, a1.Obj, a1.Badge, a1.Guard, a1.Bits)).bind fun o1 => Brk.go o1 (fun r => VM.ret r) (fun (y1_0_e1, y1_1_e1, y1_2_e1, y1_3_e1, y1_4_e1, y1_5_e1) => VM.ret (0, (some 4)))))
set_option maxHeartbeats 8000000 in
set_option maxRecDepth 100000 in
theorem cspace_Lookup.ct (V : VW Try.prog) (k : Nat) (a1 : api_Cap) (a2 : Int) (r0 : Int) (r1 : Option Int) (s s' : V.S) (h : VM.run V.toVI (cspace_Lookup.f k a1 a2) s = some ((r0, r1), s')) :
    Ct Try.prog 8 [V.val, .agg #[.int .i64 a1.Kind, .int .i64 a1.Rights, .int .i64 a1.Obj, .int .i64 a1.Badge, .int .i64 a1.Guard, .int .i64 a1.Bits], .int .i64 a2] (fun _ => True) [V.rep s] (fun u H' => u = .tuple #[.int .i64 r0, errV 61 r1] ∧ H' = [V.rep s']) := by
  unfold cspace_Lookup.f at h
  refine Ct.intro (n := 66) Try.func8 rfl rfl rfl ?_
  intro R w0 F hF hR
  refine S.seq ?_
  refine S.region ?_
  refine SO.box rfl rfl rfl (fun b1 => ?_)
  refine SO.v rfl (opv_assign rfl) ?_
  refine SO.v rfl (opv_assign rfl) ?_
  refine SO.nil ?_
  refine S.seq ?_
  refine S.block ?_
  refine S.seq ?_
  refine S.region ?_
  refine SO.v rfl (opv_move rfl) ?_
  refine SO.v rfl (opv_lss rfl rfl) ?_
  refine SO.v rfl (opv_move rfl) ?_
  refine SO.cut 3 19 (.bool ((decide (a2 < 0)) || (decide (65536 ≤ a2)))) [Box b1 [.int .i64 a1.Kind, .int .i64 a1.Rights, .int .i64 a1.Obj, .int .i64 a1.Badge, .int .i64 a1.Guard, .int .i64 a1.Bits], V.rep s, F] (fun l2 hk2 => ?_) ?_
  · rcases bool_or (decide (a2 < 0)) with b2 | b2
    · refine SO.passF rfl rfl rfl b2 rfl rfl ?_
      refine SO.passF rfl rfl rfl b2 rfl rfl ?_
      refine SO.v rfl (opv_pick_t' b2 rfl rfl) ?_
      refine SO.b2 ?_
      refine SO.b2 ?_
      refine SO.b2 ?_
      exact hk2.fitc (m := 3) rfl (or_t b2) rfl
    · refine SO.takeT rfl rfl rfl b2 ?_
      refine SO.v rfl (opv_move rfl) ?_
      refine SO.takeT rfl rfl rfl b2 ?_
      refine SO.v rfl (opv_geq rfl rfl) ?_
      refine SO.v rfl (opv_pick_f' b2 rfl rfl) ?_
      refine SO.b2 ?_
      refine SO.b2 ?_
      refine SO.b2 ?_
      exact hk2.fitc (m := 3) rfl (or_f b2) rfl
  refine SO.v rfl (opv_assign rfl) ?_
  refine SO.nil ?_
  rcases bool_or ((decide (a2 < 0)) || (decide (65536 ≤ a2))) with b3 | b3
  · replace h := VM.cond_t V.toVI b3 h
    refine S.condT rfl b3 ?_
    refine S.seq ?_
    refine S.region ?_
    refine SO.v rfl (opv_iface Try.underlying61 rfl rfl) ?_
    refine SO.v rfl (opv_assign rfl) ?_
    refine SO.v rfl (opv_assign rfl) ?_
    refine SO.nil ?_
    refine S.to (ρ' := [(0, V.val), (2, .int .i64 a2), (4, bp b1 0), (6, .int .i64 0), (7, errV 61 (some 1))]) ⟨rfl, rfl, rfl, rfl, rfl, trivial⟩ ?_
    obtain ⟨hq, rfl⟩ := VM.ret_some V.toVI h
    cases hq
    refine S.drop ?_
    refine S.b1 ?_
    refine S.b1 ?_
    exact S.ret2 Try.func8 rfl rfl rfl (fun w hs hk => hR w _ _ ⟨rfl, rfl⟩ hs hk)
  · replace h := VM.cond_f V.toVI b3 h
    refine S.condF rfl b3 ?_
    refine S.seq ?_
    refine S.region ?_
    refine SO.v rfl (opv_move rfl) ?_
    refine SO.loadN rfl Try.isAgg24 Try.sizeOf24 rfl rfl rfl ?_
    obtain ⟨t4, s6, ht5, h⟩ := VM.bind_some V.toVI h
    refine SO.b1 ?_
    refine SO.call (pre := [V.rep _]) rfl Try.call9 rfl rfl rfl (cspace_Fine.ct V _ _ _ _ ht5) trivial ?_
    rintro _ _ ⟨rfl, rfl⟩
    refine SO.v rfl (opv_not rfl) ?_
    refine SO.v rfl (opv_assign rfl) ?_
    refine SO.nil ?_
    refine S.to (ρ' := [(0, V.val), (2, .int .i64 a2), (4, bp b1 0), (6, .int .i64 0), (7, errV 61 none), (21, .bool (!t4))]) ⟨rfl, rfl, rfl, rfl, rfl, rfl, trivial⟩ ?_
    rcases bool_or (!t4) with b7 | b7
    · replace h := VM.cond_t V.toVI b7 h
      refine S.condT rfl b7 ?_
      refine S.seq ?_
      refine S.region ?_
      refine SO.v rfl (opv_iface Try.underlying61 rfl rfl) ?_
      refine SO.v rfl (opv_assign rfl) ?_
      refine SO.v rfl (opv_assign rfl) ?_
      refine SO.nil ?_
      obtain ⟨hq, rfl⟩ := VM.ret_some V.toVI h
      cases hq
      refine S.b1 ?_
      refine S.drop ?_
      refine S.b1 ?_
      refine S.b1 ?_
      exact S.ret2 Try.func8 rfl rfl rfl (fun w hs hk => hR w _ _ ⟨rfl, rfl⟩ hs hk)
    · replace h := VM.cond_f V.toVI b7 h
      refine S.condF rfl b7 ?_
      refine S.skip ?_
      refine S.inBlock ?_
      refine S.seq ?_
      refine S.region ?_
      refine SO.v rfl (opv_assign rfl) ?_
      refine SO.nil ?_
      refine S.seq ?_
      refine S.seq ?_
      refine S.region ?_
      refine SO.v rfl (opv_move rfl) ?_
      refine SO.nil ?_
      obtain ⟨o1, so_1, hl1, h⟩ := VM.bind_some V.toVI h
      refine S.b2 ?_
      refine S.b2 ?_
      refine S.b2 ?_
      refine S.to (ρ' := [(27, .int .i64 0), (8, .int .i64 16), (0, V.val), (2, .int .i64 a2), (4, bp b1 0), (6, .int .i64 0), (7, errV 61 none)]) ⟨rfl, rfl, rfl, rfl, rfl, rfl, rfl, trivial⟩ ?_
      refine S.forloop (X := ((Int × Int × Int × Int × Int × Int × Int × Int) × V.S) × Unit) (O := (Brk (Int × (Option Int)) (Int × Int × Int × Int × Int × Int)) × V.S) (fun m x => VM.run V.toVI (cspace_Lookup.l1 a2 m x.1.1) x.1.2) (fun x => match x with | (((x27_1, x8_1, y1_0_1, y1_1_1, y1_2_1, y1_3_1, y1_4_1, y1_5_1), sx_1), _) => [(27, .int .i64 x27_1), (8, .int .i64 x8_1), (0, V.val), (2, .int .i64 a2), (4, bp b1 0), (6, .int .i64 0), (7, errV 61 none)]) (fun x => match x with | (((x27_1, x8_1, y1_0_1, y1_1_1, y1_2_1, y1_3_1, y1_4_1, y1_5_1), sx_1), _) => [V.rep sx_1, Box b1 [.int .i64 y1_0_1, .int .i64 y1_1_1, .int .i64 y1_2_1, .int .i64 y1_3_1, .int .i64 y1_4_1, .int .i64 y1_5_1], F]) (fun Sk oo => match oo with | (o', so') => (∀ r', o' = Brk.ret r' → VM.run V.toVI (VM.ret r') so' = some ((r0, r1), s')) ∧ ∀ j : (Int × Int × Int × Int × Int × Int), match j with | (y1_0_e1, y1_1_e1, y1_2_e1, y1_3_e1, y1_4_e1, y1_5_e1) => ∀ _ : Unit, o' = Brk.nx (y1_0_e1, y1_1_e1, y1_2_e1, y1_3_e1, y1_4_e1, y1_5_e1) → Sk [(6, .int .i64 0), (7, errV 61 none)] [V.rep so', Box b1 [.int .i64 y1_0_e1, .int .i64 y1_1_e1, .int .i64 y1_2_e1, .int .i64 y1_3_e1, .int .i64 y1_4_e1, .int .i64 y1_5_e1], F]) (fun _ => rfl) ?_ (m := k) (x := (((0, 16, a1.Kind, a1.Rights, a1.Obj, a1.Badge, a1.Guard, a1.Bits), s6), ())) hl1 ?_
      · clear h hl1
        intro k x o_1 h hK1 ih1
        obtain ⟨⟨⟨x27_1, x8_1, y1_0_1, y1_1_1, y1_2_1, y1_3_1, y1_4_1, y1_5_1⟩, sx_1⟩, _⟩ := x
        obtain ⟨o_1, so_1_⟩ := o_1
        replace h : VM.run V.toVI (cspace_Lookup.l1 a2 (k + 1) (x27_1, x8_1, y1_0_1, y1_1_1, y1_2_1, y1_3_1, y1_4_1, y1_5_1)) sx_1 = some (o_1, so_1_) := h
        first | rw [cspace_Lookup.l1] at h | unfold cspace_Lookup.l1 at h
        refine S.seq ?_
        refine S.region ?_
        refine SO.v rfl (opv_lss rfl rfl) ?_
        refine SO.nil ?_
        refine S.seq ?_
        rcases bool_or (decide (x27_1 < 16)) with b8 | b8
        · replace h := VM.cond_t V.toVI b8 h
          refine S.condT rfl b8 ?_
          refine S.skip ?_
          refine S.seq ?_
          refine S.block ?_
          refine S.seq ?_
          obtain ⟨t9, s11, ht10, h⟩ := VM.bind_some V.toVI h
          obtain ⟨⟨t12, t13, t14⟩, ht15, h⟩ := VM.opt_some V.toVI h
          refine S.draw' (Z := fun Q => ∀ (_ : Unit) (_ : Unit) (_ : Unit) (_ : Unit) (_ : Unit) (_ : Unit) (_ : Unit) (_ : Unit) (_ : Unit) (_ : Unit) (_ : Unit) (_ : Unit) (_ : Unit) (_ : Unit) (_ : Unit) (_ : Unit) (_ : Unit) (_ : Unit) (_ : Unit) (_ : Unit) (_ : Unit) (_ : Unit) (_ : Unit) (_ : Unit) (_ : Unit) (_ : Unit), Q [(28, .bool (decide (x27_1 < 16))), (27, .int .i64 x27_1), (6, .int .i64 0), (7, errV 61 none), (8, .int .i64 x8_1), (0, V.val), (2, .int .i64 a2), (4, bp b1 0), (30, .int .i64 a2), (31, .int .i64 x8_1), (32, bp b1 4), (33, .int .i64 y1_4_1), (34, bp b1 5), (35, .int .i64 y1_5_1), (36, V.val), (37, bp b1 2), (38, .int .i64 y1_2_1), (39, .int .i64 t9), (40, .tuple #[.int .i64 t12, .int .i64 t13, errV 61 t14]), (29, .tuple #[.int .i64 t12, .int .i64 t13, errV 61 t14]), (41, .int .i64 t12), (42, .int .i64 t13), (43, errV 61 t14), (9, .int .i64 t12), (10, .int .i64 t13), (11, errV 61 t14)] [V.rep s11, Box b1 [.int .i64 y1_0_1, .int .i64 y1_1_1, .int .i64 y1_2_1, .int .i64 y1_3_1, .int .i64 y1_4_1, .int .i64 y1_5_1], F]) (T := [tS 2 (.int .i64 a2), tS 8 (.int .i64 x8_1), tS 4 (bp b1 0), tS 0 (V.val), tE [(28, .bool (decide (x27_1 < 16))), (27, .int .i64 x27_1), (6, .int .i64 0), (7, errV 61 none)], tR (V.rep sx_1), tR (Box b1 [.int .i64 y1_0_1, .int .i64 y1_1_1, .int .i64 y1_2_1, .int .i64 y1_3_1, .int .i64 y1_4_1, .int .i64 y1_5_1]), tR (F), tS 30 (.int .i64 a2), tS 31 (.int .i64 x8_1), tS 32 (bp b1 4), tS 33 (.int .i64 y1_4_1), tS 34 (bp b1 5), tS 35 (.int .i64 y1_5_1), tS 36 (V.val), tS 37 (bp b1 2), tS 38 (.int .i64 y1_2_1), tR (V.rep s11), tS 39 (.int .i64 t9), tS 40 (.tuple #[.int .i64 t12, .int .i64 t13, errV 61 t14]), tS 29 (.tuple #[.int .i64 t12, .int .i64 t13, errV 61 t14]), tS 41 (.int .i64 t12), tS 42 (.int .i64 t13), tS 43 (errV 61 t14), tS 9 (.int .i64 t12), tS 10 (.int .i64 t13), tS 11 (errV 61 t14)]) (D := [⟨[0], [], [8]⟩, ⟨[1], [], [9]⟩, ⟨[2], [], [10]⟩, ⟨[10, 6], [], [11]⟩, ⟨[2], [], [12]⟩, ⟨[12, 6], [], [13]⟩, ⟨[3], [], [14]⟩, ⟨[2], [], [15]⟩, ⟨[15, 6], [], [16]⟩, ⟨[14, 16], [5], [17, 18]⟩, ⟨[8, 9, 11, 13, 18], [], [19]⟩, ⟨[19], [], [20]⟩, ⟨[20], [], [21]⟩, ⟨[20], [], [22]⟩, ⟨[20], [], [23]⟩, ⟨[21], [], [24]⟩, ⟨[22], [], [25]⟩, ⟨[23], [], [26]⟩]) (ini := [0, 1, 2, 3, 4, 5, 6, 7]) (fin := [4, 1, 3, 0, 2, 8, 9, 10, 11, 12, 13, 14, 15, 16, 18, 19, 20, 21, 22, 23, 24, 25, 26, 17, 6, 7]) (bf := [[], [], [], [2], [], [4], [], [], [7], [6, 7, 8], [0, 1, 2, 3, 4, 5, 6, 7, 8, 9], [0, 1, 2, 3, 4, 5, 6, 7, 8, 9, 10], [0, 1, 2, 3, 4, 5, 6, 7, 8, 9, 10, 11], [0, 1, 2, 3, 4, 5, 6, 7, 8, 9, 10, 11], [0, 1, 2, 3, 4, 5, 6, 7, 8, 9, 10, 11], [0, 1, 2, 3, 4, 5, 6, 7, 8, 9, 10, 11, 12], [0, 1, 2, 3, 4, 5, 6, 7, 8, 9, 10, 11, 12, 13, 15], [0, 1, 2, 3, 4, 5, 6, 7, 8, 9, 10, 11, 12, 13, 14, 15, 16]]) (by kernel_rfl) (by kernel_rfl) (fun x w h1 h2 => (.cons () (.cons () (.cons () (.cons () (.cons () (.cons () (.cons () (.cons () (.nil ⟨EnvAll.of h1 ⟨rfl, rfl, rfl, rfl, rfl, rfl, rfl, rfl, trivial⟩, h2⟩)))))))))) (fun Q => by kernel_rfl) ⟨?_, ?_, ?_, ?_, ?_, ?_, ?_, ?_, ?_, ?_, ?_, ?_, ?_, ?_, ?_, ?_, ?_, ?_, trivial⟩ ?_
          · rintro Fr _
            refine SO.v rfl (opv_move rfl) ?_
            exact SO.nilZ fun a w h1 h2 h3 h4 h5 => PZ.of h1 h3 h5 (.cons () (.cons () (.nil ⟨EnvAll.of h2 ⟨rfl, rfl, trivial⟩, h4⟩)))
          · rintro Fr _
            refine SO.v rfl (opv_move rfl) ?_
            exact SO.nilZ fun a w h1 h2 h3 h4 h5 => PZ.of h1 h3 h5 (.cons () (.cons () (.nil ⟨EnvAll.of h2 ⟨rfl, rfl, trivial⟩, h4⟩)))
          · rintro Fr _
            refine SO.v rfl (opv_fieldAddr Try.underlying24 rfl Try.sizeOf3 rfl rfl) ?_
            exact SO.nilZ fun a w h1 h2 h3 h4 h5 => PZ.of h1 h3 h5 (.cons () (.cons () (.nil ⟨EnvAll.of h2 ⟨rfl, rfl, trivial⟩, h4⟩)))
          · rintro Fr _ _
            refine SO.load1 rfl Try.isAgg3 rfl rfl ?_
            exact SO.nilZ fun a w h1 h2 h3 h4 h5 => PZ.of h1 h3 h5 (.cons () (.cons () (.cons () (.nil ⟨EnvAll.of h2 ⟨rfl, rfl, trivial⟩, h4⟩))))
          · rintro Fr _
            refine SO.v rfl (opv_fieldAddr Try.underlying24 rfl Try.sizeOf3 rfl rfl) ?_
            exact SO.nilZ fun a w h1 h2 h3 h4 h5 => PZ.of h1 h3 h5 (.cons () (.cons () (.nil ⟨EnvAll.of h2 ⟨rfl, rfl, trivial⟩, h4⟩)))
          · rintro Fr _ _
            refine SO.load1 rfl Try.isAgg3 rfl rfl ?_
            exact SO.nilZ fun a w h1 h2 h3 h4 h5 => PZ.of h1 h3 h5 (.cons () (.cons () (.cons () (.nil ⟨EnvAll.of h2 ⟨rfl, rfl, trivial⟩, h4⟩))))
          · rintro Fr _
            refine SO.v rfl (opv_move rfl) ?_
            exact SO.nilZ fun a w h1 h2 h3 h4 h5 => PZ.of h1 h3 h5 (.cons () (.cons () (.nil ⟨EnvAll.of h2 ⟨rfl, rfl, trivial⟩, h4⟩)))
          · rintro Fr _
            refine SO.v rfl (opv_fieldAddr Try.underlying24 rfl Try.sizeOf3 rfl rfl) ?_
            exact SO.nilZ fun a w h1 h2 h3 h4 h5 => PZ.of h1 h3 h5 (.cons () (.cons () (.nil ⟨EnvAll.of h2 ⟨rfl, rfl, trivial⟩, h4⟩)))
          · rintro Fr _ _
            refine SO.load1 rfl Try.isAgg3 rfl rfl ?_
            exact SO.nilZ fun a w h1 h2 h3 h4 h5 => PZ.of h1 h3 h5 (.cons () (.cons () (.cons () (.nil ⟨EnvAll.of h2 ⟨rfl, rfl, trivial⟩, h4⟩))))
          · rintro Fr _ _ _
            refine SO.call (pre := [V.rep _]) rfl Try.call24 rfl rfl rfl (lay_Field.ct V _ _ _ _ _ ht10) trivial ?_
            rintro _ _ ⟨rfl, rfl⟩
            exact SO.nilZ fun a w h1 h2 h3 h4 h5 => PZ.of h1 h3 h5 (.cons () (.cons () (.cons () (.cons () (.nil ⟨EnvAll.of h2 ⟨rfl, rfl, rfl, trivial⟩, h4⟩)))))
          · rintro Fr _ _ _ _ _
            refine SO.call (pre := []) rfl Try.call23 rfl rfl rfl (guard_Walk.ct _ _ _ _ _ _ _ _ ht15) trivial ?_
            rintro _ _ ⟨rfl, rfl⟩
            exact SO.nilZ fun a w h1 h2 h3 h4 h5 => PZ.of h1 h3 h5 (.cons () (.cons () (.cons () (.cons () (.cons () (.cons () (.nil ⟨EnvAll.of h2 ⟨rfl, rfl, rfl, rfl, rfl, rfl, trivial⟩, h4⟩)))))))
          · rintro Fr _
            refine SO.v rfl (opv_move rfl) ?_
            exact SO.nilZ fun a w h1 h2 h3 h4 h5 => PZ.of h1 h3 h5 (.cons () (.cons () (.nil ⟨EnvAll.of h2 ⟨rfl, rfl, trivial⟩, h4⟩)))
          · rintro Fr _
            refine SO.v rfl (opv_extract rfl rfl) ?_
            exact SO.nilZ fun a w h1 h2 h3 h4 h5 => PZ.of h1 h3 h5 (.cons () (.cons () (.nil ⟨EnvAll.of h2 ⟨rfl, rfl, trivial⟩, h4⟩)))
          · rintro Fr _
            refine SO.v rfl (opv_extract rfl rfl) ?_
            exact SO.nilZ fun a w h1 h2 h3 h4 h5 => PZ.of h1 h3 h5 (.cons () (.cons () (.nil ⟨EnvAll.of h2 ⟨rfl, rfl, trivial⟩, h4⟩)))
          · rintro Fr _
            refine SO.v rfl (opv_extract rfl rfl) ?_
            exact SO.nilZ fun a w h1 h2 h3 h4 h5 => PZ.of h1 h3 h5 (.cons () (.cons () (.nil ⟨EnvAll.of h2 ⟨rfl, rfl, trivial⟩, h4⟩)))
          · rintro Fr _
            refine SO.v rfl (opv_assign rfl) ?_
            exact SO.nilZ fun a w h1 h2 h3 h4 h5 => PZ.of h1 h3 h5 (.cons () (.cons () (.nil ⟨EnvAll.of h2 ⟨rfl, rfl, trivial⟩, h4⟩)))
          · rintro Fr _
            refine SO.v rfl (opv_assign rfl) ?_
            exact SO.nilZ fun a w h1 h2 h3 h4 h5 => PZ.of h1 h3 h5 (.cons () (.cons () (.nil ⟨EnvAll.of h2 ⟨rfl, rfl, trivial⟩, h4⟩)))
          · rintro Fr _
            refine SO.v rfl (opv_assign rfl) ?_
            exact SO.nilZ fun a w h1 h2 h3 h4 h5 => PZ.of h1 h3 h5 (.cons () (.cons () (.nil ⟨EnvAll.of h2 ⟨rfl, rfl, trivial⟩, h4⟩)))
          rintro _ _ _ _ _ _ _ _ _ _ _ _ _ _ _ _ _ _ _ _ _ _ _ _ _ _
          refine S.to (ρ' := [(28, .bool (decide (x27_1 < 16))), (27, .int .i64 x27_1), (6, .int .i64 0), (7, errV 61 none), (8, .int .i64 x8_1), (0, V.val), (2, .int .i64 a2), (4, bp b1 0), (30, .int .i64 a2), (31, .int .i64 x8_1), (32, bp b1 4), (33, .int .i64 y1_4_1), (34, bp b1 5), (35, .int .i64 y1_5_1), (36, V.val), (37, bp b1 2), (38, .int .i64 y1_2_1), (39, .int .i64 t9), (40, .tuple #[.int .i64 t12, .int .i64 t13, errV 61 t14]), (29, .tuple #[.int .i64 t12, .int .i64 t13, errV 61 t14]), (41, .int .i64 t12), (42, .int .i64 t13), (43, errV 61 t14), (9, .int .i64 t12), (10, .int .i64 t13), (11, errV 61 t14)]) ⟨rfl, rfl, rfl, rfl, rfl, rfl, rfl, rfl, rfl, rfl, rfl, rfl, rfl, rfl, rfl, rfl, rfl, rfl, rfl, rfl, rfl, rfl, rfl, rfl, rfl, rfl, trivial⟩ ?_
          refine S.seq ?_
          refine S.seq ?_
          refine S.region ?_
          refine SO.v rfl (opv_move rfl) ?_
          refine SO.v rfl (opv_neqN (e := t14) Try.underlying28 rfl) ?_
          refine SO.nil ?_
          rcases bool_or t14.isSome with b16 | b16
          · replace h := VM.cond_t V.toVI b16 h
            refine S.condT rfl b16 ?_
            refine S.seq ?_
            refine S.region ?_
            refine SO.v rfl (opv_move rfl) ?_
            refine SO.v rfl (opv_assign rfl) ?_
            refine SO.v rfl (opv_assign rfl) ?_
            refine SO.nil ?_
            obtain ⟨hq, rfl⟩ := VM.ret_some V.toVI h
            cases hq
            replace h := hK1.1 _ rfl
            obtain ⟨hq, rfl⟩ := VM.ret_some V.toVI h
            cases hq
            refine S.b1 ?_
            refine S.drop ?_
            refine S.b1 ?_
            refine S.b1 ?_
            exact S.ret2 Try.func8 rfl rfl rfl (fun w hs hk => hR w _ _ ⟨rfl, rfl⟩ hs hk)
          · replace h := VM.cond_f V.toVI b16 h
            refine S.condF rfl b16 ?_
            refine S.skip ?_
            refine S.seq ?_
            refine S.region ?_
            refine SO.v rfl (opv_move rfl) ?_
            refine SO.v rfl (opv_fieldAddr Try.underlying24 rfl Try.sizeOf3 rfl rfl) ?_
            refine SO.b1 ?_
            refine SO.load1 rfl Try.isAgg3 rfl rfl ?_
            obtain ⟨t17, s19, ht18, h⟩ := VM.bind_some V.toVI h
            refine SO.b1 ?_
            refine SO.call (pre := [V.rep _]) rfl Try.call24 rfl rfl rfl (lay_Field.ct V _ _ _ _ _ ht18) trivial ?_
            rintro _ _ ⟨rfl, rfl⟩
            refine SO.v rfl (opv_move rfl) ?_
            refine SO.v rfl (opv_add rfl rfl) ?_
            refine SO.v rfl (opv_assign rfl) ?_
            refine SO.nil ?_
            refine S.seq ?_
            refine S.seq ?_
            refine S.region ?_
            refine SO.v rfl (opv_move rfl) ?_
            refine SO.v rfl (opv_eql rfl rfl) ?_
            refine SO.nil ?_
            rcases bool_or (t13 == 0) with b20 | b20
            · replace h := VM.cond_t V.toVI b20 h
              refine S.condT rfl b20 ?_
              refine S.seq ?_
              refine S.region ?_
              refine SO.v rfl (opv_move rfl) ?_
              refine SO.v rfl (opv_assign rfl) ?_
              refine SO.v rfl (opv_assign rfl) ?_
              refine SO.nil ?_
              obtain ⟨hq, rfl⟩ := VM.ret_some V.toVI h
              cases hq
              replace h := hK1.1 _ rfl
              obtain ⟨hq, rfl⟩ := VM.ret_some V.toVI h
              cases hq
              refine S.b1 ?_
              refine S.drop ?_
              refine S.b1 ?_
              refine S.b1 ?_
              exact S.ret2 Try.func8 rfl rfl rfl (fun w hs hk => hR w _ _ ⟨rfl, rfl⟩ hs hk)
            · replace h := VM.cond_f V.toVI b20 h
              refine S.condF rfl b20 ?_
              refine S.skip ?_
              refine S.seq ?_
              refine S.region ?_
              refine SO.v rfl (opv_move rfl) ?_
              refine SO.v rfl (opv_assign rfl) ?_
              refine SO.nil ?_
              refine S.seq ?_
              refine S.region ?_
              refine SO.v rfl (opv_move rfl) ?_
              refine SO.v rfl (opv_move rfl) ?_
              obtain ⟨t21, s23, ht22, h⟩ := VM.bind_some V.toVI h
              refine SO.call (pre := [V.rep _]) rfl Try.call22 rfl rfl rfl (cspace_Cap.ct V _ _ _ _ _ ht22) trivial ?_
              rintro _ _ ⟨rfl, rfl⟩
              refine SO.b1 ?_
              refine SO.storeN Try.sizeOf24 rfl rfl rfl rfl rfl rfl ?_
              refine SO.nil ?_
              refine S.seq ?_
              refine S.region ?_
              refine SO.v rfl (opv_move rfl) ?_
              refine SO.loadN rfl Try.isAgg24 Try.sizeOf24 rfl rfl rfl ?_
              obtain ⟨t24, s26, ht25, h⟩ := VM.bind_some V.toVI h
              refine SO.b1 ?_
              refine SO.call (pre := [V.rep _]) rfl Try.call9 rfl rfl rfl (cspace_Fine.ct V _ _ _ _ ht25) trivial ?_
              rintro _ _ ⟨rfl, rfl⟩
              refine SO.v rfl (opv_not rfl) ?_
              refine SO.nil ?_
              rcases bool_or (!t24) with b27 | b27
              · replace h := VM.cond_t V.toVI b27 h
                refine S.condT rfl b27 ?_
                refine S.exit rfl ?_
                obtain ⟨hq, rfl⟩ := VM.ret_some V.toVI h
                cases hq
                refine S.b2 ?_
                refine S.b2 ?_
                refine S.b2 ?_
                refine S.to ?_ (hK1.2 (t21.Kind, t21.Rights, t21.Obj, t21.Badge, t21.Guard, t21.Bits) () rfl)
                exact ⟨rfl, rfl, trivial⟩
              · replace h := VM.cond_f V.toVI b27 h
                refine S.condF rfl b27 ?_
                refine S.skip ?_
                refine S.inBlock ?_
                refine S.region ?_
                refine SO.v rfl (opv_add rfl rfl) ?_
                refine SO.v rfl (opv_move rfl) ?_
                refine SO.nil ?_
                refine S.b2 ?_
                refine S.b2 ?_
                refine S.b2 ?_
                refine S.to ?_ (ih1 (((w64 (x27_1 + 1), t13, t21.Kind, t21.Rights, t21.Obj, t21.Badge, t21.Guard, t21.Bits), s26), ()) h)
                exact ⟨rfl, rfl, rfl, rfl, rfl, rfl, rfl, trivial⟩
        · replace h := VM.cond_f V.toVI b8 h
          refine S.condF rfl b8 ?_
          refine S.exit rfl ?_
          obtain ⟨hq, rfl⟩ := VM.ret_some V.toVI h
          cases hq
          refine S.b2 ?_
          refine S.b2 ?_
          refine S.b2 ?_
          refine S.to ?_ (hK1.2 (y1_0_1, y1_1_1, y1_2_1, y1_3_1, y1_4_1, y1_5_1) () rfl)
          exact ⟨rfl, rfl, trivial⟩
      refine ⟨fun r' e' => ?_, ?_⟩
      · subst e'
        have h9 := VM.of_ret h
        exact h9
      rintro ⟨y1_0_e1, y1_1_e1, y1_2_e1, y1_3_e1, y1_4_e1, y1_5_e1⟩ _ e'
      subst e'
      replace h := VM.of_nx h
      refine S.seq ?_
      refine S.region ?_
      refine SO.v rfl (opv_iface Try.underlying61 rfl rfl) ?_
      refine SO.v rfl (opv_assign rfl) ?_
      refine SO.v rfl (opv_assign rfl) ?_
      refine SO.nil ?_
      obtain ⟨hq, rfl⟩ := VM.ret_some V.toVI h
      cases hq
      refine S.b1 ?_
      refine S.drop ?_
      refine S.b1 ?_
      refine S.b1 ?_
      exact S.ret2 Try.func8 rfl rfl rfl (fun w hs hk => hR w _ _ ⟨rfl, rfl⟩ hs hk)
end Go.Proofs
namespace Go.Proofs
open Go.Sl Go.RowKit
/-! 27 padstone/padstoneref10.Fresh -/
def ref10_Fresh.f (a0 : Int) : Option (ref10_Obj) :=
  some (⟨a0, 0, 0, 0, 0, 0, [], 0, 0, -1, 0, 0, -1, -1, (⟨0, 0, 0, 0, 0, 0⟩ : api_Cap), (⟨-1, -1, -1, -1⟩ : A4), (⟨0, 0, 0, 0⟩ : A4), -1, 0, -1, 0⟩ : ref10_Obj)
set_option maxHeartbeats 8000000 in
set_option maxRecDepth 100000 in
theorem ref10_Fresh.ct (a0 : Int) (r0 : ref10_Obj) (h : ref10_Fresh.f a0 = some r0) :
    Ct Try.prog 27 [.int .i64 a0] (fun _ => True) [] (fun u H' => ∃ w_r0_Queue, u = .agg #[.int .i64 r0.Kind, .int .i64 r0.Size, .int .i64 r0.Used, .int .i64 r0.First, .int .i64 r0.Radix, .int .i64 r0.Wait, w_r0_Queue, .int .i64 r0.Word, .int .i64 r0.State, .int .i64 r0.Owing, .int .i64 r0.Badge, .int .i64 r0.Prio, .int .i64 r0.On, .int .i64 r0.Owes, .int .i64 r0.Root.Kind, .int .i64 r0.Root.Rights, .int .i64 r0.Root.Obj, .int .i64 r0.Root.Badge, .int .i64 r0.Root.Guard, .int .i64 r0.Root.Bits, .int .i64 r0.Pages.a0, .int .i64 r0.Pages.a1, .int .i64 r0.Pages.a2, .int .i64 r0.Pages.a3, .int .i64 r0.Right.a0, .int .i64 r0.Right.a1, .int .i64 r0.Right.a2, .int .i64 r0.Right.a3, .int .i64 r0.In, .int .i64 r0.Page, .int .i64 r0.Bound, .int .i64 r0.Mask] ∧ H' = [Own 3 (ekI .i64) w_r0_Queue r0.Queue]) := by
  unfold ref10_Fresh.f at h
  refine Ct.intro (n := 6) Try.func27 rfl rfl rfl ?_
  intro R w0 F hF hR
  refine S.seq ?_
  refine S.region ?_
  refine SO.alloc rfl Try.zeroValue38 rfl (fun b1 => ?_)
  refine SO.nil ?_
  refine S.seq ?_
  refine S.region ?_
  refine SO.v rfl (opv_move rfl) ?_
  refine SO.v rfl (opv_build (v := .agg #[.int .i64 (-1), .int .i64 (-1), .int .i64 (-1), .int .i64 (-1)]) rfl (by intro w; kernel_rfl)) ?_
  refine SO.v rfl (opv_build (v := .agg #[.int .i64 a0, .int .i64 0, .int .i64 0, .int .i64 0, .int .i64 0, .int .i64 0, .slice none 0 0, .int .i64 0, .int .i64 0, .int .i64 (-1), .int .i64 0, .int .i64 0, .int .i64 (-1), .int .i64 (-1), .int .i64 0, .int .i64 0, .int .i64 0, .int .i64 0, .int .i64 0, .int .i64 0, .int .i64 (-1), .int .i64 (-1), .int .i64 (-1), .int .i64 (-1), .int .i64 0, .int .i64 0, .int .i64 0, .int .i64 0, .int .i64 (-1), .int .i64 0, .int .i64 (-1), .int .i64 0]) rfl (by intro w; kernel_rfl)) ?_
  refine SO.storeN Try.sizeOf38 rfl rfl rfl rfl rfl rfl ?_
  refine SO.nil ?_
  cases h
  refine S.newOwn 3 (ekI .i64) ?_
  refine S.b2 ?_
  refine S.b1 ?_
  refine S.b2 ?_
  exact S.retC Try.func27 rfl rfl Try.isAgg38 Try.sizeOf38 rfl rfl (fun w hs hk => hR w _ _ ⟨(.slice none 0 0), rfl, rfl⟩ hs.drop hk)
end Go.Proofs
namespace Go.Proofs
open Go.Sl Go.RowKit
/-! 26 padstone/padstoneref10.New -/
def ref10_New.l1 : Nat → (Int × (List ref10_Slot)) → Option ((List ref10_Slot))
  | 0, _ => none
  | k + 1, (x2_1, y1_0_1) => bif decide (x2_1 < 96) then ((app y1_0_1 ([(⟨(⟨0, 0, 0, 0, 0, 0⟩ : api_Cap), -1, []⟩ : ref10_Slot)])).bind fun zs5 => ref10_New.l1  k (w64 (x2_1 + 1), zs5)) else (some y1_0_1)
def ref10_New.l2 : Nat → (Int × (List ref10_Obj)) → Option ((List ref10_Obj))
  | 0, _ => none
  | k + 1, (x3_2, y1_1_2) => bif decide (x3_2 < 32) then ((ref10_Fresh.f 0).bind fun t10 => (app y1_1_2 ([t10])).bind fun zs17 => ref10_New.l2  k (w64 (x3_2 + 1), zs17)) else (some y1_1_2)
def ref10_New.f (k : Nat) : Option (ref10_State) :=
  (ref10_New.l1 k (0, [])).bind fun y1_0_e1 => (ref10_New.l2 k (0, [])).bind fun y1_1_e2 => some (⟨y1_0_e1, y1_1_e2, 0, 0⟩ : ref10_State)
set_option maxHeartbeats 8000000 in
set_option maxRecDepth 100000 in
theorem ref10_New.ct (k : Nat) (r0 : ref10_State) (h : ref10_New.f k  = some r0) :
    Ct Try.prog 26 [] (fun _ => True) [] (fun u H' => ∃ b_r0 w_r0_Slots w_r0_Objs, u = bp b_r0 0 ∧ H' = [Box b_r0 [w_r0_Slots, w_r0_Objs, .int .i64 r0.NS, .int .i64 r0.NO], OwnR 71 kr_ref10_Slot w_r0_Slots r0.Slots, OwnR 38 kr_ref10_Obj w_r0_Objs r0.Objs]) := by
  unfold ref10_New.f at h
  refine Ct.intro (n := 35) Try.func26 rfl rfl rfl ?_
  intro R w0 F hF hR
  refine S.seq ?_
  refine S.region ?_
  refine SO.v rfl (opv_assign rfl) ?_
  refine SO.nil ?_
  refine S.seq ?_
  refine S.region ?_
  refine SO.v rfl (opv_build (v := .agg #[.slice none 0 0, .slice none 0 0, .int .i64 0, .int .i64 0]) rfl (by intro w; kernel_rfl)) ?_
  refine SO.box rfl rfl rfl (fun b1 => ?_)
  refine SO.v rfl (opv_assign rfl) ?_
  refine SO.nil ?_
  refine S.seq ?_
  refine S.seq ?_
  refine S.region ?_
  refine SO.v rfl (opv_assign rfl) ?_
  refine SO.nil ?_
  obtain ⟨y1_0_e1, hl1, h⟩ := opt_bind h
  refine S.newOwnR 71 kr_ref10_Slot ?_
  refine S.b2 ?_
  refine S.b2 ?_
  refine S.b2 ?_
  refine S.to (ρ' := [(2, .int .i64 0), (1, bp b1 0), (0, .pointer none)]) ⟨rfl, rfl, rfl, trivial⟩ ?_
  refine S.forloop (X := (Int × (List ref10_Slot)) × Value) (O := (List ref10_Slot)) (fun m x => ref10_New.l1  m x.1) (fun x => match x with | ((x2_1, y1_0_1), vy1_0_1) => [(2, .int .i64 x2_1), (1, bp b1 0), (0, .pointer none)]) (fun x => match x with | ((x2_1, y1_0_1), vy1_0_1) => [OwnR 71 kr_ref10_Slot vy1_0_1 y1_0_1, Box b1 [vy1_0_1, .slice none 0 0, .int .i64 0, .int .i64 0], F]) (fun Sk => (fun y1_0_e1 => ∀ vy1_0_e1 : Value, Sk [(0, .pointer none), (1, bp b1 0)] [OwnR 71 kr_ref10_Slot vy1_0_e1 y1_0_e1, Box b1 [vy1_0_e1, .slice none 0 0, .int .i64 0, .int .i64 0], F])) (fun _ => rfl) ?_ (m := k) (x := ((0, []), .slice none 0 0)) hl1 ?_
  · clear h hl1
    intro k x o_1 h hK1 ih1
    obtain ⟨⟨x2_1, y1_0_1⟩, vy1_0_1⟩ := x
    replace h : ref10_New.l1  (k + 1) (x2_1, y1_0_1) = some o_1 := h
    first | rw [ref10_New.l1] at h | unfold ref10_New.l1 at h
    refine S.seq ?_
    refine S.seq ?_
    refine S.region ?_
    refine SO.v rfl (opv_move rfl) ?_
    refine SO.v rfl (opv_lss rfl rfl) ?_
    refine SO.nil ?_
    rcases bool_or (decide (x2_1 < 96)) with b2 | b2
    · replace h := cond_t b2 h
      refine S.condT rfl b2 ?_
      refine S.skip ?_
      refine S.seq ?_
      refine S.block ?_
      refine S.region ?_
      refine SO.v rfl (opv_move rfl) ?_
      refine SO.v rfl (opv_move rfl) ?_
      refine SO.v rfl (opv_nilCheck rfl) ?_
      refine SO.v rfl (opv_fieldAddr Try.underlying42 rfl Try.sizeOf39 rfl rfl) ?_
      refine SO.b1 ?_
      refine SO.load1 rfl Try.isAgg39 rfl rfl ?_
      refine SO.v rfl (opv_build (v := .agg #[.int .i64 0, .int .i64 0, .int .i64 0, .int .i64 0, .int .i64 0, .int .i64 0, .int .i64 (-1), .slice none 0 0]) rfl (by intro w; kernel_rfl)) ?_
      refine SO.emp ?_
      refine SO.buildSliceR1 (K := kr_ref10_Slot) (y := (⟨(⟨0, 0, 0, 0, 0, 0⟩ : api_Cap), -1, []⟩ : ref10_Slot)) (cs := [.int .i64 0, .int .i64 0, .int .i64 0, .int .i64 0, .int .i64 0, .int .i64 0, .int .i64 (-1), .slice none 0 0]) rfl Try.underlying39 Try.sizeOf71 Try.zeroValue71 rfl rfl (by kernel_rfl) ⟨rfl, rfl, rfl, rfl, rfl, rfl, rfl, Rd.nil0, trivial⟩ (fun v3 => ?_)
      obtain ⟨zs5, hz6, h⟩ := opt_bind h
      refine SO.b2 ?_
      refine SO.b1 ?_
      refine SO.b1 ?_
      refine SO.appendR rfl Try.underlying39 inf71 rfl rfl rfl (by decide) rfl rfl rfl hz6 (fun v7 => ?_)
      refine SO.v rfl (opv_nilCheck rfl) ?_
      refine SO.v rfl (opv_fieldAddr Try.underlying42 rfl Try.sizeOf39 rfl rfl) ?_
      refine SO.oneR fun h18 => ?_
      refine SO.b1 ?_
      refine SO.store1 Try.sizeOf39 rfl rfl h18 rfl ?_
      refine SO.nil ?_
      refine S.inBlock ?_
      refine S.region ?_
      refine SO.v rfl (opv_move rfl) ?_
      refine SO.v rfl (opv_add rfl rfl) ?_
      refine SO.v rfl (opv_assign rfl) ?_
      refine SO.nil ?_
      refine S.b2 ?_
      refine S.b1 ?_
      refine S.b2 ?_
      refine S.to ?_ (ih1 ((w64 (x2_1 + 1), zs5), v7) h)
      exact ⟨rfl, rfl, rfl, trivial⟩
    · replace h := cond_f b2 h
      refine S.condF rfl b2 ?_
      refine S.exit rfl ?_
      cases h
      refine S.b2 ?_
      refine S.b2 ?_
      refine S.b2 ?_
      refine S.to ?_ (hK1 vy1_0_1)
      exact ⟨rfl, rfl, trivial⟩
  rintro vy1_0_e1
  refine S.seq ?_
  refine S.seq ?_
  refine S.region ?_
  refine SO.v rfl (opv_assign rfl) ?_
  refine SO.nil ?_
  obtain ⟨y1_1_e2, hl2, h⟩ := opt_bind h
  refine S.newOwnR 38 kr_ref10_Obj ?_
  refine S.b3 ?_
  refine S.b3 ?_
  refine S.b3 ?_
  refine S.b3 ?_
  refine S.to (ρ' := [(3, .int .i64 0), (0, .pointer none), (1, bp b1 0)]) ⟨rfl, rfl, rfl, trivial⟩ ?_
  refine S.forloop (X := (Int × (List ref10_Obj)) × Value) (O := (List ref10_Obj)) (fun m x => ref10_New.l2  m x.1) (fun x => match x with | ((x3_2, y1_1_2), vy1_1_2) => [(3, .int .i64 x3_2), (0, .pointer none), (1, bp b1 0)]) (fun x => match x with | ((x3_2, y1_1_2), vy1_1_2) => [OwnR 38 kr_ref10_Obj vy1_1_2 y1_1_2, OwnR 71 kr_ref10_Slot vy1_0_e1 y1_0_e1, Box b1 [vy1_0_e1, vy1_1_2, .int .i64 0, .int .i64 0], F]) (fun Sk => (fun y1_1_e2 => ∀ vy1_1_e2 : Value, Sk [(0, .pointer none), (1, bp b1 0)] [OwnR 38 kr_ref10_Obj vy1_1_e2 y1_1_e2, OwnR 71 kr_ref10_Slot vy1_0_e1 y1_0_e1, Box b1 [vy1_0_e1, vy1_1_e2, .int .i64 0, .int .i64 0], F])) (fun _ => rfl) ?_ (m := k) (x := ((0, []), .slice none 0 0)) hl2 ?_
  · clear h hl2
    intro k x o_2 h hK2 ih2
    obtain ⟨⟨x3_2, y1_1_2⟩, vy1_1_2⟩ := x
    replace h : ref10_New.l2  (k + 1) (x3_2, y1_1_2) = some o_2 := h
    first | rw [ref10_New.l2] at h | unfold ref10_New.l2 at h
    refine S.seq ?_
    refine S.seq ?_
    refine S.region ?_
    refine SO.v rfl (opv_move rfl) ?_
    refine SO.v rfl (opv_lss rfl rfl) ?_
    refine SO.nil ?_
    rcases bool_or (decide (x3_2 < 32)) with b9 | b9
    · replace h := cond_t b9 h
      refine S.condT rfl b9 ?_
      refine S.skip ?_
      refine S.seq ?_
      refine S.block ?_
      obtain ⟨t10, ht11, h⟩ := opt_bind h
      obtain ⟨zs17, hz18, h⟩ := opt_bind h
      refine S.draw' (Z := fun Q => ∀ (_ : Unit) (_ : Unit) (_ : Unit) (_ : Unit) (_ : Unit) (_ : Unit) (_ : Unit) (v19 : Value) (_ : Unit) (_ : Unit) (_ : Unit) (_ : Unit), Q [(21, .bool (decide (x3_2 < 32))), (20, .int .i64 x3_2), (3, .int .i64 x3_2), (0, .pointer none), (1, bp b1 0), (24, bp b1 0), (25, bp b1 0), (26, bp b1 0), (27, bp b1 1), (28, vy1_1_2), (31, v19), (32, bp b1 0), (33, bp b1 1)] [OwnR 38 kr_ref10_Obj v19 zs17, Box b1 [vy1_0_e1, v19, .int .i64 0, .int .i64 0], OwnR 71 kr_ref10_Slot vy1_0_e1 y1_0_e1, F]) (T := [tS 1 (bp b1 0), tE [(21, .bool (decide (x3_2 < 32))), (20, .int .i64 x3_2), (3, .int .i64 x3_2), (0, .pointer none)], tR (OwnR 38 kr_ref10_Obj vy1_1_2 y1_1_2), tR (OwnR 71 kr_ref10_Slot vy1_0_e1 y1_0_e1), tR (Box b1 [vy1_0_e1, vy1_1_2, .int .i64 0, .int .i64 0]), tR (F), tS 24 (bp b1 0), tS 25 (bp b1 0), tS 26 (bp b1 0), tS 27 (bp b1 1), tS 28 (vy1_1_2), ⟨Value, [29], (fun u12_Queue => [(29, .agg #[.int .i64 t10.Kind, .int .i64 t10.Size, .int .i64 t10.Used, .int .i64 t10.First, .int .i64 t10.Radix, .int .i64 t10.Wait, u12_Queue, .int .i64 t10.Word, .int .i64 t10.State, .int .i64 t10.Owing, .int .i64 t10.Badge, .int .i64 t10.Prio, .int .i64 t10.On, .int .i64 t10.Owes, .int .i64 t10.Root.Kind, .int .i64 t10.Root.Rights, .int .i64 t10.Root.Obj, .int .i64 t10.Root.Badge, .int .i64 t10.Root.Guard, .int .i64 t10.Root.Bits, .int .i64 t10.Pages.a0, .int .i64 t10.Pages.a1, .int .i64 t10.Pages.a2, .int .i64 t10.Pages.a3, .int .i64 t10.Right.a0, .int .i64 t10.Right.a1, .int .i64 t10.Right.a2, .int .i64 t10.Right.a3, .int .i64 t10.In, .int .i64 t10.Page, .int .i64 t10.Bound, .int .i64 t10.Mask])]), (fun u12_Queue => [Own 3 (ekI .i64) u12_Queue t10.Queue]), fun _ => rfl⟩, ⟨Value, [30], (fun v15 => [(30, v15)]), (fun v15 => [OwnR 38 kr_ref10_Obj v15 ([t10])]), fun _ => rfl⟩, ⟨Value, [31], (fun v19 => [(31, v19)]), (fun v19 => [OwnR 38 kr_ref10_Obj v19 zs17]), fun _ => rfl⟩, tS 32 (bp b1 0), tS 33 (bp b1 1), ⟨Value, [31], (fun v19 => [(31, v19)]), (fun v19 => [OwnR 38 kr_ref10_Obj v19 zs17, Box b1 [vy1_0_e1, v19, .int .i64 0, .int .i64 0]]), fun _ => rfl⟩]) (D := [⟨[0], [], [6]⟩, ⟨[0], [], [7]⟩, ⟨[7], [], [8]⟩, ⟨[8], [], [9]⟩, ⟨[9, 4], [], [10]⟩, ⟨[], [], [11]⟩, ⟨[], [11], [12]⟩, ⟨[10], [12, 2], [13]⟩, ⟨[6], [], [14]⟩, ⟨[14], [], [15]⟩, ⟨[15], [4, 13], [16]⟩]) (ini := [0, 1, 2, 3, 4, 5]) (fin := [1, 0, 6, 7, 8, 9, 10, 16, 14, 15, 3, 5]) (bf := [[], [], [1], [1, 2], [1, 2, 3], [], [5], [1, 2, 3, 4, 5, 6], [0, 1, 2, 3, 4, 5, 6, 7], [0, 1, 2, 3, 4, 5, 6, 7, 8], [0, 1, 2, 3, 4, 5, 6, 7, 8, 9]]) (by kernel_rfl) (by kernel_rfl) (fun x w h1 h2 => (.cons () (.cons () (.cons () (.cons () (.cons () (.cons () (.nil ⟨EnvAll.of h1 ⟨rfl, rfl, rfl, rfl, rfl, trivial⟩, h2⟩)))))))) (fun Q => by kernel_rfl) ⟨?_, ?_, ?_, ?_, ?_, ?_, ?_, ?_, ?_, ?_, ?_, trivial⟩ ?_
      · rintro Fr _
        refine SO.v rfl (opv_move rfl) ?_
        exact SO.nilZ fun a w h1 h2 h3 h4 h5 => PZ.of h1 h3 h5 (.cons () (.cons () (.nil ⟨EnvAll.of h2 ⟨rfl, rfl, trivial⟩, h4⟩)))
      · rintro Fr _
        refine SO.v rfl (opv_move rfl) ?_
        exact SO.nilZ fun a w h1 h2 h3 h4 h5 => PZ.of h1 h3 h5 (.cons () (.cons () (.nil ⟨EnvAll.of h2 ⟨rfl, rfl, trivial⟩, h4⟩)))
      · rintro Fr _
        refine SO.v rfl (opv_nilCheck rfl) ?_
        exact SO.nilZ fun a w h1 h2 h3 h4 h5 => PZ.of h1 h3 h5 (.cons () (.cons () (.nil ⟨EnvAll.of h2 ⟨rfl, rfl, trivial⟩, h4⟩)))
      · rintro Fr _
        refine SO.v rfl (opv_fieldAddr Try.underlying42 rfl Try.sizeOf40 rfl rfl) ?_
        exact SO.nilZ fun a w h1 h2 h3 h4 h5 => PZ.of h1 h3 h5 (.cons () (.cons () (.nil ⟨EnvAll.of h2 ⟨rfl, rfl, trivial⟩, h4⟩)))
      · rintro Fr _ _
        refine SO.load1 rfl Try.isAgg40 rfl rfl ?_
        exact SO.nilZ fun a w h1 h2 h3 h4 h5 => PZ.of h1 h3 h5 (.cons () (.cons () (.cons () (.nil ⟨EnvAll.of h2 ⟨rfl, rfl, trivial⟩, h4⟩))))
      · rintro Fr 
        refine SO.call (pre := []) rfl Try.call27 rfl rfl rfl (ref10_Fresh.ct _ _ ht11) trivial ?_
        rintro _ _ ⟨u12_Queue, rfl, rfl⟩
        refine SO.rd fun hr13 => ?_
        exact SO.nilZ fun a w h1 h2 h3 h4 h5 => PZ.of h1 h3 h5 (.cons u12_Queue (.nil ⟨EnvAll.of h2 ⟨rfl, trivial⟩, h4⟩))
      · rintro Fr u12_Queue
        refine SO.rd fun hr14 => ?_
        refine SO.buildSliceR1 (K := kr_ref10_Obj) (y := t10) (cs := [.int .i64 t10.Kind, .int .i64 t10.Size, .int .i64 t10.Used, .int .i64 t10.First, .int .i64 t10.Radix, .int .i64 t10.Wait, u12_Queue, .int .i64 t10.Word, .int .i64 t10.State, .int .i64 t10.Owing, .int .i64 t10.Badge, .int .i64 t10.Prio, .int .i64 t10.On, .int .i64 t10.Owes, .int .i64 t10.Root.Kind, .int .i64 t10.Root.Rights, .int .i64 t10.Root.Obj, .int .i64 t10.Root.Badge, .int .i64 t10.Root.Guard, .int .i64 t10.Root.Bits, .int .i64 t10.Pages.a0, .int .i64 t10.Pages.a1, .int .i64 t10.Pages.a2, .int .i64 t10.Pages.a3, .int .i64 t10.Right.a0, .int .i64 t10.Right.a1, .int .i64 t10.Right.a2, .int .i64 t10.Right.a3, .int .i64 t10.In, .int .i64 t10.Page, .int .i64 t10.Bound, .int .i64 t10.Mask]) rfl Try.underlying40 Try.sizeOf38 Try.zeroValue38 rfl rfl (by kernel_rfl) ⟨rfl, rfl, rfl, rfl, rfl, rfl, hr14, rfl, rfl, rfl, rfl, rfl, rfl, rfl, rfl, rfl, rfl, rfl, rfl, rfl, rfl, rfl, rfl, rfl, rfl, rfl, rfl, rfl, rfl, rfl, rfl, rfl, trivial⟩ (fun v15 => ?_)
        exact SO.nilZ fun a w h1 h2 h3 h4 h5 => PZ.of h1 h3 h5 (.cons v15 (.nil ⟨EnvAll.of h2 ⟨rfl, trivial⟩, h4⟩))
      · rintro Fr _ v15 _
        refine SO.b1 ?_
        refine SO.b1 ?_
        refine SO.b1 ?_
        refine SO.appendR rfl Try.underlying40 inf38 rfl rfl rfl (by decide) rfl rfl rfl hz18 (fun v19 => ?_)
        exact SO.nilZ fun a w h1 h2 h3 h4 h5 => PZ.of h1 h3 h5 (.cons () (.cons v19 (.nil ⟨EnvAll.of h2 ⟨rfl, rfl, trivial⟩, h4⟩)))
      · rintro Fr _
        refine SO.v rfl (opv_nilCheck rfl) ?_
        exact SO.nilZ fun a w h1 h2 h3 h4 h5 => PZ.of h1 h3 h5 (.cons () (.cons () (.nil ⟨EnvAll.of h2 ⟨rfl, rfl, trivial⟩, h4⟩)))
      · rintro Fr _
        refine SO.v rfl (opv_fieldAddr Try.underlying42 rfl Try.sizeOf40 rfl rfl) ?_
        exact SO.nilZ fun a w h1 h2 h3 h4 h5 => PZ.of h1 h3 h5 (.cons () (.cons () (.nil ⟨EnvAll.of h2 ⟨rfl, rfl, trivial⟩, h4⟩)))
      · rintro Fr _ _ v19
        refine SO.b1 ?_
        refine SO.oneR fun h120 => ?_
        refine SO.b1 ?_
        refine SO.store1 Try.sizeOf40 rfl rfl h120 rfl ?_
        refine SO.b1 ?_
        exact SO.nilZ fun a w h1 h2 h3 h4 h5 => PZ.of h1 h3 h5 (.cons () (.cons v19 (.nil ⟨EnvAll.of h2 ⟨rfl, rfl, trivial⟩, h4⟩)))
      rintro _ _ _ _ _ _ _ v19 _ _ _ _
      refine S.to (ρ' := [(21, .bool (decide (x3_2 < 32))), (20, .int .i64 x3_2), (3, .int .i64 x3_2), (0, .pointer none), (1, bp b1 0), (24, bp b1 0), (25, bp b1 0), (26, bp b1 0), (27, bp b1 1), (28, vy1_1_2), (31, v19), (32, bp b1 0), (33, bp b1 1)]) ⟨rfl, rfl, rfl, rfl, rfl, rfl, rfl, rfl, rfl, rfl, rfl, rfl, rfl, trivial⟩ ?_
      refine S.inBlock ?_
      refine S.region ?_
      refine SO.v rfl (opv_move rfl) ?_
      refine SO.v rfl (opv_add rfl rfl) ?_
      refine SO.v rfl (opv_assign rfl) ?_
      refine SO.nil ?_
      refine S.b3 ?_
      refine S.b2 ?_
      refine S.b3 ?_
      refine S.b3 ?_
      refine S.to ?_ (ih2 ((w64 (x3_2 + 1), zs17), v19) h)
      exact ⟨rfl, rfl, rfl, trivial⟩
    · replace h := cond_f b9 h
      refine S.condF rfl b9 ?_
      refine S.exit rfl ?_
      cases h
      refine S.b3 ?_
      refine S.b3 ?_
      refine S.b3 ?_
      refine S.b3 ?_
      refine S.to ?_ (hK2 vy1_1_2)
      exact ⟨rfl, rfl, trivial⟩
  rintro vy1_1_e2
  refine S.seq ?_
  refine S.region ?_
  refine SO.v rfl (opv_move rfl) ?_
  refine SO.v rfl (opv_assign rfl) ?_
  refine SO.nil ?_
  cases h
  refine S.b3 ?_
  refine S.b1 ?_
  refine S.b2 ?_
  refine S.b3 ?_
  exact S.ret1 Try.func26 rfl rfl (fun w hs hk => hR w _ _ ⟨b1, vy1_0_e1, vy1_1_e2, rfl, rfl⟩ hs hk)
end Go.Proofs
