/- What the functions that CdtPlays reaches come to, and that they do. On no condition. -/
import Derived.Test.YtbhboofhcgkgfaaFr1
import Derived.Test.YtbhboofhcgkgfaaProg
set_option linter.all false
namespace Go.Proofs
open Go.Sl Go.RowKit
theorem inf3 : Try.prog.info? 3 = some Try.t3 := by kernel_rfl
theorem inf46 : Try.prog.info? 46 = some Try.t46 := by kernel_rfl
theorem inf53 : Try.prog.info? 53 = some Try.t53 := by kernel_rfl
theorem inf56 : Try.prog.info? 56 = some Try.t56 := by kernel_rfl
theorem inf65 : Try.prog.info? 65 = some Try.t65 := by kernel_rfl
structure api_Cap where
  Kind : Int
  Rights : Int
  Obj : Int
  Badge : Int
  Guard : Int
  Bits : Int
  deriving DecidableEq, Inhabited
def ek_api_Cap : EK api_Cap := ⟨6, fun x => [.int .i64 x.Kind, .int .i64 x.Rights, .int .i64 x.Obj, .int .i64 x.Badge, .int .i64 x.Guard, .int .i64 x.Bits], fun _ => rfl, fun x v hv => by
  simp only [List.mem_cons, List.not_mem_nil, or_false] at hv
  rcases hv with rfl | rfl | rfl | rfl | rfl | rfl <;> rfl, by decide⟩
theorem eqI_api_Cap (x y : api_Cap) : eqI [x.Kind, x.Rights, x.Obj, x.Badge, x.Guard, x.Bits] [y.Kind, y.Rights, y.Obj, y.Badge, y.Guard, y.Bits] = decide (x = y) := by
  cases x; cases y
  rw [Bool.eq_iff_iff]
  simp [eqI]
theorem fi_api_Cap : ∀ fs, Try.prog.underlying 44 = some (.struct fs) → FI Try.prog fs.toList 0 [.i64, .i64, .i64, .i64, .i64, .i64] := by
  intro fs h
  rw [Try.underlying44] at h
  injection h with h
  injection h with h
  subst h
  exact ⟨by decide, Try.underlying3, rfl, ⟨by decide, Try.underlying3, rfl, ⟨by decide, Try.underlying3, rfl, ⟨by decide, Try.underlying3, rfl, ⟨by decide, Try.underlying3, rfl, ⟨by decide, Try.underlying3, rfl, trivial⟩⟩⟩⟩⟩⟩
theorem eq_eql_api_Cap {ρ : Env} {t2 : TypeId} {x y : api_Cap} {a b : Operand} (ha : ev ρ a = some (.agg (encI [.i64, .i64, .i64, .i64, .i64, .i64] [x.Kind, x.Rights, x.Obj, x.Badge, x.Guard, x.Bits]).toArray)) (hb : ev ρ b = some (.agg (encI [.i64, .i64, .i64, .i64, .i64, .i64] [y.Kind, y.Rights, y.Obj, y.Badge, y.Guard, y.Bits]).toArray)) : OpV Try.prog ρ (.binOp .eql 44 a b t2) (.bool (decide (x = y))) :=
  opv_eqlS Try.underlying44 Try.stoodInHeld44 Try.eqGuardType44 (fi_api_Cap _ Try.underlying44) rfl rfl ha hb (by rw [eqI_api_Cap])
theorem eq_neq_api_Cap {ρ : Env} {t2 : TypeId} {x y : api_Cap} {a b : Operand} (ha : ev ρ a = some (.agg (encI [.i64, .i64, .i64, .i64, .i64, .i64] [x.Kind, x.Rights, x.Obj, x.Badge, x.Guard, x.Bits]).toArray)) (hb : ev ρ b = some (.agg (encI [.i64, .i64, .i64, .i64, .i64, .i64] [y.Kind, y.Rights, y.Obj, y.Badge, y.Guard, y.Bits]).toArray)) : OpV Try.prog ρ (.binOp .neq 44 a b t2) (.bool (!decide (x = y))) :=
  opv_neqS Try.underlying44 Try.stoodInHeld44 Try.eqGuardType44 (fi_api_Cap _ Try.underlying44) rfl rfl ha hb (by rw [eqI_api_Cap])
structure ref10_Obj where
  Kind : Int
  Size : Int
  Used : Int
  First : Int
  Radix : Int
  Wait : Int
  Queue : List Int
  Word : Int
  State : Int
  Owing : Int
  Badge : Int
  Prio : Int
  On : Int
  Owes : Int
  Root : api_Cap
  Pages : A4
  Right : A4
  In : Int
  Page : Int
  Bound : Int
  Mask : Int
  deriving DecidableEq, Inhabited
def kr_ref10_Obj : EKR ref10_Obj := ⟨32, fun x => [.val (.int .i64 x.Kind), .val (.int .i64 x.Size), .val (.int .i64 x.Used), .val (.int .i64 x.First), .val (.int .i64 x.Radix), .val (.int .i64 x.Wait), .sl (ekI .i64) x.Queue, .val (.int .i64 x.Word), .val (.int .i64 x.State), .val (.int .i64 x.Owing), .val (.int .i64 x.Badge), .val (.int .i64 x.Prio), .val (.int .i64 x.On), .val (.int .i64 x.Owes), .val (.int .i64 x.Root.Kind), .val (.int .i64 x.Root.Rights), .val (.int .i64 x.Root.Obj), .val (.int .i64 x.Root.Badge), .val (.int .i64 x.Root.Guard), .val (.int .i64 x.Root.Bits), .val (.int .i64 x.Pages.a0), .val (.int .i64 x.Pages.a1), .val (.int .i64 x.Pages.a2), .val (.int .i64 x.Pages.a3), .val (.int .i64 x.Right.a0), .val (.int .i64 x.Right.a1), .val (.int .i64 x.Right.a2), .val (.int .i64 x.Right.a3), .val (.int .i64 x.In), .val (.int .i64 x.Page), .val (.int .i64 x.Bound), .val (.int .i64 x.Mask)], fun _ => rfl, fun x v hv => by
  simp only [List.mem_cons, List.not_mem_nil, or_false, CellP.val.injEq, reduceCtorEq, false_or] at hv
  rcases hv with rfl | rfl | rfl | rfl | rfl | rfl | rfl | rfl | rfl | rfl | rfl | rfl | rfl | rfl | rfl | rfl | rfl | rfl | rfl | rfl | rfl | rfl | rfl | rfl | rfl | rfl | rfl | rfl | rfl | rfl | rfl <;> rfl, by decide⟩
structure ref10_Slot where
  Cap : api_Cap
  Parent : Int
  Kids : List Int
  deriving DecidableEq, Inhabited
def kr_ref10_Slot : EKR ref10_Slot := ⟨8, fun x => [.val (.int .i64 x.Cap.Kind), .val (.int .i64 x.Cap.Rights), .val (.int .i64 x.Cap.Obj), .val (.int .i64 x.Cap.Badge), .val (.int .i64 x.Cap.Guard), .val (.int .i64 x.Cap.Bits), .val (.int .i64 x.Parent), .sl (ekI .i64) x.Kids], fun _ => rfl, fun x v hv => by
  simp only [List.mem_cons, List.not_mem_nil, or_false, CellP.val.injEq, reduceCtorEq, false_or] at hv
  rcases hv with rfl | rfl | rfl | rfl | rfl | rfl | rfl <;> rfl, by decide⟩
structure ref10_State where
  Slots : List ref10_Slot
  Objs : List ref10_Obj
  NS : Int
  NO : Int
  deriving DecidableEq, Inhabited
structure law10_Deed where
  What : Int
  A : Int
  B : Int
  deriving DecidableEq, Inhabited
def ek_law10_Deed : EK law10_Deed := ⟨3, fun x => [.int .i64 x.What, .int .i64 x.A, .int .i64 x.B], fun _ => rfl, fun x v hv => by
  simp only [List.mem_cons, List.not_mem_nil, or_false] at hv
  rcases hv with rfl | rfl | rfl <;> rfl, by decide⟩
theorem eqI_law10_Deed (x y : law10_Deed) : eqI [x.What, x.A, x.B] [y.What, y.A, y.B] = decide (x = y) := by
  cases x; cases y
  rw [Bool.eq_iff_iff]
  simp [eqI]
theorem fi_law10_Deed : ∀ fs, Try.prog.underlying 29 = some (.struct fs) → FI Try.prog fs.toList 0 [.i64, .i64, .i64] := by
  intro fs h
  rw [Try.underlying29] at h
  injection h with h
  injection h with h
  subst h
  exact ⟨by decide, Try.underlying3, rfl, ⟨by decide, Try.underlying3, rfl, ⟨by decide, Try.underlying3, rfl, trivial⟩⟩⟩
theorem eq_eql_law10_Deed {ρ : Env} {t2 : TypeId} {x y : law10_Deed} {a b : Operand} (ha : ev ρ a = some (.agg (encI [.i64, .i64, .i64] [x.What, x.A, x.B]).toArray)) (hb : ev ρ b = some (.agg (encI [.i64, .i64, .i64] [y.What, y.A, y.B]).toArray)) : OpV Try.prog ρ (.binOp .eql 29 a b t2) (.bool (decide (x = y))) :=
  opv_eqlS Try.underlying29 Try.stoodInHeld29 Try.eqGuardType29 (fi_law10_Deed _ Try.underlying29) rfl rfl ha hb (by rw [eqI_law10_Deed])
theorem eq_neq_law10_Deed {ρ : Env} {t2 : TypeId} {x y : law10_Deed} {a b : Operand} (ha : ev ρ a = some (.agg (encI [.i64, .i64, .i64] [x.What, x.A, x.B]).toArray)) (hb : ev ρ b = some (.agg (encI [.i64, .i64, .i64] [y.What, y.A, y.B]).toArray)) : OpV Try.prog ρ (.binOp .neq 29 a b t2) (.bool (!decide (x = y))) :=
  opv_neqS Try.underlying29 Try.stoodInHeld29 Try.eqGuardType29 (fi_law10_Deed _ Try.underlying29) rfl rfl ha hb (by rw [eqI_law10_Deed])
end Go.Proofs
namespace Go.Proofs
open Go.Sl Go.RowKit
/-! 51 (padstone/view.Plain).has -/
def view_Plain_has.f (a0 : List Int) (a1 : Int) : Option (Bool) :=
  some ((decide (0 ≤ a1)) && (decide (a1 < (a0.length : Int))))
set_option maxHeartbeats 8000000 in
set_option maxRecDepth 100000 in
theorem view_Plain_has.ct (v0 : Value) (a0 : List Int) (a1 : Int) (r0 : Bool) (h : view_Plain_has.f a0 a1 = some r0) :
    Ct Try.prog 51 [v0, .int .i64 a1] (fun F => Rd (ekI .u64) v0 a0 F) [] (fun u H' => u = .bool r0 ∧ H' = []) := by
  unfold view_Plain_has.f at h
  refine Ct.intro (n := 13) Try.func51 rfl rfl rfl ?_
  intro R w0 F hF hR
  have hF0 := hF
  refine S.seq ?_
  refine S.region ?_
  refine SO.v rfl (opv_assign rfl) ?_
  refine SO.nil ?_
  refine S.seq ?_
  refine S.region ?_
  refine SO.v rfl (opv_move rfl) ?_
  refine SO.v rfl (opv_geq rfl rfl) ?_
  refine SO.v rfl (opv_move rfl) ?_
  refine SO.cut 5 12 (.bool ((decide (0 ≤ a1)) && (decide (a1 < (a0.length : Int))))) [F] (fun l2 hk2 => ?_) ?_
  · rcases bool_or (decide (0 ≤ a1)) with b1 | b1
    · refine SO.takeT rfl rfl rfl b1 ?_
      refine SO.v rfl (opv_move rfl) ?_
      refine SO.takeT rfl rfl rfl b1 ?_
      refine SO.v rfl (opv_move rfl) ?_
      refine SO.takeT rfl rfl rfl b1 ?_
      refine SO.v rfl (opv_lenR rfl Try.underlying27 hF0 rfl) ?_
      refine SO.takeT rfl rfl rfl b1 ?_
      refine SO.v rfl (opv_lss rfl rfl) ?_
      refine SO.v rfl (opv_pick_t' b1 rfl rfl) ?_
      exact hk2.fitc (m := 5) rfl (and_t b1) rfl
    · refine SO.passF rfl rfl rfl b1 rfl rfl ?_
      refine SO.passF rfl rfl rfl b1 rfl rfl ?_
      refine SO.passF rfl rfl rfl b1 rfl rfl ?_
      refine SO.passF rfl rfl rfl b1 rfl rfl ?_
      refine SO.v rfl (opv_pick_f' b1 rfl rfl) ?_
      exact hk2.fitc (m := 5) rfl (and_f b1) rfl
  refine SO.v rfl (opv_assign rfl) ?_
  refine SO.nil ?_
  cases h
  exact S.ret1 Try.func51 rfl rfl (fun w hs hk => hR w _ _ ⟨rfl, rfl⟩ hs hk)
end Go.Proofs
namespace Go.Proofs
open Go.Sl Go.RowKit
/-! 49 (padstone/view.Plain).Read -/
def view_Plain_Read.f (a0 : List Int) (a1 : Int) : Option (Int) :=
  (view_Plain_has.f a0 a1).bind fun t1 => bif !t1 then (some 0) else ((at_ a0 a1).bind fun x4 => some x4)
set_option maxHeartbeats 8000000 in
set_option maxRecDepth 100000 in
theorem view_Plain_Read.ct (v0 : Value) (a0 : List Int) (a1 : Int) (r0 : Int) (h : view_Plain_Read.f a0 a1 = some r0) :
    Ct Try.prog 49 [v0, .int .i64 a1] (fun F => Rd (ekI .u64) v0 a0 F) [] (fun u H' => u = .int .u64 r0 ∧ H' = []) := by
  unfold view_Plain_Read.f at h
  refine Ct.intro (n := 13) Try.func49 rfl rfl rfl ?_
  intro R w0 F hF hR
  have hF0 := hF
  refine S.seq ?_
  refine S.region ?_
  refine SO.v rfl (opv_assign rfl) ?_
  refine SO.nil ?_
  refine S.seq ?_
  refine S.seq ?_
  refine S.region ?_
  refine SO.v rfl (opv_move rfl) ?_
  refine SO.v rfl (opv_move rfl) ?_
  obtain ⟨t1, ht2, h⟩ := opt_bind h
  refine SO.call (pre := []) rfl Try.call51 rfl rfl rfl (view_Plain_has.ct v0 _ _ _ ht2) (Rd.head hF0) ?_
  rintro _ _ ⟨rfl, rfl⟩
  refine SO.v rfl (opv_not rfl) ?_
  refine SO.nil ?_
  rcases bool_or (!t1) with b3 | b3
  · replace h := cond_t b3 h
    refine S.condT rfl b3 ?_
    refine S.seq ?_
    refine S.region ?_
    refine SO.v rfl (opv_assign rfl) ?_
    refine SO.nil ?_
    cases h
    exact S.ret1 Try.func49 rfl rfl (fun w hs hk => hR w _ _ ⟨rfl, rfl⟩ hs hk)
  · replace h := cond_f b3 h
    refine S.condF rfl b3 ?_
    refine S.skip ?_
    refine S.seq ?_
    refine S.region ?_
    refine SO.v rfl (opv_move rfl) ?_
    refine SO.v rfl (opv_move rfl) ?_
    obtain ⟨x4, hx5, h⟩ := opt_bind h
    refine SO.v rfl (opv_idx Try.underlying27 Try.sizeOf65 hF0 rfl rfl hx5) ?_
    refine SO.loadI1 (j := 0) rfl Try.isAgg65 (Rd.head hF0) hx5 rfl rfl rfl rfl ?_
    refine SO.v rfl (opv_assign rfl) ?_
    refine SO.nil ?_
    refine S.to (ρ' := [(4, .int .u64 x4)]) ⟨rfl, trivial⟩ ?_
    cases h
    exact S.ret1 Try.func49 rfl rfl (fun w hs hk => hR w _ _ ⟨rfl, rfl⟩ hs hk)
end Go.Proofs
namespace Go.Proofs
open Go.Sl Go.RowKit
/-! 50 (padstone/view.Plain).Write -/
def view_Plain_Write.f (a0 : List Int) (a1 : Int) (a2 : Int) : Option ((List Int)) :=
  (view_Plain_has.f a0 a1).bind fun t2 => bif t2 then ((at_ a0 a1).bind fun x5 => some (a0.set a1.toNat a2)) else (some a0)
set_option maxHeartbeats 8000000 in
set_option maxRecDepth 100000 in
theorem view_Plain_Write.ct (v0 : Value) (a0 : List Int) (a1 : Int) (a2 : Int) (q0 : List Int) (h : view_Plain_Write.f a0 a1 a2 = some q0) :
    Ct Try.prog 50 [v0, .int .i64 a1, .int .u64 a2] (fun _ => True) [Own 65 (ekI .u64) v0 a0] (fun u H' => u = .tuple #[] ∧ H' = [Own 65 (ekI .u64) v0 q0]) := by
  unfold view_Plain_Write.f at h
  refine Ct.intro (n := 13) Try.func50 rfl rfl rfl ?_
  intro R w0 F hF hR
  refine S.rd fun hr1 => ?_
  refine S.seq ?_
  refine S.region ?_
  refine SO.v rfl (opv_move rfl) ?_
  refine SO.v rfl (opv_move rfl) ?_
  obtain ⟨t2, ht3, h⟩ := opt_bind h
  refine SO.call (pre := []) rfl Try.call51 rfl rfl rfl (view_Plain_has.ct v0 _ _ _ ht3) (Rd.head hr1) ?_
  rintro _ _ ⟨rfl, rfl⟩
  refine SO.nil ?_
  rcases bool_or t2 with b4 | b4
  · replace h := cond_t b4 h
    refine S.condT rfl b4 ?_
    refine S.region ?_
    refine SO.v rfl (opv_move rfl) ?_
    refine SO.v rfl (opv_move rfl) ?_
    refine SO.v rfl (opv_move rfl) ?_
    obtain ⟨x5, hx6, h⟩ := opt_bind h
    refine SO.v rfl (opv_idx Try.underlying27 Try.sizeOf65 hr1 rfl rfl hx6) ?_
    refine SO.storeI1 (j := 0) (z' := a2) Try.sizeOf65 hx6 rfl rfl rfl rfl rfl rfl ?_
    refine SO.rd fun hr7 => ?_
    refine SO.nil ?_
    refine S.to (ρ' := []) trivial ?_
    cases h
    refine S.b1 ?_
    refine S.b1 ?_
    exact S.fin0 Try.func50 rfl (fun w hs hk => hR w _ _ ⟨rfl, rfl⟩ hs hk)
  · replace h := cond_f b4 h
    refine S.condF rfl b4 ?_
    refine S.skip ?_
    cases h
    refine S.b1 ?_
    refine S.b1 ?_
    exact S.fin0 Try.func50 rfl (fun w hs hk => hR w _ _ ⟨rfl, rfl⟩ hs hk)
end Go.Proofs
namespace Go.Proofs
open Go.Sl Go.RowKit
/-! A list of one's own, as a view. -/
theorem read_ok (s : List Int) (i : Int) : ∃ r, view_Plain_Read.f s i = some r := by
  cases h : view_Plain_Read.f s i with
  | some r => exact ⟨r, rfl⟩
  | none =>
    exfalso
    revert h
    unfold view_Plain_Read.f view_Plain_has.f
    by_cases h1 : 0 ≤ i ∧ i < (s.length : Int)
    · have : s[i.toNat]? = some s[i.toNat] := List.getElem?_eq_getElem (by omega)
      simp [h1, at_, this]
    · have : (decide (0 ≤ i) && decide (i < (s.length : Int))) = false := by simpa using h1
      simp [this]
theorem write_ok (s : List Int) (i x : Int) : ∃ r, view_Plain_Write.f s i x = some r := by
  cases h : view_Plain_Write.f s i x with
  | some r => exact ⟨r, rfl⟩
  | none =>
    exfalso
    revert h
    unfold view_Plain_Write.f view_Plain_has.f
    by_cases h1 : 0 ≤ i ∧ i < (s.length : Int)
    · have : s[i.toNat]? = some s[i.toNat] := List.getElem?_eq_getElem (by omega)
      simp [h1, at_, this]
    · have : (decide (0 ≤ i) && decide (i < (s.length : Int))) = false := by simpa using h1
      simp [this]
abbrev plainI : VI := ⟨List Int, fun s i => ((view_Plain_Read.f s i).getD 0, s), fun s i x => (view_Plain_Write.f s i x).getD s⟩
theorem ofRd {P : Program} {g : FuncId} {vals : List Value} {α : Type} {E : TypeId} {K : EK α} {v : Value} {xs : List α} {u0 : Value} (h : Ct P g vals (fun F => Rd K v xs F) [] (fun u H' => u = u0 ∧ H' = [])) :
    Ct P g vals (fun _ => True) [Own E K v xs] (fun u H' => u = u0 ∧ H' = [Own E K v xs]) := by
  intro w F _ hs
  have h2 : Sat w ([] ++ [stars [Own E K v xs, F]]) := Sat.pack (l1 := []) hs
  have hr : Rd K v xs (stars [Own E K v xs, F]) := by
    obtain ⟨m, hm, ho⟩ := Sat.head hs
    exact Rd.head (Own.rd ho)
  refine (h w _ hr h2).mono ?_
  rintro e w' ⟨u, H', he, ⟨hu, rfl⟩, hs', hk⟩
  exact ⟨u, _, he, ⟨hu, rfl⟩, Sat.unpack (l1 := []) hs', hk⟩
set_option maxRecDepth 100000 in
set_option maxHeartbeats 4000000 in
noncomputable def plainV (v : Value) : VW Try.prog :=
  { plainI with
    t := 27, v := v, rep := fun s => Own 65 (ekI .u64) v s
    rF := 49, rV := v, wF := 50, wV := v
    rM := by intro w; kernel_rfl
    wM := by intro w; kernel_rfl
    rC := Try.call49, wC := Try.call50
    rCt := fun s i => by
      obtain ⟨r, hr⟩ := read_ok s i
      have := ofRd (E := 65) (view_Plain_Read.ct v s i r hr)
      show Ct _ _ _ _ _ (fun u H' => u = .int .u64 ((view_Plain_Read.f s i).getD 0) ∧ H' = [Own 65 (ekI .u64) v s])
      rw [hr]; exact this
    wCt := fun s i x => by
      obtain ⟨r, hr⟩ := write_ok s i x
      have := view_Plain_Write.ct v s i x r hr
      show Ct _ _ _ _ _ (fun u H' => u = .tuple #[] ∧ H' = [Own 65 (ekI .u64) v ((view_Plain_Write.f s i x).getD s)])
      rw [hr]; exact this }
theorem plainV_rep (v : Value) (s : List Int) : (plainV v).rep s = Own 65 (ekI .u64) v s := rfl
theorem headEq {P : Program} {n : Nat} {Z : Act → World → Prop} {w0 : World} {ops : Array Oper} {l : List Oper} {ρ : Env} {A B : HProp} {rest : List HProp} (h : A = B) (k : SO P n Z w0 ops l ρ (B :: rest)) : SO P n Z w0 ops l ρ (A :: rest) := by
  subst h; exact k
end Go.Proofs
namespace Go.Proofs
open Go.Sl Go.RowKit
/-! 32 padstone/lay.in -/
def lay_in.f (a0 : Int) (a1 : Int) : Option (Bool) :=
  some ((decide (0 ≤ a0)) && (decide (a0 < a1)))
set_option maxHeartbeats 8000000 in
set_option maxRecDepth 100000 in
theorem lay_in.ct (a0 : Int) (a1 : Int) (r0 : Bool) (h : lay_in.f a0 a1 = some r0) :
    Ct Try.prog 32 [.int .i64 a0, .int .i64 a1] (fun _ => True) [] (fun u H' => u = .bool r0 ∧ H' = []) := by
  unfold lay_in.f at h
  refine Ct.intro (n := 12) Try.func32 rfl rfl rfl ?_
  intro R w0 F hF hR
  refine S.seq ?_
  refine S.region ?_
  refine SO.v rfl (opv_assign rfl) ?_
  refine SO.nil ?_
  refine S.seq ?_
  refine S.region ?_
  refine SO.v rfl (opv_move rfl) ?_
  refine SO.v rfl (opv_geq rfl rfl) ?_
  refine SO.v rfl (opv_move rfl) ?_
  refine SO.cut 4 11 (.bool ((decide (0 ≤ a0)) && (decide (a0 < a1)))) [F] (fun l2 hk2 => ?_) ?_
  · rcases bool_or (decide (0 ≤ a0)) with b1 | b1
    · refine SO.takeT rfl rfl rfl b1 ?_
      refine SO.v rfl (opv_move rfl) ?_
      refine SO.takeT rfl rfl rfl b1 ?_
      refine SO.v rfl (opv_move rfl) ?_
      refine SO.takeT rfl rfl rfl b1 ?_
      refine SO.v rfl (opv_lss rfl rfl) ?_
      refine SO.v rfl (opv_pick_t' b1 rfl rfl) ?_
      exact hk2.fitc (m := 4) rfl (and_t b1) rfl
    · refine SO.passF rfl rfl rfl b1 rfl rfl ?_
      refine SO.passF rfl rfl rfl b1 rfl rfl ?_
      refine SO.passF rfl rfl rfl b1 rfl rfl ?_
      refine SO.v rfl (opv_pick_f' b1 rfl rfl) ?_
      exact hk2.fitc (m := 4) rfl (and_f b1) rfl
  refine SO.v rfl (opv_assign rfl) ?_
  refine SO.nil ?_
  cases h
  exact S.ret1 Try.func32 rfl rfl (fun w hs hk => hR w _ _ ⟨rfl, rfl⟩ hs hk)
end Go.Proofs
namespace Go.Proofs
open Go.Sl Go.RowKit
/-! 31 padstone/lay.Slot -/
def lay_Slot.f (a0 : Int) (a1 : Int) : Option ((Int × Bool)) :=
  (lay_in.f a0 96).bind fun t1 => (bif !t1 then (some true) else ((lay_in.f a1 5).bind fun t6 => some (!t6))).bind fun c4 => bif c4 then (some (0, false)) else (some (w64 ((w64 (a0 * 5)) + a1), true))
set_option maxHeartbeats 8000000 in
set_option maxRecDepth 100000 in
theorem lay_Slot.ct (a0 : Int) (a1 : Int) (r0 : Int) (r1 : Bool) (h : lay_Slot.f a0 a1 = some (r0, r1)) :
    Ct Try.prog 31 [.int .i64 a0, .int .i64 a1] (fun _ => True) [] (fun u H' => u = .tuple #[.int .i64 r0, .bool r1] ∧ H' = []) := by
  unfold lay_Slot.f at h
  refine Ct.intro (n := 18) Try.func31 rfl rfl rfl ?_
  intro R w0 F hF hR
  refine S.seq ?_
  refine S.region ?_
  refine SO.v rfl (opv_assign rfl) ?_
  refine SO.v rfl (opv_assign rfl) ?_
  refine SO.nil ?_
  refine S.seq ?_
  refine S.seq ?_
  refine S.region ?_
  refine SO.v rfl (opv_move rfl) ?_
  obtain ⟨t1, ht2, h⟩ := opt_bind h
  refine SO.call (pre := []) rfl Try.call32 rfl rfl rfl (lay_in.ct _ _ _ ht2) trivial ?_
  rintro _ _ ⟨rfl, rfl⟩
  refine SO.v rfl (opv_not rfl) ?_
  refine SO.v rfl (opv_move rfl) ?_
  obtain ⟨c4, hc5, hgk⟩ := opt_bind h
  refine SO.cut 4 13 (.bool c4) [F] (fun l2 hk2 => ?_) ?_
  · clear hgk
    replace h := hc5
    rcases bool_or (!t1) with b3 | b3
    · replace h := cond_t b3 h
      refine SO.passF rfl rfl rfl b3 rfl rfl ?_
      refine SO.passF rfl rfl rfl b3 rfl rfl ?_
      refine SO.passF rfl rfl rfl b3 rfl rfl ?_
      cases h
      refine SO.v rfl (opv_pick_t' b3 rfl rfl) ?_
      exact hk2.fitc (m := 4) rfl (rfl) rfl
    · replace h := cond_f b3 h
      refine SO.takeT rfl rfl rfl b3 ?_
      refine SO.v rfl (opv_move rfl) ?_
      refine SO.takeT rfl rfl rfl b3 ?_
      obtain ⟨t6, ht7, h⟩ := opt_bind h
      refine SO.call (pre := []) rfl Try.call32 rfl rfl rfl (lay_in.ct _ _ _ ht7) trivial ?_
      rintro _ _ ⟨rfl, rfl⟩
      refine SO.takeT rfl rfl rfl b3 ?_
      refine SO.v rfl (opv_not rfl) ?_
      cases h
      refine SO.v rfl (opv_pick_f' b3 rfl rfl) ?_
      exact hk2.fitc (m := 4) rfl (rfl) rfl
  clear hc5
  replace h := hgk
  refine SO.nil ?_
  rcases bool_or c4 with b8 | b8
  · replace h := cond_t b8 h
    refine S.condT rfl b8 ?_
    refine S.seq ?_
    refine S.region ?_
    refine SO.v rfl (opv_assign rfl) ?_
    refine SO.v rfl (opv_assign rfl) ?_
    refine SO.nil ?_
    refine S.to (ρ' := [(4, .int .i64 0), (5, .bool false)]) ⟨rfl, rfl, trivial⟩ ?_
    cases h
    exact S.ret2 Try.func31 rfl rfl rfl (fun w hs hk => hR w _ _ ⟨rfl, rfl⟩ hs hk)
  · replace h := cond_f b8 h
    refine S.condF rfl b8 ?_
    refine S.skip ?_
    refine S.seq ?_
    refine S.region ?_
    refine SO.v rfl (opv_move rfl) ?_
    refine SO.v rfl (opv_mul rfl rfl) ?_
    refine SO.v rfl (opv_move rfl) ?_
    refine SO.v rfl (opv_add rfl rfl) ?_
    refine SO.v rfl (opv_assign rfl) ?_
    refine SO.v rfl (opv_assign rfl) ?_
    refine SO.nil ?_
    refine S.to (ρ' := [(4, .int .i64 (w64 ((w64 (a0 * 5)) + a1))), (5, .bool true)]) ⟨rfl, rfl, trivial⟩ ?_
    cases h
    exact S.ret2 Try.func31 rfl rfl rfl (fun w hs hk => hR w _ _ ⟨rfl, rfl⟩ hs hk)
end Go.Proofs
namespace Go.Proofs
open Go.Sl Go.RowKit
/-! 24 padstone/cdt.get -/
def cdt_get.f (a1 : Int) (a2 : Int) : VM (Int) :=
  (VM.opt (lay_Slot.f a1 a2)).bind fun (t1, t2) => bif !t2 then (VM.ret (-1)) else (VM.rd t1 fun t5 => bif (decide (t5 < 1)) || (decide (96 < t5)) then (VM.ret (-1)) else (VM.ret (w64 ((w64 t5) - 1))))
set_option maxHeartbeats 8000000 in
set_option maxRecDepth 100000 in
theorem cdt_get.ct (V : VW Try.prog) (a1 : Int) (a2 : Int) (r0 : Int) (s s' : V.S) (h : VM.run V.toVI (cdt_get.f a1 a2) s = some (r0, s')) :
    Ct Try.prog 24 [V.val, .int .i64 a1, .int .i64 a2] (fun _ => True) [V.rep s] (fun u H' => u = .int .i64 r0 ∧ H' = [V.rep s']) := by
  unfold cdt_get.f at h
  refine Ct.intro (n := 30) Try.func24 rfl rfl rfl ?_
  intro R w0 F hF hR
  refine S.seq ?_
  refine S.region ?_
  refine SO.v rfl (opv_assign rfl) ?_
  refine SO.nil ?_
  refine S.seq ?_
  refine S.region ?_
  refine SO.v rfl (opv_move rfl) ?_
  refine SO.v rfl (opv_move rfl) ?_
  obtain ⟨⟨t1, t2⟩, ht3, h⟩ := VM.opt_some V.toVI h
  refine SO.call (pre := []) rfl Try.call31 rfl rfl rfl (lay_Slot.ct _ _ _ _ ht3) trivial ?_
  rintro _ _ ⟨rfl, rfl⟩
  refine SO.v rfl (opv_move rfl) ?_
  refine SO.v rfl (opv_extract rfl rfl) ?_
  refine SO.v rfl (opv_extract rfl rfl) ?_
  refine SO.v rfl (opv_assign rfl) ?_
  refine SO.v rfl (opv_assign rfl) ?_
  refine SO.nil ?_
  refine S.to (ρ' := [(0, V.val), (6, .int .i64 0), (7, .int .i64 t1), (8, .bool t2)]) ⟨rfl, rfl, rfl, rfl, trivial⟩ ?_
  refine S.seq ?_
  refine S.seq ?_
  refine S.region ?_
  refine SO.v rfl (opv_move rfl) ?_
  refine SO.v rfl (opv_not rfl) ?_
  refine SO.nil ?_
  rcases bool_or (!t2) with b4 | b4
  · replace h := VM.cond_t V.toVI b4 h
    refine S.condT rfl b4 ?_
    refine S.seq ?_
    refine S.region ?_
    refine SO.v rfl (opv_assign rfl) ?_
    refine SO.nil ?_
    obtain ⟨hq, rfl⟩ := VM.ret_some V.toVI h
    cases hq
    refine S.b1 ?_
    refine S.b1 ?_
    exact S.ret1 Try.func24 rfl rfl (fun w hs hk => hR w _ _ ⟨rfl, rfl⟩ hs hk)
  · replace h := VM.cond_f V.toVI b4 h
    refine S.condF rfl b4 ?_
    refine S.skip ?_
    refine S.seq ?_
    refine S.region ?_
    refine SO.v rfl (opv_move rfl) ?_
    refine SO.v rfl (opv_move rfl) ?_
    obtain ⟨t5, s6, hv7, h⟩ := VM.rd_some V.toVI h
    refine SO.vread' V rfl rfl rfl hv7 ?_
    refine SO.v rfl (opv_assign rfl) ?_
    refine SO.nil ?_
    refine S.to (ρ' := [(6, .int .i64 0), (9, .int .u64 t5)]) ⟨rfl, rfl, trivial⟩ ?_
    refine S.seq ?_
    refine S.seq ?_
    refine S.region ?_
    refine SO.v rfl (opv_move rfl) ?_
    refine SO.v rfl (opv_lss rfl rfl) ?_
    refine SO.v rfl (opv_move rfl) ?_
    refine SO.cut 3 26 (.bool ((decide (t5 < 1)) || (decide (96 < t5)))) [V.rep s6, F] (fun l2 hk2 => ?_) ?_
    · rcases bool_or (decide (t5 < 1)) with b8 | b8
      · refine SO.passF rfl rfl rfl b8 rfl rfl ?_
        refine SO.passF rfl rfl rfl b8 rfl rfl ?_
        refine SO.v rfl (opv_pick_t' b8 rfl rfl) ?_
        refine SO.b1 ?_
        refine SO.b1 ?_
        exact hk2.fitc (m := 3) rfl (or_t b8) rfl
      · refine SO.takeT rfl rfl rfl b8 ?_
        refine SO.v rfl (opv_move rfl) ?_
        refine SO.takeT rfl rfl rfl b8 ?_
        refine SO.v rfl (opv_gtr rfl rfl) ?_
        refine SO.v rfl (opv_pick_f' b8 rfl rfl) ?_
        refine SO.b1 ?_
        refine SO.b1 ?_
        exact hk2.fitc (m := 3) rfl (or_f b8) rfl
    refine SO.nil ?_
    rcases bool_or ((decide (t5 < 1)) || (decide (96 < t5))) with b9 | b9
    · replace h := VM.cond_t V.toVI b9 h
      refine S.condT rfl b9 ?_
      refine S.seq ?_
      refine S.region ?_
      refine SO.v rfl (opv_assign rfl) ?_
      refine SO.nil ?_
      obtain ⟨hq, rfl⟩ := VM.ret_some V.toVI h
      cases hq
      refine S.b1 ?_
      refine S.b1 ?_
      exact S.ret1 Try.func24 rfl rfl (fun w hs hk => hR w _ _ ⟨rfl, rfl⟩ hs hk)
    · replace h := VM.cond_f V.toVI b9 h
      refine S.condF rfl b9 ?_
      refine S.skip ?_
      refine S.seq ?_
      refine S.region ?_
      refine SO.v rfl (opv_move rfl) ?_
      refine SO.v rfl (opv_conv Try.underlying65 Try.underlying3 rfl) ?_
      refine SO.v rfl (opv_sub rfl rfl) ?_
      refine SO.v rfl (opv_assign rfl) ?_
      refine SO.nil ?_
      refine S.to (ρ' := [(6, .int .i64 (w64 ((w64 t5) - 1)))]) ⟨rfl, trivial⟩ ?_
      obtain ⟨hq, rfl⟩ := VM.ret_some V.toVI h
      cases hq
      refine S.b1 ?_
      refine S.b1 ?_
      exact S.ret1 Try.func24 rfl rfl (fun w hs hk => hR w _ _ ⟨rfl, rfl⟩ hs hk)
end Go.Proofs
namespace Go.Proofs
open Go.Sl Go.RowKit
/-! 20 padstone/cdt.Kids -/
def cdt_Kids.l1 : Nat → (Int × (List Int)) → VM ((List Int))
  | 0, _ => VM.fail
  | k + 1, (x6_1, x5_1) => bif (x6_1 != (-1)) && (decide ((x5_1.length : Int) < 96)) then ((VM.opt (app x5_1 ([x6_1]))).bind fun zs9 => (cdt_get.f x6_1 3).bind fun t13 => cdt_Kids.l1  k (t13, zs9)) else (VM.ret x5_1)
def cdt_Kids.f (k : Nat) (a1 : Int) : VM ((List Int)) :=
  (cdt_get.f a1 2).bind fun t1 => (cdt_Kids.l1 k (t1, [])).bind fun j5_e1 => VM.ret j5_e1
set_option maxHeartbeats 8000000 in
set_option maxRecDepth 100000 in
theorem cdt_Kids.ct (V : VW Try.prog) (k : Nat) (a1 : Int) (r0 : List Int) (s s' : V.S) (h : VM.run V.toVI (cdt_Kids.f k a1) s = some (r0, s')) :
    Ct Try.prog 20 [V.val, .int .i64 a1] (fun _ => True) [V.rep s] (fun u H' => ∃ v_r0, u = v_r0 ∧ H' = [Own 3 (ekI .i64) v_r0 r0, V.rep s']) := by
  unfold cdt_Kids.f at h
  refine Ct.intro (n := 25) Try.func20 rfl rfl rfl ?_
  intro R w0 F hF hR
  refine S.seq ?_
  refine S.region ?_
  refine SO.v rfl (opv_assign rfl) ?_
  refine SO.nil ?_
  refine S.seq ?_
  refine S.region ?_
  refine SO.v rfl (opv_assign rfl) ?_
  refine SO.nil ?_
  refine S.seq ?_
  refine S.seq ?_
  refine S.region ?_
  refine SO.v rfl (opv_move rfl) ?_
  refine SO.v rfl (opv_move rfl) ?_
  obtain ⟨t1, s3, ht2, h⟩ := VM.bind_some V.toVI h
  refine SO.call (pre := [V.rep _]) rfl Try.call24 rfl rfl rfl (cdt_get.ct V _ _ _ _ _ ht2) trivial ?_
  rintro _ _ ⟨rfl, rfl⟩
  refine SO.v rfl (opv_assign rfl) ?_
  refine SO.nil ?_
  obtain ⟨j5_e1, so_1, hl1, h⟩ := VM.bind_some V.toVI h
  refine S.newOwn 3 (ekI .i64) ?_
  refine S.b2 ?_
  refine S.b2 ?_
  refine S.b2 ?_
  refine S.to (ρ' := [(6, .int .i64 t1), (5, .slice none 0 0), (4, .slice none 0 0), (0, V.val)]) ⟨rfl, rfl, rfl, rfl, trivial⟩ ?_
  refine S.forloop (X := ((Int × (List Int)) × V.S) × Value) (O := ((List Int)) × V.S) (fun m x => VM.run V.toVI (cdt_Kids.l1  m x.1.1) x.1.2) (fun x => match x with | (((x6_1, x5_1), sx_1), v5_1) => [(6, .int .i64 x6_1), (5, v5_1), (4, .slice none 0 0), (0, V.val)]) (fun x => match x with | (((x6_1, x5_1), sx_1), v5_1) => [Own 3 (ekI .i64) v5_1 x5_1, V.rep sx_1, F]) (fun Sk oo => match oo with | (j5_e1, so_1) => ∀ v5_e1 : Value, Sk [(4, .slice none 0 0), (5, v5_e1)] [Own 3 (ekI .i64) v5_e1 j5_e1, V.rep so_1, F]) (fun _ => rfl) ?_ (m := k) (x := (((t1, []), s3), .slice none 0 0)) hl1 ?_
  · clear h hl1
    intro k x o_1 h hK1 ih1
    obtain ⟨⟨⟨x6_1, x5_1⟩, sx_1⟩, v5_1⟩ := x
    obtain ⟨o_1, so_1_⟩ := o_1
    replace h : VM.run V.toVI (cdt_Kids.l1  (k + 1) (x6_1, x5_1)) sx_1 = some (o_1, so_1_) := h
    first | rw [cdt_Kids.l1] at h | unfold cdt_Kids.l1 at h
    refine S.rd fun hr4 => ?_
    refine S.seq ?_
    refine S.seq ?_
    refine S.region ?_
    refine SO.v rfl (opv_move rfl) ?_
    refine SO.v rfl (opv_neq rfl rfl) ?_
    refine SO.v rfl (opv_move rfl) ?_
    refine SO.cut 4 16 (.bool ((x6_1 != (-1)) && (decide ((x5_1.length : Int) < 96)))) [Own 3 (ekI .i64) v5_1 x5_1, V.rep sx_1, F] (fun l2 hk2 => ?_) ?_
    · rcases bool_or (x6_1 != (-1)) with b5 | b5
      · refine SO.takeT rfl rfl rfl b5 ?_
        refine SO.v rfl (opv_move rfl) ?_
        refine SO.takeT rfl rfl rfl b5 ?_
        refine SO.v rfl (opv_lenR rfl Try.underlying41 hr4 rfl) ?_
        refine SO.takeT rfl rfl rfl b5 ?_
        refine SO.v rfl (opv_lss rfl rfl) ?_
        refine SO.v rfl (opv_pick_t' b5 rfl rfl) ?_
        refine SO.b2 ?_
        refine SO.b2 ?_
        refine SO.b2 ?_
        exact hk2.fitc (m := 4) rfl (and_t b5) rfl
      · refine SO.passF rfl rfl rfl b5 rfl rfl ?_
        refine SO.passF rfl rfl rfl b5 rfl rfl ?_
        refine SO.passF rfl rfl rfl b5 rfl rfl ?_
        refine SO.v rfl (opv_pick_f' b5 rfl rfl) ?_
        refine SO.b2 ?_
        refine SO.b2 ?_
        refine SO.b2 ?_
        exact hk2.fitc (m := 4) rfl (and_f b5) rfl
    refine SO.nil ?_
    rcases bool_or ((x6_1 != (-1)) && (decide ((x5_1.length : Int) < 96))) with b6 | b6
    · replace h := VM.cond_t V.toVI b6 h
      refine S.condT rfl b6 ?_
      refine S.skip ?_
      refine S.seq ?_
      refine S.block ?_
      refine S.region ?_
      refine SO.v rfl (opv_move rfl) ?_
      refine SO.v rfl (opv_move rfl) ?_
      refine SO.buildSlice (K := ekI .i64) (xs := [x6_1]) (cs := [.int .i64 x6_1]) rfl Try.underlying41 Try.sizeOf3 Try.zeroValue3 rfl rfl rfl (by kernel_rfl) rfl rfl rfl (fun v7 hr8 => ?_)
      obtain ⟨zs9, hz10, h⟩ := VM.opt_some V.toVI h
      refine SO.b1 ?_
      refine SO.append rfl Try.underlying41 Try.underlying41 inf3 rfl rfl rfl (by decide) rfl rfl rfl (Rd.head hr8) hz10 (fun v11 => ?_)
      refine SO.rd fun hr12 => ?_
      refine SO.v rfl (opv_assign rfl) ?_
      refine SO.nil ?_
      refine S.to (ρ' := [(6, .int .i64 x6_1), (5, v11), (4, .slice none 0 0), (0, V.val)]) ⟨rfl, rfl, rfl, rfl, trivial⟩ ?_
      refine S.inBlock ?_
      refine S.region ?_
      refine SO.v rfl (opv_move rfl) ?_
      refine SO.v rfl (opv_move rfl) ?_
      obtain ⟨t13, s15, ht14, h⟩ := VM.bind_some V.toVI h
      refine SO.b2 ?_
      refine SO.call (pre := [V.rep _]) rfl Try.call24 rfl rfl rfl (cdt_get.ct V _ _ _ _ _ ht14) trivial ?_
      rintro _ _ ⟨rfl, rfl⟩
      refine SO.v rfl (opv_assign rfl) ?_
      refine SO.nil ?_
      refine S.b2 ?_
      refine S.drop ?_
      refine S.b2 ?_
      refine S.b1 ?_
      refine S.b2 ?_
      refine S.to ?_ (ih1 (((t13, zs9), s15), v11) h)
      exact ⟨rfl, rfl, rfl, rfl, trivial⟩
    · replace h := VM.cond_f V.toVI b6 h
      refine S.condF rfl b6 ?_
      refine S.exit rfl ?_
      obtain ⟨hq, rfl⟩ := VM.ret_some V.toVI h
      cases hq
      refine S.b2 ?_
      refine S.b2 ?_
      refine S.b2 ?_
      refine S.to ?_ (hK1 v5_1)
      exact ⟨rfl, rfl, trivial⟩
  rintro v5_e1
  refine S.rd fun hr16 => ?_
  refine S.seq ?_
  refine S.region ?_
  refine SO.v rfl (opv_move rfl) ?_
  refine SO.v rfl (opv_assign rfl) ?_
  refine SO.nil ?_
  obtain ⟨hq, rfl⟩ := VM.ret_some V.toVI h
  cases hq
  refine S.b2 ?_
  refine S.b2 ?_
  refine S.b2 ?_
  exact S.ret1 Try.func20 rfl rfl (fun w hs hk => hR w _ _ ⟨v5_e1, rfl, rfl⟩ hs hk)
end Go.Proofs
namespace Go.Proofs
open Go.Sl Go.RowKit
/-! 23 padstone/cdt.there -/
def cdt_there.f (a0 : Int) : Option (Bool) :=
  (lay_Slot.f a0 0).bind fun (t1, t2) => some t2
set_option maxHeartbeats 8000000 in
set_option maxRecDepth 100000 in
theorem cdt_there.ct (a0 : Int) (r0 : Bool) (h : cdt_there.f a0 = some r0) :
    Ct Try.prog 23 [.int .i64 a0] (fun _ => True) [] (fun u H' => u = .bool r0 ∧ H' = []) := by
  unfold cdt_there.f at h
  refine Ct.intro (n := 11) Try.func23 rfl rfl rfl ?_
  intro R w0 F hF hR
  refine S.seq ?_
  refine S.region ?_
  refine SO.v rfl (opv_assign rfl) ?_
  refine SO.nil ?_
  refine S.seq ?_
  refine S.region ?_
  refine SO.v rfl (opv_move rfl) ?_
  obtain ⟨⟨t1, t2⟩, ht3, h⟩ := opt_bind h
  refine SO.call (pre := []) rfl Try.call31 rfl rfl rfl (lay_Slot.ct _ _ _ _ ht3) trivial ?_
  rintro _ _ ⟨rfl, rfl⟩
  refine SO.v rfl (opv_move rfl) ?_
  refine SO.v rfl (opv_extract rfl rfl) ?_
  refine SO.v rfl (opv_extract rfl rfl) ?_
  refine SO.v rfl (opv_assign rfl) ?_
  refine SO.v rfl (opv_assign rfl) ?_
  refine SO.nil ?_
  refine S.to (ρ' := [(2, .bool false), (4, .bool t2)]) ⟨rfl, rfl, trivial⟩ ?_
  refine S.seq ?_
  refine S.region ?_
  refine SO.v rfl (opv_move rfl) ?_
  refine SO.v rfl (opv_assign rfl) ?_
  refine SO.nil ?_
  cases h
  exact S.ret1 Try.func23 rfl rfl (fun w hs hk => hR w _ _ ⟨rfl, rfl⟩ hs hk)
end Go.Proofs
namespace Go.Proofs
open Go.Sl Go.RowKit
/-! 18 padstone/cdt.Leaf -/
def cdt_Leaf.l1 : Nat → (Int × Int) → VM (Int)
  | 0, _ => VM.fail
  | k + 1, (x9_1, x1_1) => bif decide (x9_1 < 96) then ((cdt_get.f x1_1 2).bind fun t5 => bif t5 == (-1) then (VM.ret x1_1) else (cdt_Leaf.l1  k (w64 (x9_1 + 1), t5))) else (VM.ret x1_1)
def cdt_Leaf.f (k : Nat) (a1 : Int) : VM (Int) :=
  (VM.opt (cdt_there.f a1)).bind fun t1 => bif !t1 then (VM.ret (-1)) else ((cdt_Leaf.l1 k (0, a1)).bind fun j1_e1 => VM.ret j1_e1)
set_option maxHeartbeats 8000000 in
set_option maxRecDepth 100000 in
theorem cdt_Leaf.ct (V : VW Try.prog) (k : Nat) (a1 : Int) (r0 : Int) (s s' : V.S) (h : VM.run V.toVI (cdt_Leaf.f k a1) s = some (r0, s')) :
    Ct Try.prog 18 [V.val, .int .i64 a1] (fun _ => True) [V.rep s] (fun u H' => u = .int .i64 r0 ∧ H' = [V.rep s']) := by
  unfold cdt_Leaf.f at h
  refine Ct.intro (n := 19) Try.func18 rfl rfl rfl ?_
  intro R w0 F hF hR
  refine S.seq ?_
  refine S.region ?_
  refine SO.v rfl (opv_assign rfl) ?_
  refine SO.nil ?_
  refine S.seq ?_
  refine S.seq ?_
  refine S.region ?_
  refine SO.v rfl (opv_move rfl) ?_
  obtain ⟨t1, ht2, h⟩ := VM.opt_some V.toVI h
  refine SO.call (pre := []) rfl Try.call23 rfl rfl rfl (cdt_there.ct _ _ ht2) trivial ?_
  rintro _ _ ⟨rfl, rfl⟩
  refine SO.v rfl (opv_not rfl) ?_
  refine SO.nil ?_
  rcases bool_or (!t1) with b3 | b3
  · replace h := VM.cond_t V.toVI b3 h
    refine S.condT rfl b3 ?_
    refine S.seq ?_
    refine S.region ?_
    refine SO.v rfl (opv_assign rfl) ?_
    refine SO.nil ?_
    obtain ⟨hq, rfl⟩ := VM.ret_some V.toVI h
    cases hq
    refine S.b1 ?_
    refine S.b1 ?_
    exact S.ret1 Try.func18 rfl rfl (fun w hs hk => hR w _ _ ⟨rfl, rfl⟩ hs hk)
  · replace h := VM.cond_f V.toVI b3 h
    refine S.condF rfl b3 ?_
    refine S.skip ?_
    refine S.seq ?_
    refine S.seq ?_
    refine S.region ?_
    refine SO.v rfl (opv_move rfl) ?_
    refine SO.nil ?_
    obtain ⟨j1_e1, so_1, hl1, h⟩ := VM.bind_some V.toVI h
    refine S.b1 ?_
    refine S.b1 ?_
    refine S.to (ρ' := [(9, .int .i64 0), (4, .int .i64 0), (0, V.val), (1, .int .i64 a1)]) ⟨rfl, rfl, rfl, rfl, trivial⟩ ?_
    refine S.forloop (X := ((Int × Int) × V.S) × Unit) (O := (Int) × V.S) (fun m x => VM.run V.toVI (cdt_Leaf.l1  m x.1.1) x.1.2) (fun x => match x with | (((x9_1, x1_1), sx_1), _) => [(9, .int .i64 x9_1), (4, .int .i64 0), (0, V.val), (1, .int .i64 x1_1)]) (fun x => match x with | (((x9_1, x1_1), sx_1), _) => [V.rep sx_1, F]) (fun Sk oo => match oo with | (j1_e1, so_1) => ∀ _ : Unit, Sk [(1, .int .i64 j1_e1), (4, .int .i64 0)] [V.rep so_1, F]) (fun _ => rfl) ?_ (m := k) (x := (((0, a1), s), ())) hl1 ?_
    · clear h hl1
      intro k x o_1 h hK1 ih1
      obtain ⟨⟨⟨x9_1, x1_1⟩, sx_1⟩, _⟩ := x
      obtain ⟨o_1, so_1_⟩ := o_1
      replace h : VM.run V.toVI (cdt_Leaf.l1  (k + 1) (x9_1, x1_1)) sx_1 = some (o_1, so_1_) := h
      first | rw [cdt_Leaf.l1] at h | unfold cdt_Leaf.l1 at h
      refine S.seq ?_
      refine S.region ?_
      refine SO.v rfl (opv_lss rfl rfl) ?_
      refine SO.nil ?_
      refine S.seq ?_
      rcases bool_or (decide (x9_1 < 96)) with b4 | b4
      · replace h := VM.cond_t V.toVI b4 h
        refine S.condT rfl b4 ?_
        refine S.skip ?_
        refine S.seq ?_
        refine S.block ?_
        refine S.seq ?_
        refine S.region ?_
        refine SO.v rfl (opv_move rfl) ?_
        refine SO.v rfl (opv_move rfl) ?_
        obtain ⟨t5, s7, ht6, h⟩ := VM.bind_some V.toVI h
        refine SO.call (pre := [V.rep _]) rfl Try.call24 rfl rfl rfl (cdt_get.ct V _ _ _ _ _ ht6) trivial ?_
        rintro _ _ ⟨rfl, rfl⟩
        refine SO.v rfl (opv_assign rfl) ?_
        refine SO.nil ?_
        refine S.seq ?_
        refine S.seq ?_
        refine S.region ?_
        refine SO.v rfl (opv_move rfl) ?_
        refine SO.v rfl (opv_eql rfl rfl) ?_
        refine SO.nil ?_
        rcases bool_or (t5 == (-1)) with b8 | b8
        · replace h := VM.cond_t V.toVI b8 h
          refine S.condT rfl b8 ?_
          refine S.exit rfl ?_
          obtain ⟨hq, rfl⟩ := VM.ret_some V.toVI h
          cases hq
          refine S.b1 ?_
          refine S.b1 ?_
          refine S.to ?_ (hK1 ())
          exact ⟨rfl, rfl, trivial⟩
        · replace h := VM.cond_f V.toVI b8 h
          refine S.condF rfl b8 ?_
          refine S.skip ?_
          refine S.region ?_
          refine SO.v rfl (opv_move rfl) ?_
          refine SO.v rfl (opv_assign rfl) ?_
          refine SO.nil ?_
          refine S.to (ρ' := [(9, .int .i64 x9_1), (4, .int .i64 0), (0, V.val), (1, .int .i64 t5)]) ⟨rfl, rfl, rfl, rfl, trivial⟩ ?_
          refine S.inBlock ?_
          refine S.region ?_
          refine SO.v rfl (opv_add rfl rfl) ?_
          refine SO.v rfl (opv_move rfl) ?_
          refine SO.nil ?_
          refine S.b1 ?_
          refine S.b1 ?_
          refine S.to ?_ (ih1 (((w64 (x9_1 + 1), t5), s7), ()) h)
          exact ⟨rfl, rfl, rfl, rfl, trivial⟩
      · replace h := VM.cond_f V.toVI b4 h
        refine S.condF rfl b4 ?_
        refine S.exit rfl ?_
        obtain ⟨hq, rfl⟩ := VM.ret_some V.toVI h
        cases hq
        refine S.b1 ?_
        refine S.b1 ?_
        refine S.to ?_ (hK1 ())
        exact ⟨rfl, rfl, trivial⟩
    rintro _
    refine S.seq ?_
    refine S.region ?_
    refine SO.v rfl (opv_move rfl) ?_
    refine SO.v rfl (opv_assign rfl) ?_
    refine SO.nil ?_
    obtain ⟨hq, rfl⟩ := VM.ret_some V.toVI h
    cases hq
    refine S.b1 ?_
    refine S.b1 ?_
    exact S.ret1 Try.func18 rfl rfl (fun w hs hk => hR w _ _ ⟨rfl, rfl⟩ hs hk)
end Go.Proofs
namespace Go.Proofs
open Go.Sl Go.RowKit
/-! 21 padstone/cdt.Parent -/
def cdt_Parent.f (a1 : Int) : VM (Int) :=
  (cdt_get.f a1 1).bind fun t1 => VM.ret t1
set_option maxHeartbeats 8000000 in
set_option maxRecDepth 100000 in
theorem cdt_Parent.ct (V : VW Try.prog) (a1 : Int) (r0 : Int) (s s' : V.S) (h : VM.run V.toVI (cdt_Parent.f a1) s = some (r0, s')) :
    Ct Try.prog 21 [V.val, .int .i64 a1] (fun _ => True) [V.rep s] (fun u H' => u = .int .i64 r0 ∧ H' = [V.rep s']) := by
  unfold cdt_Parent.f at h
  refine Ct.intro (n := 8) Try.func21 rfl rfl rfl ?_
  intro R w0 F hF hR
  refine S.seq ?_
  refine S.region ?_
  refine SO.v rfl (opv_assign rfl) ?_
  refine SO.nil ?_
  refine S.seq ?_
  refine S.region ?_
  refine SO.v rfl (opv_move rfl) ?_
  refine SO.v rfl (opv_move rfl) ?_
  obtain ⟨t1, s3, ht2, h⟩ := VM.bind_some V.toVI h
  refine SO.call (pre := [V.rep _]) rfl Try.call24 rfl rfl rfl (cdt_get.ct V _ _ _ _ _ ht2) trivial ?_
  rintro _ _ ⟨rfl, rfl⟩
  refine SO.v rfl (opv_assign rfl) ?_
  refine SO.nil ?_
  obtain ⟨hq, rfl⟩ := VM.ret_some V.toVI h
  cases hq
  refine S.b1 ?_
  refine S.b1 ?_
  exact S.ret1 Try.func21 rfl rfl (fun w hs hk => hR w _ _ ⟨rfl, rfl⟩ hs hk)
end Go.Proofs
namespace Go.Proofs
open Go.Sl Go.RowKit
/-! 25 padstone/cdt.put -/
def cdt_put.f (a1 : Int) (a2 : Int) (a3 : Int) : VM (Unit) :=
  (VM.opt (lay_Slot.f a1 a2)).bind fun (t1, t2) => bif t2 then (VM.wr t1 (wu64 (w64 (a3 + 1))) (VM.ret ())) else (VM.ret ())
set_option maxHeartbeats 8000000 in
set_option maxRecDepth 100000 in
theorem cdt_put.ct (V : VW Try.prog) (a1 : Int) (a2 : Int) (a3 : Int) (s s' : V.S) (h : VM.run V.toVI (cdt_put.f a1 a2 a3) s = some ((), s')) :
    Ct Try.prog 25 [V.val, .int .i64 a1, .int .i64 a2, .int .i64 a3] (fun _ => True) [V.rep s] (fun u H' => u = .tuple #[] ∧ H' = [V.rep s']) := by
  unfold cdt_put.f at h
  refine Ct.intro (n := 23) Try.func25 rfl rfl rfl ?_
  intro R w0 F hF hR
  refine S.seq ?_
  refine S.region ?_
  refine SO.v rfl (opv_move rfl) ?_
  refine SO.v rfl (opv_move rfl) ?_
  obtain ⟨⟨t1, t2⟩, ht3, h⟩ := VM.opt_some V.toVI h
  refine SO.call (pre := []) rfl Try.call31 rfl rfl rfl (lay_Slot.ct _ _ _ _ ht3) trivial ?_
  rintro _ _ ⟨rfl, rfl⟩
  refine SO.v rfl (opv_move rfl) ?_
  refine SO.v rfl (opv_extract rfl rfl) ?_
  refine SO.v rfl (opv_extract rfl rfl) ?_
  refine SO.v rfl (opv_assign rfl) ?_
  refine SO.v rfl (opv_assign rfl) ?_
  refine SO.nil ?_
  refine S.to (ρ' := [(0, V.val), (3, .int .i64 a3), (8, .int .i64 t1), (9, .bool t2)]) ⟨rfl, rfl, rfl, rfl, trivial⟩ ?_
  refine S.seq ?_
  refine S.region ?_
  refine SO.v rfl (opv_move rfl) ?_
  refine SO.nil ?_
  rcases bool_or t2 with b4 | b4
  · replace h := VM.cond_t V.toVI b4 h
    refine S.condT rfl b4 ?_
    refine S.region ?_
    refine SO.v rfl (opv_move rfl) ?_
    refine SO.v rfl (opv_move rfl) ?_
    refine SO.v rfl (opv_move rfl) ?_
    refine SO.v rfl (opv_add rfl rfl) ?_
    refine SO.v rfl (opv_conv Try.underlying3 Try.underlying65 rfl) ?_
    obtain ⟨s5, hv6, h⟩ := VM.wr_some V.toVI h
    refine SO.vwrite' V rfl rfl rfl rfl hv6 ?_
    refine SO.nil ?_
    refine S.to (ρ' := []) trivial ?_
    obtain ⟨hq, rfl⟩ := VM.ret_some V.toVI h
    cases hq
    refine S.b1 ?_
    refine S.b1 ?_
    exact S.fin0 Try.func25 rfl (fun w hs hk => hR w _ _ ⟨rfl, rfl⟩ hs hk)
  · replace h := VM.cond_f V.toVI b4 h
    refine S.condF rfl b4 ?_
    refine S.skip ?_
    obtain ⟨hq, rfl⟩ := VM.ret_some V.toVI h
    cases hq
    refine S.b1 ?_
    refine S.b1 ?_
    exact S.fin0 Try.func25 rfl (fun w hs hk => hR w _ _ ⟨rfl, rfl⟩ hs hk)
end Go.Proofs
namespace Go.Proofs
open Go.Sl Go.RowKit
/-! 9 padstone/cdt.Link -/
def cdt_Link.f (a1 : Int) (a2 : Int) : VM ((Option Int)) :=
  (VM.opt (cdt_there.f a1)).bind fun t1 => (bif !t1 then (VM.ret true) else ((VM.opt (cdt_there.f a2)).bind fun t6 => VM.ret (!t6))).bind fun c4 => bif c4 then (VM.ret (some 2)) else ((bif a1 == a2 then (VM.ret true) else ((cdt_Parent.f a1).bind fun t13 => VM.ret (t13 != (-1)))).bind fun c11 => bif c11 then (VM.ret (some 10)) else ((cdt_get.f a2 2).bind fun t18 => (cdt_put.f a1 1 a2).bind fun _ => (cdt_put.f a1 3 t18).bind fun _ => (cdt_put.f a1 4 (-1)).bind fun _ => (cdt_put.f t18 4 a1).bind fun _ => (cdt_put.f a2 2 a1).bind fun _ => VM.ret none))
set_option maxHeartbeats 8000000 in
set_option maxRecDepth 100000 in
theorem cdt_Link.ct (V : VW Try.prog) (a1 : Int) (a2 : Int) (r0 : Option Int) (s s' : V.S) (h : VM.run V.toVI (cdt_Link.f a1 a2) s = some (r0, s')) :
    Ct Try.prog 9 [V.val, .int .i64 a1, .int .i64 a2] (fun _ => True) [V.rep s] (fun u H' => u = errV 53 r0 ∧ H' = [V.rep s']) := by
  unfold cdt_Link.f at h
  refine Ct.intro (n := 51) Try.func9 rfl rfl rfl ?_
  intro R w0 F hF hR
  refine S.seq ?_
  refine S.region ?_
  refine SO.v rfl (opv_assign rfl) ?_
  refine SO.nil ?_
  refine S.seq ?_
  refine S.block ?_
  refine S.seq ?_
  refine S.region ?_
  refine SO.v rfl (opv_move rfl) ?_
  obtain ⟨t1, ht2, h⟩ := VM.opt_some V.toVI h
  refine SO.call (pre := []) rfl Try.call23 rfl rfl rfl (cdt_there.ct _ _ ht2) trivial ?_
  rintro _ _ ⟨rfl, rfl⟩
  refine SO.v rfl (opv_not rfl) ?_
  refine SO.v rfl (opv_move rfl) ?_
  obtain ⟨c4, s8, hc5, hgk⟩ := VM.bind_some V.toVI h
  refine SO.cut 4 16 (.bool c4) [V.rep s8, F] (fun l2 hk2 => ?_) ?_
  · clear hgk
    replace h := hc5
    rcases bool_or (!t1) with b3 | b3
    · replace h := VM.cond_t V.toVI b3 h
      refine SO.passF rfl rfl rfl b3 rfl rfl ?_
      refine SO.passF rfl rfl rfl b3 rfl rfl ?_
      refine SO.passF rfl rfl rfl b3 rfl rfl ?_
      obtain ⟨hq, rfl⟩ := VM.ret_some V.toVI h
      cases hq
      refine SO.v rfl (opv_pick_t' b3 rfl rfl) ?_
      refine SO.b1 ?_
      refine SO.b1 ?_
      exact hk2.fitc (m := 4) rfl (rfl) rfl
    · replace h := VM.cond_f V.toVI b3 h
      refine SO.takeT rfl rfl rfl b3 ?_
      refine SO.v rfl (opv_move rfl) ?_
      refine SO.takeT rfl rfl rfl b3 ?_
      obtain ⟨t6, ht7, h⟩ := VM.opt_some V.toVI h
      refine SO.call (pre := []) rfl Try.call23 rfl rfl rfl (cdt_there.ct _ _ ht7) trivial ?_
      rintro _ _ ⟨rfl, rfl⟩
      refine SO.takeT rfl rfl rfl b3 ?_
      refine SO.v rfl (opv_not rfl) ?_
      obtain ⟨hq, rfl⟩ := VM.ret_some V.toVI h
      cases hq
      refine SO.v rfl (opv_pick_f' b3 rfl rfl) ?_
      refine SO.b1 ?_
      refine SO.b1 ?_
      exact hk2.fitc (m := 4) rfl (rfl) rfl
  clear hc5
  replace h := hgk
  refine SO.v rfl (opv_assign rfl) ?_
  refine SO.nil ?_
  rcases bool_or c4 with b9 | b9
  · replace h := VM.cond_t V.toVI b9 h
    refine S.condT rfl b9 ?_
    refine S.seq ?_
    refine S.region ?_
    refine SO.v rfl (opv_iface Try.underlying53 rfl rfl) ?_
    refine SO.v rfl (opv_assign rfl) ?_
    refine SO.nil ?_
    refine S.to (ρ' := [(6, errV 53 (some 2))]) ⟨rfl, trivial⟩ ?_
    obtain ⟨hq, rfl⟩ := VM.ret_some V.toVI h
    cases hq
    refine S.b1 ?_
    refine S.b1 ?_
    exact S.ret1 Try.func9 rfl rfl (fun w hs hk => hR w _ _ ⟨rfl, rfl⟩ hs hk)
  · replace h := VM.cond_f V.toVI b9 h
    refine S.condF rfl b9 ?_
    refine S.seq ?_
    refine S.region ?_
    refine SO.v rfl (opv_move rfl) ?_
    refine SO.v rfl (opv_move rfl) ?_
    refine SO.v rfl (opv_eql rfl rfl) ?_
    refine SO.v rfl (opv_move rfl) ?_
    obtain ⟨c11, s16, hc12, hgk⟩ := VM.bind_some V.toVI h
    refine SO.cut 5 27 (.bool c11) [V.rep s16, F] (fun l2 hk2 => ?_) ?_
    · clear hgk
      replace h := hc12
      rcases bool_or (a1 == a2) with b10 | b10
      · replace h := VM.cond_t V.toVI b10 h
        refine SO.passF rfl rfl rfl b10 rfl rfl ?_
        refine SO.passF rfl rfl rfl b10 rfl rfl ?_
        refine SO.passF rfl rfl rfl b10 rfl rfl ?_
        refine SO.passF rfl rfl rfl b10 rfl rfl ?_
        obtain ⟨hq, rfl⟩ := VM.ret_some V.toVI h
        cases hq
        refine SO.v rfl (opv_pick_t' b10 rfl rfl) ?_
        refine SO.b1 ?_
        refine SO.b1 ?_
        exact hk2.fitc (m := 5) rfl (rfl) rfl
      · replace h := VM.cond_f V.toVI b10 h
        refine SO.takeT rfl rfl rfl b10 ?_
        refine SO.v rfl (opv_move rfl) ?_
        refine SO.takeT rfl rfl rfl b10 ?_
        refine SO.v rfl (opv_move rfl) ?_
        refine SO.takeT rfl rfl rfl b10 ?_
        obtain ⟨t13, s15, ht14, h⟩ := VM.bind_some V.toVI h
        refine SO.call (pre := [V.rep _]) rfl Try.call21 rfl rfl rfl (cdt_Parent.ct V _ _ _ _ ht14) trivial ?_
        rintro _ _ ⟨rfl, rfl⟩
        refine SO.takeT rfl rfl rfl b10 ?_
        refine SO.v rfl (opv_neq rfl rfl) ?_
        obtain ⟨hq, rfl⟩ := VM.ret_some V.toVI h
        cases hq
        refine SO.v rfl (opv_pick_f' b10 rfl rfl) ?_
        refine SO.b1 ?_
        refine SO.b1 ?_
        exact hk2.fitc (m := 5) rfl (rfl) rfl
    clear hc12
    replace h := hgk
    refine SO.v rfl (opv_assign rfl) ?_
    refine SO.nil ?_
    refine S.to (ρ' := [(0, V.val), (1, .int .i64 a1), (2, .int .i64 a2), (6, errV 53 none), (18, .bool c11)]) ⟨rfl, rfl, rfl, rfl, rfl, trivial⟩ ?_
    rcases bool_or c11 with b17 | b17
    · replace h := VM.cond_t V.toVI b17 h
      refine S.condT rfl b17 ?_
      refine S.seq ?_
      refine S.region ?_
      refine SO.v rfl (opv_iface Try.underlying53 rfl rfl) ?_
      refine SO.v rfl (opv_assign rfl) ?_
      refine SO.nil ?_
      obtain ⟨hq, rfl⟩ := VM.ret_some V.toVI h
      cases hq
      refine S.b1 ?_
      refine S.b1 ?_
      exact S.ret1 Try.func9 rfl rfl (fun w hs hk => hR w _ _ ⟨rfl, rfl⟩ hs hk)
    · replace h := VM.cond_f V.toVI b17 h
      refine S.condF rfl b17 ?_
      refine S.skip ?_
      refine S.inBlock ?_
      refine S.seq ?_
      refine S.region ?_
      refine SO.v rfl (opv_move rfl) ?_
      refine SO.v rfl (opv_move rfl) ?_
      obtain ⟨t18, s20, ht19, h⟩ := VM.bind_some V.toVI h
      refine SO.call (pre := [V.rep _]) rfl Try.call24 rfl rfl rfl (cdt_get.ct V _ _ _ _ _ ht19) trivial ?_
      rintro _ _ ⟨rfl, rfl⟩
      refine SO.v rfl (opv_assign rfl) ?_
      refine SO.nil ?_
      refine S.seq ?_
      refine S.region ?_
      refine SO.v rfl (opv_move rfl) ?_
      refine SO.v rfl (opv_move rfl) ?_
      refine SO.v rfl (opv_move rfl) ?_
      obtain ⟨_, s22, ht21, h⟩ := VM.bind_some V.toVI h
      refine SO.call (pre := [V.rep _]) rfl Try.call25 rfl rfl rfl (cdt_put.ct V _ _ _ _ _ ht21) trivial ?_
      rintro _ _ ⟨rfl, rfl⟩
      refine SO.nil ?_
      refine S.to (ρ' := [(0, V.val), (1, .int .i64 a1), (2, .int .i64 a2), (6, errV 53 none), (7, .int .i64 t18)]) ⟨rfl, rfl, rfl, rfl, rfl, trivial⟩ ?_
      refine S.seq ?_
      refine S.region ?_
      refine SO.v rfl (opv_move rfl) ?_
      refine SO.v rfl (opv_move rfl) ?_
      refine SO.v rfl (opv_move rfl) ?_
      obtain ⟨_, s24, ht23, h⟩ := VM.bind_some V.toVI h
      refine SO.call (pre := [V.rep _]) rfl Try.call25 rfl rfl rfl (cdt_put.ct V _ _ _ _ _ ht23) trivial ?_
      rintro _ _ ⟨rfl, rfl⟩
      refine SO.nil ?_
      refine S.seq ?_
      refine S.region ?_
      refine SO.v rfl (opv_move rfl) ?_
      refine SO.v rfl (opv_move rfl) ?_
      obtain ⟨_, s26, ht25, h⟩ := VM.bind_some V.toVI h
      refine SO.call (pre := [V.rep _]) rfl Try.call25 rfl rfl rfl (cdt_put.ct V _ _ _ _ _ ht25) trivial ?_
      rintro _ _ ⟨rfl, rfl⟩
      refine SO.nil ?_
      refine S.to (ρ' := [(0, V.val), (1, .int .i64 a1), (2, .int .i64 a2), (6, errV 53 none), (7, .int .i64 t18)]) ⟨rfl, rfl, rfl, rfl, rfl, trivial⟩ ?_
      refine S.seq ?_
      refine S.region ?_
      refine SO.v rfl (opv_move rfl) ?_
      refine SO.v rfl (opv_move rfl) ?_
      refine SO.v rfl (opv_move rfl) ?_
      obtain ⟨_, s28, ht27, h⟩ := VM.bind_some V.toVI h
      refine SO.call (pre := [V.rep _]) rfl Try.call25 rfl rfl rfl (cdt_put.ct V _ _ _ _ _ ht27) trivial ?_
      rintro _ _ ⟨rfl, rfl⟩
      refine SO.nil ?_
      refine S.seq ?_
      refine S.region ?_
      refine SO.v rfl (opv_move rfl) ?_
      refine SO.v rfl (opv_move rfl) ?_
      refine SO.v rfl (opv_move rfl) ?_
      obtain ⟨_, s30, ht29, h⟩ := VM.bind_some V.toVI h
      refine SO.call (pre := [V.rep _]) rfl Try.call25 rfl rfl rfl (cdt_put.ct V _ _ _ _ _ ht29) trivial ?_
      rintro _ _ ⟨rfl, rfl⟩
      refine SO.nil ?_
      refine S.to (ρ' := [(6, errV 53 none)]) ⟨rfl, trivial⟩ ?_
      refine S.seq ?_
      refine S.region ?_
      refine SO.v rfl (opv_assign rfl) ?_
      refine SO.nil ?_
      obtain ⟨hq, rfl⟩ := VM.ret_some V.toVI h
      cases hq
      refine S.b1 ?_
      refine S.b1 ?_
      exact S.ret1 Try.func9 rfl rfl (fun w hs hk => hR w _ _ ⟨rfl, rfl⟩ hs hk)
end Go.Proofs
namespace Go.Proofs
open Go.Sl Go.RowKit
/-! 27 padstone/cdt.beside -/
def cdt_beside.f (a1 : Int) (a2 : Int) (a3 : Int) : VM (Unit) :=
  (cdt_get.f a1 4).bind fun t1 => (cdt_get.f a1 3).bind fun t4 => bif t1 != (-1) then ((cdt_put.f t1 3 a2).bind fun _ => (cdt_put.f t4 4 a3).bind fun _ => VM.ret ()) else ((cdt_Parent.f a1).bind fun t12 => (cdt_put.f t12 2 a2).bind fun _ => (cdt_put.f t4 4 a3).bind fun _ => VM.ret ())
set_option maxHeartbeats 8000000 in
set_option maxRecDepth 100000 in
theorem cdt_beside.ct (V : VW Try.prog) (a1 : Int) (a2 : Int) (a3 : Int) (s s' : V.S) (h : VM.run V.toVI (cdt_beside.f a1 a2 a3) s = some ((), s')) :
    Ct Try.prog 27 [V.val, .int .i64 a1, .int .i64 a2, .int .i64 a3] (fun _ => True) [V.rep s] (fun u H' => u = .tuple #[] ∧ H' = [V.rep s']) := by
  unfold cdt_beside.f at h
  refine Ct.intro (n := 32) Try.func27 rfl rfl rfl ?_
  intro R w0 F hF hR
  refine S.seq ?_
  refine S.region ?_
  refine SO.v rfl (opv_move rfl) ?_
  refine SO.v rfl (opv_move rfl) ?_
  obtain ⟨t1, s3, ht2, h⟩ := VM.bind_some V.toVI h
  refine SO.call (pre := [V.rep _]) rfl Try.call24 rfl rfl rfl (cdt_get.ct V _ _ _ _ _ ht2) trivial ?_
  rintro _ _ ⟨rfl, rfl⟩
  refine SO.v rfl (opv_move rfl) ?_
  refine SO.v rfl (opv_move rfl) ?_
  obtain ⟨t4, s6, ht5, h⟩ := VM.bind_some V.toVI h
  refine SO.call (pre := [V.rep _]) rfl Try.call24 rfl rfl rfl (cdt_get.ct V _ _ _ _ _ ht5) trivial ?_
  rintro _ _ ⟨rfl, rfl⟩
  refine SO.v rfl (opv_assign rfl) ?_
  refine SO.v rfl (opv_assign rfl) ?_
  refine SO.nil ?_
  refine S.seq ?_
  refine S.seq ?_
  refine S.region ?_
  refine SO.v rfl (opv_move rfl) ?_
  refine SO.v rfl (opv_neq rfl rfl) ?_
  refine SO.nil ?_
  refine S.to (ρ' := [(0, V.val), (1, .int .i64 a1), (2, .int .i64 a2), (3, .int .i64 a3), (8, .int .i64 t1), (9, .int .i64 t4), (17, .bool (t1 != (-1)))]) ⟨rfl, rfl, rfl, rfl, rfl, rfl, rfl, trivial⟩ ?_
  rcases bool_or (t1 != (-1)) with b7 | b7
  · replace h := VM.cond_t V.toVI b7 h
    refine S.condT rfl b7 ?_
    refine S.region ?_
    refine SO.v rfl (opv_move rfl) ?_
    refine SO.v rfl (opv_move rfl) ?_
    refine SO.v rfl (opv_move rfl) ?_
    obtain ⟨_, s9, ht8, h⟩ := VM.bind_some V.toVI h
    refine SO.call (pre := [V.rep _]) rfl Try.call25 rfl rfl rfl (cdt_put.ct V _ _ _ _ _ ht8) trivial ?_
    rintro _ _ ⟨rfl, rfl⟩
    refine SO.nil ?_
    refine S.to (ρ' := [(0, V.val), (3, .int .i64 a3), (9, .int .i64 t4)]) ⟨rfl, rfl, rfl, trivial⟩ ?_
    refine S.region ?_
    refine SO.v rfl (opv_move rfl) ?_
    refine SO.v rfl (opv_move rfl) ?_
    refine SO.v rfl (opv_move rfl) ?_
    obtain ⟨_, s11, ht10, h⟩ := VM.bind_some V.toVI h
    refine SO.call (pre := [V.rep _]) rfl Try.call25 rfl rfl rfl (cdt_put.ct V _ _ _ _ _ ht10) trivial ?_
    rintro _ _ ⟨rfl, rfl⟩
    refine SO.nil ?_
    refine S.to (ρ' := []) trivial ?_
    obtain ⟨hq, rfl⟩ := VM.ret_some V.toVI h
    cases hq
    refine S.b1 ?_
    refine S.b1 ?_
    exact S.fin0 Try.func27 rfl (fun w hs hk => hR w _ _ ⟨rfl, rfl⟩ hs hk)
  · replace h := VM.cond_f V.toVI b7 h
    refine S.condF rfl b7 ?_
    refine S.region ?_
    refine SO.v rfl (opv_move rfl) ?_
    refine SO.v rfl (opv_move rfl) ?_
    refine SO.v rfl (opv_move rfl) ?_
    obtain ⟨t12, s14, ht13, h⟩ := VM.bind_some V.toVI h
    refine SO.call (pre := [V.rep _]) rfl Try.call21 rfl rfl rfl (cdt_Parent.ct V _ _ _ _ ht13) trivial ?_
    rintro _ _ ⟨rfl, rfl⟩
    refine SO.v rfl (opv_move rfl) ?_
    obtain ⟨_, s16, ht15, h⟩ := VM.bind_some V.toVI h
    refine SO.call (pre := [V.rep _]) rfl Try.call25 rfl rfl rfl (cdt_put.ct V _ _ _ _ _ ht15) trivial ?_
    rintro _ _ ⟨rfl, rfl⟩
    refine SO.nil ?_
    refine S.to (ρ' := [(0, V.val), (3, .int .i64 a3), (9, .int .i64 t4)]) ⟨rfl, rfl, rfl, trivial⟩ ?_
    refine S.region ?_
    refine SO.v rfl (opv_move rfl) ?_
    refine SO.v rfl (opv_move rfl) ?_
    refine SO.v rfl (opv_move rfl) ?_
    obtain ⟨_, s18, ht17, h⟩ := VM.bind_some V.toVI h
    refine SO.call (pre := [V.rep _]) rfl Try.call25 rfl rfl rfl (cdt_put.ct V _ _ _ _ _ ht17) trivial ?_
    rintro _ _ ⟨rfl, rfl⟩
    refine SO.nil ?_
    refine S.to (ρ' := []) trivial ?_
    obtain ⟨hq, rfl⟩ := VM.ret_some V.toVI h
    cases hq
    refine S.b1 ?_
    refine S.b1 ?_
    exact S.fin0 Try.func27 rfl (fun w hs hk => hR w _ _ ⟨rfl, rfl⟩ hs hk)
end Go.Proofs
namespace Go.Proofs
open Go.Sl Go.RowKit
/-! 28 padstone/cdt.clear -/
def cdt_clear.f (a1 : Int) : VM (Unit) :=
  (cdt_put.f a1 1 (-1)).bind fun _ => (cdt_put.f a1 3 (-1)).bind fun _ => (cdt_put.f a1 4 (-1)).bind fun _ => VM.ret ()
set_option maxHeartbeats 8000000 in
set_option maxRecDepth 100000 in
theorem cdt_clear.ct (V : VW Try.prog) (a1 : Int) (s s' : V.S) (h : VM.run V.toVI (cdt_clear.f a1) s = some ((), s')) :
    Ct Try.prog 28 [V.val, .int .i64 a1] (fun _ => True) [V.rep s] (fun u H' => u = .tuple #[] ∧ H' = [V.rep s']) := by
  unfold cdt_clear.f at h
  refine Ct.intro (n := 13) Try.func28 rfl rfl rfl ?_
  intro R w0 F hF hR
  refine S.seq ?_
  refine S.region ?_
  refine SO.v rfl (opv_move rfl) ?_
  refine SO.v rfl (opv_move rfl) ?_
  obtain ⟨_, s2, ht1, h⟩ := VM.bind_some V.toVI h
  refine SO.call (pre := [V.rep _]) rfl Try.call25 rfl rfl rfl (cdt_put.ct V _ _ _ _ _ ht1) trivial ?_
  rintro _ _ ⟨rfl, rfl⟩
  refine SO.nil ?_
  refine S.seq ?_
  refine S.region ?_
  refine SO.v rfl (opv_move rfl) ?_
  refine SO.v rfl (opv_move rfl) ?_
  obtain ⟨_, s4, ht3, h⟩ := VM.bind_some V.toVI h
  refine SO.call (pre := [V.rep _]) rfl Try.call25 rfl rfl rfl (cdt_put.ct V _ _ _ _ _ ht3) trivial ?_
  rintro _ _ ⟨rfl, rfl⟩
  refine SO.nil ?_
  refine S.region ?_
  refine SO.v rfl (opv_move rfl) ?_
  refine SO.v rfl (opv_move rfl) ?_
  obtain ⟨_, s6, ht5, h⟩ := VM.bind_some V.toVI h
  refine SO.call (pre := [V.rep _]) rfl Try.call25 rfl rfl rfl (cdt_put.ct V _ _ _ _ _ ht5) trivial ?_
  rintro _ _ ⟨rfl, rfl⟩
  refine SO.nil ?_
  refine S.to (ρ' := []) trivial ?_
  obtain ⟨hq, rfl⟩ := VM.ret_some V.toVI h
  cases hq
  refine S.b1 ?_
  refine S.b1 ?_
  exact S.fin0 Try.func28 rfl (fun w hs hk => hR w _ _ ⟨rfl, rfl⟩ hs hk)
end Go.Proofs
namespace Go.Proofs
open Go.Sl Go.RowKit
/-! 13 padstone/cdt.Replace -/
def cdt_Replace.l2 (a2 : Int) (t48 : List Int) : Nat → Int → VM (Unit)
  | 0, _ => VM.fail
  | k + 1, x70_2 => bif decide (x70_2 < (t48.length : Int)) then ((VM.opt (at_ t48 x70_2)).bind fun x54 => (cdt_put.f x54 1 a2).bind fun _ => cdt_Replace.l2 a2 t48 k (w64 (x70_2 + 1))) else (VM.ret ())
def cdt_Replace.f (k : Nat) (a1 : Int) (a2 : Int) : VM ((Option Int)) :=
  (VM.opt (cdt_there.f a1)).bind fun t1 => (bif !t1 then (VM.ret true) else ((VM.opt (cdt_there.f a2)).bind fun t6 => VM.ret (!t6))).bind fun c4 => bif c4 then (VM.ret (some 2)) else ((bif a1 == a2 then (VM.ret true) else ((cdt_Parent.f a2).bind fun t13 => VM.ret (t13 != (-1)))).bind fun c11 => (bif c11 then (VM.ret true) else ((cdt_get.f a2 2).bind fun t20 => VM.ret (t20 != (-1)))).bind fun c18 => bif c18 then (VM.ret (some 10)) else ((cdt_Parent.f a1).bind fun t25 => (bif t25 != (-1) then ((cdt_Parent.f a1).bind fun t29 => (cdt_put.f a2 1 t29).bind fun _ => (cdt_get.f a1 3).bind fun t34 => (cdt_put.f a2 3 t34).bind fun _ => (cdt_get.f a1 4).bind fun t39 => (cdt_put.f a2 4 t39).bind fun _ => (cdt_beside.f a1 a2 a2).bind fun _ => (cdt_clear.f a1).bind fun _ => VM.ret ()) else (VM.ret ())).bind fun _ => (cdt_Kids.f k a1).bind fun t48 => (cdt_Replace.l2 a2 t48 k 0).bind fun _ => (cdt_get.f a1 2).bind fun t58 => (cdt_put.f a2 2 t58).bind fun _ => (cdt_put.f a1 2 (-1)).bind fun _ => VM.ret none))
set_option maxHeartbeats 8000000 in
set_option maxRecDepth 100000 in
theorem cdt_Replace.ct (V : VW Try.prog) (k : Nat) (a1 : Int) (a2 : Int) (r0 : Option Int) (s s' : V.S) (h : VM.run V.toVI (cdt_Replace.f k a1 a2) s = some (r0, s')) :
    Ct Try.prog 13 [V.val, .int .i64 a1, .int .i64 a2] (fun _ => True) [V.rep s] (fun u H' => u = errV 53 r0 ∧ H' = [V.rep s']) := by
  unfold cdt_Replace.f at h
  refine Ct.intro (n := 88) Try.func13 rfl rfl rfl ?_
  intro R w0 F hF hR
  refine S.seq ?_
  refine S.region ?_
  refine SO.v rfl (opv_assign rfl) ?_
  refine SO.nil ?_
  refine S.seq ?_
  refine S.block ?_
  refine S.seq ?_
  refine S.region ?_
  refine SO.v rfl (opv_move rfl) ?_
  obtain ⟨t1, ht2, h⟩ := VM.opt_some V.toVI h
  refine SO.call (pre := []) rfl Try.call23 rfl rfl rfl (cdt_there.ct _ _ ht2) trivial ?_
  rintro _ _ ⟨rfl, rfl⟩
  refine SO.v rfl (opv_not rfl) ?_
  refine SO.v rfl (opv_move rfl) ?_
  obtain ⟨c4, s8, hc5, hgk⟩ := VM.bind_some V.toVI h
  refine SO.cut 4 17 (.bool c4) [V.rep s8, F] (fun l2 hk2 => ?_) ?_
  · clear hgk
    replace h := hc5
    rcases bool_or (!t1) with b3 | b3
    · replace h := VM.cond_t V.toVI b3 h
      refine SO.passF rfl rfl rfl b3 rfl rfl ?_
      refine SO.passF rfl rfl rfl b3 rfl rfl ?_
      refine SO.passF rfl rfl rfl b3 rfl rfl ?_
      obtain ⟨hq, rfl⟩ := VM.ret_some V.toVI h
      cases hq
      refine SO.v rfl (opv_pick_t' b3 rfl rfl) ?_
      refine SO.b1 ?_
      refine SO.b1 ?_
      exact hk2.fitc (m := 4) rfl (rfl) rfl
    · replace h := VM.cond_f V.toVI b3 h
      refine SO.takeT rfl rfl rfl b3 ?_
      refine SO.v rfl (opv_move rfl) ?_
      refine SO.takeT rfl rfl rfl b3 ?_
      obtain ⟨t6, ht7, h⟩ := VM.opt_some V.toVI h
      refine SO.call (pre := []) rfl Try.call23 rfl rfl rfl (cdt_there.ct _ _ ht7) trivial ?_
      rintro _ _ ⟨rfl, rfl⟩
      refine SO.takeT rfl rfl rfl b3 ?_
      refine SO.v rfl (opv_not rfl) ?_
      obtain ⟨hq, rfl⟩ := VM.ret_some V.toVI h
      cases hq
      refine SO.v rfl (opv_pick_f' b3 rfl rfl) ?_
      refine SO.b1 ?_
      refine SO.b1 ?_
      exact hk2.fitc (m := 4) rfl (rfl) rfl
  clear hc5
  replace h := hgk
  refine SO.v rfl (opv_assign rfl) ?_
  refine SO.nil ?_
  rcases bool_or c4 with b9 | b9
  · replace h := VM.cond_t V.toVI b9 h
    refine S.condT rfl b9 ?_
    refine S.seq ?_
    refine S.region ?_
    refine SO.v rfl (opv_iface Try.underlying53 rfl rfl) ?_
    refine SO.v rfl (opv_assign rfl) ?_
    refine SO.nil ?_
    refine S.to (ρ' := [(6, errV 53 (some 2))]) ⟨rfl, trivial⟩ ?_
    obtain ⟨hq, rfl⟩ := VM.ret_some V.toVI h
    cases hq
    refine S.b1 ?_
    refine S.b1 ?_
    exact S.ret1 Try.func13 rfl rfl (fun w hs hk => hR w _ _ ⟨rfl, rfl⟩ hs hk)
  · replace h := VM.cond_f V.toVI b9 h
    refine S.condF rfl b9 ?_
    refine S.seq ?_
    refine S.region ?_
    refine SO.v rfl (opv_move rfl) ?_
    refine SO.v rfl (opv_move rfl) ?_
    refine SO.v rfl (opv_eql rfl rfl) ?_
    refine SO.v rfl (opv_move rfl) ?_
    obtain ⟨c11, s16, hc12, hgk⟩ := VM.bind_some V.toVI h
    refine SO.cut 5 28 (.bool c11) [V.rep s16, F] (fun l2 hk2 => ?_) ?_
    · clear hgk
      replace h := hc12
      rcases bool_or (a1 == a2) with b10 | b10
      · replace h := VM.cond_t V.toVI b10 h
        refine SO.passF rfl rfl rfl b10 rfl rfl ?_
        refine SO.passF rfl rfl rfl b10 rfl rfl ?_
        refine SO.passF rfl rfl rfl b10 rfl rfl ?_
        refine SO.passF rfl rfl rfl b10 rfl rfl ?_
        obtain ⟨hq, rfl⟩ := VM.ret_some V.toVI h
        cases hq
        refine SO.v rfl (opv_pick_t' b10 rfl rfl) ?_
        refine SO.b1 ?_
        refine SO.b1 ?_
        exact hk2.fitc (m := 5) rfl (rfl) rfl
      · replace h := VM.cond_f V.toVI b10 h
        refine SO.takeT rfl rfl rfl b10 ?_
        refine SO.v rfl (opv_move rfl) ?_
        refine SO.takeT rfl rfl rfl b10 ?_
        refine SO.v rfl (opv_move rfl) ?_
        refine SO.takeT rfl rfl rfl b10 ?_
        obtain ⟨t13, s15, ht14, h⟩ := VM.bind_some V.toVI h
        refine SO.call (pre := [V.rep _]) rfl Try.call21 rfl rfl rfl (cdt_Parent.ct V _ _ _ _ ht14) trivial ?_
        rintro _ _ ⟨rfl, rfl⟩
        refine SO.takeT rfl rfl rfl b10 ?_
        refine SO.v rfl (opv_neq rfl rfl) ?_
        obtain ⟨hq, rfl⟩ := VM.ret_some V.toVI h
        cases hq
        refine SO.v rfl (opv_pick_f' b10 rfl rfl) ?_
        refine SO.b1 ?_
        refine SO.b1 ?_
        exact hk2.fitc (m := 5) rfl (rfl) rfl
    clear hc12
    replace h := hgk
    refine SO.v rfl (opv_move rfl) ?_
    obtain ⟨c18, s23, hc19, hgk⟩ := VM.bind_some V.toVI h
    refine SO.cut 5 34 (.bool c18) [V.rep s23, F] (fun l2 hk2 => ?_) ?_
    · clear hgk
      replace h := hc19
      rcases bool_or c11 with b17 | b17
      · replace h := VM.cond_t V.toVI b17 h
        refine SO.passF rfl rfl rfl b17 rfl rfl ?_
        refine SO.passF rfl rfl rfl b17 rfl rfl ?_
        refine SO.passF rfl rfl rfl b17 rfl rfl ?_
        refine SO.passF rfl rfl rfl b17 rfl rfl ?_
        obtain ⟨hq, rfl⟩ := VM.ret_some V.toVI h
        cases hq
        refine SO.v rfl (opv_pick_t' b17 rfl rfl) ?_
        refine SO.b1 ?_
        refine SO.b1 ?_
        exact hk2.fitc (m := 5) rfl (rfl) rfl
      · replace h := VM.cond_f V.toVI b17 h
        refine SO.takeT rfl rfl rfl b17 ?_
        refine SO.v rfl (opv_move rfl) ?_
        refine SO.takeT rfl rfl rfl b17 ?_
        refine SO.v rfl (opv_move rfl) ?_
        refine SO.takeT rfl rfl rfl b17 ?_
        obtain ⟨t20, s22, ht21, h⟩ := VM.bind_some V.toVI h
        refine SO.call (pre := [V.rep _]) rfl Try.call24 rfl rfl rfl (cdt_get.ct V _ _ _ _ _ ht21) trivial ?_
        rintro _ _ ⟨rfl, rfl⟩
        refine SO.takeT rfl rfl rfl b17 ?_
        refine SO.v rfl (opv_neq rfl rfl) ?_
        obtain ⟨hq, rfl⟩ := VM.ret_some V.toVI h
        cases hq
        refine SO.v rfl (opv_pick_f' b17 rfl rfl) ?_
        refine SO.b1 ?_
        refine SO.b1 ?_
        exact hk2.fitc (m := 5) rfl (rfl) rfl
    clear hc19
    replace h := hgk
    refine SO.v rfl (opv_assign rfl) ?_
    refine SO.nil ?_
    refine S.to (ρ' := [(0, V.val), (1, .int .i64 a1), (2, .int .i64 a2), (6, errV 53 none), (19, .bool c18)]) ⟨rfl, rfl, rfl, rfl, rfl, trivial⟩ ?_
    rcases bool_or c18 with b24 | b24
    · replace h := VM.cond_t V.toVI b24 h
      refine S.condT rfl b24 ?_
      refine S.seq ?_
      refine S.region ?_
      refine SO.v rfl (opv_iface Try.underlying53 rfl rfl) ?_
      refine SO.v rfl (opv_assign rfl) ?_
      refine SO.nil ?_
      obtain ⟨hq, rfl⟩ := VM.ret_some V.toVI h
      cases hq
      refine S.b1 ?_
      refine S.b1 ?_
      exact S.ret1 Try.func13 rfl rfl (fun w hs hk => hR w _ _ ⟨rfl, rfl⟩ hs hk)
    · replace h := VM.cond_f V.toVI b24 h
      refine S.condF rfl b24 ?_
      refine S.skip ?_
      refine S.inBlock ?_
      refine S.seq ?_
      refine S.seq ?_
      refine S.region ?_
      refine SO.v rfl (opv_move rfl) ?_
      refine SO.v rfl (opv_move rfl) ?_
      obtain ⟨t25, s27, ht26, h⟩ := VM.bind_some V.toVI h
      refine SO.call (pre := [V.rep _]) rfl Try.call21 rfl rfl rfl (cdt_Parent.ct V _ _ _ _ ht26) trivial ?_
      rintro _ _ ⟨rfl, rfl⟩
      refine SO.v rfl (opv_neq rfl rfl) ?_
      refine SO.nil ?_
      obtain ⟨_, s_1, hC1, hJ1⟩ := VM.bind_some V.toVI h
      clear h
      refine S.cutP (G := Unit) (fun _ => True) (fun _ => [(0, V.val), (1, .int .i64 a1), (2, .int .i64 a2), (6, errV 53 none)]) (fun _ => [V.rep s_1, F]) (fun hk1 => ?_) ?_
      · replace h := hC1
        rcases bool_or (t25 != (-1)) with b28 | b28
        · replace h := VM.cond_t V.toVI b28 h
          refine S.condT rfl b28 ?_
          refine S.seq ?_
          refine S.region ?_
          refine SO.v rfl (opv_move rfl) ?_
          refine SO.v rfl (opv_move rfl) ?_
          refine SO.v rfl (opv_move rfl) ?_
          refine SO.v rfl (opv_move rfl) ?_
          obtain ⟨t29, s31, ht30, h⟩ := VM.bind_some V.toVI h
          refine SO.call (pre := [V.rep _]) rfl Try.call21 rfl rfl rfl (cdt_Parent.ct V _ _ _ _ ht30) trivial ?_
          rintro _ _ ⟨rfl, rfl⟩
          obtain ⟨_, s33, ht32, h⟩ := VM.bind_some V.toVI h
          refine SO.call (pre := [V.rep _]) rfl Try.call25 rfl rfl rfl (cdt_put.ct V _ _ _ _ _ ht32) trivial ?_
          rintro _ _ ⟨rfl, rfl⟩
          refine SO.nil ?_
          refine S.to (ρ' := [(0, V.val), (1, .int .i64 a1), (2, .int .i64 a2), (6, errV 53 none)]) ⟨rfl, rfl, rfl, rfl, trivial⟩ ?_
          refine S.seq ?_
          refine S.region ?_
          refine SO.v rfl (opv_move rfl) ?_
          refine SO.v rfl (opv_move rfl) ?_
          refine SO.v rfl (opv_move rfl) ?_
          refine SO.v rfl (opv_move rfl) ?_
          obtain ⟨t34, s36, ht35, h⟩ := VM.bind_some V.toVI h
          refine SO.call (pre := [V.rep _]) rfl Try.call24 rfl rfl rfl (cdt_get.ct V _ _ _ _ _ ht35) trivial ?_
          rintro _ _ ⟨rfl, rfl⟩
          obtain ⟨_, s38, ht37, h⟩ := VM.bind_some V.toVI h
          refine SO.call (pre := [V.rep _]) rfl Try.call25 rfl rfl rfl (cdt_put.ct V _ _ _ _ _ ht37) trivial ?_
          rintro _ _ ⟨rfl, rfl⟩
          refine SO.nil ?_
          refine S.seq ?_
          refine S.region ?_
          refine SO.v rfl (opv_move rfl) ?_
          refine SO.v rfl (opv_move rfl) ?_
          refine SO.v rfl (opv_move rfl) ?_
          refine SO.v rfl (opv_move rfl) ?_
          obtain ⟨t39, s41, ht40, h⟩ := VM.bind_some V.toVI h
          refine SO.call (pre := [V.rep _]) rfl Try.call24 rfl rfl rfl (cdt_get.ct V _ _ _ _ _ ht40) trivial ?_
          rintro _ _ ⟨rfl, rfl⟩
          obtain ⟨_, s43, ht42, h⟩ := VM.bind_some V.toVI h
          refine SO.call (pre := [V.rep _]) rfl Try.call25 rfl rfl rfl (cdt_put.ct V _ _ _ _ _ ht42) trivial ?_
          rintro _ _ ⟨rfl, rfl⟩
          refine SO.nil ?_
          refine S.to (ρ' := [(0, V.val), (1, .int .i64 a1), (2, .int .i64 a2), (6, errV 53 none)]) ⟨rfl, rfl, rfl, rfl, trivial⟩ ?_
          refine S.seq ?_
          refine S.region ?_
          refine SO.v rfl (opv_move rfl) ?_
          refine SO.v rfl (opv_move rfl) ?_
          refine SO.v rfl (opv_move rfl) ?_
          refine SO.v rfl (opv_move rfl) ?_
          obtain ⟨_, s45, ht44, h⟩ := VM.bind_some V.toVI h
          refine SO.call (pre := [V.rep _]) rfl Try.call27 rfl rfl rfl (cdt_beside.ct V _ _ _ _ _ ht44) trivial ?_
          rintro _ _ ⟨rfl, rfl⟩
          refine SO.nil ?_
          refine S.region ?_
          refine SO.v rfl (opv_move rfl) ?_
          refine SO.v rfl (opv_move rfl) ?_
          obtain ⟨_, s47, ht46, h⟩ := VM.bind_some V.toVI h
          refine SO.call (pre := [V.rep _]) rfl Try.call28 rfl rfl rfl (cdt_clear.ct V _ _ _ ht46) trivial ?_
          rintro _ _ ⟨rfl, rfl⟩
          refine SO.nil ?_
          refine S.to (ρ' := [(0, V.val), (1, .int .i64 a1), (2, .int .i64 a2), (6, errV 53 none)]) ⟨rfl, rfl, rfl, rfl, trivial⟩ ?_
          obtain ⟨hq, rfl⟩ := VM.ret_some V.toVI h
          cases hq
          refine S.b1 ?_
          refine S.b1 ?_
          refine S.to ?_ (hk1 () trivial)
          exact ⟨rfl, rfl, rfl, rfl, trivial⟩
        · replace h := VM.cond_f V.toVI b28 h
          refine S.condF rfl b28 ?_
          refine S.skip ?_
          obtain ⟨hq, rfl⟩ := VM.ret_some V.toVI h
          cases hq
          refine S.b1 ?_
          refine S.b1 ?_
          refine S.to ?_ (hk1 () trivial)
          exact ⟨rfl, rfl, rfl, rfl, trivial⟩
      rintro _ -
      replace h := hJ1
      refine S.seq ?_
      refine S.seq ?_
      refine S.region ?_
      refine SO.v rfl (opv_move rfl) ?_
      refine SO.v rfl (opv_move rfl) ?_
      obtain ⟨t48, s50, ht49, h⟩ := VM.bind_some V.toVI h
      refine SO.call (pre := [V.rep _]) rfl Try.call20 rfl rfl rfl (cdt_Kids.ct V _ _ _ _ _ ht49) trivial ?_
      rintro v51 _ ⟨_, rfl, rfl⟩
      refine SO.rd fun hr52 => ?_
      refine SO.v rfl (opv_lenR rfl Try.underlying41 hr52 rfl) ?_
      refine SO.v rfl (opv_move rfl) ?_
      refine SO.nil ?_
      obtain ⟨_, so_2, hl2, h⟩ := VM.bind_some V.toVI h
      refine S.b2 ?_
      refine S.b2 ?_
      refine S.b2 ?_
      refine S.to (ρ' := [(70, .int .i64 0), (69, .int .i64 (t48.length : Int)), (68, v51), (0, V.val), (1, .int .i64 a1), (2, .int .i64 a2), (6, errV 53 none)]) ⟨rfl, rfl, rfl, rfl, rfl, rfl, rfl, trivial⟩ ?_
      refine S.forloop (X := (Int × V.S) × Unit) (O := (Unit) × V.S) (fun m x => VM.run V.toVI (cdt_Replace.l2 a2 t48 m x.1.1) x.1.2) (fun x => match x with | ((x70_2, sx_2), _) => [(70, .int .i64 x70_2), (69, .int .i64 (t48.length : Int)), (68, v51), (0, V.val), (1, .int .i64 a1), (2, .int .i64 a2), (6, errV 53 none)]) (fun x => match x with | ((x70_2, sx_2), _) => [Own 3 (ekI .i64) v51 t48, V.rep sx_2, F]) (fun Sk oo => match oo with | (_, so_2) => ∀ _ : Unit, Sk [(0, V.val), (1, .int .i64 a1), (2, .int .i64 a2), (6, errV 53 none)] [Own 3 (ekI .i64) v51 t48, V.rep so_2, F]) (fun _ => rfl) ?_ (m := k) (x := ((0, s50), ())) hl2 ?_
      · clear h hl2
        intro k x o_2 h hK2 ih2
        obtain ⟨⟨x70_2, sx_2⟩, _⟩ := x
        obtain ⟨o_2, so_2_⟩ := o_2
        replace h : VM.run V.toVI (cdt_Replace.l2 a2 t48 (k + 1) x70_2) sx_2 = some (o_2, so_2_) := h
        first | rw [cdt_Replace.l2] at h | unfold cdt_Replace.l2 at h
        refine S.seq ?_
        refine S.region ?_
        refine SO.v rfl (opv_lss rfl rfl) ?_
        refine SO.nil ?_
        refine S.seq ?_
        rcases bool_or (decide (x70_2 < (t48.length : Int))) with b53 | b53
        · replace h := VM.cond_t V.toVI b53 h
          refine S.condT rfl b53 ?_
          refine S.skip ?_
          refine S.seq ?_
          refine S.block ?_
          refine S.seq ?_
          refine S.region ?_
          obtain ⟨x54, hx55, h⟩ := VM.opt_some V.toVI h
          refine SO.v rfl (opv_idx Try.underlying41 Try.sizeOf3 hr52 rfl rfl hx55) ?_
          refine SO.loadI1 (j := 0) rfl Try.isAgg3 (Rd.head hr52) hx55 rfl rfl rfl rfl ?_
          refine SO.v rfl (opv_assign rfl) ?_
          refine SO.nil ?_
          refine S.region ?_
          refine SO.v rfl (opv_move rfl) ?_
          refine SO.v rfl (opv_move rfl) ?_
          refine SO.v rfl (opv_move rfl) ?_
          obtain ⟨_, s57, ht56, h⟩ := VM.bind_some V.toVI h
          refine SO.b1 ?_
          refine SO.call (pre := [V.rep _]) rfl Try.call25 rfl rfl rfl (cdt_put.ct V _ _ _ _ _ ht56) trivial ?_
          rintro _ _ ⟨rfl, rfl⟩
          refine SO.nil ?_
          refine S.to (ρ' := [(70, .int .i64 x70_2), (69, .int .i64 (t48.length : Int)), (68, v51), (0, V.val), (1, .int .i64 a1), (2, .int .i64 a2), (6, errV 53 none)]) ⟨rfl, rfl, rfl, rfl, rfl, rfl, rfl, trivial⟩ ?_
          refine S.inBlock ?_
          refine S.region ?_
          refine SO.v rfl (opv_add rfl rfl) ?_
          refine SO.v rfl (opv_move rfl) ?_
          refine SO.nil ?_
          refine S.b2 ?_
          refine S.b1 ?_
          refine S.b2 ?_
          refine S.to ?_ (ih2 ((w64 (x70_2 + 1), s57), ()) h)
          exact ⟨rfl, rfl, rfl, rfl, rfl, rfl, rfl, trivial⟩
        · replace h := VM.cond_f V.toVI b53 h
          refine S.condF rfl b53 ?_
          refine S.exit rfl ?_
          obtain ⟨hq, rfl⟩ := VM.ret_some V.toVI h
          cases hq
          refine S.b2 ?_
          refine S.b2 ?_
          refine S.b2 ?_
          refine S.to ?_ (hK2 ())
          exact ⟨rfl, rfl, rfl, rfl, trivial⟩
      rintro _
      refine S.seq ?_
      refine S.region ?_
      refine SO.v rfl (opv_move rfl) ?_
      refine SO.v rfl (opv_move rfl) ?_
      refine SO.v rfl (opv_move rfl) ?_
      refine SO.v rfl (opv_move rfl) ?_
      obtain ⟨t58, s60, ht59, h⟩ := VM.bind_some V.toVI h
      refine SO.b1 ?_
      refine SO.call (pre := [V.rep _]) rfl Try.call24 rfl rfl rfl (cdt_get.ct V _ _ _ _ _ ht59) trivial ?_
      rintro _ _ ⟨rfl, rfl⟩
      obtain ⟨_, s62, ht61, h⟩ := VM.bind_some V.toVI h
      refine SO.call (pre := [V.rep _]) rfl Try.call25 rfl rfl rfl (cdt_put.ct V _ _ _ _ _ ht61) trivial ?_
      rintro _ _ ⟨rfl, rfl⟩
      refine SO.nil ?_
      refine S.to (ρ' := [(0, V.val), (1, .int .i64 a1), (6, errV 53 none)]) ⟨rfl, rfl, rfl, trivial⟩ ?_
      refine S.seq ?_
      refine S.region ?_
      refine SO.v rfl (opv_move rfl) ?_
      refine SO.v rfl (opv_move rfl) ?_
      obtain ⟨_, s64, ht63, h⟩ := VM.bind_some V.toVI h
      refine SO.call (pre := [V.rep _]) rfl Try.call25 rfl rfl rfl (cdt_put.ct V _ _ _ _ _ ht63) trivial ?_
      rintro _ _ ⟨rfl, rfl⟩
      refine SO.nil ?_
      refine S.seq ?_
      refine S.region ?_
      refine SO.v rfl (opv_assign rfl) ?_
      refine SO.nil ?_
      obtain ⟨hq, rfl⟩ := VM.ret_some V.toVI h
      cases hq
      refine S.b1 ?_
      refine S.drop ?_
      refine S.b1 ?_
      refine S.b1 ?_
      exact S.ret1 Try.func13 rfl rfl (fun w hs hk => hR w _ _ ⟨rfl, rfl⟩ hs hk)
end Go.Proofs
namespace Go.Proofs
open Go.Sl Go.RowKit
/-! 11 padstone/cdt.Unlink -/
def cdt_Unlink.f (a1 : Int) : VM ((Option Int)) :=
  (VM.opt (cdt_there.f a1)).bind fun t1 => bif !t1 then (VM.ret (some 2)) else ((cdt_Parent.f a1).bind fun t4 => bif t4 == (-1) then (VM.ret none) else ((cdt_get.f a1 3).bind fun t8 => (cdt_get.f a1 4).bind fun t11 => (cdt_beside.f a1 t8 t11).bind fun _ => (cdt_clear.f a1).bind fun _ => VM.ret none))
set_option maxHeartbeats 8000000 in
set_option maxRecDepth 100000 in
theorem cdt_Unlink.ct (V : VW Try.prog) (a1 : Int) (r0 : Option Int) (s s' : V.S) (h : VM.run V.toVI (cdt_Unlink.f a1) s = some (r0, s')) :
    Ct Try.prog 11 [V.val, .int .i64 a1] (fun _ => True) [V.rep s] (fun u H' => u = errV 53 r0 ∧ H' = [V.rep s']) := by
  unfold cdt_Unlink.f at h
  refine Ct.intro (n := 25) Try.func11 rfl rfl rfl ?_
  intro R w0 F hF hR
  refine S.seq ?_
  refine S.region ?_
  refine SO.v rfl (opv_assign rfl) ?_
  refine SO.nil ?_
  refine S.seq ?_
  refine S.seq ?_
  refine S.region ?_
  refine SO.v rfl (opv_move rfl) ?_
  obtain ⟨t1, ht2, h⟩ := VM.opt_some V.toVI h
  refine SO.call (pre := []) rfl Try.call23 rfl rfl rfl (cdt_there.ct _ _ ht2) trivial ?_
  rintro _ _ ⟨rfl, rfl⟩
  refine SO.v rfl (opv_not rfl) ?_
  refine SO.nil ?_
  rcases bool_or (!t1) with b3 | b3
  · replace h := VM.cond_t V.toVI b3 h
    refine S.condT rfl b3 ?_
    refine S.seq ?_
    refine S.region ?_
    refine SO.v rfl (opv_iface Try.underlying53 rfl rfl) ?_
    refine SO.v rfl (opv_assign rfl) ?_
    refine SO.nil ?_
    obtain ⟨hq, rfl⟩ := VM.ret_some V.toVI h
    cases hq
    refine S.b1 ?_
    refine S.b1 ?_
    exact S.ret1 Try.func11 rfl rfl (fun w hs hk => hR w _ _ ⟨rfl, rfl⟩ hs hk)
  · replace h := VM.cond_f V.toVI b3 h
    refine S.condF rfl b3 ?_
    refine S.skip ?_
    refine S.seq ?_
    refine S.seq ?_
    refine S.region ?_
    refine SO.v rfl (opv_move rfl) ?_
    refine SO.v rfl (opv_move rfl) ?_
    obtain ⟨t4, s6, ht5, h⟩ := VM.bind_some V.toVI h
    refine SO.call (pre := [V.rep _]) rfl Try.call21 rfl rfl rfl (cdt_Parent.ct V _ _ _ _ ht5) trivial ?_
    rintro _ _ ⟨rfl, rfl⟩
    refine SO.v rfl (opv_eql rfl rfl) ?_
    refine SO.nil ?_
    rcases bool_or (t4 == (-1)) with b7 | b7
    · replace h := VM.cond_t V.toVI b7 h
      refine S.condT rfl b7 ?_
      refine S.seq ?_
      refine S.region ?_
      refine SO.v rfl (opv_assign rfl) ?_
      refine SO.nil ?_
      refine S.to (ρ' := [(4, errV 53 none)]) ⟨rfl, trivial⟩ ?_
      obtain ⟨hq, rfl⟩ := VM.ret_some V.toVI h
      cases hq
      refine S.b1 ?_
      refine S.b1 ?_
      exact S.ret1 Try.func11 rfl rfl (fun w hs hk => hR w _ _ ⟨rfl, rfl⟩ hs hk)
    · replace h := VM.cond_f V.toVI b7 h
      refine S.condF rfl b7 ?_
      refine S.skip ?_
      refine S.seq ?_
      refine S.region ?_
      refine SO.v rfl (opv_move rfl) ?_
      refine SO.v rfl (opv_move rfl) ?_
      refine SO.v rfl (opv_move rfl) ?_
      refine SO.v rfl (opv_move rfl) ?_
      obtain ⟨t8, s10, ht9, h⟩ := VM.bind_some V.toVI h
      refine SO.call (pre := [V.rep _]) rfl Try.call24 rfl rfl rfl (cdt_get.ct V _ _ _ _ _ ht9) trivial ?_
      rintro _ _ ⟨rfl, rfl⟩
      refine SO.v rfl (opv_move rfl) ?_
      refine SO.v rfl (opv_move rfl) ?_
      obtain ⟨t11, s13, ht12, h⟩ := VM.bind_some V.toVI h
      refine SO.call (pre := [V.rep _]) rfl Try.call24 rfl rfl rfl (cdt_get.ct V _ _ _ _ _ ht12) trivial ?_
      rintro _ _ ⟨rfl, rfl⟩
      obtain ⟨_, s15, ht14, h⟩ := VM.bind_some V.toVI h
      refine SO.call (pre := [V.rep _]) rfl Try.call27 rfl rfl rfl (cdt_beside.ct V _ _ _ _ _ ht14) trivial ?_
      rintro _ _ ⟨rfl, rfl⟩
      refine SO.nil ?_
      refine S.to (ρ' := [(0, V.val), (1, .int .i64 a1), (4, errV 53 none)]) ⟨rfl, rfl, rfl, trivial⟩ ?_
      refine S.seq ?_
      refine S.region ?_
      refine SO.v rfl (opv_move rfl) ?_
      refine SO.v rfl (opv_move rfl) ?_
      obtain ⟨_, s17, ht16, h⟩ := VM.bind_some V.toVI h
      refine SO.call (pre := [V.rep _]) rfl Try.call28 rfl rfl rfl (cdt_clear.ct V _ _ _ ht16) trivial ?_
      rintro _ _ ⟨rfl, rfl⟩
      refine SO.nil ?_
      refine S.seq ?_
      refine S.region ?_
      refine SO.v rfl (opv_assign rfl) ?_
      refine SO.nil ?_
      obtain ⟨hq, rfl⟩ := VM.ret_some V.toVI h
      cases hq
      refine S.b1 ?_
      refine S.b1 ?_
      exact S.ret1 Try.func11 rfl rfl (fun w hs hk => hR w _ _ ⟨rfl, rfl⟩ hs hk)
end Go.Proofs
namespace Go.Proofs
open Go.Sl Go.RowKit
/-! 15 padstone/padstonelaw00.Code -/
def law00_Code.l1 (a0 : Option Int) : Nat → Int → Option (Brk Int Unit)
  | 0, _ => none
  | k + 1, x3_1 => bif decide (x3_1 ≤ 14) then (bif a0 == some x3_1 then (some (Brk.ret x3_1)) else (law00_Code.l1 a0 k (w64 (x3_1 + 1)))) else (some (Brk.nx ()))
def law00_Code.f (k : Nat) (a0 : Option Int) : Option (Int) :=
  bif a0.isNone then (some 0) else ((law00_Code.l1 a0 k 1).bind fun o1 => Brk.go o1 (fun r => some r) (fun _ => some (-1)))
set_option maxHeartbeats 8000000 in
set_option maxRecDepth 100000 in
theorem law00_Code.ct (k : Nat) (a0 : Option Int) (r0 : Int) (h : law00_Code.f k a0 = some r0) :
    Ct Try.prog 15 [errV 53 a0] (fun _ => True) [] (fun u H' => u = .int .i64 r0 ∧ H' = []) := by
  unfold law00_Code.f at h
  refine Ct.intro (n := 15) Try.func15 rfl rfl rfl ?_
  intro R w0 F hF hR
  refine S.seq ?_
  refine S.region ?_
  refine SO.v rfl (opv_assign rfl) ?_
  refine SO.nil ?_
  refine S.seq ?_
  refine S.seq ?_
  refine S.region ?_
  refine SO.v rfl (opv_move rfl) ?_
  refine SO.v rfl (opv_eqlN (e := a0) Try.underlying31 rfl) ?_
  refine SO.nil ?_
  rcases bool_or a0.isNone with b1 | b1
  · replace h := cond_t b1 h
    refine S.condT rfl b1 ?_
    refine S.seq ?_
    refine S.region ?_
    refine SO.v rfl (opv_assign rfl) ?_
    refine SO.nil ?_
    cases h
    exact S.ret1 Try.func15 rfl rfl (fun w hs hk => hR w _ _ ⟨rfl, rfl⟩ hs hk)
  · replace h := cond_f b1 h
    refine S.condF rfl b1 ?_
    refine S.skip ?_
    refine S.seq ?_
    refine S.seq ?_
    refine S.region ?_
    refine SO.v rfl (opv_assign rfl) ?_
    refine SO.nil ?_
    obtain ⟨o1, hl1, h⟩ := opt_bind h
    refine S.to (ρ' := [(3, .int .i64 1), (2, .int .i64 0), (0, errV 53 a0)]) ⟨rfl, rfl, rfl, trivial⟩ ?_
    refine S.forloop (X := Int × Unit) (O := Brk Int Unit) (fun m x => law00_Code.l1 a0 m x.1) (fun x => match x with | (x3_1, _) => [(3, .int .i64 x3_1), (2, .int .i64 0), (0, errV 53 a0)]) (fun x => match x with | (x3_1, _) => [F]) (fun Sk o' => (∀ r', o' = Brk.ret r' → some r' = some r0) ∧ ∀ _ : Unit, ∀ _ : Unit, o' = Brk.nx () → Sk [(2, .int .i64 0)] [F]) (fun _ => rfl) ?_ (m := k) (x := (1, ())) hl1 ?_
    · clear h hl1
      intro k x o_1 h hK1 ih1
      obtain ⟨x3_1, _⟩ := x
      replace h : law00_Code.l1 a0 (k + 1) x3_1 = some o_1 := h
      first | rw [law00_Code.l1] at h | unfold law00_Code.l1 at h
      refine S.seq ?_
      refine S.seq ?_
      refine S.region ?_
      refine SO.v rfl (opv_move rfl) ?_
      refine SO.v rfl (opv_leq rfl rfl) ?_
      refine SO.nil ?_
      rcases bool_or (decide (x3_1 ≤ 14)) with b2 | b2
      · replace h := cond_t b2 h
        refine S.condT rfl b2 ?_
        refine S.skip ?_
        refine S.seq ?_
        refine S.block ?_
        refine S.seq ?_
        refine S.region ?_
        refine SO.v rfl (opv_move rfl) ?_
        refine SO.v rfl (opv_move rfl) ?_
        refine SO.v rfl (opv_iface Try.underlying53 rfl rfl) ?_
        refine SO.v rfl (opv_eqlE (e := a0) (c := x3_1) Try.underlying31 Try.underlying53 inf53 rfl rfl rfl) ?_
        refine SO.nil ?_
        rcases bool_or (a0 == some x3_1) with b3 | b3
        · replace h := cond_t b3 h
          refine S.condT rfl b3 ?_
          refine S.seq ?_
          refine S.region ?_
          refine SO.v rfl (opv_move rfl) ?_
          refine SO.v rfl (opv_assign rfl) ?_
          refine SO.nil ?_
          refine S.to (ρ' := [(2, .int .i64 x3_1)]) ⟨rfl, trivial⟩ ?_
          cases h
          replace h := hK1.1 _ rfl
          cases h
          exact S.ret1 Try.func15 rfl rfl (fun w hs hk => hR w _ _ ⟨rfl, rfl⟩ hs hk)
        · replace h := cond_f b3 h
          refine S.condF rfl b3 ?_
          refine S.skip ?_
          refine S.inBlock ?_
          refine S.region ?_
          refine SO.v rfl (opv_move rfl) ?_
          refine SO.v rfl (opv_add rfl rfl) ?_
          refine SO.v rfl (opv_assign rfl) ?_
          refine SO.nil ?_
          refine S.to (ρ' := [(3, .int .i64 (w64 (x3_1 + 1))), (2, .int .i64 0), (0, errV 53 a0)]) ⟨rfl, rfl, rfl, trivial⟩ ?_
          refine S.to ?_ (ih1 (w64 (x3_1 + 1), ()) h)
          exact ⟨rfl, rfl, rfl, trivial⟩
      · replace h := cond_f b2 h
        refine S.condF rfl b2 ?_
        refine S.exit rfl ?_
        cases h
        refine S.to ?_ (hK1.2 () () rfl)
        exact ⟨rfl, trivial⟩
    refine ⟨fun r' e' => ?_, ?_⟩
    · subst e'
      have h9 := Brk.of_ret h
      exact h9
    rintro _ _ e'
    subst e'
    replace h := Brk.of_nx h
    refine S.seq ?_
    refine S.region ?_
    refine SO.v rfl (opv_assign rfl) ?_
    refine SO.nil ?_
    cases h
    exact S.ret1 Try.func15 rfl rfl (fun w hs hk => hR w _ _ ⟨rfl, rfl⟩ hs hk)
end Go.Proofs
namespace Go.Proofs
open Go.Sl Go.RowKit
/-! 7 padstone/padstonelaw10.Pick -/
def law10_Pick.f (a0 : Int) (a1 : Int) : Option (Int) :=
  bif decide (a0 < 0) then ((chk (decide (a1 ≠ 0))).bind fun _ => some ((w64 (0 - (w64 (a0 + 1)))).tmod a1)) else ((chk (decide (a1 ≠ 0))).bind fun _ => some (a0.tmod a1))
set_option maxHeartbeats 8000000 in
set_option maxRecDepth 100000 in
theorem law10_Pick.ct (a0 : Int) (a1 : Int) (r0 : Int) (h : law10_Pick.f a0 a1 = some r0) :
    Ct Try.prog 7 [.int .i64 a0, .int .i64 a1] (fun _ => True) [] (fun u H' => u = .int .i64 r0 ∧ H' = []) := by
  unfold law10_Pick.f at h
  refine Ct.intro (n := 13) Try.func7 rfl rfl rfl ?_
  intro R w0 F hF hR
  refine S.seq ?_
  refine S.region ?_
  refine SO.v rfl (opv_assign rfl) ?_
  refine SO.nil ?_
  refine S.seq ?_
  refine S.seq ?_
  refine S.region ?_
  refine SO.v rfl (opv_move rfl) ?_
  refine SO.v rfl (opv_lss rfl rfl) ?_
  refine SO.nil ?_
  rcases bool_or (decide (a0 < 0)) with b1 | b1
  · replace h := cond_t b1 h
    refine S.condT rfl b1 ?_
    refine S.region ?_
    refine SO.v rfl (opv_move rfl) ?_
    refine SO.v rfl (opv_add rfl rfl) ?_
    refine SO.v rfl (opv_neg rfl) ?_
    refine SO.v rfl (opv_assign rfl) ?_
    refine SO.nil ?_
    refine S.seq ?_
    refine S.region ?_
    refine SO.v rfl (opv_move rfl) ?_
    refine SO.v rfl (opv_move rfl) ?_
    obtain ⟨_, hc2, h⟩ := opt_bind h
    refine SO.v rfl (opv_rem rfl rfl (of_decide_eq_true (chk_some hc2))) ?_
    refine SO.v rfl (opv_assign rfl) ?_
    refine SO.nil ?_
    refine S.to (ρ' := [(4, .int .i64 ((w64 (0 - (w64 (a0 + 1)))).tmod a1))]) ⟨rfl, trivial⟩ ?_
    cases h
    exact S.ret1 Try.func7 rfl rfl (fun w hs hk => hR w _ _ ⟨rfl, rfl⟩ hs hk)
  · replace h := cond_f b1 h
    refine S.condF rfl b1 ?_
    refine S.skip ?_
    refine S.seq ?_
    refine S.region ?_
    refine SO.v rfl (opv_move rfl) ?_
    refine SO.v rfl (opv_move rfl) ?_
    obtain ⟨_, hc3, h⟩ := opt_bind h
    refine SO.v rfl (opv_rem rfl rfl (of_decide_eq_true (chk_some hc3))) ?_
    refine SO.v rfl (opv_assign rfl) ?_
    refine SO.nil ?_
    refine S.to (ρ' := [(4, .int .i64 (a0.tmod a1))]) ⟨rfl, trivial⟩ ?_
    cases h
    exact S.ret1 Try.func7 rfl rfl (fun w hs hk => hR w _ _ ⟨rfl, rfl⟩ hs hk)
end Go.Proofs
namespace Go.Proofs
open Go.Sl Go.RowKit
/-! 8 padstone/padstonelaw10.above -/
def law10_above.l1 (a0 : ref10_State) (a1 : Int) : Nat → (Int × Int) → Option (Brk Bool Unit)
  | 0, _ => none
  | k + 1, (x7_1, x2_1) => bif (decide (x7_1 < 97)) && (decide (0 ≤ x2_1)) then (bif a1 == x2_1 then (some (Brk.ret true)) else ((at_ a0.Slots x2_1).bind fun x8 => law10_above.l1 a0 a1 k (w64 (x7_1 + 1), x8.Parent))) else (some (Brk.nx ()))
def law10_above.f (k : Nat) (a0 : ref10_State) (a1 : Int) (a2 : Int) : Option (Bool) :=
  (law10_above.l1 a0 a1 k (0, a2)).bind fun o1 => Brk.go o1 (fun r => some r) (fun _ => some false)
set_option maxHeartbeats 8000000 in
set_option maxRecDepth 100000 in
theorem law10_above.ct (k : Nat) (bp0 : Nat) (v0_Slots : Value) (v0_Objs : Value) (raws_v0_Slots : List (Raw (kr_ref10_Slot).sz)) (A_v0_Slots : HProp) (raws_v0_Objs : List (Raw (kr_ref10_Obj).sz)) (A_v0_Objs : HProp) (a0 : ref10_State) (a1 : Int) (a2 : Int) (r0 : Bool) (h : law10_above.f k a0 a1 a2 = some r0) :
    Ct Try.prog 8 [bp bp0 0, .int .i64 a1, .int .i64 a2] (fun _ => True) [Box bp0 [v0_Slots, v0_Objs, .int .i64 a0.NS, .int .i64 a0.NO], OwnO 46 kr_ref10_Slot v0_Slots raws_v0_Slots A_v0_Slots a0.Slots, OwnO 56 kr_ref10_Obj v0_Objs raws_v0_Objs A_v0_Objs a0.Objs] (fun u H' => u = .bool r0 ∧ H' = [Box bp0 [v0_Slots, v0_Objs, .int .i64 a0.NS, .int .i64 a0.NO], OwnO 46 kr_ref10_Slot v0_Slots raws_v0_Slots A_v0_Slots a0.Slots, OwnO 56 kr_ref10_Obj v0_Objs raws_v0_Objs A_v0_Objs a0.Objs]) := by
  unfold law10_above.f at h
  refine Ct.intro (n := 27) Try.func8 rfl rfl rfl ?_
  intro R w0 F hF hR
  refine S.b1 ?_
  refine S.rdO fun hrel1 hR2 => ?_
  refine S.b2 ?_
  refine S.rdO fun hrel3 hR4 => ?_
  refine S.seq ?_
  refine S.region ?_
  refine SO.v rfl (opv_assign rfl) ?_
  refine SO.nil ?_
  refine S.seq ?_
  refine S.seq ?_
  refine S.region ?_
  refine SO.v rfl (opv_assign rfl) ?_
  refine SO.nil ?_
  obtain ⟨o1, hl1, h⟩ := opt_bind h
  refine S.b3 ?_
  refine S.b3 ?_
  refine S.b3 ?_
  refine S.b3 ?_
  refine S.to (ρ' := [(7, .int .i64 0), (6, .bool false), (0, bp bp0 0), (1, .int .i64 a1), (2, .int .i64 a2)]) ⟨rfl, rfl, rfl, rfl, rfl, trivial⟩ ?_
  refine S.forloop (X := (Int × Int) × Unit) (O := Brk Bool Unit) (fun m x => law10_above.l1 a0 a1 m x.1) (fun x => match x with | ((x7_1, x2_1), _) => [(7, .int .i64 x7_1), (6, .bool false), (0, bp bp0 0), (1, .int .i64 a1), (2, .int .i64 x2_1)]) (fun x => match x with | ((x7_1, x2_1), _) => [OwnO 56 kr_ref10_Obj v0_Objs raws_v0_Objs A_v0_Objs a0.Objs, OwnO 46 kr_ref10_Slot v0_Slots raws_v0_Slots A_v0_Slots a0.Slots, Box bp0 [v0_Slots, v0_Objs, .int .i64 a0.NS, .int .i64 a0.NO], F]) (fun Sk o' => (∀ r', o' = Brk.ret r' → some r' = some r0) ∧ ∀ _ : Unit, ∀ _ : Unit, o' = Brk.nx () → Sk [(6, .bool false)] [OwnO 56 kr_ref10_Obj v0_Objs raws_v0_Objs A_v0_Objs a0.Objs, OwnO 46 kr_ref10_Slot v0_Slots raws_v0_Slots A_v0_Slots a0.Slots, Box bp0 [v0_Slots, v0_Objs, .int .i64 a0.NS, .int .i64 a0.NO], F]) (fun _ => rfl) ?_ (m := k) (x := ((0, a2), ())) hl1 ?_
  · clear h hl1
    intro k x o_1 h hK1 ih1
    obtain ⟨⟨x7_1, x2_1⟩, _⟩ := x
    replace h : law10_above.l1 a0 a1 (k + 1) (x7_1, x2_1) = some o_1 := h
    first | rw [law10_above.l1] at h | unfold law10_above.l1 at h
    refine S.seq ?_
    refine S.seq ?_
    refine S.region ?_
    refine SO.v rfl (opv_move rfl) ?_
    refine SO.v rfl (opv_lss rfl rfl) ?_
    refine SO.v rfl (opv_move rfl) ?_
    refine SO.cut 3 13 (.bool ((decide (x7_1 < 97)) && (decide (0 ≤ x2_1)))) [OwnO 56 kr_ref10_Obj v0_Objs raws_v0_Objs A_v0_Objs a0.Objs, OwnO 46 kr_ref10_Slot v0_Slots raws_v0_Slots A_v0_Slots a0.Slots, Box bp0 [v0_Slots, v0_Objs, .int .i64 a0.NS, .int .i64 a0.NO], F] (fun l2 hk2 => ?_) ?_
    · rcases bool_or (decide (x7_1 < 97)) with b5 | b5
      · refine SO.takeT rfl rfl rfl b5 ?_
        refine SO.v rfl (opv_move rfl) ?_
        refine SO.takeT rfl rfl rfl b5 ?_
        refine SO.v rfl (opv_geq rfl rfl) ?_
        refine SO.v rfl (opv_pick_t' b5 rfl rfl) ?_
        refine SO.b3 ?_
        refine SO.b3 ?_
        refine SO.b3 ?_
        refine SO.b3 ?_
        exact hk2.fitc (m := 3) rfl (and_t b5) rfl
      · refine SO.passF rfl rfl rfl b5 rfl rfl ?_
        refine SO.passF rfl rfl rfl b5 rfl rfl ?_
        refine SO.v rfl (opv_pick_f' b5 rfl rfl) ?_
        refine SO.b3 ?_
        refine SO.b3 ?_
        refine SO.b3 ?_
        refine SO.b3 ?_
        exact hk2.fitc (m := 3) rfl (and_f b5) rfl
    refine SO.nil ?_
    rcases bool_or ((decide (x7_1 < 97)) && (decide (0 ≤ x2_1))) with b6 | b6
    · replace h := cond_t b6 h
      refine S.condT rfl b6 ?_
      refine S.skip ?_
      refine S.seq ?_
      refine S.block ?_
      refine S.seq ?_
      refine S.seq ?_
      refine S.region ?_
      refine SO.v rfl (opv_move rfl) ?_
      refine SO.v rfl (opv_move rfl) ?_
      refine SO.v rfl (opv_eql rfl rfl) ?_
      refine SO.nil ?_
      rcases bool_or (a1 == x2_1) with b7 | b7
      · replace h := cond_t b7 h
        refine S.condT rfl b7 ?_
        refine S.seq ?_
        refine S.region ?_
        refine SO.v rfl (opv_assign rfl) ?_
        refine SO.nil ?_
        refine S.to (ρ' := [(6, .bool true)]) ⟨rfl, trivial⟩ ?_
        cases h
        replace h := hK1.1 _ rfl
        cases h
        refine S.b3 ?_
        refine S.b1 ?_
        refine S.b2 ?_
        refine S.b3 ?_
        exact S.ret1 Try.func8 rfl rfl (fun w hs hk => hR w _ _ ⟨rfl, rfl⟩ hs hk)
      · replace h := cond_f b7 h
        refine S.condF rfl b7 ?_
        refine S.skip ?_
        refine S.region ?_
        refine SO.v rfl (opv_move rfl) ?_
        refine SO.v rfl (opv_nilCheck rfl) ?_
        refine SO.v rfl (opv_fieldAddr Try.underlying50 rfl Try.sizeOf47 rfl rfl) ?_
        refine SO.b2 ?_
        refine SO.load1 rfl Try.isAgg47 rfl rfl ?_
        refine SO.v rfl (opv_move rfl) ?_
        obtain ⟨x8, hx9, h⟩ := opt_bind h
        obtain ⟨r10, hr11, hc12⟩ := relR.at hrel1 hx9
        refine SO.v rfl (opv_idx Try.underlying47 Try.sizeOf46 hR2 rfl rfl hr11) ?_
        refine SO.v rfl (opv_fieldIdx Try.underlying46 rfl Try.sizeOf3 hR2 hr11 rfl rfl) ?_
        refine SO.loadI1 (j := 6) rfl Try.isAgg3 (Rd.tail (Rd.tail (Rd.head hR2))) hr11 rfl rfl rfl (hc12.val rfl) ?_
        refine SO.v rfl (opv_assign rfl) ?_
        refine SO.nil ?_
        refine S.to (ρ' := [(7, .int .i64 x7_1), (6, .bool false), (0, bp bp0 0), (1, .int .i64 a1), (2, .int .i64 x8.Parent)]) ⟨rfl, rfl, rfl, rfl, rfl, trivial⟩ ?_
        refine S.inBlock ?_
        refine S.region ?_
        refine SO.v rfl (opv_move rfl) ?_
        refine SO.v rfl (opv_add rfl rfl) ?_
        refine SO.v rfl (opv_assign rfl) ?_
        refine SO.nil ?_
        refine S.b3 ?_
        refine S.b1 ?_
        refine S.b3 ?_
        refine S.b3 ?_
        refine S.to ?_ (ih1 ((w64 (x7_1 + 1), x8.Parent), ()) h)
        exact ⟨rfl, rfl, rfl, rfl, rfl, trivial⟩
    · replace h := cond_f b6 h
      refine S.condF rfl b6 ?_
      refine S.exit rfl ?_
      cases h
      refine S.b3 ?_
      refine S.b3 ?_
      refine S.b3 ?_
      refine S.b3 ?_
      refine S.to ?_ (hK1.2 () () rfl)
      exact ⟨rfl, trivial⟩
  refine ⟨fun r' e' => ?_, ?_⟩
  · subst e'
    have h9 := Brk.of_ret h
    exact h9
  rintro _ _ e'
  subst e'
  replace h := Brk.of_nx h
  refine S.seq ?_
  refine S.region ?_
  refine SO.v rfl (opv_assign rfl) ?_
  refine SO.nil ?_
  cases h
  refine S.b3 ?_
  refine S.b1 ?_
  refine S.b2 ?_
  refine S.b3 ?_
  exact S.ret1 Try.func8 rfl rfl (fun w hs hk => hR w _ _ ⟨rfl, rfl⟩ hs hk)
end Go.Proofs
namespace Go.Proofs
open Go.Sl Go.RowKit
/-! 5 padstone/padstonelaw10.up -/
def law10_up.f (k : Nat) : Option (Bool) :=
  (mk_ 0 738).bind fun xs3 => (VM.run plainI (cdt_Link.f 1 0) xs3).bind fun (t5, s7) => (VM.run plainI (cdt_Link.f 2 0) s7).bind fun (t9, s11) => (VM.run plainI (cdt_Kids.f k 0) s11).bind fun (t13, s15) => (bif (t5.isNone && t9.isNone) && ((t13.length : Int) == 2) then ((at_ t13 0).bind fun x24 => some (x24 == 2)) else (some false)).bind fun c22 => (bif c22 then ((at_ t13 1).bind fun x29 => some (x29 == 1)) else (some false)).bind fun c27 => (bif c27 then ((VM.run plainI (cdt_Parent.f 1) s15).bind fun (t36, s38) => some (t36 == 0, s38)) else (some (false, s15))).bind fun (c32, w34) => (bif c32 then ((VM.run plainI (cdt_Leaf.f k 0) w34).bind fun (t45, s47) => some (t45 == 2, s47)) else (some (false, w34))).bind fun (c41, w43) => (bif c41 then ((VM.run plainI (cdt_Link.f 96 0) w43).bind fun (t54, s56) => some (t54 == some 2, s56)) else (some (false, w43))).bind fun (c50, w52) => some c50
set_option maxHeartbeats 8000000 in
set_option maxRecDepth 100000 in
theorem law10_up.ct (k : Nat) (r0 : Bool) (h : law10_up.f k  = some r0) :
    Ct Try.prog 5 [] (fun _ => True) [] (fun u H' => u = .bool r0 ∧ H' = []) := by
  unfold law10_up.f at h
  refine Ct.intro (n := 57) Try.func5 rfl rfl rfl ?_
  intro R w0 F hF hR
  refine S.seq ?_
  refine S.region ?_
  refine SO.v rfl (opv_assign rfl) ?_
  refine SO.nil ?_
  refine S.seq ?_
  refine S.region ?_
  obtain ⟨xs3, hx4, h⟩ := opt_bind h
  refine SO.makeSlice (K := ekI .u64) rfl Try.underlying26 inf65 rfl rfl rfl (by decide) rfl rfl rfl hx4 (fun v1 hr2 => ?_)
  refine SO.v rfl (opv_assign rfl) ?_
  refine SO.nil ?_
  refine S.seq ?_
  refine S.region ?_
  refine SO.v rfl (opv_move rfl) ?_
  refine SO.v rfl (opv_iface Try.underlying27 rfl rfl) ?_
  obtain ⟨⟨t5, s7⟩, ht6, h⟩ := opt_bind h
  refine SO.call (pre := [(plainV v1).rep _]) rfl Try.call9 rfl rfl rfl (cdt_Link.ct (plainV v1) _ _ _ _ _ ht6) trivial ?_
  rintro _ _ ⟨rfl, rfl⟩
  refine headEq (plainV_rep _ _) ?_
  refine SO.rd fun hr8 => ?_
  refine SO.v rfl (opv_assign rfl) ?_
  refine SO.nil ?_
  refine S.seq ?_
  refine S.region ?_
  refine SO.v rfl (opv_move rfl) ?_
  refine SO.v rfl (opv_iface Try.underlying27 rfl rfl) ?_
  obtain ⟨⟨t9, s11⟩, ht10, h⟩ := opt_bind h
  refine SO.call (pre := [(plainV v1).rep _]) rfl Try.call9 rfl rfl rfl (cdt_Link.ct (plainV v1) _ _ _ _ _ ht10) trivial ?_
  rintro _ _ ⟨rfl, rfl⟩
  refine headEq (plainV_rep _ _) ?_
  refine SO.rd fun hr12 => ?_
  refine SO.v rfl (opv_assign rfl) ?_
  refine SO.nil ?_
  refine S.to (ρ' := [(0, .bool false), (1, v1), (2, errV 53 t5), (3, errV 53 t9)]) ⟨rfl, rfl, rfl, rfl, trivial⟩ ?_
  refine S.seq ?_
  refine S.region ?_
  refine SO.v rfl (opv_move rfl) ?_
  refine SO.v rfl (opv_iface Try.underlying27 rfl rfl) ?_
  obtain ⟨⟨t13, s15⟩, ht14, h⟩ := opt_bind h
  refine SO.call (pre := [(plainV v1).rep _]) rfl Try.call20 rfl rfl rfl (cdt_Kids.ct (plainV v1) _ _ _ _ _ ht14) trivial ?_
  rintro v16 _ ⟨_, rfl, rfl⟩
  refine SO.rd fun hr17 => ?_
  refine SO.b1 ?_
  refine headEq (plainV_rep _ _) ?_
  refine SO.rd fun hr18 => ?_
  refine SO.v rfl (opv_assign rfl) ?_
  refine SO.nil ?_
  refine S.seq ?_
  refine S.region ?_
  refine SO.v rfl (opv_move rfl) ?_
  refine SO.v rfl (opv_eqlN (e := t5) Try.underlying31 rfl) ?_
  refine SO.v rfl (opv_move rfl) ?_
  refine SO.cut 3 20 (.bool (t5.isNone && t9.isNone)) [Own 65 (ekI .u64) v1 s15, Own 3 (ekI .i64) v16 t13, F] (fun l2 hk2 => ?_) ?_
  · rcases bool_or t5.isNone with b19 | b19
    · refine SO.takeT rfl rfl rfl b19 ?_
      refine SO.v rfl (opv_move rfl) ?_
      refine SO.takeT rfl rfl rfl b19 ?_
      refine SO.v rfl (opv_eqlN (e := t9) Try.underlying31 rfl) ?_
      refine SO.v rfl (opv_pick_t' b19 rfl rfl) ?_
      refine SO.b2 ?_
      refine SO.b2 ?_
      refine SO.b2 ?_
      exact hk2.fitc (m := 3) rfl (and_t b19) rfl
    · refine SO.passF rfl rfl rfl b19 rfl rfl ?_
      refine SO.passF rfl rfl rfl b19 rfl rfl ?_
      refine SO.v rfl (opv_pick_f' b19 rfl rfl) ?_
      refine SO.b2 ?_
      refine SO.b2 ?_
      refine SO.b2 ?_
      exact hk2.fitc (m := 3) rfl (and_f b19) rfl
  refine SO.v rfl (opv_move rfl) ?_
  refine SO.cut 4 25 (.bool ((t5.isNone && t9.isNone) && ((t13.length : Int) == 2))) [Own 65 (ekI .u64) v1 s15, Own 3 (ekI .i64) v16 t13, F] (fun l2 hk2 => ?_) ?_
  · rcases bool_or (t5.isNone && t9.isNone) with b20 | b20
    · refine SO.takeT rfl rfl rfl b20 ?_
      refine SO.v rfl (opv_move rfl) ?_
      refine SO.takeT rfl rfl rfl b20 ?_
      refine SO.v rfl (opv_lenR rfl Try.underlying41 hr17 rfl) ?_
      refine SO.takeT rfl rfl rfl b20 ?_
      refine SO.v rfl (opv_eql rfl rfl) ?_
      refine SO.v rfl (opv_pick_t' b20 rfl rfl) ?_
      refine SO.b2 ?_
      refine SO.b2 ?_
      refine SO.b2 ?_
      exact hk2.fitc (m := 4) rfl (and_t b20) rfl
    · refine SO.passF rfl rfl rfl b20 rfl rfl ?_
      refine SO.passF rfl rfl rfl b20 rfl rfl ?_
      refine SO.passF rfl rfl rfl b20 rfl rfl ?_
      refine SO.v rfl (opv_pick_f' b20 rfl rfl) ?_
      refine SO.b2 ?_
      refine SO.b2 ?_
      refine SO.b2 ?_
      exact hk2.fitc (m := 4) rfl (and_f b20) rfl
  refine SO.v rfl (opv_move rfl) ?_
  obtain ⟨c22, hc23, hgk⟩ := opt_bind h
  refine SO.cut 5 31 (.bool c22) [Own 65 (ekI .u64) v1 s15, Own 3 (ekI .i64) v16 t13, F] (fun l2 hk2 => ?_) ?_
  · clear hgk
    replace h := hc23
    rcases bool_or ((t5.isNone && t9.isNone) && ((t13.length : Int) == 2)) with b21 | b21
    · replace h := cond_t b21 h
      refine SO.takeT rfl rfl rfl b21 ?_
      refine SO.v rfl (opv_move rfl) ?_
      refine SO.takeT rfl rfl rfl b21 ?_
      obtain ⟨x24, hx25, h⟩ := opt_bind h
      refine SO.v rfl (opv_idx Try.underlying41 Try.sizeOf3 hr17 rfl rfl hx25) ?_
      refine SO.takeT rfl rfl rfl b21 ?_
      refine SO.loadI1 (j := 0) rfl Try.isAgg3 (Rd.tail (Rd.head hr17)) hx25 rfl rfl rfl rfl ?_
      refine SO.takeT rfl rfl rfl b21 ?_
      refine SO.v rfl (opv_eql rfl rfl) ?_
      cases h
      refine SO.v rfl (opv_pick_t' b21 rfl rfl) ?_
      refine SO.b2 ?_
      refine SO.b2 ?_
      refine SO.b2 ?_
      exact hk2.fitc (m := 5) rfl (rfl) rfl
    · replace h := cond_f b21 h
      refine SO.passF rfl rfl rfl b21 rfl rfl ?_
      refine SO.passF rfl rfl rfl b21 rfl rfl ?_
      refine SO.passF rfl rfl rfl b21 rfl rfl ?_
      refine SO.passF rfl rfl rfl b21 rfl rfl ?_
      cases h
      refine SO.v rfl (opv_pick_f' b21 rfl rfl) ?_
      refine SO.b2 ?_
      refine SO.b2 ?_
      refine SO.b2 ?_
      exact hk2.fitc (m := 5) rfl (rfl) rfl
  clear hc23
  replace h := hgk
  refine SO.v rfl (opv_move rfl) ?_
  obtain ⟨c27, hc28, hgk⟩ := opt_bind h
  refine SO.cut 5 37 (.bool c27) [Own 65 (ekI .u64) v1 s15, Own 3 (ekI .i64) v16 t13, F] (fun l2 hk2 => ?_) ?_
  · clear hgk
    replace h := hc28
    rcases bool_or c22 with b26 | b26
    · replace h := cond_t b26 h
      refine SO.takeT rfl rfl rfl b26 ?_
      refine SO.v rfl (opv_move rfl) ?_
      refine SO.takeT rfl rfl rfl b26 ?_
      obtain ⟨x29, hx30, h⟩ := opt_bind h
      refine SO.v rfl (opv_idx Try.underlying41 Try.sizeOf3 hr17 rfl rfl hx30) ?_
      refine SO.takeT rfl rfl rfl b26 ?_
      refine SO.loadI1 (j := 0) rfl Try.isAgg3 (Rd.tail (Rd.head hr17)) hx30 rfl rfl rfl rfl ?_
      refine SO.takeT rfl rfl rfl b26 ?_
      refine SO.v rfl (opv_eql rfl rfl) ?_
      cases h
      refine SO.v rfl (opv_pick_t' b26 rfl rfl) ?_
      refine SO.b2 ?_
      refine SO.b2 ?_
      refine SO.b2 ?_
      exact hk2.fitc (m := 5) rfl (rfl) rfl
    · replace h := cond_f b26 h
      refine SO.passF rfl rfl rfl b26 rfl rfl ?_
      refine SO.passF rfl rfl rfl b26 rfl rfl ?_
      refine SO.passF rfl rfl rfl b26 rfl rfl ?_
      refine SO.passF rfl rfl rfl b26 rfl rfl ?_
      cases h
      refine SO.v rfl (opv_pick_f' b26 rfl rfl) ?_
      refine SO.b2 ?_
      refine SO.b2 ?_
      refine SO.b2 ?_
      exact hk2.fitc (m := 5) rfl (rfl) rfl
  clear hc28
  replace h := hgk
  refine SO.v rfl (opv_move rfl) ?_
  obtain ⟨⟨c32, w34⟩, hc33, hgk⟩ := opt_bind h
  refine SO.cut 5 43 (.bool c32) [Own 65 (ekI .u64) v1 w34, Own 3 (ekI .i64) v16 t13, F] (fun l2 hk2 => ?_) ?_
  · clear hgk
    replace h := hc33
    rcases bool_or c27 with b31 | b31
    · replace h := cond_t b31 h
      refine SO.takeT rfl rfl rfl b31 ?_
      refine SO.v rfl (opv_move rfl) ?_
      refine SO.takeT rfl rfl rfl b31 ?_
      refine SO.v rfl (opv_iface Try.underlying27 rfl rfl) ?_
      refine SO.takeT rfl rfl rfl b31 ?_
      obtain ⟨⟨t36, s38⟩, ht37, h⟩ := opt_bind h
      refine SO.call (pre := [(plainV v1).rep _]) rfl Try.call21 rfl rfl rfl (cdt_Parent.ct (plainV v1) _ _ _ _ ht37) trivial ?_
      rintro _ _ ⟨rfl, rfl⟩
      refine headEq (plainV_rep _ _) ?_
      refine SO.rd fun hr39 => ?_
      refine SO.takeT rfl rfl rfl b31 ?_
      refine SO.v rfl (opv_eql rfl rfl) ?_
      cases h
      refine SO.v rfl (opv_pick_t' b31 rfl rfl) ?_
      refine SO.b2 ?_
      refine SO.b2 ?_
      refine SO.b2 ?_
      exact hk2.fitc (m := 5) rfl (rfl) rfl
    · replace h := cond_f b31 h
      refine SO.passF rfl rfl rfl b31 rfl rfl ?_
      refine SO.passF rfl rfl rfl b31 rfl rfl ?_
      refine SO.passF rfl rfl rfl b31 rfl rfl ?_
      refine SO.passF rfl rfl rfl b31 rfl rfl ?_
      cases h
      refine SO.v rfl (opv_pick_f' b31 rfl rfl) ?_
      refine SO.b2 ?_
      refine SO.b2 ?_
      refine SO.b2 ?_
      exact hk2.fitc (m := 5) rfl (rfl) rfl
  clear hc33
  replace h := hgk
  refine SO.rd fun hr35 => ?_
  refine SO.v rfl (opv_move rfl) ?_
  obtain ⟨⟨c41, w43⟩, hc42, hgk⟩ := opt_bind h
  refine SO.cut 5 49 (.bool c41) [Own 65 (ekI .u64) v1 w43, Own 3 (ekI .i64) v16 t13, F] (fun l2 hk2 => ?_) ?_
  · clear hgk
    replace h := hc42
    rcases bool_or c32 with b40 | b40
    · replace h := cond_t b40 h
      refine SO.takeT rfl rfl rfl b40 ?_
      refine SO.v rfl (opv_move rfl) ?_
      refine SO.takeT rfl rfl rfl b40 ?_
      refine SO.v rfl (opv_iface Try.underlying27 rfl rfl) ?_
      refine SO.takeT rfl rfl rfl b40 ?_
      obtain ⟨⟨t45, s47⟩, ht46, h⟩ := opt_bind h
      refine SO.call (pre := [(plainV v1).rep _]) rfl Try.call18 rfl rfl rfl (cdt_Leaf.ct (plainV v1) _ _ _ _ _ ht46) trivial ?_
      rintro _ _ ⟨rfl, rfl⟩
      refine headEq (plainV_rep _ _) ?_
      refine SO.rd fun hr48 => ?_
      refine SO.takeT rfl rfl rfl b40 ?_
      refine SO.v rfl (opv_eql rfl rfl) ?_
      cases h
      refine SO.v rfl (opv_pick_t' b40 rfl rfl) ?_
      refine SO.b2 ?_
      refine SO.b2 ?_
      refine SO.b2 ?_
      exact hk2.fitc (m := 5) rfl (rfl) rfl
    · replace h := cond_f b40 h
      refine SO.passF rfl rfl rfl b40 rfl rfl ?_
      refine SO.passF rfl rfl rfl b40 rfl rfl ?_
      refine SO.passF rfl rfl rfl b40 rfl rfl ?_
      refine SO.passF rfl rfl rfl b40 rfl rfl ?_
      cases h
      refine SO.v rfl (opv_pick_f' b40 rfl rfl) ?_
      refine SO.b2 ?_
      refine SO.b2 ?_
      refine SO.b2 ?_
      exact hk2.fitc (m := 5) rfl (rfl) rfl
  clear hc42
  replace h := hgk
  refine SO.rd fun hr44 => ?_
  refine SO.v rfl (opv_move rfl) ?_
  obtain ⟨⟨c50, w52⟩, hc51, hgk⟩ := opt_bind h
  refine SO.cut 6 56 (.bool c50) [Own 65 (ekI .u64) v1 w52, Own 3 (ekI .i64) v16 t13, F] (fun l2 hk2 => ?_) ?_
  · clear hgk
    replace h := hc51
    rcases bool_or c41 with b49 | b49
    · replace h := cond_t b49 h
      refine SO.takeT rfl rfl rfl b49 ?_
      refine SO.v rfl (opv_move rfl) ?_
      refine SO.takeT rfl rfl rfl b49 ?_
      refine SO.v rfl (opv_iface Try.underlying27 rfl rfl) ?_
      refine SO.takeT rfl rfl rfl b49 ?_
      obtain ⟨⟨t54, s56⟩, ht55, h⟩ := opt_bind h
      refine SO.call (pre := [(plainV v1).rep _]) rfl Try.call9 rfl rfl rfl (cdt_Link.ct (plainV v1) _ _ _ _ _ ht55) trivial ?_
      rintro _ _ ⟨rfl, rfl⟩
      refine headEq (plainV_rep _ _) ?_
      refine SO.rd fun hr57 => ?_
      refine SO.takeT rfl rfl rfl b49 ?_
      refine SO.v rfl (opv_iface Try.underlying53 rfl rfl) ?_
      refine SO.takeT rfl rfl rfl b49 ?_
      refine SO.v rfl (opv_eqlE (e := t54) (c := 2) Try.underlying31 Try.underlying53 inf53 rfl rfl rfl) ?_
      cases h
      refine SO.v rfl (opv_pick_t' b49 rfl rfl) ?_
      refine SO.b2 ?_
      refine SO.b2 ?_
      refine SO.b2 ?_
      exact hk2.fitc (m := 6) rfl (rfl) rfl
    · replace h := cond_f b49 h
      refine SO.passF rfl rfl rfl b49 rfl rfl ?_
      refine SO.passF rfl rfl rfl b49 rfl rfl ?_
      refine SO.passF rfl rfl rfl b49 rfl rfl ?_
      refine SO.passF rfl rfl rfl b49 rfl rfl ?_
      refine SO.passF rfl rfl rfl b49 rfl rfl ?_
      cases h
      refine SO.v rfl (opv_pick_f' b49 rfl rfl) ?_
      refine SO.b2 ?_
      refine SO.b2 ?_
      refine SO.b2 ?_
      exact hk2.fitc (m := 6) rfl (rfl) rfl
  clear hc51
  replace h := hgk
  refine SO.rd fun hr53 => ?_
  refine SO.v rfl (opv_assign rfl) ?_
  refine SO.nil ?_
  refine S.to (ρ' := [(0, .bool c50)]) ⟨rfl, trivial⟩ ?_
  cases h
  refine S.drop ?_
  refine S.drop ?_
  exact S.ret1 Try.func5 rfl rfl (fun w hs hk => hR w _ _ ⟨rfl, rfl⟩ hs hk)
end Go.Proofs
namespace Go.Proofs
open Go.Sl Go.RowKit
/-! 22 padstone/padstoneref10.Fresh -/
def ref10_Fresh.f (a0 : Int) : Option (ref10_Obj) :=
  some (⟨a0, 0, 0, 0, 0, 0, [], 0, 0, -1, 0, 0, -1, -1, (⟨0, 0, 0, 0, 0, 0⟩ : api_Cap), (⟨-1, -1, -1, -1⟩ : A4), (⟨0, 0, 0, 0⟩ : A4), -1, 0, -1, 0⟩ : ref10_Obj)
set_option maxHeartbeats 8000000 in
set_option maxRecDepth 100000 in
theorem ref10_Fresh.ct (a0 : Int) (r0 : ref10_Obj) (h : ref10_Fresh.f a0 = some r0) :
    Ct Try.prog 22 [.int .i64 a0] (fun _ => True) [] (fun u H' => ∃ w_r0_Queue, u = .agg #[.int .i64 r0.Kind, .int .i64 r0.Size, .int .i64 r0.Used, .int .i64 r0.First, .int .i64 r0.Radix, .int .i64 r0.Wait, w_r0_Queue, .int .i64 r0.Word, .int .i64 r0.State, .int .i64 r0.Owing, .int .i64 r0.Badge, .int .i64 r0.Prio, .int .i64 r0.On, .int .i64 r0.Owes, .int .i64 r0.Root.Kind, .int .i64 r0.Root.Rights, .int .i64 r0.Root.Obj, .int .i64 r0.Root.Badge, .int .i64 r0.Root.Guard, .int .i64 r0.Root.Bits, .int .i64 r0.Pages.a0, .int .i64 r0.Pages.a1, .int .i64 r0.Pages.a2, .int .i64 r0.Pages.a3, .int .i64 r0.Right.a0, .int .i64 r0.Right.a1, .int .i64 r0.Right.a2, .int .i64 r0.Right.a3, .int .i64 r0.In, .int .i64 r0.Page, .int .i64 r0.Bound, .int .i64 r0.Mask] ∧ H' = [Own 3 (ekI .i64) w_r0_Queue r0.Queue]) := by
  unfold ref10_Fresh.f at h
  refine Ct.intro (n := 6) Try.func22 rfl rfl rfl ?_
  intro R w0 F hF hR
  refine S.seq ?_
  refine S.region ?_
  refine SO.alloc rfl Try.zeroValue56 rfl (fun b1 => ?_)
  refine SO.nil ?_
  refine S.seq ?_
  refine S.region ?_
  refine SO.v rfl (opv_move rfl) ?_
  refine SO.v rfl (opv_build (v := .agg #[.int .i64 (-1), .int .i64 (-1), .int .i64 (-1), .int .i64 (-1)]) rfl (by intro w; kernel_rfl)) ?_
  refine SO.v rfl (opv_build (v := .agg #[.int .i64 a0, .int .i64 0, .int .i64 0, .int .i64 0, .int .i64 0, .int .i64 0, .slice none 0 0, .int .i64 0, .int .i64 0, .int .i64 (-1), .int .i64 0, .int .i64 0, .int .i64 (-1), .int .i64 (-1), .int .i64 0, .int .i64 0, .int .i64 0, .int .i64 0, .int .i64 0, .int .i64 0, .int .i64 (-1), .int .i64 (-1), .int .i64 (-1), .int .i64 (-1), .int .i64 0, .int .i64 0, .int .i64 0, .int .i64 0, .int .i64 (-1), .int .i64 0, .int .i64 (-1), .int .i64 0]) rfl (by intro w; kernel_rfl)) ?_
  refine SO.storeN Try.sizeOf56 rfl rfl rfl rfl rfl rfl ?_
  refine SO.nil ?_
  cases h
  refine S.newOwn 3 (ekI .i64) ?_
  refine S.b2 ?_
  refine S.b1 ?_
  refine S.b2 ?_
  exact S.retC Try.func22 rfl rfl Try.isAgg56 Try.sizeOf56 rfl rfl (fun w hs hk => hR w _ _ ⟨(.slice none 0 0), rfl, rfl⟩ hs.drop hk)
end Go.Proofs
namespace Go.Proofs
open Go.Sl Go.RowKit
/-! 6 padstone/padstoneref10.New -/
def ref10_New.l1 : Nat → (Int × (List ref10_Slot)) → Option ((List ref10_Slot))
  | 0, _ => none
  | k + 1, (x2_1, y1_0_1) => bif decide (x2_1 < 96) then ((app y1_0_1 ([(⟨(⟨0, 0, 0, 0, 0, 0⟩ : api_Cap), -1, []⟩ : ref10_Slot)])).bind fun zs5 => ref10_New.l1  k (w64 (x2_1 + 1), zs5)) else (some y1_0_1)
def ref10_New.l2 : Nat → (Int × (List ref10_Obj)) → Option ((List ref10_Obj))
  | 0, _ => none
  | k + 1, (x3_2, y1_1_2) => bif decide (x3_2 < 32) then ((ref10_Fresh.f 0).bind fun t18 => (app y1_1_2 ([t18])).bind fun zs25 => ref10_New.l2  k (w64 (x3_2 + 1), zs25)) else (some y1_1_2)
def ref10_New.f (k : Nat) : Option (ref10_State) :=
  (ref10_New.l1 k (0, [])).bind fun y1_0_e1 => (ref10_New.l2 k (0, [])).bind fun y1_1_e2 => some (⟨y1_0_e1, y1_1_e2, 0, 0⟩ : ref10_State)
set_option maxHeartbeats 8000000 in
set_option maxRecDepth 100000 in
theorem ref10_New.ct (k : Nat) (r0 : ref10_State) (h : ref10_New.f k  = some r0) :
    Ct Try.prog 6 [] (fun _ => True) [] (fun u H' => ∃ b_r0 w_r0_Slots w_r0_Objs, u = bp b_r0 0 ∧ H' = [Box b_r0 [w_r0_Slots, w_r0_Objs, .int .i64 r0.NS, .int .i64 r0.NO], OwnR 46 kr_ref10_Slot w_r0_Slots r0.Slots, OwnR 56 kr_ref10_Obj w_r0_Objs r0.Objs]) := by
  unfold ref10_New.f at h
  refine Ct.intro (n := 35) Try.func6 rfl rfl rfl ?_
  intro R w0 F hF hR
  refine S.seq ?_
  refine S.region ?_
  refine SO.v rfl (opv_assign rfl) ?_
  refine SO.nil ?_
  refine S.seq ?_
  refine S.region ?_
  refine SO.v rfl (opv_build (v := .agg #[.slice none 0 0, .slice none 0 0, .int .i64 0, .int .i64 0]) rfl (by intro w; kernel_rfl)) ?_
  refine SO.box rfl rfl rfl (fun b1 => ?_)
  refine SO.v rfl (opv_assign rfl) ?_
  refine SO.nil ?_
  refine S.seq ?_
  refine S.seq ?_
  refine S.region ?_
  refine SO.v rfl (opv_assign rfl) ?_
  refine SO.nil ?_
  obtain ⟨y1_0_e1, hl1, h⟩ := opt_bind h
  refine S.newOwnR 46 kr_ref10_Slot ?_
  refine S.b2 ?_
  refine S.b2 ?_
  refine S.b2 ?_
  refine S.to (ρ' := [(2, .int .i64 0), (1, bp b1 0), (0, .pointer none)]) ⟨rfl, rfl, rfl, trivial⟩ ?_
  refine S.forloop (X := (Int × (List ref10_Slot)) × Value) (O := (List ref10_Slot)) (fun m x => ref10_New.l1  m x.1) (fun x => match x with | ((x2_1, y1_0_1), vy1_0_1) => [(2, .int .i64 x2_1), (1, bp b1 0), (0, .pointer none)]) (fun x => match x with | ((x2_1, y1_0_1), vy1_0_1) => [OwnR 46 kr_ref10_Slot vy1_0_1 y1_0_1, Box b1 [vy1_0_1, .slice none 0 0, .int .i64 0, .int .i64 0], F]) (fun Sk => (fun y1_0_e1 => ∀ vy1_0_e1 : Value, Sk [(0, .pointer none), (1, bp b1 0)] [OwnR 46 kr_ref10_Slot vy1_0_e1 y1_0_e1, Box b1 [vy1_0_e1, .slice none 0 0, .int .i64 0, .int .i64 0], F])) (fun _ => rfl) ?_ (m := k) (x := ((0, []), .slice none 0 0)) hl1 ?_
  · clear h hl1
    intro k x o_1 h hK1 ih1
    obtain ⟨⟨x2_1, y1_0_1⟩, vy1_0_1⟩ := x
    replace h : ref10_New.l1  (k + 1) (x2_1, y1_0_1) = some o_1 := h
    first | rw [ref10_New.l1] at h | unfold ref10_New.l1 at h
    refine S.seq ?_
    refine S.seq ?_
    refine S.region ?_
    refine SO.v rfl (opv_move rfl) ?_
    refine SO.v rfl (opv_lss rfl rfl) ?_
    refine SO.nil ?_
    rcases bool_or (decide (x2_1 < 96)) with b2 | b2
    · replace h := cond_t b2 h
      refine S.condT rfl b2 ?_
      refine S.skip ?_
      refine S.seq ?_
      refine S.block ?_
      refine S.region ?_
      refine SO.v rfl (opv_move rfl) ?_
      refine SO.v rfl (opv_move rfl) ?_
      refine SO.v rfl (opv_nilCheck rfl) ?_
      refine SO.v rfl (opv_fieldAddr Try.underlying50 rfl Try.sizeOf47 rfl rfl) ?_
      refine SO.b1 ?_
      refine SO.load1 rfl Try.isAgg47 rfl rfl ?_
      refine SO.v rfl (opv_build (v := .agg #[.int .i64 0, .int .i64 0, .int .i64 0, .int .i64 0, .int .i64 0, .int .i64 0, .int .i64 (-1), .slice none 0 0]) rfl (by intro w; kernel_rfl)) ?_
      refine SO.emp ?_
      refine SO.buildSliceR1 (K := kr_ref10_Slot) (y := (⟨(⟨0, 0, 0, 0, 0, 0⟩ : api_Cap), -1, []⟩ : ref10_Slot)) (cs := [.int .i64 0, .int .i64 0, .int .i64 0, .int .i64 0, .int .i64 0, .int .i64 0, .int .i64 (-1), .slice none 0 0]) rfl Try.underlying47 Try.sizeOf46 Try.zeroValue46 rfl rfl (by kernel_rfl) ⟨rfl, rfl, rfl, rfl, rfl, rfl, rfl, Rd.nil0, trivial⟩ (fun v3 => ?_)
      obtain ⟨zs5, hz6, h⟩ := opt_bind h
      refine SO.b2 ?_
      refine SO.b1 ?_
      refine SO.b1 ?_
      refine SO.appendR rfl Try.underlying47 inf46 rfl rfl rfl (by decide) rfl rfl rfl hz6 (fun v7 => ?_)
      refine SO.v rfl (opv_nilCheck rfl) ?_
      refine SO.v rfl (opv_fieldAddr Try.underlying50 rfl Try.sizeOf47 rfl rfl) ?_
      refine SO.oneR fun h18 => ?_
      refine SO.b1 ?_
      refine SO.store1 Try.sizeOf47 rfl rfl h18 rfl ?_
      refine SO.nil ?_
      refine S.to (ρ' := [(2, .int .i64 x2_1), (1, bp b1 0), (0, .pointer none)]) ⟨rfl, rfl, rfl, trivial⟩ ?_
      refine S.inBlock ?_
      refine S.region ?_
      refine SO.v rfl (opv_move rfl) ?_
      refine SO.v rfl (opv_add rfl rfl) ?_
      refine SO.v rfl (opv_assign rfl) ?_
      refine SO.nil ?_
      refine S.b2 ?_
      refine S.b1 ?_
      refine S.b2 ?_
      refine S.to ?_ (ih1 ((w64 (x2_1 + 1), zs5), v7) h)
      exact ⟨rfl, rfl, rfl, trivial⟩
    · replace h := cond_f b2 h
      refine S.condF rfl b2 ?_
      refine S.exit rfl ?_
      cases h
      refine S.b2 ?_
      refine S.b2 ?_
      refine S.b2 ?_
      refine S.to ?_ (hK1 vy1_0_1)
      exact ⟨rfl, rfl, trivial⟩
  rintro vy1_0_e1
  refine S.seq ?_
  refine S.seq ?_
  refine S.region ?_
  refine SO.v rfl (opv_assign rfl) ?_
  refine SO.nil ?_
  obtain ⟨y1_1_e2, hl2, h⟩ := opt_bind h
  refine S.newOwnR 56 kr_ref10_Obj ?_
  refine S.b3 ?_
  refine S.b3 ?_
  refine S.b3 ?_
  refine S.b3 ?_
  refine S.to (ρ' := [(3, .int .i64 0), (0, .pointer none), (1, bp b1 0)]) ⟨rfl, rfl, rfl, trivial⟩ ?_
  refine S.forloop (X := (Int × (List ref10_Obj)) × Value) (O := (List ref10_Obj)) (fun m x => ref10_New.l2  m x.1) (fun x => match x with | ((x3_2, y1_1_2), vy1_1_2) => [(3, .int .i64 x3_2), (0, .pointer none), (1, bp b1 0)]) (fun x => match x with | ((x3_2, y1_1_2), vy1_1_2) => [OwnR 56 kr_ref10_Obj vy1_1_2 y1_1_2, OwnR 46 kr_ref10_Slot vy1_0_e1 y1_0_e1, Box b1 [vy1_0_e1, vy1_1_2, .int .i64 0, .int .i64 0], F]) (fun Sk => (fun y1_1_e2 => ∀ vy1_1_e2 : Value, Sk [(0, .pointer none), (1, bp b1 0)] [OwnR 56 kr_ref10_Obj vy1_1_e2 y1_1_e2, OwnR 46 kr_ref10_Slot vy1_0_e1 y1_0_e1, Box b1 [vy1_0_e1, vy1_1_e2, .int .i64 0, .int .i64 0], F])) (fun _ => rfl) ?_ (m := k) (x := ((0, []), .slice none 0 0)) hl2 ?_
  · clear h hl2
    intro k x o_2 h hK2 ih2
    obtain ⟨⟨x3_2, y1_1_2⟩, vy1_1_2⟩ := x
    replace h : ref10_New.l2  (k + 1) (x3_2, y1_1_2) = some o_2 := h
    first | rw [ref10_New.l2] at h | unfold ref10_New.l2 at h
    refine S.seq ?_
    refine S.seq ?_
    refine S.region ?_
    refine SO.v rfl (opv_move rfl) ?_
    refine SO.v rfl (opv_lss rfl rfl) ?_
    refine SO.nil ?_
    rcases bool_or (decide (x3_2 < 32)) with b9 | b9
    · replace h := cond_t b9 h
      refine S.condT rfl b9 ?_
      refine S.skip ?_
      refine S.seq ?_
      refine S.block ?_
      refine S.openR fun raws10 A11 hrel12 hR13 => ?_
      refine S.b1 ?_
      refine S.openR fun raws14 A15 hrel16 hR17 => ?_
      obtain ⟨t18, ht19, h⟩ := opt_bind h
      obtain ⟨zs25, hz26, h⟩ := opt_bind h
      refine S.draw' (Z := fun Q => ∀ (_ : Unit) (_ : Unit) (v27 : Value) (_ : Unit) (_ : Unit), Q [(3, .int .i64 x3_2), (0, .pointer none), (1, bp b1 0), (31, v27)] [OwnR 56 kr_ref10_Obj v27 zs25, Box b1 [vy1_0_e1, v27, .int .i64 0, .int .i64 0], OwnO 46 kr_ref10_Slot vy1_0_e1 raws14 A15 y1_0_e1, F]) (T := [tS 1 (bp b1 0), tE [(3, .int .i64 x3_2), (0, .pointer none)], tR (OwnO 46 kr_ref10_Slot vy1_0_e1 raws14 A15 y1_0_e1), tR (OwnO 56 kr_ref10_Obj vy1_1_2 raws10 A11 y1_1_2), tR (Box b1 [vy1_0_e1, vy1_1_2, .int .i64 0, .int .i64 0]), tR (F), tS 24 (bp b1 0), tS 25 (bp b1 0), tS 26 (bp b1 0), tS 27 (bp b1 1), tS 28 (vy1_1_2), ⟨Value, [29], (fun u20_Queue => [(29, .agg #[.int .i64 t18.Kind, .int .i64 t18.Size, .int .i64 t18.Used, .int .i64 t18.First, .int .i64 t18.Radix, .int .i64 t18.Wait, u20_Queue, .int .i64 t18.Word, .int .i64 t18.State, .int .i64 t18.Owing, .int .i64 t18.Badge, .int .i64 t18.Prio, .int .i64 t18.On, .int .i64 t18.Owes, .int .i64 t18.Root.Kind, .int .i64 t18.Root.Rights, .int .i64 t18.Root.Obj, .int .i64 t18.Root.Badge, .int .i64 t18.Root.Guard, .int .i64 t18.Root.Bits, .int .i64 t18.Pages.a0, .int .i64 t18.Pages.a1, .int .i64 t18.Pages.a2, .int .i64 t18.Pages.a3, .int .i64 t18.Right.a0, .int .i64 t18.Right.a1, .int .i64 t18.Right.a2, .int .i64 t18.Right.a3, .int .i64 t18.In, .int .i64 t18.Page, .int .i64 t18.Bound, .int .i64 t18.Mask])]), (fun u20_Queue => [Own 3 (ekI .i64) u20_Queue t18.Queue]), fun _ => rfl⟩, ⟨Value, [30], (fun v23 => [(30, v23)]), (fun v23 => [OwnR 56 kr_ref10_Obj v23 ([t18])]), fun _ => rfl⟩, ⟨Value, [31], (fun v27 => [(31, v27)]), (fun v27 => [OwnR 56 kr_ref10_Obj v27 zs25]), fun _ => rfl⟩, tS 32 (bp b1 0), tS 33 (bp b1 1), ⟨Value, [31], (fun v27 => [(31, v27)]), (fun v27 => [OwnR 56 kr_ref10_Obj v27 zs25, Box b1 [vy1_0_e1, v27, .int .i64 0, .int .i64 0]]), fun _ => rfl⟩]) (D := [⟨[0], [], [6]⟩, ⟨[0], [], [7]⟩, ⟨[7], [], [8]⟩, ⟨[8], [], [9]⟩, ⟨[9, 4], [], [10]⟩, ⟨[], [], [11]⟩, ⟨[], [11], [12]⟩, ⟨[10], [12, 3], [13]⟩, ⟨[6], [], [14]⟩, ⟨[14], [], [15]⟩, ⟨[15], [4, 13], [16]⟩]) (ini := [0, 1, 2, 3, 4, 5]) (fin := [1, 0, 16, 2, 5]) (bf := [[], [], [1], [1, 2], [1, 2, 3], [], [5], [1, 2, 3, 4, 5, 6], [0, 1, 2, 3, 4, 5, 6, 7], [0, 1, 2, 3, 4, 5, 6, 7, 8], [0, 1, 2, 3, 4, 5, 6, 7, 8, 9]]) (by kernel_rfl) (by kernel_rfl) (fun x w h1 h2 => (.cons () (.cons () (.cons () (.cons () (.cons () (.cons () (.nil ⟨EnvAll.of h1 ⟨rfl, rfl, rfl, trivial⟩, h2⟩)))))))) (fun Q => by kernel_rfl) ⟨?_, ?_, ?_, ?_, ?_, ?_, ?_, ?_, ?_, ?_, ?_, trivial⟩ ?_
      · rintro Fr _
        refine SO.v rfl (opv_move rfl) ?_
        exact SO.nilZ fun a w h1 h2 h3 h4 h5 => PZ.of h1 h3 h5 (.cons () (.cons () (.nil ⟨EnvAll.of h2 ⟨rfl, rfl, trivial⟩, h4⟩)))
      · rintro Fr _
        refine SO.v rfl (opv_move rfl) ?_
        exact SO.nilZ fun a w h1 h2 h3 h4 h5 => PZ.of h1 h3 h5 (.cons () (.cons () (.nil ⟨EnvAll.of h2 ⟨rfl, rfl, trivial⟩, h4⟩)))
      · rintro Fr _
        refine SO.v rfl (opv_nilCheck rfl) ?_
        exact SO.nilZ fun a w h1 h2 h3 h4 h5 => PZ.of h1 h3 h5 (.cons () (.cons () (.nil ⟨EnvAll.of h2 ⟨rfl, rfl, trivial⟩, h4⟩)))
      · rintro Fr _
        refine SO.v rfl (opv_fieldAddr Try.underlying50 rfl Try.sizeOf48 rfl rfl) ?_
        exact SO.nilZ fun a w h1 h2 h3 h4 h5 => PZ.of h1 h3 h5 (.cons () (.cons () (.nil ⟨EnvAll.of h2 ⟨rfl, rfl, trivial⟩, h4⟩)))
      · rintro Fr _ _
        refine SO.load1 rfl Try.isAgg48 rfl rfl ?_
        exact SO.nilZ fun a w h1 h2 h3 h4 h5 => PZ.of h1 h3 h5 (.cons () (.cons () (.cons () (.nil ⟨EnvAll.of h2 ⟨rfl, rfl, trivial⟩, h4⟩))))
      · rintro Fr 
        refine SO.call (pre := []) rfl Try.call22 rfl rfl rfl (ref10_Fresh.ct _ _ ht19) trivial ?_
        rintro _ _ ⟨u20_Queue, rfl, rfl⟩
        refine SO.rd fun hr21 => ?_
        exact SO.nilZ fun a w h1 h2 h3 h4 h5 => PZ.of h1 h3 h5 (.cons u20_Queue (.nil ⟨EnvAll.of h2 ⟨rfl, trivial⟩, h4⟩))
      · rintro Fr u20_Queue
        refine SO.rd fun hr22 => ?_
        refine SO.buildSliceR1 (K := kr_ref10_Obj) (y := t18) (cs := [.int .i64 t18.Kind, .int .i64 t18.Size, .int .i64 t18.Used, .int .i64 t18.First, .int .i64 t18.Radix, .int .i64 t18.Wait, u20_Queue, .int .i64 t18.Word, .int .i64 t18.State, .int .i64 t18.Owing, .int .i64 t18.Badge, .int .i64 t18.Prio, .int .i64 t18.On, .int .i64 t18.Owes, .int .i64 t18.Root.Kind, .int .i64 t18.Root.Rights, .int .i64 t18.Root.Obj, .int .i64 t18.Root.Badge, .int .i64 t18.Root.Guard, .int .i64 t18.Root.Bits, .int .i64 t18.Pages.a0, .int .i64 t18.Pages.a1, .int .i64 t18.Pages.a2, .int .i64 t18.Pages.a3, .int .i64 t18.Right.a0, .int .i64 t18.Right.a1, .int .i64 t18.Right.a2, .int .i64 t18.Right.a3, .int .i64 t18.In, .int .i64 t18.Page, .int .i64 t18.Bound, .int .i64 t18.Mask]) rfl Try.underlying48 Try.sizeOf56 Try.zeroValue56 rfl rfl (by kernel_rfl) ⟨rfl, rfl, rfl, rfl, rfl, rfl, hr22, rfl, rfl, rfl, rfl, rfl, rfl, rfl, rfl, rfl, rfl, rfl, rfl, rfl, rfl, rfl, rfl, rfl, rfl, rfl, rfl, rfl, rfl, rfl, rfl, rfl, trivial⟩ (fun v23 => ?_)
        exact SO.nilZ fun a w h1 h2 h3 h4 h5 => PZ.of h1 h3 h5 (.cons v23 (.nil ⟨EnvAll.of h2 ⟨rfl, trivial⟩, h4⟩))
      · rintro Fr _ v23 _
        refine SO.b1 ?_
        refine SO.closeR ?_
        refine SO.b1 ?_
        refine SO.b1 ?_
        refine SO.appendR rfl Try.underlying48 inf56 rfl rfl rfl (by decide) rfl rfl rfl hz26 (fun v27 => ?_)
        exact SO.nilZ fun a w h1 h2 h3 h4 h5 => PZ.of h1 h3 h5 (.cons () (.cons v27 (.nil ⟨EnvAll.of h2 ⟨rfl, rfl, trivial⟩, h4⟩)))
      · rintro Fr _
        refine SO.v rfl (opv_nilCheck rfl) ?_
        exact SO.nilZ fun a w h1 h2 h3 h4 h5 => PZ.of h1 h3 h5 (.cons () (.cons () (.nil ⟨EnvAll.of h2 ⟨rfl, rfl, trivial⟩, h4⟩)))
      · rintro Fr _
        refine SO.v rfl (opv_fieldAddr Try.underlying50 rfl Try.sizeOf48 rfl rfl) ?_
        exact SO.nilZ fun a w h1 h2 h3 h4 h5 => PZ.of h1 h3 h5 (.cons () (.cons () (.nil ⟨EnvAll.of h2 ⟨rfl, rfl, trivial⟩, h4⟩)))
      · rintro Fr _ _ v27
        refine SO.b1 ?_
        refine SO.oneR fun h128 => ?_
        refine SO.b1 ?_
        refine SO.store1 Try.sizeOf48 rfl rfl h128 rfl ?_
        refine SO.b1 ?_
        exact SO.nilZ fun a w h1 h2 h3 h4 h5 => PZ.of h1 h3 h5 (.cons () (.cons v27 (.nil ⟨EnvAll.of h2 ⟨rfl, rfl, trivial⟩, h4⟩)))
      rintro _ _ v27 _ _
      refine S.to (ρ' := [(3, .int .i64 x3_2), (0, .pointer none), (1, bp b1 0)]) ⟨rfl, rfl, rfl, trivial⟩ ?_
      refine S.inBlock ?_
      refine S.region ?_
      refine SO.v rfl (opv_move rfl) ?_
      refine SO.v rfl (opv_add rfl rfl) ?_
      refine SO.v rfl (opv_assign rfl) ?_
      refine SO.nil ?_
      refine S.b2 ?_
      refine S.closeR ?_
      refine S.b3 ?_
      refine S.b3 ?_
      refine S.b2 ?_
      refine S.b3 ?_
      refine S.to ?_ (ih2 ((w64 (x3_2 + 1), zs25), v27) h)
      exact ⟨rfl, rfl, rfl, trivial⟩
    · replace h := cond_f b9 h
      refine S.condF rfl b9 ?_
      refine S.exit rfl ?_
      cases h
      refine S.b3 ?_
      refine S.b3 ?_
      refine S.b3 ?_
      refine S.b3 ?_
      refine S.to ?_ (hK2 vy1_1_2)
      exact ⟨rfl, rfl, trivial⟩
  rintro vy1_1_e2
  refine S.seq ?_
  refine S.region ?_
  refine SO.v rfl (opv_move rfl) ?_
  refine SO.v rfl (opv_assign rfl) ?_
  refine SO.nil ?_
  cases h
  refine S.b3 ?_
  refine S.b1 ?_
  refine S.b2 ?_
  refine S.b3 ?_
  exact S.ret1 Try.func6 rfl rfl (fun w hs hk => hR w _ _ ⟨b1, vy1_0_e1, vy1_1_e2, rfl, rfl⟩ hs hk)
end Go.Proofs
namespace Go.Proofs
open Go.Sl Go.RowKit
/-! 16 padstone/padstoneref10.Same -/
def ref10_Same.l1 (a0 : List Int) (a1 : List Int) : Nat → Int → Option (Brk Bool Unit)
  | 0, _ => none
  | k + 1, x5_1 => bif decide (x5_1 < (a0.length : Int)) then ((at_ a0 x5_1).bind fun x3 => (at_ a1 x5_1).bind fun x5 => bif x3 != x5 then (some (Brk.ret false)) else (ref10_Same.l1 a0 a1 k (w64 (x5_1 + 1)))) else (some (Brk.nx ()))
def ref10_Same.f (k : Nat) (a0 : List Int) (a1 : List Int) : Option (Bool) :=
  bif (a0.length : Int) != (a1.length : Int) then (some false) else ((ref10_Same.l1 a0 a1 k 0).bind fun o1 => Brk.go o1 (fun r => some r) (fun _ => some true))
set_option maxHeartbeats 8000000 in
set_option maxRecDepth 100000 in
theorem ref10_Same.ct (k : Nat) (v0 : Value) (v1 : Value) (a0 : List Int) (a1 : List Int) (r0 : Bool) (h : ref10_Same.f k a0 a1 = some r0) :
    Ct Try.prog 16 [v0, v1] (fun F => Rd (ekI .u64) v0 a0 F ∧ Rd (ekI .u64) v1 a1 F) [] (fun u H' => u = .bool r0 ∧ H' = []) := by
  unfold ref10_Same.f at h
  refine Ct.intro (n := 26) Try.func16 rfl rfl rfl ?_
  intro R w0 F hF hR
  obtain ⟨hF0, hF1⟩ := hF
  refine S.seq ?_
  refine S.region ?_
  refine SO.v rfl (opv_assign rfl) ?_
  refine SO.nil ?_
  refine S.seq ?_
  refine S.seq ?_
  refine S.region ?_
  refine SO.v rfl (opv_move rfl) ?_
  refine SO.v rfl (opv_lenR rfl Try.underlying26 hF0 rfl) ?_
  refine SO.v rfl (opv_move rfl) ?_
  refine SO.v rfl (opv_lenR rfl Try.underlying26 hF1 rfl) ?_
  refine SO.v rfl (opv_neq rfl rfl) ?_
  refine SO.nil ?_
  rcases bool_or ((a0.length : Int) != (a1.length : Int)) with b1 | b1
  · replace h := cond_t b1 h
    refine S.condT rfl b1 ?_
    refine S.seq ?_
    refine S.region ?_
    refine SO.v rfl (opv_assign rfl) ?_
    refine SO.nil ?_
    refine S.to (ρ' := [(4, .bool false)]) ⟨rfl, trivial⟩ ?_
    cases h
    exact S.ret1 Try.func16 rfl rfl (fun w hs hk => hR w _ _ ⟨rfl, rfl⟩ hs hk)
  · replace h := cond_f b1 h
    refine S.condF rfl b1 ?_
    refine S.skip ?_
    refine S.seq ?_
    refine S.seq ?_
    refine S.region ?_
    refine SO.v rfl (opv_assign rfl) ?_
    refine SO.nil ?_
    obtain ⟨o1, hl1, h⟩ := opt_bind h
    refine S.to (ρ' := [(5, .int .i64 0), (4, .bool false), (0, v0), (1, v1)]) ⟨rfl, rfl, rfl, rfl, trivial⟩ ?_
    refine S.forloop (X := Int × Unit) (O := Brk Bool Unit) (fun m x => ref10_Same.l1 a0 a1 m x.1) (fun x => match x with | (x5_1, _) => [(5, .int .i64 x5_1), (4, .bool false), (0, v0), (1, v1)]) (fun x => match x with | (x5_1, _) => [F]) (fun Sk o' => (∀ r', o' = Brk.ret r' → some r' = some r0) ∧ ∀ _ : Unit, ∀ _ : Unit, o' = Brk.nx () → Sk [(4, .bool false)] [F]) (fun _ => rfl) ?_ (m := k) (x := (0, ())) hl1 ?_
    · clear h hl1
      intro k x o_1 h hK1 ih1
      obtain ⟨x5_1, _⟩ := x
      replace h : ref10_Same.l1 a0 a1 (k + 1) x5_1 = some o_1 := h
      first | rw [ref10_Same.l1] at h | unfold ref10_Same.l1 at h
      refine S.seq ?_
      refine S.seq ?_
      refine S.region ?_
      refine SO.v rfl (opv_move rfl) ?_
      refine SO.v rfl (opv_move rfl) ?_
      refine SO.v rfl (opv_lenR rfl Try.underlying26 hF0 rfl) ?_
      refine SO.v rfl (opv_lss rfl rfl) ?_
      refine SO.nil ?_
      rcases bool_or (decide (x5_1 < (a0.length : Int))) with b2 | b2
      · replace h := cond_t b2 h
        refine S.condT rfl b2 ?_
        refine S.skip ?_
        refine S.seq ?_
        refine S.block ?_
        refine S.seq ?_
        obtain ⟨x3, hx4, h⟩ := opt_bind h
        obtain ⟨x5, hx6, h⟩ := opt_bind h
        refine S.draw' (Z := fun Q => ∀ (_ : Unit) (_ : Unit) (_ : Unit) (_ : Unit) (_ : Unit) (_ : Unit), Q [(5, .int .i64 x5_1), (4, .bool false), (0, v0), (1, v1), (25, .bool (x3 != x5))] [F]) (T := [tS 0 (v0), tS 5 (.int .i64 x5_1), tS 1 (v1), tS 4 (.bool false), tR (F), tS 17 (v0), tS 18 (.int .i64 x5_1), tS 19 (idxp v0 (x5_1.toNat * (ekI .u64).sz)), tS 20 (.int .u64 x3), tS 21 (v1), tS 22 (.int .i64 x5_1), tS 23 (idxp v1 (x5_1.toNat * (ekI .u64).sz)), tS 24 (.int .u64 x5), tS 25 (.bool (x3 != x5))]) (D := [⟨[0], [], [5]⟩, ⟨[1], [], [6]⟩, ⟨[5, 6, 4], [], [7]⟩, ⟨[7, 4], [], [8]⟩, ⟨[2], [], [9]⟩, ⟨[1], [], [10]⟩, ⟨[9, 10, 4], [], [11]⟩, ⟨[11, 4], [], [12]⟩, ⟨[8, 12], [], [13]⟩]) (ini := [0, 1, 2, 3, 4]) (fin := [1, 3, 0, 2, 13, 4]) (bf := [[], [], [0, 1], [0, 1, 2], [], [], [4, 5], [4, 5, 6], [0, 1, 2, 3, 4, 5, 6, 7]]) (by kernel_rfl) (by kernel_rfl) (fun x w h1 h2 => (.cons () (.cons () (.cons () (.cons () (.cons () (.nil ⟨EnvAll.of h1 ⟨rfl, rfl, rfl, rfl, trivial⟩, h2⟩))))))) (fun Q => by kernel_rfl) ⟨?_, ?_, ?_, ?_, ?_, ?_, ?_, ?_, ?_, trivial⟩ ?_
        · rintro Fr _
          refine SO.v rfl (opv_move rfl) ?_
          exact SO.nilZ fun a w h1 h2 h3 h4 h5 => PZ.of h1 h3 h5 (.cons () (.cons () (.nil ⟨EnvAll.of h2 ⟨rfl, rfl, trivial⟩, h4⟩)))
        · rintro Fr _
          refine SO.v rfl (opv_move rfl) ?_
          exact SO.nilZ fun a w h1 h2 h3 h4 h5 => PZ.of h1 h3 h5 (.cons () (.cons () (.nil ⟨EnvAll.of h2 ⟨rfl, rfl, trivial⟩, h4⟩)))
        · rintro Fr _ _ _
          refine SO.v rfl (opv_idx Try.underlying26 Try.sizeOf65 hF0 rfl rfl hx4) ?_
          exact SO.nilZ fun a w h1 h2 h3 h4 h5 => PZ.of h1 h3 h5 (.cons () (.cons () (.cons () (.cons () (.nil ⟨EnvAll.of h2 ⟨rfl, rfl, rfl, trivial⟩, h4⟩)))))
        · rintro Fr _ _
          refine SO.loadI1 (j := 0) rfl Try.isAgg65 (Rd.head hF0) hx4 rfl rfl rfl rfl ?_
          exact SO.nilZ fun a w h1 h2 h3 h4 h5 => PZ.of h1 h3 h5 (.cons () (.cons () (.cons () (.nil ⟨EnvAll.of h2 ⟨rfl, rfl, trivial⟩, h4⟩))))
        · rintro Fr _
          refine SO.v rfl (opv_move rfl) ?_
          exact SO.nilZ fun a w h1 h2 h3 h4 h5 => PZ.of h1 h3 h5 (.cons () (.cons () (.nil ⟨EnvAll.of h2 ⟨rfl, rfl, trivial⟩, h4⟩)))
        · rintro Fr _
          refine SO.v rfl (opv_move rfl) ?_
          exact SO.nilZ fun a w h1 h2 h3 h4 h5 => PZ.of h1 h3 h5 (.cons () (.cons () (.nil ⟨EnvAll.of h2 ⟨rfl, rfl, trivial⟩, h4⟩)))
        · rintro Fr _ _ _
          refine SO.v rfl (opv_idx Try.underlying26 Try.sizeOf65 hF1 rfl rfl hx6) ?_
          exact SO.nilZ fun a w h1 h2 h3 h4 h5 => PZ.of h1 h3 h5 (.cons () (.cons () (.cons () (.cons () (.nil ⟨EnvAll.of h2 ⟨rfl, rfl, rfl, trivial⟩, h4⟩)))))
        · rintro Fr _ _
          refine SO.loadI1 (j := 0) rfl Try.isAgg65 (Rd.head hF1) hx6 rfl rfl rfl rfl ?_
          exact SO.nilZ fun a w h1 h2 h3 h4 h5 => PZ.of h1 h3 h5 (.cons () (.cons () (.cons () (.nil ⟨EnvAll.of h2 ⟨rfl, rfl, trivial⟩, h4⟩))))
        · rintro Fr _ _
          refine SO.v rfl (opv_neq rfl rfl) ?_
          exact SO.nilZ fun a w h1 h2 h3 h4 h5 => PZ.of h1 h3 h5 (.cons () (.cons () (.cons () (.nil ⟨EnvAll.of h2 ⟨rfl, rfl, rfl, trivial⟩, h4⟩))))
        rintro _ _ _ _ _ _
        refine S.to (ρ' := [(5, .int .i64 x5_1), (4, .bool false), (0, v0), (1, v1), (25, .bool (x3 != x5))]) ⟨rfl, rfl, rfl, rfl, rfl, trivial⟩ ?_
        rcases bool_or (x3 != x5) with b7 | b7
        · replace h := cond_t b7 h
          refine S.condT rfl b7 ?_
          refine S.seq ?_
          refine S.region ?_
          refine SO.v rfl (opv_assign rfl) ?_
          refine SO.nil ?_
          cases h
          replace h := hK1.1 _ rfl
          cases h
          exact S.ret1 Try.func16 rfl rfl (fun w hs hk => hR w _ _ ⟨rfl, rfl⟩ hs hk)
        · replace h := cond_f b7 h
          refine S.condF rfl b7 ?_
          refine S.skip ?_
          refine S.inBlock ?_
          refine S.region ?_
          refine SO.v rfl (opv_move rfl) ?_
          refine SO.v rfl (opv_add rfl rfl) ?_
          refine SO.v rfl (opv_assign rfl) ?_
          refine SO.nil ?_
          refine S.to ?_ (ih1 (w64 (x5_1 + 1), ()) h)
          exact ⟨rfl, rfl, rfl, rfl, trivial⟩
      · replace h := cond_f b2 h
        refine S.condF rfl b2 ?_
        refine S.exit rfl ?_
        cases h
        refine S.to ?_ (hK1.2 () () rfl)
        exact ⟨rfl, trivial⟩
    refine ⟨fun r' e' => ?_, ?_⟩
    · subst e'
      have h9 := Brk.of_ret h
      exact h9
    rintro _ _ e'
    subst e'
    replace h := Brk.of_nx h
    refine S.seq ?_
    refine S.region ?_
    refine SO.v rfl (opv_assign rfl) ?_
    refine SO.nil ?_
    cases h
    exact S.ret1 Try.func16 rfl rfl (fun w hs hk => hR w _ _ ⟨rfl, rfl⟩ hs hk)
end Go.Proofs
namespace Go.Proofs
open Go.Sl Go.RowKit
/-! 26 padstone/padstoneref10.slot -/
def ref10_slot.f (a0 : Int) : Option (Bool) :=
  some ((decide (0 ≤ a0)) && (decide (a0 < 96)))
set_option maxHeartbeats 8000000 in
set_option maxRecDepth 100000 in
theorem ref10_slot.ct (a0 : Int) (r0 : Bool) (h : ref10_slot.f a0 = some r0) :
    Ct Try.prog 26 [.int .i64 a0] (fun _ => True) [] (fun u H' => u = .bool r0 ∧ H' = []) := by
  unfold ref10_slot.f at h
  refine Ct.intro (n := 9) Try.func26 rfl rfl rfl ?_
  intro R w0 F hF hR
  refine S.seq ?_
  refine S.region ?_
  refine SO.v rfl (opv_assign rfl) ?_
  refine SO.nil ?_
  refine S.seq ?_
  refine S.region ?_
  refine SO.v rfl (opv_move rfl) ?_
  refine SO.v rfl (opv_geq rfl rfl) ?_
  refine SO.v rfl (opv_move rfl) ?_
  refine SO.cut 3 8 (.bool ((decide (0 ≤ a0)) && (decide (a0 < 96)))) [F] (fun l2 hk2 => ?_) ?_
  · rcases bool_or (decide (0 ≤ a0)) with b1 | b1
    · refine SO.takeT rfl rfl rfl b1 ?_
      refine SO.v rfl (opv_move rfl) ?_
      refine SO.takeT rfl rfl rfl b1 ?_
      refine SO.v rfl (opv_lss rfl rfl) ?_
      refine SO.v rfl (opv_pick_t' b1 rfl rfl) ?_
      exact hk2.fitc (m := 3) rfl (and_t b1) rfl
    · refine SO.passF rfl rfl rfl b1 rfl rfl ?_
      refine SO.passF rfl rfl rfl b1 rfl rfl ?_
      refine SO.v rfl (opv_pick_f' b1 rfl rfl) ?_
      exact hk2.fitc (m := 3) rfl (and_f b1) rfl
  refine SO.v rfl (opv_assign rfl) ?_
  refine SO.nil ?_
  cases h
  exact S.ret1 Try.func26 rfl rfl (fun w hs hk => hR w _ _ ⟨rfl, rfl⟩ hs hk)
end Go.Proofs
namespace Go.Proofs
open Go.Sl Go.RowKit
/-! 19 (*padstone/padstoneref10.State).Leaf -/
def ref10_State_Leaf.l1 (a0 : ref10_State) : Nat → (Int × Int) → Option (Int)
  | 0, _ => none
  | k + 1, (x6_1, x1_1) => (bif decide (x6_1 < 96) then ((at_ a0.Slots x1_1).bind fun x11 => some (decide (0 < (x11.Kids.length : Int)))) else (some false)).bind fun c9 => bif c9 then ((at_ a0.Slots x1_1).bind fun x20 => (at_ x20.Kids 0).bind fun x28 => ref10_State_Leaf.l1 a0 k (w64 (x6_1 + 1), x28)) else (some x1_1)
def ref10_State_Leaf.f (k : Nat) (a0 : ref10_State) (a1 : Int) : Option (Int) :=
  (ref10_slot.f a1).bind fun t5 => bif !t5 then (some (-1)) else ((ref10_State_Leaf.l1 a0 k (0, a1)).bind fun j1_e1 => some j1_e1)
set_option maxHeartbeats 8000000 in
set_option maxRecDepth 100000 in
theorem ref10_State_Leaf.ct (k : Nat) (bp0 : Nat) (v0_Slots : Value) (v0_Objs : Value) (raws_v0_Slots : List (Raw (kr_ref10_Slot).sz)) (A_v0_Slots : HProp) (raws_v0_Objs : List (Raw (kr_ref10_Obj).sz)) (A_v0_Objs : HProp) (a0 : ref10_State) (a1 : Int) (r0 : Int) (h : ref10_State_Leaf.f k a0 a1 = some r0) :
    Ct Try.prog 19 [bp bp0 0, .int .i64 a1] (fun _ => True) [Box bp0 [v0_Slots, v0_Objs, .int .i64 a0.NS, .int .i64 a0.NO], OwnO 46 kr_ref10_Slot v0_Slots raws_v0_Slots A_v0_Slots a0.Slots, OwnO 56 kr_ref10_Obj v0_Objs raws_v0_Objs A_v0_Objs a0.Objs] (fun u H' => u = .int .i64 r0 ∧ H' = [Box bp0 [v0_Slots, v0_Objs, .int .i64 a0.NS, .int .i64 a0.NO], OwnO 46 kr_ref10_Slot v0_Slots raws_v0_Slots A_v0_Slots a0.Slots, OwnO 56 kr_ref10_Obj v0_Objs raws_v0_Objs A_v0_Objs a0.Objs]) := by
  unfold ref10_State_Leaf.f at h
  refine Ct.intro (n := 38) Try.func19 rfl rfl rfl ?_
  intro R w0 F hF hR
  refine S.b1 ?_
  refine S.rdO fun hrel1 hR2 => ?_
  refine S.b2 ?_
  refine S.rdO fun hrel3 hR4 => ?_
  refine S.seq ?_
  refine S.region ?_
  refine SO.v rfl (opv_assign rfl) ?_
  refine SO.nil ?_
  refine S.seq ?_
  refine S.region ?_
  refine SO.v rfl (opv_move rfl) ?_
  obtain ⟨t5, ht6, h⟩ := opt_bind h
  refine SO.call (pre := []) rfl Try.call26 rfl rfl rfl (ref10_slot.ct _ _ ht6) trivial ?_
  rintro _ _ ⟨rfl, rfl⟩
  refine SO.v rfl (opv_assign rfl) ?_
  refine SO.nil ?_
  refine S.seq ?_
  refine S.seq ?_
  refine S.region ?_
  refine SO.v rfl (opv_move rfl) ?_
  refine SO.v rfl (opv_not rfl) ?_
  refine SO.nil ?_
  rcases bool_or (!t5) with b7 | b7
  · replace h := cond_t b7 h
    refine S.condT rfl b7 ?_
    refine S.seq ?_
    refine S.region ?_
    refine SO.v rfl (opv_assign rfl) ?_
    refine SO.nil ?_
    refine S.to (ρ' := [(4, .int .i64 (-1))]) ⟨rfl, trivial⟩ ?_
    cases h
    refine S.b3 ?_
    refine S.b1 ?_
    refine S.b2 ?_
    refine S.b3 ?_
    exact S.ret1 Try.func19 rfl rfl (fun w hs hk => hR w _ _ ⟨rfl, rfl⟩ hs hk)
  · replace h := cond_f b7 h
    refine S.condF rfl b7 ?_
    refine S.skip ?_
    refine S.seq ?_
    refine S.seq ?_
    refine S.region ?_
    refine SO.v rfl (opv_assign rfl) ?_
    refine SO.nil ?_
    obtain ⟨j1_e1, hl1, h⟩ := opt_bind h
    refine S.b3 ?_
    refine S.b3 ?_
    refine S.b3 ?_
    refine S.b3 ?_
    refine S.to (ρ' := [(6, .int .i64 0), (4, .int .i64 0), (0, bp bp0 0), (1, .int .i64 a1)]) ⟨rfl, rfl, rfl, rfl, trivial⟩ ?_
    refine S.forloop (X := (Int × Int) × Unit) (O := Int) (fun m x => ref10_State_Leaf.l1 a0 m x.1) (fun x => match x with | ((x6_1, x1_1), _) => [(6, .int .i64 x6_1), (4, .int .i64 0), (0, bp bp0 0), (1, .int .i64 x1_1)]) (fun x => match x with | ((x6_1, x1_1), _) => [OwnO 56 kr_ref10_Obj v0_Objs raws_v0_Objs A_v0_Objs a0.Objs, OwnO 46 kr_ref10_Slot v0_Slots raws_v0_Slots A_v0_Slots a0.Slots, Box bp0 [v0_Slots, v0_Objs, .int .i64 a0.NS, .int .i64 a0.NO], F]) (fun Sk => (fun j1_e1 => ∀ _ : Unit, Sk [(1, .int .i64 j1_e1), (4, .int .i64 0)] [OwnO 56 kr_ref10_Obj v0_Objs raws_v0_Objs A_v0_Objs a0.Objs, OwnO 46 kr_ref10_Slot v0_Slots raws_v0_Slots A_v0_Slots a0.Slots, Box bp0 [v0_Slots, v0_Objs, .int .i64 a0.NS, .int .i64 a0.NO], F])) (fun _ => rfl) ?_ (m := k) (x := ((0, a1), ())) hl1 ?_
    · clear h hl1
      intro k x o_1 h hK1 ih1
      obtain ⟨⟨x6_1, x1_1⟩, _⟩ := x
      replace h : ref10_State_Leaf.l1 a0 (k + 1) (x6_1, x1_1) = some o_1 := h
      first | rw [ref10_State_Leaf.l1] at h | unfold ref10_State_Leaf.l1 at h
      refine S.seq ?_
      refine S.seq ?_
      refine S.region ?_
      refine SO.v rfl (opv_move rfl) ?_
      refine SO.v rfl (opv_lss rfl rfl) ?_
      refine SO.v rfl (opv_move rfl) ?_
      obtain ⟨c9, hc10, hgk⟩ := opt_bind h
      refine SO.cut 11 24 (.bool c9) [OwnO 56 kr_ref10_Obj v0_Objs raws_v0_Objs A_v0_Objs a0.Objs, OwnO 46 kr_ref10_Slot v0_Slots raws_v0_Slots A_v0_Slots a0.Slots, Box bp0 [v0_Slots, v0_Objs, .int .i64 a0.NS, .int .i64 a0.NO], F] (fun l2 hk2 => ?_) ?_
      · clear hgk
        replace h := hc10
        rcases bool_or (decide (x6_1 < 96)) with b8 | b8
        · replace h := cond_t b8 h
          refine SO.takeT rfl rfl rfl b8 ?_
          refine SO.v rfl (opv_move rfl) ?_
          refine SO.takeT rfl rfl rfl b8 ?_
          refine SO.v rfl (opv_nilCheck rfl) ?_
          refine SO.takeT rfl rfl rfl b8 ?_
          refine SO.v rfl (opv_fieldAddr Try.underlying50 rfl Try.sizeOf47 rfl rfl) ?_
          refine SO.takeT rfl rfl rfl b8 ?_
          refine SO.b2 ?_
          refine SO.load1 rfl Try.isAgg47 rfl rfl ?_
          refine SO.takeT rfl rfl rfl b8 ?_
          refine SO.v rfl (opv_move rfl) ?_
          refine SO.takeT rfl rfl rfl b8 ?_
          obtain ⟨x11, hx12, h⟩ := opt_bind h
          obtain ⟨r13, hr14, hc15⟩ := relR.at hrel1 hx12
          refine SO.v rfl (opv_idx Try.underlying47 Try.sizeOf46 hR2 rfl rfl hr14) ?_
          refine SO.takeT rfl rfl rfl b8 ?_
          refine SO.v rfl (opv_fieldIdx Try.underlying46 rfl Try.sizeOf41 hR2 hr14 rfl rfl) ?_
          refine SO.takeT rfl rfl rfl b8 ?_
          obtain ⟨u16, hu17, hru18⟩ := hc15.sl 7 rfl
          refine SO.loadI1 (j := 7) rfl Try.isAgg41 (Rd.tail (Rd.tail (Rd.head hR2))) hr14 rfl rfl rfl hu17 ?_
          refine SO.takeT rfl rfl rfl b8 ?_
          refine SO.v rfl (opv_lenR rfl Try.underlying41 hru18 rfl) ?_
          refine SO.takeT rfl rfl rfl b8 ?_
          refine SO.v rfl (opv_gtr rfl rfl) ?_
          cases h
          refine SO.v rfl (opv_pick_t' b8 rfl rfl) ?_
          refine SO.b3 ?_
          refine SO.b1 ?_
          refine SO.b3 ?_
          refine SO.b3 ?_
          exact hk2.fitc (m := 11) rfl (rfl) rfl
        · replace h := cond_f b8 h
          refine SO.passF rfl rfl rfl b8 rfl rfl ?_
          refine SO.passF rfl rfl rfl b8 rfl rfl ?_
          refine SO.passF rfl rfl rfl b8 rfl rfl ?_
          refine SO.passF rfl rfl rfl b8 rfl rfl ?_
          refine SO.passF rfl rfl rfl b8 rfl rfl ?_
          refine SO.passF rfl rfl rfl b8 rfl rfl ?_
          refine SO.passF rfl rfl rfl b8 rfl rfl ?_
          refine SO.passF rfl rfl rfl b8 rfl rfl ?_
          refine SO.passF rfl rfl rfl b8 rfl rfl ?_
          refine SO.passF rfl rfl rfl b8 rfl rfl ?_
          cases h
          refine SO.v rfl (opv_pick_f' b8 rfl rfl) ?_
          refine SO.b3 ?_
          refine SO.b3 ?_
          refine SO.b3 ?_
          refine SO.b3 ?_
          exact hk2.fitc (m := 11) rfl (rfl) rfl
      clear hc10
      replace h := hgk
      refine SO.nil ?_
      rcases bool_or c9 with b19 | b19
      · replace h := cond_t b19 h
        refine S.condT rfl b19 ?_
        refine S.skip ?_
        refine S.seq ?_
        refine S.block ?_
        refine S.region ?_
        refine SO.v rfl (opv_move rfl) ?_
        refine SO.v rfl (opv_nilCheck rfl) ?_
        refine SO.v rfl (opv_fieldAddr Try.underlying50 rfl Try.sizeOf47 rfl rfl) ?_
        refine SO.b2 ?_
        refine SO.load1 rfl Try.isAgg47 rfl rfl ?_
        refine SO.v rfl (opv_move rfl) ?_
        obtain ⟨x20, hx21, h⟩ := opt_bind h
        obtain ⟨r22, hr23, hc24⟩ := relR.at hrel1 hx21
        refine SO.v rfl (opv_idx Try.underlying47 Try.sizeOf46 hR2 rfl rfl hr23) ?_
        refine SO.v rfl (opv_fieldIdx Try.underlying46 rfl Try.sizeOf41 hR2 hr23 rfl rfl) ?_
        obtain ⟨u25, hu26, hru27⟩ := hc24.sl 7 rfl
        refine SO.loadI1 (j := 7) rfl Try.isAgg41 (Rd.tail (Rd.tail (Rd.head hR2))) hr23 rfl rfl rfl hu26 ?_
        obtain ⟨x28, hx29, h⟩ := opt_bind h
        refine SO.v rfl (opv_idx Try.underlying41 Try.sizeOf3 hru27 rfl rfl hx29) ?_
        refine SO.loadI1 (j := 0) rfl Try.isAgg3 (Rd.tail (Rd.tail (Rd.head (Rd.pool hru27)))) hx29 rfl rfl rfl rfl ?_
        refine SO.v rfl (opv_assign rfl) ?_
        refine SO.nil ?_
        refine S.to (ρ' := [(6, .int .i64 x6_1), (4, .int .i64 0), (0, bp bp0 0), (1, .int .i64 x28)]) ⟨rfl, rfl, rfl, rfl, trivial⟩ ?_
        refine S.inBlock ?_
        refine S.region ?_
        refine SO.v rfl (opv_move rfl) ?_
        refine SO.v rfl (opv_add rfl rfl) ?_
        refine SO.v rfl (opv_assign rfl) ?_
        refine SO.nil ?_
        refine S.b3 ?_
        refine S.b1 ?_
        refine S.b3 ?_
        refine S.b3 ?_
        refine S.to ?_ (ih1 ((w64 (x6_1 + 1), x28), ()) h)
        exact ⟨rfl, rfl, rfl, rfl, trivial⟩
      · replace h := cond_f b19 h
        refine S.condF rfl b19 ?_
        refine S.exit rfl ?_
        cases h
        refine S.b3 ?_
        refine S.b3 ?_
        refine S.b3 ?_
        refine S.b3 ?_
        refine S.to ?_ (hK1 ())
        exact ⟨rfl, rfl, trivial⟩
    rintro _
    refine S.seq ?_
    refine S.region ?_
    refine SO.v rfl (opv_move rfl) ?_
    refine SO.v rfl (opv_assign rfl) ?_
    refine SO.nil ?_
    cases h
    refine S.b3 ?_
    refine S.b1 ?_
    refine S.b2 ?_
    refine S.b3 ?_
    exact S.ret1 Try.func19 rfl rfl (fun w hs hk => hR w _ _ ⟨rfl, rfl⟩ hs hk)
end Go.Proofs
namespace Go.Proofs
open Go.Sl Go.RowKit
/-! 10 (*padstone/padstoneref10.State).Link -/
def ref10_State_Link.f (a0 : ref10_State) (a1 : Int) (a2 : Int) : Option ((Int × ref10_State)) :=
  (ref10_slot.f a1).bind fun t1 => (ref10_slot.f a2).bind fun t3 => bif (!t1) || (!t3) then (some (2, a0)) else ((bif a1 == a2 then (some true) else ((at_ a0.Slots a1).bind fun x14 => some (decide (0 ≤ x14.Parent)))).bind fun c12 => bif c12 then (some (10, a0)) else ((at_ a0.Slots a1).bind fun x20 => (at_ (a0.Slots.set a1.toNat ({ x20 with Parent := a2 } : ref10_Slot)) a2).bind fun x34 => (app ([a1]) x34.Kids).bind fun zs43 => (at_ (a0.Slots.set a1.toNat ({ x20 with Parent := a2 } : ref10_Slot)) a2).bind fun x47 => some (0, ({ a0 with Slots := (a0.Slots.set a1.toNat ({ x20 with Parent := a2 } : ref10_Slot)).set a2.toNat ({ x47 with Kids := zs43 } : ref10_Slot) } : ref10_State))))
set_option maxHeartbeats 8000000 in
set_option maxRecDepth 100000 in
theorem ref10_State_Link.ct (bp0 : Nat) (v0_Slots : Value) (v0_Objs : Value) (a0 : ref10_State) (a1 : Int) (a2 : Int) (r0 : Int) (rp0 : ref10_State) (h : ref10_State_Link.f a0 a1 a2 = some (r0, rp0)) :
    Ct Try.prog 10 [bp bp0 0, .int .i64 a1, .int .i64 a2] (fun _ => True) [Box bp0 [v0_Slots, v0_Objs, .int .i64 a0.NS, .int .i64 a0.NO], OwnR 46 kr_ref10_Slot v0_Slots a0.Slots, OwnR 56 kr_ref10_Obj v0_Objs a0.Objs] (fun u H' => ∃ rw0_Slots rw0_Objs, u = .int .i64 r0 ∧ H' = [Box bp0 [rw0_Slots, rw0_Objs, .int .i64 rp0.NS, .int .i64 rp0.NO], OwnR 46 kr_ref10_Slot rw0_Slots rp0.Slots, OwnR 56 kr_ref10_Obj rw0_Objs rp0.Objs]) := by
  unfold ref10_State_Link.f at h
  refine Ct.intro (n := 59) Try.func10 rfl rfl rfl ?_
  intro R w0 F hF hR
  refine S.seq ?_
  refine S.region ?_
  refine SO.v rfl (opv_assign rfl) ?_
  refine SO.nil ?_
  refine S.seq ?_
  refine S.region ?_
  refine SO.v rfl (opv_move rfl) ?_
  obtain ⟨t1, ht2, h⟩ := opt_bind h
  refine SO.call (pre := []) rfl Try.call26 rfl rfl rfl (ref10_slot.ct _ _ ht2) trivial ?_
  rintro _ _ ⟨rfl, rfl⟩
  refine SO.v rfl (opv_assign rfl) ?_
  refine SO.nil ?_
  refine S.seq ?_
  refine S.region ?_
  refine SO.v rfl (opv_move rfl) ?_
  obtain ⟨t3, ht4, h⟩ := opt_bind h
  refine SO.call (pre := []) rfl Try.call26 rfl rfl rfl (ref10_slot.ct _ _ ht4) trivial ?_
  rintro _ _ ⟨rfl, rfl⟩
  refine SO.v rfl (opv_assign rfl) ?_
  refine SO.nil ?_
  refine S.seq ?_
  refine S.seq ?_
  refine S.region ?_
  refine SO.v rfl (opv_move rfl) ?_
  refine SO.v rfl (opv_not rfl) ?_
  refine SO.v rfl (opv_move rfl) ?_
  refine SO.cut 3 18 (.bool ((!t1) || (!t3))) [Box bp0 [v0_Slots, v0_Objs, .int .i64 a0.NS, .int .i64 a0.NO], OwnR 46 kr_ref10_Slot v0_Slots a0.Slots, OwnR 56 kr_ref10_Obj v0_Objs a0.Objs, F] (fun l2 hk2 => ?_) ?_
  · rcases bool_or (!t1) with b5 | b5
    · refine SO.passF rfl rfl rfl b5 rfl rfl ?_
      refine SO.passF rfl rfl rfl b5 rfl rfl ?_
      refine SO.v rfl (opv_pick_t' b5 rfl rfl) ?_
      refine SO.b3 ?_
      refine SO.b3 ?_
      refine SO.b3 ?_
      refine SO.b3 ?_
      exact hk2.fitc (m := 3) rfl (or_t b5) rfl
    · refine SO.takeT rfl rfl rfl b5 ?_
      refine SO.v rfl (opv_move rfl) ?_
      refine SO.takeT rfl rfl rfl b5 ?_
      refine SO.v rfl (opv_not rfl) ?_
      refine SO.v rfl (opv_pick_f' b5 rfl rfl) ?_
      refine SO.b3 ?_
      refine SO.b3 ?_
      refine SO.b3 ?_
      refine SO.b3 ?_
      exact hk2.fitc (m := 3) rfl (or_f b5) rfl
  refine SO.nil ?_
  refine S.to (ρ' := [(0, bp bp0 0), (1, .int .i64 a1), (2, .int .i64 a2), (6, .int .i64 0), (18, .bool ((!t1) || (!t3)))]) ⟨rfl, rfl, rfl, rfl, rfl, trivial⟩ ?_
  rcases bool_or ((!t1) || (!t3)) with b6 | b6
  · replace h := cond_t b6 h
    refine S.condT rfl b6 ?_
    refine S.seq ?_
    refine S.region ?_
    refine SO.v rfl (opv_assign rfl) ?_
    refine SO.nil ?_
    cases h
    refine S.b3 ?_
    refine S.b3 ?_
    refine S.b3 ?_
    refine S.b3 ?_
    exact S.ret1 Try.func10 rfl rfl (fun w hs hk => hR w _ _ ⟨v0_Slots, v0_Objs, rfl, rfl⟩ hs hk)
  · replace h := cond_f b6 h
    refine S.condF rfl b6 ?_
    refine S.skip ?_
    refine S.seq ?_
    refine S.seq ?_
    refine S.region ?_
    refine SO.v rfl (opv_move rfl) ?_
    refine SO.v rfl (opv_move rfl) ?_
    refine SO.v rfl (opv_eql rfl rfl) ?_
    refine SO.v rfl (opv_move rfl) ?_
    refine SO.b1 ?_
    refine SO.openR fun raws7 A8 hrel9 hR10 => ?_
    obtain ⟨c12, hc13, hgk⟩ := opt_bind h
    refine SO.cut 10 32 (.bool c12) [OwnO 46 kr_ref10_Slot v0_Slots raws7 A8 a0.Slots, Box bp0 [v0_Slots, v0_Objs, .int .i64 a0.NS, .int .i64 a0.NO], OwnR 56 kr_ref10_Obj v0_Objs a0.Objs, F] (fun l2 hk2 => ?_) ?_
    · clear hgk
      replace h := hc13
      rcases bool_or (a1 == a2) with b11 | b11
      · replace h := cond_t b11 h
        refine SO.passF rfl rfl rfl b11 rfl rfl ?_
        refine SO.passF rfl rfl rfl b11 rfl rfl ?_
        refine SO.passF rfl rfl rfl b11 rfl rfl ?_
        refine SO.passF rfl rfl rfl b11 rfl rfl ?_
        refine SO.passF rfl rfl rfl b11 rfl rfl ?_
        refine SO.passF rfl rfl rfl b11 rfl rfl ?_
        refine SO.passF rfl rfl rfl b11 rfl rfl ?_
        refine SO.passF rfl rfl rfl b11 rfl rfl ?_
        refine SO.passF rfl rfl rfl b11 rfl rfl ?_
        cases h
        refine SO.v rfl (opv_pick_t' b11 rfl rfl) ?_
        refine SO.b3 ?_
        refine SO.b3 ?_
        refine SO.b3 ?_
        refine SO.b3 ?_
        exact hk2.fitc (m := 10) rfl (rfl) rfl
      · replace h := cond_f b11 h
        refine SO.takeT rfl rfl rfl b11 ?_
        refine SO.v rfl (opv_move rfl) ?_
        refine SO.takeT rfl rfl rfl b11 ?_
        refine SO.v rfl (opv_nilCheck rfl) ?_
        refine SO.takeT rfl rfl rfl b11 ?_
        refine SO.v rfl (opv_fieldAddr Try.underlying50 rfl Try.sizeOf47 rfl rfl) ?_
        refine SO.takeT rfl rfl rfl b11 ?_
        refine SO.b1 ?_
        refine SO.load1 rfl Try.isAgg47 rfl rfl ?_
        refine SO.takeT rfl rfl rfl b11 ?_
        refine SO.v rfl (opv_move rfl) ?_
        refine SO.takeT rfl rfl rfl b11 ?_
        obtain ⟨x14, hx15, h⟩ := opt_bind h
        obtain ⟨r16, hr17, hc18⟩ := relR.at hrel9 hx15
        refine SO.v rfl (opv_idx Try.underlying47 Try.sizeOf46 hR10 rfl rfl hr17) ?_
        refine SO.takeT rfl rfl rfl b11 ?_
        refine SO.v rfl (opv_fieldIdx Try.underlying46 rfl Try.sizeOf3 hR10 hr17 rfl rfl) ?_
        refine SO.takeT rfl rfl rfl b11 ?_
        refine SO.loadI1 (j := 6) rfl Try.isAgg3 (Rd.tail (Rd.head hR10)) hr17 rfl rfl rfl (hc18.val rfl) ?_
        refine SO.takeT rfl rfl rfl b11 ?_
        refine SO.v rfl (opv_geq rfl rfl) ?_
        cases h
        refine SO.v rfl (opv_pick_f' b11 rfl rfl) ?_
        refine SO.b3 ?_
        refine SO.b3 ?_
        refine SO.b2 ?_
        refine SO.b3 ?_
        exact hk2.fitc (m := 10) rfl (rfl) rfl
    clear hc13
    replace h := hgk
    refine SO.nil ?_
    rcases bool_or c12 with b19 | b19
    · replace h := cond_t b19 h
      refine S.condT rfl b19 ?_
      refine S.seq ?_
      refine S.region ?_
      refine SO.v rfl (opv_assign rfl) ?_
      refine SO.nil ?_
      refine S.to (ρ' := [(6, .int .i64 10)]) ⟨rfl, trivial⟩ ?_
      cases h
      refine S.closeR ?_
      refine S.b3 ?_
      refine S.b3 ?_
      refine S.b2 ?_
      refine S.b3 ?_
      exact S.ret1 Try.func10 rfl rfl (fun w hs hk => hR w _ _ ⟨v0_Slots, v0_Objs, rfl, rfl⟩ hs hk)
    · replace h := cond_f b19 h
      refine S.condF rfl b19 ?_
      refine S.skip ?_
      refine S.seq ?_
      refine S.region ?_
      refine SO.v rfl (opv_move rfl) ?_
      refine SO.v rfl (opv_nilCheck rfl) ?_
      refine SO.v rfl (opv_fieldAddr Try.underlying50 rfl Try.sizeOf47 rfl rfl) ?_
      refine SO.b1 ?_
      refine SO.load1 rfl Try.isAgg47 rfl rfl ?_
      refine SO.v rfl (opv_move rfl) ?_
      refine SO.v rfl (opv_move rfl) ?_
      obtain ⟨x20, hx21, h⟩ := opt_bind h
      obtain ⟨r22, hr23, hc24⟩ := relR.at hrel9 hx21
      refine SO.v rfl (opv_idx Try.underlying47 Try.sizeOf46 hR10 rfl rfl hr23) ?_
      refine SO.v rfl (opv_fieldIdx Try.underlying46 rfl Try.sizeOf3 hR10 hr23 rfl rfl) ?_
      refine SO.b1 ?_
      refine SO.storeO1 (j := 6) (q := .val (.int .i64 a2)) (z' := ({ x20 with Parent := a2 } : ref10_Slot)) Try.sizeOf3 hrel9 hx21 rfl rfl rfl rfl rfl rfl rfl (fun raws25 hrel26 hR27 => ?_)
      refine SO.nil ?_
      refine S.to (ρ' := [(0, bp bp0 0), (1, .int .i64 a1), (2, .int .i64 a2), (6, .int .i64 0)]) ⟨rfl, rfl, rfl, rfl, trivial⟩ ?_
      refine S.seq ?_
      refine S.b2 ?_
      refine S.openR fun raws28 A29 hrel30 hR31 => ?_
      obtain ⟨x34, hx35, h⟩ := opt_bind h
      obtain ⟨r36, hr37, hc38⟩ := relR.at hrel26 hx35
      obtain ⟨u39, hu40, hru41⟩ := hc38.sl 7 rfl
      obtain ⟨zs43, hz44, h⟩ := opt_bind h
      obtain ⟨x47, hx48, h⟩ := opt_bind h
      obtain ⟨r49, hr50, hc51⟩ := relR.at hrel26 hx48
      refine S.draw' (Z := fun Q => ∀ (_ : Unit) (_ : Unit) (_ : Unit) (_ : Unit) (_ : Unit), Q [(6, .int .i64 0)] [OwnO 56 kr_ref10_Obj v0_Objs raws28 A29 a0.Objs, OwnR 46 kr_ref10_Slot v0_Slots ((a0.Slots.set a1.toNat ({ x20 with Parent := a2 } : ref10_Slot)).set a2.toNat ({ x47 with Kids := zs43 } : ref10_Slot)), Box bp0 [v0_Slots, v0_Objs, .int .i64 a0.NS, .int .i64 a0.NO], F]) (T := [tS 0 (bp bp0 0), tS 2 (.int .i64 a2), tS 1 (.int .i64 a1), tS 6 (.int .i64 0), tR (OwnO 56 kr_ref10_Obj v0_Objs raws28 A29 a0.Objs), tR (OwnO 46 kr_ref10_Slot v0_Slots raws25 A8 (a0.Slots.set a1.toNat ({ x20 with Parent := a2 } : ref10_Slot))), tR (Box bp0 [v0_Slots, v0_Objs, .int .i64 a0.NS, .int .i64 a0.NO]), tR (F), tS 41 (bp bp0 0), tS 42 (bp bp0 0), tS 43 (bp bp0 0), tS 44 (v0_Slots), tS 45 (.int .i64 a2), tS 46 (.int .i64 a1), ⟨Value, [47], (fun v32 => [(47, v32)]), (fun v32 => [Own 3 (ekI .i64) v32 ([a1])]), fun _ => rfl⟩, tS 48 (bp bp0 0), tS 49 (bp bp0 0), tS 50 (bp bp0 0), tS 51 (v0_Slots), tS 52 (.int .i64 a2), tS 53 (idxp v0_Slots (a2.toNat * kr_ref10_Slot.sz)), tS 54 (idxp v0_Slots (a2.toNat * kr_ref10_Slot.sz + 7)), tS 55 (u39), ⟨Value, [56], (fun v45 => [(56, v45)]), (fun v45 => [Own 3 (ekI .i64) v45 zs43]), fun _ => rfl⟩, tS 57 (idxp v0_Slots (a2.toNat * kr_ref10_Slot.sz)), tS 58 (idxp v0_Slots (a2.toNat * kr_ref10_Slot.sz + 7)), tR (OwnR 46 kr_ref10_Slot v0_Slots ((a0.Slots.set a1.toNat ({ x20 with Parent := a2 } : ref10_Slot)).set a2.toNat ({ x47 with Kids := zs43 } : ref10_Slot)))]) (D := [⟨[0], [], [8]⟩, ⟨[8], [], [9]⟩, ⟨[9], [], [10]⟩, ⟨[10, 6], [], [11]⟩, ⟨[1], [], [12]⟩, ⟨[2], [], [13]⟩, ⟨[13], [], [14]⟩, ⟨[0], [], [15]⟩, ⟨[15], [], [16]⟩, ⟨[16], [], [17]⟩, ⟨[17, 6], [], [18]⟩, ⟨[1], [], [19]⟩, ⟨[18, 19, 5], [], [20]⟩, ⟨[20, 5], [], [21]⟩, ⟨[21, 5], [], [22]⟩, ⟨[22, 5], [14], [23]⟩, ⟨[11, 12, 5], [], [24]⟩, ⟨[24, 5], [], [25]⟩, ⟨[25], [23, 5], [26]⟩]) (ini := [0, 1, 2, 3, 4, 5, 6, 7]) (fin := [3, 4, 26, 6, 7]) (bf := [[], [0], [0, 1], [0, 1, 2], [], [], [5], [], [7], [7, 8], [7, 8, 9], [], [7, 8, 9, 10, 11], [7, 8, 9, 10, 11, 12], [7, 8, 9, 10, 11, 12, 13], [5, 6, 7, 8, 9, 10, 11, 12, 13, 14], [0, 1, 2, 3, 4, 5, 6, 7, 8, 9, 10, 11, 12, 13, 14, 15], [0, 1, 2, 3, 4, 5, 6, 7, 8, 9, 10, 11, 12, 13, 14, 15, 16], [0, 1, 2, 3, 4, 5, 6, 7, 8, 9, 10, 11, 12, 13, 14, 15, 16, 17]]) (by kernel_rfl) (by kernel_rfl) (fun x w h1 h2 => (.cons () (.cons () (.cons () (.cons () (.cons () (.cons () (.cons () (.cons () (.nil ⟨EnvAll.of h1 ⟨rfl, rfl, rfl, rfl, trivial⟩, h2⟩)))))))))) (fun Q => by kernel_rfl) ⟨?_, ?_, ?_, ?_, ?_, ?_, ?_, ?_, ?_, ?_, ?_, ?_, ?_, ?_, ?_, ?_, ?_, ?_, ?_, trivial⟩ ?_
      · rintro Fr _
        refine SO.v rfl (opv_move rfl) ?_
        exact SO.nilZ fun a w h1 h2 h3 h4 h5 => PZ.of h1 h3 h5 (.cons () (.cons () (.nil ⟨EnvAll.of h2 ⟨rfl, rfl, trivial⟩, h4⟩)))
      · rintro Fr _
        refine SO.v rfl (opv_nilCheck rfl) ?_
        exact SO.nilZ fun a w h1 h2 h3 h4 h5 => PZ.of h1 h3 h5 (.cons () (.cons () (.nil ⟨EnvAll.of h2 ⟨rfl, rfl, trivial⟩, h4⟩)))
      · rintro Fr _
        refine SO.v rfl (opv_fieldAddr Try.underlying50 rfl Try.sizeOf47 rfl rfl) ?_
        exact SO.nilZ fun a w h1 h2 h3 h4 h5 => PZ.of h1 h3 h5 (.cons () (.cons () (.nil ⟨EnvAll.of h2 ⟨rfl, rfl, trivial⟩, h4⟩)))
      · rintro Fr _ _
        refine SO.load1 rfl Try.isAgg47 rfl rfl ?_
        exact SO.nilZ fun a w h1 h2 h3 h4 h5 => PZ.of h1 h3 h5 (.cons () (.cons () (.cons () (.nil ⟨EnvAll.of h2 ⟨rfl, rfl, trivial⟩, h4⟩))))
      · rintro Fr _
        refine SO.v rfl (opv_move rfl) ?_
        exact SO.nilZ fun a w h1 h2 h3 h4 h5 => PZ.of h1 h3 h5 (.cons () (.cons () (.nil ⟨EnvAll.of h2 ⟨rfl, rfl, trivial⟩, h4⟩)))
      · rintro Fr _
        refine SO.v rfl (opv_move rfl) ?_
        exact SO.nilZ fun a w h1 h2 h3 h4 h5 => PZ.of h1 h3 h5 (.cons () (.cons () (.nil ⟨EnvAll.of h2 ⟨rfl, rfl, trivial⟩, h4⟩)))
      · rintro Fr _
        refine SO.buildSlice (K := ekI .i64) (xs := [a1]) (cs := [.int .i64 a1]) rfl Try.underlying41 Try.sizeOf3 Try.zeroValue3 rfl rfl rfl (by kernel_rfl) rfl rfl rfl (fun v32 hr33 => ?_)
        exact SO.nilZ fun a w h1 h2 h3 h4 h5 => PZ.of h1 h3 h5 (.cons () (.cons v32 (.nil ⟨EnvAll.of h2 ⟨rfl, rfl, trivial⟩, h4⟩)))
      · rintro Fr _
        refine SO.v rfl (opv_move rfl) ?_
        exact SO.nilZ fun a w h1 h2 h3 h4 h5 => PZ.of h1 h3 h5 (.cons () (.cons () (.nil ⟨EnvAll.of h2 ⟨rfl, rfl, trivial⟩, h4⟩)))
      · rintro Fr _
        refine SO.v rfl (opv_nilCheck rfl) ?_
        exact SO.nilZ fun a w h1 h2 h3 h4 h5 => PZ.of h1 h3 h5 (.cons () (.cons () (.nil ⟨EnvAll.of h2 ⟨rfl, rfl, trivial⟩, h4⟩)))
      · rintro Fr _
        refine SO.v rfl (opv_fieldAddr Try.underlying50 rfl Try.sizeOf47 rfl rfl) ?_
        exact SO.nilZ fun a w h1 h2 h3 h4 h5 => PZ.of h1 h3 h5 (.cons () (.cons () (.nil ⟨EnvAll.of h2 ⟨rfl, rfl, trivial⟩, h4⟩)))
      · rintro Fr _ _
        refine SO.load1 rfl Try.isAgg47 rfl rfl ?_
        exact SO.nilZ fun a w h1 h2 h3 h4 h5 => PZ.of h1 h3 h5 (.cons () (.cons () (.cons () (.nil ⟨EnvAll.of h2 ⟨rfl, rfl, trivial⟩, h4⟩))))
      · rintro Fr _
        refine SO.v rfl (opv_move rfl) ?_
        exact SO.nilZ fun a w h1 h2 h3 h4 h5 => PZ.of h1 h3 h5 (.cons () (.cons () (.nil ⟨EnvAll.of h2 ⟨rfl, rfl, trivial⟩, h4⟩)))
      · rintro Fr _ _ _
        refine SO.v rfl (opv_idx Try.underlying47 Try.sizeOf46 hR27 rfl rfl hr37) ?_
        exact SO.nilZ fun a w h1 h2 h3 h4 h5 => PZ.of h1 h3 h5 (.cons () (.cons () (.cons () (.cons () (.nil ⟨EnvAll.of h2 ⟨rfl, rfl, rfl, trivial⟩, h4⟩)))))
      · rintro Fr _ _
        refine SO.v rfl (opv_fieldIdx Try.underlying46 rfl Try.sizeOf41 hR27 hr37 rfl rfl) ?_
        exact SO.nilZ fun a w h1 h2 h3 h4 h5 => PZ.of h1 h3 h5 (.cons () (.cons () (.cons () (.nil ⟨EnvAll.of h2 ⟨rfl, rfl, trivial⟩, h4⟩))))
      · rintro Fr _ _
        refine SO.loadI1 (j := 7) rfl Try.isAgg41 (Rd.head hR27) hr37 rfl rfl rfl hu40 ?_
        exact SO.nilZ fun a w h1 h2 h3 h4 h5 => PZ.of h1 h3 h5 (.cons () (.cons () (.cons () (.nil ⟨EnvAll.of h2 ⟨rfl, rfl, trivial⟩, h4⟩))))
      · rintro Fr _ _ v32
        refine SO.b1 ?_
        refine SO.rd fun hr42 => ?_
        refine SO.append rfl Try.underlying41 Try.underlying41 inf3 rfl rfl rfl (by decide) rfl rfl rfl (Rd.head (Rd.pool hru41)) hz44 (fun v45 => ?_)
        refine SO.rd fun hr46 => ?_
        refine SO.b1 ?_
        exact SO.nilZ fun a w h1 h2 h3 h4 h5 => PZ.of h1 h3 h5 (.cons () (.cons () (.cons v45 (.nil ⟨EnvAll.of h2 ⟨rfl, rfl, trivial⟩, h4⟩))))
      · rintro Fr _ _ _
        refine SO.v rfl (opv_idx Try.underlying47 Try.sizeOf46 hR27 rfl rfl hr50) ?_
        exact SO.nilZ fun a w h1 h2 h3 h4 h5 => PZ.of h1 h3 h5 (.cons () (.cons () (.cons () (.cons () (.nil ⟨EnvAll.of h2 ⟨rfl, rfl, rfl, trivial⟩, h4⟩)))))
      · rintro Fr _ _
        refine SO.v rfl (opv_fieldIdx Try.underlying46 rfl Try.sizeOf41 hR27 hr50 rfl rfl) ?_
        exact SO.nilZ fun a w h1 h2 h3 h4 h5 => PZ.of h1 h3 h5 (.cons () (.cons () (.cons () (.nil ⟨EnvAll.of h2 ⟨rfl, rfl, trivial⟩, h4⟩))))
      · rintro Fr _ v45 _
        refine SO.rd fun hr52 => ?_
        refine SO.b1 ?_
        refine SO.b1 ?_
        refine SO.freeze hrel26 fun A53 hcov54 hru55 hrel56 hR57 => ?_
        refine SO.storeO1 (j := 7) (q := .sl (ekI .i64) zs43) (z' := ({ x47 with Kids := zs43 } : ref10_Slot)) Try.sizeOf41 hrel56 hx48 rfl rfl (Rd.one hru55) rfl rfl rfl hru55 (fun raws58 hrel59 hR60 => ?_)
        refine SO.closeR ?_
        exact SO.nilZ fun a w h1 h2 h3 h4 h5 => PZ.of h1 h3 h5 (.cons () (.cons () (.nil ⟨EnvAll.of h2 ⟨rfl, trivial⟩, h4⟩)))
      rintro _ _ _ _ _
      refine S.to (ρ' := [(6, .int .i64 0)]) ⟨rfl, trivial⟩ ?_
      refine S.seq ?_
      refine S.region ?_
      refine SO.v rfl (opv_assign rfl) ?_
      refine SO.nil ?_
      cases h
      refine S.closeR ?_
      refine S.b3 ?_
      refine S.b1 ?_
      refine S.b2 ?_
      refine S.b3 ?_
      exact S.ret1 Try.func10 rfl rfl (fun w hs hk => hR w _ _ ⟨v0_Slots, v0_Objs, rfl, rfl⟩ hs hk)
end Go.Proofs
