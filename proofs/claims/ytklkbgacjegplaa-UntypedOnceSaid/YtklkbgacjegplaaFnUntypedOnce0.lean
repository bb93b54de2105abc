/- What the functions that UntypedOnce reaches come to, and that they do. On no condition. -/
import Derived.Test.YtklkbgacjegplaaFr1
import Derived.Test.YtklkbgacjegplaaProg
set_option linter.all false
namespace Go.Proofs
open Go.Sl Go.RowKit
theorem inf3 : Try.prog.info? 3 = some Try.t3 := by kernel_rfl
theorem inf38 : Try.prog.info? 38 = some Try.t38 := by kernel_rfl
theorem inf61 : Try.prog.info? 61 = some Try.t61 := by kernel_rfl
theorem inf71 : Try.prog.info? 71 = some Try.t71 := by kernel_rfl
theorem inf72 : Try.prog.info? 72 = some Try.t72 := by kernel_rfl
structure api_Cap where
  Kind : Int
  Rights : Int
  Obj : Int
  Badge : Int
  Guard : Int
  Bits : Int
  deriving DecidableEq, Inhabited
def ek_api_Cap : EK api_Cap := ⟨6, fun x => [.int .i64 x.Kind, .int .i64 x.Rights, .int .i64 x.Obj, .int .i64 x.Badge, .int .i64 x.Guard, .int .i64 x.Bits], fun _ => rfl, fun x v hv => by
  simp only [List.mem_cons, List.not_mem_nil, or_false] at hv
  rcases hv with rfl | rfl | rfl | rfl | rfl | rfl <;> rfl, by decide⟩
theorem eqI_api_Cap (x y : api_Cap) : eqI [x.Kind, x.Rights, x.Obj, x.Badge, x.Guard, x.Bits] [y.Kind, y.Rights, y.Obj, y.Badge, y.Guard, y.Bits] = decide (x = y) := by
  cases x; cases y
  rw [Bool.eq_iff_iff]
  simp [eqI]
theorem fi_api_Cap : ∀ fs, Try.prog.underlying 24 = some (.struct fs) → FI Try.prog fs.toList 0 [.i64, .i64, .i64, .i64, .i64, .i64] := by
  intro fs h
  rw [Try.underlying24] at h
  injection h with h
  injection h with h
  subst h
  exact ⟨by decide, Try.underlying3, rfl, ⟨by decide, Try.underlying3, rfl, ⟨by decide, Try.underlying3, rfl, ⟨by decide, Try.underlying3, rfl, ⟨by decide, Try.underlying3, rfl, ⟨by decide, Try.underlying3, rfl, trivial⟩⟩⟩⟩⟩⟩
theorem eq_eql_api_Cap {ρ : Env} {t2 : TypeId} {x y : api_Cap} {a b : Operand} (ha : ev ρ a = some (.agg (encI [.i64, .i64, .i64, .i64, .i64, .i64] [x.Kind, x.Rights, x.Obj, x.Badge, x.Guard, x.Bits]).toArray)) (hb : ev ρ b = some (.agg (encI [.i64, .i64, .i64, .i64, .i64, .i64] [y.Kind, y.Rights, y.Obj, y.Badge, y.Guard, y.Bits]).toArray)) : OpV Try.prog ρ (.binOp .eql 24 a b t2) (.bool (decide (x = y))) :=
  opv_eqlS Try.underlying24 Try.stoodInHeld24 Try.eqGuardType24 (fi_api_Cap _ Try.underlying24) rfl rfl ha hb (by rw [eqI_api_Cap])
theorem eq_neq_api_Cap {ρ : Env} {t2 : TypeId} {x y : api_Cap} {a b : Operand} (ha : ev ρ a = some (.agg (encI [.i64, .i64, .i64, .i64, .i64, .i64] [x.Kind, x.Rights, x.Obj, x.Badge, x.Guard, x.Bits]).toArray)) (hb : ev ρ b = some (.agg (encI [.i64, .i64, .i64, .i64, .i64, .i64] [y.Kind, y.Rights, y.Obj, y.Badge, y.Guard, y.Bits]).toArray)) : OpV Try.prog ρ (.binOp .neq 24 a b t2) (.bool (!decide (x = y))) :=
  opv_neqS Try.underlying24 Try.stoodInHeld24 Try.eqGuardType24 (fi_api_Cap _ Try.underlying24) rfl rfl ha hb (by rw [eqI_api_Cap])
structure ref10_Obj where
  Kind : Int
  Size : Int
  Used : Int
  First : Int
  Radix : Int
  Wait : Int
  Queue : List Int
  Word : Int
  State : Int
  Owing : Int
  Badge : Int
  Prio : Int
  On : Int
  Owes : Int
  Root : api_Cap
  Pages : A4
  Right : A4
  In : Int
  Page : Int
  Bound : Int
  Mask : Int
  deriving DecidableEq, Inhabited
def kr_ref10_Obj : EKR ref10_Obj := ⟨32, fun x => [.val (.int .i64 x.Kind), .val (.int .i64 x.Size), .val (.int .i64 x.Used), .val (.int .i64 x.First), .val (.int .i64 x.Radix), .val (.int .i64 x.Wait), .sl (ekI .i64) x.Queue, .val (.int .i64 x.Word), .val (.int .i64 x.State), .val (.int .i64 x.Owing), .val (.int .i64 x.Badge), .val (.int .i64 x.Prio), .val (.int .i64 x.On), .val (.int .i64 x.Owes), .val (.int .i64 x.Root.Kind), .val (.int .i64 x.Root.Rights), .val (.int .i64 x.Root.Obj), .val (.int .i64 x.Root.Badge), .val (.int .i64 x.Root.Guard), .val (.int .i64 x.Root.Bits), .val (.int .i64 x.Pages.a0), .val (.int .i64 x.Pages.a1), .val (.int .i64 x.Pages.a2), .val (.int .i64 x.Pages.a3), .val (.int .i64 x.Right.a0), .val (.int .i64 x.Right.a1), .val (.int .i64 x.Right.a2), .val (.int .i64 x.Right.a3), .val (.int .i64 x.In), .val (.int .i64 x.Page), .val (.int .i64 x.Bound), .val (.int .i64 x.Mask)], fun _ => rfl, fun x v hv => by
  simp only [List.mem_cons, List.not_mem_nil, or_false, CellP.val.injEq, reduceCtorEq, false_or] at hv
  rcases hv with rfl | rfl | rfl | rfl | rfl | rfl | rfl | rfl | rfl | rfl | rfl | rfl | rfl | rfl | rfl | rfl | rfl | rfl | rfl | rfl | rfl | rfl | rfl | rfl | rfl | rfl | rfl | rfl | rfl | rfl | rfl <;> rfl, by decide⟩
structure ref10_Slot where
  Cap : api_Cap
  Parent : Int
  Kids : List Int
  deriving DecidableEq, Inhabited
def kr_ref10_Slot : EKR ref10_Slot := ⟨8, fun x => [.val (.int .i64 x.Cap.Kind), .val (.int .i64 x.Cap.Rights), .val (.int .i64 x.Cap.Obj), .val (.int .i64 x.Cap.Badge), .val (.int .i64 x.Cap.Guard), .val (.int .i64 x.Cap.Bits), .val (.int .i64 x.Parent), .sl (ekI .i64) x.Kids], fun _ => rfl, fun x v hv => by
  simp only [List.mem_cons, List.not_mem_nil, or_false, CellP.val.injEq, reduceCtorEq, false_or] at hv
  rcases hv with rfl | rfl | rfl | rfl | rfl | rfl | rfl <;> rfl, by decide⟩
structure ref10_State where
  Slots : List ref10_Slot
  Objs : List ref10_Obj
  NS : Int
  NO : Int
  deriving DecidableEq, Inhabited
structure law13_Deed where
  Delete : Bool
  A : Int
  B : Int
  Kind : Int
  Bits : Int
  deriving DecidableEq, Inhabited
def ek_law13_Deed : EK law13_Deed := ⟨5, fun x => [.bool x.Delete, .int .i64 x.A, .int .i64 x.B, .int .i64 x.Kind, .int .i64 x.Bits], fun _ => rfl, fun x v hv => by
  simp only [List.mem_cons, List.not_mem_nil, or_false] at hv
  rcases hv with rfl | rfl | rfl | rfl | rfl <;> rfl, by decide⟩
end Go.Proofs
namespace Go.Proofs
open Go.Sl Go.RowKit
/-! 75 (padstone/view.Plain).has -/
def view_Plain_has.f (a0 : List Int) (a1 : Int) : Option (Bool) :=
  some ((decide (0 ≤ a1)) && (decide (a1 < (a0.length : Int))))
set_option maxHeartbeats 8000000 in
set_option maxRecDepth 100000 in
theorem view_Plain_has.ct (v0 : Value) (a0 : List Int) (a1 : Int) (r0 : Bool) (h : view_Plain_has.f a0 a1 = some r0) :
    Ct Try.prog 75 [v0, .int .i64 a1] (fun F => Rd (ekI .u64) v0 a0 F) [] (fun u H' => u = .bool r0 ∧ H' = []) := by
  unfold view_Plain_has.f at h
  refine Ct.intro (n := 13) Try.func75 rfl rfl rfl ?_
  intro R w0 F hF hR
  have hF0 := hF
  refine S.seq ?_
  refine S.region ?_
  refine SO.v rfl (opv_assign rfl) ?_
  refine SO.nil ?_
  refine S.seq ?_
  refine S.region ?_
  refine SO.v rfl (opv_move rfl) ?_
  refine SO.v rfl (opv_geq rfl rfl) ?_
  refine SO.v rfl (opv_move rfl) ?_
  refine SO.cut 5 12 (.bool ((decide (0 ≤ a1)) && (decide (a1 < (a0.length : Int))))) [F] (fun l2 hk2 => ?_) ?_
  · rcases bool_or (decide (0 ≤ a1)) with b1 | b1
    · refine SO.takeT rfl rfl rfl b1 ?_
      refine SO.v rfl (opv_move rfl) ?_
      refine SO.takeT rfl rfl rfl b1 ?_
      refine SO.v rfl (opv_move rfl) ?_
      refine SO.takeT rfl rfl rfl b1 ?_
      refine SO.v rfl (opv_lenR rfl Try.underlying26 hF0 rfl) ?_
      refine SO.takeT rfl rfl rfl b1 ?_
      refine SO.v rfl (opv_lss rfl rfl) ?_
      refine SO.v rfl (opv_pick_t' b1 rfl rfl) ?_
      exact hk2.fitc (m := 5) rfl (and_t b1) rfl
    · refine SO.passF rfl rfl rfl b1 rfl rfl ?_
      refine SO.passF rfl rfl rfl b1 rfl rfl ?_
      refine SO.passF rfl rfl rfl b1 rfl rfl ?_
      refine SO.passF rfl rfl rfl b1 rfl rfl ?_
      refine SO.v rfl (opv_pick_f' b1 rfl rfl) ?_
      exact hk2.fitc (m := 5) rfl (and_f b1) rfl
  refine SO.v rfl (opv_assign rfl) ?_
  refine SO.nil ?_
  cases h
  exact S.ret1 Try.func75 rfl rfl (fun w hs hk => hR w _ _ ⟨rfl, rfl⟩ hs hk)
end Go.Proofs
namespace Go.Proofs
open Go.Sl Go.RowKit
/-! 73 (padstone/view.Plain).Read -/
def view_Plain_Read.f (a0 : List Int) (a1 : Int) : Option (Int) :=
  (view_Plain_has.f a0 a1).bind fun t1 => bif !t1 then (some 0) else ((at_ a0 a1).bind fun x4 => some x4)
set_option maxHeartbeats 8000000 in
set_option maxRecDepth 100000 in
theorem view_Plain_Read.ct (v0 : Value) (a0 : List Int) (a1 : Int) (r0 : Int) (h : view_Plain_Read.f a0 a1 = some r0) :
    Ct Try.prog 73 [v0, .int .i64 a1] (fun F => Rd (ekI .u64) v0 a0 F) [] (fun u H' => u = .int .u64 r0 ∧ H' = []) := by
  unfold view_Plain_Read.f at h
  refine Ct.intro (n := 13) Try.func73 rfl rfl rfl ?_
  intro R w0 F hF hR
  have hF0 := hF
  refine S.seq ?_
  refine S.region ?_
  refine SO.v rfl (opv_assign rfl) ?_
  refine SO.nil ?_
  refine S.seq ?_
  refine S.seq ?_
  refine S.region ?_
  refine SO.v rfl (opv_move rfl) ?_
  refine SO.v rfl (opv_move rfl) ?_
  obtain ⟨t1, ht2, h⟩ := opt_bind h
  refine SO.call (pre := []) rfl Try.call75 rfl rfl rfl (view_Plain_has.ct v0 _ _ _ ht2) (Rd.head hF0) ?_
  rintro _ _ ⟨rfl, rfl⟩
  refine SO.v rfl (opv_not rfl) ?_
  refine SO.nil ?_
  rcases bool_or (!t1) with b3 | b3
  · replace h := cond_t b3 h
    refine S.condT rfl b3 ?_
    refine S.seq ?_
    refine S.region ?_
    refine SO.v rfl (opv_assign rfl) ?_
    refine SO.nil ?_
    cases h
    exact S.ret1 Try.func73 rfl rfl (fun w hs hk => hR w _ _ ⟨rfl, rfl⟩ hs hk)
  · replace h := cond_f b3 h
    refine S.condF rfl b3 ?_
    refine S.skip ?_
    refine S.seq ?_
    refine S.region ?_
    refine SO.v rfl (opv_move rfl) ?_
    refine SO.v rfl (opv_move rfl) ?_
    obtain ⟨x4, hx5, h⟩ := opt_bind h
    refine SO.v rfl (opv_idx Try.underlying26 Try.sizeOf72 hF0 rfl rfl hx5) ?_
    refine SO.loadI1 (j := 0) rfl Try.isAgg72 (Rd.head hF0) hx5 rfl rfl rfl rfl ?_
    refine SO.v rfl (opv_assign rfl) ?_
    refine SO.nil ?_
    refine S.to (ρ' := [(4, .int .u64 x4)]) ⟨rfl, trivial⟩ ?_
    cases h
    exact S.ret1 Try.func73 rfl rfl (fun w hs hk => hR w _ _ ⟨rfl, rfl⟩ hs hk)
end Go.Proofs
namespace Go.Proofs
open Go.Sl Go.RowKit
/-! 74 (padstone/view.Plain).Write -/
def view_Plain_Write.f (a0 : List Int) (a1 : Int) (a2 : Int) : Option ((List Int)) :=
  (view_Plain_has.f a0 a1).bind fun t2 => bif t2 then ((at_ a0 a1).bind fun x5 => some (a0.set a1.toNat a2)) else (some a0)
set_option maxHeartbeats 8000000 in
set_option maxRecDepth 100000 in
theorem view_Plain_Write.ct (v0 : Value) (a0 : List Int) (a1 : Int) (a2 : Int) (q0 : List Int) (h : view_Plain_Write.f a0 a1 a2 = some q0) :
    Ct Try.prog 74 [v0, .int .i64 a1, .int .u64 a2] (fun _ => True) [Own 72 (ekI .u64) v0 a0] (fun u H' => u = .tuple #[] ∧ H' = [Own 72 (ekI .u64) v0 q0]) := by
  unfold view_Plain_Write.f at h
  refine Ct.intro (n := 13) Try.func74 rfl rfl rfl ?_
  intro R w0 F hF hR
  refine S.rd fun hr1 => ?_
  refine S.seq ?_
  refine S.region ?_
  refine SO.v rfl (opv_move rfl) ?_
  refine SO.v rfl (opv_move rfl) ?_
  obtain ⟨t2, ht3, h⟩ := opt_bind h
  refine SO.call (pre := []) rfl Try.call75 rfl rfl rfl (view_Plain_has.ct v0 _ _ _ ht3) (Rd.head hr1) ?_
  rintro _ _ ⟨rfl, rfl⟩
  refine SO.nil ?_
  rcases bool_or t2 with b4 | b4
  · replace h := cond_t b4 h
    refine S.condT rfl b4 ?_
    refine S.region ?_
    refine SO.v rfl (opv_move rfl) ?_
    refine SO.v rfl (opv_move rfl) ?_
    refine SO.v rfl (opv_move rfl) ?_
    obtain ⟨x5, hx6, h⟩ := opt_bind h
    refine SO.v rfl (opv_idx Try.underlying26 Try.sizeOf72 hr1 rfl rfl hx6) ?_
    refine SO.storeI1 (j := 0) (z' := a2) Try.sizeOf72 hx6 rfl rfl rfl rfl rfl rfl ?_
    refine SO.rd fun hr7 => ?_
    refine SO.nil ?_
    refine S.to (ρ' := []) trivial ?_
    cases h
    refine S.b1 ?_
    refine S.b1 ?_
    exact S.fin0 Try.func74 rfl (fun w hs hk => hR w _ _ ⟨rfl, rfl⟩ hs hk)
  · replace h := cond_f b4 h
    refine S.condF rfl b4 ?_
    refine S.skip ?_
    cases h
    refine S.b1 ?_
    refine S.b1 ?_
    exact S.fin0 Try.func74 rfl (fun w hs hk => hR w _ _ ⟨rfl, rfl⟩ hs hk)
end Go.Proofs
namespace Go.Proofs
open Go.Sl Go.RowKit
/-! A list of one's own, as a view. -/
theorem read_ok (s : List Int) (i : Int) : ∃ r, view_Plain_Read.f s i = some r := by
  cases h : view_Plain_Read.f s i with
  | some r => exact ⟨r, rfl⟩
  | none =>
    exfalso
    revert h
    unfold view_Plain_Read.f view_Plain_has.f
    by_cases h1 : 0 ≤ i ∧ i < (s.length : Int)
    · have : s[i.toNat]? = some s[i.toNat] := List.getElem?_eq_getElem (by omega)
      simp [h1, at_, this]
    · have : (decide (0 ≤ i) && decide (i < (s.length : Int))) = false := by simpa using h1
      simp [this]
theorem write_ok (s : List Int) (i x : Int) : ∃ r, view_Plain_Write.f s i x = some r := by
  cases h : view_Plain_Write.f s i x with
  | some r => exact ⟨r, rfl⟩
  | none =>
    exfalso
    revert h
    unfold view_Plain_Write.f view_Plain_has.f
    by_cases h1 : 0 ≤ i ∧ i < (s.length : Int)
    · have : s[i.toNat]? = some s[i.toNat] := List.getElem?_eq_getElem (by omega)
      simp [h1, at_, this]
    · have : (decide (0 ≤ i) && decide (i < (s.length : Int))) = false := by simpa using h1
      simp [this]
abbrev plainI : VI := ⟨List Int, fun s i => ((view_Plain_Read.f s i).getD 0, s), fun s i x => (view_Plain_Write.f s i x).getD s⟩
theorem ofRd {P : Program} {g : FuncId} {vals : List Value} {α : Type} {E : TypeId} {K : EK α} {v : Value} {xs : List α} {u0 : Value} (h : Ct P g vals (fun F => Rd K v xs F) [] (fun u H' => u = u0 ∧ H' = [])) :
    Ct P g vals (fun _ => True) [Own E K v xs] (fun u H' => u = u0 ∧ H' = [Own E K v xs]) := by
  intro w F _ hs
  have h2 : Sat w ([] ++ [stars [Own E K v xs, F]]) := Sat.pack (l1 := []) hs
  have hr : Rd K v xs (stars [Own E K v xs, F]) := by
    obtain ⟨m, hm, ho⟩ := Sat.head hs
    exact Rd.head (Own.rd ho)
  refine (h w _ hr h2).mono ?_
  rintro e w' ⟨u, H', he, ⟨hu, rfl⟩, hs', hk⟩
  exact ⟨u, _, he, ⟨hu, rfl⟩, Sat.unpack (l1 := []) hs', hk⟩
set_option maxRecDepth 100000 in
set_option maxHeartbeats 4000000 in
noncomputable def plainV (v : Value) : VW Try.prog :=
  { plainI with
    t := 26, v := v, rep := fun s => Own 72 (ekI .u64) v s
    rF := 73, rV := v, wF := 74, wV := v
    rM := by intro w; kernel_rfl
    wM := by intro w; kernel_rfl
    rC := Try.call73, wC := Try.call74
    rCt := fun s i => by
      obtain ⟨r, hr⟩ := read_ok s i
      have := ofRd (E := 72) (view_Plain_Read.ct v s i r hr)
      show Ct _ _ _ _ _ (fun u H' => u = .int .u64 ((view_Plain_Read.f s i).getD 0) ∧ H' = [Own 72 (ekI .u64) v s])
      rw [hr]; exact this
    wCt := fun s i x => by
      obtain ⟨r, hr⟩ := write_ok s i x
      have := view_Plain_Write.ct v s i x r hr
      show Ct _ _ _ _ _ (fun u H' => u = .tuple #[] ∧ H' = [Own 72 (ekI .u64) v ((view_Plain_Write.f s i x).getD s)])
      rw [hr]; exact this }
theorem plainV_rep (v : Value) (s : List Int) : (plainV v).rep s = Own 72 (ekI .u64) v s := rfl
theorem headEq {P : Program} {n : Nat} {Z : Act → World → Prop} {w0 : World} {ops : Array Oper} {l : List Oper} {ρ : Env} {A B : HProp} {rest : List HProp} (h : A = B) (k : SO P n Z w0 ops l ρ (B :: rest)) : SO P n Z w0 ops l ρ (A :: rest) := by
  subst h; exact k
end Go.Proofs
namespace Go.Proofs
open Go.Sl Go.RowKit
/-! 21 padstone/padstonelaw10.Pick -/
def law10_Pick.f (a0 : Int) (a1 : Int) : Option (Int) :=
  bif decide (a0 < 0) then ((chk (decide (a1 ≠ 0))).bind fun _ => some ((w64 (0 - (w64 (a0 + 1)))).tmod a1)) else ((chk (decide (a1 ≠ 0))).bind fun _ => some (a0.tmod a1))
set_option maxHeartbeats 8000000 in
set_option maxRecDepth 100000 in
theorem law10_Pick.ct (a0 : Int) (a1 : Int) (r0 : Int) (h : law10_Pick.f a0 a1 = some r0) :
    Ct Try.prog 21 [.int .i64 a0, .int .i64 a1] (fun _ => True) [] (fun u H' => u = .int .i64 r0 ∧ H' = []) := by
  unfold law10_Pick.f at h
  refine Ct.intro (n := 13) Try.func21 rfl rfl rfl ?_
  intro R w0 F hF hR
  refine S.seq ?_
  refine S.region ?_
  refine SO.v rfl (opv_assign rfl) ?_
  refine SO.nil ?_
  refine S.seq ?_
  refine S.seq ?_
  refine S.region ?_
  refine SO.v rfl (opv_move rfl) ?_
  refine SO.v rfl (opv_lss rfl rfl) ?_
  refine SO.nil ?_
  rcases bool_or (decide (a0 < 0)) with b1 | b1
  · replace h := cond_t b1 h
    refine S.condT rfl b1 ?_
    refine S.region ?_
    refine SO.v rfl (opv_move rfl) ?_
    refine SO.v rfl (opv_add rfl rfl) ?_
    refine SO.v rfl (opv_neg rfl) ?_
    refine SO.v rfl (opv_assign rfl) ?_
    refine SO.nil ?_
    refine S.seq ?_
    refine S.region ?_
    refine SO.v rfl (opv_move rfl) ?_
    refine SO.v rfl (opv_move rfl) ?_
    obtain ⟨_, hc2, h⟩ := opt_bind h
    refine SO.v rfl (opv_rem rfl rfl (of_decide_eq_true (chk_some hc2))) ?_
    refine SO.v rfl (opv_assign rfl) ?_
    refine SO.nil ?_
    refine S.to (ρ' := [(4, .int .i64 ((w64 (0 - (w64 (a0 + 1)))).tmod a1))]) ⟨rfl, trivial⟩ ?_
    cases h
    exact S.ret1 Try.func21 rfl rfl (fun w hs hk => hR w _ _ ⟨rfl, rfl⟩ hs hk)
  · replace h := cond_f b1 h
    refine S.condF rfl b1 ?_
    refine S.skip ?_
    refine S.seq ?_
    refine S.region ?_
    refine SO.v rfl (opv_move rfl) ?_
    refine SO.v rfl (opv_move rfl) ?_
    obtain ⟨_, hc3, h⟩ := opt_bind h
    refine SO.v rfl (opv_rem rfl rfl (of_decide_eq_true (chk_some hc3))) ?_
    refine SO.v rfl (opv_assign rfl) ?_
    refine SO.nil ?_
    refine S.to (ρ' := [(4, .int .i64 (a0.tmod a1))]) ⟨rfl, trivial⟩ ?_
    cases h
    exact S.ret1 Try.func21 rfl rfl (fun w hs hk => hR w _ _ ⟨rfl, rfl⟩ hs hk)
end Go.Proofs
namespace Go.Proofs
open Go.Sl Go.RowKit
/-! 27 padstone/padstoneref10.Fresh -/
def ref10_Fresh.f (a0 : Int) : Option (ref10_Obj) :=
  some (⟨a0, 0, 0, 0, 0, 0, [], 0, 0, -1, 0, 0, -1, -1, (⟨0, 0, 0, 0, 0, 0⟩ : api_Cap), (⟨-1, -1, -1, -1⟩ : A4), (⟨0, 0, 0, 0⟩ : A4), -1, 0, -1, 0⟩ : ref10_Obj)
set_option maxHeartbeats 8000000 in
set_option maxRecDepth 100000 in
theorem ref10_Fresh.ct (a0 : Int) (r0 : ref10_Obj) (h : ref10_Fresh.f a0 = some r0) :
    Ct Try.prog 27 [.int .i64 a0] (fun _ => True) [] (fun u H' => ∃ w_r0_Queue, u = .agg #[.int .i64 r0.Kind, .int .i64 r0.Size, .int .i64 r0.Used, .int .i64 r0.First, .int .i64 r0.Radix, .int .i64 r0.Wait, w_r0_Queue, .int .i64 r0.Word, .int .i64 r0.State, .int .i64 r0.Owing, .int .i64 r0.Badge, .int .i64 r0.Prio, .int .i64 r0.On, .int .i64 r0.Owes, .int .i64 r0.Root.Kind, .int .i64 r0.Root.Rights, .int .i64 r0.Root.Obj, .int .i64 r0.Root.Badge, .int .i64 r0.Root.Guard, .int .i64 r0.Root.Bits, .int .i64 r0.Pages.a0, .int .i64 r0.Pages.a1, .int .i64 r0.Pages.a2, .int .i64 r0.Pages.a3, .int .i64 r0.Right.a0, .int .i64 r0.Right.a1, .int .i64 r0.Right.a2, .int .i64 r0.Right.a3, .int .i64 r0.In, .int .i64 r0.Page, .int .i64 r0.Bound, .int .i64 r0.Mask] ∧ H' = [Own 3 (ekI .i64) w_r0_Queue r0.Queue]) := by
  unfold ref10_Fresh.f at h
  refine Ct.intro (n := 6) Try.func27 rfl rfl rfl ?_
  intro R w0 F hF hR
  refine S.seq ?_
  refine S.region ?_
  refine SO.alloc rfl Try.zeroValue38 rfl (fun b1 => ?_)
  refine SO.nil ?_
  refine S.seq ?_
  refine S.region ?_
  refine SO.v rfl (opv_move rfl) ?_
  refine SO.v rfl (opv_build (v := .agg #[.int .i64 (-1), .int .i64 (-1), .int .i64 (-1), .int .i64 (-1)]) rfl (by intro w; kernel_rfl)) ?_
  refine SO.v rfl (opv_build (v := .agg #[.int .i64 a0, .int .i64 0, .int .i64 0, .int .i64 0, .int .i64 0, .int .i64 0, .slice none 0 0, .int .i64 0, .int .i64 0, .int .i64 (-1), .int .i64 0, .int .i64 0, .int .i64 (-1), .int .i64 (-1), .int .i64 0, .int .i64 0, .int .i64 0, .int .i64 0, .int .i64 0, .int .i64 0, .int .i64 (-1), .int .i64 (-1), .int .i64 (-1), .int .i64 (-1), .int .i64 0, .int .i64 0, .int .i64 0, .int .i64 0, .int .i64 (-1), .int .i64 0, .int .i64 (-1), .int .i64 0]) rfl (by intro w; kernel_rfl)) ?_
  refine SO.storeN Try.sizeOf38 rfl rfl rfl rfl rfl rfl ?_
  refine SO.nil ?_
  cases h
  refine S.newOwn 3 (ekI .i64) ?_
  refine S.b2 ?_
  refine S.b1 ?_
  refine S.b2 ?_
  exact S.retC Try.func27 rfl rfl Try.isAgg38 Try.sizeOf38 rfl rfl (fun w hs hk => hR w _ _ ⟨(.slice none 0 0), rfl, rfl⟩ hs.drop hk)
end Go.Proofs
namespace Go.Proofs
open Go.Sl Go.RowKit
/-! 26 padstone/padstoneref10.New -/
def ref10_New.l1 : Nat → (Int × (List ref10_Slot)) → Option ((List ref10_Slot))
  | 0, _ => none
  | k + 1, (x2_1, y1_0_1) => bif decide (x2_1 < 96) then ((app y1_0_1 ([(⟨(⟨0, 0, 0, 0, 0, 0⟩ : api_Cap), -1, []⟩ : ref10_Slot)])).bind fun zs5 => ref10_New.l1  k (w64 (x2_1 + 1), zs5)) else (some y1_0_1)
def ref10_New.l2 : Nat → (Int × (List ref10_Obj)) → Option ((List ref10_Obj))
  | 0, _ => none
  | k + 1, (x3_2, y1_1_2) => bif decide (x3_2 < 32) then ((ref10_Fresh.f 0).bind fun t18 => (app y1_1_2 ([t18])).bind fun zs25 => ref10_New.l2  k (w64 (x3_2 + 1), zs25)) else (some y1_1_2)
def ref10_New.f (k : Nat) : Option (ref10_State) :=
  (ref10_New.l1 k (0, [])).bind fun y1_0_e1 => (ref10_New.l2 k (0, [])).bind fun y1_1_e2 => some (⟨y1_0_e1, y1_1_e2, 0, 0⟩ : ref10_State)
set_option maxHeartbeats 8000000 in
set_option maxRecDepth 100000 in
theorem ref10_New.ct (k : Nat) (r0 : ref10_State) (h : ref10_New.f k  = some r0) :
    Ct Try.prog 26 [] (fun _ => True) [] (fun u H' => ∃ b_r0 w_r0_Slots w_r0_Objs, u = bp b_r0 0 ∧ H' = [Box b_r0 [w_r0_Slots, w_r0_Objs, .int .i64 r0.NS, .int .i64 r0.NO], OwnR 71 kr_ref10_Slot w_r0_Slots r0.Slots, OwnR 38 kr_ref10_Obj w_r0_Objs r0.Objs]) := by
  unfold ref10_New.f at h
  refine Ct.intro (n := 35) Try.func26 rfl rfl rfl ?_
  intro R w0 F hF hR
  refine S.seq ?_
  refine S.region ?_
  refine SO.v rfl (opv_assign rfl) ?_
  refine SO.nil ?_
  refine S.seq ?_
  refine S.region ?_
  refine SO.v rfl (opv_build (v := .agg #[.slice none 0 0, .slice none 0 0, .int .i64 0, .int .i64 0]) rfl (by intro w; kernel_rfl)) ?_
  refine SO.box rfl rfl rfl (fun b1 => ?_)
  refine SO.v rfl (opv_assign rfl) ?_
  refine SO.nil ?_
  refine S.seq ?_
  refine S.seq ?_
  refine S.region ?_
  refine SO.v rfl (opv_assign rfl) ?_
  refine SO.nil ?_
  obtain ⟨y1_0_e1, hl1, h⟩ := opt_bind h
  refine S.newOwnR 71 kr_ref10_Slot ?_
  refine S.b2 ?_
  refine S.b2 ?_
  refine S.b2 ?_
  refine S.to (ρ' := [(2, .int .i64 0), (1, bp b1 0), (0, .pointer none)]) ⟨rfl, rfl, rfl, trivial⟩ ?_
  refine S.forloop (X := (Int × (List ref10_Slot)) × Value) (O := (List ref10_Slot)) (fun m x => ref10_New.l1  m x.1) (fun x => match x with | ((x2_1, y1_0_1), vy1_0_1) => [(2, .int .i64 x2_1), (1, bp b1 0), (0, .pointer none)]) (fun x => match x with | ((x2_1, y1_0_1), vy1_0_1) => [OwnR 71 kr_ref10_Slot vy1_0_1 y1_0_1, Box b1 [vy1_0_1, .slice none 0 0, .int .i64 0, .int .i64 0], F]) (fun Sk => (fun y1_0_e1 => ∀ vy1_0_e1 : Value, Sk [(0, .pointer none), (1, bp b1 0)] [OwnR 71 kr_ref10_Slot vy1_0_e1 y1_0_e1, Box b1 [vy1_0_e1, .slice none 0 0, .int .i64 0, .int .i64 0], F])) (fun _ => rfl) ?_ (m := k) (x := ((0, []), .slice none 0 0)) hl1 ?_
  · clear h hl1
    intro k x o_1 h hK1 ih1
    obtain ⟨⟨x2_1, y1_0_1⟩, vy1_0_1⟩ := x
    replace h : ref10_New.l1  (k + 1) (x2_1, y1_0_1) = some o_1 := h
    first | rw [ref10_New.l1] at h | unfold ref10_New.l1 at h
    refine S.seq ?_
    refine S.seq ?_
    refine S.region ?_
    refine SO.v rfl (opv_move rfl) ?_
    refine SO.v rfl (opv_lss rfl rfl) ?_
    refine SO.nil ?_
    rcases bool_or (decide (x2_1 < 96)) with b2 | b2
    · replace h := cond_t b2 h
      refine S.condT rfl b2 ?_
      refine S.skip ?_
      refine S.seq ?_
      refine S.block ?_
      refine S.region ?_
      refine SO.v rfl (opv_move rfl) ?_
      refine SO.v rfl (opv_move rfl) ?_
      refine SO.v rfl (opv_nilCheck rfl) ?_
      refine SO.v rfl (opv_fieldAddr Try.underlying42 rfl Try.sizeOf39 rfl rfl) ?_
      refine SO.b1 ?_
      refine SO.load1 rfl Try.isAgg39 rfl rfl ?_
      refine SO.v rfl (opv_build (v := .agg #[.int .i64 0, .int .i64 0, .int .i64 0, .int .i64 0, .int .i64 0, .int .i64 0, .int .i64 (-1), .slice none 0 0]) rfl (by intro w; kernel_rfl)) ?_
      refine SO.emp ?_
      refine SO.buildSliceR1 (K := kr_ref10_Slot) (y := (⟨(⟨0, 0, 0, 0, 0, 0⟩ : api_Cap), -1, []⟩ : ref10_Slot)) (cs := [.int .i64 0, .int .i64 0, .int .i64 0, .int .i64 0, .int .i64 0, .int .i64 0, .int .i64 (-1), .slice none 0 0]) rfl Try.underlying39 Try.sizeOf71 Try.zeroValue71 rfl rfl (by kernel_rfl) ⟨rfl, rfl, rfl, rfl, rfl, rfl, rfl, Rd.nil0, trivial⟩ (fun v3 => ?_)
      obtain ⟨zs5, hz6, h⟩ := opt_bind h
      refine SO.b2 ?_
      refine SO.b1 ?_
      refine SO.b1 ?_
      refine SO.appendR rfl Try.underlying39 inf71 rfl rfl rfl (by decide) rfl rfl rfl hz6 (fun v7 => ?_)
      refine SO.v rfl (opv_nilCheck rfl) ?_
      refine SO.v rfl (opv_fieldAddr Try.underlying42 rfl Try.sizeOf39 rfl rfl) ?_
      refine SO.oneR fun h18 => ?_
      refine SO.b1 ?_
      refine SO.store1 Try.sizeOf39 rfl rfl h18 rfl ?_
      refine SO.nil ?_
      refine S.to (ρ' := [(2, .int .i64 x2_1), (1, bp b1 0), (0, .pointer none)]) ⟨rfl, rfl, rfl, trivial⟩ ?_
      refine S.inBlock ?_
      refine S.region ?_
      refine SO.v rfl (opv_move rfl) ?_
      refine SO.v rfl (opv_add rfl rfl) ?_
      refine SO.v rfl (opv_assign rfl) ?_
      refine SO.nil ?_
      refine S.b2 ?_
      refine S.b1 ?_
      refine S.b2 ?_
      refine S.to ?_ (ih1 ((w64 (x2_1 + 1), zs5), v7) h)
      exact ⟨rfl, rfl, rfl, trivial⟩
    · replace h := cond_f b2 h
      refine S.condF rfl b2 ?_
      refine S.exit rfl ?_
      cases h
      refine S.b2 ?_
      refine S.b2 ?_
      refine S.b2 ?_
      refine S.to ?_ (hK1 vy1_0_1)
      exact ⟨rfl, rfl, trivial⟩
  rintro vy1_0_e1
  refine S.seq ?_
  refine S.seq ?_
  refine S.region ?_
  refine SO.v rfl (opv_assign rfl) ?_
  refine SO.nil ?_
  obtain ⟨y1_1_e2, hl2, h⟩ := opt_bind h
  refine S.newOwnR 38 kr_ref10_Obj ?_
  refine S.b3 ?_
  refine S.b3 ?_
  refine S.b3 ?_
  refine S.b3 ?_
  refine S.to (ρ' := [(3, .int .i64 0), (0, .pointer none), (1, bp b1 0)]) ⟨rfl, rfl, rfl, trivial⟩ ?_
  refine S.forloop (X := (Int × (List ref10_Obj)) × Value) (O := (List ref10_Obj)) (fun m x => ref10_New.l2  m x.1) (fun x => match x with | ((x3_2, y1_1_2), vy1_1_2) => [(3, .int .i64 x3_2), (0, .pointer none), (1, bp b1 0)]) (fun x => match x with | ((x3_2, y1_1_2), vy1_1_2) => [OwnR 38 kr_ref10_Obj vy1_1_2 y1_1_2, OwnR 71 kr_ref10_Slot vy1_0_e1 y1_0_e1, Box b1 [vy1_0_e1, vy1_1_2, .int .i64 0, .int .i64 0], F]) (fun Sk => (fun y1_1_e2 => ∀ vy1_1_e2 : Value, Sk [(0, .pointer none), (1, bp b1 0)] [OwnR 38 kr_ref10_Obj vy1_1_e2 y1_1_e2, OwnR 71 kr_ref10_Slot vy1_0_e1 y1_0_e1, Box b1 [vy1_0_e1, vy1_1_e2, .int .i64 0, .int .i64 0], F])) (fun _ => rfl) ?_ (m := k) (x := ((0, []), .slice none 0 0)) hl2 ?_
  · clear h hl2
    intro k x o_2 h hK2 ih2
    obtain ⟨⟨x3_2, y1_1_2⟩, vy1_1_2⟩ := x
    replace h : ref10_New.l2  (k + 1) (x3_2, y1_1_2) = some o_2 := h
    first | rw [ref10_New.l2] at h | unfold ref10_New.l2 at h
    refine S.seq ?_
    refine S.seq ?_
    refine S.region ?_
    refine SO.v rfl (opv_move rfl) ?_
    refine SO.v rfl (opv_lss rfl rfl) ?_
    refine SO.nil ?_
    rcases bool_or (decide (x3_2 < 32)) with b9 | b9
    · replace h := cond_t b9 h
      refine S.condT rfl b9 ?_
      refine S.skip ?_
      refine S.seq ?_
      refine S.block ?_
      refine S.openR fun raws10 A11 hrel12 hR13 => ?_
      refine S.b1 ?_
      refine S.openR fun raws14 A15 hrel16 hR17 => ?_
      obtain ⟨t18, ht19, h⟩ := opt_bind h
      obtain ⟨zs25, hz26, h⟩ := opt_bind h
      refine S.draw' (Z := fun Q => ∀ (_ : Unit) (_ : Unit) (v27 : Value) (_ : Unit) (_ : Unit), Q [(3, .int .i64 x3_2), (0, .pointer none), (1, bp b1 0), (31, v27)] [OwnR 38 kr_ref10_Obj v27 zs25, Box b1 [vy1_0_e1, v27, .int .i64 0, .int .i64 0], OwnO 71 kr_ref10_Slot vy1_0_e1 raws14 A15 y1_0_e1, F]) (T := [tS 1 (bp b1 0), tE [(3, .int .i64 x3_2), (0, .pointer none)], tR (OwnO 71 kr_ref10_Slot vy1_0_e1 raws14 A15 y1_0_e1), tR (OwnO 38 kr_ref10_Obj vy1_1_2 raws10 A11 y1_1_2), tR (Box b1 [vy1_0_e1, vy1_1_2, .int .i64 0, .int .i64 0]), tR (F), tS 24 (bp b1 0), tS 25 (bp b1 0), tS 26 (bp b1 0), tS 27 (bp b1 1), tS 28 (vy1_1_2), ⟨Value, [29], (fun u20_Queue => [(29, .agg #[.int .i64 t18.Kind, .int .i64 t18.Size, .int .i64 t18.Used, .int .i64 t18.First, .int .i64 t18.Radix, .int .i64 t18.Wait, u20_Queue, .int .i64 t18.Word, .int .i64 t18.State, .int .i64 t18.Owing, .int .i64 t18.Badge, .int .i64 t18.Prio, .int .i64 t18.On, .int .i64 t18.Owes, .int .i64 t18.Root.Kind, .int .i64 t18.Root.Rights, .int .i64 t18.Root.Obj, .int .i64 t18.Root.Badge, .int .i64 t18.Root.Guard, .int .i64 t18.Root.Bits, .int .i64 t18.Pages.a0, .int .i64 t18.Pages.a1, .int .i64 t18.Pages.a2, .int .i64 t18.Pages.a3, .int .i64 t18.Right.a0, .int .i64 t18.Right.a1, .int .i64 t18.Right.a2, .int .i64 t18.Right.a3, .int .i64 t18.In, .int .i64 t18.Page, .int .i64 t18.Bound, .int .i64 t18.Mask])]), (fun u20_Queue => [Own 3 (ekI .i64) u20_Queue t18.Queue]), fun _ => rfl⟩, ⟨Value, [30], (fun v23 => [(30, v23)]), (fun v23 => [OwnR 38 kr_ref10_Obj v23 ([t18])]), fun _ => rfl⟩, ⟨Value, [31], (fun v27 => [(31, v27)]), (fun v27 => [OwnR 38 kr_ref10_Obj v27 zs25]), fun _ => rfl⟩, tS 32 (bp b1 0), tS 33 (bp b1 1), ⟨Value, [31], (fun v27 => [(31, v27)]), (fun v27 => [OwnR 38 kr_ref10_Obj v27 zs25, Box b1 [vy1_0_e1, v27, .int .i64 0, .int .i64 0]]), fun _ => rfl⟩]) (D := [⟨[0], [], [6]⟩, ⟨[0], [], [7]⟩, ⟨[7], [], [8]⟩, ⟨[8], [], [9]⟩, ⟨[9, 4], [], [10]⟩, ⟨[], [], [11]⟩, ⟨[], [11], [12]⟩, ⟨[10], [12, 3], [13]⟩, ⟨[6], [], [14]⟩, ⟨[14], [], [15]⟩, ⟨[15], [4, 13], [16]⟩]) (ini := [0, 1, 2, 3, 4, 5]) (fin := [1, 0, 16, 2, 5]) (bf := [[], [], [1], [1, 2], [1, 2, 3], [], [5], [1, 2, 3, 4, 5, 6], [0, 1, 2, 3, 4, 5, 6, 7], [0, 1, 2, 3, 4, 5, 6, 7, 8], [0, 1, 2, 3, 4, 5, 6, 7, 8, 9]]) (by kernel_rfl) (by kernel_rfl) (fun x w h1 h2 => (.cons () (.cons () (.cons () (.cons () (.cons () (.cons () (.nil ⟨EnvAll.of h1 ⟨rfl, rfl, rfl, trivial⟩, h2⟩)))))))) (fun Q => by kernel_rfl) ⟨?_, ?_, ?_, ?_, ?_, ?_, ?_, ?_, ?_, ?_, ?_, trivial⟩ ?_
      · rintro Fr _
        refine SO.v rfl (opv_move rfl) ?_
        exact SO.nilZ fun a w h1 h2 h3 h4 h5 => PZ.of h1 h3 h5 (.cons () (.cons () (.nil ⟨EnvAll.of h2 ⟨rfl, rfl, trivial⟩, h4⟩)))
      · rintro Fr _
        refine SO.v rfl (opv_move rfl) ?_
        exact SO.nilZ fun a w h1 h2 h3 h4 h5 => PZ.of h1 h3 h5 (.cons () (.cons () (.nil ⟨EnvAll.of h2 ⟨rfl, rfl, trivial⟩, h4⟩)))
      · rintro Fr _
        refine SO.v rfl (opv_nilCheck rfl) ?_
        exact SO.nilZ fun a w h1 h2 h3 h4 h5 => PZ.of h1 h3 h5 (.cons () (.cons () (.nil ⟨EnvAll.of h2 ⟨rfl, rfl, trivial⟩, h4⟩)))
      · rintro Fr _
        refine SO.v rfl (opv_fieldAddr Try.underlying42 rfl Try.sizeOf40 rfl rfl) ?_
        exact SO.nilZ fun a w h1 h2 h3 h4 h5 => PZ.of h1 h3 h5 (.cons () (.cons () (.nil ⟨EnvAll.of h2 ⟨rfl, rfl, trivial⟩, h4⟩)))
      · rintro Fr _ _
        refine SO.load1 rfl Try.isAgg40 rfl rfl ?_
        exact SO.nilZ fun a w h1 h2 h3 h4 h5 => PZ.of h1 h3 h5 (.cons () (.cons () (.cons () (.nil ⟨EnvAll.of h2 ⟨rfl, rfl, trivial⟩, h4⟩))))
      · rintro Fr 
        refine SO.call (pre := []) rfl Try.call27 rfl rfl rfl (ref10_Fresh.ct _ _ ht19) trivial ?_
        rintro _ _ ⟨u20_Queue, rfl, rfl⟩
        refine SO.rd fun hr21 => ?_
        exact SO.nilZ fun a w h1 h2 h3 h4 h5 => PZ.of h1 h3 h5 (.cons u20_Queue (.nil ⟨EnvAll.of h2 ⟨rfl, trivial⟩, h4⟩))
      · rintro Fr u20_Queue
        refine SO.rd fun hr22 => ?_
        refine SO.buildSliceR1 (K := kr_ref10_Obj) (y := t18) (cs := [.int .i64 t18.Kind, .int .i64 t18.Size, .int .i64 t18.Used, .int .i64 t18.First, .int .i64 t18.Radix, .int .i64 t18.Wait, u20_Queue, .int .i64 t18.Word, .int .i64 t18.State, .int .i64 t18.Owing, .int .i64 t18.Badge, .int .i64 t18.Prio, .int .i64 t18.On, .int .i64 t18.Owes, .int .i64 t18.Root.Kind, .int .i64 t18.Root.Rights, .int .i64 t18.Root.Obj, .int .i64 t18.Root.Badge, .int .i64 t18.Root.Guard, .int .i64 t18.Root.Bits, .int .i64 t18.Pages.a0, .int .i64 t18.Pages.a1, .int .i64 t18.Pages.a2, .int .i64 t18.Pages.a3, .int .i64 t18.Right.a0, .int .i64 t18.Right.a1, .int .i64 t18.Right.a2, .int .i64 t18.Right.a3, .int .i64 t18.In, .int .i64 t18.Page, .int .i64 t18.Bound, .int .i64 t18.Mask]) rfl Try.underlying40 Try.sizeOf38 Try.zeroValue38 rfl rfl (by kernel_rfl) ⟨rfl, rfl, rfl, rfl, rfl, rfl, hr22, rfl, rfl, rfl, rfl, rfl, rfl, rfl, rfl, rfl, rfl, rfl, rfl, rfl, rfl, rfl, rfl, rfl, rfl, rfl, rfl, rfl, rfl, rfl, rfl, rfl, trivial⟩ (fun v23 => ?_)
        exact SO.nilZ fun a w h1 h2 h3 h4 h5 => PZ.of h1 h3 h5 (.cons v23 (.nil ⟨EnvAll.of h2 ⟨rfl, trivial⟩, h4⟩))
      · rintro Fr _ v23 _
        refine SO.b1 ?_
        refine SO.closeR ?_
        refine SO.b1 ?_
        refine SO.b1 ?_
        refine SO.appendR rfl Try.underlying40 inf38 rfl rfl rfl (by decide) rfl rfl rfl hz26 (fun v27 => ?_)
        exact SO.nilZ fun a w h1 h2 h3 h4 h5 => PZ.of h1 h3 h5 (.cons () (.cons v27 (.nil ⟨EnvAll.of h2 ⟨rfl, rfl, trivial⟩, h4⟩)))
      · rintro Fr _
        refine SO.v rfl (opv_nilCheck rfl) ?_
        exact SO.nilZ fun a w h1 h2 h3 h4 h5 => PZ.of h1 h3 h5 (.cons () (.cons () (.nil ⟨EnvAll.of h2 ⟨rfl, rfl, trivial⟩, h4⟩)))
      · rintro Fr _
        refine SO.v rfl (opv_fieldAddr Try.underlying42 rfl Try.sizeOf40 rfl rfl) ?_
        exact SO.nilZ fun a w h1 h2 h3 h4 h5 => PZ.of h1 h3 h5 (.cons () (.cons () (.nil ⟨EnvAll.of h2 ⟨rfl, rfl, trivial⟩, h4⟩)))
      · rintro Fr _ _ v27
        refine SO.b1 ?_
        refine SO.oneR fun h128 => ?_
        refine SO.b1 ?_
        refine SO.store1 Try.sizeOf40 rfl rfl h128 rfl ?_
        refine SO.b1 ?_
        exact SO.nilZ fun a w h1 h2 h3 h4 h5 => PZ.of h1 h3 h5 (.cons () (.cons v27 (.nil ⟨EnvAll.of h2 ⟨rfl, rfl, trivial⟩, h4⟩)))
      rintro _ _ v27 _ _
      refine S.to (ρ' := [(3, .int .i64 x3_2), (0, .pointer none), (1, bp b1 0)]) ⟨rfl, rfl, rfl, trivial⟩ ?_
      refine S.inBlock ?_
      refine S.region ?_
      refine SO.v rfl (opv_move rfl) ?_
      refine SO.v rfl (opv_add rfl rfl) ?_
      refine SO.v rfl (opv_assign rfl) ?_
      refine SO.nil ?_
      refine S.b2 ?_
      refine S.closeR ?_
      refine S.b3 ?_
      refine S.b3 ?_
      refine S.b2 ?_
      refine S.b3 ?_
      refine S.to ?_ (ih2 ((w64 (x3_2 + 1), zs25), v27) h)
      exact ⟨rfl, rfl, rfl, trivial⟩
    · replace h := cond_f b9 h
      refine S.condF rfl b9 ?_
      refine S.exit rfl ?_
      cases h
      refine S.b3 ?_
      refine S.b3 ?_
      refine S.b3 ?_
      refine S.b3 ?_
      refine S.to ?_ (hK2 vy1_1_2)
      exact ⟨rfl, rfl, trivial⟩
  rintro vy1_1_e2
  refine S.seq ?_
  refine S.region ?_
  refine SO.v rfl (opv_move rfl) ?_
  refine SO.v rfl (opv_assign rfl) ?_
  refine SO.nil ?_
  cases h
  refine S.b3 ?_
  refine S.b1 ?_
  refine S.b2 ?_
  refine S.b3 ?_
  exact S.ret1 Try.func26 rfl rfl (fun w hs hk => hR w _ _ ⟨b1, vy1_0_e1, vy1_1_e2, rfl, rfl⟩ hs hk)
end Go.Proofs
namespace Go.Proofs
open Go.Sl Go.RowKit
/-! 10 padstone/padstoneref10.Boot -/
def ref10_Boot.l1 (a0 : Int) : Nat → (Int × (List ref10_Obj) × (List ref10_Slot)) → Option (((List ref10_Slot) × (List ref10_Obj)))
  | 0, _ => none
  | k + 1, (x6_1, qu4_Objs_1, qu4_Slots_1) => bif decide (x6_1 < a0) then ((ref10_Fresh.f 5).bind fun t9 => (at_ qu4_Objs_1 x6_1).bind fun x18 => (at_ qu4_Slots_1 (w64 (14 + x6_1))).bind fun x31 => ref10_Boot.l1 a0 k (w64 (x6_1 + 1), qu4_Objs_1.set x6_1.toNat ({ t9 with State := 1, Root := (⟨2, 7, a0, 0, 0, 8⟩ : api_Cap) } : ref10_Obj), qu4_Slots_1.set (w64 (14 + x6_1)).toNat ({ x31 with Cap := (⟨5, 7, x6_1, 0, 0, 0⟩ : api_Cap) } : ref10_Slot))) else (some (qu4_Slots_1, qu4_Objs_1))
def ref10_Boot.l2 (a0 : Int) : Nat → (Int × (List ref10_Obj) × (List ref10_Slot)) → Option (((List ref10_Slot) × (List ref10_Obj)))
  | 0, _ => none
  | k + 1, (x8_2, qu4_Objs_2, qu4_Slots_2) => bif decide (x8_2 < 8) then ((at_ ([2, 2, 1, 3, 4, 8, 7, 6]) x8_2).bind fun x52 => (ref10_Fresh.f x52).bind fun t54 => (at_ qu4_Objs_2 (w64 (a0 + x8_2))).bind fun x58 => bif decide (2 ≤ x8_2) then ((at_ ([2, 2, 1, 3, 4, 8, 7, 6]) x8_2).bind fun x73 => (at_ qu4_Slots_2 (w64 (6 + x8_2))).bind fun x75 => ref10_Boot.l2 a0 k (w64 (x8_2 + 1), qu4_Objs_2.set (w64 (a0 + x8_2)).toNat t54, qu4_Slots_2.set (w64 (6 + x8_2)).toNat ({ x75 with Cap := (⟨x73, 7, w64 (a0 + x8_2), 0, 0, 0⟩ : api_Cap) } : ref10_Slot))) else (ref10_Boot.l2 a0 k (w64 (x8_2 + 1), qu4_Objs_2.set (w64 (a0 + x8_2)).toNat t54, qu4_Slots_2))) else (some (qu4_Slots_2, qu4_Objs_2))
def ref10_Boot.f (k : Nat) (a0 : Int) : Option (ref10_State) :=
  (ref10_New.f k ).bind fun t1 => (ref10_Boot.l1 a0 k (0, t1.Objs, t1.Slots)).bind fun (qu4_Slots_e1, qu4_Objs_e1) => (ref10_Boot.l2 a0 k (0, qu4_Objs_e1, qu4_Slots_e1)).bind fun (qu4_Slots_e2, qu4_Objs_e2) => (at_ qu4_Objs_e2 a0).bind fun x83 => (at_ (qu4_Objs_e2.set a0.toNat ({ x83 with Radix := 3 } : ref10_Obj)) (w64 (a0 + 1))).bind fun x95 => (at_ ((qu4_Objs_e2.set a0.toNat ({ x83 with Radix := 3 } : ref10_Obj)).set (w64 (a0 + 1)).toNat ({ x95 with First := 8 } : ref10_Obj)) (w64 (a0 + 1))).bind fun x103 => (at_ (((qu4_Objs_e2.set a0.toNat ({ x83 with Radix := 3 } : ref10_Obj)).set (w64 (a0 + 1)).toNat ({ x95 with First := 8 } : ref10_Obj)).set (w64 (a0 + 1)).toNat ({ x103 with Radix := 5 } : ref10_Obj)) (w64 (a0 + 2))).bind fun x111 => (at_ qu4_Slots_e2 0).bind fun x119 => (at_ (qu4_Slots_e2.set (0 : Int).toNat ({ x119 with Cap := (⟨2, 7, w64 (a0 + 1), 0, 0, 0⟩ : api_Cap) } : ref10_Slot)) 1).bind fun x131 => some (⟨(qu4_Slots_e2.set (0 : Int).toNat ({ x119 with Cap := (⟨2, 7, w64 (a0 + 1), 0, 0, 0⟩ : api_Cap) } : ref10_Slot)).set (1 : Int).toNat ({ x131 with Cap := (⟨2, 7, a0, 0, 0, 8⟩ : api_Cap) } : ref10_Slot), (((qu4_Objs_e2.set a0.toNat ({ x83 with Radix := 3 } : ref10_Obj)).set (w64 (a0 + 1)).toNat ({ x95 with First := 8 } : ref10_Obj)).set (w64 (a0 + 1)).toNat ({ x103 with Radix := 5 } : ref10_Obj)).set (w64 (a0 + 2)).toNat ({ x111 with Size := 200 } : ref10_Obj), 40, w64 (a0 + 8)⟩ : ref10_State)
set_option maxHeartbeats 8000000 in
set_option maxRecDepth 100000 in
theorem ref10_Boot.ct (k : Nat) (a0 : Int) (r0 : ref10_State) (h : ref10_Boot.f k a0 = some r0) :
    Ct Try.prog 10 [.int .i64 a0] (fun _ => True) [] (fun u H' => ∃ b_r0 w_r0_Slots w_r0_Objs, u = bp b_r0 0 ∧ H' = [Box b_r0 [w_r0_Slots, w_r0_Objs, .int .i64 r0.NS, .int .i64 r0.NO], OwnR 71 kr_ref10_Slot w_r0_Slots r0.Slots, OwnR 38 kr_ref10_Obj w_r0_Objs r0.Objs]) := by
  unfold ref10_Boot.f at h
  refine Ct.intro (n := 130) Try.func10 rfl rfl rfl ?_
  intro R w0 F hF hR
  refine S.seq ?_
  refine S.region ?_
  refine SO.v rfl (opv_assign rfl) ?_
  refine SO.nil ?_
  refine S.seq ?_
  refine S.region ?_
  obtain ⟨t1, ht2, h⟩ := opt_bind h
  refine SO.call (pre := []) rfl Try.call26 rfl rfl rfl (ref10_New.ct _ _ ht2) trivial ?_
  rintro _ _ ⟨b3, u4_Slots, u4_Objs, rfl, rfl⟩
  refine SO.v rfl (opv_assign rfl) ?_
  refine SO.nil ?_
  refine S.seq ?_
  refine S.region ?_
  refine SO.v rfl (opv_move rfl) ?_
  refine SO.v rfl (opv_build (v := .agg #[.int .i64 2, .int .i64 7, .int .i64 a0, .int .i64 0, .int .i64 0, .int .i64 8]) rfl (by intro w; kernel_rfl)) ?_
  refine SO.alloc rfl Try.zeroValue24 rfl (fun b5 => ?_)
  refine SO.storeN Try.sizeOf24 rfl rfl rfl rfl rfl rfl ?_
  refine SO.nil ?_
  refine S.seq ?_
  refine S.region ?_
  refine SO.buildSlice (K := ekI .i64) (xs := [2, 2, 1, 3, 4, 8, 7, 6]) (cs := [.int .i64 2, .int .i64 2, .int .i64 1, .int .i64 3, .int .i64 4, .int .i64 8, .int .i64 7, .int .i64 6]) rfl Try.underlying35 Try.sizeOf3 Try.zeroValue3 rfl rfl rfl (by kernel_rfl) rfl rfl rfl (fun v6 hr7 => ?_)
  refine SO.v rfl (opv_assign rfl) ?_
  refine SO.nil ?_
  refine S.seq ?_
  refine S.seq ?_
  refine S.region ?_
  refine SO.v rfl (opv_assign rfl) ?_
  refine SO.nil ?_
  obtain ⟨⟨qu4_Slots_e1, qu4_Objs_e1⟩, hl1, h⟩ := opt_bind h
  refine S.b5 ?_
  refine S.b5 ?_
  refine S.b5 ?_
  refine S.b5 ?_
  refine S.b5 ?_
  refine S.b5 ?_
  refine S.to (ρ' := [(6, .int .i64 0), (5, v6), (4, bp b5 0), (3, bp b3 0), (2, .pointer none), (0, .int .i64 a0)]) ⟨rfl, rfl, rfl, rfl, rfl, rfl, trivial⟩ ?_
  refine S.forloop (X := (Int × (List ref10_Obj) × (List ref10_Slot)) × Unit) (O := ((List ref10_Slot) × (List ref10_Obj))) (fun m x => ref10_Boot.l1 a0 m x.1) (fun x => match x with | ((x6_1, qu4_Objs_1, qu4_Slots_1), _) => [(6, .int .i64 x6_1), (5, v6), (4, bp b5 0), (3, bp b3 0), (2, .pointer none), (0, .int .i64 a0)]) (fun x => match x with | ((x6_1, qu4_Objs_1, qu4_Slots_1), _) => [Own 3 (ekI .i64) v6 ([2, 2, 1, 3, 4, 8, 7, 6]), Box b5 [.int .i64 2, .int .i64 7, .int .i64 a0, .int .i64 0, .int .i64 0, .int .i64 8], Box b3 [u4_Slots, u4_Objs, .int .i64 t1.NS, .int .i64 t1.NO], OwnR 71 kr_ref10_Slot u4_Slots qu4_Slots_1, OwnR 38 kr_ref10_Obj u4_Objs qu4_Objs_1, F]) (fun Sk => (fun x => match x with | (qu4_Slots_e1, qu4_Objs_e1) => ∀ _ : Unit, Sk [(0, .int .i64 a0), (2, .pointer none), (3, bp b3 0), (4, bp b5 0), (5, v6)] [Own 3 (ekI .i64) v6 ([2, 2, 1, 3, 4, 8, 7, 6]), Box b5 [.int .i64 2, .int .i64 7, .int .i64 a0, .int .i64 0, .int .i64 0, .int .i64 8], Box b3 [u4_Slots, u4_Objs, .int .i64 t1.NS, .int .i64 t1.NO], OwnR 71 kr_ref10_Slot u4_Slots qu4_Slots_e1, OwnR 38 kr_ref10_Obj u4_Objs qu4_Objs_e1, F])) (fun _ => rfl) ?_ (m := k) (x := ((0, t1.Objs, t1.Slots), ())) hl1 ?_
  · clear h hl1
    intro k x o_1 h hK1 ih1
    obtain ⟨⟨x6_1, qu4_Objs_1, qu4_Slots_1⟩, _⟩ := x
    replace h : ref10_Boot.l1 a0 (k + 1) (x6_1, qu4_Objs_1, qu4_Slots_1) = some o_1 := h
    first | rw [ref10_Boot.l1] at h | unfold ref10_Boot.l1 at h
    refine S.seq ?_
    refine S.seq ?_
    refine S.region ?_
    refine SO.v rfl (opv_move rfl) ?_
    refine SO.v rfl (opv_move rfl) ?_
    refine SO.v rfl (opv_lss rfl rfl) ?_
    refine SO.nil ?_
    rcases bool_or (decide (x6_1 < a0)) with b8 | b8
    · replace h := cond_t b8 h
      refine S.condT rfl b8 ?_
      refine S.skip ?_
      refine S.seq ?_
      refine S.block ?_
      refine S.seq ?_
      refine S.region ?_
      obtain ⟨t9, ht10, h⟩ := opt_bind h
      refine SO.call (pre := []) rfl Try.call27 rfl rfl rfl (ref10_Fresh.ct _ _ ht10) trivial ?_
      rintro _ _ ⟨u11_Queue, rfl, rfl⟩
      refine SO.rd fun hr12 => ?_
      refine SO.alloc rfl Try.zeroValue38 rfl (fun b13 => ?_)
      refine SO.storeN Try.sizeOf38 rfl rfl (all1 rfl (all1 rfl (all1 rfl (all1 rfl (all1 rfl (all1 rfl (all1 (Rd.one hr12) (all1 rfl (all1 rfl (all1 rfl (all1 rfl (all1 rfl (all1 rfl (all1 rfl (all1 rfl (all1 rfl (all1 rfl (all1 rfl (all1 rfl (all1 rfl (all1 rfl (all1 rfl (all1 rfl (all1 rfl (all1 rfl (all1 rfl (all1 rfl (all1 rfl (all1 rfl (all1 rfl (all1 rfl (all1 rfl rfl)))))))))))))))))))))))))))))))) rfl rfl rfl ?_
      refine SO.nil ?_
      refine S.seq ?_
      refine S.region ?_
      refine SO.v rfl (opv_fieldAddr Try.underlying38 rfl Try.sizeOf3 rfl rfl) ?_
      refine SO.store1 Try.sizeOf3 rfl rfl rfl rfl ?_
      refine SO.nil ?_
      refine S.seq ?_
      refine S.region ?_
      refine SO.b3 ?_
      refine SO.loadN rfl Try.isAgg24 Try.sizeOf24 rfl rfl rfl ?_
      refine SO.v rfl (opv_fieldAddr Try.underlying38 rfl Try.sizeOf24 rfl rfl) ?_
      refine SO.b1 ?_
      refine SO.storeN Try.sizeOf24 rfl rfl rfl rfl rfl rfl ?_
      refine SO.nil ?_
      refine S.to (ρ' := [(6, .int .i64 x6_1), (5, v6), (4, bp b5 0), (3, bp b3 0), (2, .pointer none), (0, .int .i64 a0), (7, bp b13 0)]) ⟨rfl, rfl, rfl, rfl, rfl, rfl, rfl, trivial⟩ ?_
      refine S.seq ?_
      refine S.b6 ?_
      refine S.openR fun raws14 A15 hrel16 hR17 => ?_
      obtain ⟨x18, hx19, h⟩ := opt_bind h
      obtain ⟨r20, hr21, hc22⟩ := relR.at hrel16 hx19
      refine S.draw' (Z := fun Q => ∀ (_ : Unit) (_ : Unit) (_ : Unit) (_ : Unit) (_ : Unit) (_ : Unit) (_ : Unit) (_ : Unit) (_ : Unit) (_ : Unit), Q [(6, .int .i64 x6_1), (5, v6), (4, bp b5 0), (2, .pointer none), (0, .int .i64 a0), (3, bp b3 0)] [OwnR 38 kr_ref10_Obj u4_Objs (qu4_Objs_1.set x6_1.toNat ({ t9 with State := 1, Root := (⟨2, 7, a0, 0, 0, 8⟩ : api_Cap) } : ref10_Obj)), Box b13 [.int .i64 t9.Kind, .int .i64 t9.Size, .int .i64 t9.Used, .int .i64 t9.First, .int .i64 t9.Radix, .int .i64 t9.Wait, u11_Queue, .int .i64 t9.Word, .int .i64 1, .int .i64 t9.Owing, .int .i64 t9.Badge, .int .i64 t9.Prio, .int .i64 t9.On, .int .i64 t9.Owes, .int .i64 2, .int .i64 7, .int .i64 a0, .int .i64 0, .int .i64 0, .int .i64 8, .int .i64 t9.Pages.a0, .int .i64 t9.Pages.a1, .int .i64 t9.Pages.a2, .int .i64 t9.Pages.a3, .int .i64 t9.Right.a0, .int .i64 t9.Right.a1, .int .i64 t9.Right.a2, .int .i64 t9.Right.a3, .int .i64 t9.In, .int .i64 t9.Page, .int .i64 t9.Bound, .int .i64 t9.Mask], Box b5 [.int .i64 2, .int .i64 7, .int .i64 a0, .int .i64 0, .int .i64 0, .int .i64 8], Own 3 (ekI .i64) v6 ([2, 2, 1, 3, 4, 8, 7, 6]), Box b3 [u4_Slots, u4_Objs, .int .i64 t1.NS, .int .i64 t1.NO], OwnR 71 kr_ref10_Slot u4_Slots qu4_Slots_1, F]) (T := [tS 3 (bp b3 0), tS 6 (.int .i64 x6_1), tS 7 (bp b13 0), tE [(5, v6), (4, bp b5 0), (2, .pointer none), (0, .int .i64 a0)], tR (OwnO 38 kr_ref10_Obj u4_Objs raws14 A15 qu4_Objs_1), tR (Box b13 [.int .i64 t9.Kind, .int .i64 t9.Size, .int .i64 t9.Used, .int .i64 t9.First, .int .i64 t9.Radix, .int .i64 t9.Wait, u11_Queue, .int .i64 t9.Word, .int .i64 1, .int .i64 t9.Owing, .int .i64 t9.Badge, .int .i64 t9.Prio, .int .i64 t9.On, .int .i64 t9.Owes, .int .i64 2, .int .i64 7, .int .i64 a0, .int .i64 0, .int .i64 0, .int .i64 8, .int .i64 t9.Pages.a0, .int .i64 t9.Pages.a1, .int .i64 t9.Pages.a2, .int .i64 t9.Pages.a3, .int .i64 t9.Right.a0, .int .i64 t9.Right.a1, .int .i64 t9.Right.a2, .int .i64 t9.Right.a3, .int .i64 t9.In, .int .i64 t9.Page, .int .i64 t9.Bound, .int .i64 t9.Mask]), tR (Box b5 [.int .i64 2, .int .i64 7, .int .i64 a0, .int .i64 0, .int .i64 0, .int .i64 8]), tR (Own 3 (ekI .i64) u11_Queue t9.Queue), tR (Own 3 (ekI .i64) v6 ([2, 2, 1, 3, 4, 8, 7, 6])), tR (Box b3 [u4_Slots, u4_Objs, .int .i64 t1.NS, .int .i64 t1.NO]), tR (OwnR 71 kr_ref10_Slot u4_Slots qu4_Slots_1), tR (F), tS 22 (bp b3 0), tS 23 (bp b3 0), tS 24 (bp b3 1), tS 25 (u4_Objs), tS 26 (.int .i64 x6_1), tS 27 (.agg #[.int .i64 t9.Kind, .int .i64 t9.Size, .int .i64 t9.Used, .int .i64 t9.First, .int .i64 t9.Radix, .int .i64 t9.Wait, u11_Queue, .int .i64 t9.Word, .int .i64 1, .int .i64 t9.Owing, .int .i64 t9.Badge, .int .i64 t9.Prio, .int .i64 t9.On, .int .i64 t9.Owes, .int .i64 2, .int .i64 7, .int .i64 a0, .int .i64 0, .int .i64 0, .int .i64 8, .int .i64 t9.Pages.a0, .int .i64 t9.Pages.a1, .int .i64 t9.Pages.a2, .int .i64 t9.Pages.a3, .int .i64 t9.Right.a0, .int .i64 t9.Right.a1, .int .i64 t9.Right.a2, .int .i64 t9.Right.a3, .int .i64 t9.In, .int .i64 t9.Page, .int .i64 t9.Bound, .int .i64 t9.Mask]), tS 28 (idxp u4_Objs (x6_1.toNat * kr_ref10_Obj.sz)), tR (OwnR 38 kr_ref10_Obj u4_Objs (qu4_Objs_1.set x6_1.toNat ({ t9 with State := 1, Root := (⟨2, 7, a0, 0, 0, 8⟩ : api_Cap) } : ref10_Obj)))]) (D := [⟨[0], [], [12]⟩, ⟨[12], [], [13]⟩, ⟨[13], [], [14]⟩, ⟨[14, 9], [], [15]⟩, ⟨[1], [], [16]⟩, ⟨[2, 5], [], [17]⟩, ⟨[15, 16, 4], [], [18]⟩, ⟨[17, 18], [4, 7], [19]⟩]) (ini := [0, 1, 2, 3, 4, 5, 6, 7, 8, 9, 10, 11]) (fin := [1, 3, 0, 19, 5, 6, 8, 9, 10, 11]) (bf := [[], [0], [0, 1], [0, 1, 2], [], [], [0, 1, 2, 3, 4, 5], [0, 1, 2, 3, 4, 5, 6]]) (by kernel_rfl) (by kernel_rfl) (fun x w h1 h2 => (.cons () (.cons () (.cons () (.cons () (.cons () (.cons () (.cons () (.cons () (.cons () (.cons () (.cons () (.cons () (.nil ⟨EnvAll.of h1 ⟨rfl, rfl, rfl, rfl, rfl, rfl, rfl, trivial⟩, h2⟩)))))))))))))) (fun Q => by kernel_rfl) ⟨?_, ?_, ?_, ?_, ?_, ?_, ?_, ?_, trivial⟩ ?_
      · rintro Fr _
        refine SO.v rfl (opv_move rfl) ?_
        exact SO.nilZ fun a w h1 h2 h3 h4 h5 => PZ.of h1 h3 h5 (.cons () (.cons () (.nil ⟨EnvAll.of h2 ⟨rfl, rfl, trivial⟩, h4⟩)))
      · rintro Fr _
        refine SO.v rfl (opv_nilCheck rfl) ?_
        exact SO.nilZ fun a w h1 h2 h3 h4 h5 => PZ.of h1 h3 h5 (.cons () (.cons () (.nil ⟨EnvAll.of h2 ⟨rfl, rfl, trivial⟩, h4⟩)))
      · rintro Fr _
        refine SO.v rfl (opv_fieldAddr Try.underlying42 rfl Try.sizeOf40 rfl rfl) ?_
        exact SO.nilZ fun a w h1 h2 h3 h4 h5 => PZ.of h1 h3 h5 (.cons () (.cons () (.nil ⟨EnvAll.of h2 ⟨rfl, rfl, trivial⟩, h4⟩)))
      · rintro Fr _ _
        refine SO.load1 rfl Try.isAgg40 rfl rfl ?_
        exact SO.nilZ fun a w h1 h2 h3 h4 h5 => PZ.of h1 h3 h5 (.cons () (.cons () (.cons () (.nil ⟨EnvAll.of h2 ⟨rfl, rfl, trivial⟩, h4⟩))))
      · rintro Fr _
        refine SO.v rfl (opv_move rfl) ?_
        exact SO.nilZ fun a w h1 h2 h3 h4 h5 => PZ.of h1 h3 h5 (.cons () (.cons () (.nil ⟨EnvAll.of h2 ⟨rfl, rfl, trivial⟩, h4⟩)))
      · rintro Fr _ _
        refine SO.loadN rfl Try.isAgg38 Try.sizeOf38 rfl rfl rfl ?_
        exact SO.nilZ fun a w h1 h2 h3 h4 h5 => PZ.of h1 h3 h5 (.cons () (.cons () (.cons () (.nil ⟨EnvAll.of h2 ⟨rfl, rfl, trivial⟩, h4⟩))))
      · rintro Fr _ _ _
        refine SO.v rfl (opv_idx Try.underlying40 Try.sizeOf38 hR17 rfl rfl hr21) ?_
        exact SO.nilZ fun a w h1 h2 h3 h4 h5 => PZ.of h1 h3 h5 (.cons () (.cons () (.cons () (.cons () (.nil ⟨EnvAll.of h2 ⟨rfl, rfl, rfl, trivial⟩, h4⟩)))))
      · rintro Fr _ _ _ _
        refine SO.b1 ?_
        refine SO.freeze hrel16 fun A23 hcov24 hru25 hrel26 hR27 => ?_
        refine SO.storeON (z' := ({ t9 with State := 1, Root := (⟨2, 7, a0, 0, 0, 8⟩ : api_Cap) } : ref10_Obj)) Try.sizeOf38 hrel26 hx19 rfl rfl rfl ⟨rfl, rfl, rfl, rfl, rfl, rfl, hru25, rfl, rfl, rfl, rfl, rfl, rfl, rfl, rfl, rfl, rfl, rfl, rfl, rfl, rfl, rfl, rfl, rfl, rfl, rfl, rfl, rfl, rfl, rfl, rfl, rfl, trivial⟩ (fun raws28 hrel29 hR30 => ?_)
        refine SO.closeR ?_
        exact SO.nilZ fun a w h1 h2 h3 h4 h5 => PZ.of h1 h3 h5 (.cons () (.cons () (.cons () (.nil ⟨EnvAll.of h2 ⟨rfl, rfl, trivial⟩, h4⟩))))
      rintro _ _ _ _ _ _ _ _ _ _
      refine S.to (ρ' := [(6, .int .i64 x6_1), (5, v6), (4, bp b5 0), (2, .pointer none), (0, .int .i64 a0), (3, bp b3 0)]) ⟨rfl, rfl, rfl, rfl, rfl, rfl, trivial⟩ ?_
      refine S.region ?_
      refine SO.v rfl (opv_move rfl) ?_
      refine SO.v rfl (opv_nilCheck rfl) ?_
      refine SO.v rfl (opv_fieldAddr Try.underlying42 rfl Try.sizeOf39 rfl rfl) ?_
      refine SO.b4 ?_
      refine SO.load1 rfl Try.isAgg39 rfl rfl ?_
      refine SO.v rfl (opv_move rfl) ?_
      refine SO.v rfl (opv_add rfl rfl) ?_
      refine SO.v rfl (opv_move rfl) ?_
      refine SO.v rfl (opv_build (v := .agg #[.int .i64 5, .int .i64 7, .int .i64 x6_1, .int .i64 0, .int .i64 0, .int .i64 0]) rfl (by intro w; kernel_rfl)) ?_
      refine SO.b5 ?_
      refine SO.openR fun raws36 A37 hrel38 hR39 => ?_
      obtain ⟨x31, hx32, h⟩ := opt_bind h
      obtain ⟨r33, hr34, hc35⟩ := relR.at hrel38 hx32
      refine SO.v rfl (opv_idx Try.underlying39 Try.sizeOf71 hR39 rfl rfl hr34) ?_
      refine SO.v rfl (opv_fieldIdx Try.underlying71 rfl Try.sizeOf24 hR39 hr34 rfl rfl) ?_
      refine SO.storeOP (j := 0) (us := [.int .i64 5, .int .i64 7, .int .i64 x6_1, .int .i64 0, .int .i64 0, .int .i64 0]) (z' := ({ x31 with Cap := (⟨5, 7, x6_1, 0, 0, 0⟩ : api_Cap) } : ref10_Slot)) Try.sizeOf24 hrel38 hx32 rfl rfl rfl rfl rfl rfl rfl (fun raws40 hrel41 hR42 => ?_)
      refine SO.nil ?_
      refine S.to (ρ' := [(6, .int .i64 x6_1), (5, v6), (4, bp b5 0), (2, .pointer none), (0, .int .i64 a0), (3, bp b3 0)]) ⟨rfl, rfl, rfl, rfl, rfl, rfl, trivial⟩ ?_
      refine S.inBlock ?_
      refine S.region ?_
      refine SO.v rfl (opv_move rfl) ?_
      refine SO.v rfl (opv_add rfl rfl) ?_
      refine SO.v rfl (opv_assign rfl) ?_
      refine SO.nil ?_
      refine S.closeR ?_
      refine S.b3 ?_
      refine S.drop ?_
      refine S.b5 ?_
      refine S.b3 ?_
      refine S.b2 ?_
      refine S.b3 ?_
      refine S.b4 ?_
      refine S.b5 ?_
      refine S.to ?_ (ih1 ((w64 (x6_1 + 1), qu4_Objs_1.set x6_1.toNat ({ t9 with State := 1, Root := (⟨2, 7, a0, 0, 0, 8⟩ : api_Cap) } : ref10_Obj), qu4_Slots_1.set (w64 (14 + x6_1)).toNat ({ x31 with Cap := (⟨5, 7, x6_1, 0, 0, 0⟩ : api_Cap) } : ref10_Slot)), ()) h)
      exact ⟨rfl, rfl, rfl, rfl, rfl, rfl, trivial⟩
    · replace h := cond_f b8 h
      refine S.condF rfl b8 ?_
      refine S.exit rfl ?_
      cases h
      refine S.b5 ?_
      refine S.b5 ?_
      refine S.b5 ?_
      refine S.b5 ?_
      refine S.b5 ?_
      refine S.b5 ?_
      refine S.to ?_ (hK1 ())
      exact ⟨rfl, rfl, rfl, rfl, rfl, trivial⟩
  rintro _
  refine S.seq ?_
  refine S.seq ?_
  refine S.region ?_
  refine SO.v rfl (opv_assign rfl) ?_
  refine SO.nil ?_
  obtain ⟨⟨qu4_Slots_e2, qu4_Objs_e2⟩, hl2, h⟩ := opt_bind h
  refine S.b5 ?_
  refine S.b5 ?_
  refine S.b5 ?_
  refine S.b5 ?_
  refine S.b5 ?_
  refine S.b5 ?_
  refine S.to (ρ' := [(8, .int .i64 0), (0, .int .i64 a0), (2, .pointer none), (3, bp b3 0), (4, bp b5 0), (5, v6)]) ⟨rfl, rfl, rfl, rfl, rfl, rfl, trivial⟩ ?_
  refine S.forloop (X := (Int × (List ref10_Obj) × (List ref10_Slot)) × Unit) (O := ((List ref10_Slot) × (List ref10_Obj))) (fun m x => ref10_Boot.l2 a0 m x.1) (fun x => match x with | ((x8_2, qu4_Objs_2, qu4_Slots_2), _) => [(8, .int .i64 x8_2), (0, .int .i64 a0), (2, .pointer none), (3, bp b3 0), (4, bp b5 0), (5, v6)]) (fun x => match x with | ((x8_2, qu4_Objs_2, qu4_Slots_2), _) => [Own 3 (ekI .i64) v6 ([2, 2, 1, 3, 4, 8, 7, 6]), Box b5 [.int .i64 2, .int .i64 7, .int .i64 a0, .int .i64 0, .int .i64 0, .int .i64 8], Box b3 [u4_Slots, u4_Objs, .int .i64 t1.NS, .int .i64 t1.NO], OwnR 71 kr_ref10_Slot u4_Slots qu4_Slots_2, OwnR 38 kr_ref10_Obj u4_Objs qu4_Objs_2, F]) (fun Sk => (fun x => match x with | (qu4_Slots_e2, qu4_Objs_e2) => ∀ _ : Unit, Sk [(0, .int .i64 a0), (2, .pointer none), (3, bp b3 0), (4, bp b5 0)] [Own 3 (ekI .i64) v6 ([2, 2, 1, 3, 4, 8, 7, 6]), Box b5 [.int .i64 2, .int .i64 7, .int .i64 a0, .int .i64 0, .int .i64 0, .int .i64 8], Box b3 [u4_Slots, u4_Objs, .int .i64 t1.NS, .int .i64 t1.NO], OwnR 71 kr_ref10_Slot u4_Slots qu4_Slots_e2, OwnR 38 kr_ref10_Obj u4_Objs qu4_Objs_e2, F])) (fun _ => rfl) ?_ (m := k) (x := ((0, qu4_Objs_e1, qu4_Slots_e1), ())) hl2 ?_
  · clear h hl2
    intro k x o_2 h hK2 ih2
    obtain ⟨⟨x8_2, qu4_Objs_2, qu4_Slots_2⟩, _⟩ := x
    replace h : ref10_Boot.l2 a0 (k + 1) (x8_2, qu4_Objs_2, qu4_Slots_2) = some o_2 := h
    first | rw [ref10_Boot.l2] at h | unfold ref10_Boot.l2 at h
    refine S.seq ?_
    refine S.seq ?_
    refine S.region ?_
    refine SO.v rfl (opv_move rfl) ?_
    refine SO.v rfl (opv_lss rfl rfl) ?_
    refine SO.nil ?_
    rcases bool_or (decide (x8_2 < 8)) with b43 | b43
    · replace h := cond_t b43 h
      refine S.condT rfl b43 ?_
      refine S.skip ?_
      refine S.seq ?_
      refine S.block ?_
      refine S.seq ?_
      refine S.b3 ?_
      refine S.openR fun raws44 A45 hrel46 hR47 => ?_
      refine S.b4 ?_
      refine S.openR fun raws48 A49 hrel50 hR51 => ?_
      obtain ⟨x52, hx53, h⟩ := opt_bind h
      obtain ⟨t54, ht55, h⟩ := opt_bind h
      obtain ⟨x58, hx59, h⟩ := opt_bind h
      obtain ⟨r60, hr61, hc62⟩ := relR.at hrel50 hx59
      refine S.draw' (Z := fun Q => ∀ (_ : Unit) (_ : Unit) (_ : Unit) (_ : Unit) (_ : Unit) (_ : Unit) (_ : Unit) (_ : Unit) (_ : Unit) (_ : Unit) (_ : Unit), Q [(8, .int .i64 x8_2), (0, .int .i64 a0), (2, .pointer none), (4, bp b5 0), (3, bp b3 0), (5, v6)] [OwnR 38 kr_ref10_Obj u4_Objs (qu4_Objs_2.set (w64 (a0 + x8_2)).toNat t54), OwnO 71 kr_ref10_Slot u4_Slots raws44 A45 qu4_Slots_2, Own 3 (ekI .i64) v6 ([2, 2, 1, 3, 4, 8, 7, 6]), Box b5 [.int .i64 2, .int .i64 7, .int .i64 a0, .int .i64 0, .int .i64 0, .int .i64 8], Box b3 [u4_Slots, u4_Objs, .int .i64 t1.NS, .int .i64 t1.NO], F]) (T := [tS 3 (bp b3 0), tS 0 (.int .i64 a0), tS 8 (.int .i64 x8_2), tS 5 (v6), tE [(2, .pointer none), (4, bp b5 0)], tR (OwnO 38 kr_ref10_Obj u4_Objs raws48 A49 qu4_Objs_2), tR (OwnO 71 kr_ref10_Slot u4_Slots raws44 A45 qu4_Slots_2), tR (Own 3 (ekI .i64) v6 ([2, 2, 1, 3, 4, 8, 7, 6])), tR (Box b5 [.int .i64 2, .int .i64 7, .int .i64 a0, .int .i64 0, .int .i64 0, .int .i64 8]), tR (Box b3 [u4_Slots, u4_Objs, .int .i64 t1.NS, .int .i64 t1.NO]), tR (F), tS 43 (bp b3 0), tS 44 (bp b3 0), tS 45 (bp b3 1), tS 46 (u4_Objs), tS 47 (.int .i64 a0), tS 48 (.int .i64 x8_2), tS 49 (.int .i64 (w64 (a0 + x8_2))), tS 50 (v6), tS 51 (.int .i64 x8_2), tS 52 (idxp v6 (x8_2.toNat * (ekI .i64).sz)), tS 53 (.int .i64 x52), ⟨Value, [54], (fun u56_Queue => [(54, .agg #[.int .i64 t54.Kind, .int .i64 t54.Size, .int .i64 t54.Used, .int .i64 t54.First, .int .i64 t54.Radix, .int .i64 t54.Wait, u56_Queue, .int .i64 t54.Word, .int .i64 t54.State, .int .i64 t54.Owing, .int .i64 t54.Badge, .int .i64 t54.Prio, .int .i64 t54.On, .int .i64 t54.Owes, .int .i64 t54.Root.Kind, .int .i64 t54.Root.Rights, .int .i64 t54.Root.Obj, .int .i64 t54.Root.Badge, .int .i64 t54.Root.Guard, .int .i64 t54.Root.Bits, .int .i64 t54.Pages.a0, .int .i64 t54.Pages.a1, .int .i64 t54.Pages.a2, .int .i64 t54.Pages.a3, .int .i64 t54.Right.a0, .int .i64 t54.Right.a1, .int .i64 t54.Right.a2, .int .i64 t54.Right.a3, .int .i64 t54.In, .int .i64 t54.Page, .int .i64 t54.Bound, .int .i64 t54.Mask])]), (fun u56_Queue => [Own 3 (ekI .i64) u56_Queue t54.Queue]), fun _ => rfl⟩, tS 55 (idxp u4_Objs ((w64 (a0 + x8_2)).toNat * kr_ref10_Obj.sz)), tR (OwnR 38 kr_ref10_Obj u4_Objs (qu4_Objs_2.set (w64 (a0 + x8_2)).toNat t54))]) (D := [⟨[0], [], [11]⟩, ⟨[11], [], [12]⟩, ⟨[12], [], [13]⟩, ⟨[13, 9], [], [14]⟩, ⟨[1], [], [15]⟩, ⟨[2], [], [16]⟩, ⟨[15, 16], [], [17]⟩, ⟨[3], [], [18]⟩, ⟨[2], [], [19]⟩, ⟨[18, 19, 7], [], [20]⟩, ⟨[20, 7], [], [21]⟩, ⟨[21], [], [22]⟩, ⟨[14, 17, 5], [], [23]⟩, ⟨[23], [22, 5], [24]⟩]) (ini := [0, 1, 2, 3, 4, 5, 6, 7, 8, 9, 10]) (fin := [2, 1, 4, 0, 3, 24, 6, 7, 8, 9, 10]) (bf := [[], [0], [0, 1], [0, 1, 2], [], [], [4, 5], [], [], [7, 8], [7, 8, 9], [7, 8, 9, 10], [0, 1, 2, 3, 4, 5, 6, 7, 8, 9, 10, 11], [0, 1, 2, 3, 4, 5, 6, 7, 8, 9, 10, 11, 12]]) (by kernel_rfl) (by kernel_rfl) (fun x w h1 h2 => (.cons () (.cons () (.cons () (.cons () (.cons () (.cons () (.cons () (.cons () (.cons () (.cons () (.cons () (.nil ⟨EnvAll.of h1 ⟨rfl, rfl, rfl, rfl, rfl, rfl, trivial⟩, h2⟩))))))))))))) (fun Q => by kernel_rfl) ⟨?_, ?_, ?_, ?_, ?_, ?_, ?_, ?_, ?_, ?_, ?_, ?_, ?_, ?_, trivial⟩ ?_
      · rintro Fr _
        refine SO.v rfl (opv_move rfl) ?_
        exact SO.nilZ fun a w h1 h2 h3 h4 h5 => PZ.of h1 h3 h5 (.cons () (.cons () (.nil ⟨EnvAll.of h2 ⟨rfl, rfl, trivial⟩, h4⟩)))
      · rintro Fr _
        refine SO.v rfl (opv_nilCheck rfl) ?_
        exact SO.nilZ fun a w h1 h2 h3 h4 h5 => PZ.of h1 h3 h5 (.cons () (.cons () (.nil ⟨EnvAll.of h2 ⟨rfl, rfl, trivial⟩, h4⟩)))
      · rintro Fr _
        refine SO.v rfl (opv_fieldAddr Try.underlying42 rfl Try.sizeOf40 rfl rfl) ?_
        exact SO.nilZ fun a w h1 h2 h3 h4 h5 => PZ.of h1 h3 h5 (.cons () (.cons () (.nil ⟨EnvAll.of h2 ⟨rfl, rfl, trivial⟩, h4⟩)))
      · rintro Fr _ _
        refine SO.load1 rfl Try.isAgg40 rfl rfl ?_
        exact SO.nilZ fun a w h1 h2 h3 h4 h5 => PZ.of h1 h3 h5 (.cons () (.cons () (.cons () (.nil ⟨EnvAll.of h2 ⟨rfl, rfl, trivial⟩, h4⟩))))
      · rintro Fr _
        refine SO.v rfl (opv_move rfl) ?_
        exact SO.nilZ fun a w h1 h2 h3 h4 h5 => PZ.of h1 h3 h5 (.cons () (.cons () (.nil ⟨EnvAll.of h2 ⟨rfl, rfl, trivial⟩, h4⟩)))
      · rintro Fr _
        refine SO.v rfl (opv_move rfl) ?_
        exact SO.nilZ fun a w h1 h2 h3 h4 h5 => PZ.of h1 h3 h5 (.cons () (.cons () (.nil ⟨EnvAll.of h2 ⟨rfl, rfl, trivial⟩, h4⟩)))
      · rintro Fr _ _
        refine SO.v rfl (opv_add rfl rfl) ?_
        exact SO.nilZ fun a w h1 h2 h3 h4 h5 => PZ.of h1 h3 h5 (.cons () (.cons () (.cons () (.nil ⟨EnvAll.of h2 ⟨rfl, rfl, rfl, trivial⟩, h4⟩))))
      · rintro Fr _
        refine SO.v rfl (opv_move rfl) ?_
        exact SO.nilZ fun a w h1 h2 h3 h4 h5 => PZ.of h1 h3 h5 (.cons () (.cons () (.nil ⟨EnvAll.of h2 ⟨rfl, rfl, trivial⟩, h4⟩)))
      · rintro Fr _
        refine SO.v rfl (opv_move rfl) ?_
        exact SO.nilZ fun a w h1 h2 h3 h4 h5 => PZ.of h1 h3 h5 (.cons () (.cons () (.nil ⟨EnvAll.of h2 ⟨rfl, rfl, trivial⟩, h4⟩)))
      · rintro Fr _ _ _
        refine SO.v rfl (opv_idx Try.underlying35 Try.sizeOf3 hr7 rfl rfl hx53) ?_
        exact SO.nilZ fun a w h1 h2 h3 h4 h5 => PZ.of h1 h3 h5 (.cons () (.cons () (.cons () (.cons () (.nil ⟨EnvAll.of h2 ⟨rfl, rfl, rfl, trivial⟩, h4⟩)))))
      · rintro Fr _ _
        refine SO.loadI1 (j := 0) rfl Try.isAgg3 (Rd.head hr7) hx53 rfl rfl rfl rfl ?_
        exact SO.nilZ fun a w h1 h2 h3 h4 h5 => PZ.of h1 h3 h5 (.cons () (.cons () (.cons () (.nil ⟨EnvAll.of h2 ⟨rfl, rfl, trivial⟩, h4⟩))))
      · rintro Fr _
        refine SO.call (pre := []) rfl Try.call27 rfl rfl rfl (ref10_Fresh.ct _ _ ht55) trivial ?_
        rintro _ _ ⟨u56_Queue, rfl, rfl⟩
        refine SO.rd fun hr57 => ?_
        exact SO.nilZ fun a w h1 h2 h3 h4 h5 => PZ.of h1 h3 h5 (.cons () (.cons u56_Queue (.nil ⟨EnvAll.of h2 ⟨rfl, rfl, trivial⟩, h4⟩)))
      · rintro Fr _ _ _
        refine SO.v rfl (opv_idx Try.underlying40 Try.sizeOf38 hR51 rfl rfl hr61) ?_
        exact SO.nilZ fun a w h1 h2 h3 h4 h5 => PZ.of h1 h3 h5 (.cons () (.cons () (.cons () (.cons () (.nil ⟨EnvAll.of h2 ⟨rfl, rfl, rfl, trivial⟩, h4⟩)))))
      · rintro Fr _ u56_Queue _
        refine SO.rd fun hr63 => ?_
        refine SO.b1 ?_
        refine SO.b1 ?_
        refine SO.freeze hrel50 fun A64 hcov65 hru66 hrel67 hR68 => ?_
        refine SO.storeON (z' := t54) Try.sizeOf38 hrel67 hx59 rfl rfl rfl ⟨rfl, rfl, rfl, rfl, rfl, rfl, hru66, rfl, rfl, rfl, rfl, rfl, rfl, rfl, rfl, rfl, rfl, rfl, rfl, rfl, rfl, rfl, rfl, rfl, rfl, rfl, rfl, rfl, rfl, rfl, rfl, rfl, trivial⟩ (fun raws69 hrel70 hR71 => ?_)
        refine SO.closeR ?_
        exact SO.nilZ fun a w h1 h2 h3 h4 h5 => PZ.of h1 h3 h5 (.cons () (.cons () (.nil ⟨EnvAll.of h2 ⟨rfl, trivial⟩, h4⟩)))
      rintro _ _ _ _ _ _ _ _ _ _ _
      refine S.to (ρ' := [(8, .int .i64 x8_2), (0, .int .i64 a0), (2, .pointer none), (4, bp b5 0), (3, bp b3 0), (5, v6)]) ⟨rfl, rfl, rfl, rfl, rfl, rfl, trivial⟩ ?_
      refine S.seq ?_
      refine S.region ?_
      refine SO.v rfl (opv_move rfl) ?_
      refine SO.v rfl (opv_geq rfl rfl) ?_
      refine SO.nil ?_
      rcases bool_or (decide (2 ≤ x8_2)) with b72 | b72
      · replace h := cond_t b72 h
        refine S.condT rfl b72 ?_
        obtain ⟨x73, hx74, h⟩ := opt_bind h
        obtain ⟨x75, hx76, h⟩ := opt_bind h
        obtain ⟨r77, hr78, hc79⟩ := relR.at hrel46 hx76
        refine S.draw' (Z := fun Q => ∀ (_ : Unit) (_ : Unit) (_ : Unit) (_ : Unit) (_ : Unit) (_ : Unit) (_ : Unit) (_ : Unit) (_ : Unit) (_ : Unit) (_ : Unit), Q [(8, .int .i64 x8_2), (0, .int .i64 a0), (2, .pointer none), (4, bp b5 0), (3, bp b3 0), (5, v6)] [OwnR 38 kr_ref10_Obj u4_Objs (qu4_Objs_2.set (w64 (a0 + x8_2)).toNat t54), OwnR 71 kr_ref10_Slot u4_Slots (qu4_Slots_2.set (w64 (6 + x8_2)).toNat ({ x75 with Cap := (⟨x73, 7, w64 (a0 + x8_2), 0, 0, 0⟩ : api_Cap) } : ref10_Slot)), Own 3 (ekI .i64) v6 ([2, 2, 1, 3, 4, 8, 7, 6]), Box b5 [.int .i64 2, .int .i64 7, .int .i64 a0, .int .i64 0, .int .i64 0, .int .i64 8], Box b3 [u4_Slots, u4_Objs, .int .i64 t1.NS, .int .i64 t1.NO], F]) (T := [tS 3 (bp b3 0), tS 8 (.int .i64 x8_2), tS 5 (v6), tS 0 (.int .i64 a0), tE [(2, .pointer none), (4, bp b5 0)], tR (OwnR 38 kr_ref10_Obj u4_Objs (qu4_Objs_2.set (w64 (a0 + x8_2)).toNat t54)), tR (OwnO 71 kr_ref10_Slot u4_Slots raws44 A45 qu4_Slots_2), tR (Own 3 (ekI .i64) v6 ([2, 2, 1, 3, 4, 8, 7, 6])), tR (Box b5 [.int .i64 2, .int .i64 7, .int .i64 a0, .int .i64 0, .int .i64 0, .int .i64 8]), tR (Box b3 [u4_Slots, u4_Objs, .int .i64 t1.NS, .int .i64 t1.NO]), tR (F), tS 58 (bp b3 0), tS 59 (bp b3 0), tS 60 (bp b3 0), tS 61 (u4_Slots), tS 62 (.int .i64 x8_2), tS 63 (.int .i64 (w64 (6 + x8_2))), tS 64 (v6), tS 65 (.int .i64 x8_2), tS 66 (idxp v6 (x8_2.toNat * (ekI .i64).sz)), tS 67 (.int .i64 x73), tS 68 (.int .i64 a0), tS 69 (.int .i64 x8_2), tS 70 (.int .i64 (w64 (a0 + x8_2))), tS 71 (.agg #[.int .i64 x73, .int .i64 7, .int .i64 (w64 (a0 + x8_2)), .int .i64 0, .int .i64 0, .int .i64 0]), tS 72 (idxp u4_Slots ((w64 (6 + x8_2)).toNat * kr_ref10_Slot.sz)), tS 73 (idxp u4_Slots ((w64 (6 + x8_2)).toNat * kr_ref10_Slot.sz)), tR (OwnR 71 kr_ref10_Slot u4_Slots (qu4_Slots_2.set (w64 (6 + x8_2)).toNat ({ x75 with Cap := (⟨x73, 7, w64 (a0 + x8_2), 0, 0, 0⟩ : api_Cap) } : ref10_Slot)))]) (D := [⟨[0], [], [11]⟩, ⟨[11], [], [12]⟩, ⟨[12], [], [13]⟩, ⟨[13, 9], [], [14]⟩, ⟨[1], [], [15]⟩, ⟨[15], [], [16]⟩, ⟨[2], [], [17]⟩, ⟨[1], [], [18]⟩, ⟨[17, 18, 7], [], [19]⟩, ⟨[19, 7], [], [20]⟩, ⟨[3], [], [21]⟩, ⟨[1], [], [22]⟩, ⟨[21, 22], [], [23]⟩, ⟨[20, 23], [], [24]⟩, ⟨[14, 16, 6], [], [25]⟩, ⟨[25, 6], [], [26]⟩, ⟨[24, 26], [6], [27]⟩]) (ini := [0, 1, 2, 3, 4, 5, 6, 7, 8, 9, 10]) (fin := [1, 3, 4, 0, 2, 5, 27, 7, 8, 9, 10]) (bf := [[], [0], [0, 1], [0, 1, 2], [], [4], [], [], [6, 7], [6, 7, 8], [], [], [10, 11], [6, 7, 8, 9, 10, 11, 12], [0, 1, 2, 3, 4, 5, 6, 7, 8, 9, 10, 11, 12, 13], [0, 1, 2, 3, 4, 5, 6, 7, 8, 9, 10, 11, 12, 13, 14], [0, 1, 2, 3, 4, 5, 6, 7, 8, 9, 10, 11, 12, 13, 14, 15]]) (by kernel_rfl) (by kernel_rfl) (fun x w h1 h2 => (.cons () (.cons () (.cons () (.cons () (.cons () (.cons () (.cons () (.cons () (.cons () (.cons () (.cons () (.nil ⟨EnvAll.of h1 ⟨rfl, rfl, rfl, rfl, rfl, rfl, trivial⟩, h2⟩))))))))))))) (fun Q => by kernel_rfl) ⟨?_, ?_, ?_, ?_, ?_, ?_, ?_, ?_, ?_, ?_, ?_, ?_, ?_, ?_, ?_, ?_, ?_, trivial⟩ ?_
        · rintro Fr _
          refine SO.v rfl (opv_move rfl) ?_
          exact SO.nilZ fun a w h1 h2 h3 h4 h5 => PZ.of h1 h3 h5 (.cons () (.cons () (.nil ⟨EnvAll.of h2 ⟨rfl, rfl, trivial⟩, h4⟩)))
        · rintro Fr _
          refine SO.v rfl (opv_nilCheck rfl) ?_
          exact SO.nilZ fun a w h1 h2 h3 h4 h5 => PZ.of h1 h3 h5 (.cons () (.cons () (.nil ⟨EnvAll.of h2 ⟨rfl, rfl, trivial⟩, h4⟩)))
        · rintro Fr _
          refine SO.v rfl (opv_fieldAddr Try.underlying42 rfl Try.sizeOf39 rfl rfl) ?_
          exact SO.nilZ fun a w h1 h2 h3 h4 h5 => PZ.of h1 h3 h5 (.cons () (.cons () (.nil ⟨EnvAll.of h2 ⟨rfl, rfl, trivial⟩, h4⟩)))
        · rintro Fr _ _
          refine SO.load1 rfl Try.isAgg39 rfl rfl ?_
          exact SO.nilZ fun a w h1 h2 h3 h4 h5 => PZ.of h1 h3 h5 (.cons () (.cons () (.cons () (.nil ⟨EnvAll.of h2 ⟨rfl, rfl, trivial⟩, h4⟩))))
        · rintro Fr _
          refine SO.v rfl (opv_move rfl) ?_
          exact SO.nilZ fun a w h1 h2 h3 h4 h5 => PZ.of h1 h3 h5 (.cons () (.cons () (.nil ⟨EnvAll.of h2 ⟨rfl, rfl, trivial⟩, h4⟩)))
        · rintro Fr _
          refine SO.v rfl (opv_add rfl rfl) ?_
          exact SO.nilZ fun a w h1 h2 h3 h4 h5 => PZ.of h1 h3 h5 (.cons () (.cons () (.nil ⟨EnvAll.of h2 ⟨rfl, rfl, trivial⟩, h4⟩)))
        · rintro Fr _
          refine SO.v rfl (opv_move rfl) ?_
          exact SO.nilZ fun a w h1 h2 h3 h4 h5 => PZ.of h1 h3 h5 (.cons () (.cons () (.nil ⟨EnvAll.of h2 ⟨rfl, rfl, trivial⟩, h4⟩)))
        · rintro Fr _
          refine SO.v rfl (opv_move rfl) ?_
          exact SO.nilZ fun a w h1 h2 h3 h4 h5 => PZ.of h1 h3 h5 (.cons () (.cons () (.nil ⟨EnvAll.of h2 ⟨rfl, rfl, trivial⟩, h4⟩)))
        · rintro Fr _ _ _
          refine SO.v rfl (opv_idx Try.underlying35 Try.sizeOf3 hr7 rfl rfl hx74) ?_
          exact SO.nilZ fun a w h1 h2 h3 h4 h5 => PZ.of h1 h3 h5 (.cons () (.cons () (.cons () (.cons () (.nil ⟨EnvAll.of h2 ⟨rfl, rfl, rfl, trivial⟩, h4⟩)))))
        · rintro Fr _ _
          refine SO.loadI1 (j := 0) rfl Try.isAgg3 (Rd.head hr7) hx74 rfl rfl rfl rfl ?_
          exact SO.nilZ fun a w h1 h2 h3 h4 h5 => PZ.of h1 h3 h5 (.cons () (.cons () (.cons () (.nil ⟨EnvAll.of h2 ⟨rfl, rfl, trivial⟩, h4⟩))))
        · rintro Fr _
          refine SO.v rfl (opv_move rfl) ?_
          exact SO.nilZ fun a w h1 h2 h3 h4 h5 => PZ.of h1 h3 h5 (.cons () (.cons () (.nil ⟨EnvAll.of h2 ⟨rfl, rfl, trivial⟩, h4⟩)))
        · rintro Fr _
          refine SO.v rfl (opv_move rfl) ?_
          exact SO.nilZ fun a w h1 h2 h3 h4 h5 => PZ.of h1 h3 h5 (.cons () (.cons () (.nil ⟨EnvAll.of h2 ⟨rfl, rfl, trivial⟩, h4⟩)))
        · rintro Fr _ _
          refine SO.v rfl (opv_add rfl rfl) ?_
          exact SO.nilZ fun a w h1 h2 h3 h4 h5 => PZ.of h1 h3 h5 (.cons () (.cons () (.cons () (.nil ⟨EnvAll.of h2 ⟨rfl, rfl, rfl, trivial⟩, h4⟩))))
        · rintro Fr _ _
          refine SO.v rfl (opv_build (v := .agg #[.int .i64 x73, .int .i64 7, .int .i64 (w64 (a0 + x8_2)), .int .i64 0, .int .i64 0, .int .i64 0]) rfl (by intro w; kernel_rfl)) ?_
          exact SO.nilZ fun a w h1 h2 h3 h4 h5 => PZ.of h1 h3 h5 (.cons () (.cons () (.cons () (.nil ⟨EnvAll.of h2 ⟨rfl, rfl, rfl, trivial⟩, h4⟩))))
        · rintro Fr _ _ _
          refine SO.v rfl (opv_idx Try.underlying39 Try.sizeOf71 hR47 rfl rfl hr78) ?_
          exact SO.nilZ fun a w h1 h2 h3 h4 h5 => PZ.of h1 h3 h5 (.cons () (.cons () (.cons () (.cons () (.nil ⟨EnvAll.of h2 ⟨rfl, rfl, rfl, trivial⟩, h4⟩)))))
        · rintro Fr _ _
          refine SO.v rfl (opv_fieldIdx Try.underlying71 rfl Try.sizeOf24 hR47 hr78 rfl rfl) ?_
          exact SO.nilZ fun a w h1 h2 h3 h4 h5 => PZ.of h1 h3 h5 (.cons () (.cons () (.cons () (.nil ⟨EnvAll.of h2 ⟨rfl, rfl, trivial⟩, h4⟩))))
        · rintro Fr _ _ _
          refine SO.storeOP (j := 0) (us := [.int .i64 x73, .int .i64 7, .int .i64 (w64 (a0 + x8_2)), .int .i64 0, .int .i64 0, .int .i64 0]) (z' := ({ x75 with Cap := (⟨x73, 7, w64 (a0 + x8_2), 0, 0, 0⟩ : api_Cap) } : ref10_Slot)) Try.sizeOf24 hrel46 hx76 rfl rfl rfl rfl rfl rfl rfl (fun raws80 hrel81 hR82 => ?_)
          refine SO.closeR ?_
          exact SO.nilZ fun a w h1 h2 h3 h4 h5 => PZ.of h1 h3 h5 (.cons () (.cons () (.cons () (.nil ⟨EnvAll.of h2 ⟨rfl, rfl, trivial⟩, h4⟩))))
        rintro _ _ _ _ _ _ _ _ _ _ _
        refine S.to (ρ' := [(8, .int .i64 x8_2), (0, .int .i64 a0), (2, .pointer none), (4, bp b5 0), (3, bp b3 0), (5, v6)]) ⟨rfl, rfl, rfl, rfl, rfl, rfl, trivial⟩ ?_
        refine S.inBlock ?_
        refine S.region ?_
        refine SO.v rfl (opv_move rfl) ?_
        refine SO.v rfl (opv_add rfl rfl) ?_
        refine SO.v rfl (opv_assign rfl) ?_
        refine SO.nil ?_
        refine S.b5 ?_
        refine S.b1 ?_
        refine S.b2 ?_
        refine S.b5 ?_
        refine S.b5 ?_
        refine S.b5 ?_
        refine S.to ?_ (ih2 ((w64 (x8_2 + 1), qu4_Objs_2.set (w64 (a0 + x8_2)).toNat t54, qu4_Slots_2.set (w64 (6 + x8_2)).toNat ({ x75 with Cap := (⟨x73, 7, w64 (a0 + x8_2), 0, 0, 0⟩ : api_Cap) } : ref10_Slot)), ()) h)
        exact ⟨rfl, rfl, rfl, rfl, rfl, rfl, trivial⟩
      · replace h := cond_f b72 h
        refine S.condF rfl b72 ?_
        refine S.skip ?_
        refine S.inBlock ?_
        refine S.region ?_
        refine SO.v rfl (opv_move rfl) ?_
        refine SO.v rfl (opv_add rfl rfl) ?_
        refine SO.v rfl (opv_assign rfl) ?_
        refine SO.nil ?_
        refine S.b1 ?_
        refine S.closeR ?_
        refine S.b5 ?_
        refine S.b2 ?_
        refine S.b2 ?_
        refine S.b5 ?_
        refine S.b5 ?_
        refine S.b5 ?_
        refine S.to ?_ (ih2 ((w64 (x8_2 + 1), qu4_Objs_2.set (w64 (a0 + x8_2)).toNat t54, qu4_Slots_2), ()) h)
        exact ⟨rfl, rfl, rfl, rfl, rfl, rfl, trivial⟩
    · replace h := cond_f b43 h
      refine S.condF rfl b43 ?_
      refine S.exit rfl ?_
      cases h
      refine S.b5 ?_
      refine S.b5 ?_
      refine S.b5 ?_
      refine S.b5 ?_
      refine S.b5 ?_
      refine S.b5 ?_
      refine S.to ?_ (hK2 ())
      exact ⟨rfl, rfl, rfl, rfl, trivial⟩
  rintro _
  refine S.seq ?_
  refine S.region ?_
  refine SO.v rfl (opv_move rfl) ?_
  refine SO.v rfl (opv_nilCheck rfl) ?_
  refine SO.v rfl (opv_fieldAddr Try.underlying42 rfl Try.sizeOf40 rfl rfl) ?_
  refine SO.b2 ?_
  refine SO.load1 rfl Try.isAgg40 rfl rfl ?_
  refine SO.v rfl (opv_move rfl) ?_
  refine SO.b4 ?_
  refine SO.openR fun raws88 A89 hrel90 hR91 => ?_
  obtain ⟨x83, hx84, h⟩ := opt_bind h
  obtain ⟨r85, hr86, hc87⟩ := relR.at hrel90 hx84
  refine SO.v rfl (opv_idx Try.underlying40 Try.sizeOf38 hR91 rfl rfl hr86) ?_
  refine SO.v rfl (opv_fieldIdx Try.underlying38 rfl Try.sizeOf3 hR91 hr86 rfl rfl) ?_
  refine SO.storeO1 (j := 4) (q := .val (.int .i64 3)) (z' := ({ x83 with Radix := 3 } : ref10_Obj)) Try.sizeOf3 hrel90 hx84 rfl rfl rfl rfl rfl rfl rfl (fun raws92 hrel93 hR94 => ?_)
  refine SO.nil ?_
  refine S.to (ρ' := [(0, .int .i64 a0), (2, .pointer none), (3, bp b3 0), (4, bp b5 0)]) ⟨rfl, rfl, rfl, rfl, trivial⟩ ?_
  refine S.seq ?_
  refine S.region ?_
  refine SO.v rfl (opv_move rfl) ?_
  refine SO.v rfl (opv_nilCheck rfl) ?_
  refine SO.v rfl (opv_fieldAddr Try.underlying42 rfl Try.sizeOf40 rfl rfl) ?_
  refine SO.b1 ?_
  refine SO.load1 rfl Try.isAgg40 rfl rfl ?_
  refine SO.v rfl (opv_move rfl) ?_
  refine SO.v rfl (opv_add rfl rfl) ?_
  obtain ⟨x95, hx96, h⟩ := opt_bind h
  obtain ⟨r97, hr98, hc99⟩ := relR.at hrel93 hx96
  refine SO.v rfl (opv_idx Try.underlying40 Try.sizeOf38 hR94 rfl rfl hr98) ?_
  refine SO.v rfl (opv_fieldIdx Try.underlying38 rfl Try.sizeOf3 hR94 hr98 rfl rfl) ?_
  refine SO.b1 ?_
  refine SO.storeO1 (j := 3) (q := .val (.int .i64 8)) (z' := ({ x95 with First := 8 } : ref10_Obj)) Try.sizeOf3 hrel93 hx96 rfl rfl rfl rfl rfl rfl rfl (fun raws100 hrel101 hR102 => ?_)
  refine SO.nil ?_
  refine S.to (ρ' := [(0, .int .i64 a0), (2, .pointer none), (3, bp b3 0), (4, bp b5 0)]) ⟨rfl, rfl, rfl, rfl, trivial⟩ ?_
  refine S.seq ?_
  refine S.region ?_
  refine SO.v rfl (opv_move rfl) ?_
  refine SO.v rfl (opv_nilCheck rfl) ?_
  refine SO.v rfl (opv_fieldAddr Try.underlying42 rfl Try.sizeOf40 rfl rfl) ?_
  refine SO.b1 ?_
  refine SO.load1 rfl Try.isAgg40 rfl rfl ?_
  refine SO.v rfl (opv_move rfl) ?_
  refine SO.v rfl (opv_add rfl rfl) ?_
  obtain ⟨x103, hx104, h⟩ := opt_bind h
  obtain ⟨r105, hr106, hc107⟩ := relR.at hrel101 hx104
  refine SO.v rfl (opv_idx Try.underlying40 Try.sizeOf38 hR102 rfl rfl hr106) ?_
  refine SO.v rfl (opv_fieldIdx Try.underlying38 rfl Try.sizeOf3 hR102 hr106 rfl rfl) ?_
  refine SO.b1 ?_
  refine SO.storeO1 (j := 4) (q := .val (.int .i64 5)) (z' := ({ x103 with Radix := 5 } : ref10_Obj)) Try.sizeOf3 hrel101 hx104 rfl rfl rfl rfl rfl rfl rfl (fun raws108 hrel109 hR110 => ?_)
  refine SO.nil ?_
  refine S.to (ρ' := [(0, .int .i64 a0), (2, .pointer none), (3, bp b3 0), (4, bp b5 0)]) ⟨rfl, rfl, rfl, rfl, trivial⟩ ?_
  refine S.seq ?_
  refine S.region ?_
  refine SO.v rfl (opv_move rfl) ?_
  refine SO.v rfl (opv_nilCheck rfl) ?_
  refine SO.v rfl (opv_fieldAddr Try.underlying42 rfl Try.sizeOf40 rfl rfl) ?_
  refine SO.b1 ?_
  refine SO.load1 rfl Try.isAgg40 rfl rfl ?_
  refine SO.v rfl (opv_move rfl) ?_
  refine SO.v rfl (opv_add rfl rfl) ?_
  obtain ⟨x111, hx112, h⟩ := opt_bind h
  obtain ⟨r113, hr114, hc115⟩ := relR.at hrel109 hx112
  refine SO.v rfl (opv_idx Try.underlying40 Try.sizeOf38 hR110 rfl rfl hr114) ?_
  refine SO.v rfl (opv_fieldIdx Try.underlying38 rfl Try.sizeOf3 hR110 hr114 rfl rfl) ?_
  refine SO.b1 ?_
  refine SO.storeO1 (j := 1) (q := .val (.int .i64 200)) (z' := ({ x111 with Size := 200 } : ref10_Obj)) Try.sizeOf3 hrel109 hx112 rfl rfl rfl rfl rfl rfl rfl (fun raws116 hrel117 hR118 => ?_)
  refine SO.nil ?_
  refine S.to (ρ' := [(0, .int .i64 a0), (2, .pointer none), (3, bp b3 0), (4, bp b5 0)]) ⟨rfl, rfl, rfl, rfl, trivial⟩ ?_
  refine S.seq ?_
  refine S.region ?_
  refine SO.v rfl (opv_move rfl) ?_
  refine SO.v rfl (opv_nilCheck rfl) ?_
  refine SO.v rfl (opv_fieldAddr Try.underlying42 rfl Try.sizeOf39 rfl rfl) ?_
  refine SO.b1 ?_
  refine SO.load1 rfl Try.isAgg39 rfl rfl ?_
  refine SO.v rfl (opv_move rfl) ?_
  refine SO.v rfl (opv_add rfl rfl) ?_
  refine SO.v rfl (opv_build (v := .agg #[.int .i64 2, .int .i64 7, .int .i64 (w64 (a0 + 1)), .int .i64 0, .int .i64 0, .int .i64 0]) rfl (by intro w; kernel_rfl)) ?_
  refine SO.b4 ?_
  refine SO.openR fun raws124 A125 hrel126 hR127 => ?_
  obtain ⟨x119, hx120, h⟩ := opt_bind h
  obtain ⟨r121, hr122, hc123⟩ := relR.at hrel126 hx120
  refine SO.v rfl (opv_idx Try.underlying39 Try.sizeOf71 hR127 rfl rfl hr122) ?_
  refine SO.v rfl (opv_fieldIdx Try.underlying71 rfl Try.sizeOf24 hR127 hr122 rfl rfl) ?_
  refine SO.storeOP (j := 0) (us := [.int .i64 2, .int .i64 7, .int .i64 (w64 (a0 + 1)), .int .i64 0, .int .i64 0, .int .i64 0]) (z' := ({ x119 with Cap := (⟨2, 7, w64 (a0 + 1), 0, 0, 0⟩ : api_Cap) } : ref10_Slot)) Try.sizeOf24 hrel126 hx120 rfl rfl rfl rfl rfl rfl rfl (fun raws128 hrel129 hR130 => ?_)
  refine SO.nil ?_
  refine S.to (ρ' := [(0, .int .i64 a0), (2, .pointer none), (3, bp b3 0), (4, bp b5 0)]) ⟨rfl, rfl, rfl, rfl, trivial⟩ ?_
  refine S.seq ?_
  obtain ⟨x131, hx132, h⟩ := opt_bind h
  obtain ⟨r133, hr134, hc135⟩ := relR.at hrel129 hx132
  refine S.draw' (Z := fun Q => ∀ (_ : Unit) (_ : Unit) (_ : Unit) (_ : Unit) (_ : Unit) (_ : Unit) (_ : Unit) (_ : Unit), Q [(0, .int .i64 a0), (2, .pointer none), (3, bp b3 0)] [OwnR 71 kr_ref10_Slot u4_Slots ((qu4_Slots_e2.set (0 : Int).toNat ({ x119 with Cap := (⟨2, 7, w64 (a0 + 1), 0, 0, 0⟩ : api_Cap) } : ref10_Slot)).set (1 : Int).toNat ({ x131 with Cap := (⟨2, 7, a0, 0, 0, 8⟩ : api_Cap) } : ref10_Slot)), Box b3 [u4_Slots, u4_Objs, .int .i64 t1.NS, .int .i64 t1.NO], OwnO 38 kr_ref10_Obj u4_Objs raws116 A89 ((((qu4_Objs_e2.set a0.toNat ({ x83 with Radix := 3 } : ref10_Obj)).set (w64 (a0 + 1)).toNat ({ x95 with First := 8 } : ref10_Obj)).set (w64 (a0 + 1)).toNat ({ x103 with Radix := 5 } : ref10_Obj)).set (w64 (a0 + 2)).toNat ({ x111 with Size := 200 } : ref10_Obj)), Own 3 (ekI .i64) v6 ([2, 2, 1, 3, 4, 8, 7, 6]), Box b5 [.int .i64 2, .int .i64 7, .int .i64 a0, .int .i64 0, .int .i64 0, .int .i64 8], F]) (T := [tS 3 (bp b3 0), tS 4 (bp b5 0), tE [(0, .int .i64 a0), (2, .pointer none)], tR (OwnO 71 kr_ref10_Slot u4_Slots raws128 A125 (qu4_Slots_e2.set (0 : Int).toNat ({ x119 with Cap := (⟨2, 7, w64 (a0 + 1), 0, 0, 0⟩ : api_Cap) } : ref10_Slot))), tR (Box b3 [u4_Slots, u4_Objs, .int .i64 t1.NS, .int .i64 t1.NO]), tR (OwnO 38 kr_ref10_Obj u4_Objs raws116 A89 ((((qu4_Objs_e2.set a0.toNat ({ x83 with Radix := 3 } : ref10_Obj)).set (w64 (a0 + 1)).toNat ({ x95 with First := 8 } : ref10_Obj)).set (w64 (a0 + 1)).toNat ({ x103 with Radix := 5 } : ref10_Obj)).set (w64 (a0 + 2)).toNat ({ x111 with Size := 200 } : ref10_Obj))), tR (Own 3 (ekI .i64) v6 ([2, 2, 1, 3, 4, 8, 7, 6])), tR (Box b5 [.int .i64 2, .int .i64 7, .int .i64 a0, .int .i64 0, .int .i64 0, .int .i64 8]), tR (F), tS 114 (bp b3 0), tS 115 (bp b3 0), tS 116 (bp b3 0), tS 117 (u4_Slots), tS 118 (.agg #[.int .i64 2, .int .i64 7, .int .i64 a0, .int .i64 0, .int .i64 0, .int .i64 8]), tS 119 (idxp u4_Slots ((1 : Int).toNat * kr_ref10_Slot.sz)), tS 120 (idxp u4_Slots ((1 : Int).toNat * kr_ref10_Slot.sz)), tR (OwnR 71 kr_ref10_Slot u4_Slots ((qu4_Slots_e2.set (0 : Int).toNat ({ x119 with Cap := (⟨2, 7, w64 (a0 + 1), 0, 0, 0⟩ : api_Cap) } : ref10_Slot)).set (1 : Int).toNat ({ x131 with Cap := (⟨2, 7, a0, 0, 0, 8⟩ : api_Cap) } : ref10_Slot)))]) (D := [⟨[0], [], [9]⟩, ⟨[9], [], [10]⟩, ⟨[10], [], [11]⟩, ⟨[11, 4], [], [12]⟩, ⟨[1, 7], [], [13]⟩, ⟨[12, 3], [], [14]⟩, ⟨[14, 3], [], [15]⟩, ⟨[13, 15], [3], [16]⟩]) (ini := [0, 1, 2, 3, 4, 5, 6, 7, 8]) (fin := [2, 0, 16, 4, 5, 6, 7, 8]) (bf := [[], [0], [0, 1], [0, 1, 2], [], [0, 1, 2, 3, 4], [0, 1, 2, 3, 4, 5], [0, 1, 2, 3, 4, 5, 6]]) (by kernel_rfl) (by kernel_rfl) (fun x w h1 h2 => (.cons () (.cons () (.cons () (.cons () (.cons () (.cons () (.cons () (.cons () (.cons () (.nil ⟨EnvAll.of h1 ⟨rfl, rfl, rfl, rfl, trivial⟩, h2⟩))))))))))) (fun Q => by kernel_rfl) ⟨?_, ?_, ?_, ?_, ?_, ?_, ?_, ?_, trivial⟩ ?_
  · rintro Fr _
    refine SO.v rfl (opv_move rfl) ?_
    exact SO.nilZ fun a w h1 h2 h3 h4 h5 => PZ.of h1 h3 h5 (.cons () (.cons () (.nil ⟨EnvAll.of h2 ⟨rfl, rfl, trivial⟩, h4⟩)))
  · rintro Fr _
    refine SO.v rfl (opv_nilCheck rfl) ?_
    exact SO.nilZ fun a w h1 h2 h3 h4 h5 => PZ.of h1 h3 h5 (.cons () (.cons () (.nil ⟨EnvAll.of h2 ⟨rfl, rfl, trivial⟩, h4⟩)))
  · rintro Fr _
    refine SO.v rfl (opv_fieldAddr Try.underlying42 rfl Try.sizeOf39 rfl rfl) ?_
    exact SO.nilZ fun a w h1 h2 h3 h4 h5 => PZ.of h1 h3 h5 (.cons () (.cons () (.nil ⟨EnvAll.of h2 ⟨rfl, rfl, trivial⟩, h4⟩)))
  · rintro Fr _ _
    refine SO.load1 rfl Try.isAgg39 rfl rfl ?_
    exact SO.nilZ fun a w h1 h2 h3 h4 h5 => PZ.of h1 h3 h5 (.cons () (.cons () (.cons () (.nil ⟨EnvAll.of h2 ⟨rfl, rfl, trivial⟩, h4⟩))))
  · rintro Fr _ _
    refine SO.loadN rfl Try.isAgg24 Try.sizeOf24 rfl rfl rfl ?_
    exact SO.nilZ fun a w h1 h2 h3 h4 h5 => PZ.of h1 h3 h5 (.cons () (.cons () (.cons () (.nil ⟨EnvAll.of h2 ⟨rfl, rfl, trivial⟩, h4⟩))))
  · rintro Fr _ _
    refine SO.v rfl (opv_idx Try.underlying39 Try.sizeOf71 hR130 rfl rfl hr134) ?_
    exact SO.nilZ fun a w h1 h2 h3 h4 h5 => PZ.of h1 h3 h5 (.cons () (.cons () (.cons () (.nil ⟨EnvAll.of h2 ⟨rfl, rfl, trivial⟩, h4⟩))))
  · rintro Fr _ _
    refine SO.v rfl (opv_fieldIdx Try.underlying71 rfl Try.sizeOf24 hR130 hr134 rfl rfl) ?_
    exact SO.nilZ fun a w h1 h2 h3 h4 h5 => PZ.of h1 h3 h5 (.cons () (.cons () (.cons () (.nil ⟨EnvAll.of h2 ⟨rfl, rfl, trivial⟩, h4⟩))))
  · rintro Fr _ _ _
    refine SO.storeOP (j := 0) (us := [.int .i64 2, .int .i64 7, .int .i64 a0, .int .i64 0, .int .i64 0, .int .i64 8]) (z' := ({ x131 with Cap := (⟨2, 7, a0, 0, 0, 8⟩ : api_Cap) } : ref10_Slot)) Try.sizeOf24 hrel129 hx132 rfl rfl rfl rfl rfl rfl rfl (fun raws136 hrel137 hR138 => ?_)
    refine SO.closeR ?_
    exact SO.nilZ fun a w h1 h2 h3 h4 h5 => PZ.of h1 h3 h5 (.cons () (.cons () (.cons () (.nil ⟨EnvAll.of h2 ⟨rfl, rfl, trivial⟩, h4⟩))))
  rintro _ _ _ _ _ _ _ _
  refine S.to (ρ' := [(0, .int .i64 a0), (2, .pointer none), (3, bp b3 0)]) ⟨rfl, rfl, rfl, trivial⟩ ?_
  refine S.seq ?_
  refine S.region ?_
  refine SO.v rfl (opv_move rfl) ?_
  refine SO.v rfl (opv_nilCheck rfl) ?_
  refine SO.v rfl (opv_fieldAddr Try.underlying42 rfl Try.sizeOf3 rfl rfl) ?_
  refine SO.b1 ?_
  refine SO.store1 Try.sizeOf3 rfl rfl rfl rfl ?_
  refine SO.nil ?_
  refine S.seq ?_
  refine S.region ?_
  refine SO.v rfl (opv_move rfl) ?_
  refine SO.v rfl (opv_move rfl) ?_
  refine SO.v rfl (opv_add rfl rfl) ?_
  refine SO.v rfl (opv_nilCheck rfl) ?_
  refine SO.v rfl (opv_fieldAddr Try.underlying42 rfl Try.sizeOf3 rfl rfl) ?_
  refine SO.store1 Try.sizeOf3 rfl rfl rfl rfl ?_
  refine SO.nil ?_
  refine S.to (ρ' := [(2, .pointer none), (3, bp b3 0)]) ⟨rfl, rfl, trivial⟩ ?_
  refine S.seq ?_
  refine S.region ?_
  refine SO.v rfl (opv_move rfl) ?_
  refine SO.v rfl (opv_assign rfl) ?_
  refine SO.nil ?_
  cases h
  refine S.b2 ?_
  refine S.closeR ?_
  refine S.b3 ?_
  refine S.drop ?_
  refine S.b3 ?_
  refine S.drop ?_
  refine S.b3 ?_
  refine S.b1 ?_
  refine S.b3 ?_
  refine S.b3 ?_
  exact S.ret1 Try.func10 rfl rfl (fun w hs hk => hR w _ _ ⟨b3, u4_Slots, u4_Objs, rfl, rfl⟩ hs hk)
end Go.Proofs
namespace Go.Proofs
open Go.Sl Go.RowKit
/-! 28 padstone/padstoneref01.Word -/
def ref01_Word.f (a0 : api_Cap) : Option (Int) :=
  some (wu64 ((wu64 ((wu64 ((wu64 ((wu64 ((wu64 a0.Kind) + (wu64 (16 * (wu64 a0.Rights))))) + (wu64 (128 * (wu64 a0.Obj))))) + (wu64 (4096 * (wu64 a0.Badge))))) + (wu64 (268435456 * (wu64 a0.Bits))))) + (wu64 (4294967296 * (wu64 a0.Guard)))))
set_option maxHeartbeats 8000000 in
set_option maxRecDepth 100000 in
theorem ref01_Word.ct (a0 : api_Cap) (r0 : Int) (h : ref01_Word.f a0 = some r0) :
    Ct Try.prog 28 [.agg #[.int .i64 a0.Kind, .int .i64 a0.Rights, .int .i64 a0.Obj, .int .i64 a0.Badge, .int .i64 a0.Guard, .int .i64 a0.Bits]] (fun _ => True) [] (fun u H' => u = .int .u64 r0 ∧ H' = []) := by
  unfold ref01_Word.f at h
  refine Ct.intro (n := 31) Try.func28 rfl rfl rfl ?_
  intro R w0 F hF hR
  refine S.seq ?_
  refine S.region ?_
  refine SO.box rfl rfl rfl (fun b1 => ?_)
  refine SO.v rfl (opv_assign rfl) ?_
  refine SO.nil ?_
  refine S.seq ?_
  refine S.region ?_
  refine SO.v rfl (opv_fieldAddr Try.underlying24 rfl Try.sizeOf3 rfl rfl) ?_
  refine SO.load1 rfl Try.isAgg3 rfl rfl ?_
  refine SO.v rfl (opv_conv Try.underlying3 Try.underlying72 rfl) ?_
  refine SO.v rfl (opv_fieldAddr Try.underlying24 rfl Try.sizeOf3 rfl rfl) ?_
  refine SO.load1 rfl Try.isAgg3 rfl rfl ?_
  refine SO.v rfl (opv_conv Try.underlying3 Try.underlying72 rfl) ?_
  refine SO.v rfl (opv_mul rfl rfl) ?_
  refine SO.v rfl (opv_add rfl rfl) ?_
  refine SO.v rfl (opv_fieldAddr Try.underlying24 rfl Try.sizeOf3 rfl rfl) ?_
  refine SO.load1 rfl Try.isAgg3 rfl rfl ?_
  refine SO.v rfl (opv_conv Try.underlying3 Try.underlying72 rfl) ?_
  refine SO.v rfl (opv_mul rfl rfl) ?_
  refine SO.v rfl (opv_add rfl rfl) ?_
  refine SO.v rfl (opv_fieldAddr Try.underlying24 rfl Try.sizeOf3 rfl rfl) ?_
  refine SO.load1 rfl Try.isAgg3 rfl rfl ?_
  refine SO.v rfl (opv_conv Try.underlying3 Try.underlying72 rfl) ?_
  refine SO.v rfl (opv_mul rfl rfl) ?_
  refine SO.v rfl (opv_add rfl rfl) ?_
  refine SO.v rfl (opv_fieldAddr Try.underlying24 rfl Try.sizeOf3 rfl rfl) ?_
  refine SO.load1 rfl Try.isAgg3 rfl rfl ?_
  refine SO.v rfl (opv_conv Try.underlying3 Try.underlying72 rfl) ?_
  refine SO.v rfl (opv_mul rfl rfl) ?_
  refine SO.v rfl (opv_add rfl rfl) ?_
  refine SO.v rfl (opv_fieldAddr Try.underlying24 rfl Try.sizeOf3 rfl rfl) ?_
  refine SO.load1 rfl Try.isAgg3 rfl rfl ?_
  refine SO.v rfl (opv_conv Try.underlying3 Try.underlying72 rfl) ?_
  refine SO.v rfl (opv_mul rfl rfl) ?_
  refine SO.v rfl (opv_add rfl rfl) ?_
  refine SO.v rfl (opv_assign rfl) ?_
  refine SO.nil ?_
  refine S.to (ρ' := [(2, .int .u64 (wu64 ((wu64 ((wu64 ((wu64 ((wu64 ((wu64 a0.Kind) + (wu64 (16 * (wu64 a0.Rights))))) + (wu64 (128 * (wu64 a0.Obj))))) + (wu64 (4096 * (wu64 a0.Badge))))) + (wu64 (268435456 * (wu64 a0.Bits))))) + (wu64 (4294967296 * (wu64 a0.Guard))))))]) ⟨rfl, trivial⟩ ?_
  cases h
  refine S.drop ?_
  exact S.ret1 Try.func28 rfl rfl (fun w hs hk => hR w _ _ ⟨rfl, rfl⟩ hs hk)
end Go.Proofs
namespace Go.Proofs
open Go.Sl Go.RowKit
/-! 11 (*padstone/padstoneref10.State).Words -/
def ref10_State_Words.l2 (x4_1 : Int) (x11 : ref10_Slot) : Nat → (Int × (List Int)) → Option ((List Int))
  | 0, _ => none
  | k + 1, (x6_2, qv5_2) => bif decide (x6_2 < (x11.Kids.length : Int)) then ((at_ x11.Kids x6_2).bind fun x30 => (bif x6_2 == 0 then ((at_ qv5_2 (w64 ((w64 (5 * x4_1)) + 2))).bind fun x33 => some (qv5_2.set (w64 ((w64 (5 * x4_1)) + 2)).toNat (wu64 (w64 (x30 + 1))))) else ((at_ x11.Kids (w64 (x6_2 - 1))).bind fun x36 => (at_ qv5_2 (w64 ((w64 (5 * x30)) + 4))).bind fun x38 => some (qv5_2.set (w64 ((w64 (5 * x30)) + 4)).toNat (wu64 (w64 (x36 + 1)))))).bind fun qv5_3 => bif decide ((w64 (x6_2 + 1)) < (x11.Kids.length : Int)) then ((at_ x11.Kids (w64 (x6_2 + 1))).bind fun x43 => (at_ qv5_3 (w64 ((w64 (5 * x30)) + 3))).bind fun x45 => ref10_State_Words.l2 x4_1 x11 k (w64 (x6_2 + 1), qv5_3.set (w64 ((w64 (5 * x30)) + 3)).toNat (wu64 (w64 (x43 + 1))))) else (ref10_State_Words.l2 x4_1 x11 k (w64 (x6_2 + 1), qv5_3))) else (some qv5_2)
def ref10_State_Words.l1 (a0 : ref10_State) : Nat → (Int × (List Int)) → Option ((List Int))
  | 0, _ => none
  | k + 1, (x4_1, qv5_1) => bif decide (x4_1 < 96) then ((at_ a0.Slots x4_1).bind fun x11 => (ref01_Word.f x11.Cap).bind fun t20 => (at_ qv5_1 (w64 (5 * x4_1))).bind fun x22 => (at_ (qv5_1.set (w64 (5 * x4_1)).toNat t20) (w64 ((w64 (5 * x4_1)) + 1))).bind fun x25 => (ref10_State_Words.l2 x4_1 x11 k (0, (qv5_1.set (w64 (5 * x4_1)).toNat t20).set (w64 ((w64 (5 * x4_1)) + 1)).toNat (wu64 (w64 (x11.Parent + 1))))).bind fun qv5_e2 => ref10_State_Words.l1 a0 k (w64 (x4_1 + 1), qv5_e2)) else (some qv5_1)
def ref10_State_Words.l6 (x8_4 : Int) (x52 : ref10_Obj) : Nat → (Int × (List Int)) → Option ((List Int))
  | 0, _ => none
  | k + 1, (x11_6, qv5_6) => bif decide (x11_6 < 4) then ((A4.get x52.Pages x11_6).bind fun x123 => bif decide (0 ≤ x123) then ((A4.get x52.Pages x11_6).bind fun x126 => (A4.get x52.Right x11_6).bind fun x128 => (at_ qv5_6 (w64 ((w64 ((w64 (480 + (w64 (8 * x8_4)))) + 1)) + x11_6))).bind fun x130 => ref10_State_Words.l6 x8_4 x52 k (w64 (x11_6 + 1), qv5_6.set (w64 ((w64 ((w64 (480 + (w64 (8 * x8_4)))) + 1)) + x11_6)).toNat (wu64 (w64 ((w64 (8 * (w64 (x126 + 1)))) + x128))))) else (ref10_State_Words.l6 x8_4 x52 k (w64 (x11_6 + 1), qv5_6))) else (some qv5_6)
def ref10_State_Words.l7 (x8_4 : Int) (x52 : ref10_Obj) : Nat → (Int × (List Int)) → Option ((List Int))
  | 0, _ => none
  | k + 1, (x12_7, qv5_7) => bif decide (x12_7 < (x52.Queue.length : Int)) then ((at_ x52.Queue x12_7).bind fun x148 => (bif x12_7 == 0 then ((at_ qv5_7 (w64 ((w64 (480 + (w64 (8 * x8_4)))) + 2))).bind fun x151 => some (qv5_7.set (w64 ((w64 (480 + (w64 (8 * x8_4)))) + 2)).toNat (wu64 (w64 (x148 + 1))))) else (some qv5_7)).bind fun qv5_8 => bif decide ((w64 (x12_7 + 1)) < (x52.Queue.length : Int)) then ((at_ x52.Queue (w64 (x12_7 + 1))).bind fun x156 => (at_ qv5_8 (w64 ((w64 (480 + (w64 (8 * x148)))) + 2))).bind fun x158 => ref10_State_Words.l7 x8_4 x52 k (w64 (x12_7 + 1), qv5_8.set (w64 ((w64 (480 + (w64 (8 * x148)))) + 2)).toNat (wu64 (w64 (x156 + 1))))) else ((at_ qv5_8 (w64 ((w64 (480 + (w64 (8 * x8_4)))) + 3))).bind fun x161 => ref10_State_Words.l7 x8_4 x52 k (w64 (x12_7 + 1), qv5_8.set (w64 ((w64 (480 + (w64 (8 * x8_4)))) + 3)).toNat (wu64 (w64 (x148 + 1)))))) else (some qv5_7)
def ref10_State_Words.l4 (a0 : ref10_State) : Nat → (Int × (List Int)) → Option ((List Int))
  | 0, _ => none
  | k + 1, (x8_4, qv5_4) => bif decide (x8_4 < 32) then ((at_ a0.Objs x8_4).bind fun x52 => (at_ qv5_4 (w64 (480 + (w64 (8 * x8_4))))).bind fun x61 => (bif x52.Kind == 1 then ((at_ (qv5_4.set (w64 (480 + (w64 (8 * x8_4)))).toNat (wu64 x52.Kind)) (w64 ((w64 (480 + (w64 (8 * x8_4)))) + 1))).bind fun x65 => (at_ ((qv5_4.set (w64 (480 + (w64 (8 * x8_4)))).toNat (wu64 x52.Kind)).set (w64 ((w64 (480 + (w64 (8 * x8_4)))) + 1)).toNat (wu64 x52.Size)) (w64 ((w64 (480 + (w64 (8 * x8_4)))) + 2))).bind fun x68 => some (((qv5_4.set (w64 (480 + (w64 (8 * x8_4)))).toNat (wu64 x52.Kind)).set (w64 ((w64 (480 + (w64 (8 * x8_4)))) + 1)).toNat (wu64 x52.Size)).set (w64 ((w64 (480 + (w64 (8 * x8_4)))) + 2)).toNat (wu64 x52.Used))) else (bif x52.Kind == 2 then ((at_ (qv5_4.set (w64 (480 + (w64 (8 * x8_4)))).toNat (wu64 x52.Kind)) (w64 ((w64 (480 + (w64 (8 * x8_4)))) + 1))).bind fun x72 => (at_ ((qv5_4.set (w64 (480 + (w64 (8 * x8_4)))).toNat (wu64 x52.Kind)).set (w64 ((w64 (480 + (w64 (8 * x8_4)))) + 1)).toNat (wu64 x52.First)) (w64 ((w64 (480 + (w64 (8 * x8_4)))) + 2))).bind fun x75 => some (((qv5_4.set (w64 (480 + (w64 (8 * x8_4)))).toNat (wu64 x52.Kind)).set (w64 ((w64 (480 + (w64 (8 * x8_4)))) + 1)).toNat (wu64 x52.First)).set (w64 ((w64 (480 + (w64 (8 * x8_4)))) + 2)).toNat (wu64 x52.Radix))) else (bif x52.Kind == 3 then ((at_ (qv5_4.set (w64 (480 + (w64 (8 * x8_4)))).toNat (wu64 x52.Kind)) (w64 ((w64 (480 + (w64 (8 * x8_4)))) + 1))).bind fun x79 => some ((qv5_4.set (w64 (480 + (w64 (8 * x8_4)))).toNat (wu64 x52.Kind)).set (w64 ((w64 (480 + (w64 (8 * x8_4)))) + 1)).toNat (wu64 x52.Wait))) else (bif x52.Kind == 4 then ((at_ (qv5_4.set (w64 (480 + (w64 (8 * x8_4)))).toNat (wu64 x52.Kind)) (w64 ((w64 (480 + (w64 (8 * x8_4)))) + 1))).bind fun x83 => some ((qv5_4.set (w64 (480 + (w64 (8 * x8_4)))).toNat (wu64 x52.Kind)).set (w64 ((w64 (480 + (w64 (8 * x8_4)))) + 1)).toNat (wu64 x52.Word))) else (bif x52.Kind == 5 then ((at_ (qv5_4.set (w64 (480 + (w64 (8 * x8_4)))).toNat (wu64 x52.Kind)) (w64 ((w64 (480 + (w64 (8 * x8_4)))) + 1))).bind fun x87 => (at_ ((qv5_4.set (w64 (480 + (w64 (8 * x8_4)))).toNat (wu64 x52.Kind)).set (w64 ((w64 (480 + (w64 (8 * x8_4)))) + 1)).toNat (wu64 x52.State)) (w64 ((w64 (480 + (w64 (8 * x8_4)))) + 2))).bind fun x90 => (at_ ((qv5_4.set (w64 (480 + (w64 (8 * x8_4)))).toNat (wu64 x52.Kind)).set (w64 ((w64 (480 + (w64 (8 * x8_4)))) + 1)).toNat (wu64 x52.State)) (w64 ((w64 (480 + (w64 (8 * x8_4)))) + 2))).bind fun x92 => (at_ (((qv5_4.set (w64 (480 + (w64 (8 * x8_4)))).toNat (wu64 x52.Kind)).set (w64 ((w64 (480 + (w64 (8 * x8_4)))) + 1)).toNat (wu64 x52.State)).set (w64 ((w64 (480 + (w64 (8 * x8_4)))) + 2)).toNat (wu64 (x90 + (wu64 (w64 (x52.Owing + 1)))))) (w64 ((w64 (480 + (w64 (8 * x8_4)))) + 3))).bind fun x96 => (at_ ((((qv5_4.set (w64 (480 + (w64 (8 * x8_4)))).toNat (wu64 x52.Kind)).set (w64 ((w64 (480 + (w64 (8 * x8_4)))) + 1)).toNat (wu64 x52.State)).set (w64 ((w64 (480 + (w64 (8 * x8_4)))) + 2)).toNat (wu64 (x90 + (wu64 (w64 (x52.Owing + 1)))))).set (w64 ((w64 (480 + (w64 (8 * x8_4)))) + 3)).toNat (wu64 x52.Word)) (w64 ((w64 (480 + (w64 (8 * x8_4)))) + 4))).bind fun x99 => (at_ (((((qv5_4.set (w64 (480 + (w64 (8 * x8_4)))).toNat (wu64 x52.Kind)).set (w64 ((w64 (480 + (w64 (8 * x8_4)))) + 1)).toNat (wu64 x52.State)).set (w64 ((w64 (480 + (w64 (8 * x8_4)))) + 2)).toNat (wu64 (x90 + (wu64 (w64 (x52.Owing + 1)))))).set (w64 ((w64 (480 + (w64 (8 * x8_4)))) + 3)).toNat (wu64 x52.Word)).set (w64 ((w64 (480 + (w64 (8 * x8_4)))) + 4)).toNat (wu64 x52.Badge)) (w64 ((w64 (480 + (w64 (8 * x8_4)))) + 5))).bind fun x102 => (at_ ((((((qv5_4.set (w64 (480 + (w64 (8 * x8_4)))).toNat (wu64 x52.Kind)).set (w64 ((w64 (480 + (w64 (8 * x8_4)))) + 1)).toNat (wu64 x52.State)).set (w64 ((w64 (480 + (w64 (8 * x8_4)))) + 2)).toNat (wu64 (x90 + (wu64 (w64 (x52.Owing + 1)))))).set (w64 ((w64 (480 + (w64 (8 * x8_4)))) + 3)).toNat (wu64 x52.Word)).set (w64 ((w64 (480 + (w64 (8 * x8_4)))) + 4)).toNat (wu64 x52.Badge)).set (w64 ((w64 (480 + (w64 (8 * x8_4)))) + 5)).toNat (wu64 (w64 (x52.Prio + (w64 (256 * (w64 (x52.On + 1)))))))) (w64 ((w64 (480 + (w64 (8 * x8_4)))) + 6))).bind fun x105 => (ref01_Word.f x52.Root).bind fun t108 => (at_ (((((((qv5_4.set (w64 (480 + (w64 (8 * x8_4)))).toNat (wu64 x52.Kind)).set (w64 ((w64 (480 + (w64 (8 * x8_4)))) + 1)).toNat (wu64 x52.State)).set (w64 ((w64 (480 + (w64 (8 * x8_4)))) + 2)).toNat (wu64 (x90 + (wu64 (w64 (x52.Owing + 1)))))).set (w64 ((w64 (480 + (w64 (8 * x8_4)))) + 3)).toNat (wu64 x52.Word)).set (w64 ((w64 (480 + (w64 (8 * x8_4)))) + 4)).toNat (wu64 x52.Badge)).set (w64 ((w64 (480 + (w64 (8 * x8_4)))) + 5)).toNat (wu64 (w64 (x52.Prio + (w64 (256 * (w64 (x52.On + 1)))))))).set (w64 ((w64 (480 + (w64 (8 * x8_4)))) + 6)).toNat (wu64 (w64 (x52.Owes + 1)))) (w64 ((w64 (480 + (w64 (8 * x8_4)))) + 7))).bind fun x110 => some ((((((((qv5_4.set (w64 (480 + (w64 (8 * x8_4)))).toNat (wu64 x52.Kind)).set (w64 ((w64 (480 + (w64 (8 * x8_4)))) + 1)).toNat (wu64 x52.State)).set (w64 ((w64 (480 + (w64 (8 * x8_4)))) + 2)).toNat (wu64 (x90 + (wu64 (w64 (x52.Owing + 1)))))).set (w64 ((w64 (480 + (w64 (8 * x8_4)))) + 3)).toNat (wu64 x52.Word)).set (w64 ((w64 (480 + (w64 (8 * x8_4)))) + 4)).toNat (wu64 x52.Badge)).set (w64 ((w64 (480 + (w64 (8 * x8_4)))) + 5)).toNat (wu64 (w64 (x52.Prio + (w64 (256 * (w64 (x52.On + 1)))))))).set (w64 ((w64 (480 + (w64 (8 * x8_4)))) + 6)).toNat (wu64 (w64 (x52.Owes + 1)))).set (w64 ((w64 (480 + (w64 (8 * x8_4)))) + 7)).toNat t108)) else (bif x52.Kind == 6 then ((at_ (qv5_4.set (w64 (480 + (w64 (8 * x8_4)))).toNat (wu64 x52.Kind)) (w64 ((w64 (480 + (w64 (8 * x8_4)))) + 1))).bind fun x114 => (at_ ((qv5_4.set (w64 (480 + (w64 (8 * x8_4)))).toNat (wu64 x52.Kind)).set (w64 ((w64 (480 + (w64 (8 * x8_4)))) + 1)).toNat (wu64 (w64 (x52.In + 1)))) (w64 ((w64 (480 + (w64 (8 * x8_4)))) + 2))).bind fun x117 => some (((qv5_4.set (w64 (480 + (w64 (8 * x8_4)))).toNat (wu64 x52.Kind)).set (w64 ((w64 (480 + (w64 (8 * x8_4)))) + 1)).toNat (wu64 (w64 (x52.In + 1)))).set (w64 ((w64 (480 + (w64 (8 * x8_4)))) + 2)).toNat (wu64 x52.Page))) else (bif x52.Kind == 7 then ((ref10_State_Words.l6 x8_4 x52 k (0, qv5_4.set (w64 (480 + (w64 (8 * x8_4)))).toNat (wu64 x52.Kind))).bind fun qv5_e6 => some qv5_e6) else (bif x52.Kind == 8 then ((at_ (qv5_4.set (w64 (480 + (w64 (8 * x8_4)))).toNat (wu64 x52.Kind)) (w64 ((w64 (480 + (w64 (8 * x8_4)))) + 1))).bind fun x136 => (at_ ((qv5_4.set (w64 (480 + (w64 (8 * x8_4)))).toNat (wu64 x52.Kind)).set (w64 ((w64 (480 + (w64 (8 * x8_4)))) + 1)).toNat (wu64 (w64 (x52.Bound + 1)))) (w64 ((w64 (480 + (w64 (8 * x8_4)))) + 2))).bind fun x139 => (at_ (((qv5_4.set (w64 (480 + (w64 (8 * x8_4)))).toNat (wu64 x52.Kind)).set (w64 ((w64 (480 + (w64 (8 * x8_4)))) + 1)).toNat (wu64 (w64 (x52.Bound + 1)))).set (w64 ((w64 (480 + (w64 (8 * x8_4)))) + 2)).toNat (wu64 x52.Badge)) (w64 ((w64 (480 + (w64 (8 * x8_4)))) + 3))).bind fun x142 => some ((((qv5_4.set (w64 (480 + (w64 (8 * x8_4)))).toNat (wu64 x52.Kind)).set (w64 ((w64 (480 + (w64 (8 * x8_4)))) + 1)).toNat (wu64 (w64 (x52.Bound + 1)))).set (w64 ((w64 (480 + (w64 (8 * x8_4)))) + 2)).toNat (wu64 x52.Badge)).set (w64 ((w64 (480 + (w64 (8 * x8_4)))) + 3)).toNat (wu64 x52.Mask))) else (some (qv5_4.set (w64 (480 + (w64 (8 * x8_4)))).toNat (wu64 x52.Kind))))))))))).bind fun qv5_5 => (ref10_State_Words.l7 x8_4 x52 k (0, qv5_5)).bind fun qv5_e7 => ref10_State_Words.l4 a0 k (w64 (x8_4 + 1), qv5_e7)) else (some qv5_4)
def ref10_State_Words.f (k : Nat) (a0 : ref10_State) : Option ((List Int)) :=
  (mk_ 0 738).bind fun xs7 => (ref10_State_Words.l1 a0 k (0, xs7)).bind fun qv5_e1 => (ref10_State_Words.l4 a0 k (0, qv5_e1)).bind fun qv5_e4 => (at_ qv5_e4 736).bind fun x166 => (at_ (qv5_e4.set (736 : Int).toNat (wu64 a0.NS)) 737).bind fun x169 => some ((qv5_e4.set (736 : Int).toNat (wu64 a0.NS)).set (737 : Int).toNat (wu64 a0.NO))
set_option maxHeartbeats 8000000 in
set_option maxRecDepth 100000 in
theorem ref10_State_Words.ct (k : Nat) (bp0 : Nat) (v0_Slots : Value) (v0_Objs : Value) (raws_v0_Slots : List (Raw (kr_ref10_Slot).sz)) (A_v0_Slots : HProp) (raws_v0_Objs : List (Raw (kr_ref10_Obj).sz)) (A_v0_Objs : HProp) (a0 : ref10_State) (r0 : List Int) (h : ref10_State_Words.f k a0 = some r0) :
    Ct Try.prog 11 [bp bp0 0] (fun _ => True) [Box bp0 [v0_Slots, v0_Objs, .int .i64 a0.NS, .int .i64 a0.NO], OwnO 71 kr_ref10_Slot v0_Slots raws_v0_Slots A_v0_Slots a0.Slots, OwnO 38 kr_ref10_Obj v0_Objs raws_v0_Objs A_v0_Objs a0.Objs] (fun u H' => ∃ v_r0, u = v_r0 ∧ H' = [Own 72 (ekI .u64) v_r0 r0, Box bp0 [v0_Slots, v0_Objs, .int .i64 a0.NS, .int .i64 a0.NO], OwnO 71 kr_ref10_Slot v0_Slots raws_v0_Slots A_v0_Slots a0.Slots, OwnO 38 kr_ref10_Obj v0_Objs raws_v0_Objs A_v0_Objs a0.Objs]) := by
  unfold ref10_State_Words.f at h
  refine Ct.intro (n := 365) Try.func11 rfl rfl rfl ?_
  intro R w0 F hF hR
  refine S.b1 ?_
  refine S.rdO fun hrel1 hR2 => ?_
  refine S.b2 ?_
  refine S.rdO fun hrel3 hR4 => ?_
  refine S.seq ?_
  refine S.region ?_
  refine SO.v rfl (opv_assign rfl) ?_
  refine SO.nil ?_
  refine S.seq ?_
  refine S.region ?_
  obtain ⟨xs7, hx8, h⟩ := opt_bind h
  refine SO.makeSlice (K := ekI .u64) rfl Try.underlying22 inf72 rfl rfl rfl (by decide) rfl rfl rfl hx8 (fun v5 hr6 => ?_)
  refine SO.v rfl (opv_assign rfl) ?_
  refine SO.nil ?_
  refine S.seq ?_
  refine S.seq ?_
  refine S.region ?_
  refine SO.v rfl (opv_assign rfl) ?_
  refine SO.nil ?_
  obtain ⟨qv5_e1, hl1, h⟩ := opt_bind h
  refine S.b4 ?_
  refine S.b4 ?_
  refine S.b4 ?_
  refine S.b4 ?_
  refine S.b4 ?_
  refine S.to (ρ' := [(4, .int .i64 0), (3, v5), (2, .slice none 0 0), (0, bp bp0 0)]) ⟨rfl, rfl, rfl, rfl, trivial⟩ ?_
  refine S.forloop (X := (Int × (List Int)) × Unit) (O := (List Int)) (fun m x => ref10_State_Words.l1 a0 m x.1) (fun x => match x with | ((x4_1, qv5_1), _) => [(4, .int .i64 x4_1), (3, v5), (2, .slice none 0 0), (0, bp bp0 0)]) (fun x => match x with | ((x4_1, qv5_1), _) => [Own 72 (ekI .u64) v5 qv5_1, OwnO 38 kr_ref10_Obj v0_Objs raws_v0_Objs A_v0_Objs a0.Objs, OwnO 71 kr_ref10_Slot v0_Slots raws_v0_Slots A_v0_Slots a0.Slots, Box bp0 [v0_Slots, v0_Objs, .int .i64 a0.NS, .int .i64 a0.NO], F]) (fun Sk => (fun qv5_e1 => ∀ _ : Unit, Sk [(0, bp bp0 0), (2, .slice none 0 0), (3, v5)] [Own 72 (ekI .u64) v5 qv5_e1, OwnO 38 kr_ref10_Obj v0_Objs raws_v0_Objs A_v0_Objs a0.Objs, OwnO 71 kr_ref10_Slot v0_Slots raws_v0_Slots A_v0_Slots a0.Slots, Box bp0 [v0_Slots, v0_Objs, .int .i64 a0.NS, .int .i64 a0.NO], F])) (fun _ => rfl) ?_ (m := k) (x := ((0, xs7), ())) hl1 ?_
  · clear h hl1
    intro k x o_1 h hK1 ih1
    obtain ⟨⟨x4_1, qv5_1⟩, _⟩ := x
    replace h : ref10_State_Words.l1 a0 (k + 1) (x4_1, qv5_1) = some o_1 := h
    first | rw [ref10_State_Words.l1] at h | unfold ref10_State_Words.l1 at h
    refine S.rd fun hr9 => ?_
    refine S.seq ?_
    refine S.seq ?_
    refine S.region ?_
    refine SO.v rfl (opv_move rfl) ?_
    refine SO.v rfl (opv_lss rfl rfl) ?_
    refine SO.nil ?_
    rcases bool_or (decide (x4_1 < 96)) with b10 | b10
    · replace h := cond_t b10 h
      refine S.condT rfl b10 ?_
      refine S.skip ?_
      refine S.seq ?_
      refine S.block ?_
      refine S.seq ?_
      refine S.region ?_
      refine SO.v rfl (opv_move rfl) ?_
      refine SO.v rfl (opv_nilCheck rfl) ?_
      refine SO.v rfl (opv_fieldAddr Try.underlying42 rfl Try.sizeOf39 rfl rfl) ?_
      refine SO.b3 ?_
      refine SO.load1 rfl Try.isAgg39 rfl rfl ?_
      refine SO.v rfl (opv_move rfl) ?_
      obtain ⟨x11, hx12, h⟩ := opt_bind h
      obtain ⟨r13, hr14, hc15⟩ := relR.at hrel1 hx12
      refine SO.v rfl (opv_idx Try.underlying39 Try.sizeOf71 hR2 rfl rfl hr14) ?_
      refine hc15.rip fun u16 hru17 e18 => ?_
      refine SO.loadIN rfl Try.isAgg71 Try.sizeOf71 (Rd.tail (Rd.tail (Rd.tail (Rd.head hR2)))) hr14 rfl rfl e18 ?_
      refine SO.alloc rfl Try.zeroValue71 rfl (fun b19 => ?_)
      refine SO.storeN Try.sizeOf71 rfl rfl (all1 rfl (all1 rfl (all1 rfl (all1 rfl (all1 rfl (all1 rfl (all1 rfl (all1 (Rd.one hru17) rfl)))))))) rfl rfl rfl ?_
      refine SO.nil ?_
      refine S.to (ρ' := [(4, .int .i64 x4_1), (3, v5), (2, .slice none 0 0), (0, bp bp0 0), (5, bp b19 0)]) ⟨rfl, rfl, rfl, rfl, rfl, trivial⟩ ?_
      refine S.seq ?_
      refine S.region ?_
      refine SO.v rfl (opv_move rfl) ?_
      refine SO.v rfl (opv_move rfl) ?_
      refine SO.v rfl (opv_mul rfl rfl) ?_
      refine SO.v rfl (opv_fieldAddr Try.underlying71 rfl Try.sizeOf24 rfl rfl) ?_
      refine SO.loadN rfl Try.isAgg24 Try.sizeOf24 rfl rfl rfl ?_
      obtain ⟨t20, ht21, h⟩ := opt_bind h
      refine SO.call (pre := []) rfl Try.call28 rfl rfl rfl (ref01_Word.ct _ _ ht21) trivial ?_
      rintro _ _ ⟨rfl, rfl⟩
      obtain ⟨x22, hx23, h⟩ := opt_bind h
      refine SO.v rfl (opv_idx Try.underlying22 Try.sizeOf72 hr9 rfl rfl hx23) ?_
      refine SO.b2 ?_
      refine SO.storeI1 (j := 0) (z' := t20) Try.sizeOf72 hx23 rfl rfl rfl rfl rfl rfl ?_
      refine SO.rd fun hr24 => ?_
      refine SO.nil ?_
      refine S.to (ρ' := [(4, .int .i64 x4_1), (3, v5), (2, .slice none 0 0), (0, bp bp0 0), (5, bp b19 0)]) ⟨rfl, rfl, rfl, rfl, rfl, trivial⟩ ?_
      refine S.seq ?_
      refine S.region ?_
      refine SO.v rfl (opv_move rfl) ?_
      refine SO.v rfl (opv_move rfl) ?_
      refine SO.v rfl (opv_mul rfl rfl) ?_
      refine SO.v rfl (opv_add rfl rfl) ?_
      refine SO.v rfl (opv_fieldAddr Try.underlying71 rfl Try.sizeOf3 rfl rfl) ?_
      refine SO.b1 ?_
      refine SO.load1 rfl Try.isAgg3 rfl rfl ?_
      refine SO.v rfl (opv_add rfl rfl) ?_
      refine SO.v rfl (opv_conv Try.underlying3 Try.underlying72 rfl) ?_
      obtain ⟨x25, hx26, h⟩ := opt_bind h
      refine SO.v rfl (opv_idx Try.underlying22 Try.sizeOf72 hr24 rfl rfl hx26) ?_
      refine SO.b1 ?_
      refine SO.storeI1 (j := 0) (z' := wu64 (w64 (x11.Parent + 1))) Try.sizeOf72 hx26 rfl rfl rfl rfl rfl rfl ?_
      refine SO.rd fun hr27 => ?_
      refine SO.nil ?_
      refine S.to (ρ' := [(4, .int .i64 x4_1), (3, v5), (2, .slice none 0 0), (0, bp bp0 0), (5, bp b19 0)]) ⟨rfl, rfl, rfl, rfl, rfl, trivial⟩ ?_
      refine S.seq ?_
      refine S.region ?_
      refine SO.v rfl (opv_assign rfl) ?_
      refine SO.nil ?_
      obtain ⟨qv5_e2, hl2, h⟩ := opt_bind h
      refine S.b5 ?_
      refine S.b5 ?_
      refine S.b5 ?_
      refine S.b5 ?_
      refine S.b5 ?_
      refine S.b5 ?_
      refine S.to (ρ' := [(6, .int .i64 0), (4, .int .i64 x4_1), (3, v5), (2, .slice none 0 0), (0, bp bp0 0), (5, bp b19 0)]) ⟨rfl, rfl, rfl, rfl, rfl, rfl, trivial⟩ ?_
      refine S.forloop (X := (Int × (List Int)) × Unit) (O := (List Int)) (fun m x => ref10_State_Words.l2 x4_1 x11 m x.1) (fun x => match x with | ((x6_2, qv5_2), _) => [(6, .int .i64 x6_2), (4, .int .i64 x4_1), (3, v5), (2, .slice none 0 0), (0, bp bp0 0), (5, bp b19 0)]) (fun x => match x with | ((x6_2, qv5_2), _) => [Own 72 (ekI .u64) v5 qv5_2, Box b19 [.int .i64 x11.Cap.Kind, .int .i64 x11.Cap.Rights, .int .i64 x11.Cap.Obj, .int .i64 x11.Cap.Badge, .int .i64 x11.Cap.Guard, .int .i64 x11.Cap.Bits, .int .i64 x11.Parent, u16], Box bp0 [v0_Slots, v0_Objs, .int .i64 a0.NS, .int .i64 a0.NO], OwnO 38 kr_ref10_Obj v0_Objs raws_v0_Objs A_v0_Objs a0.Objs, OwnO 71 kr_ref10_Slot v0_Slots raws_v0_Slots A_v0_Slots a0.Slots, F]) (fun Sk => (fun qv5_e2 => ∀ _ : Unit, Sk [(0, bp bp0 0), (2, .slice none 0 0), (3, v5), (4, .int .i64 x4_1)] [Own 72 (ekI .u64) v5 qv5_e2, Box b19 [.int .i64 x11.Cap.Kind, .int .i64 x11.Cap.Rights, .int .i64 x11.Cap.Obj, .int .i64 x11.Cap.Badge, .int .i64 x11.Cap.Guard, .int .i64 x11.Cap.Bits, .int .i64 x11.Parent, u16], Box bp0 [v0_Slots, v0_Objs, .int .i64 a0.NS, .int .i64 a0.NO], OwnO 38 kr_ref10_Obj v0_Objs raws_v0_Objs A_v0_Objs a0.Objs, OwnO 71 kr_ref10_Slot v0_Slots raws_v0_Slots A_v0_Slots a0.Slots, F])) (fun _ => rfl) ?_ (m := k) (x := ((0, (qv5_1.set (w64 (5 * x4_1)).toNat t20).set (w64 ((w64 (5 * x4_1)) + 1)).toNat (wu64 (w64 (x11.Parent + 1)))), ())) hl2 ?_
      · clear h hl2
        intro k x o_2 h hK2 ih2
        obtain ⟨⟨x6_2, qv5_2⟩, _⟩ := x
        replace h : ref10_State_Words.l2 x4_1 x11 (k + 1) (x6_2, qv5_2) = some o_2 := h
        first | rw [ref10_State_Words.l2] at h | unfold ref10_State_Words.l2 at h
        refine S.rd fun hr28 => ?_
        refine S.seq ?_
        refine S.seq ?_
        refine S.region ?_
        refine SO.v rfl (opv_move rfl) ?_
        refine SO.v rfl (opv_fieldAddr Try.underlying71 rfl Try.sizeOf35 rfl rfl) ?_
        refine SO.b1 ?_
        refine SO.load1 rfl Try.isAgg35 rfl rfl ?_
        refine SO.v rfl (opv_lenR rfl Try.underlying35 hru17 rfl) ?_
        refine SO.v rfl (opv_lss rfl rfl) ?_
        refine SO.nil ?_
        rcases bool_or (decide (x6_2 < (x11.Kids.length : Int))) with b29 | b29
        · replace h := cond_t b29 h
          refine S.condT rfl b29 ?_
          refine S.skip ?_
          refine S.seq ?_
          refine S.block ?_
          refine S.seq ?_
          refine S.region ?_
          refine SO.v rfl (opv_fieldAddr Try.underlying71 rfl Try.sizeOf35 rfl rfl) ?_
          refine SO.load1 rfl Try.isAgg35 rfl rfl ?_
          refine SO.v rfl (opv_move rfl) ?_
          obtain ⟨x30, hx31, h⟩ := opt_bind h
          refine SO.v rfl (opv_idx Try.underlying35 Try.sizeOf3 hru17 rfl rfl hx31) ?_
          refine SO.loadI1 (j := 0) rfl Try.isAgg3 (Rd.tail (Rd.tail (Rd.tail (Rd.tail (Rd.head (Rd.pool hru17)))))) hx31 rfl rfl rfl rfl ?_
          refine SO.v rfl (opv_assign rfl) ?_
          refine SO.nil ?_
          refine S.to (ρ' := [(6, .int .i64 x6_2), (4, .int .i64 x4_1), (3, v5), (2, .slice none 0 0), (0, bp bp0 0), (5, bp b19 0), (7, .int .i64 x30)]) ⟨rfl, rfl, rfl, rfl, rfl, rfl, rfl, trivial⟩ ?_
          refine S.seq ?_
          refine S.seq ?_
          refine S.region ?_
          refine SO.v rfl (opv_move rfl) ?_
          refine SO.v rfl (opv_eql rfl rfl) ?_
          refine SO.nil ?_
          obtain ⟨qv5_3, hC3, hJ3⟩ := opt_bind h
          clear h
          refine S.cutP (G := Unit) (fun _ => True) (fun _ => [(0, bp bp0 0), (2, .slice none 0 0), (3, v5), (4, .int .i64 x4_1), (5, bp b19 0), (6, .int .i64 x6_2), (7, .int .i64 x30)]) (fun _ => [Box b19 [.int .i64 x11.Cap.Kind, .int .i64 x11.Cap.Rights, .int .i64 x11.Cap.Obj, .int .i64 x11.Cap.Badge, .int .i64 x11.Cap.Guard, .int .i64 x11.Cap.Bits, .int .i64 x11.Parent, u16], Own 72 (ekI .u64) v5 qv5_3, Box bp0 [v0_Slots, v0_Objs, .int .i64 a0.NS, .int .i64 a0.NO], OwnO 38 kr_ref10_Obj v0_Objs raws_v0_Objs A_v0_Objs a0.Objs, OwnO 71 kr_ref10_Slot v0_Slots raws_v0_Slots A_v0_Slots a0.Slots, F]) (fun hk3 => ?_) ?_
          · replace h := hC3
            rcases bool_or (x6_2 == 0) with b32 | b32
            · replace h := cond_t b32 h
              refine S.condT rfl b32 ?_
              refine S.region ?_
              refine SO.v rfl (opv_move rfl) ?_
              refine SO.v rfl (opv_move rfl) ?_
              refine SO.v rfl (opv_mul rfl rfl) ?_
              refine SO.v rfl (opv_add rfl rfl) ?_
              refine SO.v rfl (opv_move rfl) ?_
              refine SO.v rfl (opv_add rfl rfl) ?_
              refine SO.v rfl (opv_conv Try.underlying3 Try.underlying72 rfl) ?_
              obtain ⟨x33, hx34, h⟩ := opt_bind h
              refine SO.v rfl (opv_idx Try.underlying22 Try.sizeOf72 hr28 rfl rfl hx34) ?_
              refine SO.b1 ?_
              refine SO.storeI1 (j := 0) (z' := wu64 (w64 (x30 + 1))) Try.sizeOf72 hx34 rfl rfl rfl rfl rfl rfl ?_
              refine SO.rd fun hr35 => ?_
              refine SO.nil ?_
              refine S.to (ρ' := [(6, .int .i64 x6_2), (4, .int .i64 x4_1), (3, v5), (2, .slice none 0 0), (0, bp bp0 0), (5, bp b19 0), (7, .int .i64 x30)]) ⟨rfl, rfl, rfl, rfl, rfl, rfl, rfl, trivial⟩ ?_
              cases h
              refine S.b5 ?_
              refine S.b5 ?_
              refine S.b5 ?_
              refine S.b5 ?_
              refine S.b4 ?_
              refine S.b5 ?_
              refine S.to ?_ (hk3 () trivial)
              exact ⟨rfl, rfl, rfl, rfl, rfl, rfl, rfl, trivial⟩
            · replace h := cond_f b32 h
              refine S.condF rfl b32 ?_
              refine S.region ?_
              refine SO.v rfl (opv_move rfl) ?_
              refine SO.v rfl (opv_move rfl) ?_
              refine SO.v rfl (opv_mul rfl rfl) ?_
              refine SO.v rfl (opv_add rfl rfl) ?_
              refine SO.v rfl (opv_fieldAddr Try.underlying71 rfl Try.sizeOf35 rfl rfl) ?_
              refine SO.load1 rfl Try.isAgg35 rfl rfl ?_
              refine SO.v rfl (opv_move rfl) ?_
              refine SO.v rfl (opv_sub rfl rfl) ?_
              obtain ⟨x36, hx37, h⟩ := opt_bind h
              refine SO.v rfl (opv_idx Try.underlying35 Try.sizeOf3 hru17 rfl rfl hx37) ?_
              refine SO.loadI1 (j := 0) rfl Try.isAgg3 (Rd.tail (Rd.tail (Rd.tail (Rd.tail (Rd.head (Rd.pool hru17)))))) hx37 rfl rfl rfl rfl ?_
              refine SO.v rfl (opv_add rfl rfl) ?_
              refine SO.v rfl (opv_conv Try.underlying3 Try.underlying72 rfl) ?_
              obtain ⟨x38, hx39, h⟩ := opt_bind h
              refine SO.v rfl (opv_idx Try.underlying22 Try.sizeOf72 hr28 rfl rfl hx39) ?_
              refine SO.b1 ?_
              refine SO.storeI1 (j := 0) (z' := wu64 (w64 (x36 + 1))) Try.sizeOf72 hx39 rfl rfl rfl rfl rfl rfl ?_
              refine SO.rd fun hr40 => ?_
              refine SO.nil ?_
              refine S.to (ρ' := [(6, .int .i64 x6_2), (4, .int .i64 x4_1), (3, v5), (2, .slice none 0 0), (0, bp bp0 0), (5, bp b19 0), (7, .int .i64 x30)]) ⟨rfl, rfl, rfl, rfl, rfl, rfl, rfl, trivial⟩ ?_
              cases h
              refine S.b5 ?_
              refine S.b5 ?_
              refine S.b5 ?_
              refine S.b5 ?_
              refine S.b4 ?_
              refine S.b5 ?_
              refine S.to ?_ (hk3 () trivial)
              exact ⟨rfl, rfl, rfl, rfl, rfl, rfl, rfl, trivial⟩
          rintro _ -
          replace h := hJ3
          refine S.b1 ?_
          refine S.rd fun hr41 => ?_
          refine S.seq ?_
          refine S.region ?_
          refine SO.v rfl (opv_move rfl) ?_
          refine SO.v rfl (opv_add rfl rfl) ?_
          refine SO.v rfl (opv_fieldAddr Try.underlying71 rfl Try.sizeOf35 rfl rfl) ?_
          refine SO.b1 ?_
          refine SO.load1 rfl Try.isAgg35 rfl rfl ?_
          refine SO.v rfl (opv_lenR rfl Try.underlying35 hru17 rfl) ?_
          refine SO.v rfl (opv_lss rfl rfl) ?_
          refine SO.nil ?_
          rcases bool_or (decide ((w64 (x6_2 + 1)) < (x11.Kids.length : Int))) with b42 | b42
          · replace h := cond_t b42 h
            refine S.condT rfl b42 ?_
            refine S.region ?_
            refine SO.v rfl (opv_move rfl) ?_
            refine SO.v rfl (opv_move rfl) ?_
            refine SO.v rfl (opv_mul rfl rfl) ?_
            refine SO.v rfl (opv_add rfl rfl) ?_
            refine SO.v rfl (opv_fieldAddr Try.underlying71 rfl Try.sizeOf35 rfl rfl) ?_
            refine SO.load1 rfl Try.isAgg35 rfl rfl ?_
            refine SO.v rfl (opv_move rfl) ?_
            refine SO.v rfl (opv_add rfl rfl) ?_
            obtain ⟨x43, hx44, h⟩ := opt_bind h
            refine SO.v rfl (opv_idx Try.underlying35 Try.sizeOf3 hru17 rfl rfl hx44) ?_
            refine SO.loadI1 (j := 0) rfl Try.isAgg3 (Rd.tail (Rd.tail (Rd.tail (Rd.tail (Rd.head (Rd.pool hru17)))))) hx44 rfl rfl rfl rfl ?_
            refine SO.v rfl (opv_add rfl rfl) ?_
            refine SO.v rfl (opv_conv Try.underlying3 Try.underlying72 rfl) ?_
            obtain ⟨x45, hx46, h⟩ := opt_bind h
            refine SO.v rfl (opv_idx Try.underlying22 Try.sizeOf72 hr41 rfl rfl hx46) ?_
            refine SO.b1 ?_
            refine SO.storeI1 (j := 0) (z' := wu64 (w64 (x43 + 1))) Try.sizeOf72 hx46 rfl rfl rfl rfl rfl rfl ?_
            refine SO.rd fun hr47 => ?_
            refine SO.nil ?_
            refine S.to (ρ' := [(0, bp bp0 0), (2, .slice none 0 0), (3, v5), (4, .int .i64 x4_1), (5, bp b19 0), (6, .int .i64 x6_2)]) ⟨rfl, rfl, rfl, rfl, rfl, rfl, trivial⟩ ?_
            refine S.inBlock ?_
            refine S.region ?_
            refine SO.v rfl (opv_move rfl) ?_
            refine SO.v rfl (opv_add rfl rfl) ?_
            refine SO.v rfl (opv_assign rfl) ?_
            refine SO.nil ?_
            refine S.b5 ?_
            refine S.b5 ?_
            refine S.b5 ?_
            refine S.b5 ?_
            refine S.b5 ?_
            refine S.b5 ?_
            refine S.to ?_ (ih2 ((w64 (x6_2 + 1), qv5_3.set (w64 ((w64 (5 * x30)) + 3)).toNat (wu64 (w64 (x43 + 1)))), ()) h)
            exact ⟨rfl, rfl, rfl, rfl, rfl, rfl, trivial⟩
          · replace h := cond_f b42 h
            refine S.condF rfl b42 ?_
            refine S.skip ?_
            refine S.inBlock ?_
            refine S.region ?_
            refine SO.v rfl (opv_move rfl) ?_
            refine SO.v rfl (opv_add rfl rfl) ?_
            refine SO.v rfl (opv_assign rfl) ?_
            refine SO.nil ?_
            refine S.to (ρ' := [(0, bp bp0 0), (2, .slice none 0 0), (3, v5), (4, .int .i64 x4_1), (5, bp b19 0), (6, .int .i64 (w64 (x6_2 + 1)))]) ⟨rfl, rfl, rfl, rfl, rfl, rfl, trivial⟩ ?_
            refine S.b5 ?_
            refine S.b5 ?_
            refine S.b5 ?_
            refine S.b5 ?_
            refine S.b4 ?_
            refine S.b5 ?_
            refine S.to ?_ (ih2 ((w64 (x6_2 + 1), qv5_3), ()) h)
            exact ⟨rfl, rfl, rfl, rfl, rfl, rfl, trivial⟩
        · replace h := cond_f b29 h
          refine S.condF rfl b29 ?_
          refine S.exit rfl ?_
          cases h
          refine S.b5 ?_
          refine S.b5 ?_
          refine S.b5 ?_
          refine S.b5 ?_
          refine S.b4 ?_
          refine S.b5 ?_
          refine S.to ?_ (hK2 ())
          exact ⟨rfl, rfl, rfl, rfl, trivial⟩
      rintro _
      refine S.rd fun hr48 => ?_
      refine S.inBlock ?_
      refine S.region ?_
      refine SO.v rfl (opv_move rfl) ?_
      refine SO.v rfl (opv_add rfl rfl) ?_
      refine SO.v rfl (opv_assign rfl) ?_
      refine SO.nil ?_
      refine S.b1 ?_
      refine S.drop ?_
      refine S.b4 ?_
      refine S.b2 ?_
      refine S.b4 ?_
      refine S.b4 ?_
      refine S.b4 ?_
      refine S.to ?_ (ih1 ((w64 (x4_1 + 1), qv5_e2), ()) h)
      exact ⟨rfl, rfl, rfl, rfl, trivial⟩
    · replace h := cond_f b10 h
      refine S.condF rfl b10 ?_
      refine S.exit rfl ?_
      cases h
      refine S.b4 ?_
      refine S.b4 ?_
      refine S.b4 ?_
      refine S.b4 ?_
      refine S.b4 ?_
      refine S.to ?_ (hK1 ())
      exact ⟨rfl, rfl, rfl, trivial⟩
  rintro _
  refine S.rd fun hr49 => ?_
  refine S.seq ?_
  refine S.seq ?_
  refine S.region ?_
  refine SO.v rfl (opv_assign rfl) ?_
  refine SO.nil ?_
  obtain ⟨qv5_e4, hl4, h⟩ := opt_bind h
  refine S.b4 ?_
  refine S.b4 ?_
  refine S.b4 ?_
  refine S.b4 ?_
  refine S.b4 ?_
  refine S.to (ρ' := [(8, .int .i64 0), (0, bp bp0 0), (2, .slice none 0 0), (3, v5)]) ⟨rfl, rfl, rfl, rfl, trivial⟩ ?_
  refine S.forloop (X := (Int × (List Int)) × Unit) (O := (List Int)) (fun m x => ref10_State_Words.l4 a0 m x.1) (fun x => match x with | ((x8_4, qv5_4), _) => [(8, .int .i64 x8_4), (0, bp bp0 0), (2, .slice none 0 0), (3, v5)]) (fun x => match x with | ((x8_4, qv5_4), _) => [Own 72 (ekI .u64) v5 qv5_4, OwnO 38 kr_ref10_Obj v0_Objs raws_v0_Objs A_v0_Objs a0.Objs, OwnO 71 kr_ref10_Slot v0_Slots raws_v0_Slots A_v0_Slots a0.Slots, Box bp0 [v0_Slots, v0_Objs, .int .i64 a0.NS, .int .i64 a0.NO], F]) (fun Sk => (fun qv5_e4 => ∀ _ : Unit, Sk [(0, bp bp0 0), (2, .slice none 0 0), (3, v5)] [Own 72 (ekI .u64) v5 qv5_e4, OwnO 38 kr_ref10_Obj v0_Objs raws_v0_Objs A_v0_Objs a0.Objs, OwnO 71 kr_ref10_Slot v0_Slots raws_v0_Slots A_v0_Slots a0.Slots, Box bp0 [v0_Slots, v0_Objs, .int .i64 a0.NS, .int .i64 a0.NO], F])) (fun _ => rfl) ?_ (m := k) (x := ((0, qv5_e1), ())) hl4 ?_
  · clear h hl4
    intro k x o_4 h hK4 ih4
    obtain ⟨⟨x8_4, qv5_4⟩, _⟩ := x
    replace h : ref10_State_Words.l4 a0 (k + 1) (x8_4, qv5_4) = some o_4 := h
    first | rw [ref10_State_Words.l4] at h | unfold ref10_State_Words.l4 at h
    refine S.rd fun hr50 => ?_
    refine S.seq ?_
    refine S.seq ?_
    refine S.region ?_
    refine SO.v rfl (opv_move rfl) ?_
    refine SO.v rfl (opv_lss rfl rfl) ?_
    refine SO.nil ?_
    rcases bool_or (decide (x8_4 < 32)) with b51 | b51
    · replace h := cond_t b51 h
      refine S.condT rfl b51 ?_
      refine S.skip ?_
      refine S.seq ?_
      refine S.block ?_
      refine S.seq ?_
      refine S.region ?_
      refine SO.v rfl (opv_move rfl) ?_
      refine SO.v rfl (opv_nilCheck rfl) ?_
      refine SO.v rfl (opv_fieldAddr Try.underlying42 rfl Try.sizeOf40 rfl rfl) ?_
      refine SO.b3 ?_
      refine SO.load1 rfl Try.isAgg40 rfl rfl ?_
      refine SO.v rfl (opv_move rfl) ?_
      obtain ⟨x52, hx53, h⟩ := opt_bind h
      obtain ⟨r54, hr55, hc56⟩ := relR.at hrel3 hx53
      refine SO.v rfl (opv_idx Try.underlying40 Try.sizeOf38 hR4 rfl rfl hr55) ?_
      refine hc56.rip fun u57 hru58 e59 => ?_
      refine SO.loadIN rfl Try.isAgg38 Try.sizeOf38 (Rd.tail (Rd.tail (Rd.head hR4))) hr55 rfl rfl e59 ?_
      refine SO.alloc rfl Try.zeroValue38 rfl (fun b60 => ?_)
      refine SO.storeN Try.sizeOf38 rfl rfl (all1 rfl (all1 rfl (all1 rfl (all1 rfl (all1 rfl (all1 rfl (all1 (Rd.one hru58) (all1 rfl (all1 rfl (all1 rfl (all1 rfl (all1 rfl (all1 rfl (all1 rfl (all1 rfl (all1 rfl (all1 rfl (all1 rfl (all1 rfl (all1 rfl (all1 rfl (all1 rfl (all1 rfl (all1 rfl (all1 rfl (all1 rfl (all1 rfl (all1 rfl (all1 rfl (all1 rfl (all1 rfl (all1 rfl rfl)))))))))))))))))))))))))))))))) rfl rfl rfl ?_
      refine SO.nil ?_
      refine S.to (ρ' := [(8, .int .i64 x8_4), (0, bp bp0 0), (2, .slice none 0 0), (3, v5), (9, bp b60 0)]) ⟨rfl, rfl, rfl, rfl, rfl, trivial⟩ ?_
      refine S.seq ?_
      refine S.region ?_
      refine SO.v rfl (opv_move rfl) ?_
      refine SO.v rfl (opv_mul rfl rfl) ?_
      refine SO.v rfl (opv_add rfl rfl) ?_
      refine SO.v rfl (opv_assign rfl) ?_
      refine SO.nil ?_
      refine S.seq ?_
      refine S.region ?_
      refine SO.v rfl (opv_move rfl) ?_
      refine SO.v rfl (opv_move rfl) ?_
      refine SO.v rfl (opv_fieldAddr Try.underlying38 rfl Try.sizeOf3 rfl rfl) ?_
      refine SO.load1 rfl Try.isAgg3 rfl rfl ?_
      refine SO.v rfl (opv_conv Try.underlying3 Try.underlying72 rfl) ?_
      obtain ⟨x61, hx62, h⟩ := opt_bind h
      refine SO.v rfl (opv_idx Try.underlying22 Try.sizeOf72 hr50 rfl rfl hx62) ?_
      refine SO.b2 ?_
      refine SO.storeI1 (j := 0) (z' := wu64 x52.Kind) Try.sizeOf72 hx62 rfl rfl rfl rfl rfl rfl ?_
      refine SO.rd fun hr63 => ?_
      refine SO.nil ?_
      refine S.to (ρ' := [(8, .int .i64 x8_4), (0, bp bp0 0), (2, .slice none 0 0), (3, v5), (9, bp b60 0), (10, .int .i64 (w64 (480 + (w64 (8 * x8_4)))))]) ⟨rfl, rfl, rfl, rfl, rfl, rfl, trivial⟩ ?_
      refine S.seq ?_
      refine S.seq ?_
      refine S.region ?_
      refine SO.v rfl (opv_fieldAddr Try.underlying38 rfl Try.sizeOf3 rfl rfl) ?_
      refine SO.b1 ?_
      refine SO.load1 rfl Try.isAgg3 rfl rfl ?_
      refine SO.nil ?_
      obtain ⟨qv5_5, hC5, hJ5⟩ := opt_bind h
      clear h
      refine S.cutP (G := Unit) (fun _ => True) (fun _ => [(0, bp bp0 0), (2, .slice none 0 0), (3, v5), (8, .int .i64 x8_4), (9, bp b60 0), (10, .int .i64 (w64 (480 + (w64 (8 * x8_4)))))]) (fun _ => [Box b60 [.int .i64 x52.Kind, .int .i64 x52.Size, .int .i64 x52.Used, .int .i64 x52.First, .int .i64 x52.Radix, .int .i64 x52.Wait, u57, .int .i64 x52.Word, .int .i64 x52.State, .int .i64 x52.Owing, .int .i64 x52.Badge, .int .i64 x52.Prio, .int .i64 x52.On, .int .i64 x52.Owes, .int .i64 x52.Root.Kind, .int .i64 x52.Root.Rights, .int .i64 x52.Root.Obj, .int .i64 x52.Root.Badge, .int .i64 x52.Root.Guard, .int .i64 x52.Root.Bits, .int .i64 x52.Pages.a0, .int .i64 x52.Pages.a1, .int .i64 x52.Pages.a2, .int .i64 x52.Pages.a3, .int .i64 x52.Right.a0, .int .i64 x52.Right.a1, .int .i64 x52.Right.a2, .int .i64 x52.Right.a3, .int .i64 x52.In, .int .i64 x52.Page, .int .i64 x52.Bound, .int .i64 x52.Mask], Own 72 (ekI .u64) v5 qv5_5, Box bp0 [v0_Slots, v0_Objs, .int .i64 a0.NS, .int .i64 a0.NO], OwnO 38 kr_ref10_Obj v0_Objs raws_v0_Objs A_v0_Objs a0.Objs, OwnO 71 kr_ref10_Slot v0_Slots raws_v0_Slots A_v0_Slots a0.Slots, F]) (fun hk5 => ?_) ?_
      · replace h := hC5
        refine S.block ?_
        refine S.seq ?_
        refine S.region ?_
        refine SO.v rfl (opv_eql rfl rfl) ?_
        refine SO.v rfl (opv_assign rfl) ?_
        refine SO.nil ?_
        rcases bool_or (x52.Kind == 1) with b64 | b64
        · replace h := cond_t b64 h
          refine S.condT rfl b64 ?_
          refine S.seq ?_
          refine S.region ?_
          refine SO.v rfl (opv_move rfl) ?_
          refine SO.v rfl (opv_move rfl) ?_
          refine SO.v rfl (opv_add rfl rfl) ?_
          refine SO.v rfl (opv_fieldAddr Try.underlying38 rfl Try.sizeOf3 rfl rfl) ?_
          refine SO.load1 rfl Try.isAgg3 rfl rfl ?_
          refine SO.v rfl (opv_conv Try.underlying3 Try.underlying72 rfl) ?_
          obtain ⟨x65, hx66, h⟩ := opt_bind h
          refine SO.v rfl (opv_idx Try.underlying22 Try.sizeOf72 hr63 rfl rfl hx66) ?_
          refine SO.b1 ?_
          refine SO.storeI1 (j := 0) (z' := wu64 x52.Size) Try.sizeOf72 hx66 rfl rfl rfl rfl rfl rfl ?_
          refine SO.rd fun hr67 => ?_
          refine SO.nil ?_
          refine S.to (ρ' := [(8, .int .i64 x8_4), (0, bp bp0 0), (2, .slice none 0 0), (3, v5), (9, bp b60 0), (10, .int .i64 (w64 (480 + (w64 (8 * x8_4)))))]) ⟨rfl, rfl, rfl, rfl, rfl, rfl, trivial⟩ ?_
          refine S.region ?_
          refine SO.v rfl (opv_move rfl) ?_
          refine SO.v rfl (opv_move rfl) ?_
          refine SO.v rfl (opv_add rfl rfl) ?_
          refine SO.v rfl (opv_fieldAddr Try.underlying38 rfl Try.sizeOf3 rfl rfl) ?_
          refine SO.b1 ?_
          refine SO.load1 rfl Try.isAgg3 rfl rfl ?_
          refine SO.v rfl (opv_conv Try.underlying3 Try.underlying72 rfl) ?_
          obtain ⟨x68, hx69, h⟩ := opt_bind h
          refine SO.v rfl (opv_idx Try.underlying22 Try.sizeOf72 hr67 rfl rfl hx69) ?_
          refine SO.b1 ?_
          refine SO.storeI1 (j := 0) (z' := wu64 x52.Used) Try.sizeOf72 hx69 rfl rfl rfl rfl rfl rfl ?_
          refine SO.rd fun hr70 => ?_
          refine SO.nil ?_
          refine S.to (ρ' := [(8, .int .i64 x8_4), (0, bp bp0 0), (2, .slice none 0 0), (3, v5), (9, bp b60 0), (10, .int .i64 (w64 (480 + (w64 (8 * x8_4)))))]) ⟨rfl, rfl, rfl, rfl, rfl, rfl, trivial⟩ ?_
          refine S.inBlock ?_
          cases h
          refine S.b5 ?_
          refine S.b5 ?_
          refine S.b5 ?_
          refine S.b5 ?_
          refine S.b4 ?_
          refine S.b5 ?_
          refine S.to ?_ (hk5 () trivial)
          exact ⟨rfl, rfl, rfl, rfl, rfl, rfl, trivial⟩
        · replace h := cond_f b64 h
          refine S.condF rfl b64 ?_
          refine S.seq ?_
          refine S.region ?_
          refine SO.v rfl (opv_eql rfl rfl) ?_
          refine SO.v rfl (opv_assign rfl) ?_
          refine SO.nil ?_
          rcases bool_or (x52.Kind == 2) with b71 | b71
          · replace h := cond_t b71 h
            refine S.condT rfl b71 ?_
            refine S.seq ?_
            refine S.region ?_
            refine SO.v rfl (opv_move rfl) ?_
            refine SO.v rfl (opv_move rfl) ?_
            refine SO.v rfl (opv_add rfl rfl) ?_
            refine SO.v rfl (opv_fieldAddr Try.underlying38 rfl Try.sizeOf3 rfl rfl) ?_
            refine SO.load1 rfl Try.isAgg3 rfl rfl ?_
            refine SO.v rfl (opv_conv Try.underlying3 Try.underlying72 rfl) ?_
            obtain ⟨x72, hx73, h⟩ := opt_bind h
            refine SO.v rfl (opv_idx Try.underlying22 Try.sizeOf72 hr63 rfl rfl hx73) ?_
            refine SO.b1 ?_
            refine SO.storeI1 (j := 0) (z' := wu64 x52.First) Try.sizeOf72 hx73 rfl rfl rfl rfl rfl rfl ?_
            refine SO.rd fun hr74 => ?_
            refine SO.nil ?_
            refine S.to (ρ' := [(8, .int .i64 x8_4), (0, bp bp0 0), (2, .slice none 0 0), (3, v5), (9, bp b60 0), (10, .int .i64 (w64 (480 + (w64 (8 * x8_4)))))]) ⟨rfl, rfl, rfl, rfl, rfl, rfl, trivial⟩ ?_
            refine S.region ?_
            refine SO.v rfl (opv_move rfl) ?_
            refine SO.v rfl (opv_move rfl) ?_
            refine SO.v rfl (opv_add rfl rfl) ?_
            refine SO.v rfl (opv_fieldAddr Try.underlying38 rfl Try.sizeOf3 rfl rfl) ?_
            refine SO.b1 ?_
            refine SO.load1 rfl Try.isAgg3 rfl rfl ?_
            refine SO.v rfl (opv_conv Try.underlying3 Try.underlying72 rfl) ?_
            obtain ⟨x75, hx76, h⟩ := opt_bind h
            refine SO.v rfl (opv_idx Try.underlying22 Try.sizeOf72 hr74 rfl rfl hx76) ?_
            refine SO.b1 ?_
            refine SO.storeI1 (j := 0) (z' := wu64 x52.Radix) Try.sizeOf72 hx76 rfl rfl rfl rfl rfl rfl ?_
            refine SO.rd fun hr77 => ?_
            refine SO.nil ?_
            refine S.to (ρ' := [(8, .int .i64 x8_4), (0, bp bp0 0), (2, .slice none 0 0), (3, v5), (9, bp b60 0), (10, .int .i64 (w64 (480 + (w64 (8 * x8_4)))))]) ⟨rfl, rfl, rfl, rfl, rfl, rfl, trivial⟩ ?_
            refine S.inBlock ?_
            cases h
            refine S.b5 ?_
            refine S.b5 ?_
            refine S.b5 ?_
            refine S.b5 ?_
            refine S.b4 ?_
            refine S.b5 ?_
            refine S.to ?_ (hk5 () trivial)
            exact ⟨rfl, rfl, rfl, rfl, rfl, rfl, trivial⟩
          · replace h := cond_f b71 h
            refine S.condF rfl b71 ?_
            refine S.seq ?_
            refine S.region ?_
            refine SO.v rfl (opv_eql rfl rfl) ?_
            refine SO.v rfl (opv_assign rfl) ?_
            refine SO.nil ?_
            rcases bool_or (x52.Kind == 3) with b78 | b78
            · replace h := cond_t b78 h
              refine S.condT rfl b78 ?_
              refine S.region ?_
              refine SO.v rfl (opv_move rfl) ?_
              refine SO.v rfl (opv_move rfl) ?_
              refine SO.v rfl (opv_add rfl rfl) ?_
              refine SO.v rfl (opv_fieldAddr Try.underlying38 rfl Try.sizeOf3 rfl rfl) ?_
              refine SO.load1 rfl Try.isAgg3 rfl rfl ?_
              refine SO.v rfl (opv_conv Try.underlying3 Try.underlying72 rfl) ?_
              obtain ⟨x79, hx80, h⟩ := opt_bind h
              refine SO.v rfl (opv_idx Try.underlying22 Try.sizeOf72 hr63 rfl rfl hx80) ?_
              refine SO.b1 ?_
              refine SO.storeI1 (j := 0) (z' := wu64 x52.Wait) Try.sizeOf72 hx80 rfl rfl rfl rfl rfl rfl ?_
              refine SO.rd fun hr81 => ?_
              refine SO.nil ?_
              refine S.to (ρ' := [(8, .int .i64 x8_4), (0, bp bp0 0), (2, .slice none 0 0), (3, v5), (9, bp b60 0), (10, .int .i64 (w64 (480 + (w64 (8 * x8_4)))))]) ⟨rfl, rfl, rfl, rfl, rfl, rfl, trivial⟩ ?_
              refine S.inBlock ?_
              cases h
              refine S.b5 ?_
              refine S.b5 ?_
              refine S.b5 ?_
              refine S.b5 ?_
              refine S.b4 ?_
              refine S.b5 ?_
              refine S.to ?_ (hk5 () trivial)
              exact ⟨rfl, rfl, rfl, rfl, rfl, rfl, trivial⟩
            · replace h := cond_f b78 h
              refine S.condF rfl b78 ?_
              refine S.seq ?_
              refine S.region ?_
              refine SO.v rfl (opv_eql rfl rfl) ?_
              refine SO.v rfl (opv_assign rfl) ?_
              refine SO.nil ?_
              refine S.to (ρ' := [(8, .int .i64 x8_4), (0, bp bp0 0), (2, .slice none 0 0), (3, v5), (9, bp b60 0), (10, .int .i64 (w64 (480 + (w64 (8 * x8_4))))), (117, .int .i64 x52.Kind), (159, .bool (x52.Kind == 4))]) ⟨rfl, rfl, rfl, rfl, rfl, rfl, rfl, rfl, trivial⟩ ?_
              rcases bool_or (x52.Kind == 4) with b82 | b82
              · replace h := cond_t b82 h
                refine S.condT rfl b82 ?_
                refine S.region ?_
                refine SO.v rfl (opv_move rfl) ?_
                refine SO.v rfl (opv_move rfl) ?_
                refine SO.v rfl (opv_add rfl rfl) ?_
                refine SO.v rfl (opv_fieldAddr Try.underlying38 rfl Try.sizeOf3 rfl rfl) ?_
                refine SO.load1 rfl Try.isAgg3 rfl rfl ?_
                refine SO.v rfl (opv_conv Try.underlying3 Try.underlying72 rfl) ?_
                obtain ⟨x83, hx84, h⟩ := opt_bind h
                refine SO.v rfl (opv_idx Try.underlying22 Try.sizeOf72 hr63 rfl rfl hx84) ?_
                refine SO.b1 ?_
                refine SO.storeI1 (j := 0) (z' := wu64 x52.Word) Try.sizeOf72 hx84 rfl rfl rfl rfl rfl rfl ?_
                refine SO.rd fun hr85 => ?_
                refine SO.nil ?_
                refine S.to (ρ' := [(8, .int .i64 x8_4), (0, bp bp0 0), (2, .slice none 0 0), (3, v5), (9, bp b60 0), (10, .int .i64 (w64 (480 + (w64 (8 * x8_4)))))]) ⟨rfl, rfl, rfl, rfl, rfl, rfl, trivial⟩ ?_
                refine S.inBlock ?_
                cases h
                refine S.b5 ?_
                refine S.b5 ?_
                refine S.b5 ?_
                refine S.b5 ?_
                refine S.b4 ?_
                refine S.b5 ?_
                refine S.to ?_ (hk5 () trivial)
                exact ⟨rfl, rfl, rfl, rfl, rfl, rfl, trivial⟩
              · replace h := cond_f b82 h
                refine S.condF rfl b82 ?_
                refine S.seq ?_
                refine S.region ?_
                refine SO.v rfl (opv_eql rfl rfl) ?_
                refine SO.v rfl (opv_assign rfl) ?_
                refine SO.nil ?_
                rcases bool_or (x52.Kind == 5) with b86 | b86
                · replace h := cond_t b86 h
                  refine S.condT rfl b86 ?_
                  refine S.seq ?_
                  refine S.region ?_
                  refine SO.v rfl (opv_move rfl) ?_
                  refine SO.v rfl (opv_move rfl) ?_
                  refine SO.v rfl (opv_add rfl rfl) ?_
                  refine SO.v rfl (opv_fieldAddr Try.underlying38 rfl Try.sizeOf3 rfl rfl) ?_
                  refine SO.load1 rfl Try.isAgg3 rfl rfl ?_
                  refine SO.v rfl (opv_conv Try.underlying3 Try.underlying72 rfl) ?_
                  obtain ⟨x87, hx88, h⟩ := opt_bind h
                  refine SO.v rfl (opv_idx Try.underlying22 Try.sizeOf72 hr63 rfl rfl hx88) ?_
                  refine SO.b1 ?_
                  refine SO.storeI1 (j := 0) (z' := wu64 x52.State) Try.sizeOf72 hx88 rfl rfl rfl rfl rfl rfl ?_
                  refine SO.rd fun hr89 => ?_
                  refine SO.nil ?_
                  refine S.to (ρ' := [(8, .int .i64 x8_4), (0, bp bp0 0), (2, .slice none 0 0), (3, v5), (9, bp b60 0), (10, .int .i64 (w64 (480 + (w64 (8 * x8_4)))))]) ⟨rfl, rfl, rfl, rfl, rfl, rfl, trivial⟩ ?_
                  refine S.seq ?_
                  obtain ⟨x90, hx91, h⟩ := opt_bind h
                  obtain ⟨x92, hx93, h⟩ := opt_bind h
                  refine S.draw' (Z := fun Q => ∀ (_ : Unit) (_ : Unit) (_ : Unit) (_ : Unit) (_ : Unit) (_ : Unit) (_ : Unit) (_ : Unit) (_ : Unit) (_ : Unit), Q [(8, .int .i64 x8_4), (0, bp bp0 0), (2, .slice none 0 0), (3, v5), (9, bp b60 0), (10, .int .i64 (w64 (480 + (w64 (8 * x8_4)))))] [Own 72 (ekI .u64) v5 (((qv5_4.set (w64 (480 + (w64 (8 * x8_4)))).toNat (wu64 x52.Kind)).set (w64 ((w64 (480 + (w64 (8 * x8_4)))) + 1)).toNat (wu64 x52.State)).set (w64 ((w64 (480 + (w64 (8 * x8_4)))) + 2)).toNat (wu64 (x90 + (wu64 (w64 (x52.Owing + 1)))))), Box b60 [.int .i64 x52.Kind, .int .i64 x52.Size, .int .i64 x52.Used, .int .i64 x52.First, .int .i64 x52.Radix, .int .i64 x52.Wait, u57, .int .i64 x52.Word, .int .i64 x52.State, .int .i64 x52.Owing, .int .i64 x52.Badge, .int .i64 x52.Prio, .int .i64 x52.On, .int .i64 x52.Owes, .int .i64 x52.Root.Kind, .int .i64 x52.Root.Rights, .int .i64 x52.Root.Obj, .int .i64 x52.Root.Badge, .int .i64 x52.Root.Guard, .int .i64 x52.Root.Bits, .int .i64 x52.Pages.a0, .int .i64 x52.Pages.a1, .int .i64 x52.Pages.a2, .int .i64 x52.Pages.a3, .int .i64 x52.Right.a0, .int .i64 x52.Right.a1, .int .i64 x52.Right.a2, .int .i64 x52.Right.a3, .int .i64 x52.In, .int .i64 x52.Page, .int .i64 x52.Bound, .int .i64 x52.Mask], Box bp0 [v0_Slots, v0_Objs, .int .i64 a0.NS, .int .i64 a0.NO], OwnO 38 kr_ref10_Obj v0_Objs raws_v0_Objs A_v0_Objs a0.Objs, OwnO 71 kr_ref10_Slot v0_Slots raws_v0_Slots A_v0_Slots a0.Slots, F]) (T := [tS 3 (v5), tS 10 (.int .i64 (w64 (480 + (w64 (8 * x8_4))))), tS 9 (bp b60 0), tE [(8, .int .i64 x8_4), (0, bp bp0 0), (2, .slice none 0 0)], tR (Own 72 (ekI .u64) v5 ((qv5_4.set (w64 (480 + (w64 (8 * x8_4)))).toNat (wu64 x52.Kind)).set (w64 ((w64 (480 + (w64 (8 * x8_4)))) + 1)).toNat (wu64 x52.State))), tR (Box b60 [.int .i64 x52.Kind, .int .i64 x52.Size, .int .i64 x52.Used, .int .i64 x52.First, .int .i64 x52.Radix, .int .i64 x52.Wait, u57, .int .i64 x52.Word, .int .i64 x52.State, .int .i64 x52.Owing, .int .i64 x52.Badge, .int .i64 x52.Prio, .int .i64 x52.On, .int .i64 x52.Owes, .int .i64 x52.Root.Kind, .int .i64 x52.Root.Rights, .int .i64 x52.Root.Obj, .int .i64 x52.Root.Badge, .int .i64 x52.Root.Guard, .int .i64 x52.Root.Bits, .int .i64 x52.Pages.a0, .int .i64 x52.Pages.a1, .int .i64 x52.Pages.a2, .int .i64 x52.Pages.a3, .int .i64 x52.Right.a0, .int .i64 x52.Right.a1, .int .i64 x52.Right.a2, .int .i64 x52.Right.a3, .int .i64 x52.In, .int .i64 x52.Page, .int .i64 x52.Bound, .int .i64 x52.Mask]), tR (Box bp0 [v0_Slots, v0_Objs, .int .i64 a0.NS, .int .i64 a0.NO]), tR (OwnO 38 kr_ref10_Obj v0_Objs raws_v0_Objs A_v0_Objs a0.Objs), tR (OwnO 71 kr_ref10_Slot v0_Slots raws_v0_Slots A_v0_Slots a0.Slots), tR (F), tS 177 (v5), tS 178 (.int .i64 (w64 (480 + (w64 (8 * x8_4))))), tS 179 (.int .i64 (w64 ((w64 (480 + (w64 (8 * x8_4)))) + 2))), tS 180 (v5), tS 181 (.int .i64 (w64 (480 + (w64 (8 * x8_4))))), tS 182 (.int .i64 (w64 ((w64 (480 + (w64 (8 * x8_4)))) + 2))), tS 183 (idxp v5 ((w64 ((w64 (480 + (w64 (8 * x8_4)))) + 2)).toNat * (ekI .u64).sz)), tS 184 (.int .u64 x90), tS 185 (bp b60 9), tS 186 (.int .i64 x52.Owing), tS 187 (.int .i64 (w64 (x52.Owing + 1))), tS 188 (.int .u64 (wu64 (w64 (x52.Owing + 1)))), tS 189 (.int .u64 (wu64 (x90 + (wu64 (w64 (x52.Owing + 1)))))), tS 190 (idxp v5 ((w64 ((w64 (480 + (w64 (8 * x8_4)))) + 2)).toNat * (ekI .u64).sz)), tR (Own 72 (ekI .u64) v5 (((qv5_4.set (w64 (480 + (w64 (8 * x8_4)))).toNat (wu64 x52.Kind)).set (w64 ((w64 (480 + (w64 (8 * x8_4)))) + 1)).toNat (wu64 x52.State)).set (w64 ((w64 (480 + (w64 (8 * x8_4)))) + 2)).toNat (wu64 (x90 + (wu64 (w64 (x52.Owing + 1)))))))]) (D := [⟨[0], [], [10]⟩, ⟨[1], [], [11]⟩, ⟨[11], [], [12]⟩, ⟨[0], [], [13]⟩, ⟨[1], [], [14]⟩, ⟨[14], [], [15]⟩, ⟨[13, 15, 4], [], [16]⟩, ⟨[16, 4], [], [17]⟩, ⟨[2], [], [18]⟩, ⟨[18, 5], [], [19]⟩, ⟨[19], [], [20]⟩, ⟨[20], [], [21]⟩, ⟨[17, 21], [], [22]⟩, ⟨[10, 12, 4], [], [23]⟩, ⟨[22, 23], [4], [24]⟩]) (ini := [0, 1, 2, 3, 4, 5, 6, 7, 8, 9]) (fin := [3, 0, 2, 1, 24, 5, 6, 7, 8, 9]) (bf := [[], [], [1], [], [], [4], [3, 4, 5], [3, 4, 5, 6], [], [8], [8, 9], [8, 9, 10], [3, 4, 5, 6, 7, 8, 9, 10, 11], [0, 1, 2, 3, 4, 5, 6, 7, 8, 9, 10, 11, 12], [0, 1, 2, 3, 4, 5, 6, 7, 8, 9, 10, 11, 12, 13]]) (by kernel_rfl) (by kernel_rfl) (fun x w h1 h2 => (.cons () (.cons () (.cons () (.cons () (.cons () (.cons () (.cons () (.cons () (.cons () (.cons () (.nil ⟨EnvAll.of h1 ⟨rfl, rfl, rfl, rfl, rfl, rfl, trivial⟩, h2⟩)))))))))))) (fun Q => by kernel_rfl) ⟨?_, ?_, ?_, ?_, ?_, ?_, ?_, ?_, ?_, ?_, ?_, ?_, ?_, ?_, ?_, trivial⟩ ?_
                  · rintro Fr _
                    refine SO.v rfl (opv_move rfl) ?_
                    exact SO.nilZ fun a w h1 h2 h3 h4 h5 => PZ.of h1 h3 h5 (.cons () (.cons () (.nil ⟨EnvAll.of h2 ⟨rfl, rfl, trivial⟩, h4⟩)))
                  · rintro Fr _
                    refine SO.v rfl (opv_move rfl) ?_
                    exact SO.nilZ fun a w h1 h2 h3 h4 h5 => PZ.of h1 h3 h5 (.cons () (.cons () (.nil ⟨EnvAll.of h2 ⟨rfl, rfl, trivial⟩, h4⟩)))
                  · rintro Fr _
                    refine SO.v rfl (opv_add rfl rfl) ?_
                    exact SO.nilZ fun a w h1 h2 h3 h4 h5 => PZ.of h1 h3 h5 (.cons () (.cons () (.nil ⟨EnvAll.of h2 ⟨rfl, rfl, trivial⟩, h4⟩)))
                  · rintro Fr _
                    refine SO.v rfl (opv_move rfl) ?_
                    exact SO.nilZ fun a w h1 h2 h3 h4 h5 => PZ.of h1 h3 h5 (.cons () (.cons () (.nil ⟨EnvAll.of h2 ⟨rfl, rfl, trivial⟩, h4⟩)))
                  · rintro Fr _
                    refine SO.v rfl (opv_move rfl) ?_
                    exact SO.nilZ fun a w h1 h2 h3 h4 h5 => PZ.of h1 h3 h5 (.cons () (.cons () (.nil ⟨EnvAll.of h2 ⟨rfl, rfl, trivial⟩, h4⟩)))
                  · rintro Fr _
                    refine SO.v rfl (opv_add rfl rfl) ?_
                    exact SO.nilZ fun a w h1 h2 h3 h4 h5 => PZ.of h1 h3 h5 (.cons () (.cons () (.nil ⟨EnvAll.of h2 ⟨rfl, rfl, trivial⟩, h4⟩)))
                  · rintro Fr _ _ _
                    refine SO.v rfl (opv_idx Try.underlying22 Try.sizeOf72 hr89 rfl rfl hx91) ?_
                    exact SO.nilZ fun a w h1 h2 h3 h4 h5 => PZ.of h1 h3 h5 (.cons () (.cons () (.cons () (.cons () (.nil ⟨EnvAll.of h2 ⟨rfl, rfl, rfl, trivial⟩, h4⟩)))))
                  · rintro Fr _ _
                    refine SO.loadI1 (j := 0) rfl Try.isAgg72 (Rd.head hr89) hx91 rfl rfl rfl rfl ?_
                    exact SO.nilZ fun a w h1 h2 h3 h4 h5 => PZ.of h1 h3 h5 (.cons () (.cons () (.cons () (.nil ⟨EnvAll.of h2 ⟨rfl, rfl, trivial⟩, h4⟩))))
                  · rintro Fr _
                    refine SO.v rfl (opv_fieldAddr Try.underlying38 rfl Try.sizeOf3 rfl rfl) ?_
                    exact SO.nilZ fun a w h1 h2 h3 h4 h5 => PZ.of h1 h3 h5 (.cons () (.cons () (.nil ⟨EnvAll.of h2 ⟨rfl, rfl, trivial⟩, h4⟩)))
                  · rintro Fr _ _
                    refine SO.load1 rfl Try.isAgg3 rfl rfl ?_
                    exact SO.nilZ fun a w h1 h2 h3 h4 h5 => PZ.of h1 h3 h5 (.cons () (.cons () (.cons () (.nil ⟨EnvAll.of h2 ⟨rfl, rfl, trivial⟩, h4⟩))))
                  · rintro Fr _
                    refine SO.v rfl (opv_add rfl rfl) ?_
                    exact SO.nilZ fun a w h1 h2 h3 h4 h5 => PZ.of h1 h3 h5 (.cons () (.cons () (.nil ⟨EnvAll.of h2 ⟨rfl, rfl, trivial⟩, h4⟩)))
                  · rintro Fr _
                    refine SO.v rfl (opv_conv Try.underlying3 Try.underlying72 rfl) ?_
                    exact SO.nilZ fun a w h1 h2 h3 h4 h5 => PZ.of h1 h3 h5 (.cons () (.cons () (.nil ⟨EnvAll.of h2 ⟨rfl, rfl, trivial⟩, h4⟩)))
                  · rintro Fr _ _
                    refine SO.v rfl (opv_add rfl rfl) ?_
                    exact SO.nilZ fun a w h1 h2 h3 h4 h5 => PZ.of h1 h3 h5 (.cons () (.cons () (.cons () (.nil ⟨EnvAll.of h2 ⟨rfl, rfl, rfl, trivial⟩, h4⟩))))
                  · rintro Fr _ _ _
                    refine SO.v rfl (opv_idx Try.underlying22 Try.sizeOf72 hr89 rfl rfl hx93) ?_
                    exact SO.nilZ fun a w h1 h2 h3 h4 h5 => PZ.of h1 h3 h5 (.cons () (.cons () (.cons () (.cons () (.nil ⟨EnvAll.of h2 ⟨rfl, rfl, rfl, trivial⟩, h4⟩)))))
                  · rintro Fr _ _ _
                    refine SO.storeI1 (j := 0) (z' := wu64 (x90 + (wu64 (w64 (x52.Owing + 1))))) Try.sizeOf72 hx93 rfl rfl rfl rfl rfl rfl ?_
                    refine SO.rd fun hr94 => ?_
                    exact SO.nilZ fun a w h1 h2 h3 h4 h5 => PZ.of h1 h3 h5 (.cons () (.cons () (.cons () (.nil ⟨EnvAll.of h2 ⟨rfl, rfl, trivial⟩, h4⟩))))
                  rintro _ _ _ _ _ _ _ _ _ _
                  refine S.to (ρ' := [(8, .int .i64 x8_4), (0, bp bp0 0), (2, .slice none 0 0), (3, v5), (9, bp b60 0), (10, .int .i64 (w64 (480 + (w64 (8 * x8_4)))))]) ⟨rfl, rfl, rfl, rfl, rfl, rfl, trivial⟩ ?_
                  refine S.rd fun hr95 => ?_
                  refine S.seq ?_
                  refine S.region ?_
                  refine SO.v rfl (opv_move rfl) ?_
                  refine SO.v rfl (opv_move rfl) ?_
                  refine SO.v rfl (opv_add rfl rfl) ?_
                  refine SO.v rfl (opv_fieldAddr Try.underlying38 rfl Try.sizeOf3 rfl rfl) ?_
                  refine SO.b1 ?_
                  refine SO.load1 rfl Try.isAgg3 rfl rfl ?_
                  refine SO.v rfl (opv_conv Try.underlying3 Try.underlying72 rfl) ?_
                  obtain ⟨x96, hx97, h⟩ := opt_bind h
                  refine SO.v rfl (opv_idx Try.underlying22 Try.sizeOf72 hr95 rfl rfl hx97) ?_
                  refine SO.b1 ?_
                  refine SO.storeI1 (j := 0) (z' := wu64 x52.Word) Try.sizeOf72 hx97 rfl rfl rfl rfl rfl rfl ?_
                  refine SO.rd fun hr98 => ?_
                  refine SO.nil ?_
                  refine S.to (ρ' := [(8, .int .i64 x8_4), (0, bp bp0 0), (2, .slice none 0 0), (3, v5), (9, bp b60 0), (10, .int .i64 (w64 (480 + (w64 (8 * x8_4)))))]) ⟨rfl, rfl, rfl, rfl, rfl, rfl, trivial⟩ ?_
                  refine S.seq ?_
                  refine S.region ?_
                  refine SO.v rfl (opv_move rfl) ?_
                  refine SO.v rfl (opv_move rfl) ?_
                  refine SO.v rfl (opv_add rfl rfl) ?_
                  refine SO.v rfl (opv_fieldAddr Try.underlying38 rfl Try.sizeOf3 rfl rfl) ?_
                  refine SO.b1 ?_
                  refine SO.load1 rfl Try.isAgg3 rfl rfl ?_
                  refine SO.v rfl (opv_conv Try.underlying3 Try.underlying72 rfl) ?_
                  obtain ⟨x99, hx100, h⟩ := opt_bind h
                  refine SO.v rfl (opv_idx Try.underlying22 Try.sizeOf72 hr98 rfl rfl hx100) ?_
                  refine SO.b1 ?_
                  refine SO.storeI1 (j := 0) (z' := wu64 x52.Badge) Try.sizeOf72 hx100 rfl rfl rfl rfl rfl rfl ?_
                  refine SO.rd fun hr101 => ?_
                  refine SO.nil ?_
                  refine S.to (ρ' := [(8, .int .i64 x8_4), (0, bp bp0 0), (2, .slice none 0 0), (3, v5), (9, bp b60 0), (10, .int .i64 (w64 (480 + (w64 (8 * x8_4)))))]) ⟨rfl, rfl, rfl, rfl, rfl, rfl, trivial⟩ ?_
                  refine S.seq ?_
                  refine S.region ?_
                  refine SO.v rfl (opv_move rfl) ?_
                  refine SO.v rfl (opv_move rfl) ?_
                  refine SO.v rfl (opv_add rfl rfl) ?_
                  refine SO.v rfl (opv_fieldAddr Try.underlying38 rfl Try.sizeOf3 rfl rfl) ?_
                  refine SO.b1 ?_
                  refine SO.load1 rfl Try.isAgg3 rfl rfl ?_
                  refine SO.v rfl (opv_fieldAddr Try.underlying38 rfl Try.sizeOf3 rfl rfl) ?_
                  refine SO.load1 rfl Try.isAgg3 rfl rfl ?_
                  refine SO.v rfl (opv_add rfl rfl) ?_
                  refine SO.v rfl (opv_mul rfl rfl) ?_
                  refine SO.v rfl (opv_add rfl rfl) ?_
                  refine SO.v rfl (opv_conv Try.underlying3 Try.underlying72 rfl) ?_
                  obtain ⟨x102, hx103, h⟩ := opt_bind h
                  refine SO.v rfl (opv_idx Try.underlying22 Try.sizeOf72 hr101 rfl rfl hx103) ?_
                  refine SO.b1 ?_
                  refine SO.storeI1 (j := 0) (z' := wu64 (w64 (x52.Prio + (w64 (256 * (w64 (x52.On + 1))))))) Try.sizeOf72 hx103 rfl rfl rfl rfl rfl rfl ?_
                  refine SO.rd fun hr104 => ?_
                  refine SO.nil ?_
                  refine S.to (ρ' := [(8, .int .i64 x8_4), (0, bp bp0 0), (2, .slice none 0 0), (3, v5), (9, bp b60 0), (10, .int .i64 (w64 (480 + (w64 (8 * x8_4)))))]) ⟨rfl, rfl, rfl, rfl, rfl, rfl, trivial⟩ ?_
                  refine S.seq ?_
                  refine S.region ?_
                  refine SO.v rfl (opv_move rfl) ?_
                  refine SO.v rfl (opv_move rfl) ?_
                  refine SO.v rfl (opv_add rfl rfl) ?_
                  refine SO.v rfl (opv_fieldAddr Try.underlying38 rfl Try.sizeOf3 rfl rfl) ?_
                  refine SO.b1 ?_
                  refine SO.load1 rfl Try.isAgg3 rfl rfl ?_
                  refine SO.v rfl (opv_add rfl rfl) ?_
                  refine SO.v rfl (opv_conv Try.underlying3 Try.underlying72 rfl) ?_
                  obtain ⟨x105, hx106, h⟩ := opt_bind h
                  refine SO.v rfl (opv_idx Try.underlying22 Try.sizeOf72 hr104 rfl rfl hx106) ?_
                  refine SO.b1 ?_
                  refine SO.storeI1 (j := 0) (z' := wu64 (w64 (x52.Owes + 1))) Try.sizeOf72 hx106 rfl rfl rfl rfl rfl rfl ?_
                  refine SO.rd fun hr107 => ?_
                  refine SO.nil ?_
                  refine S.to (ρ' := [(8, .int .i64 x8_4), (0, bp bp0 0), (2, .slice none 0 0), (3, v5), (9, bp b60 0), (10, .int .i64 (w64 (480 + (w64 (8 * x8_4)))))]) ⟨rfl, rfl, rfl, rfl, rfl, rfl, trivial⟩ ?_
                  refine S.region ?_
                  refine SO.v rfl (opv_move rfl) ?_
                  refine SO.v rfl (opv_move rfl) ?_
                  refine SO.v rfl (opv_add rfl rfl) ?_
                  refine SO.v rfl (opv_fieldAddr Try.underlying38 rfl Try.sizeOf24 rfl rfl) ?_
                  refine SO.b1 ?_
                  refine SO.loadN rfl Try.isAgg24 Try.sizeOf24 rfl rfl rfl ?_
                  obtain ⟨t108, ht109, h⟩ := opt_bind h
                  refine SO.call (pre := []) rfl Try.call28 rfl rfl rfl (ref01_Word.ct _ _ ht109) trivial ?_
                  rintro _ _ ⟨rfl, rfl⟩
                  obtain ⟨x110, hx111, h⟩ := opt_bind h
                  refine SO.v rfl (opv_idx Try.underlying22 Try.sizeOf72 hr107 rfl rfl hx111) ?_
                  refine SO.b1 ?_
                  refine SO.storeI1 (j := 0) (z' := t108) Try.sizeOf72 hx111 rfl rfl rfl rfl rfl rfl ?_
                  refine SO.rd fun hr112 => ?_
                  refine SO.nil ?_
                  refine S.to (ρ' := [(8, .int .i64 x8_4), (0, bp bp0 0), (2, .slice none 0 0), (3, v5), (9, bp b60 0), (10, .int .i64 (w64 (480 + (w64 (8 * x8_4)))))]) ⟨rfl, rfl, rfl, rfl, rfl, rfl, trivial⟩ ?_
                  refine S.inBlock ?_
                  cases h
                  refine S.b5 ?_
                  refine S.b5 ?_
                  refine S.b5 ?_
                  refine S.b5 ?_
                  refine S.b4 ?_
                  refine S.b5 ?_
                  refine S.to ?_ (hk5 () trivial)
                  exact ⟨rfl, rfl, rfl, rfl, rfl, rfl, trivial⟩
                · replace h := cond_f b86 h
                  refine S.condF rfl b86 ?_
                  refine S.seq ?_
                  refine S.region ?_
                  refine SO.v rfl (opv_eql rfl rfl) ?_
                  refine SO.v rfl (opv_assign rfl) ?_
                  refine SO.nil ?_
                  rcases bool_or (x52.Kind == 6) with b113 | b113
                  · replace h := cond_t b113 h
                    refine S.condT rfl b113 ?_
                    refine S.seq ?_
                    refine S.region ?_
                    refine SO.v rfl (opv_move rfl) ?_
                    refine SO.v rfl (opv_move rfl) ?_
                    refine SO.v rfl (opv_add rfl rfl) ?_
                    refine SO.v rfl (opv_fieldAddr Try.underlying38 rfl Try.sizeOf3 rfl rfl) ?_
                    refine SO.load1 rfl Try.isAgg3 rfl rfl ?_
                    refine SO.v rfl (opv_add rfl rfl) ?_
                    refine SO.v rfl (opv_conv Try.underlying3 Try.underlying72 rfl) ?_
                    obtain ⟨x114, hx115, h⟩ := opt_bind h
                    refine SO.v rfl (opv_idx Try.underlying22 Try.sizeOf72 hr63 rfl rfl hx115) ?_
                    refine SO.b1 ?_
                    refine SO.storeI1 (j := 0) (z' := wu64 (w64 (x52.In + 1))) Try.sizeOf72 hx115 rfl rfl rfl rfl rfl rfl ?_
                    refine SO.rd fun hr116 => ?_
                    refine SO.nil ?_
                    refine S.to (ρ' := [(8, .int .i64 x8_4), (0, bp bp0 0), (2, .slice none 0 0), (3, v5), (9, bp b60 0), (10, .int .i64 (w64 (480 + (w64 (8 * x8_4)))))]) ⟨rfl, rfl, rfl, rfl, rfl, rfl, trivial⟩ ?_
                    refine S.region ?_
                    refine SO.v rfl (opv_move rfl) ?_
                    refine SO.v rfl (opv_move rfl) ?_
                    refine SO.v rfl (opv_add rfl rfl) ?_
                    refine SO.v rfl (opv_fieldAddr Try.underlying38 rfl Try.sizeOf3 rfl rfl) ?_
                    refine SO.b1 ?_
                    refine SO.load1 rfl Try.isAgg3 rfl rfl ?_
                    refine SO.v rfl (opv_conv Try.underlying3 Try.underlying72 rfl) ?_
                    obtain ⟨x117, hx118, h⟩ := opt_bind h
                    refine SO.v rfl (opv_idx Try.underlying22 Try.sizeOf72 hr116 rfl rfl hx118) ?_
                    refine SO.b1 ?_
                    refine SO.storeI1 (j := 0) (z' := wu64 x52.Page) Try.sizeOf72 hx118 rfl rfl rfl rfl rfl rfl ?_
                    refine SO.rd fun hr119 => ?_
                    refine SO.nil ?_
                    refine S.to (ρ' := [(8, .int .i64 x8_4), (0, bp bp0 0), (2, .slice none 0 0), (3, v5), (9, bp b60 0), (10, .int .i64 (w64 (480 + (w64 (8 * x8_4)))))]) ⟨rfl, rfl, rfl, rfl, rfl, rfl, trivial⟩ ?_
                    refine S.inBlock ?_
                    cases h
                    refine S.b5 ?_
                    refine S.b5 ?_
                    refine S.b5 ?_
                    refine S.b5 ?_
                    refine S.b4 ?_
                    refine S.b5 ?_
                    refine S.to ?_ (hk5 () trivial)
                    exact ⟨rfl, rfl, rfl, rfl, rfl, rfl, trivial⟩
                  · replace h := cond_f b113 h
                    refine S.condF rfl b113 ?_
                    refine S.seq ?_
                    refine S.region ?_
                    refine SO.v rfl (opv_eql rfl rfl) ?_
                    refine SO.v rfl (opv_assign rfl) ?_
                    refine SO.nil ?_
                    rcases bool_or (x52.Kind == 7) with b120 | b120
                    · replace h := cond_t b120 h
                      refine S.condT rfl b120 ?_
                      refine S.seq ?_
                      refine S.region ?_
                      refine SO.v rfl (opv_assign rfl) ?_
                      refine SO.nil ?_
                      refine S.to (ρ' := [(8, .int .i64 x8_4), (0, bp bp0 0), (2, .slice none 0 0), (3, v5), (9, bp b60 0), (10, .int .i64 (w64 (480 + (w64 (8 * x8_4))))), (11, .int .i64 0)]) ⟨rfl, rfl, rfl, rfl, rfl, rfl, rfl, trivial⟩ ?_
                      obtain ⟨qv5_e6, hl6, h⟩ := opt_bind h
                      refine S.b5 ?_
                      refine S.b5 ?_
                      refine S.b5 ?_
                      refine S.b5 ?_
                      refine S.b5 ?_
                      refine S.b5 ?_
                      refine S.to (ρ' := [(8, .int .i64 x8_4), (0, bp bp0 0), (2, .slice none 0 0), (3, v5), (9, bp b60 0), (10, .int .i64 (w64 (480 + (w64 (8 * x8_4))))), (11, .int .i64 0)]) ⟨rfl, rfl, rfl, rfl, rfl, rfl, rfl, trivial⟩ ?_
                      refine S.forloop (X := (Int × (List Int)) × Unit) (O := (List Int)) (fun m x => ref10_State_Words.l6 x8_4 x52 m x.1) (fun x => match x with | ((x11_6, qv5_6), _) => [(8, .int .i64 x8_4), (0, bp bp0 0), (2, .slice none 0 0), (3, v5), (9, bp b60 0), (10, .int .i64 (w64 (480 + (w64 (8 * x8_4))))), (11, .int .i64 x11_6)]) (fun x => match x with | ((x11_6, qv5_6), _) => [Box b60 [.int .i64 x52.Kind, .int .i64 x52.Size, .int .i64 x52.Used, .int .i64 x52.First, .int .i64 x52.Radix, .int .i64 x52.Wait, u57, .int .i64 x52.Word, .int .i64 x52.State, .int .i64 x52.Owing, .int .i64 x52.Badge, .int .i64 x52.Prio, .int .i64 x52.On, .int .i64 x52.Owes, .int .i64 x52.Root.Kind, .int .i64 x52.Root.Rights, .int .i64 x52.Root.Obj, .int .i64 x52.Root.Badge, .int .i64 x52.Root.Guard, .int .i64 x52.Root.Bits, .int .i64 x52.Pages.a0, .int .i64 x52.Pages.a1, .int .i64 x52.Pages.a2, .int .i64 x52.Pages.a3, .int .i64 x52.Right.a0, .int .i64 x52.Right.a1, .int .i64 x52.Right.a2, .int .i64 x52.Right.a3, .int .i64 x52.In, .int .i64 x52.Page, .int .i64 x52.Bound, .int .i64 x52.Mask], Own 72 (ekI .u64) v5 qv5_6, Box bp0 [v0_Slots, v0_Objs, .int .i64 a0.NS, .int .i64 a0.NO], OwnO 38 kr_ref10_Obj v0_Objs raws_v0_Objs A_v0_Objs a0.Objs, OwnO 71 kr_ref10_Slot v0_Slots raws_v0_Slots A_v0_Slots a0.Slots, F]) (fun Sk => (fun qv5_e6 => ∀ _ : Unit, Sk [(0, bp bp0 0), (2, .slice none 0 0), (3, v5), (8, .int .i64 x8_4), (9, bp b60 0), (10, .int .i64 (w64 (480 + (w64 (8 * x8_4)))))] [Box b60 [.int .i64 x52.Kind, .int .i64 x52.Size, .int .i64 x52.Used, .int .i64 x52.First, .int .i64 x52.Radix, .int .i64 x52.Wait, u57, .int .i64 x52.Word, .int .i64 x52.State, .int .i64 x52.Owing, .int .i64 x52.Badge, .int .i64 x52.Prio, .int .i64 x52.On, .int .i64 x52.Owes, .int .i64 x52.Root.Kind, .int .i64 x52.Root.Rights, .int .i64 x52.Root.Obj, .int .i64 x52.Root.Badge, .int .i64 x52.Root.Guard, .int .i64 x52.Root.Bits, .int .i64 x52.Pages.a0, .int .i64 x52.Pages.a1, .int .i64 x52.Pages.a2, .int .i64 x52.Pages.a3, .int .i64 x52.Right.a0, .int .i64 x52.Right.a1, .int .i64 x52.Right.a2, .int .i64 x52.Right.a3, .int .i64 x52.In, .int .i64 x52.Page, .int .i64 x52.Bound, .int .i64 x52.Mask], Own 72 (ekI .u64) v5 qv5_e6, Box bp0 [v0_Slots, v0_Objs, .int .i64 a0.NS, .int .i64 a0.NO], OwnO 38 kr_ref10_Obj v0_Objs raws_v0_Objs A_v0_Objs a0.Objs, OwnO 71 kr_ref10_Slot v0_Slots raws_v0_Slots A_v0_Slots a0.Slots, F])) (fun _ => rfl) ?_ (m := k) (x := ((0, qv5_4.set (w64 (480 + (w64 (8 * x8_4)))).toNat (wu64 x52.Kind)), ())) hl6 ?_
                      · clear h hl6
                        intro k x o_6 h hK6 ih6
                        obtain ⟨⟨x11_6, qv5_6⟩, _⟩ := x
                        replace h : ref10_State_Words.l6 x8_4 x52 (k + 1) (x11_6, qv5_6) = some o_6 := h
                        first | rw [ref10_State_Words.l6] at h | unfold ref10_State_Words.l6 at h
                        refine S.b1 ?_
                        refine S.rd fun hr121 => ?_
                        refine S.seq ?_
                        refine S.seq ?_
                        refine S.region ?_
                        refine SO.v rfl (opv_move rfl) ?_
                        refine SO.v rfl (opv_lss rfl rfl) ?_
                        refine SO.nil ?_
                        rcases bool_or (decide (x11_6 < 4)) with b122 | b122
                        · replace h := cond_t b122 h
                          refine S.condT rfl b122 ?_
                          refine S.skip ?_
                          refine S.seq ?_
                          refine S.block ?_
                          refine S.seq ?_
                          refine S.region ?_
                          refine SO.v rfl (opv_move rfl) ?_
                          refine SO.v rfl (opv_fieldAddr Try.underlying38 rfl Try.sizeOf36 rfl rfl) ?_
                          obtain ⟨x123, hx124, h⟩ := opt_bind h
                          refine SO.v rfl (opv_idxA Try.underlying36 Try.sizeOf3 rfl rfl hx124) ?_
                          refine SO.b1 ?_
                          refine SO.load1 (v := .int .i64 x123) rfl Try.isAgg3 rfl (by rcases A4.get_cases hx124 with ⟨h1, h2⟩ | ⟨h1, h2⟩ | ⟨h1, h2⟩ | ⟨h1, h2⟩ <;> simp only [h1, h2] <;> rfl) ?_
                          refine SO.v rfl (opv_geq rfl rfl) ?_
                          refine SO.nil ?_
                          rcases bool_or (decide (0 ≤ x123)) with b125 | b125
                          · replace h := cond_t b125 h
                            refine S.condT rfl b125 ?_
                            obtain ⟨x126, hx127, h⟩ := opt_bind h
                            obtain ⟨x128, hx129, h⟩ := opt_bind h
                            obtain ⟨x130, hx131, h⟩ := opt_bind h
                            refine S.draw' (Z := fun Q => ∀ (_ : Unit) (_ : Unit) (_ : Unit) (_ : Unit) (_ : Unit) (_ : Unit) (_ : Unit) (_ : Unit) (_ : Unit) (_ : Unit) (_ : Unit), Q [(8, .int .i64 x8_4), (0, bp bp0 0), (2, .slice none 0 0), (3, v5), (9, bp b60 0), (10, .int .i64 (w64 (480 + (w64 (8 * x8_4))))), (11, .int .i64 x11_6)] [Box b60 [.int .i64 x52.Kind, .int .i64 x52.Size, .int .i64 x52.Used, .int .i64 x52.First, .int .i64 x52.Radix, .int .i64 x52.Wait, u57, .int .i64 x52.Word, .int .i64 x52.State, .int .i64 x52.Owing, .int .i64 x52.Badge, .int .i64 x52.Prio, .int .i64 x52.On, .int .i64 x52.Owes, .int .i64 x52.Root.Kind, .int .i64 x52.Root.Rights, .int .i64 x52.Root.Obj, .int .i64 x52.Root.Badge, .int .i64 x52.Root.Guard, .int .i64 x52.Root.Bits, .int .i64 x52.Pages.a0, .int .i64 x52.Pages.a1, .int .i64 x52.Pages.a2, .int .i64 x52.Pages.a3, .int .i64 x52.Right.a0, .int .i64 x52.Right.a1, .int .i64 x52.Right.a2, .int .i64 x52.Right.a3, .int .i64 x52.In, .int .i64 x52.Page, .int .i64 x52.Bound, .int .i64 x52.Mask], Own 72 (ekI .u64) v5 (qv5_6.set (w64 ((w64 ((w64 (480 + (w64 (8 * x8_4)))) + 1)) + x11_6)).toNat (wu64 (w64 ((w64 (8 * (w64 (x126 + 1)))) + x128)))), Box bp0 [v0_Slots, v0_Objs, .int .i64 a0.NS, .int .i64 a0.NO], OwnO 38 kr_ref10_Obj v0_Objs raws_v0_Objs A_v0_Objs a0.Objs, OwnO 71 kr_ref10_Slot v0_Slots raws_v0_Slots A_v0_Slots a0.Slots, F]) (T := [tS 3 (v5), tS 10 (.int .i64 (w64 (480 + (w64 (8 * x8_4))))), tS 11 (.int .i64 x11_6), tS 9 (bp b60 0), tE [(8, .int .i64 x8_4), (0, bp bp0 0), (2, .slice none 0 0)], tR (Box b60 [.int .i64 x52.Kind, .int .i64 x52.Size, .int .i64 x52.Used, .int .i64 x52.First, .int .i64 x52.Radix, .int .i64 x52.Wait, u57, .int .i64 x52.Word, .int .i64 x52.State, .int .i64 x52.Owing, .int .i64 x52.Badge, .int .i64 x52.Prio, .int .i64 x52.On, .int .i64 x52.Owes, .int .i64 x52.Root.Kind, .int .i64 x52.Root.Rights, .int .i64 x52.Root.Obj, .int .i64 x52.Root.Badge, .int .i64 x52.Root.Guard, .int .i64 x52.Root.Bits, .int .i64 x52.Pages.a0, .int .i64 x52.Pages.a1, .int .i64 x52.Pages.a2, .int .i64 x52.Pages.a3, .int .i64 x52.Right.a0, .int .i64 x52.Right.a1, .int .i64 x52.Right.a2, .int .i64 x52.Right.a3, .int .i64 x52.In, .int .i64 x52.Page, .int .i64 x52.Bound, .int .i64 x52.Mask]), tR (Own 72 (ekI .u64) v5 qv5_6), tR (Box bp0 [v0_Slots, v0_Objs, .int .i64 a0.NS, .int .i64 a0.NO]), tR (OwnO 38 kr_ref10_Obj v0_Objs raws_v0_Objs A_v0_Objs a0.Objs), tR (OwnO 71 kr_ref10_Slot v0_Slots raws_v0_Slots A_v0_Slots a0.Slots), tR (F), tS 260 (v5), tS 261 (.int .i64 (w64 (480 + (w64 (8 * x8_4))))), tS 262 (.int .i64 (w64 ((w64 (480 + (w64 (8 * x8_4)))) + 1))), tS 263 (.int .i64 x11_6), tS 264 (.int .i64 (w64 ((w64 ((w64 (480 + (w64 (8 * x8_4)))) + 1)) + x11_6))), tS 265 (.int .i64 x11_6), tS 266 (bp b60 20), tS 267 (bp b60 (20 + x11_6.toNat)), tS 268 (.int .i64 x126), tS 269 (.int .i64 (w64 (x126 + 1))), tS 270 (.int .i64 (w64 (8 * (w64 (x126 + 1))))), tS 271 (.int .i64 x11_6), tS 272 (bp b60 24), tS 273 (bp b60 (24 + x11_6.toNat)), tS 274 (.int .i64 x128), tS 275 (.int .i64 (w64 ((w64 (8 * (w64 (x126 + 1)))) + x128))), tS 276 (.int .u64 (wu64 (w64 ((w64 (8 * (w64 (x126 + 1)))) + x128)))), tS 277 (idxp v5 ((w64 ((w64 ((w64 (480 + (w64 (8 * x8_4)))) + 1)) + x11_6)).toNat * (ekI .u64).sz)), tR (Own 72 (ekI .u64) v5 (qv5_6.set (w64 ((w64 ((w64 (480 + (w64 (8 * x8_4)))) + 1)) + x11_6)).toNat (wu64 (w64 ((w64 (8 * (w64 (x126 + 1)))) + x128)))))]) (D := [⟨[0], [], [11]⟩, ⟨[1], [], [12]⟩, ⟨[12], [], [13]⟩, ⟨[2], [], [14]⟩, ⟨[13, 14], [], [15]⟩, ⟨[2], [], [16]⟩, ⟨[3], [], [17]⟩, ⟨[16, 17, 5], [], [18]⟩, ⟨[18, 5], [], [19]⟩, ⟨[19], [], [20]⟩, ⟨[20], [], [21]⟩, ⟨[2], [], [22]⟩, ⟨[3], [], [23]⟩, ⟨[22, 23, 5], [], [24]⟩, ⟨[24, 5], [], [25]⟩, ⟨[21, 25], [], [26]⟩, ⟨[26], [], [27]⟩, ⟨[11, 15, 6], [], [28]⟩, ⟨[27, 28], [6], [29]⟩]) (ini := [0, 1, 2, 3, 4, 5, 6, 7, 8, 9, 10]) (fin := [4, 0, 3, 1, 2, 5, 29, 7, 8, 9, 10]) (bf := [[], [], [1], [], [1, 2, 3], [], [], [5, 6], [5, 6, 7], [5, 6, 7, 8], [5, 6, 7, 8, 9], [], [], [11, 12], [11, 12, 13], [5, 6, 7, 8, 9, 10, 11, 12, 13, 14], [5, 6, 7, 8, 9, 10, 11, 12, 13, 14, 15], [0, 1, 2, 3, 4, 5, 6, 7, 8, 9, 10, 11, 12, 13, 14, 15, 16], [0, 1, 2, 3, 4, 5, 6, 7, 8, 9, 10, 11, 12, 13, 14, 15, 16, 17]]) (by kernel_rfl) (by kernel_rfl) (fun x w h1 h2 => (.cons () (.cons () (.cons () (.cons () (.cons () (.cons () (.cons () (.cons () (.cons () (.cons () (.cons () (.nil ⟨EnvAll.of h1 ⟨rfl, rfl, rfl, rfl, rfl, rfl, rfl, trivial⟩, h2⟩))))))))))))) (fun Q => by kernel_rfl) ⟨?_, ?_, ?_, ?_, ?_, ?_, ?_, ?_, ?_, ?_, ?_, ?_, ?_, ?_, ?_, ?_, ?_, ?_, ?_, trivial⟩ ?_
                            · rintro Fr _
                              refine SO.v rfl (opv_move rfl) ?_
                              exact SO.nilZ fun a w h1 h2 h3 h4 h5 => PZ.of h1 h3 h5 (.cons () (.cons () (.nil ⟨EnvAll.of h2 ⟨rfl, rfl, trivial⟩, h4⟩)))
                            · rintro Fr _
                              refine SO.v rfl (opv_move rfl) ?_
                              exact SO.nilZ fun a w h1 h2 h3 h4 h5 => PZ.of h1 h3 h5 (.cons () (.cons () (.nil ⟨EnvAll.of h2 ⟨rfl, rfl, trivial⟩, h4⟩)))
                            · rintro Fr _
                              refine SO.v rfl (opv_add rfl rfl) ?_
                              exact SO.nilZ fun a w h1 h2 h3 h4 h5 => PZ.of h1 h3 h5 (.cons () (.cons () (.nil ⟨EnvAll.of h2 ⟨rfl, rfl, trivial⟩, h4⟩)))
                            · rintro Fr _
                              refine SO.v rfl (opv_move rfl) ?_
                              exact SO.nilZ fun a w h1 h2 h3 h4 h5 => PZ.of h1 h3 h5 (.cons () (.cons () (.nil ⟨EnvAll.of h2 ⟨rfl, rfl, trivial⟩, h4⟩)))
                            · rintro Fr _ _
                              refine SO.v rfl (opv_add rfl rfl) ?_
                              exact SO.nilZ fun a w h1 h2 h3 h4 h5 => PZ.of h1 h3 h5 (.cons () (.cons () (.cons () (.nil ⟨EnvAll.of h2 ⟨rfl, rfl, rfl, trivial⟩, h4⟩))))
                            · rintro Fr _
                              refine SO.v rfl (opv_move rfl) ?_
                              exact SO.nilZ fun a w h1 h2 h3 h4 h5 => PZ.of h1 h3 h5 (.cons () (.cons () (.nil ⟨EnvAll.of h2 ⟨rfl, rfl, trivial⟩, h4⟩)))
                            · rintro Fr _
                              refine SO.v rfl (opv_fieldAddr Try.underlying38 rfl Try.sizeOf36 rfl rfl) ?_
                              exact SO.nilZ fun a w h1 h2 h3 h4 h5 => PZ.of h1 h3 h5 (.cons () (.cons () (.nil ⟨EnvAll.of h2 ⟨rfl, rfl, trivial⟩, h4⟩)))
                            · rintro Fr _ _ _
                              refine SO.v rfl (opv_idxA Try.underlying36 Try.sizeOf3 rfl rfl hx127) ?_
                              exact SO.nilZ fun a w h1 h2 h3 h4 h5 => PZ.of h1 h3 h5 (.cons () (.cons () (.cons () (.cons () (.nil ⟨EnvAll.of h2 ⟨rfl, rfl, rfl, trivial⟩, h4⟩)))))
                            · rintro Fr _ _
                              refine SO.load1 (v := .int .i64 x126) rfl Try.isAgg3 rfl (by rcases A4.get_cases hx127 with ⟨h1, h2⟩ | ⟨h1, h2⟩ | ⟨h1, h2⟩ | ⟨h1, h2⟩ <;> simp only [h1, h2] <;> rfl) ?_
                              exact SO.nilZ fun a w h1 h2 h3 h4 h5 => PZ.of h1 h3 h5 (.cons () (.cons () (.cons () (.nil ⟨EnvAll.of h2 ⟨rfl, rfl, trivial⟩, h4⟩))))
                            · rintro Fr _
                              refine SO.v rfl (opv_add rfl rfl) ?_
                              exact SO.nilZ fun a w h1 h2 h3 h4 h5 => PZ.of h1 h3 h5 (.cons () (.cons () (.nil ⟨EnvAll.of h2 ⟨rfl, rfl, trivial⟩, h4⟩)))
                            · rintro Fr _
                              refine SO.v rfl (opv_mul rfl rfl) ?_
                              exact SO.nilZ fun a w h1 h2 h3 h4 h5 => PZ.of h1 h3 h5 (.cons () (.cons () (.nil ⟨EnvAll.of h2 ⟨rfl, rfl, trivial⟩, h4⟩)))
                            · rintro Fr _
                              refine SO.v rfl (opv_move rfl) ?_
                              exact SO.nilZ fun a w h1 h2 h3 h4 h5 => PZ.of h1 h3 h5 (.cons () (.cons () (.nil ⟨EnvAll.of h2 ⟨rfl, rfl, trivial⟩, h4⟩)))
                            · rintro Fr _
                              refine SO.v rfl (opv_fieldAddr Try.underlying38 rfl Try.sizeOf36 rfl rfl) ?_
                              exact SO.nilZ fun a w h1 h2 h3 h4 h5 => PZ.of h1 h3 h5 (.cons () (.cons () (.nil ⟨EnvAll.of h2 ⟨rfl, rfl, trivial⟩, h4⟩)))
                            · rintro Fr _ _ _
                              refine SO.v rfl (opv_idxA Try.underlying36 Try.sizeOf3 rfl rfl hx129) ?_
                              exact SO.nilZ fun a w h1 h2 h3 h4 h5 => PZ.of h1 h3 h5 (.cons () (.cons () (.cons () (.cons () (.nil ⟨EnvAll.of h2 ⟨rfl, rfl, rfl, trivial⟩, h4⟩)))))
                            · rintro Fr _ _
                              refine SO.load1 (v := .int .i64 x128) rfl Try.isAgg3 rfl (by rcases A4.get_cases hx129 with ⟨h1, h2⟩ | ⟨h1, h2⟩ | ⟨h1, h2⟩ | ⟨h1, h2⟩ <;> simp only [h1, h2] <;> rfl) ?_
                              exact SO.nilZ fun a w h1 h2 h3 h4 h5 => PZ.of h1 h3 h5 (.cons () (.cons () (.cons () (.nil ⟨EnvAll.of h2 ⟨rfl, rfl, trivial⟩, h4⟩))))
                            · rintro Fr _ _
                              refine SO.v rfl (opv_add rfl rfl) ?_
                              exact SO.nilZ fun a w h1 h2 h3 h4 h5 => PZ.of h1 h3 h5 (.cons () (.cons () (.cons () (.nil ⟨EnvAll.of h2 ⟨rfl, rfl, rfl, trivial⟩, h4⟩))))
                            · rintro Fr _
                              refine SO.v rfl (opv_conv Try.underlying3 Try.underlying72 rfl) ?_
                              exact SO.nilZ fun a w h1 h2 h3 h4 h5 => PZ.of h1 h3 h5 (.cons () (.cons () (.nil ⟨EnvAll.of h2 ⟨rfl, rfl, trivial⟩, h4⟩)))
                            · rintro Fr _ _ _
                              refine SO.v rfl (opv_idx Try.underlying22 Try.sizeOf72 hr121 rfl rfl hx131) ?_
                              exact SO.nilZ fun a w h1 h2 h3 h4 h5 => PZ.of h1 h3 h5 (.cons () (.cons () (.cons () (.cons () (.nil ⟨EnvAll.of h2 ⟨rfl, rfl, rfl, trivial⟩, h4⟩)))))
                            · rintro Fr _ _ _
                              refine SO.storeI1 (j := 0) (z' := wu64 (w64 ((w64 (8 * (w64 (x126 + 1)))) + x128))) Try.sizeOf72 hx131 rfl rfl rfl rfl rfl rfl ?_
                              refine SO.rd fun hr132 => ?_
                              exact SO.nilZ fun a w h1 h2 h3 h4 h5 => PZ.of h1 h3 h5 (.cons () (.cons () (.cons () (.nil ⟨EnvAll.of h2 ⟨rfl, rfl, trivial⟩, h4⟩))))
                            rintro _ _ _ _ _ _ _ _ _ _ _
                            refine S.to (ρ' := [(8, .int .i64 x8_4), (0, bp bp0 0), (2, .slice none 0 0), (3, v5), (9, bp b60 0), (10, .int .i64 (w64 (480 + (w64 (8 * x8_4))))), (11, .int .i64 x11_6)]) ⟨rfl, rfl, rfl, rfl, rfl, rfl, rfl, trivial⟩ ?_
                            refine S.b1 ?_
                            refine S.rd fun hr133 => ?_
                            refine S.inBlock ?_
                            refine S.region ?_
                            refine SO.v rfl (opv_move rfl) ?_
                            refine SO.v rfl (opv_add rfl rfl) ?_
                            refine SO.v rfl (opv_assign rfl) ?_
                            refine SO.nil ?_
                            refine S.b5 ?_
                            refine S.b5 ?_
                            refine S.b5 ?_
                            refine S.b5 ?_
                            refine S.b4 ?_
                            refine S.b5 ?_
                            refine S.to ?_ (ih6 ((w64 (x11_6 + 1), qv5_6.set (w64 ((w64 ((w64 (480 + (w64 (8 * x8_4)))) + 1)) + x11_6)).toNat (wu64 (w64 ((w64 (8 * (w64 (x126 + 1)))) + x128)))), ()) h)
                            exact ⟨rfl, rfl, rfl, rfl, rfl, rfl, rfl, trivial⟩
                          · replace h := cond_f b125 h
                            refine S.condF rfl b125 ?_
                            refine S.skip ?_
                            refine S.inBlock ?_
                            refine S.region ?_
                            refine SO.v rfl (opv_move rfl) ?_
                            refine SO.v rfl (opv_add rfl rfl) ?_
                            refine SO.v rfl (opv_assign rfl) ?_
                            refine SO.nil ?_
                            refine S.to (ρ' := [(8, .int .i64 x8_4), (0, bp bp0 0), (2, .slice none 0 0), (3, v5), (9, bp b60 0), (10, .int .i64 (w64 (480 + (w64 (8 * x8_4))))), (11, .int .i64 (w64 (x11_6 + 1)))]) ⟨rfl, rfl, rfl, rfl, rfl, rfl, rfl, trivial⟩ ?_
                            refine S.b5 ?_
                            refine S.b5 ?_
                            refine S.b5 ?_
                            refine S.b5 ?_
                            refine S.b5 ?_
                            refine S.b5 ?_
                            refine S.to ?_ (ih6 ((w64 (x11_6 + 1), qv5_6), ()) h)
                            exact ⟨rfl, rfl, rfl, rfl, rfl, rfl, rfl, trivial⟩
                        · replace h := cond_f b122 h
                          refine S.condF rfl b122 ?_
                          refine S.exit rfl ?_
                          cases h
                          refine S.b5 ?_
                          refine S.b5 ?_
                          refine S.b5 ?_
                          refine S.b5 ?_
                          refine S.b4 ?_
                          refine S.b5 ?_
                          refine S.to ?_ (hK6 ())
                          exact ⟨rfl, rfl, rfl, rfl, rfl, rfl, trivial⟩
                      rintro _
                      refine S.b1 ?_
                      refine S.rd fun hr134 => ?_
                      refine S.inBlock ?_
                      cases h
                      refine S.b5 ?_
                      refine S.b5 ?_
                      refine S.b5 ?_
                      refine S.b5 ?_
                      refine S.b4 ?_
                      refine S.b5 ?_
                      refine S.to ?_ (hk5 () trivial)
                      exact ⟨rfl, rfl, rfl, rfl, rfl, rfl, trivial⟩
                    · replace h := cond_f b120 h
                      refine S.condF rfl b120 ?_
                      refine S.seq ?_
                      refine S.region ?_
                      refine SO.v rfl (opv_eql rfl rfl) ?_
                      refine SO.v rfl (opv_assign rfl) ?_
                      refine SO.nil ?_
                      refine S.to (ρ' := [(8, .int .i64 x8_4), (0, bp bp0 0), (2, .slice none 0 0), (3, v5), (9, bp b60 0), (10, .int .i64 (w64 (480 + (w64 (8 * x8_4))))), (278, .bool (x52.Kind == 8))]) ⟨rfl, rfl, rfl, rfl, rfl, rfl, rfl, trivial⟩ ?_
                      rcases bool_or (x52.Kind == 8) with b135 | b135
                      · replace h := cond_t b135 h
                        refine S.condT rfl b135 ?_
                        refine S.seq ?_
                        refine S.region ?_
                        refine SO.v rfl (opv_move rfl) ?_
                        refine SO.v rfl (opv_move rfl) ?_
                        refine SO.v rfl (opv_add rfl rfl) ?_
                        refine SO.v rfl (opv_fieldAddr Try.underlying38 rfl Try.sizeOf3 rfl rfl) ?_
                        refine SO.load1 rfl Try.isAgg3 rfl rfl ?_
                        refine SO.v rfl (opv_add rfl rfl) ?_
                        refine SO.v rfl (opv_conv Try.underlying3 Try.underlying72 rfl) ?_
                        obtain ⟨x136, hx137, h⟩ := opt_bind h
                        refine SO.v rfl (opv_idx Try.underlying22 Try.sizeOf72 hr63 rfl rfl hx137) ?_
                        refine SO.b1 ?_
                        refine SO.storeI1 (j := 0) (z' := wu64 (w64 (x52.Bound + 1))) Try.sizeOf72 hx137 rfl rfl rfl rfl rfl rfl ?_
                        refine SO.rd fun hr138 => ?_
                        refine SO.nil ?_
                        refine S.to (ρ' := [(8, .int .i64 x8_4), (0, bp bp0 0), (2, .slice none 0 0), (3, v5), (9, bp b60 0), (10, .int .i64 (w64 (480 + (w64 (8 * x8_4)))))]) ⟨rfl, rfl, rfl, rfl, rfl, rfl, trivial⟩ ?_
                        refine S.seq ?_
                        refine S.region ?_
                        refine SO.v rfl (opv_move rfl) ?_
                        refine SO.v rfl (opv_move rfl) ?_
                        refine SO.v rfl (opv_add rfl rfl) ?_
                        refine SO.v rfl (opv_fieldAddr Try.underlying38 rfl Try.sizeOf3 rfl rfl) ?_
                        refine SO.b1 ?_
                        refine SO.load1 rfl Try.isAgg3 rfl rfl ?_
                        refine SO.v rfl (opv_conv Try.underlying3 Try.underlying72 rfl) ?_
                        obtain ⟨x139, hx140, h⟩ := opt_bind h
                        refine SO.v rfl (opv_idx Try.underlying22 Try.sizeOf72 hr138 rfl rfl hx140) ?_
                        refine SO.b1 ?_
                        refine SO.storeI1 (j := 0) (z' := wu64 x52.Badge) Try.sizeOf72 hx140 rfl rfl rfl rfl rfl rfl ?_
                        refine SO.rd fun hr141 => ?_
                        refine SO.nil ?_
                        refine S.to (ρ' := [(8, .int .i64 x8_4), (0, bp bp0 0), (2, .slice none 0 0), (3, v5), (9, bp b60 0), (10, .int .i64 (w64 (480 + (w64 (8 * x8_4)))))]) ⟨rfl, rfl, rfl, rfl, rfl, rfl, trivial⟩ ?_
                        refine S.region ?_
                        refine SO.v rfl (opv_move rfl) ?_
                        refine SO.v rfl (opv_move rfl) ?_
                        refine SO.v rfl (opv_add rfl rfl) ?_
                        refine SO.v rfl (opv_fieldAddr Try.underlying38 rfl Try.sizeOf3 rfl rfl) ?_
                        refine SO.b1 ?_
                        refine SO.load1 rfl Try.isAgg3 rfl rfl ?_
                        refine SO.v rfl (opv_conv Try.underlying3 Try.underlying72 rfl) ?_
                        obtain ⟨x142, hx143, h⟩ := opt_bind h
                        refine SO.v rfl (opv_idx Try.underlying22 Try.sizeOf72 hr141 rfl rfl hx143) ?_
                        refine SO.b1 ?_
                        refine SO.storeI1 (j := 0) (z' := wu64 x52.Mask) Try.sizeOf72 hx143 rfl rfl rfl rfl rfl rfl ?_
                        refine SO.rd fun hr144 => ?_
                        refine SO.nil ?_
                        refine S.to (ρ' := [(8, .int .i64 x8_4), (0, bp bp0 0), (2, .slice none 0 0), (3, v5), (9, bp b60 0), (10, .int .i64 (w64 (480 + (w64 (8 * x8_4)))))]) ⟨rfl, rfl, rfl, rfl, rfl, rfl, trivial⟩ ?_
                        refine S.inBlock ?_
                        cases h
                        refine S.b5 ?_
                        refine S.b5 ?_
                        refine S.b5 ?_
                        refine S.b5 ?_
                        refine S.b4 ?_
                        refine S.b5 ?_
                        refine S.to ?_ (hk5 () trivial)
                        exact ⟨rfl, rfl, rfl, rfl, rfl, rfl, trivial⟩
                      · replace h := cond_f b135 h
                        refine S.condF rfl b135 ?_
                        refine S.skip ?_
                        refine S.inBlock ?_
                        cases h
                        refine S.b5 ?_
                        refine S.b5 ?_
                        refine S.b5 ?_
                        refine S.b5 ?_
                        refine S.b5 ?_
                        refine S.b5 ?_
                        refine S.to ?_ (hk5 () trivial)
                        exact ⟨rfl, rfl, rfl, rfl, rfl, rfl, trivial⟩
      rintro _ -
      replace h := hJ5
      refine S.b1 ?_
      refine S.rd fun hr145 => ?_
      refine S.seq ?_
      refine S.region ?_
      refine SO.v rfl (opv_assign rfl) ?_
      refine SO.nil ?_
      obtain ⟨qv5_e7, hl7, h⟩ := opt_bind h
      refine S.b5 ?_
      refine S.b5 ?_
      refine S.b5 ?_
      refine S.b5 ?_
      refine S.b5 ?_
      refine S.b5 ?_
      refine S.to (ρ' := [(12, .int .i64 0), (0, bp bp0 0), (2, .slice none 0 0), (3, v5), (8, .int .i64 x8_4), (9, bp b60 0), (10, .int .i64 (w64 (480 + (w64 (8 * x8_4)))))]) ⟨rfl, rfl, rfl, rfl, rfl, rfl, rfl, trivial⟩ ?_
      refine S.forloop (X := (Int × (List Int)) × Unit) (O := (List Int)) (fun m x => ref10_State_Words.l7 x8_4 x52 m x.1) (fun x => match x with | ((x12_7, qv5_7), _) => [(12, .int .i64 x12_7), (0, bp bp0 0), (2, .slice none 0 0), (3, v5), (8, .int .i64 x8_4), (9, bp b60 0), (10, .int .i64 (w64 (480 + (w64 (8 * x8_4)))))]) (fun x => match x with | ((x12_7, qv5_7), _) => [Own 72 (ekI .u64) v5 qv5_7, Box b60 [.int .i64 x52.Kind, .int .i64 x52.Size, .int .i64 x52.Used, .int .i64 x52.First, .int .i64 x52.Radix, .int .i64 x52.Wait, u57, .int .i64 x52.Word, .int .i64 x52.State, .int .i64 x52.Owing, .int .i64 x52.Badge, .int .i64 x52.Prio, .int .i64 x52.On, .int .i64 x52.Owes, .int .i64 x52.Root.Kind, .int .i64 x52.Root.Rights, .int .i64 x52.Root.Obj, .int .i64 x52.Root.Badge, .int .i64 x52.Root.Guard, .int .i64 x52.Root.Bits, .int .i64 x52.Pages.a0, .int .i64 x52.Pages.a1, .int .i64 x52.Pages.a2, .int .i64 x52.Pages.a3, .int .i64 x52.Right.a0, .int .i64 x52.Right.a1, .int .i64 x52.Right.a2, .int .i64 x52.Right.a3, .int .i64 x52.In, .int .i64 x52.Page, .int .i64 x52.Bound, .int .i64 x52.Mask], Box bp0 [v0_Slots, v0_Objs, .int .i64 a0.NS, .int .i64 a0.NO], OwnO 38 kr_ref10_Obj v0_Objs raws_v0_Objs A_v0_Objs a0.Objs, OwnO 71 kr_ref10_Slot v0_Slots raws_v0_Slots A_v0_Slots a0.Slots, F]) (fun Sk => (fun qv5_e7 => ∀ _ : Unit, Sk [(0, bp bp0 0), (2, .slice none 0 0), (3, v5), (8, .int .i64 x8_4)] [Own 72 (ekI .u64) v5 qv5_e7, Box b60 [.int .i64 x52.Kind, .int .i64 x52.Size, .int .i64 x52.Used, .int .i64 x52.First, .int .i64 x52.Radix, .int .i64 x52.Wait, u57, .int .i64 x52.Word, .int .i64 x52.State, .int .i64 x52.Owing, .int .i64 x52.Badge, .int .i64 x52.Prio, .int .i64 x52.On, .int .i64 x52.Owes, .int .i64 x52.Root.Kind, .int .i64 x52.Root.Rights, .int .i64 x52.Root.Obj, .int .i64 x52.Root.Badge, .int .i64 x52.Root.Guard, .int .i64 x52.Root.Bits, .int .i64 x52.Pages.a0, .int .i64 x52.Pages.a1, .int .i64 x52.Pages.a2, .int .i64 x52.Pages.a3, .int .i64 x52.Right.a0, .int .i64 x52.Right.a1, .int .i64 x52.Right.a2, .int .i64 x52.Right.a3, .int .i64 x52.In, .int .i64 x52.Page, .int .i64 x52.Bound, .int .i64 x52.Mask], Box bp0 [v0_Slots, v0_Objs, .int .i64 a0.NS, .int .i64 a0.NO], OwnO 38 kr_ref10_Obj v0_Objs raws_v0_Objs A_v0_Objs a0.Objs, OwnO 71 kr_ref10_Slot v0_Slots raws_v0_Slots A_v0_Slots a0.Slots, F])) (fun _ => rfl) ?_ (m := k) (x := ((0, qv5_5), ())) hl7 ?_
      · clear h hl7
        intro k x o_7 h hK7 ih7
        obtain ⟨⟨x12_7, qv5_7⟩, _⟩ := x
        replace h : ref10_State_Words.l7 x8_4 x52 (k + 1) (x12_7, qv5_7) = some o_7 := h
        first | rw [ref10_State_Words.l7] at h | unfold ref10_State_Words.l7 at h
        refine S.rd fun hr146 => ?_
        refine S.seq ?_
        refine S.seq ?_
        refine S.region ?_
        refine SO.v rfl (opv_move rfl) ?_
        refine SO.v rfl (opv_fieldAddr Try.underlying38 rfl Try.sizeOf35 rfl rfl) ?_
        refine SO.b1 ?_
        refine SO.load1 rfl Try.isAgg35 rfl rfl ?_
        refine SO.v rfl (opv_lenR rfl Try.underlying35 hru58 rfl) ?_
        refine SO.v rfl (opv_lss rfl rfl) ?_
        refine SO.nil ?_
        rcases bool_or (decide (x12_7 < (x52.Queue.length : Int))) with b147 | b147
        · replace h := cond_t b147 h
          refine S.condT rfl b147 ?_
          refine S.skip ?_
          refine S.seq ?_
          refine S.block ?_
          refine S.seq ?_
          refine S.region ?_
          refine SO.v rfl (opv_fieldAddr Try.underlying38 rfl Try.sizeOf35 rfl rfl) ?_
          refine SO.load1 rfl Try.isAgg35 rfl rfl ?_
          refine SO.v rfl (opv_move rfl) ?_
          obtain ⟨x148, hx149, h⟩ := opt_bind h
          refine SO.v rfl (opv_idx Try.underlying35 Try.sizeOf3 hru58 rfl rfl hx149) ?_
          refine SO.loadI1 (j := 0) rfl Try.isAgg3 (Rd.tail (Rd.tail (Rd.tail (Rd.head (Rd.pool hru58))))) hx149 rfl rfl rfl rfl ?_
          refine SO.v rfl (opv_assign rfl) ?_
          refine SO.nil ?_
          refine S.to (ρ' := [(12, .int .i64 x12_7), (0, bp bp0 0), (2, .slice none 0 0), (3, v5), (8, .int .i64 x8_4), (9, bp b60 0), (10, .int .i64 (w64 (480 + (w64 (8 * x8_4))))), (13, .int .i64 x148)]) ⟨rfl, rfl, rfl, rfl, rfl, rfl, rfl, rfl, trivial⟩ ?_
          refine S.seq ?_
          refine S.seq ?_
          refine S.region ?_
          refine SO.v rfl (opv_move rfl) ?_
          refine SO.v rfl (opv_eql rfl rfl) ?_
          refine SO.nil ?_
          obtain ⟨qv5_8, hC8, hJ8⟩ := opt_bind h
          clear h
          refine S.cutP (G := Unit) (fun _ => True) (fun _ => [(0, bp bp0 0), (2, .slice none 0 0), (3, v5), (8, .int .i64 x8_4), (9, bp b60 0), (10, .int .i64 (w64 (480 + (w64 (8 * x8_4))))), (12, .int .i64 x12_7), (13, .int .i64 x148)]) (fun _ => [Box b60 [.int .i64 x52.Kind, .int .i64 x52.Size, .int .i64 x52.Used, .int .i64 x52.First, .int .i64 x52.Radix, .int .i64 x52.Wait, u57, .int .i64 x52.Word, .int .i64 x52.State, .int .i64 x52.Owing, .int .i64 x52.Badge, .int .i64 x52.Prio, .int .i64 x52.On, .int .i64 x52.Owes, .int .i64 x52.Root.Kind, .int .i64 x52.Root.Rights, .int .i64 x52.Root.Obj, .int .i64 x52.Root.Badge, .int .i64 x52.Root.Guard, .int .i64 x52.Root.Bits, .int .i64 x52.Pages.a0, .int .i64 x52.Pages.a1, .int .i64 x52.Pages.a2, .int .i64 x52.Pages.a3, .int .i64 x52.Right.a0, .int .i64 x52.Right.a1, .int .i64 x52.Right.a2, .int .i64 x52.Right.a3, .int .i64 x52.In, .int .i64 x52.Page, .int .i64 x52.Bound, .int .i64 x52.Mask], Own 72 (ekI .u64) v5 qv5_8, Box bp0 [v0_Slots, v0_Objs, .int .i64 a0.NS, .int .i64 a0.NO], OwnO 38 kr_ref10_Obj v0_Objs raws_v0_Objs A_v0_Objs a0.Objs, OwnO 71 kr_ref10_Slot v0_Slots raws_v0_Slots A_v0_Slots a0.Slots, F]) (fun hk8 => ?_) ?_
          · replace h := hC8
            rcases bool_or (x12_7 == 0) with b150 | b150
            · replace h := cond_t b150 h
              refine S.condT rfl b150 ?_
              refine S.region ?_
              refine SO.v rfl (opv_move rfl) ?_
              refine SO.v rfl (opv_move rfl) ?_
              refine SO.v rfl (opv_add rfl rfl) ?_
              refine SO.v rfl (opv_move rfl) ?_
              refine SO.v rfl (opv_add rfl rfl) ?_
              refine SO.v rfl (opv_conv Try.underlying3 Try.underlying72 rfl) ?_
              obtain ⟨x151, hx152, h⟩ := opt_bind h
              refine SO.v rfl (opv_idx Try.underlying22 Try.sizeOf72 hr146 rfl rfl hx152) ?_
              refine SO.b1 ?_
              refine SO.storeI1 (j := 0) (z' := wu64 (w64 (x148 + 1))) Try.sizeOf72 hx152 rfl rfl rfl rfl rfl rfl ?_
              refine SO.rd fun hr153 => ?_
              refine SO.nil ?_
              refine S.to (ρ' := [(12, .int .i64 x12_7), (0, bp bp0 0), (2, .slice none 0 0), (3, v5), (8, .int .i64 x8_4), (9, bp b60 0), (10, .int .i64 (w64 (480 + (w64 (8 * x8_4))))), (13, .int .i64 x148)]) ⟨rfl, rfl, rfl, rfl, rfl, rfl, rfl, rfl, trivial⟩ ?_
              cases h
              refine S.b5 ?_
              refine S.b5 ?_
              refine S.b5 ?_
              refine S.b5 ?_
              refine S.b4 ?_
              refine S.b5 ?_
              refine S.to ?_ (hk8 () trivial)
              exact ⟨rfl, rfl, rfl, rfl, rfl, rfl, rfl, rfl, trivial⟩
            · replace h := cond_f b150 h
              refine S.condF rfl b150 ?_
              refine S.skip ?_
              cases h
              refine S.b5 ?_
              refine S.b5 ?_
              refine S.b5 ?_
              refine S.b5 ?_
              refine S.b5 ?_
              refine S.b5 ?_
              refine S.to ?_ (hk8 () trivial)
              exact ⟨rfl, rfl, rfl, rfl, rfl, rfl, rfl, rfl, trivial⟩
          rintro _ -
          replace h := hJ8
          refine S.b1 ?_
          refine S.rd fun hr154 => ?_
          refine S.seq ?_
          refine S.region ?_
          refine SO.v rfl (opv_move rfl) ?_
          refine SO.v rfl (opv_add rfl rfl) ?_
          refine SO.v rfl (opv_fieldAddr Try.underlying38 rfl Try.sizeOf35 rfl rfl) ?_
          refine SO.b1 ?_
          refine SO.load1 rfl Try.isAgg35 rfl rfl ?_
          refine SO.v rfl (opv_lenR rfl Try.underlying35 hru58 rfl) ?_
          refine SO.v rfl (opv_lss rfl rfl) ?_
          refine SO.nil ?_
          rcases bool_or (decide ((w64 (x12_7 + 1)) < (x52.Queue.length : Int))) with b155 | b155
          · replace h := cond_t b155 h
            refine S.condT rfl b155 ?_
            refine S.region ?_
            refine SO.v rfl (opv_move rfl) ?_
            refine SO.v rfl (opv_move rfl) ?_
            refine SO.v rfl (opv_mul rfl rfl) ?_
            refine SO.v rfl (opv_add rfl rfl) ?_
            refine SO.v rfl (opv_add rfl rfl) ?_
            refine SO.v rfl (opv_fieldAddr Try.underlying38 rfl Try.sizeOf35 rfl rfl) ?_
            refine SO.load1 rfl Try.isAgg35 rfl rfl ?_
            refine SO.v rfl (opv_move rfl) ?_
            refine SO.v rfl (opv_add rfl rfl) ?_
            obtain ⟨x156, hx157, h⟩ := opt_bind h
            refine SO.v rfl (opv_idx Try.underlying35 Try.sizeOf3 hru58 rfl rfl hx157) ?_
            refine SO.loadI1 (j := 0) rfl Try.isAgg3 (Rd.tail (Rd.tail (Rd.tail (Rd.head (Rd.pool hru58))))) hx157 rfl rfl rfl rfl ?_
            refine SO.v rfl (opv_add rfl rfl) ?_
            refine SO.v rfl (opv_conv Try.underlying3 Try.underlying72 rfl) ?_
            obtain ⟨x158, hx159, h⟩ := opt_bind h
            refine SO.v rfl (opv_idx Try.underlying22 Try.sizeOf72 hr154 rfl rfl hx159) ?_
            refine SO.b1 ?_
            refine SO.storeI1 (j := 0) (z' := wu64 (w64 (x156 + 1))) Try.sizeOf72 hx159 rfl rfl rfl rfl rfl rfl ?_
            refine SO.rd fun hr160 => ?_
            refine SO.nil ?_
            refine S.to (ρ' := [(0, bp bp0 0), (2, .slice none 0 0), (3, v5), (8, .int .i64 x8_4), (9, bp b60 0), (10, .int .i64 (w64 (480 + (w64 (8 * x8_4))))), (12, .int .i64 x12_7)]) ⟨rfl, rfl, rfl, rfl, rfl, rfl, rfl, trivial⟩ ?_
            refine S.inBlock ?_
            refine S.region ?_
            refine SO.v rfl (opv_move rfl) ?_
            refine SO.v rfl (opv_add rfl rfl) ?_
            refine SO.v rfl (opv_assign rfl) ?_
            refine SO.nil ?_
            refine S.b5 ?_
            refine S.b5 ?_
            refine S.b5 ?_
            refine S.b5 ?_
            refine S.b5 ?_
            refine S.b5 ?_
            refine S.to ?_ (ih7 ((w64 (x12_7 + 1), qv5_8.set (w64 ((w64 (480 + (w64 (8 * x148)))) + 2)).toNat (wu64 (w64 (x156 + 1)))), ()) h)
            exact ⟨rfl, rfl, rfl, rfl, rfl, rfl, rfl, trivial⟩
          · replace h := cond_f b155 h
            refine S.condF rfl b155 ?_
            refine S.region ?_
            refine SO.v rfl (opv_move rfl) ?_
            refine SO.v rfl (opv_move rfl) ?_
            refine SO.v rfl (opv_add rfl rfl) ?_
            refine SO.v rfl (opv_move rfl) ?_
            refine SO.v rfl (opv_add rfl rfl) ?_
            refine SO.v rfl (opv_conv Try.underlying3 Try.underlying72 rfl) ?_
            obtain ⟨x161, hx162, h⟩ := opt_bind h
            refine SO.v rfl (opv_idx Try.underlying22 Try.sizeOf72 hr154 rfl rfl hx162) ?_
            refine SO.b1 ?_
            refine SO.storeI1 (j := 0) (z' := wu64 (w64 (x148 + 1))) Try.sizeOf72 hx162 rfl rfl rfl rfl rfl rfl ?_
            refine SO.rd fun hr163 => ?_
            refine SO.nil ?_
            refine S.to (ρ' := [(0, bp bp0 0), (2, .slice none 0 0), (3, v5), (8, .int .i64 x8_4), (9, bp b60 0), (10, .int .i64 (w64 (480 + (w64 (8 * x8_4))))), (12, .int .i64 x12_7)]) ⟨rfl, rfl, rfl, rfl, rfl, rfl, rfl, trivial⟩ ?_
            refine S.inBlock ?_
            refine S.region ?_
            refine SO.v rfl (opv_move rfl) ?_
            refine SO.v rfl (opv_add rfl rfl) ?_
            refine SO.v rfl (opv_assign rfl) ?_
            refine SO.nil ?_
            refine S.b5 ?_
            refine S.b5 ?_
            refine S.b5 ?_
            refine S.b5 ?_
            refine S.b5 ?_
            refine S.b5 ?_
            refine S.to ?_ (ih7 ((w64 (x12_7 + 1), qv5_8.set (w64 ((w64 (480 + (w64 (8 * x8_4)))) + 3)).toNat (wu64 (w64 (x148 + 1)))), ()) h)
            exact ⟨rfl, rfl, rfl, rfl, rfl, rfl, rfl, trivial⟩
        · replace h := cond_f b147 h
          refine S.condF rfl b147 ?_
          refine S.exit rfl ?_
          cases h
          refine S.b5 ?_
          refine S.b5 ?_
          refine S.b5 ?_
          refine S.b5 ?_
          refine S.b4 ?_
          refine S.b5 ?_
          refine S.to ?_ (hK7 ())
          exact ⟨rfl, rfl, rfl, rfl, trivial⟩
      rintro _
      refine S.rd fun hr164 => ?_
      refine S.inBlock ?_
      refine S.region ?_
      refine SO.v rfl (opv_move rfl) ?_
      refine SO.v rfl (opv_add rfl rfl) ?_
      refine SO.v rfl (opv_assign rfl) ?_
      refine SO.nil ?_
      refine S.b1 ?_
      refine S.drop ?_
      refine S.b4 ?_
      refine S.b2 ?_
      refine S.b4 ?_
      refine S.b4 ?_
      refine S.b4 ?_
      refine S.to ?_ (ih4 ((w64 (x8_4 + 1), qv5_e7), ()) h)
      exact ⟨rfl, rfl, rfl, rfl, trivial⟩
    · replace h := cond_f b51 h
      refine S.condF rfl b51 ?_
      refine S.exit rfl ?_
      cases h
      refine S.b4 ?_
      refine S.b4 ?_
      refine S.b4 ?_
      refine S.b4 ?_
      refine S.b4 ?_
      refine S.to ?_ (hK4 ())
      exact ⟨rfl, rfl, rfl, trivial⟩
  rintro _
  refine S.rd fun hr165 => ?_
  refine S.seq ?_
  refine S.region ?_
  refine SO.v rfl (opv_move rfl) ?_
  refine SO.v rfl (opv_move rfl) ?_
  refine SO.v rfl (opv_nilCheck rfl) ?_
  refine SO.v rfl (opv_fieldAddr Try.underlying42 rfl Try.sizeOf3 rfl rfl) ?_
  refine SO.b3 ?_
  refine SO.load1 rfl Try.isAgg3 rfl rfl ?_
  refine SO.v rfl (opv_conv Try.underlying3 Try.underlying72 rfl) ?_
  obtain ⟨x166, hx167, h⟩ := opt_bind h
  refine SO.v rfl (opv_idx Try.underlying22 Try.sizeOf72 hr165 rfl rfl hx167) ?_
  refine SO.b1 ?_
  refine SO.storeI1 (j := 0) (z' := wu64 a0.NS) Try.sizeOf72 hx167 rfl rfl rfl rfl rfl rfl ?_
  refine SO.rd fun hr168 => ?_
  refine SO.nil ?_
  refine S.to (ρ' := [(0, bp bp0 0), (2, .slice none 0 0), (3, v5)]) ⟨rfl, rfl, rfl, trivial⟩ ?_
  refine S.seq ?_
  refine S.region ?_
  refine SO.v rfl (opv_move rfl) ?_
  refine SO.v rfl (opv_move rfl) ?_
  refine SO.v rfl (opv_nilCheck rfl) ?_
  refine SO.v rfl (opv_fieldAddr Try.underlying42 rfl Try.sizeOf3 rfl rfl) ?_
  refine SO.b1 ?_
  refine SO.load1 rfl Try.isAgg3 rfl rfl ?_
  refine SO.v rfl (opv_conv Try.underlying3 Try.underlying72 rfl) ?_
  obtain ⟨x169, hx170, h⟩ := opt_bind h
  refine SO.v rfl (opv_idx Try.underlying22 Try.sizeOf72 hr168 rfl rfl hx170) ?_
  refine SO.b1 ?_
  refine SO.storeI1 (j := 0) (z' := wu64 a0.NO) Try.sizeOf72 hx170 rfl rfl rfl rfl rfl rfl ?_
  refine SO.rd fun hr171 => ?_
  refine SO.nil ?_
  refine S.to (ρ' := [(2, .slice none 0 0), (3, v5)]) ⟨rfl, rfl, trivial⟩ ?_
  refine S.seq ?_
  refine S.region ?_
  refine SO.v rfl (opv_move rfl) ?_
  refine SO.v rfl (opv_assign rfl) ?_
  refine SO.nil ?_
  cases h
  refine S.b4 ?_
  refine S.b3 ?_
  refine S.b4 ?_
  refine S.b4 ?_
  refine S.b4 ?_
  exact S.ret1 Try.func11 rfl rfl (fun w hs hk => hR w _ _ ⟨v5, rfl, rfl⟩ hs hk)
end Go.Proofs
namespace Go.Proofs
open Go.Sl Go.RowKit
/-! 13 padstone/untyped.Cost -/
def untyped_Cost.f (a0 : Int) (a1 : Int) : Option ((Int × Bool)) :=
  bif decide (a1 < 0) then (some (0, false)) else (bif (a0 == 1) && (decide (a1 ≤ 8)) then ((chk (decide (0 ≤ a1))).bind fun _ => some (w64 ((bshl .i64 1 a1) + 1), true)) else (bif (a0 == 2) && (decide (a1 ≤ 5)) then ((chk (decide (0 ≤ a1))).bind fun _ => some (bshl .i64 1 a1, true)) else (bif ((decide (3 ≤ a0)) && (decide (a0 ≤ 7))) && (a1 == 0) then (some (4, true)) else (some (0, false)))))
set_option maxHeartbeats 8000000 in
set_option maxRecDepth 100000 in
theorem untyped_Cost.ct (a0 : Int) (a1 : Int) (r0 : Int) (r1 : Bool) (h : untyped_Cost.f a0 a1 = some (r0, r1)) :
    Ct Try.prog 13 [.int .i64 a0, .int .i64 a1] (fun _ => True) [] (fun u H' => u = .tuple #[.int .i64 r0, .bool r1] ∧ H' = []) := by
  unfold untyped_Cost.f at h
  refine Ct.intro (n := 39) Try.func13 rfl rfl rfl ?_
  intro R w0 F hF hR
  refine S.seq ?_
  refine S.region ?_
  refine SO.v rfl (opv_assign rfl) ?_
  refine SO.v rfl (opv_assign rfl) ?_
  refine SO.nil ?_
  refine S.seq ?_
  refine S.block ?_
  refine S.seq ?_
  refine S.region ?_
  refine SO.v rfl (opv_move rfl) ?_
  refine SO.v rfl (opv_lss rfl rfl) ?_
  refine SO.v rfl (opv_assign rfl) ?_
  refine SO.nil ?_
  rcases bool_or (decide (a1 < 0)) with b1 | b1
  · replace h := cond_t b1 h
    refine S.condT rfl b1 ?_
    refine S.seq ?_
    refine S.region ?_
    refine SO.v rfl (opv_assign rfl) ?_
    refine SO.v rfl (opv_assign rfl) ?_
    refine SO.nil ?_
    cases h
    exact S.ret2 Try.func13 rfl rfl rfl (fun w hs hk => hR w _ _ ⟨rfl, rfl⟩ hs hk)
  · replace h := cond_f b1 h
    refine S.condF rfl b1 ?_
    refine S.seq ?_
    refine S.region ?_
    refine SO.v rfl (opv_move rfl) ?_
    refine SO.v rfl (opv_eql rfl rfl) ?_
    refine SO.v rfl (opv_move rfl) ?_
    refine SO.cut 3 15 (.bool ((a0 == 1) && (decide (a1 ≤ 8)))) [F] (fun l2 hk2 => ?_) ?_
    · rcases bool_or (a0 == 1) with b2 | b2
      · refine SO.takeT rfl rfl rfl b2 ?_
        refine SO.v rfl (opv_move rfl) ?_
        refine SO.takeT rfl rfl rfl b2 ?_
        refine SO.v rfl (opv_leq rfl rfl) ?_
        refine SO.v rfl (opv_pick_t' b2 rfl rfl) ?_
        exact hk2.fitc (m := 3) rfl (and_t b2) rfl
      · refine SO.passF rfl rfl rfl b2 rfl rfl ?_
        refine SO.passF rfl rfl rfl b2 rfl rfl ?_
        refine SO.v rfl (opv_pick_f' b2 rfl rfl) ?_
        exact hk2.fitc (m := 3) rfl (and_f b2) rfl
    refine SO.v rfl (opv_assign rfl) ?_
    refine SO.nil ?_
    refine S.to (ρ' := [(0, .int .i64 a0), (1, .int .i64 a1), (4, .int .i64 0), (5, .bool false), (9, .bool ((a0 == 1) && (decide (a1 ≤ 8))))]) ⟨rfl, rfl, rfl, rfl, rfl, trivial⟩ ?_
    rcases bool_or ((a0 == 1) && (decide (a1 ≤ 8))) with b3 | b3
    · replace h := cond_t b3 h
      refine S.condT rfl b3 ?_
      refine S.seq ?_
      refine S.region ?_
      refine SO.v rfl (opv_move rfl) ?_
      obtain ⟨_, hc4, h⟩ := opt_bind h
      refine SO.v rfl (opv_shl rfl rfl (of_decide_eq_true (chk_some hc4))) ?_
      refine SO.v rfl (opv_add rfl rfl) ?_
      refine SO.v rfl (opv_assign rfl) ?_
      refine SO.v rfl (opv_assign rfl) ?_
      refine SO.nil ?_
      cases h
      exact S.ret2 Try.func13 rfl rfl rfl (fun w hs hk => hR w _ _ ⟨rfl, rfl⟩ hs hk)
    · replace h := cond_f b3 h
      refine S.condF rfl b3 ?_
      refine S.seq ?_
      refine S.region ?_
      refine SO.v rfl (opv_move rfl) ?_
      refine SO.v rfl (opv_eql rfl rfl) ?_
      refine SO.v rfl (opv_move rfl) ?_
      refine SO.cut 3 25 (.bool ((a0 == 2) && (decide (a1 ≤ 5)))) [F] (fun l2 hk2 => ?_) ?_
      · rcases bool_or (a0 == 2) with b5 | b5
        · refine SO.takeT rfl rfl rfl b5 ?_
          refine SO.v rfl (opv_move rfl) ?_
          refine SO.takeT rfl rfl rfl b5 ?_
          refine SO.v rfl (opv_leq rfl rfl) ?_
          refine SO.v rfl (opv_pick_t' b5 rfl rfl) ?_
          exact hk2.fitc (m := 3) rfl (and_t b5) rfl
        · refine SO.passF rfl rfl rfl b5 rfl rfl ?_
          refine SO.passF rfl rfl rfl b5 rfl rfl ?_
          refine SO.v rfl (opv_pick_f' b5 rfl rfl) ?_
          exact hk2.fitc (m := 3) rfl (and_f b5) rfl
      refine SO.v rfl (opv_assign rfl) ?_
      refine SO.nil ?_
      rcases bool_or ((a0 == 2) && (decide (a1 ≤ 5))) with b6 | b6
      · replace h := cond_t b6 h
        refine S.condT rfl b6 ?_
        refine S.seq ?_
        refine S.region ?_
        refine SO.v rfl (opv_move rfl) ?_
        obtain ⟨_, hc7, h⟩ := opt_bind h
        refine SO.v rfl (opv_shl rfl rfl (of_decide_eq_true (chk_some hc7))) ?_
        refine SO.v rfl (opv_assign rfl) ?_
        refine SO.v rfl (opv_assign rfl) ?_
        refine SO.nil ?_
        refine S.to (ρ' := [(4, .int .i64 (bshl .i64 1 a1)), (5, .bool true)]) ⟨rfl, rfl, trivial⟩ ?_
        cases h
        exact S.ret2 Try.func13 rfl rfl rfl (fun w hs hk => hR w _ _ ⟨rfl, rfl⟩ hs hk)
      · replace h := cond_f b6 h
        refine S.condF rfl b6 ?_
        refine S.seq ?_
        refine S.region ?_
        refine SO.v rfl (opv_move rfl) ?_
        refine SO.v rfl (opv_geq rfl rfl) ?_
        refine SO.v rfl (opv_move rfl) ?_
        refine SO.cut 3 34 (.bool ((decide (3 ≤ a0)) && (decide (a0 ≤ 7)))) [F] (fun l2 hk2 => ?_) ?_
        · rcases bool_or (decide (3 ≤ a0)) with b8 | b8
          · refine SO.takeT rfl rfl rfl b8 ?_
            refine SO.v rfl (opv_move rfl) ?_
            refine SO.takeT rfl rfl rfl b8 ?_
            refine SO.v rfl (opv_leq rfl rfl) ?_
            refine SO.v rfl (opv_pick_t' b8 rfl rfl) ?_
            exact hk2.fitc (m := 3) rfl (and_t b8) rfl
          · refine SO.passF rfl rfl rfl b8 rfl rfl ?_
            refine SO.passF rfl rfl rfl b8 rfl rfl ?_
            refine SO.v rfl (opv_pick_f' b8 rfl rfl) ?_
            exact hk2.fitc (m := 3) rfl (and_f b8) rfl
        refine SO.v rfl (opv_move rfl) ?_
        refine SO.cut 3 38 (.bool (((decide (3 ≤ a0)) && (decide (a0 ≤ 7))) && (a1 == 0))) [F] (fun l2 hk2 => ?_) ?_
        · rcases bool_or ((decide (3 ≤ a0)) && (decide (a0 ≤ 7))) with b9 | b9
          · refine SO.takeT rfl rfl rfl b9 ?_
            refine SO.v rfl (opv_move rfl) ?_
            refine SO.takeT rfl rfl rfl b9 ?_
            refine SO.v rfl (opv_eql rfl rfl) ?_
            refine SO.v rfl (opv_pick_t' b9 rfl rfl) ?_
            exact hk2.fitc (m := 3) rfl (and_t b9) rfl
          · refine SO.passF rfl rfl rfl b9 rfl rfl ?_
            refine SO.passF rfl rfl rfl b9 rfl rfl ?_
            refine SO.v rfl (opv_pick_f' b9 rfl rfl) ?_
            exact hk2.fitc (m := 3) rfl (and_f b9) rfl
        refine SO.v rfl (opv_assign rfl) ?_
        refine SO.nil ?_
        refine S.to (ρ' := [(4, .int .i64 0), (5, .bool false), (28, .bool (((decide (3 ≤ a0)) && (decide (a0 ≤ 7))) && (a1 == 0)))]) ⟨rfl, rfl, rfl, trivial⟩ ?_
        rcases bool_or (((decide (3 ≤ a0)) && (decide (a0 ≤ 7))) && (a1 == 0)) with b10 | b10
        · replace h := cond_t b10 h
          refine S.condT rfl b10 ?_
          refine S.seq ?_
          refine S.region ?_
          refine SO.v rfl (opv_assign rfl) ?_
          refine SO.v rfl (opv_assign rfl) ?_
          refine SO.nil ?_
          cases h
          exact S.ret2 Try.func13 rfl rfl rfl (fun w hs hk => hR w _ _ ⟨rfl, rfl⟩ hs hk)
        · replace h := cond_f b10 h
          refine S.condF rfl b10 ?_
          refine S.skip ?_
          refine S.inBlock ?_
          refine S.seq ?_
          refine S.region ?_
          refine SO.v rfl (opv_assign rfl) ?_
          refine SO.v rfl (opv_assign rfl) ?_
          refine SO.nil ?_
          cases h
          exact S.ret2 Try.func13 rfl rfl rfl (fun w hs hk => hR w _ _ ⟨rfl, rfl⟩ hs hk)
end Go.Proofs
namespace Go.Proofs
open Go.Sl Go.RowKit
/-! 54 padstone/lay.in -/
def lay_in.f (a0 : Int) (a1 : Int) : Option (Bool) :=
  some ((decide (0 ≤ a0)) && (decide (a0 < a1)))
set_option maxHeartbeats 8000000 in
set_option maxRecDepth 100000 in
theorem lay_in.ct (a0 : Int) (a1 : Int) (r0 : Bool) (h : lay_in.f a0 a1 = some r0) :
    Ct Try.prog 54 [.int .i64 a0, .int .i64 a1] (fun _ => True) [] (fun u H' => u = .bool r0 ∧ H' = []) := by
  unfold lay_in.f at h
  refine Ct.intro (n := 12) Try.func54 rfl rfl rfl ?_
  intro R w0 F hF hR
  refine S.seq ?_
  refine S.region ?_
  refine SO.v rfl (opv_assign rfl) ?_
  refine SO.nil ?_
  refine S.seq ?_
  refine S.region ?_
  refine SO.v rfl (opv_move rfl) ?_
  refine SO.v rfl (opv_geq rfl rfl) ?_
  refine SO.v rfl (opv_move rfl) ?_
  refine SO.cut 4 11 (.bool ((decide (0 ≤ a0)) && (decide (a0 < a1)))) [F] (fun l2 hk2 => ?_) ?_
  · rcases bool_or (decide (0 ≤ a0)) with b1 | b1
    · refine SO.takeT rfl rfl rfl b1 ?_
      refine SO.v rfl (opv_move rfl) ?_
      refine SO.takeT rfl rfl rfl b1 ?_
      refine SO.v rfl (opv_move rfl) ?_
      refine SO.takeT rfl rfl rfl b1 ?_
      refine SO.v rfl (opv_lss rfl rfl) ?_
      refine SO.v rfl (opv_pick_t' b1 rfl rfl) ?_
      exact hk2.fitc (m := 4) rfl (and_t b1) rfl
    · refine SO.passF rfl rfl rfl b1 rfl rfl ?_
      refine SO.passF rfl rfl rfl b1 rfl rfl ?_
      refine SO.passF rfl rfl rfl b1 rfl rfl ?_
      refine SO.v rfl (opv_pick_f' b1 rfl rfl) ?_
      exact hk2.fitc (m := 4) rfl (and_f b1) rfl
  refine SO.v rfl (opv_assign rfl) ?_
  refine SO.nil ?_
  cases h
  exact S.ret1 Try.func54 rfl rfl (fun w hs hk => hR w _ _ ⟨rfl, rfl⟩ hs hk)
end Go.Proofs
