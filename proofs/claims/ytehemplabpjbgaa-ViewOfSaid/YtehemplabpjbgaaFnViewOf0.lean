/- What the functions that ViewOf reaches come to, and that they do. On no condition. -/
import Derived.Test.YtehemplabpjbgaaFr1
import Derived.Test.YtehemplabpjbgaaProg
import Derived.Test.YtehemplabpjbgaaFr2
set_option linter.all false
namespace Go.Proofs
open Go.Sl Go.RowKit
theorem inf4 : Try.prog.info? 4 = some Try.t4 := by kernel_rfl
theorem inf29 : Try.prog.info? 29 = some Try.t29 := by kernel_rfl
theorem inf35 : Try.prog.info? 35 = some Try.t35 := by kernel_rfl
theorem inf38 : Try.prog.info? 38 = some Try.t38 := by kernel_rfl
theorem inf63 : Try.prog.info? 63 = some Try.t63 := by kernel_rfl
theorem inf68 : Try.prog.info? 68 = some Try.t68 := by kernel_rfl
theorem inf82 : Try.prog.info? 82 = some Try.t82 := by kernel_rfl
structure view_Pair_uint64 where
  At : Int
  Val : Int
  deriving DecidableEq, Inhabited
def ek_view_Pair_uint64 : EK view_Pair_uint64 := ⟨2, fun x => [.int .i64 x.At, .int .u64 x.Val], fun _ => rfl, fun x v hv => by
  simp only [List.mem_cons, List.not_mem_nil, or_false] at hv
  rcases hv with rfl | rfl <;> rfl, by decide⟩
theorem eqI_view_Pair_uint64 (x y : view_Pair_uint64) : eqI [x.At, x.Val] [y.At, y.Val] = decide (x = y) := by
  cases x; cases y
  rw [Bool.eq_iff_iff]
  simp [eqI]
theorem fi_view_Pair_uint64 : ∀ fs, Try.prog.underlying 68 = some (.struct fs) → FI Try.prog fs.toList 0 [.i64, .u64] := by
  intro fs h
  rw [Try.underlying68] at h
  injection h with h
  injection h with h
  subst h
  exact ⟨by decide, Try.underlying3, rfl, ⟨by decide, Try.underlying35, rfl, trivial⟩⟩
theorem eq_eql_view_Pair_uint64 {ρ : Env} {t2 : TypeId} {x y : view_Pair_uint64} {a b : Operand} (ha : ev ρ a = some (.agg (encI [.i64, .u64] [x.At, x.Val]).toArray)) (hb : ev ρ b = some (.agg (encI [.i64, .u64] [y.At, y.Val]).toArray)) : OpV Try.prog ρ (.binOp .eql 68 a b t2) (.bool (decide (x = y))) :=
  opv_eqlS Try.underlying68 Try.stoodInHeld68 Try.eqGuardType68 (fi_view_Pair_uint64 _ Try.underlying68) rfl rfl ha hb (by rw [eqI_view_Pair_uint64])
theorem eq_neq_view_Pair_uint64 {ρ : Env} {t2 : TypeId} {x y : view_Pair_uint64} {a b : Operand} (ha : ev ρ a = some (.agg (encI [.i64, .u64] [x.At, x.Val]).toArray)) (hb : ev ρ b = some (.agg (encI [.i64, .u64] [y.At, y.Val]).toArray)) : OpV Try.prog ρ (.binOp .neq 68 a b t2) (.bool (!decide (x = y))) :=
  opv_neqS Try.underlying68 Try.stoodInHeld68 Try.eqGuardType68 (fi_view_Pair_uint64 _ Try.underlying68) rfl rfl ha hb (by rw [eqI_view_Pair_uint64])
structure view_Pair_int where
  At : Int
  Val : Int
  deriving DecidableEq, Inhabited
def ek_view_Pair_int : EK view_Pair_int := ⟨2, fun x => [.int .i64 x.At, .int .i64 x.Val], fun _ => rfl, fun x v hv => by
  simp only [List.mem_cons, List.not_mem_nil, or_false] at hv
  rcases hv with rfl | rfl <;> rfl, by decide⟩
theorem eqI_view_Pair_int (x y : view_Pair_int) : eqI [x.At, x.Val] [y.At, y.Val] = decide (x = y) := by
  cases x; cases y
  rw [Bool.eq_iff_iff]
  simp [eqI]
theorem fi_view_Pair_int : ∀ fs, Try.prog.underlying 29 = some (.struct fs) → FI Try.prog fs.toList 0 [.i64, .i64] := by
  intro fs h
  rw [Try.underlying29] at h
  injection h with h
  injection h with h
  subst h
  exact ⟨by decide, Try.underlying3, rfl, ⟨by decide, Try.underlying3, rfl, trivial⟩⟩
theorem eq_eql_view_Pair_int {ρ : Env} {t2 : TypeId} {x y : view_Pair_int} {a b : Operand} (ha : ev ρ a = some (.agg (encI [.i64, .i64] [x.At, x.Val]).toArray)) (hb : ev ρ b = some (.agg (encI [.i64, .i64] [y.At, y.Val]).toArray)) : OpV Try.prog ρ (.binOp .eql 29 a b t2) (.bool (decide (x = y))) :=
  opv_eqlS Try.underlying29 Try.stoodInHeld29 Try.eqGuardType29 (fi_view_Pair_int _ Try.underlying29) rfl rfl ha hb (by rw [eqI_view_Pair_int])
theorem eq_neq_view_Pair_int {ρ : Env} {t2 : TypeId} {x y : view_Pair_int} {a b : Operand} (ha : ev ρ a = some (.agg (encI [.i64, .i64] [x.At, x.Val]).toArray)) (hb : ev ρ b = some (.agg (encI [.i64, .i64] [y.At, y.Val]).toArray)) : OpV Try.prog ρ (.binOp .neq 29 a b t2) (.bool (!decide (x = y))) :=
  opv_neqS Try.underlying29 Try.stoodInHeld29 Try.eqGuardType29 (fi_view_Pair_int _ Try.underlying29) rfl rfl ha hb (by rw [eqI_view_Pair_int])
structure api_Cell where
  Value : Int
  Version : Int
  Mark : Int
  deriving DecidableEq, Inhabited
def ek_api_Cell : EK api_Cell := ⟨3, fun x => [.int .u64 x.Value, .int .u32 x.Version, .int .i64 x.Mark], fun _ => rfl, fun x v hv => by
  simp only [List.mem_cons, List.not_mem_nil, or_false] at hv
  rcases hv with rfl | rfl | rfl <;> rfl, by decide⟩
theorem eqI_api_Cell (x y : api_Cell) : eqI [x.Value, x.Version, x.Mark] [y.Value, y.Version, y.Mark] = decide (x = y) := by
  cases x; cases y
  rw [Bool.eq_iff_iff]
  simp [eqI]
theorem fi_api_Cell : ∀ fs, Try.prog.underlying 38 = some (.struct fs) → FI Try.prog fs.toList 0 [.u64, .u32, .i64] := by
  intro fs h
  rw [Try.underlying38] at h
  injection h with h
  injection h with h
  subst h
  exact ⟨by decide, Try.underlying35, rfl, ⟨by decide, Try.underlying36, rfl, ⟨by decide, Try.underlying3, rfl, trivial⟩⟩⟩
theorem eq_eql_api_Cell {ρ : Env} {t2 : TypeId} {x y : api_Cell} {a b : Operand} (ha : ev ρ a = some (.agg (encI [.u64, .u32, .i64] [x.Value, x.Version, x.Mark]).toArray)) (hb : ev ρ b = some (.agg (encI [.u64, .u32, .i64] [y.Value, y.Version, y.Mark]).toArray)) : OpV Try.prog ρ (.binOp .eql 38 a b t2) (.bool (decide (x = y))) :=
  opv_eqlS Try.underlying38 Try.stoodInHeld38 Try.eqGuardType38 (fi_api_Cell _ Try.underlying38) rfl rfl ha hb (by rw [eqI_api_Cell])
theorem eq_neq_api_Cell {ρ : Env} {t2 : TypeId} {x y : api_Cell} {a b : Operand} (ha : ev ρ a = some (.agg (encI [.u64, .u32, .i64] [x.Value, x.Version, x.Mark]).toArray)) (hb : ev ρ b = some (.agg (encI [.u64, .u32, .i64] [y.Value, y.Version, y.Mark]).toArray)) : OpV Try.prog ρ (.binOp .neq 38 a b t2) (.bool (!decide (x = y))) :=
  opv_neqS Try.underlying38 Try.stoodInHeld38 Try.eqGuardType38 (fi_api_Cell _ Try.underlying38) rfl rfl ha hb (by rw [eqI_api_Cell])
structure tx_Tx where
  cells : Int
  l : Option (List (Int × api_Cell))
  out : Option (List (Int × Int))
  lack : Int
  fine : Bool
  deriving DecidableEq, Inhabited
structure view_Pair_api_Cell where
  At : Int
  Val : api_Cell
  deriving DecidableEq, Inhabited
def ek_view_Pair_api_Cell : EK view_Pair_api_Cell := ⟨4, fun x => [.int .i64 x.At, .int .u64 x.Val.Value, .int .u32 x.Val.Version, .int .i64 x.Val.Mark], fun _ => rfl, fun x v hv => by
  simp only [List.mem_cons, List.not_mem_nil, or_false] at hv
  rcases hv with rfl | rfl | rfl | rfl <;> rfl, by decide⟩
structure tx_Entry where
  Cell : Int
  Version : Int
  Old : Int
  New : Int
  Write : Bool
  deriving DecidableEq, Inhabited
def ek_tx_Entry : EK tx_Entry := ⟨5, fun x => [.int .i64 x.Cell, .int .u32 x.Version, .int .u64 x.Old, .int .u64 x.New, .bool x.Write], fun _ => rfl, fun x v hv => by
  simp only [List.mem_cons, List.not_mem_nil, or_false] at hv
  rcases hv with rfl | rfl | rfl | rfl | rfl <;> rfl, by decide⟩
structure word_Store where
  l : List api_Cell
  limit : Int
  deriving DecidableEq, Inhabited
def kr_word_Store : EKR word_Store := ⟨2, fun x => [.sl ek_api_Cell x.l, .val (.int .u32 x.limit)], fun _ => rfl, fun x v hv => by
  simp only [List.mem_cons, List.not_mem_nil, or_false, CellP.val.injEq, reduceCtorEq, false_or] at hv
  rcases hv with rfl <;> rfl, by decide⟩
structure law06_Op where
  Look : Bool
  Jump : Bool
  From : Int
  To : Int
  N : Int
  deriving DecidableEq, Inhabited
def ek_law06_Op : EK law06_Op := ⟨5, fun x => [.bool x.Look, .bool x.Jump, .int .i64 x.From, .int .i64 x.To, .int .u64 x.N], fun _ => rfl, fun x v hv => by
  simp only [List.mem_cons, List.not_mem_nil, or_false] at hv
  rcases hv with rfl | rfl | rfl | rfl | rfl <;> rfl, by decide⟩
end Go.Proofs
namespace Go.Proofs
open Go.Sl Go.RowKit
/-! 29 (padstone/view.Plain).has -/
def view_Plain_has.f (a0 : List Int) (a1 : Int) : Option (Bool) :=
  some ((decide (0 ≤ a1)) && (decide (a1 < (a0.length : Int))))
set_option maxHeartbeats 8000000 in
set_option maxRecDepth 100000 in
theorem view_Plain_has.ct (v0 : Value) (a0 : List Int) (a1 : Int) (r0 : Bool) (h : view_Plain_has.f a0 a1 = some r0) :
    Ct Try.prog 29 [v0, .int .i64 a1] (fun F => Rd (ekI .u64) v0 a0 F) [] (fun u H' => u = .bool r0 ∧ H' = []) := by
  unfold view_Plain_has.f at h
  refine Ct.intro (n := 13) Try.func29 rfl rfl rfl ?_
  intro R w0 F hF hR
  have hF0 := hF
  refine S.seq ?_
  refine S.region ?_
  refine SO.v rfl (opv_assign rfl) ?_
  refine SO.nil ?_
  refine S.seq ?_
  refine S.region ?_
  refine SO.v rfl (opv_move rfl) ?_
  refine SO.v rfl (opv_geq rfl rfl) ?_
  refine SO.v rfl (opv_move rfl) ?_
  refine SO.cut 5 12 (.bool ((decide (0 ≤ a1)) && (decide (a1 < (a0.length : Int))))) [F] (fun l2 hk2 => ?_) ?_
  · rcases bool_or (decide (0 ≤ a1)) with b1 | b1
    · refine SO.takeT rfl rfl rfl b1 ?_
      refine SO.v rfl (opv_move rfl) ?_
      refine SO.takeT rfl rfl rfl b1 ?_
      refine SO.v rfl (opv_move rfl) ?_
      refine SO.takeT rfl rfl rfl b1 ?_
      refine SO.v rfl (opv_lenR rfl Try.underlying61 hF0 rfl) ?_
      refine SO.takeT rfl rfl rfl b1 ?_
      refine SO.v rfl (opv_lss rfl rfl) ?_
      refine SO.v rfl (opv_pick_t' b1 rfl rfl) ?_
      exact hk2.fitc (m := 5) rfl (and_t b1) rfl
    · refine SO.passF rfl rfl rfl b1 rfl rfl ?_
      refine SO.passF rfl rfl rfl b1 rfl rfl ?_
      refine SO.passF rfl rfl rfl b1 rfl rfl ?_
      refine SO.passF rfl rfl rfl b1 rfl rfl ?_
      refine SO.v rfl (opv_pick_f' b1 rfl rfl) ?_
      exact hk2.fitc (m := 5) rfl (and_f b1) rfl
  refine SO.v rfl (opv_assign rfl) ?_
  refine SO.nil ?_
  cases h
  exact S.ret1 Try.func29 rfl rfl (fun w hs hk => hR w _ _ ⟨rfl, rfl⟩ hs hk)
end Go.Proofs
namespace Go.Proofs
open Go.Sl Go.RowKit
/-! 20 (padstone/view.Plain).Read -/
def view_Plain_Read.f (a0 : List Int) (a1 : Int) : Option (Int) :=
  (view_Plain_has.f a0 a1).bind fun t1 => bif !t1 then (some 0) else ((at_ a0 a1).bind fun x4 => some x4)
set_option maxHeartbeats 8000000 in
set_option maxRecDepth 100000 in
theorem view_Plain_Read.ct (v0 : Value) (a0 : List Int) (a1 : Int) (r0 : Int) (h : view_Plain_Read.f a0 a1 = some r0) :
    Ct Try.prog 20 [v0, .int .i64 a1] (fun F => Rd (ekI .u64) v0 a0 F) [] (fun u H' => u = .int .u64 r0 ∧ H' = []) := by
  unfold view_Plain_Read.f at h
  refine Ct.intro (n := 13) Try.func20 rfl rfl rfl ?_
  intro R w0 F hF hR
  have hF0 := hF
  refine S.seq ?_
  refine S.region ?_
  refine SO.v rfl (opv_assign rfl) ?_
  refine SO.nil ?_
  refine S.seq ?_
  refine S.seq ?_
  refine S.region ?_
  refine SO.v rfl (opv_move rfl) ?_
  refine SO.v rfl (opv_move rfl) ?_
  obtain ⟨t1, ht2, h⟩ := opt_bind h
  refine SO.call (pre := []) rfl Try.call29 rfl rfl rfl (view_Plain_has.ct v0 _ _ _ ht2) (Rd.head hF0) ?_
  rintro _ _ ⟨rfl, rfl⟩
  refine SO.v rfl (opv_not rfl) ?_
  refine SO.nil ?_
  rcases bool_or (!t1) with b3 | b3
  · replace h := cond_t b3 h
    refine S.condT rfl b3 ?_
    refine S.seq ?_
    refine S.region ?_
    refine SO.v rfl (opv_assign rfl) ?_
    refine SO.nil ?_
    cases h
    exact S.ret1 Try.func20 rfl rfl (fun w hs hk => hR w _ _ ⟨rfl, rfl⟩ hs hk)
  · replace h := cond_f b3 h
    refine S.condF rfl b3 ?_
    refine S.skip ?_
    refine S.seq ?_
    refine S.region ?_
    refine SO.v rfl (opv_move rfl) ?_
    refine SO.v rfl (opv_move rfl) ?_
    obtain ⟨x4, hx5, h⟩ := opt_bind h
    refine SO.v rfl (opv_idx Try.underlying61 Try.sizeOf35 hF0 rfl rfl hx5) ?_
    refine SO.loadI1 (j := 0) rfl Try.isAgg35 (Rd.head hF0) hx5 rfl rfl rfl rfl ?_
    refine SO.v rfl (opv_assign rfl) ?_
    refine SO.nil ?_
    refine S.to (ρ' := [(4, .int .u64 x4)]) ⟨rfl, trivial⟩ ?_
    cases h
    exact S.ret1 Try.func20 rfl rfl (fun w hs hk => hR w _ _ ⟨rfl, rfl⟩ hs hk)
end Go.Proofs
namespace Go.Proofs
open Go.Sl Go.RowKit
/-! 22 (padstone/view.Plain).Write -/
def view_Plain_Write.f (a0 : List Int) (a1 : Int) (a2 : Int) : Option ((List Int)) :=
  (view_Plain_has.f a0 a1).bind fun t2 => bif t2 then ((at_ a0 a1).bind fun x5 => some (a0.set a1.toNat a2)) else (some a0)
set_option maxHeartbeats 8000000 in
set_option maxRecDepth 100000 in
theorem view_Plain_Write.ct (v0 : Value) (a0 : List Int) (a1 : Int) (a2 : Int) (q0 : List Int) (h : view_Plain_Write.f a0 a1 a2 = some q0) :
    Ct Try.prog 22 [v0, .int .i64 a1, .int .u64 a2] (fun _ => True) [Own 35 (ekI .u64) v0 a0] (fun u H' => u = .tuple #[] ∧ H' = [Own 35 (ekI .u64) v0 q0]) := by
  unfold view_Plain_Write.f at h
  refine Ct.intro (n := 13) Try.func22 rfl rfl rfl ?_
  intro R w0 F hF hR
  refine S.rd fun hr1 => ?_
  refine S.seq ?_
  refine S.region ?_
  refine SO.v rfl (opv_move rfl) ?_
  refine SO.v rfl (opv_move rfl) ?_
  obtain ⟨t2, ht3, h⟩ := opt_bind h
  refine SO.call (pre := []) rfl Try.call29 rfl rfl rfl (view_Plain_has.ct v0 _ _ _ ht3) (Rd.head hr1) ?_
  rintro _ _ ⟨rfl, rfl⟩
  refine SO.nil ?_
  rcases bool_or t2 with b4 | b4
  · replace h := cond_t b4 h
    refine S.condT rfl b4 ?_
    refine S.region ?_
    refine SO.v rfl (opv_move rfl) ?_
    refine SO.v rfl (opv_move rfl) ?_
    refine SO.v rfl (opv_move rfl) ?_
    obtain ⟨x5, hx6, h⟩ := opt_bind h
    refine SO.v rfl (opv_idx Try.underlying61 Try.sizeOf35 hr1 rfl rfl hx6) ?_
    refine SO.storeI1 (j := 0) (z' := a2) Try.sizeOf35 hx6 rfl rfl rfl rfl rfl rfl ?_
    refine SO.rd fun hr7 => ?_
    refine SO.nil ?_
    refine S.to (ρ' := []) trivial ?_
    cases h
    refine S.b1 ?_
    refine S.b1 ?_
    exact S.fin0 Try.func22 rfl (fun w hs hk => hR w _ _ ⟨rfl, rfl⟩ hs hk)
  · replace h := cond_f b4 h
    refine S.condF rfl b4 ?_
    refine S.skip ?_
    cases h
    refine S.b1 ?_
    refine S.b1 ?_
    exact S.fin0 Try.func22 rfl (fun w hs hk => hR w _ _ ⟨rfl, rfl⟩ hs hk)
end Go.Proofs
namespace Go.Proofs
open Go.Sl Go.RowKit
/-! A list of one's own, as a view. -/
theorem read_ok (s : List Int) (i : Int) : ∃ r, view_Plain_Read.f s i = some r := by
  cases h : view_Plain_Read.f s i with
  | some r => exact ⟨r, rfl⟩
  | none =>
    exfalso
    revert h
    unfold view_Plain_Read.f view_Plain_has.f
    by_cases h1 : 0 ≤ i ∧ i < (s.length : Int)
    · have : s[i.toNat]? = some s[i.toNat] := List.getElem?_eq_getElem (by omega)
      simp [h1, at_, this]
    · have : (decide (0 ≤ i) && decide (i < (s.length : Int))) = false := by simpa using h1
      simp [this]
theorem write_ok (s : List Int) (i x : Int) : ∃ r, view_Plain_Write.f s i x = some r := by
  cases h : view_Plain_Write.f s i x with
  | some r => exact ⟨r, rfl⟩
  | none =>
    exfalso
    revert h
    unfold view_Plain_Write.f view_Plain_has.f
    by_cases h1 : 0 ≤ i ∧ i < (s.length : Int)
    · have : s[i.toNat]? = some s[i.toNat] := List.getElem?_eq_getElem (by omega)
      simp [h1, at_, this]
    · have : (decide (0 ≤ i) && decide (i < (s.length : Int))) = false := by simpa using h1
      simp [this]
abbrev plainI : VI := ⟨List Int, fun s i => ((view_Plain_Read.f s i).getD 0, s), fun s i x => (view_Plain_Write.f s i x).getD s⟩
theorem ofRd {P : Program} {g : FuncId} {vals : List Value} {α : Type} {E : TypeId} {K : EK α} {v : Value} {xs : List α} {u0 : Value} (h : Ct P g vals (fun F => Rd K v xs F) [] (fun u H' => u = u0 ∧ H' = [])) :
    Ct P g vals (fun _ => True) [Own E K v xs] (fun u H' => u = u0 ∧ H' = [Own E K v xs]) := by
  intro w F _ hs
  have h2 : Sat w ([] ++ [stars [Own E K v xs, F]]) := Sat.pack (l1 := []) hs
  have hr : Rd K v xs (stars [Own E K v xs, F]) := by
    obtain ⟨m, hm, ho⟩ := Sat.head hs
    exact Rd.head (Own.rd ho)
  refine (h w _ hr h2).mono ?_
  rintro e w' ⟨u, H', he, ⟨hu, rfl⟩, hs', hk⟩
  exact ⟨u, _, he, ⟨hu, rfl⟩, Sat.unpack (l1 := []) hs', hk⟩
set_option maxRecDepth 100000 in
set_option maxHeartbeats 4000000 in
noncomputable def plainV (v : Value) : VW Try.prog :=
  { plainI with
    t := 61, v := v, rep := fun s => Own 35 (ekI .u64) v s
    rF := 20, rV := v, wF := 22, wV := v
    rM := by intro w; kernel_rfl
    wM := by intro w; kernel_rfl
    rN := by intro w; kernel_rfl
    wN := by intro w; kernel_rfl
    rC := Try.call20, wC := Try.call22
    rCt := fun s i => by
      obtain ⟨r, hr⟩ := read_ok s i
      have := ofRd (E := 35) (view_Plain_Read.ct v s i r hr)
      show Ct _ _ _ _ _ (fun u H' => u = .int .u64 ((view_Plain_Read.f s i).getD 0) ∧ H' = [Own 35 (ekI .u64) v s])
      rw [hr]; exact this
    wCt := fun s i x => by
      obtain ⟨r, hr⟩ := write_ok s i x
      have := view_Plain_Write.ct v s i x r hr
      show Ct _ _ _ _ _ (fun u H' => u = .tuple #[] ∧ H' = [Own 35 (ekI .u64) v ((view_Plain_Write.f s i x).getD s)])
      rw [hr]; exact this }
theorem plainV_rep (v : Value) (s : List Int) : (plainV v).rep s = Own 35 (ekI .u64) v s := rfl
theorem headEq {P : Program} {n : Nat} {Z : Act → World → Prop} {w0 : Beg} {ops : Array Oper} {l : List Oper} {ρ : Env} {A B : HProp} {rest : List HProp} (h : A = B) (k : SO P n Z w0 ops l ρ (B :: rest)) : SO P n Z w0 ops l ρ (A :: rest) := by
  subst h; exact k
end Go.Proofs
set_option linter.unusedVariables false
namespace Go.Proofs
open Go.Sl Go.RowKit
def rd_ (bs : List Int) (i : Int) : Int := (view_Plain_Read.f bs i).getD 0
theorem rd_some (bs : List Int) (i : Int) : view_Plain_Read.f bs i = some (rd_ bs i) := by
  obtain ⟨r, h⟩ := read_ok bs i
  unfold rd_; rw [h]; rfl
set_option maxRecDepth 100000 in
set_option maxHeartbeats 8000000 in
theorem range1_ct (L bf bt bv : Nat) (a b : Int) (vb : Value) (bs : List Int) (J X : Nat → List HProp) (ha : -9223372036854775808 ≤ a) (hb : b ≤ 9223372036854775807) (hrd : ∀ (j : Nat) (F : HProp), Rd (ekI .u64) vb bs (stars (J j ++ [F])))
    (hY : ∀ j : Nat, a + j < b → YCt Try.prog L [.int .i64 (a + j), .int .u64 (rd_ bs (a + j))] (J j) fun c H' => c = true ∧ H' = J (j + 1) ∨ c = false ∧ H' = X (j + 1)) :
    Ct Try.prog 35 [.func (.yield L) #[] #[], bp bf 0, bp bt 0, bp bv 0] (fun _ => True) (J 0 ++ [Box bf [.int .i64 a], Box bt [.int .i64 b], Box bv [.iface 61 vb]])
      (fun u H' => u = .tuple #[] ∧ (H' = J (b - a).toNat ++ [Box bf [.int .i64 a], Box bt [.int .i64 b], Box bv [.iface 61 vb]] ∨ ∃ j : Nat, a + j ≤ b ∧ 0 < j ∧ H' = X j ++ [Box bf [.int .i64 a], Box bt [.int .i64 b], Box bv [.iface 61 vb]])) := by
  refine Ct.introY (n := 20) Try.func35 rfl rfl rfl ?_
  intro R w0 F hF hR
  refine S.bring (H' := Box bf [.int .i64 a] :: Box bt [.int .i64 b] :: Box bv [.iface 61 vb] :: (J 0 ++ [F])) (by
    have : (J 0 ++ [Box bf [.int .i64 a], Box bt [.int .i64 b], Box bv [.iface 61 vb]] ++ [F]) = J 0 ++ ([Box bf [.int .i64 a], Box bt [.int .i64 b], Box bv [.iface 61 vb]] ++ [F]) := List.append_assoc _ _ _
    rw [this]
    exact (List.perm_append_comm_assoc _ _ _)) ?_
  refine S.seq ?_
  refine S.region ?_
  refine SO.load1 rfl (by intro w; kernel_rfl) rfl rfl ?_
  refine SO.v rfl (opv_assign rfl) ?_
  refine SO.nil ?_
  refine S.bring (H' := Box bt [.int .i64 b] :: Box bv [.iface 61 vb] :: Box bf [.int .i64 a] :: (J 0 ++ [F])) ((List.Perm.swap _ _ _).trans (.cons _ (.swap _ _ _))) ?_
  have e0 : (Value.int .i64 a) = .int .i64 (a + (0 : Nat)) := by simp
  refine S.to (ρ' := [(5, .int .i64 (a + (0 : Nat))), (3, bp bv 0), (2, bp bt 0), (1, bp bf 0), (0, .func (.yield L) #[] #[])]) ⟨by rw [← e0]; rfl, rfl, rfl, rfl, rfl, trivial⟩ ?_
  refine S.loopN (b - a).toNat (fun j => [(5, .int .i64 (a + j)), (3, bp bv 0), (2, bp bt 0), (1, bp bf 0), (0, .func (.yield L) #[] #[])]) (fun j => Box bt [.int .i64 b] :: Box bv [.iface 61 vb] :: Box bf [.int .i64 a] :: (J j ++ [F])) ?_
  intro j hj next
  have back : ∀ {A : HProp} (l : List HProp), (Box bv [.iface 61 vb] :: Box bt [.int .i64 b] :: Box bf [.int .i64 a] :: (l ++ [A])).Perm (l ++ (Box bv [.iface 61 vb] :: Box bt [.int .i64 b] :: Box bf [.int .i64 a] :: [A])) := fun {A} l => by
    have := List.perm_append_comm_assoc [Box bv [.iface 61 vb], Box bt [.int .i64 b], Box bf [.int .i64 a]] l [A]
    exact this
  repeat refine S.seq ?_
  refine S.region ?_
  refine SO.v rfl (opv_move rfl) ?_
  refine SO.load1 rfl (by intro w; kernel_rfl) rfl rfl ?_
  refine SO.v rfl (opv_lss rfl rfl) ?_
  refine SO.v rfl (opv_move rfl) ?_
  rcases bool_or (decide (a + j < b)) with b1 | b1
  · have hlt : a + j < b := of_decide_eq_true b1
    refine SO.takeT rfl rfl rfl b1 ?_
    refine SO.v rfl (opv_move rfl) ?_
    refine SO.takeT rfl rfl rfl b1 ?_
    refine SO.v rfl (opv_move rfl) ?_
    refine SO.bring (List.Perm.swap _ _ _) ?_
    refine SO.takeT rfl rfl rfl b1 ?_
    refine SO.load1 rfl (by intro w; kernel_rfl) rfl rfl ?_
    refine SO.takeT rfl rfl rfl b1 ?_
    refine SO.v rfl (opv_move rfl) ?_
    refine SO.takeT rfl rfl rfl b1 ?_
    refine SO.invoke (pre := []) rfl Try.call20 rfl (by intro w; kernel_rfl) rfl rfl (view_Plain_Read.ct vb bs (a + j) _ (rd_some bs (a + j))) (Rd.tail (Rd.tail (Rd.tail (hrd j F)))) ?_
    rintro _ _ ⟨rfl, rfl⟩
    refine SO.takeT rfl rfl rfl b1 ?_
    refine SO.bring (back (J j)) ?_
    refine SO.yield (pre := J j) rfl rfl rfl (hY j hlt) ?_
    intro c H' hc
    refine SO.v rfl (opv_pick_t' b1 rfl rfl) ?_
    refine SO.nil ?_
    rcases hc with ⟨rfl, rfl⟩ | ⟨rfl, rfl⟩
    · refine S.cond_true rfl ?_
      refine S.skip ?_
      refine S.seq ?_
      refine S.block ?_
      refine S.skip ?_
      refine S.inBlock ?_
      refine S.region ?_
      refine SO.v rfl (opv_move rfl) ?_
      refine SO.v rfl (opv_add rfl rfl) ?_
      refine SO.v rfl (opv_assign rfl) ?_
      refine SO.nil ?_
      have ew : IntKind.wrap .i64 (a + j + 1) = a + (j + 1 : Nat) := by
        have : w64 (a + j + 1) = a + j + 1 := w64_id (by omega) (by omega)
        exact this.trans (by omega)
      refine S.bring (H' := Box bt [.int .i64 b] :: Box bv [.iface 61 vb] :: Box bf [.int .i64 a] :: (J (j + 1) ++ [F])) ((back (J (j + 1))).symm.trans (.swap _ _ _)) ?_
      refine S.to (ρ' := [(5, .int .i64 (a + (j + 1 : Nat))), (3, bp bv 0), (2, bp bt 0), (1, bp bf 0), (0, .func (.yield L) #[] #[])]) ⟨by rw [← ew]; rfl, rfl, rfl, rfl, rfl, trivial⟩ ?_
      exact next (by omega)
    · refine S.cond_false rfl ?_
      refine S.exit rfl ?_
      refine S.fin0 Try.func35 rfl (fun w hs hk => ?_)
      refine hR w _ (X (j + 1) ++ [Box bf [.int .i64 a], Box bt [.int .i64 b], Box bv [.iface 61 vb]]) ⟨rfl, .inr ⟨j + 1, by omega, by omega, rfl⟩⟩ (hs.perm ?_) hk
      rw [List.append_assoc]
      exact .append_left _ (.trans (.swap _ _ _) (.trans (.cons _ (.swap _ _ _)) (.swap _ _ _)))
  · have hle : ¬ a + j < b := of_decide_eq_false b1
    refine SO.passF rfl rfl rfl b1 rfl rfl ?_
    refine SO.passF rfl rfl rfl b1 rfl rfl ?_
    refine SO.passF rfl rfl rfl b1 rfl rfl ?_
    refine SO.passF rfl rfl rfl b1 rfl rfl ?_
    refine SO.passF rfl rfl rfl b1 rfl rfl ?_
    refine SO.passF rfl rfl rfl b1 rfl rfl ?_
    refine SO.v rfl (opv_pick_f' b1 rfl rfl) ?_
    refine SO.nil ?_
    refine S.cond_false rfl ?_
    refine S.exit rfl ?_
    refine S.fin0 Try.func35 rfl (fun w hs hk => ?_)
    have ej : j = (b - a).toNat := by omega
    refine hR w _ (J (b - a).toNat ++ [Box bf [.int .i64 a], Box bt [.int .i64 b], Box bv [.iface 61 vb]]) ⟨rfl, .inl rfl⟩ (hs.perm ?_) hk
    rw [← ej, List.append_assoc]
    refine .trans (.swap _ _ _) (.trans (back (J j)) ?_)
    exact .append_left _ (.trans (.swap _ _ _) (.trans (.cons _ (.swap _ _ _)) (.swap _ _ _)))
set_option maxRecDepth 100000 in
set_option maxHeartbeats 8000000 in
theorem range_ct (v : Value) (a b : Int) (h1 : v.oneCell' = true) :
    Ct Try.prog 30 [v, .int .i64 a, .int .i64 b] (fun _ => True) [] (fun u H' => ∃ bv bf bt, u = .func (.func 35) #[] #[bp bf 0, bp bt 0, bp bv 0] ∧ H' = [Box bf [.int .i64 a], Box bt [.int .i64 b], Box bv [v]]) := by
  refine Ct.intro (n := 8) Try.func30 rfl rfl rfl ?_
  intro R w0 F hF hR
  have hc : v.cells.toList = [v] := by cases v <;> first | rfl | simp [Value.oneCell'] at h1
  repeat refine S.seq ?_
  refine S.region ?_
  refine SO.box rfl rfl hc (fun bv => ?_)
  refine SO.box rfl rfl rfl (fun bf => ?_)
  refine SO.box rfl rfl rfl (fun bt => ?_)
  refine SO.v rfl (opv_assign rfl) ?_
  refine SO.nil ?_
  repeat refine S.seq ?_
  refine S.region ?_
  refine SO.v rfl (opv_makeFunc rfl rfl) ?_
  refine SO.v rfl (opv_assign rfl) ?_
  refine SO.nil ?_
  refine S.ret1 Try.func30 rfl rfl (fun w hs hk => hR w _ [Box bf [.int .i64 a], Box bt [.int .i64 b], Box bv [v]] ⟨bv, bf, bt, rfl, rfl⟩ (hs.perm ?_) hk)
  exact .trans (.swap _ _ _) (.refl _)
/-- Where words are unlike, below j. -/
def chgL (a b : List Int) : Nat → List view_Pair_uint64
  | 0 => []
  | j + 1 => if rd_ b j = rd_ a j then chgL a b j else chgL a b j ++ [⟨j, rd_ b j⟩]
theorem chgL_len (a b : List Int) : ∀ j, (chgL a b j).length ≤ j
  | 0 => by simp [chgL]
  | j + 1 => by
    have := chgL_len a b j
    unfold chgL; split
    · omega
    · simp; omega
def view_Changed.f (a0 a1 : List Int) : Option (List view_Pair_uint64) := bif decide (a0.length < 4294967295) && decide (a1.length < 4294967295) then some (chgL a0 a1 (max a0.length a1.length)) else none
/-- A variable that holds a row of one's own. -/
def OutP (b5 : Nat) (xs : List view_Pair_uint64) : HProp := fun m => ∃ v, star (Box b5 [v]) (Own 68 ek_view_Pair_uint64 v xs) m
theorem OutP.open {w : World} {b5 : Nat} {xs : List view_Pair_uint64} {H : List HProp} (h : Sat w (OutP b5 xs :: H)) : ∃ v, Sat w (Box b5 [v] :: Own 68 ek_view_Pair_uint64 v xs :: H) := by
  obtain ⟨m1, m2, d, s1, s2, ⟨v, n1, n2, e, t1, t2, hb, ho⟩, hr⟩ := h
  refine ⟨v, n1, n2.un m2, ?_, t1.trans s1, PH.un_sub (t2.trans s1) s2, hb, n2, m2, d.sub t2 (.refl _), PH.sub_un_l _ _, PH.sub_un_r (d.sub t2 (.refl _)), ho, hr⟩
  exact (PH.Dj.un e.symm ((d.sub t1 (.refl _)).symm)).symm
theorem OutP.close {w : World} {b5 : Nat} {v : Value} {xs : List view_Pair_uint64} {H : List HProp} (h : Sat w (Box b5 [v] :: Own 68 ek_view_Pair_uint64 v xs :: H)) : Sat w (OutP b5 xs :: H) := by
  obtain ⟨m1, m2, d, s1, s2, hb, n1, n2, e, t1, t2, ho, hr⟩ := h
  refine ⟨m1.un n1, n2, ?_, PH.un_sub s1 (t1.trans s2), t2.trans s2, ⟨v, m1, n1, d.sub (.refl _) t1, PH.sub_un_l _ _, PH.sub_un_r (d.sub (.refl _) t1), hb, ho⟩, hr⟩
  exact PH.Dj.un (d.sub (.refl _) t2) e
theorem S.openOut {P : Program} {f : FuncId} {n : Nat} {R : Ending → World → Prop} {w0 : Beg} {k : List Item} {ρ : Env} {b5 : Nat} {xs : List view_Pair_uint64} {H : List HProp} (h : ∀ v, S P f n R w0 k ρ (Box b5 [v] :: Own 68 ek_view_Pair_uint64 v xs :: H)) : S P f n R w0 k ρ (OutP b5 xs :: H) := by
  intro a w h1 h2 h3 h4 h5
  obtain ⟨v, hv⟩ := OutP.open h4
  exact h v a w h1 h2 h3 hv h5
theorem S.closeOut {P : Program} {f : FuncId} {n : Nat} {R : Ending → World → Prop} {w0 : Beg} {k : List Item} {ρ : Env} {b5 : Nat} {v : Value} {xs : List view_Pair_uint64} {H : List HProp} (h : S P f n R w0 k ρ (OutP b5 xs :: H)) : S P f n R w0 k ρ (Box b5 [v] :: Own 68 ek_view_Pair_uint64 v xs :: H) := h.sat fun _ => OutP.close
theorem OutP.start {w : World} {b5 : Nat} {H : List HProp} (h : Sat w (Box b5 [.slice none 0 0] :: H)) : Sat w (OutP b5 [] :: H) := by
  obtain ⟨m1, m2, d, s1, s2, hb, hr⟩ := h
  exact OutP.close (v := .slice none 0 0) ⟨m1, m2, d, s1, s2, hb, fun _ => none, m2, fun _ => .inl rfl, fun _ _ e => (by cases e), .refl _, .inl ⟨rfl, rfl⟩, hr⟩
theorem fold_zip (ps : List Tmp) (vs : List Value) (t : Array Value) : (ps.toArray.zip vs.toArray).foldl (fun tmps (t, a) => tmps.setIfInBounds t a) t = (ps.zip vs).foldl (fun tmps (t, a) => tmps.setIfInBounds t a) t := by simp
open Classical in
theorem permH {l l' : List HProp} (h : ∀ x, l.count x = l'.count x) : l.Perm l' := List.perm_iff_count.2 h
set_option maxRecDepth 100000 in
set_option maxHeartbeats 8000000 in
theorem view_Changed.ct (va vb : Value) (a b : List Int) (r0 : List view_Pair_uint64) (h : view_Changed.f a b = some r0) :
    Ct Try.prog 21 [va, vb] (fun F => Rd (ekI .u64) va a F ∧ Rd (ekI .u64) vb b F) [] (fun u H' => ∃ v, u = v ∧ H' = [Own 68 ek_view_Pair_uint64 v r0]) := by
  refine Ct.intro (n := 30) Try.func21 rfl rfl rfl ?_
  intro R w0 F hF hR
  obtain ⟨hFa, hFb⟩ := hF
  have h1 := Rd.one hFa
  have hca : va.cells.toList = [va] := by cases va <;> first | rfl | simp [Value.oneCell'] at h1
  repeat refine S.seq ?_
  refine S.region ?_
  refine SO.box rfl rfl hca (fun b2 => ?_)
  refine SO.v rfl (opv_assign rfl) ?_
  refine SO.nil ?_
  repeat refine S.seq ?_
  refine S.region ?_
  refine SO.alloc rfl Try.zeroValue65 rfl (fun b5 => ?_)
  refine SO.nil ?_
  repeat refine S.seq ?_
  refine S.region ?_
  refine SO.v rfl (opv_move rfl) ?_
  refine SO.v rfl (opv_iface Try.underlying61 rfl rfl) ?_
  refine SO.bring (List.Perm.swap _ _ _) ?_
  refine SO.load1 rfl (by intro w; kernel_rfl) rfl rfl ?_
  refine SO.v rfl (opv_lenR rfl Try.underlying48 hFa rfl) ?_
  refine SO.v rfl (opv_move rfl) ?_
  refine SO.v rfl (opv_lenR rfl Try.underlying48 hFb rfl) ?_
  refine SO.v rfl (opv_max rfl rfl) ?_
  refine SO.call (pre := []) rfl Try.call30 rfl rfl rfl (range_ct (.iface 61 vb) 0 _ rfl) trivial ?_
  rintro _ _ ⟨bv, bf, bt, rfl, rfl⟩
  refine SO.nil ?_
  repeat refine S.seq ?_
  refine S.block ?_
  refine S.rangeFunc (gf := 35) (caps := [bp bf 0, bp bt 0, bp bv 0]) rfl rfl Try.call35 ?_
  intro L D tmps ht hE r hr w hs hk
  have hlen : a.length < 4294967295 ∧ b.length < 4294967295 ∧ r0 = chgL a b (max a.length b.length) := by
    unfold view_Changed.f at h
    cases hc : (decide (a.length < 4294967295) && decide (b.length < 4294967295)) with
    | false => rw [hc] at h; cases h
    | true =>
      rw [hc, cond_true] at h
      injection h with h
      simp only [Bool.and_eq_true, decide_eq_true_eq] at hc
      exact ⟨hc.1, hc.2, h.symm⟩
  obtain ⟨l1, l2, rfl⟩ := hlen
  have eM : (if (a.length : Int) < b.length then (b.length : Int) else a.length) = max (a.length : Int) b.length := by
    rw [Int.max_def]; split <;> split <;> omega
  rw [eM] at hs
  have J0 : Sat w ([Blk L (.loop r), OutP b5 [], Box b2 [va], F] ++ [Box bf [.int .i64 0], Box bt [.int .i64 (max (a.length : Int) b.length)], Box bv [.iface 61 vb]] ++ [Blk D (.deferred (some []))]) := by
    have q1 := OutP.start (hs.perm (List.perm_middle (l₁ := [_, _, _, _, _, _]) (l₂ := [_])))
    exact q1.perm (permH (by
      intro x
      simp only [List.count_cons, List.count_nil, List.cons_append, List.nil_append]
      omega))
  have hct := range1_ct L bf bt bv 0 (max (a.length : Int) b.length) vb b (fun j => [Blk L (.loop r), OutP b5 (chgL a b j), Box b2 [va], F]) (fun _ => [fun _ => False]) (by decide) (by omega) (fun j A => Rd.tail (Rd.tail (Rd.tail (Rd.head hFb)))) ?_
  · refine (hct w _ trivial J0).mono ?_
    rintro e w' ⟨v, H', rfl, ⟨rfl, hH⟩, hs', hk'⟩
    rcases hH with rfl | ⟨j, hj1, hj2, rfl⟩
    · have hr2 : ({ r with state := .ready, pending := none } : Loop) = r := by subst hr; rfl
      refine ⟨_, .ready, none, [Blk D (.deferred (some [])), OutP b5 (chgL a b (max a.length b.length)), Box b2 [va], F, Box bf [.int .i64 0], Box bt [.int .i64 (max (a.length : Int) b.length)], Box bv [.iface 61 vb]], rfl, by decide, ?_, hk.trans hk', ?_⟩
      · rw [hr2]
        have e1 : ((max (a.length : Int) b.length) - 0).toNat = max a.length b.length := by omega
        rw [e1] at hs'
        exact hs'.perm (permH (by
          intro x
          simp only [List.count_cons, List.count_nil, List.cons_append, List.nil_append]
          omega))
      · refine S.inBlock ?_
        refine S.bring (List.Perm.swap _ _ _) ?_
        refine S.openOut fun v => ?_
        repeat refine S.seq ?_
        refine S.region ?_
        refine SO.load1 rfl Try.isAgg65 rfl rfl ?_
        refine SO.v rfl (opv_assign rfl) ?_
        refine SO.nil ?_
        refine S.b2 ?_
        refine S.ret1M Try.func21 rfl rfl (fun w hs hk => hR w _ [Own 68 ek_view_Pair_uint64 v (chgL a b (max a.length b.length))] ⟨v, rfl, rfl⟩ ?_ hk) rfl
        have q := (hs.perm (l' := [Blk D (.deferred none), Box b5 [v], Box b2 [va], Box bf [.int .i64 0], Box bt [.int .i64 (max (a.length : Int) b.length)], Box bv [.iface 61 vb], Own 68 ek_view_Pair_uint64 v (chgL a b (max a.length b.length)), F]) (permH (by
          intro x
          simp only [List.count_cons, List.count_nil]
          omega)))
        exact q.drop.drop.drop.drop.drop.drop
    · exact (hs'.head).elim fun _ h => h.2.elim
  · intro j hj
    have hr2 : r.state = .ready := by subst hr; rfl
    have hr3 : ({ { r with state := .busy } with state := .ready, pending := none } : Loop) = r := by subst hr; rfl
    refine YCt.intro (n := 30) (ρ0 := [(17, .int .u64 (rd_ b (0 + j))), (16, .int .i64 (0 + j)), (5, bp b5 0), (2, bp b2 0)]) (by subst hr; rfl) hr2 (by subst hr; exact ht) ?_ ?_ ?_
    · subst hr
      rw [show (#[16, 17] : Array Tmp) = [16, 17].toArray from rfl, fold_zip]
      exact (((hE.fit (.of ⟨rfl, rfl, trivial⟩) : EnvOk tmps [(5, bp b5 0), (2, bp b2 0)]).put _ (by omega)).put _ (by rw [Array.size_setIfInBounds]; omega))
    · subst hr
      rw [show (#[16, 17] : Array Tmp) = [16, 17].toArray from rfl, fold_zip]
      simp [ht]
    · intro R' wb F' hR'
      subst hr
      dsimp only
      repeat refine S.seq ?_
      refine S.region ?_
      refine SO.v rfl (opv_assign rfl) ?_
      refine SO.nil ?_
      refine S.region ?_
      refine SO.v rfl (opv_assign rfl) ?_
      refine SO.nil ?_
      refine S.beginRound hr2 ?_
      refine S.block ?_
      repeat refine S.seq ?_
      refine S.region ?_
      refine SO.v rfl (opv_move rfl) ?_
      refine SO.b2 ?_
      refine SO.load1 rfl (by intro w; kernel_rfl) rfl rfl ?_
      refine SO.v rfl (opv_move rfl) ?_
      refine SO.call (pre := []) rfl Try.call20 rfl rfl rfl (view_Plain_Read.ct va a (0 + j) _ (rd_some a (0 + j))) (Rd.tail (Rd.tail (Rd.tail (Rd.head hFa)))) ?_
      rintro _ _ ⟨rfl, rfl⟩
      refine SO.v rfl (opv_neq rfl rfl) ?_
      refine SO.nil ?_
      have ec : chgL a b (j + 1) = if rd_ b j = rd_ a j then chgL a b j else chgL a b j ++ [⟨j, rd_ b j⟩] := rfl
      have e0 : (0 : Int) + j = j := by omega
      rcases bool_or (rd_ b (0 + j) != rd_ a (0 + j)) with c1 | c1
      · have hne : rd_ b j ≠ rd_ a j := by rw [e0] at c1; simpa using c1
        rw [if_neg hne] at ec
        refine S.condT rfl c1 ?_
        refine S.b2 ?_
        refine S.openOut fun v5 => ?_
        refine S.b1 ?_
        refine S.rd fun hr5 => ?_
        refine S.b1 ?_
        repeat refine S.seq ?_
        refine S.region ?_
        refine SO.load1 rfl Try.isAgg65 rfl rfl ?_
        refine SO.v rfl (opv_move rfl) ?_
        refine SO.v rfl (opv_move rfl) ?_
        refine SO.v rfl (opv_build (v := .agg #[.int .i64 (0 + j), .int .u64 (rd_ b (0 + j))]) rfl (by intro w; kernel_rfl)) ?_
        refine SO.buildSlice (K := ek_view_Pair_uint64) (xs := [⟨0 + j, rd_ b (0 + j)⟩]) (cs := [.int .i64 (0 + j), .int .u64 (rd_ b (0 + j))]) rfl Try.underlying65 Try.sizeOf68 Try.zeroValue68 rfl rfl rfl (by kernel_rfl) rfl rfl rfl (fun v6 hr6 => ?_)
        have hlen := chgL_len a b j
        have happ : app (chgL a b j) [(⟨0 + j, rd_ b (0 + j)⟩ : view_Pair_uint64)] = some (chgL a b j ++ [⟨0 + j, rd_ b (0 + j)⟩]) := by
          have e : (chgL a b j).length + ([(⟨0 + j, rd_ b (0 + j)⟩ : view_Pair_uint64)] : List view_Pair_uint64).length ≤ 4294967296 := by
            simp only [List.length_cons, List.length_nil]; omega
          unfold app
          rw [decide_eq_true e]; rfl
        refine SO.b2 ?_
        refine SO.append rfl Try.underlying65 Try.underlying65 inf68 rfl rfl rfl (by decide) rfl rfl rfl (Rd.head hr6) happ (fun v7 => ?_)
        refine SO.rd fun hr7 => ?_
        refine SO.b2 ?_
        refine SO.store1 Try.sizeOf65 rfl rfl (Rd.one hr7) rfl ?_
        refine SO.nil ?_
        refine S.inBlock ?_
        refine S.b2 ?_
        refine S.drop ?_
        refine S.closeOut ?_
        refine S.b1 ?_
        refine S.b1 ?_
        refine S.b2 ?_
        refine S.roundEnd (fun w hs hk => hR' w true (Blk L (.loop _) :: [OutP b5 (chgL a b (j + 1)), Box b2 [va], F]) (.inl ⟨rfl, rfl⟩) ?_ hk)
        rw [ec]
        rw [e0] at hs
        exact hs
      · have heq : rd_ b j = rd_ a j := by rw [e0] at c1; simpa using c1
        rw [if_pos heq] at ec
        refine S.condF rfl c1 ?_
        refine S.skip ?_
        refine S.inBlock ?_
        refine S.b2 ?_
        refine S.b2 ?_
        refine S.roundEnd (fun w hs hk => hR' w true (Blk L (.loop _) :: [OutP b5 (chgL a b (j + 1)), Box b2 [va], F]) (.inl ⟨rfl, rfl⟩) ?_ hk)
        rw [ec]
        exact hs

end Go.Proofs
namespace Go.Proofs
open Go.Sl Go.RowKit
/-! 6 padstone/padstonelaw05.up -/
def law05_up.f : Option (Bool) :=
  (view_Changed.f ([1, 2]) ([1, 3])).bind fun t5 => (view_Plain_Write.f ([7, 8]) 1 9).bind fun q11 => (bif (t5.length : Int) == 1 then ((at_ t5 0).bind fun x17 => some (x17.At == 1)) else (some false)).bind fun c15 => (bif c15 then ((at_ t5 0).bind fun x22 => some (x22.Val == 3)) else (some false)).bind fun c20 => (bif c20 then ((view_Plain_Read.f q11 1).bind fun t27 => some (t27 == 9)) else (some false)).bind fun c25 => (bif c25 then ((view_Plain_Read.f q11 2).bind fun t32 => some (t32 == 0)) else (some false)).bind fun c30 => (bif c30 then ((view_Plain_Read.f q11 (-1)).bind fun t37 => some (t37 == 0)) else (some false)).bind fun c35 => some c35
set_option maxHeartbeats 8000000 in
set_option maxRecDepth 100000 in
theorem law05_up.ct (r0 : Bool) (h : law05_up.f  = some r0) :
    Ct Try.prog 6 [] (fun _ => True) [] (fun u H' => u = .bool r0 ∧ H' = []) := by
  unfold law05_up.f at h
  refine Ct.intro (n := 41) Try.func6 rfl rfl rfl ?_
  intro R w0 F hF hR
  refine S.seq ?_
  refine S.region ?_
  refine SO.v rfl (opv_assign rfl) ?_
  refine SO.nil ?_
  refine S.seq ?_
  refine S.region ?_
  refine SO.buildSlice (K := ekI .u64) (xs := [1, 2]) (cs := [.int .u64 1, .int .u64 2]) rfl Try.underlying48 Try.sizeOf35 Try.zeroValue35 rfl rfl rfl (by kernel_rfl) rfl rfl rfl (fun v1 hr2 => ?_)
  refine SO.buildSlice (K := ekI .u64) (xs := [1, 3]) (cs := [.int .u64 1, .int .u64 3]) rfl Try.underlying48 Try.sizeOf35 Try.zeroValue35 rfl rfl rfl (by kernel_rfl) rfl rfl rfl (fun v3 hr4 => ?_)
  obtain ⟨t5, ht6, h⟩ := opt_bind h
  refine SO.call (pre := []) rfl Try.call21 rfl rfl rfl (view_Changed.ct v1 v3 _ _ _ ht6) ⟨(Rd.tail (Rd.head hr2)), (Rd.head hr4)⟩ ?_
  rintro v7 _ ⟨_, rfl, rfl⟩
  refine SO.rd fun hr8 => ?_
  refine SO.v rfl (opv_assign rfl) ?_
  refine SO.nil ?_
  refine S.seq ?_
  refine S.region ?_
  refine SO.buildSlice (K := ekI .u64) (xs := [7, 8]) (cs := [.int .u64 7, .int .u64 8]) rfl Try.underlying48 Try.sizeOf35 Try.zeroValue35 rfl rfl rfl (by kernel_rfl) rfl rfl rfl (fun v9 hr10 => ?_)
  refine SO.v rfl (opv_assign rfl) ?_
  refine SO.nil ?_
  refine S.seq ?_
  refine S.region ?_
  refine SO.v rfl (opv_move rfl) ?_
  obtain ⟨q11, ht12, h⟩ := opt_bind h
  refine SO.call (pre := [Own _ _ _ _]) rfl Try.call22 rfl rfl rfl (view_Plain_Write.ct v9 _ _ _ _ ht12) trivial ?_
  rintro _ _ ⟨rfl, rfl⟩
  refine SO.rd fun hr13 => ?_
  refine SO.nil ?_
  refine S.seq ?_
  refine S.region ?_
  refine SO.v rfl (opv_move rfl) ?_
  refine SO.v rfl (opv_lenR rfl Try.underlying65 hr8 rfl) ?_
  refine SO.v rfl (opv_eql rfl rfl) ?_
  refine SO.v rfl (opv_move rfl) ?_
  obtain ⟨c15, hc16, hgk⟩ := opt_bind h
  refine SO.cut 6 18 (.bool c15) [Own 35 (ekI .u64) v9 q11, Own 68 ek_view_Pair_uint64 v7 t5, Own 35 (ekI .u64) v3 ([1, 3]), Own 35 (ekI .u64) v1 ([1, 2]), F] (fun l2 hk2 => ?_) ?_
  · clear hgk
    replace h := hc16
    rcases bool_or ((t5.length : Int) == 1) with b14 | b14
    · replace h := cond_t b14 h
      refine SO.takeT rfl rfl rfl b14 ?_
      refine SO.v rfl (opv_move rfl) ?_
      refine SO.takeT rfl rfl rfl b14 ?_
      obtain ⟨x17, hx18, h⟩ := opt_bind h
      refine SO.v rfl (opv_idx Try.underlying65 Try.sizeOf68 hr8 rfl rfl hx18) ?_
      refine SO.takeT rfl rfl rfl b14 ?_
      refine SO.v rfl (opv_fieldIdx Try.underlying68 rfl Try.sizeOf3 hr8 hx18 rfl rfl) ?_
      refine SO.takeT rfl rfl rfl b14 ?_
      refine SO.loadI1 (j := 0) rfl Try.isAgg3 (Rd.tail (Rd.head hr8)) hx18 rfl rfl rfl rfl ?_
      refine SO.takeT rfl rfl rfl b14 ?_
      refine SO.v rfl (opv_eql rfl rfl) ?_
      cases h
      refine SO.v rfl (opv_pick_t' b14 rfl rfl) ?_
      refine SO.b4 ?_
      refine SO.b4 ?_
      refine SO.b4 ?_
      refine SO.b4 ?_
      refine SO.b4 ?_
      exact hk2.fitc (m := 6) rfl (rfl) rfl
    · replace h := cond_f b14 h
      refine SO.passF rfl rfl rfl b14 rfl rfl ?_
      refine SO.passF rfl rfl rfl b14 rfl rfl ?_
      refine SO.passF rfl rfl rfl b14 rfl rfl ?_
      refine SO.passF rfl rfl rfl b14 rfl rfl ?_
      refine SO.passF rfl rfl rfl b14 rfl rfl ?_
      cases h
      refine SO.v rfl (opv_pick_f' b14 rfl rfl) ?_
      refine SO.b4 ?_
      refine SO.b4 ?_
      refine SO.b4 ?_
      refine SO.b4 ?_
      refine SO.b4 ?_
      exact hk2.fitc (m := 6) rfl (rfl) rfl
  clear hc16
  replace h := hgk
  refine SO.v rfl (opv_move rfl) ?_
  obtain ⟨c20, hc21, hgk⟩ := opt_bind h
  refine SO.cut 6 25 (.bool c20) [Own 35 (ekI .u64) v9 q11, Own 68 ek_view_Pair_uint64 v7 t5, Own 35 (ekI .u64) v3 ([1, 3]), Own 35 (ekI .u64) v1 ([1, 2]), F] (fun l2 hk2 => ?_) ?_
  · clear hgk
    replace h := hc21
    rcases bool_or c15 with b19 | b19
    · replace h := cond_t b19 h
      refine SO.takeT rfl rfl rfl b19 ?_
      refine SO.v rfl (opv_move rfl) ?_
      refine SO.takeT rfl rfl rfl b19 ?_
      obtain ⟨x22, hx23, h⟩ := opt_bind h
      refine SO.v rfl (opv_idx Try.underlying65 Try.sizeOf68 hr8 rfl rfl hx23) ?_
      refine SO.takeT rfl rfl rfl b19 ?_
      refine SO.v rfl (opv_fieldIdx Try.underlying68 rfl Try.sizeOf35 hr8 hx23 rfl rfl) ?_
      refine SO.takeT rfl rfl rfl b19 ?_
      refine SO.loadI1 (j := 1) rfl Try.isAgg35 (Rd.tail (Rd.head hr8)) hx23 rfl rfl rfl rfl ?_
      refine SO.takeT rfl rfl rfl b19 ?_
      refine SO.v rfl (opv_eql rfl rfl) ?_
      cases h
      refine SO.v rfl (opv_pick_t' b19 rfl rfl) ?_
      refine SO.b4 ?_
      refine SO.b4 ?_
      refine SO.b4 ?_
      refine SO.b4 ?_
      refine SO.b4 ?_
      exact hk2.fitc (m := 6) rfl (rfl) rfl
    · replace h := cond_f b19 h
      refine SO.passF rfl rfl rfl b19 rfl rfl ?_
      refine SO.passF rfl rfl rfl b19 rfl rfl ?_
      refine SO.passF rfl rfl rfl b19 rfl rfl ?_
      refine SO.passF rfl rfl rfl b19 rfl rfl ?_
      refine SO.passF rfl rfl rfl b19 rfl rfl ?_
      cases h
      refine SO.v rfl (opv_pick_f' b19 rfl rfl) ?_
      refine SO.b4 ?_
      refine SO.b4 ?_
      refine SO.b4 ?_
      refine SO.b4 ?_
      refine SO.b4 ?_
      exact hk2.fitc (m := 6) rfl (rfl) rfl
  clear hc21
  replace h := hgk
  refine SO.v rfl (opv_move rfl) ?_
  obtain ⟨c25, hc26, hgk⟩ := opt_bind h
  refine SO.cut 4 30 (.bool c25) [Own 35 (ekI .u64) v9 q11, Own 68 ek_view_Pair_uint64 v7 t5, Own 35 (ekI .u64) v3 ([1, 3]), Own 35 (ekI .u64) v1 ([1, 2]), F] (fun l2 hk2 => ?_) ?_
  · clear hgk
    replace h := hc26
    rcases bool_or c20 with b24 | b24
    · replace h := cond_t b24 h
      refine SO.takeT rfl rfl rfl b24 ?_
      refine SO.v rfl (opv_move rfl) ?_
      refine SO.takeT rfl rfl rfl b24 ?_
      obtain ⟨t27, ht28, h⟩ := opt_bind h
      refine SO.call (pre := []) rfl Try.call20 rfl rfl rfl (view_Plain_Read.ct v9 _ _ _ ht28) (Rd.head hr13) ?_
      rintro _ _ ⟨rfl, rfl⟩
      refine SO.takeT rfl rfl rfl b24 ?_
      refine SO.v rfl (opv_eql rfl rfl) ?_
      cases h
      refine SO.v rfl (opv_pick_t' b24 rfl rfl) ?_
      refine SO.b4 ?_
      refine SO.b4 ?_
      refine SO.b4 ?_
      refine SO.b4 ?_
      refine SO.b4 ?_
      exact hk2.fitc (m := 4) rfl (rfl) rfl
    · replace h := cond_f b24 h
      refine SO.passF rfl rfl rfl b24 rfl rfl ?_
      refine SO.passF rfl rfl rfl b24 rfl rfl ?_
      refine SO.passF rfl rfl rfl b24 rfl rfl ?_
      cases h
      refine SO.v rfl (opv_pick_f' b24 rfl rfl) ?_
      refine SO.b4 ?_
      refine SO.b4 ?_
      refine SO.b4 ?_
      refine SO.b4 ?_
      refine SO.b4 ?_
      exact hk2.fitc (m := 4) rfl (rfl) rfl
  clear hc26
  replace h := hgk
  refine SO.v rfl (opv_move rfl) ?_
  obtain ⟨c30, hc31, hgk⟩ := opt_bind h
  refine SO.cut 4 35 (.bool c30) [Own 35 (ekI .u64) v9 q11, Own 68 ek_view_Pair_uint64 v7 t5, Own 35 (ekI .u64) v3 ([1, 3]), Own 35 (ekI .u64) v1 ([1, 2]), F] (fun l2 hk2 => ?_) ?_
  · clear hgk
    replace h := hc31
    rcases bool_or c25 with b29 | b29
    · replace h := cond_t b29 h
      refine SO.takeT rfl rfl rfl b29 ?_
      refine SO.v rfl (opv_move rfl) ?_
      refine SO.takeT rfl rfl rfl b29 ?_
      obtain ⟨t32, ht33, h⟩ := opt_bind h
      refine SO.call (pre := []) rfl Try.call20 rfl rfl rfl (view_Plain_Read.ct v9 _ _ _ ht33) (Rd.head hr13) ?_
      rintro _ _ ⟨rfl, rfl⟩
      refine SO.takeT rfl rfl rfl b29 ?_
      refine SO.v rfl (opv_eql rfl rfl) ?_
      cases h
      refine SO.v rfl (opv_pick_t' b29 rfl rfl) ?_
      refine SO.b4 ?_
      refine SO.b4 ?_
      refine SO.b4 ?_
      refine SO.b4 ?_
      refine SO.b4 ?_
      exact hk2.fitc (m := 4) rfl (rfl) rfl
    · replace h := cond_f b29 h
      refine SO.passF rfl rfl rfl b29 rfl rfl ?_
      refine SO.passF rfl rfl rfl b29 rfl rfl ?_
      refine SO.passF rfl rfl rfl b29 rfl rfl ?_
      cases h
      refine SO.v rfl (opv_pick_f' b29 rfl rfl) ?_
      refine SO.b4 ?_
      refine SO.b4 ?_
      refine SO.b4 ?_
      refine SO.b4 ?_
      refine SO.b4 ?_
      exact hk2.fitc (m := 4) rfl (rfl) rfl
  clear hc31
  replace h := hgk
  refine SO.v rfl (opv_move rfl) ?_
  obtain ⟨c35, hc36, hgk⟩ := opt_bind h
  refine SO.cut 4 40 (.bool c35) [Own 35 (ekI .u64) v9 q11, Own 68 ek_view_Pair_uint64 v7 t5, Own 35 (ekI .u64) v3 ([1, 3]), Own 35 (ekI .u64) v1 ([1, 2]), F] (fun l2 hk2 => ?_) ?_
  · clear hgk
    replace h := hc36
    rcases bool_or c30 with b34 | b34
    · replace h := cond_t b34 h
      refine SO.takeT rfl rfl rfl b34 ?_
      refine SO.v rfl (opv_move rfl) ?_
      refine SO.takeT rfl rfl rfl b34 ?_
      obtain ⟨t37, ht38, h⟩ := opt_bind h
      refine SO.call (pre := []) rfl Try.call20 rfl rfl rfl (view_Plain_Read.ct v9 _ _ _ ht38) (Rd.head hr13) ?_
      rintro _ _ ⟨rfl, rfl⟩
      refine SO.takeT rfl rfl rfl b34 ?_
      refine SO.v rfl (opv_eql rfl rfl) ?_
      cases h
      refine SO.v rfl (opv_pick_t' b34 rfl rfl) ?_
      refine SO.b4 ?_
      refine SO.b4 ?_
      refine SO.b4 ?_
      refine SO.b4 ?_
      refine SO.b4 ?_
      exact hk2.fitc (m := 4) rfl (rfl) rfl
    · replace h := cond_f b34 h
      refine SO.passF rfl rfl rfl b34 rfl rfl ?_
      refine SO.passF rfl rfl rfl b34 rfl rfl ?_
      refine SO.passF rfl rfl rfl b34 rfl rfl ?_
      cases h
      refine SO.v rfl (opv_pick_f' b34 rfl rfl) ?_
      refine SO.b4 ?_
      refine SO.b4 ?_
      refine SO.b4 ?_
      refine SO.b4 ?_
      refine SO.b4 ?_
      exact hk2.fitc (m := 4) rfl (rfl) rfl
  clear hc36
  replace h := hgk
  refine SO.v rfl (opv_assign rfl) ?_
  refine SO.nil ?_
  refine S.to (ρ' := [(0, .bool c35)]) ⟨rfl, trivial⟩ ?_
  cases h
  refine S.drop ?_
  refine S.drop ?_
  refine S.drop ?_
  refine S.drop ?_
  exact S.ret1 Try.func6 rfl rfl (fun w hs hk => hR w _ _ ⟨rfl, rfl⟩ hs hk)
end Go.Proofs
