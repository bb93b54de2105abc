/- What the functions that TxLearns reaches come to, and that they do. On no condition. -/
import Derived.Test.YtehemplabpjbgaaFr2
import Derived.Test.YtehemplabpjbgaaProg
import Derived.Test.YtehemplabpjbgaaFr1
set_option linter.all false
namespace Go.Proofs
open Go.Sl Go.RowKit
theorem inf4 : Try.prog.info? 4 = some Try.t4 := by kernel_rfl
theorem inf29 : Try.prog.info? 29 = some Try.t29 := by kernel_rfl
theorem inf35 : Try.prog.info? 35 = some Try.t35 := by kernel_rfl
theorem inf38 : Try.prog.info? 38 = some Try.t38 := by kernel_rfl
theorem inf63 : Try.prog.info? 63 = some Try.t63 := by kernel_rfl
theorem inf68 : Try.prog.info? 68 = some Try.t68 := by kernel_rfl
theorem inf82 : Try.prog.info? 82 = some Try.t82 := by kernel_rfl
structure view_Pair_uint64 where
  At : Int
  Val : Int
  deriving DecidableEq, Inhabited
def ek_view_Pair_uint64 : EK view_Pair_uint64 := ⟨2, fun x => [.int .i64 x.At, .int .u64 x.Val], fun _ => rfl, fun x v hv => by
  simp only [List.mem_cons, List.not_mem_nil, or_false] at hv
  rcases hv with rfl | rfl <;> rfl, by decide⟩
theorem eqI_view_Pair_uint64 (x y : view_Pair_uint64) : eqI [x.At, x.Val] [y.At, y.Val] = decide (x = y) := by
  cases x; cases y
  rw [Bool.eq_iff_iff]
  simp [eqI]
theorem fi_view_Pair_uint64 : ∀ fs, Try.prog.underlying 68 = some (.struct fs) → FI Try.prog fs.toList 0 [.i64, .u64] := by
  intro fs h
  rw [Try.underlying68] at h
  injection h with h
  injection h with h
  subst h
  exact ⟨by decide, Try.underlying3, rfl, ⟨by decide, Try.underlying35, rfl, trivial⟩⟩
theorem eq_eql_view_Pair_uint64 {ρ : Env} {t2 : TypeId} {x y : view_Pair_uint64} {a b : Operand} (ha : ev ρ a = some (.agg (encI [.i64, .u64] [x.At, x.Val]).toArray)) (hb : ev ρ b = some (.agg (encI [.i64, .u64] [y.At, y.Val]).toArray)) : OpV Try.prog ρ (.binOp .eql 68 a b t2) (.bool (decide (x = y))) :=
  opv_eqlS Try.underlying68 Try.stoodInHeld68 Try.eqGuardType68 (fi_view_Pair_uint64 _ Try.underlying68) rfl rfl ha hb (by rw [eqI_view_Pair_uint64])
theorem eq_neq_view_Pair_uint64 {ρ : Env} {t2 : TypeId} {x y : view_Pair_uint64} {a b : Operand} (ha : ev ρ a = some (.agg (encI [.i64, .u64] [x.At, x.Val]).toArray)) (hb : ev ρ b = some (.agg (encI [.i64, .u64] [y.At, y.Val]).toArray)) : OpV Try.prog ρ (.binOp .neq 68 a b t2) (.bool (!decide (x = y))) :=
  opv_neqS Try.underlying68 Try.stoodInHeld68 Try.eqGuardType68 (fi_view_Pair_uint64 _ Try.underlying68) rfl rfl ha hb (by rw [eqI_view_Pair_uint64])
structure view_Pair_int where
  At : Int
  Val : Int
  deriving DecidableEq, Inhabited
def ek_view_Pair_int : EK view_Pair_int := ⟨2, fun x => [.int .i64 x.At, .int .i64 x.Val], fun _ => rfl, fun x v hv => by
  simp only [List.mem_cons, List.not_mem_nil, or_false] at hv
  rcases hv with rfl | rfl <;> rfl, by decide⟩
theorem eqI_view_Pair_int (x y : view_Pair_int) : eqI [x.At, x.Val] [y.At, y.Val] = decide (x = y) := by
  cases x; cases y
  rw [Bool.eq_iff_iff]
  simp [eqI]
theorem fi_view_Pair_int : ∀ fs, Try.prog.underlying 29 = some (.struct fs) → FI Try.prog fs.toList 0 [.i64, .i64] := by
  intro fs h
  rw [Try.underlying29] at h
  injection h with h
  injection h with h
  subst h
  exact ⟨by decide, Try.underlying3, rfl, ⟨by decide, Try.underlying3, rfl, trivial⟩⟩
theorem eq_eql_view_Pair_int {ρ : Env} {t2 : TypeId} {x y : view_Pair_int} {a b : Operand} (ha : ev ρ a = some (.agg (encI [.i64, .i64] [x.At, x.Val]).toArray)) (hb : ev ρ b = some (.agg (encI [.i64, .i64] [y.At, y.Val]).toArray)) : OpV Try.prog ρ (.binOp .eql 29 a b t2) (.bool (decide (x = y))) :=
  opv_eqlS Try.underlying29 Try.stoodInHeld29 Try.eqGuardType29 (fi_view_Pair_int _ Try.underlying29) rfl rfl ha hb (by rw [eqI_view_Pair_int])
theorem eq_neq_view_Pair_int {ρ : Env} {t2 : TypeId} {x y : view_Pair_int} {a b : Operand} (ha : ev ρ a = some (.agg (encI [.i64, .i64] [x.At, x.Val]).toArray)) (hb : ev ρ b = some (.agg (encI [.i64, .i64] [y.At, y.Val]).toArray)) : OpV Try.prog ρ (.binOp .neq 29 a b t2) (.bool (!decide (x = y))) :=
  opv_neqS Try.underlying29 Try.stoodInHeld29 Try.eqGuardType29 (fi_view_Pair_int _ Try.underlying29) rfl rfl ha hb (by rw [eqI_view_Pair_int])
structure api_Cell where
  Value : Int
  Version : Int
  Mark : Int
  deriving DecidableEq, Inhabited
def ek_api_Cell : EK api_Cell := ⟨3, fun x => [.int .u64 x.Value, .int .u32 x.Version, .int .i64 x.Mark], fun _ => rfl, fun x v hv => by
  simp only [List.mem_cons, List.not_mem_nil, or_false] at hv
  rcases hv with rfl | rfl | rfl <;> rfl, by decide⟩
theorem eqI_api_Cell (x y : api_Cell) : eqI [x.Value, x.Version, x.Mark] [y.Value, y.Version, y.Mark] = decide (x = y) := by
  cases x; cases y
  rw [Bool.eq_iff_iff]
  simp [eqI]
theorem fi_api_Cell : ∀ fs, Try.prog.underlying 38 = some (.struct fs) → FI Try.prog fs.toList 0 [.u64, .u32, .i64] := by
  intro fs h
  rw [Try.underlying38] at h
  injection h with h
  injection h with h
  subst h
  exact ⟨by decide, Try.underlying35, rfl, ⟨by decide, Try.underlying36, rfl, ⟨by decide, Try.underlying3, rfl, trivial⟩⟩⟩
theorem eq_eql_api_Cell {ρ : Env} {t2 : TypeId} {x y : api_Cell} {a b : Operand} (ha : ev ρ a = some (.agg (encI [.u64, .u32, .i64] [x.Value, x.Version, x.Mark]).toArray)) (hb : ev ρ b = some (.agg (encI [.u64, .u32, .i64] [y.Value, y.Version, y.Mark]).toArray)) : OpV Try.prog ρ (.binOp .eql 38 a b t2) (.bool (decide (x = y))) :=
  opv_eqlS Try.underlying38 Try.stoodInHeld38 Try.eqGuardType38 (fi_api_Cell _ Try.underlying38) rfl rfl ha hb (by rw [eqI_api_Cell])
theorem eq_neq_api_Cell {ρ : Env} {t2 : TypeId} {x y : api_Cell} {a b : Operand} (ha : ev ρ a = some (.agg (encI [.u64, .u32, .i64] [x.Value, x.Version, x.Mark]).toArray)) (hb : ev ρ b = some (.agg (encI [.u64, .u32, .i64] [y.Value, y.Version, y.Mark]).toArray)) : OpV Try.prog ρ (.binOp .neq 38 a b t2) (.bool (!decide (x = y))) :=
  opv_neqS Try.underlying38 Try.stoodInHeld38 Try.eqGuardType38 (fi_api_Cell _ Try.underlying38) rfl rfl ha hb (by rw [eqI_api_Cell])
structure tx_Tx where
  cells : Int
  l : Option (List (Int × api_Cell))
  out : Option (List (Int × Int))
  lack : Int
  fine : Bool
  deriving DecidableEq, Inhabited
structure view_Pair_api_Cell where
  At : Int
  Val : api_Cell
  deriving DecidableEq, Inhabited
def ek_view_Pair_api_Cell : EK view_Pair_api_Cell := ⟨4, fun x => [.int .i64 x.At, .int .u64 x.Val.Value, .int .u32 x.Val.Version, .int .i64 x.Val.Mark], fun _ => rfl, fun x v hv => by
  simp only [List.mem_cons, List.not_mem_nil, or_false] at hv
  rcases hv with rfl | rfl | rfl | rfl <;> rfl, by decide⟩
structure tx_Entry where
  Cell : Int
  Version : Int
  Old : Int
  New : Int
  Write : Bool
  deriving DecidableEq, Inhabited
def ek_tx_Entry : EK tx_Entry := ⟨5, fun x => [.int .i64 x.Cell, .int .u32 x.Version, .int .u64 x.Old, .int .u64 x.New, .bool x.Write], fun _ => rfl, fun x v hv => by
  simp only [List.mem_cons, List.not_mem_nil, or_false] at hv
  rcases hv with rfl | rfl | rfl | rfl | rfl <;> rfl, by decide⟩
structure word_Store where
  l : List api_Cell
  limit : Int
  deriving DecidableEq, Inhabited
def kr_word_Store : EKR word_Store := ⟨2, fun x => [.sl ek_api_Cell x.l, .val (.int .u32 x.limit)], fun _ => rfl, fun x v hv => by
  simp only [List.mem_cons, List.not_mem_nil, or_false, CellP.val.injEq, reduceCtorEq, false_or] at hv
  rcases hv with rfl <;> rfl, by decide⟩
structure law06_Op where
  Look : Bool
  Jump : Bool
  From : Int
  To : Int
  N : Int
  deriving DecidableEq, Inhabited
def ek_law06_Op : EK law06_Op := ⟨5, fun x => [.bool x.Look, .bool x.Jump, .int .i64 x.From, .int .i64 x.To, .int .u64 x.N], fun _ => rfl, fun x v hv => by
  simp only [List.mem_cons, List.not_mem_nil, or_false] at hv
  rcases hv with rfl | rfl | rfl | rfl | rfl <;> rfl, by decide⟩

end Go.Proofs
namespace Go.Proofs
open Go.Sl Go.RowKit
/-! 29 (padstone/view.Plain).has -/
def view_Plain_has.f (a0 : List Int) (a1 : Int) : Option (Bool) :=
  some ((decide (0 ≤ a1)) && (decide (a1 < (a0.length : Int))))
set_option maxHeartbeats 8000000 in
set_option maxRecDepth 100000 in
theorem view_Plain_has.ct (v0 : Value) (a0 : List Int) (a1 : Int) (r0 : Bool) (h : view_Plain_has.f a0 a1 = some r0) :
    Ct Try.prog 29 [v0, .int .i64 a1] (fun F => Rd (ekI .u64) v0 a0 F) [] (fun u H' => u = .bool r0 ∧ H' = []) := by
  unfold view_Plain_has.f at h
  refine Ct.intro (n := 13) Try.func29 rfl rfl rfl ?_
  intro R w0 F hF hR
  have hF0 := hF
  refine S.seq ?_
  refine S.region ?_
  refine SO.v rfl (opv_assign rfl) ?_
  refine SO.nil ?_
  refine S.seq ?_
  refine S.region ?_
  refine SO.v rfl (opv_move rfl) ?_
  refine SO.v rfl (opv_geq rfl rfl) ?_
  refine SO.v rfl (opv_move rfl) ?_
  refine SO.cut 5 12 (.bool ((decide (0 ≤ a1)) && (decide (a1 < (a0.length : Int))))) [F] (fun l2 hk2 => ?_) ?_
  · rcases bool_or (decide (0 ≤ a1)) with b1 | b1
    · refine SO.takeT rfl rfl rfl b1 ?_
      refine SO.v rfl (opv_move rfl) ?_
      refine SO.takeT rfl rfl rfl b1 ?_
      refine SO.v rfl (opv_move rfl) ?_
      refine SO.takeT rfl rfl rfl b1 ?_
      refine SO.v rfl (opv_lenR rfl Try.underlying61 hF0 rfl) ?_
      refine SO.takeT rfl rfl rfl b1 ?_
      refine SO.v rfl (opv_lss rfl rfl) ?_
      refine SO.v rfl (opv_pick_t' b1 rfl rfl) ?_
      exact hk2.fitc (m := 5) rfl (and_t b1) rfl
    refine SO.passF rfl rfl rfl b1 rfl rfl ?_
    refine SO.passF rfl rfl rfl b1 rfl rfl ?_
    refine SO.passF rfl rfl rfl b1 rfl rfl ?_
    refine SO.passF rfl rfl rfl b1 rfl rfl ?_
    refine SO.v rfl (opv_pick_f' b1 rfl rfl) ?_
    exact hk2.fitc (m := 5) rfl (and_f b1) rfl
  refine SO.v rfl (opv_assign rfl) ?_
  refine SO.nil ?_
  cases h
  exact S.ret1 Try.func29 rfl rfl (fun w hs hk => hR w _ _ ⟨rfl, rfl⟩ hs hk)
end Go.Proofs
namespace Go.Proofs
open Go.Sl Go.RowKit
/-! 20 (padstone/view.Plain).Read -/
def view_Plain_Read.f (a0 : List Int) (a1 : Int) : Option (Int) :=
  (view_Plain_has.f a0 a1).bind fun t1 => bif !t1 then (some 0) else ((at_ a0 a1).bind fun x4 => some x4)
set_option maxHeartbeats 8000000 in
set_option maxRecDepth 100000 in
theorem view_Plain_Read.ct (v0 : Value) (a0 : List Int) (a1 : Int) (r0 : Int) (h : view_Plain_Read.f a0 a1 = some r0) :
    Ct Try.prog 20 [v0, .int .i64 a1] (fun F => Rd (ekI .u64) v0 a0 F) [] (fun u H' => u = .int .u64 r0 ∧ H' = []) := by
  unfold view_Plain_Read.f at h
  refine Ct.intro (n := 13) Try.func20 rfl rfl rfl ?_
  intro R w0 F hF hR
  have hF0 := hF
  refine S.seq ?_
  refine S.region ?_
  refine SO.v rfl (opv_assign rfl) ?_
  refine SO.nil ?_
  refine S.seq ?_
  refine S.seq ?_
  refine S.region ?_
  refine SO.v rfl (opv_move rfl) ?_
  refine SO.v rfl (opv_move rfl) ?_
  obtain ⟨t1, ht2, h⟩ := opt_bind h
  refine SO.call (pre := []) rfl Try.call29 rfl rfl rfl (view_Plain_has.ct v0 _ _ _ ht2) (Rd.head hF0) ?_
  rintro _ _ ⟨rfl, rfl⟩
  refine SO.v rfl (opv_not rfl) ?_
  refine SO.nil ?_
  rcases bool_or (!t1) with b3 | b3
  · replace h := cond_t b3 h
    refine S.condT rfl b3 ?_
    refine S.seq ?_
    refine S.region ?_
    refine SO.v rfl (opv_assign rfl) ?_
    refine SO.nil ?_
    cases h
    exact S.ret1 Try.func20 rfl rfl (fun w hs hk => hR w _ _ ⟨rfl, rfl⟩ hs hk)
  replace h := cond_f b3 h
  refine S.condF rfl b3 ?_
  refine S.skip ?_
  refine S.seq ?_
  refine S.region ?_
  refine SO.v rfl (opv_move rfl) ?_
  refine SO.v rfl (opv_move rfl) ?_
  obtain ⟨x4, hx5, h⟩ := opt_bind h
  refine SO.v rfl (opv_idx Try.underlying61 Try.sizeOf35 hF0 rfl rfl hx5) ?_
  refine SO.loadI1 (j := 0) rfl Try.isAgg35 (Rd.head hF0) hx5 rfl rfl rfl rfl ?_
  refine SO.v rfl (opv_assign rfl) ?_
  refine SO.nil ?_
  refine S.to (ρ' := [(4, .int .u64 x4)]) ⟨rfl, trivial⟩ ?_
  cases h
  exact S.ret1 Try.func20 rfl rfl (fun w hs hk => hR w _ _ ⟨rfl, rfl⟩ hs hk)
end Go.Proofs
namespace Go.Proofs
open Go.Sl Go.RowKit
/-! 22 (padstone/view.Plain).Write -/
def view_Plain_Write.f (a0 : List Int) (a1 : Int) (a2 : Int) : Option ((List Int)) :=
  (view_Plain_has.f a0 a1).bind fun t2 => bif t2 then ((at_ a0 a1).bind fun x5 => some (a0.set a1.toNat a2)) else (some a0)
set_option maxHeartbeats 8000000 in
set_option maxRecDepth 100000 in
theorem view_Plain_Write.ct (v0 : Value) (a0 : List Int) (a1 : Int) (a2 : Int) (q0 : List Int) (h : view_Plain_Write.f a0 a1 a2 = some q0) :
    Ct Try.prog 22 [v0, .int .i64 a1, .int .u64 a2] (fun _ => True) [Own 35 (ekI .u64) v0 a0] (fun u H' => u = .tuple #[] ∧ H' = [Own 35 (ekI .u64) v0 q0]) := by
  unfold view_Plain_Write.f at h
  refine Ct.intro (n := 13) Try.func22 rfl rfl rfl ?_
  intro R w0 F hF hR
  refine S.rd fun hr1 => ?_
  refine S.seq ?_
  refine S.region ?_
  refine SO.v rfl (opv_move rfl) ?_
  refine SO.v rfl (opv_move rfl) ?_
  obtain ⟨t2, ht3, h⟩ := opt_bind h
  refine SO.call (pre := []) rfl Try.call29 rfl rfl rfl (view_Plain_has.ct v0 _ _ _ ht3) (Rd.head hr1) ?_
  rintro _ _ ⟨rfl, rfl⟩
  refine SO.nil ?_
  rcases bool_or t2 with b4 | b4
  · replace h := cond_t b4 h
    refine S.condT rfl b4 ?_
    refine S.region ?_
    refine SO.v rfl (opv_move rfl) ?_
    refine SO.v rfl (opv_move rfl) ?_
    refine SO.v rfl (opv_move rfl) ?_
    obtain ⟨x5, hx6, h⟩ := opt_bind h
    refine SO.v rfl (opv_idx Try.underlying61 Try.sizeOf35 hr1 rfl rfl hx6) ?_
    refine SO.storeI1 (j := 0) (z' := a2) Try.sizeOf35 hx6 rfl rfl rfl rfl rfl rfl ?_
    refine SO.rd fun hr7 => ?_
    refine SO.nil ?_
    refine S.to (ρ' := []) trivial ?_
    cases h
    refine S.b1 ?_
    refine S.b1 ?_
    exact S.fin0 Try.func22 rfl (fun w hs hk => hR w _ _ ⟨rfl, rfl⟩ hs hk)
  replace h := cond_f b4 h
  refine S.condF rfl b4 ?_
  refine S.skip ?_
  cases h
  refine S.b1 ?_
  refine S.b1 ?_
  exact S.fin0 Try.func22 rfl (fun w hs hk => hR w _ _ ⟨rfl, rfl⟩ hs hk)
end Go.Proofs
namespace Go.Proofs
open Go.Sl Go.RowKit
/-! A list of one's own, as a view. -/
theorem read_ok (s : List Int) (i : Int) : ∃ r, view_Plain_Read.f s i = some r := by
  cases h : view_Plain_Read.f s i with
  | some r => exact ⟨r, rfl⟩
  | none =>
    exfalso
    revert h
    unfold view_Plain_Read.f view_Plain_has.f
    by_cases h1 : 0 ≤ i ∧ i < (s.length : Int)
    · have : s[i.toNat]? = some s[i.toNat] := List.getElem?_eq_getElem (by omega)
      simp [h1, at_, this]
    · have : (decide (0 ≤ i) && decide (i < (s.length : Int))) = false := by simpa using h1
      simp [this]
theorem write_ok (s : List Int) (i x : Int) : ∃ r, view_Plain_Write.f s i x = some r := by
  cases h : view_Plain_Write.f s i x with
  | some r => exact ⟨r, rfl⟩
  | none =>
    exfalso
    revert h
    unfold view_Plain_Write.f view_Plain_has.f
    by_cases h1 : 0 ≤ i ∧ i < (s.length : Int)
    · have : s[i.toNat]? = some s[i.toNat] := List.getElem?_eq_getElem (by omega)
      simp [h1, at_, this]
    · have : (decide (0 ≤ i) && decide (i < (s.length : Int))) = false := by simpa using h1
      simp [this]
abbrev plainI : VI := ⟨List Int, fun s i => ((view_Plain_Read.f s i).getD 0, s), fun s i x => (view_Plain_Write.f s i x).getD s⟩
theorem ofRd {P : Program} {g : FuncId} {vals : List Value} {α : Type} {E : TypeId} {K : EK α} {v : Value} {xs : List α} {u0 : Value} (h : Ct P g vals (fun F => Rd K v xs F) [] (fun u H' => u = u0 ∧ H' = [])) :
    Ct P g vals (fun _ => True) [Own E K v xs] (fun u H' => u = u0 ∧ H' = [Own E K v xs]) := by
  intro w F _ hs
  have h2 : Sat w ([] ++ [stars [Own E K v xs, F]]) := Sat.pack (l1 := []) hs
  have hr : Rd K v xs (stars [Own E K v xs, F]) := by
    obtain ⟨m, hm, ho⟩ := Sat.head hs
    exact Rd.head (Own.rd ho)
  refine (h w _ hr h2).mono ?_
  rintro e w' ⟨u, H', he, ⟨hu, rfl⟩, hs', hk⟩
  exact ⟨u, _, he, ⟨hu, rfl⟩, Sat.unpack (l1 := []) hs', hk⟩
set_option maxRecDepth 100000 in
set_option maxHeartbeats 4000000 in
noncomputable def plainV (v : Value) : VW Try.prog :=
  { plainI with
    t := 61, v := v, rep := fun s => Own 35 (ekI .u64) v s
    rF := 20, rV := v, wF := 22, wV := v
    rM := by intro w; kernel_rfl
    wM := by intro w; kernel_rfl
    rN := by intro w; kernel_rfl
    wN := by intro w; kernel_rfl
    rC := Try.call20, wC := Try.call22
    rCt := fun s i => by
      obtain ⟨r, hr⟩ := read_ok s i
      have := ofRd (E := 35) (view_Plain_Read.ct v s i r hr)
      show Ct _ _ _ _ _ (fun u H' => u = .int .u64 ((view_Plain_Read.f s i).getD 0) ∧ H' = [Own 35 (ekI .u64) v s])
      rw [hr]; exact this
    wCt := fun s i x => by
      obtain ⟨r, hr⟩ := write_ok s i x
      have := view_Plain_Write.ct v s i x r hr
      show Ct _ _ _ _ _ (fun u H' => u = .tuple #[] ∧ H' = [Own 35 (ekI .u64) v ((view_Plain_Write.f s i x).getD s)])
      rw [hr]; exact this }
theorem plainV_rep (v : Value) (s : List Int) : (plainV v).rep s = Own 35 (ekI .u64) v s := rfl
theorem headEq {P : Program} {n : Nat} {Z : Act → World → Prop} {w0 : Beg} {ops : Array Oper} {l : List Oper} {ρ : Env} {A B : HProp} {rest : List HProp} (h : A = B) (k : SO P n Z w0 ops l ρ (B :: rest)) : SO P n Z w0 ops l ρ (A :: rest) := by
  subst h; exact k
end Go.Proofs
namespace Go.Proofs
open Go.Sl Go.RowKit
/-! 17 padstone/padstonelaw06.Do -/
def law06_Do.l1 (a1 : List law06_Op) : Nat → (Int × Int) → VM (Int)
  | 0, _ => VM.fail
  | k + 1, (x6_1, x5_1) => bif decide (x6_1 < (a1.length : Int)) then ((VM.opt (at_ a1 x6_1)).bind fun x2 => VM.rd x2.From fun t4 => (VM.opt (at_ a1 x6_1)).bind fun x7 => bif x7.Jump && ((t4.tmod 2) == 1) then ((VM.opt (at_ a1 x6_1)).bind fun x11 => law06_Do.l1 a1 k (w64 ((w64 (x6_1 + (w64 (x11.N.tmod 4)))) + 1), wu64 ((wu64 (x5_1 * 3)) + t4))) else ((VM.opt (at_ a1 x6_1)).bind fun x13 => bif !x13.Look then ((VM.opt (at_ a1 x6_1)).bind fun x16 => (VM.opt (at_ a1 x6_1)).bind fun x18 => VM.wr x16.To (wu64 (t4 + x18.N)) (law06_Do.l1 a1 k (w64 (x6_1 + 1), wu64 ((wu64 (x5_1 * 3)) + t4)))) else (law06_Do.l1 a1 k (w64 (x6_1 + 1), wu64 ((wu64 (x5_1 * 3)) + t4))))) else (VM.ret x5_1)
def law06_Do.f (k : Nat) (a1 : List law06_Op) : VM (Int) :=
  (law06_Do.l1 a1 k (0, 0)).bind fun j5_e1 => VM.ret j5_e1
set_option maxHeartbeats 8000000 in
set_option maxRecDepth 100000 in
theorem law06_Do.ct (V : VW Try.prog) (k : Nat) (v1 : Value) (a1 : List law06_Op) (r0 : Int) (s s' : V.S) (h : VM.run V.toVI (law06_Do.f k a1) s = some (r0, s')) :
    Ct Try.prog 17 [V.val, v1] (fun F => Rd ek_law06_Op v1 a1 F) [V.rep s] (fun u H' => u = .int .u64 r0 ∧ H' = [V.rep s']) := by
  unfold law06_Do.f at h
  refine Ct.intro (n := 71) Try.func17 rfl rfl rfl ?_
  intro R w0 F hF hR
  have hF1 := hF
  refine S.seq ?_
  refine S.region ?_
  refine SO.v rfl (opv_assign rfl) ?_
  refine SO.nil ?_
  refine S.seq ?_
  refine S.region ?_
  refine SO.v rfl (opv_assign rfl) ?_
  refine SO.nil ?_
  refine S.seq ?_
  refine S.seq ?_
  refine S.region ?_
  refine SO.v rfl (opv_assign rfl) ?_
  refine SO.nil ?_
  obtain ⟨j5_e1, so_1, hlp1, h⟩ := VM.bind_some V.toVI h
  refine S.b1 ?_
  refine S.b1 ?_
  refine S.to (ρ' := [(6, .int .i64 0), (5, .int .u64 0), (4, .int .u64 0), (0, V.val), (1, v1)]) ⟨rfl, rfl, rfl, rfl, rfl, trivial⟩ ?_
  refine S.forloop (X := ((Int × Int) × V.S) × Unit) (O := (Int) × V.S) (fun m x => VM.run V.toVI (law06_Do.l1 a1 m x.1.1) x.1.2) (fun x => match x with | (((x6_1, x5_1), sx_1), _) => [(6, .int .i64 x6_1), (5, .int .u64 x5_1), (4, .int .u64 0), (0, V.val), (1, v1)]) (fun x => match x with | (((x6_1, x5_1), sx_1), _) => [V.rep sx_1, F]) (fun Sk oo => match oo with | (j5_e1, so_1) => ∀ _ : Unit, Sk [(4, .int .u64 0), (5, .int .u64 j5_e1)] [V.rep so_1, F]) (fun _ => rfl) ?_ (m := k) (x := (((0, 0), s), ())) hlp1 ?_
  · clear h hlp1
    intro k x o_1 h hK1 ih1
    obtain ⟨⟨⟨x6_1, x5_1⟩, sx_1⟩, _⟩ := x
    obtain ⟨o_1, so_1_⟩ := o_1
    replace h : VM.run V.toVI (law06_Do.l1 a1 (k + 1) (x6_1, x5_1)) sx_1 = some (o_1, so_1_) := h
    first | rw [law06_Do.l1] at h | unfold law06_Do.l1 at h
    refine S.seq ?_
    refine S.seq ?_
    refine S.region ?_
    refine SO.v rfl (opv_move rfl) ?_
    refine SO.v rfl (opv_move rfl) ?_
    refine SO.v rfl (opv_lenR rfl Try.underlying49 hF1 rfl) ?_
    refine SO.v rfl (opv_lss rfl rfl) ?_
    refine SO.nil ?_
    rcases bool_or (decide (x6_1 < (a1.length : Int))) with b1 | b1
    · replace h := VM.cond_t V.toVI b1 h
      refine S.condT rfl b1 ?_
      refine S.skip ?_
      refine S.seq ?_
      refine S.block ?_
      refine S.seq ?_
      obtain ⟨x2, hx3, h⟩ := VM.opt_some V.toVI h
      obtain ⟨t4, s5, hv6, h⟩ := VM.rd_some V.toVI h
      refine S.draw2 (Y := fun Q => ∃ (_ _ _ _ _ _ : Unit), Q [(0, V.val), (1, v1), (6, .int .i64 x6_1), (5, .int .u64 x5_1), (4, .int .u64 0)] [V.rep sx_1, F]) (Z := fun Q => ∀ (_ _ _ _ _ _ _ : Unit), Q [(6, .int .i64 x6_1), (5, .int .u64 x5_1), (4, .int .u64 0), (0, V.val), (1, v1), (7, .int .u64 t4)] [V.rep s5, F]) (T := [tS 0 (V.val), tS 1 (v1), tS 6 (.int .i64 x6_1), tE [(5, .int .u64 x5_1), (4, .int .u64 0)], tR (V.rep sx_1), tR (F), tS 14 (V.val), tS 15 (v1), tS 16 (.int .i64 x6_1), tS 17 (idxp v1 (x6_1.toNat * ek_law06_Op.sz)), tS 18 (idxp v1 (x6_1.toNat * ek_law06_Op.sz + 2)), tS 19 (.int .i64 x2.From), tS 20 (.func (.method "Read") #[V.val] #[]), tS 21 (.func (.method "Read") #[V.val] #[]), tS 22 (V.val), tR (V.rep s5), tS 23 (.int .u64 t4), tS 7 (.int .u64 t4)]) (D := [⟨[0], [], [6]⟩, ⟨[1], [], [7]⟩, ⟨[2], [], [8]⟩, ⟨[7, 8, 5], [], [9]⟩, ⟨[9, 5], [], [10]⟩, ⟨[10, 5], [], [11]⟩, ⟨[6], [], [12]⟩, ⟨[12], [], [13]⟩, ⟨[6], [], [14]⟩, ⟨[11, 14], [4], [15, 16]⟩, ⟨[16], [], [17]⟩]) (ini := [0, 1, 2, 3, 4, 5]) (fin := [2, 3, 0, 1, 17, 15, 5]) (bf := [[], [], [], [1, 2], [1, 2, 3], [1, 2, 3, 4], [0], [0, 6], [0, 6, 7], [0, 1, 2, 3, 4, 5, 6, 7, 8], [0, 1, 2, 3, 4, 5, 6, 7, 8, 9]]) (by kernel_rfl) (by kernel_rfl) (fun Q => by kernel_rfl) (fun x w h1 h2 => ⟨(), (), (), (), (), (), EnvAll.of h1 ⟨rfl, rfl, rfl, rfl, rfl, trivial⟩, h2⟩) (fun Q => by kernel_rfl) ⟨?_, ?_, ?_, ?_, ?_, ?_, ?_, ?_, ?_, ?_, ?_, trivial⟩ ?_
      · rintro Fr _
        refine SO.v rfl (opv_move rfl) ?_
        exact SO.nilZ fun a w h1 h2 h3 h4 h5 => PZ.of h1 h3 h5 (.cons () (.cons () (.nil ⟨EnvAll.of h2 ⟨rfl, rfl, trivial⟩, h4⟩)))
      · rintro Fr _
        refine SO.v rfl (opv_move rfl) ?_
        exact SO.nilZ fun a w h1 h2 h3 h4 h5 => PZ.of h1 h3 h5 (.cons () (.cons () (.nil ⟨EnvAll.of h2 ⟨rfl, rfl, trivial⟩, h4⟩)))
      · rintro Fr _
        refine SO.v rfl (opv_move rfl) ?_
        exact SO.nilZ fun a w h1 h2 h3 h4 h5 => PZ.of h1 h3 h5 (.cons () (.cons () (.nil ⟨EnvAll.of h2 ⟨rfl, rfl, trivial⟩, h4⟩)))
      · rintro Fr _ _ _
        refine SO.v rfl (opv_idx Try.underlying49 Try.sizeOf90 hF1 rfl rfl hx3) ?_
        exact SO.nilZ fun a w h1 h2 h3 h4 h5 => PZ.of h1 h3 h5 (.cons () (.cons () (.cons () (.cons () (.nil ⟨EnvAll.of h2 ⟨rfl, rfl, rfl, trivial⟩, h4⟩)))))
      · rintro Fr _ _
        refine SO.v rfl (opv_fieldIdx Try.underlying90 rfl Try.sizeOf3 hF1 hx3 rfl rfl) ?_
        exact SO.nilZ fun a w h1 h2 h3 h4 h5 => PZ.of h1 h3 h5 (.cons () (.cons () (.cons () (.nil ⟨EnvAll.of h2 ⟨rfl, rfl, trivial⟩, h4⟩))))
      · rintro Fr _ _
        refine SO.loadI1 (j := 2) rfl Try.isAgg3 (Rd.head hF1) hx3 rfl rfl rfl rfl ?_
        exact SO.nilZ fun a w h1 h2 h3 h4 h5 => PZ.of h1 h3 h5 (.cons () (.cons () (.cons () (.nil ⟨EnvAll.of h2 ⟨rfl, rfl, trivial⟩, h4⟩))))
      · rintro Fr _
        refine SO.v rfl (opv_makeFunc (fn := .method "Read") rfl rfl) ?_
        exact SO.nilZ fun a w h1 h2 h3 h4 h5 => PZ.of h1 h3 h5 (.cons () (.cons () (.nil ⟨EnvAll.of h2 ⟨rfl, rfl, trivial⟩, h4⟩)))
      · rintro Fr _
        refine SO.v rfl (opv_nilCheckR V rfl) ?_
        exact SO.nilZ fun a w h1 h2 h3 h4 h5 => PZ.of h1 h3 h5 (.cons () (.cons () (.nil ⟨EnvAll.of h2 ⟨rfl, rfl, trivial⟩, h4⟩)))
      · rintro Fr _
        refine SO.v rfl (opv_move rfl) ?_
        exact SO.nilZ fun a w h1 h2 h3 h4 h5 => PZ.of h1 h3 h5 (.cons () (.cons () (.nil ⟨EnvAll.of h2 ⟨rfl, rfl, trivial⟩, h4⟩)))
      · rintro Fr _ _ _
        refine SO.vread' V rfl rfl rfl hv6 ?_
        exact SO.nilZ fun a w h1 h2 h3 h4 h5 => PZ.of h1 h3 h5 (.cons () (.cons () (.cons () (.cons () (.nil ⟨EnvAll.of h2 ⟨rfl, rfl, rfl, trivial⟩, h4⟩)))))
      · rintro Fr _
        refine SO.v rfl (opv_assign rfl) ?_
        exact SO.nilZ fun a w h1 h2 h3 h4 h5 => PZ.of h1 h3 h5 (.cons () (.cons () (.nil ⟨EnvAll.of h2 ⟨rfl, rfl, trivial⟩, h4⟩)))
      rintro _ _ _ _ _ _ _
      refine S.to (ρ' := [(6, .int .i64 x6_1), (5, .int .u64 x5_1), (4, .int .u64 0), (0, V.val), (1, v1), (7, .int .u64 t4)]) ⟨rfl, rfl, rfl, rfl, rfl, rfl, trivial⟩ ?_
      refine S.seq ?_
      refine S.region ?_
      refine SO.v rfl (opv_move rfl) ?_
      refine SO.v rfl (opv_mul rfl rfl) ?_
      refine SO.v rfl (opv_move rfl) ?_
      refine SO.v rfl (opv_add rfl rfl) ?_
      refine SO.v rfl (opv_assign rfl) ?_
      refine SO.nil ?_
      refine S.seq ?_
      refine S.seq ?_
      refine S.region ?_
      refine SO.v rfl (opv_move rfl) ?_
      refine SO.v rfl (opv_move rfl) ?_
      obtain ⟨x7, hx8, h⟩ := VM.opt_some V.toVI h
      refine SO.v rfl (opv_idx Try.underlying49 Try.sizeOf90 hF1 rfl rfl hx8) ?_
      refine SO.v rfl (opv_fieldIdx Try.underlying90 rfl Try.sizeOf4 hF1 hx8 rfl rfl) ?_
      refine SO.loadI1 (j := 1) rfl Try.isAgg4 (Rd.tail (Rd.head hF1)) hx8 rfl rfl rfl rfl ?_
      refine SO.v rfl (opv_move rfl) ?_
      refine SO.cut 4 37 (.bool (x7.Jump && ((t4.tmod 2) == 1))) [V.rep s5, F] (fun l2 hk2 => ?_) ?_
      · rcases bool_or x7.Jump with b9 | b9
        · refine SO.takeT rfl rfl rfl b9 ?_
          refine SO.v rfl (opv_move rfl) ?_
          refine SO.takeT rfl rfl rfl b9 ?_
          refine SO.v rfl (opv_rem rfl rfl (by decide)) ?_
          refine SO.takeT rfl rfl rfl b9 ?_
          refine SO.v rfl (opv_eql rfl rfl) ?_
          refine SO.v rfl (opv_pick_t' b9 rfl rfl) ?_
          refine SO.b1 ?_
          refine SO.b1 ?_
          exact hk2.fitc (m := 4) rfl (and_t b9) rfl
        refine SO.passF rfl rfl rfl b9 rfl rfl ?_
        refine SO.passF rfl rfl rfl b9 rfl rfl ?_
        refine SO.passF rfl rfl rfl b9 rfl rfl ?_
        refine SO.v rfl (opv_pick_f' b9 rfl rfl) ?_
        refine SO.b1 ?_
        refine SO.b1 ?_
        exact hk2.fitc (m := 4) rfl (and_f b9) rfl
      refine SO.nil ?_
      refine S.to (ρ' := [(6, .int .i64 x6_1), (5, .int .u64 (wu64 ((wu64 (x5_1 * 3)) + t4))), (4, .int .u64 0), (0, V.val), (1, v1), (7, .int .u64 t4), (37, .bool (x7.Jump && ((t4.tmod 2) == 1)))]) ⟨rfl, rfl, rfl, rfl, rfl, rfl, rfl, trivial⟩ ?_
      rcases bool_or (x7.Jump && ((t4.tmod 2) == 1)) with b10 | b10
      · replace h := VM.cond_t V.toVI b10 h
        refine S.condT rfl b10 ?_
        refine S.seq ?_
        refine S.region ?_
        refine SO.v rfl (opv_move rfl) ?_
        refine SO.v rfl (opv_move rfl) ?_
        refine SO.v rfl (opv_move rfl) ?_
        obtain ⟨x11, hx12, h⟩ := VM.opt_some V.toVI h
        refine SO.v rfl (opv_idx Try.underlying49 Try.sizeOf90 hF1 rfl rfl hx12) ?_
        refine SO.v rfl (opv_fieldIdx Try.underlying90 rfl Try.sizeOf35 hF1 hx12 rfl rfl) ?_
        refine SO.loadI1 (j := 4) rfl Try.isAgg35 (Rd.tail (Rd.head hF1)) hx12 rfl rfl rfl rfl ?_
        refine SO.v rfl (opv_rem rfl rfl (by decide)) ?_
        refine SO.v rfl (opv_conv Try.underlying35 Try.underlying3 rfl) ?_
        refine SO.v rfl (opv_add rfl rfl) ?_
        refine SO.v rfl (opv_assign rfl) ?_
        refine SO.nil ?_
        refine S.to (ρ' := [(6, .int .i64 (w64 (x6_1 + (w64 (x11.N.tmod 4))))), (5, .int .u64 (wu64 ((wu64 (x5_1 * 3)) + t4))), (4, .int .u64 0), (0, V.val), (1, v1)]) ⟨rfl, rfl, rfl, rfl, rfl, trivial⟩ ?_
        refine S.exit rfl ?_
        refine S.region ?_
        refine SO.v rfl (opv_move rfl) ?_
        refine SO.v rfl (opv_add rfl rfl) ?_
        refine SO.v rfl (opv_assign rfl) ?_
        refine SO.nil ?_
        refine S.b1 ?_
        refine S.b1 ?_
        refine S.to ?_ (ih1 (((w64 ((w64 (x6_1 + (w64 (x11.N.tmod 4)))) + 1), wu64 ((wu64 (x5_1 * 3)) + t4)), s5), ()) h)
        exact ⟨rfl, rfl, rfl, rfl, rfl, trivial⟩
      replace h := VM.cond_f V.toVI b10 h
      refine S.condF rfl b10 ?_
      refine S.skip ?_
      refine S.seq ?_
      refine S.region ?_
      refine SO.v rfl (opv_move rfl) ?_
      refine SO.v rfl (opv_move rfl) ?_
      obtain ⟨x13, hx14, h⟩ := VM.opt_some V.toVI h
      refine SO.v rfl (opv_idx Try.underlying49 Try.sizeOf90 hF1 rfl rfl hx14) ?_
      refine SO.v rfl (opv_fieldIdx Try.underlying90 rfl Try.sizeOf4 hF1 hx14 rfl rfl) ?_
      refine SO.loadI1 (j := 0) rfl Try.isAgg4 (Rd.tail (Rd.head hF1)) hx14 rfl rfl rfl rfl ?_
      refine SO.v rfl (opv_not rfl) ?_
      refine SO.nil ?_
      rcases bool_or (!x13.Look) with b15 | b15
      · replace h := VM.cond_t V.toVI b15 h
        refine S.condT rfl b15 ?_
        obtain ⟨x16, hx17, h⟩ := VM.opt_some V.toVI h
        obtain ⟨x18, hx19, h⟩ := VM.opt_some V.toVI h
        obtain ⟨s20, hv21, h⟩ := VM.wr_some V.toVI h
        refine S.draw2 (Y := fun Q => ∃ (_ _ _ _ _ _ _ : Unit), Q [(0, V.val), (1, v1), (6, .int .i64 x6_1), (7, .int .u64 t4), (5, .int .u64 (wu64 ((wu64 (x5_1 * 3)) + t4))), (4, .int .u64 0)] [V.rep s5, F]) (Z := fun Q => ∀ (_ _ _ _ _ _ : Unit), Q [(6, .int .i64 x6_1), (5, .int .u64 (wu64 ((wu64 (x5_1 * 3)) + t4))), (4, .int .u64 0), (0, V.val), (1, v1)] [V.rep s20, F]) (T := [tS 0 (V.val), tS 1 (v1), tS 6 (.int .i64 x6_1), tS 7 (.int .u64 t4), tE [(5, .int .u64 (wu64 ((wu64 (x5_1 * 3)) + t4))), (4, .int .u64 0)], tR (V.rep s5), tR (F), tS 53 (V.val), tS 54 (v1), tS 55 (.int .i64 x6_1), tS 56 (idxp v1 (x6_1.toNat * ek_law06_Op.sz)), tS 57 (idxp v1 (x6_1.toNat * ek_law06_Op.sz + 3)), tS 58 (.int .i64 x16.To), tS 59 (.int .u64 t4), tS 60 (v1), tS 61 (.int .i64 x6_1), tS 62 (idxp v1 (x6_1.toNat * ek_law06_Op.sz)), tS 63 (idxp v1 (x6_1.toNat * ek_law06_Op.sz + 4)), tS 64 (.int .u64 x18.N), tS 65 (.int .u64 (wu64 (t4 + x18.N))), tS 66 (.func (.method "Write") #[V.val] #[]), tS 67 (.func (.method "Write") #[V.val] #[]), tS 68 (V.val), tR (V.rep s20), tS 69 (.tuple #[])]) (D := [⟨[0], [], [7]⟩, ⟨[1], [], [8]⟩, ⟨[2], [], [9]⟩, ⟨[8, 9, 6], [], [10]⟩, ⟨[10, 6], [], [11]⟩, ⟨[11, 6], [], [12]⟩, ⟨[3], [], [13]⟩, ⟨[1], [], [14]⟩, ⟨[2], [], [15]⟩, ⟨[14, 15, 6], [], [16]⟩, ⟨[16, 6], [], [17]⟩, ⟨[17, 6], [], [18]⟩, ⟨[13, 18], [], [19]⟩, ⟨[7], [], [20]⟩, ⟨[20], [], [21]⟩, ⟨[7], [], [22]⟩, ⟨[12, 19, 22], [5], [23, 24]⟩]) (ini := [0, 1, 2, 3, 4, 5, 6]) (fin := [2, 4, 0, 1, 23, 6]) (bf := [[], [], [], [1, 2], [1, 2, 3], [1, 2, 3, 4], [], [], [], [7, 8], [7, 8, 9], [7, 8, 9, 10], [6, 7, 8, 9, 10, 11], [0], [0, 13], [0, 13, 14], [0, 1, 2, 3, 4, 5, 6, 7, 8, 9, 10, 11, 12, 13, 14, 15]]) (by kernel_rfl) (by kernel_rfl) (fun Q => by kernel_rfl) (fun x w h1 h2 => ⟨(), (), (), (), (), (), (), EnvAll.of h1 ⟨rfl, rfl, rfl, rfl, rfl, rfl, trivial⟩, h2⟩) (fun Q => by kernel_rfl) ⟨?_, ?_, ?_, ?_, ?_, ?_, ?_, ?_, ?_, ?_, ?_, ?_, ?_, ?_, ?_, ?_, ?_, trivial⟩ ?_
        · rintro Fr _
          refine SO.v rfl (opv_move rfl) ?_
          exact SO.nilZ fun a w h1 h2 h3 h4 h5 => PZ.of h1 h3 h5 (.cons () (.cons () (.nil ⟨EnvAll.of h2 ⟨rfl, rfl, trivial⟩, h4⟩)))
        · rintro Fr _
          refine SO.v rfl (opv_move rfl) ?_
          exact SO.nilZ fun a w h1 h2 h3 h4 h5 => PZ.of h1 h3 h5 (.cons () (.cons () (.nil ⟨EnvAll.of h2 ⟨rfl, rfl, trivial⟩, h4⟩)))
        · rintro Fr _
          refine SO.v rfl (opv_move rfl) ?_
          exact SO.nilZ fun a w h1 h2 h3 h4 h5 => PZ.of h1 h3 h5 (.cons () (.cons () (.nil ⟨EnvAll.of h2 ⟨rfl, rfl, trivial⟩, h4⟩)))
        · rintro Fr _ _ _
          refine SO.v rfl (opv_idx Try.underlying49 Try.sizeOf90 hF1 rfl rfl hx17) ?_
          exact SO.nilZ fun a w h1 h2 h3 h4 h5 => PZ.of h1 h3 h5 (.cons () (.cons () (.cons () (.cons () (.nil ⟨EnvAll.of h2 ⟨rfl, rfl, rfl, trivial⟩, h4⟩)))))
        · rintro Fr _ _
          refine SO.v rfl (opv_fieldIdx Try.underlying90 rfl Try.sizeOf3 hF1 hx17 rfl rfl) ?_
          exact SO.nilZ fun a w h1 h2 h3 h4 h5 => PZ.of h1 h3 h5 (.cons () (.cons () (.cons () (.nil ⟨EnvAll.of h2 ⟨rfl, rfl, trivial⟩, h4⟩))))
        · rintro Fr _ _
          refine SO.loadI1 (j := 3) rfl Try.isAgg3 (Rd.head hF1) hx17 rfl rfl rfl rfl ?_
          exact SO.nilZ fun a w h1 h2 h3 h4 h5 => PZ.of h1 h3 h5 (.cons () (.cons () (.cons () (.nil ⟨EnvAll.of h2 ⟨rfl, rfl, trivial⟩, h4⟩))))
        · rintro Fr _
          refine SO.v rfl (opv_move rfl) ?_
          exact SO.nilZ fun a w h1 h2 h3 h4 h5 => PZ.of h1 h3 h5 (.cons () (.cons () (.nil ⟨EnvAll.of h2 ⟨rfl, rfl, trivial⟩, h4⟩)))
        · rintro Fr _
          refine SO.v rfl (opv_move rfl) ?_
          exact SO.nilZ fun a w h1 h2 h3 h4 h5 => PZ.of h1 h3 h5 (.cons () (.cons () (.nil ⟨EnvAll.of h2 ⟨rfl, rfl, trivial⟩, h4⟩)))
        · rintro Fr _
          refine SO.v rfl (opv_move rfl) ?_
          exact SO.nilZ fun a w h1 h2 h3 h4 h5 => PZ.of h1 h3 h5 (.cons () (.cons () (.nil ⟨EnvAll.of h2 ⟨rfl, rfl, trivial⟩, h4⟩)))
        · rintro Fr _ _ _
          refine SO.v rfl (opv_idx Try.underlying49 Try.sizeOf90 hF1 rfl rfl hx19) ?_
          exact SO.nilZ fun a w h1 h2 h3 h4 h5 => PZ.of h1 h3 h5 (.cons () (.cons () (.cons () (.cons () (.nil ⟨EnvAll.of h2 ⟨rfl, rfl, rfl, trivial⟩, h4⟩)))))
        · rintro Fr _ _
          refine SO.v rfl (opv_fieldIdx Try.underlying90 rfl Try.sizeOf35 hF1 hx19 rfl rfl) ?_
          exact SO.nilZ fun a w h1 h2 h3 h4 h5 => PZ.of h1 h3 h5 (.cons () (.cons () (.cons () (.nil ⟨EnvAll.of h2 ⟨rfl, rfl, trivial⟩, h4⟩))))
        · rintro Fr _ _
          refine SO.loadI1 (j := 4) rfl Try.isAgg35 (Rd.head hF1) hx19 rfl rfl rfl rfl ?_
          exact SO.nilZ fun a w h1 h2 h3 h4 h5 => PZ.of h1 h3 h5 (.cons () (.cons () (.cons () (.nil ⟨EnvAll.of h2 ⟨rfl, rfl, trivial⟩, h4⟩))))
        · rintro Fr _ _
          refine SO.v rfl (opv_add rfl rfl) ?_
          exact SO.nilZ fun a w h1 h2 h3 h4 h5 => PZ.of h1 h3 h5 (.cons () (.cons () (.cons () (.nil ⟨EnvAll.of h2 ⟨rfl, rfl, rfl, trivial⟩, h4⟩))))
        · rintro Fr _
          refine SO.v rfl (opv_makeFunc (fn := .method "Write") rfl rfl) ?_
          exact SO.nilZ fun a w h1 h2 h3 h4 h5 => PZ.of h1 h3 h5 (.cons () (.cons () (.nil ⟨EnvAll.of h2 ⟨rfl, rfl, trivial⟩, h4⟩)))
        · rintro Fr _
          refine SO.v rfl (opv_nilCheckW V rfl) ?_
          exact SO.nilZ fun a w h1 h2 h3 h4 h5 => PZ.of h1 h3 h5 (.cons () (.cons () (.nil ⟨EnvAll.of h2 ⟨rfl, rfl, trivial⟩, h4⟩)))
        · rintro Fr _
          refine SO.v rfl (opv_move rfl) ?_
          exact SO.nilZ fun a w h1 h2 h3 h4 h5 => PZ.of h1 h3 h5 (.cons () (.cons () (.nil ⟨EnvAll.of h2 ⟨rfl, rfl, trivial⟩, h4⟩)))
        · rintro Fr _ _ _ _
          refine SO.vwrite' V rfl rfl rfl rfl hv21 ?_
          exact SO.nilZ fun a w h1 h2 h3 h4 h5 => PZ.of2 (Y := fun Q => ∃ (_ _ _ _ _ : Unit), Q [(58, .int .i64 x16.To), (65, .int .u64 (wu64 (t4 + x18.N))), (68, V.val), (69, .tuple #[])] [V.rep s20]) (fun Q => by kernel_rfl) h1 h3 h5 ⟨(), (), (), (), (), EnvAll.of h2 ⟨rfl, rfl, rfl, rfl, trivial⟩, h4⟩
        rintro _ _ _ _ _ _
        refine S.to (ρ' := [(6, .int .i64 x6_1), (5, .int .u64 (wu64 ((wu64 (x5_1 * 3)) + t4))), (4, .int .u64 0), (0, V.val), (1, v1)]) ⟨rfl, rfl, rfl, rfl, rfl, trivial⟩ ?_
        refine S.inBlock ?_
        refine S.region ?_
        refine SO.v rfl (opv_move rfl) ?_
        refine SO.v rfl (opv_add rfl rfl) ?_
        refine SO.v rfl (opv_assign rfl) ?_
        refine SO.nil ?_
        refine S.b1 ?_
        refine S.b1 ?_
        refine S.to ?_ (ih1 (((w64 (x6_1 + 1), wu64 ((wu64 (x5_1 * 3)) + t4)), s20), ()) h)
        exact ⟨rfl, rfl, rfl, rfl, rfl, trivial⟩
      replace h := VM.cond_f V.toVI b15 h
      refine S.condF rfl b15 ?_
      refine S.skip ?_
      refine S.inBlock ?_
      refine S.region ?_
      refine SO.v rfl (opv_move rfl) ?_
      refine SO.v rfl (opv_add rfl rfl) ?_
      refine SO.v rfl (opv_assign rfl) ?_
      refine SO.nil ?_
      refine S.to (ρ' := [(6, .int .i64 (w64 (x6_1 + 1))), (5, .int .u64 (wu64 ((wu64 (x5_1 * 3)) + t4))), (4, .int .u64 0), (0, V.val), (1, v1)]) ⟨rfl, rfl, rfl, rfl, rfl, trivial⟩ ?_
      refine S.b1 ?_
      refine S.b1 ?_
      refine S.to ?_ (ih1 (((w64 (x6_1 + 1), wu64 ((wu64 (x5_1 * 3)) + t4)), s5), ()) h)
      exact ⟨rfl, rfl, rfl, rfl, rfl, trivial⟩
    replace h := VM.cond_f V.toVI b1 h
    refine S.condF rfl b1 ?_
    refine S.exit rfl ?_
    obtain ⟨hq, rfl⟩ := VM.ret_some V.toVI h
    cases hq
    refine S.b1 ?_
    refine S.b1 ?_
    refine S.to ?_ (hK1 ())
    exact ⟨rfl, rfl, trivial⟩
  rintro _
  refine S.seq ?_
  refine S.region ?_
  refine SO.v rfl (opv_move rfl) ?_
  refine SO.v rfl (opv_assign rfl) ?_
  refine SO.nil ?_
  obtain ⟨hq, rfl⟩ := VM.ret_some V.toVI h
  cases hq
  refine S.b1 ?_
  refine S.b1 ?_
  exact S.ret1 Try.func17 rfl rfl (fun w hs hk => hR w _ _ ⟨rfl, rfl⟩ hs hk)
end Go.Proofs
namespace Go.Proofs
open Go.Sl Go.RowKit
/-! 16 padstone/padstonelaw06.TxLearns$1 -/
def law06_TxLearns_1.f (k : Nat) (a1 : List law06_Op) (a2 : Int) : VM (Int) :=
  (law06_Do.f k a1).bind fun t1 => VM.ret t1
set_option maxHeartbeats 8000000 in
set_option maxRecDepth 100000 in
theorem law06_TxLearns_1.ct (V : VW Try.prog) (k : Nat) (bp1 : Nat) (v1 : Value) (bp2 : Nat) (a1 : List law06_Op) (a2 : Int) (rp2 : Int) (s s' : V.S) (h : VM.run V.toVI (law06_TxLearns_1.f k a1 a2) s = some (rp2, s')) :
    Ct Try.prog 16 [V.val, bp bp1 0, bp bp2 0] (fun F => Rd ek_law06_Op v1 a1 F) [Box bp1 [v1], Box bp2 [.int .u64 a2], V.rep s] (fun u H' => u = .tuple #[] ∧ H' = [Box bp1 [v1], Box bp2 [.int .u64 rp2], V.rep s']) := by
  unfold law06_TxLearns_1.f at h
  refine Ct.intro (n := 7) Try.func16 rfl rfl rfl ?_
  intro R w0 F hF hR
  have hF1 := hF
  refine S.region ?_
  refine SO.v rfl (opv_move rfl) ?_
  refine SO.load1 rfl Try.isAgg49 rfl rfl ?_
  obtain ⟨t1, s3, ht2, h⟩ := VM.bind_some V.toVI h
  refine SO.b2 ?_
  refine SO.call (pre := [V.rep _]) rfl Try.call17 rfl rfl rfl (law06_Do.ct V _ v1 _ _ _ _ ht2) (Rd.tail (Rd.tail (Rd.head hF1))) ?_
  rintro _ _ ⟨rfl, rfl⟩
  refine SO.b2 ?_
  refine SO.store1 Try.sizeOf35 rfl rfl rfl rfl ?_
  refine SO.nil ?_
  obtain ⟨hq, rfl⟩ := VM.ret_some V.toVI h
  cases hq
  refine S.b3 ?_
  refine S.b2 ?_
  refine S.b2 ?_
  refine S.b3 ?_
  exact S.fin0 Try.func16 rfl (fun w hs hk => hR w _ _ ⟨rfl, rfl⟩ hs hk)
end Go.Proofs
namespace Go.Proofs
open Go.Sl Go.RowKit
/-! 25 padstone/padstonelaw06.up$1 -/
def law06_up_1.f : VM (Unit) :=
  VM.rd 3 fun t1 => VM.ret ()
set_option maxHeartbeats 8000000 in
set_option maxRecDepth 100000 in
theorem law06_up_1.ct (V : VW Try.prog) (s s' : V.S) (h : VM.run V.toVI (law06_up_1.f ) s = some ((), s')) :
    Ct Try.prog 25 [V.val] (fun _ => True) [V.rep s] (fun u H' => u = .tuple #[] ∧ H' = [V.rep s']) := by
  unfold law06_up_1.f at h
  refine Ct.intro (n := 4) Try.func25 rfl rfl rfl ?_
  intro R w0 F hF hR
  refine S.region ?_
  refine SO.v rfl (opv_move rfl) ?_
  obtain ⟨t1, s2, hv3, h⟩ := VM.rd_some V.toVI h
  refine SO.vread' V rfl rfl rfl hv3 ?_
  refine SO.nil ?_
  obtain ⟨hq, rfl⟩ := VM.ret_some V.toVI h
  cases hq
  refine S.b1 ?_
  refine S.b1 ?_
  exact S.fin0 Try.func25 rfl (fun w hs hk => hR w _ _ ⟨rfl, rfl⟩ hs hk)
end Go.Proofs
namespace Go.Proofs
open Go.Sl Go.RowKit
/-! 26 padstone/padstonelaw06.up$2 -/
def law06_up_2.f : VM (Unit) :=
  VM.rd 3 fun t1 => VM.wr 3 (wu64 (t1 + 1)) (VM.ret ())
set_option maxHeartbeats 8000000 in
set_option maxRecDepth 100000 in
theorem law06_up_2.ct (V : VW Try.prog) (s s' : V.S) (h : VM.run V.toVI (law06_up_2.f ) s = some ((), s')) :
    Ct Try.prog 26 [V.val] (fun _ => True) [V.rep s] (fun u H' => u = .tuple #[] ∧ H' = [V.rep s']) := by
  unfold law06_up_2.f at h
  refine Ct.intro (n := 10) Try.func26 rfl rfl rfl ?_
  intro R w0 F hF hR
  obtain ⟨t1, s2, hv3, h⟩ := VM.rd_some V.toVI h
  obtain ⟨s4, hv5, h⟩ := VM.wr_some V.toVI h
  refine S.draw2 (Y := fun Q => ∃ (_ _ _ : Unit), Q [(0, V.val)] [V.rep s, F]) (Z := fun Q => ∀ (_ _ : Unit), Q [] [V.rep s4, F]) (T := [tS 0 (V.val), tR (V.rep s), tR (F), tS 2 (V.val), tS 3 (V.val), tR (V.rep s2), tS 4 (.int .u64 t1), tS 5 (.int .u64 (wu64 (t1 + 1))), tS 6 (.func (.method "Write") #[V.val] #[]), tS 7 (.func (.method "Write") #[V.val] #[]), tS 8 (V.val), tR (V.rep s4), tS 9 (.tuple #[])]) (D := [⟨[0], [], [3]⟩, ⟨[0], [], [4]⟩, ⟨[4], [1], [5, 6]⟩, ⟨[6], [], [7]⟩, ⟨[3], [], [8]⟩, ⟨[8], [], [9]⟩, ⟨[3], [], [10]⟩, ⟨[7, 10], [5], [11, 12]⟩]) (ini := [0, 1, 2]) (fin := [11, 2]) (bf := [[], [], [1], [1, 2], [0], [0, 4], [0, 4, 5], [0, 1, 2, 3, 4, 5, 6]]) (by kernel_rfl) (by kernel_rfl) (fun Q => by kernel_rfl) (fun x w h1 h2 => ⟨(), (), (), EnvAll.of h1 ⟨rfl, trivial⟩, h2⟩) (fun Q => by kernel_rfl) ⟨?_, ?_, ?_, ?_, ?_, ?_, ?_, ?_, trivial⟩ ?_
  · rintro Fr _
    refine SO.v rfl (opv_move rfl) ?_
    exact SO.nilZ fun a w h1 h2 h3 h4 h5 => PZ.of h1 h3 h5 (.cons () (.cons () (.nil ⟨EnvAll.of h2 ⟨rfl, rfl, trivial⟩, h4⟩)))
  · rintro Fr _
    refine SO.v rfl (opv_move rfl) ?_
    exact SO.nilZ fun a w h1 h2 h3 h4 h5 => PZ.of h1 h3 h5 (.cons () (.cons () (.nil ⟨EnvAll.of h2 ⟨rfl, rfl, trivial⟩, h4⟩)))
  · rintro Fr _ _
    refine SO.vread' V rfl rfl rfl hv3 ?_
    exact SO.nilZ fun a w h1 h2 h3 h4 h5 => PZ.of h1 h3 h5 (.cons () (.cons () (.cons () (.nil ⟨EnvAll.of h2 ⟨rfl, rfl, trivial⟩, h4⟩))))
  · rintro Fr _
    refine SO.v rfl (opv_add rfl rfl) ?_
    exact SO.nilZ fun a w h1 h2 h3 h4 h5 => PZ.of h1 h3 h5 (.cons () (.cons () (.nil ⟨EnvAll.of h2 ⟨rfl, rfl, trivial⟩, h4⟩)))
  · rintro Fr _
    refine SO.v rfl (opv_makeFunc (fn := .method "Write") rfl rfl) ?_
    exact SO.nilZ fun a w h1 h2 h3 h4 h5 => PZ.of h1 h3 h5 (.cons () (.cons () (.nil ⟨EnvAll.of h2 ⟨rfl, rfl, trivial⟩, h4⟩)))
  · rintro Fr _
    refine SO.v rfl (opv_nilCheckW V rfl) ?_
    exact SO.nilZ fun a w h1 h2 h3 h4 h5 => PZ.of h1 h3 h5 (.cons () (.cons () (.nil ⟨EnvAll.of h2 ⟨rfl, rfl, trivial⟩, h4⟩)))
  · rintro Fr _
    refine SO.v rfl (opv_move rfl) ?_
    exact SO.nilZ fun a w h1 h2 h3 h4 h5 => PZ.of h1 h3 h5 (.cons () (.cons () (.nil ⟨EnvAll.of h2 ⟨rfl, rfl, trivial⟩, h4⟩)))
  · rintro Fr _ _ _
    refine SO.vwrite' V rfl rfl rfl rfl hv5 ?_
    exact SO.nilZ fun a w h1 h2 h3 h4 h5 => PZ.of h1 h3 h5 (.cons () (.cons () (.cons () (.cons () (.nil ⟨EnvAll.of h2 ⟨rfl, rfl, rfl, trivial⟩, h4⟩)))))
  rintro _ _
  refine S.to (ρ' := []) trivial ?_
  obtain ⟨hq, rfl⟩ := VM.ret_some V.toVI h
  cases hq
  refine S.b1 ?_
  refine S.b1 ?_
  exact S.fin0 Try.func26 rfl (fun w hs hk => hR w _ _ ⟨rfl, rfl⟩ hs hk)
end Go.Proofs
namespace Go.Proofs
open Go.Sl Go.RowKit
/-! 9 padstone/tx.New -/
def tx_New.f (a0 : Int) : Option (tx_Tx) :=
  some (⟨a0, (some [] : Option (List (Int × api_Cell))), none, 0, false⟩ : tx_Tx)
set_option maxHeartbeats 8000000 in
set_option maxRecDepth 100000 in
theorem tx_New.ct (a0 : Int) (r0 : tx_Tx) (h : tx_New.f a0 = some r0) :
    Ct Try.prog 9 [.int .i64 a0] (fun _ => True) [] (fun u H' => ∃ b_r0 w_r0_l w_r0_out, u = bp b_r0 0 ∧ H' = [Box b_r0 [.int .i64 r0.cells, w_r0_l, w_r0_out, .int .i64 r0.lack, .bool r0.fine], MapO (aggE ek_api_Cell) w_r0_l r0.l, MapO (Value.int .u64) w_r0_out r0.out]) := by
  unfold tx_New.f at h
  refine Ct.intro (n := 7) Try.func9 rfl rfl rfl ?_
  intro R w0 F hF hR
  refine S.seq ?_
  refine S.region ?_
  refine SO.v rfl (opv_assign rfl) ?_
  refine SO.nil ?_
  refine S.seq ?_
  refine S.region ?_
  refine SO.v rfl (opv_move rfl) ?_
  refine SO.makeMapO (aggE ek_api_Cell) rfl (fun v1 => ?_)
  refine SO.oneM fun h12 => ?_
  have hB_ : ∀ (w : World) (u0_ : Value), u0_.oneCell' = true → (Instr.build 76 #[(0, .int .i64 a0), (1, u0_)]).run Try.prog w = .ok (.agg #[.int .i64 a0, u0_, .map none, .int .i64 0, .bool false]) w := (by intro w u0_ hu0_; cases u0_ <;> first | (simp [Value.oneCell'] at hu0_; done) | kernel_rfl)
  refine SO.v rfl (opv_build (v := .agg #[.int .i64 a0, v1, .map none, .int .i64 0, .bool false]) rfl (fun w => hB_ w v1 h12)) ?_
  clear hB_
  refine SO.box rfl rfl rfl (fun b3 => ?_)
  refine SO.v rfl (opv_assign rfl) ?_
  refine SO.nil ?_
  cases h
  refine S.newMapO (Value.int .u64) ?_
  refine S.b3 ?_
  refine S.b1 ?_
  refine S.b3 ?_
  refine S.b3 ?_
  exact S.ret1 Try.func9 rfl rfl (fun w hs hk => hR w _ _ ⟨b3, v1, (.map none), rfl, rfl⟩ hs hk)
end Go.Proofs
namespace Go.Proofs
open Go.Sl Go.RowKit
/-! 10 (*padstone/tx.Tx).Learn -/
def tx_Tx_Learn.f (a0 : tx_Tx) (a1 : Int) (a2 : api_Cell) : Option (tx_Tx) :=
  (bif decide (0 ≤ a1) then (some (decide (a1 < a0.cells))) else (some false)).bind fun c3 => bif c3 then ((mputO a0.l a1 a2).bind fun zs6 => some ({ a0 with l := zs6 } : tx_Tx)) else (some a0)
set_option maxHeartbeats 8000000 in
set_option maxRecDepth 100000 in
theorem tx_Tx_Learn.ct (bp0 : Nat) (v0_l : Value) (v0_out : Value) (a0 : tx_Tx) (a1 : Int) (a2 : api_Cell) (rp0 : tx_Tx) (h : tx_Tx_Learn.f a0 a1 a2 = some rp0) :
    Ct Try.prog 10 [bp bp0 0, .int .i64 a1, .agg #[.int .u64 a2.Value, .int .u32 a2.Version, .int .i64 a2.Mark]] (fun _ => True) [Box bp0 [.int .i64 a0.cells, v0_l, v0_out, .int .i64 a0.lack, .bool a0.fine], MapO (aggE ek_api_Cell) v0_l a0.l, MapO (Value.int .u64) v0_out a0.out] (fun u H' => ∃ rw0_l rw0_out, u = .tuple #[] ∧ H' = [Box bp0 [.int .i64 rp0.cells, rw0_l, rw0_out, .int .i64 rp0.lack, .bool rp0.fine], MapO (aggE ek_api_Cell) rw0_l rp0.l, MapO (Value.int .u64) rw0_out rp0.out]) := by
  unfold tx_Tx_Learn.f at h
  refine Ct.intro (n := 22) Try.func10 rfl rfl rfl ?_
  intro R w0 F hF hR
  refine S.seq ?_
  refine S.region ?_
  refine SO.box rfl rfl rfl (fun b1 => ?_)
  refine SO.nil ?_
  refine S.seq ?_
  refine S.region ?_
  refine SO.v rfl (opv_move rfl) ?_
  refine SO.v rfl (opv_geq rfl rfl) ?_
  refine SO.v rfl (opv_move rfl) ?_
  obtain ⟨c3, hc4, hgk⟩ := opt_bind h
  refine SO.cut 7 15 (.bool c3) [Box b1 [.int .u64 a2.Value, .int .u32 a2.Version, .int .i64 a2.Mark], Box bp0 [.int .i64 a0.cells, v0_l, v0_out, .int .i64 a0.lack, .bool a0.fine], MapO (aggE ek_api_Cell) v0_l a0.l, MapO (Value.int .u64) v0_out a0.out, F] (fun l2 hk2 => ?_) ?_
  · clear hgk
    replace h := hc4
    rcases bool_or (decide (0 ≤ a1)) with b2 | b2
    · replace h := cond_t b2 h
      refine SO.takeT rfl rfl rfl b2 ?_
      refine SO.v rfl (opv_move rfl) ?_
      refine SO.takeT rfl rfl rfl b2 ?_
      refine SO.v rfl (opv_move rfl) ?_
      refine SO.takeT rfl rfl rfl b2 ?_
      refine SO.v rfl (opv_nilCheck rfl) ?_
      refine SO.takeT rfl rfl rfl b2 ?_
      refine SO.v rfl (opv_fieldAddr Try.underlying76 rfl Try.sizeOf3 rfl rfl) ?_
      refine SO.takeT rfl rfl rfl b2 ?_
      refine SO.b1 ?_
      refine SO.load1 rfl Try.isAgg3 rfl rfl ?_
      refine SO.takeT rfl rfl rfl b2 ?_
      refine SO.v rfl (opv_lss rfl rfl) ?_
      cases h
      refine SO.v rfl (opv_pick_t' b2 rfl rfl) ?_
      refine SO.b4 ?_
      refine SO.b4 ?_
      refine SO.b4 ?_
      refine SO.b3 ?_
      refine SO.b4 ?_
      exact hk2.fitc (m := 7) rfl (rfl) rfl
    replace h := cond_f b2 h
    refine SO.passF rfl rfl rfl b2 rfl rfl ?_
    refine SO.passF rfl rfl rfl b2 rfl rfl ?_
    refine SO.passF rfl rfl rfl b2 rfl rfl ?_
    refine SO.passF rfl rfl rfl b2 rfl rfl ?_
    refine SO.passF rfl rfl rfl b2 rfl rfl ?_
    refine SO.passF rfl rfl rfl b2 rfl rfl ?_
    cases h
    refine SO.v rfl (opv_pick_f' b2 rfl rfl) ?_
    refine SO.b4 ?_
    refine SO.b4 ?_
    refine SO.b4 ?_
    refine SO.b4 ?_
    refine SO.b4 ?_
    exact hk2.fitc (m := 7) rfl (rfl) rfl
  clear hc4
  replace h := hgk
  refine SO.nil ?_
  rcases bool_or c3 with b5 | b5
  · replace h := cond_t b5 h
    refine S.condT rfl b5 ?_
    obtain ⟨zs6, hz7, h⟩ := opt_bind h
    refine S.draw2 (Y := fun Q => ∃ (_ _ _ _ _ _ _ _ : Unit), Q [(0, bp bp0 0), (1, .int .i64 a1), (5, bp b1 0)] [Box b1 [.int .u64 a2.Value, .int .u32 a2.Version, .int .i64 a2.Mark], Box bp0 [.int .i64 a0.cells, v0_l, v0_out, .int .i64 a0.lack, .bool a0.fine], MapO (aggE ek_api_Cell) v0_l a0.l, MapO (Value.int .u64) v0_out a0.out, F]) (Z := fun Q => ∀ (_ _ _ _ _ : Unit), Q [] [Box b1 [.int .u64 a2.Value, .int .u32 a2.Version, .int .i64 a2.Mark], Box bp0 [.int .i64 a0.cells, v0_l, v0_out, .int .i64 a0.lack, .bool a0.fine], MapO (aggE ek_api_Cell) v0_l zs6, MapO (Value.int .u64) v0_out a0.out, F]) (T := [tS 0 (bp bp0 0), tS 1 (.int .i64 a1), tS 5 (bp b1 0), tR (Box b1 [.int .u64 a2.Value, .int .u32 a2.Version, .int .i64 a2.Mark]), tR (Box bp0 [.int .i64 a0.cells, v0_l, v0_out, .int .i64 a0.lack, .bool a0.fine]), tR (MapO (aggE ek_api_Cell) v0_l a0.l), tR (MapO (Value.int .u64) v0_out a0.out), tR (F), tS 16 (bp bp0 0), tS 17 (bp bp0 0), tS 18 (bp bp0 1), tS 19 (v0_l), tS 20 (.int .i64 a1), tS 21 (.agg #[.int .u64 a2.Value, .int .u32 a2.Version, .int .i64 a2.Mark]), tR (MapO (aggE ek_api_Cell) v0_l zs6)]) (D := [⟨[0], [], [8]⟩, ⟨[8], [], [9]⟩, ⟨[9], [], [10]⟩, ⟨[10, 4], [], [11]⟩, ⟨[1], [], [12]⟩, ⟨[2, 3], [], [13]⟩, ⟨[11, 12, 13], [5], [14]⟩]) (ini := [0, 1, 2, 3, 4, 5, 6, 7]) (fin := [3, 4, 14, 6, 7]) (bf := [[], [0], [0, 1], [0, 1, 2], [], [], [0, 1, 2, 3, 4, 5]]) (by kernel_rfl) (by kernel_rfl) (fun Q => by kernel_rfl) (fun x w h1 h2 => ⟨(), (), (), (), (), (), (), (), EnvAll.of h1 ⟨rfl, rfl, rfl, trivial⟩, h2⟩) (fun Q => by kernel_rfl) ⟨?_, ?_, ?_, ?_, ?_, ?_, ?_, trivial⟩ ?_
    · rintro Fr _
      refine SO.v rfl (opv_move rfl) ?_
      exact SO.nilZ fun a w h1 h2 h3 h4 h5 => PZ.of h1 h3 h5 (.cons () (.cons () (.nil ⟨EnvAll.of h2 ⟨rfl, rfl, trivial⟩, h4⟩)))
    · rintro Fr _
      refine SO.v rfl (opv_nilCheck rfl) ?_
      exact SO.nilZ fun a w h1 h2 h3 h4 h5 => PZ.of h1 h3 h5 (.cons () (.cons () (.nil ⟨EnvAll.of h2 ⟨rfl, rfl, trivial⟩, h4⟩)))
    · rintro Fr _
      refine SO.v rfl (opv_fieldAddr Try.underlying76 rfl Try.sizeOf73 rfl rfl) ?_
      exact SO.nilZ fun a w h1 h2 h3 h4 h5 => PZ.of h1 h3 h5 (.cons () (.cons () (.nil ⟨EnvAll.of h2 ⟨rfl, rfl, trivial⟩, h4⟩)))
    · rintro Fr _ _
      refine SO.load1 rfl Try.isAgg73 rfl rfl ?_
      exact SO.nilZ fun a w h1 h2 h3 h4 h5 => PZ.of h1 h3 h5 (.cons () (.cons () (.cons () (.nil ⟨EnvAll.of h2 ⟨rfl, rfl, trivial⟩, h4⟩))))
    · rintro Fr _
      refine SO.v rfl (opv_move rfl) ?_
      exact SO.nilZ fun a w h1 h2 h3 h4 h5 => PZ.of h1 h3 h5 (.cons () (.cons () (.nil ⟨EnvAll.of h2 ⟨rfl, rfl, trivial⟩, h4⟩)))
    · rintro Fr _ _
      refine SO.loadN rfl Try.isAgg38 Try.sizeOf38 rfl rfl rfl ?_
      exact SO.nilZ fun a w h1 h2 h3 h4 h5 => PZ.of h1 h3 h5 (.cons () (.cons () (.cons () (.nil ⟨EnvAll.of h2 ⟨rfl, rfl, trivial⟩, h4⟩))))
    · rintro Fr _ _ _ _
      refine SO.mapUpdateO (enc := (aggE ek_api_Cell)) (u := a2) Try.underlying73 Try.underlying3 rfl rfl rfl hz7 ?_
      exact SO.nilZ fun a w h1 h2 h3 h4 h5 => PZ.of h1 h3 h5 (.cons () (.cons () (.cons () (.cons () (.nil ⟨EnvAll.of h2 ⟨rfl, rfl, rfl, trivial⟩, h4⟩)))))
    rintro _ _ _ _ _
    refine S.to (ρ' := []) trivial ?_
    cases h
    refine S.drop ?_
    refine S.b3 ?_
    refine S.b3 ?_
    refine S.b3 ?_
    refine S.b3 ?_
    exact S.fin0 Try.func10 rfl (fun w hs hk => hR w _ _ ⟨v0_l, v0_out, rfl, rfl⟩ hs hk)
  replace h := cond_f b5 h
  refine S.condF rfl b5 ?_
  refine S.skip ?_
  cases h
  refine S.drop ?_
  refine S.b3 ?_
  refine S.b3 ?_
  refine S.b3 ?_
  refine S.b3 ?_
  exact S.fin0 Try.func10 rfl (fun w hs hk => hR w _ _ ⟨v0_l, v0_out, rfl, rfl⟩ hs hk)
end Go.Proofs
namespace Go.Proofs
open Go.Sl Go.RowKit
/-! 19 (*padstone/tx.Tx).Reads -/
def tx_Tx_Reads.f (a0 : tx_Tx) : Option (Int) :=
  some (mlenO a0.l)
set_option maxHeartbeats 8000000 in
set_option maxRecDepth 100000 in
theorem tx_Tx_Reads.ct (bp0 : Nat) (v0_l : Value) (v0_out : Value) (a0 : tx_Tx) (r0 : Int) (h : tx_Tx_Reads.f a0 = some r0) :
    Ct Try.prog 19 [bp bp0 0] (fun _ => True) [Box bp0 [.int .i64 a0.cells, v0_l, v0_out, .int .i64 a0.lack, .bool a0.fine], MapO (aggE ek_api_Cell) v0_l a0.l, MapO (Value.int .u64) v0_out a0.out] (fun u H' => u = .int .i64 r0 ∧ H' = [Box bp0 [.int .i64 a0.cells, v0_l, v0_out, .int .i64 a0.lack, .bool a0.fine], MapO (aggE ek_api_Cell) v0_l a0.l, MapO (Value.int .u64) v0_out a0.out]) := by
  unfold tx_Tx_Reads.f at h
  refine Ct.intro (n := 8) Try.func19 rfl rfl rfl ?_
  intro R w0 F hF hR
  refine S.seq ?_
  refine S.region ?_
  refine SO.v rfl (opv_assign rfl) ?_
  refine SO.nil ?_
  refine S.seq ?_
  refine S.region ?_
  refine SO.v rfl (opv_move rfl) ?_
  refine SO.v rfl (opv_nilCheck rfl) ?_
  refine SO.v rfl (opv_fieldAddr Try.underlying76 rfl Try.sizeOf73 rfl rfl) ?_
  refine SO.load1 rfl Try.isAgg73 rfl rfl ?_
  refine SO.b1 ?_
  refine SO.lenMapO (enc := (aggE ek_api_Cell)) rfl Try.underlying73 rfl ?_
  refine SO.v rfl (opv_assign rfl) ?_
  refine SO.nil ?_
  cases h
  refine S.b3 ?_
  refine S.b3 ?_
  refine S.b2 ?_
  refine S.b3 ?_
  exact S.ret1 Try.func19 rfl rfl (fun w hs hk => hR w _ _ ⟨rfl, rfl⟩ hs hk)
end Go.Proofs
namespace Go.Proofs
open Go.Sl Go.RowKit
/-! 76 (padstone/tx.seen).has -/
def tx_seen_has.f (a0 : tx_Tx) (a1 : Int) : Option ((Bool × tx_Tx)) :=
  (bif decide (a1 < 0) then (some true) else (some (decide (a0.cells ≤ a1)))).bind fun c3 => bif c3 then (some (false, a0)) else ((lkO a0.l a1 (⟨0, 0, 0⟩ : api_Cell)).bind fun (x6, c8) => (bif !c8 then (some (a0.lack == (-1))) else (some false)).bind fun c11 => bif c11 then (some (true, ({ a0 with lack := a1 } : tx_Tx))) else (some (true, a0)))
set_option maxHeartbeats 8000000 in
set_option maxRecDepth 100000 in
theorem tx_seen_has.ct (bp0 : Nat) (v0_l : Value) (v0_out : Value) (a0 : tx_Tx) (a1 : Int) (r0 : Bool) (rp0 : tx_Tx) (h : tx_seen_has.f a0 a1 = some (r0, rp0)) :
    Ct Try.prog 76 [.agg #[bp bp0 0], .int .i64 a1] (fun _ => True) [Box bp0 [.int .i64 a0.cells, v0_l, v0_out, .int .i64 a0.lack, .bool a0.fine], MapO (aggE ek_api_Cell) v0_l a0.l, MapO (Value.int .u64) v0_out a0.out] (fun u H' => ∃ rw0_l rw0_out, u = .bool r0 ∧ H' = [Box bp0 [.int .i64 rp0.cells, rw0_l, rw0_out, .int .i64 rp0.lack, .bool rp0.fine], MapO (aggE ek_api_Cell) rw0_l rp0.l, MapO (Value.int .u64) rw0_out rp0.out]) := by
  unfold tx_seen_has.f at h
  refine Ct.intro (n := 42) Try.func76 rfl rfl rfl ?_
  intro R w0 F hF hR
  refine S.seq ?_
  refine S.region ?_
  refine SO.box rfl rfl rfl (fun b1 => ?_)
  refine SO.v rfl (opv_assign rfl) ?_
  refine SO.nil ?_
  refine S.seq ?_
  refine S.region ?_
  refine SO.v rfl (opv_fieldAddr Try.underlying78 rfl Try.sizeOf31 rfl rfl) ?_
  refine SO.load1 rfl Try.isAgg31 rfl rfl ?_
  refine SO.v rfl (opv_assign rfl) ?_
  refine SO.nil ?_
  refine S.seq ?_
  refine S.seq ?_
  refine S.region ?_
  refine SO.v rfl (opv_move rfl) ?_
  refine SO.v rfl (opv_lss rfl rfl) ?_
  refine SO.v rfl (opv_move rfl) ?_
  obtain ⟨c3, hc4, hgk⟩ := opt_bind h
  refine SO.cut 7 19 (.bool c3) [Box b1 [bp bp0 0], Box bp0 [.int .i64 a0.cells, v0_l, v0_out, .int .i64 a0.lack, .bool a0.fine], MapO (aggE ek_api_Cell) v0_l a0.l, MapO (Value.int .u64) v0_out a0.out, F] (fun l2 hk2 => ?_) ?_
  · clear hgk
    replace h := hc4
    rcases bool_or (decide (a1 < 0)) with b2 | b2
    · replace h := cond_t b2 h
      refine SO.passF rfl rfl rfl b2 rfl rfl ?_
      refine SO.passF rfl rfl rfl b2 rfl rfl ?_
      refine SO.passF rfl rfl rfl b2 rfl rfl ?_
      refine SO.passF rfl rfl rfl b2 rfl rfl ?_
      refine SO.passF rfl rfl rfl b2 rfl rfl ?_
      refine SO.passF rfl rfl rfl b2 rfl rfl ?_
      cases h
      refine SO.v rfl (opv_pick_t' b2 rfl rfl) ?_
      refine SO.b4 ?_
      refine SO.b4 ?_
      refine SO.b4 ?_
      refine SO.b4 ?_
      refine SO.b4 ?_
      exact hk2.fitc (m := 7) rfl (rfl) rfl
    replace h := cond_f b2 h
    refine SO.takeT rfl rfl rfl b2 ?_
    refine SO.v rfl (opv_move rfl) ?_
    refine SO.takeT rfl rfl rfl b2 ?_
    refine SO.v rfl (opv_move rfl) ?_
    refine SO.takeT rfl rfl rfl b2 ?_
    refine SO.v rfl (opv_nilCheck rfl) ?_
    refine SO.takeT rfl rfl rfl b2 ?_
    refine SO.v rfl (opv_fieldAddr Try.underlying76 rfl Try.sizeOf3 rfl rfl) ?_
    refine SO.takeT rfl rfl rfl b2 ?_
    refine SO.b1 ?_
    refine SO.load1 rfl Try.isAgg3 rfl rfl ?_
    refine SO.takeT rfl rfl rfl b2 ?_
    refine SO.v rfl (opv_geq rfl rfl) ?_
    cases h
    refine SO.v rfl (opv_pick_f' b2 rfl rfl) ?_
    refine SO.b4 ?_
    refine SO.b4 ?_
    refine SO.b4 ?_
    refine SO.b3 ?_
    refine SO.b4 ?_
    exact hk2.fitc (m := 7) rfl (rfl) rfl
  clear hc4
  replace h := hgk
  refine SO.nil ?_
  refine S.to (ρ' := [(1, .int .i64 a1), (4, .bool false), (5, bp bp0 0), (19, .bool c3)]) ⟨rfl, rfl, rfl, rfl, trivial⟩ ?_
  rcases bool_or c3 with b5 | b5
  · replace h := cond_t b5 h
    refine S.condT rfl b5 ?_
    refine S.seq ?_
    refine S.region ?_
    refine SO.v rfl (opv_assign rfl) ?_
    refine SO.nil ?_
    cases h
    refine S.drop ?_
    refine S.b3 ?_
    refine S.b3 ?_
    refine S.b3 ?_
    refine S.b3 ?_
    exact S.ret1 Try.func76 rfl rfl (fun w hs hk => hR w _ _ ⟨v0_l, v0_out, rfl, rfl⟩ hs hk)
  replace h := cond_f b5 h
  refine S.condF rfl b5 ?_
  refine S.skip ?_
  refine S.seq ?_
  refine S.seq ?_
  refine S.region ?_
  refine SO.v rfl (opv_move rfl) ?_
  refine SO.v rfl (opv_nilCheck rfl) ?_
  refine SO.v rfl (opv_fieldAddr Try.underlying76 rfl Try.sizeOf73 rfl rfl) ?_
  refine SO.b1 ?_
  refine SO.load1 rfl Try.isAgg73 rfl rfl ?_
  refine SO.v rfl (opv_move rfl) ?_
  obtain ⟨⟨x6, c8⟩, hlk7, h⟩ := opt_bind h
  refine SO.b2 ?_
  refine SO.lookupOkO (enc := (aggE ek_api_Cell)) (zx := (⟨0, 0, 0⟩ : api_Cell)) rfl Try.underlying73 Try.underlying3 Try.zeroValue38 rfl rfl hlk7 ?_
  refine SO.v rfl (opv_move rfl) ?_
  refine SO.v rfl (opv_extract rfl rfl) ?_
  refine SO.v rfl (opv_extract rfl rfl) ?_
  refine SO.alloc rfl Try.zeroValue38 rfl (fun b9 => ?_)
  refine SO.storeN Try.sizeOf38 rfl rfl rfl rfl rfl rfl ?_
  refine SO.v rfl (opv_assign rfl) ?_
  refine SO.nil ?_
  refine S.to (ρ' := [(1, .int .i64 a1), (4, .bool false), (5, bp bp0 0), (7, .bool c8)]) ⟨rfl, rfl, rfl, rfl, trivial⟩ ?_
  refine S.seq ?_
  refine S.region ?_
  refine SO.v rfl (opv_move rfl) ?_
  refine SO.v rfl (opv_not rfl) ?_
  refine SO.v rfl (opv_move rfl) ?_
  obtain ⟨c11, hc12, hgk⟩ := opt_bind h
  refine SO.cut 6 37 (.bool c11) [Box b9 [.int .u64 x6.Value, .int .u32 x6.Version, .int .i64 x6.Mark], MapO (aggE ek_api_Cell) v0_l a0.l, Box bp0 [.int .i64 a0.cells, v0_l, v0_out, .int .i64 a0.lack, .bool a0.fine], Box b1 [bp bp0 0], MapO (Value.int .u64) v0_out a0.out, F] (fun l2 hk2 => ?_) ?_
  · clear hgk
    replace h := hc12
    rcases bool_or (!c8) with b10 | b10
    · replace h := cond_t b10 h
      refine SO.takeT rfl rfl rfl b10 ?_
      refine SO.v rfl (opv_move rfl) ?_
      refine SO.takeT rfl rfl rfl b10 ?_
      refine SO.v rfl (opv_nilCheck rfl) ?_
      refine SO.takeT rfl rfl rfl b10 ?_
      refine SO.v rfl (opv_fieldAddr Try.underlying76 rfl Try.sizeOf3 rfl rfl) ?_
      refine SO.takeT rfl rfl rfl b10 ?_
      refine SO.b2 ?_
      refine SO.load1 rfl Try.isAgg3 rfl rfl ?_
      refine SO.takeT rfl rfl rfl b10 ?_
      refine SO.v rfl (opv_eql rfl rfl) ?_
      cases h
      refine SO.v rfl (opv_pick_t' b10 rfl rfl) ?_
      refine SO.b5 ?_
      refine SO.b5 ?_
      refine SO.b5 ?_
      refine SO.b3 ?_
      refine SO.b5 ?_
      refine SO.b5 ?_
      exact hk2.fitc (m := 6) rfl (rfl) rfl
    replace h := cond_f b10 h
    refine SO.passF rfl rfl rfl b10 rfl rfl ?_
    refine SO.passF rfl rfl rfl b10 rfl rfl ?_
    refine SO.passF rfl rfl rfl b10 rfl rfl ?_
    refine SO.passF rfl rfl rfl b10 rfl rfl ?_
    refine SO.passF rfl rfl rfl b10 rfl rfl ?_
    cases h
    refine SO.v rfl (opv_pick_f' b10 rfl rfl) ?_
    refine SO.b5 ?_
    refine SO.b5 ?_
    refine SO.b5 ?_
    refine SO.b5 ?_
    refine SO.b5 ?_
    refine SO.b5 ?_
    exact hk2.fitc (m := 6) rfl (rfl) rfl
  clear hc12
  replace h := hgk
  refine SO.nil ?_
  rcases bool_or c11 with b13 | b13
  · replace h := cond_t b13 h
    refine S.condT rfl b13 ?_
    refine S.region ?_
    refine SO.v rfl (opv_move rfl) ?_
    refine SO.v rfl (opv_move rfl) ?_
    refine SO.v rfl (opv_nilCheck rfl) ?_
    refine SO.v rfl (opv_fieldAddr Try.underlying76 rfl Try.sizeOf3 rfl rfl) ?_
    refine SO.b2 ?_
    refine SO.store1 Try.sizeOf3 rfl rfl rfl rfl ?_
    refine SO.nil ?_
    refine S.to (ρ' := [(4, .bool false)]) ⟨rfl, trivial⟩ ?_
    refine S.seq ?_
    refine S.region ?_
    refine SO.v rfl (opv_assign rfl) ?_
    refine SO.nil ?_
    cases h
    refine S.b1 ?_
    refine S.drop ?_
    refine S.b2 ?_
    refine S.drop ?_
    refine S.b3 ?_
    refine S.b3 ?_
    refine S.b3 ?_
    refine S.b3 ?_
    exact S.ret1 Try.func76 rfl rfl (fun w hs hk => hR w _ _ ⟨v0_l, v0_out, rfl, rfl⟩ hs hk)
  replace h := cond_f b13 h
  refine S.condF rfl b13 ?_
  refine S.skip ?_
  refine S.seq ?_
  refine S.region ?_
  refine SO.v rfl (opv_assign rfl) ?_
  refine SO.nil ?_
  refine S.to (ρ' := [(4, .bool true)]) ⟨rfl, trivial⟩ ?_
  cases h
  refine S.drop ?_
  refine S.b2 ?_
  refine S.drop ?_
  refine S.b3 ?_
  refine S.b3 ?_
  refine S.b2 ?_
  refine S.b3 ?_
  exact S.ret1 Try.func76 rfl rfl (fun w hs hk => hR w _ _ ⟨v0_l, v0_out, rfl, rfl⟩ hs hk)
end Go.Proofs
namespace Go.Proofs
open Go.Sl Go.RowKit
/-! 74 (padstone/tx.seen).Read -/
def tx_seen_Read.f (a0 : tx_Tx) (a1 : Int) : Option ((Int × tx_Tx)) :=
  (tx_seen_has.f a0 a1).bind fun (t2, p3) => bif !t2 then (some (0, p3)) else ((lkO p3.out a1 (0 : Int)).bind fun (x7, c9) => bif c9 then (some (x7, p3)) else ((lk1 p3.l a1 (⟨0, 0, 0⟩ : api_Cell)).bind fun x11 => some (x11.Value, p3)))
set_option maxHeartbeats 8000000 in
set_option maxRecDepth 100000 in
theorem tx_seen_Read.ct (bp0 : Nat) (v0_l : Value) (v0_out : Value) (a0 : tx_Tx) (a1 : Int) (r0 : Int) (rp0 : tx_Tx) (h : tx_seen_Read.f a0 a1 = some (r0, rp0)) :
    Ct Try.prog 74 [.agg #[bp bp0 0], .int .i64 a1] (fun _ => True) [Box bp0 [.int .i64 a0.cells, v0_l, v0_out, .int .i64 a0.lack, .bool a0.fine], MapO (aggE ek_api_Cell) v0_l a0.l, MapO (Value.int .u64) v0_out a0.out] (fun u H' => ∃ rw0_l rw0_out, u = .int .u64 r0 ∧ H' = [Box bp0 [.int .i64 rp0.cells, rw0_l, rw0_out, .int .i64 rp0.lack, .bool rp0.fine], MapO (aggE ek_api_Cell) rw0_l rp0.l, MapO (Value.int .u64) rw0_out rp0.out]) := by
  unfold tx_seen_Read.f at h
  refine Ct.intro (n := 31) Try.func74 rfl rfl rfl ?_
  intro R w0 F hF hR
  refine S.seq ?_
  refine S.region ?_
  refine SO.box rfl rfl rfl (fun b1 => ?_)
  refine SO.v rfl (opv_assign rfl) ?_
  refine SO.nil ?_
  refine S.seq ?_
  refine S.seq ?_
  refine S.region ?_
  refine SO.loadN rfl Try.isAgg78 Try.sizeOf78 rfl rfl rfl ?_
  refine SO.v rfl (opv_move rfl) ?_
  obtain ⟨⟨t2, p3⟩, ht4, h⟩ := opt_bind h
  refine SO.b3 ?_
  refine SO.b3 ?_
  refine SO.b3 ?_
  refine SO.call (pre := [Box _ _, MapO _ _ _, MapO _ _ _]) rfl Try.call76 rfl rfl rfl (tx_seen_has.ct bp0 v0_l v0_out _ _ _ _ ht4) trivial ?_
  rintro _ _ ⟨u5_l, u5_out, rfl, rfl⟩
  refine SO.v rfl (opv_not rfl) ?_
  refine SO.nil ?_
  rcases bool_or (!t2) with b6 | b6
  · replace h := cond_t b6 h
    refine S.condT rfl b6 ?_
    refine S.seq ?_
    refine S.region ?_
    refine SO.v rfl (opv_assign rfl) ?_
    refine SO.nil ?_
    refine S.to (ρ' := [(4, .int .u64 0)]) ⟨rfl, trivial⟩ ?_
    cases h
    refine S.b3 ?_
    refine S.drop ?_
    refine S.b3 ?_
    refine S.b3 ?_
    refine S.b3 ?_
    refine S.b3 ?_
    exact S.ret1 Try.func74 rfl rfl (fun w hs hk => hR w _ _ ⟨u5_l, u5_out, rfl, rfl⟩ hs hk)
  replace h := cond_f b6 h
  refine S.condF rfl b6 ?_
  refine S.skip ?_
  refine S.seq ?_
  refine S.seq ?_
  refine S.region ?_
  refine SO.v rfl (opv_fieldAddr Try.underlying78 rfl Try.sizeOf31 rfl rfl) ?_
  refine SO.b3 ?_
  refine SO.load1 rfl Try.isAgg31 rfl rfl ?_
  refine SO.v rfl (opv_nilCheck rfl) ?_
  refine SO.v rfl (opv_fieldAddr Try.underlying76 rfl Try.sizeOf74 rfl rfl) ?_
  refine SO.b1 ?_
  refine SO.load1 rfl Try.isAgg74 rfl rfl ?_
  refine SO.v rfl (opv_move rfl) ?_
  obtain ⟨⟨x7, c9⟩, hlk8, h⟩ := opt_bind h
  refine SO.b3 ?_
  refine SO.lookupOkO (enc := (Value.int .u64)) (zx := (0 : Int)) rfl Try.underlying74 Try.underlying3 Try.zeroValue35 rfl rfl hlk8 ?_
  refine SO.v rfl (opv_move rfl) ?_
  refine SO.v rfl (opv_extract rfl rfl) ?_
  refine SO.v rfl (opv_extract rfl rfl) ?_
  refine SO.v rfl (opv_assign rfl) ?_
  refine SO.v rfl (opv_assign rfl) ?_
  refine SO.nil ?_
  refine S.to (ρ' := [(1, .int .i64 a1), (2, bp b1 0), (4, .int .u64 0), (5, .int .u64 x7), (6, .bool c9)]) ⟨rfl, rfl, rfl, rfl, rfl, trivial⟩ ?_
  refine S.seq ?_
  refine S.region ?_
  refine SO.v rfl (opv_move rfl) ?_
  refine SO.nil ?_
  rcases bool_or c9 with b10 | b10
  · replace h := cond_t b10 h
    refine S.condT rfl b10 ?_
    refine S.seq ?_
    refine S.region ?_
    refine SO.v rfl (opv_move rfl) ?_
    refine SO.v rfl (opv_assign rfl) ?_
    refine SO.nil ?_
    cases h
    refine S.b2 ?_
    refine S.drop ?_
    refine S.b3 ?_
    refine S.b1 ?_
    refine S.b3 ?_
    refine S.b3 ?_
    exact S.ret1 Try.func74 rfl rfl (fun w hs hk => hR w _ _ ⟨u5_l, u5_out, rfl, rfl⟩ hs hk)
  replace h := cond_f b10 h
  refine S.condF rfl b10 ?_
  refine S.skip ?_
  refine S.seq ?_
  refine S.region ?_
  refine SO.v rfl (opv_fieldAddr Try.underlying78 rfl Try.sizeOf31 rfl rfl) ?_
  refine SO.b2 ?_
  refine SO.load1 rfl Try.isAgg31 rfl rfl ?_
  refine SO.v rfl (opv_nilCheck rfl) ?_
  refine SO.v rfl (opv_fieldAddr Try.underlying76 rfl Try.sizeOf73 rfl rfl) ?_
  refine SO.b2 ?_
  refine SO.load1 rfl Try.isAgg73 rfl rfl ?_
  refine SO.v rfl (opv_move rfl) ?_
  obtain ⟨x11, hlk12, h⟩ := opt_bind h
  refine SO.b3 ?_
  refine SO.lookup1O (enc := (aggE ek_api_Cell)) (zx := (⟨0, 0, 0⟩ : api_Cell)) rfl Try.underlying73 Try.underlying3 Try.zeroValue38 rfl rfl hlk12 ?_
  refine SO.v rfl (opv_field Try.underlying38 rfl Try.isAgg35 rfl rfl) ?_
  refine SO.v rfl (opv_assign rfl) ?_
  refine SO.nil ?_
  refine S.to (ρ' := [(4, .int .u64 x11.Value)]) ⟨rfl, trivial⟩ ?_
  cases h
  refine S.b2 ?_
  refine S.drop ?_
  refine S.b3 ?_
  refine S.b3 ?_
  refine S.b2 ?_
  refine S.b3 ?_
  exact S.ret1 Try.func74 rfl rfl (fun w hs hk => hR w _ _ ⟨u5_l, u5_out, rfl, rfl⟩ hs hk)
end Go.Proofs
namespace Go.Proofs
open Go.Sl Go.RowKit
/-! 75 (padstone/tx.seen).Write -/
def tx_seen_Write.f (a0 : tx_Tx) (a1 : Int) (a2 : Int) : Option (tx_Tx) :=
  (tx_seen_has.f a0 a1).bind fun (t2, p3) => bif t2 then ((mputO p3.out a1 a2).bind fun zs7 => some ({ p3 with out := zs7 } : tx_Tx)) else (some p3)
set_option maxHeartbeats 8000000 in
set_option maxRecDepth 100000 in
theorem tx_seen_Write.ct (bp0 : Nat) (v0_l : Value) (v0_out : Value) (a0 : tx_Tx) (a1 : Int) (a2 : Int) (rp0 : tx_Tx) (h : tx_seen_Write.f a0 a1 a2 = some rp0) :
    Ct Try.prog 75 [.agg #[bp bp0 0], .int .i64 a1, .int .u64 a2] (fun _ => True) [Box bp0 [.int .i64 a0.cells, v0_l, v0_out, .int .i64 a0.lack, .bool a0.fine], MapO (aggE ek_api_Cell) v0_l a0.l, MapO (Value.int .u64) v0_out a0.out] (fun u H' => ∃ rw0_l rw0_out, u = .tuple #[] ∧ H' = [Box bp0 [.int .i64 rp0.cells, rw0_l, rw0_out, .int .i64 rp0.lack, .bool rp0.fine], MapO (aggE ek_api_Cell) rw0_l rp0.l, MapO (Value.int .u64) rw0_out rp0.out]) := by
  unfold tx_seen_Write.f at h
  refine Ct.intro (n := 16) Try.func75 rfl rfl rfl ?_
  intro R w0 F hF hR
  refine S.seq ?_
  refine S.region ?_
  refine SO.box rfl rfl rfl (fun b1 => ?_)
  refine SO.nil ?_
  refine S.seq ?_
  refine S.region ?_
  refine SO.loadN rfl Try.isAgg78 Try.sizeOf78 rfl rfl rfl ?_
  refine SO.v rfl (opv_move rfl) ?_
  obtain ⟨⟨t2, p3⟩, ht4, h⟩ := opt_bind h
  refine SO.b3 ?_
  refine SO.b3 ?_
  refine SO.b3 ?_
  refine SO.call (pre := [Box _ _, MapO _ _ _, MapO _ _ _]) rfl Try.call76 rfl rfl rfl (tx_seen_has.ct bp0 v0_l v0_out _ _ _ _ ht4) trivial ?_
  rintro _ _ ⟨u5_l, u5_out, rfl, rfl⟩
  refine SO.nil ?_
  rcases bool_or t2 with b6 | b6
  · replace h := cond_t b6 h
    refine S.condT rfl b6 ?_
    refine S.region ?_
    refine SO.v rfl (opv_fieldAddr Try.underlying78 rfl Try.sizeOf31 rfl rfl) ?_
    refine SO.b3 ?_
    refine SO.load1 rfl Try.isAgg31 rfl rfl ?_
    refine SO.v rfl (opv_nilCheck rfl) ?_
    refine SO.v rfl (opv_fieldAddr Try.underlying76 rfl Try.sizeOf74 rfl rfl) ?_
    refine SO.b1 ?_
    refine SO.load1 rfl Try.isAgg74 rfl rfl ?_
    refine SO.v rfl (opv_move rfl) ?_
    refine SO.v rfl (opv_move rfl) ?_
    obtain ⟨zs7, hz8, h⟩ := opt_bind h
    refine SO.b3 ?_
    refine SO.mapUpdateO (enc := (Value.int .u64)) (u := a2) Try.underlying74 Try.underlying3 rfl rfl rfl hz8 ?_
    refine SO.nil ?_
    refine S.to (ρ' := []) trivial ?_
    cases h
    refine S.b2 ?_
    refine S.drop ?_
    refine S.b3 ?_
    refine S.b1 ?_
    refine S.b3 ?_
    refine S.b3 ?_
    exact S.fin0 Try.func75 rfl (fun w hs hk => hR w _ _ ⟨u5_l, u5_out, rfl, rfl⟩ hs hk)
  replace h := cond_f b6 h
  refine S.condF rfl b6 ?_
  refine S.skip ?_
  cases h
  refine S.b3 ?_
  refine S.drop ?_
  refine S.b3 ?_
  refine S.b3 ?_
  refine S.b3 ?_
  refine S.b3 ?_
  exact S.fin0 Try.func75 rfl (fun w hs hk => hR w _ _ ⟨u5_l, u5_out, rfl, rfl⟩ hs hk)
end Go.Proofs
set_option linter.unusedVariables false
namespace Go.Proofs
open Go.Sl Go.RowKit
/-- A record, as it lies. -/
def TxR (b : Nat) (t : tx_Tx) : HProp := fun m => ∃ vl vo, stars [Box b [.int .i64 t.cells, vl, vo, .int .i64 t.lack, .bool t.fine], MapO (aggE ek_api_Cell) vl t.l, MapO (Value.int .u64) vo t.out] m
theorem TxR.open {w : World} {b : Nat} {t : tx_Tx} {H : List HProp} (h : Sat w (TxR b t :: H)) : ∃ vl vo, Sat w (Box b [.int .i64 t.cells, vl, vo, .int .i64 t.lack, .bool t.fine] :: MapO (aggE ek_api_Cell) vl t.l :: MapO (Value.int .u64) vo t.out :: H) := by
  obtain ⟨m1, m2, d, s1, s2, ⟨vl, vo, hx⟩, hr⟩ := h
  refine ⟨vl, vo, ?_⟩
  have : stars ([Box b [.int .i64 t.cells, vl, vo, .int .i64 t.lack, .bool t.fine], MapO (aggE ek_api_Cell) vl t.l, MapO (Value.int .u64) vo t.out] ++ H) (hp w) := (stars_append _ _ _).2 ⟨m1, m2, d, s1, s2, hx, hr⟩
  exact this
theorem TxR.close {w : World} {b : Nat} {t : tx_Tx} {vl vo : Value} {H : List HProp} (h : Sat w (Box b [.int .i64 t.cells, vl, vo, .int .i64 t.lack, .bool t.fine] :: MapO (aggE ek_api_Cell) vl t.l :: MapO (Value.int .u64) vo t.out :: H)) : Sat w (TxR b t :: H) := by
  have h2 : stars ([Box b [.int .i64 t.cells, vl, vo, .int .i64 t.lack, .bool t.fine], MapO (aggE ek_api_Cell) vl t.l, MapO (Value.int .u64) vo t.out] ++ H) (hp w) := h
  obtain ⟨m1, m2, d, s1, s2, hx, hr⟩ := (stars_append _ _ _).1 h2
  exact ⟨m1, m2, d, s1, s2, ⟨vl, vo, hx⟩, hr⟩
/-- A record that runs: its cells are few, what it writes are cells, each once. -/
def TxOk (t : tx_Tx) : Prop := (0 ≤ t.cells ∧ t.cells ≤ 1024) ∧ ∃ o, t.out = some o ∧ (o.map (·.1)).Nodup ∧ ∀ p ∈ o, 0 ≤ p.1 ∧ p.1 < t.cells
def hasS (t : tx_Tx) (i : Int) : Bool × tx_Tx := if i < 0 ∨ t.cells ≤ i then (false, t) else (true, if mfindO t.l i = none ∧ t.lack = -1 then { t with lack := i } else t)
theorem has_ok (t : tx_Tx) (i : Int) : tx_seen_has.f t i = some (hasS t i) := by
  unfold tx_seen_has.f hasS lkO
  by_cases h1 : i < 0
  · simp [h1]
  · by_cases h2 : t.cells ≤ i
    · simp [h1, h2]
    · cases h3 : mfindO t.l i with
      | none =>
        by_cases h4 : t.lack = -1
        · simp [h1, h2, h4]
        · have : (t.lack == -1) = false := beq_false_of_ne h4
          simp [h1, h2, h4, this]
      | some c => simp [h1, h2]
def rdS (t : tx_Tx) (i : Int) : Int × tx_Tx :=
  if (hasS t i).1 = true then (match mfindO (hasS t i).2.out i with | some x => (x, (hasS t i).2) | none => (((mfindO (hasS t i).2.l i).getD ⟨0, 0, 0⟩).Value, (hasS t i).2)) else (0, (hasS t i).2)
theorem rdS_ok (t : tx_Tx) (i : Int) : tx_seen_Read.f t i = some (rdS t i) := by
  unfold tx_seen_Read.f rdS
  rw [has_ok, Option.bind_some]
  cases h : hasS t i with
  | mk c t1 =>
    cases c with
    | false => simp
    | true =>
      simp only [lkO, lk1, Bool.not_true, cond_false, Option.bind_some, if_true]
      cases h2 : mfindO t1.out i <;> simp
theorem hasS_out (t : tx_Tx) (i : Int) : (hasS t i).2.out = t.out ∧ (hasS t i).2.cells = t.cells ∧ (hasS t i).2.l = t.l ∧ (hasS t i).2.fine = t.fine := by
  unfold hasS; split
  · exact ⟨rfl, rfl, rfl, rfl⟩
  · dsimp only; split <;> exact ⟨rfl, rfl, rfl, rfl⟩
theorem TxOk.has {t : tx_Tx} (h : TxOk t) (i : Int) : TxOk (hasS t i).2 := by
  obtain ⟨e1, e2, _, _⟩ := hasS_out t i
  unfold TxOk; rw [e1, e2]; exact h
theorem rdS_2 (t : tx_Tx) (i : Int) : (rdS t i).2 = (hasS t i).2 := by
  unfold rdS; split
  · split <;> rfl
  · rfl
def wrS (t : tx_Tx) (i x : Int) : tx_Tx := if (hasS t i).1 = true then { (hasS t i).2 with out := (hasS t i).2.out.map fun o => mset o i x } else (hasS t i).2
theorem mset_keys {α : Type} : ∀ (l : List (Int × α)) (k : Int) (v : α), (mset l k v).map (·.1) = if k ∈ l.map (·.1) then l.map (·.1) else l.map (·.1) ++ [k]
  | [], k, v => by simp [mset]
  | p :: l, k, v => by
    unfold mset
    by_cases h : p.1 = k
    · rw [if_pos h, if_pos (by simp [h])]; simp [h]
    · rw [if_neg h, List.map_cons, mset_keys l k v]
      have : (k ∈ (p :: l).map (·.1)) ↔ k ∈ l.map (·.1) := by
        rw [List.map_cons, List.mem_cons]
        exact ⟨fun z => z.resolve_left (fun e => h e.symm), .inr⟩
      by_cases c : k ∈ l.map (·.1)
      · rw [if_pos c, if_pos (this.2 c)]; rfl
      · rw [if_neg c, if_neg (fun z => c (this.1 z))]; rfl
theorem wfI64 {i : Int} (h1 : -9223372036854775808 ≤ i) (h2 : i ≤ 9223372036854775807) : (Lit.int .i64 i).wf = true := by
  simp [Lit.wf, IntKind.min, IntKind.max, IntKind.signed, IntKind.bits]; omega
theorem nodup_few : ∀ (n : Nat) (l : List Int), l.Nodup → (∀ x ∈ l, 0 ≤ x ∧ x < n) → l.length ≤ n
  | 0, l, _, h => by
    cases l with
    | nil => simp
    | cons a l => have := h a List.mem_cons_self; omega
  | n + 1, l, hn, h => by
    have h1 := nodup_few n (l.erase (n : Int)) (hn.erase _) (fun x hx => by
      have hm := (List.Nodup.mem_erase_iff hn).1 hx
      have := h x hm.2
      have := hm.1
      omega)
    have h2 : l.length ≤ (l.erase (n : Int)).length + 1 := by
      rw [List.length_erase]; split <;> omega
    omega
theorem wrS_ok {t : tx_Tx} (h : TxOk t) (i x : Int) : tx_seen_Write.f t i x = some (wrS t i x) := by
  unfold tx_seen_Write.f wrS
  rw [has_ok, Option.bind_some]
  have hh : (hasS t i).1 = true → 0 ≤ i ∧ i < t.cells := by
    unfold hasS; split
    · intro z; cases z
    · intro _; omega
  have hk := h.has i
  cases hs : hasS t i with
  | mk c t1 =>
    rw [hs] at hh hk
    cases c with
    | false => simp
    | true =>
      obtain ⟨hc, o, ho, hn, ha⟩ := hk
      dsimp only at hc ho ha
      have hin := hh rfl
      have hlen : o.length ≤ 1024 := by
        have := nodup_few t1.cells.toNat (o.map (·.1)) hn (fun y hy => by
          obtain ⟨p, hp, rfl⟩ := List.mem_map.1 hy
          have := ha p hp; omega)
        rw [List.length_map] at this; omega
      have hw : (Lit.int .i64 i).wf = true := by
        have : t.cells ≤ 1024 := h.1.2
        exact wfI64 (by omega) (by omega)
      simp only [cond_true, ho, mputO, Option.bind_some, mput, hw, Bool.true_and, Option.map_some, if_true]
      rw [decide_eq_true (by omega : o.length < 4294967296)]
      simp [ho]
theorem TxOk.wr {t : tx_Tx} (h : TxOk t) (i x : Int) : TxOk (wrS t i x) := by
  unfold wrS
  have hk := h.has i
  by_cases c : (hasS t i).1 = true
  · rw [if_pos c]
    have hin : 0 ≤ i ∧ i < t.cells := by
      unfold hasS at c; split at c
      · cases c
      · omega
    obtain ⟨_, e2, _, _⟩ := hasS_out t i
    obtain ⟨hc, o, ho, hn, ha⟩ := hk
    refine ⟨hc, mset o i x, by simp [ho], ?_, fun p hp => ?_⟩
    · rw [mset_keys]; split
      · exact hn
      · rename_i hni
        exact List.nodup_append.2 ⟨hn, by simp, fun a ha' b hb => by simp at hb; subst hb; exact fun e => hni (e ▸ ha')⟩
    · rcases mset_mem o i x p hp with z | z
      · exact ha p z
      · rw [z]; dsimp only; rw [e2]; exact hin
  · rw [if_neg c]; exact hk
abbrev seenI : VI := ⟨tx_Tx, fun s i => (tx_seen_Read.f s i).getD (0, s), fun s i x => (tx_seen_Write.f s i x).getD s⟩
def TxP (b : Nat) (t : tx_Tx) : HProp := fun m => TxOk t ∧ TxR b t m
theorem TxP.open {w : World} {b : Nat} {t : tx_Tx} {H : List HProp} (h : Sat w (TxP b t :: H)) : TxOk t ∧ Sat w (TxR b t :: H) := by
  obtain ⟨m1, m2, d, s1, s2, ⟨hk, hx⟩, hr⟩ := h
  exact ⟨hk, m1, m2, d, s1, s2, hx, hr⟩
theorem TxP.close {w : World} {b : Nat} {t : tx_Tx} {H : List HProp} (hk : TxOk t) (h : Sat w (TxR b t :: H)) : Sat w (TxP b t :: H) := h.weaken fun _ q => ⟨hk, q⟩
set_option maxRecDepth 100000 in
set_option maxHeartbeats 4000000 in
noncomputable def seenV (b : Nat) : VW Try.prog :=
  { seenI with
    t := 78, v := .agg #[bp b 0], rep := fun s => TxP b s
    rF := 74, rV := .agg #[bp b 0], wF := 75, wV := .agg #[bp b 0]
    rM := by intro w; kernel_rfl
    wM := by intro w; kernel_rfl
    rN := by intro w; kernel_rfl
    wN := by intro w; kernel_rfl
    rC := Try.call74, wC := Try.call75
    rCt := fun s i => by
      intro w F _ hs
      obtain ⟨hk, hs1⟩ := TxP.open hs
      obtain ⟨vl, vo, hs2⟩ := TxR.open hs1
      have hr := rdS_ok s i
      refine (tx_seen_Read.ct b vl vo s i (rdS s i).1 (rdS s i).2 hr w F trivial hs2).mono ?_
      rintro e w' ⟨u, H', rfl, ⟨wl, wo, rfl, rfl⟩, hs3, hk3⟩
      refine ⟨_, _, rfl, ⟨?_, rfl⟩, ?_, hk3⟩
      · show Value.int .u64 (rdS s i).1 = .int .u64 ((tx_seen_Read.f s i).getD (0, s)).1
        rw [hr]; rfl
      · show Sat w' ([TxP b ((tx_seen_Read.f s i).getD (0, s)).2] ++ [F])
        rw [hr]
        exact TxP.close (by show TxOk (rdS s i).2; rw [rdS_2]; exact hk.has i) (TxR.close hs3)
    wCt := fun s i x => by
      intro w F _ hs
      obtain ⟨hk, hs1⟩ := TxP.open hs
      obtain ⟨vl, vo, hs2⟩ := TxR.open hs1
      have hr := wrS_ok hk i x
      refine (tx_seen_Write.ct b vl vo s i x (wrS s i x) hr w F trivial hs2).mono ?_
      rintro e w' ⟨u, H', rfl, ⟨wl, wo, rfl, rfl⟩, hs3, hk3⟩
      refine ⟨_, _, rfl, ⟨rfl, rfl⟩, ?_, hk3⟩
      show Sat w' ([TxP b ((tx_seen_Write.f s i x).getD s)] ++ [F])
      rw [hr]
      exact TxP.close (hk.wr i x) (TxR.close hs3) }
def tx_Tx_Run.f {α : Type} (m : VM α) (t : tx_Tx) : Option (Int × Bool × α × tx_Tx) :=
  bif decide (0 ≤ t.cells) && decide (t.cells ≤ 1024) then (VM.run seenI m { t with out := some [], lack := -1 }).bind fun p => some (if p.2.lack = -1 then 0 else p.2.lack, p.2.lack == -1, p.1, { p.2 with fine := p.2.lack == -1 }) else none
theorem Ct.packs {P : Program} {g : FuncId} {vals : List Value} {rd : HProp → Prop} {A B A' B' : List HProp} {u0 : Value} (h : Ct P g vals rd (B ++ A) (fun u H' => u = u0 ∧ H' = B' ++ A')) : Ct P g vals rd (stars B :: A) (fun u H' => u = u0 ∧ H' = stars B' :: A') := by
  intro w F hF hs
  have h1 : Sat w ((A ++ [F]) ++ [stars B]) := hs.perm (List.perm_append_comm (l₁ := [stars B]) (l₂ := A ++ [F]))
  have h2 : Sat w ((B ++ A) ++ [F]) := (Sat.unpack h1).perm (by
    rw [List.append_assoc B A [F]]; exact List.perm_append_comm)
  refine (h w F hF h2).mono ?_
  rintro e w' ⟨u, H', rfl, ⟨rfl, rfl⟩, hs3, hk⟩
  refine ⟨_, _, rfl, ⟨rfl, rfl⟩, ?_, hk⟩
  have h3 : Sat w' ((A' ++ [F]) ++ B') := hs3.perm (by rw [List.append_assoc B' A' [F]]; exact List.perm_append_comm)
  exact (Sat.pack h3).perm (List.perm_append_comm (l₁ := A' ++ [F]) (l₂ := [stars B']))
theorem SO.closeTx {P : Program} {n : Nat} {Z : Act → World → Prop} {w0 : Beg} {ops : Array Oper} {l : List Oper} {ρ : Env} {H : List HProp} {b : Nat} {c k : Int} {fi : Bool} {L : Option (List (Int × api_Cell))} {O : Option (List (Int × Int))} {vl vo : Value} (hk : TxOk ⟨c, L, O, k, fi⟩) (h : SO P n Z w0 ops l ρ (TxP b ⟨c, L, O, k, fi⟩ :: H)) :
    SO P n Z w0 ops l ρ (Box b [.int .i64 c, vl, vo, .int .i64 k, .bool fi] :: MapO (aggE ek_api_Cell) vl L :: MapO (Value.int .u64) vo O :: H) := h.sat fun _ s => TxP.close hk (TxR.close s)
theorem SO.openTx {P : Program} {n : Nat} {Z : Act → World → Prop} {w0 : Beg} {ops : Array Oper} {l : List Oper} {ρ : Env} {H : List HProp} {b : Nat} {t : tx_Tx} (h : ∀ vl vo, SO P n Z w0 ops l ρ (Box b [.int .i64 t.cells, vl, vo, .int .i64 t.lack, .bool t.fine] :: MapO (aggE ek_api_Cell) vl t.l :: MapO (Value.int .u64) vo t.out :: H)) :
    SO P n Z w0 ops l ρ (TxP b t :: H) := by
  intro a w h1 h2 h3 h4 h5
  obtain ⟨_, h4⟩ := TxP.open h4
  obtain ⟨vl, vo, h4⟩ := TxR.open h4
  exact h vl vo a w h1 h2 h3 h4 h5
theorem opv_neqFN {P : Program} {ρ : Env} {t t2 : TypeId} {x : Operand} {fn : Fn} {us cs : Array Value} {u : TypeDesc} (ht : P.underlying t = some u) (hu : (match u with | .func .. => true | _ => false) = true) (hx : ev ρ x = some (.func fn us cs)) : OpV P ρ (.binOp .neq t x (.const .nilFunc) t2) (.bool true) :=
  fun r w d t' p af g hr => by
    have h0 : r (.const .nilFunc) = .nilFunc := hr _ _ rfl
    have key : ∀ d, (Op.equalIn (d + 2) t (.func fn us cs) .nilFunc).run P w = .ok false w := fun d => by
      cases u <;> first | (simp at hu; done) | simp [Op.equalIn, run_underlying ht]
    simp [execOp, hr x _ hx, h0, eqGuard, binOp, eql_run w key]
set_option maxRecDepth 100000 in
set_option maxHeartbeats 8000000 in
theorem tx_Tx_Run.ct {α : Type} (m : VM α) (fc : FuncId) (caps : List Value) (rd : HProp → Prop) (A B : List HProp) (bp0 : Nat) (vl vo : Value) (t : tx_Tx) (r0 : Int) (r1 : Bool) (a : α) (rp : tx_Tx) (h : tx_Tx_Run.f m t = some (r0, r1, a, rp))
    (hcall : ∀ (us : Array Value) (w : World), (callFunc fc us).run Try.prog w = .ok (.enter fc us) w) (hmono : ∀ (l : List HProp) (F : HProp), rd F → rd (stars (l ++ [F])))
    (hf : ∀ s s', VM.run seenI m s = some (a, s') → Ct Try.prog fc ((seenV bp0).val :: caps) rd (A ++ [(seenV bp0).rep s]) (fun u H' => u = .tuple #[] ∧ H' = B ++ [(seenV bp0).rep s'])) :
    Ct Try.prog 11 [bp bp0 0, .func (.func fc) #[] caps.toArray] rd ([Box bp0 [.int .i64 t.cells, vl, vo, .int .i64 t.lack, .bool t.fine], MapO (aggE ek_api_Cell) vl t.l, MapO (Value.int .u64) vo t.out] ++ A)
      (fun u H' => ∃ wl wo, u = .tuple #[.int .i64 r0, .bool r1] ∧ H' = [Box bp0 [.int .i64 rp.cells, wl, wo, .int .i64 rp.lack, .bool rp.fine], MapO (aggE ek_api_Cell) wl rp.l, MapO (Value.int .u64) wo rp.out] ++ B) := by
  unfold tx_Tx_Run.f at h
  cases hc : (decide (0 ≤ t.cells) && decide (t.cells ≤ 1024)) with
  | false => rw [hc] at h; cases h
  | true =>
  rw [hc, cond_true] at h
  simp only [Bool.and_eq_true, decide_eq_true_eq] at hc
  obtain ⟨⟨a', t2⟩, hrun, h⟩ := opt_bind h
  injection h with h; injection h with e1 h; injection h with e2 h; injection h with e3 e4
  dsimp only at e1 e2 e3 e4
  subst e3
  have hf1 := Ct.packs (hf _ _ hrun)
  have hok : TxOk ⟨t.cells, t.l, some [], -1, t.fine⟩ := ⟨hc, [], rfl, .nil, fun p hp => by cases hp⟩
  have main : Ct Try.prog 11 [bp bp0 0, .func (.func fc) #[] caps.toArray] rd [Box bp0 [.int .i64 t.cells, vl, vo, .int .i64 t.lack, .bool t.fine], MapO (aggE ek_api_Cell) vl t.l, MapO (Value.int .u64) vo t.out, stars A]
      (fun u H' => ∃ wl wo, u = .tuple #[.int .i64 r0, .bool r1] ∧ H' = [Box bp0 [.int .i64 rp.cells, wl, wo, .int .i64 rp.lack, .bool rp.fine], MapO (aggE ek_api_Cell) wl rp.l, MapO (Value.int .u64) wo rp.out, stars B]) := by
    refine Ct.intro (n := 37) Try.func11 rfl rfl rfl ?_
    intro R w0 F hF hR
    repeat refine S.seq ?_
    refine S.region ?_
    refine SO.v rfl (opv_assign rfl) ?_
    refine SO.v rfl (opv_assign rfl) ?_
    refine SO.nil ?_
    repeat refine S.seq ?_
    refine S.region ?_
    refine SO.v rfl (opv_move rfl) ?_
    refine SO.v rfl (opv_move rfl) ?_
    refine SO.makeMapO (Value.int .u64) rfl (fun v1 => ?_)
    refine SO.oneM fun h1 => ?_
    refine SO.v rfl (opv_nilCheck rfl) ?_
    refine SO.v rfl (opv_fieldAddr Try.underlying76 rfl Try.sizeOf74 rfl rfl) ?_
    refine SO.b1 ?_
    refine SO.store1 Try.sizeOf74 rfl rfl h1 rfl ?_
    refine SO.v rfl (opv_nilCheck rfl) ?_
    refine SO.v rfl (opv_fieldAddr Try.underlying76 rfl Try.sizeOf3 rfl rfl) ?_
    refine SO.store1 Try.sizeOf3 rfl rfl rfl rfl ?_
    refine SO.nil ?_
    repeat refine S.seq ?_
    refine S.region ?_
    refine SO.v rfl (opv_move rfl) ?_
    refine SO.v rfl (opv_neqFN Try.underlying44 rfl rfl) ?_
    refine SO.nil ?_
    refine S.cond_true rfl ?_
    repeat refine S.seq ?_
    refine S.region ?_
    refine SO.v rfl (opv_move rfl) ?_
    refine SO.v rfl (opv_move rfl) ?_
    refine SO.v rfl (opv_build (v := .agg #[bp bp0 0]) rfl (by intro w; kernel_rfl)) ?_
    refine SO.v rfl (opv_iface Try.underlying78 rfl rfl) ?_
    refine SO.b3 ?_
    refine SO.drop ?_
    refine SO.b2 ?_
    refine SO.b1 ?_
    refine SO.closeTx hok ?_
    refine SO.b1 ?_
    refine SO.call (pre := [stars A, (seenV bp0).rep { cells := t.cells, l := t.l, out := some [], lack := -1, fine := t.fine }]) rfl hcall rfl rfl rfl hf1 (hmono [] F hF) ?_
    rintro _ _ ⟨rfl, rfl⟩
    refine SO.b1 ?_
    refine SO.openTx (b := bp0) (t := t2) fun wl wo => ?_
    refine SO.nil ?_
    repeat refine S.seq ?_
    refine S.region ?_
    refine SO.v rfl (opv_move rfl) ?_
    refine SO.v rfl (opv_move rfl) ?_
    refine SO.v rfl (opv_nilCheck rfl) ?_
    refine SO.v rfl (opv_fieldAddr Try.underlying76 rfl Try.sizeOf3 rfl rfl) ?_
    refine SO.load1 rfl Try.isAgg3 rfl rfl ?_
    refine SO.v rfl (opv_eql rfl rfl) ?_
    refine SO.v rfl (opv_nilCheck rfl) ?_
    refine SO.v rfl (opv_fieldAddr Try.underlying76 rfl Try.sizeOf4 rfl rfl) ?_
    refine SO.store1 Try.sizeOf4 rfl rfl rfl rfl ?_
    refine SO.nil ?_
    repeat refine S.seq ?_
    refine S.region ?_
    refine SO.v rfl (opv_move rfl) ?_
    refine SO.v rfl (opv_nilCheck rfl) ?_
    refine SO.v rfl (opv_fieldAddr Try.underlying76 rfl Try.sizeOf4 rfl rfl) ?_
    refine SO.load1 rfl Try.isAgg4 rfl rfl ?_
    refine SO.v rfl (opv_not rfl) ?_
    refine SO.nil ?_
    rcases bool_or (t2.lack == -1) with b1 | b1
    · have hl : t2.lack = -1 := by simpa using b1
      rw [if_pos hl] at e1
      refine S.condF rfl (by rw [b1]; rfl) ?_
      refine S.skip ?_
      repeat refine S.seq ?_
      refine S.region ?_
      refine SO.v rfl (opv_assign rfl) ?_
      refine SO.v rfl (opv_assign rfl) ?_
      refine SO.nil ?_
      rw [← e1, ← e2, ← e4, b1] at hR
      rw [b1]
      exact S.ret2 Try.func11 rfl rfl rfl (fun w hs hk => hR w _ _ ⟨wl, wo, rfl, rfl⟩ hs hk)
    · have hl : ¬ t2.lack = -1 := by simpa using b1
      rw [if_neg hl] at e1
      refine S.condT rfl (by rw [b1]; rfl) ?_
      repeat refine S.seq ?_
      refine S.region ?_
      refine SO.v rfl (opv_move rfl) ?_
      refine SO.v rfl (opv_nilCheck rfl) ?_
      refine SO.v rfl (opv_fieldAddr Try.underlying76 rfl Try.sizeOf3 rfl rfl) ?_
      refine SO.load1 rfl Try.isAgg3 rfl rfl ?_
      refine SO.v rfl (opv_assign rfl) ?_
      refine SO.v rfl (opv_assign rfl) ?_
      refine SO.nil ?_
      rw [← e1, ← e2, ← e4, b1] at hR
      rw [b1]
      exact S.ret2 Try.func11 rfl rfl rfl (fun w hs hk => hR w _ _ ⟨wl, wo, rfl, rfl⟩ hs hk)
  intro w F hF hs
  have h1 : Sat w (([Box bp0 [.int .i64 t.cells, vl, vo, .int .i64 t.lack, .bool t.fine], MapO (aggE ek_api_Cell) vl t.l, MapO (Value.int .u64) vo t.out] ++ [F]) ++ A) := hs.perm (by
    rw [List.append_assoc, List.append_assoc]; exact List.Perm.append_left _ List.perm_append_comm)
  have h2 := (Sat.pack h1).perm (l' := [Box bp0 [.int .i64 t.cells, vl, vo, .int .i64 t.lack, .bool t.fine], MapO (aggE ek_api_Cell) vl t.l, MapO (Value.int .u64) vo t.out, stars A] ++ [F]) (List.Perm.append_left [_, _, _] (.swap _ _ _))
  refine (main w F hF h2).mono ?_
  rintro e w' ⟨u, H', rfl, ⟨wl, wo, rfl, rfl⟩, hs3, hk⟩
  refine ⟨_, _, rfl, ⟨wl, wo, rfl, rfl⟩, ?_, hk⟩
  have h4 : Sat w' (([Box bp0 [.int .i64 rp.cells, wl, wo, .int .i64 rp.lack, .bool rp.fine], MapO (aggE ek_api_Cell) wl rp.l, MapO (Value.int .u64) wo rp.out] ++ [F]) ++ [stars B]) := hs3.perm (List.Perm.append_left [_, _, _] (.swap _ _ _))
  refine (Sat.unpack h4).perm ?_
  rw [List.append_assoc, List.append_assoc]; exact List.Perm.append_left _ List.perm_append_comm

end Go.Proofs
namespace Go.Proofs
open Go.Sl Go.RowKit
/-! 14 padstone/word.New -/
def word_New.f (a0 : Int) (a1 : Int) : Option (((Option word_Store) × (Option Int))) :=
  bif ((decide (a0 < 1)) || (decide (1024 < a0))) || (decide (a1 < 1)) then (some (none, (some 1))) else ((mk_ (⟨0, 0, 0⟩ : api_Cell) a0).bind fun xs6 => some ((some (⟨xs6, a1⟩ : word_Store)), none))
set_option maxHeartbeats 8000000 in
set_option maxRecDepth 100000 in
theorem word_New.ct (a0 : Int) (a1 : Int) (r0 : Option word_Store) (r1 : Option Int) (h : word_New.f a0 a1 = some (r0, r1)) :
    Ct Try.prog 14 [.int .i64 a0, .int .u32 a1] (fun _ => True) [] (fun u H' => match r0 with | none => (u = .tuple #[.pointer none, errV 84 r1] ∧ H' = []) | some r0p => (∃ b_r0p w_r0p_l, u = .tuple #[bp b_r0p 0, errV 84 r1] ∧ H' = [Box b_r0p [w_r0p_l, .int .u32 r0p.limit], Own 38 ek_api_Cell w_r0p_l r0p.l])) := by
  unfold word_New.f at h
  refine Ct.intro (n := 22) Try.func14 rfl rfl rfl ?_
  intro R w0 F hF hR
  refine S.seq ?_
  refine S.region ?_
  refine SO.v rfl (opv_assign rfl) ?_
  refine SO.v rfl (opv_assign rfl) ?_
  refine SO.nil ?_
  refine S.seq ?_
  refine S.seq ?_
  refine S.region ?_
  refine SO.v rfl (opv_move rfl) ?_
  refine SO.v rfl (opv_lss rfl rfl) ?_
  refine SO.v rfl (opv_move rfl) ?_
  refine SO.cut 3 11 (.bool ((decide (a0 < 1)) || (decide (1024 < a0)))) [F] (fun l2 hk2 => ?_) ?_
  · rcases bool_or (decide (a0 < 1)) with b1 | b1
    · refine SO.passF rfl rfl rfl b1 rfl rfl ?_
      refine SO.passF rfl rfl rfl b1 rfl rfl ?_
      refine SO.v rfl (opv_pick_t' b1 rfl rfl) ?_
      exact hk2.fitc (m := 3) rfl (or_t b1) rfl
    refine SO.takeT rfl rfl rfl b1 ?_
    refine SO.v rfl (opv_move rfl) ?_
    refine SO.takeT rfl rfl rfl b1 ?_
    refine SO.v rfl (opv_gtr rfl rfl) ?_
    refine SO.v rfl (opv_pick_f' b1 rfl rfl) ?_
    exact hk2.fitc (m := 3) rfl (or_f b1) rfl
  refine SO.v rfl (opv_move rfl) ?_
  refine SO.cut 3 15 (.bool (((decide (a0 < 1)) || (decide (1024 < a0))) || (decide (a1 < 1)))) [F] (fun l2 hk2 => ?_) ?_
  · rcases bool_or ((decide (a0 < 1)) || (decide (1024 < a0))) with b2 | b2
    · refine SO.passF rfl rfl rfl b2 rfl rfl ?_
      refine SO.passF rfl rfl rfl b2 rfl rfl ?_
      refine SO.v rfl (opv_pick_t' b2 rfl rfl) ?_
      exact hk2.fitc (m := 3) rfl (or_t b2) rfl
    refine SO.takeT rfl rfl rfl b2 ?_
    refine SO.v rfl (opv_move rfl) ?_
    refine SO.takeT rfl rfl rfl b2 ?_
    refine SO.v rfl (opv_lss rfl rfl) ?_
    refine SO.v rfl (opv_pick_f' b2 rfl rfl) ?_
    exact hk2.fitc (m := 3) rfl (or_f b2) rfl
  refine SO.nil ?_
  rcases bool_or (((decide (a0 < 1)) || (decide (1024 < a0))) || (decide (a1 < 1))) with b3 | b3
  · replace h := cond_t b3 h
    refine S.condT rfl b3 ?_
    refine S.seq ?_
    refine S.region ?_
    refine SO.v rfl (opv_iface Try.underlying84 rfl rfl) ?_
    refine SO.v rfl (opv_assign rfl) ?_
    refine SO.v rfl (opv_assign rfl) ?_
    refine SO.nil ?_
    refine S.to (ρ' := [(4, .pointer none), (5, errV 84 (some 1))]) ⟨rfl, rfl, trivial⟩ ?_
    cases h
    exact S.ret2 Try.func14 rfl rfl rfl (fun w hs hk => hR w _ _ ⟨rfl, rfl⟩ hs hk)
  replace h := cond_f b3 h
  refine S.condF rfl b3 ?_
  refine S.skip ?_
  refine S.seq ?_
  refine S.region ?_
  refine SO.v rfl (opv_move rfl) ?_
  obtain ⟨xs6, hx7, h⟩ := opt_bind h
  refine SO.makeSlice (K := ek_api_Cell) rfl Try.underlying85 inf38 rfl rfl rfl (by decide) rfl rfl rfl hx7 (fun v4 hr5 => ?_)
  refine SO.v rfl (opv_move rfl) ?_
  have hB_ : ∀ (w : World) (u0_ : Value), u0_.oneCell' = true → (Instr.build 87 #[(0, u0_), (1, .int .u32 a1)]).run Try.prog w = .ok (.agg #[u0_, .int .u32 a1]) w := (by intro w u0_ hu0_; cases u0_ <;> first | (simp [Value.oneCell'] at hu0_; done) | kernel_rfl)
  refine SO.v rfl (opv_build (v := .agg #[v4, .int .u32 a1]) rfl (fun w => hB_ w v4 (Rd.one hr5))) ?_
  clear hB_
  refine SO.box rfl rfl rfl (fun b8 => ?_)
  refine SO.v rfl (opv_assign rfl) ?_
  refine SO.v rfl (opv_assign rfl) ?_
  refine SO.nil ?_
  refine S.to (ρ' := [(4, bp b8 0), (5, errV 84 none)]) ⟨rfl, rfl, trivial⟩ ?_
  cases h
  refine S.b2 ?_
  refine S.b2 ?_
  refine S.b2 ?_
  exact S.ret2 Try.func14 rfl rfl rfl (fun w hs hk => hR w _ _ ⟨b8, v4, rfl, rfl⟩ hs hk)
end Go.Proofs
namespace Go.Proofs
open Go.Sl Go.RowKit
/-! 28 (*padstone/word.Store).has -/
def word_Store_has.f (a0 : word_Store) (a1 : Int) : Option (Bool) :=
  (bif decide (0 ≤ a1) then (some (decide (a1 < (a0.l.length : Int)))) else (some false)).bind fun c3 => some c3
set_option maxHeartbeats 8000000 in
set_option maxRecDepth 100000 in
theorem word_Store_has.ct (bp0 : Nat) (v0_l : Value) (a0 : word_Store) (a1 : Int) (r0 : Bool) (h : word_Store_has.f a0 a1 = some r0) :
    Ct Try.prog 28 [bp bp0 0, .int .i64 a1] (fun _ => True) [Box bp0 [v0_l, .int .u32 a0.limit], Own 38 ek_api_Cell v0_l a0.l] (fun u H' => u = .bool r0 ∧ H' = [Box bp0 [v0_l, .int .u32 a0.limit], Own 38 ek_api_Cell v0_l a0.l]) := by
  unfold word_Store_has.f at h
  refine Ct.intro (n := 16) Try.func28 rfl rfl rfl ?_
  intro R w0 F hF hR
  refine S.b1 ?_
  refine S.rd fun hr1 => ?_
  refine S.seq ?_
  refine S.region ?_
  refine SO.v rfl (opv_assign rfl) ?_
  refine SO.nil ?_
  refine S.seq ?_
  refine S.region ?_
  refine SO.v rfl (opv_move rfl) ?_
  refine SO.v rfl (opv_geq rfl rfl) ?_
  refine SO.v rfl (opv_move rfl) ?_
  obtain ⟨c3, hc4, hgk⟩ := opt_bind h
  refine SO.cut 8 15 (.bool c3) [Own 38 ek_api_Cell v0_l a0.l, Box bp0 [v0_l, .int .u32 a0.limit], F] (fun l2 hk2 => ?_) ?_
  · clear hgk
    replace h := hc4
    rcases bool_or (decide (0 ≤ a1)) with b2 | b2
    · replace h := cond_t b2 h
      refine SO.takeT rfl rfl rfl b2 ?_
      refine SO.v rfl (opv_move rfl) ?_
      refine SO.takeT rfl rfl rfl b2 ?_
      refine SO.v rfl (opv_move rfl) ?_
      refine SO.takeT rfl rfl rfl b2 ?_
      refine SO.v rfl (opv_nilCheck rfl) ?_
      refine SO.takeT rfl rfl rfl b2 ?_
      refine SO.v rfl (opv_fieldAddr Try.underlying87 rfl Try.sizeOf85 rfl rfl) ?_
      refine SO.takeT rfl rfl rfl b2 ?_
      refine SO.b1 ?_
      refine SO.load1 rfl Try.isAgg85 rfl rfl ?_
      refine SO.takeT rfl rfl rfl b2 ?_
      refine SO.v rfl (opv_lenR rfl Try.underlying85 hr1 rfl) ?_
      refine SO.takeT rfl rfl rfl b2 ?_
      refine SO.v rfl (opv_lss rfl rfl) ?_
      cases h
      refine SO.v rfl (opv_pick_t' b2 rfl rfl) ?_
      refine SO.b2 ?_
      refine SO.b1 ?_
      refine SO.b2 ?_
      exact hk2.fitc (m := 8) rfl (rfl) rfl
    replace h := cond_f b2 h
    refine SO.passF rfl rfl rfl b2 rfl rfl ?_
    refine SO.passF rfl rfl rfl b2 rfl rfl ?_
    refine SO.passF rfl rfl rfl b2 rfl rfl ?_
    refine SO.passF rfl rfl rfl b2 rfl rfl ?_
    refine SO.passF rfl rfl rfl b2 rfl rfl ?_
    refine SO.passF rfl rfl rfl b2 rfl rfl ?_
    refine SO.passF rfl rfl rfl b2 rfl rfl ?_
    cases h
    refine SO.v rfl (opv_pick_f' b2 rfl rfl) ?_
    refine SO.b2 ?_
    refine SO.b2 ?_
    refine SO.b2 ?_
    exact hk2.fitc (m := 8) rfl (rfl) rfl
  clear hc4
  replace h := hgk
  refine SO.v rfl (opv_assign rfl) ?_
  refine SO.nil ?_
  cases h
  refine S.b2 ?_
  refine S.b1 ?_
  refine S.b2 ?_
  exact S.ret1 Try.func28 rfl rfl (fun w hs hk => hR w _ _ ⟨rfl, rfl⟩ hs hk)
end Go.Proofs
namespace Go.Proofs
open Go.Sl Go.RowKit
/-! 18 (*padstone/word.Store).Read -/
def word_Store_Read.f (a0 : word_Store) (a1 : Int) : Option ((api_Cell × (Option Int))) :=
  (word_Store_has.f a0 a1).bind fun t3 => bif !t3 then (some ((⟨0, 0, 0⟩ : api_Cell), (some 2))) else ((at_ a0.l a1).bind fun x6 => some (x6, none))
set_option maxHeartbeats 8000000 in
set_option maxRecDepth 100000 in
theorem word_Store_Read.ct (bp0 : Nat) (v0_l : Value) (a0 : word_Store) (a1 : Int) (r0 : api_Cell) (r1 : Option Int) (h : word_Store_Read.f a0 a1 = some (r0, r1)) :
    Ct Try.prog 18 [bp bp0 0, .int .i64 a1] (fun _ => True) [Box bp0 [v0_l, .int .u32 a0.limit], Own 38 ek_api_Cell v0_l a0.l] (fun u H' => u = .tuple #[.agg #[.int .u64 r0.Value, .int .u32 r0.Version, .int .i64 r0.Mark], errV 84 r1] ∧ H' = [Box bp0 [v0_l, .int .u32 a0.limit], Own 38 ek_api_Cell v0_l a0.l]) := by
  unfold word_Store_Read.f at h
  refine Ct.intro (n := 19) Try.func18 rfl rfl rfl ?_
  intro R w0 F hF hR
  refine S.b1 ?_
  refine S.rd fun hr1 => ?_
  refine S.seq ?_
  refine S.region ?_
  refine SO.alloc rfl Try.zeroValue38 rfl (fun b2 => ?_)
  refine SO.v rfl (opv_assign rfl) ?_
  refine SO.nil ?_
  refine S.seq ?_
  refine S.seq ?_
  refine S.region ?_
  refine SO.v rfl (opv_move rfl) ?_
  refine SO.v rfl (opv_move rfl) ?_
  obtain ⟨t3, ht4, h⟩ := opt_bind h
  refine SO.b1 ?_
  refine SO.b2 ?_
  refine SO.call (pre := [Box _ _, Own _ _ _ _]) rfl Try.call28 rfl rfl rfl (word_Store_has.ct bp0 v0_l _ _ _ ht4) trivial ?_
  rintro _ _ ⟨rfl, rfl⟩
  refine SO.v rfl (opv_not rfl) ?_
  refine SO.nil ?_
  rcases bool_or (!t3) with b5 | b5
  · replace h := cond_t b5 h
    refine S.condT rfl b5 ?_
    refine S.seq ?_
    refine S.region ?_
    refine SO.v rfl (opv_build (v := .agg #[.int .u64 0, .int .u32 0, .int .i64 0]) rfl (by intro w; kernel_rfl)) ?_
    refine SO.v rfl (opv_iface Try.underlying84 rfl rfl) ?_
    refine SO.b2 ?_
    refine SO.storeN Try.sizeOf38 rfl rfl rfl rfl rfl rfl ?_
    refine SO.v rfl (opv_assign rfl) ?_
    refine SO.nil ?_
    refine S.to (ρ' := [(4, bp b2 0), (5, errV 84 (some 2))]) ⟨rfl, rfl, trivial⟩ ?_
    cases h
    refine S.b3 ?_
    refine S.b3 ?_
    refine S.b3 ?_
    refine S.b3 ?_
    exact S.retC1 Try.func18 rfl rfl rfl Try.isAgg38 Try.sizeOf38 rfl rfl (fun w hs hk => hR w _ _ ⟨rfl, rfl⟩ hs.drop hk)
  replace h := cond_f b5 h
  refine S.condF rfl b5 ?_
  refine S.skip ?_
  refine S.seq ?_
  refine S.region ?_
  refine SO.v rfl (opv_move rfl) ?_
  refine SO.v rfl (opv_nilCheck rfl) ?_
  refine SO.v rfl (opv_fieldAddr Try.underlying87 rfl Try.sizeOf85 rfl rfl) ?_
  refine SO.load1 rfl Try.isAgg85 rfl rfl ?_
  refine SO.v rfl (opv_move rfl) ?_
  obtain ⟨x6, hx7, h⟩ := opt_bind h
  refine SO.v rfl (opv_idx Try.underlying85 Try.sizeOf38 hr1 rfl rfl hx7) ?_
  refine SO.loadIN rfl Try.isAgg38 Try.sizeOf38 (Rd.tail (Rd.head hr1)) hx7 rfl rfl rfl ?_
  refine SO.b2 ?_
  refine SO.storeN Try.sizeOf38 rfl rfl rfl rfl rfl rfl ?_
  refine SO.v rfl (opv_assign rfl) ?_
  refine SO.nil ?_
  refine S.to (ρ' := [(4, bp b2 0), (5, errV 84 none)]) ⟨rfl, rfl, trivial⟩ ?_
  cases h
  refine S.b3 ?_
  refine S.b3 ?_
  refine S.b3 ?_
  refine S.b3 ?_
  exact S.retC1 Try.func18 rfl rfl rfl Try.isAgg38 Try.sizeOf38 rfl rfl (fun w hs hk => hR w _ _ ⟨rfl, rfl⟩ hs.drop hk)
end Go.Proofs
namespace Go.Proofs
open Go.Sl Go.RowKit
/-! 15 (*padstone/word.Store).Set -/
def word_Store_Set.f (a0 : word_Store) (a1 : Int) (a2 : Int) : Option (((Option Int) × word_Store)) :=
  (word_Store_has.f a0 a1).bind fun t2 => bif !t2 then (some ((some 2), a0)) else ((at_ a0.l a1).bind fun x5 => bif x5.Mark != 0 then (some ((some 12), a0)) else ((at_ a0.l a1).bind fun x8 => some (none, (⟨a0.l.set a1.toNat ({ x8 with Value := a2 } : api_Cell), a0.limit⟩ : word_Store))))
set_option maxHeartbeats 8000000 in
set_option maxRecDepth 100000 in
theorem word_Store_Set.ct (bp0 : Nat) (v0_l : Value) (a0 : word_Store) (a1 : Int) (a2 : Int) (r0 : Option Int) (rp0 : word_Store) (h : word_Store_Set.f a0 a1 a2 = some (r0, rp0)) :
    Ct Try.prog 15 [bp bp0 0, .int .i64 a1, .int .u64 a2] (fun _ => True) [Box bp0 [v0_l, .int .u32 a0.limit], Own 38 ek_api_Cell v0_l a0.l] (fun u H' => ∃ rw0_l, u = errV 84 r0 ∧ H' = [Box bp0 [rw0_l, .int .u32 rp0.limit], Own 38 ek_api_Cell rw0_l rp0.l]) := by
  unfold word_Store_Set.f at h
  refine Ct.intro (n := 32) Try.func15 rfl rfl rfl ?_
  intro R w0 F hF hR
  refine S.b1 ?_
  refine S.rd fun hr1 => ?_
  refine S.seq ?_
  refine S.region ?_
  refine SO.v rfl (opv_assign rfl) ?_
  refine SO.nil ?_
  refine S.seq ?_
  refine S.block ?_
  refine S.seq ?_
  refine S.region ?_
  refine SO.v rfl (opv_move rfl) ?_
  refine SO.v rfl (opv_move rfl) ?_
  obtain ⟨t2, ht3, h⟩ := opt_bind h
  refine SO.b1 ?_
  refine SO.call (pre := [Box _ _, Own _ _ _ _]) rfl Try.call28 rfl rfl rfl (word_Store_has.ct bp0 v0_l _ _ _ ht3) trivial ?_
  rintro _ _ ⟨rfl, rfl⟩
  refine SO.v rfl (opv_not rfl) ?_
  refine SO.v rfl (opv_assign rfl) ?_
  refine SO.nil ?_
  rcases bool_or (!t2) with b4 | b4
  · replace h := cond_t b4 h
    refine S.condT rfl b4 ?_
    refine S.seq ?_
    refine S.region ?_
    refine SO.v rfl (opv_iface Try.underlying84 rfl rfl) ?_
    refine SO.v rfl (opv_assign rfl) ?_
    refine SO.nil ?_
    refine S.to (ρ' := [(6, errV 84 (some 2))]) ⟨rfl, trivial⟩ ?_
    cases h
    refine S.b2 ?_
    refine S.b2 ?_
    refine S.b2 ?_
    exact S.ret1 Try.func15 rfl rfl (fun w hs hk => hR w _ _ ⟨v0_l, rfl, rfl⟩ hs hk)
  replace h := cond_f b4 h
  refine S.condF rfl b4 ?_
  refine S.seq ?_
  refine S.region ?_
  refine SO.v rfl (opv_move rfl) ?_
  refine SO.v rfl (opv_nilCheck rfl) ?_
  refine SO.v rfl (opv_fieldAddr Try.underlying87 rfl Try.sizeOf85 rfl rfl) ?_
  refine SO.load1 rfl Try.isAgg85 rfl rfl ?_
  refine SO.v rfl (opv_move rfl) ?_
  obtain ⟨x5, hx6, h⟩ := opt_bind h
  refine SO.v rfl (opv_idx Try.underlying85 Try.sizeOf38 hr1 rfl rfl hx6) ?_
  refine SO.v rfl (opv_fieldIdx Try.underlying38 rfl Try.sizeOf3 hr1 hx6 rfl rfl) ?_
  refine SO.loadI1 (j := 2) rfl Try.isAgg3 (Rd.tail (Rd.head hr1)) hx6 rfl rfl rfl rfl ?_
  refine SO.v rfl (opv_neq rfl rfl) ?_
  refine SO.v rfl (opv_assign rfl) ?_
  refine SO.nil ?_
  refine S.to (ρ' := [(0, bp bp0 0), (1, .int .i64 a1), (2, .int .u64 a2), (6, errV 84 none), (13, .bool (x5.Mark != 0))]) ⟨rfl, rfl, rfl, rfl, rfl, trivial⟩ ?_
  rcases bool_or (x5.Mark != 0) with b7 | b7
  · replace h := cond_t b7 h
    refine S.condT rfl b7 ?_
    refine S.seq ?_
    refine S.region ?_
    refine SO.v rfl (opv_iface Try.underlying84 rfl rfl) ?_
    refine SO.v rfl (opv_assign rfl) ?_
    refine SO.nil ?_
    cases h
    refine S.b2 ?_
    refine S.b2 ?_
    refine S.b2 ?_
    exact S.ret1 Try.func15 rfl rfl (fun w hs hk => hR w _ _ ⟨v0_l, rfl, rfl⟩ hs hk)
  replace h := cond_f b7 h
  refine S.condF rfl b7 ?_
  refine S.skip ?_
  refine S.inBlock ?_
  refine S.seq ?_
  refine S.region ?_
  refine SO.v rfl (opv_move rfl) ?_
  refine SO.v rfl (opv_nilCheck rfl) ?_
  refine SO.v rfl (opv_fieldAddr Try.underlying87 rfl Try.sizeOf85 rfl rfl) ?_
  refine SO.load1 rfl Try.isAgg85 rfl rfl ?_
  refine SO.v rfl (opv_move rfl) ?_
  refine SO.v rfl (opv_move rfl) ?_
  obtain ⟨x8, hx9, h⟩ := opt_bind h
  refine SO.v rfl (opv_idx Try.underlying85 Try.sizeOf38 hr1 rfl rfl hx9) ?_
  refine SO.v rfl (opv_fieldIdx Try.underlying38 rfl Try.sizeOf35 hr1 hx9 rfl rfl) ?_
  refine SO.b1 ?_
  refine SO.storeI1 (j := 0) (z' := ({ x8 with Value := a2 } : api_Cell)) Try.sizeOf35 hx9 rfl rfl rfl rfl rfl rfl ?_
  refine SO.rd fun hr10 => ?_
  refine SO.nil ?_
  refine S.to (ρ' := [(6, errV 84 none)]) ⟨rfl, trivial⟩ ?_
  refine S.seq ?_
  refine S.region ?_
  refine SO.v rfl (opv_assign rfl) ?_
  refine SO.nil ?_
  cases h
  refine S.b2 ?_
  refine S.b1 ?_
  refine S.b2 ?_
  exact S.ret1 Try.func15 rfl rfl (fun w hs hk => hR w _ _ ⟨v0_l, rfl, rfl⟩ hs hk)
end Go.Proofs
