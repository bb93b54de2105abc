/- What the functions that ViewChanges reaches come to, and that they do. On no condition. -/
import Derived.Test.YtakhollbclkdkaaFr1
import Derived.Test.YtakhollbclkdkaaProg
set_option linter.all false
namespace Go.Proofs
open Go.Sl Go.RowKit
theorem inf23 : Try.prog.info? 23 = some Try.t23 := by kernel_rfl
theorem inf35 : Try.prog.info? 35 = some Try.t35 := by kernel_rfl
structure view_Pair_uint64 where
  At : Int
  Val : Int
  deriving DecidableEq, Inhabited
def ek_view_Pair_uint64 : EK view_Pair_uint64 := ⟨2, fun x => [.int .i64 x.At, .int .u64 x.Val], fun _ => rfl, fun x v hv => by
  simp only [List.mem_cons, List.not_mem_nil, or_false] at hv
  rcases hv with rfl | rfl <;> rfl, by decide⟩
theorem eqI_view_Pair_uint64 (x y : view_Pair_uint64) : eqI [x.At, x.Val] [y.At, y.Val] = decide (x = y) := by
  cases x; cases y
  rw [Bool.eq_iff_iff]
  simp [eqI]
theorem fi_view_Pair_uint64 : ∀ fs, Try.prog.underlying 35 = some (.struct fs) → FI Try.prog fs.toList 0 [.i64, .u64] := by
  intro fs h
  rw [Try.underlying35] at h
  injection h with h
  injection h with h
  subst h
  exact ⟨by decide, Try.underlying3, rfl, ⟨by decide, Try.underlying23, rfl, trivial⟩⟩
theorem eq_eql_view_Pair_uint64 {ρ : Env} {t2 : TypeId} {x y : view_Pair_uint64} {a b : Operand} (ha : ev ρ a = some (.agg (encI [.i64, .u64] [x.At, x.Val]).toArray)) (hb : ev ρ b = some (.agg (encI [.i64, .u64] [y.At, y.Val]).toArray)) : OpV Try.prog ρ (.binOp .eql 35 a b t2) (.bool (decide (x = y))) :=
  opv_eqlS Try.underlying35 Try.stoodInHeld35 Try.eqGuardType35 (fi_view_Pair_uint64 _ Try.underlying35) rfl rfl ha hb (by rw [eqI_view_Pair_uint64])
theorem eq_neq_view_Pair_uint64 {ρ : Env} {t2 : TypeId} {x y : view_Pair_uint64} {a b : Operand} (ha : ev ρ a = some (.agg (encI [.i64, .u64] [x.At, x.Val]).toArray)) (hb : ev ρ b = some (.agg (encI [.i64, .u64] [y.At, y.Val]).toArray)) : OpV Try.prog ρ (.binOp .neq 35 a b t2) (.bool (!decide (x = y))) :=
  opv_neqS Try.underlying35 Try.stoodInHeld35 Try.eqGuardType35 (fi_view_Pair_uint64 _ Try.underlying35) rfl rfl ha hb (by rw [eqI_view_Pair_uint64])
end Go.Proofs
namespace Go.Proofs
open Go.Sl Go.RowKit
/-! 7 padstone/padstonelaw05.at -/
def law05_at.f (a0 : List Int) (a1 : Int) : Option (Int) :=
  bif (decide (a1 < 0)) || (decide ((a0.length : Int) ≤ a1)) then (some 0) else ((at_ a0 a1).bind fun x3 => some x3)
set_option maxHeartbeats 8000000 in
set_option maxRecDepth 100000 in
theorem law05_at.ct (v0 : Value) (a0 : List Int) (a1 : Int) (r0 : Int) (h : law05_at.f a0 a1 = some r0) :
    Ct Try.prog 7 [v0, .int .i64 a1] (fun F => Rd (ekI .u64) v0 a0 F) [] (fun u H' => u = .int .u64 r0 ∧ H' = []) := by
  unfold law05_at.f at h
  refine Ct.intro (n := 17) Try.func7 rfl rfl rfl ?_
  intro R w0 F hF hR
  have hF0 := hF
  refine S.seq ?_
  refine S.region ?_
  refine SO.v rfl (opv_assign rfl) ?_
  refine SO.nil ?_
  refine S.seq ?_
  refine S.seq ?_
  refine S.region ?_
  refine SO.v rfl (opv_move rfl) ?_
  refine SO.v rfl (opv_lss rfl rfl) ?_
  refine SO.v rfl (opv_move rfl) ?_
  refine SO.cut 5 12 (.bool ((decide (a1 < 0)) || (decide ((a0.length : Int) ≤ a1)))) [F] (fun l2 hk2 => ?_) ?_
  · rcases bool_or (decide (a1 < 0)) with b1 | b1
    · refine SO.passF rfl rfl rfl b1 rfl rfl ?_
      refine SO.passF rfl rfl rfl b1 rfl rfl ?_
      refine SO.passF rfl rfl rfl b1 rfl rfl ?_
      refine SO.passF rfl rfl rfl b1 rfl rfl ?_
      refine SO.v rfl (opv_pick_t' b1 rfl rfl) ?_
      exact hk2.fitc (m := 5) rfl (or_t b1) rfl
    · refine SO.takeT rfl rfl rfl b1 ?_
      refine SO.v rfl (opv_move rfl) ?_
      refine SO.takeT rfl rfl rfl b1 ?_
      refine SO.v rfl (opv_move rfl) ?_
      refine SO.takeT rfl rfl rfl b1 ?_
      refine SO.v rfl (opv_lenR rfl Try.underlying22 hF0 rfl) ?_
      refine SO.takeT rfl rfl rfl b1 ?_
      refine SO.v rfl (opv_geq rfl rfl) ?_
      refine SO.v rfl (opv_pick_f' b1 rfl rfl) ?_
      exact hk2.fitc (m := 5) rfl (or_f b1) rfl
  refine SO.nil ?_
  rcases bool_or ((decide (a1 < 0)) || (decide ((a0.length : Int) ≤ a1))) with b2 | b2
  · replace h := cond_t b2 h
    refine S.condT rfl b2 ?_
    refine S.seq ?_
    refine S.region ?_
    refine SO.v rfl (opv_assign rfl) ?_
    refine SO.nil ?_
    cases h
    exact S.ret1 Try.func7 rfl rfl (fun w hs hk => hR w _ _ ⟨rfl, rfl⟩ hs hk)
  · replace h := cond_f b2 h
    refine S.condF rfl b2 ?_
    refine S.skip ?_
    refine S.seq ?_
    refine S.region ?_
    refine SO.v rfl (opv_move rfl) ?_
    refine SO.v rfl (opv_move rfl) ?_
    obtain ⟨x3, hx4, h⟩ := opt_bind h
    refine SO.v rfl (opv_idx Try.underlying22 Try.sizeOf23 hF0 rfl rfl hx4) ?_
    refine SO.loadI1 (j := 0) rfl Try.isAgg23 (Rd.head hF0) hx4 rfl rfl rfl rfl ?_
    refine SO.v rfl (opv_assign rfl) ?_
    refine SO.nil ?_
    refine S.to (ρ' := [(4, .int .u64 x3)]) ⟨rfl, trivial⟩ ?_
    cases h
    exact S.ret1 Try.func7 rfl rfl (fun w hs hk => hR w _ _ ⟨rfl, rfl⟩ hs hk)
end Go.Proofs
namespace Go.Proofs
open Go.Sl Go.RowKit
/-! 11 (padstone/view.Plain).has -/
def view_Plain_has.f (a0 : List Int) (a1 : Int) : Option (Bool) :=
  some ((decide (0 ≤ a1)) && (decide (a1 < (a0.length : Int))))
set_option maxHeartbeats 8000000 in
set_option maxRecDepth 100000 in
theorem view_Plain_has.ct (v0 : Value) (a0 : List Int) (a1 : Int) (r0 : Bool) (h : view_Plain_has.f a0 a1 = some r0) :
    Ct Try.prog 11 [v0, .int .i64 a1] (fun F => Rd (ekI .u64) v0 a0 F) [] (fun u H' => u = .bool r0 ∧ H' = []) := by
  unfold view_Plain_has.f at h
  refine Ct.intro (n := 13) Try.func11 rfl rfl rfl ?_
  intro R w0 F hF hR
  have hF0 := hF
  refine S.seq ?_
  refine S.region ?_
  refine SO.v rfl (opv_assign rfl) ?_
  refine SO.nil ?_
  refine S.seq ?_
  refine S.region ?_
  refine SO.v rfl (opv_move rfl) ?_
  refine SO.v rfl (opv_geq rfl rfl) ?_
  refine SO.v rfl (opv_move rfl) ?_
  refine SO.cut 5 12 (.bool ((decide (0 ≤ a1)) && (decide (a1 < (a0.length : Int))))) [F] (fun l2 hk2 => ?_) ?_
  · rcases bool_or (decide (0 ≤ a1)) with b1 | b1
    · refine SO.takeT rfl rfl rfl b1 ?_
      refine SO.v rfl (opv_move rfl) ?_
      refine SO.takeT rfl rfl rfl b1 ?_
      refine SO.v rfl (opv_move rfl) ?_
      refine SO.takeT rfl rfl rfl b1 ?_
      refine SO.v rfl (opv_lenR rfl Try.underlying25 hF0 rfl) ?_
      refine SO.takeT rfl rfl rfl b1 ?_
      refine SO.v rfl (opv_lss rfl rfl) ?_
      refine SO.v rfl (opv_pick_t' b1 rfl rfl) ?_
      exact hk2.fitc (m := 5) rfl (and_t b1) rfl
    · refine SO.passF rfl rfl rfl b1 rfl rfl ?_
      refine SO.passF rfl rfl rfl b1 rfl rfl ?_
      refine SO.passF rfl rfl rfl b1 rfl rfl ?_
      refine SO.passF rfl rfl rfl b1 rfl rfl ?_
      refine SO.v rfl (opv_pick_f' b1 rfl rfl) ?_
      exact hk2.fitc (m := 5) rfl (and_f b1) rfl
  refine SO.v rfl (opv_assign rfl) ?_
  refine SO.nil ?_
  cases h
  exact S.ret1 Try.func11 rfl rfl (fun w hs hk => hR w _ _ ⟨rfl, rfl⟩ hs hk)
end Go.Proofs
namespace Go.Proofs
open Go.Sl Go.RowKit
/-! 6 (padstone/view.Plain).Read -/
def view_Plain_Read.f (a0 : List Int) (a1 : Int) : Option (Int) :=
  (view_Plain_has.f a0 a1).bind fun t1 => bif !t1 then (some 0) else ((at_ a0 a1).bind fun x4 => some x4)
set_option maxHeartbeats 8000000 in
set_option maxRecDepth 100000 in
theorem view_Plain_Read.ct (v0 : Value) (a0 : List Int) (a1 : Int) (r0 : Int) (h : view_Plain_Read.f a0 a1 = some r0) :
    Ct Try.prog 6 [v0, .int .i64 a1] (fun F => Rd (ekI .u64) v0 a0 F) [] (fun u H' => u = .int .u64 r0 ∧ H' = []) := by
  unfold view_Plain_Read.f at h
  refine Ct.intro (n := 13) Try.func6 rfl rfl rfl ?_
  intro R w0 F hF hR
  have hF0 := hF
  refine S.seq ?_
  refine S.region ?_
  refine SO.v rfl (opv_assign rfl) ?_
  refine SO.nil ?_
  refine S.seq ?_
  refine S.seq ?_
  refine S.region ?_
  refine SO.v rfl (opv_move rfl) ?_
  refine SO.v rfl (opv_move rfl) ?_
  obtain ⟨t1, ht2, h⟩ := opt_bind h
  refine SO.call (pre := []) rfl Try.call11 rfl rfl rfl (view_Plain_has.ct v0 _ _ _ ht2) (Rd.head hF0) ?_
  rintro _ _ ⟨rfl, rfl⟩
  refine SO.v rfl (opv_not rfl) ?_
  refine SO.nil ?_
  rcases bool_or (!t1) with b3 | b3
  · replace h := cond_t b3 h
    refine S.condT rfl b3 ?_
    refine S.seq ?_
    refine S.region ?_
    refine SO.v rfl (opv_assign rfl) ?_
    refine SO.nil ?_
    cases h
    exact S.ret1 Try.func6 rfl rfl (fun w hs hk => hR w _ _ ⟨rfl, rfl⟩ hs hk)
  · replace h := cond_f b3 h
    refine S.condF rfl b3 ?_
    refine S.skip ?_
    refine S.seq ?_
    refine S.region ?_
    refine SO.v rfl (opv_move rfl) ?_
    refine SO.v rfl (opv_move rfl) ?_
    obtain ⟨x4, hx5, h⟩ := opt_bind h
    refine SO.v rfl (opv_idx Try.underlying25 Try.sizeOf23 hF0 rfl rfl hx5) ?_
    refine SO.loadI1 (j := 0) rfl Try.isAgg23 (Rd.head hF0) hx5 rfl rfl rfl rfl ?_
    refine SO.v rfl (opv_assign rfl) ?_
    refine SO.nil ?_
    refine S.to (ρ' := [(4, .int .u64 x4)]) ⟨rfl, trivial⟩ ?_
    cases h
    exact S.ret1 Try.func6 rfl rfl (fun w hs hk => hR w _ _ ⟨rfl, rfl⟩ hs hk)
end Go.Proofs
namespace Go.Proofs
open Go.Sl Go.RowKit
/-! 8 (padstone/view.Plain).Write -/
def view_Plain_Write.f (a0 : List Int) (a1 : Int) (a2 : Int) : Option ((List Int)) :=
  (view_Plain_has.f a0 a1).bind fun t2 => bif t2 then ((at_ a0 a1).bind fun x5 => some (a0.set a1.toNat a2)) else (some a0)
set_option maxHeartbeats 8000000 in
set_option maxRecDepth 100000 in
theorem view_Plain_Write.ct (v0 : Value) (a0 : List Int) (a1 : Int) (a2 : Int) (q0 : List Int) (h : view_Plain_Write.f a0 a1 a2 = some q0) :
    Ct Try.prog 8 [v0, .int .i64 a1, .int .u64 a2] (fun _ => True) [Own 23 (ekI .u64) v0 a0] (fun u H' => u = .tuple #[] ∧ H' = [Own 23 (ekI .u64) v0 q0]) := by
  unfold view_Plain_Write.f at h
  refine Ct.intro (n := 13) Try.func8 rfl rfl rfl ?_
  intro R w0 F hF hR
  refine S.rd fun hr1 => ?_
  refine S.seq ?_
  refine S.region ?_
  refine SO.v rfl (opv_move rfl) ?_
  refine SO.v rfl (opv_move rfl) ?_
  obtain ⟨t2, ht3, h⟩ := opt_bind h
  refine SO.call (pre := []) rfl Try.call11 rfl rfl rfl (view_Plain_has.ct v0 _ _ _ ht3) (Rd.head hr1) ?_
  rintro _ _ ⟨rfl, rfl⟩
  refine SO.nil ?_
  rcases bool_or t2 with b4 | b4
  · replace h := cond_t b4 h
    refine S.condT rfl b4 ?_
    refine S.region ?_
    refine SO.v rfl (opv_move rfl) ?_
    refine SO.v rfl (opv_move rfl) ?_
    refine SO.v rfl (opv_move rfl) ?_
    obtain ⟨x5, hx6, h⟩ := opt_bind h
    refine SO.v rfl (opv_idx Try.underlying25 Try.sizeOf23 hr1 rfl rfl hx6) ?_
    refine SO.storeI1 (j := 0) (z' := a2) Try.sizeOf23 hx6 rfl rfl rfl rfl rfl rfl ?_
    refine SO.rd fun hr7 => ?_
    refine SO.nil ?_
    refine S.to (ρ' := []) trivial ?_
    cases h
    refine S.b1 ?_
    refine S.b1 ?_
    exact S.fin0 Try.func8 rfl (fun w hs hk => hR w _ _ ⟨rfl, rfl⟩ hs hk)
  · replace h := cond_f b4 h
    refine S.condF rfl b4 ?_
    refine S.skip ?_
    cases h
    refine S.b1 ?_
    refine S.b1 ?_
    exact S.fin0 Try.func8 rfl (fun w hs hk => hR w _ _ ⟨rfl, rfl⟩ hs hk)
end Go.Proofs
namespace Go.Proofs
open Go.Sl Go.RowKit
/-! A list of one's own, as a view. -/
theorem read_ok (s : List Int) (i : Int) : ∃ r, view_Plain_Read.f s i = some r := by
  cases h : view_Plain_Read.f s i with
  | some r => exact ⟨r, rfl⟩
  | none =>
    exfalso
    revert h
    unfold view_Plain_Read.f view_Plain_has.f
    by_cases h1 : 0 ≤ i ∧ i < (s.length : Int)
    · have : s[i.toNat]? = some s[i.toNat] := List.getElem?_eq_getElem (by omega)
      simp [h1, at_, this]
    · have : (decide (0 ≤ i) && decide (i < (s.length : Int))) = false := by simpa using h1
      simp [this]
theorem write_ok (s : List Int) (i x : Int) : ∃ r, view_Plain_Write.f s i x = some r := by
  cases h : view_Plain_Write.f s i x with
  | some r => exact ⟨r, rfl⟩
  | none =>
    exfalso
    revert h
    unfold view_Plain_Write.f view_Plain_has.f
    by_cases h1 : 0 ≤ i ∧ i < (s.length : Int)
    · have : s[i.toNat]? = some s[i.toNat] := List.getElem?_eq_getElem (by omega)
      simp [h1, at_, this]
    · have : (decide (0 ≤ i) && decide (i < (s.length : Int))) = false := by simpa using h1
      simp [this]
abbrev plainI : VI := ⟨List Int, fun s i => ((view_Plain_Read.f s i).getD 0, s), fun s i x => (view_Plain_Write.f s i x).getD s⟩
theorem ofRd {P : Program} {g : FuncId} {vals : List Value} {α : Type} {E : TypeId} {K : EK α} {v : Value} {xs : List α} {u0 : Value} (h : Ct P g vals (fun F => Rd K v xs F) [] (fun u H' => u = u0 ∧ H' = [])) :
    Ct P g vals (fun _ => True) [Own E K v xs] (fun u H' => u = u0 ∧ H' = [Own E K v xs]) := by
  intro w F _ hs
  have h2 : Sat w ([] ++ [stars [Own E K v xs, F]]) := Sat.pack (l1 := []) hs
  have hr : Rd K v xs (stars [Own E K v xs, F]) := by
    obtain ⟨m, hm, ho⟩ := Sat.head hs
    exact Rd.head (Own.rd ho)
  refine (h w _ hr h2).mono ?_
  rintro e w' ⟨u, H', he, ⟨hu, rfl⟩, hs', hk⟩
  exact ⟨u, _, he, ⟨hu, rfl⟩, Sat.unpack (l1 := []) hs', hk⟩
set_option maxRecDepth 100000 in
set_option maxHeartbeats 4000000 in
noncomputable def plainV (v : Value) : VW Try.prog :=
  { plainI with
    t := 25, v := v, rep := fun s => Own 23 (ekI .u64) v s
    rF := 6, rV := v, wF := 8, wV := v
    rM := by intro w; kernel_rfl
    wM := by intro w; kernel_rfl
    rC := Try.call6, wC := Try.call8
    rCt := fun s i => by
      obtain ⟨r, hr⟩ := read_ok s i
      have := ofRd (E := 23) (view_Plain_Read.ct v s i r hr)
      show Ct _ _ _ _ _ (fun u H' => u = .int .u64 ((view_Plain_Read.f s i).getD 0) ∧ H' = [Own 23 (ekI .u64) v s])
      rw [hr]; exact this
    wCt := fun s i x => by
      obtain ⟨r, hr⟩ := write_ok s i x
      have := view_Plain_Write.ct v s i x r hr
      show Ct _ _ _ _ _ (fun u H' => u = .tuple #[] ∧ H' = [Own 23 (ekI .u64) v ((view_Plain_Write.f s i x).getD s)])
      rw [hr]; exact this }
theorem plainV_rep (v : Value) (s : List Int) : (plainV v).rep s = Own 23 (ekI .u64) v s := rfl
theorem headEq {P : Program} {n : Nat} {Z : Act → World → Prop} {w0 : Beg} {ops : Array Oper} {l : List Oper} {ρ : Env} {A B : HProp} {rest : List HProp} (h : A = B) (k : SO P n Z w0 ops l ρ (B :: rest)) : SO P n Z w0 ops l ρ (A :: rest) := by
  subst h; exact k
end Go.Proofs
set_option linter.unusedVariables false
namespace Go.Proofs
open Go.Sl Go.RowKit
def rd_ (bs : List Int) (i : Int) : Int := (view_Plain_Read.f bs i).getD 0
theorem rd_some (bs : List Int) (i : Int) : view_Plain_Read.f bs i = some (rd_ bs i) := by
  obtain ⟨r, h⟩ := read_ok bs i
  unfold rd_; rw [h]; rfl
set_option maxRecDepth 100000 in
set_option maxHeartbeats 8000000 in
theorem range1_ct (L bf bt bv : Nat) (a b : Int) (vb : Value) (bs : List Int) (J X : Nat → List HProp) (ha : -9223372036854775808 ≤ a) (hb : b ≤ 9223372036854775807) (hrd : ∀ (j : Nat) (F : HProp), Rd (ekI .u64) vb bs (stars (J j ++ [F])))
    (hY : ∀ j : Nat, a + j < b → YCt Try.prog L [.int .i64 (a + j), .int .u64 (rd_ bs (a + j))] (J j) fun c H' => c = true ∧ H' = J (j + 1) ∨ c = false ∧ H' = X (j + 1)) :
    Ct Try.prog 12 [.func (.yield L) #[] #[], bp bf 0, bp bt 0, bp bv 0] (fun _ => True) (J 0 ++ [Box bf [.int .i64 a], Box bt [.int .i64 b], Box bv [.iface 25 vb]])
      (fun u H' => u = .tuple #[] ∧ (H' = J (b - a).toNat ++ [Box bf [.int .i64 a], Box bt [.int .i64 b], Box bv [.iface 25 vb]] ∨ ∃ j : Nat, a + j ≤ b ∧ 0 < j ∧ H' = X j ++ [Box bf [.int .i64 a], Box bt [.int .i64 b], Box bv [.iface 25 vb]])) := by
  refine Ct.introY (n := 20) Try.func12 rfl rfl rfl ?_
  intro R w0 F hF hR
  refine S.bring (H' := Box bf [.int .i64 a] :: Box bt [.int .i64 b] :: Box bv [.iface 25 vb] :: (J 0 ++ [F])) (by
    have : (J 0 ++ [Box bf [.int .i64 a], Box bt [.int .i64 b], Box bv [.iface 25 vb]] ++ [F]) = J 0 ++ ([Box bf [.int .i64 a], Box bt [.int .i64 b], Box bv [.iface 25 vb]] ++ [F]) := List.append_assoc _ _ _
    rw [this]
    exact (List.perm_append_comm_assoc _ _ _)) ?_
  refine S.seq ?_
  refine S.region ?_
  refine SO.load1 rfl (by intro w; kernel_rfl) rfl rfl ?_
  refine SO.v rfl (opv_assign rfl) ?_
  refine SO.nil ?_
  refine S.bring (H' := Box bt [.int .i64 b] :: Box bv [.iface 25 vb] :: Box bf [.int .i64 a] :: (J 0 ++ [F])) ((List.Perm.swap _ _ _).trans (.cons _ (.swap _ _ _))) ?_
  have e0 : (Value.int .i64 a) = .int .i64 (a + (0 : Nat)) := by simp
  refine S.to (ρ' := [(5, .int .i64 (a + (0 : Nat))), (3, bp bv 0), (2, bp bt 0), (1, bp bf 0), (0, .func (.yield L) #[] #[])]) ⟨by rw [← e0]; rfl, rfl, rfl, rfl, rfl, trivial⟩ ?_
  refine S.loopN (b - a).toNat (fun j => [(5, .int .i64 (a + j)), (3, bp bv 0), (2, bp bt 0), (1, bp bf 0), (0, .func (.yield L) #[] #[])]) (fun j => Box bt [.int .i64 b] :: Box bv [.iface 25 vb] :: Box bf [.int .i64 a] :: (J j ++ [F])) ?_
  intro j hj next
  have back : ∀ {A : HProp} (l : List HProp), (Box bv [.iface 25 vb] :: Box bt [.int .i64 b] :: Box bf [.int .i64 a] :: (l ++ [A])).Perm (l ++ (Box bv [.iface 25 vb] :: Box bt [.int .i64 b] :: Box bf [.int .i64 a] :: [A])) := fun {A} l => by
    have := List.perm_append_comm_assoc [Box bv [.iface 25 vb], Box bt [.int .i64 b], Box bf [.int .i64 a]] l [A]
    exact this
  repeat refine S.seq ?_
  refine S.region ?_
  refine SO.v rfl (opv_move rfl) ?_
  refine SO.load1 rfl (by intro w; kernel_rfl) rfl rfl ?_
  refine SO.v rfl (opv_lss rfl rfl) ?_
  refine SO.v rfl (opv_move rfl) ?_
  rcases bool_or (decide (a + j < b)) with b1 | b1
  · have hlt : a + j < b := of_decide_eq_true b1
    refine SO.takeT rfl rfl rfl b1 ?_
    refine SO.v rfl (opv_move rfl) ?_
    refine SO.takeT rfl rfl rfl b1 ?_
    refine SO.v rfl (opv_move rfl) ?_
    refine SO.bring (List.Perm.swap _ _ _) ?_
    refine SO.takeT rfl rfl rfl b1 ?_
    refine SO.load1 rfl (by intro w; kernel_rfl) rfl rfl ?_
    refine SO.takeT rfl rfl rfl b1 ?_
    refine SO.v rfl (opv_move rfl) ?_
    refine SO.takeT rfl rfl rfl b1 ?_
    refine SO.invoke (pre := []) rfl Try.call6 rfl (by intro w; kernel_rfl) rfl rfl (view_Plain_Read.ct vb bs (a + j) _ (rd_some bs (a + j))) (Rd.tail (Rd.tail (Rd.tail (hrd j F)))) ?_
    rintro _ _ ⟨rfl, rfl⟩
    refine SO.takeT rfl rfl rfl b1 ?_
    refine SO.bring (back (J j)) ?_
    refine SO.yield (pre := J j) rfl rfl rfl (hY j hlt) ?_
    intro c H' hc
    refine SO.v rfl (opv_pick_t' b1 rfl rfl) ?_
    refine SO.nil ?_
    rcases hc with ⟨rfl, rfl⟩ | ⟨rfl, rfl⟩
    · refine S.cond_true rfl ?_
      refine S.skip ?_
      refine S.seq ?_
      refine S.block ?_
      refine S.skip ?_
      refine S.inBlock ?_
      refine S.region ?_
      refine SO.v rfl (opv_move rfl) ?_
      refine SO.v rfl (opv_add rfl rfl) ?_
      refine SO.v rfl (opv_assign rfl) ?_
      refine SO.nil ?_
      have ew : IntKind.wrap .i64 (a + j + 1) = a + (j + 1 : Nat) := by
        have : w64 (a + j + 1) = a + j + 1 := w64_id (by omega) (by omega)
        exact this.trans (by omega)
      refine S.bring (H' := Box bt [.int .i64 b] :: Box bv [.iface 25 vb] :: Box bf [.int .i64 a] :: (J (j + 1) ++ [F])) ((back (J (j + 1))).symm.trans (.swap _ _ _)) ?_
      refine S.to (ρ' := [(5, .int .i64 (a + (j + 1 : Nat))), (3, bp bv 0), (2, bp bt 0), (1, bp bf 0), (0, .func (.yield L) #[] #[])]) ⟨by rw [← ew]; rfl, rfl, rfl, rfl, rfl, trivial⟩ ?_
      exact next (by omega)
    · refine S.cond_false rfl ?_
      refine S.exit rfl ?_
      refine S.fin0 Try.func12 rfl (fun w hs hk => ?_)
      refine hR w _ (X (j + 1) ++ [Box bf [.int .i64 a], Box bt [.int .i64 b], Box bv [.iface 25 vb]]) ⟨rfl, .inr ⟨j + 1, by omega, by omega, rfl⟩⟩ (hs.perm ?_) hk
      rw [List.append_assoc]
      exact .append_left _ (.trans (.swap _ _ _) (.trans (.cons _ (.swap _ _ _)) (.swap _ _ _)))
  · have hle : ¬ a + j < b := of_decide_eq_false b1
    refine SO.passF rfl rfl rfl b1 rfl rfl ?_
    refine SO.passF rfl rfl rfl b1 rfl rfl ?_
    refine SO.passF rfl rfl rfl b1 rfl rfl ?_
    refine SO.passF rfl rfl rfl b1 rfl rfl ?_
    refine SO.passF rfl rfl rfl b1 rfl rfl ?_
    refine SO.passF rfl rfl rfl b1 rfl rfl ?_
    refine SO.v rfl (opv_pick_f' b1 rfl rfl) ?_
    refine SO.nil ?_
    refine S.cond_false rfl ?_
    refine S.exit rfl ?_
    refine S.fin0 Try.func12 rfl (fun w hs hk => ?_)
    have ej : j = (b - a).toNat := by omega
    refine hR w _ (J (b - a).toNat ++ [Box bf [.int .i64 a], Box bt [.int .i64 b], Box bv [.iface 25 vb]]) ⟨rfl, .inl rfl⟩ (hs.perm ?_) hk
    rw [← ej, List.append_assoc]
    refine .trans (.swap _ _ _) (.trans (back (J j)) ?_)
    exact .append_left _ (.trans (.swap _ _ _) (.trans (.cons _ (.swap _ _ _)) (.swap _ _ _)))
set_option maxRecDepth 100000 in
set_option maxHeartbeats 8000000 in
theorem range_ct (v : Value) (a b : Int) (h1 : v.oneCell' = true) :
    Ct Try.prog 9 [v, .int .i64 a, .int .i64 b] (fun _ => True) [] (fun u H' => ∃ bv bf bt, u = .func (.func 12) #[] #[bp bf 0, bp bt 0, bp bv 0] ∧ H' = [Box bf [.int .i64 a], Box bt [.int .i64 b], Box bv [v]]) := by
  refine Ct.intro (n := 8) Try.func9 rfl rfl rfl ?_
  intro R w0 F hF hR
  have hc : v.cells.toList = [v] := by cases v <;> first | rfl | simp [Value.oneCell'] at h1
  repeat refine S.seq ?_
  refine S.region ?_
  refine SO.box rfl rfl hc (fun bv => ?_)
  refine SO.box rfl rfl rfl (fun bf => ?_)
  refine SO.box rfl rfl rfl (fun bt => ?_)
  refine SO.v rfl (opv_assign rfl) ?_
  refine SO.nil ?_
  repeat refine S.seq ?_
  refine S.region ?_
  refine SO.v rfl (opv_makeFunc rfl rfl) ?_
  refine SO.v rfl (opv_assign rfl) ?_
  refine SO.nil ?_
  refine S.ret1 Try.func9 rfl rfl (fun w hs hk => hR w _ [Box bf [.int .i64 a], Box bt [.int .i64 b], Box bv [v]] ⟨bv, bf, bt, rfl, rfl⟩ (hs.perm ?_) hk)
  exact .trans (.swap _ _ _) (.refl _)
/-- Where words are unlike, below j. -/
def chgL (a b : List Int) : Nat → List view_Pair_uint64
  | 0 => []
  | j + 1 => if rd_ b j = rd_ a j then chgL a b j else chgL a b j ++ [⟨j, rd_ b j⟩]
theorem chgL_len (a b : List Int) : ∀ j, (chgL a b j).length ≤ j
  | 0 => by simp [chgL]
  | j + 1 => by
    have := chgL_len a b j
    unfold chgL; split
    · omega
    · simp; omega
def view_Changed.f (a0 a1 : List Int) : Option (List view_Pair_uint64) := bif decide (a0.length < 4294967295) && decide (a1.length < 4294967295) then some (chgL a0 a1 (max a0.length a1.length)) else none
/-- A variable that holds a row of one's own. -/
def OutP (b5 : Nat) (xs : List view_Pair_uint64) : HProp := fun m => ∃ v, star (Box b5 [v]) (Own 35 ek_view_Pair_uint64 v xs) m
theorem OutP.open {w : World} {b5 : Nat} {xs : List view_Pair_uint64} {H : List HProp} (h : Sat w (OutP b5 xs :: H)) : ∃ v, Sat w (Box b5 [v] :: Own 35 ek_view_Pair_uint64 v xs :: H) := by
  obtain ⟨m1, m2, d, s1, s2, ⟨v, n1, n2, e, t1, t2, hb, ho⟩, hr⟩ := h
  refine ⟨v, n1, n2.un m2, ?_, t1.trans s1, PH.un_sub (t2.trans s1) s2, hb, n2, m2, d.sub t2 (.refl _), PH.sub_un_l _ _, PH.sub_un_r (d.sub t2 (.refl _)), ho, hr⟩
  exact (PH.Dj.un e.symm ((d.sub t1 (.refl _)).symm)).symm
theorem OutP.close {w : World} {b5 : Nat} {v : Value} {xs : List view_Pair_uint64} {H : List HProp} (h : Sat w (Box b5 [v] :: Own 35 ek_view_Pair_uint64 v xs :: H)) : Sat w (OutP b5 xs :: H) := by
  obtain ⟨m1, m2, d, s1, s2, hb, n1, n2, e, t1, t2, ho, hr⟩ := h
  refine ⟨m1.un n1, n2, ?_, PH.un_sub s1 (t1.trans s2), t2.trans s2, ⟨v, m1, n1, d.sub (.refl _) t1, PH.sub_un_l _ _, PH.sub_un_r (d.sub (.refl _) t1), hb, ho⟩, hr⟩
  exact PH.Dj.un (d.sub (.refl _) t2) e
theorem S.openOut {P : Program} {f : FuncId} {n : Nat} {R : Ending → World → Prop} {w0 : Beg} {k : List Item} {ρ : Env} {b5 : Nat} {xs : List view_Pair_uint64} {H : List HProp} (h : ∀ v, S P f n R w0 k ρ (Box b5 [v] :: Own 35 ek_view_Pair_uint64 v xs :: H)) : S P f n R w0 k ρ (OutP b5 xs :: H) := by
  intro a w h1 h2 h3 h4 h5
  obtain ⟨v, hv⟩ := OutP.open h4
  exact h v a w h1 h2 h3 hv h5
theorem S.closeOut {P : Program} {f : FuncId} {n : Nat} {R : Ending → World → Prop} {w0 : Beg} {k : List Item} {ρ : Env} {b5 : Nat} {v : Value} {xs : List view_Pair_uint64} {H : List HProp} (h : S P f n R w0 k ρ (OutP b5 xs :: H)) : S P f n R w0 k ρ (Box b5 [v] :: Own 35 ek_view_Pair_uint64 v xs :: H) := h.sat fun _ => OutP.close
theorem OutP.start {w : World} {b5 : Nat} {H : List HProp} (h : Sat w (Box b5 [.slice none 0 0] :: H)) : Sat w (OutP b5 [] :: H) := by
  obtain ⟨m1, m2, d, s1, s2, hb, hr⟩ := h
  exact OutP.close (v := .slice none 0 0) ⟨m1, m2, d, s1, s2, hb, fun _ => none, m2, fun _ => .inl rfl, fun _ _ e => (by cases e), .refl _, .inl ⟨rfl, rfl⟩, hr⟩
theorem fold_zip (ps : List Tmp) (vs : List Value) (t : Array Value) : (ps.toArray.zip vs.toArray).foldl (fun tmps (t, a) => tmps.setIfInBounds t a) t = (ps.zip vs).foldl (fun tmps (t, a) => tmps.setIfInBounds t a) t := by simp
open Classical in
theorem permH {l l' : List HProp} (h : ∀ x, l.count x = l'.count x) : l.Perm l' := List.perm_iff_count.2 h
set_option maxRecDepth 100000 in
set_option maxHeartbeats 8000000 in
theorem view_Changed.ct (va vb : Value) (a b : List Int) (r0 : List view_Pair_uint64) (h : view_Changed.f a b = some r0) :
    Ct Try.prog 10 [va, vb] (fun F => Rd (ekI .u64) va a F ∧ Rd (ekI .u64) vb b F) [] (fun u H' => ∃ v, u = v ∧ H' = [Own 35 ek_view_Pair_uint64 v r0]) := by
  refine Ct.intro (n := 30) Try.func10 rfl rfl rfl ?_
  intro R w0 F hF hR
  obtain ⟨hFa, hFb⟩ := hF
  have h1 := Rd.one hFa
  have hca : va.cells.toList = [va] := by cases va <;> first | rfl | simp [Value.oneCell'] at h1
  repeat refine S.seq ?_
  refine S.region ?_
  refine SO.box rfl rfl hca (fun b2 => ?_)
  refine SO.v rfl (opv_assign rfl) ?_
  refine SO.nil ?_
  repeat refine S.seq ?_
  refine S.region ?_
  refine SO.alloc rfl Try.zeroValue32 rfl (fun b5 => ?_)
  refine SO.nil ?_
  repeat refine S.seq ?_
  refine S.region ?_
  refine SO.v rfl (opv_move rfl) ?_
  refine SO.v rfl (opv_iface Try.underlying25 rfl rfl) ?_
  refine SO.bring (List.Perm.swap _ _ _) ?_
  refine SO.load1 rfl (by intro w; kernel_rfl) rfl rfl ?_
  refine SO.v rfl (opv_lenR rfl Try.underlying22 hFa rfl) ?_
  refine SO.v rfl (opv_move rfl) ?_
  refine SO.v rfl (opv_lenR rfl Try.underlying22 hFb rfl) ?_
  refine SO.v rfl (opv_max rfl rfl) ?_
  refine SO.call (pre := []) rfl Try.call9 rfl rfl rfl (range_ct (.iface 25 vb) 0 _ rfl) trivial ?_
  rintro _ _ ⟨bv, bf, bt, rfl, rfl⟩
  refine SO.nil ?_
  repeat refine S.seq ?_
  refine S.block ?_
  refine S.rangeFunc (gf := 12) (caps := [bp bf 0, bp bt 0, bp bv 0]) rfl rfl Try.call12 ?_
  intro L D tmps ht hE r hr w hs hk
  have hlen : a.length < 4294967295 ∧ b.length < 4294967295 ∧ r0 = chgL a b (max a.length b.length) := by
    unfold view_Changed.f at h
    cases hc : (decide (a.length < 4294967295) && decide (b.length < 4294967295)) with
    | false => rw [hc] at h; cases h
    | true =>
      rw [hc, cond_true] at h
      injection h with h
      simp only [Bool.and_eq_true, decide_eq_true_eq] at hc
      exact ⟨hc.1, hc.2, h.symm⟩
  obtain ⟨l1, l2, rfl⟩ := hlen
  have eM : (if (a.length : Int) < b.length then (b.length : Int) else a.length) = max (a.length : Int) b.length := by
    rw [Int.max_def]; split <;> split <;> omega
  rw [eM] at hs
  have J0 : Sat w ([Blk L (.loop r), OutP b5 [], Box b2 [va], F] ++ [Box bf [.int .i64 0], Box bt [.int .i64 (max (a.length : Int) b.length)], Box bv [.iface 25 vb]] ++ [Blk D (.deferred (some []))]) := by
    have q1 := OutP.start (hs.perm (List.perm_middle (l₁ := [_, _, _, _, _, _]) (l₂ := [_])))
    exact q1.perm (permH (by
      intro x
      simp only [List.count_cons, List.count_nil, List.cons_append, List.nil_append]
      omega))
  have hct := range1_ct L bf bt bv 0 (max (a.length : Int) b.length) vb b (fun j => [Blk L (.loop r), OutP b5 (chgL a b j), Box b2 [va], F]) (fun _ => [fun _ => False]) (by decide) (by omega) (fun j A => Rd.tail (Rd.tail (Rd.tail (Rd.head hFb)))) ?_
  · refine (hct w _ trivial J0).mono ?_
    rintro e w' ⟨v, H', rfl, ⟨rfl, hH⟩, hs', hk'⟩
    rcases hH with rfl | ⟨j, hj1, hj2, rfl⟩
    · have hr2 : ({ r with state := .ready, pending := none } : Loop) = r := by subst hr; rfl
      refine ⟨_, .ready, none, [Blk D (.deferred (some [])), OutP b5 (chgL a b (max a.length b.length)), Box b2 [va], F, Box bf [.int .i64 0], Box bt [.int .i64 (max (a.length : Int) b.length)], Box bv [.iface 25 vb]], rfl, by decide, ?_, hk.trans hk', ?_⟩
      · rw [hr2]
        have e1 : ((max (a.length : Int) b.length) - 0).toNat = max a.length b.length := by omega
        rw [e1] at hs'
        exact hs'.perm (permH (by
          intro x
          simp only [List.count_cons, List.count_nil, List.cons_append, List.nil_append]
          omega))
      · refine S.inBlock ?_
        refine S.bring (List.Perm.swap _ _ _) ?_
        refine S.openOut fun v => ?_
        repeat refine S.seq ?_
        refine S.region ?_
        refine SO.load1 rfl Try.isAgg32 rfl rfl ?_
        refine SO.v rfl (opv_assign rfl) ?_
        refine SO.nil ?_
        refine S.b2 ?_
        refine S.ret1M Try.func10 rfl rfl (fun w hs hk => hR w _ [Own 35 ek_view_Pair_uint64 v (chgL a b (max a.length b.length))] ⟨v, rfl, rfl⟩ ?_ hk) rfl
        have q := (hs.perm (l' := [Blk D (.deferred none), Box b5 [v], Box b2 [va], Box bf [.int .i64 0], Box bt [.int .i64 (max (a.length : Int) b.length)], Box bv [.iface 25 vb], Own 35 ek_view_Pair_uint64 v (chgL a b (max a.length b.length)), F]) (permH (by
          intro x
          simp only [List.count_cons, List.count_nil]
          omega)))
        exact q.drop.drop.drop.drop.drop.drop
    · exact (hs'.head).elim fun _ h => h.2.elim
  · intro j hj
    have hr2 : r.state = .ready := by subst hr; rfl
    have hr3 : ({ { r with state := .busy } with state := .ready, pending := none } : Loop) = r := by subst hr; rfl
    refine YCt.intro (n := 30) (ρ0 := [(17, .int .u64 (rd_ b (0 + j))), (16, .int .i64 (0 + j)), (5, bp b5 0), (2, bp b2 0)]) (by subst hr; rfl) hr2 (by subst hr; exact ht) ?_ ?_ ?_
    · subst hr
      rw [show (#[16, 17] : Array Tmp) = [16, 17].toArray from rfl, fold_zip]
      exact (((hE.fit (.of ⟨rfl, rfl, trivial⟩) : EnvOk tmps [(5, bp b5 0), (2, bp b2 0)]).put _ (by omega)).put _ (by rw [Array.size_setIfInBounds]; omega))
    · subst hr
      rw [show (#[16, 17] : Array Tmp) = [16, 17].toArray from rfl, fold_zip]
      simp [ht]
    · intro R' wb F' hR'
      subst hr
      dsimp only
      repeat refine S.seq ?_
      refine S.region ?_
      refine SO.v rfl (opv_assign rfl) ?_
      refine SO.nil ?_
      refine S.region ?_
      refine SO.v rfl (opv_assign rfl) ?_
      refine SO.nil ?_
      refine S.beginRound hr2 ?_
      refine S.block ?_
      repeat refine S.seq ?_
      refine S.region ?_
      refine SO.v rfl (opv_move rfl) ?_
      refine SO.b2 ?_
      refine SO.load1 rfl (by intro w; kernel_rfl) rfl rfl ?_
      refine SO.v rfl (opv_move rfl) ?_
      refine SO.call (pre := []) rfl Try.call6 rfl rfl rfl (view_Plain_Read.ct va a (0 + j) _ (rd_some a (0 + j))) (Rd.tail (Rd.tail (Rd.tail (Rd.head hFa)))) ?_
      rintro _ _ ⟨rfl, rfl⟩
      refine SO.v rfl (opv_neq rfl rfl) ?_
      refine SO.nil ?_
      have ec : chgL a b (j + 1) = if rd_ b j = rd_ a j then chgL a b j else chgL a b j ++ [⟨j, rd_ b j⟩] := rfl
      have e0 : (0 : Int) + j = j := by omega
      rcases bool_or (rd_ b (0 + j) != rd_ a (0 + j)) with c1 | c1
      · have hne : rd_ b j ≠ rd_ a j := by rw [e0] at c1; simpa using c1
        rw [if_neg hne] at ec
        refine S.condT rfl c1 ?_
        refine S.b2 ?_
        refine S.openOut fun v5 => ?_
        refine S.b1 ?_
        refine S.rd fun hr5 => ?_
        refine S.b1 ?_
        repeat refine S.seq ?_
        refine S.region ?_
        refine SO.load1 rfl Try.isAgg32 rfl rfl ?_
        refine SO.v rfl (opv_move rfl) ?_
        refine SO.v rfl (opv_move rfl) ?_
        refine SO.v rfl (opv_build (v := .agg #[.int .i64 (0 + j), .int .u64 (rd_ b (0 + j))]) rfl (by intro w; kernel_rfl)) ?_
        refine SO.buildSlice (K := ek_view_Pair_uint64) (xs := [⟨0 + j, rd_ b (0 + j)⟩]) (cs := [.int .i64 (0 + j), .int .u64 (rd_ b (0 + j))]) rfl Try.underlying32 Try.sizeOf35 Try.zeroValue35 rfl rfl rfl (by kernel_rfl) rfl rfl rfl (fun v6 hr6 => ?_)
        have hlen := chgL_len a b j
        have happ : app (chgL a b j) [(⟨0 + j, rd_ b (0 + j)⟩ : view_Pair_uint64)] = some (chgL a b j ++ [⟨0 + j, rd_ b (0 + j)⟩]) := by
          have e : (chgL a b j).length + ([(⟨0 + j, rd_ b (0 + j)⟩ : view_Pair_uint64)] : List view_Pair_uint64).length ≤ 4294967296 := by
            simp only [List.length_cons, List.length_nil]; omega
          unfold app
          rw [decide_eq_true e]; rfl
        refine SO.b2 ?_
        refine SO.append rfl Try.underlying32 Try.underlying32 inf35 rfl rfl rfl (by decide) rfl rfl rfl (Rd.head hr6) happ (fun v7 => ?_)
        refine SO.rd fun hr7 => ?_
        refine SO.b2 ?_
        refine SO.store1 Try.sizeOf32 rfl rfl (Rd.one hr7) rfl ?_
        refine SO.nil ?_
        refine S.inBlock ?_
        refine S.b2 ?_
        refine S.drop ?_
        refine S.closeOut ?_
        refine S.b1 ?_
        refine S.b1 ?_
        refine S.b2 ?_
        refine S.roundEnd (fun w hs hk => hR' w true (Blk L (.loop _) :: [OutP b5 (chgL a b (j + 1)), Box b2 [va], F]) (.inl ⟨rfl, rfl⟩) ?_ hk)
        rw [ec]
        rw [e0] at hs
        exact hs
      · have heq : rd_ b j = rd_ a j := by rw [e0] at c1; simpa using c1
        rw [if_pos heq] at ec
        refine S.condF rfl c1 ?_
        refine S.skip ?_
        refine S.inBlock ?_
        refine S.b2 ?_
        refine S.b2 ?_
        refine S.roundEnd (fun w hs hk => hR' w true (Blk L (.loop _) :: [OutP b5 (chgL a b (j + 1)), Box b2 [va], F]) (.inl ⟨rfl, rfl⟩) ?_ hk)
        rw [ec]
        exact hs

end Go.Proofs
namespace Go.Proofs
open Go.Sl Go.RowKit
/-! 5 padstone/padstonelaw05.up -/
def law05_up.f : Option (Bool) :=
  (view_Changed.f ([1, 2]) ([1, 3])).bind fun t5 => (view_Plain_Write.f ([7, 8]) 1 9).bind fun q11 => (bif (t5.length : Int) == 1 then ((at_ t5 0).bind fun x17 => some (x17.At == 1)) else (some false)).bind fun c15 => (bif c15 then ((at_ t5 0).bind fun x22 => some (x22.Val == 3)) else (some false)).bind fun c20 => (bif c20 then ((view_Plain_Read.f q11 1).bind fun t27 => some (t27 == 9)) else (some false)).bind fun c25 => (bif c25 then ((view_Plain_Read.f q11 2).bind fun t32 => some (t32 == 0)) else (some false)).bind fun c30 => (bif c30 then ((view_Plain_Read.f q11 (-1)).bind fun t37 => some (t37 == 0)) else (some false)).bind fun c35 => some c35
set_option maxHeartbeats 8000000 in
set_option maxRecDepth 100000 in
theorem law05_up.ct (r0 : Bool) (h : law05_up.f  = some r0) :
    Ct Try.prog 5 [] (fun _ => True) [] (fun u H' => u = .bool r0 ∧ H' = []) := by
  unfold law05_up.f at h
  refine Ct.intro (n := 41) Try.func5 rfl rfl rfl ?_
  intro R w0 F hF hR
  refine S.seq ?_
  refine S.region ?_
  refine SO.v rfl (opv_assign rfl) ?_
  refine SO.nil ?_
  refine S.seq ?_
  refine S.region ?_
  refine SO.buildSlice (K := ekI .u64) (xs := [1, 2]) (cs := [.int .u64 1, .int .u64 2]) rfl Try.underlying22 Try.sizeOf23 Try.zeroValue23 rfl rfl rfl (by kernel_rfl) rfl rfl rfl (fun v1 hr2 => ?_)
  refine SO.buildSlice (K := ekI .u64) (xs := [1, 3]) (cs := [.int .u64 1, .int .u64 3]) rfl Try.underlying22 Try.sizeOf23 Try.zeroValue23 rfl rfl rfl (by kernel_rfl) rfl rfl rfl (fun v3 hr4 => ?_)
  obtain ⟨t5, ht6, h⟩ := opt_bind h
  refine SO.call (pre := []) rfl Try.call10 rfl rfl rfl (view_Changed.ct v1 v3 _ _ _ ht6) ⟨(Rd.tail (Rd.head hr2)), (Rd.head hr4)⟩ ?_
  rintro v7 _ ⟨_, rfl, rfl⟩
  refine SO.rd fun hr8 => ?_
  refine SO.v rfl (opv_assign rfl) ?_
  refine SO.nil ?_
  refine S.seq ?_
  refine S.region ?_
  refine SO.buildSlice (K := ekI .u64) (xs := [7, 8]) (cs := [.int .u64 7, .int .u64 8]) rfl Try.underlying22 Try.sizeOf23 Try.zeroValue23 rfl rfl rfl (by kernel_rfl) rfl rfl rfl (fun v9 hr10 => ?_)
  refine SO.v rfl (opv_assign rfl) ?_
  refine SO.nil ?_
  refine S.seq ?_
  refine S.region ?_
  refine SO.v rfl (opv_move rfl) ?_
  obtain ⟨q11, ht12, h⟩ := opt_bind h
  refine SO.call (pre := [Own _ _ _ _]) rfl Try.call8 rfl rfl rfl (view_Plain_Write.ct v9 _ _ _ _ ht12) trivial ?_
  rintro _ _ ⟨rfl, rfl⟩
  refine SO.rd fun hr13 => ?_
  refine SO.nil ?_
  refine S.seq ?_
  refine S.region ?_
  refine SO.v rfl (opv_move rfl) ?_
  refine SO.v rfl (opv_lenR rfl Try.underlying32 hr8 rfl) ?_
  refine SO.v rfl (opv_eql rfl rfl) ?_
  refine SO.v rfl (opv_move rfl) ?_
  obtain ⟨c15, hc16, hgk⟩ := opt_bind h
  refine SO.cut 6 18 (.bool c15) [Own 23 (ekI .u64) v9 q11, Own 35 ek_view_Pair_uint64 v7 t5, Own 23 (ekI .u64) v3 ([1, 3]), Own 23 (ekI .u64) v1 ([1, 2]), F] (fun l2 hk2 => ?_) ?_
  · clear hgk
    replace h := hc16
    rcases bool_or ((t5.length : Int) == 1) with b14 | b14
    · replace h := cond_t b14 h
      refine SO.takeT rfl rfl rfl b14 ?_
      refine SO.v rfl (opv_move rfl) ?_
      refine SO.takeT rfl rfl rfl b14 ?_
      obtain ⟨x17, hx18, h⟩ := opt_bind h
      refine SO.v rfl (opv_idx Try.underlying32 Try.sizeOf35 hr8 rfl rfl hx18) ?_
      refine SO.takeT rfl rfl rfl b14 ?_
      refine SO.v rfl (opv_fieldIdx Try.underlying35 rfl Try.sizeOf3 hr8 hx18 rfl rfl) ?_
      refine SO.takeT rfl rfl rfl b14 ?_
      refine SO.loadI1 (j := 0) rfl Try.isAgg3 (Rd.tail (Rd.head hr8)) hx18 rfl rfl rfl rfl ?_
      refine SO.takeT rfl rfl rfl b14 ?_
      refine SO.v rfl (opv_eql rfl rfl) ?_
      cases h
      refine SO.v rfl (opv_pick_t' b14 rfl rfl) ?_
      refine SO.b4 ?_
      refine SO.b4 ?_
      refine SO.b4 ?_
      refine SO.b4 ?_
      refine SO.b4 ?_
      exact hk2.fitc (m := 6) rfl (rfl) rfl
    · replace h := cond_f b14 h
      refine SO.passF rfl rfl rfl b14 rfl rfl ?_
      refine SO.passF rfl rfl rfl b14 rfl rfl ?_
      refine SO.passF rfl rfl rfl b14 rfl rfl ?_
      refine SO.passF rfl rfl rfl b14 rfl rfl ?_
      refine SO.passF rfl rfl rfl b14 rfl rfl ?_
      cases h
      refine SO.v rfl (opv_pick_f' b14 rfl rfl) ?_
      refine SO.b4 ?_
      refine SO.b4 ?_
      refine SO.b4 ?_
      refine SO.b4 ?_
      refine SO.b4 ?_
      exact hk2.fitc (m := 6) rfl (rfl) rfl
  clear hc16
  replace h := hgk
  refine SO.v rfl (opv_move rfl) ?_
  obtain ⟨c20, hc21, hgk⟩ := opt_bind h
  refine SO.cut 6 25 (.bool c20) [Own 23 (ekI .u64) v9 q11, Own 35 ek_view_Pair_uint64 v7 t5, Own 23 (ekI .u64) v3 ([1, 3]), Own 23 (ekI .u64) v1 ([1, 2]), F] (fun l2 hk2 => ?_) ?_
  · clear hgk
    replace h := hc21
    rcases bool_or c15 with b19 | b19
    · replace h := cond_t b19 h
      refine SO.takeT rfl rfl rfl b19 ?_
      refine SO.v rfl (opv_move rfl) ?_
      refine SO.takeT rfl rfl rfl b19 ?_
      obtain ⟨x22, hx23, h⟩ := opt_bind h
      refine SO.v rfl (opv_idx Try.underlying32 Try.sizeOf35 hr8 rfl rfl hx23) ?_
      refine SO.takeT rfl rfl rfl b19 ?_
      refine SO.v rfl (opv_fieldIdx Try.underlying35 rfl Try.sizeOf23 hr8 hx23 rfl rfl) ?_
      refine SO.takeT rfl rfl rfl b19 ?_
      refine SO.loadI1 (j := 1) rfl Try.isAgg23 (Rd.tail (Rd.head hr8)) hx23 rfl rfl rfl rfl ?_
      refine SO.takeT rfl rfl rfl b19 ?_
      refine SO.v rfl (opv_eql rfl rfl) ?_
      cases h
      refine SO.v rfl (opv_pick_t' b19 rfl rfl) ?_
      refine SO.b4 ?_
      refine SO.b4 ?_
      refine SO.b4 ?_
      refine SO.b4 ?_
      refine SO.b4 ?_
      exact hk2.fitc (m := 6) rfl (rfl) rfl
    · replace h := cond_f b19 h
      refine SO.passF rfl rfl rfl b19 rfl rfl ?_
      refine SO.passF rfl rfl rfl b19 rfl rfl ?_
      refine SO.passF rfl rfl rfl b19 rfl rfl ?_
      refine SO.passF rfl rfl rfl b19 rfl rfl ?_
      refine SO.passF rfl rfl rfl b19 rfl rfl ?_
      cases h
      refine SO.v rfl (opv_pick_f' b19 rfl rfl) ?_
      refine SO.b4 ?_
      refine SO.b4 ?_
      refine SO.b4 ?_
      refine SO.b4 ?_
      refine SO.b4 ?_
      exact hk2.fitc (m := 6) rfl (rfl) rfl
  clear hc21
  replace h := hgk
  refine SO.v rfl (opv_move rfl) ?_
  obtain ⟨c25, hc26, hgk⟩ := opt_bind h
  refine SO.cut 4 30 (.bool c25) [Own 23 (ekI .u64) v9 q11, Own 35 ek_view_Pair_uint64 v7 t5, Own 23 (ekI .u64) v3 ([1, 3]), Own 23 (ekI .u64) v1 ([1, 2]), F] (fun l2 hk2 => ?_) ?_
  · clear hgk
    replace h := hc26
    rcases bool_or c20 with b24 | b24
    · replace h := cond_t b24 h
      refine SO.takeT rfl rfl rfl b24 ?_
      refine SO.v rfl (opv_move rfl) ?_
      refine SO.takeT rfl rfl rfl b24 ?_
      obtain ⟨t27, ht28, h⟩ := opt_bind h
      refine SO.call (pre := []) rfl Try.call6 rfl rfl rfl (view_Plain_Read.ct v9 _ _ _ ht28) (Rd.head hr13) ?_
      rintro _ _ ⟨rfl, rfl⟩
      refine SO.takeT rfl rfl rfl b24 ?_
      refine SO.v rfl (opv_eql rfl rfl) ?_
      cases h
      refine SO.v rfl (opv_pick_t' b24 rfl rfl) ?_
      refine SO.b4 ?_
      refine SO.b4 ?_
      refine SO.b4 ?_
      refine SO.b4 ?_
      refine SO.b4 ?_
      exact hk2.fitc (m := 4) rfl (rfl) rfl
    · replace h := cond_f b24 h
      refine SO.passF rfl rfl rfl b24 rfl rfl ?_
      refine SO.passF rfl rfl rfl b24 rfl rfl ?_
      refine SO.passF rfl rfl rfl b24 rfl rfl ?_
      cases h
      refine SO.v rfl (opv_pick_f' b24 rfl rfl) ?_
      refine SO.b4 ?_
      refine SO.b4 ?_
      refine SO.b4 ?_
      refine SO.b4 ?_
      refine SO.b4 ?_
      exact hk2.fitc (m := 4) rfl (rfl) rfl
  clear hc26
  replace h := hgk
  refine SO.v rfl (opv_move rfl) ?_
  obtain ⟨c30, hc31, hgk⟩ := opt_bind h
  refine SO.cut 4 35 (.bool c30) [Own 23 (ekI .u64) v9 q11, Own 35 ek_view_Pair_uint64 v7 t5, Own 23 (ekI .u64) v3 ([1, 3]), Own 23 (ekI .u64) v1 ([1, 2]), F] (fun l2 hk2 => ?_) ?_
  · clear hgk
    replace h := hc31
    rcases bool_or c25 with b29 | b29
    · replace h := cond_t b29 h
      refine SO.takeT rfl rfl rfl b29 ?_
      refine SO.v rfl (opv_move rfl) ?_
      refine SO.takeT rfl rfl rfl b29 ?_
      obtain ⟨t32, ht33, h⟩ := opt_bind h
      refine SO.call (pre := []) rfl Try.call6 rfl rfl rfl (view_Plain_Read.ct v9 _ _ _ ht33) (Rd.head hr13) ?_
      rintro _ _ ⟨rfl, rfl⟩
      refine SO.takeT rfl rfl rfl b29 ?_
      refine SO.v rfl (opv_eql rfl rfl) ?_
      cases h
      refine SO.v rfl (opv_pick_t' b29 rfl rfl) ?_
      refine SO.b4 ?_
      refine SO.b4 ?_
      refine SO.b4 ?_
      refine SO.b4 ?_
      refine SO.b4 ?_
      exact hk2.fitc (m := 4) rfl (rfl) rfl
    · replace h := cond_f b29 h
      refine SO.passF rfl rfl rfl b29 rfl rfl ?_
      refine SO.passF rfl rfl rfl b29 rfl rfl ?_
      refine SO.passF rfl rfl rfl b29 rfl rfl ?_
      cases h
      refine SO.v rfl (opv_pick_f' b29 rfl rfl) ?_
      refine SO.b4 ?_
      refine SO.b4 ?_
      refine SO.b4 ?_
      refine SO.b4 ?_
      refine SO.b4 ?_
      exact hk2.fitc (m := 4) rfl (rfl) rfl
  clear hc31
  replace h := hgk
  refine SO.v rfl (opv_move rfl) ?_
  obtain ⟨c35, hc36, hgk⟩ := opt_bind h
  refine SO.cut 4 40 (.bool c35) [Own 23 (ekI .u64) v9 q11, Own 35 ek_view_Pair_uint64 v7 t5, Own 23 (ekI .u64) v3 ([1, 3]), Own 23 (ekI .u64) v1 ([1, 2]), F] (fun l2 hk2 => ?_) ?_
  · clear hgk
    replace h := hc36
    rcases bool_or c30 with b34 | b34
    · replace h := cond_t b34 h
      refine SO.takeT rfl rfl rfl b34 ?_
      refine SO.v rfl (opv_move rfl) ?_
      refine SO.takeT rfl rfl rfl b34 ?_
      obtain ⟨t37, ht38, h⟩ := opt_bind h
      refine SO.call (pre := []) rfl Try.call6 rfl rfl rfl (view_Plain_Read.ct v9 _ _ _ ht38) (Rd.head hr13) ?_
      rintro _ _ ⟨rfl, rfl⟩
      refine SO.takeT rfl rfl rfl b34 ?_
      refine SO.v rfl (opv_eql rfl rfl) ?_
      cases h
      refine SO.v rfl (opv_pick_t' b34 rfl rfl) ?_
      refine SO.b4 ?_
      refine SO.b4 ?_
      refine SO.b4 ?_
      refine SO.b4 ?_
      refine SO.b4 ?_
      exact hk2.fitc (m := 4) rfl (rfl) rfl
    · replace h := cond_f b34 h
      refine SO.passF rfl rfl rfl b34 rfl rfl ?_
      refine SO.passF rfl rfl rfl b34 rfl rfl ?_
      refine SO.passF rfl rfl rfl b34 rfl rfl ?_
      cases h
      refine SO.v rfl (opv_pick_f' b34 rfl rfl) ?_
      refine SO.b4 ?_
      refine SO.b4 ?_
      refine SO.b4 ?_
      refine SO.b4 ?_
      refine SO.b4 ?_
      exact hk2.fitc (m := 4) rfl (rfl) rfl
  clear hc36
  replace h := hgk
  refine SO.v rfl (opv_assign rfl) ?_
  refine SO.nil ?_
  refine S.to (ρ' := [(0, .bool c35)]) ⟨rfl, trivial⟩ ?_
  cases h
  refine S.drop ?_
  refine S.drop ?_
  refine S.drop ?_
  refine S.drop ?_
  exact S.ret1 Try.func5 rfl rfl (fun w hs hk => hR w _ _ ⟨rfl, rfl⟩ hs hk)
end Go.Proofs
namespace Go.Proofs
open Go.Sl Go.RowKit
/-! 4 padstone/padstonelaw05.ViewChanges -/
def law05_ViewChanges.l2 (a0 : List Int) : Nat → (Int × (List Int)) → Option ((List Int))
  | 0, _ => none
  | k + 1, (x8_2, qv6_2) => bif decide (x8_2 < (a0.length : Int)) then ((at_ a0 x8_2).bind fun x12 => (view_Plain_Write.f qv6_2 x8_2 x12).bind fun q14 => law05_ViewChanges.l2 a0 k (w64 (x8_2 + 1), q14)) else (some qv6_2)
def law05_ViewChanges.l3 (a0 : List Int) (j6_1 : Int) (t18 : List view_Pair_uint64) : Nat → (Int × (List Int)) → Option (Brk Bool (List Int))
  | 0, _ => none
  | k + 1, (x10_3, qv6_3) => bif decide (x10_3 < (t18.length : Int)) then (((at_ t18 x10_3).bind fun x24 => bif decide (x24.At < 0) then (some true) else ((at_ t18 x10_3).bind fun x27 => bif decide (j6_1 ≤ x27.At) then (some true) else (bif decide (0 < x10_3) then ((at_ t18 x10_3).bind fun x31 => (at_ t18 (w64 (x10_3 - 1))).bind fun x33 => bif decide (x31.At ≤ x33.At) then (some true) else ((at_ t18 x10_3).bind fun x36 => (law05_at.f a0 x36.At).bind fun t38 => (at_ t18 x10_3).bind fun x40 => some (t38 == x40.Val))) else ((at_ t18 x10_3).bind fun x42 => (law05_at.f a0 x42.At).bind fun t44 => (at_ t18 x10_3).bind fun x46 => some (t44 == x46.Val))))).bind fun j101_4 => bif j101_4 then (some (Brk.ret false)) else ((at_ t18 x10_3).bind fun x49 => (at_ t18 x10_3).bind fun x51 => (view_Plain_Write.f qv6_3 x49.At x51.Val).bind fun q53 => law05_ViewChanges.l3 a0 j6_1 t18 k (w64 (x10_3 + 1), q53))) else (some (Brk.nx qv6_3))
def law05_ViewChanges.l5 (a1 : List Int) (j6_1 : Int) (qv6_e3 : List Int) : Nat → Int → Option (Brk Bool Unit)
  | 0, _ => none
  | k + 1, x11_5 => bif decide (x11_5 < j6_1) then ((view_Plain_Read.f qv6_e3 x11_5).bind fun t59 => (law05_at.f a1 x11_5).bind fun t61 => bif t59 != t61 then (some (Brk.ret false)) else (law05_ViewChanges.l5 a1 j6_1 qv6_e3 k (w64 (x11_5 + 1)))) else (some (Brk.nx ()))
def law05_ViewChanges.f (k : Nat) (a0 : List Int) (a1 : List Int) : Option (Bool) :=
  (law05_up.f ).bind fun t1 => bif (decide (200 < (a0.length : Int))) || (decide (200 < (a1.length : Int))) then (some t1) else ((bif decide ((a0.length : Int) < (a1.length : Int)) then (some (a1.length : Int)) else (some (a0.length : Int))).bind fun j6_1 => (mk_ 0 j6_1).bind fun xs8 => (law05_ViewChanges.l2 a0 k (0, xs8)).bind fun qv6_e2 => (view_Changed.f a0 a1).bind fun t18 => (law05_ViewChanges.l3 a0 j6_1 t18 k (0, qv6_e2)).bind fun o3 => Brk.go o3 (fun r => some r) (fun qv6_e3 => (law05_ViewChanges.l5 a1 j6_1 qv6_e3 k 0).bind fun o5 => Brk.go o5 (fun r => some r) (fun _ => some t1)))
set_option maxHeartbeats 8000000 in
set_option maxRecDepth 100000 in
theorem law05_ViewChanges.ct (k : Nat) (v0 : Value) (v1 : Value) (a0 : List Int) (a1 : List Int) (r0 : Bool) (h : law05_ViewChanges.f k a0 a1 = some r0) :
    Ct Try.prog 4 [v0, v1] (fun F => Rd (ekI .u64) v0 a0 F ∧ Rd (ekI .u64) v1 a1 F) [] (fun u H' => u = .bool r0 ∧ H' = []) := by
  unfold law05_ViewChanges.f at h
  refine Ct.intro (n := 127) Try.func4 rfl rfl rfl ?_
  intro R w0 F hF hR
  obtain ⟨hF0, hF1⟩ := hF
  refine S.seq ?_
  refine S.region ?_
  refine SO.v rfl (opv_assign rfl) ?_
  refine SO.nil ?_
  refine S.seq ?_
  refine S.region ?_
  obtain ⟨t1, ht2, h⟩ := opt_bind h
  refine SO.call (pre := []) rfl Try.call5 rfl rfl rfl (law05_up.ct _ ht2) trivial ?_
  rintro _ _ ⟨rfl, rfl⟩
  refine SO.v rfl (opv_assign rfl) ?_
  refine SO.nil ?_
  refine S.seq ?_
  refine S.seq ?_
  refine S.region ?_
  refine SO.v rfl (opv_move rfl) ?_
  refine SO.v rfl (opv_lenR rfl Try.underlying22 hF0 rfl) ?_
  refine SO.v rfl (opv_gtr rfl rfl) ?_
  refine SO.v rfl (opv_move rfl) ?_
  refine SO.cut 4 20 (.bool ((decide (200 < (a0.length : Int))) || (decide (200 < (a1.length : Int))))) [F] (fun l2 hk2 => ?_) ?_
  · rcases bool_or (decide (200 < (a0.length : Int))) with b3 | b3
    · refine SO.passF rfl rfl rfl b3 rfl rfl ?_
      refine SO.passF rfl rfl rfl b3 rfl rfl ?_
      refine SO.passF rfl rfl rfl b3 rfl rfl ?_
      refine SO.v rfl (opv_pick_t' b3 rfl rfl) ?_
      exact hk2.fitc (m := 4) rfl (or_t b3) rfl
    · refine SO.takeT rfl rfl rfl b3 ?_
      refine SO.v rfl (opv_move rfl) ?_
      refine SO.takeT rfl rfl rfl b3 ?_
      refine SO.v rfl (opv_lenR rfl Try.underlying22 hF1 rfl) ?_
      refine SO.takeT rfl rfl rfl b3 ?_
      refine SO.v rfl (opv_gtr rfl rfl) ?_
      refine SO.v rfl (opv_pick_f' b3 rfl rfl) ?_
      exact hk2.fitc (m := 4) rfl (or_f b3) rfl
  refine SO.nil ?_
  rcases bool_or ((decide (200 < (a0.length : Int))) || (decide (200 < (a1.length : Int)))) with b4 | b4
  · replace h := cond_t b4 h
    refine S.condT rfl b4 ?_
    refine S.seq ?_
    refine S.region ?_
    refine SO.v rfl (opv_move rfl) ?_
    refine SO.v rfl (opv_assign rfl) ?_
    refine SO.nil ?_
    refine S.to (ρ' := [(4, .bool t1)]) ⟨rfl, trivial⟩ ?_
    cases h
    exact S.ret1 Try.func4 rfl rfl (fun w hs hk => hR w _ _ ⟨rfl, rfl⟩ hs hk)
  · replace h := cond_f b4 h
    refine S.condF rfl b4 ?_
    refine S.skip ?_
    refine S.seq ?_
    refine S.region ?_
    refine SO.v rfl (opv_move rfl) ?_
    refine SO.v rfl (opv_lenR rfl Try.underlying22 hF0 rfl) ?_
    refine SO.v rfl (opv_assign rfl) ?_
    refine SO.nil ?_
    refine S.to (ρ' := [(0, v0), (1, v1), (4, .bool false), (5, .bool t1), (6, .int .i64 (a0.length : Int))]) ⟨rfl, rfl, rfl, rfl, rfl, trivial⟩ ?_
    refine S.seq ?_
    refine S.seq ?_
    refine S.region ?_
    refine SO.v rfl (opv_move rfl) ?_
    refine SO.v rfl (opv_lenR rfl Try.underlying22 hF1 rfl) ?_
    refine SO.v rfl (opv_move rfl) ?_
    refine SO.v rfl (opv_gtr rfl rfl) ?_
    refine SO.nil ?_
    obtain ⟨j6_1, hC1, hJ1⟩ := opt_bind h
    clear h
    refine S.cutP (G := Unit) (fun _ => True) (fun _ => [(0, v0), (1, v1), (4, .bool false), (5, .bool t1), (6, .int .i64 j6_1)]) (fun _ => [F]) (fun hk1 => ?_) ?_
    · replace h := hC1
      rcases bool_or (decide ((a0.length : Int) < (a1.length : Int))) with b5 | b5
      · replace h := cond_t b5 h
        refine S.condT rfl b5 ?_
        refine S.region ?_
        refine SO.v rfl (opv_move rfl) ?_
        refine SO.v rfl (opv_lenR rfl Try.underlying22 hF1 rfl) ?_
        refine SO.v rfl (opv_assign rfl) ?_
        refine SO.nil ?_
        cases h
        refine S.to ?_ (hk1 () trivial)
        exact ⟨rfl, rfl, rfl, rfl, rfl, trivial⟩
      · replace h := cond_f b5 h
        refine S.condF rfl b5 ?_
        refine S.skip ?_
        cases h
        refine S.to ?_ (hk1 () trivial)
        exact ⟨rfl, rfl, rfl, rfl, rfl, trivial⟩
    rintro _ -
    replace h := hJ1
    refine S.seq ?_
    refine S.region ?_
    refine SO.v rfl (opv_move rfl) ?_
    obtain ⟨xs8, hx9, h⟩ := opt_bind h
    refine SO.makeSlice (K := ekI .u64) rfl Try.underlying22 inf23 rfl rfl rfl (by decide) rfl rfl rfl hx9 (fun v6 hr7 => ?_)
    refine SO.v rfl (opv_assign rfl) ?_
    refine SO.nil ?_
    refine S.seq ?_
    refine S.seq ?_
    refine S.region ?_
    refine SO.v rfl (opv_assign rfl) ?_
    refine SO.nil ?_
    obtain ⟨qv6_e2, hl2, h⟩ := opt_bind h
    refine S.b1 ?_
    refine S.b1 ?_
    refine S.to (ρ' := [(8, .int .i64 0), (7, v6), (0, v0), (1, v1), (4, .bool false), (5, .bool t1), (6, .int .i64 j6_1)]) ⟨rfl, rfl, rfl, rfl, rfl, rfl, rfl, trivial⟩ ?_
    refine S.forloop (X := (Int × (List Int)) × Unit) (O := (List Int)) (fun m x => law05_ViewChanges.l2 a0 m x.1) (fun x => match x with | ((x8_2, qv6_2), _) => [(8, .int .i64 x8_2), (7, v6), (0, v0), (1, v1), (4, .bool false), (5, .bool t1), (6, .int .i64 j6_1)]) (fun x => match x with | ((x8_2, qv6_2), _) => [Own 23 (ekI .u64) v6 qv6_2, F]) (fun Sk => (fun qv6_e2 => ∀ _ : Unit, Sk [(0, v0), (1, v1), (4, .bool false), (5, .bool t1), (6, .int .i64 j6_1), (7, v6)] [Own 23 (ekI .u64) v6 qv6_e2, F])) (fun _ => rfl) ?_ (m := k) (x := ((0, xs8), ())) hl2 ?_
    · clear h hl2
      intro k x o_2 h hK2 ih2
      obtain ⟨⟨x8_2, qv6_2⟩, _⟩ := x
      replace h : law05_ViewChanges.l2 a0 (k + 1) (x8_2, qv6_2) = some o_2 := h
      first | rw [law05_ViewChanges.l2] at h | unfold law05_ViewChanges.l2 at h
      refine S.rd fun hr10 => ?_
      refine S.seq ?_
      refine S.seq ?_
      refine S.region ?_
      refine SO.v rfl (opv_move rfl) ?_
      refine SO.v rfl (opv_move rfl) ?_
      refine SO.v rfl (opv_lenR rfl Try.underlying22 hF0 rfl) ?_
      refine SO.v rfl (opv_lss rfl rfl) ?_
      refine SO.nil ?_
      rcases bool_or (decide (x8_2 < (a0.length : Int))) with b11 | b11
      · replace h := cond_t b11 h
        refine S.condT rfl b11 ?_
        refine S.skip ?_
        refine S.seq ?_
        refine S.block ?_
        refine S.region ?_
        refine SO.v rfl (opv_move rfl) ?_
        refine SO.v rfl (opv_move rfl) ?_
        refine SO.v rfl (opv_move rfl) ?_
        refine SO.v rfl (opv_move rfl) ?_
        obtain ⟨x12, hx13, h⟩ := opt_bind h
        refine SO.v rfl (opv_idx Try.underlying22 Try.sizeOf23 hF0 rfl rfl hx13) ?_
        refine SO.loadI1 (j := 0) rfl Try.isAgg23 (Rd.tail (Rd.head hF0)) hx13 rfl rfl rfl rfl ?_
        obtain ⟨q14, ht15, h⟩ := opt_bind h
        refine SO.call (pre := [Own _ _ _ _]) rfl Try.call8 rfl rfl rfl (view_Plain_Write.ct v6 _ _ _ _ ht15) trivial ?_
        rintro _ _ ⟨rfl, rfl⟩
        refine SO.rd fun hr16 => ?_
        refine SO.nil ?_
        refine S.to (ρ' := [(8, .int .i64 x8_2), (7, v6), (0, v0), (1, v1), (4, .bool false), (5, .bool t1), (6, .int .i64 j6_1)]) ⟨rfl, rfl, rfl, rfl, rfl, rfl, rfl, trivial⟩ ?_
        refine S.inBlock ?_
        refine S.region ?_
        refine SO.v rfl (opv_move rfl) ?_
        refine SO.v rfl (opv_add rfl rfl) ?_
        refine SO.v rfl (opv_assign rfl) ?_
        refine SO.nil ?_
        refine S.b1 ?_
        refine S.b1 ?_
        refine S.to ?_ (ih2 ((w64 (x8_2 + 1), q14), ()) h)
        exact ⟨rfl, rfl, rfl, rfl, rfl, rfl, rfl, trivial⟩
      · replace h := cond_f b11 h
        refine S.condF rfl b11 ?_
        refine S.exit rfl ?_
        cases h
        refine S.b1 ?_
        refine S.b1 ?_
        refine S.to ?_ (hK2 ())
        exact ⟨rfl, rfl, rfl, rfl, rfl, rfl, trivial⟩
    rintro _
    refine S.rd fun hr17 => ?_
    refine S.seq ?_
    refine S.region ?_
    refine SO.v rfl (opv_move rfl) ?_
    refine SO.v rfl (opv_move rfl) ?_
    obtain ⟨t18, ht19, h⟩ := opt_bind h
    refine SO.call (pre := []) rfl Try.call10 rfl rfl rfl (view_Changed.ct v0 v1 _ _ _ ht19) ⟨(Rd.tail (Rd.head hF0)), (Rd.tail (Rd.head hF1))⟩ ?_
    rintro v20 _ ⟨_, rfl, rfl⟩
    refine SO.rd fun hr21 => ?_
    refine SO.v rfl (opv_assign rfl) ?_
    refine SO.nil ?_
    refine S.seq ?_
    refine S.seq ?_
    refine S.region ?_
    refine SO.v rfl (opv_assign rfl) ?_
    refine SO.nil ?_
    obtain ⟨o3, hl3, h⟩ := opt_bind h
    refine S.b2 ?_
    refine S.b2 ?_
    refine S.b2 ?_
    refine S.to (ρ' := [(10, .int .i64 0), (9, v20), (0, v0), (1, v1), (4, .bool false), (5, .bool t1), (6, .int .i64 j6_1), (7, v6)]) ⟨rfl, rfl, rfl, rfl, rfl, rfl, rfl, rfl, trivial⟩ ?_
    refine S.forloop (X := (Int × (List Int)) × Unit) (O := Brk Bool (List Int)) (fun m x => law05_ViewChanges.l3 a0 j6_1 t18 m x.1) (fun x => match x with | ((x10_3, qv6_3), _) => [(10, .int .i64 x10_3), (9, v20), (0, v0), (1, v1), (4, .bool false), (5, .bool t1), (6, .int .i64 j6_1), (7, v6)]) (fun x => match x with | ((x10_3, qv6_3), _) => [Own 35 ek_view_Pair_uint64 v20 t18, Own 23 (ekI .u64) v6 qv6_3, F]) (fun Sk o' => (∀ r', o' = Brk.ret r' → some r' = some r0) ∧ ∀ qv6_e3 : (List Int), ∀ _ : Unit, o' = Brk.nx qv6_e3 → Sk [(1, v1), (4, .bool false), (5, .bool t1), (6, .int .i64 j6_1), (7, v6)] [Own 35 ek_view_Pair_uint64 v20 t18, Own 23 (ekI .u64) v6 qv6_e3, F]) (fun _ => rfl) ?_ (m := k) (x := ((0, qv6_e2), ())) hl3 ?_
    · clear h hl3
      intro k x o_3 h hK3 ih3
      obtain ⟨⟨x10_3, qv6_3⟩, _⟩ := x
      replace h : law05_ViewChanges.l3 a0 j6_1 t18 (k + 1) (x10_3, qv6_3) = some o_3 := h
      first | rw [law05_ViewChanges.l3] at h | unfold law05_ViewChanges.l3 at h
      refine S.b1 ?_
      refine S.rd fun hr22 => ?_
      refine S.seq ?_
      refine S.seq ?_
      refine S.region ?_
      refine SO.v rfl (opv_move rfl) ?_
      refine SO.v rfl (opv_move rfl) ?_
      refine SO.v rfl (opv_lenR rfl Try.underlying32 hr21 rfl) ?_
      refine SO.v rfl (opv_lss rfl rfl) ?_
      refine SO.nil ?_
      rcases bool_or (decide (x10_3 < (t18.length : Int))) with b23 | b23
      · replace h := cond_t b23 h
        refine S.condT rfl b23 ?_
        refine S.skip ?_
        refine S.seq ?_
        refine S.block ?_
        refine S.seq ?_
        refine S.seq ?_
        obtain ⟨j101_4, hC4, hJ4⟩ := opt_bind h
        clear h
        refine S.cutP (G := Unit) (fun _ => True) (fun _ => [(0, v0), (1, v1), (4, .bool false), (5, .bool t1), (6, .int .i64 j6_1), (7, v6), (9, v20), (10, .int .i64 x10_3), (101, .bool j101_4)]) (fun _ => [Own 23 (ekI .u64) v6 qv6_3, Own 35 ek_view_Pair_uint64 v20 t18, F]) (fun hk4 => ?_) ?_
        · replace h := hC4
          obtain ⟨x24, hx25, h⟩ := opt_bind h
          rcases bool_or (decide (x24.At < 0)) with b26 | b26
          · replace h := cond_t b26 h
            refine S.draw' (Z := fun Q => ∀ (_ : Unit) (_ : Unit) (_ : Unit) (_ : Unit) (_ : Unit) (_ : Unit) (_ : Unit) (_ : Unit) (_ : Unit), Q [(10, .int .i64 x10_3), (9, v20), (0, v0), (1, v1), (4, .bool false), (5, .bool t1), (7, v6), (6, .int .i64 j6_1), (101, .bool true)] [Own 23 (ekI .u64) v6 qv6_3, Own 35 ek_view_Pair_uint64 v20 t18, F]) (T := [tS 9 (v20), tS 10 (.int .i64 x10_3), tS 6 (.int .i64 j6_1), tS 0 (v0), tE [(1, v1), (4, .bool false), (5, .bool t1), (7, v6)], tR (Own 23 (ekI .u64) v6 qv6_3), tR (Own 35 ek_view_Pair_uint64 v20 t18), tR (F), tS 54 (v20), tS 55 (.int .i64 x10_3), tS 56 (idxp v20 (x10_3.toNat * ek_view_Pair_uint64.sz)), tS 57 (idxp v20 (x10_3.toNat * ek_view_Pair_uint64.sz)), tS 58 (.int .i64 x24.At), tS 59 (.bool (decide (x24.At < 0))), tS 60 (.bool (decide (x24.At < 0))), tS 61 (undef), tS 62 (undef), tS 63 (undef), tS 64 (undef), tS 65 (undef), tS 66 (undef), tS 67 (undef), tS 68 (.bool true), tS 69 (.bool true), tS 70 (undef), tS 71 (undef), tS 72 (undef), tS 73 (undef), tS 74 (undef), tS 75 (undef), tS 76 (undef), tS 77 (undef), tS 78 (undef), tS 79 (undef), tS 80 (undef), tS 81 (undef), tS 82 (undef), tS 83 (undef), tS 84 (undef), tS 85 (undef), tS 86 (.bool true), tS 87 (.bool true), tS 88 (undef), tS 89 (undef), tS 90 (undef), tS 91 (undef), tS 92 (undef), tS 93 (undef), tS 94 (undef), tS 95 (undef), tS 96 (undef), tS 97 (undef), tS 98 (undef), tS 99 (undef), tS 100 (undef), tS 101 (.bool true)]) (D := [⟨[0], [], [8]⟩, ⟨[1], [], [9]⟩, ⟨[8, 9, 6], [], [10]⟩, ⟨[10, 6], [], [11]⟩, ⟨[11, 6], [], [12]⟩, ⟨[12], [], [13]⟩, ⟨[13], [], [14]⟩, ⟨[14], [], [15]⟩, ⟨[14], [], [16]⟩, ⟨[14], [], [17]⟩, ⟨[14], [], [18]⟩, ⟨[14], [], [19]⟩, ⟨[14], [], [20]⟩, ⟨[14], [], [21]⟩, ⟨[14, 21], [], [22]⟩, ⟨[22], [], [23]⟩, ⟨[23], [], [24]⟩, ⟨[23], [], [25]⟩, ⟨[23], [], [26]⟩, ⟨[26], [], [27]⟩, ⟨[26], [], [28]⟩, ⟨[26], [], [29]⟩, ⟨[26], [], [30]⟩, ⟨[26], [], [31]⟩, ⟨[26], [], [32]⟩, ⟨[26], [], [33]⟩, ⟨[26], [], [34]⟩, ⟨[26], [], [35]⟩, ⟨[26], [], [36]⟩, ⟨[26], [], [37]⟩, ⟨[26], [], [38]⟩, ⟨[23], [], [39]⟩, ⟨[23, 39], [], [40]⟩, ⟨[40], [], [41]⟩, ⟨[41], [], [42]⟩, ⟨[41], [], [43]⟩, ⟨[41], [], [44]⟩, ⟨[41], [], [45]⟩, ⟨[41], [], [46]⟩, ⟨[41], [], [47]⟩, ⟨[41], [], [48]⟩, ⟨[41], [], [49]⟩, ⟨[41], [], [50]⟩, ⟨[41], [], [51]⟩, ⟨[41], [], [52]⟩, ⟨[41], [], [53]⟩, ⟨[41], [], [54]⟩, ⟨[41, 54], [], [55]⟩]) (ini := [0, 1, 2, 3, 4, 5, 6, 7]) (fin := [1, 0, 3, 4, 2, 55, 5, 6, 7]) (bf := [[], [], [0, 1], [0, 1, 2], [0, 1, 2, 3], [0, 1, 2, 3, 4], [0, 1, 2, 3, 4, 5], [0, 1, 2, 3, 4, 5, 6], [0, 1, 2, 3, 4, 5, 6], [0, 1, 2, 3, 4, 5, 6, 7, 8], [0, 1, 2, 3, 4, 5, 6, 7, 8, 9], [0, 1, 2, 3, 4, 5, 6, 7, 8, 9, 10], [0, 1, 2, 3, 4, 5, 6], [0, 1, 2, 3, 4, 5, 6, 7, 8, 9, 10, 11, 12], [0, 1, 2, 3, 4, 5, 6, 7, 8, 9, 10, 11, 12, 13], [0, 1, 2, 3, 4, 5, 6, 7, 8, 9, 10, 11, 12, 13, 14], [0, 1, 2, 3, 4, 5, 6, 7, 8, 9, 10, 11, 12, 13, 14, 15], [0, 1, 2, 3, 4, 5, 6, 7, 8, 9, 10, 11, 12, 13, 14, 15, 16], [0, 1, 2, 3, 4, 5, 6, 7, 8, 9, 10, 11, 12, 13, 14, 15, 16, 17], [0, 1, 2, 3, 4, 5, 6, 7, 8, 9, 10, 11, 12, 13, 14, 15, 16, 17, 18], [0, 1, 2, 3, 4, 5, 6, 7, 8, 9, 10, 11, 12, 13, 14, 15, 16, 17, 18], [0, 1, 2, 3, 4, 5, 6, 7, 8, 9, 10, 11, 12, 13, 14, 15, 16, 17, 18, 19, 20], [0, 1, 2, 3, 4, 5, 6, 7, 8, 9, 10, 11, 12, 13, 14, 15, 16, 17, 18, 19, 20, 21], [0, 1, 2, 3, 4, 5, 6, 7, 8, 9, 10, 11, 12, 13, 14, 15, 16, 17, 18, 19, 20, 21, 22], [0, 1, 2, 3, 4, 5, 6, 7, 8, 9, 10, 11, 12, 13, 14, 15, 16, 17, 18], [0, 1, 2, 3, 4, 5, 6, 7, 8, 9, 10, 11, 12, 13, 14, 15, 16, 17, 18], [0, 1, 2, 3, 4, 5, 6, 7, 8, 9, 10, 11, 12, 13, 14, 15, 16, 17, 18, 25], [0, 1, 2, 3, 4, 5, 6, 7, 8, 9, 10, 11, 12, 13, 14, 15, 16, 17, 18, 24, 25, 26], [0, 1, 2, 3, 4, 5, 6, 7, 8, 9, 10, 11, 12, 13, 14, 15, 16, 17, 18, 24, 25, 26, 27], [0, 1, 2, 3, 4, 5, 6, 7, 8, 9, 10, 11, 12, 13, 14, 15, 16, 17, 18, 24, 25, 26, 27, 28], [0, 1, 2, 3, 4, 5, 6, 7, 8, 9, 10, 11, 12, 13, 14, 15, 16, 17, 18, 19, 20, 21, 22, 23, 24, 25, 26, 27, 28, 29], [0, 1, 2, 3, 4, 5, 6, 7, 8, 9, 10, 11, 12, 13, 14, 15, 16, 17, 18, 19, 20, 21, 22, 23, 24, 25, 26, 27, 28, 29, 30], [0, 1, 2, 3, 4, 5, 6, 7, 8, 9, 10, 11, 12, 13, 14, 15, 16, 17, 18, 19, 20, 21, 22, 23, 24, 25, 26, 27, 28, 29, 30, 31], [0, 1, 2, 3, 4, 5, 6, 7, 8, 9, 10, 11, 12, 13, 14, 15, 16, 17, 18, 19, 20, 21, 22, 23, 24, 25, 26, 27, 28, 29, 30, 31, 32], [0, 1, 2, 3, 4, 5, 6, 7, 8, 9, 10, 11, 12, 13, 14, 15, 16, 17, 18, 19, 20, 21, 22, 23, 24, 25, 26, 27, 28, 29, 30, 31, 32, 33], [0, 1, 2, 3, 4, 5, 6, 7, 8, 9, 10, 11, 12, 13, 14, 15, 16, 17, 18, 19, 20, 21, 22, 23, 24, 25, 26, 27, 28, 29, 30, 31, 32, 33], [0, 1, 2, 3, 4, 5, 6, 7, 8, 9, 10, 11, 12, 13, 14, 15, 16, 17, 18, 19, 20, 21, 22, 23, 24, 25, 26, 27, 28, 29, 30, 31, 32, 33], [0, 1, 2, 3, 4, 5, 6, 7, 8, 9, 10, 11, 12, 13, 14, 15, 16, 17, 18, 19, 20, 21, 22, 23, 24, 25, 26, 27, 28, 29, 30, 31, 32, 33, 35, 36], [0, 1, 2, 3, 4, 5, 6, 7, 8, 9, 10, 11, 12, 13, 14, 15, 16, 17, 18, 19, 20, 21, 22, 23, 24, 25, 26, 27, 28, 29, 30, 31, 32, 33, 35, 36, 37], [0, 1, 2, 3, 4, 5, 6, 7, 8, 9, 10, 11, 12, 13, 14, 15, 16, 17, 18, 19, 20, 21, 22, 23, 24, 25, 26, 27, 28, 29, 30, 31, 32, 33, 35, 36, 37, 38], [0, 1, 2, 3, 4, 5, 6, 7, 8, 9, 10, 11, 12, 13, 14, 15, 16, 17, 18, 19, 20, 21, 22, 23, 24, 25, 26, 27, 28, 29, 30, 31, 32, 33, 34, 35, 36, 37, 38, 39], [0, 1, 2, 3, 4, 5, 6, 7, 8, 9, 10, 11, 12, 13, 14, 15, 16, 17, 18, 19, 20, 21, 22, 23, 24, 25, 26, 27, 28, 29, 30, 31, 32, 33], [0, 1, 2, 3, 4, 5, 6, 7, 8, 9, 10, 11, 12, 13, 14, 15, 16, 17, 18, 19, 20, 21, 22, 23, 24, 25, 26, 27, 28, 29, 30, 31, 32, 33], [0, 1, 2, 3, 4, 5, 6, 7, 8, 9, 10, 11, 12, 13, 14, 15, 16, 17, 18, 19, 20, 21, 22, 23, 24, 25, 26, 27, 28, 29, 30, 31, 32, 33, 41, 42], [0, 1, 2, 3, 4, 5, 6, 7, 8, 9, 10, 11, 12, 13, 14, 15, 16, 17, 18, 19, 20, 21, 22, 23, 24, 25, 26, 27, 28, 29, 30, 31, 32, 33, 41, 42, 43], [0, 1, 2, 3, 4, 5, 6, 7, 8, 9, 10, 11, 12, 13, 14, 15, 16, 17, 18, 19, 20, 21, 22, 23, 24, 25, 26, 27, 28, 29, 30, 31, 32, 33, 41, 42, 43, 44], [0, 1, 2, 3, 4, 5, 6, 7, 8, 9, 10, 11, 12, 13, 14, 15, 16, 17, 18, 19, 20, 21, 22, 23, 24, 25, 26, 27, 28, 29, 30, 31, 32, 33, 34, 35, 36, 37, 38, 39, 40, 41, 42, 43, 44, 45], [0, 1, 2, 3, 4, 5, 6, 7, 8, 9, 10, 11, 12, 13, 14, 15, 16, 17, 18, 19, 20, 21, 22, 23, 24, 25, 26, 27, 28, 29, 30, 31, 32, 33, 34, 35, 36, 37, 38, 39, 40, 41, 42, 43, 44, 45, 46]]) (by kernel_rfl) (by kernel_rfl) (fun x w h1 h2 => (.cons () (.cons () (.cons () (.cons () (.cons () (.cons () (.cons () (.cons () (.nil ⟨EnvAll.of h1 ⟨rfl, rfl, rfl, rfl, rfl, rfl, rfl, rfl, trivial⟩, h2⟩)))))))))) (fun Q => by kernel_rfl) ⟨?_, ?_, ?_, ?_, ?_, ?_, ?_, ?_, ?_, ?_, ?_, ?_, ?_, ?_, ?_, ?_, ?_, ?_, ?_, ?_, ?_, ?_, ?_, ?_, ?_, ?_, ?_, ?_, ?_, ?_, ?_, ?_, ?_, ?_, ?_, ?_, ?_, ?_, ?_, ?_, ?_, ?_, ?_, ?_, ?_, ?_, ?_, ?_, trivial⟩ ?_
            · rintro Fr _
              refine SO.v rfl (opv_move rfl) ?_
              exact SO.nilZ fun a w h1 h2 h3 h4 h5 => PZ.of h1 h3 h5 (.cons () (.cons () (.nil ⟨EnvAll.of h2 ⟨rfl, rfl, trivial⟩, h4⟩)))
            · rintro Fr _
              refine SO.v rfl (opv_move rfl) ?_
              exact SO.nilZ fun a w h1 h2 h3 h4 h5 => PZ.of h1 h3 h5 (.cons () (.cons () (.nil ⟨EnvAll.of h2 ⟨rfl, rfl, trivial⟩, h4⟩)))
            · rintro Fr _ _ _
              refine SO.v rfl (opv_idx Try.underlying32 Try.sizeOf35 hr21 rfl rfl hx25) ?_
              exact SO.nilZ fun a w h1 h2 h3 h4 h5 => PZ.of h1 h3 h5 (.cons () (.cons () (.cons () (.cons () (.nil ⟨EnvAll.of h2 ⟨rfl, rfl, rfl, trivial⟩, h4⟩)))))
            · rintro Fr _ _
              refine SO.v rfl (opv_fieldIdx Try.underlying35 rfl Try.sizeOf3 hr21 hx25 rfl rfl) ?_
              exact SO.nilZ fun a w h1 h2 h3 h4 h5 => PZ.of h1 h3 h5 (.cons () (.cons () (.cons () (.nil ⟨EnvAll.of h2 ⟨rfl, rfl, trivial⟩, h4⟩))))
            · rintro Fr _ _
              refine SO.loadI1 (j := 0) rfl Try.isAgg3 (Rd.head hr21) hx25 rfl rfl rfl rfl ?_
              exact SO.nilZ fun a w h1 h2 h3 h4 h5 => PZ.of h1 h3 h5 (.cons () (.cons () (.cons () (.nil ⟨EnvAll.of h2 ⟨rfl, rfl, trivial⟩, h4⟩))))
            · rintro Fr _
              refine SO.v rfl (opv_lss rfl rfl) ?_
              exact SO.nilZ fun a w h1 h2 h3 h4 h5 => PZ.of h1 h3 h5 (.cons () (.cons () (.nil ⟨EnvAll.of h2 ⟨rfl, rfl, trivial⟩, h4⟩)))
            · rintro Fr _
              refine SO.v rfl (opv_move rfl) ?_
              exact SO.nilZ fun a w h1 h2 h3 h4 h5 => PZ.of h1 h3 h5 (.cons () (.cons () (.nil ⟨EnvAll.of h2 ⟨rfl, rfl, trivial⟩, h4⟩)))
            · rintro Fr _
              refine SO.passF rfl rfl rfl b26 rfl rfl ?_
              exact SO.nilZ fun a w h1 h2 h3 h4 h5 => PZ.of h1 h3 h5 (.cons () (.cons () (.nil ⟨EnvAll.of h2 ⟨rfl, rfl, trivial⟩, h4⟩)))
            · rintro Fr _
              refine SO.passF rfl rfl rfl b26 rfl rfl ?_
              exact SO.nilZ fun a w h1 h2 h3 h4 h5 => PZ.of h1 h3 h5 (.cons () (.cons () (.nil ⟨EnvAll.of h2 ⟨rfl, rfl, trivial⟩, h4⟩)))
            · rintro Fr _
              refine SO.passF rfl rfl rfl b26 rfl rfl ?_
              exact SO.nilZ fun a w h1 h2 h3 h4 h5 => PZ.of h1 h3 h5 (.cons () (.cons () (.nil ⟨EnvAll.of h2 ⟨rfl, rfl, trivial⟩, h4⟩)))
            · rintro Fr _
              refine SO.passF rfl rfl rfl b26 rfl rfl ?_
              exact SO.nilZ fun a w h1 h2 h3 h4 h5 => PZ.of h1 h3 h5 (.cons () (.cons () (.nil ⟨EnvAll.of h2 ⟨rfl, rfl, trivial⟩, h4⟩)))
            · rintro Fr _
              refine SO.passF rfl rfl rfl b26 rfl rfl ?_
              exact SO.nilZ fun a w h1 h2 h3 h4 h5 => PZ.of h1 h3 h5 (.cons () (.cons () (.nil ⟨EnvAll.of h2 ⟨rfl, rfl, trivial⟩, h4⟩)))
            · rintro Fr _
              refine SO.passF rfl rfl rfl b26 rfl rfl ?_
              exact SO.nilZ fun a w h1 h2 h3 h4 h5 => PZ.of h1 h3 h5 (.cons () (.cons () (.nil ⟨EnvAll.of h2 ⟨rfl, rfl, trivial⟩, h4⟩)))
            · rintro Fr _
              refine SO.passF rfl rfl rfl b26 rfl rfl ?_
              exact SO.nilZ fun a w h1 h2 h3 h4 h5 => PZ.of h1 h3 h5 (.cons () (.cons () (.nil ⟨EnvAll.of h2 ⟨rfl, rfl, trivial⟩, h4⟩)))
            · rintro Fr _ _
              refine SO.v rfl (opv_pick_t' b26 rfl rfl) ?_
              exact SO.nilZ fun a w h1 h2 h3 h4 h5 => PZ.of h1 h3 h5 (.cons () (.cons () (.cons () (.nil ⟨EnvAll.of h2 ⟨rfl, rfl, rfl, trivial⟩, h4⟩))))
            · rintro Fr _
              refine SO.v rfl (opv_move rfl) ?_
              exact SO.nilZ fun a w h1 h2 h3 h4 h5 => PZ.of h1 h3 h5 (.cons () (.cons () (.nil ⟨EnvAll.of h2 ⟨rfl, rfl, trivial⟩, h4⟩)))
            · rintro Fr _
              refine SO.passF rfl rfl rfl rfl rfl rfl ?_
              exact SO.nilZ fun a w h1 h2 h3 h4 h5 => PZ.of h1 h3 h5 (.cons () (.cons () (.nil ⟨EnvAll.of h2 ⟨rfl, rfl, trivial⟩, h4⟩)))
            · rintro Fr _
              refine SO.passF rfl rfl rfl rfl rfl rfl ?_
              exact SO.nilZ fun a w h1 h2 h3 h4 h5 => PZ.of h1 h3 h5 (.cons () (.cons () (.nil ⟨EnvAll.of h2 ⟨rfl, rfl, trivial⟩, h4⟩)))
            · rintro Fr _
              refine SO.passF rfl rfl rfl rfl rfl rfl ?_
              exact SO.nilZ fun a w h1 h2 h3 h4 h5 => PZ.of h1 h3 h5 (.cons () (.cons () (.nil ⟨EnvAll.of h2 ⟨rfl, rfl, trivial⟩, h4⟩)))
            · rintro Fr _
              refine SO.pass_undef rfl rfl rfl rfl ?_
              exact SO.nilZ fun a w h1 h2 h3 h4 h5 => PZ.of h1 h3 h5 (.cons () (.cons () (.nil ⟨EnvAll.of h2 ⟨rfl, rfl, trivial⟩, h4⟩)))
            · rintro Fr _
              refine SO.pass_undef rfl rfl rfl rfl ?_
              exact SO.nilZ fun a w h1 h2 h3 h4 h5 => PZ.of h1 h3 h5 (.cons () (.cons () (.nil ⟨EnvAll.of h2 ⟨rfl, rfl, trivial⟩, h4⟩)))
            · rintro Fr _
              refine SO.pass_undef rfl rfl rfl rfl ?_
              exact SO.nilZ fun a w h1 h2 h3 h4 h5 => PZ.of h1 h3 h5 (.cons () (.cons () (.nil ⟨EnvAll.of h2 ⟨rfl, rfl, trivial⟩, h4⟩)))
            · rintro Fr _
              refine SO.pass_undef rfl rfl rfl rfl ?_
              exact SO.nilZ fun a w h1 h2 h3 h4 h5 => PZ.of h1 h3 h5 (.cons () (.cons () (.nil ⟨EnvAll.of h2 ⟨rfl, rfl, trivial⟩, h4⟩)))
            · rintro Fr _
              refine SO.pass_undef rfl rfl rfl rfl ?_
              exact SO.nilZ fun a w h1 h2 h3 h4 h5 => PZ.of h1 h3 h5 (.cons () (.cons () (.nil ⟨EnvAll.of h2 ⟨rfl, rfl, trivial⟩, h4⟩)))
            · rintro Fr _
              refine SO.pass_undef rfl rfl rfl rfl ?_
              exact SO.nilZ fun a w h1 h2 h3 h4 h5 => PZ.of h1 h3 h5 (.cons () (.cons () (.nil ⟨EnvAll.of h2 ⟨rfl, rfl, trivial⟩, h4⟩)))
            · rintro Fr _
              refine SO.pass_undef rfl rfl rfl rfl ?_
              exact SO.nilZ fun a w h1 h2 h3 h4 h5 => PZ.of h1 h3 h5 (.cons () (.cons () (.nil ⟨EnvAll.of h2 ⟨rfl, rfl, trivial⟩, h4⟩)))
            · rintro Fr _
              refine SO.pass_undef rfl rfl rfl rfl ?_
              exact SO.nilZ fun a w h1 h2 h3 h4 h5 => PZ.of h1 h3 h5 (.cons () (.cons () (.nil ⟨EnvAll.of h2 ⟨rfl, rfl, trivial⟩, h4⟩)))
            · rintro Fr _
              refine SO.pass_undef rfl rfl rfl rfl ?_
              exact SO.nilZ fun a w h1 h2 h3 h4 h5 => PZ.of h1 h3 h5 (.cons () (.cons () (.nil ⟨EnvAll.of h2 ⟨rfl, rfl, trivial⟩, h4⟩)))
            · rintro Fr _
              refine SO.pass_undef rfl rfl rfl rfl ?_
              exact SO.nilZ fun a w h1 h2 h3 h4 h5 => PZ.of h1 h3 h5 (.cons () (.cons () (.nil ⟨EnvAll.of h2 ⟨rfl, rfl, trivial⟩, h4⟩)))
            · rintro Fr _
              refine SO.pass_undef rfl rfl rfl rfl ?_
              exact SO.nilZ fun a w h1 h2 h3 h4 h5 => PZ.of h1 h3 h5 (.cons () (.cons () (.nil ⟨EnvAll.of h2 ⟨rfl, rfl, trivial⟩, h4⟩)))
            · rintro Fr _
              refine SO.pass_undef rfl rfl rfl rfl ?_
              exact SO.nilZ fun a w h1 h2 h3 h4 h5 => PZ.of h1 h3 h5 (.cons () (.cons () (.nil ⟨EnvAll.of h2 ⟨rfl, rfl, trivial⟩, h4⟩)))
            · rintro Fr _
              refine SO.passF rfl rfl rfl rfl rfl rfl ?_
              exact SO.nilZ fun a w h1 h2 h3 h4 h5 => PZ.of h1 h3 h5 (.cons () (.cons () (.nil ⟨EnvAll.of h2 ⟨rfl, rfl, trivial⟩, h4⟩)))
            · rintro Fr _ _
              refine SO.v rfl (opv_pick_tt rfl rfl) ?_
              exact SO.nilZ fun a w h1 h2 h3 h4 h5 => PZ.of h1 h3 h5 (.cons () (.cons () (.cons () (.nil ⟨EnvAll.of h2 ⟨rfl, rfl, rfl, trivial⟩, h4⟩))))
            · rintro Fr _
              refine SO.v rfl (opv_move rfl) ?_
              exact SO.nilZ fun a w h1 h2 h3 h4 h5 => PZ.of h1 h3 h5 (.cons () (.cons () (.nil ⟨EnvAll.of h2 ⟨rfl, rfl, trivial⟩, h4⟩)))
            · rintro Fr _
              refine SO.passF rfl rfl rfl rfl rfl rfl ?_
              exact SO.nilZ fun a w h1 h2 h3 h4 h5 => PZ.of h1 h3 h5 (.cons () (.cons () (.nil ⟨EnvAll.of h2 ⟨rfl, rfl, trivial⟩, h4⟩)))
            · rintro Fr _
              refine SO.passF rfl rfl rfl rfl rfl rfl ?_
              exact SO.nilZ fun a w h1 h2 h3 h4 h5 => PZ.of h1 h3 h5 (.cons () (.cons () (.nil ⟨EnvAll.of h2 ⟨rfl, rfl, trivial⟩, h4⟩)))
            · rintro Fr _
              refine SO.passF rfl rfl rfl rfl rfl rfl ?_
              exact SO.nilZ fun a w h1 h2 h3 h4 h5 => PZ.of h1 h3 h5 (.cons () (.cons () (.nil ⟨EnvAll.of h2 ⟨rfl, rfl, trivial⟩, h4⟩)))
            · rintro Fr _
              refine SO.passF rfl rfl rfl rfl rfl rfl ?_
              exact SO.nilZ fun a w h1 h2 h3 h4 h5 => PZ.of h1 h3 h5 (.cons () (.cons () (.nil ⟨EnvAll.of h2 ⟨rfl, rfl, trivial⟩, h4⟩)))
            · rintro Fr _
              refine SO.passF rfl rfl rfl rfl rfl rfl ?_
              exact SO.nilZ fun a w h1 h2 h3 h4 h5 => PZ.of h1 h3 h5 (.cons () (.cons () (.nil ⟨EnvAll.of h2 ⟨rfl, rfl, trivial⟩, h4⟩)))
            · rintro Fr _
              refine SO.passF rfl rfl rfl rfl rfl rfl ?_
              exact SO.nilZ fun a w h1 h2 h3 h4 h5 => PZ.of h1 h3 h5 (.cons () (.cons () (.nil ⟨EnvAll.of h2 ⟨rfl, rfl, trivial⟩, h4⟩)))
            · rintro Fr _
              refine SO.passF rfl rfl rfl rfl rfl rfl ?_
              exact SO.nilZ fun a w h1 h2 h3 h4 h5 => PZ.of h1 h3 h5 (.cons () (.cons () (.nil ⟨EnvAll.of h2 ⟨rfl, rfl, trivial⟩, h4⟩)))
            · rintro Fr _
              refine SO.passF rfl rfl rfl rfl rfl rfl ?_
              exact SO.nilZ fun a w h1 h2 h3 h4 h5 => PZ.of h1 h3 h5 (.cons () (.cons () (.nil ⟨EnvAll.of h2 ⟨rfl, rfl, trivial⟩, h4⟩)))
            · rintro Fr _
              refine SO.passF rfl rfl rfl rfl rfl rfl ?_
              exact SO.nilZ fun a w h1 h2 h3 h4 h5 => PZ.of h1 h3 h5 (.cons () (.cons () (.nil ⟨EnvAll.of h2 ⟨rfl, rfl, trivial⟩, h4⟩)))
            · rintro Fr _
              refine SO.passF rfl rfl rfl rfl rfl rfl ?_
              exact SO.nilZ fun a w h1 h2 h3 h4 h5 => PZ.of h1 h3 h5 (.cons () (.cons () (.nil ⟨EnvAll.of h2 ⟨rfl, rfl, trivial⟩, h4⟩)))
            · rintro Fr _
              refine SO.passF rfl rfl rfl rfl rfl rfl ?_
              exact SO.nilZ fun a w h1 h2 h3 h4 h5 => PZ.of h1 h3 h5 (.cons () (.cons () (.nil ⟨EnvAll.of h2 ⟨rfl, rfl, trivial⟩, h4⟩)))
            · rintro Fr _
              refine SO.passF rfl rfl rfl rfl rfl rfl ?_
              exact SO.nilZ fun a w h1 h2 h3 h4 h5 => PZ.of h1 h3 h5 (.cons () (.cons () (.nil ⟨EnvAll.of h2 ⟨rfl, rfl, trivial⟩, h4⟩)))
            · rintro Fr _
              refine SO.passF rfl rfl rfl rfl rfl rfl ?_
              exact SO.nilZ fun a w h1 h2 h3 h4 h5 => PZ.of h1 h3 h5 (.cons () (.cons () (.nil ⟨EnvAll.of h2 ⟨rfl, rfl, trivial⟩, h4⟩)))
            · rintro Fr _ _
              refine SO.v rfl (opv_pick_tt rfl rfl) ?_
              exact SO.nilZ fun a w h1 h2 h3 h4 h5 => PZ.of h1 h3 h5 (.cons () (.cons () (.cons () (.nil ⟨EnvAll.of h2 ⟨rfl, rfl, rfl, trivial⟩, h4⟩))))
            rintro _ _ _ _ _ _ _ _ _
            refine S.to (ρ' := [(10, .int .i64 x10_3), (9, v20), (0, v0), (1, v1), (4, .bool false), (5, .bool t1), (7, v6), (6, .int .i64 j6_1), (101, .bool true)]) ⟨rfl, rfl, rfl, rfl, rfl, rfl, rfl, rfl, rfl, trivial⟩ ?_
            cases h
            refine S.b2 ?_
            refine S.b2 ?_
            refine S.b2 ?_
            refine S.to ?_ (hk4 () trivial)
            exact ⟨rfl, rfl, rfl, rfl, rfl, rfl, rfl, rfl, rfl, trivial⟩
          · replace h := cond_f b26 h
            obtain ⟨x27, hx28, h⟩ := opt_bind h
            rcases bool_or (decide (j6_1 ≤ x27.At)) with b29 | b29
            · replace h := cond_t b29 h
              refine S.draw' (Z := fun Q => ∀ (_ : Unit) (_ : Unit) (_ : Unit) (_ : Unit) (_ : Unit) (_ : Unit) (_ : Unit) (_ : Unit) (_ : Unit), Q [(10, .int .i64 x10_3), (9, v20), (0, v0), (1, v1), (4, .bool false), (5, .bool t1), (7, v6), (6, .int .i64 j6_1), (101, .bool true)] [Own 23 (ekI .u64) v6 qv6_3, Own 35 ek_view_Pair_uint64 v20 t18, F]) (T := [tS 9 (v20), tS 10 (.int .i64 x10_3), tS 6 (.int .i64 j6_1), tS 0 (v0), tE [(1, v1), (4, .bool false), (5, .bool t1), (7, v6)], tR (Own 23 (ekI .u64) v6 qv6_3), tR (Own 35 ek_view_Pair_uint64 v20 t18), tR (F), tS 54 (v20), tS 55 (.int .i64 x10_3), tS 56 (idxp v20 (x10_3.toNat * ek_view_Pair_uint64.sz)), tS 57 (idxp v20 (x10_3.toNat * ek_view_Pair_uint64.sz)), tS 58 (.int .i64 x24.At), tS 59 (.bool (decide (x24.At < 0))), tS 60 (.bool (decide (x24.At < 0))), tS 61 (v20), tS 62 (.int .i64 x10_3), tS 63 (idxp v20 (x10_3.toNat * ek_view_Pair_uint64.sz)), tS 64 (idxp v20 (x10_3.toNat * ek_view_Pair_uint64.sz)), tS 65 (.int .i64 x27.At), tS 66 (.int .i64 j6_1), tS 67 (.bool (decide (j6_1 ≤ x27.At))), tS 68 (.bool (decide (j6_1 ≤ x27.At))), tS 69 (.bool (decide (j6_1 ≤ x27.At))), tS 70 (undef), tS 71 (undef), tS 72 (undef), tS 73 (undef), tS 74 (undef), tS 75 (undef), tS 76 (undef), tS 77 (undef), tS 78 (undef), tS 79 (undef), tS 80 (undef), tS 81 (undef), tS 82 (undef), tS 83 (undef), tS 84 (undef), tS 85 (undef), tS 86 (.bool true), tS 87 (.bool true), tS 88 (undef), tS 89 (undef), tS 90 (undef), tS 91 (undef), tS 92 (undef), tS 93 (undef), tS 94 (undef), tS 95 (undef), tS 96 (undef), tS 97 (undef), tS 98 (undef), tS 99 (undef), tS 100 (undef), tS 101 (.bool true)]) (D := [⟨[0], [], [8]⟩, ⟨[1], [], [9]⟩, ⟨[8, 9, 6], [], [10]⟩, ⟨[10, 6], [], [11]⟩, ⟨[11, 6], [], [12]⟩, ⟨[12], [], [13]⟩, ⟨[13], [], [14]⟩, ⟨[0, 14], [], [15]⟩, ⟨[1, 14], [], [16]⟩, ⟨[14, 15, 16, 6], [], [17]⟩, ⟨[14, 17, 6], [], [18]⟩, ⟨[14, 18, 6], [], [19]⟩, ⟨[2, 14], [], [20]⟩, ⟨[14, 19, 20], [], [21]⟩, ⟨[14, 21], [], [22]⟩, ⟨[22], [], [23]⟩, ⟨[23], [], [24]⟩, ⟨[23], [], [25]⟩, ⟨[23], [], [26]⟩, ⟨[26], [], [27]⟩, ⟨[26], [], [28]⟩, ⟨[26], [], [29]⟩, ⟨[26], [], [30]⟩, ⟨[26], [], [31]⟩, ⟨[26], [], [32]⟩, ⟨[26], [], [33]⟩, ⟨[26], [], [34]⟩, ⟨[26], [], [35]⟩, ⟨[26], [], [36]⟩, ⟨[26], [], [37]⟩, ⟨[26], [], [38]⟩, ⟨[23], [], [39]⟩, ⟨[23, 39], [], [40]⟩, ⟨[40], [], [41]⟩, ⟨[41], [], [42]⟩, ⟨[41], [], [43]⟩, ⟨[41], [], [44]⟩, ⟨[41], [], [45]⟩, ⟨[41], [], [46]⟩, ⟨[41], [], [47]⟩, ⟨[41], [], [48]⟩, ⟨[41], [], [49]⟩, ⟨[41], [], [50]⟩, ⟨[41], [], [51]⟩, ⟨[41], [], [52]⟩, ⟨[41], [], [53]⟩, ⟨[41], [], [54]⟩, ⟨[41, 54], [], [55]⟩]) (ini := [0, 1, 2, 3, 4, 5, 6, 7]) (fin := [1, 0, 3, 4, 2, 55, 5, 6, 7]) (bf := [[], [], [0, 1], [0, 1, 2], [0, 1, 2, 3], [0, 1, 2, 3, 4], [0, 1, 2, 3, 4, 5], [0, 1, 2, 3, 4, 5, 6], [0, 1, 2, 3, 4, 5, 6], [0, 1, 2, 3, 4, 5, 6, 7, 8], [0, 1, 2, 3, 4, 5, 6, 7, 8, 9], [0, 1, 2, 3, 4, 5, 6, 7, 8, 9, 10], [0, 1, 2, 3, 4, 5, 6], [0, 1, 2, 3, 4, 5, 6, 7, 8, 9, 10, 11, 12], [0, 1, 2, 3, 4, 5, 6, 7, 8, 9, 10, 11, 12, 13], [0, 1, 2, 3, 4, 5, 6, 7, 8, 9, 10, 11, 12, 13, 14], [0, 1, 2, 3, 4, 5, 6, 7, 8, 9, 10, 11, 12, 13, 14, 15], [0, 1, 2, 3, 4, 5, 6, 7, 8, 9, 10, 11, 12, 13, 14, 15, 16], [0, 1, 2, 3, 4, 5, 6, 7, 8, 9, 10, 11, 12, 13, 14, 15, 16, 17], [0, 1, 2, 3, 4, 5, 6, 7, 8, 9, 10, 11, 12, 13, 14, 15, 16, 17, 18], [0, 1, 2, 3, 4, 5, 6, 7, 8, 9, 10, 11, 12, 13, 14, 15, 16, 17, 18], [0, 1, 2, 3, 4, 5, 6, 7, 8, 9, 10, 11, 12, 13, 14, 15, 16, 17, 18, 19, 20], [0, 1, 2, 3, 4, 5, 6, 7, 8, 9, 10, 11, 12, 13, 14, 15, 16, 17, 18, 19, 20, 21], [0, 1, 2, 3, 4, 5, 6, 7, 8, 9, 10, 11, 12, 13, 14, 15, 16, 17, 18, 19, 20, 21, 22], [0, 1, 2, 3, 4, 5, 6, 7, 8, 9, 10, 11, 12, 13, 14, 15, 16, 17, 18], [0, 1, 2, 3, 4, 5, 6, 7, 8, 9, 10, 11, 12, 13, 14, 15, 16, 17, 18], [0, 1, 2, 3, 4, 5, 6, 7, 8, 9, 10, 11, 12, 13, 14, 15, 16, 17, 18, 25], [0, 1, 2, 3, 4, 5, 6, 7, 8, 9, 10, 11, 12, 13, 14, 15, 16, 17, 18, 24, 25, 26], [0, 1, 2, 3, 4, 5, 6, 7, 8, 9, 10, 11, 12, 13, 14, 15, 16, 17, 18, 24, 25, 26, 27], [0, 1, 2, 3, 4, 5, 6, 7, 8, 9, 10, 11, 12, 13, 14, 15, 16, 17, 18, 24, 25, 26, 27, 28], [0, 1, 2, 3, 4, 5, 6, 7, 8, 9, 10, 11, 12, 13, 14, 15, 16, 17, 18, 19, 20, 21, 22, 23, 24, 25, 26, 27, 28, 29], [0, 1, 2, 3, 4, 5, 6, 7, 8, 9, 10, 11, 12, 13, 14, 15, 16, 17, 18, 19, 20, 21, 22, 23, 24, 25, 26, 27, 28, 29, 30], [0, 1, 2, 3, 4, 5, 6, 7, 8, 9, 10, 11, 12, 13, 14, 15, 16, 17, 18, 19, 20, 21, 22, 23, 24, 25, 26, 27, 28, 29, 30, 31], [0, 1, 2, 3, 4, 5, 6, 7, 8, 9, 10, 11, 12, 13, 14, 15, 16, 17, 18, 19, 20, 21, 22, 23, 24, 25, 26, 27, 28, 29, 30, 31, 32], [0, 1, 2, 3, 4, 5, 6, 7, 8, 9, 10, 11, 12, 13, 14, 15, 16, 17, 18, 19, 20, 21, 22, 23, 24, 25, 26, 27, 28, 29, 30, 31, 32, 33], [0, 1, 2, 3, 4, 5, 6, 7, 8, 9, 10, 11, 12, 13, 14, 15, 16, 17, 18, 19, 20, 21, 22, 23, 24, 25, 26, 27, 28, 29, 30, 31, 32, 33], [0, 1, 2, 3, 4, 5, 6, 7, 8, 9, 10, 11, 12, 13, 14, 15, 16, 17, 18, 19, 20, 21, 22, 23, 24, 25, 26, 27, 28, 29, 30, 31, 32, 33], [0, 1, 2, 3, 4, 5, 6, 7, 8, 9, 10, 11, 12, 13, 14, 15, 16, 17, 18, 19, 20, 21, 22, 23, 24, 25, 26, 27, 28, 29, 30, 31, 32, 33, 35, 36], [0, 1, 2, 3, 4, 5, 6, 7, 8, 9, 10, 11, 12, 13, 14, 15, 16, 17, 18, 19, 20, 21, 22, 23, 24, 25, 26, 27, 28, 29, 30, 31, 32, 33, 35, 36, 37], [0, 1, 2, 3, 4, 5, 6, 7, 8, 9, 10, 11, 12, 13, 14, 15, 16, 17, 18, 19, 20, 21, 22, 23, 24, 25, 26, 27, 28, 29, 30, 31, 32, 33, 35, 36, 37, 38], [0, 1, 2, 3, 4, 5, 6, 7, 8, 9, 10, 11, 12, 13, 14, 15, 16, 17, 18, 19, 20, 21, 22, 23, 24, 25, 26, 27, 28, 29, 30, 31, 32, 33, 34, 35, 36, 37, 38, 39], [0, 1, 2, 3, 4, 5, 6, 7, 8, 9, 10, 11, 12, 13, 14, 15, 16, 17, 18, 19, 20, 21, 22, 23, 24, 25, 26, 27, 28, 29, 30, 31, 32, 33], [0, 1, 2, 3, 4, 5, 6, 7, 8, 9, 10, 11, 12, 13, 14, 15, 16, 17, 18, 19, 20, 21, 22, 23, 24, 25, 26, 27, 28, 29, 30, 31, 32, 33], [0, 1, 2, 3, 4, 5, 6, 7, 8, 9, 10, 11, 12, 13, 14, 15, 16, 17, 18, 19, 20, 21, 22, 23, 24, 25, 26, 27, 28, 29, 30, 31, 32, 33, 41, 42], [0, 1, 2, 3, 4, 5, 6, 7, 8, 9, 10, 11, 12, 13, 14, 15, 16, 17, 18, 19, 20, 21, 22, 23, 24, 25, 26, 27, 28, 29, 30, 31, 32, 33, 41, 42, 43], [0, 1, 2, 3, 4, 5, 6, 7, 8, 9, 10, 11, 12, 13, 14, 15, 16, 17, 18, 19, 20, 21, 22, 23, 24, 25, 26, 27, 28, 29, 30, 31, 32, 33, 41, 42, 43, 44], [0, 1, 2, 3, 4, 5, 6, 7, 8, 9, 10, 11, 12, 13, 14, 15, 16, 17, 18, 19, 20, 21, 22, 23, 24, 25, 26, 27, 28, 29, 30, 31, 32, 33, 34, 35, 36, 37, 38, 39, 40, 41, 42, 43, 44, 45], [0, 1, 2, 3, 4, 5, 6, 7, 8, 9, 10, 11, 12, 13, 14, 15, 16, 17, 18, 19, 20, 21, 22, 23, 24, 25, 26, 27, 28, 29, 30, 31, 32, 33, 34, 35, 36, 37, 38, 39, 40, 41, 42, 43, 44, 45, 46]]) (by kernel_rfl) (by kernel_rfl) (fun x w h1 h2 => (.cons () (.cons () (.cons () (.cons () (.cons () (.cons () (.cons () (.cons () (.nil ⟨EnvAll.of h1 ⟨rfl, rfl, rfl, rfl, rfl, rfl, rfl, rfl, trivial⟩, h2⟩)))))))))) (fun Q => by kernel_rfl) ⟨?_, ?_, ?_, ?_, ?_, ?_, ?_, ?_, ?_, ?_, ?_, ?_, ?_, ?_, ?_, ?_, ?_, ?_, ?_, ?_, ?_, ?_, ?_, ?_, ?_, ?_, ?_, ?_, ?_, ?_, ?_, ?_, ?_, ?_, ?_, ?_, ?_, ?_, ?_, ?_, ?_, ?_, ?_, ?_, ?_, ?_, ?_, ?_, trivial⟩ ?_
              · rintro Fr _
                refine SO.v rfl (opv_move rfl) ?_
                exact SO.nilZ fun a w h1 h2 h3 h4 h5 => PZ.of h1 h3 h5 (.cons () (.cons () (.nil ⟨EnvAll.of h2 ⟨rfl, rfl, trivial⟩, h4⟩)))
              · rintro Fr _
                refine SO.v rfl (opv_move rfl) ?_
                exact SO.nilZ fun a w h1 h2 h3 h4 h5 => PZ.of h1 h3 h5 (.cons () (.cons () (.nil ⟨EnvAll.of h2 ⟨rfl, rfl, trivial⟩, h4⟩)))
              · rintro Fr _ _ _
                refine SO.v rfl (opv_idx Try.underlying32 Try.sizeOf35 hr21 rfl rfl hx25) ?_
                exact SO.nilZ fun a w h1 h2 h3 h4 h5 => PZ.of h1 h3 h5 (.cons () (.cons () (.cons () (.cons () (.nil ⟨EnvAll.of h2 ⟨rfl, rfl, rfl, trivial⟩, h4⟩)))))
              · rintro Fr _ _
                refine SO.v rfl (opv_fieldIdx Try.underlying35 rfl Try.sizeOf3 hr21 hx25 rfl rfl) ?_
                exact SO.nilZ fun a w h1 h2 h3 h4 h5 => PZ.of h1 h3 h5 (.cons () (.cons () (.cons () (.nil ⟨EnvAll.of h2 ⟨rfl, rfl, trivial⟩, h4⟩))))
              · rintro Fr _ _
                refine SO.loadI1 (j := 0) rfl Try.isAgg3 (Rd.head hr21) hx25 rfl rfl rfl rfl ?_
                exact SO.nilZ fun a w h1 h2 h3 h4 h5 => PZ.of h1 h3 h5 (.cons () (.cons () (.cons () (.nil ⟨EnvAll.of h2 ⟨rfl, rfl, trivial⟩, h4⟩))))
              · rintro Fr _
                refine SO.v rfl (opv_lss rfl rfl) ?_
                exact SO.nilZ fun a w h1 h2 h3 h4 h5 => PZ.of h1 h3 h5 (.cons () (.cons () (.nil ⟨EnvAll.of h2 ⟨rfl, rfl, trivial⟩, h4⟩)))
              · rintro Fr _
                refine SO.v rfl (opv_move rfl) ?_
                exact SO.nilZ fun a w h1 h2 h3 h4 h5 => PZ.of h1 h3 h5 (.cons () (.cons () (.nil ⟨EnvAll.of h2 ⟨rfl, rfl, trivial⟩, h4⟩)))
              · rintro Fr _ _
                refine SO.takeT rfl rfl rfl b26 ?_
                refine SO.v rfl (opv_move rfl) ?_
                exact SO.nilZ fun a w h1 h2 h3 h4 h5 => PZ.of h1 h3 h5 (.cons () (.cons () (.cons () (.nil ⟨EnvAll.of h2 ⟨rfl, rfl, rfl, trivial⟩, h4⟩))))
              · rintro Fr _ _
                refine SO.takeT rfl rfl rfl b26 ?_
                refine SO.v rfl (opv_move rfl) ?_
                exact SO.nilZ fun a w h1 h2 h3 h4 h5 => PZ.of h1 h3 h5 (.cons () (.cons () (.cons () (.nil ⟨EnvAll.of h2 ⟨rfl, rfl, rfl, trivial⟩, h4⟩))))
              · rintro Fr _ _ _ _
                refine SO.takeT rfl rfl rfl b26 ?_
                refine SO.v rfl (opv_idx Try.underlying32 Try.sizeOf35 hr21 rfl rfl hx28) ?_
                exact SO.nilZ fun a w h1 h2 h3 h4 h5 => PZ.of h1 h3 h5 (.cons () (.cons () (.cons () (.cons () (.cons () (.nil ⟨EnvAll.of h2 ⟨rfl, rfl, rfl, rfl, trivial⟩, h4⟩))))))
              · rintro Fr _ _ _
                refine SO.takeT rfl rfl rfl b26 ?_
                refine SO.v rfl (opv_fieldIdx Try.underlying35 rfl Try.sizeOf3 hr21 hx28 rfl rfl) ?_
                exact SO.nilZ fun a w h1 h2 h3 h4 h5 => PZ.of h1 h3 h5 (.cons () (.cons () (.cons () (.cons () (.nil ⟨EnvAll.of h2 ⟨rfl, rfl, rfl, trivial⟩, h4⟩)))))
              · rintro Fr _ _ _
                refine SO.takeT rfl rfl rfl b26 ?_
                refine SO.loadI1 (j := 0) rfl Try.isAgg3 (Rd.head hr21) hx28 rfl rfl rfl rfl ?_
                exact SO.nilZ fun a w h1 h2 h3 h4 h5 => PZ.of h1 h3 h5 (.cons () (.cons () (.cons () (.cons () (.nil ⟨EnvAll.of h2 ⟨rfl, rfl, rfl, trivial⟩, h4⟩)))))
              · rintro Fr _ _
                refine SO.takeT rfl rfl rfl b26 ?_
                refine SO.v rfl (opv_move rfl) ?_
                exact SO.nilZ fun a w h1 h2 h3 h4 h5 => PZ.of h1 h3 h5 (.cons () (.cons () (.cons () (.nil ⟨EnvAll.of h2 ⟨rfl, rfl, rfl, trivial⟩, h4⟩))))
              · rintro Fr _ _ _
                refine SO.takeT rfl rfl rfl b26 ?_
                refine SO.v rfl (opv_geq rfl rfl) ?_
                exact SO.nilZ fun a w h1 h2 h3 h4 h5 => PZ.of h1 h3 h5 (.cons () (.cons () (.cons () (.cons () (.nil ⟨EnvAll.of h2 ⟨rfl, rfl, rfl, rfl, trivial⟩, h4⟩)))))
              · rintro Fr _ _
                refine SO.v rfl (opv_pick_f' b26 rfl rfl) ?_
                exact SO.nilZ fun a w h1 h2 h3 h4 h5 => PZ.of h1 h3 h5 (.cons () (.cons () (.cons () (.nil ⟨EnvAll.of h2 ⟨rfl, rfl, rfl, trivial⟩, h4⟩))))
              · rintro Fr _
                refine SO.v rfl (opv_move rfl) ?_
                exact SO.nilZ fun a w h1 h2 h3 h4 h5 => PZ.of h1 h3 h5 (.cons () (.cons () (.nil ⟨EnvAll.of h2 ⟨rfl, rfl, trivial⟩, h4⟩)))
              · rintro Fr _
                refine SO.passF rfl rfl rfl b29 rfl rfl ?_
                exact SO.nilZ fun a w h1 h2 h3 h4 h5 => PZ.of h1 h3 h5 (.cons () (.cons () (.nil ⟨EnvAll.of h2 ⟨rfl, rfl, trivial⟩, h4⟩)))
              · rintro Fr _
                refine SO.passF rfl rfl rfl b29 rfl rfl ?_
                exact SO.nilZ fun a w h1 h2 h3 h4 h5 => PZ.of h1 h3 h5 (.cons () (.cons () (.nil ⟨EnvAll.of h2 ⟨rfl, rfl, trivial⟩, h4⟩)))
              · rintro Fr _
                refine SO.passF rfl rfl rfl b29 rfl rfl ?_
                exact SO.nilZ fun a w h1 h2 h3 h4 h5 => PZ.of h1 h3 h5 (.cons () (.cons () (.nil ⟨EnvAll.of h2 ⟨rfl, rfl, trivial⟩, h4⟩)))
              · rintro Fr _
                refine SO.pass_undef rfl rfl rfl rfl ?_
                exact SO.nilZ fun a w h1 h2 h3 h4 h5 => PZ.of h1 h3 h5 (.cons () (.cons () (.nil ⟨EnvAll.of h2 ⟨rfl, rfl, trivial⟩, h4⟩)))
              · rintro Fr _
                refine SO.pass_undef rfl rfl rfl rfl ?_
                exact SO.nilZ fun a w h1 h2 h3 h4 h5 => PZ.of h1 h3 h5 (.cons () (.cons () (.nil ⟨EnvAll.of h2 ⟨rfl, rfl, trivial⟩, h4⟩)))
              · rintro Fr _
                refine SO.pass_undef rfl rfl rfl rfl ?_
                exact SO.nilZ fun a w h1 h2 h3 h4 h5 => PZ.of h1 h3 h5 (.cons () (.cons () (.nil ⟨EnvAll.of h2 ⟨rfl, rfl, trivial⟩, h4⟩)))
              · rintro Fr _
                refine SO.pass_undef rfl rfl rfl rfl ?_
                exact SO.nilZ fun a w h1 h2 h3 h4 h5 => PZ.of h1 h3 h5 (.cons () (.cons () (.nil ⟨EnvAll.of h2 ⟨rfl, rfl, trivial⟩, h4⟩)))
              · rintro Fr _
                refine SO.pass_undef rfl rfl rfl rfl ?_
                exact SO.nilZ fun a w h1 h2 h3 h4 h5 => PZ.of h1 h3 h5 (.cons () (.cons () (.nil ⟨EnvAll.of h2 ⟨rfl, rfl, trivial⟩, h4⟩)))
              · rintro Fr _
                refine SO.pass_undef rfl rfl rfl rfl ?_
                exact SO.nilZ fun a w h1 h2 h3 h4 h5 => PZ.of h1 h3 h5 (.cons () (.cons () (.nil ⟨EnvAll.of h2 ⟨rfl, rfl, trivial⟩, h4⟩)))
              · rintro Fr _
                refine SO.pass_undef rfl rfl rfl rfl ?_
                exact SO.nilZ fun a w h1 h2 h3 h4 h5 => PZ.of h1 h3 h5 (.cons () (.cons () (.nil ⟨EnvAll.of h2 ⟨rfl, rfl, trivial⟩, h4⟩)))
              · rintro Fr _
                refine SO.pass_undef rfl rfl rfl rfl ?_
                exact SO.nilZ fun a w h1 h2 h3 h4 h5 => PZ.of h1 h3 h5 (.cons () (.cons () (.nil ⟨EnvAll.of h2 ⟨rfl, rfl, trivial⟩, h4⟩)))
              · rintro Fr _
                refine SO.pass_undef rfl rfl rfl rfl ?_
                exact SO.nilZ fun a w h1 h2 h3 h4 h5 => PZ.of h1 h3 h5 (.cons () (.cons () (.nil ⟨EnvAll.of h2 ⟨rfl, rfl, trivial⟩, h4⟩)))
              · rintro Fr _
                refine SO.pass_undef rfl rfl rfl rfl ?_
                exact SO.nilZ fun a w h1 h2 h3 h4 h5 => PZ.of h1 h3 h5 (.cons () (.cons () (.nil ⟨EnvAll.of h2 ⟨rfl, rfl, trivial⟩, h4⟩)))
              · rintro Fr _
                refine SO.pass_undef rfl rfl rfl rfl ?_
                exact SO.nilZ fun a w h1 h2 h3 h4 h5 => PZ.of h1 h3 h5 (.cons () (.cons () (.nil ⟨EnvAll.of h2 ⟨rfl, rfl, trivial⟩, h4⟩)))
              · rintro Fr _
                refine SO.pass_undef rfl rfl rfl rfl ?_
                exact SO.nilZ fun a w h1 h2 h3 h4 h5 => PZ.of h1 h3 h5 (.cons () (.cons () (.nil ⟨EnvAll.of h2 ⟨rfl, rfl, trivial⟩, h4⟩)))
              · rintro Fr _
                refine SO.passF rfl rfl rfl b29 rfl rfl ?_
                exact SO.nilZ fun a w h1 h2 h3 h4 h5 => PZ.of h1 h3 h5 (.cons () (.cons () (.nil ⟨EnvAll.of h2 ⟨rfl, rfl, trivial⟩, h4⟩)))
              · rintro Fr _ _
                refine SO.v rfl (opv_pick_t' b29 rfl rfl) ?_
                exact SO.nilZ fun a w h1 h2 h3 h4 h5 => PZ.of h1 h3 h5 (.cons () (.cons () (.cons () (.nil ⟨EnvAll.of h2 ⟨rfl, rfl, rfl, trivial⟩, h4⟩))))
              · rintro Fr _
                refine SO.v rfl (opv_move rfl) ?_
                exact SO.nilZ fun a w h1 h2 h3 h4 h5 => PZ.of h1 h3 h5 (.cons () (.cons () (.nil ⟨EnvAll.of h2 ⟨rfl, rfl, trivial⟩, h4⟩)))
              · rintro Fr _
                refine SO.passF rfl rfl rfl rfl rfl rfl ?_
                exact SO.nilZ fun a w h1 h2 h3 h4 h5 => PZ.of h1 h3 h5 (.cons () (.cons () (.nil ⟨EnvAll.of h2 ⟨rfl, rfl, trivial⟩, h4⟩)))
              · rintro Fr _
                refine SO.passF rfl rfl rfl rfl rfl rfl ?_
                exact SO.nilZ fun a w h1 h2 h3 h4 h5 => PZ.of h1 h3 h5 (.cons () (.cons () (.nil ⟨EnvAll.of h2 ⟨rfl, rfl, trivial⟩, h4⟩)))
              · rintro Fr _
                refine SO.passF rfl rfl rfl rfl rfl rfl ?_
                exact SO.nilZ fun a w h1 h2 h3 h4 h5 => PZ.of h1 h3 h5 (.cons () (.cons () (.nil ⟨EnvAll.of h2 ⟨rfl, rfl, trivial⟩, h4⟩)))
              · rintro Fr _
                refine SO.passF rfl rfl rfl rfl rfl rfl ?_
                exact SO.nilZ fun a w h1 h2 h3 h4 h5 => PZ.of h1 h3 h5 (.cons () (.cons () (.nil ⟨EnvAll.of h2 ⟨rfl, rfl, trivial⟩, h4⟩)))
              · rintro Fr _
                refine SO.passF rfl rfl rfl rfl rfl rfl ?_
                exact SO.nilZ fun a w h1 h2 h3 h4 h5 => PZ.of h1 h3 h5 (.cons () (.cons () (.nil ⟨EnvAll.of h2 ⟨rfl, rfl, trivial⟩, h4⟩)))
              · rintro Fr _
                refine SO.passF rfl rfl rfl rfl rfl rfl ?_
                exact SO.nilZ fun a w h1 h2 h3 h4 h5 => PZ.of h1 h3 h5 (.cons () (.cons () (.nil ⟨EnvAll.of h2 ⟨rfl, rfl, trivial⟩, h4⟩)))
              · rintro Fr _
                refine SO.passF rfl rfl rfl rfl rfl rfl ?_
                exact SO.nilZ fun a w h1 h2 h3 h4 h5 => PZ.of h1 h3 h5 (.cons () (.cons () (.nil ⟨EnvAll.of h2 ⟨rfl, rfl, trivial⟩, h4⟩)))
              · rintro Fr _
                refine SO.passF rfl rfl rfl rfl rfl rfl ?_
                exact SO.nilZ fun a w h1 h2 h3 h4 h5 => PZ.of h1 h3 h5 (.cons () (.cons () (.nil ⟨EnvAll.of h2 ⟨rfl, rfl, trivial⟩, h4⟩)))
              · rintro Fr _
                refine SO.passF rfl rfl rfl rfl rfl rfl ?_
                exact SO.nilZ fun a w h1 h2 h3 h4 h5 => PZ.of h1 h3 h5 (.cons () (.cons () (.nil ⟨EnvAll.of h2 ⟨rfl, rfl, trivial⟩, h4⟩)))
              · rintro Fr _
                refine SO.passF rfl rfl rfl rfl rfl rfl ?_
                exact SO.nilZ fun a w h1 h2 h3 h4 h5 => PZ.of h1 h3 h5 (.cons () (.cons () (.nil ⟨EnvAll.of h2 ⟨rfl, rfl, trivial⟩, h4⟩)))
              · rintro Fr _
                refine SO.passF rfl rfl rfl rfl rfl rfl ?_
                exact SO.nilZ fun a w h1 h2 h3 h4 h5 => PZ.of h1 h3 h5 (.cons () (.cons () (.nil ⟨EnvAll.of h2 ⟨rfl, rfl, trivial⟩, h4⟩)))
              · rintro Fr _
                refine SO.passF rfl rfl rfl rfl rfl rfl ?_
                exact SO.nilZ fun a w h1 h2 h3 h4 h5 => PZ.of h1 h3 h5 (.cons () (.cons () (.nil ⟨EnvAll.of h2 ⟨rfl, rfl, trivial⟩, h4⟩)))
              · rintro Fr _
                refine SO.passF rfl rfl rfl rfl rfl rfl ?_
                exact SO.nilZ fun a w h1 h2 h3 h4 h5 => PZ.of h1 h3 h5 (.cons () (.cons () (.nil ⟨EnvAll.of h2 ⟨rfl, rfl, trivial⟩, h4⟩)))
              · rintro Fr _ _
                refine SO.v rfl (opv_pick_tt rfl rfl) ?_
                exact SO.nilZ fun a w h1 h2 h3 h4 h5 => PZ.of h1 h3 h5 (.cons () (.cons () (.cons () (.nil ⟨EnvAll.of h2 ⟨rfl, rfl, rfl, trivial⟩, h4⟩))))
              rintro _ _ _ _ _ _ _ _ _
              refine S.to (ρ' := [(10, .int .i64 x10_3), (9, v20), (0, v0), (1, v1), (4, .bool false), (5, .bool t1), (7, v6), (6, .int .i64 j6_1), (101, .bool true)]) ⟨rfl, rfl, rfl, rfl, rfl, rfl, rfl, rfl, rfl, trivial⟩ ?_
              cases h
              refine S.b2 ?_
              refine S.b2 ?_
              refine S.b2 ?_
              refine S.to ?_ (hk4 () trivial)
              exact ⟨rfl, rfl, rfl, rfl, rfl, rfl, rfl, rfl, rfl, trivial⟩
            · replace h := cond_f b29 h
              rcases bool_or (decide (0 < x10_3)) with b30 | b30
              · replace h := cond_t b30 h
                obtain ⟨x31, hx32, h⟩ := opt_bind h
                obtain ⟨x33, hx34, h⟩ := opt_bind h
                rcases bool_or (decide (x31.At ≤ x33.At)) with b35 | b35
                · replace h := cond_t b35 h
                  refine S.draw' (Z := fun Q => ∀ (_ : Unit) (_ : Unit) (_ : Unit) (_ : Unit) (_ : Unit) (_ : Unit) (_ : Unit) (_ : Unit) (_ : Unit), Q [(10, .int .i64 x10_3), (9, v20), (0, v0), (1, v1), (4, .bool false), (5, .bool t1), (7, v6), (6, .int .i64 j6_1), (101, .bool true)] [Own 23 (ekI .u64) v6 qv6_3, Own 35 ek_view_Pair_uint64 v20 t18, F]) (T := [tS 9 (v20), tS 10 (.int .i64 x10_3), tS 6 (.int .i64 j6_1), tS 0 (v0), tE [(1, v1), (4, .bool false), (5, .bool t1), (7, v6)], tR (Own 23 (ekI .u64) v6 qv6_3), tR (Own 35 ek_view_Pair_uint64 v20 t18), tR (F), tS 54 (v20), tS 55 (.int .i64 x10_3), tS 56 (idxp v20 (x10_3.toNat * ek_view_Pair_uint64.sz)), tS 57 (idxp v20 (x10_3.toNat * ek_view_Pair_uint64.sz)), tS 58 (.int .i64 x24.At), tS 59 (.bool (decide (x24.At < 0))), tS 60 (.bool (decide (x24.At < 0))), tS 61 (v20), tS 62 (.int .i64 x10_3), tS 63 (idxp v20 (x10_3.toNat * ek_view_Pair_uint64.sz)), tS 64 (idxp v20 (x10_3.toNat * ek_view_Pair_uint64.sz)), tS 65 (.int .i64 x27.At), tS 66 (.int .i64 j6_1), tS 67 (.bool (decide (j6_1 ≤ x27.At))), tS 68 (.bool (decide (j6_1 ≤ x27.At))), tS 69 (.bool (decide (j6_1 ≤ x27.At))), tS 70 (.int .i64 x10_3), tS 71 (.bool (decide (0 < x10_3))), tS 72 (.bool (decide (0 < x10_3))), tS 73 (v20), tS 74 (.int .i64 x10_3), tS 75 (idxp v20 (x10_3.toNat * ek_view_Pair_uint64.sz)), tS 76 (idxp v20 (x10_3.toNat * ek_view_Pair_uint64.sz)), tS 77 (.int .i64 x31.At), tS 78 (v20), tS 79 (.int .i64 x10_3), tS 80 (.int .i64 (w64 (x10_3 - 1))), tS 81 (idxp v20 ((w64 (x10_3 - 1)).toNat * ek_view_Pair_uint64.sz)), tS 82 (idxp v20 ((w64 (x10_3 - 1)).toNat * ek_view_Pair_uint64.sz)), tS 83 (.int .i64 x33.At), tS 84 (.bool (decide (x31.At ≤ x33.At))), tS 85 (.bool (decide (x31.At ≤ x33.At))), tS 86 (.bool (decide (x31.At ≤ x33.At))), tS 87 (.bool (decide (x31.At ≤ x33.At))), tS 88 (undef), tS 89 (undef), tS 90 (undef), tS 91 (undef), tS 92 (undef), tS 93 (undef), tS 94 (undef), tS 95 (undef), tS 96 (undef), tS 97 (undef), tS 98 (undef), tS 99 (undef), tS 100 (undef), tS 101 (.bool true)]) (D := [⟨[0], [], [8]⟩, ⟨[1], [], [9]⟩, ⟨[8, 9, 6], [], [10]⟩, ⟨[10, 6], [], [11]⟩, ⟨[11, 6], [], [12]⟩, ⟨[12], [], [13]⟩, ⟨[13], [], [14]⟩, ⟨[0, 14], [], [15]⟩, ⟨[1, 14], [], [16]⟩, ⟨[14, 15, 16, 6], [], [17]⟩, ⟨[14, 17, 6], [], [18]⟩, ⟨[14, 18, 6], [], [19]⟩, ⟨[2, 14], [], [20]⟩, ⟨[14, 19, 20], [], [21]⟩, ⟨[14, 21], [], [22]⟩, ⟨[22], [], [23]⟩, ⟨[1, 23], [], [24]⟩, ⟨[23, 24], [], [25]⟩, ⟨[23, 25], [], [26]⟩, ⟨[0, 26], [], [27]⟩, ⟨[1, 26], [], [28]⟩, ⟨[26, 27, 28, 6], [], [29]⟩, ⟨[26, 29, 6], [], [30]⟩, ⟨[26, 30, 6], [], [31]⟩, ⟨[0, 26], [], [32]⟩, ⟨[1, 26], [], [33]⟩, ⟨[26, 33], [], [34]⟩, ⟨[26, 32, 34, 6], [], [35]⟩, ⟨[26, 35, 6], [], [36]⟩, ⟨[26, 36, 6], [], [37]⟩, ⟨[26, 31, 37], [], [38]⟩, ⟨[23, 26, 38], [], [39]⟩, ⟨[23, 39], [], [40]⟩, ⟨[40], [], [41]⟩, ⟨[41], [], [42]⟩, ⟨[41], [], [43]⟩, ⟨[41], [], [44]⟩, ⟨[41], [], [45]⟩, ⟨[41], [], [46]⟩, ⟨[41], [], [47]⟩, ⟨[41], [], [48]⟩, ⟨[41], [], [49]⟩, ⟨[41], [], [50]⟩, ⟨[41], [], [51]⟩, ⟨[41], [], [52]⟩, ⟨[41], [], [53]⟩, ⟨[41], [], [54]⟩, ⟨[41, 54], [], [55]⟩]) (ini := [0, 1, 2, 3, 4, 5, 6, 7]) (fin := [1, 0, 3, 4, 2, 55, 5, 6, 7]) (bf := [[], [], [0, 1], [0, 1, 2], [0, 1, 2, 3], [0, 1, 2, 3, 4], [0, 1, 2, 3, 4, 5], [0, 1, 2, 3, 4, 5, 6], [0, 1, 2, 3, 4, 5, 6], [0, 1, 2, 3, 4, 5, 6, 7, 8], [0, 1, 2, 3, 4, 5, 6, 7, 8, 9], [0, 1, 2, 3, 4, 5, 6, 7, 8, 9, 10], [0, 1, 2, 3, 4, 5, 6], [0, 1, 2, 3, 4, 5, 6, 7, 8, 9, 10, 11, 12], [0, 1, 2, 3, 4, 5, 6, 7, 8, 9, 10, 11, 12, 13], [0, 1, 2, 3, 4, 5, 6, 7, 8, 9, 10, 11, 12, 13, 14], [0, 1, 2, 3, 4, 5, 6, 7, 8, 9, 10, 11, 12, 13, 14, 15], [0, 1, 2, 3, 4, 5, 6, 7, 8, 9, 10, 11, 12, 13, 14, 15, 16], [0, 1, 2, 3, 4, 5, 6, 7, 8, 9, 10, 11, 12, 13, 14, 15, 16, 17], [0, 1, 2, 3, 4, 5, 6, 7, 8, 9, 10, 11, 12, 13, 14, 15, 16, 17, 18], [0, 1, 2, 3, 4, 5, 6, 7, 8, 9, 10, 11, 12, 13, 14, 15, 16, 17, 18], [0, 1, 2, 3, 4, 5, 6, 7, 8, 9, 10, 11, 12, 13, 14, 15, 16, 17, 18, 19, 20], [0, 1, 2, 3, 4, 5, 6, 7, 8, 9, 10, 11, 12, 13, 14, 15, 16, 17, 18, 19, 20, 21], [0, 1, 2, 3, 4, 5, 6, 7, 8, 9, 10, 11, 12, 13, 14, 15, 16, 17, 18, 19, 20, 21, 22], [0, 1, 2, 3, 4, 5, 6, 7, 8, 9, 10, 11, 12, 13, 14, 15, 16, 17, 18], [0, 1, 2, 3, 4, 5, 6, 7, 8, 9, 10, 11, 12, 13, 14, 15, 16, 17, 18], [0, 1, 2, 3, 4, 5, 6, 7, 8, 9, 10, 11, 12, 13, 14, 15, 16, 17, 18, 25], [0, 1, 2, 3, 4, 5, 6, 7, 8, 9, 10, 11, 12, 13, 14, 15, 16, 17, 18, 24, 25, 26], [0, 1, 2, 3, 4, 5, 6, 7, 8, 9, 10, 11, 12, 13, 14, 15, 16, 17, 18, 24, 25, 26, 27], [0, 1, 2, 3, 4, 5, 6, 7, 8, 9, 10, 11, 12, 13, 14, 15, 16, 17, 18, 24, 25, 26, 27, 28], [0, 1, 2, 3, 4, 5, 6, 7, 8, 9, 10, 11, 12, 13, 14, 15, 16, 17, 18, 19, 20, 21, 22, 23, 24, 25, 26, 27, 28, 29], [0, 1, 2, 3, 4, 5, 6, 7, 8, 9, 10, 11, 12, 13, 14, 15, 16, 17, 18, 19, 20, 21, 22, 23, 24, 25, 26, 27, 28, 29, 30], [0, 1, 2, 3, 4, 5, 6, 7, 8, 9, 10, 11, 12, 13, 14, 15, 16, 17, 18, 19, 20, 21, 22, 23, 24, 25, 26, 27, 28, 29, 30, 31], [0, 1, 2, 3, 4, 5, 6, 7, 8, 9, 10, 11, 12, 13, 14, 15, 16, 17, 18, 19, 20, 21, 22, 23, 24, 25, 26, 27, 28, 29, 30, 31, 32], [0, 1, 2, 3, 4, 5, 6, 7, 8, 9, 10, 11, 12, 13, 14, 15, 16, 17, 18, 19, 20, 21, 22, 23, 24, 25, 26, 27, 28, 29, 30, 31, 32, 33], [0, 1, 2, 3, 4, 5, 6, 7, 8, 9, 10, 11, 12, 13, 14, 15, 16, 17, 18, 19, 20, 21, 22, 23, 24, 25, 26, 27, 28, 29, 30, 31, 32, 33], [0, 1, 2, 3, 4, 5, 6, 7, 8, 9, 10, 11, 12, 13, 14, 15, 16, 17, 18, 19, 20, 21, 22, 23, 24, 25, 26, 27, 28, 29, 30, 31, 32, 33], [0, 1, 2, 3, 4, 5, 6, 7, 8, 9, 10, 11, 12, 13, 14, 15, 16, 17, 18, 19, 20, 21, 22, 23, 24, 25, 26, 27, 28, 29, 30, 31, 32, 33, 35, 36], [0, 1, 2, 3, 4, 5, 6, 7, 8, 9, 10, 11, 12, 13, 14, 15, 16, 17, 18, 19, 20, 21, 22, 23, 24, 25, 26, 27, 28, 29, 30, 31, 32, 33, 35, 36, 37], [0, 1, 2, 3, 4, 5, 6, 7, 8, 9, 10, 11, 12, 13, 14, 15, 16, 17, 18, 19, 20, 21, 22, 23, 24, 25, 26, 27, 28, 29, 30, 31, 32, 33, 35, 36, 37, 38], [0, 1, 2, 3, 4, 5, 6, 7, 8, 9, 10, 11, 12, 13, 14, 15, 16, 17, 18, 19, 20, 21, 22, 23, 24, 25, 26, 27, 28, 29, 30, 31, 32, 33, 34, 35, 36, 37, 38, 39], [0, 1, 2, 3, 4, 5, 6, 7, 8, 9, 10, 11, 12, 13, 14, 15, 16, 17, 18, 19, 20, 21, 22, 23, 24, 25, 26, 27, 28, 29, 30, 31, 32, 33], [0, 1, 2, 3, 4, 5, 6, 7, 8, 9, 10, 11, 12, 13, 14, 15, 16, 17, 18, 19, 20, 21, 22, 23, 24, 25, 26, 27, 28, 29, 30, 31, 32, 33], [0, 1, 2, 3, 4, 5, 6, 7, 8, 9, 10, 11, 12, 13, 14, 15, 16, 17, 18, 19, 20, 21, 22, 23, 24, 25, 26, 27, 28, 29, 30, 31, 32, 33, 41, 42], [0, 1, 2, 3, 4, 5, 6, 7, 8, 9, 10, 11, 12, 13, 14, 15, 16, 17, 18, 19, 20, 21, 22, 23, 24, 25, 26, 27, 28, 29, 30, 31, 32, 33, 41, 42, 43], [0, 1, 2, 3, 4, 5, 6, 7, 8, 9, 10, 11, 12, 13, 14, 15, 16, 17, 18, 19, 20, 21, 22, 23, 24, 25, 26, 27, 28, 29, 30, 31, 32, 33, 41, 42, 43, 44], [0, 1, 2, 3, 4, 5, 6, 7, 8, 9, 10, 11, 12, 13, 14, 15, 16, 17, 18, 19, 20, 21, 22, 23, 24, 25, 26, 27, 28, 29, 30, 31, 32, 33, 34, 35, 36, 37, 38, 39, 40, 41, 42, 43, 44, 45], [0, 1, 2, 3, 4, 5, 6, 7, 8, 9, 10, 11, 12, 13, 14, 15, 16, 17, 18, 19, 20, 21, 22, 23, 24, 25, 26, 27, 28, 29, 30, 31, 32, 33, 34, 35, 36, 37, 38, 39, 40, 41, 42, 43, 44, 45, 46]]) (by kernel_rfl) (by kernel_rfl) (fun x w h1 h2 => (.cons () (.cons () (.cons () (.cons () (.cons () (.cons () (.cons () (.cons () (.nil ⟨EnvAll.of h1 ⟨rfl, rfl, rfl, rfl, rfl, rfl, rfl, rfl, trivial⟩, h2⟩)))))))))) (fun Q => by kernel_rfl) ⟨?_, ?_, ?_, ?_, ?_, ?_, ?_, ?_, ?_, ?_, ?_, ?_, ?_, ?_, ?_, ?_, ?_, ?_, ?_, ?_, ?_, ?_, ?_, ?_, ?_, ?_, ?_, ?_, ?_, ?_, ?_, ?_, ?_, ?_, ?_, ?_, ?_, ?_, ?_, ?_, ?_, ?_, ?_, ?_, ?_, ?_, ?_, ?_, trivial⟩ ?_
                  · rintro Fr _
                    refine SO.v rfl (opv_move rfl) ?_
                    exact SO.nilZ fun a w h1 h2 h3 h4 h5 => PZ.of h1 h3 h5 (.cons () (.cons () (.nil ⟨EnvAll.of h2 ⟨rfl, rfl, trivial⟩, h4⟩)))
                  · rintro Fr _
                    refine SO.v rfl (opv_move rfl) ?_
                    exact SO.nilZ fun a w h1 h2 h3 h4 h5 => PZ.of h1 h3 h5 (.cons () (.cons () (.nil ⟨EnvAll.of h2 ⟨rfl, rfl, trivial⟩, h4⟩)))
                  · rintro Fr _ _ _
                    refine SO.v rfl (opv_idx Try.underlying32 Try.sizeOf35 hr21 rfl rfl hx25) ?_
                    exact SO.nilZ fun a w h1 h2 h3 h4 h5 => PZ.of h1 h3 h5 (.cons () (.cons () (.cons () (.cons () (.nil ⟨EnvAll.of h2 ⟨rfl, rfl, rfl, trivial⟩, h4⟩)))))
                  · rintro Fr _ _
                    refine SO.v rfl (opv_fieldIdx Try.underlying35 rfl Try.sizeOf3 hr21 hx25 rfl rfl) ?_
                    exact SO.nilZ fun a w h1 h2 h3 h4 h5 => PZ.of h1 h3 h5 (.cons () (.cons () (.cons () (.nil ⟨EnvAll.of h2 ⟨rfl, rfl, trivial⟩, h4⟩))))
                  · rintro Fr _ _
                    refine SO.loadI1 (j := 0) rfl Try.isAgg3 (Rd.head hr21) hx25 rfl rfl rfl rfl ?_
                    exact SO.nilZ fun a w h1 h2 h3 h4 h5 => PZ.of h1 h3 h5 (.cons () (.cons () (.cons () (.nil ⟨EnvAll.of h2 ⟨rfl, rfl, trivial⟩, h4⟩))))
                  · rintro Fr _
                    refine SO.v rfl (opv_lss rfl rfl) ?_
                    exact SO.nilZ fun a w h1 h2 h3 h4 h5 => PZ.of h1 h3 h5 (.cons () (.cons () (.nil ⟨EnvAll.of h2 ⟨rfl, rfl, trivial⟩, h4⟩)))
                  · rintro Fr _
                    refine SO.v rfl (opv_move rfl) ?_
                    exact SO.nilZ fun a w h1 h2 h3 h4 h5 => PZ.of h1 h3 h5 (.cons () (.cons () (.nil ⟨EnvAll.of h2 ⟨rfl, rfl, trivial⟩, h4⟩)))
                  · rintro Fr _ _
                    refine SO.takeT rfl rfl rfl b26 ?_
                    refine SO.v rfl (opv_move rfl) ?_
                    exact SO.nilZ fun a w h1 h2 h3 h4 h5 => PZ.of h1 h3 h5 (.cons () (.cons () (.cons () (.nil ⟨EnvAll.of h2 ⟨rfl, rfl, rfl, trivial⟩, h4⟩))))
                  · rintro Fr _ _
                    refine SO.takeT rfl rfl rfl b26 ?_
                    refine SO.v rfl (opv_move rfl) ?_
                    exact SO.nilZ fun a w h1 h2 h3 h4 h5 => PZ.of h1 h3 h5 (.cons () (.cons () (.cons () (.nil ⟨EnvAll.of h2 ⟨rfl, rfl, rfl, trivial⟩, h4⟩))))
                  · rintro Fr _ _ _ _
                    refine SO.takeT rfl rfl rfl b26 ?_
                    refine SO.v rfl (opv_idx Try.underlying32 Try.sizeOf35 hr21 rfl rfl hx28) ?_
                    exact SO.nilZ fun a w h1 h2 h3 h4 h5 => PZ.of h1 h3 h5 (.cons () (.cons () (.cons () (.cons () (.cons () (.nil ⟨EnvAll.of h2 ⟨rfl, rfl, rfl, rfl, trivial⟩, h4⟩))))))
                  · rintro Fr _ _ _
                    refine SO.takeT rfl rfl rfl b26 ?_
                    refine SO.v rfl (opv_fieldIdx Try.underlying35 rfl Try.sizeOf3 hr21 hx28 rfl rfl) ?_
                    exact SO.nilZ fun a w h1 h2 h3 h4 h5 => PZ.of h1 h3 h5 (.cons () (.cons () (.cons () (.cons () (.nil ⟨EnvAll.of h2 ⟨rfl, rfl, rfl, trivial⟩, h4⟩)))))
                  · rintro Fr _ _ _
                    refine SO.takeT rfl rfl rfl b26 ?_
                    refine SO.loadI1 (j := 0) rfl Try.isAgg3 (Rd.head hr21) hx28 rfl rfl rfl rfl ?_
                    exact SO.nilZ fun a w h1 h2 h3 h4 h5 => PZ.of h1 h3 h5 (.cons () (.cons () (.cons () (.cons () (.nil ⟨EnvAll.of h2 ⟨rfl, rfl, rfl, trivial⟩, h4⟩)))))
                  · rintro Fr _ _
                    refine SO.takeT rfl rfl rfl b26 ?_
                    refine SO.v rfl (opv_move rfl) ?_
                    exact SO.nilZ fun a w h1 h2 h3 h4 h5 => PZ.of h1 h3 h5 (.cons () (.cons () (.cons () (.nil ⟨EnvAll.of h2 ⟨rfl, rfl, rfl, trivial⟩, h4⟩))))
                  · rintro Fr _ _ _
                    refine SO.takeT rfl rfl rfl b26 ?_
                    refine SO.v rfl (opv_geq rfl rfl) ?_
                    exact SO.nilZ fun a w h1 h2 h3 h4 h5 => PZ.of h1 h3 h5 (.cons () (.cons () (.cons () (.cons () (.nil ⟨EnvAll.of h2 ⟨rfl, rfl, rfl, rfl, trivial⟩, h4⟩)))))
                  · rintro Fr _ _
                    refine SO.v rfl (opv_pick_f' b26 rfl rfl) ?_
                    exact SO.nilZ fun a w h1 h2 h3 h4 h5 => PZ.of h1 h3 h5 (.cons () (.cons () (.cons () (.nil ⟨EnvAll.of h2 ⟨rfl, rfl, rfl, trivial⟩, h4⟩))))
                  · rintro Fr _
                    refine SO.v rfl (opv_move rfl) ?_
                    exact SO.nilZ fun a w h1 h2 h3 h4 h5 => PZ.of h1 h3 h5 (.cons () (.cons () (.nil ⟨EnvAll.of h2 ⟨rfl, rfl, trivial⟩, h4⟩)))
                  · rintro Fr _ _
                    refine SO.takeT rfl rfl rfl b29 ?_
                    refine SO.v rfl (opv_move rfl) ?_
                    exact SO.nilZ fun a w h1 h2 h3 h4 h5 => PZ.of h1 h3 h5 (.cons () (.cons () (.cons () (.nil ⟨EnvAll.of h2 ⟨rfl, rfl, rfl, trivial⟩, h4⟩))))
                  · rintro Fr _ _
                    refine SO.takeT rfl rfl rfl b29 ?_
                    refine SO.v rfl (opv_gtr rfl rfl) ?_
                    exact SO.nilZ fun a w h1 h2 h3 h4 h5 => PZ.of h1 h3 h5 (.cons () (.cons () (.cons () (.nil ⟨EnvAll.of h2 ⟨rfl, rfl, rfl, trivial⟩, h4⟩))))
                  · rintro Fr _ _
                    refine SO.takeT rfl rfl rfl b29 ?_
                    refine SO.v rfl (opv_move rfl) ?_
                    exact SO.nilZ fun a w h1 h2 h3 h4 h5 => PZ.of h1 h3 h5 (.cons () (.cons () (.cons () (.nil ⟨EnvAll.of h2 ⟨rfl, rfl, rfl, trivial⟩, h4⟩))))
                  · rintro Fr _ _
                    refine SO.takeT rfl rfl rfl b30 ?_
                    refine SO.v rfl (opv_move rfl) ?_
                    exact SO.nilZ fun a w h1 h2 h3 h4 h5 => PZ.of h1 h3 h5 (.cons () (.cons () (.cons () (.nil ⟨EnvAll.of h2 ⟨rfl, rfl, rfl, trivial⟩, h4⟩))))
                  · rintro Fr _ _
                    refine SO.takeT rfl rfl rfl b30 ?_
                    refine SO.v rfl (opv_move rfl) ?_
                    exact SO.nilZ fun a w h1 h2 h3 h4 h5 => PZ.of h1 h3 h5 (.cons () (.cons () (.cons () (.nil ⟨EnvAll.of h2 ⟨rfl, rfl, rfl, trivial⟩, h4⟩))))
                  · rintro Fr _ _ _ _
                    refine SO.takeT rfl rfl rfl b30 ?_
                    refine SO.v rfl (opv_idx Try.underlying32 Try.sizeOf35 hr21 rfl rfl hx32) ?_
                    exact SO.nilZ fun a w h1 h2 h3 h4 h5 => PZ.of h1 h3 h5 (.cons () (.cons () (.cons () (.cons () (.cons () (.nil ⟨EnvAll.of h2 ⟨rfl, rfl, rfl, rfl, trivial⟩, h4⟩))))))
                  · rintro Fr _ _ _
                    refine SO.takeT rfl rfl rfl b30 ?_
                    refine SO.v rfl (opv_fieldIdx Try.underlying35 rfl Try.sizeOf3 hr21 hx32 rfl rfl) ?_
                    exact SO.nilZ fun a w h1 h2 h3 h4 h5 => PZ.of h1 h3 h5 (.cons () (.cons () (.cons () (.cons () (.nil ⟨EnvAll.of h2 ⟨rfl, rfl, rfl, trivial⟩, h4⟩)))))
                  · rintro Fr _ _ _
                    refine SO.takeT rfl rfl rfl b30 ?_
                    refine SO.loadI1 (j := 0) rfl Try.isAgg3 (Rd.head hr21) hx32 rfl rfl rfl rfl ?_
                    exact SO.nilZ fun a w h1 h2 h3 h4 h5 => PZ.of h1 h3 h5 (.cons () (.cons () (.cons () (.cons () (.nil ⟨EnvAll.of h2 ⟨rfl, rfl, rfl, trivial⟩, h4⟩)))))
                  · rintro Fr _ _
                    refine SO.takeT rfl rfl rfl b30 ?_
                    refine SO.v rfl (opv_move rfl) ?_
                    exact SO.nilZ fun a w h1 h2 h3 h4 h5 => PZ.of h1 h3 h5 (.cons () (.cons () (.cons () (.nil ⟨EnvAll.of h2 ⟨rfl, rfl, rfl, trivial⟩, h4⟩))))
                  · rintro Fr _ _
                    refine SO.takeT rfl rfl rfl b30 ?_
                    refine SO.v rfl (opv_move rfl) ?_
                    exact SO.nilZ fun a w h1 h2 h3 h4 h5 => PZ.of h1 h3 h5 (.cons () (.cons () (.cons () (.nil ⟨EnvAll.of h2 ⟨rfl, rfl, rfl, trivial⟩, h4⟩))))
                  · rintro Fr _ _
                    refine SO.takeT rfl rfl rfl b30 ?_
                    refine SO.v rfl (opv_sub rfl rfl) ?_
                    exact SO.nilZ fun a w h1 h2 h3 h4 h5 => PZ.of h1 h3 h5 (.cons () (.cons () (.cons () (.nil ⟨EnvAll.of h2 ⟨rfl, rfl, rfl, trivial⟩, h4⟩))))
                  · rintro Fr _ _ _ _
                    refine SO.takeT rfl rfl rfl b30 ?_
                    refine SO.v rfl (opv_idx Try.underlying32 Try.sizeOf35 hr21 rfl rfl hx34) ?_
                    exact SO.nilZ fun a w h1 h2 h3 h4 h5 => PZ.of h1 h3 h5 (.cons () (.cons () (.cons () (.cons () (.cons () (.nil ⟨EnvAll.of h2 ⟨rfl, rfl, rfl, rfl, trivial⟩, h4⟩))))))
                  · rintro Fr _ _ _
                    refine SO.takeT rfl rfl rfl b30 ?_
                    refine SO.v rfl (opv_fieldIdx Try.underlying35 rfl Try.sizeOf3 hr21 hx34 rfl rfl) ?_
                    exact SO.nilZ fun a w h1 h2 h3 h4 h5 => PZ.of h1 h3 h5 (.cons () (.cons () (.cons () (.cons () (.nil ⟨EnvAll.of h2 ⟨rfl, rfl, rfl, trivial⟩, h4⟩)))))
                  · rintro Fr _ _ _
                    refine SO.takeT rfl rfl rfl b30 ?_
                    refine SO.loadI1 (j := 0) rfl Try.isAgg3 (Rd.head hr21) hx34 rfl rfl rfl rfl ?_
                    exact SO.nilZ fun a w h1 h2 h3 h4 h5 => PZ.of h1 h3 h5 (.cons () (.cons () (.cons () (.cons () (.nil ⟨EnvAll.of h2 ⟨rfl, rfl, rfl, trivial⟩, h4⟩)))))
                  · rintro Fr _ _ _
                    refine SO.takeT rfl rfl rfl b30 ?_
                    refine SO.v rfl (opv_leq rfl rfl) ?_
                    exact SO.nilZ fun a w h1 h2 h3 h4 h5 => PZ.of h1 h3 h5 (.cons () (.cons () (.cons () (.cons () (.nil ⟨EnvAll.of h2 ⟨rfl, rfl, rfl, rfl, trivial⟩, h4⟩)))))
                  · rintro Fr _ _ _
                    refine SO.takeT rfl rfl rfl b29 ?_
                    refine SO.v rfl (opv_pick_t' b30 rfl rfl) ?_
                    exact SO.nilZ fun a w h1 h2 h3 h4 h5 => PZ.of h1 h3 h5 (.cons () (.cons () (.cons () (.cons () (.nil ⟨EnvAll.of h2 ⟨rfl, rfl, rfl, rfl, trivial⟩, h4⟩)))))
                  · rintro Fr _ _
                    refine SO.v rfl (opv_pick_f' b29 rfl rfl) ?_
                    exact SO.nilZ fun a w h1 h2 h3 h4 h5 => PZ.of h1 h3 h5 (.cons () (.cons () (.cons () (.nil ⟨EnvAll.of h2 ⟨rfl, rfl, rfl, trivial⟩, h4⟩))))
                  · rintro Fr _
                    refine SO.v rfl (opv_move rfl) ?_
                    exact SO.nilZ fun a w h1 h2 h3 h4 h5 => PZ.of h1 h3 h5 (.cons () (.cons () (.nil ⟨EnvAll.of h2 ⟨rfl, rfl, trivial⟩, h4⟩)))
                  · rintro Fr _
                    refine SO.passF rfl rfl rfl b35 rfl rfl ?_
                    exact SO.nilZ fun a w h1 h2 h3 h4 h5 => PZ.of h1 h3 h5 (.cons () (.cons () (.nil ⟨EnvAll.of h2 ⟨rfl, rfl, trivial⟩, h4⟩)))
                  · rintro Fr _
                    refine SO.passF rfl rfl rfl b35 rfl rfl ?_
                    exact SO.nilZ fun a w h1 h2 h3 h4 h5 => PZ.of h1 h3 h5 (.cons () (.cons () (.nil ⟨EnvAll.of h2 ⟨rfl, rfl, trivial⟩, h4⟩)))
                  · rintro Fr _
                    refine SO.passF rfl rfl rfl b35 rfl rfl ?_
                    exact SO.nilZ fun a w h1 h2 h3 h4 h5 => PZ.of h1 h3 h5 (.cons () (.cons () (.nil ⟨EnvAll.of h2 ⟨rfl, rfl, trivial⟩, h4⟩)))
                  · rintro Fr _
                    refine SO.passF rfl rfl rfl b35 rfl rfl ?_
                    exact SO.nilZ fun a w h1 h2 h3 h4 h5 => PZ.of h1 h3 h5 (.cons () (.cons () (.nil ⟨EnvAll.of h2 ⟨rfl, rfl, trivial⟩, h4⟩)))
                  · rintro Fr _
                    refine SO.passF rfl rfl rfl b35 rfl rfl ?_
                    exact SO.nilZ fun a w h1 h2 h3 h4 h5 => PZ.of h1 h3 h5 (.cons () (.cons () (.nil ⟨EnvAll.of h2 ⟨rfl, rfl, trivial⟩, h4⟩)))
                  · rintro Fr _
                    refine SO.passF rfl rfl rfl b35 rfl rfl ?_
                    exact SO.nilZ fun a w h1 h2 h3 h4 h5 => PZ.of h1 h3 h5 (.cons () (.cons () (.nil ⟨EnvAll.of h2 ⟨rfl, rfl, trivial⟩, h4⟩)))
                  · rintro Fr _
                    refine SO.passF rfl rfl rfl b35 rfl rfl ?_
                    exact SO.nilZ fun a w h1 h2 h3 h4 h5 => PZ.of h1 h3 h5 (.cons () (.cons () (.nil ⟨EnvAll.of h2 ⟨rfl, rfl, trivial⟩, h4⟩)))
                  · rintro Fr _
                    refine SO.passF rfl rfl rfl b35 rfl rfl ?_
                    exact SO.nilZ fun a w h1 h2 h3 h4 h5 => PZ.of h1 h3 h5 (.cons () (.cons () (.nil ⟨EnvAll.of h2 ⟨rfl, rfl, trivial⟩, h4⟩)))
                  · rintro Fr _
                    refine SO.passF rfl rfl rfl b35 rfl rfl ?_
                    exact SO.nilZ fun a w h1 h2 h3 h4 h5 => PZ.of h1 h3 h5 (.cons () (.cons () (.nil ⟨EnvAll.of h2 ⟨rfl, rfl, trivial⟩, h4⟩)))
                  · rintro Fr _
                    refine SO.passF rfl rfl rfl b35 rfl rfl ?_
                    exact SO.nilZ fun a w h1 h2 h3 h4 h5 => PZ.of h1 h3 h5 (.cons () (.cons () (.nil ⟨EnvAll.of h2 ⟨rfl, rfl, trivial⟩, h4⟩)))
                  · rintro Fr _
                    refine SO.passF rfl rfl rfl b35 rfl rfl ?_
                    exact SO.nilZ fun a w h1 h2 h3 h4 h5 => PZ.of h1 h3 h5 (.cons () (.cons () (.nil ⟨EnvAll.of h2 ⟨rfl, rfl, trivial⟩, h4⟩)))
                  · rintro Fr _
                    refine SO.passF rfl rfl rfl b35 rfl rfl ?_
                    exact SO.nilZ fun a w h1 h2 h3 h4 h5 => PZ.of h1 h3 h5 (.cons () (.cons () (.nil ⟨EnvAll.of h2 ⟨rfl, rfl, trivial⟩, h4⟩)))
                  · rintro Fr _
                    refine SO.passF rfl rfl rfl b35 rfl rfl ?_
                    exact SO.nilZ fun a w h1 h2 h3 h4 h5 => PZ.of h1 h3 h5 (.cons () (.cons () (.nil ⟨EnvAll.of h2 ⟨rfl, rfl, trivial⟩, h4⟩)))
                  · rintro Fr _ _
                    refine SO.v rfl (opv_pick_t' b35 rfl rfl) ?_
                    exact SO.nilZ fun a w h1 h2 h3 h4 h5 => PZ.of h1 h3 h5 (.cons () (.cons () (.cons () (.nil ⟨EnvAll.of h2 ⟨rfl, rfl, rfl, trivial⟩, h4⟩))))
                  rintro _ _ _ _ _ _ _ _ _
                  refine S.to (ρ' := [(10, .int .i64 x10_3), (9, v20), (0, v0), (1, v1), (4, .bool false), (5, .bool t1), (7, v6), (6, .int .i64 j6_1), (101, .bool true)]) ⟨rfl, rfl, rfl, rfl, rfl, rfl, rfl, rfl, rfl, trivial⟩ ?_
                  cases h
                  refine S.b2 ?_
                  refine S.b2 ?_
                  refine S.b2 ?_
                  refine S.to ?_ (hk4 () trivial)
                  exact ⟨rfl, rfl, rfl, rfl, rfl, rfl, rfl, rfl, rfl, trivial⟩
                · replace h := cond_f b35 h
                  obtain ⟨x36, hx37, h⟩ := opt_bind h
                  obtain ⟨t38, ht39, h⟩ := opt_bind h
                  obtain ⟨x40, hx41, h⟩ := opt_bind h
                  refine S.draw' (Z := fun Q => ∀ (_ : Unit) (_ : Unit) (_ : Unit) (_ : Unit) (_ : Unit) (_ : Unit) (_ : Unit) (_ : Unit) (_ : Unit), Q [(10, .int .i64 x10_3), (9, v20), (0, v0), (1, v1), (4, .bool false), (5, .bool t1), (7, v6), (6, .int .i64 j6_1), (101, .bool (t38 == x40.Val))] [Own 23 (ekI .u64) v6 qv6_3, Own 35 ek_view_Pair_uint64 v20 t18, F]) (T := [tS 9 (v20), tS 10 (.int .i64 x10_3), tS 6 (.int .i64 j6_1), tS 0 (v0), tE [(1, v1), (4, .bool false), (5, .bool t1), (7, v6)], tR (Own 23 (ekI .u64) v6 qv6_3), tR (Own 35 ek_view_Pair_uint64 v20 t18), tR (F), tS 54 (v20), tS 55 (.int .i64 x10_3), tS 56 (idxp v20 (x10_3.toNat * ek_view_Pair_uint64.sz)), tS 57 (idxp v20 (x10_3.toNat * ek_view_Pair_uint64.sz)), tS 58 (.int .i64 x24.At), tS 59 (.bool (decide (x24.At < 0))), tS 60 (.bool (decide (x24.At < 0))), tS 61 (v20), tS 62 (.int .i64 x10_3), tS 63 (idxp v20 (x10_3.toNat * ek_view_Pair_uint64.sz)), tS 64 (idxp v20 (x10_3.toNat * ek_view_Pair_uint64.sz)), tS 65 (.int .i64 x27.At), tS 66 (.int .i64 j6_1), tS 67 (.bool (decide (j6_1 ≤ x27.At))), tS 68 (.bool (decide (j6_1 ≤ x27.At))), tS 69 (.bool (decide (j6_1 ≤ x27.At))), tS 70 (.int .i64 x10_3), tS 71 (.bool (decide (0 < x10_3))), tS 72 (.bool (decide (0 < x10_3))), tS 73 (v20), tS 74 (.int .i64 x10_3), tS 75 (idxp v20 (x10_3.toNat * ek_view_Pair_uint64.sz)), tS 76 (idxp v20 (x10_3.toNat * ek_view_Pair_uint64.sz)), tS 77 (.int .i64 x31.At), tS 78 (v20), tS 79 (.int .i64 x10_3), tS 80 (.int .i64 (w64 (x10_3 - 1))), tS 81 (idxp v20 ((w64 (x10_3 - 1)).toNat * ek_view_Pair_uint64.sz)), tS 82 (idxp v20 ((w64 (x10_3 - 1)).toNat * ek_view_Pair_uint64.sz)), tS 83 (.int .i64 x33.At), tS 84 (.bool (decide (x31.At ≤ x33.At))), tS 85 (.bool (decide (x31.At ≤ x33.At))), tS 86 (.bool (decide (x31.At ≤ x33.At))), tS 87 (.bool (decide (x31.At ≤ x33.At))), tS 88 (v0), tS 89 (v20), tS 90 (.int .i64 x10_3), tS 91 (idxp v20 (x10_3.toNat * ek_view_Pair_uint64.sz)), tS 92 (idxp v20 (x10_3.toNat * ek_view_Pair_uint64.sz)), tS 93 (.int .i64 x36.At), tS 94 (.int .u64 t38), tS 95 (v20), tS 96 (.int .i64 x10_3), tS 97 (idxp v20 (x10_3.toNat * ek_view_Pair_uint64.sz)), tS 98 (idxp v20 (x10_3.toNat * ek_view_Pair_uint64.sz + 1)), tS 99 (.int .u64 x40.Val), tS 100 (.bool (t38 == x40.Val)), tS 101 (.bool (t38 == x40.Val))]) (D := [⟨[0], [], [8]⟩, ⟨[1], [], [9]⟩, ⟨[8, 9, 6], [], [10]⟩, ⟨[10, 6], [], [11]⟩, ⟨[11, 6], [], [12]⟩, ⟨[12], [], [13]⟩, ⟨[13], [], [14]⟩, ⟨[0, 14], [], [15]⟩, ⟨[1, 14], [], [16]⟩, ⟨[14, 15, 16, 6], [], [17]⟩, ⟨[14, 17, 6], [], [18]⟩, ⟨[14, 18, 6], [], [19]⟩, ⟨[2, 14], [], [20]⟩, ⟨[14, 19, 20], [], [21]⟩, ⟨[14, 21], [], [22]⟩, ⟨[22], [], [23]⟩, ⟨[1, 23], [], [24]⟩, ⟨[23, 24], [], [25]⟩, ⟨[23, 25], [], [26]⟩, ⟨[0, 26], [], [27]⟩, ⟨[1, 26], [], [28]⟩, ⟨[26, 27, 28, 6], [], [29]⟩, ⟨[26, 29, 6], [], [30]⟩, ⟨[26, 30, 6], [], [31]⟩, ⟨[0, 26], [], [32]⟩, ⟨[1, 26], [], [33]⟩, ⟨[26, 33], [], [34]⟩, ⟨[26, 32, 34, 6], [], [35]⟩, ⟨[26, 35, 6], [], [36]⟩, ⟨[26, 36, 6], [], [37]⟩, ⟨[26, 31, 37], [], [38]⟩, ⟨[23, 26, 38], [], [39]⟩, ⟨[23, 39], [], [40]⟩, ⟨[40], [], [41]⟩, ⟨[3, 41], [], [42]⟩, ⟨[0, 41], [], [43]⟩, ⟨[1, 41], [], [44]⟩, ⟨[41, 43, 44, 6], [], [45]⟩, ⟨[41, 45, 6], [], [46]⟩, ⟨[41, 46, 6], [], [47]⟩, ⟨[41, 42, 47, 7], [], [48]⟩, ⟨[0, 41], [], [49]⟩, ⟨[1, 41], [], [50]⟩, ⟨[41, 49, 50, 6], [], [51]⟩, ⟨[41, 51, 6], [], [52]⟩, ⟨[41, 52, 6], [], [53]⟩, ⟨[41, 48, 53], [], [54]⟩, ⟨[41, 54], [], [55]⟩]) (ini := [0, 1, 2, 3, 4, 5, 6, 7]) (fin := [1, 0, 3, 4, 2, 55, 5, 6, 7]) (bf := [[], [], [0, 1], [0, 1, 2], [0, 1, 2, 3], [0, 1, 2, 3, 4], [0, 1, 2, 3, 4, 5], [0, 1, 2, 3, 4, 5, 6], [0, 1, 2, 3, 4, 5, 6], [0, 1, 2, 3, 4, 5, 6, 7, 8], [0, 1, 2, 3, 4, 5, 6, 7, 8, 9], [0, 1, 2, 3, 4, 5, 6, 7, 8, 9, 10], [0, 1, 2, 3, 4, 5, 6], [0, 1, 2, 3, 4, 5, 6, 7, 8, 9, 10, 11, 12], [0, 1, 2, 3, 4, 5, 6, 7, 8, 9, 10, 11, 12, 13], [0, 1, 2, 3, 4, 5, 6, 7, 8, 9, 10, 11, 12, 13, 14], [0, 1, 2, 3, 4, 5, 6, 7, 8, 9, 10, 11, 12, 13, 14, 15], [0, 1, 2, 3, 4, 5, 6, 7, 8, 9, 10, 11, 12, 13, 14, 15, 16], [0, 1, 2, 3, 4, 5, 6, 7, 8, 9, 10, 11, 12, 13, 14, 15, 16, 17], [0, 1, 2, 3, 4, 5, 6, 7, 8, 9, 10, 11, 12, 13, 14, 15, 16, 17, 18], [0, 1, 2, 3, 4, 5, 6, 7, 8, 9, 10, 11, 12, 13, 14, 15, 16, 17, 18], [0, 1, 2, 3, 4, 5, 6, 7, 8, 9, 10, 11, 12, 13, 14, 15, 16, 17, 18, 19, 20], [0, 1, 2, 3, 4, 5, 6, 7, 8, 9, 10, 11, 12, 13, 14, 15, 16, 17, 18, 19, 20, 21], [0, 1, 2, 3, 4, 5, 6, 7, 8, 9, 10, 11, 12, 13, 14, 15, 16, 17, 18, 19, 20, 21, 22], [0, 1, 2, 3, 4, 5, 6, 7, 8, 9, 10, 11, 12, 13, 14, 15, 16, 17, 18], [0, 1, 2, 3, 4, 5, 6, 7, 8, 9, 10, 11, 12, 13, 14, 15, 16, 17, 18], [0, 1, 2, 3, 4, 5, 6, 7, 8, 9, 10, 11, 12, 13, 14, 15, 16, 17, 18, 25], [0, 1, 2, 3, 4, 5, 6, 7, 8, 9, 10, 11, 12, 13, 14, 15, 16, 17, 18, 24, 25, 26], [0, 1, 2, 3, 4, 5, 6, 7, 8, 9, 10, 11, 12, 13, 14, 15, 16, 17, 18, 24, 25, 26, 27], [0, 1, 2, 3, 4, 5, 6, 7, 8, 9, 10, 11, 12, 13, 14, 15, 16, 17, 18, 24, 25, 26, 27, 28], [0, 1, 2, 3, 4, 5, 6, 7, 8, 9, 10, 11, 12, 13, 14, 15, 16, 17, 18, 19, 20, 21, 22, 23, 24, 25, 26, 27, 28, 29], [0, 1, 2, 3, 4, 5, 6, 7, 8, 9, 10, 11, 12, 13, 14, 15, 16, 17, 18, 19, 20, 21, 22, 23, 24, 25, 26, 27, 28, 29, 30], [0, 1, 2, 3, 4, 5, 6, 7, 8, 9, 10, 11, 12, 13, 14, 15, 16, 17, 18, 19, 20, 21, 22, 23, 24, 25, 26, 27, 28, 29, 30, 31], [0, 1, 2, 3, 4, 5, 6, 7, 8, 9, 10, 11, 12, 13, 14, 15, 16, 17, 18, 19, 20, 21, 22, 23, 24, 25, 26, 27, 28, 29, 30, 31, 32], [0, 1, 2, 3, 4, 5, 6, 7, 8, 9, 10, 11, 12, 13, 14, 15, 16, 17, 18, 19, 20, 21, 22, 23, 24, 25, 26, 27, 28, 29, 30, 31, 32, 33], [0, 1, 2, 3, 4, 5, 6, 7, 8, 9, 10, 11, 12, 13, 14, 15, 16, 17, 18, 19, 20, 21, 22, 23, 24, 25, 26, 27, 28, 29, 30, 31, 32, 33], [0, 1, 2, 3, 4, 5, 6, 7, 8, 9, 10, 11, 12, 13, 14, 15, 16, 17, 18, 19, 20, 21, 22, 23, 24, 25, 26, 27, 28, 29, 30, 31, 32, 33], [0, 1, 2, 3, 4, 5, 6, 7, 8, 9, 10, 11, 12, 13, 14, 15, 16, 17, 18, 19, 20, 21, 22, 23, 24, 25, 26, 27, 28, 29, 30, 31, 32, 33, 35, 36], [0, 1, 2, 3, 4, 5, 6, 7, 8, 9, 10, 11, 12, 13, 14, 15, 16, 17, 18, 19, 20, 21, 22, 23, 24, 25, 26, 27, 28, 29, 30, 31, 32, 33, 35, 36, 37], [0, 1, 2, 3, 4, 5, 6, 7, 8, 9, 10, 11, 12, 13, 14, 15, 16, 17, 18, 19, 20, 21, 22, 23, 24, 25, 26, 27, 28, 29, 30, 31, 32, 33, 35, 36, 37, 38], [0, 1, 2, 3, 4, 5, 6, 7, 8, 9, 10, 11, 12, 13, 14, 15, 16, 17, 18, 19, 20, 21, 22, 23, 24, 25, 26, 27, 28, 29, 30, 31, 32, 33, 34, 35, 36, 37, 38, 39], [0, 1, 2, 3, 4, 5, 6, 7, 8, 9, 10, 11, 12, 13, 14, 15, 16, 17, 18, 19, 20, 21, 22, 23, 24, 25, 26, 27, 28, 29, 30, 31, 32, 33], [0, 1, 2, 3, 4, 5, 6, 7, 8, 9, 10, 11, 12, 13, 14, 15, 16, 17, 18, 19, 20, 21, 22, 23, 24, 25, 26, 27, 28, 29, 30, 31, 32, 33], [0, 1, 2, 3, 4, 5, 6, 7, 8, 9, 10, 11, 12, 13, 14, 15, 16, 17, 18, 19, 20, 21, 22, 23, 24, 25, 26, 27, 28, 29, 30, 31, 32, 33, 41, 42], [0, 1, 2, 3, 4, 5, 6, 7, 8, 9, 10, 11, 12, 13, 14, 15, 16, 17, 18, 19, 20, 21, 22, 23, 24, 25, 26, 27, 28, 29, 30, 31, 32, 33, 41, 42, 43], [0, 1, 2, 3, 4, 5, 6, 7, 8, 9, 10, 11, 12, 13, 14, 15, 16, 17, 18, 19, 20, 21, 22, 23, 24, 25, 26, 27, 28, 29, 30, 31, 32, 33, 41, 42, 43, 44], [0, 1, 2, 3, 4, 5, 6, 7, 8, 9, 10, 11, 12, 13, 14, 15, 16, 17, 18, 19, 20, 21, 22, 23, 24, 25, 26, 27, 28, 29, 30, 31, 32, 33, 34, 35, 36, 37, 38, 39, 40, 41, 42, 43, 44, 45], [0, 1, 2, 3, 4, 5, 6, 7, 8, 9, 10, 11, 12, 13, 14, 15, 16, 17, 18, 19, 20, 21, 22, 23, 24, 25, 26, 27, 28, 29, 30, 31, 32, 33, 34, 35, 36, 37, 38, 39, 40, 41, 42, 43, 44, 45, 46]]) (by kernel_rfl) (by kernel_rfl) (fun x w h1 h2 => (.cons () (.cons () (.cons () (.cons () (.cons () (.cons () (.cons () (.cons () (.nil ⟨EnvAll.of h1 ⟨rfl, rfl, rfl, rfl, rfl, rfl, rfl, rfl, trivial⟩, h2⟩)))))))))) (fun Q => by kernel_rfl) ⟨?_, ?_, ?_, ?_, ?_, ?_, ?_, ?_, ?_, ?_, ?_, ?_, ?_, ?_, ?_, ?_, ?_, ?_, ?_, ?_, ?_, ?_, ?_, ?_, ?_, ?_, ?_, ?_, ?_, ?_, ?_, ?_, ?_, ?_, ?_, ?_, ?_, ?_, ?_, ?_, ?_, ?_, ?_, ?_, ?_, ?_, ?_, ?_, trivial⟩ ?_
                  · rintro Fr _
                    refine SO.v rfl (opv_move rfl) ?_
                    exact SO.nilZ fun a w h1 h2 h3 h4 h5 => PZ.of h1 h3 h5 (.cons () (.cons () (.nil ⟨EnvAll.of h2 ⟨rfl, rfl, trivial⟩, h4⟩)))
                  · rintro Fr _
                    refine SO.v rfl (opv_move rfl) ?_
                    exact SO.nilZ fun a w h1 h2 h3 h4 h5 => PZ.of h1 h3 h5 (.cons () (.cons () (.nil ⟨EnvAll.of h2 ⟨rfl, rfl, trivial⟩, h4⟩)))
                  · rintro Fr _ _ _
                    refine SO.v rfl (opv_idx Try.underlying32 Try.sizeOf35 hr21 rfl rfl hx25) ?_
                    exact SO.nilZ fun a w h1 h2 h3 h4 h5 => PZ.of h1 h3 h5 (.cons () (.cons () (.cons () (.cons () (.nil ⟨EnvAll.of h2 ⟨rfl, rfl, rfl, trivial⟩, h4⟩)))))
                  · rintro Fr _ _
                    refine SO.v rfl (opv_fieldIdx Try.underlying35 rfl Try.sizeOf3 hr21 hx25 rfl rfl) ?_
                    exact SO.nilZ fun a w h1 h2 h3 h4 h5 => PZ.of h1 h3 h5 (.cons () (.cons () (.cons () (.nil ⟨EnvAll.of h2 ⟨rfl, rfl, trivial⟩, h4⟩))))
                  · rintro Fr _ _
                    refine SO.loadI1 (j := 0) rfl Try.isAgg3 (Rd.head hr21) hx25 rfl rfl rfl rfl ?_
                    exact SO.nilZ fun a w h1 h2 h3 h4 h5 => PZ.of h1 h3 h5 (.cons () (.cons () (.cons () (.nil ⟨EnvAll.of h2 ⟨rfl, rfl, trivial⟩, h4⟩))))
                  · rintro Fr _
                    refine SO.v rfl (opv_lss rfl rfl) ?_
                    exact SO.nilZ fun a w h1 h2 h3 h4 h5 => PZ.of h1 h3 h5 (.cons () (.cons () (.nil ⟨EnvAll.of h2 ⟨rfl, rfl, trivial⟩, h4⟩)))
                  · rintro Fr _
                    refine SO.v rfl (opv_move rfl) ?_
                    exact SO.nilZ fun a w h1 h2 h3 h4 h5 => PZ.of h1 h3 h5 (.cons () (.cons () (.nil ⟨EnvAll.of h2 ⟨rfl, rfl, trivial⟩, h4⟩)))
                  · rintro Fr _ _
                    refine SO.takeT rfl rfl rfl b26 ?_
                    refine SO.v rfl (opv_move rfl) ?_
                    exact SO.nilZ fun a w h1 h2 h3 h4 h5 => PZ.of h1 h3 h5 (.cons () (.cons () (.cons () (.nil ⟨EnvAll.of h2 ⟨rfl, rfl, rfl, trivial⟩, h4⟩))))
                  · rintro Fr _ _
                    refine SO.takeT rfl rfl rfl b26 ?_
                    refine SO.v rfl (opv_move rfl) ?_
                    exact SO.nilZ fun a w h1 h2 h3 h4 h5 => PZ.of h1 h3 h5 (.cons () (.cons () (.cons () (.nil ⟨EnvAll.of h2 ⟨rfl, rfl, rfl, trivial⟩, h4⟩))))
                  · rintro Fr _ _ _ _
                    refine SO.takeT rfl rfl rfl b26 ?_
                    refine SO.v rfl (opv_idx Try.underlying32 Try.sizeOf35 hr21 rfl rfl hx28) ?_
                    exact SO.nilZ fun a w h1 h2 h3 h4 h5 => PZ.of h1 h3 h5 (.cons () (.cons () (.cons () (.cons () (.cons () (.nil ⟨EnvAll.of h2 ⟨rfl, rfl, rfl, rfl, trivial⟩, h4⟩))))))
                  · rintro Fr _ _ _
                    refine SO.takeT rfl rfl rfl b26 ?_
                    refine SO.v rfl (opv_fieldIdx Try.underlying35 rfl Try.sizeOf3 hr21 hx28 rfl rfl) ?_
                    exact SO.nilZ fun a w h1 h2 h3 h4 h5 => PZ.of h1 h3 h5 (.cons () (.cons () (.cons () (.cons () (.nil ⟨EnvAll.of h2 ⟨rfl, rfl, rfl, trivial⟩, h4⟩)))))
                  · rintro Fr _ _ _
                    refine SO.takeT rfl rfl rfl b26 ?_
                    refine SO.loadI1 (j := 0) rfl Try.isAgg3 (Rd.head hr21) hx28 rfl rfl rfl rfl ?_
                    exact SO.nilZ fun a w h1 h2 h3 h4 h5 => PZ.of h1 h3 h5 (.cons () (.cons () (.cons () (.cons () (.nil ⟨EnvAll.of h2 ⟨rfl, rfl, rfl, trivial⟩, h4⟩)))))
                  · rintro Fr _ _
                    refine SO.takeT rfl rfl rfl b26 ?_
                    refine SO.v rfl (opv_move rfl) ?_
                    exact SO.nilZ fun a w h1 h2 h3 h4 h5 => PZ.of h1 h3 h5 (.cons () (.cons () (.cons () (.nil ⟨EnvAll.of h2 ⟨rfl, rfl, rfl, trivial⟩, h4⟩))))
                  · rintro Fr _ _ _
                    refine SO.takeT rfl rfl rfl b26 ?_
                    refine SO.v rfl (opv_geq rfl rfl) ?_
                    exact SO.nilZ fun a w h1 h2 h3 h4 h5 => PZ.of h1 h3 h5 (.cons () (.cons () (.cons () (.cons () (.nil ⟨EnvAll.of h2 ⟨rfl, rfl, rfl, rfl, trivial⟩, h4⟩)))))
                  · rintro Fr _ _
                    refine SO.v rfl (opv_pick_f' b26 rfl rfl) ?_
                    exact SO.nilZ fun a w h1 h2 h3 h4 h5 => PZ.of h1 h3 h5 (.cons () (.cons () (.cons () (.nil ⟨EnvAll.of h2 ⟨rfl, rfl, rfl, trivial⟩, h4⟩))))
                  · rintro Fr _
                    refine SO.v rfl (opv_move rfl) ?_
                    exact SO.nilZ fun a w h1 h2 h3 h4 h5 => PZ.of h1 h3 h5 (.cons () (.cons () (.nil ⟨EnvAll.of h2 ⟨rfl, rfl, trivial⟩, h4⟩)))
                  · rintro Fr _ _
                    refine SO.takeT rfl rfl rfl b29 ?_
                    refine SO.v rfl (opv_move rfl) ?_
                    exact SO.nilZ fun a w h1 h2 h3 h4 h5 => PZ.of h1 h3 h5 (.cons () (.cons () (.cons () (.nil ⟨EnvAll.of h2 ⟨rfl, rfl, rfl, trivial⟩, h4⟩))))
                  · rintro Fr _ _
                    refine SO.takeT rfl rfl rfl b29 ?_
                    refine SO.v rfl (opv_gtr rfl rfl) ?_
                    exact SO.nilZ fun a w h1 h2 h3 h4 h5 => PZ.of h1 h3 h5 (.cons () (.cons () (.cons () (.nil ⟨EnvAll.of h2 ⟨rfl, rfl, rfl, trivial⟩, h4⟩))))
                  · rintro Fr _ _
                    refine SO.takeT rfl rfl rfl b29 ?_
                    refine SO.v rfl (opv_move rfl) ?_
                    exact SO.nilZ fun a w h1 h2 h3 h4 h5 => PZ.of h1 h3 h5 (.cons () (.cons () (.cons () (.nil ⟨EnvAll.of h2 ⟨rfl, rfl, rfl, trivial⟩, h4⟩))))
                  · rintro Fr _ _
                    refine SO.takeT rfl rfl rfl b30 ?_
                    refine SO.v rfl (opv_move rfl) ?_
                    exact SO.nilZ fun a w h1 h2 h3 h4 h5 => PZ.of h1 h3 h5 (.cons () (.cons () (.cons () (.nil ⟨EnvAll.of h2 ⟨rfl, rfl, rfl, trivial⟩, h4⟩))))
                  · rintro Fr _ _
                    refine SO.takeT rfl rfl rfl b30 ?_
                    refine SO.v rfl (opv_move rfl) ?_
                    exact SO.nilZ fun a w h1 h2 h3 h4 h5 => PZ.of h1 h3 h5 (.cons () (.cons () (.cons () (.nil ⟨EnvAll.of h2 ⟨rfl, rfl, rfl, trivial⟩, h4⟩))))
                  · rintro Fr _ _ _ _
                    refine SO.takeT rfl rfl rfl b30 ?_
                    refine SO.v rfl (opv_idx Try.underlying32 Try.sizeOf35 hr21 rfl rfl hx32) ?_
                    exact SO.nilZ fun a w h1 h2 h3 h4 h5 => PZ.of h1 h3 h5 (.cons () (.cons () (.cons () (.cons () (.cons () (.nil ⟨EnvAll.of h2 ⟨rfl, rfl, rfl, rfl, trivial⟩, h4⟩))))))
                  · rintro Fr _ _ _
                    refine SO.takeT rfl rfl rfl b30 ?_
                    refine SO.v rfl (opv_fieldIdx Try.underlying35 rfl Try.sizeOf3 hr21 hx32 rfl rfl) ?_
                    exact SO.nilZ fun a w h1 h2 h3 h4 h5 => PZ.of h1 h3 h5 (.cons () (.cons () (.cons () (.cons () (.nil ⟨EnvAll.of h2 ⟨rfl, rfl, rfl, trivial⟩, h4⟩)))))
                  · rintro Fr _ _ _
                    refine SO.takeT rfl rfl rfl b30 ?_
                    refine SO.loadI1 (j := 0) rfl Try.isAgg3 (Rd.head hr21) hx32 rfl rfl rfl rfl ?_
                    exact SO.nilZ fun a w h1 h2 h3 h4 h5 => PZ.of h1 h3 h5 (.cons () (.cons () (.cons () (.cons () (.nil ⟨EnvAll.of h2 ⟨rfl, rfl, rfl, trivial⟩, h4⟩)))))
                  · rintro Fr _ _
                    refine SO.takeT rfl rfl rfl b30 ?_
                    refine SO.v rfl (opv_move rfl) ?_
                    exact SO.nilZ fun a w h1 h2 h3 h4 h5 => PZ.of h1 h3 h5 (.cons () (.cons () (.cons () (.nil ⟨EnvAll.of h2 ⟨rfl, rfl, rfl, trivial⟩, h4⟩))))
                  · rintro Fr _ _
                    refine SO.takeT rfl rfl rfl b30 ?_
                    refine SO.v rfl (opv_move rfl) ?_
                    exact SO.nilZ fun a w h1 h2 h3 h4 h5 => PZ.of h1 h3 h5 (.cons () (.cons () (.cons () (.nil ⟨EnvAll.of h2 ⟨rfl, rfl, rfl, trivial⟩, h4⟩))))
                  · rintro Fr _ _
                    refine SO.takeT rfl rfl rfl b30 ?_
                    refine SO.v rfl (opv_sub rfl rfl) ?_
                    exact SO.nilZ fun a w h1 h2 h3 h4 h5 => PZ.of h1 h3 h5 (.cons () (.cons () (.cons () (.nil ⟨EnvAll.of h2 ⟨rfl, rfl, rfl, trivial⟩, h4⟩))))
                  · rintro Fr _ _ _ _
                    refine SO.takeT rfl rfl rfl b30 ?_
                    refine SO.v rfl (opv_idx Try.underlying32 Try.sizeOf35 hr21 rfl rfl hx34) ?_
                    exact SO.nilZ fun a w h1 h2 h3 h4 h5 => PZ.of h1 h3 h5 (.cons () (.cons () (.cons () (.cons () (.cons () (.nil ⟨EnvAll.of h2 ⟨rfl, rfl, rfl, rfl, trivial⟩, h4⟩))))))
                  · rintro Fr _ _ _
                    refine SO.takeT rfl rfl rfl b30 ?_
                    refine SO.v rfl (opv_fieldIdx Try.underlying35 rfl Try.sizeOf3 hr21 hx34 rfl rfl) ?_
                    exact SO.nilZ fun a w h1 h2 h3 h4 h5 => PZ.of h1 h3 h5 (.cons () (.cons () (.cons () (.cons () (.nil ⟨EnvAll.of h2 ⟨rfl, rfl, rfl, trivial⟩, h4⟩)))))
                  · rintro Fr _ _ _
                    refine SO.takeT rfl rfl rfl b30 ?_
                    refine SO.loadI1 (j := 0) rfl Try.isAgg3 (Rd.head hr21) hx34 rfl rfl rfl rfl ?_
                    exact SO.nilZ fun a w h1 h2 h3 h4 h5 => PZ.of h1 h3 h5 (.cons () (.cons () (.cons () (.cons () (.nil ⟨EnvAll.of h2 ⟨rfl, rfl, rfl, trivial⟩, h4⟩)))))
                  · rintro Fr _ _ _
                    refine SO.takeT rfl rfl rfl b30 ?_
                    refine SO.v rfl (opv_leq rfl rfl) ?_
                    exact SO.nilZ fun a w h1 h2 h3 h4 h5 => PZ.of h1 h3 h5 (.cons () (.cons () (.cons () (.cons () (.nil ⟨EnvAll.of h2 ⟨rfl, rfl, rfl, rfl, trivial⟩, h4⟩)))))
                  · rintro Fr _ _ _
                    refine SO.takeT rfl rfl rfl b29 ?_
                    refine SO.v rfl (opv_pick_t' b30 rfl rfl) ?_
                    exact SO.nilZ fun a w h1 h2 h3 h4 h5 => PZ.of h1 h3 h5 (.cons () (.cons () (.cons () (.cons () (.nil ⟨EnvAll.of h2 ⟨rfl, rfl, rfl, rfl, trivial⟩, h4⟩)))))
                  · rintro Fr _ _
                    refine SO.v rfl (opv_pick_f' b29 rfl rfl) ?_
                    exact SO.nilZ fun a w h1 h2 h3 h4 h5 => PZ.of h1 h3 h5 (.cons () (.cons () (.cons () (.nil ⟨EnvAll.of h2 ⟨rfl, rfl, rfl, trivial⟩, h4⟩))))
                  · rintro Fr _
                    refine SO.v rfl (opv_move rfl) ?_
                    exact SO.nilZ fun a w h1 h2 h3 h4 h5 => PZ.of h1 h3 h5 (.cons () (.cons () (.nil ⟨EnvAll.of h2 ⟨rfl, rfl, trivial⟩, h4⟩)))
                  · rintro Fr _ _
                    refine SO.takeT rfl rfl rfl b35 ?_
                    refine SO.v rfl (opv_move rfl) ?_
                    exact SO.nilZ fun a w h1 h2 h3 h4 h5 => PZ.of h1 h3 h5 (.cons () (.cons () (.cons () (.nil ⟨EnvAll.of h2 ⟨rfl, rfl, rfl, trivial⟩, h4⟩))))
                  · rintro Fr _ _
                    refine SO.takeT rfl rfl rfl b35 ?_
                    refine SO.v rfl (opv_move rfl) ?_
                    exact SO.nilZ fun a w h1 h2 h3 h4 h5 => PZ.of h1 h3 h5 (.cons () (.cons () (.cons () (.nil ⟨EnvAll.of h2 ⟨rfl, rfl, rfl, trivial⟩, h4⟩))))
                  · rintro Fr _ _
                    refine SO.takeT rfl rfl rfl b35 ?_
                    refine SO.v rfl (opv_move rfl) ?_
                    exact SO.nilZ fun a w h1 h2 h3 h4 h5 => PZ.of h1 h3 h5 (.cons () (.cons () (.cons () (.nil ⟨EnvAll.of h2 ⟨rfl, rfl, rfl, trivial⟩, h4⟩))))
                  · rintro Fr _ _ _ _
                    refine SO.takeT rfl rfl rfl b35 ?_
                    refine SO.v rfl (opv_idx Try.underlying32 Try.sizeOf35 hr21 rfl rfl hx37) ?_
                    exact SO.nilZ fun a w h1 h2 h3 h4 h5 => PZ.of h1 h3 h5 (.cons () (.cons () (.cons () (.cons () (.cons () (.nil ⟨EnvAll.of h2 ⟨rfl, rfl, rfl, rfl, trivial⟩, h4⟩))))))
                  · rintro Fr _ _ _
                    refine SO.takeT rfl rfl rfl b35 ?_
                    refine SO.v rfl (opv_fieldIdx Try.underlying35 rfl Try.sizeOf3 hr21 hx37 rfl rfl) ?_
                    exact SO.nilZ fun a w h1 h2 h3 h4 h5 => PZ.of h1 h3 h5 (.cons () (.cons () (.cons () (.cons () (.nil ⟨EnvAll.of h2 ⟨rfl, rfl, rfl, trivial⟩, h4⟩)))))
                  · rintro Fr _ _ _
                    refine SO.takeT rfl rfl rfl b35 ?_
                    refine SO.loadI1 (j := 0) rfl Try.isAgg3 (Rd.head hr21) hx37 rfl rfl rfl rfl ?_
                    exact SO.nilZ fun a w h1 h2 h3 h4 h5 => PZ.of h1 h3 h5 (.cons () (.cons () (.cons () (.cons () (.nil ⟨EnvAll.of h2 ⟨rfl, rfl, rfl, trivial⟩, h4⟩)))))
                  · rintro Fr _ _ _ _
                    refine SO.takeT rfl rfl rfl b35 ?_
                    refine SO.call (pre := []) rfl Try.call7 rfl rfl rfl (law05_at.ct v0 _ _ _ ht39) (Rd.head hF0) ?_
                    rintro _ _ ⟨rfl, rfl⟩
                    exact SO.nilZ fun a w h1 h2 h3 h4 h5 => PZ.of h1 h3 h5 (.cons () (.cons () (.cons () (.cons () (.cons () (.nil ⟨EnvAll.of h2 ⟨rfl, rfl, rfl, rfl, trivial⟩, h4⟩))))))
                  · rintro Fr _ _
                    refine SO.takeT rfl rfl rfl b35 ?_
                    refine SO.v rfl (opv_move rfl) ?_
                    exact SO.nilZ fun a w h1 h2 h3 h4 h5 => PZ.of h1 h3 h5 (.cons () (.cons () (.cons () (.nil ⟨EnvAll.of h2 ⟨rfl, rfl, rfl, trivial⟩, h4⟩))))
                  · rintro Fr _ _
                    refine SO.takeT rfl rfl rfl b35 ?_
                    refine SO.v rfl (opv_move rfl) ?_
                    exact SO.nilZ fun a w h1 h2 h3 h4 h5 => PZ.of h1 h3 h5 (.cons () (.cons () (.cons () (.nil ⟨EnvAll.of h2 ⟨rfl, rfl, rfl, trivial⟩, h4⟩))))
                  · rintro Fr _ _ _ _
                    refine SO.takeT rfl rfl rfl b35 ?_
                    refine SO.v rfl (opv_idx Try.underlying32 Try.sizeOf35 hr21 rfl rfl hx41) ?_
                    exact SO.nilZ fun a w h1 h2 h3 h4 h5 => PZ.of h1 h3 h5 (.cons () (.cons () (.cons () (.cons () (.cons () (.nil ⟨EnvAll.of h2 ⟨rfl, rfl, rfl, rfl, trivial⟩, h4⟩))))))
                  · rintro Fr _ _ _
                    refine SO.takeT rfl rfl rfl b35 ?_
                    refine SO.v rfl (opv_fieldIdx Try.underlying35 rfl Try.sizeOf23 hr21 hx41 rfl rfl) ?_
                    exact SO.nilZ fun a w h1 h2 h3 h4 h5 => PZ.of h1 h3 h5 (.cons () (.cons () (.cons () (.cons () (.nil ⟨EnvAll.of h2 ⟨rfl, rfl, rfl, trivial⟩, h4⟩)))))
                  · rintro Fr _ _ _
                    refine SO.takeT rfl rfl rfl b35 ?_
                    refine SO.loadI1 (j := 1) rfl Try.isAgg23 (Rd.head hr21) hx41 rfl rfl rfl rfl ?_
                    exact SO.nilZ fun a w h1 h2 h3 h4 h5 => PZ.of h1 h3 h5 (.cons () (.cons () (.cons () (.cons () (.nil ⟨EnvAll.of h2 ⟨rfl, rfl, rfl, trivial⟩, h4⟩)))))
                  · rintro Fr _ _ _
                    refine SO.takeT rfl rfl rfl b35 ?_
                    refine SO.v rfl (opv_eql rfl rfl) ?_
                    exact SO.nilZ fun a w h1 h2 h3 h4 h5 => PZ.of h1 h3 h5 (.cons () (.cons () (.cons () (.cons () (.nil ⟨EnvAll.of h2 ⟨rfl, rfl, rfl, rfl, trivial⟩, h4⟩)))))
                  · rintro Fr _ _
                    refine SO.v rfl (opv_pick_f' b35 rfl rfl) ?_
                    exact SO.nilZ fun a w h1 h2 h3 h4 h5 => PZ.of h1 h3 h5 (.cons () (.cons () (.cons () (.nil ⟨EnvAll.of h2 ⟨rfl, rfl, rfl, trivial⟩, h4⟩))))
                  rintro _ _ _ _ _ _ _ _ _
                  refine S.to (ρ' := [(10, .int .i64 x10_3), (9, v20), (0, v0), (1, v1), (4, .bool false), (5, .bool t1), (7, v6), (6, .int .i64 j6_1), (101, .bool (t38 == x40.Val))]) ⟨rfl, rfl, rfl, rfl, rfl, rfl, rfl, rfl, rfl, trivial⟩ ?_
                  cases h
                  refine S.b2 ?_
                  refine S.b2 ?_
                  refine S.b2 ?_
                  refine S.to ?_ (hk4 () trivial)
                  exact ⟨rfl, rfl, rfl, rfl, rfl, rfl, rfl, rfl, rfl, trivial⟩
              · replace h := cond_f b30 h
                obtain ⟨x42, hx43, h⟩ := opt_bind h
                obtain ⟨t44, ht45, h⟩ := opt_bind h
                obtain ⟨x46, hx47, h⟩ := opt_bind h
                refine S.draw' (Z := fun Q => ∀ (_ : Unit) (_ : Unit) (_ : Unit) (_ : Unit) (_ : Unit) (_ : Unit) (_ : Unit) (_ : Unit) (_ : Unit), Q [(10, .int .i64 x10_3), (9, v20), (0, v0), (1, v1), (4, .bool false), (5, .bool t1), (7, v6), (6, .int .i64 j6_1), (101, .bool (t44 == x46.Val))] [Own 23 (ekI .u64) v6 qv6_3, Own 35 ek_view_Pair_uint64 v20 t18, F]) (T := [tS 9 (v20), tS 10 (.int .i64 x10_3), tS 6 (.int .i64 j6_1), tS 0 (v0), tE [(1, v1), (4, .bool false), (5, .bool t1), (7, v6)], tR (Own 23 (ekI .u64) v6 qv6_3), tR (Own 35 ek_view_Pair_uint64 v20 t18), tR (F), tS 54 (v20), tS 55 (.int .i64 x10_3), tS 56 (idxp v20 (x10_3.toNat * ek_view_Pair_uint64.sz)), tS 57 (idxp v20 (x10_3.toNat * ek_view_Pair_uint64.sz)), tS 58 (.int .i64 x24.At), tS 59 (.bool (decide (x24.At < 0))), tS 60 (.bool (decide (x24.At < 0))), tS 61 (v20), tS 62 (.int .i64 x10_3), tS 63 (idxp v20 (x10_3.toNat * ek_view_Pair_uint64.sz)), tS 64 (idxp v20 (x10_3.toNat * ek_view_Pair_uint64.sz)), tS 65 (.int .i64 x27.At), tS 66 (.int .i64 j6_1), tS 67 (.bool (decide (j6_1 ≤ x27.At))), tS 68 (.bool (decide (j6_1 ≤ x27.At))), tS 69 (.bool (decide (j6_1 ≤ x27.At))), tS 70 (.int .i64 x10_3), tS 71 (.bool (decide (0 < x10_3))), tS 72 (.bool (decide (0 < x10_3))), tS 73 (undef), tS 74 (undef), tS 75 (undef), tS 76 (undef), tS 77 (undef), tS 78 (undef), tS 79 (undef), tS 80 (undef), tS 81 (undef), tS 82 (undef), tS 83 (undef), tS 84 (undef), tS 85 (.bool false), tS 86 (.bool false), tS 87 (.bool false), tS 88 (v0), tS 89 (v20), tS 90 (.int .i64 x10_3), tS 91 (idxp v20 (x10_3.toNat * ek_view_Pair_uint64.sz)), tS 92 (idxp v20 (x10_3.toNat * ek_view_Pair_uint64.sz)), tS 93 (.int .i64 x42.At), tS 94 (.int .u64 t44), tS 95 (v20), tS 96 (.int .i64 x10_3), tS 97 (idxp v20 (x10_3.toNat * ek_view_Pair_uint64.sz)), tS 98 (idxp v20 (x10_3.toNat * ek_view_Pair_uint64.sz + 1)), tS 99 (.int .u64 x46.Val), tS 100 (.bool (t44 == x46.Val)), tS 101 (.bool (t44 == x46.Val))]) (D := [⟨[0], [], [8]⟩, ⟨[1], [], [9]⟩, ⟨[8, 9, 6], [], [10]⟩, ⟨[10, 6], [], [11]⟩, ⟨[11, 6], [], [12]⟩, ⟨[12], [], [13]⟩, ⟨[13], [], [14]⟩, ⟨[0, 14], [], [15]⟩, ⟨[1, 14], [], [16]⟩, ⟨[14, 15, 16, 6], [], [17]⟩, ⟨[14, 17, 6], [], [18]⟩, ⟨[14, 18, 6], [], [19]⟩, ⟨[2, 14], [], [20]⟩, ⟨[14, 19, 20], [], [21]⟩, ⟨[14, 21], [], [22]⟩, ⟨[22], [], [23]⟩, ⟨[1, 23], [], [24]⟩, ⟨[23, 24], [], [25]⟩, ⟨[23, 25], [], [26]⟩, ⟨[26], [], [27]⟩, ⟨[26], [], [28]⟩, ⟨[26], [], [29]⟩, ⟨[26], [], [30]⟩, ⟨[26], [], [31]⟩, ⟨[26], [], [32]⟩, ⟨[26], [], [33]⟩, ⟨[26], [], [34]⟩, ⟨[26], [], [35]⟩, ⟨[26], [], [36]⟩, ⟨[26], [], [37]⟩, ⟨[26], [], [38]⟩, ⟨[23, 26, 38], [], [39]⟩, ⟨[23, 39], [], [40]⟩, ⟨[40], [], [41]⟩, ⟨[3, 41], [], [42]⟩, ⟨[0, 41], [], [43]⟩, ⟨[1, 41], [], [44]⟩, ⟨[41, 43, 44, 6], [], [45]⟩, ⟨[41, 45, 6], [], [46]⟩, ⟨[41, 46, 6], [], [47]⟩, ⟨[41, 42, 47, 7], [], [48]⟩, ⟨[0, 41], [], [49]⟩, ⟨[1, 41], [], [50]⟩, ⟨[41, 49, 50, 6], [], [51]⟩, ⟨[41, 51, 6], [], [52]⟩, ⟨[41, 52, 6], [], [53]⟩, ⟨[41, 48, 53], [], [54]⟩, ⟨[41, 54], [], [55]⟩]) (ini := [0, 1, 2, 3, 4, 5, 6, 7]) (fin := [1, 0, 3, 4, 2, 55, 5, 6, 7]) (bf := [[], [], [0, 1], [0, 1, 2], [0, 1, 2, 3], [0, 1, 2, 3, 4], [0, 1, 2, 3, 4, 5], [0, 1, 2, 3, 4, 5, 6], [0, 1, 2, 3, 4, 5, 6], [0, 1, 2, 3, 4, 5, 6, 7, 8], [0, 1, 2, 3, 4, 5, 6, 7, 8, 9], [0, 1, 2, 3, 4, 5, 6, 7, 8, 9, 10], [0, 1, 2, 3, 4, 5, 6], [0, 1, 2, 3, 4, 5, 6, 7, 8, 9, 10, 11, 12], [0, 1, 2, 3, 4, 5, 6, 7, 8, 9, 10, 11, 12, 13], [0, 1, 2, 3, 4, 5, 6, 7, 8, 9, 10, 11, 12, 13, 14], [0, 1, 2, 3, 4, 5, 6, 7, 8, 9, 10, 11, 12, 13, 14, 15], [0, 1, 2, 3, 4, 5, 6, 7, 8, 9, 10, 11, 12, 13, 14, 15, 16], [0, 1, 2, 3, 4, 5, 6, 7, 8, 9, 10, 11, 12, 13, 14, 15, 16, 17], [0, 1, 2, 3, 4, 5, 6, 7, 8, 9, 10, 11, 12, 13, 14, 15, 16, 17, 18], [0, 1, 2, 3, 4, 5, 6, 7, 8, 9, 10, 11, 12, 13, 14, 15, 16, 17, 18], [0, 1, 2, 3, 4, 5, 6, 7, 8, 9, 10, 11, 12, 13, 14, 15, 16, 17, 18, 19, 20], [0, 1, 2, 3, 4, 5, 6, 7, 8, 9, 10, 11, 12, 13, 14, 15, 16, 17, 18, 19, 20, 21], [0, 1, 2, 3, 4, 5, 6, 7, 8, 9, 10, 11, 12, 13, 14, 15, 16, 17, 18, 19, 20, 21, 22], [0, 1, 2, 3, 4, 5, 6, 7, 8, 9, 10, 11, 12, 13, 14, 15, 16, 17, 18], [0, 1, 2, 3, 4, 5, 6, 7, 8, 9, 10, 11, 12, 13, 14, 15, 16, 17, 18], [0, 1, 2, 3, 4, 5, 6, 7, 8, 9, 10, 11, 12, 13, 14, 15, 16, 17, 18, 25], [0, 1, 2, 3, 4, 5, 6, 7, 8, 9, 10, 11, 12, 13, 14, 15, 16, 17, 18, 24, 25, 26], [0, 1, 2, 3, 4, 5, 6, 7, 8, 9, 10, 11, 12, 13, 14, 15, 16, 17, 18, 24, 25, 26, 27], [0, 1, 2, 3, 4, 5, 6, 7, 8, 9, 10, 11, 12, 13, 14, 15, 16, 17, 18, 24, 25, 26, 27, 28], [0, 1, 2, 3, 4, 5, 6, 7, 8, 9, 10, 11, 12, 13, 14, 15, 16, 17, 18, 19, 20, 21, 22, 23, 24, 25, 26, 27, 28, 29], [0, 1, 2, 3, 4, 5, 6, 7, 8, 9, 10, 11, 12, 13, 14, 15, 16, 17, 18, 19, 20, 21, 22, 23, 24, 25, 26, 27, 28, 29, 30], [0, 1, 2, 3, 4, 5, 6, 7, 8, 9, 10, 11, 12, 13, 14, 15, 16, 17, 18, 19, 20, 21, 22, 23, 24, 25, 26, 27, 28, 29, 30, 31], [0, 1, 2, 3, 4, 5, 6, 7, 8, 9, 10, 11, 12, 13, 14, 15, 16, 17, 18, 19, 20, 21, 22, 23, 24, 25, 26, 27, 28, 29, 30, 31, 32], [0, 1, 2, 3, 4, 5, 6, 7, 8, 9, 10, 11, 12, 13, 14, 15, 16, 17, 18, 19, 20, 21, 22, 23, 24, 25, 26, 27, 28, 29, 30, 31, 32, 33], [0, 1, 2, 3, 4, 5, 6, 7, 8, 9, 10, 11, 12, 13, 14, 15, 16, 17, 18, 19, 20, 21, 22, 23, 24, 25, 26, 27, 28, 29, 30, 31, 32, 33], [0, 1, 2, 3, 4, 5, 6, 7, 8, 9, 10, 11, 12, 13, 14, 15, 16, 17, 18, 19, 20, 21, 22, 23, 24, 25, 26, 27, 28, 29, 30, 31, 32, 33], [0, 1, 2, 3, 4, 5, 6, 7, 8, 9, 10, 11, 12, 13, 14, 15, 16, 17, 18, 19, 20, 21, 22, 23, 24, 25, 26, 27, 28, 29, 30, 31, 32, 33, 35, 36], [0, 1, 2, 3, 4, 5, 6, 7, 8, 9, 10, 11, 12, 13, 14, 15, 16, 17, 18, 19, 20, 21, 22, 23, 24, 25, 26, 27, 28, 29, 30, 31, 32, 33, 35, 36, 37], [0, 1, 2, 3, 4, 5, 6, 7, 8, 9, 10, 11, 12, 13, 14, 15, 16, 17, 18, 19, 20, 21, 22, 23, 24, 25, 26, 27, 28, 29, 30, 31, 32, 33, 35, 36, 37, 38], [0, 1, 2, 3, 4, 5, 6, 7, 8, 9, 10, 11, 12, 13, 14, 15, 16, 17, 18, 19, 20, 21, 22, 23, 24, 25, 26, 27, 28, 29, 30, 31, 32, 33, 34, 35, 36, 37, 38, 39], [0, 1, 2, 3, 4, 5, 6, 7, 8, 9, 10, 11, 12, 13, 14, 15, 16, 17, 18, 19, 20, 21, 22, 23, 24, 25, 26, 27, 28, 29, 30, 31, 32, 33], [0, 1, 2, 3, 4, 5, 6, 7, 8, 9, 10, 11, 12, 13, 14, 15, 16, 17, 18, 19, 20, 21, 22, 23, 24, 25, 26, 27, 28, 29, 30, 31, 32, 33], [0, 1, 2, 3, 4, 5, 6, 7, 8, 9, 10, 11, 12, 13, 14, 15, 16, 17, 18, 19, 20, 21, 22, 23, 24, 25, 26, 27, 28, 29, 30, 31, 32, 33, 41, 42], [0, 1, 2, 3, 4, 5, 6, 7, 8, 9, 10, 11, 12, 13, 14, 15, 16, 17, 18, 19, 20, 21, 22, 23, 24, 25, 26, 27, 28, 29, 30, 31, 32, 33, 41, 42, 43], [0, 1, 2, 3, 4, 5, 6, 7, 8, 9, 10, 11, 12, 13, 14, 15, 16, 17, 18, 19, 20, 21, 22, 23, 24, 25, 26, 27, 28, 29, 30, 31, 32, 33, 41, 42, 43, 44], [0, 1, 2, 3, 4, 5, 6, 7, 8, 9, 10, 11, 12, 13, 14, 15, 16, 17, 18, 19, 20, 21, 22, 23, 24, 25, 26, 27, 28, 29, 30, 31, 32, 33, 34, 35, 36, 37, 38, 39, 40, 41, 42, 43, 44, 45], [0, 1, 2, 3, 4, 5, 6, 7, 8, 9, 10, 11, 12, 13, 14, 15, 16, 17, 18, 19, 20, 21, 22, 23, 24, 25, 26, 27, 28, 29, 30, 31, 32, 33, 34, 35, 36, 37, 38, 39, 40, 41, 42, 43, 44, 45, 46]]) (by kernel_rfl) (by kernel_rfl) (fun x w h1 h2 => (.cons () (.cons () (.cons () (.cons () (.cons () (.cons () (.cons () (.cons () (.nil ⟨EnvAll.of h1 ⟨rfl, rfl, rfl, rfl, rfl, rfl, rfl, rfl, trivial⟩, h2⟩)))))))))) (fun Q => by kernel_rfl) ⟨?_, ?_, ?_, ?_, ?_, ?_, ?_, ?_, ?_, ?_, ?_, ?_, ?_, ?_, ?_, ?_, ?_, ?_, ?_, ?_, ?_, ?_, ?_, ?_, ?_, ?_, ?_, ?_, ?_, ?_, ?_, ?_, ?_, ?_, ?_, ?_, ?_, ?_, ?_, ?_, ?_, ?_, ?_, ?_, ?_, ?_, ?_, ?_, trivial⟩ ?_
                · rintro Fr _
                  refine SO.v rfl (opv_move rfl) ?_
                  exact SO.nilZ fun a w h1 h2 h3 h4 h5 => PZ.of h1 h3 h5 (.cons () (.cons () (.nil ⟨EnvAll.of h2 ⟨rfl, rfl, trivial⟩, h4⟩)))
                · rintro Fr _
                  refine SO.v rfl (opv_move rfl) ?_
                  exact SO.nilZ fun a w h1 h2 h3 h4 h5 => PZ.of h1 h3 h5 (.cons () (.cons () (.nil ⟨EnvAll.of h2 ⟨rfl, rfl, trivial⟩, h4⟩)))
                · rintro Fr _ _ _
                  refine SO.v rfl (opv_idx Try.underlying32 Try.sizeOf35 hr21 rfl rfl hx25) ?_
                  exact SO.nilZ fun a w h1 h2 h3 h4 h5 => PZ.of h1 h3 h5 (.cons () (.cons () (.cons () (.cons () (.nil ⟨EnvAll.of h2 ⟨rfl, rfl, rfl, trivial⟩, h4⟩)))))
                · rintro Fr _ _
                  refine SO.v rfl (opv_fieldIdx Try.underlying35 rfl Try.sizeOf3 hr21 hx25 rfl rfl) ?_
                  exact SO.nilZ fun a w h1 h2 h3 h4 h5 => PZ.of h1 h3 h5 (.cons () (.cons () (.cons () (.nil ⟨EnvAll.of h2 ⟨rfl, rfl, trivial⟩, h4⟩))))
                · rintro Fr _ _
                  refine SO.loadI1 (j := 0) rfl Try.isAgg3 (Rd.head hr21) hx25 rfl rfl rfl rfl ?_
                  exact SO.nilZ fun a w h1 h2 h3 h4 h5 => PZ.of h1 h3 h5 (.cons () (.cons () (.cons () (.nil ⟨EnvAll.of h2 ⟨rfl, rfl, trivial⟩, h4⟩))))
                · rintro Fr _
                  refine SO.v rfl (opv_lss rfl rfl) ?_
                  exact SO.nilZ fun a w h1 h2 h3 h4 h5 => PZ.of h1 h3 h5 (.cons () (.cons () (.nil ⟨EnvAll.of h2 ⟨rfl, rfl, trivial⟩, h4⟩)))
                · rintro Fr _
                  refine SO.v rfl (opv_move rfl) ?_
                  exact SO.nilZ fun a w h1 h2 h3 h4 h5 => PZ.of h1 h3 h5 (.cons () (.cons () (.nil ⟨EnvAll.of h2 ⟨rfl, rfl, trivial⟩, h4⟩)))
                · rintro Fr _ _
                  refine SO.takeT rfl rfl rfl b26 ?_
                  refine SO.v rfl (opv_move rfl) ?_
                  exact SO.nilZ fun a w h1 h2 h3 h4 h5 => PZ.of h1 h3 h5 (.cons () (.cons () (.cons () (.nil ⟨EnvAll.of h2 ⟨rfl, rfl, rfl, trivial⟩, h4⟩))))
                · rintro Fr _ _
                  refine SO.takeT rfl rfl rfl b26 ?_
                  refine SO.v rfl (opv_move rfl) ?_
                  exact SO.nilZ fun a w h1 h2 h3 h4 h5 => PZ.of h1 h3 h5 (.cons () (.cons () (.cons () (.nil ⟨EnvAll.of h2 ⟨rfl, rfl, rfl, trivial⟩, h4⟩))))
                · rintro Fr _ _ _ _
                  refine SO.takeT rfl rfl rfl b26 ?_
                  refine SO.v rfl (opv_idx Try.underlying32 Try.sizeOf35 hr21 rfl rfl hx28) ?_
                  exact SO.nilZ fun a w h1 h2 h3 h4 h5 => PZ.of h1 h3 h5 (.cons () (.cons () (.cons () (.cons () (.cons () (.nil ⟨EnvAll.of h2 ⟨rfl, rfl, rfl, rfl, trivial⟩, h4⟩))))))
                · rintro Fr _ _ _
                  refine SO.takeT rfl rfl rfl b26 ?_
                  refine SO.v rfl (opv_fieldIdx Try.underlying35 rfl Try.sizeOf3 hr21 hx28 rfl rfl) ?_
                  exact SO.nilZ fun a w h1 h2 h3 h4 h5 => PZ.of h1 h3 h5 (.cons () (.cons () (.cons () (.cons () (.nil ⟨EnvAll.of h2 ⟨rfl, rfl, rfl, trivial⟩, h4⟩)))))
                · rintro Fr _ _ _
                  refine SO.takeT rfl rfl rfl b26 ?_
                  refine SO.loadI1 (j := 0) rfl Try.isAgg3 (Rd.head hr21) hx28 rfl rfl rfl rfl ?_
                  exact SO.nilZ fun a w h1 h2 h3 h4 h5 => PZ.of h1 h3 h5 (.cons () (.cons () (.cons () (.cons () (.nil ⟨EnvAll.of h2 ⟨rfl, rfl, rfl, trivial⟩, h4⟩)))))
                · rintro Fr _ _
                  refine SO.takeT rfl rfl rfl b26 ?_
                  refine SO.v rfl (opv_move rfl) ?_
                  exact SO.nilZ fun a w h1 h2 h3 h4 h5 => PZ.of h1 h3 h5 (.cons () (.cons () (.cons () (.nil ⟨EnvAll.of h2 ⟨rfl, rfl, rfl, trivial⟩, h4⟩))))
                · rintro Fr _ _ _
                  refine SO.takeT rfl rfl rfl b26 ?_
                  refine SO.v rfl (opv_geq rfl rfl) ?_
                  exact SO.nilZ fun a w h1 h2 h3 h4 h5 => PZ.of h1 h3 h5 (.cons () (.cons () (.cons () (.cons () (.nil ⟨EnvAll.of h2 ⟨rfl, rfl, rfl, rfl, trivial⟩, h4⟩)))))
                · rintro Fr _ _
                  refine SO.v rfl (opv_pick_f' b26 rfl rfl) ?_
                  exact SO.nilZ fun a w h1 h2 h3 h4 h5 => PZ.of h1 h3 h5 (.cons () (.cons () (.cons () (.nil ⟨EnvAll.of h2 ⟨rfl, rfl, rfl, trivial⟩, h4⟩))))
                · rintro Fr _
                  refine SO.v rfl (opv_move rfl) ?_
                  exact SO.nilZ fun a w h1 h2 h3 h4 h5 => PZ.of h1 h3 h5 (.cons () (.cons () (.nil ⟨EnvAll.of h2 ⟨rfl, rfl, trivial⟩, h4⟩)))
                · rintro Fr _ _
                  refine SO.takeT rfl rfl rfl b29 ?_
                  refine SO.v rfl (opv_move rfl) ?_
                  exact SO.nilZ fun a w h1 h2 h3 h4 h5 => PZ.of h1 h3 h5 (.cons () (.cons () (.cons () (.nil ⟨EnvAll.of h2 ⟨rfl, rfl, rfl, trivial⟩, h4⟩))))
                · rintro Fr _ _
                  refine SO.takeT rfl rfl rfl b29 ?_
                  refine SO.v rfl (opv_gtr rfl rfl) ?_
                  exact SO.nilZ fun a w h1 h2 h3 h4 h5 => PZ.of h1 h3 h5 (.cons () (.cons () (.cons () (.nil ⟨EnvAll.of h2 ⟨rfl, rfl, rfl, trivial⟩, h4⟩))))
                · rintro Fr _ _
                  refine SO.takeT rfl rfl rfl b29 ?_
                  refine SO.v rfl (opv_move rfl) ?_
                  exact SO.nilZ fun a w h1 h2 h3 h4 h5 => PZ.of h1 h3 h5 (.cons () (.cons () (.cons () (.nil ⟨EnvAll.of h2 ⟨rfl, rfl, rfl, trivial⟩, h4⟩))))
                · rintro Fr _
                  refine SO.passF rfl rfl rfl b30 rfl rfl ?_
                  exact SO.nilZ fun a w h1 h2 h3 h4 h5 => PZ.of h1 h3 h5 (.cons () (.cons () (.nil ⟨EnvAll.of h2 ⟨rfl, rfl, trivial⟩, h4⟩)))
                · rintro Fr _
                  refine SO.passF rfl rfl rfl b30 rfl rfl ?_
                  exact SO.nilZ fun a w h1 h2 h3 h4 h5 => PZ.of h1 h3 h5 (.cons () (.cons () (.nil ⟨EnvAll.of h2 ⟨rfl, rfl, trivial⟩, h4⟩)))
                · rintro Fr _
                  refine SO.passF rfl rfl rfl b30 rfl rfl ?_
                  exact SO.nilZ fun a w h1 h2 h3 h4 h5 => PZ.of h1 h3 h5 (.cons () (.cons () (.nil ⟨EnvAll.of h2 ⟨rfl, rfl, trivial⟩, h4⟩)))
                · rintro Fr _
                  refine SO.passF rfl rfl rfl b30 rfl rfl ?_
                  exact SO.nilZ fun a w h1 h2 h3 h4 h5 => PZ.of h1 h3 h5 (.cons () (.cons () (.nil ⟨EnvAll.of h2 ⟨rfl, rfl, trivial⟩, h4⟩)))
                · rintro Fr _
                  refine SO.passF rfl rfl rfl b30 rfl rfl ?_
                  exact SO.nilZ fun a w h1 h2 h3 h4 h5 => PZ.of h1 h3 h5 (.cons () (.cons () (.nil ⟨EnvAll.of h2 ⟨rfl, rfl, trivial⟩, h4⟩)))
                · rintro Fr _
                  refine SO.passF rfl rfl rfl b30 rfl rfl ?_
                  exact SO.nilZ fun a w h1 h2 h3 h4 h5 => PZ.of h1 h3 h5 (.cons () (.cons () (.nil ⟨EnvAll.of h2 ⟨rfl, rfl, trivial⟩, h4⟩)))
                · rintro Fr _
                  refine SO.passF rfl rfl rfl b30 rfl rfl ?_
                  exact SO.nilZ fun a w h1 h2 h3 h4 h5 => PZ.of h1 h3 h5 (.cons () (.cons () (.nil ⟨EnvAll.of h2 ⟨rfl, rfl, trivial⟩, h4⟩)))
                · rintro Fr _
                  refine SO.passF rfl rfl rfl b30 rfl rfl ?_
                  exact SO.nilZ fun a w h1 h2 h3 h4 h5 => PZ.of h1 h3 h5 (.cons () (.cons () (.nil ⟨EnvAll.of h2 ⟨rfl, rfl, trivial⟩, h4⟩)))
                · rintro Fr _
                  refine SO.passF rfl rfl rfl b30 rfl rfl ?_
                  exact SO.nilZ fun a w h1 h2 h3 h4 h5 => PZ.of h1 h3 h5 (.cons () (.cons () (.nil ⟨EnvAll.of h2 ⟨rfl, rfl, trivial⟩, h4⟩)))
                · rintro Fr _
                  refine SO.passF rfl rfl rfl b30 rfl rfl ?_
                  exact SO.nilZ fun a w h1 h2 h3 h4 h5 => PZ.of h1 h3 h5 (.cons () (.cons () (.nil ⟨EnvAll.of h2 ⟨rfl, rfl, trivial⟩, h4⟩)))
                · rintro Fr _
                  refine SO.passF rfl rfl rfl b30 rfl rfl ?_
                  exact SO.nilZ fun a w h1 h2 h3 h4 h5 => PZ.of h1 h3 h5 (.cons () (.cons () (.nil ⟨EnvAll.of h2 ⟨rfl, rfl, trivial⟩, h4⟩)))
                · rintro Fr _
                  refine SO.passF rfl rfl rfl b30 rfl rfl ?_
                  exact SO.nilZ fun a w h1 h2 h3 h4 h5 => PZ.of h1 h3 h5 (.cons () (.cons () (.nil ⟨EnvAll.of h2 ⟨rfl, rfl, trivial⟩, h4⟩)))
                · rintro Fr _ _ _
                  refine SO.takeT rfl rfl rfl b29 ?_
                  refine SO.v rfl (opv_pick_f' b30 rfl rfl) ?_
                  exact SO.nilZ fun a w h1 h2 h3 h4 h5 => PZ.of h1 h3 h5 (.cons () (.cons () (.cons () (.cons () (.nil ⟨EnvAll.of h2 ⟨rfl, rfl, rfl, rfl, trivial⟩, h4⟩)))))
                · rintro Fr _ _
                  refine SO.v rfl (opv_pick_f' b29 rfl rfl) ?_
                  exact SO.nilZ fun a w h1 h2 h3 h4 h5 => PZ.of h1 h3 h5 (.cons () (.cons () (.cons () (.nil ⟨EnvAll.of h2 ⟨rfl, rfl, rfl, trivial⟩, h4⟩))))
                · rintro Fr _
                  refine SO.v rfl (opv_move rfl) ?_
                  exact SO.nilZ fun a w h1 h2 h3 h4 h5 => PZ.of h1 h3 h5 (.cons () (.cons () (.nil ⟨EnvAll.of h2 ⟨rfl, rfl, trivial⟩, h4⟩)))
                · rintro Fr _ _
                  refine SO.takeT rfl rfl rfl rfl ?_
                  refine SO.v rfl (opv_move rfl) ?_
                  exact SO.nilZ fun a w h1 h2 h3 h4 h5 => PZ.of h1 h3 h5 (.cons () (.cons () (.cons () (.nil ⟨EnvAll.of h2 ⟨rfl, rfl, rfl, trivial⟩, h4⟩))))
                · rintro Fr _ _
                  refine SO.takeT rfl rfl rfl rfl ?_
                  refine SO.v rfl (opv_move rfl) ?_
                  exact SO.nilZ fun a w h1 h2 h3 h4 h5 => PZ.of h1 h3 h5 (.cons () (.cons () (.cons () (.nil ⟨EnvAll.of h2 ⟨rfl, rfl, rfl, trivial⟩, h4⟩))))
                · rintro Fr _ _
                  refine SO.takeT rfl rfl rfl rfl ?_
                  refine SO.v rfl (opv_move rfl) ?_
                  exact SO.nilZ fun a w h1 h2 h3 h4 h5 => PZ.of h1 h3 h5 (.cons () (.cons () (.cons () (.nil ⟨EnvAll.of h2 ⟨rfl, rfl, rfl, trivial⟩, h4⟩))))
                · rintro Fr _ _ _ _
                  refine SO.takeT rfl rfl rfl rfl ?_
                  refine SO.v rfl (opv_idx Try.underlying32 Try.sizeOf35 hr21 rfl rfl hx43) ?_
                  exact SO.nilZ fun a w h1 h2 h3 h4 h5 => PZ.of h1 h3 h5 (.cons () (.cons () (.cons () (.cons () (.cons () (.nil ⟨EnvAll.of h2 ⟨rfl, rfl, rfl, rfl, trivial⟩, h4⟩))))))
                · rintro Fr _ _ _
                  refine SO.takeT rfl rfl rfl rfl ?_
                  refine SO.v rfl (opv_fieldIdx Try.underlying35 rfl Try.sizeOf3 hr21 hx43 rfl rfl) ?_
                  exact SO.nilZ fun a w h1 h2 h3 h4 h5 => PZ.of h1 h3 h5 (.cons () (.cons () (.cons () (.cons () (.nil ⟨EnvAll.of h2 ⟨rfl, rfl, rfl, trivial⟩, h4⟩)))))
                · rintro Fr _ _ _
                  refine SO.takeT rfl rfl rfl rfl ?_
                  refine SO.loadI1 (j := 0) rfl Try.isAgg3 (Rd.head hr21) hx43 rfl rfl rfl rfl ?_
                  exact SO.nilZ fun a w h1 h2 h3 h4 h5 => PZ.of h1 h3 h5 (.cons () (.cons () (.cons () (.cons () (.nil ⟨EnvAll.of h2 ⟨rfl, rfl, rfl, trivial⟩, h4⟩)))))
                · rintro Fr _ _ _ _
                  refine SO.takeT rfl rfl rfl rfl ?_
                  refine SO.call (pre := []) rfl Try.call7 rfl rfl rfl (law05_at.ct v0 _ _ _ ht45) (Rd.head hF0) ?_
                  rintro _ _ ⟨rfl, rfl⟩
                  exact SO.nilZ fun a w h1 h2 h3 h4 h5 => PZ.of h1 h3 h5 (.cons () (.cons () (.cons () (.cons () (.cons () (.nil ⟨EnvAll.of h2 ⟨rfl, rfl, rfl, rfl, trivial⟩, h4⟩))))))
                · rintro Fr _ _
                  refine SO.takeT rfl rfl rfl rfl ?_
                  refine SO.v rfl (opv_move rfl) ?_
                  exact SO.nilZ fun a w h1 h2 h3 h4 h5 => PZ.of h1 h3 h5 (.cons () (.cons () (.cons () (.nil ⟨EnvAll.of h2 ⟨rfl, rfl, rfl, trivial⟩, h4⟩))))
                · rintro Fr _ _
                  refine SO.takeT rfl rfl rfl rfl ?_
                  refine SO.v rfl (opv_move rfl) ?_
                  exact SO.nilZ fun a w h1 h2 h3 h4 h5 => PZ.of h1 h3 h5 (.cons () (.cons () (.cons () (.nil ⟨EnvAll.of h2 ⟨rfl, rfl, rfl, trivial⟩, h4⟩))))
                · rintro Fr _ _ _ _
                  refine SO.takeT rfl rfl rfl rfl ?_
                  refine SO.v rfl (opv_idx Try.underlying32 Try.sizeOf35 hr21 rfl rfl hx47) ?_
                  exact SO.nilZ fun a w h1 h2 h3 h4 h5 => PZ.of h1 h3 h5 (.cons () (.cons () (.cons () (.cons () (.cons () (.nil ⟨EnvAll.of h2 ⟨rfl, rfl, rfl, rfl, trivial⟩, h4⟩))))))
                · rintro Fr _ _ _
                  refine SO.takeT rfl rfl rfl rfl ?_
                  refine SO.v rfl (opv_fieldIdx Try.underlying35 rfl Try.sizeOf23 hr21 hx47 rfl rfl) ?_
                  exact SO.nilZ fun a w h1 h2 h3 h4 h5 => PZ.of h1 h3 h5 (.cons () (.cons () (.cons () (.cons () (.nil ⟨EnvAll.of h2 ⟨rfl, rfl, rfl, trivial⟩, h4⟩)))))
                · rintro Fr _ _ _
                  refine SO.takeT rfl rfl rfl rfl ?_
                  refine SO.loadI1 (j := 1) rfl Try.isAgg23 (Rd.head hr21) hx47 rfl rfl rfl rfl ?_
                  exact SO.nilZ fun a w h1 h2 h3 h4 h5 => PZ.of h1 h3 h5 (.cons () (.cons () (.cons () (.cons () (.nil ⟨EnvAll.of h2 ⟨rfl, rfl, rfl, trivial⟩, h4⟩)))))
                · rintro Fr _ _ _
                  refine SO.takeT rfl rfl rfl rfl ?_
                  refine SO.v rfl (opv_eql rfl rfl) ?_
                  exact SO.nilZ fun a w h1 h2 h3 h4 h5 => PZ.of h1 h3 h5 (.cons () (.cons () (.cons () (.cons () (.nil ⟨EnvAll.of h2 ⟨rfl, rfl, rfl, rfl, trivial⟩, h4⟩)))))
                · rintro Fr _ _
                  refine SO.v rfl (opv_pick_ff rfl rfl) ?_
                  exact SO.nilZ fun a w h1 h2 h3 h4 h5 => PZ.of h1 h3 h5 (.cons () (.cons () (.cons () (.nil ⟨EnvAll.of h2 ⟨rfl, rfl, rfl, trivial⟩, h4⟩))))
                rintro _ _ _ _ _ _ _ _ _
                refine S.to (ρ' := [(10, .int .i64 x10_3), (9, v20), (0, v0), (1, v1), (4, .bool false), (5, .bool t1), (7, v6), (6, .int .i64 j6_1), (101, .bool (t44 == x46.Val))]) ⟨rfl, rfl, rfl, rfl, rfl, rfl, rfl, rfl, rfl, trivial⟩ ?_
                cases h
                refine S.b2 ?_
                refine S.b2 ?_
                refine S.b2 ?_
                refine S.to ?_ (hk4 () trivial)
                exact ⟨rfl, rfl, rfl, rfl, rfl, rfl, rfl, rfl, rfl, trivial⟩
        rintro _ -
        replace h := hJ4
        rcases bool_or j101_4 with b48 | b48
        · replace h := cond_t b48 h
          refine S.condT rfl b48 ?_
          refine S.seq ?_
          refine S.region ?_
          refine SO.v rfl (opv_assign rfl) ?_
          refine SO.nil ?_
          refine S.to (ρ' := [(4, .bool false)]) ⟨rfl, trivial⟩ ?_
          cases h
          replace h := hK3.1 _ rfl
          cases h
          refine S.drop ?_
          refine S.drop ?_
          exact S.ret1 Try.func4 rfl rfl (fun w hs hk => hR w _ _ ⟨rfl, rfl⟩ hs hk)
        · replace h := cond_f b48 h
          refine S.condF rfl b48 ?_
          refine S.skip ?_
          obtain ⟨x49, hx50, h⟩ := opt_bind h
          obtain ⟨x51, hx52, h⟩ := opt_bind h
          obtain ⟨q53, ht54, h⟩ := opt_bind h
          refine S.draw' (Z := fun Q => ∀ (_ : Unit) (_ : Unit) (_ : Unit) (_ : Unit) (_ : Unit) (_ : Unit) (_ : Unit), Q [(0, v0), (1, v1), (4, .bool false), (5, .bool t1), (6, .int .i64 j6_1), (7, v6), (9, v20), (10, .int .i64 x10_3)] [Own 23 (ekI .u64) v6 q53, Own 35 ek_view_Pair_uint64 v20 t18, F]) (T := [tS 7 (v6), tS 9 (v20), tS 10 (.int .i64 x10_3), tE [(0, v0), (1, v1), (4, .bool false), (5, .bool t1), (6, .int .i64 j6_1)], tR (Own 23 (ekI .u64) v6 qv6_3), tR (Own 35 ek_view_Pair_uint64 v20 t18), tR (F), tS 102 (v6), tS 103 (v20), tS 104 (.int .i64 x10_3), tS 105 (idxp v20 (x10_3.toNat * ek_view_Pair_uint64.sz)), tS 106 (idxp v20 (x10_3.toNat * ek_view_Pair_uint64.sz)), tS 107 (.int .i64 x49.At), tS 108 (v20), tS 109 (.int .i64 x10_3), tS 110 (idxp v20 (x10_3.toNat * ek_view_Pair_uint64.sz)), tS 111 (idxp v20 (x10_3.toNat * ek_view_Pair_uint64.sz + 1)), tS 112 (.int .u64 x51.Val), tR (Own 23 (ekI .u64) v6 q53), tS 113 (.tuple #[])]) (D := [⟨[0], [], [7]⟩, ⟨[1], [], [8]⟩, ⟨[2], [], [9]⟩, ⟨[8, 9, 5], [], [10]⟩, ⟨[10, 5], [], [11]⟩, ⟨[11, 5], [], [12]⟩, ⟨[1], [], [13]⟩, ⟨[2], [], [14]⟩, ⟨[13, 14, 5], [], [15]⟩, ⟨[15, 5], [], [16]⟩, ⟨[16, 5], [], [17]⟩, ⟨[7, 12, 17], [4], [18, 19]⟩]) (ini := [0, 1, 2, 3, 4, 5, 6]) (fin := [3, 0, 1, 2, 18, 5, 6]) (bf := [[], [], [], [1, 2], [1, 2, 3], [1, 2, 3, 4], [], [], [6, 7], [6, 7, 8], [6, 7, 8, 9], [0, 1, 2, 3, 4, 5, 6, 7, 8, 9, 10]]) (by kernel_rfl) (by kernel_rfl) (fun x w h1 h2 => (.cons () (.cons () (.cons () (.cons () (.cons () (.cons () (.cons () (.nil ⟨EnvAll.of h1 ⟨rfl, rfl, rfl, rfl, rfl, rfl, rfl, rfl, trivial⟩, h2⟩))))))))) (fun Q => by kernel_rfl) ⟨?_, ?_, ?_, ?_, ?_, ?_, ?_, ?_, ?_, ?_, ?_, ?_, trivial⟩ ?_
          · rintro Fr _
            refine SO.v rfl (opv_move rfl) ?_
            exact SO.nilZ fun a w h1 h2 h3 h4 h5 => PZ.of h1 h3 h5 (.cons () (.cons () (.nil ⟨EnvAll.of h2 ⟨rfl, rfl, trivial⟩, h4⟩)))
          · rintro Fr _
            refine SO.v rfl (opv_move rfl) ?_
            exact SO.nilZ fun a w h1 h2 h3 h4 h5 => PZ.of h1 h3 h5 (.cons () (.cons () (.nil ⟨EnvAll.of h2 ⟨rfl, rfl, trivial⟩, h4⟩)))
          · rintro Fr _
            refine SO.v rfl (opv_move rfl) ?_
            exact SO.nilZ fun a w h1 h2 h3 h4 h5 => PZ.of h1 h3 h5 (.cons () (.cons () (.nil ⟨EnvAll.of h2 ⟨rfl, rfl, trivial⟩, h4⟩)))
          · rintro Fr _ _ _
            refine SO.v rfl (opv_idx Try.underlying32 Try.sizeOf35 hr21 rfl rfl hx50) ?_
            exact SO.nilZ fun a w h1 h2 h3 h4 h5 => PZ.of h1 h3 h5 (.cons () (.cons () (.cons () (.cons () (.nil ⟨EnvAll.of h2 ⟨rfl, rfl, rfl, trivial⟩, h4⟩)))))
          · rintro Fr _ _
            refine SO.v rfl (opv_fieldIdx Try.underlying35 rfl Try.sizeOf3 hr21 hx50 rfl rfl) ?_
            exact SO.nilZ fun a w h1 h2 h3 h4 h5 => PZ.of h1 h3 h5 (.cons () (.cons () (.cons () (.nil ⟨EnvAll.of h2 ⟨rfl, rfl, trivial⟩, h4⟩))))
          · rintro Fr _ _
            refine SO.loadI1 (j := 0) rfl Try.isAgg3 (Rd.head hr21) hx50 rfl rfl rfl rfl ?_
            exact SO.nilZ fun a w h1 h2 h3 h4 h5 => PZ.of h1 h3 h5 (.cons () (.cons () (.cons () (.nil ⟨EnvAll.of h2 ⟨rfl, rfl, trivial⟩, h4⟩))))
          · rintro Fr _
            refine SO.v rfl (opv_move rfl) ?_
            exact SO.nilZ fun a w h1 h2 h3 h4 h5 => PZ.of h1 h3 h5 (.cons () (.cons () (.nil ⟨EnvAll.of h2 ⟨rfl, rfl, trivial⟩, h4⟩)))
          · rintro Fr _
            refine SO.v rfl (opv_move rfl) ?_
            exact SO.nilZ fun a w h1 h2 h3 h4 h5 => PZ.of h1 h3 h5 (.cons () (.cons () (.nil ⟨EnvAll.of h2 ⟨rfl, rfl, trivial⟩, h4⟩)))
          · rintro Fr _ _ _
            refine SO.v rfl (opv_idx Try.underlying32 Try.sizeOf35 hr21 rfl rfl hx52) ?_
            exact SO.nilZ fun a w h1 h2 h3 h4 h5 => PZ.of h1 h3 h5 (.cons () (.cons () (.cons () (.cons () (.nil ⟨EnvAll.of h2 ⟨rfl, rfl, rfl, trivial⟩, h4⟩)))))
          · rintro Fr _ _
            refine SO.v rfl (opv_fieldIdx Try.underlying35 rfl Try.sizeOf23 hr21 hx52 rfl rfl) ?_
            exact SO.nilZ fun a w h1 h2 h3 h4 h5 => PZ.of h1 h3 h5 (.cons () (.cons () (.cons () (.nil ⟨EnvAll.of h2 ⟨rfl, rfl, trivial⟩, h4⟩))))
          · rintro Fr _ _
            refine SO.loadI1 (j := 1) rfl Try.isAgg23 (Rd.head hr21) hx52 rfl rfl rfl rfl ?_
            exact SO.nilZ fun a w h1 h2 h3 h4 h5 => PZ.of h1 h3 h5 (.cons () (.cons () (.cons () (.nil ⟨EnvAll.of h2 ⟨rfl, rfl, trivial⟩, h4⟩))))
          · rintro Fr _ _ _ _
            refine SO.call (pre := [Own _ _ _ _]) rfl Try.call8 rfl rfl rfl (view_Plain_Write.ct v6 _ _ _ _ ht54) trivial ?_
            rintro _ _ ⟨rfl, rfl⟩
            refine SO.rd fun hr55 => ?_
            exact SO.nilZ fun a w h1 h2 h3 h4 h5 => PZ.of h1 h3 h5 (.cons () (.cons () (.cons () (.cons () (.cons () (.nil ⟨EnvAll.of h2 ⟨rfl, rfl, rfl, rfl, trivial⟩, h4⟩))))))
          rintro _ _ _ _ _ _ _
          refine S.to (ρ' := [(0, v0), (1, v1), (4, .bool false), (5, .bool t1), (6, .int .i64 j6_1), (7, v6), (9, v20), (10, .int .i64 x10_3)]) ⟨rfl, rfl, rfl, rfl, rfl, rfl, rfl, rfl, trivial⟩ ?_
          refine S.rd fun hr56 => ?_
          refine S.inBlock ?_
          refine S.region ?_
          refine SO.v rfl (opv_move rfl) ?_
          refine SO.v rfl (opv_add rfl rfl) ?_
          refine SO.v rfl (opv_assign rfl) ?_
          refine SO.nil ?_
          refine S.b2 ?_
          refine S.b1 ?_
          refine S.b2 ?_
          refine S.to ?_ (ih3 ((w64 (x10_3 + 1), q53), ()) h)
          exact ⟨rfl, rfl, rfl, rfl, rfl, rfl, rfl, rfl, trivial⟩
      · replace h := cond_f b23 h
        refine S.condF rfl b23 ?_
        refine S.exit rfl ?_
        cases h
        refine S.b2 ?_
        refine S.b1 ?_
        refine S.b2 ?_
        refine S.to ?_ (hK3.2 qv6_3 () rfl)
        exact ⟨rfl, rfl, rfl, rfl, rfl, trivial⟩
    refine ⟨fun r' e' => ?_, ?_⟩
    · subst e'
      have h9 := Brk.of_ret h
      exact h9
    rintro qv6_e3 _ e'
    subst e'
    replace h := Brk.of_nx h
    refine S.b1 ?_
    refine S.rd fun hr57 => ?_
    refine S.seq ?_
    refine S.seq ?_
    refine S.region ?_
    refine SO.v rfl (opv_assign rfl) ?_
    refine SO.nil ?_
    obtain ⟨o5, hl5, h⟩ := opt_bind h
    refine S.b2 ?_
    refine S.b2 ?_
    refine S.b2 ?_
    refine S.to (ρ' := [(11, .int .i64 0), (1, v1), (4, .bool false), (5, .bool t1), (6, .int .i64 j6_1), (7, v6)]) ⟨rfl, rfl, rfl, rfl, rfl, rfl, trivial⟩ ?_
    refine S.forloop (X := Int × Unit) (O := Brk Bool Unit) (fun m x => law05_ViewChanges.l5 a1 j6_1 qv6_e3 m x.1) (fun x => match x with | (x11_5, _) => [(11, .int .i64 x11_5), (1, v1), (4, .bool false), (5, .bool t1), (6, .int .i64 j6_1), (7, v6)]) (fun x => match x with | (x11_5, _) => [Own 23 (ekI .u64) v6 qv6_e3, Own 35 ek_view_Pair_uint64 v20 t18, F]) (fun Sk o' => (∀ r', o' = Brk.ret r' → some r' = some r0) ∧ ∀ _ : Unit, ∀ _ : Unit, o' = Brk.nx () → Sk [(4, .bool false), (5, .bool t1)] [Own 23 (ekI .u64) v6 qv6_e3, Own 35 ek_view_Pair_uint64 v20 t18, F]) (fun _ => rfl) ?_ (m := k) (x := (0, ())) hl5 ?_
    · clear h hl5
      intro k x o_5 h hK5 ih5
      obtain ⟨x11_5, _⟩ := x
      replace h : law05_ViewChanges.l5 a1 j6_1 qv6_e3 (k + 1) x11_5 = some o_5 := h
      first | rw [law05_ViewChanges.l5] at h | unfold law05_ViewChanges.l5 at h
      refine S.seq ?_
      refine S.seq ?_
      refine S.region ?_
      refine SO.v rfl (opv_move rfl) ?_
      refine SO.v rfl (opv_move rfl) ?_
      refine SO.v rfl (opv_lss rfl rfl) ?_
      refine SO.nil ?_
      rcases bool_or (decide (x11_5 < j6_1)) with b58 | b58
      · replace h := cond_t b58 h
        refine S.condT rfl b58 ?_
        refine S.skip ?_
        refine S.seq ?_
        refine S.block ?_
        refine S.seq ?_
        refine S.region ?_
        refine SO.v rfl (opv_move rfl) ?_
        refine SO.v rfl (opv_move rfl) ?_
        obtain ⟨t59, ht60, h⟩ := opt_bind h
        refine SO.call (pre := []) rfl Try.call6 rfl rfl rfl (view_Plain_Read.ct v6 _ _ _ ht60) (Rd.head hr57) ?_
        rintro _ _ ⟨rfl, rfl⟩
        refine SO.v rfl (opv_move rfl) ?_
        refine SO.v rfl (opv_move rfl) ?_
        obtain ⟨t61, ht62, h⟩ := opt_bind h
        refine SO.call (pre := []) rfl Try.call7 rfl rfl rfl (law05_at.ct v1 _ _ _ ht62) (Rd.tail (Rd.tail (Rd.head hF1))) ?_
        rintro _ _ ⟨rfl, rfl⟩
        refine SO.v rfl (opv_neq rfl rfl) ?_
        refine SO.nil ?_
        refine S.to (ρ' := [(11, .int .i64 x11_5), (1, v1), (4, .bool false), (5, .bool t1), (6, .int .i64 j6_1), (7, v6), (125, .bool (t59 != t61))]) ⟨rfl, rfl, rfl, rfl, rfl, rfl, rfl, trivial⟩ ?_
        rcases bool_or (t59 != t61) with b63 | b63
        · replace h := cond_t b63 h
          refine S.condT rfl b63 ?_
          refine S.seq ?_
          refine S.region ?_
          refine SO.v rfl (opv_assign rfl) ?_
          refine SO.nil ?_
          cases h
          replace h := hK5.1 _ rfl
          cases h
          refine S.drop ?_
          refine S.drop ?_
          exact S.ret1 Try.func4 rfl rfl (fun w hs hk => hR w _ _ ⟨rfl, rfl⟩ hs hk)
        · replace h := cond_f b63 h
          refine S.condF rfl b63 ?_
          refine S.skip ?_
          refine S.inBlock ?_
          refine S.region ?_
          refine SO.v rfl (opv_move rfl) ?_
          refine SO.v rfl (opv_add rfl rfl) ?_
          refine SO.v rfl (opv_assign rfl) ?_
          refine SO.nil ?_
          refine S.b2 ?_
          refine S.b2 ?_
          refine S.b2 ?_
          refine S.to ?_ (ih5 (w64 (x11_5 + 1), ()) h)
          exact ⟨rfl, rfl, rfl, rfl, rfl, rfl, trivial⟩
      · replace h := cond_f b58 h
        refine S.condF rfl b58 ?_
        refine S.exit rfl ?_
        cases h
        refine S.b2 ?_
        refine S.b2 ?_
        refine S.b2 ?_
        refine S.to ?_ (hK5.2 () () rfl)
        exact ⟨rfl, rfl, trivial⟩
    refine ⟨fun r' e' => ?_, ?_⟩
    · subst e'
      have h9 := Brk.of_ret h
      exact h9
    rintro _ _ e'
    subst e'
    replace h := Brk.of_nx h
    refine S.seq ?_
    refine S.region ?_
    refine SO.v rfl (opv_move rfl) ?_
    refine SO.v rfl (opv_assign rfl) ?_
    refine SO.nil ?_
    cases h
    refine S.drop ?_
    refine S.drop ?_
    exact S.ret1 Try.func4 rfl rfl (fun w hs hk => hR w _ _ ⟨rfl, rfl⟩ hs hk)
end Go.Proofs
