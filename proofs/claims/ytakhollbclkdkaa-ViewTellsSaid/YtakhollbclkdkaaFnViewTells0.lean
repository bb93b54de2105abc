/- What the functions that ViewTells reaches come to, and that they do. On no condition. -/
import Derived.Test.YtakhollbclkdkaaFr1
import Derived.Test.YtakhollbclkdkaaProg
set_option linter.all false
namespace Go.Proofs
open Go.Sl Go.RowKit
theorem inf23 : Try.prog.info? 23 = some Try.t23 := by kernel_rfl
theorem inf35 : Try.prog.info? 35 = some Try.t35 := by kernel_rfl
structure view_Pair_uint64 where
  At : Int
  Val : Int
  deriving DecidableEq, Inhabited
def ek_view_Pair_uint64 : EK view_Pair_uint64 := ⟨2, fun x => [.int .i64 x.At, .int .u64 x.Val], fun _ => rfl, fun x v hv => by
  simp only [List.mem_cons, List.not_mem_nil, or_false] at hv
  rcases hv with rfl | rfl <;> rfl, by decide⟩
theorem eqI_view_Pair_uint64 (x y : view_Pair_uint64) : eqI [x.At, x.Val] [y.At, y.Val] = decide (x = y) := by
  cases x; cases y
  rw [Bool.eq_iff_iff]
  simp [eqI]
theorem fi_view_Pair_uint64 : ∀ fs, Try.prog.underlying 35 = some (.struct fs) → FI Try.prog fs.toList 0 [.i64, .u64] := by
  intro fs h
  rw [Try.underlying35] at h
  injection h with h
  injection h with h
  subst h
  exact ⟨by decide, Try.underlying3, rfl, ⟨by decide, Try.underlying23, rfl, trivial⟩⟩
theorem eq_eql_view_Pair_uint64 {ρ : Env} {t2 : TypeId} {x y : view_Pair_uint64} {a b : Operand} (ha : ev ρ a = some (.agg (encI [.i64, .u64] [x.At, x.Val]).toArray)) (hb : ev ρ b = some (.agg (encI [.i64, .u64] [y.At, y.Val]).toArray)) : OpV Try.prog ρ (.binOp .eql 35 a b t2) (.bool (decide (x = y))) :=
  opv_eqlS Try.underlying35 Try.stoodInHeld35 Try.eqGuardType35 (fi_view_Pair_uint64 _ Try.underlying35) rfl rfl ha hb (by rw [eqI_view_Pair_uint64])
theorem eq_neq_view_Pair_uint64 {ρ : Env} {t2 : TypeId} {x y : view_Pair_uint64} {a b : Operand} (ha : ev ρ a = some (.agg (encI [.i64, .u64] [x.At, x.Val]).toArray)) (hb : ev ρ b = some (.agg (encI [.i64, .u64] [y.At, y.Val]).toArray)) : OpV Try.prog ρ (.binOp .neq 35 a b t2) (.bool (!decide (x = y))) :=
  opv_neqS Try.underlying35 Try.stoodInHeld35 Try.eqGuardType35 (fi_view_Pair_uint64 _ Try.underlying35) rfl rfl ha hb (by rw [eqI_view_Pair_uint64])
end Go.Proofs
namespace Go.Proofs
open Go.Sl Go.RowKit
/-! 11 (padstone/view.Plain).has -/
def view_Plain_has.f (a0 : List Int) (a1 : Int) : Option (Bool) :=
  some ((decide (0 ≤ a1)) && (decide (a1 < (a0.length : Int))))
set_option maxHeartbeats 8000000 in
set_option maxRecDepth 100000 in
theorem view_Plain_has.ct (v0 : Value) (a0 : List Int) (a1 : Int) (r0 : Bool) (h : view_Plain_has.f a0 a1 = some r0) :
    Ct Try.prog 11 [v0, .int .i64 a1] (fun F => Rd (ekI .u64) v0 a0 F) [] (fun u H' => u = .bool r0 ∧ H' = []) := by
  unfold view_Plain_has.f at h
  refine Ct.intro (n := 13) Try.func11 rfl rfl rfl ?_
  intro R w0 F hF hR
  have hF0 := hF
  refine S.seq ?_
  refine S.region ?_
  refine SO.v rfl (opv_assign rfl) ?_
  refine SO.nil ?_
  refine S.seq ?_
  refine S.region ?_
  refine SO.v rfl (opv_move rfl) ?_
  refine SO.v rfl (opv_geq rfl rfl) ?_
  refine SO.v rfl (opv_move rfl) ?_
  refine SO.cut 5 12 (.bool ((decide (0 ≤ a1)) && (decide (a1 < (a0.length : Int))))) [F] (fun l2 hk2 => ?_) ?_
  · rcases bool_or (decide (0 ≤ a1)) with b1 | b1
    · refine SO.takeT rfl rfl rfl b1 ?_
      refine SO.v rfl (opv_move rfl) ?_
      refine SO.takeT rfl rfl rfl b1 ?_
      refine SO.v rfl (opv_move rfl) ?_
      refine SO.takeT rfl rfl rfl b1 ?_
      refine SO.v rfl (opv_lenR rfl Try.underlying25 hF0 rfl) ?_
      refine SO.takeT rfl rfl rfl b1 ?_
      refine SO.v rfl (opv_lss rfl rfl) ?_
      refine SO.v rfl (opv_pick_t' b1 rfl rfl) ?_
      exact hk2.fitc (m := 5) rfl (and_t b1) rfl
    · refine SO.passF rfl rfl rfl b1 rfl rfl ?_
      refine SO.passF rfl rfl rfl b1 rfl rfl ?_
      refine SO.passF rfl rfl rfl b1 rfl rfl ?_
      refine SO.passF rfl rfl rfl b1 rfl rfl ?_
      refine SO.v rfl (opv_pick_f' b1 rfl rfl) ?_
      exact hk2.fitc (m := 5) rfl (and_f b1) rfl
  refine SO.v rfl (opv_assign rfl) ?_
  refine SO.nil ?_
  cases h
  exact S.ret1 Try.func11 rfl rfl (fun w hs hk => hR w _ _ ⟨rfl, rfl⟩ hs hk)
end Go.Proofs
namespace Go.Proofs
open Go.Sl Go.RowKit
/-! 6 (padstone/view.Plain).Read -/
def view_Plain_Read.f (a0 : List Int) (a1 : Int) : Option (Int) :=
  (view_Plain_has.f a0 a1).bind fun t1 => bif !t1 then (some 0) else ((at_ a0 a1).bind fun x4 => some x4)
set_option maxHeartbeats 8000000 in
set_option maxRecDepth 100000 in
theorem view_Plain_Read.ct (v0 : Value) (a0 : List Int) (a1 : Int) (r0 : Int) (h : view_Plain_Read.f a0 a1 = some r0) :
    Ct Try.prog 6 [v0, .int .i64 a1] (fun F => Rd (ekI .u64) v0 a0 F) [] (fun u H' => u = .int .u64 r0 ∧ H' = []) := by
  unfold view_Plain_Read.f at h
  refine Ct.intro (n := 13) Try.func6 rfl rfl rfl ?_
  intro R w0 F hF hR
  have hF0 := hF
  refine S.seq ?_
  refine S.region ?_
  refine SO.v rfl (opv_assign rfl) ?_
  refine SO.nil ?_
  refine S.seq ?_
  refine S.seq ?_
  refine S.region ?_
  refine SO.v rfl (opv_move rfl) ?_
  refine SO.v rfl (opv_move rfl) ?_
  obtain ⟨t1, ht2, h⟩ := opt_bind h
  refine SO.call (pre := []) rfl Try.call11 rfl rfl rfl (view_Plain_has.ct v0 _ _ _ ht2) (Rd.head hF0) ?_
  rintro _ _ ⟨rfl, rfl⟩
  refine SO.v rfl (opv_not rfl) ?_
  refine SO.nil ?_
  rcases bool_or (!t1) with b3 | b3
  · replace h := cond_t b3 h
    refine S.condT rfl b3 ?_
    refine S.seq ?_
    refine S.region ?_
    refine SO.v rfl (opv_assign rfl) ?_
    refine SO.nil ?_
    cases h
    exact S.ret1 Try.func6 rfl rfl (fun w hs hk => hR w _ _ ⟨rfl, rfl⟩ hs hk)
  · replace h := cond_f b3 h
    refine S.condF rfl b3 ?_
    refine S.skip ?_
    refine S.seq ?_
    refine S.region ?_
    refine SO.v rfl (opv_move rfl) ?_
    refine SO.v rfl (opv_move rfl) ?_
    obtain ⟨x4, hx5, h⟩ := opt_bind h
    refine SO.v rfl (opv_idx Try.underlying25 Try.sizeOf23 hF0 rfl rfl hx5) ?_
    refine SO.loadI1 (j := 0) rfl Try.isAgg23 (Rd.head hF0) hx5 rfl rfl rfl rfl ?_
    refine SO.v rfl (opv_assign rfl) ?_
    refine SO.nil ?_
    refine S.to (ρ' := [(4, .int .u64 x4)]) ⟨rfl, trivial⟩ ?_
    cases h
    exact S.ret1 Try.func6 rfl rfl (fun w hs hk => hR w _ _ ⟨rfl, rfl⟩ hs hk)
end Go.Proofs
namespace Go.Proofs
open Go.Sl Go.RowKit
/-! 8 (padstone/view.Plain).Write -/
def view_Plain_Write.f (a0 : List Int) (a1 : Int) (a2 : Int) : Option ((List Int)) :=
  (view_Plain_has.f a0 a1).bind fun t2 => bif t2 then ((at_ a0 a1).bind fun x5 => some (a0.set a1.toNat a2)) else (some a0)
set_option maxHeartbeats 8000000 in
set_option maxRecDepth 100000 in
theorem view_Plain_Write.ct (v0 : Value) (a0 : List Int) (a1 : Int) (a2 : Int) (q0 : List Int) (h : view_Plain_Write.f a0 a1 a2 = some q0) :
    Ct Try.prog 8 [v0, .int .i64 a1, .int .u64 a2] (fun _ => True) [Own 23 (ekI .u64) v0 a0] (fun u H' => u = .tuple #[] ∧ H' = [Own 23 (ekI .u64) v0 q0]) := by
  unfold view_Plain_Write.f at h
  refine Ct.intro (n := 13) Try.func8 rfl rfl rfl ?_
  intro R w0 F hF hR
  refine S.rd fun hr1 => ?_
  refine S.seq ?_
  refine S.region ?_
  refine SO.v rfl (opv_move rfl) ?_
  refine SO.v rfl (opv_move rfl) ?_
  obtain ⟨t2, ht3, h⟩ := opt_bind h
  refine SO.call (pre := []) rfl Try.call11 rfl rfl rfl (view_Plain_has.ct v0 _ _ _ ht3) (Rd.head hr1) ?_
  rintro _ _ ⟨rfl, rfl⟩
  refine SO.nil ?_
  rcases bool_or t2 with b4 | b4
  · replace h := cond_t b4 h
    refine S.condT rfl b4 ?_
    refine S.region ?_
    refine SO.v rfl (opv_move rfl) ?_
    refine SO.v rfl (opv_move rfl) ?_
    refine SO.v rfl (opv_move rfl) ?_
    obtain ⟨x5, hx6, h⟩ := opt_bind h
    refine SO.v rfl (opv_idx Try.underlying25 Try.sizeOf23 hr1 rfl rfl hx6) ?_
    refine SO.storeI1 (j := 0) (z' := a2) Try.sizeOf23 hx6 rfl rfl rfl rfl rfl rfl ?_
    refine SO.rd fun hr7 => ?_
    refine SO.nil ?_
    refine S.to (ρ' := []) trivial ?_
    cases h
    refine S.b1 ?_
    refine S.b1 ?_
    exact S.fin0 Try.func8 rfl (fun w hs hk => hR w _ _ ⟨rfl, rfl⟩ hs hk)
  · replace h := cond_f b4 h
    refine S.condF rfl b4 ?_
    refine S.skip ?_
    cases h
    refine S.b1 ?_
    refine S.b1 ?_
    exact S.fin0 Try.func8 rfl (fun w hs hk => hR w _ _ ⟨rfl, rfl⟩ hs hk)
end Go.Proofs
namespace Go.Proofs
open Go.Sl Go.RowKit
/-! A list of one's own, as a view. -/
theorem read_ok (s : List Int) (i : Int) : ∃ r, view_Plain_Read.f s i = some r := by
  cases h : view_Plain_Read.f s i with
  | some r => exact ⟨r, rfl⟩
  | none =>
    exfalso
    revert h
    unfold view_Plain_Read.f view_Plain_has.f
    by_cases h1 : 0 ≤ i ∧ i < (s.length : Int)
    · have : s[i.toNat]? = some s[i.toNat] := List.getElem?_eq_getElem (by omega)
      simp [h1, at_, this]
    · have : (decide (0 ≤ i) && decide (i < (s.length : Int))) = false := by simpa using h1
      simp [this]
theorem write_ok (s : List Int) (i x : Int) : ∃ r, view_Plain_Write.f s i x = some r := by
  cases h : view_Plain_Write.f s i x with
  | some r => exact ⟨r, rfl⟩
  | none =>
    exfalso
    revert h
    unfold view_Plain_Write.f view_Plain_has.f
    by_cases h1 : 0 ≤ i ∧ i < (s.length : Int)
    · have : s[i.toNat]? = some s[i.toNat] := List.getElem?_eq_getElem (by omega)
      simp [h1, at_, this]
    · have : (decide (0 ≤ i) && decide (i < (s.length : Int))) = false := by simpa using h1
      simp [this]
abbrev plainI : VI := ⟨List Int, fun s i => ((view_Plain_Read.f s i).getD 0, s), fun s i x => (view_Plain_Write.f s i x).getD s⟩
theorem ofRd {P : Program} {g : FuncId} {vals : List Value} {α : Type} {E : TypeId} {K : EK α} {v : Value} {xs : List α} {u0 : Value} (h : Ct P g vals (fun F => Rd K v xs F) [] (fun u H' => u = u0 ∧ H' = [])) :
    Ct P g vals (fun _ => True) [Own E K v xs] (fun u H' => u = u0 ∧ H' = [Own E K v xs]) := by
  intro w F _ hs
  have h2 : Sat w ([] ++ [stars [Own E K v xs, F]]) := Sat.pack (l1 := []) hs
  have hr : Rd K v xs (stars [Own E K v xs, F]) := by
    obtain ⟨m, hm, ho⟩ := Sat.head hs
    exact Rd.head (Own.rd ho)
  refine (h w _ hr h2).mono ?_
  rintro e w' ⟨u, H', he, ⟨hu, rfl⟩, hs', hk⟩
  exact ⟨u, _, he, ⟨hu, rfl⟩, Sat.unpack (l1 := []) hs', hk⟩
set_option maxRecDepth 100000 in
set_option maxHeartbeats 4000000 in
noncomputable def plainV (v : Value) : VW Try.prog :=
  { plainI with
    t := 25, v := v, rep := fun s => Own 23 (ekI .u64) v s
    rF := 6, rV := v, wF := 8, wV := v
    rM := by intro w; kernel_rfl
    wM := by intro w; kernel_rfl
    rC := Try.call6, wC := Try.call8
    rCt := fun s i => by
      obtain ⟨r, hr⟩ := read_ok s i
      have := ofRd (E := 23) (view_Plain_Read.ct v s i r hr)
      show Ct _ _ _ _ _ (fun u H' => u = .int .u64 ((view_Plain_Read.f s i).getD 0) ∧ H' = [Own 23 (ekI .u64) v s])
      rw [hr]; exact this
    wCt := fun s i x => by
      obtain ⟨r, hr⟩ := write_ok s i x
      have := view_Plain_Write.ct v s i x r hr
      show Ct _ _ _ _ _ (fun u H' => u = .tuple #[] ∧ H' = [Own 23 (ekI .u64) v ((view_Plain_Write.f s i x).getD s)])
      rw [hr]; exact this }
theorem plainV_rep (v : Value) (s : List Int) : (plainV v).rep s = Own 23 (ekI .u64) v s := rfl
theorem headEq {P : Program} {n : Nat} {Z : Act → World → Prop} {w0 : Beg} {ops : Array Oper} {l : List Oper} {ρ : Env} {A B : HProp} {rest : List HProp} (h : A = B) (k : SO P n Z w0 ops l ρ (B :: rest)) : SO P n Z w0 ops l ρ (A :: rest) := by
  subst h; exact k
end Go.Proofs
namespace Go.Proofs
open Go.Sl Go.RowKit
/-! 7 padstone/padstonelaw05.at -/
def law05_at.f (a0 : List Int) (a1 : Int) : Option (Int) :=
  bif (decide (a1 < 0)) || (decide ((a0.length : Int) ≤ a1)) then (some 0) else ((at_ a0 a1).bind fun x3 => some x3)
set_option maxHeartbeats 8000000 in
set_option maxRecDepth 100000 in
theorem law05_at.ct (v0 : Value) (a0 : List Int) (a1 : Int) (r0 : Int) (h : law05_at.f a0 a1 = some r0) :
    Ct Try.prog 7 [v0, .int .i64 a1] (fun F => Rd (ekI .u64) v0 a0 F) [] (fun u H' => u = .int .u64 r0 ∧ H' = []) := by
  unfold law05_at.f at h
  refine Ct.intro (n := 17) Try.func7 rfl rfl rfl ?_
  intro R w0 F hF hR
  have hF0 := hF
  refine S.seq ?_
  refine S.region ?_
  refine SO.v rfl (opv_assign rfl) ?_
  refine SO.nil ?_
  refine S.seq ?_
  refine S.seq ?_
  refine S.region ?_
  refine SO.v rfl (opv_move rfl) ?_
  refine SO.v rfl (opv_lss rfl rfl) ?_
  refine SO.v rfl (opv_move rfl) ?_
  refine SO.cut 5 12 (.bool ((decide (a1 < 0)) || (decide ((a0.length : Int) ≤ a1)))) [F] (fun l2 hk2 => ?_) ?_
  · rcases bool_or (decide (a1 < 0)) with b1 | b1
    · refine SO.passF rfl rfl rfl b1 rfl rfl ?_
      refine SO.passF rfl rfl rfl b1 rfl rfl ?_
      refine SO.passF rfl rfl rfl b1 rfl rfl ?_
      refine SO.passF rfl rfl rfl b1 rfl rfl ?_
      refine SO.v rfl (opv_pick_t' b1 rfl rfl) ?_
      exact hk2.fitc (m := 5) rfl (or_t b1) rfl
    · refine SO.takeT rfl rfl rfl b1 ?_
      refine SO.v rfl (opv_move rfl) ?_
      refine SO.takeT rfl rfl rfl b1 ?_
      refine SO.v rfl (opv_move rfl) ?_
      refine SO.takeT rfl rfl rfl b1 ?_
      refine SO.v rfl (opv_lenR rfl Try.underlying22 hF0 rfl) ?_
      refine SO.takeT rfl rfl rfl b1 ?_
      refine SO.v rfl (opv_geq rfl rfl) ?_
      refine SO.v rfl (opv_pick_f' b1 rfl rfl) ?_
      exact hk2.fitc (m := 5) rfl (or_f b1) rfl
  refine SO.nil ?_
  rcases bool_or ((decide (a1 < 0)) || (decide ((a0.length : Int) ≤ a1))) with b2 | b2
  · replace h := cond_t b2 h
    refine S.condT rfl b2 ?_
    refine S.seq ?_
    refine S.region ?_
    refine SO.v rfl (opv_assign rfl) ?_
    refine SO.nil ?_
    cases h
    exact S.ret1 Try.func7 rfl rfl (fun w hs hk => hR w _ _ ⟨rfl, rfl⟩ hs hk)
  · replace h := cond_f b2 h
    refine S.condF rfl b2 ?_
    refine S.skip ?_
    refine S.seq ?_
    refine S.region ?_
    refine SO.v rfl (opv_move rfl) ?_
    refine SO.v rfl (opv_move rfl) ?_
    obtain ⟨x3, hx4, h⟩ := opt_bind h
    refine SO.v rfl (opv_idx Try.underlying22 Try.sizeOf23 hF0 rfl rfl hx4) ?_
    refine SO.loadI1 (j := 0) rfl Try.isAgg23 (Rd.head hF0) hx4 rfl rfl rfl rfl ?_
    refine SO.v rfl (opv_assign rfl) ?_
    refine SO.nil ?_
    refine S.to (ρ' := [(4, .int .u64 x3)]) ⟨rfl, trivial⟩ ?_
    cases h
    exact S.ret1 Try.func7 rfl rfl (fun w hs hk => hR w _ _ ⟨rfl, rfl⟩ hs hk)
end Go.Proofs
set_option linter.unusedVariables false
namespace Go.Proofs
open Go.Sl Go.RowKit
def rd_ (bs : List Int) (i : Int) : Int := (view_Plain_Read.f bs i).getD 0
theorem rd_some (bs : List Int) (i : Int) : view_Plain_Read.f bs i = some (rd_ bs i) := by
  obtain ⟨r, h⟩ := read_ok bs i
  unfold rd_; rw [h]; rfl
set_option maxRecDepth 100000 in
set_option maxHeartbeats 8000000 in
theorem range1_ct (L bf bt bv : Nat) (a b : Int) (vb : Value) (bs : List Int) (J X : Nat → List HProp) (ha : -9223372036854775808 ≤ a) (hb : b ≤ 9223372036854775807) (hrd : ∀ (j : Nat) (F : HProp), Rd (ekI .u64) vb bs (stars (J j ++ [F])))
    (hY : ∀ j : Nat, a + j < b → YCt Try.prog L [.int .i64 (a + j), .int .u64 (rd_ bs (a + j))] (J j) fun c H' => c = true ∧ H' = J (j + 1) ∨ c = false ∧ H' = X (j + 1)) :
    Ct Try.prog 12 [.func (.yield L) #[] #[], bp bf 0, bp bt 0, bp bv 0] (fun _ => True) (J 0 ++ [Box bf [.int .i64 a], Box bt [.int .i64 b], Box bv [.iface 25 vb]])
      (fun u H' => u = .tuple #[] ∧ (H' = J (b - a).toNat ++ [Box bf [.int .i64 a], Box bt [.int .i64 b], Box bv [.iface 25 vb]] ∨ ∃ j : Nat, a + j ≤ b ∧ 0 < j ∧ H' = X j ++ [Box bf [.int .i64 a], Box bt [.int .i64 b], Box bv [.iface 25 vb]])) := by
  refine Ct.introY (n := 20) Try.func12 rfl rfl rfl ?_
  intro R w0 F hF hR
  refine S.bring (H' := Box bf [.int .i64 a] :: Box bt [.int .i64 b] :: Box bv [.iface 25 vb] :: (J 0 ++ [F])) (by
    have : (J 0 ++ [Box bf [.int .i64 a], Box bt [.int .i64 b], Box bv [.iface 25 vb]] ++ [F]) = J 0 ++ ([Box bf [.int .i64 a], Box bt [.int .i64 b], Box bv [.iface 25 vb]] ++ [F]) := List.append_assoc _ _ _
    rw [this]
    exact (List.perm_append_comm_assoc _ _ _)) ?_
  refine S.seq ?_
  refine S.region ?_
  refine SO.load1 rfl (by intro w; kernel_rfl) rfl rfl ?_
  refine SO.v rfl (opv_assign rfl) ?_
  refine SO.nil ?_
  refine S.bring (H' := Box bt [.int .i64 b] :: Box bv [.iface 25 vb] :: Box bf [.int .i64 a] :: (J 0 ++ [F])) ((List.Perm.swap _ _ _).trans (.cons _ (.swap _ _ _))) ?_
  have e0 : (Value.int .i64 a) = .int .i64 (a + (0 : Nat)) := by simp
  refine S.to (ρ' := [(5, .int .i64 (a + (0 : Nat))), (3, bp bv 0), (2, bp bt 0), (1, bp bf 0), (0, .func (.yield L) #[] #[])]) ⟨by rw [← e0]; rfl, rfl, rfl, rfl, rfl, trivial⟩ ?_
  refine S.loopN (b - a).toNat (fun j => [(5, .int .i64 (a + j)), (3, bp bv 0), (2, bp bt 0), (1, bp bf 0), (0, .func (.yield L) #[] #[])]) (fun j => Box bt [.int .i64 b] :: Box bv [.iface 25 vb] :: Box bf [.int .i64 a] :: (J j ++ [F])) ?_
  intro j hj next
  have back : ∀ {A : HProp} (l : List HProp), (Box bv [.iface 25 vb] :: Box bt [.int .i64 b] :: Box bf [.int .i64 a] :: (l ++ [A])).Perm (l ++ (Box bv [.iface 25 vb] :: Box bt [.int .i64 b] :: Box bf [.int .i64 a] :: [A])) := fun {A} l => by
    have := List.perm_append_comm_assoc [Box bv [.iface 25 vb], Box bt [.int .i64 b], Box bf [.int .i64 a]] l [A]
    exact this
  repeat refine S.seq ?_
  refine S.region ?_
  refine SO.v rfl (opv_move rfl) ?_
  refine SO.load1 rfl (by intro w; kernel_rfl) rfl rfl ?_
  refine SO.v rfl (opv_lss rfl rfl) ?_
  refine SO.v rfl (opv_move rfl) ?_
  rcases bool_or (decide (a + j < b)) with b1 | b1
  · have hlt : a + j < b := of_decide_eq_true b1
    refine SO.takeT rfl rfl rfl b1 ?_
    refine SO.v rfl (opv_move rfl) ?_
    refine SO.takeT rfl rfl rfl b1 ?_
    refine SO.v rfl (opv_move rfl) ?_
    refine SO.bring (List.Perm.swap _ _ _) ?_
    refine SO.takeT rfl rfl rfl b1 ?_
    refine SO.load1 rfl (by intro w; kernel_rfl) rfl rfl ?_
    refine SO.takeT rfl rfl rfl b1 ?_
    refine SO.v rfl (opv_move rfl) ?_
    refine SO.takeT rfl rfl rfl b1 ?_
    refine SO.invoke (pre := []) rfl Try.call6 rfl (by intro w; kernel_rfl) rfl rfl (view_Plain_Read.ct vb bs (a + j) _ (rd_some bs (a + j))) (Rd.tail (Rd.tail (Rd.tail (hrd j F)))) ?_
    rintro _ _ ⟨rfl, rfl⟩
    refine SO.takeT rfl rfl rfl b1 ?_
    refine SO.bring (back (J j)) ?_
    refine SO.yield (pre := J j) rfl rfl rfl (hY j hlt) ?_
    intro c H' hc
    refine SO.v rfl (opv_pick_t' b1 rfl rfl) ?_
    refine SO.nil ?_
    rcases hc with ⟨rfl, rfl⟩ | ⟨rfl, rfl⟩
    · refine S.cond_true rfl ?_
      refine S.skip ?_
      refine S.seq ?_
      refine S.block ?_
      refine S.skip ?_
      refine S.inBlock ?_
      refine S.region ?_
      refine SO.v rfl (opv_move rfl) ?_
      refine SO.v rfl (opv_add rfl rfl) ?_
      refine SO.v rfl (opv_assign rfl) ?_
      refine SO.nil ?_
      have ew : IntKind.wrap .i64 (a + j + 1) = a + (j + 1 : Nat) := by
        have : w64 (a + j + 1) = a + j + 1 := w64_id (by omega) (by omega)
        exact this.trans (by omega)
      refine S.bring (H' := Box bt [.int .i64 b] :: Box bv [.iface 25 vb] :: Box bf [.int .i64 a] :: (J (j + 1) ++ [F])) ((back (J (j + 1))).symm.trans (.swap _ _ _)) ?_
      refine S.to (ρ' := [(5, .int .i64 (a + (j + 1 : Nat))), (3, bp bv 0), (2, bp bt 0), (1, bp bf 0), (0, .func (.yield L) #[] #[])]) ⟨by rw [← ew]; rfl, rfl, rfl, rfl, rfl, trivial⟩ ?_
      exact next (by omega)
    · refine S.cond_false rfl ?_
      refine S.exit rfl ?_
      refine S.fin0 Try.func12 rfl (fun w hs hk => ?_)
      refine hR w _ (X (j + 1) ++ [Box bf [.int .i64 a], Box bt [.int .i64 b], Box bv [.iface 25 vb]]) ⟨rfl, .inr ⟨j + 1, by omega, by omega, rfl⟩⟩ (hs.perm ?_) hk
      rw [List.append_assoc]
      exact .append_left _ (.trans (.swap _ _ _) (.trans (.cons _ (.swap _ _ _)) (.swap _ _ _)))
  · have hle : ¬ a + j < b := of_decide_eq_false b1
    refine SO.passF rfl rfl rfl b1 rfl rfl ?_
    refine SO.passF rfl rfl rfl b1 rfl rfl ?_
    refine SO.passF rfl rfl rfl b1 rfl rfl ?_
    refine SO.passF rfl rfl rfl b1 rfl rfl ?_
    refine SO.passF rfl rfl rfl b1 rfl rfl ?_
    refine SO.passF rfl rfl rfl b1 rfl rfl ?_
    refine SO.v rfl (opv_pick_f' b1 rfl rfl) ?_
    refine SO.nil ?_
    refine S.cond_false rfl ?_
    refine S.exit rfl ?_
    refine S.fin0 Try.func12 rfl (fun w hs hk => ?_)
    have ej : j = (b - a).toNat := by omega
    refine hR w _ (J (b - a).toNat ++ [Box bf [.int .i64 a], Box bt [.int .i64 b], Box bv [.iface 25 vb]]) ⟨rfl, .inl rfl⟩ (hs.perm ?_) hk
    rw [← ej, List.append_assoc]
    refine .trans (.swap _ _ _) (.trans (back (J j)) ?_)
    exact .append_left _ (.trans (.swap _ _ _) (.trans (.cons _ (.swap _ _ _)) (.swap _ _ _)))
set_option maxRecDepth 100000 in
set_option maxHeartbeats 8000000 in
theorem range_ct (v : Value) (a b : Int) (h1 : v.oneCell' = true) :
    Ct Try.prog 9 [v, .int .i64 a, .int .i64 b] (fun _ => True) [] (fun u H' => ∃ bv bf bt, u = .func (.func 12) #[] #[bp bf 0, bp bt 0, bp bv 0] ∧ H' = [Box bf [.int .i64 a], Box bt [.int .i64 b], Box bv [v]]) := by
  refine Ct.intro (n := 8) Try.func9 rfl rfl rfl ?_
  intro R w0 F hF hR
  have hc : v.cells.toList = [v] := by cases v <;> first | rfl | simp [Value.oneCell'] at h1
  repeat refine S.seq ?_
  refine S.region ?_
  refine SO.box rfl rfl hc (fun bv => ?_)
  refine SO.box rfl rfl rfl (fun bf => ?_)
  refine SO.box rfl rfl rfl (fun bt => ?_)
  refine SO.v rfl (opv_assign rfl) ?_
  refine SO.nil ?_
  repeat refine S.seq ?_
  refine S.region ?_
  refine SO.v rfl (opv_makeFunc rfl rfl) ?_
  refine SO.v rfl (opv_assign rfl) ?_
  refine SO.nil ?_
  refine S.ret1 Try.func9 rfl rfl (fun w hs hk => hR w _ [Box bf [.int .i64 a], Box bt [.int .i64 b], Box bv [v]] ⟨bv, bf, bt, rfl, rfl⟩ (hs.perm ?_) hk)
  exact .trans (.swap _ _ _) (.refl _)
/-- Where words are unlike, below j. -/
def chgL (a b : List Int) : Nat → List view_Pair_uint64
  | 0 => []
  | j + 1 => if rd_ b j = rd_ a j then chgL a b j else chgL a b j ++ [⟨j, rd_ b j⟩]
theorem chgL_len (a b : List Int) : ∀ j, (chgL a b j).length ≤ j
  | 0 => by simp [chgL]
  | j + 1 => by
    have := chgL_len a b j
    unfold chgL; split
    · omega
    · simp; omega
def view_Changed.f (a0 a1 : List Int) : Option (List view_Pair_uint64) := bif decide (a0.length < 4294967295) && decide (a1.length < 4294967295) then some (chgL a0 a1 (max a0.length a1.length)) else none
/-- A variable that holds a row of one's own. -/
def OutP (b5 : Nat) (xs : List view_Pair_uint64) : HProp := fun m => ∃ v, star (Box b5 [v]) (Own 35 ek_view_Pair_uint64 v xs) m
theorem OutP.open {w : World} {b5 : Nat} {xs : List view_Pair_uint64} {H : List HProp} (h : Sat w (OutP b5 xs :: H)) : ∃ v, Sat w (Box b5 [v] :: Own 35 ek_view_Pair_uint64 v xs :: H) := by
  obtain ⟨m1, m2, d, s1, s2, ⟨v, n1, n2, e, t1, t2, hb, ho⟩, hr⟩ := h
  refine ⟨v, n1, n2.un m2, ?_, t1.trans s1, PH.un_sub (t2.trans s1) s2, hb, n2, m2, d.sub t2 (.refl _), PH.sub_un_l _ _, PH.sub_un_r (d.sub t2 (.refl _)), ho, hr⟩
  exact (PH.Dj.un e.symm ((d.sub t1 (.refl _)).symm)).symm
theorem OutP.close {w : World} {b5 : Nat} {v : Value} {xs : List view_Pair_uint64} {H : List HProp} (h : Sat w (Box b5 [v] :: Own 35 ek_view_Pair_uint64 v xs :: H)) : Sat w (OutP b5 xs :: H) := by
  obtain ⟨m1, m2, d, s1, s2, hb, n1, n2, e, t1, t2, ho, hr⟩ := h
  refine ⟨m1.un n1, n2, ?_, PH.un_sub s1 (t1.trans s2), t2.trans s2, ⟨v, m1, n1, d.sub (.refl _) t1, PH.sub_un_l _ _, PH.sub_un_r (d.sub (.refl _) t1), hb, ho⟩, hr⟩
  exact PH.Dj.un (d.sub (.refl _) t2) e
theorem S.openOut {P : Program} {f : FuncId} {n : Nat} {R : Ending → World → Prop} {w0 : Beg} {k : List Item} {ρ : Env} {b5 : Nat} {xs : List view_Pair_uint64} {H : List HProp} (h : ∀ v, S P f n R w0 k ρ (Box b5 [v] :: Own 35 ek_view_Pair_uint64 v xs :: H)) : S P f n R w0 k ρ (OutP b5 xs :: H) := by
  intro a w h1 h2 h3 h4 h5
  obtain ⟨v, hv⟩ := OutP.open h4
  exact h v a w h1 h2 h3 hv h5
theorem S.closeOut {P : Program} {f : FuncId} {n : Nat} {R : Ending → World → Prop} {w0 : Beg} {k : List Item} {ρ : Env} {b5 : Nat} {v : Value} {xs : List view_Pair_uint64} {H : List HProp} (h : S P f n R w0 k ρ (OutP b5 xs :: H)) : S P f n R w0 k ρ (Box b5 [v] :: Own 35 ek_view_Pair_uint64 v xs :: H) := h.sat fun _ => OutP.close
theorem OutP.start {w : World} {b5 : Nat} {H : List HProp} (h : Sat w (Box b5 [.slice none 0 0] :: H)) : Sat w (OutP b5 [] :: H) := by
  obtain ⟨m1, m2, d, s1, s2, hb, hr⟩ := h
  exact OutP.close (v := .slice none 0 0) ⟨m1, m2, d, s1, s2, hb, fun _ => none, m2, fun _ => .inl rfl, fun _ _ e => (by cases e), .refl _, .inl ⟨rfl, rfl⟩, hr⟩
theorem fold_zip (ps : List Tmp) (vs : List Value) (t : Array Value) : (ps.toArray.zip vs.toArray).foldl (fun tmps (t, a) => tmps.setIfInBounds t a) t = (ps.zip vs).foldl (fun tmps (t, a) => tmps.setIfInBounds t a) t := by simp
open Classical in
theorem permH {l l' : List HProp} (h : ∀ x, l.count x = l'.count x) : l.Perm l' := List.perm_iff_count.2 h
set_option maxRecDepth 100000 in
set_option maxHeartbeats 8000000 in
theorem view_Changed.ct (va vb : Value) (a b : List Int) (r0 : List view_Pair_uint64) (h : view_Changed.f a b = some r0) :
    Ct Try.prog 10 [va, vb] (fun F => Rd (ekI .u64) va a F ∧ Rd (ekI .u64) vb b F) [] (fun u H' => ∃ v, u = v ∧ H' = [Own 35 ek_view_Pair_uint64 v r0]) := by
  refine Ct.intro (n := 30) Try.func10 rfl rfl rfl ?_
  intro R w0 F hF hR
  obtain ⟨hFa, hFb⟩ := hF
  have h1 := Rd.one hFa
  have hca : va.cells.toList = [va] := by cases va <;> first | rfl | simp [Value.oneCell'] at h1
  repeat refine S.seq ?_
  refine S.region ?_
  refine SO.box rfl rfl hca (fun b2 => ?_)
  refine SO.v rfl (opv_assign rfl) ?_
  refine SO.nil ?_
  repeat refine S.seq ?_
  refine S.region ?_
  refine SO.alloc rfl Try.zeroValue32 rfl (fun b5 => ?_)
  refine SO.nil ?_
  repeat refine S.seq ?_
  refine S.region ?_
  refine SO.v rfl (opv_move rfl) ?_
  refine SO.v rfl (opv_iface Try.underlying25 rfl rfl) ?_
  refine SO.bring (List.Perm.swap _ _ _) ?_
  refine SO.load1 rfl (by intro w; kernel_rfl) rfl rfl ?_
  refine SO.v rfl (opv_lenR rfl Try.underlying22 hFa rfl) ?_
  refine SO.v rfl (opv_move rfl) ?_
  refine SO.v rfl (opv_lenR rfl Try.underlying22 hFb rfl) ?_
  refine SO.v rfl (opv_max rfl rfl) ?_
  refine SO.call (pre := []) rfl Try.call9 rfl rfl rfl (range_ct (.iface 25 vb) 0 _ rfl) trivial ?_
  rintro _ _ ⟨bv, bf, bt, rfl, rfl⟩
  refine SO.nil ?_
  repeat refine S.seq ?_
  refine S.block ?_
  refine S.rangeFunc (gf := 12) (caps := [bp bf 0, bp bt 0, bp bv 0]) rfl rfl Try.call12 ?_
  intro L D tmps ht hE r hr w hs hk
  have hlen : a.length < 4294967295 ∧ b.length < 4294967295 ∧ r0 = chgL a b (max a.length b.length) := by
    unfold view_Changed.f at h
    cases hc : (decide (a.length < 4294967295) && decide (b.length < 4294967295)) with
    | false => rw [hc] at h; cases h
    | true =>
      rw [hc, cond_true] at h
      injection h with h
      simp only [Bool.and_eq_true, decide_eq_true_eq] at hc
      exact ⟨hc.1, hc.2, h.symm⟩
  obtain ⟨l1, l2, rfl⟩ := hlen
  have eM : (if (a.length : Int) < b.length then (b.length : Int) else a.length) = max (a.length : Int) b.length := by
    rw [Int.max_def]; split <;> split <;> omega
  rw [eM] at hs
  have J0 : Sat w ([Blk L (.loop r), OutP b5 [], Box b2 [va], F] ++ [Box bf [.int .i64 0], Box bt [.int .i64 (max (a.length : Int) b.length)], Box bv [.iface 25 vb]] ++ [Blk D (.deferred (some []))]) := by
    have q1 := OutP.start (hs.perm (List.perm_middle (l₁ := [_, _, _, _, _, _]) (l₂ := [_])))
    exact q1.perm (permH (by
      intro x
      simp only [List.count_cons, List.count_nil, List.cons_append, List.nil_append]
      omega))
  have hct := range1_ct L bf bt bv 0 (max (a.length : Int) b.length) vb b (fun j => [Blk L (.loop r), OutP b5 (chgL a b j), Box b2 [va], F]) (fun _ => [fun _ => False]) (by decide) (by omega) (fun j A => Rd.tail (Rd.tail (Rd.tail (Rd.head hFb)))) ?_
  · refine (hct w _ trivial J0).mono ?_
    rintro e w' ⟨v, H', rfl, ⟨rfl, hH⟩, hs', hk'⟩
    rcases hH with rfl | ⟨j, hj1, hj2, rfl⟩
    · have hr2 : ({ r with state := .ready, pending := none } : Loop) = r := by subst hr; rfl
      refine ⟨_, .ready, none, [Blk D (.deferred (some [])), OutP b5 (chgL a b (max a.length b.length)), Box b2 [va], F, Box bf [.int .i64 0], Box bt [.int .i64 (max (a.length : Int) b.length)], Box bv [.iface 25 vb]], rfl, by decide, ?_, hk.trans hk', ?_⟩
      · rw [hr2]
        have e1 : ((max (a.length : Int) b.length) - 0).toNat = max a.length b.length := by omega
        rw [e1] at hs'
        exact hs'.perm (permH (by
          intro x
          simp only [List.count_cons, List.count_nil, List.cons_append, List.nil_append]
          omega))
      · refine S.inBlock ?_
        refine S.bring (List.Perm.swap _ _ _) ?_
        refine S.openOut fun v => ?_
        repeat refine S.seq ?_
        refine S.region ?_
        refine SO.load1 rfl Try.isAgg32 rfl rfl ?_
        refine SO.v rfl (opv_assign rfl) ?_
        refine SO.nil ?_
        refine S.b2 ?_
        refine S.ret1M Try.func10 rfl rfl (fun w hs hk => hR w _ [Own 35 ek_view_Pair_uint64 v (chgL a b (max a.length b.length))] ⟨v, rfl, rfl⟩ ?_ hk) rfl
        have q := (hs.perm (l' := [Blk D (.deferred none), Box b5 [v], Box b2 [va], Box bf [.int .i64 0], Box bt [.int .i64 (max (a.length : Int) b.length)], Box bv [.iface 25 vb], Own 35 ek_view_Pair_uint64 v (chgL a b (max a.length b.length)), F]) (permH (by
          intro x
          simp only [List.count_cons, List.count_nil]
          omega)))
        exact q.drop.drop.drop.drop.drop.drop
    · exact (hs'.head).elim fun _ h => h.2.elim
  · intro j hj
    have hr2 : r.state = .ready := by subst hr; rfl
    have hr3 : ({ { r with state := .busy } with state := .ready, pending := none } : Loop) = r := by subst hr; rfl
    refine YCt.intro (n := 30) (ρ0 := [(17, .int .u64 (rd_ b (0 + j))), (16, .int .i64 (0 + j)), (5, bp b5 0), (2, bp b2 0)]) (by subst hr; rfl) hr2 (by subst hr; exact ht) ?_ ?_ ?_
    · subst hr
      rw [show (#[16, 17] : Array Tmp) = [16, 17].toArray from rfl, fold_zip]
      exact (((hE.fit (.of ⟨rfl, rfl, trivial⟩) : EnvOk tmps [(5, bp b5 0), (2, bp b2 0)]).put _ (by omega)).put _ (by rw [Array.size_setIfInBounds]; omega))
    · subst hr
      rw [show (#[16, 17] : Array Tmp) = [16, 17].toArray from rfl, fold_zip]
      simp [ht]
    · intro R' wb F' hR'
      subst hr
      dsimp only
      repeat refine S.seq ?_
      refine S.region ?_
      refine SO.v rfl (opv_assign rfl) ?_
      refine SO.nil ?_
      refine S.region ?_
      refine SO.v rfl (opv_assign rfl) ?_
      refine SO.nil ?_
      refine S.beginRound hr2 ?_
      refine S.block ?_
      repeat refine S.seq ?_
      refine S.region ?_
      refine SO.v rfl (opv_move rfl) ?_
      refine SO.b2 ?_
      refine SO.load1 rfl (by intro w; kernel_rfl) rfl rfl ?_
      refine SO.v rfl (opv_move rfl) ?_
      refine SO.call (pre := []) rfl Try.call6 rfl rfl rfl (view_Plain_Read.ct va a (0 + j) _ (rd_some a (0 + j))) (Rd.tail (Rd.tail (Rd.tail (Rd.head hFa)))) ?_
      rintro _ _ ⟨rfl, rfl⟩
      refine SO.v rfl (opv_neq rfl rfl) ?_
      refine SO.nil ?_
      have ec : chgL a b (j + 1) = if rd_ b j = rd_ a j then chgL a b j else chgL a b j ++ [⟨j, rd_ b j⟩] := rfl
      have e0 : (0 : Int) + j = j := by omega
      rcases bool_or (rd_ b (0 + j) != rd_ a (0 + j)) with c1 | c1
      · have hne : rd_ b j ≠ rd_ a j := by rw [e0] at c1; simpa using c1
        rw [if_neg hne] at ec
        refine S.condT rfl c1 ?_
        refine S.b2 ?_
        refine S.openOut fun v5 => ?_
        refine S.b1 ?_
        refine S.rd fun hr5 => ?_
        refine S.b1 ?_
        repeat refine S.seq ?_
        refine S.region ?_
        refine SO.load1 rfl Try.isAgg32 rfl rfl ?_
        refine SO.v rfl (opv_move rfl) ?_
        refine SO.v rfl (opv_move rfl) ?_
        refine SO.v rfl (opv_build (v := .agg #[.int .i64 (0 + j), .int .u64 (rd_ b (0 + j))]) rfl (by intro w; kernel_rfl)) ?_
        refine SO.buildSlice (K := ek_view_Pair_uint64) (xs := [⟨0 + j, rd_ b (0 + j)⟩]) (cs := [.int .i64 (0 + j), .int .u64 (rd_ b (0 + j))]) rfl Try.underlying32 Try.sizeOf35 Try.zeroValue35 rfl rfl rfl (by kernel_rfl) rfl rfl rfl (fun v6 hr6 => ?_)
        have hlen := chgL_len a b j
        have happ : app (chgL a b j) [(⟨0 + j, rd_ b (0 + j)⟩ : view_Pair_uint64)] = some (chgL a b j ++ [⟨0 + j, rd_ b (0 + j)⟩]) := by
          have e : (chgL a b j).length + ([(⟨0 + j, rd_ b (0 + j)⟩ : view_Pair_uint64)] : List view_Pair_uint64).length ≤ 4294967296 := by
            simp only [List.length_cons, List.length_nil]; omega
          unfold app
          rw [decide_eq_true e]; rfl
        refine SO.b2 ?_
        refine SO.append rfl Try.underlying32 Try.underlying32 inf35 rfl rfl rfl (by decide) rfl rfl rfl (Rd.head hr6) happ (fun v7 => ?_)
        refine SO.rd fun hr7 => ?_
        refine SO.b2 ?_
        refine SO.store1 Try.sizeOf32 rfl rfl (Rd.one hr7) rfl ?_
        refine SO.nil ?_
        refine S.inBlock ?_
        refine S.b2 ?_
        refine S.drop ?_
        refine S.closeOut ?_
        refine S.b1 ?_
        refine S.b1 ?_
        refine S.b2 ?_
        refine S.roundEnd (fun w hs hk => hR' w true (Blk L (.loop _) :: [OutP b5 (chgL a b (j + 1)), Box b2 [va], F]) (.inl ⟨rfl, rfl⟩) ?_ hk)
        rw [ec]
        rw [e0] at hs
        exact hs
      · have heq : rd_ b j = rd_ a j := by rw [e0] at c1; simpa using c1
        rw [if_pos heq] at ec
        refine S.condF rfl c1 ?_
        refine S.skip ?_
        refine S.inBlock ?_
        refine S.b2 ?_
        refine S.b2 ?_
        refine S.roundEnd (fun w hs hk => hR' w true (Blk L (.loop _) :: [OutP b5 (chgL a b (j + 1)), Box b2 [va], F]) (.inl ⟨rfl, rfl⟩) ?_ hk)
        rw [ec]
        exact hs

end Go.Proofs
namespace Go.Proofs
open Go.Sl Go.RowKit
/-! 5 padstone/padstonelaw05.up -/
def law05_up.f : Option (Bool) :=
  (view_Changed.f ([1, 2]) ([1, 3])).bind fun t5 => (view_Plain_Write.f ([7, 8]) 1 9).bind fun q11 => (bif (t5.length : Int) == 1 then ((at_ t5 0).bind fun x17 => some (x17.At == 1)) else (some false)).bind fun c15 => (bif c15 then ((at_ t5 0).bind fun x22 => some (x22.Val == 3)) else (some false)).bind fun c20 => (bif c20 then ((view_Plain_Read.f q11 1).bind fun t27 => some (t27 == 9)) else (some false)).bind fun c25 => (bif c25 then ((view_Plain_Read.f q11 2).bind fun t32 => some (t32 == 0)) else (some false)).bind fun c30 => (bif c30 then ((view_Plain_Read.f q11 (-1)).bind fun t37 => some (t37 == 0)) else (some false)).bind fun c35 => some c35
set_option maxHeartbeats 8000000 in
set_option maxRecDepth 100000 in
theorem law05_up.ct (r0 : Bool) (h : law05_up.f  = some r0) :
    Ct Try.prog 5 [] (fun _ => True) [] (fun u H' => u = .bool r0 ∧ H' = []) := by
  unfold law05_up.f at h
  refine Ct.intro (n := 41) Try.func5 rfl rfl rfl ?_
  intro R w0 F hF hR
  refine S.seq ?_
  refine S.region ?_
  refine SO.v rfl (opv_assign rfl) ?_
  refine SO.nil ?_
  refine S.seq ?_
  refine S.region ?_
  refine SO.buildSlice (K := ekI .u64) (xs := [1, 2]) (cs := [.int .u64 1, .int .u64 2]) rfl Try.underlying22 Try.sizeOf23 Try.zeroValue23 rfl rfl rfl (by kernel_rfl) rfl rfl rfl (fun v1 hr2 => ?_)
  refine SO.buildSlice (K := ekI .u64) (xs := [1, 3]) (cs := [.int .u64 1, .int .u64 3]) rfl Try.underlying22 Try.sizeOf23 Try.zeroValue23 rfl rfl rfl (by kernel_rfl) rfl rfl rfl (fun v3 hr4 => ?_)
  obtain ⟨t5, ht6, h⟩ := opt_bind h
  refine SO.call (pre := []) rfl Try.call10 rfl rfl rfl (view_Changed.ct v1 v3 _ _ _ ht6) ⟨(Rd.tail (Rd.head hr2)), (Rd.head hr4)⟩ ?_
  rintro v7 _ ⟨_, rfl, rfl⟩
  refine SO.rd fun hr8 => ?_
  refine SO.v rfl (opv_assign rfl) ?_
  refine SO.nil ?_
  refine S.seq ?_
  refine S.region ?_
  refine SO.buildSlice (K := ekI .u64) (xs := [7, 8]) (cs := [.int .u64 7, .int .u64 8]) rfl Try.underlying22 Try.sizeOf23 Try.zeroValue23 rfl rfl rfl (by kernel_rfl) rfl rfl rfl (fun v9 hr10 => ?_)
  refine SO.v rfl (opv_assign rfl) ?_
  refine SO.nil ?_
  refine S.seq ?_
  refine S.region ?_
  refine SO.v rfl (opv_move rfl) ?_
  obtain ⟨q11, ht12, h⟩ := opt_bind h
  refine SO.call (pre := [Own _ _ _ _]) rfl Try.call8 rfl rfl rfl (view_Plain_Write.ct v9 _ _ _ _ ht12) trivial ?_
  rintro _ _ ⟨rfl, rfl⟩
  refine SO.rd fun hr13 => ?_
  refine SO.nil ?_
  refine S.seq ?_
  refine S.region ?_
  refine SO.v rfl (opv_move rfl) ?_
  refine SO.v rfl (opv_lenR rfl Try.underlying32 hr8 rfl) ?_
  refine SO.v rfl (opv_eql rfl rfl) ?_
  refine SO.v rfl (opv_move rfl) ?_
  obtain ⟨c15, hc16, hgk⟩ := opt_bind h
  refine SO.cut 6 18 (.bool c15) [Own 23 (ekI .u64) v9 q11, Own 35 ek_view_Pair_uint64 v7 t5, Own 23 (ekI .u64) v3 ([1, 3]), Own 23 (ekI .u64) v1 ([1, 2]), F] (fun l2 hk2 => ?_) ?_
  · clear hgk
    replace h := hc16
    rcases bool_or ((t5.length : Int) == 1) with b14 | b14
    · replace h := cond_t b14 h
      refine SO.takeT rfl rfl rfl b14 ?_
      refine SO.v rfl (opv_move rfl) ?_
      refine SO.takeT rfl rfl rfl b14 ?_
      obtain ⟨x17, hx18, h⟩ := opt_bind h
      refine SO.v rfl (opv_idx Try.underlying32 Try.sizeOf35 hr8 rfl rfl hx18) ?_
      refine SO.takeT rfl rfl rfl b14 ?_
      refine SO.v rfl (opv_fieldIdx Try.underlying35 rfl Try.sizeOf3 hr8 hx18 rfl rfl) ?_
      refine SO.takeT rfl rfl rfl b14 ?_
      refine SO.loadI1 (j := 0) rfl Try.isAgg3 (Rd.tail (Rd.head hr8)) hx18 rfl rfl rfl rfl ?_
      refine SO.takeT rfl rfl rfl b14 ?_
      refine SO.v rfl (opv_eql rfl rfl) ?_
      cases h
      refine SO.v rfl (opv_pick_t' b14 rfl rfl) ?_
      refine SO.b4 ?_
      refine SO.b4 ?_
      refine SO.b4 ?_
      refine SO.b4 ?_
      refine SO.b4 ?_
      exact hk2.fitc (m := 6) rfl (rfl) rfl
    · replace h := cond_f b14 h
      refine SO.passF rfl rfl rfl b14 rfl rfl ?_
      refine SO.passF rfl rfl rfl b14 rfl rfl ?_
      refine SO.passF rfl rfl rfl b14 rfl rfl ?_
      refine SO.passF rfl rfl rfl b14 rfl rfl ?_
      refine SO.passF rfl rfl rfl b14 rfl rfl ?_
      cases h
      refine SO.v rfl (opv_pick_f' b14 rfl rfl) ?_
      refine SO.b4 ?_
      refine SO.b4 ?_
      refine SO.b4 ?_
      refine SO.b4 ?_
      refine SO.b4 ?_
      exact hk2.fitc (m := 6) rfl (rfl) rfl
  clear hc16
  replace h := hgk
  refine SO.v rfl (opv_move rfl) ?_
  obtain ⟨c20, hc21, hgk⟩ := opt_bind h
  refine SO.cut 6 25 (.bool c20) [Own 23 (ekI .u64) v9 q11, Own 35 ek_view_Pair_uint64 v7 t5, Own 23 (ekI .u64) v3 ([1, 3]), Own 23 (ekI .u64) v1 ([1, 2]), F] (fun l2 hk2 => ?_) ?_
  · clear hgk
    replace h := hc21
    rcases bool_or c15 with b19 | b19
    · replace h := cond_t b19 h
      refine SO.takeT rfl rfl rfl b19 ?_
      refine SO.v rfl (opv_move rfl) ?_
      refine SO.takeT rfl rfl rfl b19 ?_
      obtain ⟨x22, hx23, h⟩ := opt_bind h
      refine SO.v rfl (opv_idx Try.underlying32 Try.sizeOf35 hr8 rfl rfl hx23) ?_
      refine SO.takeT rfl rfl rfl b19 ?_
      refine SO.v rfl (opv_fieldIdx Try.underlying35 rfl Try.sizeOf23 hr8 hx23 rfl rfl) ?_
      refine SO.takeT rfl rfl rfl b19 ?_
      refine SO.loadI1 (j := 1) rfl Try.isAgg23 (Rd.tail (Rd.head hr8)) hx23 rfl rfl rfl rfl ?_
      refine SO.takeT rfl rfl rfl b19 ?_
      refine SO.v rfl (opv_eql rfl rfl) ?_
      cases h
      refine SO.v rfl (opv_pick_t' b19 rfl rfl) ?_
      refine SO.b4 ?_
      refine SO.b4 ?_
      refine SO.b4 ?_
      refine SO.b4 ?_
      refine SO.b4 ?_
      exact hk2.fitc (m := 6) rfl (rfl) rfl
    · replace h := cond_f b19 h
      refine SO.passF rfl rfl rfl b19 rfl rfl ?_
      refine SO.passF rfl rfl rfl b19 rfl rfl ?_
      refine SO.passF rfl rfl rfl b19 rfl rfl ?_
      refine SO.passF rfl rfl rfl b19 rfl rfl ?_
      refine SO.passF rfl rfl rfl b19 rfl rfl ?_
      cases h
      refine SO.v rfl (opv_pick_f' b19 rfl rfl) ?_
      refine SO.b4 ?_
      refine SO.b4 ?_
      refine SO.b4 ?_
      refine SO.b4 ?_
      refine SO.b4 ?_
      exact hk2.fitc (m := 6) rfl (rfl) rfl
  clear hc21
  replace h := hgk
  refine SO.v rfl (opv_move rfl) ?_
  obtain ⟨c25, hc26, hgk⟩ := opt_bind h
  refine SO.cut 4 30 (.bool c25) [Own 23 (ekI .u64) v9 q11, Own 35 ek_view_Pair_uint64 v7 t5, Own 23 (ekI .u64) v3 ([1, 3]), Own 23 (ekI .u64) v1 ([1, 2]), F] (fun l2 hk2 => ?_) ?_
  · clear hgk
    replace h := hc26
    rcases bool_or c20 with b24 | b24
    · replace h := cond_t b24 h
      refine SO.takeT rfl rfl rfl b24 ?_
      refine SO.v rfl (opv_move rfl) ?_
      refine SO.takeT rfl rfl rfl b24 ?_
      obtain ⟨t27, ht28, h⟩ := opt_bind h
      refine SO.call (pre := []) rfl Try.call6 rfl rfl rfl (view_Plain_Read.ct v9 _ _ _ ht28) (Rd.head hr13) ?_
      rintro _ _ ⟨rfl, rfl⟩
      refine SO.takeT rfl rfl rfl b24 ?_
      refine SO.v rfl (opv_eql rfl rfl) ?_
      cases h
      refine SO.v rfl (opv_pick_t' b24 rfl rfl) ?_
      refine SO.b4 ?_
      refine SO.b4 ?_
      refine SO.b4 ?_
      refine SO.b4 ?_
      refine SO.b4 ?_
      exact hk2.fitc (m := 4) rfl (rfl) rfl
    · replace h := cond_f b24 h
      refine SO.passF rfl rfl rfl b24 rfl rfl ?_
      refine SO.passF rfl rfl rfl b24 rfl rfl ?_
      refine SO.passF rfl rfl rfl b24 rfl rfl ?_
      cases h
      refine SO.v rfl (opv_pick_f' b24 rfl rfl) ?_
      refine SO.b4 ?_
      refine SO.b4 ?_
      refine SO.b4 ?_
      refine SO.b4 ?_
      refine SO.b4 ?_
      exact hk2.fitc (m := 4) rfl (rfl) rfl
  clear hc26
  replace h := hgk
  refine SO.v rfl (opv_move rfl) ?_
  obtain ⟨c30, hc31, hgk⟩ := opt_bind h
  refine SO.cut 4 35 (.bool c30) [Own 23 (ekI .u64) v9 q11, Own 35 ek_view_Pair_uint64 v7 t5, Own 23 (ekI .u64) v3 ([1, 3]), Own 23 (ekI .u64) v1 ([1, 2]), F] (fun l2 hk2 => ?_) ?_
  · clear hgk
    replace h := hc31
    rcases bool_or c25 with b29 | b29
    · replace h := cond_t b29 h
      refine SO.takeT rfl rfl rfl b29 ?_
      refine SO.v rfl (opv_move rfl) ?_
      refine SO.takeT rfl rfl rfl b29 ?_
      obtain ⟨t32, ht33, h⟩ := opt_bind h
      refine SO.call (pre := []) rfl Try.call6 rfl rfl rfl (view_Plain_Read.ct v9 _ _ _ ht33) (Rd.head hr13) ?_
      rintro _ _ ⟨rfl, rfl⟩
      refine SO.takeT rfl rfl rfl b29 ?_
      refine SO.v rfl (opv_eql rfl rfl) ?_
      cases h
      refine SO.v rfl (opv_pick_t' b29 rfl rfl) ?_
      refine SO.b4 ?_
      refine SO.b4 ?_
      refine SO.b4 ?_
      refine SO.b4 ?_
      refine SO.b4 ?_
      exact hk2.fitc (m := 4) rfl (rfl) rfl
    · replace h := cond_f b29 h
      refine SO.passF rfl rfl rfl b29 rfl rfl ?_
      refine SO.passF rfl rfl rfl b29 rfl rfl ?_
      refine SO.passF rfl rfl rfl b29 rfl rfl ?_
      cases h
      refine SO.v rfl (opv_pick_f' b29 rfl rfl) ?_
      refine SO.b4 ?_
      refine SO.b4 ?_
      refine SO.b4 ?_
      refine SO.b4 ?_
      refine SO.b4 ?_
      exact hk2.fitc (m := 4) rfl (rfl) rfl
  clear hc31
  replace h := hgk
  refine SO.v rfl (opv_move rfl) ?_
  obtain ⟨c35, hc36, hgk⟩ := opt_bind h
  refine SO.cut 4 40 (.bool c35) [Own 23 (ekI .u64) v9 q11, Own 35 ek_view_Pair_uint64 v7 t5, Own 23 (ekI .u64) v3 ([1, 3]), Own 23 (ekI .u64) v1 ([1, 2]), F] (fun l2 hk2 => ?_) ?_
  · clear hgk
    replace h := hc36
    rcases bool_or c30 with b34 | b34
    · replace h := cond_t b34 h
      refine SO.takeT rfl rfl rfl b34 ?_
      refine SO.v rfl (opv_move rfl) ?_
      refine SO.takeT rfl rfl rfl b34 ?_
      obtain ⟨t37, ht38, h⟩ := opt_bind h
      refine SO.call (pre := []) rfl Try.call6 rfl rfl rfl (view_Plain_Read.ct v9 _ _ _ ht38) (Rd.head hr13) ?_
      rintro _ _ ⟨rfl, rfl⟩
      refine SO.takeT rfl rfl rfl b34 ?_
      refine SO.v rfl (opv_eql rfl rfl) ?_
      cases h
      refine SO.v rfl (opv_pick_t' b34 rfl rfl) ?_
      refine SO.b4 ?_
      refine SO.b4 ?_
      refine SO.b4 ?_
      refine SO.b4 ?_
      refine SO.b4 ?_
      exact hk2.fitc (m := 4) rfl (rfl) rfl
    · replace h := cond_f b34 h
      refine SO.passF rfl rfl rfl b34 rfl rfl ?_
      refine SO.passF rfl rfl rfl b34 rfl rfl ?_
      refine SO.passF rfl rfl rfl b34 rfl rfl ?_
      cases h
      refine SO.v rfl (opv_pick_f' b34 rfl rfl) ?_
      refine SO.b4 ?_
      refine SO.b4 ?_
      refine SO.b4 ?_
      refine SO.b4 ?_
      refine SO.b4 ?_
      exact hk2.fitc (m := 4) rfl (rfl) rfl
  clear hc36
  replace h := hgk
  refine SO.v rfl (opv_assign rfl) ?_
  refine SO.nil ?_
  refine S.to (ρ' := [(0, .bool c35)]) ⟨rfl, trivial⟩ ?_
  cases h
  refine S.drop ?_
  refine S.drop ?_
  refine S.drop ?_
  refine S.drop ?_
  exact S.ret1 Try.func5 rfl rfl (fun w hs hk => hR w _ _ ⟨rfl, rfl⟩ hs hk)
end Go.Proofs
namespace Go.Proofs
open Go.Sl Go.RowKit
/-! 3 padstone/padstonelaw05.ViewTells -/
/-- What the rounds of the law's loop come to. -/
def vtl (had bs : List Int) (stop : Int) : Nat → Int → Brk Bool Int
  | 0, i => .nx i
  | n + 1, i => if rd_ bs i = rd_ had i then (if i = stop then .nx (i + 1) else vtl had bs stop n (i + 1)) else .ret false
def vreach (had bs : List Int) (stop a : Int) (j : Nat) : Prop := ∀ q : Nat, q < j → rd_ bs (a + q) = rd_ had (a + q) ∧ a + q ≠ stop
theorem vtl_reach (had bs : List Int) (stop : Int) : ∀ (j n : Nat) (a : Int), vreach had bs stop a j → j ≤ n → vtl had bs stop n a = vtl had bs stop (n - j) (a + j)
  | 0, n, a, _, _ => by simp
  | j + 1, 0, a, _, h => by omega
  | j + 1, n + 1, a, hr, h => by
    have h0 := hr 0 (by omega)
    simp only [Int.natCast_zero, Int.add_zero] at h0
    rw [vtl, if_pos h0.1, if_neg h0.2, vtl_reach had bs stop j n (a + 1) (fun q hq => by
      have := hr (q + 1) (by omega)
      rw [show a + ((q + 1 : Nat) : Int) = a + 1 + q by omega] at this; exact this) (by omega)]
    congr 1 <;> omega
theorem vtl_end (had bs : List Int) (stop : Int) (n : Nat) (a : Int) (h : vreach had bs stop a n) : vtl had bs stop n a = .nx (a + n) := by
  rw [vtl_reach had bs stop n n a h (Nat.le_refl _), Nat.sub_self]; rfl
theorem vtl_ret (had bs : List Int) (stop : Int) (n j : Nat) (a : Int) (h : vreach had bs stop a j) (hj : j < n) (hn : rd_ bs (a + j) ≠ rd_ had (a + j)) : vtl had bs stop n a = .ret false := by
  rw [vtl_reach had bs stop j n a h (by omega)]
  obtain ⟨m, hm⟩ : ∃ m, n - j = m + 1 := ⟨n - j - 1, by omega⟩
  rw [hm, vtl, if_neg hn]
theorem vtl_brk (had bs : List Int) (stop : Int) (n j : Nat) (a : Int) (h : vreach had bs stop a j) (hj : j < n) (hn : rd_ bs (a + j) = rd_ had (a + j)) (hs : a + j = stop) : vtl had bs stop n a = .nx (a + (j + 1 : Nat)) := by
  rw [vtl_reach had bs stop j n a h (by omega)]
  obtain ⟨m, hm⟩ : ∃ m, n - j = m + 1 := ⟨n - j - 1, by omega⟩
  rw [hm, vtl, if_pos hn, if_pos hs]; congr 1; omega
theorem lat_ok0 (s : List Int) (i : Int) : law05_at.f s i = some (rd_ s i) := by
  unfold law05_at.f rd_ view_Plain_Read.f view_Plain_has.f
  by_cases h : 0 ≤ i ∧ i < (s.length : Int)
  · have h2 : s[i.toNat]? = some (s[i.toNat]'(by omega)) := List.getElem?_eq_getElem (by omega)
    have h3 : at_ s i = some (s[i.toNat]'(by omega)) := by unfold at_; rw [decide_eq_true h.1, cond_true, h2]
    rw [decide_eq_false (by omega), decide_eq_false (by omega), decide_eq_true h.1, decide_eq_true h.2, h3]; rfl
  · rcases (by omega : i < 0 ∨ ¬ i < 0 ∧ (s.length : Int) ≤ i) with c | c
    · rw [decide_eq_true c, decide_eq_false (p := 0 ≤ i) (by omega)]; rfl
    · rw [decide_eq_false c.1, decide_eq_true c.2, decide_eq_true (p := 0 ≤ i) (by omega), decide_eq_false (p := i < _) (by omega)]; rfl

def law05_ViewTells.l2 (a0 : List Int) (q29 : List Int) (qv15_1 : List Int) : Nat → Int → Option (Brk Bool Unit)
  | 0, _ => none
  | k + 1, x16_2 => bif decide (x16_2 ≤ (a0.length : Int)) then ((view_Plain_Read.f q29 x16_2).bind fun t39 => (law05_at.f qv15_1 x16_2).bind fun t41 => bif t39 != t41 then (some (Brk.ret false)) else (law05_ViewTells.l2 a0 q29 qv15_1 k (w64 (x16_2 + 1)))) else (some (Brk.nx ()))
def law05_ViewTells.f (k : Nat) (a0 : List Int) (a1 : Int) (a2 : Int) (a3 : Int) (a4 : Int) (a5 : Int) : Option (Bool) :=
  (law05_up.f ).bind fun t4 => (bif (decide (200 < (a0.length : Int))) || (decide (a3 < (-1000))) then (some true) else (some (decide (1000 < a4)))).bind fun c8 => bif c8 then (some t4) else ((app ([]) a0).bind fun zs13 => (app ([]) a0).bind fun zs20 => (view_Plain_Read.f zs20 a1).bind fun t24 => (law05_at.f a0 a1).bind fun t26 => bif t24 != t26 then (some false) else ((view_Plain_Write.f zs20 a1 a2).bind fun q29 => (bif (decide (0 ≤ a1)) && (decide (a1 < (a0.length : Int))) then ((at_ zs13 a1).bind fun x34 => some (zs13.set a1.toNat a2)) else (some zs13)).bind fun qv15_1 => (law05_ViewTells.l2 a0 q29 qv15_1 k (-1)).bind fun o2 => Brk.go o2 (fun r => some r) (fun _ => (chk (decide (-9223372036854775808 ≤ a3) && decide (a4 ≤ 9223372036854775807))).bind fun _ => Brk.go (vtl qv15_1 q29 a5 (a4 - a3).toNat a3) (fun r => some r) (fun nx9 => (bif decide (nx9 < a4) then ((bif decide (a5 < a3) then (some true) else (some (decide (a4 ≤ a5)))).bind fun c52 => some c52) else (some false)).bind fun c49 => bif c49 && (decide (a3 < a4)) then (some false) else ((view_Changed.f a0 qv15_1).bind fun t56 => (law05_at.f a0 a1).bind fun t60 => (law05_at.f qv15_1 a1).bind fun t62 => bif t60 == t62 then (some (t4 && ((t56.length : Int) == 0))) else ((bif t4 && ((t56.length : Int) == 1) then ((at_ t56 0).bind fun x70 => some (x70.At == a1)) else (some false)).bind fun c68 => (bif c68 then ((at_ t56 0).bind fun x75 => some (x75.Val == a2)) else (some false)).bind fun c73 => some c73))))))
set_option maxHeartbeats 8000000 in
set_option maxRecDepth 100000 in
theorem law05_ViewTells.ct (k : Nat) (v0 : Value) (a0 : List Int) (a1 : Int) (a2 : Int) (a3 : Int) (a4 : Int) (a5 : Int) (r0 : Bool) (h : law05_ViewTells.f k a0 a1 a2 a3 a4 a5 = some r0) :
    Ct Try.prog 3 [v0, .int .i64 a1, .int .u64 a2, .int .i64 a3, .int .i64 a4, .int .i64 a5] (fun F => Rd (ekI .u64) v0 a0 F) [] (fun u H' => u = .bool r0 ∧ H' = []) := by
  unfold law05_ViewTells.f at h
  refine Ct.intro (n := 164) Try.func3 rfl rfl rfl ?_
  intro R w0 F hF hR
  have hF0 := hF
  refine S.seq ?_
  refine S.region ?_
  refine SO.box rfl rfl rfl (fun b1 => ?_)
  refine SO.box rfl rfl rfl (fun b2 => ?_)
  refine SO.alloc rfl Try.zeroValue4 rfl (fun b3 => ?_)
  refine SO.nil ?_
  refine S.seq ?_
  refine S.region ?_
  obtain ⟨t4, ht5, h⟩ := opt_bind h
  refine SO.call (pre := []) rfl Try.call5 rfl rfl rfl (law05_up.ct _ ht5) trivial ?_
  rintro _ _ ⟨rfl, rfl⟩
  refine SO.v rfl (opv_assign rfl) ?_
  refine SO.nil ?_
  refine S.seq ?_
  refine S.seq ?_
  refine S.region ?_
  refine SO.v rfl (opv_move rfl) ?_
  refine SO.v rfl (opv_lenR rfl Try.underlying22 hF0 rfl) ?_
  refine SO.v rfl (opv_gtr rfl rfl) ?_
  refine SO.v rfl (opv_move rfl) ?_
  refine SO.cut 3 29 (.bool ((decide (200 < (a0.length : Int))) || (decide (a3 < (-1000))))) [Box b3 [.bool false], Box b2 [.int .i64 a5], Box b1 [.int .i64 a4], F] (fun l2 hk2 => ?_) ?_
  · rcases bool_or (decide (200 < (a0.length : Int))) with b6 | b6
    · refine SO.passF rfl rfl rfl b6 rfl rfl ?_
      refine SO.passF rfl rfl rfl b6 rfl rfl ?_
      refine SO.v rfl (opv_pick_t' b6 rfl rfl) ?_
      refine SO.b3 ?_
      refine SO.b3 ?_
      refine SO.b3 ?_
      refine SO.b3 ?_
      exact hk2.fitc (m := 3) rfl (or_t b6) rfl
    · refine SO.takeT rfl rfl rfl b6 ?_
      refine SO.v rfl (opv_move rfl) ?_
      refine SO.takeT rfl rfl rfl b6 ?_
      refine SO.v rfl (opv_lss rfl rfl) ?_
      refine SO.v rfl (opv_pick_f' b6 rfl rfl) ?_
      refine SO.b3 ?_
      refine SO.b3 ?_
      refine SO.b3 ?_
      refine SO.b3 ?_
      exact hk2.fitc (m := 3) rfl (or_f b6) rfl
  refine SO.v rfl (opv_move rfl) ?_
  obtain ⟨c8, hc9, hgk⟩ := opt_bind h
  refine SO.cut 3 33 (.bool c8) [Box b3 [.bool false], Box b2 [.int .i64 a5], Box b1 [.int .i64 a4], F] (fun l2 hk2 => ?_) ?_
  · clear hgk
    replace h := hc9
    rcases bool_or ((decide (200 < (a0.length : Int))) || (decide (a3 < (-1000)))) with b7 | b7
    · replace h := cond_t b7 h
      refine SO.passF rfl rfl rfl b7 rfl rfl ?_
      refine SO.passF rfl rfl rfl b7 rfl rfl ?_
      cases h
      refine SO.v rfl (opv_pick_t' b7 rfl rfl) ?_
      refine SO.b3 ?_
      refine SO.b3 ?_
      refine SO.b3 ?_
      refine SO.b3 ?_
      exact hk2.fitc (m := 3) rfl (rfl) rfl
    · replace h := cond_f b7 h
      refine SO.takeT rfl rfl rfl b7 ?_
      refine SO.b2 ?_
      refine SO.load1 rfl Try.isAgg3 rfl rfl ?_
      refine SO.takeT rfl rfl rfl b7 ?_
      refine SO.v rfl (opv_gtr rfl rfl) ?_
      cases h
      refine SO.v rfl (opv_pick_f' b7 rfl rfl) ?_
      refine SO.b3 ?_
      refine SO.b1 ?_
      refine SO.b3 ?_
      refine SO.b3 ?_
      exact hk2.fitc (m := 3) rfl (rfl) rfl
  clear hc9
  replace h := hgk
  refine SO.nil ?_
  refine S.to (ρ' := [(0, v0), (1, .int .i64 a1), (2, .int .u64 a2), (3, .int .i64 a3), (10, bp b1 0), (11, bp b2 0), (12, bp b3 0), (13, .bool t4), (33, .bool c8)]) ⟨rfl, rfl, rfl, rfl, rfl, rfl, rfl, rfl, rfl, trivial⟩ ?_
  rcases bool_or c8 with b10 | b10
  · replace h := cond_t b10 h
    refine S.condT rfl b10 ?_
    refine S.seq ?_
    refine S.region ?_
    refine SO.v rfl (opv_move rfl) ?_
    refine SO.store1 Try.sizeOf4 rfl rfl rfl rfl ?_
    refine SO.nil ?_
    refine S.to (ρ' := [(12, bp b3 0)]) ⟨rfl, trivial⟩ ?_
    cases h
    refine S.b1 ?_
    refine S.drop ?_
    refine S.b1 ?_
    refine S.drop ?_
    refine S.b1 ?_
    refine S.b1 ?_
    exact S.retV Try.func3 rfl rfl Try.isAgg4 rfl (fun w hs hk => hR w _ _ ⟨rfl, rfl⟩ hs.drop hk)
  · replace h := cond_f b10 h
    refine S.condF rfl b10 ?_
    refine S.skip ?_
    refine S.seq ?_
    refine S.region ?_
    refine SO.buildSlice0 (ekI .u64) rfl Try.underlying22 Try.sizeOf23 (fun v11 hr12 => ?_)
    refine SO.v rfl (opv_move rfl) ?_
    obtain ⟨zs13, hz14, h⟩ := opt_bind h
    refine SO.append rfl Try.underlying22 Try.underlying22 inf23 rfl rfl rfl (by decide) rfl rfl rfl (Rd.tail (Rd.tail (Rd.tail (Rd.head hF0)))) hz14 (fun v15 => ?_)
    refine SO.rd fun hr16 => ?_
    refine SO.alloc rfl Try.zeroValue22 rfl (fun b17 => ?_)
    refine SO.store1 Try.sizeOf22 rfl rfl (Rd.one hr16) rfl ?_
    refine SO.nil ?_
    refine S.seq ?_
    refine S.region ?_
    refine SO.buildSlice0 (ekI .u64) rfl Try.underlying22 Try.sizeOf23 (fun v18 hr19 => ?_)
    refine SO.v rfl (opv_move rfl) ?_
    obtain ⟨zs20, hz21, h⟩ := opt_bind h
    refine SO.append rfl Try.underlying22 Try.underlying22 inf23 rfl rfl rfl (by decide) rfl rfl rfl (Rd.tail (Rd.tail (Rd.tail (Rd.tail (Rd.tail (Rd.head hF0)))))) hz21 (fun v22 => ?_)
    refine SO.rd fun hr23 => ?_
    refine SO.v rfl (opv_assign rfl) ?_
    refine SO.nil ?_
    refine S.to (ρ' := [(0, v0), (1, .int .i64 a1), (2, .int .u64 a2), (3, .int .i64 a3), (10, bp b1 0), (11, bp b2 0), (12, bp b3 0), (13, .bool t4), (14, bp b17 0), (15, v22)]) ⟨rfl, rfl, rfl, rfl, rfl, rfl, rfl, rfl, rfl, rfl, trivial⟩ ?_
    refine S.seq ?_
    refine S.seq ?_
    refine S.region ?_
    refine SO.v rfl (opv_move rfl) ?_
    refine SO.v rfl (opv_move rfl) ?_
    obtain ⟨t24, ht25, h⟩ := opt_bind h
    refine SO.call (pre := []) rfl Try.call6 rfl rfl rfl (view_Plain_Read.ct v22 _ _ _ ht25) (Rd.head hr23) ?_
    rintro _ _ ⟨rfl, rfl⟩
    refine SO.v rfl (opv_move rfl) ?_
    refine SO.v rfl (opv_move rfl) ?_
    obtain ⟨t26, ht27, h⟩ := opt_bind h
    refine SO.call (pre := []) rfl Try.call7 rfl rfl rfl (law05_at.ct v0 _ _ _ ht27) (Rd.tail (Rd.tail (Rd.tail (Rd.tail (Rd.tail (Rd.tail (Rd.head hF0))))))) ?_
    rintro _ _ ⟨rfl, rfl⟩
    refine SO.v rfl (opv_neq rfl rfl) ?_
    refine SO.nil ?_
    rcases bool_or (t24 != t26) with b28 | b28
    · replace h := cond_t b28 h
      refine S.condT rfl b28 ?_
      refine S.seq ?_
      refine S.region ?_
      refine SO.b3 ?_
      refine SO.store1 Try.sizeOf4 rfl rfl rfl rfl ?_
      refine SO.nil ?_
      refine S.to (ρ' := [(12, bp b3 0)]) ⟨rfl, trivial⟩ ?_
      cases h
      refine S.b1 ?_
      refine S.drop ?_
      refine S.b1 ?_
      refine S.drop ?_
      refine S.b1 ?_
      refine S.drop ?_
      refine S.b1 ?_
      refine S.drop ?_
      refine S.b1 ?_
      refine S.drop ?_
      refine S.b1 ?_
      refine S.b1 ?_
      exact S.retV Try.func3 rfl rfl Try.isAgg4 rfl (fun w hs hk => hR w _ _ ⟨rfl, rfl⟩ hs.drop hk)
    · replace h := cond_f b28 h
      refine S.condF rfl b28 ?_
      refine S.skip ?_
      refine S.seq ?_
      refine S.region ?_
      refine SO.v rfl (opv_move rfl) ?_
      refine SO.v rfl (opv_move rfl) ?_
      refine SO.v rfl (opv_move rfl) ?_
      obtain ⟨q29, ht30, h⟩ := opt_bind h
      refine SO.call (pre := [Own _ _ _ _]) rfl Try.call8 rfl rfl rfl (view_Plain_Write.ct v22 _ _ _ _ ht30) trivial ?_
      rintro _ _ ⟨rfl, rfl⟩
      refine SO.rd fun hr31 => ?_
      refine SO.nil ?_
      refine S.to (ρ' := [(0, v0), (1, .int .i64 a1), (2, .int .u64 a2), (3, .int .i64 a3), (10, bp b1 0), (11, bp b2 0), (12, bp b3 0), (13, .bool t4), (14, bp b17 0), (15, v22)]) ⟨rfl, rfl, rfl, rfl, rfl, rfl, rfl, rfl, rfl, rfl, trivial⟩ ?_
      refine S.seq ?_
      refine S.seq ?_
      refine S.region ?_
      refine SO.v rfl (opv_move rfl) ?_
      refine SO.v rfl (opv_geq rfl rfl) ?_
      refine SO.v rfl (opv_move rfl) ?_
      refine SO.cut 5 59 (.bool ((decide (0 ≤ a1)) && (decide (a1 < (a0.length : Int))))) [Own 23 (ekI .u64) v22 q29, Box b17 [v15], Own 23 (ekI .u64) v15 zs13, Box b3 [.bool false], Box b2 [.int .i64 a5], Box b1 [.int .i64 a4], F] (fun l2 hk2 => ?_) ?_
      · rcases bool_or (decide (0 ≤ a1)) with b32 | b32
        · refine SO.takeT rfl rfl rfl b32 ?_
          refine SO.v rfl (opv_move rfl) ?_
          refine SO.takeT rfl rfl rfl b32 ?_
          refine SO.v rfl (opv_move rfl) ?_
          refine SO.takeT rfl rfl rfl b32 ?_
          refine SO.v rfl (opv_lenR rfl Try.underlying22 hF0 rfl) ?_
          refine SO.takeT rfl rfl rfl b32 ?_
          refine SO.v rfl (opv_lss rfl rfl) ?_
          refine SO.v rfl (opv_pick_t' b32 rfl rfl) ?_
          refine SO.b6 ?_
          refine SO.b6 ?_
          refine SO.b6 ?_
          refine SO.b6 ?_
          refine SO.b6 ?_
          refine SO.b6 ?_
          refine SO.b6 ?_
          exact hk2.fitc (m := 5) rfl (and_t b32) rfl
        · refine SO.passF rfl rfl rfl b32 rfl rfl ?_
          refine SO.passF rfl rfl rfl b32 rfl rfl ?_
          refine SO.passF rfl rfl rfl b32 rfl rfl ?_
          refine SO.passF rfl rfl rfl b32 rfl rfl ?_
          refine SO.v rfl (opv_pick_f' b32 rfl rfl) ?_
          refine SO.b6 ?_
          refine SO.b6 ?_
          refine SO.b6 ?_
          refine SO.b6 ?_
          refine SO.b6 ?_
          refine SO.b6 ?_
          refine SO.b6 ?_
          exact hk2.fitc (m := 5) rfl (and_f b32) rfl
      refine SO.nil ?_
      obtain ⟨qv15_1, hC1, hJ1⟩ := opt_bind h
      clear h
      refine S.cutP (G := Unit) (fun _ => True) (fun _ => [(0, v0), (1, .int .i64 a1), (2, .int .u64 a2), (3, .int .i64 a3), (10, bp b1 0), (11, bp b2 0), (12, bp b3 0), (13, .bool t4), (14, bp b17 0), (15, v22)]) (fun _ => [Own 23 (ekI .u64) v22 q29, Box b17 [v15], Own 23 (ekI .u64) v15 qv15_1, Box b3 [.bool false], Box b2 [.int .i64 a5], Box b1 [.int .i64 a4], F]) (fun hk1 => ?_) ?_
      · replace h := hC1
        rcases bool_or ((decide (0 ≤ a1)) && (decide (a1 < (a0.length : Int)))) with b33 | b33
        · replace h := cond_t b33 h
          refine S.condT rfl b33 ?_
          refine S.region ?_
          refine SO.b1 ?_
          refine SO.load1 rfl Try.isAgg22 rfl rfl ?_
          refine SO.v rfl (opv_move rfl) ?_
          refine SO.v rfl (opv_move rfl) ?_
          obtain ⟨x34, hx35, h⟩ := opt_bind h
          refine SO.v rfl (opv_idx Try.underlying22 Try.sizeOf23 hr16 rfl rfl hx35) ?_
          refine SO.b2 ?_
          refine SO.storeI1 (j := 0) (z' := a2) Try.sizeOf23 hx35 rfl rfl rfl rfl rfl rfl ?_
          refine SO.rd fun hr36 => ?_
          refine SO.nil ?_
          refine S.to (ρ' := [(0, v0), (1, .int .i64 a1), (2, .int .u64 a2), (3, .int .i64 a3), (10, bp b1 0), (11, bp b2 0), (12, bp b3 0), (13, .bool t4), (14, bp b17 0), (15, v22)]) ⟨rfl, rfl, rfl, rfl, rfl, rfl, rfl, rfl, rfl, rfl, trivial⟩ ?_
          cases h
          refine S.b6 ?_
          refine S.b6 ?_
          refine S.b6 ?_
          refine S.b6 ?_
          refine S.b4 ?_
          refine S.b5 ?_
          refine S.b6 ?_
          refine S.to ?_ (hk1 () trivial)
          exact ⟨rfl, rfl, rfl, rfl, rfl, rfl, rfl, rfl, rfl, rfl, trivial⟩
        · replace h := cond_f b33 h
          refine S.condF rfl b33 ?_
          refine S.skip ?_
          cases h
          refine S.b6 ?_
          refine S.b6 ?_
          refine S.b6 ?_
          refine S.b6 ?_
          refine S.b6 ?_
          refine S.b6 ?_
          refine S.b6 ?_
          refine S.to ?_ (hk1 () trivial)
          exact ⟨rfl, rfl, rfl, rfl, rfl, rfl, rfl, rfl, rfl, rfl, trivial⟩
      rintro _ -
      replace h := hJ1
      refine S.b2 ?_
      refine S.rd fun hr37 => ?_
      refine S.seq ?_
      refine S.seq ?_
      refine S.region ?_
      refine SO.v rfl (opv_assign rfl) ?_
      refine SO.nil ?_
      obtain ⟨o2, hl2, h⟩ := opt_bind h
      refine S.b6 ?_
      refine S.b6 ?_
      refine S.b6 ?_
      refine S.b6 ?_
      refine S.b6 ?_
      refine S.b6 ?_
      refine S.b6 ?_
      refine S.to (ρ' := [(16, .int .i64 (-1)), (0, v0), (1, .int .i64 a1), (2, .int .u64 a2), (3, .int .i64 a3), (10, bp b1 0), (11, bp b2 0), (12, bp b3 0), (13, .bool t4), (14, bp b17 0), (15, v22)]) ⟨rfl, rfl, rfl, rfl, rfl, rfl, rfl, rfl, rfl, rfl, rfl, trivial⟩ ?_
      refine S.forloop (X := Int × Unit) (O := Brk Bool Unit) (fun m x => law05_ViewTells.l2 a0 q29 qv15_1 m x.1) (fun x => match x with | (x16_2, _) => [(16, .int .i64 x16_2), (0, v0), (1, .int .i64 a1), (2, .int .u64 a2), (3, .int .i64 a3), (10, bp b1 0), (11, bp b2 0), (12, bp b3 0), (13, .bool t4), (14, bp b17 0), (15, v22)]) (fun x => match x with | (x16_2, _) => [Own 23 (ekI .u64) v15 qv15_1, Own 23 (ekI .u64) v22 q29, Box b17 [v15], Box b3 [.bool false], Box b2 [.int .i64 a5], Box b1 [.int .i64 a4], F]) (fun Sk o' => (∀ r', o' = Brk.ret r' → some r' = some r0) ∧ ∀ _ : Unit, ∀ _ : Unit, o' = Brk.nx () → Sk [(0, v0), (1, .int .i64 a1), (2, .int .u64 a2), (3, .int .i64 a3), (10, bp b1 0), (11, bp b2 0), (12, bp b3 0), (13, .bool t4), (14, bp b17 0), (15, v22)] [Own 23 (ekI .u64) v15 qv15_1, Own 23 (ekI .u64) v22 q29, Box b17 [v15], Box b3 [.bool false], Box b2 [.int .i64 a5], Box b1 [.int .i64 a4], F]) (fun _ => rfl) ?_ (m := k) (x := (-1, ())) hl2 ?_
      · clear h hl2
        intro k x o_2 h hK2 ih2
        obtain ⟨x16_2, _⟩ := x
        replace h : law05_ViewTells.l2 a0 q29 qv15_1 (k + 1) x16_2 = some o_2 := h
        first | rw [law05_ViewTells.l2] at h | unfold law05_ViewTells.l2 at h
        refine S.seq ?_
        refine S.seq ?_
        refine S.region ?_
        refine SO.v rfl (opv_move rfl) ?_
        refine SO.v rfl (opv_move rfl) ?_
        refine SO.v rfl (opv_lenR rfl Try.underlying22 hF0 rfl) ?_
        refine SO.v rfl (opv_leq rfl rfl) ?_
        refine SO.nil ?_
        rcases bool_or (decide (x16_2 ≤ (a0.length : Int))) with b38 | b38
        · replace h := cond_t b38 h
          refine S.condT rfl b38 ?_
          refine S.skip ?_
          refine S.seq ?_
          refine S.block ?_
          refine S.seq ?_
          obtain ⟨t39, ht40, h⟩ := opt_bind h
          obtain ⟨t41, ht42, h⟩ := opt_bind h
          refine S.draw' (Z := fun Q => ∀ (_ : Unit) (_ : Unit) (_ : Unit) (_ : Unit) (_ : Unit) (_ : Unit) (_ : Unit) (_ : Unit) (_ : Unit) (_ : Unit) (_ : Unit) (_ : Unit), Q [(16, .int .i64 x16_2), (0, v0), (1, .int .i64 a1), (2, .int .u64 a2), (3, .int .i64 a3), (10, bp b1 0), (11, bp b2 0), (12, bp b3 0), (13, .bool t4), (14, bp b17 0), (15, v22), (76, .bool (t39 != t41))] [Own 23 (ekI .u64) v15 qv15_1, Own 23 (ekI .u64) v22 q29, Box b17 [v15], Box b3 [.bool false], Box b2 [.int .i64 a5], Box b1 [.int .i64 a4], F]) (T := [tS 15 (v22), tS 16 (.int .i64 x16_2), tS 14 (bp b17 0), tE [(0, v0), (1, .int .i64 a1), (2, .int .u64 a2), (3, .int .i64 a3), (10, bp b1 0), (11, bp b2 0), (12, bp b3 0), (13, .bool t4)], tR (Own 23 (ekI .u64) v15 qv15_1), tR (Own 23 (ekI .u64) v22 q29), tR (Box b17 [v15]), tR (Box b3 [.bool false]), tR (Box b2 [.int .i64 a5]), tR (Box b1 [.int .i64 a4]), tR (F), tS 70 (v22), tS 71 (.int .i64 x16_2), tS 72 (.int .u64 t39), tS 73 (v15), tS 74 (.int .i64 x16_2), tS 75 (.int .u64 t41), tS 76 (.bool (t39 != t41))]) (D := [⟨[0], [], [11]⟩, ⟨[1], [], [12]⟩, ⟨[11, 12, 5], [], [13]⟩, ⟨[2, 6], [], [14]⟩, ⟨[1], [], [15]⟩, ⟨[14, 15, 4], [], [16]⟩, ⟨[13, 16], [], [17]⟩]) (ini := [0, 1, 2, 3, 4, 5, 6, 7, 8, 9, 10]) (fin := [1, 3, 2, 0, 17, 4, 5, 6, 7, 8, 9, 10]) (bf := [[], [], [0, 1], [], [], [0, 1, 2, 3, 4], [0, 1, 2, 3, 4, 5]]) (by kernel_rfl) (by kernel_rfl) (fun x w h1 h2 => (.cons () (.cons () (.cons () (.cons () (.cons () (.cons () (.cons () (.cons () (.cons () (.cons () (.cons () (.nil ⟨EnvAll.of h1 ⟨rfl, rfl, rfl, rfl, rfl, rfl, rfl, rfl, rfl, rfl, rfl, trivial⟩, h2⟩))))))))))))) (fun Q => by kernel_rfl) ⟨?_, ?_, ?_, ?_, ?_, ?_, ?_, trivial⟩ ?_
          · rintro Fr _
            refine SO.v rfl (opv_move rfl) ?_
            exact SO.nilZ fun a w h1 h2 h3 h4 h5 => PZ.of h1 h3 h5 (.cons () (.cons () (.nil ⟨EnvAll.of h2 ⟨rfl, rfl, trivial⟩, h4⟩)))
          · rintro Fr _
            refine SO.v rfl (opv_move rfl) ?_
            exact SO.nilZ fun a w h1 h2 h3 h4 h5 => PZ.of h1 h3 h5 (.cons () (.cons () (.nil ⟨EnvAll.of h2 ⟨rfl, rfl, trivial⟩, h4⟩)))
          · rintro Fr _ _ _
            refine SO.call (pre := []) rfl Try.call6 rfl rfl rfl (view_Plain_Read.ct v22 _ _ _ ht40) (Rd.head hr31) ?_
            rintro _ _ ⟨rfl, rfl⟩
            exact SO.nilZ fun a w h1 h2 h3 h4 h5 => PZ.of h1 h3 h5 (.cons () (.cons () (.cons () (.cons () (.nil ⟨EnvAll.of h2 ⟨rfl, rfl, rfl, trivial⟩, h4⟩)))))
          · rintro Fr _ _
            refine SO.load1 rfl Try.isAgg22 rfl rfl ?_
            exact SO.nilZ fun a w h1 h2 h3 h4 h5 => PZ.of h1 h3 h5 (.cons () (.cons () (.cons () (.nil ⟨EnvAll.of h2 ⟨rfl, rfl, trivial⟩, h4⟩))))
          · rintro Fr _
            refine SO.v rfl (opv_move rfl) ?_
            exact SO.nilZ fun a w h1 h2 h3 h4 h5 => PZ.of h1 h3 h5 (.cons () (.cons () (.nil ⟨EnvAll.of h2 ⟨rfl, rfl, trivial⟩, h4⟩)))
          · rintro Fr _ _ _
            refine SO.call (pre := []) rfl Try.call7 rfl rfl rfl (law05_at.ct v15 _ _ _ ht42) (Rd.head hr37) ?_
            rintro _ _ ⟨rfl, rfl⟩
            exact SO.nilZ fun a w h1 h2 h3 h4 h5 => PZ.of h1 h3 h5 (.cons () (.cons () (.cons () (.cons () (.nil ⟨EnvAll.of h2 ⟨rfl, rfl, rfl, trivial⟩, h4⟩)))))
          · rintro Fr _ _
            refine SO.v rfl (opv_neq rfl rfl) ?_
            exact SO.nilZ fun a w h1 h2 h3 h4 h5 => PZ.of h1 h3 h5 (.cons () (.cons () (.cons () (.nil ⟨EnvAll.of h2 ⟨rfl, rfl, rfl, trivial⟩, h4⟩))))
          rintro _ _ _ _ _ _ _ _ _ _ _ _
          refine S.to (ρ' := [(16, .int .i64 x16_2), (0, v0), (1, .int .i64 a1), (2, .int .u64 a2), (3, .int .i64 a3), (10, bp b1 0), (11, bp b2 0), (12, bp b3 0), (13, .bool t4), (14, bp b17 0), (15, v22), (76, .bool (t39 != t41))]) ⟨rfl, rfl, rfl, rfl, rfl, rfl, rfl, rfl, rfl, rfl, rfl, rfl, trivial⟩ ?_
          rcases bool_or (t39 != t41) with b43 | b43
          · replace h := cond_t b43 h
            refine S.condT rfl b43 ?_
            refine S.seq ?_
            refine S.region ?_
            refine SO.b3 ?_
            refine SO.store1 Try.sizeOf4 rfl rfl rfl rfl ?_
            refine SO.nil ?_
            refine S.to (ρ' := [(12, bp b3 0)]) ⟨rfl, trivial⟩ ?_
            cases h
            replace h := hK2.1 _ rfl
            cases h
            refine S.b1 ?_
            refine S.drop ?_
            refine S.b1 ?_
            refine S.drop ?_
            refine S.b1 ?_
            refine S.drop ?_
            refine S.b1 ?_
            refine S.drop ?_
            refine S.b1 ?_
            refine S.drop ?_
            refine S.b1 ?_
            refine S.b1 ?_
            exact S.retV Try.func3 rfl rfl Try.isAgg4 rfl (fun w hs hk => hR w _ _ ⟨rfl, rfl⟩ hs.drop hk)
          · replace h := cond_f b43 h
            refine S.condF rfl b43 ?_
            refine S.skip ?_
            refine S.inBlock ?_
            refine S.region ?_
            refine SO.v rfl (opv_move rfl) ?_
            refine SO.v rfl (opv_add rfl rfl) ?_
            refine SO.v rfl (opv_assign rfl) ?_
            refine SO.nil ?_
            refine S.b6 ?_
            refine S.b6 ?_
            refine S.b6 ?_
            refine S.b6 ?_
            refine S.b6 ?_
            refine S.b6 ?_
            refine S.b6 ?_
            refine S.to ?_ (ih2 (w64 (x16_2 + 1), ()) h)
            exact ⟨rfl, rfl, rfl, rfl, rfl, rfl, rfl, rfl, rfl, rfl, rfl, trivial⟩
        · replace h := cond_f b38 h
          refine S.condF rfl b38 ?_
          refine S.exit rfl ?_
          cases h
          refine S.b6 ?_
          refine S.b6 ?_
          refine S.b6 ?_
          refine S.b6 ?_
          refine S.b6 ?_
          refine S.b6 ?_
          refine S.b6 ?_
          refine S.to ?_ (hK2.2 () () rfl)
          exact ⟨rfl, rfl, rfl, rfl, rfl, rfl, rfl, rfl, rfl, rfl, trivial⟩
      refine ⟨fun r' e' => ?_, ?_⟩
      · subst e'
        have h9 := Brk.of_ret h
        exact h9
      rintro _ _ e'
      subst e'
      replace h := Brk.of_nx h
      refine S.seq ?_
      refine S.region ?_
      refine SO.v rfl (opv_move rfl) ?_
      refine SO.alloc rfl Try.zeroValue3 rfl (fun b44 => ?_)
      refine SO.store1 Try.sizeOf3 rfl rfl rfl rfl ?_
      refine SO.nil ?_
      refine S.seq ?_
      refine S.region ?_
      refine SO.v rfl (opv_move rfl) ?_
      refine SO.v rfl (opv_iface Try.underlying25 rfl rfl) ?_
      refine SO.v rfl (opv_move rfl) ?_
      refine SO.b6 ?_
      refine SO.load1 rfl Try.isAgg3 rfl rfl ?_
      refine SO.call (pre := []) rfl Try.call9 rfl rfl rfl (range_ct ((plainV v22).val) a3 a4 rfl) trivial ?_
      rintro _ _ ⟨b45, b46, b47, rfl, rfl⟩
      refine SO.v rfl (opv_assign rfl) ?_
      refine SO.nil ?_
      refine S.to (ρ' := [(0, v0), (1, .int .i64 a1), (2, .int .u64 a2), (3, .int .i64 a3), (10, bp b1 0), (11, bp b2 0), (12, bp b3 0), (13, .bool t4), (14, bp b17 0), (17, bp b44 0), (18, .func (.func 12) #[] #[bp b46 0, bp b47 0, bp b45 0])]) ⟨rfl, rfl, rfl, rfl, rfl, rfl, rfl, rfl, rfl, rfl, rfl, trivial⟩ ?_
      refine S.seq ?_
      refine S.seq ?_
      refine S.region ?_
      refine SO.v rfl (opv_move rfl) ?_
      refine SO.v rfl (opv_eqlFN Try.underlying30 rfl rfl) ?_
      refine SO.nil ?_
      refine S.cond_false rfl ?_
      refine S.skip ?_
      refine S.seq ?_
      refine S.seq ?_
      refine S.region ?_
      refine SO.v rfl (opv_move rfl) ?_
      refine SO.nil ?_
      obtain ⟨_, hc77, h⟩ := opt_bind h
      have hlo9 : -9223372036854775808 ≤ a3 := by have q := chk_some hc77; simp only [Bool.and_eq_true, decide_eq_true_eq] at q; exact q.1
      have hhi9 : a4 ≤ 9223372036854775807 := by have q := chk_some hc77; simp only [Bool.and_eq_true, decide_eq_true_eq] at q; exact q.2
      refine S.b10 ?_
      refine S.b7 ?_
      refine S.b7 ?_
      refine S.b8 ?_
      refine S.b10 ?_
      refine S.b8 ?_
      refine S.b10 ?_
      refine S.b9 ?_
      refine S.b9 ?_
      refine S.b9 ?_
      refine S.b10 ?_
      refine S.cutPM (G := Int) (fun nx9 => vtl qv15_1 q29 a5 (a4 - a3).toNat a3 = Brk.nx nx9) (fun nx9 => [(0, v0), (1, .int .i64 a1), (2, .int .u64 a2), (3, .int .i64 a3), (10, bp b1 0), (11, bp b2 0), (12, bp b3 0), (13, .bool t4), (14, bp b17 0), (17, bp b44 0)]) (fun nx9 => [Box b44 [.int .i64 nx9], Box b46 [.int .i64 a3], Box b47 [.int .i64 a4], Box b45 [(plainV v22).val], Box b3 [.bool false], Box b1 [.int .i64 a4], Box b2 [.int .i64 a5], Box b17 [v15], Own 23 (ekI .u64) v15 qv15_1, Own 23 (ekI .u64) v22 q29, F]) (fun hk9 => ?_) ?_
      · refine S.block ?_
        refine S.rangeFunc (gf := 12) (caps := [bp b46 0, bp b47 0, bp b45 0]) rfl rfl Try.call12 ?_
        intro L D tmps ht hE r hr w hs hk
        have hr2 : ({ r with state := .ready, pending := none } : Loop) = r := by subst hr; rfl
        have hrs : r.state = .ready := by subst hr; rfl
        have J0 : Sat w (([Blk L (.loop r), Pure (vreach qv15_1 q29 a5 a3 0), Box b44 [.int .i64 (a3 + (0 : Nat))], Box b3 [.bool false], Box b1 [.int .i64 a4], Box b2 [.int .i64 a5], Box b17 [v15], Own 23 (ekI .u64) v15 qv15_1, Own 23 (ekI .u64) v22 q29, F] ++ [Box b46 [.int .i64 a3], Box b47 [.int .i64 a4], Box b45 [(plainV v22).val]]) ++ [Blk D (.deferred (some []))]) := by
          have q1 := hs.addPure (φ := vreach qv15_1 q29 a5 a3 0) (fun q hq => by omega)
          rw [show (a3 + ((0 : Nat) : Int)) = a3 by simp]
          exact q1.perm (permIdx [1, 0, 3, 7, 8, 9, 10, 11, 12, 13, 4, 5, 6, 2] (by kernel_rfl) (by kernel_rfl))
        have hct := range1_ct L b46 b47 b45 a3 a4 v22 q29 (fun j => [Blk L (.loop r), Pure (vreach qv15_1 q29 a5 a3 j), Box b44 [.int .i64 (a3 + j)], Box b3 [.bool false], Box b1 [.int .i64 a4], Box b2 [.int .i64 a5], Box b17 [v15], Own 23 (ekI .u64) v15 qv15_1, Own 23 (ekI .u64) v22 q29, F])
          (fun j => if rd_ q29 (a3 + (j : Int) - 1) = rd_ qv15_1 (a3 + (j : Int) - 1) then [Blk L (.loop { r with state := .done, pending := some (.exit 2) }), Pure (vreach qv15_1 q29 a5 a3 (j - 1) ∧ a3 + (j : Int) - 1 = a5), Box b44 [.int .i64 (a3 + j)], Box b3 [.bool false], Box b1 [.int .i64 a4], Box b2 [.int .i64 a5], Box b17 [v15], Own 23 (ekI .u64) v15 qv15_1, Own 23 (ekI .u64) v22 q29, F]
            else [Blk L (.loop { r with state := .done, pending := some .ret }), Pure (vreach qv15_1 q29 a5 a3 (j - 1)), Box b44 [.int .i64 (a3 + (j - 1 : Nat))], Box b3 [.bool false], Box b1 [.int .i64 a4], Box b2 [.int .i64 a5], Box b17 [v15], Own 23 (ekI .u64) v15 qv15_1, Own 23 (ekI .u64) v22 q29, F])
          hlo9 hhi9 (fun j A => by exact Rd.tail (Rd.tail (Rd.tail (Rd.tail (Rd.tail (Rd.tail (Rd.tail (Rd.tail (Rd.head hr31))))))))) ?_
        · refine (hct w _ trivial J0).mono ?_
          rintro e w' ⟨v, H', rfl, ⟨rfl, hH⟩, hs', hk'⟩
          rcases hH with rfl | ⟨j, hj1, hj2, rfl⟩
          · refine ⟨_, .ready, none, [Pure (vreach qv15_1 q29 a5 a3 (a4 - a3).toNat), Blk D (.deferred (some [])), Box b44 [.int .i64 (a3 + (a4 - a3).toNat)], Box b46 [.int .i64 a3], Box b47 [.int .i64 a4], Box b45 [(plainV v22).val], Box b3 [.bool false], Box b1 [.int .i64 a4], Box b2 [.int .i64 a5], Box b17 [v15], Own 23 (ekI .u64) v15 qv15_1, Own 23 (ekI .u64) v22 q29, F], rfl, by decide, ?_, hk.trans hk', ?_⟩
            · rw [hr2]
              exact hs'.perm (permIdx [0, 1, 13, 2, 10, 11, 12, 3, 4, 5, 6, 7, 8, 9] (by kernel_rfl) (by kernel_rfl))
            · refine S.pure fun hre => ?_
              refine S.inBlock ?_
              refine S.to ?_ (hk9 D _ (vtl_end _ _ _ _ _ hre))
              exact ⟨rfl, rfl, rfl, rfl, rfl, rfl, rfl, rfl, rfl, rfl, trivial⟩
          · by_cases he : rd_ q29 (a3 + (j : Int) - 1) = rd_ qv15_1 (a3 + (j : Int) - 1)
            · simp only [if_pos he] at hs'
              refine ⟨_, .done, some (.exit 2), [Pure (vreach qv15_1 q29 a5 a3 (j - 1) ∧ a3 + (j : Int) - 1 = a5), Blk D (.deferred (some [])), Box b44 [.int .i64 (a3 + j)], Box b46 [.int .i64 a3], Box b47 [.int .i64 a4], Box b45 [(plainV v22).val], Box b3 [.bool false], Box b1 [.int .i64 a4], Box b2 [.int .i64 a5], Box b17 [v15], Own 23 (ekI .u64) v15 qv15_1, Own 23 (ekI .u64) v22 q29, F], rfl, by decide, ?_, hk.trans hk', ?_⟩
              · exact hs'.perm (permIdx [0, 1, 13, 2, 10, 11, 12, 3, 4, 5, 6, 7, 8, 9] (by kernel_rfl) (by kernel_rfl))
              · refine S.pure fun hre => ?_
                refine S.exit rfl ?_
                have ej : (a3 + ((j - 1 : Nat) : Int)) = a3 + (j : Int) - 1 := by omega
                refine S.to ?_ (hk9 D _ (by
                  have := vtl_brk qv15_1 q29 a5 (a4 - a3).toNat (j - 1) a3 hre.1 (by omega) (by rw [ej]; exact he) (by rw [ej]; exact hre.2)
                  rw [show j - 1 + 1 = j by omega] at this
                  exact this))
                exact ⟨rfl, rfl, rfl, rfl, rfl, rfl, rfl, rfl, rfl, rfl, trivial⟩
            · simp only [if_neg he] at hs'
              refine ⟨_, .done, some .ret, [Pure (vreach qv15_1 q29 a5 a3 (j - 1)), Blk D (.deferred (some [])), Box b3 [.bool false], Box b44 [.int .i64 (a3 + (j - 1 : Nat))], Box b46 [.int .i64 a3], Box b47 [.int .i64 a4], Box b45 [(plainV v22).val], Box b1 [.int .i64 a4], Box b2 [.int .i64 a5], Box b17 [v15], Own 23 (ekI .u64) v15 qv15_1, Own 23 (ekI .u64) v22 q29, F], rfl, by decide, ?_, hk.trans hk', ?_⟩
              · exact hs'.perm (permIdx [0, 1, 13, 3, 2, 10, 11, 12, 4, 5, 6, 7, 8, 9] (by kernel_rfl) (by kernel_rfl))
              · refine S.pure fun hre => ?_
                have ej : (a3 + ((j - 1 : Nat) : Int)) = a3 + (j : Int) - 1 := by omega
                rw [vtl_ret qv15_1 q29 a5 (a4 - a3).toNat (j - 1) a3 hre (by omega) (by rw [ej]; exact he)] at h
                cases Brk.of_ret h
                refine S.retVM Try.func3 rfl rfl Try.isAgg4 rfl (fun w hs hk => hR w _ [] ⟨rfl, rfl⟩ ?_ hk) rfl
                exact hs.drop.drop.drop.drop.drop.drop.drop.drop.drop.drop
        · intro j hj
          refine YCt.intro (n := 164) (ρ0 := [(87, .int .u64 (rd_ q29 (a3 + j))), (86, .int .i64 (a3 + j)), (17, bp b44 0), (14, bp b17 0), (12, bp b3 0), (11, bp b2 0), (10, bp b1 0)]) (by subst hr; rfl) hrs (by subst hr; exact ht) ?_ ?_ ?_
          · subst hr
            rw [show (#[86, 87] : Array Tmp) = [86, 87].toArray from rfl, fold_zip]
            exact (((hE.fit (.of ⟨rfl, rfl, rfl, rfl, rfl, trivial⟩) : EnvOk tmps [(17, bp b44 0), (14, bp b17 0), (12, bp b3 0), (11, bp b2 0), (10, bp b1 0)]).put _ (by omega)).put _ (by rw [Array.size_setIfInBounds]; omega))
          · subst hr
            rw [show (#[86, 87] : Array Tmp) = [86, 87].toArray from rfl, fold_zip]
            simp [ht]
          · intro R' wb F' hR'
            clear hk9 h
            subst hr
            dsimp only
            have ej : a3 + ((j + 1 : Nat) : Int) - 1 = a3 + j := by omega
            have hb0 : (a3 + (j : Int) != a3 + (j : Int)) = false := bne_self_eq_false _
            repeat refine S.seq ?_
            refine S.region ?_
            refine SO.v rfl (opv_assign rfl) ?_
            refine SO.nil ?_
            refine S.region ?_
            refine SO.v rfl (opv_assign rfl) ?_
            refine SO.nil ?_
            refine S.beginRound rfl ?_
            refine S.b1 ?_
            refine S.pure fun hre => ?_
            refine S.block ?_
            repeat refine S.seq ?_
            refine S.region ?_
            refine SO.v rfl (opv_move rfl) ?_
            refine SO.b1 ?_
            refine SO.load1 rfl Try.isAgg3 rfl rfl ?_
            refine SO.v rfl (opv_neq rfl rfl) ?_
            refine SO.v rfl (opv_move rfl) ?_
            refine SO.takeT rfl rfl rfl hb0 ?_
            refine SO.v rfl (opv_move rfl) ?_
            refine SO.takeT rfl rfl rfl hb0 ?_
            refine SO.b5 ?_
            refine SO.load1 rfl Try.isAgg22 rfl rfl ?_
            refine SO.takeT rfl rfl rfl hb0 ?_
            refine SO.v rfl (opv_move rfl) ?_
            refine SO.takeT rfl rfl rfl hb0 ?_
            refine SO.call (pre := []) rfl Try.call7 rfl rfl rfl (law05_at.ct _ _ _ _ (lat_ok0 qv15_1 (a3 + j))) (Rd.tail (Rd.tail (Rd.tail (Rd.tail (Rd.tail (Rd.tail (Rd.head hr37))))))) ?_
            rintro _ _ ⟨rfl, rfl⟩
            refine SO.takeT rfl rfl rfl hb0 ?_
            refine SO.v rfl (opv_neq rfl rfl) ?_
            refine SO.v rfl (opv_pick_f' hb0 rfl rfl) ?_
            refine SO.v rfl (opv_move rfl) ?_
            rcases bool_or (rd_ q29 (a3 + j) != rd_ qv15_1 (a3 + j)) with hb1 | hb1
            · have he : ¬ rd_ q29 (a3 + j) = rd_ qv15_1 (a3 + j) := by simpa using hb1
              refine SO.passF rfl rfl rfl hb1 rfl rfl ?_
              refine SO.passF rfl rfl rfl hb1 rfl rfl ?_
              refine SO.passF rfl rfl rfl hb1 rfl rfl ?_
              refine SO.v rfl (opv_pick_t' hb1 rfl rfl) ?_
              refine SO.nil ?_
              refine S.cond_true rfl ?_
              repeat refine S.seq ?_
              refine S.region ?_
              refine SO.b3 ?_
              refine SO.store1 Try.sizeOf4 rfl rfl rfl rfl ?_
              refine SO.nil ?_
              refine S.b3 ?_
              refine S.roundRet (fun w hs hk => hR' w false _ (.inr ⟨rfl, rfl⟩) ?_ hk)
              dsimp only
              rw [if_neg (by rw [ej]; exact he)]
              exact (hs.addPure hre).perm (permIdx [1, 0, 4, 2, 5, 6, 3, 7, 8, 9, 10] (by kernel_rfl) (by kernel_rfl))
            · have he : rd_ q29 (a3 + j) = rd_ qv15_1 (a3 + j) := by simpa using hb1
              have hb2 : decide (a4 ≤ a3 + (j : Int)) = false := decide_eq_false (by omega)
              refine SO.takeT rfl rfl rfl hb1 ?_
              refine SO.v rfl (opv_move rfl) ?_
              refine SO.takeT rfl rfl rfl hb1 ?_
              refine SO.b4 ?_
              refine SO.load1 rfl Try.isAgg3 rfl rfl ?_
              refine SO.takeT rfl rfl rfl hb1 ?_
              refine SO.v rfl (opv_geq rfl rfl) ?_
              refine SO.v rfl (opv_pick_f' hb1 rfl rfl) ?_
              refine SO.nil ?_
              refine S.condF rfl hb2 ?_
              refine S.skip ?_
              repeat refine S.seq ?_
              refine S.region ?_
              refine SO.b2 ?_
              refine SO.load1 rfl Try.isAgg3 rfl rfl ?_
              refine SO.v rfl (opv_add rfl rfl) ?_
              refine SO.store1 Try.sizeOf3 rfl rfl rfl rfl ?_
              refine SO.nil ?_
              repeat refine S.seq ?_
              refine S.region ?_
              refine SO.v rfl (opv_move rfl) ?_
              refine SO.b5 ?_
              refine SO.load1 rfl Try.isAgg3 rfl rfl ?_
              refine SO.v rfl (opv_eql rfl rfl) ?_
              refine SO.nil ?_
              refine S.b4 ?_
              have ew : IntKind.wrap .i64 (a3 + (j : Int) + 1) = a3 + ((j + 1 : Nat) : Int) := by
                have : w64 (a3 + (j : Int) + 1) = a3 + j + 1 := w64_id (by omega) (by omega)
                exact this.trans (by omega)
              rcases bool_or (a3 + (j : Int) == a5) with hb3 | hb3
              · have hst : a3 + (j : Int) = a5 := by simpa using hb3
                refine S.condT rfl hb3 ?_
                refine S.roundExit rfl (fun w hs hk => hR' w false _ (.inr ⟨rfl, rfl⟩) ?_ hk)
                dsimp only
                rw [if_pos (by rw [ej]; exact he)]
                rw [show ([.int .i64 (a3 + (j : Int))] : List Value).set 0 (.int .i64 (IntKind.wrap .i64 (a3 + (j : Int) + 1))) = [.int .i64 (a3 + ((j + 1 : Nat) : Int))] by rw [ew]; rfl] at hs
                exact (hs.addPure (⟨hre, ej.trans hst⟩ : vreach qv15_1 q29 a5 a3 j ∧ a3 + ((j + 1 : Nat) : Int) - 1 = a5)).perm (permIdx [1, 0, 3, 6, 4, 2, 5, 7, 8, 9, 10] (by kernel_rfl) (by kernel_rfl))
              · have hst : ¬ a3 + (j : Int) = a5 := by simpa using hb3
                refine S.condF rfl hb3 ?_
                refine S.skip ?_
                refine S.inBlock ?_
                refine S.roundEnd (fun w hs hk => hR' w true _ (.inl ⟨rfl, rfl⟩) ?_ hk)
                rw [show ([.int .i64 (a3 + (j : Int))] : List Value).set 0 (.int .i64 (IntKind.wrap .i64 (a3 + (j : Int) + 1))) = [.int .i64 (a3 + ((j + 1 : Nat) : Int))] by rw [ew]; rfl] at hs
                have hre2 : vreach qv15_1 q29 a5 a3 (j + 1) := fun q hq => by
                  rcases (by omega : q < j ∨ q = j) with z | rfl
                  · exact hre q z
                  · exact ⟨he, hst⟩
                exact (hs.addPure hre2).perm (permIdx [1, 0, 3, 6, 4, 2, 5, 7, 8, 9, 10] (by kernel_rfl) (by kernel_rfl))
      rintro D9 nx9 hq9
      rw [hq9] at h
      replace h := Brk.of_nx h
      refine S.seq ?_
      refine S.seq ?_
      refine S.region ?_
      refine SO.b1 ?_
      refine SO.load1 rfl Try.isAgg3 rfl rfl ?_
      refine SO.b6 ?_
      refine SO.load1 rfl Try.isAgg3 rfl rfl ?_
      refine SO.v rfl (opv_lss rfl rfl) ?_
      refine SO.v rfl (opv_move rfl) ?_
      obtain ⟨c49, hc50, hgk⟩ := opt_bind h
      refine SO.cut 9 120 (.bool c49) [Box b1 [.int .i64 a4], Box b44 [.int .i64 nx9], Blk D9 (.deferred (some [])), Box b46 [.int .i64 a3], Box b47 [.int .i64 a4], Box b45 [(plainV v22).val], Box b3 [.bool false], Box b2 [.int .i64 a5], Box b17 [v15], Own 23 (ekI .u64) v15 qv15_1, Own 23 (ekI .u64) v22 q29, F] (fun l2 hk2 => ?_) ?_
      · clear hgk
        replace h := hc50
        rcases bool_or (decide (nx9 < a4)) with b48 | b48
        · replace h := cond_t b48 h
          refine SO.takeT rfl rfl rfl b48 ?_
          refine SO.b7 ?_
          refine SO.load1 rfl Try.isAgg3 rfl rfl ?_
          refine SO.takeT rfl rfl rfl b48 ?_
          refine SO.v rfl (opv_move rfl) ?_
          refine SO.takeT rfl rfl rfl b48 ?_
          refine SO.v rfl (opv_lss rfl rfl) ?_
          refine SO.takeT rfl rfl rfl b48 ?_
          refine SO.v rfl (opv_move rfl) ?_
          obtain ⟨c52, hc53, hgk⟩ := opt_bind h
          refine SO.cut 4 119 (.bool c52) [Box b2 [.int .i64 a5], Box b1 [.int .i64 a4], Box b44 [.int .i64 nx9], Blk D9 (.deferred (some [])), Box b46 [.int .i64 a3], Box b47 [.int .i64 a4], Box b45 [(plainV v22).val], Box b3 [.bool false], Box b17 [v15], Own 23 (ekI .u64) v15 qv15_1, Own 23 (ekI .u64) v22 q29, F] (fun l2 hk2 => ?_) ?_
          · clear hgk
            replace h := hc53
            rcases bool_or (decide (a5 < a3)) with b51 | b51
            · replace h := cond_t b51 h
              refine SO.passF rfl rfl rfl b51 rfl rfl ?_
              refine SO.passF rfl rfl rfl b51 rfl rfl ?_
              refine SO.passF rfl rfl rfl b51 rfl rfl ?_
              cases h
              refine SO.takeT rfl rfl rfl b48 ?_
              refine SO.v rfl (opv_pick_t' b51 rfl rfl) ?_
              refine SO.b11 ?_
              refine SO.b11 ?_
              refine SO.b11 ?_
              refine SO.b11 ?_
              refine SO.b11 ?_
              refine SO.b11 ?_
              refine SO.b11 ?_
              refine SO.b11 ?_
              refine SO.b11 ?_
              refine SO.b11 ?_
              refine SO.b11 ?_
              refine SO.b11 ?_
              exact hk2.fitc (m := 4) rfl (rfl) rfl
            · replace h := cond_f b51 h
              refine SO.takeT rfl rfl rfl b51 ?_
              refine SO.load1 rfl Try.isAgg3 rfl rfl ?_
              refine SO.takeT rfl rfl rfl b51 ?_
              refine SO.b1 ?_
              refine SO.load1 rfl Try.isAgg3 rfl rfl ?_
              refine SO.takeT rfl rfl rfl b51 ?_
              refine SO.v rfl (opv_geq rfl rfl) ?_
              cases h
              refine SO.takeT rfl rfl rfl b48 ?_
              refine SO.v rfl (opv_pick_f' b51 rfl rfl) ?_
              refine SO.b11 ?_
              refine SO.b11 ?_
              refine SO.b11 ?_
              refine SO.b11 ?_
              refine SO.b11 ?_
              refine SO.b11 ?_
              refine SO.b11 ?_
              refine SO.b11 ?_
              refine SO.b11 ?_
              refine SO.b11 ?_
              refine SO.b10 ?_
              refine SO.b11 ?_
              exact hk2.fitc (m := 4) rfl (rfl) rfl
          clear hc53
          replace h := hgk
          cases h
          refine SO.v rfl (opv_pick_t' b48 rfl rfl) ?_
          refine SO.b11 ?_
          refine SO.b11 ?_
          refine SO.b11 ?_
          refine SO.b11 ?_
          refine SO.b4 ?_
          refine SO.b11 ?_
          refine SO.b11 ?_
          refine SO.b11 ?_
          refine SO.b11 ?_
          refine SO.b11 ?_
          refine SO.b11 ?_
          refine SO.b11 ?_
          exact hk2.fitc (m := 6) rfl (rfl) rfl
        · replace h := cond_f b48 h
          refine SO.passF rfl rfl rfl b48 rfl rfl ?_
          refine SO.passF rfl rfl rfl b48 rfl rfl ?_
          refine SO.passF rfl rfl rfl b48 rfl rfl ?_
          refine SO.passF rfl rfl rfl b48 rfl rfl ?_
          refine SO.pass_undef rfl rfl rfl rfl ?_
          refine SO.pass_undef rfl rfl rfl rfl ?_
          refine SO.pass_undef rfl rfl rfl rfl ?_
          refine SO.passF rfl rfl rfl b48 rfl rfl ?_
          cases h
          refine SO.v rfl (opv_pick_f' b48 rfl rfl) ?_
          refine SO.b11 ?_
          refine SO.b11 ?_
          refine SO.b11 ?_
          refine SO.b11 ?_
          refine SO.b11 ?_
          refine SO.b11 ?_
          refine SO.b11 ?_
          refine SO.b11 ?_
          refine SO.b11 ?_
          refine SO.b11 ?_
          refine SO.b11 ?_
          refine SO.b11 ?_
          exact hk2.fitc (m := 9) rfl (rfl) rfl
      clear hc50
      replace h := hgk
      refine SO.v rfl (opv_move rfl) ?_
      refine SO.cut 4 125 (.bool (c49 && (decide (a3 < a4)))) [Box b1 [.int .i64 a4], Box b44 [.int .i64 nx9], Blk D9 (.deferred (some [])), Box b46 [.int .i64 a3], Box b47 [.int .i64 a4], Box b45 [(plainV v22).val], Box b3 [.bool false], Box b2 [.int .i64 a5], Box b17 [v15], Own 23 (ekI .u64) v15 qv15_1, Own 23 (ekI .u64) v22 q29, F] (fun l2 hk2 => ?_) ?_
      · rcases bool_or c49 with b54 | b54
        · refine SO.takeT rfl rfl rfl b54 ?_
          refine SO.v rfl (opv_move rfl) ?_
          refine SO.takeT rfl rfl rfl b54 ?_
          refine SO.load1 rfl Try.isAgg3 rfl rfl ?_
          refine SO.takeT rfl rfl rfl b54 ?_
          refine SO.v rfl (opv_lss rfl rfl) ?_
          refine SO.v rfl (opv_pick_t' b54 rfl rfl) ?_
          refine SO.b11 ?_
          refine SO.b11 ?_
          refine SO.b11 ?_
          refine SO.b11 ?_
          refine SO.b11 ?_
          refine SO.b11 ?_
          refine SO.b11 ?_
          refine SO.b11 ?_
          refine SO.b11 ?_
          refine SO.b11 ?_
          refine SO.b11 ?_
          refine SO.b11 ?_
          exact hk2.fitc (m := 4) rfl (and_t b54) rfl
        · refine SO.passF rfl rfl rfl b54 rfl rfl ?_
          refine SO.passF rfl rfl rfl b54 rfl rfl ?_
          refine SO.passF rfl rfl rfl b54 rfl rfl ?_
          refine SO.v rfl (opv_pick_f' b54 rfl rfl) ?_
          refine SO.b11 ?_
          refine SO.b11 ?_
          refine SO.b11 ?_
          refine SO.b11 ?_
          refine SO.b11 ?_
          refine SO.b11 ?_
          refine SO.b11 ?_
          refine SO.b11 ?_
          refine SO.b11 ?_
          refine SO.b11 ?_
          refine SO.b11 ?_
          refine SO.b11 ?_
          exact hk2.fitc (m := 4) rfl (and_f b54) rfl
      refine SO.nil ?_
      refine S.to (ρ' := [(0, v0), (1, .int .i64 a1), (2, .int .u64 a2), (12, bp b3 0), (13, .bool t4), (14, bp b17 0), (125, .bool (c49 && (decide (a3 < a4))))]) ⟨rfl, rfl, rfl, rfl, rfl, rfl, rfl, trivial⟩ ?_
      rcases bool_or (c49 && (decide (a3 < a4))) with b55 | b55
      · replace h := cond_t b55 h
        refine S.condT rfl b55 ?_
        refine S.seq ?_
        refine S.region ?_
        refine SO.b6 ?_
        refine SO.store1 Try.sizeOf4 rfl rfl rfl rfl ?_
        refine SO.nil ?_
        cases h
        refine S.b1 ?_
        refine S.drop ?_
        refine S.b1 ?_
        refine S.drop ?_
        refine S.b2 ?_
        refine S.drop ?_
        refine S.b2 ?_
        refine S.drop ?_
        refine S.b2 ?_
        refine S.drop ?_
        refine S.b2 ?_
        refine S.drop ?_
        refine S.b2 ?_
        refine S.drop ?_
        refine S.b2 ?_
        refine S.drop ?_
        refine S.b2 ?_
        refine S.drop ?_
        refine S.b2 ?_
        refine S.b1 ?_
        refine S.b2 ?_
        exact S.retVM Try.func3 rfl rfl Try.isAgg4 rfl (fun w hs hk => hR w _ _ ⟨rfl, rfl⟩ hs.drop hk)
      · replace h := cond_f b55 h
        refine S.condF rfl b55 ?_
        refine S.skip ?_
        refine S.seq ?_
        refine S.region ?_
        refine SO.v rfl (opv_move rfl) ?_
        refine SO.b8 ?_
        refine SO.load1 rfl Try.isAgg22 rfl rfl ?_
        obtain ⟨t56, ht57, h⟩ := opt_bind h
        refine SO.call (pre := []) rfl Try.call10 rfl rfl rfl (view_Changed.ct v0 v15 _ _ _ ht57) ⟨(Rd.tail (Rd.tail (Rd.tail (Rd.tail (Rd.tail (Rd.tail (Rd.tail (Rd.tail (Rd.tail (Rd.tail (Rd.tail (Rd.head hF0)))))))))))), (Rd.tail (Rd.tail (Rd.tail (Rd.tail (Rd.tail (Rd.tail (Rd.tail (Rd.tail (Rd.tail (Rd.head hr37))))))))))⟩ ?_
        rintro v58 _ ⟨_, rfl, rfl⟩
        refine SO.rd fun hr59 => ?_
        refine SO.v rfl (opv_assign rfl) ?_
        refine SO.nil ?_
        refine S.seq ?_
        refine S.seq ?_
        obtain ⟨t60, ht61, h⟩ := opt_bind h
        obtain ⟨t62, ht63, h⟩ := opt_bind h
        refine S.draw' (Z := fun Q => ∀ (_ : Unit) (_ : Unit) (_ : Unit) (_ : Unit) (_ : Unit) (_ : Unit) (_ : Unit) (_ : Unit) (_ : Unit) (_ : Unit) (_ : Unit) (_ : Unit) (_ : Unit) (_ : Unit) (_ : Unit) (_ : Unit), Q [(1, .int .i64 a1), (21, v58), (2, .int .u64 a2), (12, bp b3 0), (13, .bool t4), (135, .bool (t60 == t62))] [Own 35 ek_view_Pair_uint64 v58 t56, Box b17 [v15], Box b1 [.int .i64 a4], Box b44 [.int .i64 nx9], Blk D9 (.deferred (some [])), Box b46 [.int .i64 a3], Box b47 [.int .i64 a4], Box b45 [(plainV v22).val], Box b3 [.bool false], Box b2 [.int .i64 a5], Own 23 (ekI .u64) v15 qv15_1, Own 23 (ekI .u64) v22 q29, F]) (T := [tS 0 (v0), tS 1 (.int .i64 a1), tS 14 (bp b17 0), tE [(21, v58), (2, .int .u64 a2), (12, bp b3 0), (13, .bool t4)], tR (Own 35 ek_view_Pair_uint64 v58 t56), tR (Box b17 [v15]), tR (Box b1 [.int .i64 a4]), tR (Box b44 [.int .i64 nx9]), tR (Blk D9 (.deferred (some []))), tR (Box b46 [.int .i64 a3]), tR (Box b47 [.int .i64 a4]), tR (Box b45 [(plainV v22).val]), tR (Box b3 [.bool false]), tR (Box b2 [.int .i64 a5]), tR (Own 23 (ekI .u64) v15 qv15_1), tR (Own 23 (ekI .u64) v22 q29), tR (F), tS 129 (v0), tS 130 (.int .i64 a1), tS 131 (.int .u64 t60), tS 132 (v15), tS 133 (.int .i64 a1), tS 134 (.int .u64 t62), tS 135 (.bool (t60 == t62))]) (D := [⟨[0], [], [17]⟩, ⟨[1], [], [18]⟩, ⟨[17, 18, 16], [], [19]⟩, ⟨[2, 5], [], [20]⟩, ⟨[1], [], [21]⟩, ⟨[20, 21, 14], [], [22]⟩, ⟨[19, 22], [], [23]⟩]) (ini := [0, 1, 2, 3, 4, 5, 6, 7, 8, 9, 10, 11, 12, 13, 14, 15, 16]) (fin := [1, 3, 23, 4, 5, 6, 7, 8, 9, 10, 11, 12, 13, 14, 15, 16]) (bf := [[], [], [0, 1], [], [], [0, 1, 2, 3, 4], [0, 1, 2, 3, 4, 5]]) (by kernel_rfl) (by kernel_rfl) (fun x w h1 h2 => (.cons () (.cons () (.cons () (.cons () (.cons () (.cons () (.cons () (.cons () (.cons () (.cons () (.cons () (.cons () (.cons () (.cons () (.cons () (.cons () (.cons () (.nil ⟨EnvAll.of h1 ⟨rfl, rfl, rfl, rfl, rfl, rfl, rfl, trivial⟩, h2⟩))))))))))))))))))) (fun Q => by kernel_rfl) ⟨?_, ?_, ?_, ?_, ?_, ?_, ?_, trivial⟩ ?_
        · rintro Fr _
          refine SO.v rfl (opv_move rfl) ?_
          exact SO.nilZ fun a w h1 h2 h3 h4 h5 => PZ.of h1 h3 h5 (.cons () (.cons () (.nil ⟨EnvAll.of h2 ⟨rfl, rfl, trivial⟩, h4⟩)))
        · rintro Fr _
          refine SO.v rfl (opv_move rfl) ?_
          exact SO.nilZ fun a w h1 h2 h3 h4 h5 => PZ.of h1 h3 h5 (.cons () (.cons () (.nil ⟨EnvAll.of h2 ⟨rfl, rfl, trivial⟩, h4⟩)))
        · rintro Fr _ _ _
          refine SO.call (pre := []) rfl Try.call7 rfl rfl rfl (law05_at.ct v0 _ _ _ ht61) (Rd.head hF0) ?_
          rintro _ _ ⟨rfl, rfl⟩
          exact SO.nilZ fun a w h1 h2 h3 h4 h5 => PZ.of h1 h3 h5 (.cons () (.cons () (.cons () (.cons () (.nil ⟨EnvAll.of h2 ⟨rfl, rfl, rfl, trivial⟩, h4⟩)))))
        · rintro Fr _ _
          refine SO.load1 rfl Try.isAgg22 rfl rfl ?_
          exact SO.nilZ fun a w h1 h2 h3 h4 h5 => PZ.of h1 h3 h5 (.cons () (.cons () (.cons () (.nil ⟨EnvAll.of h2 ⟨rfl, rfl, trivial⟩, h4⟩))))
        · rintro Fr _
          refine SO.v rfl (opv_move rfl) ?_
          exact SO.nilZ fun a w h1 h2 h3 h4 h5 => PZ.of h1 h3 h5 (.cons () (.cons () (.nil ⟨EnvAll.of h2 ⟨rfl, rfl, trivial⟩, h4⟩)))
        · rintro Fr _ _ _
          refine SO.call (pre := []) rfl Try.call7 rfl rfl rfl (law05_at.ct v15 _ _ _ ht63) (Rd.head hr37) ?_
          rintro _ _ ⟨rfl, rfl⟩
          exact SO.nilZ fun a w h1 h2 h3 h4 h5 => PZ.of h1 h3 h5 (.cons () (.cons () (.cons () (.cons () (.nil ⟨EnvAll.of h2 ⟨rfl, rfl, rfl, trivial⟩, h4⟩)))))
        · rintro Fr _ _
          refine SO.v rfl (opv_eql rfl rfl) ?_
          exact SO.nilZ fun a w h1 h2 h3 h4 h5 => PZ.of h1 h3 h5 (.cons () (.cons () (.cons () (.nil ⟨EnvAll.of h2 ⟨rfl, rfl, rfl, trivial⟩, h4⟩))))
        rintro _ _ _ _ _ _ _ _ _ _ _ _ _ _ _ _
        refine S.to (ρ' := [(1, .int .i64 a1), (21, v58), (2, .int .u64 a2), (12, bp b3 0), (13, .bool t4), (135, .bool (t60 == t62))]) ⟨rfl, rfl, rfl, rfl, rfl, rfl, trivial⟩ ?_
        rcases bool_or (t60 == t62) with b64 | b64
        · replace h := cond_t b64 h
          refine S.condT rfl b64 ?_
          refine S.seq ?_
          refine S.region ?_
          refine SO.v rfl (opv_move rfl) ?_
          refine SO.v rfl (opv_move rfl) ?_
          refine SO.cut 4 141 (.bool (t4 && ((t56.length : Int) == 0))) [Own 35 ek_view_Pair_uint64 v58 t56, Box b17 [v15], Box b1 [.int .i64 a4], Box b44 [.int .i64 nx9], Blk D9 (.deferred (some [])), Box b46 [.int .i64 a3], Box b47 [.int .i64 a4], Box b45 [(plainV v22).val], Box b3 [.bool false], Box b2 [.int .i64 a5], Own 23 (ekI .u64) v15 qv15_1, Own 23 (ekI .u64) v22 q29, F] (fun l2 hk2 => ?_) ?_
          · rcases bool_or t4 with b65 | b65
            · refine SO.takeT rfl rfl rfl b65 ?_
              refine SO.v rfl (opv_move rfl) ?_
              refine SO.takeT rfl rfl rfl b65 ?_
              refine SO.v rfl (opv_lenR rfl Try.underlying32 hr59 rfl) ?_
              refine SO.takeT rfl rfl rfl b65 ?_
              refine SO.v rfl (opv_eql rfl rfl) ?_
              refine SO.v rfl (opv_pick_t' b65 rfl rfl) ?_
              refine SO.b12 ?_
              refine SO.b12 ?_
              refine SO.b12 ?_
              refine SO.b12 ?_
              refine SO.b12 ?_
              refine SO.b12 ?_
              refine SO.b12 ?_
              refine SO.b12 ?_
              refine SO.b12 ?_
              refine SO.b12 ?_
              refine SO.b12 ?_
              refine SO.b12 ?_
              refine SO.b12 ?_
              exact hk2.fitc (m := 4) rfl (and_t b65) rfl
            · refine SO.passF rfl rfl rfl b65 rfl rfl ?_
              refine SO.passF rfl rfl rfl b65 rfl rfl ?_
              refine SO.passF rfl rfl rfl b65 rfl rfl ?_
              refine SO.v rfl (opv_pick_f' b65 rfl rfl) ?_
              refine SO.b12 ?_
              refine SO.b12 ?_
              refine SO.b12 ?_
              refine SO.b12 ?_
              refine SO.b12 ?_
              refine SO.b12 ?_
              refine SO.b12 ?_
              refine SO.b12 ?_
              refine SO.b12 ?_
              refine SO.b12 ?_
              refine SO.b12 ?_
              refine SO.b12 ?_
              refine SO.b12 ?_
              exact hk2.fitc (m := 4) rfl (and_f b65) rfl
          refine SO.b8 ?_
          refine SO.store1 Try.sizeOf4 rfl rfl rfl rfl ?_
          refine SO.nil ?_
          refine S.to (ρ' := [(12, bp b3 0)]) ⟨rfl, trivial⟩ ?_
          cases h
          refine S.b1 ?_
          refine S.drop ?_
          refine S.b1 ?_
          refine S.drop ?_
          refine S.b1 ?_
          refine S.drop ?_
          refine S.b1 ?_
          refine S.drop ?_
          refine S.b2 ?_
          refine S.drop ?_
          refine S.b2 ?_
          refine S.drop ?_
          refine S.b2 ?_
          refine S.drop ?_
          refine S.b2 ?_
          refine S.drop ?_
          refine S.b2 ?_
          refine S.drop ?_
          refine S.b2 ?_
          refine S.drop ?_
          refine S.b2 ?_
          refine S.b1 ?_
          refine S.b2 ?_
          exact S.retVM Try.func3 rfl rfl Try.isAgg4 rfl (fun w hs hk => hR w _ _ ⟨rfl, rfl⟩ hs.drop hk)
        · replace h := cond_f b64 h
          refine S.condF rfl b64 ?_
          refine S.skip ?_
          refine S.seq ?_
          refine S.region ?_
          refine SO.v rfl (opv_move rfl) ?_
          refine SO.v rfl (opv_move rfl) ?_
          refine SO.cut 4 147 (.bool (t4 && ((t56.length : Int) == 1))) [Own 35 ek_view_Pair_uint64 v58 t56, Box b17 [v15], Box b1 [.int .i64 a4], Box b44 [.int .i64 nx9], Blk D9 (.deferred (some [])), Box b46 [.int .i64 a3], Box b47 [.int .i64 a4], Box b45 [(plainV v22).val], Box b3 [.bool false], Box b2 [.int .i64 a5], Own 23 (ekI .u64) v15 qv15_1, Own 23 (ekI .u64) v22 q29, F] (fun l2 hk2 => ?_) ?_
          · rcases bool_or t4 with b66 | b66
            · refine SO.takeT rfl rfl rfl b66 ?_
              refine SO.v rfl (opv_move rfl) ?_
              refine SO.takeT rfl rfl rfl b66 ?_
              refine SO.v rfl (opv_lenR rfl Try.underlying32 hr59 rfl) ?_
              refine SO.takeT rfl rfl rfl b66 ?_
              refine SO.v rfl (opv_eql rfl rfl) ?_
              refine SO.v rfl (opv_pick_t' b66 rfl rfl) ?_
              refine SO.b12 ?_
              refine SO.b12 ?_
              refine SO.b12 ?_
              refine SO.b12 ?_
              refine SO.b12 ?_
              refine SO.b12 ?_
              refine SO.b12 ?_
              refine SO.b12 ?_
              refine SO.b12 ?_
              refine SO.b12 ?_
              refine SO.b12 ?_
              refine SO.b12 ?_
              refine SO.b12 ?_
              exact hk2.fitc (m := 4) rfl (and_t b66) rfl
            · refine SO.passF rfl rfl rfl b66 rfl rfl ?_
              refine SO.passF rfl rfl rfl b66 rfl rfl ?_
              refine SO.passF rfl rfl rfl b66 rfl rfl ?_
              refine SO.v rfl (opv_pick_f' b66 rfl rfl) ?_
              refine SO.b12 ?_
              refine SO.b12 ?_
              refine SO.b12 ?_
              refine SO.b12 ?_
              refine SO.b12 ?_
              refine SO.b12 ?_
              refine SO.b12 ?_
              refine SO.b12 ?_
              refine SO.b12 ?_
              refine SO.b12 ?_
              refine SO.b12 ?_
              refine SO.b12 ?_
              refine SO.b12 ?_
              exact hk2.fitc (m := 4) rfl (and_f b66) rfl
          refine SO.v rfl (opv_move rfl) ?_
          obtain ⟨c68, hc69, hgk⟩ := opt_bind h
          refine SO.cut 7 155 (.bool c68) [Own 35 ek_view_Pair_uint64 v58 t56, Box b17 [v15], Box b1 [.int .i64 a4], Box b44 [.int .i64 nx9], Blk D9 (.deferred (some [])), Box b46 [.int .i64 a3], Box b47 [.int .i64 a4], Box b45 [(plainV v22).val], Box b3 [.bool false], Box b2 [.int .i64 a5], Own 23 (ekI .u64) v15 qv15_1, Own 23 (ekI .u64) v22 q29, F] (fun l2 hk2 => ?_) ?_
          · clear hgk
            replace h := hc69
            rcases bool_or (t4 && ((t56.length : Int) == 1)) with b67 | b67
            · replace h := cond_t b67 h
              refine SO.takeT rfl rfl rfl b67 ?_
              refine SO.v rfl (opv_move rfl) ?_
              refine SO.takeT rfl rfl rfl b67 ?_
              obtain ⟨x70, hx71, h⟩ := opt_bind h
              refine SO.v rfl (opv_idx Try.underlying32 Try.sizeOf35 hr59 rfl rfl hx71) ?_
              refine SO.takeT rfl rfl rfl b67 ?_
              refine SO.v rfl (opv_fieldIdx Try.underlying35 rfl Try.sizeOf3 hr59 hx71 rfl rfl) ?_
              refine SO.takeT rfl rfl rfl b67 ?_
              refine SO.loadI1 (j := 0) rfl Try.isAgg3 (Rd.head hr59) hx71 rfl rfl rfl rfl ?_
              refine SO.takeT rfl rfl rfl b67 ?_
              refine SO.v rfl (opv_move rfl) ?_
              refine SO.takeT rfl rfl rfl b67 ?_
              refine SO.v rfl (opv_eql rfl rfl) ?_
              cases h
              refine SO.v rfl (opv_pick_t' b67 rfl rfl) ?_
              refine SO.b12 ?_
              refine SO.b12 ?_
              refine SO.b12 ?_
              refine SO.b12 ?_
              refine SO.b12 ?_
              refine SO.b12 ?_
              refine SO.b12 ?_
              refine SO.b12 ?_
              refine SO.b12 ?_
              refine SO.b12 ?_
              refine SO.b12 ?_
              refine SO.b12 ?_
              refine SO.b12 ?_
              exact hk2.fitc (m := 7) rfl (rfl) rfl
            · replace h := cond_f b67 h
              refine SO.passF rfl rfl rfl b67 rfl rfl ?_
              refine SO.passF rfl rfl rfl b67 rfl rfl ?_
              refine SO.passF rfl rfl rfl b67 rfl rfl ?_
              refine SO.passF rfl rfl rfl b67 rfl rfl ?_
              refine SO.passF rfl rfl rfl b67 rfl rfl ?_
              refine SO.passF rfl rfl rfl b67 rfl rfl ?_
              cases h
              refine SO.v rfl (opv_pick_f' b67 rfl rfl) ?_
              refine SO.b12 ?_
              refine SO.b12 ?_
              refine SO.b12 ?_
              refine SO.b12 ?_
              refine SO.b12 ?_
              refine SO.b12 ?_
              refine SO.b12 ?_
              refine SO.b12 ?_
              refine SO.b12 ?_
              refine SO.b12 ?_
              refine SO.b12 ?_
              refine SO.b12 ?_
              refine SO.b12 ?_
              exact hk2.fitc (m := 7) rfl (rfl) rfl
          clear hc69
          replace h := hgk
          refine SO.v rfl (opv_move rfl) ?_
          obtain ⟨c73, hc74, hgk⟩ := opt_bind h
          refine SO.cut 7 163 (.bool c73) [Own 35 ek_view_Pair_uint64 v58 t56, Box b17 [v15], Box b1 [.int .i64 a4], Box b44 [.int .i64 nx9], Blk D9 (.deferred (some [])), Box b46 [.int .i64 a3], Box b47 [.int .i64 a4], Box b45 [(plainV v22).val], Box b3 [.bool false], Box b2 [.int .i64 a5], Own 23 (ekI .u64) v15 qv15_1, Own 23 (ekI .u64) v22 q29, F] (fun l2 hk2 => ?_) ?_
          · clear hgk
            replace h := hc74
            rcases bool_or c68 with b72 | b72
            · replace h := cond_t b72 h
              refine SO.takeT rfl rfl rfl b72 ?_
              refine SO.v rfl (opv_move rfl) ?_
              refine SO.takeT rfl rfl rfl b72 ?_
              obtain ⟨x75, hx76, h⟩ := opt_bind h
              refine SO.v rfl (opv_idx Try.underlying32 Try.sizeOf35 hr59 rfl rfl hx76) ?_
              refine SO.takeT rfl rfl rfl b72 ?_
              refine SO.v rfl (opv_fieldIdx Try.underlying35 rfl Try.sizeOf23 hr59 hx76 rfl rfl) ?_
              refine SO.takeT rfl rfl rfl b72 ?_
              refine SO.loadI1 (j := 1) rfl Try.isAgg23 (Rd.head hr59) hx76 rfl rfl rfl rfl ?_
              refine SO.takeT rfl rfl rfl b72 ?_
              refine SO.v rfl (opv_move rfl) ?_
              refine SO.takeT rfl rfl rfl b72 ?_
              refine SO.v rfl (opv_eql rfl rfl) ?_
              cases h
              refine SO.v rfl (opv_pick_t' b72 rfl rfl) ?_
              refine SO.b12 ?_
              refine SO.b12 ?_
              refine SO.b12 ?_
              refine SO.b12 ?_
              refine SO.b12 ?_
              refine SO.b12 ?_
              refine SO.b12 ?_
              refine SO.b12 ?_
              refine SO.b12 ?_
              refine SO.b12 ?_
              refine SO.b12 ?_
              refine SO.b12 ?_
              refine SO.b12 ?_
              exact hk2.fitc (m := 7) rfl (rfl) rfl
            · replace h := cond_f b72 h
              refine SO.passF rfl rfl rfl b72 rfl rfl ?_
              refine SO.passF rfl rfl rfl b72 rfl rfl ?_
              refine SO.passF rfl rfl rfl b72 rfl rfl ?_
              refine SO.passF rfl rfl rfl b72 rfl rfl ?_
              refine SO.passF rfl rfl rfl b72 rfl rfl ?_
              refine SO.passF rfl rfl rfl b72 rfl rfl ?_
              cases h
              refine SO.v rfl (opv_pick_f' b72 rfl rfl) ?_
              refine SO.b12 ?_
              refine SO.b12 ?_
              refine SO.b12 ?_
              refine SO.b12 ?_
              refine SO.b12 ?_
              refine SO.b12 ?_
              refine SO.b12 ?_
              refine SO.b12 ?_
              refine SO.b12 ?_
              refine SO.b12 ?_
              refine SO.b12 ?_
              refine SO.b12 ?_
              refine SO.b12 ?_
              exact hk2.fitc (m := 7) rfl (rfl) rfl
          clear hc74
          replace h := hgk
          refine SO.b8 ?_
          refine SO.store1 Try.sizeOf4 rfl rfl rfl rfl ?_
          refine SO.nil ?_
          refine S.to (ρ' := [(12, bp b3 0)]) ⟨rfl, trivial⟩ ?_
          cases h
          refine S.b1 ?_
          refine S.drop ?_
          refine S.b1 ?_
          refine S.drop ?_
          refine S.b1 ?_
          refine S.drop ?_
          refine S.b1 ?_
          refine S.drop ?_
          refine S.b2 ?_
          refine S.drop ?_
          refine S.b2 ?_
          refine S.drop ?_
          refine S.b2 ?_
          refine S.drop ?_
          refine S.b2 ?_
          refine S.drop ?_
          refine S.b2 ?_
          refine S.drop ?_
          refine S.b2 ?_
          refine S.drop ?_
          refine S.b2 ?_
          refine S.b1 ?_
          refine S.b2 ?_
          exact S.retVM Try.func3 rfl rfl Try.isAgg4 rfl (fun w hs hk => hR w _ _ ⟨rfl, rfl⟩ hs.drop hk)
end Go.Proofs
