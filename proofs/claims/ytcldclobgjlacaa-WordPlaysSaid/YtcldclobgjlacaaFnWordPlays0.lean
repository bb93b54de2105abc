/- What the functions that WordPlays reaches come to, and that they do. On no condition. -/
import Derived.Test.YtcldclobgjlacaaFr1
import Derived.Test.YtcldclobgjlacaaProg
set_option linter.all false
namespace Go.Proofs
open Go.Sl Go.RowKit
theorem inf30 : Try.prog.info? 30 = some Try.t30 := by kernel_rfl
theorem inf34 : Try.prog.info? 34 = some Try.t34 := by kernel_rfl
theorem inf43 : Try.prog.info? 43 = some Try.t43 := by kernel_rfl
structure api_Cell where
  Value : Int
  Version : Int
  Mark : Int
  deriving DecidableEq, Inhabited
def ek_api_Cell : EK api_Cell := ⟨3, fun x => [.int .u64 x.Value, .int .u32 x.Version, .int .i64 x.Mark], fun _ => rfl, fun x v hv => by
  simp only [List.mem_cons, List.not_mem_nil, or_false] at hv
  rcases hv with rfl | rfl | rfl <;> rfl, by decide⟩
theorem eqI_api_Cell (x y : api_Cell) : eqI [x.Value, x.Version, x.Mark] [y.Value, y.Version, y.Mark] = decide (x = y) := by
  cases x; cases y
  rw [Bool.eq_iff_iff]
  simp [eqI]
theorem fi_api_Cell : ∀ fs, Try.prog.underlying 34 = some (.struct fs) → FI Try.prog fs.toList 0 [.u64, .u32, .i64] := by
  intro fs h
  rw [Try.underlying34] at h
  injection h with h
  injection h with h
  subst h
  exact ⟨by decide, Try.underlying30, rfl, ⟨by decide, Try.underlying22, rfl, ⟨by decide, Try.underlying3, rfl, trivial⟩⟩⟩
theorem eq_eql_api_Cell {ρ : Env} {t2 : TypeId} {x y : api_Cell} {a b : Operand} (ha : ev ρ a = some (.agg (encI [.u64, .u32, .i64] [x.Value, x.Version, x.Mark]).toArray)) (hb : ev ρ b = some (.agg (encI [.u64, .u32, .i64] [y.Value, y.Version, y.Mark]).toArray)) : OpV Try.prog ρ (.binOp .eql 34 a b t2) (.bool (decide (x = y))) :=
  opv_eqlS Try.underlying34 Try.stoodInHeld34 Try.eqGuardType34 (fi_api_Cell _ Try.underlying34) rfl rfl ha hb (by rw [eqI_api_Cell])
theorem eq_neq_api_Cell {ρ : Env} {t2 : TypeId} {x y : api_Cell} {a b : Operand} (ha : ev ρ a = some (.agg (encI [.u64, .u32, .i64] [x.Value, x.Version, x.Mark]).toArray)) (hb : ev ρ b = some (.agg (encI [.u64, .u32, .i64] [y.Value, y.Version, y.Mark]).toArray)) : OpV Try.prog ρ (.binOp .neq 34 a b t2) (.bool (!decide (x = y))) :=
  opv_neqS Try.underlying34 Try.stoodInHeld34 Try.eqGuardType34 (fi_api_Cell _ Try.underlying34) rfl rfl ha hb (by rw [eqI_api_Cell])
structure word_Store where
  l : List api_Cell
  limit : Int
  deriving DecidableEq, Inhabited
def kr_word_Store : EKR word_Store := ⟨2, fun x => [.sl ek_api_Cell x.l, .val (.int .u32 x.limit)], fun _ => rfl, fun x v hv => by
  simp only [List.mem_cons, List.not_mem_nil, or_false, CellP.val.injEq, reduceCtorEq, false_or] at hv
  rcases hv with rfl <;> rfl, by decide⟩
structure law01_Deed where
  What : Int
  I : Int
  Version : Int
  Mark : Int
  Value : Int
  Now : Bool
  deriving DecidableEq, Inhabited
def ek_law01_Deed : EK law01_Deed := ⟨6, fun x => [.int .i64 x.What, .int .i64 x.I, .int .u32 x.Version, .int .i64 x.Mark, .int .u64 x.Value, .bool x.Now], fun _ => rfl, fun x v hv => by
  simp only [List.mem_cons, List.not_mem_nil, or_false] at hv
  rcases hv with rfl | rfl | rfl | rfl | rfl | rfl <;> rfl, by decide⟩
structure ref01_Store where
  L : List api_Cell
  Limit : Int
  deriving DecidableEq, Inhabited
def kr_ref01_Store : EKR ref01_Store := ⟨2, fun x => [.sl ek_api_Cell x.L, .val (.int .u32 x.Limit)], fun _ => rfl, fun x v hv => by
  simp only [List.mem_cons, List.not_mem_nil, or_false, CellP.val.injEq, reduceCtorEq, false_or] at hv
  rcases hv with rfl <;> rfl, by decide⟩
end Go.Proofs
namespace Go.Proofs
open Go.Sl Go.RowKit
/-! 17 padstone/padstonelaw00.Code -/
def law00_Code.l1 (a0 : Option Int) : Nat → Int → Option (Brk Int Unit)
  | 0, _ => none
  | k + 1, x3_1 => bif decide (x3_1 ≤ 14) then (bif a0 == some x3_1 then (some (Brk.ret x3_1)) else (law00_Code.l1 a0 k (w64 (x3_1 + 1)))) else (some (Brk.nx ()))
def law00_Code.f (k : Nat) (a0 : Option Int) : Option (Int) :=
  bif a0.isNone then (some 0) else ((law00_Code.l1 a0 k 1).bind fun o1 => Brk.go o1 (fun r => some r) (fun _ => some (-1)))
set_option maxHeartbeats 8000000 in
set_option maxRecDepth 100000 in
theorem law00_Code.ct (k : Nat) (a0 : Option Int) (r0 : Int) (h : law00_Code.f k a0 = some r0) :
    Ct Try.prog 17 [errV 43 a0] (fun _ => True) [] (fun u H' => u = .int .i64 r0 ∧ H' = []) := by
  unfold law00_Code.f at h
  refine Ct.intro (n := 15) Try.func17 rfl rfl rfl ?_
  intro R w0 F hF hR
  refine S.seq ?_
  refine S.region ?_
  refine SO.v rfl (opv_assign rfl) ?_
  refine SO.nil ?_
  refine S.seq ?_
  refine S.seq ?_
  refine S.region ?_
  refine SO.v rfl (opv_move rfl) ?_
  refine SO.v rfl (opv_eqlN (e := a0) Try.underlying27 rfl) ?_
  refine SO.nil ?_
  rcases bool_or a0.isNone with b1 | b1
  · replace h := cond_t b1 h
    refine S.condT rfl b1 ?_
    refine S.seq ?_
    refine S.region ?_
    refine SO.v rfl (opv_assign rfl) ?_
    refine SO.nil ?_
    cases h
    exact S.ret1 Try.func17 rfl rfl (fun w hs hk => hR w _ _ ⟨rfl, rfl⟩ hs hk)
  · replace h := cond_f b1 h
    refine S.condF rfl b1 ?_
    refine S.skip ?_
    refine S.seq ?_
    refine S.seq ?_
    refine S.region ?_
    refine SO.v rfl (opv_assign rfl) ?_
    refine SO.nil ?_
    obtain ⟨o1, hl1, h⟩ := opt_bind h
    refine S.to (ρ' := [(3, .int .i64 1), (2, .int .i64 0), (0, errV 43 a0)]) ⟨rfl, rfl, rfl, trivial⟩ ?_
    refine S.forloop (X := Int × Unit) (O := Brk Int Unit) (fun m x => law00_Code.l1 a0 m x.1) (fun x => match x with | (x3_1, _) => [(3, .int .i64 x3_1), (2, .int .i64 0), (0, errV 43 a0)]) (fun x => match x with | (x3_1, _) => [F]) (fun Sk o' => (∀ r', o' = Brk.ret r' → some r' = some r0) ∧ ∀ _ : Unit, ∀ _ : Unit, o' = Brk.nx () → Sk [(2, .int .i64 0)] [F]) (fun _ => rfl) ?_ (m := k) (x := (1, ())) hl1 ?_
    · clear h hl1
      intro k x o_1 h hK1 ih1
      obtain ⟨x3_1, _⟩ := x
      replace h : law00_Code.l1 a0 (k + 1) x3_1 = some o_1 := h
      first | rw [law00_Code.l1] at h | unfold law00_Code.l1 at h
      refine S.seq ?_
      refine S.seq ?_
      refine S.region ?_
      refine SO.v rfl (opv_move rfl) ?_
      refine SO.v rfl (opv_leq rfl rfl) ?_
      refine SO.nil ?_
      rcases bool_or (decide (x3_1 ≤ 14)) with b2 | b2
      · replace h := cond_t b2 h
        refine S.condT rfl b2 ?_
        refine S.skip ?_
        refine S.seq ?_
        refine S.block ?_
        refine S.seq ?_
        refine S.region ?_
        refine SO.v rfl (opv_move rfl) ?_
        refine SO.v rfl (opv_move rfl) ?_
        refine SO.v rfl (opv_iface Try.underlying43 rfl rfl) ?_
        refine SO.v rfl (opv_eqlE (e := a0) (c := x3_1) Try.underlying27 Try.underlying43 inf43 rfl rfl rfl) ?_
        refine SO.nil ?_
        rcases bool_or (a0 == some x3_1) with b3 | b3
        · replace h := cond_t b3 h
          refine S.condT rfl b3 ?_
          refine S.seq ?_
          refine S.region ?_
          refine SO.v rfl (opv_move rfl) ?_
          refine SO.v rfl (opv_assign rfl) ?_
          refine SO.nil ?_
          refine S.to (ρ' := [(2, .int .i64 x3_1)]) ⟨rfl, trivial⟩ ?_
          cases h
          replace h := hK1.1 _ rfl
          cases h
          exact S.ret1 Try.func17 rfl rfl (fun w hs hk => hR w _ _ ⟨rfl, rfl⟩ hs hk)
        · replace h := cond_f b3 h
          refine S.condF rfl b3 ?_
          refine S.skip ?_
          refine S.inBlock ?_
          refine S.region ?_
          refine SO.v rfl (opv_move rfl) ?_
          refine SO.v rfl (opv_add rfl rfl) ?_
          refine SO.v rfl (opv_assign rfl) ?_
          refine SO.nil ?_
          refine S.to (ρ' := [(3, .int .i64 (w64 (x3_1 + 1))), (2, .int .i64 0), (0, errV 43 a0)]) ⟨rfl, rfl, rfl, trivial⟩ ?_
          refine S.to ?_ (ih1 (w64 (x3_1 + 1), ()) h)
          exact ⟨rfl, rfl, rfl, trivial⟩
      · replace h := cond_f b2 h
        refine S.condF rfl b2 ?_
        refine S.exit rfl ?_
        cases h
        refine S.to ?_ (hK1.2 () () rfl)
        exact ⟨rfl, trivial⟩
    refine ⟨fun r' e' => ?_, ?_⟩
    · subst e'
      have h9 := Brk.of_ret h
      exact h9
    rintro _ _ e'
    subst e'
    replace h := Brk.of_nx h
    refine S.seq ?_
    refine S.region ?_
    refine SO.v rfl (opv_assign rfl) ?_
    refine SO.nil ?_
    cases h
    exact S.ret1 Try.func17 rfl rfl (fun w hs hk => hR w _ _ ⟨rfl, rfl⟩ hs hk)
end Go.Proofs
namespace Go.Proofs
open Go.Sl Go.RowKit
/-! 8 padstone/padstonelaw01.pick -/
def law01_pick.f (a0 : Int) (a1 : Int) : Option (Int) :=
  bif decide (a0 < 0) then ((chk (decide (a1 ≠ 0))).bind fun _ => some ((w64 (0 - (w64 (a0 + 1)))).tmod a1)) else ((chk (decide (a1 ≠ 0))).bind fun _ => some (a0.tmod a1))
set_option maxHeartbeats 8000000 in
set_option maxRecDepth 100000 in
theorem law01_pick.ct (a0 : Int) (a1 : Int) (r0 : Int) (h : law01_pick.f a0 a1 = some r0) :
    Ct Try.prog 8 [.int .i64 a0, .int .i64 a1] (fun _ => True) [] (fun u H' => u = .int .i64 r0 ∧ H' = []) := by
  unfold law01_pick.f at h
  refine Ct.intro (n := 13) Try.func8 rfl rfl rfl ?_
  intro R w0 F hF hR
  refine S.seq ?_
  refine S.region ?_
  refine SO.v rfl (opv_assign rfl) ?_
  refine SO.nil ?_
  refine S.seq ?_
  refine S.seq ?_
  refine S.region ?_
  refine SO.v rfl (opv_move rfl) ?_
  refine SO.v rfl (opv_lss rfl rfl) ?_
  refine SO.nil ?_
  rcases bool_or (decide (a0 < 0)) with b1 | b1
  · replace h := cond_t b1 h
    refine S.condT rfl b1 ?_
    refine S.region ?_
    refine SO.v rfl (opv_move rfl) ?_
    refine SO.v rfl (opv_add rfl rfl) ?_
    refine SO.v rfl (opv_neg rfl) ?_
    refine SO.v rfl (opv_assign rfl) ?_
    refine SO.nil ?_
    refine S.seq ?_
    refine S.region ?_
    refine SO.v rfl (opv_move rfl) ?_
    refine SO.v rfl (opv_move rfl) ?_
    obtain ⟨_, hc2, h⟩ := opt_bind h
    refine SO.v rfl (opv_rem rfl rfl (of_decide_eq_true (chk_some hc2))) ?_
    refine SO.v rfl (opv_assign rfl) ?_
    refine SO.nil ?_
    refine S.to (ρ' := [(4, .int .i64 ((w64 (0 - (w64 (a0 + 1)))).tmod a1))]) ⟨rfl, trivial⟩ ?_
    cases h
    exact S.ret1 Try.func8 rfl rfl (fun w hs hk => hR w _ _ ⟨rfl, rfl⟩ hs hk)
  · replace h := cond_f b1 h
    refine S.condF rfl b1 ?_
    refine S.skip ?_
    refine S.seq ?_
    refine S.region ?_
    refine SO.v rfl (opv_move rfl) ?_
    refine SO.v rfl (opv_move rfl) ?_
    obtain ⟨_, hc3, h⟩ := opt_bind h
    refine SO.v rfl (opv_rem rfl rfl (of_decide_eq_true (chk_some hc3))) ?_
    refine SO.v rfl (opv_assign rfl) ?_
    refine SO.nil ?_
    refine S.to (ρ' := [(4, .int .i64 (a0.tmod a1))]) ⟨rfl, trivial⟩ ?_
    cases h
    exact S.ret1 Try.func8 rfl rfl (fun w hs hk => hR w _ _ ⟨rfl, rfl⟩ hs hk)
end Go.Proofs
namespace Go.Proofs
open Go.Sl Go.RowKit
/-! 6 padstone/word.New -/
def word_New.f (a0 : Int) (a1 : Int) : Option (((Option word_Store) × (Option Int))) :=
  bif ((decide (a0 < 1)) || (decide (1024 < a0))) || (decide (a1 < 1)) then (some (none, (some 1))) else ((mk_ (⟨0, 0, 0⟩ : api_Cell) a0).bind fun xs6 => some ((some (⟨xs6, a1⟩ : word_Store)), none))
set_option maxHeartbeats 8000000 in
set_option maxRecDepth 100000 in
theorem word_New.ct (a0 : Int) (a1 : Int) (r0 : Option word_Store) (r1 : Option Int) (h : word_New.f a0 a1 = some (r0, r1)) :
    Ct Try.prog 6 [.int .i64 a0, .int .u32 a1] (fun _ => True) [] (fun u H' => match r0 with | none => (u = .tuple #[.pointer none, errV 43 r1] ∧ H' = []) | some r0p => (∃ b_r0p w_r0p_l, u = .tuple #[bp b_r0p 0, errV 43 r1] ∧ H' = [Box b_r0p [w_r0p_l, .int .u32 r0p.limit], Own 34 ek_api_Cell w_r0p_l r0p.l])) := by
  unfold word_New.f at h
  refine Ct.intro (n := 22) Try.func6 rfl rfl rfl ?_
  intro R w0 F hF hR
  refine S.seq ?_
  refine S.region ?_
  refine SO.v rfl (opv_assign rfl) ?_
  refine SO.v rfl (opv_assign rfl) ?_
  refine SO.nil ?_
  refine S.seq ?_
  refine S.seq ?_
  refine S.region ?_
  refine SO.v rfl (opv_move rfl) ?_
  refine SO.v rfl (opv_lss rfl rfl) ?_
  refine SO.v rfl (opv_move rfl) ?_
  refine SO.cut 3 11 (.bool ((decide (a0 < 1)) || (decide (1024 < a0)))) [F] (fun l2 hk2 => ?_) ?_
  · rcases bool_or (decide (a0 < 1)) with b1 | b1
    · refine SO.passF rfl rfl rfl b1 rfl rfl ?_
      refine SO.passF rfl rfl rfl b1 rfl rfl ?_
      refine SO.v rfl (opv_pick_t' b1 rfl rfl) ?_
      exact hk2.fitc (m := 3) rfl (or_t b1) rfl
    · refine SO.takeT rfl rfl rfl b1 ?_
      refine SO.v rfl (opv_move rfl) ?_
      refine SO.takeT rfl rfl rfl b1 ?_
      refine SO.v rfl (opv_gtr rfl rfl) ?_
      refine SO.v rfl (opv_pick_f' b1 rfl rfl) ?_
      exact hk2.fitc (m := 3) rfl (or_f b1) rfl
  refine SO.v rfl (opv_move rfl) ?_
  refine SO.cut 3 15 (.bool (((decide (a0 < 1)) || (decide (1024 < a0))) || (decide (a1 < 1)))) [F] (fun l2 hk2 => ?_) ?_
  · rcases bool_or ((decide (a0 < 1)) || (decide (1024 < a0))) with b2 | b2
    · refine SO.passF rfl rfl rfl b2 rfl rfl ?_
      refine SO.passF rfl rfl rfl b2 rfl rfl ?_
      refine SO.v rfl (opv_pick_t' b2 rfl rfl) ?_
      exact hk2.fitc (m := 3) rfl (or_t b2) rfl
    · refine SO.takeT rfl rfl rfl b2 ?_
      refine SO.v rfl (opv_move rfl) ?_
      refine SO.takeT rfl rfl rfl b2 ?_
      refine SO.v rfl (opv_lss rfl rfl) ?_
      refine SO.v rfl (opv_pick_f' b2 rfl rfl) ?_
      exact hk2.fitc (m := 3) rfl (or_f b2) rfl
  refine SO.nil ?_
  rcases bool_or (((decide (a0 < 1)) || (decide (1024 < a0))) || (decide (a1 < 1))) with b3 | b3
  · replace h := cond_t b3 h
    refine S.condT rfl b3 ?_
    refine S.seq ?_
    refine S.region ?_
    refine SO.v rfl (opv_iface Try.underlying43 rfl rfl) ?_
    refine SO.v rfl (opv_assign rfl) ?_
    refine SO.v rfl (opv_assign rfl) ?_
    refine SO.nil ?_
    refine S.to (ρ' := [(4, .pointer none), (5, errV 43 (some 1))]) ⟨rfl, rfl, trivial⟩ ?_
    cases h
    exact S.ret2 Try.func6 rfl rfl rfl (fun w hs hk => hR w _ _ ⟨rfl, rfl⟩ hs hk)
  · replace h := cond_f b3 h
    refine S.condF rfl b3 ?_
    refine S.skip ?_
    refine S.seq ?_
    refine S.region ?_
    refine SO.v rfl (opv_move rfl) ?_
    obtain ⟨xs6, hx7, h⟩ := opt_bind h
    refine SO.makeSlice (K := ek_api_Cell) rfl Try.underlying45 inf34 rfl rfl rfl (by decide) rfl rfl rfl hx7 (fun v4 hr5 => ?_)
    refine SO.v rfl (opv_move rfl) ?_
    have hB_ : ∀ (w : World) (u0_ : Value), u0_.oneCell' = true → (Instr.build 57 #[(0, u0_), (1, .int .u32 a1)]).run Try.prog w = .ok (.agg #[u0_, .int .u32 a1]) w := (by intro w u0_ hu0_; cases u0_ <;> first | (simp [Value.oneCell'] at hu0_; done) | kernel_rfl)
    refine SO.v rfl (opv_build (v := .agg #[v4, .int .u32 a1]) rfl (fun w => hB_ w v4 (Rd.one hr5))) ?_
    clear hB_
    refine SO.box rfl rfl rfl (fun b8 => ?_)
    refine SO.v rfl (opv_assign rfl) ?_
    refine SO.v rfl (opv_assign rfl) ?_
    refine SO.nil ?_
    refine S.to (ρ' := [(4, bp b8 0), (5, errV 43 none)]) ⟨rfl, rfl, trivial⟩ ?_
    cases h
    refine S.b2 ?_
    refine S.b2 ?_
    refine S.b2 ?_
    exact S.ret2 Try.func6 rfl rfl rfl (fun w hs hk => hR w _ _ ⟨b8, v4, rfl, rfl⟩ hs hk)
end Go.Proofs
namespace Go.Proofs
open Go.Sl Go.RowKit
/-! 19 (*padstone/word.Store).Len -/
def word_Store_Len.f (a0 : word_Store) : Option (Int) :=
  some (a0.l.length : Int)
set_option maxHeartbeats 8000000 in
set_option maxRecDepth 100000 in
theorem word_Store_Len.ct (bp0 : Nat) (v0_l : Value) (a0 : word_Store) (r0 : Int) (h : word_Store_Len.f a0 = some r0) :
    Ct Try.prog 19 [bp bp0 0] (fun _ => True) [Box bp0 [v0_l, .int .u32 a0.limit], Own 34 ek_api_Cell v0_l a0.l] (fun u H' => u = .int .i64 r0 ∧ H' = [Box bp0 [v0_l, .int .u32 a0.limit], Own 34 ek_api_Cell v0_l a0.l]) := by
  unfold word_Store_Len.f at h
  refine Ct.intro (n := 8) Try.func19 rfl rfl rfl ?_
  intro R w0 F hF hR
  refine S.b1 ?_
  refine S.rd fun hr1 => ?_
  refine S.seq ?_
  refine S.region ?_
  refine SO.v rfl (opv_assign rfl) ?_
  refine SO.nil ?_
  refine S.seq ?_
  refine S.region ?_
  refine SO.v rfl (opv_move rfl) ?_
  refine SO.v rfl (opv_nilCheck rfl) ?_
  refine SO.v rfl (opv_fieldAddr Try.underlying57 rfl Try.sizeOf45 rfl rfl) ?_
  refine SO.b1 ?_
  refine SO.load1 rfl Try.isAgg45 rfl rfl ?_
  refine SO.v rfl (opv_lenR rfl Try.underlying45 hr1 rfl) ?_
  refine SO.v rfl (opv_assign rfl) ?_
  refine SO.nil ?_
  cases h
  refine S.b2 ?_
  refine S.b2 ?_
  refine S.b2 ?_
  exact S.ret1 Try.func19 rfl rfl (fun w hs hk => hR w _ _ ⟨rfl, rfl⟩ hs hk)
end Go.Proofs
namespace Go.Proofs
open Go.Sl Go.RowKit
/-! 20 (*padstone/word.Store).Limit -/
def word_Store_Limit.f (a0 : word_Store) : Option (Int) :=
  some a0.limit
set_option maxHeartbeats 8000000 in
set_option maxRecDepth 100000 in
theorem word_Store_Limit.ct (bp0 : Nat) (v0_l : Value) (a0 : word_Store) (r0 : Int) (h : word_Store_Limit.f a0 = some r0) :
    Ct Try.prog 20 [bp bp0 0] (fun _ => True) [Box bp0 [v0_l, .int .u32 a0.limit], Own 34 ek_api_Cell v0_l a0.l] (fun u H' => u = .int .u32 r0 ∧ H' = [Box bp0 [v0_l, .int .u32 a0.limit], Own 34 ek_api_Cell v0_l a0.l]) := by
  unfold word_Store_Limit.f at h
  refine Ct.intro (n := 7) Try.func20 rfl rfl rfl ?_
  intro R w0 F hF hR
  refine S.b1 ?_
  refine S.rd fun hr1 => ?_
  refine S.seq ?_
  refine S.region ?_
  refine SO.v rfl (opv_assign rfl) ?_
  refine SO.nil ?_
  refine S.seq ?_
  refine S.region ?_
  refine SO.v rfl (opv_move rfl) ?_
  refine SO.v rfl (opv_nilCheck rfl) ?_
  refine SO.v rfl (opv_fieldAddr Try.underlying57 rfl Try.sizeOf22 rfl rfl) ?_
  refine SO.b1 ?_
  refine SO.load1 rfl Try.isAgg22 rfl rfl ?_
  refine SO.v rfl (opv_assign rfl) ?_
  refine SO.nil ?_
  cases h
  refine S.b2 ?_
  refine S.b2 ?_
  refine S.b2 ?_
  exact S.ret1 Try.func20 rfl rfl (fun w hs hk => hR w _ _ ⟨rfl, rfl⟩ hs hk)
end Go.Proofs
namespace Go.Proofs
open Go.Sl Go.RowKit
/-! 21 (*padstone/word.Store).has -/
def word_Store_has.f (a0 : word_Store) (a1 : Int) : Option (Bool) :=
  (bif decide (0 ≤ a1) then (some (decide (a1 < (a0.l.length : Int)))) else (some false)).bind fun c3 => some c3
set_option maxHeartbeats 8000000 in
set_option maxRecDepth 100000 in
theorem word_Store_has.ct (bp0 : Nat) (v0_l : Value) (a0 : word_Store) (a1 : Int) (r0 : Bool) (h : word_Store_has.f a0 a1 = some r0) :
    Ct Try.prog 21 [bp bp0 0, .int .i64 a1] (fun _ => True) [Box bp0 [v0_l, .int .u32 a0.limit], Own 34 ek_api_Cell v0_l a0.l] (fun u H' => u = .bool r0 ∧ H' = [Box bp0 [v0_l, .int .u32 a0.limit], Own 34 ek_api_Cell v0_l a0.l]) := by
  unfold word_Store_has.f at h
  refine Ct.intro (n := 16) Try.func21 rfl rfl rfl ?_
  intro R w0 F hF hR
  refine S.b1 ?_
  refine S.rd fun hr1 => ?_
  refine S.seq ?_
  refine S.region ?_
  refine SO.v rfl (opv_assign rfl) ?_
  refine SO.nil ?_
  refine S.seq ?_
  refine S.region ?_
  refine SO.v rfl (opv_move rfl) ?_
  refine SO.v rfl (opv_geq rfl rfl) ?_
  refine SO.v rfl (opv_move rfl) ?_
  obtain ⟨c3, hc4, hgk⟩ := opt_bind h
  refine SO.cut 8 15 (.bool c3) [Own 34 ek_api_Cell v0_l a0.l, Box bp0 [v0_l, .int .u32 a0.limit], F] (fun l2 hk2 => ?_) ?_
  · clear hgk
    replace h := hc4
    rcases bool_or (decide (0 ≤ a1)) with b2 | b2
    · replace h := cond_t b2 h
      refine SO.takeT rfl rfl rfl b2 ?_
      refine SO.v rfl (opv_move rfl) ?_
      refine SO.takeT rfl rfl rfl b2 ?_
      refine SO.v rfl (opv_move rfl) ?_
      refine SO.takeT rfl rfl rfl b2 ?_
      refine SO.v rfl (opv_nilCheck rfl) ?_
      refine SO.takeT rfl rfl rfl b2 ?_
      refine SO.v rfl (opv_fieldAddr Try.underlying57 rfl Try.sizeOf45 rfl rfl) ?_
      refine SO.takeT rfl rfl rfl b2 ?_
      refine SO.b1 ?_
      refine SO.load1 rfl Try.isAgg45 rfl rfl ?_
      refine SO.takeT rfl rfl rfl b2 ?_
      refine SO.v rfl (opv_lenR rfl Try.underlying45 hr1 rfl) ?_
      refine SO.takeT rfl rfl rfl b2 ?_
      refine SO.v rfl (opv_lss rfl rfl) ?_
      cases h
      refine SO.v rfl (opv_pick_t' b2 rfl rfl) ?_
      refine SO.b2 ?_
      refine SO.b1 ?_
      refine SO.b2 ?_
      exact hk2.fitc (m := 8) rfl (rfl) rfl
    · replace h := cond_f b2 h
      refine SO.passF rfl rfl rfl b2 rfl rfl ?_
      refine SO.passF rfl rfl rfl b2 rfl rfl ?_
      refine SO.passF rfl rfl rfl b2 rfl rfl ?_
      refine SO.passF rfl rfl rfl b2 rfl rfl ?_
      refine SO.passF rfl rfl rfl b2 rfl rfl ?_
      refine SO.passF rfl rfl rfl b2 rfl rfl ?_
      refine SO.passF rfl rfl rfl b2 rfl rfl ?_
      cases h
      refine SO.v rfl (opv_pick_f' b2 rfl rfl) ?_
      refine SO.b2 ?_
      refine SO.b2 ?_
      refine SO.b2 ?_
      exact hk2.fitc (m := 8) rfl (rfl) rfl
  clear hc4
  replace h := hgk
  refine SO.v rfl (opv_assign rfl) ?_
  refine SO.nil ?_
  cases h
  refine S.b2 ?_
  refine S.b1 ?_
  refine S.b2 ?_
  exact S.ret1 Try.func21 rfl rfl (fun w hs hk => hR w _ _ ⟨rfl, rfl⟩ hs hk)
end Go.Proofs
namespace Go.Proofs
open Go.Sl Go.RowKit
/-! 22 (*padstone/word.Store).own -/
def word_Store_own.f (a0 : word_Store) (a1 : Int) (a2 : Int) : Option ((Option Int)) :=
  (word_Store_has.f a0 a1).bind fun t2 => bif !t2 then (some (some 2)) else ((bif decide (a2 < 1) then (some true) else ((at_ a0.l a1).bind fun x8 => some (x8.Mark != a2))).bind fun c6 => bif c6 then (some (some 12)) else (some none))
set_option maxHeartbeats 8000000 in
set_option maxRecDepth 100000 in
theorem word_Store_own.ct (bp0 : Nat) (v0_l : Value) (a0 : word_Store) (a1 : Int) (a2 : Int) (r0 : Option Int) (h : word_Store_own.f a0 a1 a2 = some r0) :
    Ct Try.prog 22 [bp bp0 0, .int .i64 a1, .int .i64 a2] (fun _ => True) [Box bp0 [v0_l, .int .u32 a0.limit], Own 34 ek_api_Cell v0_l a0.l] (fun u H' => u = errV 43 r0 ∧ H' = [Box bp0 [v0_l, .int .u32 a0.limit], Own 34 ek_api_Cell v0_l a0.l]) := by
  unfold word_Store_own.f at h
  refine Ct.intro (n := 29) Try.func22 rfl rfl rfl ?_
  intro R w0 F hF hR
  refine S.b1 ?_
  refine S.rd fun hr1 => ?_
  refine S.seq ?_
  refine S.region ?_
  refine SO.v rfl (opv_assign rfl) ?_
  refine SO.nil ?_
  refine S.seq ?_
  refine S.block ?_
  refine S.seq ?_
  refine S.region ?_
  refine SO.v rfl (opv_move rfl) ?_
  refine SO.v rfl (opv_move rfl) ?_
  obtain ⟨t2, ht3, h⟩ := opt_bind h
  refine SO.b1 ?_
  refine SO.call (pre := [Box _ _, Own _ _ _ _]) rfl Try.call21 rfl rfl rfl (word_Store_has.ct bp0 v0_l _ _ _ ht3) trivial ?_
  rintro _ _ ⟨rfl, rfl⟩
  refine SO.v rfl (opv_not rfl) ?_
  refine SO.v rfl (opv_assign rfl) ?_
  refine SO.nil ?_
  rcases bool_or (!t2) with b4 | b4
  · replace h := cond_t b4 h
    refine S.condT rfl b4 ?_
    refine S.seq ?_
    refine S.region ?_
    refine SO.v rfl (opv_iface Try.underlying43 rfl rfl) ?_
    refine SO.v rfl (opv_assign rfl) ?_
    refine SO.nil ?_
    refine S.to (ρ' := [(6, errV 43 (some 2))]) ⟨rfl, trivial⟩ ?_
    cases h
    refine S.b2 ?_
    refine S.b2 ?_
    refine S.b2 ?_
    exact S.ret1 Try.func22 rfl rfl (fun w hs hk => hR w _ _ ⟨rfl, rfl⟩ hs hk)
  · replace h := cond_f b4 h
    refine S.condF rfl b4 ?_
    refine S.seq ?_
    refine S.region ?_
    refine SO.v rfl (opv_move rfl) ?_
    refine SO.v rfl (opv_lss rfl rfl) ?_
    refine SO.v rfl (opv_move rfl) ?_
    obtain ⟨c6, hc7, hgk⟩ := opt_bind h
    refine SO.cut 11 27 (.bool c6) [Box bp0 [v0_l, .int .u32 a0.limit], Own 34 ek_api_Cell v0_l a0.l, F] (fun l2 hk2 => ?_) ?_
    · clear hgk
      replace h := hc7
      rcases bool_or (decide (a2 < 1)) with b5 | b5
      · replace h := cond_t b5 h
        refine SO.passF rfl rfl rfl b5 rfl rfl ?_
        refine SO.passF rfl rfl rfl b5 rfl rfl ?_
        refine SO.passF rfl rfl rfl b5 rfl rfl ?_
        refine SO.passF rfl rfl rfl b5 rfl rfl ?_
        refine SO.passF rfl rfl rfl b5 rfl rfl ?_
        refine SO.passF rfl rfl rfl b5 rfl rfl ?_
        refine SO.passF rfl rfl rfl b5 rfl rfl ?_
        refine SO.passF rfl rfl rfl b5 rfl rfl ?_
        refine SO.passF rfl rfl rfl b5 rfl rfl ?_
        refine SO.passF rfl rfl rfl b5 rfl rfl ?_
        cases h
        refine SO.v rfl (opv_pick_t' b5 rfl rfl) ?_
        refine SO.b2 ?_
        refine SO.b2 ?_
        refine SO.b2 ?_
        exact hk2.fitc (m := 11) rfl (rfl) rfl
      · replace h := cond_f b5 h
        refine SO.takeT rfl rfl rfl b5 ?_
        refine SO.v rfl (opv_move rfl) ?_
        refine SO.takeT rfl rfl rfl b5 ?_
        refine SO.v rfl (opv_nilCheck rfl) ?_
        refine SO.takeT rfl rfl rfl b5 ?_
        refine SO.v rfl (opv_fieldAddr Try.underlying57 rfl Try.sizeOf45 rfl rfl) ?_
        refine SO.takeT rfl rfl rfl b5 ?_
        refine SO.load1 rfl Try.isAgg45 rfl rfl ?_
        refine SO.takeT rfl rfl rfl b5 ?_
        refine SO.v rfl (opv_move rfl) ?_
        refine SO.takeT rfl rfl rfl b5 ?_
        obtain ⟨x8, hx9, h⟩ := opt_bind h
        refine SO.v rfl (opv_idx Try.underlying45 Try.sizeOf34 hr1 rfl rfl hx9) ?_
        refine SO.takeT rfl rfl rfl b5 ?_
        refine SO.v rfl (opv_fieldIdx Try.underlying34 rfl Try.sizeOf3 hr1 hx9 rfl rfl) ?_
        refine SO.takeT rfl rfl rfl b5 ?_
        refine SO.loadI1 (j := 2) rfl Try.isAgg3 (Rd.tail (Rd.head hr1)) hx9 rfl rfl rfl rfl ?_
        refine SO.takeT rfl rfl rfl b5 ?_
        refine SO.v rfl (opv_move rfl) ?_
        refine SO.takeT rfl rfl rfl b5 ?_
        refine SO.v rfl (opv_neq rfl rfl) ?_
        cases h
        refine SO.v rfl (opv_pick_f' b5 rfl rfl) ?_
        refine SO.b2 ?_
        refine SO.b2 ?_
        refine SO.b2 ?_
        exact hk2.fitc (m := 11) rfl (rfl) rfl
    clear hc7
    replace h := hgk
    refine SO.v rfl (opv_assign rfl) ?_
    refine SO.nil ?_
    refine S.to (ρ' := [(6, errV 43 none), (13, .bool c6)]) ⟨rfl, rfl, trivial⟩ ?_
    rcases bool_or c6 with b10 | b10
    · replace h := cond_t b10 h
      refine S.condT rfl b10 ?_
      refine S.seq ?_
      refine S.region ?_
      refine SO.v rfl (opv_iface Try.underlying43 rfl rfl) ?_
      refine SO.v rfl (opv_assign rfl) ?_
      refine SO.nil ?_
      cases h
      refine S.b2 ?_
      refine S.b2 ?_
      refine S.b2 ?_
      exact S.ret1 Try.func22 rfl rfl (fun w hs hk => hR w _ _ ⟨rfl, rfl⟩ hs hk)
    · replace h := cond_f b10 h
      refine S.condF rfl b10 ?_
      refine S.skip ?_
      refine S.inBlock ?_
      refine S.seq ?_
      refine S.region ?_
      refine SO.v rfl (opv_assign rfl) ?_
      refine SO.nil ?_
      cases h
      refine S.b2 ?_
      refine S.b2 ?_
      refine S.b2 ?_
      exact S.ret1 Try.func22 rfl rfl (fun w hs hk => hR w _ _ ⟨rfl, rfl⟩ hs hk)
end Go.Proofs
namespace Go.Proofs
open Go.Sl Go.RowKit
/-! 11 (*padstone/word.Store).Put -/
def word_Store_Put.f (a0 : word_Store) (a1 : Int) (a2 : Int) (a3 : Int) : Option (((Option Int) × word_Store)) :=
  (word_Store_own.f a0 a1 a2).bind fun t2 => bif t2.isSome then (some (t2, a0)) else ((at_ a0.l a1).bind fun x5 => bif x5.Version == a0.limit then (some ((some 11), a0)) else ((at_ a0.l a1).bind fun x8 => (at_ a0.l a1).bind fun x10 => some (none, (⟨a0.l.set a1.toNat (⟨a3, wu32 (x8.Version + 1), 0⟩ : api_Cell), a0.limit⟩ : word_Store))))
set_option maxHeartbeats 8000000 in
set_option maxRecDepth 100000 in
theorem word_Store_Put.ct (bp0 : Nat) (v0_l : Value) (a0 : word_Store) (a1 : Int) (a2 : Int) (a3 : Int) (r0 : Option Int) (rp0 : word_Store) (h : word_Store_Put.f a0 a1 a2 a3 = some (r0, rp0)) :
    Ct Try.prog 11 [bp bp0 0, .int .i64 a1, .int .i64 a2, .int .u64 a3] (fun _ => True) [Box bp0 [v0_l, .int .u32 a0.limit], Own 34 ek_api_Cell v0_l a0.l] (fun u H' => ∃ rw0_l, u = errV 43 r0 ∧ H' = [Box bp0 [rw0_l, .int .u32 rp0.limit], Own 34 ek_api_Cell rw0_l rp0.l]) := by
  unfold word_Store_Put.f at h
  refine Ct.intro (n := 48) Try.func11 rfl rfl rfl ?_
  intro R w0 F hF hR
  refine S.b1 ?_
  refine S.rd fun hr1 => ?_
  refine S.seq ?_
  refine S.region ?_
  refine SO.v rfl (opv_assign rfl) ?_
  refine SO.nil ?_
  refine S.seq ?_
  refine S.seq ?_
  refine S.region ?_
  refine SO.v rfl (opv_move rfl) ?_
  refine SO.v rfl (opv_move rfl) ?_
  refine SO.v rfl (opv_move rfl) ?_
  obtain ⟨t2, ht3, h⟩ := opt_bind h
  refine SO.b1 ?_
  refine SO.call (pre := [Box _ _, Own _ _ _ _]) rfl Try.call22 rfl rfl rfl (word_Store_own.ct bp0 v0_l _ _ _ _ ht3) trivial ?_
  rintro _ _ ⟨rfl, rfl⟩
  refine SO.v rfl (opv_assign rfl) ?_
  refine SO.nil ?_
  refine S.seq ?_
  refine S.region ?_
  refine SO.v rfl (opv_move rfl) ?_
  refine SO.v rfl (opv_neqN (e := t2) Try.underlying27 rfl) ?_
  refine SO.nil ?_
  rcases bool_or t2.isSome with b4 | b4
  · replace h := cond_t b4 h
    refine S.condT rfl b4 ?_
    refine S.seq ?_
    refine S.region ?_
    refine SO.v rfl (opv_move rfl) ?_
    refine SO.v rfl (opv_assign rfl) ?_
    refine SO.nil ?_
    refine S.to (ρ' := [(8, errV 43 t2)]) ⟨rfl, trivial⟩ ?_
    cases h
    refine S.b2 ?_
    refine S.b2 ?_
    refine S.b2 ?_
    exact S.ret1 Try.func11 rfl rfl (fun w hs hk => hR w _ _ ⟨v0_l, rfl, rfl⟩ hs hk)
  · replace h := cond_f b4 h
    refine S.condF rfl b4 ?_
    refine S.skip ?_
    refine S.seq ?_
    refine S.seq ?_
    obtain ⟨x5, hx6, h⟩ := opt_bind h
    refine S.draw' (Z := fun Q => ∀ (_ : Unit) (_ : Unit) (_ : Unit) (_ : Unit) (_ : Unit) (_ : Unit) (_ : Unit), Q [(0, bp bp0 0), (1, .int .i64 a1), (8, errV 43 none), (3, .int .u64 a3), (29, .bool (x5.Version == a0.limit))] [Box bp0 [v0_l, .int .u32 a0.limit], Own 34 ek_api_Cell v0_l a0.l, F]) (T := [tS 0 (bp bp0 0), tS 1 (.int .i64 a1), tE [(8, errV 43 none), (3, .int .u64 a3)], tR (Box bp0 [v0_l, .int .u32 a0.limit]), tR (Own 34 ek_api_Cell v0_l a0.l), tR (F), tS 17 (bp bp0 0), tS 18 (bp bp0 0), tS 19 (bp bp0 0), tS 20 (v0_l), tS 21 (.int .i64 a1), tS 22 (idxp v0_l (a1.toNat * ek_api_Cell.sz)), tS 23 (idxp v0_l (a1.toNat * ek_api_Cell.sz + 1)), tS 24 (.int .u32 x5.Version), tS 25 (bp bp0 0), tS 26 (bp bp0 0), tS 27 (bp bp0 1), tS 28 (.int .u32 a0.limit), tS 29 (.bool (x5.Version == a0.limit))]) (D := [⟨[0], [], [6]⟩, ⟨[6], [], [7]⟩, ⟨[7], [], [8]⟩, ⟨[8, 3], [], [9]⟩, ⟨[1], [], [10]⟩, ⟨[9, 10, 4], [], [11]⟩, ⟨[11, 4], [], [12]⟩, ⟨[12, 4], [], [13]⟩, ⟨[0], [], [14]⟩, ⟨[14], [], [15]⟩, ⟨[15], [], [16]⟩, ⟨[16, 3], [], [17]⟩, ⟨[13, 17], [], [18]⟩]) (ini := [0, 1, 2, 3, 4, 5]) (fin := [0, 1, 2, 18, 3, 4, 5]) (bf := [[], [0], [0, 1], [0, 1, 2], [], [0, 1, 2, 3, 4], [0, 1, 2, 3, 4, 5], [0, 1, 2, 3, 4, 5, 6], [], [8], [8, 9], [8, 9, 10], [0, 1, 2, 3, 4, 5, 6, 7, 8, 9, 10, 11]]) (by kernel_rfl) (by kernel_rfl) (fun x w h1 h2 => (.cons () (.cons () (.cons () (.cons () (.cons () (.cons () (.nil ⟨EnvAll.of h1 ⟨rfl, rfl, rfl, rfl, trivial⟩, h2⟩)))))))) (fun Q => by kernel_rfl) ⟨?_, ?_, ?_, ?_, ?_, ?_, ?_, ?_, ?_, ?_, ?_, ?_, ?_, trivial⟩ ?_
    · rintro Fr _
      refine SO.v rfl (opv_move rfl) ?_
      exact SO.nilZ fun a w h1 h2 h3 h4 h5 => PZ.of h1 h3 h5 (.cons () (.cons () (.nil ⟨EnvAll.of h2 ⟨rfl, rfl, trivial⟩, h4⟩)))
    · rintro Fr _
      refine SO.v rfl (opv_nilCheck rfl) ?_
      exact SO.nilZ fun a w h1 h2 h3 h4 h5 => PZ.of h1 h3 h5 (.cons () (.cons () (.nil ⟨EnvAll.of h2 ⟨rfl, rfl, trivial⟩, h4⟩)))
    · rintro Fr _
      refine SO.v rfl (opv_fieldAddr Try.underlying57 rfl Try.sizeOf45 rfl rfl) ?_
      exact SO.nilZ fun a w h1 h2 h3 h4 h5 => PZ.of h1 h3 h5 (.cons () (.cons () (.nil ⟨EnvAll.of h2 ⟨rfl, rfl, trivial⟩, h4⟩)))
    · rintro Fr _ _
      refine SO.load1 rfl Try.isAgg45 rfl rfl ?_
      exact SO.nilZ fun a w h1 h2 h3 h4 h5 => PZ.of h1 h3 h5 (.cons () (.cons () (.cons () (.nil ⟨EnvAll.of h2 ⟨rfl, rfl, trivial⟩, h4⟩))))
    · rintro Fr _
      refine SO.v rfl (opv_move rfl) ?_
      exact SO.nilZ fun a w h1 h2 h3 h4 h5 => PZ.of h1 h3 h5 (.cons () (.cons () (.nil ⟨EnvAll.of h2 ⟨rfl, rfl, trivial⟩, h4⟩)))
    · rintro Fr _ _ _
      refine SO.v rfl (opv_idx Try.underlying45 Try.sizeOf34 hr1 rfl rfl hx6) ?_
      exact SO.nilZ fun a w h1 h2 h3 h4 h5 => PZ.of h1 h3 h5 (.cons () (.cons () (.cons () (.cons () (.nil ⟨EnvAll.of h2 ⟨rfl, rfl, rfl, trivial⟩, h4⟩)))))
    · rintro Fr _ _
      refine SO.v rfl (opv_fieldIdx Try.underlying34 rfl Try.sizeOf22 hr1 hx6 rfl rfl) ?_
      exact SO.nilZ fun a w h1 h2 h3 h4 h5 => PZ.of h1 h3 h5 (.cons () (.cons () (.cons () (.nil ⟨EnvAll.of h2 ⟨rfl, rfl, trivial⟩, h4⟩))))
    · rintro Fr _ _
      refine SO.loadI1 (j := 1) rfl Try.isAgg22 (Rd.head hr1) hx6 rfl rfl rfl rfl ?_
      exact SO.nilZ fun a w h1 h2 h3 h4 h5 => PZ.of h1 h3 h5 (.cons () (.cons () (.cons () (.nil ⟨EnvAll.of h2 ⟨rfl, rfl, trivial⟩, h4⟩))))
    · rintro Fr _
      refine SO.v rfl (opv_move rfl) ?_
      exact SO.nilZ fun a w h1 h2 h3 h4 h5 => PZ.of h1 h3 h5 (.cons () (.cons () (.nil ⟨EnvAll.of h2 ⟨rfl, rfl, trivial⟩, h4⟩)))
    · rintro Fr _
      refine SO.v rfl (opv_nilCheck rfl) ?_
      exact SO.nilZ fun a w h1 h2 h3 h4 h5 => PZ.of h1 h3 h5 (.cons () (.cons () (.nil ⟨EnvAll.of h2 ⟨rfl, rfl, trivial⟩, h4⟩)))
    · rintro Fr _
      refine SO.v rfl (opv_fieldAddr Try.underlying57 rfl Try.sizeOf22 rfl rfl) ?_
      exact SO.nilZ fun a w h1 h2 h3 h4 h5 => PZ.of h1 h3 h5 (.cons () (.cons () (.nil ⟨EnvAll.of h2 ⟨rfl, rfl, trivial⟩, h4⟩)))
    · rintro Fr _ _
      refine SO.load1 rfl Try.isAgg22 rfl rfl ?_
      exact SO.nilZ fun a w h1 h2 h3 h4 h5 => PZ.of h1 h3 h5 (.cons () (.cons () (.cons () (.nil ⟨EnvAll.of h2 ⟨rfl, rfl, trivial⟩, h4⟩))))
    · rintro Fr _ _
      refine SO.v rfl (opv_eql rfl rfl) ?_
      exact SO.nilZ fun a w h1 h2 h3 h4 h5 => PZ.of h1 h3 h5 (.cons () (.cons () (.cons () (.nil ⟨EnvAll.of h2 ⟨rfl, rfl, rfl, trivial⟩, h4⟩))))
    rintro _ _ _ _ _ _ _
    refine S.to (ρ' := [(0, bp bp0 0), (1, .int .i64 a1), (8, errV 43 none), (3, .int .u64 a3), (29, .bool (x5.Version == a0.limit))]) ⟨rfl, rfl, rfl, rfl, rfl, trivial⟩ ?_
    rcases bool_or (x5.Version == a0.limit) with b7 | b7
    · replace h := cond_t b7 h
      refine S.condT rfl b7 ?_
      refine S.seq ?_
      refine S.region ?_
      refine SO.v rfl (opv_iface Try.underlying43 rfl rfl) ?_
      refine SO.v rfl (opv_assign rfl) ?_
      refine SO.nil ?_
      cases h
      refine S.b2 ?_
      refine S.b2 ?_
      refine S.b2 ?_
      exact S.ret1 Try.func11 rfl rfl (fun w hs hk => hR w _ _ ⟨v0_l, rfl, rfl⟩ hs hk)
    · replace h := cond_f b7 h
      refine S.condF rfl b7 ?_
      refine S.skip ?_
      refine S.seq ?_
      obtain ⟨x8, hx9, h⟩ := opt_bind h
      obtain ⟨x10, hx11, h⟩ := opt_bind h
      refine S.draw' (Z := fun Q => ∀ (_ : Unit) (_ : Unit) (_ : Unit) (_ : Unit), Q [(8, errV 43 none)] [Box bp0 [v0_l, .int .u32 a0.limit], Own 34 ek_api_Cell v0_l (a0.l.set a1.toNat (⟨a3, wu32 (x8.Version + 1), 0⟩ : api_Cell)), F]) (T := [tS 0 (bp bp0 0), tS 1 (.int .i64 a1), tS 3 (.int .u64 a3), tS 8 (errV 43 none), tR (Box bp0 [v0_l, .int .u32 a0.limit]), tR (Own 34 ek_api_Cell v0_l a0.l), tR (F), tS 31 (bp bp0 0), tS 32 (bp bp0 0), tS 33 (bp bp0 0), tS 34 (v0_l), tS 35 (.int .i64 a1), tS 36 (.int .u64 a3), tS 37 (bp bp0 0), tS 38 (bp bp0 0), tS 39 (bp bp0 0), tS 40 (v0_l), tS 41 (.int .i64 a1), tS 42 (idxp v0_l (a1.toNat * ek_api_Cell.sz)), tS 43 (idxp v0_l (a1.toNat * ek_api_Cell.sz + 1)), tS 44 (.int .u32 x8.Version), tS 45 (.int .u32 (wu32 (x8.Version + 1))), tS 46 (.agg #[.int .u64 a3, .int .u32 (wu32 (x8.Version + 1)), .int .i64 0]), tS 47 (idxp v0_l (a1.toNat * ek_api_Cell.sz)), tR (Own 34 ek_api_Cell v0_l (a0.l.set a1.toNat (⟨a3, wu32 (x8.Version + 1), 0⟩ : api_Cell)))]) (D := [⟨[0], [], [7]⟩, ⟨[7], [], [8]⟩, ⟨[8], [], [9]⟩, ⟨[9, 4], [], [10]⟩, ⟨[1], [], [11]⟩, ⟨[2], [], [12]⟩, ⟨[0], [], [13]⟩, ⟨[13], [], [14]⟩, ⟨[14], [], [15]⟩, ⟨[15, 4], [], [16]⟩, ⟨[1], [], [17]⟩, ⟨[16, 17, 5], [], [18]⟩, ⟨[18, 5], [], [19]⟩, ⟨[19, 5], [], [20]⟩, ⟨[20], [], [21]⟩, ⟨[12, 21], [], [22]⟩, ⟨[10, 11, 5], [], [23]⟩, ⟨[22, 23], [5], [24]⟩]) (ini := [0, 1, 2, 3, 4, 5, 6]) (fin := [3, 4, 24, 6]) (bf := [[], [0], [0, 1], [0, 1, 2], [], [], [], [6], [6, 7], [6, 7, 8], [], [6, 7, 8, 9, 10], [6, 7, 8, 9, 10, 11], [6, 7, 8, 9, 10, 11, 12], [6, 7, 8, 9, 10, 11, 12, 13], [5, 6, 7, 8, 9, 10, 11, 12, 13, 14], [0, 1, 2, 3, 4, 5, 6, 7, 8, 9, 10, 11, 12, 13, 14, 15], [0, 1, 2, 3, 4, 5, 6, 7, 8, 9, 10, 11, 12, 13, 14, 15, 16]]) (by kernel_rfl) (by kernel_rfl) (fun x w h1 h2 => (.cons () (.cons () (.cons () (.cons () (.cons () (.cons () (.cons () (.nil ⟨EnvAll.of h1 ⟨rfl, rfl, rfl, rfl, trivial⟩, h2⟩))))))))) (fun Q => by kernel_rfl) ⟨?_, ?_, ?_, ?_, ?_, ?_, ?_, ?_, ?_, ?_, ?_, ?_, ?_, ?_, ?_, ?_, ?_, ?_, trivial⟩ ?_
      · rintro Fr _
        refine SO.v rfl (opv_move rfl) ?_
        exact SO.nilZ fun a w h1 h2 h3 h4 h5 => PZ.of h1 h3 h5 (.cons () (.cons () (.nil ⟨EnvAll.of h2 ⟨rfl, rfl, trivial⟩, h4⟩)))
      · rintro Fr _
        refine SO.v rfl (opv_nilCheck rfl) ?_
        exact SO.nilZ fun a w h1 h2 h3 h4 h5 => PZ.of h1 h3 h5 (.cons () (.cons () (.nil ⟨EnvAll.of h2 ⟨rfl, rfl, trivial⟩, h4⟩)))
      · rintro Fr _
        refine SO.v rfl (opv_fieldAddr Try.underlying57 rfl Try.sizeOf45 rfl rfl) ?_
        exact SO.nilZ fun a w h1 h2 h3 h4 h5 => PZ.of h1 h3 h5 (.cons () (.cons () (.nil ⟨EnvAll.of h2 ⟨rfl, rfl, trivial⟩, h4⟩)))
      · rintro Fr _ _
        refine SO.load1 rfl Try.isAgg45 rfl rfl ?_
        exact SO.nilZ fun a w h1 h2 h3 h4 h5 => PZ.of h1 h3 h5 (.cons () (.cons () (.cons () (.nil ⟨EnvAll.of h2 ⟨rfl, rfl, trivial⟩, h4⟩))))
      · rintro Fr _
        refine SO.v rfl (opv_move rfl) ?_
        exact SO.nilZ fun a w h1 h2 h3 h4 h5 => PZ.of h1 h3 h5 (.cons () (.cons () (.nil ⟨EnvAll.of h2 ⟨rfl, rfl, trivial⟩, h4⟩)))
      · rintro Fr _
        refine SO.v rfl (opv_move rfl) ?_
        exact SO.nilZ fun a w h1 h2 h3 h4 h5 => PZ.of h1 h3 h5 (.cons () (.cons () (.nil ⟨EnvAll.of h2 ⟨rfl, rfl, trivial⟩, h4⟩)))
      · rintro Fr _
        refine SO.v rfl (opv_move rfl) ?_
        exact SO.nilZ fun a w h1 h2 h3 h4 h5 => PZ.of h1 h3 h5 (.cons () (.cons () (.nil ⟨EnvAll.of h2 ⟨rfl, rfl, trivial⟩, h4⟩)))
      · rintro Fr _
        refine SO.v rfl (opv_nilCheck rfl) ?_
        exact SO.nilZ fun a w h1 h2 h3 h4 h5 => PZ.of h1 h3 h5 (.cons () (.cons () (.nil ⟨EnvAll.of h2 ⟨rfl, rfl, trivial⟩, h4⟩)))
      · rintro Fr _
        refine SO.v rfl (opv_fieldAddr Try.underlying57 rfl Try.sizeOf45 rfl rfl) ?_
        exact SO.nilZ fun a w h1 h2 h3 h4 h5 => PZ.of h1 h3 h5 (.cons () (.cons () (.nil ⟨EnvAll.of h2 ⟨rfl, rfl, trivial⟩, h4⟩)))
      · rintro Fr _ _
        refine SO.load1 rfl Try.isAgg45 rfl rfl ?_
        exact SO.nilZ fun a w h1 h2 h3 h4 h5 => PZ.of h1 h3 h5 (.cons () (.cons () (.cons () (.nil ⟨EnvAll.of h2 ⟨rfl, rfl, trivial⟩, h4⟩))))
      · rintro Fr _
        refine SO.v rfl (opv_move rfl) ?_
        exact SO.nilZ fun a w h1 h2 h3 h4 h5 => PZ.of h1 h3 h5 (.cons () (.cons () (.nil ⟨EnvAll.of h2 ⟨rfl, rfl, trivial⟩, h4⟩)))
      · rintro Fr _ _ _
        refine SO.v rfl (opv_idx Try.underlying45 Try.sizeOf34 hr1 rfl rfl hx9) ?_
        exact SO.nilZ fun a w h1 h2 h3 h4 h5 => PZ.of h1 h3 h5 (.cons () (.cons () (.cons () (.cons () (.nil ⟨EnvAll.of h2 ⟨rfl, rfl, rfl, trivial⟩, h4⟩)))))
      · rintro Fr _ _
        refine SO.v rfl (opv_fieldIdx Try.underlying34 rfl Try.sizeOf22 hr1 hx9 rfl rfl) ?_
        exact SO.nilZ fun a w h1 h2 h3 h4 h5 => PZ.of h1 h3 h5 (.cons () (.cons () (.cons () (.nil ⟨EnvAll.of h2 ⟨rfl, rfl, trivial⟩, h4⟩))))
      · rintro Fr _ _
        refine SO.loadI1 (j := 1) rfl Try.isAgg22 (Rd.head hr1) hx9 rfl rfl rfl rfl ?_
        exact SO.nilZ fun a w h1 h2 h3 h4 h5 => PZ.of h1 h3 h5 (.cons () (.cons () (.cons () (.nil ⟨EnvAll.of h2 ⟨rfl, rfl, trivial⟩, h4⟩))))
      · rintro Fr _
        refine SO.v rfl (opv_add rfl rfl) ?_
        exact SO.nilZ fun a w h1 h2 h3 h4 h5 => PZ.of h1 h3 h5 (.cons () (.cons () (.nil ⟨EnvAll.of h2 ⟨rfl, rfl, trivial⟩, h4⟩)))
      · rintro Fr _ _
        refine SO.v rfl (opv_build (v := .agg #[.int .u64 a3, .int .u32 (wu32 (x8.Version + 1)), .int .i64 0]) rfl (by intro w; kernel_rfl)) ?_
        exact SO.nilZ fun a w h1 h2 h3 h4 h5 => PZ.of h1 h3 h5 (.cons () (.cons () (.cons () (.nil ⟨EnvAll.of h2 ⟨rfl, rfl, rfl, trivial⟩, h4⟩))))
      · rintro Fr _ _ _
        refine SO.v rfl (opv_idx Try.underlying45 Try.sizeOf34 hr1 rfl rfl hx11) ?_
        exact SO.nilZ fun a w h1 h2 h3 h4 h5 => PZ.of h1 h3 h5 (.cons () (.cons () (.cons () (.cons () (.nil ⟨EnvAll.of h2 ⟨rfl, rfl, rfl, trivial⟩, h4⟩)))))
      · rintro Fr _ _ _
        refine SO.storeIN (z' := (⟨a3, wu32 (x8.Version + 1), 0⟩ : api_Cell)) Try.sizeOf34 hx11 rfl rfl rfl rfl ?_
        refine SO.rd fun hr12 => ?_
        exact SO.nilZ fun a w h1 h2 h3 h4 h5 => PZ.of h1 h3 h5 (.cons () (.cons () (.cons () (.nil ⟨EnvAll.of h2 ⟨rfl, rfl, trivial⟩, h4⟩))))
      rintro _ _ _ _
      refine S.to (ρ' := [(8, errV 43 none)]) ⟨rfl, trivial⟩ ?_
      refine S.b1 ?_
      refine S.rd fun hr13 => ?_
      refine S.seq ?_
      refine S.region ?_
      refine SO.v rfl (opv_assign rfl) ?_
      refine SO.nil ?_
      cases h
      refine S.b2 ?_
      refine S.b1 ?_
      refine S.b2 ?_
      exact S.ret1 Try.func11 rfl rfl (fun w hs hk => hR w _ _ ⟨v0_l, rfl, rfl⟩ hs hk)
end Go.Proofs
namespace Go.Proofs
open Go.Sl Go.RowKit
/-! 7 (*padstone/word.Store).Read -/
def word_Store_Read.f (a0 : word_Store) (a1 : Int) : Option ((api_Cell × (Option Int))) :=
  (word_Store_has.f a0 a1).bind fun t3 => bif !t3 then (some ((⟨0, 0, 0⟩ : api_Cell), (some 2))) else ((at_ a0.l a1).bind fun x6 => some (x6, none))
set_option maxHeartbeats 8000000 in
set_option maxRecDepth 100000 in
theorem word_Store_Read.ct (bp0 : Nat) (v0_l : Value) (a0 : word_Store) (a1 : Int) (r0 : api_Cell) (r1 : Option Int) (h : word_Store_Read.f a0 a1 = some (r0, r1)) :
    Ct Try.prog 7 [bp bp0 0, .int .i64 a1] (fun _ => True) [Box bp0 [v0_l, .int .u32 a0.limit], Own 34 ek_api_Cell v0_l a0.l] (fun u H' => u = .tuple #[.agg #[.int .u64 r0.Value, .int .u32 r0.Version, .int .i64 r0.Mark], errV 43 r1] ∧ H' = [Box bp0 [v0_l, .int .u32 a0.limit], Own 34 ek_api_Cell v0_l a0.l]) := by
  unfold word_Store_Read.f at h
  refine Ct.intro (n := 19) Try.func7 rfl rfl rfl ?_
  intro R w0 F hF hR
  refine S.b1 ?_
  refine S.rd fun hr1 => ?_
  refine S.seq ?_
  refine S.region ?_
  refine SO.alloc rfl Try.zeroValue34 rfl (fun b2 => ?_)
  refine SO.v rfl (opv_assign rfl) ?_
  refine SO.nil ?_
  refine S.seq ?_
  refine S.seq ?_
  refine S.region ?_
  refine SO.v rfl (opv_move rfl) ?_
  refine SO.v rfl (opv_move rfl) ?_
  obtain ⟨t3, ht4, h⟩ := opt_bind h
  refine SO.b1 ?_
  refine SO.b2 ?_
  refine SO.call (pre := [Box _ _, Own _ _ _ _]) rfl Try.call21 rfl rfl rfl (word_Store_has.ct bp0 v0_l _ _ _ ht4) trivial ?_
  rintro _ _ ⟨rfl, rfl⟩
  refine SO.v rfl (opv_not rfl) ?_
  refine SO.nil ?_
  rcases bool_or (!t3) with b5 | b5
  · replace h := cond_t b5 h
    refine S.condT rfl b5 ?_
    refine S.seq ?_
    refine S.region ?_
    refine SO.v rfl (opv_build (v := .agg #[.int .u64 0, .int .u32 0, .int .i64 0]) rfl (by intro w; kernel_rfl)) ?_
    refine SO.v rfl (opv_iface Try.underlying43 rfl rfl) ?_
    refine SO.b2 ?_
    refine SO.storeN Try.sizeOf34 rfl rfl rfl rfl rfl rfl ?_
    refine SO.v rfl (opv_assign rfl) ?_
    refine SO.nil ?_
    refine S.to (ρ' := [(4, bp b2 0), (5, errV 43 (some 2))]) ⟨rfl, rfl, trivial⟩ ?_
    cases h
    refine S.b3 ?_
    refine S.b3 ?_
    refine S.b3 ?_
    refine S.b3 ?_
    exact S.retC1 Try.func7 rfl rfl rfl Try.isAgg34 Try.sizeOf34 rfl rfl (fun w hs hk => hR w _ _ ⟨rfl, rfl⟩ hs.drop hk)
  · replace h := cond_f b5 h
    refine S.condF rfl b5 ?_
    refine S.skip ?_
    refine S.seq ?_
    refine S.region ?_
    refine SO.v rfl (opv_move rfl) ?_
    refine SO.v rfl (opv_nilCheck rfl) ?_
    refine SO.v rfl (opv_fieldAddr Try.underlying57 rfl Try.sizeOf45 rfl rfl) ?_
    refine SO.load1 rfl Try.isAgg45 rfl rfl ?_
    refine SO.v rfl (opv_move rfl) ?_
    obtain ⟨x6, hx7, h⟩ := opt_bind h
    refine SO.v rfl (opv_idx Try.underlying45 Try.sizeOf34 hr1 rfl rfl hx7) ?_
    refine SO.loadIN rfl Try.isAgg34 Try.sizeOf34 (Rd.tail (Rd.head hr1)) hx7 rfl rfl rfl ?_
    refine SO.b2 ?_
    refine SO.storeN Try.sizeOf34 rfl rfl rfl rfl rfl rfl ?_
    refine SO.v rfl (opv_assign rfl) ?_
    refine SO.nil ?_
    refine S.to (ρ' := [(4, bp b2 0), (5, errV 43 none)]) ⟨rfl, rfl, trivial⟩ ?_
    cases h
    refine S.b3 ?_
    refine S.b3 ?_
    refine S.b3 ?_
    refine S.b3 ?_
    exact S.retC1 Try.func7 rfl rfl rfl Try.isAgg34 Try.sizeOf34 rfl rfl (fun w hs hk => hR w _ _ ⟨rfl, rfl⟩ hs.drop hk)
end Go.Proofs
namespace Go.Proofs
open Go.Sl Go.RowKit
/-! 9 (*padstone/word.Store).Reserve -/
def word_Store_Reserve.f (a0 : word_Store) (a1 : Int) (a2 : Int) (a3 : Int) : Option (((Option Int) × word_Store)) :=
  (word_Store_has.f a0 a1).bind fun t2 => bif !t2 then (some ((some 2), a0)) else (bif decide (a3 < 1) then (some ((some 1), a0)) else ((at_ a0.l a1).bind fun x6 => (bif x6.Mark != 0 then ((at_ a0.l a1).bind fun x11 => some (x11.Mark != a3)) else (some false)).bind fun c9 => bif c9 then (some ((some 12), a0)) else ((at_ a0.l a1).bind fun x14 => bif x14.Version != a2 then (some ((some 10), a0)) else ((at_ a0.l a1).bind fun x17 => some (none, (⟨a0.l.set a1.toNat ({ x17 with Mark := a3 } : api_Cell), a0.limit⟩ : word_Store))))))
set_option maxHeartbeats 8000000 in
set_option maxRecDepth 100000 in
theorem word_Store_Reserve.ct (bp0 : Nat) (v0_l : Value) (a0 : word_Store) (a1 : Int) (a2 : Int) (a3 : Int) (r0 : Option Int) (rp0 : word_Store) (h : word_Store_Reserve.f a0 a1 a2 a3 = some (r0, rp0)) :
    Ct Try.prog 9 [bp bp0 0, .int .i64 a1, .int .u32 a2, .int .i64 a3] (fun _ => True) [Box bp0 [v0_l, .int .u32 a0.limit], Own 34 ek_api_Cell v0_l a0.l] (fun u H' => ∃ rw0_l, u = errV 43 r0 ∧ H' = [Box bp0 [rw0_l, .int .u32 rp0.limit], Own 34 ek_api_Cell rw0_l rp0.l]) := by
  unfold word_Store_Reserve.f at h
  refine Ct.intro (n := 62) Try.func9 rfl rfl rfl ?_
  intro R w0 F hF hR
  refine S.b1 ?_
  refine S.rd fun hr1 => ?_
  refine S.seq ?_
  refine S.region ?_
  refine SO.v rfl (opv_assign rfl) ?_
  refine SO.nil ?_
  refine S.seq ?_
  refine S.block ?_
  refine S.seq ?_
  refine S.region ?_
  refine SO.v rfl (opv_move rfl) ?_
  refine SO.v rfl (opv_move rfl) ?_
  obtain ⟨t2, ht3, h⟩ := opt_bind h
  refine SO.b1 ?_
  refine SO.call (pre := [Box _ _, Own _ _ _ _]) rfl Try.call21 rfl rfl rfl (word_Store_has.ct bp0 v0_l _ _ _ ht3) trivial ?_
  rintro _ _ ⟨rfl, rfl⟩
  refine SO.v rfl (opv_not rfl) ?_
  refine SO.v rfl (opv_assign rfl) ?_
  refine SO.nil ?_
  rcases bool_or (!t2) with b4 | b4
  · replace h := cond_t b4 h
    refine S.condT rfl b4 ?_
    refine S.seq ?_
    refine S.region ?_
    refine SO.v rfl (opv_iface Try.underlying43 rfl rfl) ?_
    refine SO.v rfl (opv_assign rfl) ?_
    refine SO.nil ?_
    refine S.to (ρ' := [(8, errV 43 (some 2))]) ⟨rfl, trivial⟩ ?_
    cases h
    refine S.b2 ?_
    refine S.b2 ?_
    refine S.b2 ?_
    exact S.ret1 Try.func9 rfl rfl (fun w hs hk => hR w _ _ ⟨v0_l, rfl, rfl⟩ hs hk)
  · replace h := cond_f b4 h
    refine S.condF rfl b4 ?_
    refine S.seq ?_
    refine S.region ?_
    refine SO.v rfl (opv_move rfl) ?_
    refine SO.v rfl (opv_lss rfl rfl) ?_
    refine SO.v rfl (opv_assign rfl) ?_
    refine SO.nil ?_
    refine S.to (ρ' := [(0, bp bp0 0), (1, .int .i64 a1), (2, .int .u32 a2), (3, .int .i64 a3), (8, errV 43 none), (15, .bool (decide (a3 < 1)))]) ⟨rfl, rfl, rfl, rfl, rfl, rfl, trivial⟩ ?_
    rcases bool_or (decide (a3 < 1)) with b5 | b5
    · replace h := cond_t b5 h
      refine S.condT rfl b5 ?_
      refine S.seq ?_
      refine S.region ?_
      refine SO.v rfl (opv_iface Try.underlying43 rfl rfl) ?_
      refine SO.v rfl (opv_assign rfl) ?_
      refine SO.nil ?_
      cases h
      refine S.b2 ?_
      refine S.b2 ?_
      refine S.b2 ?_
      exact S.ret1 Try.func9 rfl rfl (fun w hs hk => hR w _ _ ⟨v0_l, rfl, rfl⟩ hs hk)
    · replace h := cond_f b5 h
      refine S.condF rfl b5 ?_
      refine S.seq ?_
      refine S.region ?_
      refine SO.v rfl (opv_move rfl) ?_
      refine SO.v rfl (opv_nilCheck rfl) ?_
      refine SO.v rfl (opv_fieldAddr Try.underlying57 rfl Try.sizeOf45 rfl rfl) ?_
      refine SO.load1 rfl Try.isAgg45 rfl rfl ?_
      refine SO.v rfl (opv_move rfl) ?_
      obtain ⟨x6, hx7, h⟩ := opt_bind h
      refine SO.v rfl (opv_idx Try.underlying45 Try.sizeOf34 hr1 rfl rfl hx7) ?_
      refine SO.v rfl (opv_fieldIdx Try.underlying34 rfl Try.sizeOf3 hr1 hx7 rfl rfl) ?_
      refine SO.loadI1 (j := 2) rfl Try.isAgg3 (Rd.tail (Rd.head hr1)) hx7 rfl rfl rfl rfl ?_
      refine SO.v rfl (opv_neq rfl rfl) ?_
      refine SO.v rfl (opv_move rfl) ?_
      obtain ⟨c9, hc10, hgk⟩ := opt_bind h
      refine SO.cut 11 40 (.bool c9) [Box bp0 [v0_l, .int .u32 a0.limit], Own 34 ek_api_Cell v0_l a0.l, F] (fun l2 hk2 => ?_) ?_
      · clear hgk
        replace h := hc10
        rcases bool_or (x6.Mark != 0) with b8 | b8
        · replace h := cond_t b8 h
          refine SO.takeT rfl rfl rfl b8 ?_
          refine SO.v rfl (opv_move rfl) ?_
          refine SO.takeT rfl rfl rfl b8 ?_
          refine SO.v rfl (opv_nilCheck rfl) ?_
          refine SO.takeT rfl rfl rfl b8 ?_
          refine SO.v rfl (opv_fieldAddr Try.underlying57 rfl Try.sizeOf45 rfl rfl) ?_
          refine SO.takeT rfl rfl rfl b8 ?_
          refine SO.load1 rfl Try.isAgg45 rfl rfl ?_
          refine SO.takeT rfl rfl rfl b8 ?_
          refine SO.v rfl (opv_move rfl) ?_
          refine SO.takeT rfl rfl rfl b8 ?_
          obtain ⟨x11, hx12, h⟩ := opt_bind h
          refine SO.v rfl (opv_idx Try.underlying45 Try.sizeOf34 hr1 rfl rfl hx12) ?_
          refine SO.takeT rfl rfl rfl b8 ?_
          refine SO.v rfl (opv_fieldIdx Try.underlying34 rfl Try.sizeOf3 hr1 hx12 rfl rfl) ?_
          refine SO.takeT rfl rfl rfl b8 ?_
          refine SO.loadI1 (j := 2) rfl Try.isAgg3 (Rd.tail (Rd.head hr1)) hx12 rfl rfl rfl rfl ?_
          refine SO.takeT rfl rfl rfl b8 ?_
          refine SO.v rfl (opv_move rfl) ?_
          refine SO.takeT rfl rfl rfl b8 ?_
          refine SO.v rfl (opv_neq rfl rfl) ?_
          cases h
          refine SO.v rfl (opv_pick_t' b8 rfl rfl) ?_
          refine SO.b2 ?_
          refine SO.b2 ?_
          refine SO.b2 ?_
          exact hk2.fitc (m := 11) rfl (rfl) rfl
        · replace h := cond_f b8 h
          refine SO.passF rfl rfl rfl b8 rfl rfl ?_
          refine SO.passF rfl rfl rfl b8 rfl rfl ?_
          refine SO.passF rfl rfl rfl b8 rfl rfl ?_
          refine SO.passF rfl rfl rfl b8 rfl rfl ?_
          refine SO.passF rfl rfl rfl b8 rfl rfl ?_
          refine SO.passF rfl rfl rfl b8 rfl rfl ?_
          refine SO.passF rfl rfl rfl b8 rfl rfl ?_
          refine SO.passF rfl rfl rfl b8 rfl rfl ?_
          refine SO.passF rfl rfl rfl b8 rfl rfl ?_
          refine SO.passF rfl rfl rfl b8 rfl rfl ?_
          cases h
          refine SO.v rfl (opv_pick_f' b8 rfl rfl) ?_
          refine SO.b2 ?_
          refine SO.b2 ?_
          refine SO.b2 ?_
          exact hk2.fitc (m := 11) rfl (rfl) rfl
      clear hc10
      replace h := hgk
      refine SO.v rfl (opv_assign rfl) ?_
      refine SO.nil ?_
      refine S.to (ρ' := [(0, bp bp0 0), (1, .int .i64 a1), (2, .int .u32 a2), (3, .int .i64 a3), (8, errV 43 none), (19, .bool c9)]) ⟨rfl, rfl, rfl, rfl, rfl, rfl, trivial⟩ ?_
      rcases bool_or c9 with b13 | b13
      · replace h := cond_t b13 h
        refine S.condT rfl b13 ?_
        refine S.seq ?_
        refine S.region ?_
        refine SO.v rfl (opv_iface Try.underlying43 rfl rfl) ?_
        refine SO.v rfl (opv_assign rfl) ?_
        refine SO.nil ?_
        cases h
        refine S.b2 ?_
        refine S.b2 ?_
        refine S.b2 ?_
        exact S.ret1 Try.func9 rfl rfl (fun w hs hk => hR w _ _ ⟨v0_l, rfl, rfl⟩ hs hk)
      · replace h := cond_f b13 h
        refine S.condF rfl b13 ?_
        refine S.seq ?_
        refine S.region ?_
        refine SO.v rfl (opv_move rfl) ?_
        refine SO.v rfl (opv_nilCheck rfl) ?_
        refine SO.v rfl (opv_fieldAddr Try.underlying57 rfl Try.sizeOf45 rfl rfl) ?_
        refine SO.load1 rfl Try.isAgg45 rfl rfl ?_
        refine SO.v rfl (opv_move rfl) ?_
        obtain ⟨x14, hx15, h⟩ := opt_bind h
        refine SO.v rfl (opv_idx Try.underlying45 Try.sizeOf34 hr1 rfl rfl hx15) ?_
        refine SO.v rfl (opv_fieldIdx Try.underlying34 rfl Try.sizeOf22 hr1 hx15 rfl rfl) ?_
        refine SO.loadI1 (j := 1) rfl Try.isAgg22 (Rd.tail (Rd.head hr1)) hx15 rfl rfl rfl rfl ?_
        refine SO.v rfl (opv_move rfl) ?_
        refine SO.v rfl (opv_neq rfl rfl) ?_
        refine SO.v rfl (opv_assign rfl) ?_
        refine SO.nil ?_
        refine S.to (ρ' := [(0, bp bp0 0), (1, .int .i64 a1), (3, .int .i64 a3), (8, errV 43 none), (42, .bool (x14.Version != a2))]) ⟨rfl, rfl, rfl, rfl, rfl, trivial⟩ ?_
        rcases bool_or (x14.Version != a2) with b16 | b16
        · replace h := cond_t b16 h
          refine S.condT rfl b16 ?_
          refine S.seq ?_
          refine S.region ?_
          refine SO.v rfl (opv_iface Try.underlying43 rfl rfl) ?_
          refine SO.v rfl (opv_assign rfl) ?_
          refine SO.nil ?_
          cases h
          refine S.b2 ?_
          refine S.b2 ?_
          refine S.b2 ?_
          exact S.ret1 Try.func9 rfl rfl (fun w hs hk => hR w _ _ ⟨v0_l, rfl, rfl⟩ hs hk)
        · replace h := cond_f b16 h
          refine S.condF rfl b16 ?_
          refine S.skip ?_
          refine S.inBlock ?_
          refine S.seq ?_
          refine S.region ?_
          refine SO.v rfl (opv_move rfl) ?_
          refine SO.v rfl (opv_nilCheck rfl) ?_
          refine SO.v rfl (opv_fieldAddr Try.underlying57 rfl Try.sizeOf45 rfl rfl) ?_
          refine SO.load1 rfl Try.isAgg45 rfl rfl ?_
          refine SO.v rfl (opv_move rfl) ?_
          refine SO.v rfl (opv_move rfl) ?_
          obtain ⟨x17, hx18, h⟩ := opt_bind h
          refine SO.v rfl (opv_idx Try.underlying45 Try.sizeOf34 hr1 rfl rfl hx18) ?_
          refine SO.v rfl (opv_fieldIdx Try.underlying34 rfl Try.sizeOf3 hr1 hx18 rfl rfl) ?_
          refine SO.b1 ?_
          refine SO.storeI1 (j := 2) (z' := ({ x17 with Mark := a3 } : api_Cell)) Try.sizeOf3 hx18 rfl rfl rfl rfl rfl rfl ?_
          refine SO.rd fun hr19 => ?_
          refine SO.nil ?_
          refine S.to (ρ' := [(8, errV 43 none)]) ⟨rfl, trivial⟩ ?_
          refine S.seq ?_
          refine S.region ?_
          refine SO.v rfl (opv_assign rfl) ?_
          refine SO.nil ?_
          cases h
          refine S.b2 ?_
          refine S.b1 ?_
          refine S.b2 ?_
          exact S.ret1 Try.func9 rfl rfl (fun w hs hk => hR w _ _ ⟨v0_l, rfl, rfl⟩ hs hk)
end Go.Proofs
namespace Go.Proofs
open Go.Sl Go.RowKit
/-! 5 padstone/padstonelaw01.up -/
def law01_up.f : Option (Bool) :=
  (word_New.f 4 9).bind fun (t1, t2) => oE t1 ((word_New.f 0 9).bind fun (t4, t5) => oE t4 (some false) (fun t4p => some false)) (fun t1p => (word_New.f 0 9).bind fun (t7, t8) => oE t7 (bif t2.isSome then (some false) else ((word_Store_Reserve.f t1p 0 0 5).bind fun (t11, p12) => (word_Store_Put.f p12 0 5 9).bind fun (t16, p17) => (word_Store_Read.f p17 0).bind fun (t21, t22) => (bif ((((t8 == some 1) && t11.isNone) && t16.isNone) && t22.isNone) && (decide (t21 = (⟨9, 1, 0⟩ : api_Cell))) then ((word_Store_Len.f p17).bind fun t32 => some (t32 == 4)) else (some false)).bind fun c30 => (bif c30 then ((word_Store_Limit.f p17).bind fun t37 => some (t37 == 9)) else (some false)).bind fun c35 => some c35)) (fun t7p => bif t2.isSome then (some false) else ((word_Store_Reserve.f t1p 0 0 5).bind fun (t14, p15) => (word_Store_Put.f p15 0 5 9).bind fun (t19, p20) => (word_Store_Read.f p20 0).bind fun (t24, t25) => (bif ((((t8 == some 1) && t14.isNone) && t19.isNone) && t25.isNone) && (decide (t24 = (⟨9, 1, 0⟩ : api_Cell))) then ((word_Store_Len.f p20).bind fun t35 => some (t35 == 4)) else (some false)).bind fun c33 => (bif c33 then ((word_Store_Limit.f p20).bind fun t40 => some (t40 == 9)) else (some false)).bind fun c38 => some c38)))
set_option maxHeartbeats 8000000 in
set_option maxRecDepth 100000 in
theorem law01_up.ct (r0 : Bool) (h : law01_up.f  = some r0) :
    Ct Try.prog 5 [] (fun _ => True) [] (fun u H' => u = .bool r0 ∧ H' = []) := by
  unfold law01_up.f at h
  refine Ct.intro (n := 62) Try.func5 rfl rfl rfl ?_
  intro R w0 F hF hR
  refine S.seq ?_
  refine S.region ?_
  refine SO.v rfl (opv_assign rfl) ?_
  refine SO.nil ?_
  refine S.seq ?_
  refine S.region ?_
  obtain ⟨⟨t1, t2⟩, ht3, h⟩ := opt_bind h
  rcases t1 with _ | t1p
  · replace h := oE_n h
    refine SO.call (pre := []) rfl Try.call6 rfl rfl rfl (word_New.ct _ _ _ _ ht3) trivial ?_
    rintro _ _ ⟨rfl, rfl⟩
    refine SO.v rfl (opv_move rfl) ?_
    refine SO.v rfl (opv_extract rfl rfl) ?_
    refine SO.v rfl (opv_extract rfl rfl) ?_
    refine SO.v rfl (opv_assign rfl) ?_
    refine SO.v rfl (opv_assign rfl) ?_
    refine SO.nil ?_
    refine S.seq ?_
    refine S.region ?_
    obtain ⟨⟨t4, t5⟩, ht6, h⟩ := opt_bind h
    rcases t4 with _ | t4p
    · replace h := oE_n h
      refine SO.call (pre := []) rfl Try.call6 rfl rfl rfl (word_New.ct _ _ _ _ ht6) trivial ?_
      rintro _ _ ⟨rfl, rfl⟩
      refine SO.v rfl (opv_move rfl) ?_
      refine SO.v rfl (opv_extract rfl rfl) ?_
      refine SO.v rfl (opv_extract rfl rfl) ?_
      refine SO.v rfl (opv_assign rfl) ?_
      refine SO.v rfl (opv_assign rfl) ?_
      refine SO.nil ?_
      refine S.to (ρ' := [(0, .bool false), (1, .pointer none), (2, errV 43 t2), (4, errV 43 t5)]) ⟨rfl, rfl, rfl, rfl, trivial⟩ ?_
      refine S.seq ?_
      refine S.seq ?_
      refine S.region ?_
      refine SO.v rfl (opv_move rfl) ?_
      refine SO.v rfl (opv_eqlPN Try.underlying25 rfl) ?_
      refine SO.v rfl (opv_move rfl) ?_
      refine SO.passF rfl rfl rfl rfl rfl rfl ?_
      refine SO.passF rfl rfl rfl rfl rfl rfl ?_
      refine SO.v rfl (opv_pick_tt rfl rfl) ?_
      refine SO.nil ?_
      refine S.cond_true rfl ?_
      refine S.seq ?_
      refine S.region ?_
      refine SO.v rfl (opv_assign rfl) ?_
      refine SO.nil ?_
      refine S.to (ρ' := [(0, .bool false)]) ⟨rfl, trivial⟩ ?_
      cases h
      exact S.ret1 Try.func5 rfl rfl (fun w hs hk => hR w _ _ ⟨rfl, rfl⟩ hs hk)
    · replace h := oE_s h
      refine SO.call (pre := []) rfl Try.call6 rfl rfl rfl (word_New.ct _ _ _ _ ht6) trivial ?_
      rintro _ _ ⟨b7, u8_l, rfl, rfl⟩
      refine SO.b1 ?_
      refine SO.rd fun hr9 => ?_
      refine SO.v rfl (opv_move rfl) ?_
      refine SO.v rfl (opv_extract rfl rfl) ?_
      refine SO.v rfl (opv_extract rfl rfl) ?_
      refine SO.v rfl (opv_assign rfl) ?_
      refine SO.v rfl (opv_assign rfl) ?_
      refine SO.nil ?_
      refine S.to (ρ' := [(0, .bool false), (1, .pointer none), (2, errV 43 t2), (4, errV 43 t5)]) ⟨rfl, rfl, rfl, rfl, trivial⟩ ?_
      refine S.seq ?_
      refine S.seq ?_
      refine S.region ?_
      refine SO.v rfl (opv_move rfl) ?_
      refine SO.v rfl (opv_eqlPN Try.underlying25 rfl) ?_
      refine SO.v rfl (opv_move rfl) ?_
      refine SO.passF rfl rfl rfl rfl rfl rfl ?_
      refine SO.passF rfl rfl rfl rfl rfl rfl ?_
      refine SO.v rfl (opv_pick_tt rfl rfl) ?_
      refine SO.nil ?_
      refine S.cond_true rfl ?_
      refine S.seq ?_
      refine S.region ?_
      refine SO.v rfl (opv_assign rfl) ?_
      refine SO.nil ?_
      refine S.to (ρ' := [(0, .bool false)]) ⟨rfl, trivial⟩ ?_
      cases h
      refine S.drop ?_
      refine S.drop ?_
      exact S.ret1 Try.func5 rfl rfl (fun w hs hk => hR w _ _ ⟨rfl, rfl⟩ hs hk)
  · replace h := oE_s h
    refine SO.call (pre := []) rfl Try.call6 rfl rfl rfl (word_New.ct _ _ _ _ ht3) trivial ?_
    rintro _ _ ⟨b4, u5_l, rfl, rfl⟩
    refine SO.b1 ?_
    refine SO.rd fun hr6 => ?_
    refine SO.v rfl (opv_move rfl) ?_
    refine SO.v rfl (opv_extract rfl rfl) ?_
    refine SO.v rfl (opv_extract rfl rfl) ?_
    refine SO.v rfl (opv_assign rfl) ?_
    refine SO.v rfl (opv_assign rfl) ?_
    refine SO.nil ?_
    refine S.seq ?_
    refine S.region ?_
    obtain ⟨⟨t7, t8⟩, ht9, h⟩ := opt_bind h
    rcases t7 with _ | t7p
    · replace h := oE_n h
      refine SO.call (pre := []) rfl Try.call6 rfl rfl rfl (word_New.ct _ _ _ _ ht9) trivial ?_
      rintro _ _ ⟨rfl, rfl⟩
      refine SO.v rfl (opv_move rfl) ?_
      refine SO.v rfl (opv_extract rfl rfl) ?_
      refine SO.v rfl (opv_extract rfl rfl) ?_
      refine SO.v rfl (opv_assign rfl) ?_
      refine SO.v rfl (opv_assign rfl) ?_
      refine SO.nil ?_
      refine S.to (ρ' := [(0, .bool false), (1, bp b4 0), (2, errV 43 t2), (4, errV 43 t8)]) ⟨rfl, rfl, rfl, rfl, trivial⟩ ?_
      refine S.seq ?_
      refine S.seq ?_
      refine S.region ?_
      refine SO.v rfl (opv_move rfl) ?_
      refine SO.v rfl (opv_eqlP Try.underlying25 rfl) ?_
      refine SO.v rfl (opv_move rfl) ?_
      refine SO.takeT rfl rfl rfl rfl ?_
      refine SO.v rfl (opv_move rfl) ?_
      refine SO.takeT rfl rfl rfl rfl ?_
      refine SO.v rfl (opv_neqN (e := t2) Try.underlying27 rfl) ?_
      refine SO.v rfl (opv_pick_ff rfl rfl) ?_
      refine SO.nil ?_
      rcases bool_or t2.isSome with b10 | b10
      · replace h := cond_t b10 h
        refine S.condT rfl b10 ?_
        refine S.seq ?_
        refine S.region ?_
        refine SO.v rfl (opv_assign rfl) ?_
        refine SO.nil ?_
        refine S.to (ρ' := [(0, .bool false)]) ⟨rfl, trivial⟩ ?_
        cases h
        refine S.drop ?_
        refine S.drop ?_
        exact S.ret1 Try.func5 rfl rfl (fun w hs hk => hR w _ _ ⟨rfl, rfl⟩ hs hk)
      · replace h := cond_f b10 h
        refine S.condF rfl b10 ?_
        refine S.skip ?_
        refine S.seq ?_
        refine S.region ?_
        refine SO.v rfl (opv_move rfl) ?_
        obtain ⟨⟨t11, p12⟩, ht13, h⟩ := opt_bind h
        refine SO.b1 ?_
        refine SO.call (pre := [Box _ _, Own _ _ _ _]) rfl Try.call9 rfl rfl rfl (word_Store_Reserve.ct b4 u5_l _ _ _ _ _ _ ht13) trivial ?_
        rintro _ _ ⟨u14_l, rfl, rfl⟩
        refine SO.b1 ?_
        refine SO.rd fun hr15 => ?_
        refine SO.v rfl (opv_assign rfl) ?_
        refine SO.nil ?_
        refine S.to (ρ' := [(0, .bool false), (1, bp b4 0), (4, errV 43 t8), (5, errV 43 t11)]) ⟨rfl, rfl, rfl, rfl, trivial⟩ ?_
        refine S.seq ?_
        refine S.region ?_
        refine SO.v rfl (opv_move rfl) ?_
        obtain ⟨⟨t16, p17⟩, ht18, h⟩ := opt_bind h
        refine SO.b1 ?_
        refine SO.call (pre := [Box _ _, Own _ _ _ _]) rfl Try.call11 rfl rfl rfl (word_Store_Put.ct b4 u14_l _ _ _ _ _ _ ht18) trivial ?_
        rintro _ _ ⟨u19_l, rfl, rfl⟩
        refine SO.b1 ?_
        refine SO.rd fun hr20 => ?_
        refine SO.v rfl (opv_assign rfl) ?_
        refine SO.nil ?_
        refine S.seq ?_
        refine S.region ?_
        refine SO.v rfl (opv_move rfl) ?_
        obtain ⟨⟨t21, t22⟩, ht23, h⟩ := opt_bind h
        refine SO.b1 ?_
        refine SO.call (pre := [Box _ _, Own _ _ _ _]) rfl Try.call7 rfl rfl rfl (word_Store_Read.ct b4 u19_l _ _ _ _ ht23) trivial ?_
        rintro _ _ ⟨rfl, rfl⟩
        refine SO.v rfl (opv_move rfl) ?_
        refine SO.v rfl (opv_extract rfl rfl) ?_
        refine SO.v rfl (opv_extract rfl rfl) ?_
        refine SO.alloc rfl Try.zeroValue34 rfl (fun b24 => ?_)
        refine SO.storeN Try.sizeOf34 rfl rfl rfl rfl rfl rfl ?_
        refine SO.v rfl (opv_assign rfl) ?_
        refine SO.nil ?_
        refine S.to (ρ' := [(0, .bool false), (1, bp b4 0), (4, errV 43 t8), (5, errV 43 t11), (6, errV 43 t16), (7, bp b24 0), (8, errV 43 t22)]) ⟨rfl, rfl, rfl, rfl, rfl, rfl, rfl, trivial⟩ ?_
        refine S.seq ?_
        refine S.region ?_
        refine SO.v rfl (opv_move rfl) ?_
        refine SO.v rfl (opv_iface Try.underlying43 rfl rfl) ?_
        refine SO.v rfl (opv_eqlE (e := t8) (c := 1) Try.underlying27 Try.underlying43 inf43 rfl rfl rfl) ?_
        refine SO.v rfl (opv_move rfl) ?_
        refine SO.cut 3 38 (.bool ((t8 == some 1) && t11.isNone)) [Box b24 [.int .u64 t21.Value, .int .u32 t21.Version, .int .i64 t21.Mark], Box b4 [u19_l, .int .u32 p17.limit], Own 34 ek_api_Cell u19_l p17.l, F] (fun l2 hk2 => ?_) ?_
        · rcases bool_or (t8 == some 1) with b25 | b25
          · refine SO.takeT rfl rfl rfl b25 ?_
            refine SO.v rfl (opv_move rfl) ?_
            refine SO.takeT rfl rfl rfl b25 ?_
            refine SO.v rfl (opv_eqlN (e := t11) Try.underlying27 rfl) ?_
            refine SO.v rfl (opv_pick_t' b25 rfl rfl) ?_
            refine SO.b3 ?_
            refine SO.b3 ?_
            refine SO.b3 ?_
            refine SO.b3 ?_
            exact hk2.fitc (m := 3) rfl (and_t b25) rfl
          · refine SO.passF rfl rfl rfl b25 rfl rfl ?_
            refine SO.passF rfl rfl rfl b25 rfl rfl ?_
            refine SO.v rfl (opv_pick_f' b25 rfl rfl) ?_
            refine SO.b3 ?_
            refine SO.b3 ?_
            refine SO.b3 ?_
            refine SO.b3 ?_
            exact hk2.fitc (m := 3) rfl (and_f b25) rfl
        refine SO.v rfl (opv_move rfl) ?_
        refine SO.cut 3 42 (.bool (((t8 == some 1) && t11.isNone) && t16.isNone)) [Box b24 [.int .u64 t21.Value, .int .u32 t21.Version, .int .i64 t21.Mark], Box b4 [u19_l, .int .u32 p17.limit], Own 34 ek_api_Cell u19_l p17.l, F] (fun l2 hk2 => ?_) ?_
        · rcases bool_or ((t8 == some 1) && t11.isNone) with b26 | b26
          · refine SO.takeT rfl rfl rfl b26 ?_
            refine SO.v rfl (opv_move rfl) ?_
            refine SO.takeT rfl rfl rfl b26 ?_
            refine SO.v rfl (opv_eqlN (e := t16) Try.underlying27 rfl) ?_
            refine SO.v rfl (opv_pick_t' b26 rfl rfl) ?_
            refine SO.b3 ?_
            refine SO.b3 ?_
            refine SO.b3 ?_
            refine SO.b3 ?_
            exact hk2.fitc (m := 3) rfl (and_t b26) rfl
          · refine SO.passF rfl rfl rfl b26 rfl rfl ?_
            refine SO.passF rfl rfl rfl b26 rfl rfl ?_
            refine SO.v rfl (opv_pick_f' b26 rfl rfl) ?_
            refine SO.b3 ?_
            refine SO.b3 ?_
            refine SO.b3 ?_
            refine SO.b3 ?_
            exact hk2.fitc (m := 3) rfl (and_f b26) rfl
        refine SO.v rfl (opv_move rfl) ?_
        refine SO.cut 3 46 (.bool ((((t8 == some 1) && t11.isNone) && t16.isNone) && t22.isNone)) [Box b24 [.int .u64 t21.Value, .int .u32 t21.Version, .int .i64 t21.Mark], Box b4 [u19_l, .int .u32 p17.limit], Own 34 ek_api_Cell u19_l p17.l, F] (fun l2 hk2 => ?_) ?_
        · rcases bool_or (((t8 == some 1) && t11.isNone) && t16.isNone) with b27 | b27
          · refine SO.takeT rfl rfl rfl b27 ?_
            refine SO.v rfl (opv_move rfl) ?_
            refine SO.takeT rfl rfl rfl b27 ?_
            refine SO.v rfl (opv_eqlN (e := t22) Try.underlying27 rfl) ?_
            refine SO.v rfl (opv_pick_t' b27 rfl rfl) ?_
            refine SO.b3 ?_
            refine SO.b3 ?_
            refine SO.b3 ?_
            refine SO.b3 ?_
            exact hk2.fitc (m := 3) rfl (and_t b27) rfl
          · refine SO.passF rfl rfl rfl b27 rfl rfl ?_
            refine SO.passF rfl rfl rfl b27 rfl rfl ?_
            refine SO.v rfl (opv_pick_f' b27 rfl rfl) ?_
            refine SO.b3 ?_
            refine SO.b3 ?_
            refine SO.b3 ?_
            refine SO.b3 ?_
            exact hk2.fitc (m := 3) rfl (and_f b27) rfl
        refine SO.v rfl (opv_move rfl) ?_
        refine SO.cut 4 51 (.bool (((((t8 == some 1) && t11.isNone) && t16.isNone) && t22.isNone) && (decide (t21 = (⟨9, 1, 0⟩ : api_Cell))))) [Box b24 [.int .u64 t21.Value, .int .u32 t21.Version, .int .i64 t21.Mark], Box b4 [u19_l, .int .u32 p17.limit], Own 34 ek_api_Cell u19_l p17.l, F] (fun l2 hk2 => ?_) ?_
        · rcases bool_or ((((t8 == some 1) && t11.isNone) && t16.isNone) && t22.isNone) with b28 | b28
          · refine SO.takeT rfl rfl rfl b28 ?_
            refine SO.loadN rfl Try.isAgg34 Try.sizeOf34 rfl rfl rfl ?_
            refine SO.takeT rfl rfl rfl b28 ?_
            refine SO.v rfl (opv_build (v := .agg #[.int .u64 9, .int .u32 1, .int .i64 0]) rfl (by intro w; kernel_rfl)) ?_
            refine SO.takeT rfl rfl rfl b28 ?_
            refine SO.v rfl (eq_eql_api_Cell (x := t21) (y := (⟨9, 1, 0⟩ : api_Cell)) rfl rfl) ?_
            refine SO.v rfl (opv_pick_t' b28 rfl rfl) ?_
            refine SO.b3 ?_
            refine SO.b3 ?_
            refine SO.b3 ?_
            refine SO.b3 ?_
            exact hk2.fitc (m := 4) rfl (and_t b28) rfl
          · refine SO.passF rfl rfl rfl b28 rfl rfl ?_
            refine SO.passF rfl rfl rfl b28 rfl rfl ?_
            refine SO.passF rfl rfl rfl b28 rfl rfl ?_
            refine SO.v rfl (opv_pick_f' b28 rfl rfl) ?_
            refine SO.b3 ?_
            refine SO.b3 ?_
            refine SO.b3 ?_
            refine SO.b3 ?_
            exact hk2.fitc (m := 4) rfl (and_f b28) rfl
        refine SO.v rfl (opv_move rfl) ?_
        obtain ⟨c30, hc31, hgk⟩ := opt_bind h
        refine SO.cut 4 56 (.bool c30) [Box b24 [.int .u64 t21.Value, .int .u32 t21.Version, .int .i64 t21.Mark], Box b4 [u19_l, .int .u32 p17.limit], Own 34 ek_api_Cell u19_l p17.l, F] (fun l2 hk2 => ?_) ?_
        · clear hgk
          replace h := hc31
          rcases bool_or (((((t8 == some 1) && t11.isNone) && t16.isNone) && t22.isNone) && (decide (t21 = (⟨9, 1, 0⟩ : api_Cell)))) with b29 | b29
          · replace h := cond_t b29 h
            refine SO.takeT rfl rfl rfl b29 ?_
            refine SO.v rfl (opv_move rfl) ?_
            refine SO.takeT rfl rfl rfl b29 ?_
            obtain ⟨t32, ht33, h⟩ := opt_bind h
            refine SO.b2 ?_
            refine SO.b2 ?_
            refine SO.call (pre := [Box _ _, Own _ _ _ _]) rfl Try.call19 rfl rfl rfl (word_Store_Len.ct b4 u19_l _ _ ht33) trivial ?_
            rintro _ _ ⟨rfl, rfl⟩
            refine SO.takeT rfl rfl rfl b29 ?_
            refine SO.v rfl (opv_eql rfl rfl) ?_
            cases h
            refine SO.v rfl (opv_pick_t' b29 rfl rfl) ?_
            refine SO.b3 ?_
            refine SO.b2 ?_
            refine SO.b2 ?_
            refine SO.b3 ?_
            exact hk2.fitc (m := 4) rfl (rfl) rfl
          · replace h := cond_f b29 h
            refine SO.passF rfl rfl rfl b29 rfl rfl ?_
            refine SO.passF rfl rfl rfl b29 rfl rfl ?_
            refine SO.passF rfl rfl rfl b29 rfl rfl ?_
            cases h
            refine SO.v rfl (opv_pick_f' b29 rfl rfl) ?_
            refine SO.b3 ?_
            refine SO.b3 ?_
            refine SO.b3 ?_
            refine SO.b3 ?_
            exact hk2.fitc (m := 4) rfl (rfl) rfl
        clear hc31
        replace h := hgk
        refine SO.v rfl (opv_move rfl) ?_
        obtain ⟨c35, hc36, hgk⟩ := opt_bind h
        refine SO.cut 4 61 (.bool c35) [Box b24 [.int .u64 t21.Value, .int .u32 t21.Version, .int .i64 t21.Mark], Box b4 [u19_l, .int .u32 p17.limit], Own 34 ek_api_Cell u19_l p17.l, F] (fun l2 hk2 => ?_) ?_
        · clear hgk
          replace h := hc36
          rcases bool_or c30 with b34 | b34
          · replace h := cond_t b34 h
            refine SO.takeT rfl rfl rfl b34 ?_
            refine SO.v rfl (opv_move rfl) ?_
            refine SO.takeT rfl rfl rfl b34 ?_
            obtain ⟨t37, ht38, h⟩ := opt_bind h
            refine SO.b2 ?_
            refine SO.b2 ?_
            refine SO.call (pre := [Box _ _, Own _ _ _ _]) rfl Try.call20 rfl rfl rfl (word_Store_Limit.ct b4 u19_l _ _ ht38) trivial ?_
            rintro _ _ ⟨rfl, rfl⟩
            refine SO.takeT rfl rfl rfl b34 ?_
            refine SO.v rfl (opv_eql rfl rfl) ?_
            cases h
            refine SO.v rfl (opv_pick_t' b34 rfl rfl) ?_
            refine SO.b3 ?_
            refine SO.b2 ?_
            refine SO.b2 ?_
            refine SO.b3 ?_
            exact hk2.fitc (m := 4) rfl (rfl) rfl
          · replace h := cond_f b34 h
            refine SO.passF rfl rfl rfl b34 rfl rfl ?_
            refine SO.passF rfl rfl rfl b34 rfl rfl ?_
            refine SO.passF rfl rfl rfl b34 rfl rfl ?_
            cases h
            refine SO.v rfl (opv_pick_f' b34 rfl rfl) ?_
            refine SO.b3 ?_
            refine SO.b3 ?_
            refine SO.b3 ?_
            refine SO.b3 ?_
            exact hk2.fitc (m := 4) rfl (rfl) rfl
        clear hc36
        replace h := hgk
        refine SO.v rfl (opv_assign rfl) ?_
        refine SO.nil ?_
        refine S.to (ρ' := [(0, .bool c35)]) ⟨rfl, trivial⟩ ?_
        cases h
        refine S.drop ?_
        refine S.drop ?_
        refine S.drop ?_
        exact S.ret1 Try.func5 rfl rfl (fun w hs hk => hR w _ _ ⟨rfl, rfl⟩ hs hk)
    · replace h := oE_s h
      refine SO.call (pre := []) rfl Try.call6 rfl rfl rfl (word_New.ct _ _ _ _ ht9) trivial ?_
      rintro _ _ ⟨b10, u11_l, rfl, rfl⟩
      refine SO.b1 ?_
      refine SO.rd fun hr12 => ?_
      refine SO.v rfl (opv_move rfl) ?_
      refine SO.v rfl (opv_extract rfl rfl) ?_
      refine SO.v rfl (opv_extract rfl rfl) ?_
      refine SO.v rfl (opv_assign rfl) ?_
      refine SO.v rfl (opv_assign rfl) ?_
      refine SO.nil ?_
      refine S.to (ρ' := [(0, .bool false), (1, bp b4 0), (2, errV 43 t2), (4, errV 43 t8)]) ⟨rfl, rfl, rfl, rfl, trivial⟩ ?_
      refine S.seq ?_
      refine S.seq ?_
      refine S.region ?_
      refine SO.v rfl (opv_move rfl) ?_
      refine SO.v rfl (opv_eqlP Try.underlying25 rfl) ?_
      refine SO.v rfl (opv_move rfl) ?_
      refine SO.takeT rfl rfl rfl rfl ?_
      refine SO.v rfl (opv_move rfl) ?_
      refine SO.takeT rfl rfl rfl rfl ?_
      refine SO.v rfl (opv_neqN (e := t2) Try.underlying27 rfl) ?_
      refine SO.v rfl (opv_pick_ff rfl rfl) ?_
      refine SO.nil ?_
      rcases bool_or t2.isSome with b13 | b13
      · replace h := cond_t b13 h
        refine S.condT rfl b13 ?_
        refine S.seq ?_
        refine S.region ?_
        refine SO.v rfl (opv_assign rfl) ?_
        refine SO.nil ?_
        refine S.to (ρ' := [(0, .bool false)]) ⟨rfl, trivial⟩ ?_
        cases h
        refine S.drop ?_
        refine S.drop ?_
        refine S.drop ?_
        refine S.drop ?_
        exact S.ret1 Try.func5 rfl rfl (fun w hs hk => hR w _ _ ⟨rfl, rfl⟩ hs hk)
      · replace h := cond_f b13 h
        refine S.condF rfl b13 ?_
        refine S.skip ?_
        refine S.seq ?_
        refine S.region ?_
        refine SO.v rfl (opv_move rfl) ?_
        obtain ⟨⟨t14, p15⟩, ht16, h⟩ := opt_bind h
        refine SO.b2 ?_
        refine SO.b3 ?_
        refine SO.call (pre := [Box _ _, Own _ _ _ _]) rfl Try.call9 rfl rfl rfl (word_Store_Reserve.ct b4 u5_l _ _ _ _ _ _ ht16) trivial ?_
        rintro _ _ ⟨u17_l, rfl, rfl⟩
        refine SO.b1 ?_
        refine SO.rd fun hr18 => ?_
        refine SO.v rfl (opv_assign rfl) ?_
        refine SO.nil ?_
        refine S.to (ρ' := [(0, .bool false), (1, bp b4 0), (4, errV 43 t8), (5, errV 43 t14)]) ⟨rfl, rfl, rfl, rfl, trivial⟩ ?_
        refine S.seq ?_
        refine S.region ?_
        refine SO.v rfl (opv_move rfl) ?_
        obtain ⟨⟨t19, p20⟩, ht21, h⟩ := opt_bind h
        refine SO.b1 ?_
        refine SO.call (pre := [Box _ _, Own _ _ _ _]) rfl Try.call11 rfl rfl rfl (word_Store_Put.ct b4 u17_l _ _ _ _ _ _ ht21) trivial ?_
        rintro _ _ ⟨u22_l, rfl, rfl⟩
        refine SO.b1 ?_
        refine SO.rd fun hr23 => ?_
        refine SO.v rfl (opv_assign rfl) ?_
        refine SO.nil ?_
        refine S.seq ?_
        refine S.region ?_
        refine SO.v rfl (opv_move rfl) ?_
        obtain ⟨⟨t24, t25⟩, ht26, h⟩ := opt_bind h
        refine SO.b1 ?_
        refine SO.call (pre := [Box _ _, Own _ _ _ _]) rfl Try.call7 rfl rfl rfl (word_Store_Read.ct b4 u22_l _ _ _ _ ht26) trivial ?_
        rintro _ _ ⟨rfl, rfl⟩
        refine SO.v rfl (opv_move rfl) ?_
        refine SO.v rfl (opv_extract rfl rfl) ?_
        refine SO.v rfl (opv_extract rfl rfl) ?_
        refine SO.alloc rfl Try.zeroValue34 rfl (fun b27 => ?_)
        refine SO.storeN Try.sizeOf34 rfl rfl rfl rfl rfl rfl ?_
        refine SO.v rfl (opv_assign rfl) ?_
        refine SO.nil ?_
        refine S.to (ρ' := [(0, .bool false), (1, bp b4 0), (4, errV 43 t8), (5, errV 43 t14), (6, errV 43 t19), (7, bp b27 0), (8, errV 43 t25)]) ⟨rfl, rfl, rfl, rfl, rfl, rfl, rfl, trivial⟩ ?_
        refine S.seq ?_
        refine S.region ?_
        refine SO.v rfl (opv_move rfl) ?_
        refine SO.v rfl (opv_iface Try.underlying43 rfl rfl) ?_
        refine SO.v rfl (opv_eqlE (e := t8) (c := 1) Try.underlying27 Try.underlying43 inf43 rfl rfl rfl) ?_
        refine SO.v rfl (opv_move rfl) ?_
        refine SO.cut 3 38 (.bool ((t8 == some 1) && t14.isNone)) [Box b27 [.int .u64 t24.Value, .int .u32 t24.Version, .int .i64 t24.Mark], Box b4 [u22_l, .int .u32 p20.limit], Own 34 ek_api_Cell u22_l p20.l, Own 34 ek_api_Cell u11_l t7p.l, Box b10 [u11_l, .int .u32 t7p.limit], F] (fun l2 hk2 => ?_) ?_
        · rcases bool_or (t8 == some 1) with b28 | b28
          · refine SO.takeT rfl rfl rfl b28 ?_
            refine SO.v rfl (opv_move rfl) ?_
            refine SO.takeT rfl rfl rfl b28 ?_
            refine SO.v rfl (opv_eqlN (e := t14) Try.underlying27 rfl) ?_
            refine SO.v rfl (opv_pick_t' b28 rfl rfl) ?_
            refine SO.b5 ?_
            refine SO.b5 ?_
            refine SO.b5 ?_
            refine SO.b5 ?_
            refine SO.b5 ?_
            refine SO.b5 ?_
            exact hk2.fitc (m := 3) rfl (and_t b28) rfl
          · refine SO.passF rfl rfl rfl b28 rfl rfl ?_
            refine SO.passF rfl rfl rfl b28 rfl rfl ?_
            refine SO.v rfl (opv_pick_f' b28 rfl rfl) ?_
            refine SO.b5 ?_
            refine SO.b5 ?_
            refine SO.b5 ?_
            refine SO.b5 ?_
            refine SO.b5 ?_
            refine SO.b5 ?_
            exact hk2.fitc (m := 3) rfl (and_f b28) rfl
        refine SO.v rfl (opv_move rfl) ?_
        refine SO.cut 3 42 (.bool (((t8 == some 1) && t14.isNone) && t19.isNone)) [Box b27 [.int .u64 t24.Value, .int .u32 t24.Version, .int .i64 t24.Mark], Box b4 [u22_l, .int .u32 p20.limit], Own 34 ek_api_Cell u22_l p20.l, Own 34 ek_api_Cell u11_l t7p.l, Box b10 [u11_l, .int .u32 t7p.limit], F] (fun l2 hk2 => ?_) ?_
        · rcases bool_or ((t8 == some 1) && t14.isNone) with b29 | b29
          · refine SO.takeT rfl rfl rfl b29 ?_
            refine SO.v rfl (opv_move rfl) ?_
            refine SO.takeT rfl rfl rfl b29 ?_
            refine SO.v rfl (opv_eqlN (e := t19) Try.underlying27 rfl) ?_
            refine SO.v rfl (opv_pick_t' b29 rfl rfl) ?_
            refine SO.b5 ?_
            refine SO.b5 ?_
            refine SO.b5 ?_
            refine SO.b5 ?_
            refine SO.b5 ?_
            refine SO.b5 ?_
            exact hk2.fitc (m := 3) rfl (and_t b29) rfl
          · refine SO.passF rfl rfl rfl b29 rfl rfl ?_
            refine SO.passF rfl rfl rfl b29 rfl rfl ?_
            refine SO.v rfl (opv_pick_f' b29 rfl rfl) ?_
            refine SO.b5 ?_
            refine SO.b5 ?_
            refine SO.b5 ?_
            refine SO.b5 ?_
            refine SO.b5 ?_
            refine SO.b5 ?_
            exact hk2.fitc (m := 3) rfl (and_f b29) rfl
        refine SO.v rfl (opv_move rfl) ?_
        refine SO.cut 3 46 (.bool ((((t8 == some 1) && t14.isNone) && t19.isNone) && t25.isNone)) [Box b27 [.int .u64 t24.Value, .int .u32 t24.Version, .int .i64 t24.Mark], Box b4 [u22_l, .int .u32 p20.limit], Own 34 ek_api_Cell u22_l p20.l, Own 34 ek_api_Cell u11_l t7p.l, Box b10 [u11_l, .int .u32 t7p.limit], F] (fun l2 hk2 => ?_) ?_
        · rcases bool_or (((t8 == some 1) && t14.isNone) && t19.isNone) with b30 | b30
          · refine SO.takeT rfl rfl rfl b30 ?_
            refine SO.v rfl (opv_move rfl) ?_
            refine SO.takeT rfl rfl rfl b30 ?_
            refine SO.v rfl (opv_eqlN (e := t25) Try.underlying27 rfl) ?_
            refine SO.v rfl (opv_pick_t' b30 rfl rfl) ?_
            refine SO.b5 ?_
            refine SO.b5 ?_
            refine SO.b5 ?_
            refine SO.b5 ?_
            refine SO.b5 ?_
            refine SO.b5 ?_
            exact hk2.fitc (m := 3) rfl (and_t b30) rfl
          · refine SO.passF rfl rfl rfl b30 rfl rfl ?_
            refine SO.passF rfl rfl rfl b30 rfl rfl ?_
            refine SO.v rfl (opv_pick_f' b30 rfl rfl) ?_
            refine SO.b5 ?_
            refine SO.b5 ?_
            refine SO.b5 ?_
            refine SO.b5 ?_
            refine SO.b5 ?_
            refine SO.b5 ?_
            exact hk2.fitc (m := 3) rfl (and_f b30) rfl
        refine SO.v rfl (opv_move rfl) ?_
        refine SO.cut 4 51 (.bool (((((t8 == some 1) && t14.isNone) && t19.isNone) && t25.isNone) && (decide (t24 = (⟨9, 1, 0⟩ : api_Cell))))) [Box b27 [.int .u64 t24.Value, .int .u32 t24.Version, .int .i64 t24.Mark], Box b4 [u22_l, .int .u32 p20.limit], Own 34 ek_api_Cell u22_l p20.l, Own 34 ek_api_Cell u11_l t7p.l, Box b10 [u11_l, .int .u32 t7p.limit], F] (fun l2 hk2 => ?_) ?_
        · rcases bool_or ((((t8 == some 1) && t14.isNone) && t19.isNone) && t25.isNone) with b31 | b31
          · refine SO.takeT rfl rfl rfl b31 ?_
            refine SO.loadN rfl Try.isAgg34 Try.sizeOf34 rfl rfl rfl ?_
            refine SO.takeT rfl rfl rfl b31 ?_
            refine SO.v rfl (opv_build (v := .agg #[.int .u64 9, .int .u32 1, .int .i64 0]) rfl (by intro w; kernel_rfl)) ?_
            refine SO.takeT rfl rfl rfl b31 ?_
            refine SO.v rfl (eq_eql_api_Cell (x := t24) (y := (⟨9, 1, 0⟩ : api_Cell)) rfl rfl) ?_
            refine SO.v rfl (opv_pick_t' b31 rfl rfl) ?_
            refine SO.b5 ?_
            refine SO.b5 ?_
            refine SO.b5 ?_
            refine SO.b5 ?_
            refine SO.b5 ?_
            refine SO.b5 ?_
            exact hk2.fitc (m := 4) rfl (and_t b31) rfl
          · refine SO.passF rfl rfl rfl b31 rfl rfl ?_
            refine SO.passF rfl rfl rfl b31 rfl rfl ?_
            refine SO.passF rfl rfl rfl b31 rfl rfl ?_
            refine SO.v rfl (opv_pick_f' b31 rfl rfl) ?_
            refine SO.b5 ?_
            refine SO.b5 ?_
            refine SO.b5 ?_
            refine SO.b5 ?_
            refine SO.b5 ?_
            refine SO.b5 ?_
            exact hk2.fitc (m := 4) rfl (and_f b31) rfl
        refine SO.v rfl (opv_move rfl) ?_
        obtain ⟨c33, hc34, hgk⟩ := opt_bind h
        refine SO.cut 4 56 (.bool c33) [Box b27 [.int .u64 t24.Value, .int .u32 t24.Version, .int .i64 t24.Mark], Box b4 [u22_l, .int .u32 p20.limit], Own 34 ek_api_Cell u22_l p20.l, Own 34 ek_api_Cell u11_l t7p.l, Box b10 [u11_l, .int .u32 t7p.limit], F] (fun l2 hk2 => ?_) ?_
        · clear hgk
          replace h := hc34
          rcases bool_or (((((t8 == some 1) && t14.isNone) && t19.isNone) && t25.isNone) && (decide (t24 = (⟨9, 1, 0⟩ : api_Cell)))) with b32 | b32
          · replace h := cond_t b32 h
            refine SO.takeT rfl rfl rfl b32 ?_
            refine SO.v rfl (opv_move rfl) ?_
            refine SO.takeT rfl rfl rfl b32 ?_
            obtain ⟨t35, ht36, h⟩ := opt_bind h
            refine SO.b2 ?_
            refine SO.b2 ?_
            refine SO.call (pre := [Box _ _, Own _ _ _ _]) rfl Try.call19 rfl rfl rfl (word_Store_Len.ct b4 u22_l _ _ ht36) trivial ?_
            rintro _ _ ⟨rfl, rfl⟩
            refine SO.takeT rfl rfl rfl b32 ?_
            refine SO.v rfl (opv_eql rfl rfl) ?_
            cases h
            refine SO.v rfl (opv_pick_t' b32 rfl rfl) ?_
            refine SO.b5 ?_
            refine SO.b5 ?_
            refine SO.b5 ?_
            refine SO.b4 ?_
            refine SO.b4 ?_
            refine SO.b5 ?_
            exact hk2.fitc (m := 4) rfl (rfl) rfl
          · replace h := cond_f b32 h
            refine SO.passF rfl rfl rfl b32 rfl rfl ?_
            refine SO.passF rfl rfl rfl b32 rfl rfl ?_
            refine SO.passF rfl rfl rfl b32 rfl rfl ?_
            cases h
            refine SO.v rfl (opv_pick_f' b32 rfl rfl) ?_
            refine SO.b5 ?_
            refine SO.b5 ?_
            refine SO.b5 ?_
            refine SO.b5 ?_
            refine SO.b5 ?_
            refine SO.b5 ?_
            exact hk2.fitc (m := 4) rfl (rfl) rfl
        clear hc34
        replace h := hgk
        refine SO.v rfl (opv_move rfl) ?_
        obtain ⟨c38, hc39, hgk⟩ := opt_bind h
        refine SO.cut 4 61 (.bool c38) [Box b27 [.int .u64 t24.Value, .int .u32 t24.Version, .int .i64 t24.Mark], Box b4 [u22_l, .int .u32 p20.limit], Own 34 ek_api_Cell u22_l p20.l, Own 34 ek_api_Cell u11_l t7p.l, Box b10 [u11_l, .int .u32 t7p.limit], F] (fun l2 hk2 => ?_) ?_
        · clear hgk
          replace h := hc39
          rcases bool_or c33 with b37 | b37
          · replace h := cond_t b37 h
            refine SO.takeT rfl rfl rfl b37 ?_
            refine SO.v rfl (opv_move rfl) ?_
            refine SO.takeT rfl rfl rfl b37 ?_
            obtain ⟨t40, ht41, h⟩ := opt_bind h
            refine SO.b2 ?_
            refine SO.b2 ?_
            refine SO.call (pre := [Box _ _, Own _ _ _ _]) rfl Try.call20 rfl rfl rfl (word_Store_Limit.ct b4 u22_l _ _ ht41) trivial ?_
            rintro _ _ ⟨rfl, rfl⟩
            refine SO.takeT rfl rfl rfl b37 ?_
            refine SO.v rfl (opv_eql rfl rfl) ?_
            cases h
            refine SO.v rfl (opv_pick_t' b37 rfl rfl) ?_
            refine SO.b5 ?_
            refine SO.b5 ?_
            refine SO.b5 ?_
            refine SO.b4 ?_
            refine SO.b4 ?_
            refine SO.b5 ?_
            exact hk2.fitc (m := 4) rfl (rfl) rfl
          · replace h := cond_f b37 h
            refine SO.passF rfl rfl rfl b37 rfl rfl ?_
            refine SO.passF rfl rfl rfl b37 rfl rfl ?_
            refine SO.passF rfl rfl rfl b37 rfl rfl ?_
            cases h
            refine SO.v rfl (opv_pick_f' b37 rfl rfl) ?_
            refine SO.b5 ?_
            refine SO.b5 ?_
            refine SO.b5 ?_
            refine SO.b5 ?_
            refine SO.b5 ?_
            refine SO.b5 ?_
            exact hk2.fitc (m := 4) rfl (rfl) rfl
        clear hc39
        replace h := hgk
        refine SO.v rfl (opv_assign rfl) ?_
        refine SO.nil ?_
        refine S.to (ρ' := [(0, .bool c38)]) ⟨rfl, trivial⟩ ?_
        cases h
        refine S.drop ?_
        refine S.drop ?_
        refine S.drop ?_
        refine S.drop ?_
        refine S.drop ?_
        exact S.ret1 Try.func5 rfl rfl (fun w hs hk => hR w _ _ ⟨rfl, rfl⟩ hs hk)
end Go.Proofs
namespace Go.Proofs
open Go.Sl Go.RowKit
/-! 23 (*padstone/padstoneref01.Store).has -/
def ref01_Store_has.f (a0 : ref01_Store) (a1 : Int) : Option (Bool) :=
  (bif decide (0 ≤ a1) then (some (decide (a1 < (a0.L.length : Int)))) else (some false)).bind fun c3 => some c3
set_option maxHeartbeats 8000000 in
set_option maxRecDepth 100000 in
theorem ref01_Store_has.ct (bp0 : Nat) (v0_L : Value) (a0 : ref01_Store) (a1 : Int) (r0 : Bool) (h : ref01_Store_has.f a0 a1 = some r0) :
    Ct Try.prog 23 [bp bp0 0, .int .i64 a1] (fun _ => True) [Box bp0 [v0_L, .int .u32 a0.Limit], Own 34 ek_api_Cell v0_L a0.L] (fun u H' => u = .bool r0 ∧ H' = [Box bp0 [v0_L, .int .u32 a0.Limit], Own 34 ek_api_Cell v0_L a0.L]) := by
  unfold ref01_Store_has.f at h
  refine Ct.intro (n := 16) Try.func23 rfl rfl rfl ?_
  intro R w0 F hF hR
  refine S.b1 ?_
  refine S.rd fun hr1 => ?_
  refine S.seq ?_
  refine S.region ?_
  refine SO.v rfl (opv_assign rfl) ?_
  refine SO.nil ?_
  refine S.seq ?_
  refine S.region ?_
  refine SO.v rfl (opv_move rfl) ?_
  refine SO.v rfl (opv_geq rfl rfl) ?_
  refine SO.v rfl (opv_move rfl) ?_
  obtain ⟨c3, hc4, hgk⟩ := opt_bind h
  refine SO.cut 8 15 (.bool c3) [Own 34 ek_api_Cell v0_L a0.L, Box bp0 [v0_L, .int .u32 a0.Limit], F] (fun l2 hk2 => ?_) ?_
  · clear hgk
    replace h := hc4
    rcases bool_or (decide (0 ≤ a1)) with b2 | b2
    · replace h := cond_t b2 h
      refine SO.takeT rfl rfl rfl b2 ?_
      refine SO.v rfl (opv_move rfl) ?_
      refine SO.takeT rfl rfl rfl b2 ?_
      refine SO.v rfl (opv_move rfl) ?_
      refine SO.takeT rfl rfl rfl b2 ?_
      refine SO.v rfl (opv_nilCheck rfl) ?_
      refine SO.takeT rfl rfl rfl b2 ?_
      refine SO.v rfl (opv_fieldAddr Try.underlying47 rfl Try.sizeOf45 rfl rfl) ?_
      refine SO.takeT rfl rfl rfl b2 ?_
      refine SO.b1 ?_
      refine SO.load1 rfl Try.isAgg45 rfl rfl ?_
      refine SO.takeT rfl rfl rfl b2 ?_
      refine SO.v rfl (opv_lenR rfl Try.underlying45 hr1 rfl) ?_
      refine SO.takeT rfl rfl rfl b2 ?_
      refine SO.v rfl (opv_lss rfl rfl) ?_
      cases h
      refine SO.v rfl (opv_pick_t' b2 rfl rfl) ?_
      refine SO.b2 ?_
      refine SO.b1 ?_
      refine SO.b2 ?_
      exact hk2.fitc (m := 8) rfl (rfl) rfl
    · replace h := cond_f b2 h
      refine SO.passF rfl rfl rfl b2 rfl rfl ?_
      refine SO.passF rfl rfl rfl b2 rfl rfl ?_
      refine SO.passF rfl rfl rfl b2 rfl rfl ?_
      refine SO.passF rfl rfl rfl b2 rfl rfl ?_
      refine SO.passF rfl rfl rfl b2 rfl rfl ?_
      refine SO.passF rfl rfl rfl b2 rfl rfl ?_
      refine SO.passF rfl rfl rfl b2 rfl rfl ?_
      cases h
      refine SO.v rfl (opv_pick_f' b2 rfl rfl) ?_
      refine SO.b2 ?_
      refine SO.b2 ?_
      refine SO.b2 ?_
      exact hk2.fitc (m := 8) rfl (rfl) rfl
  clear hc4
  replace h := hgk
  refine SO.v rfl (opv_assign rfl) ?_
  refine SO.nil ?_
  cases h
  refine S.b2 ?_
  refine S.b1 ?_
  refine S.b2 ?_
  exact S.ret1 Try.func23 rfl rfl (fun w hs hk => hR w _ _ ⟨rfl, rfl⟩ hs hk)
end Go.Proofs
namespace Go.Proofs
open Go.Sl Go.RowKit
/-! 15 (*padstone/padstoneref01.Store).Put -/
def ref01_Store_Put.f (a0 : ref01_Store) (a1 : Int) (a2 : Int) (a3 : Int) : Option ((Int × ref01_Store)) :=
  (ref01_Store_has.f a0 a1).bind fun t2 => bif !t2 then (some (2, a0)) else ((bif decide (a2 < 1) then (some true) else ((at_ a0.L a1).bind fun x8 => some (x8.Mark != a2))).bind fun c6 => bif c6 then (some (12, a0)) else ((at_ a0.L a1).bind fun x11 => bif x11.Version == a0.Limit then (some (11, a0)) else ((at_ a0.L a1).bind fun x14 => (at_ (a0.L.set a1.toNat ({ x14 with Mark := 0 } : api_Cell)) a1).bind fun x17 => (at_ ((a0.L.set a1.toNat ({ x14 with Mark := 0 } : api_Cell)).set a1.toNat ({ x17 with Value := a3 } : api_Cell)) a1).bind fun x20 => (at_ ((a0.L.set a1.toNat ({ x14 with Mark := 0 } : api_Cell)).set a1.toNat ({ x17 with Value := a3 } : api_Cell)) a1).bind fun x22 => some (0, (⟨((a0.L.set a1.toNat ({ x14 with Mark := 0 } : api_Cell)).set a1.toNat ({ x17 with Value := a3 } : api_Cell)).set a1.toNat ({ x22 with Version := wu32 (x20.Version + 1) } : api_Cell), a0.Limit⟩ : ref01_Store)))))
set_option maxHeartbeats 8000000 in
set_option maxRecDepth 100000 in
theorem ref01_Store_Put.ct (bp0 : Nat) (v0_L : Value) (a0 : ref01_Store) (a1 : Int) (a2 : Int) (a3 : Int) (r0 : Int) (rp0 : ref01_Store) (h : ref01_Store_Put.f a0 a1 a2 a3 = some (r0, rp0)) :
    Ct Try.prog 15 [bp bp0 0, .int .i64 a1, .int .i64 a2, .int .u64 a3] (fun _ => True) [Box bp0 [v0_L, .int .u32 a0.Limit], Own 34 ek_api_Cell v0_L a0.L] (fun u H' => ∃ rw0_L, u = .int .i64 r0 ∧ H' = [Box bp0 [rw0_L, .int .u32 rp0.Limit], Own 34 ek_api_Cell rw0_L rp0.L]) := by
  unfold ref01_Store_Put.f at h
  refine Ct.intro (n := 73) Try.func15 rfl rfl rfl ?_
  intro R w0 F hF hR
  refine S.b1 ?_
  refine S.rd fun hr1 => ?_
  refine S.seq ?_
  refine S.region ?_
  refine SO.v rfl (opv_assign rfl) ?_
  refine SO.nil ?_
  refine S.seq ?_
  refine S.region ?_
  refine SO.v rfl (opv_move rfl) ?_
  refine SO.v rfl (opv_move rfl) ?_
  obtain ⟨t2, ht3, h⟩ := opt_bind h
  refine SO.b1 ?_
  refine SO.call (pre := [Box _ _, Own _ _ _ _]) rfl Try.call23 rfl rfl rfl (ref01_Store_has.ct bp0 v0_L _ _ _ ht3) trivial ?_
  rintro _ _ ⟨rfl, rfl⟩
  refine SO.v rfl (opv_assign rfl) ?_
  refine SO.nil ?_
  refine S.seq ?_
  refine S.seq ?_
  refine S.region ?_
  refine SO.v rfl (opv_move rfl) ?_
  refine SO.v rfl (opv_not rfl) ?_
  refine SO.nil ?_
  rcases bool_or (!t2) with b4 | b4
  · replace h := cond_t b4 h
    refine S.condT rfl b4 ?_
    refine S.seq ?_
    refine S.region ?_
    refine SO.v rfl (opv_assign rfl) ?_
    refine SO.nil ?_
    refine S.to (ρ' := [(8, .int .i64 2)]) ⟨rfl, trivial⟩ ?_
    cases h
    refine S.b2 ?_
    refine S.b2 ?_
    refine S.b2 ?_
    exact S.ret1 Try.func15 rfl rfl (fun w hs hk => hR w _ _ ⟨v0_L, rfl, rfl⟩ hs hk)
  · replace h := cond_f b4 h
    refine S.condF rfl b4 ?_
    refine S.skip ?_
    refine S.seq ?_
    refine S.seq ?_
    refine S.region ?_
    refine SO.v rfl (opv_move rfl) ?_
    refine SO.v rfl (opv_lss rfl rfl) ?_
    refine SO.v rfl (opv_move rfl) ?_
    obtain ⟨c6, hc7, hgk⟩ := opt_bind h
    refine SO.cut 11 28 (.bool c6) [Box bp0 [v0_L, .int .u32 a0.Limit], Own 34 ek_api_Cell v0_L a0.L, F] (fun l2 hk2 => ?_) ?_
    · clear hgk
      replace h := hc7
      rcases bool_or (decide (a2 < 1)) with b5 | b5
      · replace h := cond_t b5 h
        refine SO.passF rfl rfl rfl b5 rfl rfl ?_
        refine SO.passF rfl rfl rfl b5 rfl rfl ?_
        refine SO.passF rfl rfl rfl b5 rfl rfl ?_
        refine SO.passF rfl rfl rfl b5 rfl rfl ?_
        refine SO.passF rfl rfl rfl b5 rfl rfl ?_
        refine SO.passF rfl rfl rfl b5 rfl rfl ?_
        refine SO.passF rfl rfl rfl b5 rfl rfl ?_
        refine SO.passF rfl rfl rfl b5 rfl rfl ?_
        refine SO.passF rfl rfl rfl b5 rfl rfl ?_
        refine SO.passF rfl rfl rfl b5 rfl rfl ?_
        cases h
        refine SO.v rfl (opv_pick_t' b5 rfl rfl) ?_
        refine SO.b2 ?_
        refine SO.b2 ?_
        refine SO.b2 ?_
        exact hk2.fitc (m := 11) rfl (rfl) rfl
      · replace h := cond_f b5 h
        refine SO.takeT rfl rfl rfl b5 ?_
        refine SO.v rfl (opv_move rfl) ?_
        refine SO.takeT rfl rfl rfl b5 ?_
        refine SO.v rfl (opv_nilCheck rfl) ?_
        refine SO.takeT rfl rfl rfl b5 ?_
        refine SO.v rfl (opv_fieldAddr Try.underlying47 rfl Try.sizeOf45 rfl rfl) ?_
        refine SO.takeT rfl rfl rfl b5 ?_
        refine SO.load1 rfl Try.isAgg45 rfl rfl ?_
        refine SO.takeT rfl rfl rfl b5 ?_
        refine SO.v rfl (opv_move rfl) ?_
        refine SO.takeT rfl rfl rfl b5 ?_
        obtain ⟨x8, hx9, h⟩ := opt_bind h
        refine SO.v rfl (opv_idx Try.underlying45 Try.sizeOf34 hr1 rfl rfl hx9) ?_
        refine SO.takeT rfl rfl rfl b5 ?_
        refine SO.v rfl (opv_fieldIdx Try.underlying34 rfl Try.sizeOf3 hr1 hx9 rfl rfl) ?_
        refine SO.takeT rfl rfl rfl b5 ?_
        refine SO.loadI1 (j := 2) rfl Try.isAgg3 (Rd.tail (Rd.head hr1)) hx9 rfl rfl rfl rfl ?_
        refine SO.takeT rfl rfl rfl b5 ?_
        refine SO.v rfl (opv_move rfl) ?_
        refine SO.takeT rfl rfl rfl b5 ?_
        refine SO.v rfl (opv_neq rfl rfl) ?_
        cases h
        refine SO.v rfl (opv_pick_f' b5 rfl rfl) ?_
        refine SO.b2 ?_
        refine SO.b2 ?_
        refine SO.b2 ?_
        exact hk2.fitc (m := 11) rfl (rfl) rfl
    clear hc7
    replace h := hgk
    refine SO.nil ?_
    refine S.to (ρ' := [(0, bp bp0 0), (1, .int .i64 a1), (3, .int .u64 a3), (8, .int .i64 0), (28, .bool c6)]) ⟨rfl, rfl, rfl, rfl, rfl, trivial⟩ ?_
    rcases bool_or c6 with b10 | b10
    · replace h := cond_t b10 h
      refine S.condT rfl b10 ?_
      refine S.seq ?_
      refine S.region ?_
      refine SO.v rfl (opv_assign rfl) ?_
      refine SO.nil ?_
      cases h
      refine S.b2 ?_
      refine S.b2 ?_
      refine S.b2 ?_
      exact S.ret1 Try.func15 rfl rfl (fun w hs hk => hR w _ _ ⟨v0_L, rfl, rfl⟩ hs hk)
    · replace h := cond_f b10 h
      refine S.condF rfl b10 ?_
      refine S.skip ?_
      refine S.seq ?_
      refine S.seq ?_
      obtain ⟨x11, hx12, h⟩ := opt_bind h
      refine S.draw' (Z := fun Q => ∀ (_ : Unit) (_ : Unit) (_ : Unit) (_ : Unit) (_ : Unit) (_ : Unit) (_ : Unit), Q [(0, bp bp0 0), (1, .int .i64 a1), (3, .int .u64 a3), (8, .int .i64 0), (41, .bool (x11.Version == a0.Limit))] [Box bp0 [v0_L, .int .u32 a0.Limit], Own 34 ek_api_Cell v0_L a0.L, F]) (T := [tS 0 (bp bp0 0), tS 1 (.int .i64 a1), tE [(3, .int .u64 a3), (8, .int .i64 0)], tR (Box bp0 [v0_L, .int .u32 a0.Limit]), tR (Own 34 ek_api_Cell v0_L a0.L), tR (F), tS 29 (bp bp0 0), tS 30 (bp bp0 0), tS 31 (bp bp0 0), tS 32 (v0_L), tS 33 (.int .i64 a1), tS 34 (idxp v0_L (a1.toNat * ek_api_Cell.sz)), tS 35 (idxp v0_L (a1.toNat * ek_api_Cell.sz + 1)), tS 36 (.int .u32 x11.Version), tS 37 (bp bp0 0), tS 38 (bp bp0 0), tS 39 (bp bp0 1), tS 40 (.int .u32 a0.Limit), tS 41 (.bool (x11.Version == a0.Limit))]) (D := [⟨[0], [], [6]⟩, ⟨[6], [], [7]⟩, ⟨[7], [], [8]⟩, ⟨[8, 3], [], [9]⟩, ⟨[1], [], [10]⟩, ⟨[9, 10, 4], [], [11]⟩, ⟨[11, 4], [], [12]⟩, ⟨[12, 4], [], [13]⟩, ⟨[0], [], [14]⟩, ⟨[14], [], [15]⟩, ⟨[15], [], [16]⟩, ⟨[16, 3], [], [17]⟩, ⟨[13, 17], [], [18]⟩]) (ini := [0, 1, 2, 3, 4, 5]) (fin := [0, 1, 2, 18, 3, 4, 5]) (bf := [[], [0], [0, 1], [0, 1, 2], [], [0, 1, 2, 3, 4], [0, 1, 2, 3, 4, 5], [0, 1, 2, 3, 4, 5, 6], [], [8], [8, 9], [8, 9, 10], [0, 1, 2, 3, 4, 5, 6, 7, 8, 9, 10, 11]]) (by kernel_rfl) (by kernel_rfl) (fun x w h1 h2 => (.cons () (.cons () (.cons () (.cons () (.cons () (.cons () (.nil ⟨EnvAll.of h1 ⟨rfl, rfl, rfl, rfl, trivial⟩, h2⟩)))))))) (fun Q => by kernel_rfl) ⟨?_, ?_, ?_, ?_, ?_, ?_, ?_, ?_, ?_, ?_, ?_, ?_, ?_, trivial⟩ ?_
      · rintro Fr _
        refine SO.v rfl (opv_move rfl) ?_
        exact SO.nilZ fun a w h1 h2 h3 h4 h5 => PZ.of h1 h3 h5 (.cons () (.cons () (.nil ⟨EnvAll.of h2 ⟨rfl, rfl, trivial⟩, h4⟩)))
      · rintro Fr _
        refine SO.v rfl (opv_nilCheck rfl) ?_
        exact SO.nilZ fun a w h1 h2 h3 h4 h5 => PZ.of h1 h3 h5 (.cons () (.cons () (.nil ⟨EnvAll.of h2 ⟨rfl, rfl, trivial⟩, h4⟩)))
      · rintro Fr _
        refine SO.v rfl (opv_fieldAddr Try.underlying47 rfl Try.sizeOf45 rfl rfl) ?_
        exact SO.nilZ fun a w h1 h2 h3 h4 h5 => PZ.of h1 h3 h5 (.cons () (.cons () (.nil ⟨EnvAll.of h2 ⟨rfl, rfl, trivial⟩, h4⟩)))
      · rintro Fr _ _
        refine SO.load1 rfl Try.isAgg45 rfl rfl ?_
        exact SO.nilZ fun a w h1 h2 h3 h4 h5 => PZ.of h1 h3 h5 (.cons () (.cons () (.cons () (.nil ⟨EnvAll.of h2 ⟨rfl, rfl, trivial⟩, h4⟩))))
      · rintro Fr _
        refine SO.v rfl (opv_move rfl) ?_
        exact SO.nilZ fun a w h1 h2 h3 h4 h5 => PZ.of h1 h3 h5 (.cons () (.cons () (.nil ⟨EnvAll.of h2 ⟨rfl, rfl, trivial⟩, h4⟩)))
      · rintro Fr _ _ _
        refine SO.v rfl (opv_idx Try.underlying45 Try.sizeOf34 hr1 rfl rfl hx12) ?_
        exact SO.nilZ fun a w h1 h2 h3 h4 h5 => PZ.of h1 h3 h5 (.cons () (.cons () (.cons () (.cons () (.nil ⟨EnvAll.of h2 ⟨rfl, rfl, rfl, trivial⟩, h4⟩)))))
      · rintro Fr _ _
        refine SO.v rfl (opv_fieldIdx Try.underlying34 rfl Try.sizeOf22 hr1 hx12 rfl rfl) ?_
        exact SO.nilZ fun a w h1 h2 h3 h4 h5 => PZ.of h1 h3 h5 (.cons () (.cons () (.cons () (.nil ⟨EnvAll.of h2 ⟨rfl, rfl, trivial⟩, h4⟩))))
      · rintro Fr _ _
        refine SO.loadI1 (j := 1) rfl Try.isAgg22 (Rd.head hr1) hx12 rfl rfl rfl rfl ?_
        exact SO.nilZ fun a w h1 h2 h3 h4 h5 => PZ.of h1 h3 h5 (.cons () (.cons () (.cons () (.nil ⟨EnvAll.of h2 ⟨rfl, rfl, trivial⟩, h4⟩))))
      · rintro Fr _
        refine SO.v rfl (opv_move rfl) ?_
        exact SO.nilZ fun a w h1 h2 h3 h4 h5 => PZ.of h1 h3 h5 (.cons () (.cons () (.nil ⟨EnvAll.of h2 ⟨rfl, rfl, trivial⟩, h4⟩)))
      · rintro Fr _
        refine SO.v rfl (opv_nilCheck rfl) ?_
        exact SO.nilZ fun a w h1 h2 h3 h4 h5 => PZ.of h1 h3 h5 (.cons () (.cons () (.nil ⟨EnvAll.of h2 ⟨rfl, rfl, trivial⟩, h4⟩)))
      · rintro Fr _
        refine SO.v rfl (opv_fieldAddr Try.underlying47 rfl Try.sizeOf22 rfl rfl) ?_
        exact SO.nilZ fun a w h1 h2 h3 h4 h5 => PZ.of h1 h3 h5 (.cons () (.cons () (.nil ⟨EnvAll.of h2 ⟨rfl, rfl, trivial⟩, h4⟩)))
      · rintro Fr _ _
        refine SO.load1 rfl Try.isAgg22 rfl rfl ?_
        exact SO.nilZ fun a w h1 h2 h3 h4 h5 => PZ.of h1 h3 h5 (.cons () (.cons () (.cons () (.nil ⟨EnvAll.of h2 ⟨rfl, rfl, trivial⟩, h4⟩))))
      · rintro Fr _ _
        refine SO.v rfl (opv_eql rfl rfl) ?_
        exact SO.nilZ fun a w h1 h2 h3 h4 h5 => PZ.of h1 h3 h5 (.cons () (.cons () (.cons () (.nil ⟨EnvAll.of h2 ⟨rfl, rfl, rfl, trivial⟩, h4⟩))))
      rintro _ _ _ _ _ _ _
      refine S.to (ρ' := [(0, bp bp0 0), (1, .int .i64 a1), (3, .int .u64 a3), (8, .int .i64 0), (41, .bool (x11.Version == a0.Limit))]) ⟨rfl, rfl, rfl, rfl, rfl, trivial⟩ ?_
      rcases bool_or (x11.Version == a0.Limit) with b13 | b13
      · replace h := cond_t b13 h
        refine S.condT rfl b13 ?_
        refine S.seq ?_
        refine S.region ?_
        refine SO.v rfl (opv_assign rfl) ?_
        refine SO.nil ?_
        cases h
        refine S.b2 ?_
        refine S.b2 ?_
        refine S.b2 ?_
        exact S.ret1 Try.func15 rfl rfl (fun w hs hk => hR w _ _ ⟨v0_L, rfl, rfl⟩ hs hk)
      · replace h := cond_f b13 h
        refine S.condF rfl b13 ?_
        refine S.skip ?_
        refine S.seq ?_
        refine S.region ?_
        refine SO.v rfl (opv_move rfl) ?_
        refine SO.v rfl (opv_nilCheck rfl) ?_
        refine SO.v rfl (opv_fieldAddr Try.underlying47 rfl Try.sizeOf45 rfl rfl) ?_
        refine SO.load1 rfl Try.isAgg45 rfl rfl ?_
        refine SO.v rfl (opv_move rfl) ?_
        obtain ⟨x14, hx15, h⟩ := opt_bind h
        refine SO.v rfl (opv_idx Try.underlying45 Try.sizeOf34 hr1 rfl rfl hx15) ?_
        refine SO.v rfl (opv_fieldIdx Try.underlying34 rfl Try.sizeOf3 hr1 hx15 rfl rfl) ?_
        refine SO.b1 ?_
        refine SO.storeI1 (j := 2) (z' := ({ x14 with Mark := 0 } : api_Cell)) Try.sizeOf3 hx15 rfl rfl rfl rfl rfl rfl ?_
        refine SO.rd fun hr16 => ?_
        refine SO.nil ?_
        refine S.to (ρ' := [(0, bp bp0 0), (1, .int .i64 a1), (3, .int .u64 a3), (8, .int .i64 0)]) ⟨rfl, rfl, rfl, rfl, trivial⟩ ?_
        refine S.seq ?_
        refine S.region ?_
        refine SO.v rfl (opv_move rfl) ?_
        refine SO.v rfl (opv_nilCheck rfl) ?_
        refine SO.v rfl (opv_fieldAddr Try.underlying47 rfl Try.sizeOf45 rfl rfl) ?_
        refine SO.b1 ?_
        refine SO.load1 rfl Try.isAgg45 rfl rfl ?_
        refine SO.v rfl (opv_move rfl) ?_
        refine SO.v rfl (opv_move rfl) ?_
        obtain ⟨x17, hx18, h⟩ := opt_bind h
        refine SO.v rfl (opv_idx Try.underlying45 Try.sizeOf34 hr16 rfl rfl hx18) ?_
        refine SO.v rfl (opv_fieldIdx Try.underlying34 rfl Try.sizeOf30 hr16 hx18 rfl rfl) ?_
        refine SO.b1 ?_
        refine SO.storeI1 (j := 0) (z' := ({ x17 with Value := a3 } : api_Cell)) Try.sizeOf30 hx18 rfl rfl rfl rfl rfl rfl ?_
        refine SO.rd fun hr19 => ?_
        refine SO.nil ?_
        refine S.to (ρ' := [(0, bp bp0 0), (1, .int .i64 a1), (8, .int .i64 0)]) ⟨rfl, rfl, rfl, trivial⟩ ?_
        refine S.seq ?_
        obtain ⟨x20, hx21, h⟩ := opt_bind h
        obtain ⟨x22, hx23, h⟩ := opt_bind h
        refine S.draw' (Z := fun Q => ∀ (_ : Unit) (_ : Unit) (_ : Unit) (_ : Unit), Q [(8, .int .i64 0)] [Own 34 ek_api_Cell v0_L (((a0.L.set a1.toNat ({ x14 with Mark := 0 } : api_Cell)).set a1.toNat ({ x17 with Value := a3 } : api_Cell)).set a1.toNat ({ x22 with Version := wu32 (x20.Version + 1) } : api_Cell)), Box bp0 [v0_L, .int .u32 a0.Limit], F]) (T := [tS 0 (bp bp0 0), tS 1 (.int .i64 a1), tS 8 (.int .i64 0), tR (Own 34 ek_api_Cell v0_L ((a0.L.set a1.toNat ({ x14 with Mark := 0 } : api_Cell)).set a1.toNat ({ x17 with Value := a3 } : api_Cell))), tR (Box bp0 [v0_L, .int .u32 a0.Limit]), tR (F), tS 57 (bp bp0 0), tS 58 (bp bp0 0), tS 59 (bp bp0 0), tS 60 (v0_L), tS 61 (.int .i64 a1), tS 62 (bp bp0 0), tS 63 (bp bp0 0), tS 64 (bp bp0 0), tS 65 (v0_L), tS 66 (.int .i64 a1), tS 67 (idxp v0_L (a1.toNat * ek_api_Cell.sz)), tS 68 (idxp v0_L (a1.toNat * ek_api_Cell.sz + 1)), tS 69 (.int .u32 x20.Version), tS 70 (.int .u32 (wu32 (x20.Version + 1))), tS 71 (idxp v0_L (a1.toNat * ek_api_Cell.sz)), tS 72 (idxp v0_L (a1.toNat * ek_api_Cell.sz + 1)), tR (Own 34 ek_api_Cell v0_L (((a0.L.set a1.toNat ({ x14 with Mark := 0 } : api_Cell)).set a1.toNat ({ x17 with Value := a3 } : api_Cell)).set a1.toNat ({ x22 with Version := wu32 (x20.Version + 1) } : api_Cell)))]) (D := [⟨[0], [], [6]⟩, ⟨[6], [], [7]⟩, ⟨[7], [], [8]⟩, ⟨[8, 4], [], [9]⟩, ⟨[1], [], [10]⟩, ⟨[0], [], [11]⟩, ⟨[11], [], [12]⟩, ⟨[12], [], [13]⟩, ⟨[13, 4], [], [14]⟩, ⟨[1], [], [15]⟩, ⟨[14, 15, 3], [], [16]⟩, ⟨[16, 3], [], [17]⟩, ⟨[17, 3], [], [18]⟩, ⟨[18], [], [19]⟩, ⟨[9, 10, 3], [], [20]⟩, ⟨[20, 3], [], [21]⟩, ⟨[19, 21], [3], [22]⟩]) (ini := [0, 1, 2, 3, 4, 5]) (fin := [2, 22, 4, 5]) (bf := [[], [0], [0, 1], [0, 1, 2], [], [], [5], [5, 6], [5, 6, 7], [], [5, 6, 7, 8, 9], [5, 6, 7, 8, 9, 10], [5, 6, 7, 8, 9, 10, 11], [5, 6, 7, 8, 9, 10, 11, 12], [0, 1, 2, 3, 4, 5, 6, 7, 8, 9, 10, 11, 12, 13], [0, 1, 2, 3, 4, 5, 6, 7, 8, 9, 10, 11, 12, 13, 14], [0, 1, 2, 3, 4, 5, 6, 7, 8, 9, 10, 11, 12, 13, 14, 15]]) (by kernel_rfl) (by kernel_rfl) (fun x w h1 h2 => (.cons () (.cons () (.cons () (.cons () (.cons () (.cons () (.nil ⟨EnvAll.of h1 ⟨rfl, rfl, rfl, trivial⟩, h2⟩)))))))) (fun Q => by kernel_rfl) ⟨?_, ?_, ?_, ?_, ?_, ?_, ?_, ?_, ?_, ?_, ?_, ?_, ?_, ?_, ?_, ?_, ?_, trivial⟩ ?_
        · rintro Fr _
          refine SO.v rfl (opv_move rfl) ?_
          exact SO.nilZ fun a w h1 h2 h3 h4 h5 => PZ.of h1 h3 h5 (.cons () (.cons () (.nil ⟨EnvAll.of h2 ⟨rfl, rfl, trivial⟩, h4⟩)))
        · rintro Fr _
          refine SO.v rfl (opv_nilCheck rfl) ?_
          exact SO.nilZ fun a w h1 h2 h3 h4 h5 => PZ.of h1 h3 h5 (.cons () (.cons () (.nil ⟨EnvAll.of h2 ⟨rfl, rfl, trivial⟩, h4⟩)))
        · rintro Fr _
          refine SO.v rfl (opv_fieldAddr Try.underlying47 rfl Try.sizeOf45 rfl rfl) ?_
          exact SO.nilZ fun a w h1 h2 h3 h4 h5 => PZ.of h1 h3 h5 (.cons () (.cons () (.nil ⟨EnvAll.of h2 ⟨rfl, rfl, trivial⟩, h4⟩)))
        · rintro Fr _ _
          refine SO.load1 rfl Try.isAgg45 rfl rfl ?_
          exact SO.nilZ fun a w h1 h2 h3 h4 h5 => PZ.of h1 h3 h5 (.cons () (.cons () (.cons () (.nil ⟨EnvAll.of h2 ⟨rfl, rfl, trivial⟩, h4⟩))))
        · rintro Fr _
          refine SO.v rfl (opv_move rfl) ?_
          exact SO.nilZ fun a w h1 h2 h3 h4 h5 => PZ.of h1 h3 h5 (.cons () (.cons () (.nil ⟨EnvAll.of h2 ⟨rfl, rfl, trivial⟩, h4⟩)))
        · rintro Fr _
          refine SO.v rfl (opv_move rfl) ?_
          exact SO.nilZ fun a w h1 h2 h3 h4 h5 => PZ.of h1 h3 h5 (.cons () (.cons () (.nil ⟨EnvAll.of h2 ⟨rfl, rfl, trivial⟩, h4⟩)))
        · rintro Fr _
          refine SO.v rfl (opv_nilCheck rfl) ?_
          exact SO.nilZ fun a w h1 h2 h3 h4 h5 => PZ.of h1 h3 h5 (.cons () (.cons () (.nil ⟨EnvAll.of h2 ⟨rfl, rfl, trivial⟩, h4⟩)))
        · rintro Fr _
          refine SO.v rfl (opv_fieldAddr Try.underlying47 rfl Try.sizeOf45 rfl rfl) ?_
          exact SO.nilZ fun a w h1 h2 h3 h4 h5 => PZ.of h1 h3 h5 (.cons () (.cons () (.nil ⟨EnvAll.of h2 ⟨rfl, rfl, trivial⟩, h4⟩)))
        · rintro Fr _ _
          refine SO.load1 rfl Try.isAgg45 rfl rfl ?_
          exact SO.nilZ fun a w h1 h2 h3 h4 h5 => PZ.of h1 h3 h5 (.cons () (.cons () (.cons () (.nil ⟨EnvAll.of h2 ⟨rfl, rfl, trivial⟩, h4⟩))))
        · rintro Fr _
          refine SO.v rfl (opv_move rfl) ?_
          exact SO.nilZ fun a w h1 h2 h3 h4 h5 => PZ.of h1 h3 h5 (.cons () (.cons () (.nil ⟨EnvAll.of h2 ⟨rfl, rfl, trivial⟩, h4⟩)))
        · rintro Fr _ _ _
          refine SO.v rfl (opv_idx Try.underlying45 Try.sizeOf34 hr19 rfl rfl hx21) ?_
          exact SO.nilZ fun a w h1 h2 h3 h4 h5 => PZ.of h1 h3 h5 (.cons () (.cons () (.cons () (.cons () (.nil ⟨EnvAll.of h2 ⟨rfl, rfl, rfl, trivial⟩, h4⟩)))))
        · rintro Fr _ _
          refine SO.v rfl (opv_fieldIdx Try.underlying34 rfl Try.sizeOf22 hr19 hx21 rfl rfl) ?_
          exact SO.nilZ fun a w h1 h2 h3 h4 h5 => PZ.of h1 h3 h5 (.cons () (.cons () (.cons () (.nil ⟨EnvAll.of h2 ⟨rfl, rfl, trivial⟩, h4⟩))))
        · rintro Fr _ _
          refine SO.loadI1 (j := 1) rfl Try.isAgg22 (Rd.head hr19) hx21 rfl rfl rfl rfl ?_
          exact SO.nilZ fun a w h1 h2 h3 h4 h5 => PZ.of h1 h3 h5 (.cons () (.cons () (.cons () (.nil ⟨EnvAll.of h2 ⟨rfl, rfl, trivial⟩, h4⟩))))
        · rintro Fr _
          refine SO.v rfl (opv_add rfl rfl) ?_
          exact SO.nilZ fun a w h1 h2 h3 h4 h5 => PZ.of h1 h3 h5 (.cons () (.cons () (.nil ⟨EnvAll.of h2 ⟨rfl, rfl, trivial⟩, h4⟩)))
        · rintro Fr _ _ _
          refine SO.v rfl (opv_idx Try.underlying45 Try.sizeOf34 hr19 rfl rfl hx23) ?_
          exact SO.nilZ fun a w h1 h2 h3 h4 h5 => PZ.of h1 h3 h5 (.cons () (.cons () (.cons () (.cons () (.nil ⟨EnvAll.of h2 ⟨rfl, rfl, rfl, trivial⟩, h4⟩)))))
        · rintro Fr _ _
          refine SO.v rfl (opv_fieldIdx Try.underlying34 rfl Try.sizeOf22 hr19 hx23 rfl rfl) ?_
          exact SO.nilZ fun a w h1 h2 h3 h4 h5 => PZ.of h1 h3 h5 (.cons () (.cons () (.cons () (.nil ⟨EnvAll.of h2 ⟨rfl, rfl, trivial⟩, h4⟩))))
        · rintro Fr _ _ _
          refine SO.storeI1 (j := 1) (z' := ({ x22 with Version := wu32 (x20.Version + 1) } : api_Cell)) Try.sizeOf22 hx23 rfl rfl rfl rfl rfl rfl ?_
          refine SO.rd fun hr24 => ?_
          exact SO.nilZ fun a w h1 h2 h3 h4 h5 => PZ.of h1 h3 h5 (.cons () (.cons () (.cons () (.nil ⟨EnvAll.of h2 ⟨rfl, rfl, trivial⟩, h4⟩))))
        rintro _ _ _ _
        refine S.to (ρ' := [(8, .int .i64 0)]) ⟨rfl, trivial⟩ ?_
        refine S.rd fun hr25 => ?_
        refine S.seq ?_
        refine S.region ?_
        refine SO.v rfl (opv_assign rfl) ?_
        refine SO.nil ?_
        cases h
        refine S.b2 ?_
        refine S.b1 ?_
        refine S.b2 ?_
        exact S.ret1 Try.func15 rfl rfl (fun w hs hk => hR w _ _ ⟨v0_L, rfl, rfl⟩ hs hk)
end Go.Proofs
namespace Go.Proofs
open Go.Sl Go.RowKit
/-! 14 (*padstone/padstoneref01.Store).Release -/
def ref01_Store_Release.f (a0 : ref01_Store) (a1 : Int) (a2 : Int) : Option ((Int × ref01_Store)) :=
  (ref01_Store_has.f a0 a1).bind fun t2 => bif !t2 then (some (2, a0)) else ((bif decide (a2 < 1) then (some true) else ((at_ a0.L a1).bind fun x8 => some (x8.Mark != a2))).bind fun c6 => bif c6 then (some (12, a0)) else ((at_ a0.L a1).bind fun x11 => some (0, (⟨a0.L.set a1.toNat ({ x11 with Mark := 0 } : api_Cell), a0.Limit⟩ : ref01_Store))))
set_option maxHeartbeats 8000000 in
set_option maxRecDepth 100000 in
theorem ref01_Store_Release.ct (bp0 : Nat) (v0_L : Value) (a0 : ref01_Store) (a1 : Int) (a2 : Int) (r0 : Int) (rp0 : ref01_Store) (h : ref01_Store_Release.f a0 a1 a2 = some (r0, rp0)) :
    Ct Try.prog 14 [bp bp0 0, .int .i64 a1, .int .i64 a2] (fun _ => True) [Box bp0 [v0_L, .int .u32 a0.Limit], Own 34 ek_api_Cell v0_L a0.L] (fun u H' => ∃ rw0_L, u = .int .i64 r0 ∧ H' = [Box bp0 [rw0_L, .int .u32 rp0.Limit], Own 34 ek_api_Cell rw0_L rp0.L]) := by
  unfold ref01_Store_Release.f at h
  refine Ct.intro (n := 34) Try.func14 rfl rfl rfl ?_
  intro R w0 F hF hR
  refine S.b1 ?_
  refine S.rd fun hr1 => ?_
  refine S.seq ?_
  refine S.region ?_
  refine SO.v rfl (opv_assign rfl) ?_
  refine SO.nil ?_
  refine S.seq ?_
  refine S.region ?_
  refine SO.v rfl (opv_move rfl) ?_
  refine SO.v rfl (opv_move rfl) ?_
  obtain ⟨t2, ht3, h⟩ := opt_bind h
  refine SO.b1 ?_
  refine SO.call (pre := [Box _ _, Own _ _ _ _]) rfl Try.call23 rfl rfl rfl (ref01_Store_has.ct bp0 v0_L _ _ _ ht3) trivial ?_
  rintro _ _ ⟨rfl, rfl⟩
  refine SO.v rfl (opv_assign rfl) ?_
  refine SO.nil ?_
  refine S.seq ?_
  refine S.seq ?_
  refine S.region ?_
  refine SO.v rfl (opv_move rfl) ?_
  refine SO.v rfl (opv_not rfl) ?_
  refine SO.nil ?_
  rcases bool_or (!t2) with b4 | b4
  · replace h := cond_t b4 h
    refine S.condT rfl b4 ?_
    refine S.seq ?_
    refine S.region ?_
    refine SO.v rfl (opv_assign rfl) ?_
    refine SO.nil ?_
    refine S.to (ρ' := [(6, .int .i64 2)]) ⟨rfl, trivial⟩ ?_
    cases h
    refine S.b2 ?_
    refine S.b2 ?_
    refine S.b2 ?_
    exact S.ret1 Try.func14 rfl rfl (fun w hs hk => hR w _ _ ⟨v0_L, rfl, rfl⟩ hs hk)
  · replace h := cond_f b4 h
    refine S.condF rfl b4 ?_
    refine S.skip ?_
    refine S.seq ?_
    refine S.seq ?_
    refine S.region ?_
    refine SO.v rfl (opv_move rfl) ?_
    refine SO.v rfl (opv_lss rfl rfl) ?_
    refine SO.v rfl (opv_move rfl) ?_
    obtain ⟨c6, hc7, hgk⟩ := opt_bind h
    refine SO.cut 11 26 (.bool c6) [Box bp0 [v0_L, .int .u32 a0.Limit], Own 34 ek_api_Cell v0_L a0.L, F] (fun l2 hk2 => ?_) ?_
    · clear hgk
      replace h := hc7
      rcases bool_or (decide (a2 < 1)) with b5 | b5
      · replace h := cond_t b5 h
        refine SO.passF rfl rfl rfl b5 rfl rfl ?_
        refine SO.passF rfl rfl rfl b5 rfl rfl ?_
        refine SO.passF rfl rfl rfl b5 rfl rfl ?_
        refine SO.passF rfl rfl rfl b5 rfl rfl ?_
        refine SO.passF rfl rfl rfl b5 rfl rfl ?_
        refine SO.passF rfl rfl rfl b5 rfl rfl ?_
        refine SO.passF rfl rfl rfl b5 rfl rfl ?_
        refine SO.passF rfl rfl rfl b5 rfl rfl ?_
        refine SO.passF rfl rfl rfl b5 rfl rfl ?_
        refine SO.passF rfl rfl rfl b5 rfl rfl ?_
        cases h
        refine SO.v rfl (opv_pick_t' b5 rfl rfl) ?_
        refine SO.b2 ?_
        refine SO.b2 ?_
        refine SO.b2 ?_
        exact hk2.fitc (m := 11) rfl (rfl) rfl
      · replace h := cond_f b5 h
        refine SO.takeT rfl rfl rfl b5 ?_
        refine SO.v rfl (opv_move rfl) ?_
        refine SO.takeT rfl rfl rfl b5 ?_
        refine SO.v rfl (opv_nilCheck rfl) ?_
        refine SO.takeT rfl rfl rfl b5 ?_
        refine SO.v rfl (opv_fieldAddr Try.underlying47 rfl Try.sizeOf45 rfl rfl) ?_
        refine SO.takeT rfl rfl rfl b5 ?_
        refine SO.load1 rfl Try.isAgg45 rfl rfl ?_
        refine SO.takeT rfl rfl rfl b5 ?_
        refine SO.v rfl (opv_move rfl) ?_
        refine SO.takeT rfl rfl rfl b5 ?_
        obtain ⟨x8, hx9, h⟩ := opt_bind h
        refine SO.v rfl (opv_idx Try.underlying45 Try.sizeOf34 hr1 rfl rfl hx9) ?_
        refine SO.takeT rfl rfl rfl b5 ?_
        refine SO.v rfl (opv_fieldIdx Try.underlying34 rfl Try.sizeOf3 hr1 hx9 rfl rfl) ?_
        refine SO.takeT rfl rfl rfl b5 ?_
        refine SO.loadI1 (j := 2) rfl Try.isAgg3 (Rd.tail (Rd.head hr1)) hx9 rfl rfl rfl rfl ?_
        refine SO.takeT rfl rfl rfl b5 ?_
        refine SO.v rfl (opv_move rfl) ?_
        refine SO.takeT rfl rfl rfl b5 ?_
        refine SO.v rfl (opv_neq rfl rfl) ?_
        cases h
        refine SO.v rfl (opv_pick_f' b5 rfl rfl) ?_
        refine SO.b2 ?_
        refine SO.b2 ?_
        refine SO.b2 ?_
        exact hk2.fitc (m := 11) rfl (rfl) rfl
    clear hc7
    replace h := hgk
    refine SO.nil ?_
    refine S.to (ρ' := [(0, bp bp0 0), (1, .int .i64 a1), (6, .int .i64 0), (26, .bool c6)]) ⟨rfl, rfl, rfl, rfl, trivial⟩ ?_
    rcases bool_or c6 with b10 | b10
    · replace h := cond_t b10 h
      refine S.condT rfl b10 ?_
      refine S.seq ?_
      refine S.region ?_
      refine SO.v rfl (opv_assign rfl) ?_
      refine SO.nil ?_
      cases h
      refine S.b2 ?_
      refine S.b2 ?_
      refine S.b2 ?_
      exact S.ret1 Try.func14 rfl rfl (fun w hs hk => hR w _ _ ⟨v0_L, rfl, rfl⟩ hs hk)
    · replace h := cond_f b10 h
      refine S.condF rfl b10 ?_
      refine S.skip ?_
      refine S.seq ?_
      refine S.region ?_
      refine SO.v rfl (opv_move rfl) ?_
      refine SO.v rfl (opv_nilCheck rfl) ?_
      refine SO.v rfl (opv_fieldAddr Try.underlying47 rfl Try.sizeOf45 rfl rfl) ?_
      refine SO.load1 rfl Try.isAgg45 rfl rfl ?_
      refine SO.v rfl (opv_move rfl) ?_
      obtain ⟨x11, hx12, h⟩ := opt_bind h
      refine SO.v rfl (opv_idx Try.underlying45 Try.sizeOf34 hr1 rfl rfl hx12) ?_
      refine SO.v rfl (opv_fieldIdx Try.underlying34 rfl Try.sizeOf3 hr1 hx12 rfl rfl) ?_
      refine SO.b1 ?_
      refine SO.storeI1 (j := 2) (z' := ({ x11 with Mark := 0 } : api_Cell)) Try.sizeOf3 hx12 rfl rfl rfl rfl rfl rfl ?_
      refine SO.rd fun hr13 => ?_
      refine SO.nil ?_
      refine S.to (ρ' := [(6, .int .i64 0)]) ⟨rfl, trivial⟩ ?_
      refine S.seq ?_
      refine S.region ?_
      refine SO.v rfl (opv_assign rfl) ?_
      refine SO.nil ?_
      cases h
      refine S.b2 ?_
      refine S.b1 ?_
      refine S.b2 ?_
      exact S.ret1 Try.func14 rfl rfl (fun w hs hk => hR w _ _ ⟨v0_L, rfl, rfl⟩ hs hk)
end Go.Proofs
namespace Go.Proofs
open Go.Sl Go.RowKit
/-! 13 (*padstone/padstoneref01.Store).Reserve -/
def ref01_Store_Reserve.f (a0 : ref01_Store) (a1 : Int) (a2 : Int) (a3 : Int) : Option ((Int × ref01_Store)) :=
  (ref01_Store_has.f a0 a1).bind fun t2 => bif !t2 then (some (2, a0)) else (bif decide (a3 < 1) then (some (1, a0)) else ((at_ a0.L a1).bind fun x6 => bif (x6.Mark != 0) && (x6.Mark != a3) then (some (12, a0)) else (bif x6.Version != a2 then (some (10, a0)) else ((at_ a0.L a1).bind fun x12 => some (0, (⟨a0.L.set a1.toNat ({ x12 with Mark := a3 } : api_Cell), a0.Limit⟩ : ref01_Store))))))
set_option maxHeartbeats 8000000 in
set_option maxRecDepth 100000 in
theorem ref01_Store_Reserve.ct (bp0 : Nat) (v0_L : Value) (a0 : ref01_Store) (a1 : Int) (a2 : Int) (a3 : Int) (r0 : Int) (rp0 : ref01_Store) (h : ref01_Store_Reserve.f a0 a1 a2 a3 = some (r0, rp0)) :
    Ct Try.prog 13 [bp bp0 0, .int .i64 a1, .int .u32 a2, .int .i64 a3] (fun _ => True) [Box bp0 [v0_L, .int .u32 a0.Limit], Own 34 ek_api_Cell v0_L a0.L] (fun u H' => ∃ rw0_L, u = .int .i64 r0 ∧ H' = [Box bp0 [rw0_L, .int .u32 rp0.Limit], Own 34 ek_api_Cell rw0_L rp0.L]) := by
  unfold ref01_Store_Reserve.f at h
  refine Ct.intro (n := 46) Try.func13 rfl rfl rfl ?_
  intro R w0 F hF hR
  refine S.b1 ?_
  refine S.rd fun hr1 => ?_
  refine S.seq ?_
  refine S.region ?_
  refine SO.v rfl (opv_assign rfl) ?_
  refine SO.nil ?_
  refine S.seq ?_
  refine S.region ?_
  refine SO.v rfl (opv_move rfl) ?_
  refine SO.v rfl (opv_move rfl) ?_
  obtain ⟨t2, ht3, h⟩ := opt_bind h
  refine SO.b1 ?_
  refine SO.call (pre := [Box _ _, Own _ _ _ _]) rfl Try.call23 rfl rfl rfl (ref01_Store_has.ct bp0 v0_L _ _ _ ht3) trivial ?_
  rintro _ _ ⟨rfl, rfl⟩
  refine SO.v rfl (opv_assign rfl) ?_
  refine SO.nil ?_
  refine S.seq ?_
  refine S.seq ?_
  refine S.region ?_
  refine SO.v rfl (opv_move rfl) ?_
  refine SO.v rfl (opv_not rfl) ?_
  refine SO.nil ?_
  rcases bool_or (!t2) with b4 | b4
  · replace h := cond_t b4 h
    refine S.condT rfl b4 ?_
    refine S.seq ?_
    refine S.region ?_
    refine SO.v rfl (opv_assign rfl) ?_
    refine SO.nil ?_
    refine S.to (ρ' := [(8, .int .i64 2)]) ⟨rfl, trivial⟩ ?_
    cases h
    refine S.b2 ?_
    refine S.b2 ?_
    refine S.b2 ?_
    exact S.ret1 Try.func13 rfl rfl (fun w hs hk => hR w _ _ ⟨v0_L, rfl, rfl⟩ hs hk)
  · replace h := cond_f b4 h
    refine S.condF rfl b4 ?_
    refine S.skip ?_
    refine S.seq ?_
    refine S.seq ?_
    refine S.region ?_
    refine SO.v rfl (opv_move rfl) ?_
    refine SO.v rfl (opv_lss rfl rfl) ?_
    refine SO.nil ?_
    refine S.to (ρ' := [(0, bp bp0 0), (1, .int .i64 a1), (2, .int .u32 a2), (3, .int .i64 a3), (8, .int .i64 0), (17, .bool (decide (a3 < 1)))]) ⟨rfl, rfl, rfl, rfl, rfl, rfl, trivial⟩ ?_
    rcases bool_or (decide (a3 < 1)) with b5 | b5
    · replace h := cond_t b5 h
      refine S.condT rfl b5 ?_
      refine S.seq ?_
      refine S.region ?_
      refine SO.v rfl (opv_assign rfl) ?_
      refine SO.nil ?_
      cases h
      refine S.b2 ?_
      refine S.b2 ?_
      refine S.b2 ?_
      exact S.ret1 Try.func13 rfl rfl (fun w hs hk => hR w _ _ ⟨v0_L, rfl, rfl⟩ hs hk)
    · replace h := cond_f b5 h
      refine S.condF rfl b5 ?_
      refine S.skip ?_
      refine S.seq ?_
      refine S.region ?_
      refine SO.v rfl (opv_move rfl) ?_
      refine SO.v rfl (opv_nilCheck rfl) ?_
      refine SO.v rfl (opv_fieldAddr Try.underlying47 rfl Try.sizeOf45 rfl rfl) ?_
      refine SO.load1 rfl Try.isAgg45 rfl rfl ?_
      refine SO.v rfl (opv_move rfl) ?_
      obtain ⟨x6, hx7, h⟩ := opt_bind h
      refine SO.v rfl (opv_idx Try.underlying45 Try.sizeOf34 hr1 rfl rfl hx7) ?_
      refine SO.loadIN rfl Try.isAgg34 Try.sizeOf34 (Rd.tail (Rd.head hr1)) hx7 rfl rfl rfl ?_
      refine SO.alloc rfl Try.zeroValue34 rfl (fun b8 => ?_)
      refine SO.storeN Try.sizeOf34 rfl rfl rfl rfl rfl rfl ?_
      refine SO.nil ?_
      refine S.to (ρ' := [(0, bp bp0 0), (1, .int .i64 a1), (2, .int .u32 a2), (3, .int .i64 a3), (8, .int .i64 0), (10, bp b8 0)]) ⟨rfl, rfl, rfl, rfl, rfl, rfl, trivial⟩ ?_
      refine S.seq ?_
      refine S.seq ?_
      refine S.region ?_
      refine SO.v rfl (opv_fieldAddr Try.underlying34 rfl Try.sizeOf3 rfl rfl) ?_
      refine SO.load1 rfl Try.isAgg3 rfl rfl ?_
      refine SO.v rfl (opv_neq rfl rfl) ?_
      refine SO.v rfl (opv_move rfl) ?_
      refine SO.cut 5 33 (.bool ((x6.Mark != 0) && (x6.Mark != a3))) [Box b8 [.int .u64 x6.Value, .int .u32 x6.Version, .int .i64 x6.Mark], Box bp0 [v0_L, .int .u32 a0.Limit], Own 34 ek_api_Cell v0_L a0.L, F] (fun l2 hk2 => ?_) ?_
      · rcases bool_or (x6.Mark != 0) with b9 | b9
        · refine SO.takeT rfl rfl rfl b9 ?_
          refine SO.v rfl (opv_fieldAddr Try.underlying34 rfl Try.sizeOf3 rfl rfl) ?_
          refine SO.takeT rfl rfl rfl b9 ?_
          refine SO.load1 rfl Try.isAgg3 rfl rfl ?_
          refine SO.takeT rfl rfl rfl b9 ?_
          refine SO.v rfl (opv_move rfl) ?_
          refine SO.takeT rfl rfl rfl b9 ?_
          refine SO.v rfl (opv_neq rfl rfl) ?_
          refine SO.v rfl (opv_pick_t' b9 rfl rfl) ?_
          refine SO.b3 ?_
          refine SO.b3 ?_
          refine SO.b3 ?_
          refine SO.b3 ?_
          exact hk2.fitc (m := 5) rfl (and_t b9) rfl
        · refine SO.passF rfl rfl rfl b9 rfl rfl ?_
          refine SO.passF rfl rfl rfl b9 rfl rfl ?_
          refine SO.passF rfl rfl rfl b9 rfl rfl ?_
          refine SO.passF rfl rfl rfl b9 rfl rfl ?_
          refine SO.v rfl (opv_pick_f' b9 rfl rfl) ?_
          refine SO.b3 ?_
          refine SO.b3 ?_
          refine SO.b3 ?_
          refine SO.b3 ?_
          exact hk2.fitc (m := 5) rfl (and_f b9) rfl
      refine SO.nil ?_
      rcases bool_or ((x6.Mark != 0) && (x6.Mark != a3)) with b10 | b10
      · replace h := cond_t b10 h
        refine S.condT rfl b10 ?_
        refine S.seq ?_
        refine S.region ?_
        refine SO.v rfl (opv_assign rfl) ?_
        refine SO.nil ?_
        refine S.to (ρ' := [(8, .int .i64 12)]) ⟨rfl, trivial⟩ ?_
        cases h
        refine S.drop ?_
        refine S.b2 ?_
        refine S.b2 ?_
        refine S.b2 ?_
        exact S.ret1 Try.func13 rfl rfl (fun w hs hk => hR w _ _ ⟨v0_L, rfl, rfl⟩ hs hk)
      · replace h := cond_f b10 h
        refine S.condF rfl b10 ?_
        refine S.skip ?_
        refine S.seq ?_
        refine S.seq ?_
        refine S.region ?_
        refine SO.v rfl (opv_fieldAddr Try.underlying34 rfl Try.sizeOf22 rfl rfl) ?_
        refine SO.load1 rfl Try.isAgg22 rfl rfl ?_
        refine SO.v rfl (opv_move rfl) ?_
        refine SO.v rfl (opv_neq rfl rfl) ?_
        refine SO.nil ?_
        refine S.to (ρ' := [(0, bp bp0 0), (1, .int .i64 a1), (3, .int .i64 a3), (8, .int .i64 0), (37, .bool (x6.Version != a2))]) ⟨rfl, rfl, rfl, rfl, rfl, trivial⟩ ?_
        rcases bool_or (x6.Version != a2) with b11 | b11
        · replace h := cond_t b11 h
          refine S.condT rfl b11 ?_
          refine S.seq ?_
          refine S.region ?_
          refine SO.v rfl (opv_assign rfl) ?_
          refine SO.nil ?_
          cases h
          refine S.drop ?_
          refine S.b2 ?_
          refine S.b2 ?_
          refine S.b2 ?_
          exact S.ret1 Try.func13 rfl rfl (fun w hs hk => hR w _ _ ⟨v0_L, rfl, rfl⟩ hs hk)
        · replace h := cond_f b11 h
          refine S.condF rfl b11 ?_
          refine S.skip ?_
          refine S.seq ?_
          refine S.region ?_
          refine SO.v rfl (opv_move rfl) ?_
          refine SO.v rfl (opv_nilCheck rfl) ?_
          refine SO.v rfl (opv_fieldAddr Try.underlying47 rfl Try.sizeOf45 rfl rfl) ?_
          refine SO.b1 ?_
          refine SO.load1 rfl Try.isAgg45 rfl rfl ?_
          refine SO.v rfl (opv_move rfl) ?_
          refine SO.v rfl (opv_move rfl) ?_
          obtain ⟨x12, hx13, h⟩ := opt_bind h
          refine SO.v rfl (opv_idx Try.underlying45 Try.sizeOf34 hr1 rfl rfl hx13) ?_
          refine SO.v rfl (opv_fieldIdx Try.underlying34 rfl Try.sizeOf3 hr1 hx13 rfl rfl) ?_
          refine SO.b2 ?_
          refine SO.storeI1 (j := 2) (z' := ({ x12 with Mark := a3 } : api_Cell)) Try.sizeOf3 hx13 rfl rfl rfl rfl rfl rfl ?_
          refine SO.rd fun hr14 => ?_
          refine SO.nil ?_
          refine S.to (ρ' := [(8, .int .i64 0)]) ⟨rfl, trivial⟩ ?_
          refine S.seq ?_
          refine S.region ?_
          refine SO.v rfl (opv_assign rfl) ?_
          refine SO.nil ?_
          cases h
          refine S.b2 ?_
          refine S.drop ?_
          refine S.b2 ?_
          refine S.b1 ?_
          refine S.b2 ?_
          exact S.ret1 Try.func13 rfl rfl (fun w hs hk => hR w _ _ ⟨v0_L, rfl, rfl⟩ hs hk)
end Go.Proofs
namespace Go.Proofs
open Go.Sl Go.RowKit
/-! 16 (*padstone/padstoneref01.Store).Set -/
def ref01_Store_Set.f (a0 : ref01_Store) (a1 : Int) (a2 : Int) : Option ((Int × ref01_Store)) :=
  (ref01_Store_has.f a0 a1).bind fun t2 => bif !t2 then (some (2, a0)) else ((at_ a0.L a1).bind fun x5 => bif x5.Mark != 0 then (some (12, a0)) else ((at_ a0.L a1).bind fun x8 => some (0, (⟨a0.L.set a1.toNat ({ x8 with Value := a2 } : api_Cell), a0.Limit⟩ : ref01_Store))))
set_option maxHeartbeats 8000000 in
set_option maxRecDepth 100000 in
theorem ref01_Store_Set.ct (bp0 : Nat) (v0_L : Value) (a0 : ref01_Store) (a1 : Int) (a2 : Int) (r0 : Int) (rp0 : ref01_Store) (h : ref01_Store_Set.f a0 a1 a2 = some (r0, rp0)) :
    Ct Try.prog 16 [bp bp0 0, .int .i64 a1, .int .u64 a2] (fun _ => True) [Box bp0 [v0_L, .int .u32 a0.Limit], Own 34 ek_api_Cell v0_L a0.L] (fun u H' => ∃ rw0_L, u = .int .i64 r0 ∧ H' = [Box bp0 [rw0_L, .int .u32 rp0.Limit], Own 34 ek_api_Cell rw0_L rp0.L]) := by
  unfold ref01_Store_Set.f at h
  refine Ct.intro (n := 30) Try.func16 rfl rfl rfl ?_
  intro R w0 F hF hR
  refine S.b1 ?_
  refine S.rd fun hr1 => ?_
  refine S.seq ?_
  refine S.region ?_
  refine SO.v rfl (opv_assign rfl) ?_
  refine SO.nil ?_
  refine S.seq ?_
  refine S.region ?_
  refine SO.v rfl (opv_move rfl) ?_
  refine SO.v rfl (opv_move rfl) ?_
  obtain ⟨t2, ht3, h⟩ := opt_bind h
  refine SO.b1 ?_
  refine SO.call (pre := [Box _ _, Own _ _ _ _]) rfl Try.call23 rfl rfl rfl (ref01_Store_has.ct bp0 v0_L _ _ _ ht3) trivial ?_
  rintro _ _ ⟨rfl, rfl⟩
  refine SO.v rfl (opv_assign rfl) ?_
  refine SO.nil ?_
  refine S.seq ?_
  refine S.seq ?_
  refine S.region ?_
  refine SO.v rfl (opv_move rfl) ?_
  refine SO.v rfl (opv_not rfl) ?_
  refine SO.nil ?_
  rcases bool_or (!t2) with b4 | b4
  · replace h := cond_t b4 h
    refine S.condT rfl b4 ?_
    refine S.seq ?_
    refine S.region ?_
    refine SO.v rfl (opv_assign rfl) ?_
    refine SO.nil ?_
    refine S.to (ρ' := [(6, .int .i64 2)]) ⟨rfl, trivial⟩ ?_
    cases h
    refine S.b2 ?_
    refine S.b2 ?_
    refine S.b2 ?_
    exact S.ret1 Try.func16 rfl rfl (fun w hs hk => hR w _ _ ⟨v0_L, rfl, rfl⟩ hs hk)
  · replace h := cond_f b4 h
    refine S.condF rfl b4 ?_
    refine S.skip ?_
    refine S.seq ?_
    refine S.seq ?_
    refine S.region ?_
    refine SO.v rfl (opv_move rfl) ?_
    refine SO.v rfl (opv_nilCheck rfl) ?_
    refine SO.v rfl (opv_fieldAddr Try.underlying47 rfl Try.sizeOf45 rfl rfl) ?_
    refine SO.load1 rfl Try.isAgg45 rfl rfl ?_
    refine SO.v rfl (opv_move rfl) ?_
    obtain ⟨x5, hx6, h⟩ := opt_bind h
    refine SO.v rfl (opv_idx Try.underlying45 Try.sizeOf34 hr1 rfl rfl hx6) ?_
    refine SO.v rfl (opv_fieldIdx Try.underlying34 rfl Try.sizeOf3 hr1 hx6 rfl rfl) ?_
    refine SO.loadI1 (j := 2) rfl Try.isAgg3 (Rd.tail (Rd.head hr1)) hx6 rfl rfl rfl rfl ?_
    refine SO.v rfl (opv_neq rfl rfl) ?_
    refine SO.nil ?_
    refine S.to (ρ' := [(0, bp bp0 0), (1, .int .i64 a1), (2, .int .u64 a2), (6, .int .i64 0), (21, .bool (x5.Mark != 0))]) ⟨rfl, rfl, rfl, rfl, rfl, trivial⟩ ?_
    rcases bool_or (x5.Mark != 0) with b7 | b7
    · replace h := cond_t b7 h
      refine S.condT rfl b7 ?_
      refine S.seq ?_
      refine S.region ?_
      refine SO.v rfl (opv_assign rfl) ?_
      refine SO.nil ?_
      cases h
      refine S.b2 ?_
      refine S.b2 ?_
      refine S.b2 ?_
      exact S.ret1 Try.func16 rfl rfl (fun w hs hk => hR w _ _ ⟨v0_L, rfl, rfl⟩ hs hk)
    · replace h := cond_f b7 h
      refine S.condF rfl b7 ?_
      refine S.skip ?_
      refine S.seq ?_
      refine S.region ?_
      refine SO.v rfl (opv_move rfl) ?_
      refine SO.v rfl (opv_nilCheck rfl) ?_
      refine SO.v rfl (opv_fieldAddr Try.underlying47 rfl Try.sizeOf45 rfl rfl) ?_
      refine SO.load1 rfl Try.isAgg45 rfl rfl ?_
      refine SO.v rfl (opv_move rfl) ?_
      refine SO.v rfl (opv_move rfl) ?_
      obtain ⟨x8, hx9, h⟩ := opt_bind h
      refine SO.v rfl (opv_idx Try.underlying45 Try.sizeOf34 hr1 rfl rfl hx9) ?_
      refine SO.v rfl (opv_fieldIdx Try.underlying34 rfl Try.sizeOf30 hr1 hx9 rfl rfl) ?_
      refine SO.b1 ?_
      refine SO.storeI1 (j := 0) (z' := ({ x8 with Value := a2 } : api_Cell)) Try.sizeOf30 hx9 rfl rfl rfl rfl rfl rfl ?_
      refine SO.rd fun hr10 => ?_
      refine SO.nil ?_
      refine S.to (ρ' := [(6, .int .i64 0)]) ⟨rfl, trivial⟩ ?_
      refine S.seq ?_
      refine S.region ?_
      refine SO.v rfl (opv_assign rfl) ?_
      refine SO.nil ?_
      cases h
      refine S.b2 ?_
      refine S.b1 ?_
      refine S.b2 ?_
      exact S.ret1 Try.func16 rfl rfl (fun w hs hk => hR w _ _ ⟨v0_L, rfl, rfl⟩ hs hk)
end Go.Proofs
namespace Go.Proofs
open Go.Sl Go.RowKit
/-! 10 (*padstone/word.Store).Release -/
def word_Store_Release.f (a0 : word_Store) (a1 : Int) (a2 : Int) : Option (((Option Int) × word_Store)) :=
  (word_Store_own.f a0 a1 a2).bind fun t2 => bif t2.isSome then (some (t2, a0)) else ((at_ a0.l a1).bind fun x5 => some (none, (⟨a0.l.set a1.toNat ({ x5 with Mark := 0 } : api_Cell), a0.limit⟩ : word_Store)))
set_option maxHeartbeats 8000000 in
set_option maxRecDepth 100000 in
theorem word_Store_Release.ct (bp0 : Nat) (v0_l : Value) (a0 : word_Store) (a1 : Int) (a2 : Int) (r0 : Option Int) (rp0 : word_Store) (h : word_Store_Release.f a0 a1 a2 = some (r0, rp0)) :
    Ct Try.prog 10 [bp bp0 0, .int .i64 a1, .int .i64 a2] (fun _ => True) [Box bp0 [v0_l, .int .u32 a0.limit], Own 34 ek_api_Cell v0_l a0.l] (fun u H' => ∃ rw0_l, u = errV 43 r0 ∧ H' = [Box bp0 [rw0_l, .int .u32 rp0.limit], Own 34 ek_api_Cell rw0_l rp0.l]) := by
  unfold word_Store_Release.f at h
  refine Ct.intro (n := 22) Try.func10 rfl rfl rfl ?_
  intro R w0 F hF hR
  refine S.b1 ?_
  refine S.rd fun hr1 => ?_
  refine S.seq ?_
  refine S.region ?_
  refine SO.v rfl (opv_assign rfl) ?_
  refine SO.nil ?_
  refine S.seq ?_
  refine S.seq ?_
  refine S.region ?_
  refine SO.v rfl (opv_move rfl) ?_
  refine SO.v rfl (opv_move rfl) ?_
  refine SO.v rfl (opv_move rfl) ?_
  obtain ⟨t2, ht3, h⟩ := opt_bind h
  refine SO.b1 ?_
  refine SO.call (pre := [Box _ _, Own _ _ _ _]) rfl Try.call22 rfl rfl rfl (word_Store_own.ct bp0 v0_l _ _ _ _ ht3) trivial ?_
  rintro _ _ ⟨rfl, rfl⟩
  refine SO.v rfl (opv_assign rfl) ?_
  refine SO.nil ?_
  refine S.seq ?_
  refine S.region ?_
  refine SO.v rfl (opv_move rfl) ?_
  refine SO.v rfl (opv_neqN (e := t2) Try.underlying27 rfl) ?_
  refine SO.nil ?_
  rcases bool_or t2.isSome with b4 | b4
  · replace h := cond_t b4 h
    refine S.condT rfl b4 ?_
    refine S.seq ?_
    refine S.region ?_
    refine SO.v rfl (opv_move rfl) ?_
    refine SO.v rfl (opv_assign rfl) ?_
    refine SO.nil ?_
    refine S.to (ρ' := [(6, errV 43 t2)]) ⟨rfl, trivial⟩ ?_
    cases h
    refine S.b2 ?_
    refine S.b2 ?_
    refine S.b2 ?_
    exact S.ret1 Try.func10 rfl rfl (fun w hs hk => hR w _ _ ⟨v0_l, rfl, rfl⟩ hs hk)
  · replace h := cond_f b4 h
    refine S.condF rfl b4 ?_
    refine S.skip ?_
    refine S.seq ?_
    refine S.region ?_
    refine SO.v rfl (opv_move rfl) ?_
    refine SO.v rfl (opv_nilCheck rfl) ?_
    refine SO.v rfl (opv_fieldAddr Try.underlying57 rfl Try.sizeOf45 rfl rfl) ?_
    refine SO.load1 rfl Try.isAgg45 rfl rfl ?_
    refine SO.v rfl (opv_move rfl) ?_
    obtain ⟨x5, hx6, h⟩ := opt_bind h
    refine SO.v rfl (opv_idx Try.underlying45 Try.sizeOf34 hr1 rfl rfl hx6) ?_
    refine SO.v rfl (opv_fieldIdx Try.underlying34 rfl Try.sizeOf3 hr1 hx6 rfl rfl) ?_
    refine SO.b1 ?_
    refine SO.storeI1 (j := 2) (z' := ({ x5 with Mark := 0 } : api_Cell)) Try.sizeOf3 hx6 rfl rfl rfl rfl rfl rfl ?_
    refine SO.rd fun hr7 => ?_
    refine SO.nil ?_
    refine S.to (ρ' := [(6, errV 43 none)]) ⟨rfl, trivial⟩ ?_
    refine S.seq ?_
    refine S.region ?_
    refine SO.v rfl (opv_assign rfl) ?_
    refine SO.nil ?_
    cases h
    refine S.b2 ?_
    refine S.b1 ?_
    refine S.b2 ?_
    exact S.ret1 Try.func10 rfl rfl (fun w hs hk => hR w _ _ ⟨v0_l, rfl, rfl⟩ hs hk)
end Go.Proofs
namespace Go.Proofs
open Go.Sl Go.RowKit
/-! 12 (*padstone/word.Store).Set -/
def word_Store_Set.f (a0 : word_Store) (a1 : Int) (a2 : Int) : Option (((Option Int) × word_Store)) :=
  (word_Store_has.f a0 a1).bind fun t2 => bif !t2 then (some ((some 2), a0)) else ((at_ a0.l a1).bind fun x5 => bif x5.Mark != 0 then (some ((some 12), a0)) else ((at_ a0.l a1).bind fun x8 => some (none, (⟨a0.l.set a1.toNat ({ x8 with Value := a2 } : api_Cell), a0.limit⟩ : word_Store))))
set_option maxHeartbeats 8000000 in
set_option maxRecDepth 100000 in
theorem word_Store_Set.ct (bp0 : Nat) (v0_l : Value) (a0 : word_Store) (a1 : Int) (a2 : Int) (r0 : Option Int) (rp0 : word_Store) (h : word_Store_Set.f a0 a1 a2 = some (r0, rp0)) :
    Ct Try.prog 12 [bp bp0 0, .int .i64 a1, .int .u64 a2] (fun _ => True) [Box bp0 [v0_l, .int .u32 a0.limit], Own 34 ek_api_Cell v0_l a0.l] (fun u H' => ∃ rw0_l, u = errV 43 r0 ∧ H' = [Box bp0 [rw0_l, .int .u32 rp0.limit], Own 34 ek_api_Cell rw0_l rp0.l]) := by
  unfold word_Store_Set.f at h
  refine Ct.intro (n := 32) Try.func12 rfl rfl rfl ?_
  intro R w0 F hF hR
  refine S.b1 ?_
  refine S.rd fun hr1 => ?_
  refine S.seq ?_
  refine S.region ?_
  refine SO.v rfl (opv_assign rfl) ?_
  refine SO.nil ?_
  refine S.seq ?_
  refine S.block ?_
  refine S.seq ?_
  refine S.region ?_
  refine SO.v rfl (opv_move rfl) ?_
  refine SO.v rfl (opv_move rfl) ?_
  obtain ⟨t2, ht3, h⟩ := opt_bind h
  refine SO.b1 ?_
  refine SO.call (pre := [Box _ _, Own _ _ _ _]) rfl Try.call21 rfl rfl rfl (word_Store_has.ct bp0 v0_l _ _ _ ht3) trivial ?_
  rintro _ _ ⟨rfl, rfl⟩
  refine SO.v rfl (opv_not rfl) ?_
  refine SO.v rfl (opv_assign rfl) ?_
  refine SO.nil ?_
  rcases bool_or (!t2) with b4 | b4
  · replace h := cond_t b4 h
    refine S.condT rfl b4 ?_
    refine S.seq ?_
    refine S.region ?_
    refine SO.v rfl (opv_iface Try.underlying43 rfl rfl) ?_
    refine SO.v rfl (opv_assign rfl) ?_
    refine SO.nil ?_
    refine S.to (ρ' := [(6, errV 43 (some 2))]) ⟨rfl, trivial⟩ ?_
    cases h
    refine S.b2 ?_
    refine S.b2 ?_
    refine S.b2 ?_
    exact S.ret1 Try.func12 rfl rfl (fun w hs hk => hR w _ _ ⟨v0_l, rfl, rfl⟩ hs hk)
  · replace h := cond_f b4 h
    refine S.condF rfl b4 ?_
    refine S.seq ?_
    refine S.region ?_
    refine SO.v rfl (opv_move rfl) ?_
    refine SO.v rfl (opv_nilCheck rfl) ?_
    refine SO.v rfl (opv_fieldAddr Try.underlying57 rfl Try.sizeOf45 rfl rfl) ?_
    refine SO.load1 rfl Try.isAgg45 rfl rfl ?_
    refine SO.v rfl (opv_move rfl) ?_
    obtain ⟨x5, hx6, h⟩ := opt_bind h
    refine SO.v rfl (opv_idx Try.underlying45 Try.sizeOf34 hr1 rfl rfl hx6) ?_
    refine SO.v rfl (opv_fieldIdx Try.underlying34 rfl Try.sizeOf3 hr1 hx6 rfl rfl) ?_
    refine SO.loadI1 (j := 2) rfl Try.isAgg3 (Rd.tail (Rd.head hr1)) hx6 rfl rfl rfl rfl ?_
    refine SO.v rfl (opv_neq rfl rfl) ?_
    refine SO.v rfl (opv_assign rfl) ?_
    refine SO.nil ?_
    refine S.to (ρ' := [(0, bp bp0 0), (1, .int .i64 a1), (2, .int .u64 a2), (6, errV 43 none), (13, .bool (x5.Mark != 0))]) ⟨rfl, rfl, rfl, rfl, rfl, trivial⟩ ?_
    rcases bool_or (x5.Mark != 0) with b7 | b7
    · replace h := cond_t b7 h
      refine S.condT rfl b7 ?_
      refine S.seq ?_
      refine S.region ?_
      refine SO.v rfl (opv_iface Try.underlying43 rfl rfl) ?_
      refine SO.v rfl (opv_assign rfl) ?_
      refine SO.nil ?_
      cases h
      refine S.b2 ?_
      refine S.b2 ?_
      refine S.b2 ?_
      exact S.ret1 Try.func12 rfl rfl (fun w hs hk => hR w _ _ ⟨v0_l, rfl, rfl⟩ hs hk)
    · replace h := cond_f b7 h
      refine S.condF rfl b7 ?_
      refine S.skip ?_
      refine S.inBlock ?_
      refine S.seq ?_
      refine S.region ?_
      refine SO.v rfl (opv_move rfl) ?_
      refine SO.v rfl (opv_nilCheck rfl) ?_
      refine SO.v rfl (opv_fieldAddr Try.underlying57 rfl Try.sizeOf45 rfl rfl) ?_
      refine SO.load1 rfl Try.isAgg45 rfl rfl ?_
      refine SO.v rfl (opv_move rfl) ?_
      refine SO.v rfl (opv_move rfl) ?_
      obtain ⟨x8, hx9, h⟩ := opt_bind h
      refine SO.v rfl (opv_idx Try.underlying45 Try.sizeOf34 hr1 rfl rfl hx9) ?_
      refine SO.v rfl (opv_fieldIdx Try.underlying34 rfl Try.sizeOf30 hr1 hx9 rfl rfl) ?_
      refine SO.b1 ?_
      refine SO.storeI1 (j := 0) (z' := ({ x8 with Value := a2 } : api_Cell)) Try.sizeOf30 hx9 rfl rfl rfl rfl rfl rfl ?_
      refine SO.rd fun hr10 => ?_
      refine SO.nil ?_
      refine S.to (ρ' := [(6, errV 43 none)]) ⟨rfl, trivial⟩ ?_
      refine S.seq ?_
      refine S.region ?_
      refine SO.v rfl (opv_assign rfl) ?_
      refine SO.nil ?_
      cases h
      refine S.b2 ?_
      refine S.b1 ?_
      refine S.b2 ?_
      exact S.ret1 Try.func12 rfl rfl (fun w hs hk => hR w _ _ ⟨v0_l, rfl, rfl⟩ hs hk)
end Go.Proofs
namespace Go.Proofs
open Go.Sl Go.RowKit
/-! 18 (*padstone/word.Store).Values -/
def word_Store_Values.l1 (a0 : word_Store) : Nat → (Int × (List Int)) → Option ((List Int))
  | 0, _ => none
  | k + 1, (x11_1, x3_1) => bif decide (x11_1 < (a0.l.length : Int)) then ((at_ a0.l x11_1).bind fun x4 => (app x3_1 ([x4.Value])).bind fun zs9 => word_Store_Values.l1 a0 k (w64 (x11_1 + 1), zs9)) else (some x3_1)
def word_Store_Values.f (k : Nat) (a0 : word_Store) : Option ((List Int)) :=
  (word_Store_Values.l1 a0 k (0, [])).bind fun j3_e1 => some j3_e1
set_option maxHeartbeats 8000000 in
set_option maxRecDepth 100000 in
theorem word_Store_Values.ct (k : Nat) (bp0 : Nat) (v0_l : Value) (a0 : word_Store) (r0 : List Int) (h : word_Store_Values.f k a0 = some r0) :
    Ct Try.prog 18 [bp bp0 0] (fun _ => True) [Box bp0 [v0_l, .int .u32 a0.limit], Own 34 ek_api_Cell v0_l a0.l] (fun u H' => ∃ v_r0, u = v_r0 ∧ H' = [Own 30 (ekI .u64) v_r0 r0, Box bp0 [v0_l, .int .u32 a0.limit], Own 34 ek_api_Cell v0_l a0.l]) := by
  unfold word_Store_Values.f at h
  refine Ct.intro (n := 22) Try.func18 rfl rfl rfl ?_
  intro R w0 F hF hR
  refine S.b1 ?_
  refine S.rd fun hr1 => ?_
  refine S.seq ?_
  refine S.region ?_
  refine SO.v rfl (opv_assign rfl) ?_
  refine SO.nil ?_
  refine S.seq ?_
  refine S.region ?_
  refine SO.v rfl (opv_assign rfl) ?_
  refine SO.nil ?_
  refine S.seq ?_
  refine S.seq ?_
  refine S.region ?_
  refine SO.v rfl (opv_move rfl) ?_
  refine SO.v rfl (opv_nilCheck rfl) ?_
  refine SO.v rfl (opv_fieldAddr Try.underlying57 rfl Try.sizeOf45 rfl rfl) ?_
  refine SO.b1 ?_
  refine SO.load1 rfl Try.isAgg45 rfl rfl ?_
  refine SO.v rfl (opv_lenR rfl Try.underlying45 hr1 rfl) ?_
  refine SO.v rfl (opv_move rfl) ?_
  refine SO.nil ?_
  obtain ⟨j3_e1, hl1, h⟩ := opt_bind h
  refine S.newOwn 30 (ekI .u64) ?_
  refine S.b3 ?_
  refine S.b3 ?_
  refine S.b3 ?_
  refine S.b3 ?_
  refine S.to (ρ' := [(11, .int .i64 0), (10, .int .i64 (a0.l.length : Int)), (9, v0_l), (3, .slice none 0 0), (2, .slice none 0 0)]) ⟨rfl, rfl, rfl, rfl, rfl, trivial⟩ ?_
  refine S.forloop (X := (Int × (List Int)) × Value) (O := (List Int)) (fun m x => word_Store_Values.l1 a0 m x.1) (fun x => match x with | ((x11_1, x3_1), v3_1) => [(11, .int .i64 x11_1), (10, .int .i64 (a0.l.length : Int)), (9, v0_l), (3, v3_1), (2, .slice none 0 0)]) (fun x => match x with | ((x11_1, x3_1), v3_1) => [Own 30 (ekI .u64) v3_1 x3_1, Box bp0 [v0_l, .int .u32 a0.limit], Own 34 ek_api_Cell v0_l a0.l, F]) (fun Sk => (fun j3_e1 => ∀ v3_e1 : Value, Sk [(2, .slice none 0 0), (3, v3_e1)] [Own 30 (ekI .u64) v3_e1 j3_e1, Box bp0 [v0_l, .int .u32 a0.limit], Own 34 ek_api_Cell v0_l a0.l, F])) (fun _ => rfl) ?_ (m := k) (x := ((0, []), .slice none 0 0)) hl1 ?_
  · clear h hl1
    intro k x o_1 h hK1 ih1
    obtain ⟨⟨x11_1, x3_1⟩, v3_1⟩ := x
    replace h : word_Store_Values.l1 a0 (k + 1) (x11_1, x3_1) = some o_1 := h
    first | rw [word_Store_Values.l1] at h | unfold word_Store_Values.l1 at h
    refine S.rd fun hr2 => ?_
    refine S.seq ?_
    refine S.region ?_
    refine SO.v rfl (opv_lss rfl rfl) ?_
    refine SO.nil ?_
    refine S.seq ?_
    rcases bool_or (decide (x11_1 < (a0.l.length : Int))) with b3 | b3
    · replace h := cond_t b3 h
      refine S.condT rfl b3 ?_
      refine S.skip ?_
      refine S.seq ?_
      refine S.block ?_
      refine S.seq ?_
      refine S.region ?_
      obtain ⟨x4, hx5, h⟩ := opt_bind h
      refine SO.v rfl (opv_idx Try.underlying45 Try.sizeOf34 hr1 rfl rfl hx5) ?_
      refine SO.loadIN rfl Try.isAgg34 Try.sizeOf34 (Rd.tail (Rd.tail (Rd.head hr1))) hx5 rfl rfl rfl ?_
      refine SO.alloc rfl Try.zeroValue34 rfl (fun b6 => ?_)
      refine SO.storeN Try.sizeOf34 rfl rfl rfl rfl rfl rfl ?_
      refine SO.nil ?_
      refine S.region ?_
      refine SO.v rfl (opv_move rfl) ?_
      refine SO.v rfl (opv_fieldAddr Try.underlying34 rfl Try.sizeOf30 rfl rfl) ?_
      refine SO.load1 rfl Try.isAgg30 rfl rfl ?_
      refine SO.buildSlice (K := ekI .u64) (xs := [x4.Value]) (cs := [.int .u64 x4.Value]) rfl Try.underlying52 Try.sizeOf30 Try.zeroValue30 rfl rfl rfl (by kernel_rfl) rfl rfl rfl (fun v7 hr8 => ?_)
      obtain ⟨zs9, hz10, h⟩ := opt_bind h
      refine SO.b2 ?_
      refine SO.append rfl Try.underlying52 Try.underlying52 inf30 rfl rfl rfl (by decide) rfl rfl rfl (Rd.head hr8) hz10 (fun v11 => ?_)
      refine SO.rd fun hr12 => ?_
      refine SO.v rfl (opv_assign rfl) ?_
      refine SO.nil ?_
      refine S.to (ρ' := [(11, .int .i64 x11_1), (10, .int .i64 (a0.l.length : Int)), (9, v0_l), (3, v11), (2, .slice none 0 0)]) ⟨rfl, rfl, rfl, rfl, rfl, trivial⟩ ?_
      refine S.inBlock ?_
      refine S.region ?_
      refine SO.v rfl (opv_add rfl rfl) ?_
      refine SO.v rfl (opv_move rfl) ?_
      refine SO.nil ?_
      refine S.b1 ?_
      refine S.drop ?_
      refine S.b1 ?_
      refine S.drop ?_
      refine S.b3 ?_
      refine S.b3 ?_
      refine S.b3 ?_
      refine S.b3 ?_
      refine S.to ?_ (ih1 ((w64 (x11_1 + 1), zs9), v11) h)
      exact ⟨rfl, rfl, rfl, rfl, rfl, trivial⟩
    · replace h := cond_f b3 h
      refine S.condF rfl b3 ?_
      refine S.exit rfl ?_
      cases h
      refine S.b3 ?_
      refine S.b3 ?_
      refine S.b3 ?_
      refine S.b3 ?_
      refine S.to ?_ (hK1 v3_1)
      exact ⟨rfl, rfl, trivial⟩
  rintro v3_e1
  refine S.rd fun hr13 => ?_
  refine S.seq ?_
  refine S.region ?_
  refine SO.v rfl (opv_move rfl) ?_
  refine SO.v rfl (opv_assign rfl) ?_
  refine SO.nil ?_
  cases h
  refine S.b3 ?_
  refine S.b3 ?_
  refine S.b3 ?_
  refine S.b3 ?_
  exact S.ret1 Try.func18 rfl rfl (fun w hs hk => hR w _ _ ⟨v3_e1, rfl, rfl⟩ hs hk)
end Go.Proofs
